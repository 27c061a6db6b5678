/- The dual of a type, as a tree: ref11.Dual; it stands at the dual reference. The law: fitting is subtyping of the dual. -/
import Derived.Test.YtijamnklmohjfaaDoorWk124
import Derived.Test.YtijamnklmohjfaaDoorWk87
set_option linter.all false
namespace Go.Proofs.YtijamnklmohjfaaDoor.Tx
open Go.Lf Go.Lf.S Go.Lf.Duo
set_option maxRecDepth 100000

/-- a type and its dual; payloads are closed -/
inductive Du : Ty → Ty → Prop
  | mk (t t' : Ty) (hk : t'.kind = dk t.kind) (hp : t'.prio = t.prio) (hn : t'.name = t.name) (hs : t'.shift = t.shift) (hl : t'.labels = t.labels) (hkl : t'.kids.length = t.kids.length)
      (h0 : ∀ k k', t.kids[0]? = some k → t'.kids[0]? = some k' → (t.kind = 4 ∨ t.kind = 5) → Clo k ∧ k' = k)
      (h : ∀ (j : Nat) k k', t.kids[j]? = some k → t'.kids[j]? = some k' → ¬ (j = 0 ∧ (t.kind = 4 ∨ t.kind = 5)) → Du k k') : Du t t'

theorem dk_8 (k : Int) : (dk k = 8 ↔ k = 8) ∧ (dk k = 9 ↔ k = 9) ∧ (4 ≤ dk k ∧ dk k ≤ 7 ↔ 4 ≤ k ∧ k ≤ 7) := by
  unfold dk; refine ⟨?_, ?_, ?_⟩ <;> (split <;> (try split) <;> (try split) <;> (try split) <;> omega)
theorem if_iff {p q : Prop} [Decidable p] [Decidable q] (h : p ↔ q) (a b : Int) : (if p then a else b) = if q then a else b := by
  by_cases hp : p
  · rw [if_pos hp, if_pos (h.1 hp)]
  · rw [if_neg hp, if_neg fun hq => hp (h.2 hq)]

theorem Du.raise (σ : Int) : ∀ {t t' : Ty}, Du t t' → Du (raiseT σ t) (raiseT σ t') := by
  intro t
  induction t using Ty.ind with
  | _ t ih =>
  intro t' hd
  cases hd with
  | mk _ _ hk hp hn hs hl hkl h0 h =>
  obtain ⟨kd, p, nm, s, ls, ks⟩ := t
  obtain ⟨kd', p', nm', s', ls', ks'⟩ := t'
  simp only [Ty.kind, Ty.prio, Ty.name, Ty.shift, Ty.labels, Ty.kids] at *
  subst hk hp hn hs hl
  rw [raiseT_mk, raiseT_mk, if_iff (dk_8 kd).2.2]
  refine .mk _ _ rfl rfl rfl rfl rfl (by simpa [Ty.kids] using hkl) (fun k k' e1 e2 e3 => ?_) fun j k k' e1 e2 e3 => ?_
  · simp only [Ty.kids, List.getElem?_map, Option.map_eq_some_iff] at e1 e2
    obtain ⟨a, ha, rfl⟩ := e1
    obtain ⟨b, hb, rfl⟩ := e2
    obtain ⟨g1, rfl⟩ := h0 a b ha hb e3
    exact ⟨g1.raise, rfl⟩
  · simp only [Ty.kids, List.getElem?_map, Option.map_eq_some_iff] at e1 e2
    obtain ⟨a, ha, rfl⟩ := e1
    obtain ⟨b, hb, rfl⟩ := e2
    exact ih a (List.mem_of_getElem? ha) (h j a b ha hb e3)

theorem Du.put {x : ByteArray} {b b' : Ty} (hb : Du b b') : ∀ {t t' : Ty}, Du t t' → Du (putT x b t) (putT x b' t') := by
  intro t
  induction t using Ty.ind with
  | _ t ih =>
  intro t' hd
  have hr := hd.raise 0
  cases hd with
  | mk _ _ hk hp hn hs hl hkl h0 h =>
  obtain ⟨kd, p, nm, s, ls, ks⟩ := t
  obtain ⟨kd', p', nm', s', ls', ks'⟩ := t'
  simp only [Ty.kind, Ty.prio, Ty.name, Ty.shift, Ty.labels, Ty.kids] at *
  subst hk hp hn hs hl
  obtain ⟨d8, d9, d47⟩ := dk_8 kd
  unfold putT
  by_cases c9 : kd = 9 ∧ nm' = x
  · have c9' : dk kd = 9 ∧ nm' = x := ⟨d9.2 c9.1, c9.2⟩
    rw [if_pos c9, if_pos c9']
    exact hb.raise s'
  · have c9' : ¬ (dk kd = 9 ∧ nm' = x) := fun hc => c9 ⟨d9.1 hc.1, hc.2⟩
    rw [if_neg c9, if_neg c9']
    by_cases c8 : kd = 8 ∧ nm' = x
    · have c8' : dk kd = 8 ∧ nm' = x := ⟨d8.2 c8.1, c8.2⟩
      rw [if_pos c8, if_pos c8']
      exact hr
    · have c8' : ¬ (dk kd = 8 ∧ nm' = x) := fun hc => c8 ⟨d8.1 hc.1, hc.2⟩
      rw [if_neg c8, if_neg c8', putTs_eq, putTs_eq, if_iff d47]
      refine .mk _ _ rfl rfl rfl rfl rfl (by simpa [Ty.kids] using hkl) (fun k k' e1 e2 e3 => ?_) fun j k k' e1 e2 e3 => ?_
      · simp only [Ty.kids, List.getElem?_map, Option.map_eq_some_iff] at e1 e2
        obtain ⟨a, ha, rfl⟩ := e1
        obtain ⟨c, hc, rfl⟩ := e2
        obtain ⟨g1, rfl⟩ := h0 a c ha hc e3
        rw [put_nf (g1 x), put_nf (g1 x)]
        exact ⟨g1.raise, rfl⟩
      · simp only [Ty.kids, List.getElem?_map, Option.map_eq_some_iff] at e1 e2
        obtain ⟨a, ha, rfl⟩ := e1
        obtain ⟨c, hc, rfl⟩ := e2
        exact ih a (List.mem_of_getElem? ha) (h j a c ha hc e3)

theorem Du.unf {t u : Ty} (hu : Unf t u) : ∀ {t' : Ty}, Du t t' → ∃ u', Unf t' u' ∧ Du u u' := by
  induction hu with
  | done t h =>
    intro t' hd
    refine ⟨_, .done t' ?_, hd.raise 0⟩
    cases hd with
    | mk _ _ hk => rw [hk]; exact fun e => h ((dk_8 _).1.1 e)
  | step t k u r h8 hk hu ih =>
    intro t' hd
    have hd0 := hd
    cases hd with
    | mk _ _ hk' hp hn hs hl hkl h0 h =>
    have e8 : t'.kind = 8 := by rw [hk']; exact (dk_8 _).1.2 h8
    obtain ⟨k', r', hk2⟩ : ∃ k' r', t'.kids = k' :: r' := by
      cases e : t'.kids with
      | nil => rw [e, hk] at hkl; simp at hkl
      | cons a b => exact ⟨a, b, rfl⟩
    have hkk : Du k k' := h 0 k k' (by rw [hk]; rfl) (by rw [hk2]; rfl) (by omega)
    have := Du.put (x := t.name) hd0 hkk
    obtain ⟨u', h1, h2⟩ := ih this
    refine ⟨u', .step t' k' u' r' e8 hk2 ?_, h2⟩
    rw [hn]; exact h1

theorem Du.wf : ∀ {t t' : Ty} {ns : List ByteArray} {g : Nat}, Du t t' → Wf t ns g → Wf t' ns g := by
  intro t
  induction t using Ty.ind with
  | _ t ih =>
  intro t' ns g hd hw
  cases hd with
  | mk _ _ hk hp hn hs hl hkl h0 h =>
  cases hw with
  | mk _ _ _ h1 h9 h8 hkk =>
  obtain ⟨d8, d9, d47⟩ := dk_8 t.kind
  obtain ⟨d6, d7, d4, d5⟩ := dk_67 t.kind
  have hd3 : (t.kind ≤ 3 → dk t.kind = t.kind) ∧ (1 ≤ t.kind ∧ t.kind ≤ 9 → 1 ≤ dk t.kind ∧ dk t.kind ≤ 9) ∧ (dk t.kind ≤ 3 → t.kind ≤ 3) := by
    unfold dk; refine ⟨?_, ?_, ?_⟩ <;> (split <;> (try split) <;> (try split) <;> (try split) <;> omega)
  have kid : ∀ x' ∈ t'.kids, ∃ x ∈ t.kids, Du x x' ∨ x' = x := fun x' hx => by
    obtain ⟨j, hj⟩ := List.getElem?_of_mem hx
    have hjl := (List.getElem?_eq_some_iff.1 hj).1
    have hx0 : t.kids[j]? = some (t.kids[j]'(by omega)) := List.getElem?_eq_getElem (by omega)
    refine ⟨_, List.mem_of_getElem? hx0, ?_⟩
    by_cases hc : j = 0 ∧ (t.kind = 4 ∨ t.kind = 5)
    · obtain ⟨rfl, hc⟩ := hc
      exact .inr (h0 _ _ hx0 hj hc).2
    · exact .inl (h j _ _ hx0 hj hc)
  refine .mk t' ns g ?_ (fun e => ?_) (fun e k hkm => ?_) fun e k hkm => ?_
  · clear h9 h8 hkk kid h h0 ih
    unfold Wf1 at h1 ⊢
    rw [hl, hp, hs, hk, hkl]
    refine ⟨?_, h1.2⟩
    have h1 := h1.1
    refine ⟨hd3.2.1 h1.1, h1.2.1, fun e => h1.2.2.1 (hd3.2.2 e), fun e => h1.2.2.2.1 ?_, fun e => h1.2.2.2.2.1 ?_, fun e => h1.2.2.2.2.2.1 (d8.1 e), fun e => h1.2.2.2.2.2.2 (d9.1 e)⟩
    · clear h1; omega
    · clear h1; omega
  · rw [hk] at e; rw [hn]; exact h9 (d9.1 e)
  · rw [hk] at e
    obtain ⟨x, hx, hd⟩ := kid k hkm
    have := h8 (d8.1 e) x hx
    rw [hn]
    rcases hd with hd | rfl
    · exact ih x hx hd this
    · exact this
  · rw [hk] at e
    obtain ⟨x, hx, hd⟩ := kid k hkm
    have := hkk (fun e' => e (d8.2 e')) x hx
    rcases hd with hd | rfl
    · exact ih x hx hd this
    · exact this

theorem szs_eq : ∀ {l m : List Ty}, l.length = m.length → (∀ (j : Nat) a b, l[j]? = some a → m[j]? = some b → a.sz = b.sz) → Ty.szs l = Ty.szs m
  | [], [], _, _ => rfl
  | a :: l, b :: m, h, hh => by
    have h1 := hh 0 a b rfl rfl
    have h2 := szs_eq (l := l) (m := m) (by simpa using h) fun j x y hx hy => hh (j + 1) x y (by simpa using hx) (by simpa using hy)
    simp only [Ty.szs]; omega
  | [], _ :: _, h, _ => by simp at h
  | _ :: _, [], h, _ => by simp at h
theorem Du.sz : ∀ {t t' : Ty}, Du t t' → t'.sz = t.sz := by
  intro t
  induction t using Ty.ind with
  | _ t ih =>
  intro t' hd
  cases hd with
  | mk _ _ hk hp hn hs hl hkl h0 h =>
  obtain ⟨kd, p, nm, s, ls, ks⟩ := t
  obtain ⟨kd', p', nm', s', ls', ks'⟩ := t'
  simp only [Ty.kind, Ty.prio, Ty.name, Ty.shift, Ty.labels, Ty.kids] at *
  simp only [Ty.sz]
  rw [szs_eq (l := ks') (m := ks) hkl fun j a b ha hb => ?_]
  by_cases hc : j = 0 ∧ (kd = 4 ∨ kd = 5)
  · obtain ⟨rfl, hc⟩ := hc
    rw [(h0 b a hb ha hc).2]
  · exact ih b (List.mem_of_getElem? hb) (h j b a hb ha hc)

/-! at the dual reference -/
theorem rt_lo {ds : List Nd} {r : Rf} {T : Ty} (h : RT ds r T) : RT (closeD ds) r T := by
  refine ⟨RT ds, h, fun r T h => ?_⟩
  obtain ⟨h0, u, d, h1, h2, h3⟩ := h.step
  refine ⟨h0, u, d, h1, ?_, h3⟩
  have hl := (List.getElem?_eq_some_iff.1 h2).1
  unfold closeD
  rw [List.getElem?_append_left hl]; exact h2
theorem rt_dual {ds : List Nd} (hg : GrOk' ds) {a s : Int} {T T' : Ty} (h : RT ds ⟨a, s⟩ T) (hd : Du T T') : RT (closeD ds) ⟨a + ds.length, s⟩ T' := by
  refine ⟨fun r T' => RT (closeD ds) r T' ∨ ∃ a s T, r = ⟨a + ds.length, s⟩ ∧ RT ds ⟨a, s⟩ T ∧ Du T T', .inr ⟨a, s, T, rfl, h, hd⟩, ?_⟩
  rintro r T' (h | ⟨a, s, T, rfl, h, hd⟩)
  · exact h.step.mono fun _ _ h => .inl h
  obtain ⟨h0, u, d, h1, h2, h3, h4, h5, h6, h7⟩ := h.step
  have h0 : 0 ≤ a := h0
  have h2 : ds[a.toNat]? = some d := h2
  obtain ⟨hl, rfl⟩ := List.getElem?_eq_some_iff.1 h2
  obtain ⟨u', h1', hdu⟩ := Du.unf h1 hd
  have hno := hg.2 _ (List.getElem_mem hl)
  cases hdu with
  | mk _ _ ek ep en es el ekl e0 eh =>
  refine ⟨by show 0 ≤ a + (ds.length : Int); omega, u', dualN ds.length ds[a.toNat], h1', ?_, ?_, fun ha => ?_, ?_, ?_, fun j v k hv hk => ?_⟩
  · show (closeD ds)[(a + (ds.length : Int)).toNat]? = _
    rw [show (a + (ds.length : Int)).toNat = a.toNat + ds.length by omega]
    exact closeD_hi hl
  · show dk _ = _
    rw [h3, ek]
  · show ad ds[a.toNat].prio s = _
    rw [ep]
    refine h4 ?_
    have ha : act (dk ds[a.toNat].kind) = true := ha
    rwa [act_dk] at ha
  · rw [el]; exact h5
  · show (List.mapIdx _ _).length = _
    rw [List.length_mapIdx, ekl]; exact h6
  · simp only [dualN, List.getElem?_mapIdx, Option.map_eq_some_iff] at hv
    obtain ⟨w, hw, rfl⟩ := hv
    have hjl := (List.getElem?_eq_some_iff.1 hk).1
    have hku : u.kids[j]? = some (u.kids[j]'(by omega)) := List.getElem?_eq_getElem (by omega)
    have hR := h7 j w _ hw hku
    unfold dualR
    by_cases hc : j = 0 ∧ (u.kind = 4 ∨ u.kind = 5)
    · obtain ⟨rfl, hc⟩ := hc
      have := (e0 _ _ hku hk hc).2
      have hr : restB ds[a.toNat].kind 0 = false := by
        unfold restB
        simp only [Nat.lt_irrefl, decide_false, Bool.false_or, Bool.or_eq_false_iff, decide_eq_false_iff_not]
        omega
      rw [hr, if_neg (by simp), this]
      exact .inl (rt_lo hR)
    · have hr : restB ds[a.toNat].kind j = true := by
        have hwl := (List.getElem?_eq_some_iff.1 hw).1
        have g1 := hno.k1
        have g3 := hno.n3
        unfold restB
        simp only [Bool.or_eq_true, decide_eq_true_eq]
        omega
      rw [hr, if_pos rfl]
      exact .inr ⟨w.node, ad w.shift s, _, rfl, hR, eh j _ _ hku hk hc⟩

/-! the text of Dual -/
theorem wf_clo {k : Ty} (h : Wf k [] 0) : Clo k ∧ raiseT 0 k = k := by
  constructor
  · intro x
    have := nf_sub (x := x) (δ := noE) h (fun y T hy => by cases hy) (fun hx => by cases hx)
    rwa [sub_id] at this
  · have := raise0_sub (δ := noE) h
    rwa [sub_id] at this

def DuC (kd : Int) (q : Nat) (k k' : Ty) : Prop := (q = 0 ∧ (kd = 4 ∨ kd = 5) → Clo k ∧ k' = k) ∧ (¬ (q = 0 ∧ (kd = 4 ∨ kd = 5)) → Du k k')
structure DuS (kd : Int) (ks : List Ty) (j : Nat) (ok : Bool) (cur : List Ty) : Prop where
  len : cur.length = ks.length
  rest : ∀ q, j ≤ q → cur[q]? = (ks.map (raiseT 0))[q]?
  done : ok = true → ∀ (q : Nat) k k', q < j → ks[q]? = some k → cur[q]? = some k' → DuC kd q k k'
theorem DuS.keep {kd : Int} {ks : List Ty} {j : Nat} {ok : Bool} {cur : List Ty} (h : DuS kd ks j ok cur) (hj : j < ks.length) (b : Bool) (hb : b = true → ok = true ∧ DuC kd j ks[j] (raiseT 0 ks[j])) : DuS kd ks (j + 1) b cur := by
  refine ⟨h.len, fun q hq => h.rest q (by omega), fun e q k k' hq hk hk' => ?_⟩
  obtain ⟨h1, h2⟩ := hb e
  by_cases c : q = j
  · subst c
    rw [h.rest q (Nat.le_refl _), List.getElem?_map, hk] at hk'
    cases hk'
    rw [List.getElem?_eq_getElem hj] at hk
    cases hk
    exact h2
  · exact h.done h1 q k k' (by omega) hk hk'
theorem DuS.set {kd : Int} {ks : List Ty} {j : Nat} {ok : Bool} {cur : List Ty} (h : DuS kd ks j ok cur) (hj : j < ks.length) (b : Bool) (t : Ty) (hb : b = true → ok = true ∧ DuC kd j ks[j] t) : DuS kd ks (j + 1) b (cur.set j t) := by
  refine ⟨by simpa using h.len, fun q hq => by rw [List.getElem?_set_ne (by omega)]; exact h.rest q (by omega), fun e q k k' hq hk hk' => ?_⟩
  obtain ⟨h1, h2⟩ := hb e
  by_cases c : q = j
  · subst c
    rw [List.getElem?_set_self (by rw [h.len]; exact hj)] at hk'
    cases hk'
    rw [List.getElem?_eq_getElem hj] at hk
    cases hk
    exact h2
  · rw [List.getElem?_set_ne (by omega)] at hk'
    exact h.done h1 q k k' (by omega) hk hk'

theorem ok_ref11_Dual : ∀ (t : Ty) (ns : List ByteArray) (g : Nat), Wf t ns g → Lim t → t.sz ≤ 549755813888 → ∃ t' b, Ok P F.ref11_Dual [t.enc] (.tup [t'.enc, .bool b]) ∧ (b = true → Du t t') := by
  intro t
  induction t using Ty.ind with
  | _ t ih =>
  intro ns g hw hlim hz
  have hLn := Wf.ln t ns g hw hz
  have hR := ok_ref02_RaiseS t 0 hLn
  obtain ⟨kd, p, nm, s, ls, ks⟩ := t
  have hksl : ks.length ≤ 549755813888 := by cases hLn with | mk _ _ h _ => exact h
  have hkl : ∀ k ∈ ks, Lim k := by cases hlim with | mk _ _ _ _ _ h => exact h
  have hkz : ∀ k ∈ ks, k.sz ≤ 549755813888 := fun k hk => by have := Ty.sz_kid (t := .mk kd p nm s ls ks) (k := k) hk; omega
  have hkw : ∀ k ∈ ks, ∃ ns g, Wf k ns g := fun k hk => by
    cases hw with
    | mk _ _ _ _ _ h8 hh =>
    by_cases e : kd = 8
    · exact ⟨_, _, h8 e k hk⟩
    · exact ⟨_, _, hh e k hk⟩
  have hp0 : ad p 0 = p := by
    cases hw with
    | mk _ _ _ h1 _ _ _ =>
    unfold Wf1 at h1
    exact ad_0 h1.1.2.1.1 h1.1.2.1.2.1
  have ih : ∀ k ∈ ks, ∃ t' b, Ok P F.ref11_Dual [k.enc] (.tup [t'.enc, .bool b]) ∧ (b = true → Du k t') := fun k hk => by
    obtain ⟨ns, g, h⟩ := hkw k hk
    exact ih k hk ns g h (hkl k hk) (hkz k hk)
  have hRt : ∀ k ∈ ks, ∃ e : Int, Ok P F.ref02_Right [k.enc] (i e) ∧ (e = 0 → Clo k ∧ raiseT 0 k = k) := fun k hk => by
    obtain ⟨e, h1, h2⟩ := ok_ref02_Right k (hkl k hk) (hkz k hk)
    exact ⟨e, h1, fun h => wf_clo (h2 h)⟩
  have hrt : raiseT 0 (.mk kd p nm s ls ks) = .mk kd p nm s ls (ks.map (raiseT 0)) := by
    rw [raiseT_mk, hp0, ite_self]
  rw [hrt, Ty.enc_mk] at hR
  have := tx_ex (K := fun x => ∃ t' b, x = .tup [t'.enc, .bool b] ∧ (b = true → Du (.mk kd p nm s ls ks) t')) k_ref11_Dual (xs := [(Ty.mk kd p nm s ls ks).enc]) rfl (by simp [t_ref11_Dual, T.dt]) (by
    rw [Ty.enc_mk]
    refine d_l (.agg [i kd, i p, .str nm, i s, .sl (ls.map .str), .sl (ks.map Ty.enc)]) rfl fun _ => d_calls rfl hR (d_call (ok_ref09_Kind kd) (d_l (i (dk kd)) rfl fun _ => ?_))
    refine den_loop (fun m' ys => ∃ (j : Nat) (ok : Bool) (cur : List Ty), j + m' = ks.length ∧ DuS kd ks j ok cur ∧ ys = [i j, .bool ok, .sl (cur.map Ty.enc)]) ks.length ⟨0, true, ks.map (raiseT 0), by omega, ⟨by simp, fun _ _ => rfl, fun _ q k k' h => by omega⟩, rfl⟩ ?_
    rintro m' _ ⟨j, ok, cur, hj, hS, rfl⟩
    refine d_l _ (len_ty ks) fun _ => d_l (.bool (decide ((j : Int) < (ks.length : Int)))) rfl fun _ => d_dec (p := (j : Int) < (ks.length : Int)) (fun h => ?_) fun h => ?_
    · have hjl : j < ks.length := by omega
      have hjc : j < cur.length := by rw [hS.len]; exact hjl
      have hmem := List.getElem_mem hjl
      have hkx := e_idx (n := 6) (a := true) (ty_at' hjl) (Ty.okc_enc _)
      have hcx := e_idx (n := 6) (a := true) (ty_at' hjc) (Ty.okc_enc _)
      obtain ⟨t'', b'', hD, hDu⟩ := ih _ hmem
      obtain ⟨e, hRr, hRe⟩ := hRt _ hmem
      have hu : (Prim.upd 6 true).ev [.sl (cur.map Ty.enc), i (j : Int), t''.enc] = some (.sl ((cur.set j t'').map Ty.enc)) := by rw [e_updT (by simpa using hjc) (Ty.okc_enc _), List.map_set]
      refine d_l (.bool (decide ((j : Int) = 0))) rfl fun _ => d_dec (p := (j : Int) = 0) (fun e0 => ?_) fun e0 => ?_
      · have hk0 : (Prim.idx 6 true).ev [.sl (ks.map Ty.enc), i 0] = some ks[j].enc := by rw [← e0]; exact hkx
        have pay : (kd = 4 ∨ kd = 5) → decide (e = 0) = true → DuC kd j ks[j] (raiseT 0 ks[j]) := fun hc he => ⟨fun _ => hRe (of_decide_eq_true he), fun hn => absurd ⟨by omega, hc⟩ hn⟩
        refine d_l (.bool (decide (kd = 4))) rfl fun _ => d_dec (p := kd = 4) (fun e4 => ?_) fun e4 => ?_
        · exact d_ite (fun hok => d_l _ hk0 fun _ => d_call hRr (d_l (.bool (decide (e = 0))) rfl fun _ => d_l _ (e_inc (by omega)) fun _ => d_cont rfl ⟨m' - 1, by omega, j + 1, _, cur, by omega, hS.keep hjl _ (fun h => ⟨hok, pay (.inl e4) h⟩), rfl⟩)) fun hok => d_l _ (e_inc (by omega)) fun _ => d_cont rfl ⟨m' - 1, by omega, j + 1, _, cur, by omega, hS.keep hjl false (fun h => by cases h), rfl⟩
        · refine d_l (.bool (decide (kd = 5))) rfl fun _ => d_dec (p := kd = 5) (fun e5 => ?_) fun e5 => ?_
          · exact d_ite (fun hok => d_l _ hk0 fun _ => d_call hRr (d_l (.bool (decide (e = 0))) rfl fun _ => d_l _ (e_inc (by omega)) fun _ => d_cont rfl ⟨m' - 1, by omega, j + 1, _, cur, by omega, hS.keep hjl _ (fun h => ⟨hok, pay (.inr e5) h⟩), rfl⟩)) fun hok => d_l _ (e_inc (by omega)) fun _ => d_cont rfl ⟨m' - 1, by omega, j + 1, _, cur, by omega, hS.keep hjl false (fun h => by cases h), rfl⟩
          · have hc : ¬ (j = 0 ∧ (kd = 4 ∨ kd = 5)) := fun hc => by omega
            exact d_l _ hkx fun _ => d_call hD (d_l t''.enc rfl fun _ => d_l (.bool b'') rfl fun _ => d_l _ (e_okc (Ty.okc_enc t'')) fun _ => d_l _ hcx fun _ => d_l _ hu fun _ => d_ite (fun hok => d_l _ (e_inc (by omega)) fun _ => d_cont rfl ⟨m' - 1, by omega, j + 1, b'', cur.set j t'', by omega, hS.set hjl b'' t'' (fun h => ⟨hok, fun h' => absurd h' hc, fun _ => hDu h⟩), rfl⟩) fun hok => d_l _ (e_inc (by omega)) fun _ => d_cont rfl ⟨m' - 1, by omega, j + 1, false, cur.set j t'', by omega, hS.set hjl false t'' (fun h => by cases h), rfl⟩)
      · have hc : ¬ (j = 0 ∧ (kd = 4 ∨ kd = 5)) := fun hc => by omega
        exact d_l _ hkx fun _ => d_call hD (d_l t''.enc rfl fun _ => d_l (.bool b'') rfl fun _ => d_l _ (e_okc (Ty.okc_enc t'')) fun _ => d_l _ hcx fun _ => d_l _ hu fun _ => d_ite (fun hok => d_l _ (e_inc (by omega)) fun _ => d_cont rfl ⟨m' - 1, by omega, j + 1, b'', cur.set j t'', by omega, hS.set hjl b'' t'' (fun h => ⟨hok, fun h' => absurd h' hc, fun _ => hDu h⟩), rfl⟩) fun hok => d_l _ (e_inc (by omega)) fun _ => d_cont rfl ⟨m' - 1, by omega, j + 1, false, cur.set j t'', by omega, hS.set hjl false t'' (fun h => by cases h), rfl⟩)
    · refine d_ret ⟨.mk (dk kd) p nm s ls cur, ok, by rw [Ty.enc_mk]; rfl, fun hok => .mk _ _ rfl rfl rfl rfl rfl hS.len (fun k k' h1 h2 h3 => ?_) fun q k k' h1 h2 h3 => ?_⟩
      · have := (List.getElem?_eq_some_iff.1 h1).1
        have : 0 < ks.length := this
        exact (hS.done hok 0 k k' (by omega) h1 h2).1 ⟨rfl, h3⟩
      · have := (List.getElem?_eq_some_iff.1 h1).1
        have : q < ks.length := this
        exact (hS.done hok q k k' (by omega) h1 h2).2 h3)
  obtain ⟨_, ⟨t', b, rfl, hb⟩, h⟩ := this
  exact ⟨t', b, h, hb⟩

theorem cl_top {L : List Ty} {M : Nat} {t : Ty} (h : Wf t [] 0) (hz : t.sz ≤ M) (hL : ∀ x ∈ occL [] [] t, x ∈ L) : CL L M t := by
  have hp : Pl (nodesF t 0 [] []) 0 (nodesF t 0 [] []) := ⟨Int.le_refl _, fun q hq => by
    show (nodesF t 0 [] [])[(0 : Int).toNat + q]? = _
    rw [show (0 : Int).toNat + q = q by simp]
    exact List.getElem?_eq_getElem hq⟩
  have e : lkT [] [] = noE := by funext y; rfl
  exact ⟨_, _, 0, t, 0, [], [], [], 0, .top t 0 h hp hL (Wf.lm t [] 0 _ h hz), rfl, by rw [raise0_sub h, e, sub_id]⟩

theorem ok_law11_SubtypeFits (aw : Ok P F.law11_awake [] (.bool true)) (a b : Ty) (ha : Lim a) (hb : Lim b) : Ok P F.law11_SubtypeFits [a.enc, b.enc] (.bool true) := by
  obtain ⟨ba, sa, wa⟩ := ok_ref02_Small a ha 20 (by omega) (by omega)
  obtain ⟨bb, sb, wb⟩ := ok_ref02_Small b hb 20 (by omega) (by omega)
  have ea := ok_ref02_Session a
  have eb := ok_ref02_Session b
  refine k_law11_SubtypeFits _ _ rfl (d_l _ (e_okc (Ty.okc_enc a)) fun _ => d_l _ (e_okc (Ty.okc_enc b)) fun _ => d_call aw (d_l (.bool false) rfl fun _ => d_false (d_call sa (d_l (.bool !ba) rfl fun _ => d_ite (fun _ => d_call aw (d_ret rfl)) fun h1 => d_call sb (d_l (.bool !bb) rfl fun _ => d_ite (fun _ => d_call aw (d_ret rfl)) fun h2 => d_call ea (d_l _ rfl fun _ => d_ite (fun _ => d_call aw (d_ret rfl)) fun _ => d_call eb (d_l _ rfl fun _ => d_ite (fun _ => d_call aw (d_ret rfl)) fun _ => ?_)))))))
  obtain ⟨za, wa⟩ := wa (by simpa using h1)
  obtain ⟨zb, wb⟩ := wb (by simpa using h2)
  obtain ⟨d, od, hDc, hDu⟩ := ok_ref11_Dual b [] 0 wb hb (by omega)
  refine d_call hDc (d_l d.enc rfl fun _ => d_l (.bool od) rfl fun _ => d_l _ (e_okc (Ty.okc_enc d)) fun _ => d_l (.bool !od) rfl fun _ => d_ite (fun _ => d_ret rfl) fun h3 => ?_)
  have hDu := hDu (by simpa using h3)
  have wd := hDu.wf wb
  have zd := hDu.sz
  -- the finite set
  have hla := occL_len [] [] a
  have hld := occL_len [] [] d
  obtain ⟨ne, hne⟩ := ne_ex (occL [] [] a ++ occL [] [] d) 20 (by omega)
  have ca : CL (occL [] [] a ++ occL [] [] d) 20 a := cl_top wa (by omega) fun x hx => List.mem_append_left _ hx
  have cd : CL (occL [] [] a ++ occL [] [] d) 20 d := cl_top wd (by omega) fun x hx => List.mem_append_right _ hx
  obtain ⟨q, oq, cq⟩ := ok_ref11_Sub (by omega) (by rw [List.length_append]; omega) hne ca cd
  have hall : ∀ t ∈ [a, b], (t.sz : Int) ≤ (20 : Nat) ∧ Wf t [] 0 := by
    intro t ht
    simp only [List.mem_cons, List.not_mem_nil, or_false] at ht
    rcases ht with rfl | rfl
    · exact ⟨by omega, wa⟩
    · exact ⟨by omega, wb⟩
  obtain ⟨ds, rs, _, hG, hgr, hrl, hrs, hdf, hrf⟩ := built' [a, b] 2 20 (by simp) (by omega) hall
  have hg : GrOk' ds := hgr
  have hdl : ds.length ≤ 80 := by
    have e1 := len_nodes a [] 0 wa 0 [] []
    have e2 : ds = nodesF a 0 [] [] ++ (nodesF b (0 + gc a) [] [] ++ []) := by rw [hdf]; simp only [belowsF]
    have e3 := len_nodes b [] 0 wb (0 + gc a) [] []
    have g1 := gc_le a
    have g2 := gc_le b
    rw [e2]; simp only [List.length_append, List.length_nil, e1, e3]; omega
  have hrl : rs.length = 2 := hrl
  match rs, hrl with
  | [r0, r1], _ =>
  obtain ⟨i0, j0, _⟩ := hrs 0 r0 rfl
  obtain ⟨i1, j1, _⟩ := hrs 1 r1 rfl
  have hln : ∀ x ∈ [a, b], ∀ q, (nodesF x q [] []).length = gc x := fun x hx q => len_nodes x [] 0 (hall x hx).2 q [] []
  have hpl : Pl ds 0 (belowsF [a, b] 0 [] []) := ⟨Int.le_refl _, fun k hk => by
    rw [← hdf] at hk
    simp only [← hdf]
    rw [show (0 : Int).toNat + k = k by simp]
    exact List.getElem?_eq_getElem hk⟩
  have p0 := Pl.kid hpl hln 0 (by simp)
  have p1 := Pl.kid hpl hln 1 (by simp)
  have q0 := nextsF_at (ks := [a, b]) (a := 0) (ns := []) (R := []) 0 (by simp)
  have q1 := nextsF_at (ks := [a, b]) (a := 0) (ns := []) (R := []) 1 (by simp)
  rw [← hrf] at q0 q1
  have q0 : r0 = _ := Option.some.inj q0
  have q1 : r1 = _ := Option.some.inj q1
  obtain ⟨R0, f0⟩ := rt_top (t := a) wa p0
  obtain ⟨R1, f1⟩ := rt_top (t := b) wb p1
  have T0 : RT ds r0 a := by rw [q0]; exact R0
  have T1 : RT ds r1 b := by rw [q1]; exact R1
  clear q0 q1 f0 f1 hrs hrf hdf R0 R1 p0 p1 hpl hln
  obtain ⟨n0, z0⟩ := r0
  obtain ⟨n1, z1⟩ := r1
  obtain ⟨a0, rfl⟩ : ∃ a0 : Nat, n0 = a0 := ⟨n0.toNat, (Int.toNat_of_nonneg i0).symm⟩
  obtain ⟨a1, rfl⟩ : ∃ a1 : Nat, n1 = a1 := ⟨n1.toNat, (Int.toNat_of_nonneg i1).symm⟩
  have j0 : a0 < ds.length := by have j0 : (a0 : Int) < ds.length := j0; omega
  have j1 : a1 < ds.length := by have j1 : (a1 : Int) < ds.length := j1; omega
  have hcl := closeD_len ds
  have hC := ok_dual_Close ds ⟨hg.1, fun d hd => ⟨(hg.2 d hd).len, fun r hr => by have := (hg.2 d hd).node' r hr; have := hg.1; omega⟩⟩
  obtain ⟨b4, o4, c4⟩ := ok_Fits hg (by omega) (r := ⟨a0, z0⟩) (by show (0 : Int) ≤ (a0 : Int); omega) (by show (a0 : Int) < _; omega) a1 j1 false z1
  have hlink := relP_sub hne ca cd (rt_lo T0) (rt_dual hg T1 hDu)
  have e4 : b4 = q := beq5 c4 (cq.trans (hlink.trans (by rfl)))
  subst e4
  have x0 : (Prim.idx 2 true).ev [.sl [(⟨a0, z0⟩ : Rf).enc, (⟨a1, z1⟩ : Rf).enc], i 0] = some (⟨a0, z0⟩ : Rf).enc := rfl
  have x1 : (Prim.idx 2 true).ev [.sl [(⟨a0, z0⟩ : Rf).enc, (⟨a1, z1⟩ : Rf).enc], i 1] = some (⟨a1, z1⟩ : Rf).enc := rfl
  exact d_l (.sl [a.enc, b.enc]) (e_lst (by
    intro x hx
    simp only [List.mem_cons, List.not_mem_nil, or_false] at hx
    rcases hx with rfl | rfl <;> exact Ty.okc_enc _)) fun _ => d_call hG (d_l (.agg [nds ds]) rfl fun _ => d_l (.sl [(⟨a0, z0⟩ : Rf).enc, (⟨a1, z1⟩ : Rf).enc]) rfl fun _ => d_l (.agg [nds ds]) rfl fun _ => d_call hC (d_l _ x0 fun _ => d_l _ x1 fun _ => d_call o4 (d_call oq (d_l _ (bq5 _) fun _ => d_ret rfl))))
end Go.Proofs.YtijamnklmohjfaaDoor.Tx

/- Contracts (Wk121, Wk122, Wk126, Wk127). -/
import Derived.Test.YtopinhoalbgebaaGreatDoorWk120
import Derived.Test.YtopinhoalbgebaaGreatDoorWk30
import Derived.Lib.Strings
set_option linter.all false
/- The reference's subtyping (2): closed types of a finite set, and what a pair needs. -/
namespace Go.Proofs.YtopinhoalbgebaaGreatDoor.Tx
open Go.Lf Go.Lf.S Go.Lf.Duo
set_option maxRecDepth 100000

/-- a closed type of the list's, raised -/
def CL (L : List Ty) (M : Nat) (T : Ty) : Prop := ∃ ds r, OccR ds L M r T

theorem Occ.mem {ds : List Nd} {L : List Ty} {M : Nat} {t : Ty} {a : Int} {ns : List ByteArray} {refs : List Rf} {Ts : List Ty} {g : Nat} (h : Occ ds L M t a ns refs Ts g) : ∀ x ∈ occL ns Ts t, x ∈ L := by
  induction h with
  | top t a h hp hL hM => exact hL
  | down k p nm s ls x a ns refs Ts g h8 h ih =>
    intro y hy
    refine ih y ?_
    simp only [occL, if_pos h8, occLs, List.append_nil]
    exact List.mem_cons_of_mem _ hy
  | kid k p nm s ls ks a ns refs Ts g h8 h9 h j hj ih =>
    intro y hy
    refine ih y ?_
    simp only [occL, if_neg h8]
    exact List.mem_cons_of_mem _ (occLs_mem (List.getElem_mem hj) hy)

theorem CL.step {L : List Ty} {M : Nat} {T : Ty} (h : CL L M T) : ∃ u, Unf T u ∧ Shp M u ∧ ∀ k ∈ u.kids, CL L M k := by
  obtain ⟨ds, r, σ, t, a, ns, refs, Ts, g, ho, rfl, rfl⟩ := h
  obtain ⟨_, u, d, h1, h2, _, _, _, _, hl, hk⟩ := occ_step t ho (σ := σ)
  refine ⟨u, h1, h2, fun k hm => ?_⟩
  obtain ⟨j, hj, rfl⟩ := List.getElem_of_mem hm
  have hj' : j < d.next.length := by omega
  exact ⟨ds, _, hk j _ _ (List.getElem?_eq_getElem hj') (List.getElem?_eq_getElem hj)⟩
theorem CL.raise {L : List Ty} {M : Nat} {T : Ty} (k : Int) (h : CL L M T) : CL L M (raiseT k T) := by
  obtain ⟨ds, r, σ, t, a, ns, refs, Ts, g, ho, rfl, rfl⟩ := h
  exact ⟨ds, _, σ + k, t, a, ns, refs, Ts, g, ho, rfl, by rw [raise_raise]⟩
theorem CL.lm {L : List Ty} {M : Nat} {T : Ty} (h : CL L M T) : Lm M T := by
  obtain ⟨ds, r, σ, t, a, ns, refs, Ts, g, ho, rfl, rfl⟩ := h
  exact (Lm.sub (fun y T hy => ho.i.lts T (lkT_mem _ _ _ _ hy)) ho.i.lm).raise
theorem CL.base {L : List Ty} {M : Nat} {T : Ty} (h : CL L M T) : ∃ σ s, s ∈ L ∧ T = raiseT σ s ∧ CL L M s := by
  obtain ⟨ds, r, σ, t, a, ns, refs, Ts, g, ho, rfl, rfl⟩ := h
  exact ⟨σ, _, ho.mem _ (occL_self ns Ts t), rfl, ds, _, 0, t, a, ns, refs, Ts, g, ho, rfl, (raise0_sub ho.i.wf).symm⟩
theorem CL.ln {L : List Ty} {M : Nat} (hM : M ≤ 549755813888) {T : Ty} (h : CL L M T) : Ln T := h.lm.ln hM
theorem CL.unf {L : List Ty} {M : Nat} {T : Ty} (h : CL L M T) : Unf T (unfT T) ∧ Shp M (unfT T) ∧ ∀ k ∈ (unfT T).kids, CL L M k := by
  obtain ⟨u, h1, h2, h3⟩ := h.step
  rw [unfT_eq h1]; exact ⟨h1, h2, h3⟩
theorem Unf.to_unfT {T u : Ty} (h : Unf T u) : Unf T (unfT T) := by rw [unfT_eq h]; exact h

/-! what a pair needs -/
def LRaw (x y : Ty) (s : ByteArray) (r : Ty × Ty) : Prop := ∃ i j : Nat, x.labels[i]? = some s ∧ y.labels[j]? = some s ∧ x.kids[i]? = some r.1 ∧ y.kids[j]? = some r.2
def TRaw (x y : Ty) (r : Ty × Ty) : Prop :=
  (x.kind = 4 ∧ y.kids[0]? = some r.1 ∧ x.kids[0]? = some r.2) ∨ (x.kind = 4 ∧ x.kids[1]? = some r.1 ∧ y.kids[1]? = some r.2) ∨
  (x.kind = 5 ∧ ∃ j : Nat, j < 2 ∧ x.kids[j]? = some r.1 ∧ y.kids[j]? = some r.2) ∨ ((x.kind = 6 ∨ x.kind = 7) ∧ ∃ s, LRaw x y s r)
end Go.Proofs.YtopinhoalbgebaaGreatDoor.Tx

/- The reference's subtyping (3): the pairs that are reached are finitely many. -/
namespace Go.Proofs.YtopinhoalbgebaaGreatDoor.Tx
open Go.Lf Go.Lf.S Go.Lf.Duo
set_option maxRecDepth 100000

theorem nodup_leU {α : Type} : ∀ {l U : List α}, l.Nodup → (∀ x ∈ l, x ∈ U) → l.length ≤ U.length
  | [], _, _, _ => by simp
  | a :: l, U, hn, h => by
    obtain ⟨s, t, rfl⟩ := List.append_of_mem (h a List.mem_cons_self)
    rw [List.nodup_cons] at hn
    have := nodup_leU (l := l) (U := s ++ t) hn.2 fun x hx => by
      have := h x (List.mem_cons_of_mem _ hx)
      simp only [List.mem_append, List.mem_cons] at this ⊢
      rcases this with h | rfl | h
      · exact .inl h
      · exact absurd hx hn.1
      · exact .inr h
    simp only [List.length_append, List.length_cons] at this ⊢
    omega
theorem flat_le {α β : Type} {f : α → List β} {c : Nat} : ∀ {l : List α}, (∀ x ∈ l, (f x).length ≤ c) → (l.flatMap f).length ≤ l.length * c
  | [], _ => by simp
  | a :: l, h => by
    have h1 := h a List.mem_cons_self
    have h2 := flat_le (l := l) (f := f) (c := c) fun x hx => h x (List.mem_cons_of_mem _ hx)
    simp only [List.flatMap_cons, List.length_append, List.length_cons, Nat.add_mul, Nat.one_mul]
    omega

theorem raise_congr {a b : Int} (h : IntKind.i64.wrap a = IntKind.i64.wrap b) (t : Ty) : raiseT a t = raiseT b t := by rw [← raise_wr a, h, raise_wr]
theorem pz_act {u : Ty} (h : act u.kind = true) : pz u = u.prio := by unfold pz; rw [if_pos h]
theorem unfT_raise {T : Ty} (k : Int) (h : ∃ u, Unf T u) : unfT (raiseT k T) = raiseT k (unfT T) := by
  obtain ⟨u, h⟩ := h
  rw [unfT_eq h, unfT_eq (h.raise k)]

/-- a lowered pair -/
def Lwd (L : List Ty) (M : Nat) (q : Ty × Ty) : Prop := ∃ A B, CL L M A ∧ CL L M B ∧ q = lw (A, B)
theorem Lwd.cl {L : List Ty} {M : Nat} {q : Ty × Ty} (h : Lwd L M q) : CL L M q.1 ∧ CL L M q.2 := by
  obtain ⟨A, B, h1, h2, rfl⟩ := h
  exact ⟨h1.raise _, h2.raise _⟩

theorem TRaw.cl {L : List Ty} {M : Nat} {x y : Ty} (hx : ∀ k ∈ x.kids, CL L M k) (hy : ∀ k ∈ y.kids, CL L M k) {r : Ty × Ty} (h : TRaw x y r) : CL L M r.1 ∧ CL L M r.2 := by
  rcases h with ⟨_, e1, e2⟩ | ⟨_, e1, e2⟩ | ⟨_, j, _, e1, e2⟩ | ⟨_, s, i, j, _, _, e1, e2⟩
  · exact ⟨hy _ (List.mem_of_getElem? e1), hx _ (List.mem_of_getElem? e2)⟩
  · exact ⟨hx _ (List.mem_of_getElem? e1), hy _ (List.mem_of_getElem? e2)⟩
  · exact ⟨hx _ (List.mem_of_getElem? e1), hy _ (List.mem_of_getElem? e2)⟩
  · exact ⟨hx _ (List.mem_of_getElem? e1), hy _ (List.mem_of_getElem? e2)⟩
end Go.Proofs.YtopinhoalbgebaaGreatDoor.Tx

/- The reference's equality (1): lists of labels in order. -/
namespace Go.Proofs.YtopinhoalbgebaaGreatDoor.Tx
open Go.Lf Go.Lf.S Go.Lf.Duo
set_option maxRecDepth 100000

theorem bytes_lt : ∀ (x y : List UInt8), Op.bytesLess x y = decide (x < y)
  | [], [] => by simp [Op.bytesLess]
  | _ :: _, [] => by simp [Op.bytesLess]
  | [], _ :: _ => by simp [Op.bytesLess]
  | a :: x, b :: y => by
    rw [Op.bytesLess, bytes_lt x y]
    simp only [List.cons_lt_cons_iff]
    by_cases h1 : a < b <;> by_cases h2 : a = b <;> by_cases h3 : x < y <;> simp [h1, h2, h3]
def bl (x y : ByteArray) : Bool := Op.bytesLess x.toList y.toList
theorem bl_iff {x y : ByteArray} : bl x y = true ↔ x.toList < y.toList := by unfold bl; rw [bytes_lt, decide_eq_true_iff]
theorem bl_asymm {x y : ByteArray} (h : bl x y = true) : bl y x = false := by
  cases e : bl y x with
  | false => rfl
  | true => exact absurd (List.lt_trans (bl_iff.1 h) (bl_iff.1 e)) (List.lt_irrefl _)
theorem bl_trans {x y z : ByteArray} (h : bl x y = true) (h2 : bl y z = true) : bl x z = true := bl_iff.2 (List.lt_trans (bl_iff.1 h) (bl_iff.1 h2))
theorem bl_total {x y : ByteArray} (h : bl x y = false) (h2 : bl y x = false) : x = y := by
  have e : x.toList = y.toList := by
    have a : ¬ x.toList < y.toList := fun c => by rw [bl_iff.2 c] at h; cases h
    have b : ¬ y.toList < x.toList := fun c => by rw [bl_iff.2 c] at h2; cases h2
    exact List.le_antisymm (List.not_lt.1 b) (List.not_lt.1 a)
  rw [Lib.toList_data, Lib.toList_data] at e
  exact ByteArray.ext (Array.toList_inj.1 e)

def Srt (m : Nat) (o : List ByteArray) : Prop := ∀ (p q : Nat) x y, p < m → p < q → o[p]? = some x → o[q]? = some y → bl y x = false
def Shuf (o l : List ByteArray) : Prop := ∃ σ τ : Nat → Nat, (∀ x, σ (τ x) = x ∧ τ (σ x) = x) ∧ ∀ x : Nat, o[x]? = l[σ x]?
theorem Shuf.mem {o l : List ByteArray} (h : Shuf o l) (s : ByteArray) : s ∈ o ↔ s ∈ l := by
  obtain ⟨σ, τ, h1, h2⟩ := h
  rw [List.mem_iff_getElem?, List.mem_iff_getElem?]
  constructor
  · rintro ⟨x, hx⟩
    exact ⟨σ x, by rw [← h2]; exact hx⟩
  · rintro ⟨x, hx⟩
    exact ⟨τ x, by rw [h2, (h1 x).1]; exact hx⟩
theorem Shuf.nodup {o l : List ByteArray} (h : Shuf o l) (hn : l.Nodup) : o.Nodup := by
  obtain ⟨σ, τ, h1, h2⟩ := h
  rw [List.Nodup, List.pairwise_iff_getElem]
  intro i j hi hj hij hee
  have he : o[i]? = o[j]? := by rw [List.getElem?_eq_getElem hi, List.getElem?_eq_getElem hj, hee]
  rw [h2, h2] at he
  have hjl : σ j < l.length := by
    have : o[j]? ≠ none := by rw [List.getElem?_eq_getElem hj]; simp
    rw [h2] at this
    rcases Nat.lt_or_ge (σ j) l.length with h | h
    · exact h
    · exact absurd (List.getElem?_eq_none h) this
  have hil : σ i < l.length := by
    rcases Nat.lt_or_ge (σ i) l.length with h | h
    · exact h
    · rw [List.getElem?_eq_none h, List.getElem?_eq_getElem hjl] at he; cases he
  rw [List.getElem?_eq_getElem hil, List.getElem?_eq_getElem hjl] at he
  have : σ i = σ j := nodup_at hn (List.getElem?_eq_getElem hil) (by rw [List.getElem?_eq_getElem hjl, Option.some.inj he])
  have : τ (σ i) = τ (σ j) := by rw [this]
  rw [(h1 i).2, (h1 j).2] at this
  omega
theorem sorted_eq {l m o1 o2 : List ByteArray} (hl : l.Nodup) (hm : m.Nodup) (h1 : Shuf o1 l) (s1 : Srt o1.length o1) (h2 : Shuf o2 m) (s2 : Srt o2.length o2) : o1 = o2 ↔ ∀ s, s ∈ l ↔ s ∈ m := by
  constructor
  · intro e s
    rw [← h1.mem, ← h2.mem, e]
  · intro h
    have pw : ∀ {o : List ByteArray}, Srt o.length o → o.Pairwise fun a b => bl b a = false := fun {o} hs => by
      rw [List.pairwise_iff_getElem]
      intro i j hi hj hij
      exact hs i j _ _ hi hij (List.getElem?_eq_getElem hi) (List.getElem?_eq_getElem hj)
    refine List.Perm.eq_of_pairwise (le := fun a b => bl b a = false) (fun a b _ _ g1 g2 => bl_total g2 g1) (pw s1) (pw s2) ?_
    rw [List.perm_ext_iff_of_nodup (h1.nodup hl) (h2.nodup hm)]
    intro s
    rw [h1.mem, h2.mem]; exact h s

theorem swap_at {α : Type} {o : List α} {a k : Nat} (ha : a < o.length) (hk : k < o.length) (hak : a ≠ k) (x : Nat) : ((o.set a o[k]).set k o[a])[x]? = o[if x = k then a else if x = a then k else x]? := by
  by_cases e : x = k
  · subst e
    rw [if_pos rfl, List.getElem?_set_self (by simpa using hk), List.getElem?_eq_getElem ha]
  · rw [if_neg e, List.getElem?_set_ne (by omega)]
    by_cases e2 : x = a
    · subst e2
      rw [if_pos rfl, List.getElem?_set_self ha, List.getElem?_eq_getElem hk]
    · rw [if_neg e2, List.getElem?_set_ne (by omega)]

theorem ok_Sorted (l : List ByteArray) (hl : l.length ≤ 549755813888) : ∃ o, Ok P F.ref08_Sorted [.sl (l.map .str)] (.sl (o.map .str)) ∧ o.length = l.length ∧ Shuf o l ∧ Srt o.length o := by
  have := tx_ex (K := fun x => ∃ o, x = .sl (o.map .str) ∧ o.length = l.length ∧ Shuf o l ∧ Srt o.length o) k_ref08_Sorted (xs := [.sl (l.map .str)]) rfl (by simp [t_ref08_Sorted, T.dt]) (by
    refine d_l (.sl []) rfl fun _ => d_l (.sl (l.map .str)) (by
      show (Prim.app 1 false 16).ev [.sl [], .sl (l.map .str)] = _
      rw [e_app (all_map okc_str l) (by simp; omega) (by simp; omega)]; rfl) fun _ => ?_
    refine den_loop (fun m' ys => ∃ (a : Nat) (o : List ByteArray), a + m' = l.length ∧ o.length = l.length ∧ Shuf o l ∧ Srt a o ∧ ys = [i a, .sl (o.map .str)]) l.length ⟨0, l, by omega, rfl, ⟨id, id, fun x => ⟨rfl, rfl⟩, fun x => rfl⟩, fun p q x y h => by omega, rfl⟩ ?_
    rintro m' _ ⟨a, o, ha, ho, hsh, hsr, rfl⟩
    refine d_l _ (len_str o) fun _ => d_l (.bool (decide ((a : Int) < (o.length : Int)))) rfl fun _ => d_dec (p := (a : Int) < (o.length : Int)) (fun h => ?_) fun h => d_ret ⟨o, rfl, ho, hsh, by rw [show o.length = a by omega]; exact hsr⟩
    have hal : a < l.length := by omega
    refine d_l _ (e_inc (by omega)) fun _ => ?_
    refine den_loop (fun m2 ys => ∃ (k : Nat) (o : List ByteArray), k + m2 = l.length ∧ a < k ∧ o.length = l.length ∧ Shuf o l ∧ Srt a o ∧ (∀ (q : Nat) x y, a < q → q < k → o[a]? = some x → o[q]? = some y → bl y x = false) ∧ ys = [i k, .sl (o.map .str)]) (l.length - (a + 1)) ⟨a + 1, o, by omega, by omega, ho, hsh, hsr, (fun q x y h1 h2 => by omega), rfl⟩ ?_
    clear hsh hsr ho h
    rintro m2 _ ⟨k, o, hk, hak, ho, hsh, hsr, hin, rfl⟩
    refine d_l _ (len_str o) fun _ => d_l (.bool (decide ((k : Int) < (o.length : Int)))) rfl fun _ => d_dec (p := (k : Int) < (o.length : Int)) (fun h => ?_) fun h => ?_
    · have hko : k < o.length := by omega
      have hao : a < o.length := by omega
      have ek := e_idx (n := 1) (a := false) (str_at hko) rfl
      have ea := e_idx (n := 1) (a := false) (str_at hao) rfl
      refine d_l _ ek fun _ => d_l _ ek fun _ => d_l _ ea fun _ => d_l _ ea fun _ => d_l (.bool (bl o[k] o[a])) rfl fun _ => d_ite (fun hb => ?_) fun hb => ?_
      · have u1 : (Prim.upd 1 false).ev [.sl (o.map .str), i (a : Int), .str o[k]] = some (.sl ((o.set a o[k]).map .str)) := by rw [e_updT (by simpa using hao) rfl, List.map_set]
        have u2 : (Prim.upd 1 false).ev [.sl ((o.set a o[k]).map .str), i (k : Int), .str o[a]] = some (.sl (((o.set a o[k]).set k o[a]).map .str)) := by
          rw [e_updT (by simpa using hko) rfl]
          simp only [List.map_set]
        have hks : k < (o.set a o[k]).length := by simpa using hko
        have ek2 := e_idx (n := 1) (a := false) (str_at hks) rfl
        refine d_l _ ek fun _ => d_l _ ek fun _ => d_l _ ea fun _ => d_l _ ea fun _ => d_l _ ea fun _ => d_l _ u1 fun _ => d_l _ ek2 fun _ => d_l _ u2 fun _ => d_l _ (e_inc (by omega)) fun _ => d_cont rfl ?_
        have hget := swap_at hao hko (by omega : a ≠ k)
        have oa : o[a]? = some o[a] := List.getElem?_eq_getElem hao
        have ok' : o[k]? = some o[k] := List.getElem?_eq_getElem hko
        have hol : ((o.set a o[k]).set k o[a]).length = l.length := by simpa using ho
        generalize o[k] = vk at *
        generalize o[a] = va at *
        generalize (o.set a vk).set k va = o' at *
        refine ⟨m2 - 1, by omega, k + 1, o', by omega, by omega, hol, ?_, ?_, ?_, rfl⟩
        · obtain ⟨σ, τ, g1, g2⟩ := hsh
          refine ⟨fun x => σ (if x = k then a else if x = a then k else x), fun x => (if τ x = k then a else if τ x = a then k else τ x), fun x => ⟨?_, ?_⟩, fun x => by rw [hget, g2]⟩
          · have : (if (if τ x = k then a else if τ x = a then k else τ x) = k then a else if (if τ x = k then a else if τ x = a then k else τ x) = a then k else (if τ x = k then a else if τ x = a then k else τ x)) = τ x := by
              split <;> (try split) <;> (try split) <;> omega
            show σ (if (if τ x = k then a else if τ x = a then k else τ x) = k then a else if (if τ x = k then a else if τ x = a then k else τ x) = a then k else (if τ x = k then a else if τ x = a then k else τ x)) = x
            rw [this]; exact (g1 x).1
          · have e := (g1 (if x = k then a else if x = a then k else x)).2
            simp only [e]
            split <;> (try split) <;> (try split) <;> omega
        · intro p q x y hp hpq hx hy
          rw [hget] at hx hy
          rw [if_neg (by omega), if_neg (by omega)] at hx
          by_cases e : q = k
          · rw [if_pos e] at hy
            exact hsr p a x y hp hp hx hy
          · rw [if_neg e] at hy
            by_cases e2 : q = a
            · rw [if_pos e2] at hy
              exact hsr p k x y hp (by omega) hx hy
            · rw [if_neg e2] at hy
              exact hsr p q x y hp hpq hx hy
        · intro q x y hq hqk hx hy
          rw [hget] at hx hy
          rw [if_neg (by omega), if_pos rfl, ok'] at hx
          cases hx
          by_cases e : q = k
          · rw [if_pos e, oa] at hy
            cases hy
            exact bl_asymm hb
          · rw [if_neg e, if_neg (by omega)] at hy
            have := hin q va y hq (by omega) oa hy
            cases c : bl y vk with
            | false => rfl
            | true => rw [bl_trans c hb] at this; cases this
      · refine d_l _ (e_inc (by omega)) fun _ => d_cont rfl ⟨m2 - 1, by omega, k + 1, o, by omega, by omega, ho, hsh, hsr, fun q x y hq hqk hx hy => ?_, rfl⟩
        by_cases e : q = k
        · subst e
          rw [List.getElem?_eq_getElem hao] at hx
          rw [List.getElem?_eq_getElem hko] at hy
          cases hx; cases hy
          exact hb
        · exact hin q x y hq (by omega) hx hy
    · refine d_l _ (e_inc (by omega)) fun _ => d_cont rfl ⟨m' - 1, by omega, a + 1, o, by omega, ho, hsh, fun p q x y hp hpq hx hy => ?_, rfl⟩
      by_cases e : p = a
      · subst e
        have := (List.getElem?_eq_some_iff.1 hy).1
        exact hin q x y hpq (by omega) hx hy
      · exact hsr p q x y (by omega) hpq hx hy)
  obtain ⟨_, ⟨o, rfl, h1, h2, h3⟩, h⟩ := this
  exact ⟨o, h, h1, h2, h3⟩

theorem ok_texts3 (l m : List ByteArray) (hl : l.length ≤ 549755813888) : Ok P F.ref03_Texts [.sl (l.map .str), .sl (m.map .str)] (.bool (dq (l = m))) := by
  refine k_ref03_Texts _ _ rfl (d_l _ (len_str l) fun _ => d_l _ (len_str m) fun _ => d_l (.bool (!decide ((l.length : Int) = (m.length : Int)))) rfl fun _ => d_ndec (fun h => d_ret ?_) fun h => ?_)
  · rw [dq_f fun e => h (by rw [e])]
  · have hlm : l.length = m.length := by omega
    refine den_loop (fun m' ys => ∃ j : Nat, j + m' = l.length ∧ l.take j = m.take j ∧ ys = [i j]) l.length ⟨0, by omega, by simp, rfl⟩ ?_
    rintro m' _ ⟨j, hj, ht, rfl⟩
    refine d_l _ (len_str l) fun _ => d_l (.bool (decide ((j : Int) < (l.length : Int)))) rfl fun _ => d_dec (p := (j : Int) < (l.length : Int)) (fun h => ?_) fun h => d_ret ?_
    · have h1 : j < l.length := by omega
      have h2 : j < m.length := by omega
      refine d_l _ (e_idx (str_at h1) rfl) fun _ => d_l _ (e_idx (str_at h2) rfl) fun _ => d_l (.bool (!decide (l[j] = m[j]))) rfl fun _ => d_ndec (fun h => d_ret ?_) fun h => d_l _ (e_inc (by omega)) fun _ => d_cont rfl ⟨m' - 1, by omega, j + 1, by omega, take_step h1 h2 ht h, rfl⟩
      rw [dq_f fun e => h (get_eq e h1 h2)]
    · rw [dq_t]
      have e1 : l.take j = l := List.take_of_length_le (by omega)
      have e2 : m.take j = m := List.take_of_length_le (by omega)
      rw [← e1, ht, e2]
end Go.Proofs.YtopinhoalbgebaaGreatDoor.Tx

/- The reference's equality (2): what compare computes. -/
namespace Go.Proofs.YtopinhoalbgebaaGreatDoor.Tx
open Go.Lf Go.Lf.S Go.Lf.Duo
set_option maxRecDepth 100000

def ELoc (x y : Ty) : Prop := x.kind = y.kind ∧ x.prio = y.prio ∧ ∀ s, s ∈ x.labels ↔ s ∈ y.labels
def ERaw (x y : Ty) (w : Ty × Ty) : Prop := (x.labels = [] ∧ ∃ j : Nat, x.kids[j]? = some w.1 ∧ y.kids[j]? = some w.2) ∨ (x.labels ≠ [] ∧ ∃ s, LRaw x y s w)
/-- equal as trees -/
def EqP (p : Ty × Ty) : Prop := ∃ R : Ty × Ty → Prop, R p ∧ ∀ q, R q → ELoc (unfT q.1) (unfT q.2) ∧ ∀ w, ERaw (unfT q.1) (unfT q.2) w → R w
theorem EqP.step {p : Ty × Ty} (h : EqP p) : ELoc (unfT p.1) (unfT p.2) ∧ ∀ w, ERaw (unfT p.1) (unfT p.2) w → EqP w := by
  obtain ⟨R, h1, h2⟩ := h
  obtain ⟨h3, h4⟩ := h2 p h1
  exact ⟨h3, fun w hw => ⟨R, h4 w hw, h2⟩⟩

theorem ERaw.cl {L : List Ty} {M : Nat} {x y : Ty} (hx : ∀ k ∈ x.kids, CL L M k) (hy : ∀ k ∈ y.kids, CL L M k) {r : Ty × Ty} (h : ERaw x y r) : CL L M r.1 ∧ CL L M r.2 := by
  rcases h with ⟨_, j, e1, e2⟩ | ⟨_, s, i, j, _, _, e1, e2⟩
  · exact ⟨hx _ (List.mem_of_getElem? e1), hy _ (List.mem_of_getElem? e2)⟩
  · exact ⟨hx _ (List.mem_of_getElem? e1), hy _ (List.mem_of_getElem? e2)⟩

noncomputable def lx (p : Ty × Ty) : Ty × Ty := lw (unfT p.1, unfT p.2)
noncomputable def nu (a : Ty) : Ty := raiseT (-pz (unfT a)) (unfT a)
noncomputable def U10 (L : List Ty) : List (Ty × Ty) := L.flatMap fun a => L.map fun b => (nu a, nu b)
theorem len_U10 (L : List Ty) : (U10 L).length ≤ L.length * L.length := flat_le fun a _ => by simp

theorem raise_lit2 {M : Nat} {u : Ty} (h : Shp M u) (ha : act u.kind = false) (k : Int) : raiseT k u = u := by
  have h1 := h.k1
  simp only [act, decide_eq_false_iff_not] at ha
  have h3 := h.k3 (by omega)
  obtain ⟨kd, p, nm, s, ls, ks⟩ := u
  simp only [Ty.kind, Ty.kids] at h1 ha h3
  rw [raiseT_mk, if_neg ha, h3.1]; rfl
theorem unf_unf {T : Ty} (h : ∃ u, Unf T u) : unfT (unfT T) = unfT T := by
  obtain ⟨u, h⟩ := h
  rw [unfT_eq h, unfT_eq (unf_self h)]

theorem lx_nu {L : List Ty} {M : Nat} {a b : Ty} (ca : CL L M a) (cb : CL L M b) (σ τ : Int) (h : ELoc (unfT (raiseT σ a)) (unfT (raiseT τ b))) : lx (raiseT σ a, raiseT τ b) = (nu a, nu b) := by
  have ua : ∃ u, Unf a u := ⟨_, ca.unf.1⟩
  have ub : ∃ u, Unf b u := ⟨_, cb.unf.1⟩
  have sa := ca.unf.2.1
  have sb := cb.unf.2.1
  have uua : ∃ u, Unf (unfT a) u := ⟨_, unf_self ca.unf.1⟩
  rw [unfT_raise _ ua, unfT_raise _ ub] at h
  obtain ⟨h1, h2, _⟩ := h
  rw [raise_kind, raise_kind] at h1
  simp only [lx, lw, unfT_raise _ ua, unfT_raise _ ub, unfT_raise _ uua, unf_unf ua]
  unfold nu
  by_cases ha : act (unfT a).kind = true
  · have hb : act (unfT b).kind = true := by rw [← h1]; exact ha
    rw [raise_prio _ _ ha, raise_prio _ _ hb] at h2
    rw [pz_act ha, pz_act hb, pz_act (by rw [raise_kind]; exact ha), raise_prio _ _ ha, raise_raise, raise_raise]
    refine Prod.ext (raise_congr ?_ _) (raise_congr ?_ _)
    · rw [wrap_eq]
      have := wrap_mod ((unfT a).prio + σ)
      unfold ad; omega
    · rw [wrap_eq]
      unfold ad at h2 ⊢
      have g1 := wrap_mod ((unfT a).prio + σ)
      have g2 := wrap_mod ((unfT b).prio + τ)
      omega
  · have ha : act (unfT a).kind = false := by simpa using ha
    have hb : act (unfT b).kind = false := by rw [← h1]; exact ha
    simp only [raise_lit2 sa ha, raise_lit2 sb hb]
theorem lx_in {L : List Ty} {M : Nat} {A B : Ty} (hA : CL L M A) (hB : CL L M B) (h : ELoc (unfT A) (unfT B)) : lx (A, B) ∈ U10 L := by
  obtain ⟨σ, a, la, rfl, ca⟩ := hA.base
  obtain ⟨τ, b, lb, rfl, cb⟩ := hB.base
  rw [lx_nu ca cb σ τ h]
  exact List.mem_flatMap.2 ⟨a, la, List.mem_map.2 ⟨b, lb, rfl⟩⟩
theorem ELoc.raise {x y : Ty} (h : ELoc x y) (k : Int) : ELoc (raiseT k x) (raiseT k y) := by
  obtain ⟨h1, h2, h3⟩ := h
  refine ⟨by rw [raise_kind, raise_kind]; exact h1, ?_, by rw [raise_labels, raise_labels]; exact h3⟩
  by_cases ha : act x.kind = true
  · rw [raise_prio _ _ ha, raise_prio _ _ (by rw [← h1]; exact ha), h2]
  · have e : ∀ t : Ty, act t.kind = false → (raiseT k t).prio = t.prio := fun t ht => by
      obtain ⟨kd, p, nm, s, ls, ks⟩ := t
      have ht : decide (4 ≤ kd ∧ kd ≤ 7) = false := ht
      rw [raiseT_mk, if_neg (of_decide_eq_false ht)]; rfl
    have ha : act x.kind = false := by simpa using ha
    rw [e x ha, e y (by rw [← h1]; exact ha)]; exact h2

def Don (l : List (Ty × Ty)) (p : Ty × Ty) : Prop := ELoc (unfT p.1) (unfT p.2) ∧ lx p ∈ l
def ClP (L : List Ty) (M : Nat) (l : List (Ty × Ty)) (q : Ty × Ty) : Prop := ∃ A B, CL L M A ∧ CL L M B ∧ q = lx (A, B) ∧ ∀ w, ERaw (unfT A) (unfT B) w → Don l w
theorem Don.mono {l l' : List (Ty × Ty)} (h : ∀ q ∈ l, q ∈ l') {p : Ty × Ty} (hd : Don l p) : Don l' p := ⟨hd.1, h _ hd.2⟩
theorem ClP.mono {L : List Ty} {M : Nat} {l l' : List (Ty × Ty)} (h : ∀ q ∈ l, q ∈ l') {p : Ty × Ty} (hd : ClP L M l p) : ClP L M l' p := by
  obtain ⟨A, B, h1, h2, h3, h4⟩ := hd
  exact ⟨A, B, h1, h2, h3, fun w hw => (h4 w hw).mono h⟩

theorem Don.raise {L : List Ty} {M : Nat} {l : List (Ty × Ty)} {A B : Ty} (hA : CL L M A) (hB : CL L M B) (k : Int) (h : Don l (A, B)) : Don l (raiseT k A, raiseT k B) := by
  obtain ⟨h1, h2⟩ := h
  have uA : ∃ u, Unf A u := ⟨_, hA.unf.1⟩
  have uB : ∃ u, Unf B u := ⟨_, hB.unf.1⟩
  have e : ELoc (unfT (raiseT k A)) (unfT (raiseT k B)) := by rw [unfT_raise k uA, unfT_raise k uB]; exact h1.raise k
  refine ⟨e, ?_⟩
  obtain ⟨σ, a, la, rfl, ca⟩ := hA.base
  obtain ⟨τ, b, lb, rfl, cb⟩ := hB.base
  rw [lx_nu ca cb σ τ h1] at h2
  rw [raise_raise, raise_raise] at e ⊢
  rw [lx_nu ca cb _ _ e]; exact h2

/-- a closed list is an equality -/
theorem eqP_of {L : List Ty} {M : Nat} {l : List (Ty × Ty)} (hc : ∀ q ∈ l, ClP L M l q) {A B : Ty} (hA : CL L M A) (hB : CL L M B) (h : Don l (A, B)) : EqP (A, B) := by
  refine ⟨fun q => CL L M q.1 ∧ CL L M q.2 ∧ Don l q, ⟨hA, hB, h⟩, ?_⟩
  clear h hA hB
  rintro ⟨A, B⟩ ⟨hA, hB, h⟩
  refine ⟨h.1, fun w hw => ?_⟩
  have hcl := hw.cl hA.unf.2.2 hB.unf.2.2
  refine ⟨hcl.1, hcl.2, ?_⟩
  obtain ⟨A', B', cA, cB, he, hin⟩ := hc _ h.2
  obtain ⟨δ, e1, e2⟩ : ∃ δ, unfT A = raiseT δ (unfT A') ∧ unfT B = raiseT δ (unfT B') := by
    simp only [lx, lw, Prod.mk.injEq] at he
    obtain ⟨g1, g2⟩ := he
    generalize -pz (unfT (unfT A)) = e1 at *
    generalize -pz (unfT (unfT A')) = e2 at *
    refine ⟨e2 + -e1, ?_, ?_⟩
    · have := congrArg (raiseT (-e1)) g1
      rw [raise_raise, raise_raise, show e1 + -e1 = 0 by omega, (unf_done hA.unf.1).2] at this
      exact this
    · have := congrArg (raiseT (-e1)) g2
      rw [raise_raise, raise_raise, show e1 + -e1 = 0 by omega, (unf_done hB.unf.1).2] at this
      exact this
  rw [show unfT (A, B).1 = raiseT δ (unfT A') from e1, show unfT (A, B).2 = raiseT δ (unfT B') from e2] at hw
  have : ∃ w', ERaw (unfT A') (unfT B') w' ∧ w = (raiseT δ w'.1, raiseT δ w'.2) := by
    rcases hw with ⟨g0, j, g1, g2⟩ | ⟨g0, s, i, j, f1, f2, g1, g2⟩
    · rw [raise_labels] at g0
      rw [raise_kids, List.getElem?_map, Option.map_eq_some_iff] at g1 g2
      obtain ⟨u, hu, e3⟩ := g1
      obtain ⟨v, hv, e4⟩ := g2
      exact ⟨(u, v), .inl ⟨g0, j, hu, hv⟩, Prod.ext e3.symm e4.symm⟩
    · rw [raise_labels] at g0 f1 f2
      rw [raise_kids, List.getElem?_map, Option.map_eq_some_iff] at g1 g2
      obtain ⟨u, hu, e3⟩ := g1
      obtain ⟨v, hv, e4⟩ := g2
      exact ⟨(u, v), .inr ⟨g0, s, i, j, f1, f2, hu, hv⟩, Prod.ext e3.symm e4.symm⟩
  obtain ⟨w', hw', rfl⟩ := this
  have hcl' := hw'.cl cA.unf.2.2 cB.unf.2.2
  exact (hin w' hw').raise hcl'.1 hcl'.2 δ

structure CInv (L : List Ty) (l : List (Ty × Ty)) : Prop where
  nd : l.Nodup
  u : ∀ q ∈ l, q ∈ U10 L
  ln : ∀ q ∈ l, Ln q.1 ∧ Ln q.2

theorem ok_compare {L : List Ty} {M : Nat} (hM : M ≤ 1000) (hL : L.length ≤ 1000) : ∀ (n : Nat) (A B : Ty) (l : List (Ty × Ty)), CL L M A → CL L M B → CInv L l → (U10 L).length ≤ n + l.length →
    ∃ r l', OkS P F.ref10_compare sg_ref10_compare [A.enc, B.enc, .sl (l.map pe)] [.bool r, .sl (l'.map pe)] ∧ CInv L l' ∧ (∀ q ∈ l, q ∈ l') ∧ (r = false → ¬ EqP (A, B)) ∧ (r = true → Don l' (A, B) ∧ ∀ q ∈ l', q ∉ l → ClP L M l' q) := by
  have hU : (U10 L).length ≤ 1000000 := by
    have h1 := len_U10 L
    have h2 : L.length * L.length ≤ 1000 * 1000 := Nat.mul_le_mul hL hL
    omega
  intro n
  induction n using Nat.strongRecOn with
  | _ n ih =>
  intro A B l hA hB hI hn
  obtain ⟨hx, sx, kx⟩ := hA.unf
  obtain ⟨hy, sy, ky⟩ := hB.unf
  have hU1 := ok_ref02_Unfold hx (hA.ln (by omega))
  have hU2 := ok_ref02_Unfold hy (hB.ln (by omega))
  have hlU := nodup_leU hI.nd hI.u
  have lnx := sx.lm.ln (show M ≤ 549755813888 by omega)
  have lny := sy.lm.ln (show M ≤ 549755813888 by omega)
  have mx : (unfT A).labels.length ≤ M ∧ (unfT A).kids.length ≤ M := by cases sx.lm with | mk _ h h' _ => exact ⟨h, h'⟩
  have my : (unfT B).labels.length ≤ M ∧ (unfT B).kids.length ≤ M := by cases sy.lm with | mk _ h h' _ => exact ⟨h, h'⟩
  have hxx := unf_self hx
  have hyy := unf_self hy
  obtain ⟨o1, os1, ol1, sh1, st1⟩ := ok_Sorted (unfT A).labels (by omega)
  obtain ⟨o2, os2, ol2, sh2, st2⟩ := ok_Sorted (unfT B).labels (by omega)
  have hT := ok_texts3 o1 o2 (by omega)
  have hseq := sorted_eq sx.nd sy.nd sh1 st1 sh2 st2
  have hlow : Ok P F.ref10_Lower [(unfT A).enc, (unfT B).enc] (pe (lx (A, B))) := ok_Lower hxx lnx lny
  have hseen := ok_Seen l (lx (A, B)) (by omega) hI.ln
  have lnp : Ln (lx (A, B)).1 ∧ Ln (lx (A, B)).2 := ⟨lnx.raise, lny.raise⟩
  have hin := lx_in hA hB
  have nloc : ¬ ELoc (unfT A) (unfT B) → ¬ EqP (A, B) := fun h he => h he.step.1
  have := tx_exS m_ref10_compare (K := fun ys => ∃ r l', CInv L l' ∧ (∀ q ∈ l, q ∈ l') ∧ (r = false → ¬ EqP (A, B)) ∧ (r = true → Don l' (A, B) ∧ ∀ q ∈ l', q ∉ l → ClP L M l' q) ∧ ys = [.bool r, .sl (l'.map pe)])
    (xs := [A.enc, B.enc, .sl (l.map pe)]) (by simp [u_ref10_compare, T.dt]) (by
    have lbY : (unfT B).kids.length = (unfT B).labels.length → ∀ s, _ := fun hk => ok_Label hyy lny (by omega) hk
    have hx5 := sx.k5; have hy5 := sy.k5; have hx7 := sx.k7; have hy7 := sy.k7; have hx3 := sx.k3; have hy3 := sy.k3; have hk1 := sx.k1
    have hxn := sx.nd; have hyn := sy.nd
    have hDon : ELoc (unfT A) (unfT B) → ∀ l', lx (A, B) ∈ l' → Don l' (A, B) := fun h l' hm => ⟨h, hm⟩
    have hCl : ∀ l', (∀ w, ERaw (unfT A) (unfT B) w → Don l' w) → ClP L M l' (lx (A, B)) := fun l' h => ⟨A, B, hA, hB, rfl, h⟩
    have hstp : ∀ w, ERaw (unfT A) (unfT B) w → ¬ EqP w → ¬ EqP (A, B) := fun w hw hn he => hn (he.step.2 w hw)
    clear hxx hyy sx sy st1 st2 sh1 sh2
    generalize hp : lx (A, B) = p at *
    generalize unfT A = x at *
    generalize unfT B = y at *
    obtain ⟨kd, pr, nm, s, ls, ks⟩ := x
    obtain ⟨kd', pr', nm', s', ls', ks'⟩ := y
    rw [Ty.enc_mk] at hU1 hU2 lbY
    rw [Ty.enc_mk, Ty.enc_mk] at hlow
    simp only [Ty.kind, Ty.prio, Ty.labels, Ty.kids] at *
    have keep : ¬ ELoc (.mk kd pr nm s ls ks) (.mk kd' pr' nm' s' ls' ks') → ∃ ys, PV.tup [.bool false, .sl (l.map pe)] = .tup ys ∧ ∃ r l', CInv L l' ∧ (∀ q ∈ l, q ∈ l') ∧ (r = false → ¬ EqP (A, B)) ∧ (r = true → Don l' (A, B) ∧ ∀ q ∈ l', q ∉ l → ClP L M l' q) ∧ ys = [.bool r, .sl (l'.map pe)] :=
      fun h => ⟨_, rfl, false, l, hI, fun _ h => h, fun _ => nloc h, (fun h => by cases h), rfl⟩
    refine d_l _ (e_okc (Ty.okc_enc A)) fun _ => d_l _ (e_okc (Ty.okc_enc B)) fun _ => d_call hU1 (d_l (.agg [i kd, i pr, .str nm, i s, .sl (ls.map .str), .sl (ks.map Ty.enc)]) rfl fun _ => d_call hU2 (d_l (.agg [i kd', i pr', .str nm', i s', .sl (ls'.map .str), .sl (ks'.map Ty.enc)]) rfl fun _ => ?_))
    refine d_l (.bool (!decide (kd = kd'))) rfl fun _ => d_ndec (fun h => d_ret (keep fun hc => h hc.1)) fun ek => d_l (.bool (!decide (pr = pr'))) rfl fun _ => d_ndec (fun h => d_ret (keep fun hc => h hc.2.1)) fun ep => ?_
    refine d_call os1 (d_call os2 (d_call hT (d_l (.bool (!dq (o1 = o2))) rfl fun _ => d_ite (fun h => d_ret (keep fun hc => ?_)) fun h => ?_)))
    · rw [dq_t (hseq.2 hc.2.2)] at h; cases h
    have hlab := hseq.1 (dq_iff.1 (by simpa using h))
    have hloc : ELoc (.mk kd pr nm s ls ks) (.mk kd' pr' nm' s' ls' ks') := ⟨ek, ep, hlab⟩
    have hin := hin hloc
    refine d_call hlow (d_l _ (e_okc (pe_okc p)) fun _ => d_call hseen (d_ite (fun hs => d_ret ⟨_, rfl, true, l, hI, fun _ h => h, (fun h => by cases h), fun _ => ⟨hDon hloc l (dq_iff.1 hs), fun q h1 h2 => absurd h1 h2⟩, rfl⟩) fun hs => ?_))
    have hno : p ∉ l := fun hm => by rw [dq_t hm] at hs; cases hs
    have hI2 : CInv L (l ++ [p]) := by
      refine ⟨?_, fun q hq => ?_, fun q hq => ?_⟩
      · rw [List.nodup_append]
        exact ⟨hI.nd, by simp, fun a ha b hb e => by simp at hb; subst hb; subst e; exact hno ha⟩
      · rcases List.mem_append.1 hq with h | h
        · exact hI.u q h
        · obtain rfl := List.mem_singleton.1 h; exact hin
      · rcases List.mem_append.1 hq with h | h
        · exact hI.ln q h
        · obtain rfl := List.mem_singleton.1 h; exact lnp
    have hlU2 := nodup_leU hI2.nd hI2.u
    rw [List.length_append, List.length_singleton] at hlU2
    refine d_l (.sl [pe p]) (e_lst fun x hx => by simp at hx; subst hx; exact pe_okc _) fun _ => d_l (.sl (l.map pe ++ [pe p])) (e_app (l := l.map pe) (m := [pe p]) (fun x hx => by simp at hx; subst hx; exact pe_okc _) (by simp; omega) (by simp; omega)) fun _ => ?_
    have hkk : ks.length = ks'.length ∧ (ls ≠ [] → ks.length = ls.length ∧ ks'.length = ls'.length) := by
      have hle : ls.length = ls'.length := by
        have a := nodup_leU hxn fun s h => (hlab s).1 h
        have b := nodup_leU hyn fun s h => (hlab s).2 h
        omega
      by_cases c3 : kd ≤ 3
      · have a := hx3 c3
        have b := hy3 (by omega)
        exact ⟨by rw [a.1, b.1], fun h => absurd a.2.1 h⟩
      · by_cases c5 : kd ≤ 5
        · have a := hx5 ⟨by omega, c5⟩
          have b := hy5 ⟨by omega, by omega⟩
          exact ⟨by omega, fun h => absurd a.2 h⟩
        · have a := hx7 ⟨by omega, hk1.2⟩
          have b := hy7 ⟨by omega, by omega⟩
          exact ⟨by omega, fun _ => ⟨a, b⟩⟩
    refine den_loop (fun m' ys => ∃ (j : Nat) (l2 : List (Ty × Ty)), j + m' = ks.length ∧ CInv L l2 ∧ (∀ q ∈ l ++ [p], q ∈ l2) ∧ (∀ q ∈ l2, q ∉ l → q = p ∨ ClP L M l2 q) ∧
      (∀ (a : Nat) u v, a < j → ks[a]? = some u → (ls = [] → ks'[a]? = some v → Don l2 (u, v)) ∧ (ls ≠ [] → ∀ (t : ByteArray) (b : Nat), ls[a]? = some t → ls'[b]? = some t → ks'[b]? = some v → Don l2 (u, v))) ∧ ys = [i j, .sl (l2.map pe)]) ks.length
      ⟨0, l ++ [p], by omega, hI2, fun _ h => h, (fun q hq hq2 => .inl (by rcases List.mem_append.1 hq with h | h; exact absurd h hq2; exact List.mem_singleton.1 h)), (fun a u v h => by omega), by rw [List.map_append]; rfl⟩ ?_
    rintro m' _ ⟨j, l2, hj, hJ, hsub, hnew, hdone, rfl⟩
    refine d_l _ (len_ty ks) fun _ => d_l (.bool (decide ((j : Int) < (ks.length : Int)))) rfl fun _ => d_dec (p := (j : Int) < (ks.length : Int)) (fun h => ?_) fun h => d_ret ⟨_, rfl, true, l2, hJ, fun q hq => hsub q (List.mem_append_left _ hq), (fun h => by cases h), fun _ => ⟨hDon hloc l2 (hsub p (by simp)), fun q h1 h2 => ?_⟩, rfl⟩
    · have hjk : j < ks.length := by omega
      have hjk' : j < ks'.length := by omega
      have hku : ks[j]? = some ks[j] := List.getElem?_eq_getElem hjk
      have hkv : ks'[j]? = some ks'[j] := List.getElem?_eq_getElem hjk'
      have cu : CL L M ks[j] := kx _ (List.getElem_mem hjk)
      have hl2 : l.length + 1 ≤ l2.length := by
        have := nodup_leU hI2.nd hsub
        simpa using this
      -- a child
      have child : ∀ (v : Ty), CL L M v → ERaw (.mk kd pr nm s ls ks) (.mk kd' pr' nm' s' ls' ks') (ks[j], v) → (∀ w, (ls = [] → ks'[j]? = some w → w = v) ∧ (ls ≠ [] → ∀ (t : ByteArray) (b : Nat), ls[j]? = some t → ls'[b]? = some t → ks'[b]? = some w → w = v)) →
          ∃ r l3, OkS P F.ref10_compare sg_ref10_compare [ks[j].enc, v.enc, .sl (l2.map pe)] [.bool r, .sl (l3.map pe)] ∧ (r = false → CInv L l3 ∧ (∀ q ∈ l, q ∈ l3) ∧ ¬ EqP (A, B)) ∧
            (r = true → ∃ m'' < m', ∃ (j' : Nat) (l2' : List (Ty × Ty)), j' + m'' = ks.length ∧ CInv L l2' ∧ (∀ q ∈ l ++ [p], q ∈ l2') ∧ (∀ q ∈ l2', q ∉ l → q = p ∨ ClP L M l2' q) ∧
              (∀ (a : Nat) u v, a < j' → ks[a]? = some u → (ls = [] → ks'[a]? = some v → Don l2' (u, v)) ∧ (ls ≠ [] → ∀ (t : ByteArray) (b : Nat), ls[a]? = some t → ls'[b]? = some t → ks'[b]? = some v → Don l2' (u, v))) ∧ [i ((j + 1 : Nat) : Int), .sl (l3.map pe)] = [i j', .sl (l2'.map pe)]) := by
        intro v cv hraw huniq
        obtain ⟨r, l3, hok, hI3, hs3, hf3, ht3⟩ := ih (n - 1) (by omega) ks[j] v l2 cu cv hJ (by omega)
        refine ⟨r, l3, hok, fun hr => ⟨hI3, fun q hq => hs3 q (hsub q (List.mem_append_left _ hq)), hstp _ hraw (hf3 hr)⟩, fun hr => ?_⟩
        obtain ⟨hd3, hc3⟩ := ht3 hr
        refine ⟨m' - 1, by omega, j + 1, l3, by omega, hI3, fun q hq => hs3 q (hsub q hq), fun q hq hql => ?_, fun a u w ha hu => ?_, rfl⟩
        · by_cases e : q ∈ l2
          · rcases hnew q e hql with h | h
            · exact .inl h
            · exact .inr (h.mono hs3)
          · exact .inr (hc3 q hq e)
        · by_cases e : a = j
          · subst e
            rw [hku] at hu; cases hu
            refine ⟨fun h1 h2 => ?_, fun h1 t b h2 h3 h4 => ?_⟩
            · rw [(huniq w).1 h1 h2]; exact hd3
            · rw [(huniq w).2 h1 t b h2 h3 h4]; exact hd3
          · obtain ⟨g1, g2⟩ := hdone a u w (by omega) hu
            exact ⟨fun h1 h2 => (g1 h1 h2).mono hs3, fun h1 t b h2 h3 h4 => (g2 h1 t b h2 h3 h4).mono hs3⟩
      refine d_l _ (e_idx (ty_at' hjk) (Ty.okc_enc _)) fun _ => d_l _ (e_okc (Ty.okc_enc _)) fun _ => d_l _ (e_idx (ty_at' hjk') (Ty.okc_enc _)) fun _ => d_l _ (e_okc (Ty.okc_enc _)) fun _ => d_l _ (len_str ls) fun _ => d_l (.bool (decide ((ls.length : Int) > 0))) rfl fun _ => d_dec (p := (ls.length : Int) > 0) (fun hls => ?_) fun hls => ?_
      · have hne : ls ≠ [] := fun e => by rw [e] at hls; simp at hls
        obtain ⟨c1, c2⟩ := hkk.2 hne
        have hjl : j < ls.length := by omega
        have hlt : ls[j]? = some ls[j] := List.getElem?_eq_getElem hjl
        obtain ⟨o, oY, sY, nY⟩ := lbY c2 ls[j]
        refine d_l _ (e_idx (str_at hjl) rfl) fun _ => d_call oY ?_
        cases o with
        | none => exact absurd ((hlab ls[j]).1 (List.getElem_mem hjl)) (nY rfl)
        | some v =>
          obtain ⟨b, hb1, hb2⟩ := sY v rfl
          have cv : CL L M v := ky v (List.mem_of_getElem? hb2)
          obtain ⟨r, l3, hok, hf, ht⟩ := child v cv (.inr ⟨hne, ls[j], j, b, hlt, hb1, hku, hb2⟩) fun w => ⟨fun e => absurd e hne, fun _ t b' h1 h2 h3 => by
            rw [hlt] at h1; cases h1
            obtain rfl := nodup_at hyn hb1 h2
            exact Option.some.inj (h3.symm.trans hb2)⟩
          refine d_l v.enc rfl fun _ => d_l (.bool true) rfl fun _ => d_l _ (e_okc (Ty.okc_enc v)) fun _ => d_calls rfl hok (d_l (.bool !r) rfl fun _ => d_ite (fun hr => d_ret ?_) fun hr => d_l _ (e_inc (by omega)) fun _ => d_cont rfl (ht (by simpa using hr)))
          obtain ⟨g1, g2, g3⟩ := hf (by simpa using hr)
          exact ⟨_, rfl, false, l3, g1, g2, fun _ => g3, (fun h => by cases h), by rw [show r = false by simpa using hr]; rfl⟩
      · have he : ls = [] := List.eq_nil_of_length_eq_zero (by omega)
        have cv : CL L M ks'[j] := ky _ (List.getElem_mem hjk')
        obtain ⟨r, l3, hok, hf, ht⟩ := child ks'[j] cv (.inl ⟨he, j, hku, hkv⟩) fun w => ⟨fun _ h => Option.some.inj (h.symm.trans hkv), fun hc => absurd he hc⟩
        refine d_calls rfl hok (d_l (.bool !r) rfl fun _ => d_ite (fun hr => d_ret ?_) fun hr => d_l _ (e_inc (by omega)) fun _ => d_cont rfl (ht (by simpa using hr)))
        obtain ⟨g1, g2, g3⟩ := hf (by simpa using hr)
        exact ⟨_, rfl, false, l3, g1, g2, fun _ => g3, (fun h => by cases h), by rw [show r = false by simpa using hr]; rfl⟩
    · rcases hnew q h1 h2 with rfl | hq
      · refine hCl l2 fun w hw => ?_
        rcases hw with ⟨g0, a, g1, g2⟩ | ⟨g0, t, a, b, f1, f2, g1, g2⟩
        · have := (List.getElem?_eq_some_iff.1 g1).1
          have : a < ks.length := this
          exact (hdone a w.1 w.2 (by omega) g1).1 g0 g2
        · have := (List.getElem?_eq_some_iff.1 g1).1
          have : a < ks.length := this
          exact (hdone a w.1 w.2 (by omega) g1).2 g0 t b f1 f2 g2
      · exact hq)
  obtain ⟨_, ⟨r, l', h1, h2, h3, h4, rfl⟩, h⟩ := this
  exact ⟨r, l', h, h1, h2, h3, h4⟩

theorem ok_ref10_Equal {L : List Ty} {M : Nat} (hM : M ≤ 1000) (hL : L.length ≤ 1000) {A B : Ty} (hA : CL L M A) (hB : CL L M B) : ∃ r, Ok P F.ref10_Equal [A.enc, B.enc] (.bool r) ∧ (r = true ↔ EqP (A, B)) := by
  obtain ⟨r, l', h, _, _, h1, h2⟩ := ok_compare hM hL (U10 L).length A B [] hA hB ⟨by simp, (fun q h => by cases h), fun q h => by cases h⟩ (by simp)
  refine ⟨r, k_ref10_Equal _ _ rfl (d_l _ (e_okc (Ty.okc_enc A)) fun _ => d_l _ (e_okc (Ty.okc_enc B)) fun _ => d_calls rfl h (d_ret rfl)), fun hr => ?_, fun he => ?_⟩
  · obtain ⟨g1, g2⟩ := h2 hr
    exact eqP_of (fun q hq => g2 q hq (by simp)) hA hB g1
  · cases hr : r with
    | true => rfl
    | false => exact absurd he (h1 hr)
end Go.Proofs.YtopinhoalbgebaaGreatDoor.Tx

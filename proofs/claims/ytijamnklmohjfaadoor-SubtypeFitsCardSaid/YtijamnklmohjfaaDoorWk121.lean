/- The reference's subtyping (2): closed types of a finite set, and what a pair needs. -/
import Derived.Test.YtijamnklmohjfaaDoorWk120
set_option linter.all false
namespace Go.Proofs.YtijamnklmohjfaaDoor.Tx
open Go.Lf Go.Lf.S Go.Lf.Duo
set_option maxRecDepth 100000

/-- a closed type of the list's, raised -/
def CL (L : List Ty) (M : Nat) (T : Ty) : Prop := ∃ ds r, OccR ds L M r T

theorem Occ.mem {ds : List Nd} {L : List Ty} {M : Nat} {t : Ty} {a : Int} {ns : List ByteArray} {refs : List Rf} {Ts : List Ty} {g : Nat} (h : Occ ds L M t a ns refs Ts g) : ∀ x ∈ occL ns Ts t, x ∈ L := by
  induction h with
  | top t a h hp hL hM => exact hL
  | down k p nm s ls x a ns refs Ts g h8 h ih =>
    intro y hy
    refine ih y ?_
    simp only [occL, if_pos h8, occLs, List.append_nil]
    exact List.mem_cons_of_mem _ hy
  | kid k p nm s ls ks a ns refs Ts g h8 h9 h j hj ih =>
    intro y hy
    refine ih y ?_
    simp only [occL, if_neg h8]
    exact List.mem_cons_of_mem _ (occLs_mem (List.getElem_mem hj) hy)

theorem CL.step {L : List Ty} {M : Nat} {T : Ty} (h : CL L M T) : ∃ u, Unf T u ∧ Shp M u ∧ ∀ k ∈ u.kids, CL L M k := by
  obtain ⟨ds, r, σ, t, a, ns, refs, Ts, g, ho, rfl, rfl⟩ := h
  obtain ⟨_, u, d, h1, h2, _, _, _, _, hl, hk⟩ := occ_step t ho (σ := σ)
  refine ⟨u, h1, h2, fun k hm => ?_⟩
  obtain ⟨j, hj, rfl⟩ := List.getElem_of_mem hm
  have hj' : j < d.next.length := by omega
  exact ⟨ds, _, hk j _ _ (List.getElem?_eq_getElem hj') (List.getElem?_eq_getElem hj)⟩
theorem CL.raise {L : List Ty} {M : Nat} {T : Ty} (k : Int) (h : CL L M T) : CL L M (raiseT k T) := by
  obtain ⟨ds, r, σ, t, a, ns, refs, Ts, g, ho, rfl, rfl⟩ := h
  exact ⟨ds, _, σ + k, t, a, ns, refs, Ts, g, ho, rfl, by rw [raise_raise]⟩
theorem CL.lm {L : List Ty} {M : Nat} {T : Ty} (h : CL L M T) : Lm M T := by
  obtain ⟨ds, r, σ, t, a, ns, refs, Ts, g, ho, rfl, rfl⟩ := h
  exact (Lm.sub (fun y T hy => ho.i.lts T (lkT_mem _ _ _ _ hy)) ho.i.lm).raise
theorem CL.base {L : List Ty} {M : Nat} {T : Ty} (h : CL L M T) : ∃ σ s, s ∈ L ∧ T = raiseT σ s ∧ CL L M s := by
  obtain ⟨ds, r, σ, t, a, ns, refs, Ts, g, ho, rfl, rfl⟩ := h
  exact ⟨σ, _, ho.mem _ (occL_self ns Ts t), rfl, ds, _, 0, t, a, ns, refs, Ts, g, ho, rfl, (raise0_sub ho.i.wf).symm⟩
theorem CL.ln {L : List Ty} {M : Nat} (hM : M ≤ 549755813888) {T : Ty} (h : CL L M T) : Ln T := h.lm.ln hM
theorem CL.unf {L : List Ty} {M : Nat} {T : Ty} (h : CL L M T) : Unf T (unfT T) ∧ Shp M (unfT T) ∧ ∀ k ∈ (unfT T).kids, CL L M k := by
  obtain ⟨u, h1, h2, h3⟩ := h.step
  rw [unfT_eq h1]; exact ⟨h1, h2, h3⟩
theorem Unf.to_unfT {T u : Ty} (h : Unf T u) : Unf T (unfT T) := by rw [unfT_eq h]; exact h

/-! what a pair needs -/
def TLoc (x y : Ty) : Prop := x.kind = y.kind ∧ x.prio = y.prio ∧ (x.kind = 6 → ∀ s ∈ y.labels, s ∈ x.labels) ∧ (x.kind = 7 → ∀ s ∈ x.labels, s ∈ y.labels)
def LRaw (x y : Ty) (s : ByteArray) (r : Ty × Ty) : Prop := ∃ i j : Nat, x.labels[i]? = some s ∧ y.labels[j]? = some s ∧ x.kids[i]? = some r.1 ∧ y.kids[j]? = some r.2
def TRaw (x y : Ty) (r : Ty × Ty) : Prop :=
  (x.kind = 4 ∧ y.kids[0]? = some r.1 ∧ x.kids[0]? = some r.2) ∨ (x.kind = 4 ∧ x.kids[1]? = some r.1 ∧ y.kids[1]? = some r.2) ∨
  (x.kind = 5 ∧ ∃ j : Nat, j < 2 ∧ x.kids[j]? = some r.1 ∧ y.kids[j]? = some r.2) ∨ ((x.kind = 6 ∨ x.kind = 7) ∧ ∃ s, LRaw x y s r)
def ndV : Option (List (Ty × Ty)) → PV
  | none => .tup [.sl [], .bool false]
  | some l => .tup [.sl (l.map pe), .bool true]
structure NdS (M : Nat) (x y : Ty) (o : Option (List (Ty × Ty))) : Prop where
  no : o = none → ¬ TLoc x y
  yes : ∀ l, o = some l → TLoc x y ∧ l.length ≤ M + 2 ∧ (∀ q ∈ l, ∃ r, TRaw x y r ∧ q = lw r) ∧ ∀ r, TRaw x y r → lw r ∈ l

theorem NdS.mk0 {M : Nat} {x y : Ty} (h : ¬ TLoc x y) : NdS M x y none := ⟨fun _ => h, fun _ e => by cases e⟩

theorem needs_loop {K : PV → Prop} {l : List ByteArray} {x y : Ty} {X Y : PV} (hl : l.length ≤ 1000000)
    (hX : ∀ s, ∃ o, Ok P F.ref08_Label [X, .str s] (lbV o) ∧ (∀ k, o = some k → ∃ j : Nat, x.labels[j]? = some s ∧ x.kids[j]? = some k) ∧ (o = none → s ∉ x.labels))
    (hY : ∀ s, ∃ o, Ok P F.ref08_Label [Y, .str s] (lbV o) ∧ (∀ k, o = some k → ∃ j : Nat, y.labels[j]? = some s ∧ y.kids[j]? = some k) ∧ (o = none → s ∉ y.labels))
    (hL : ∀ a ∈ x.kids, ∀ b ∈ y.kids, Ok P F.ref10_Lower [a.enc, b.enc] (pe (lw (a, b))))
    (hN : (∃ s ∈ l, s ∉ x.labels ∨ s ∉ y.labels) → K (ndV none))
    (hS : ∀ ps : List (Ty × Ty), ps.length = l.length → (∀ s ∈ l, ∃ r, LRaw x y s r ∧ lw r ∈ ps) → (∀ p ∈ ps, ∃ s r, LRaw x y s r ∧ p = lw r) → K (ndV (some ps))) :
    (T.loop [i 0, .sl []] fun y11 => .l .len [.sl (l.map .str)] fun x12 => .l (.cmp .lss .i64) [n y11 0, x12] fun x13 => .ite x13
      (.l (.idx 1 false) [.sl (l.map .str), n y11 0] fun x14 => .call F.ref08_Label [X, x14] fun x15 => .l (.tc 0) [x15] fun x16 => .l (.tc 1) [x15] fun x17 => .l (.okc 6 true) [x16] fun x18 =>
        .l (.idx 1 false) [.sl (l.map .str), n y11 0] fun x19 => .call F.ref08_Label [Y, x19] fun x20 => .l (.tc 0) [x20] fun x21 => .l (.tc 1) [x20] fun x22 => .l (.okc 6 true) [x21] fun x23 =>
        .l .bnot [x17] fun x24 => .ite x24 (.ret (.tup [.sl [], .bool false])) (.l .bnot [x22] fun x25 => .ite x25 (.ret (.tup [.sl [], .bool false]))
          (.call F.ref10_Lower [x18, x23] fun x26 => .l (.lst 12 true) [x26] fun x27 => .l (.app 12 true 176) [n y11 1, x27] fun x28 => .l (.arith .add .i64) [n y11 0, i 1] fun x29 => .cont 0 [x29, x28])))
      (.ret (.tup [n y11 1, .bool true]))).den0 P K [] := by
  refine den_loop (fun m' ys => ∃ (j : Nat) (ps : List (Ty × Ty)), j + m' = l.length ∧ ps.length = j ∧ (∀ s ∈ l.take j, ∃ r, LRaw x y s r ∧ lw r ∈ ps) ∧ (∀ p ∈ ps, ∃ s r, LRaw x y s r ∧ p = lw r) ∧ ys = [i j, .sl (ps.map pe)]) l.length ⟨0, [], by omega, rfl, by simp, by simp, rfl⟩ ?_
  rintro m' _ ⟨j, ps, hj, hp, h1, h2, rfl⟩
  refine d_l _ (len_str l) fun _ => d_l (.bool (decide ((j : Int) < (l.length : Int)))) rfl fun _ => d_dec (p := (j : Int) < (l.length : Int)) (fun h => ?_) fun h => d_ret ?_
  · have hjl : j < l.length := by omega
    have hm : l[j] ∈ l := List.getElem_mem hjl
    obtain ⟨o, oX, sX, nX⟩ := hX l[j]
    obtain ⟨o', oY, sY, nY⟩ := hY l[j]
    refine d_l _ (e_idx (str_at hjl) rfl) fun _ => d_call oX ?_
    cases o with
    | none =>
      refine d_l (.agg [i 0, i 0, .str ⟨#[]⟩, i 0, .sl [], .sl []]) rfl fun _ => d_l (.bool false) rfl fun _ => d_l _ rfl fun _ => d_l _ (e_idx (str_at hjl) rfl) fun _ => d_call oY ?_
      cases o' with
      | none => exact d_l (.agg [i 0, i 0, .str ⟨#[]⟩, i 0, .sl [], .sl []]) rfl fun _ => d_l (.bool false) rfl fun _ => d_l _ rfl fun _ => d_l (.bool true) rfl fun _ => d_true (d_ret (hN ⟨_, hm, .inl (nX rfl)⟩))
      | some b => exact d_l b.enc rfl fun _ => d_l (.bool true) rfl fun _ => d_l _ (e_okc (Ty.okc_enc b)) fun _ => d_l (.bool true) rfl fun _ => d_true (d_ret (hN ⟨_, hm, .inl (nX rfl)⟩))
    | some a =>
      refine d_l a.enc rfl fun _ => d_l (.bool true) rfl fun _ => d_l _ (e_okc (Ty.okc_enc a)) fun _ => d_l _ (e_idx (str_at hjl) rfl) fun _ => d_call oY ?_
      cases o' with
      | none => exact d_l (.agg [i 0, i 0, .str ⟨#[]⟩, i 0, .sl [], .sl []]) rfl fun _ => d_l (.bool false) rfl fun _ => d_l _ rfl fun _ => d_l (.bool false) rfl fun _ => d_false (d_l (.bool true) rfl fun _ => d_true (d_ret (hN ⟨_, hm, .inr (nY rfl)⟩)))
      | some b =>
        obtain ⟨qa, a1, a2⟩ := sX a rfl
        obtain ⟨qb, b1, b2⟩ := sY b rfl
        refine d_l b.enc rfl fun _ => d_l (.bool true) rfl fun _ => d_l _ (e_okc (Ty.okc_enc b)) fun _ => d_l (.bool false) rfl fun _ => d_false (d_l (.bool false) rfl fun _ => d_false (d_call (hL a (List.mem_of_getElem? a2) b (List.mem_of_getElem? b2)) ?_))
        refine d_l (.sl [pe (lw (a, b))]) (e_lst fun x hx => by simp at hx; subst hx; exact pe_okc _) fun _ => d_l (.sl (ps.map pe ++ [pe (lw (a, b))])) (e_app (l := ps.map pe) (m := [pe (lw (a, b))]) (fun x hx => by simp at hx; subst hx; exact pe_okc _) (by simp; omega) (by simp; omega)) fun _ => d_l _ (e_inc (by omega)) fun _ => d_cont rfl ⟨m' - 1, by omega, j + 1, ps ++ [lw (a, b)], by omega, by simp [hp], fun s hs => ?_, fun p hp => ?_, by rw [List.map_append]; rfl⟩
        · rw [List.take_succ_eq_append_getElem hjl] at hs
          rcases List.mem_append.1 hs with hs | hs
          · obtain ⟨r, r1, r2⟩ := h1 s hs
            exact ⟨r, r1, List.mem_append_left _ r2⟩
          · obtain rfl := List.mem_singleton.1 hs
            exact ⟨(a, b), ⟨qa, qb, a1, b1, a2, b2⟩, by simp⟩
        · rcases List.mem_append.1 hp with hp | hp
          · exact h2 p hp
          · obtain rfl := List.mem_singleton.1 hp
            exact ⟨_, (a, b), ⟨qa, qb, a1, b1, a2, b2⟩, rfl⟩
  · have e : l.take j = l := List.take_of_length_le (by omega)
    rw [e] at h1
    exact hS ps (by omega) h1 h2

theorem two_list {α : Type} {l : List α} (h : l.length = 2) : ∃ a b, l = [a, b] := by
  match l, h with
  | [a, b], _ => exact ⟨a, b, rfl⟩

theorem ok_needs {L : List Ty} {M : Nat} (hM : M ≤ 1000000) {q : Ty × Ty} (h1 : CL L M q.1) (h2 : CL L M q.2) : ∃ o, Ok P F.ref11_needs [pe q] (ndV o) ∧ NdS M (unfT q.1) (unfT q.2) o := by
  obtain ⟨hx, sx, kx⟩ := h1.unf
  obtain ⟨hy, sy, ky⟩ := h2.unf
  have hU1 := ok_ref02_Unfold hx (h1.ln (by omega))
  have hU2 := ok_ref02_Unfold hy (h2.ln (by omega))
  have hxx := unf_self hx
  have hyy := unf_self hy
  generalize unfT q.1 = x at *
  generalize unfT q.2 = y at *
  rw [← pe_1 q] at hU1
  rw [← pe_2 q] at hU2
  have lx := sx.lm.ln (show M ≤ 549755813888 by omega)
  have ly := sy.lm.ln (show M ≤ 549755813888 by omega)
  have mx : x.labels.length ≤ M := by cases sx.lm with | mk _ h _ _ => exact h
  have my : y.labels.length ≤ M := by cases sy.lm with | mk _ h _ _ => exact h
  have low : ∀ a b, CL L M a → CL L M b → Ok P F.ref10_Lower [a.enc, b.enc] (pe (lw (a, b))) := fun a b ha hb => ok_Lower ha.unf.1 (ha.ln (by omega)) (hb.ln (by omega))
  have := tx_ex (K := fun z => ∃ o, z = ndV o ∧ NdS M x y o) k_ref11_needs (xs := [pe q]) rfl (by simp [t_ref11_needs, T.dt]) (by
    have lbX : 6 ≤ x.kind ∧ x.kind ≤ 7 → ∀ s, _ := fun hk => ok_Label hxx lx (by omega) (sx.k7 hk)
    have lbY : 6 ≤ y.kind ∧ y.kind ≤ 7 → ∀ s, _ := fun hk => ok_Label hyy ly (by omega) (sy.k7 hk)
    have uniq : ∀ s r r', LRaw x y s r → LRaw x y s r' → r = r' := by
      rintro s r r' ⟨i1, j1, a1, a2, a3, a4⟩ ⟨i2, j2, b1, b2, b3, b4⟩
      obtain rfl := nodup_at sx.nd a1 b1
      obtain rfl := nodup_at sy.nd a2 b2
      rw [a3] at b3; rw [a4] at b4
      exact two_same.2 ⟨Option.some.inj b3, Option.some.inj b4⟩
    have k5x := sx.k5; have k5y := sy.k5
    obtain ⟨k, p, nm, s, ls, ks⟩ := x
    obtain ⟨k', p', nm', s', ls', ks'⟩ := y
    rw [Ty.enc_mk] at hU1 hU2
    simp only [Ty.kind, Ty.labels, Ty.kids] at mx my kx ky k5x k5y lbX lbY
    rw [Ty.enc_mk] at lbX lbY
    refine d_l _ (e_okc (pe_okc q)) fun _ => d_call hU1 (d_l (.agg [i k, i p, .str nm, i s, .sl (ls.map .str), .sl (ks.map Ty.enc)]) rfl fun _ => d_call hU2 (d_l (.agg [i k', i p', .str nm', i s', .sl (ls'.map .str), .sl (ks'.map Ty.enc)]) rfl fun _ => ?_))
    refine d_l (.bool (!decide (k = k'))) rfl fun _ => d_ndec (fun h => d_ret ⟨none, rfl, NdS.mk0 fun hc => h hc.1⟩) fun ek => d_l (.bool (!decide (p = p'))) rfl fun _ => d_ndec (fun h => d_ret ⟨none, rfl, NdS.mk0 fun hc => h hc.2.1⟩) fun ep => ?_
    subst ek ep
    have ok1 : ∀ (r1 r2 : Ty × Ty), (Prim.lst 12 true).ev [pe r1, pe r2] = some (.sl [pe r1, pe r2]) := fun r1 r2 => e_lst fun x hx => by
      simp only [List.mem_cons, List.not_mem_nil, or_false] at hx
      rcases hx with rfl | rfl <;> exact pe_okc _
    have ok2 : ∀ (r1 r2 : Ty × Ty), (Prim.app 12 true 176).ev [.sl [], .sl [pe r1, pe r2]] = some (.sl [pe r1, pe r2]) := fun r1 r2 => e_app (l := []) (m := [pe r1, pe r2]) (fun x hx => by
      simp only [List.mem_cons, List.not_mem_nil, or_false] at hx
      rcases hx with rfl | rfl <;> exact pe_okc _) (by simp) (by simp)
    refine d_l (.bool (decide (k = 4))) rfl fun _ => d_dec (p := k = 4) (fun e4 => ?_) fun e4 => ?_
    · subst e4
      obtain ⟨a, b, rfl⟩ := two_list (k5x ⟨by omega, by omega⟩).1
      obtain ⟨a', b', rfl⟩ := two_list (k5y ⟨by omega, by omega⟩).1
      refine d_l a'.enc (e_idx (k := 0) rfl (Ty.okc_enc _)) fun _ => d_l a.enc (e_idx (k := 0) rfl (Ty.okc_enc _)) fun _ => d_call (low a' a (ky _ (by simp)) (kx _ (by simp))) (d_l b.enc (e_idx (k := 1) rfl (Ty.okc_enc _)) fun _ => d_l b'.enc (e_idx (k := 1) rfl (Ty.okc_enc _)) fun _ => d_call (low b b' (kx _ (by simp)) (ky _ (by simp))) (d_l _ (ok1 _ _) fun _ => d_l _ (ok2 _ _) fun _ => d_ret ⟨some [lw (a', a), lw (b, b')], rfl, (fun h => by cases h), fun l hl => ?_⟩))
      cases hl
      refine ⟨⟨rfl, rfl, (fun h => by cases h), fun h => by cases h⟩, by simp, fun q hq => ?_, fun r hr => ?_⟩
      · simp only [List.mem_cons, List.not_mem_nil, or_false] at hq
        rcases hq with rfl | rfl
        · exact ⟨_, .inl ⟨rfl, rfl, rfl⟩, rfl⟩
        · exact ⟨_, .inr (.inl ⟨rfl, rfl, rfl⟩), rfl⟩
      · obtain ⟨u, v⟩ := r
        rcases hr with ⟨_, e1, e2⟩ | ⟨_, e1, e2⟩ | ⟨h, _⟩ | ⟨h | h, _⟩
        · cases Option.some.inj e1; cases Option.some.inj e2; simp
        · cases Option.some.inj e1; cases Option.some.inj e2; simp
        · cases h
        · cases h
        · cases h
    refine d_l (.bool (decide (k = 5))) rfl fun _ => d_dec (p := k = 5) (fun e5 => ?_) fun e5 => ?_
    · subst e5
      obtain ⟨a, b, rfl⟩ := two_list (k5x ⟨by omega, by omega⟩).1
      obtain ⟨a', b', rfl⟩ := two_list (k5y ⟨by omega, by omega⟩).1
      refine d_l a.enc (e_idx (k := 0) rfl (Ty.okc_enc _)) fun _ => d_l a'.enc (e_idx (k := 0) rfl (Ty.okc_enc _)) fun _ => d_call (low a a' (kx _ (by simp)) (ky _ (by simp))) (d_l b.enc (e_idx (k := 1) rfl (Ty.okc_enc _)) fun _ => d_l b'.enc (e_idx (k := 1) rfl (Ty.okc_enc _)) fun _ => d_call (low b b' (kx _ (by simp)) (ky _ (by simp))) (d_l _ (ok1 _ _) fun _ => d_l _ (ok2 _ _) fun _ => d_ret ⟨some [lw (a, a'), lw (b, b')], rfl, (fun h => by cases h), fun l hl => ?_⟩))
      cases hl
      refine ⟨⟨rfl, rfl, (fun h => by cases h), fun h => by cases h⟩, by simp, fun q hq => ?_, fun r hr => ?_⟩
      · simp only [List.mem_cons, List.not_mem_nil, or_false] at hq
        rcases hq with rfl | rfl
        · exact ⟨_, .inr (.inr (.inl ⟨rfl, 0, by omega, rfl, rfl⟩)), rfl⟩
        · exact ⟨_, .inr (.inr (.inl ⟨rfl, 1, by omega, rfl, rfl⟩)), rfl⟩
      · obtain ⟨u, v⟩ := r
        rcases hr with ⟨h, _⟩ | ⟨h, _⟩ | ⟨_, j, hj, e1, e2⟩ | ⟨h | h, _⟩
        · cases h
        · cases h
        · have : j = 0 ∨ j = 1 := by omega
          rcases this with rfl | rfl
          · cases Option.some.inj e1; cases Option.some.inj e2; simp
          · cases Option.some.inj e1; cases Option.some.inj e2; simp
        · cases h
        · cases h
    have fin : ∀ (hk : k = 6 ∨ k = 7) (l : List ByteArray) (hl : l.length ≤ M) (hsub : ∀ s, s ∈ l → (k = 6 → s ∈ ls') ∧ (k = 7 → s ∈ ls)) (hsup : ∀ s, (k = 6 → s ∈ ls' → s ∈ l) ∧ (k = 7 → s ∈ ls → s ∈ l)),
        ((∃ s ∈ l, s ∉ ls ∨ s ∉ ls') → NdS M (.mk k p nm s ls ks) (.mk k p nm' s' ls' ks') none) ∧
        (∀ ps : List (Ty × Ty), ps.length = l.length → (∀ t ∈ l, ∃ r, LRaw (.mk k p nm s ls ks) (.mk k p nm' s' ls' ks') t r ∧ lw r ∈ ps) → (∀ q ∈ ps, ∃ t r, LRaw (.mk k p nm s ls ks) (.mk k p nm' s' ls' ks') t r ∧ q = lw r) → NdS M (.mk k p nm s ls ks) (.mk k p nm' s' ls' ks') (some ps)) := by
      intro hk l hl hsub hsup
      refine ⟨fun ⟨t, ht, hno⟩ => NdS.mk0 fun ⟨_, _, c3, c4⟩ => ?_, fun ps hps e1 e2 => ⟨(fun h => by cases h), fun l' hl' => ?_⟩⟩
      · simp only [Ty.kind, Ty.labels] at c3 c4
        have := hsub t ht
        rcases hk with rfl | rfl
        · have a := this.1 rfl
          exact hno.elim (fun h => h (c3 rfl t a)) fun h => h a
        · have a := this.2 rfl
          exact hno.elim (fun h => h a) fun h => h (c4 rfl t a)
      · cases hl'
        refine ⟨⟨rfl, rfl, fun h t ht => ?_, fun h t ht => ?_⟩, by omega, fun q hq => ?_, fun r hr => ?_⟩
        · obtain ⟨r, ⟨i1, j1, a1, _⟩, _⟩ := e1 t ((hsup t).1 h ht)
          exact List.mem_of_getElem? a1
        · obtain ⟨r, ⟨i1, j1, _, a1, _⟩, _⟩ := e1 t ((hsup t).2 h ht)
          exact List.mem_of_getElem? a1
        · obtain ⟨t, r, hr, e⟩ := e2 q hq
          exact ⟨r, .inr (.inr (.inr ⟨hk, t, hr⟩)), e⟩
        · rcases hr with ⟨h, _⟩ | ⟨h, _⟩ | ⟨h, _⟩ | ⟨_, t, hr⟩
          · have h : k = 4 := h; omega
          · have h : k = 4 := h; omega
          · have h : k = 5 := h; omega
          · have htl : t ∈ l := by
              obtain ⟨i1, j1, a1, a2, _⟩ := hr
              rcases hk with e | e
              · exact (hsup t).1 e (List.mem_of_getElem? a2)
              · exact (hsup t).2 e (List.mem_of_getElem? a1)
            obtain ⟨r', hr', hm⟩ := e1 t htl
            rw [uniq t r r' hr hr']; exact hm
    have low' : ∀ a ∈ ks, ∀ b ∈ ks', Ok P F.ref10_Lower [a.enc, b.enc] (pe (lw (a, b))) := fun a ha b hb => low a b (kx a ha) (ky b hb)
    refine d_l (.bool (decide (k = 6))) rfl fun _ => d_dec (p := k = 6) (fun e6 => ?_) fun e6 => ?_
    · refine d_l (.bool (decide (k = 7))) rfl fun _ => d_dec (p := k = 7) (fun e7 => by omega) fun e7 => ?_
      obtain ⟨f1, f2⟩ := fin (.inl e6) ls' my (fun s hs => ⟨fun _ => hs, fun h => absurd h e7⟩) (fun s => ⟨fun _ h => h, fun h => absurd h e7⟩)
      exact needs_loop (x := .mk k p nm s ls ks) (y := .mk k p nm' s' ls' ks') (by omega) (lbX ⟨by omega, by omega⟩) (lbY ⟨by omega, by omega⟩) low' (fun h => ⟨none, rfl, f1 h⟩) fun ps h1 h2 h3 => ⟨some ps, rfl, f2 ps h1 h2 h3⟩
    · refine d_l (.bool (decide (k = 7))) rfl fun _ => d_dec (p := k = 7) (fun e7 => ?_) fun e7 => ?_
      · refine d_l (.bool (decide (k = 7))) rfl fun _ => d_dec (p := k = 7) (fun _ => ?_) fun h => absurd e7 h
        obtain ⟨f1, f2⟩ := fin (.inr e7) ls mx (fun s hs => ⟨fun h => absurd h e6, fun _ => hs⟩) (fun s => ⟨fun h => absurd h e6, fun _ h => h⟩)
        exact needs_loop (x := .mk k p nm s ls ks) (y := .mk k p nm' s' ls' ks') (by omega) (lbX ⟨by omega, by omega⟩) (lbY ⟨by omega, by omega⟩) low' (fun h => ⟨none, rfl, f1 h⟩) fun ps h1 h2 h3 => ⟨some ps, rfl, f2 ps h1 h2 h3⟩
      · refine d_ret ⟨some [], rfl, (fun h => by cases h), fun l hl => ?_⟩
        cases hl
        refine ⟨⟨rfl, rfl, fun h => absurd h e6, fun h => absurd h e7⟩, by simp, (fun q hq => by cases hq), fun r hr => ?_⟩
        rcases hr with ⟨h, _⟩ | ⟨h, _⟩ | ⟨h, _⟩ | ⟨h | h, _⟩
        · exact absurd h e4
        · exact absurd h e4
        · exact absurd h e5
        · exact absurd h e6
        · exact absurd h e7)
  obtain ⟨_, ⟨o, rfl, ho⟩, h⟩ := this
  exact ⟨o, h, ho⟩
end Go.Proofs.YtijamnklmohjfaaDoor.Tx

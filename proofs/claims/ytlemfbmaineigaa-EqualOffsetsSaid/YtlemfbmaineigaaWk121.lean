/- The reference's subtyping (2): closed types of a finite set, and what a pair needs. -/
import Derived.Test.YtlemfbmaineigaaWk120
set_option linter.all false
namespace Go.Proofs.Ytlemfbmaineigaa.Tx
open Go.Lf Go.Lf.S Go.Lf.Duo
set_option maxRecDepth 100000

/-- a closed type of the list's, raised -/
def CL (L : List Ty) (M : Nat) (T : Ty) : Prop := ∃ ds r, OccR ds L M r T

theorem Occ.mem {ds : List Nd} {L : List Ty} {M : Nat} {t : Ty} {a : Int} {ns : List ByteArray} {refs : List Rf} {Ts : List Ty} {g : Nat} (h : Occ ds L M t a ns refs Ts g) : ∀ x ∈ occL ns Ts t, x ∈ L := by
  induction h with
  | top t a h hp hL hM => exact hL
  | down k p nm s ls x a ns refs Ts g h8 h ih =>
    intro y hy
    refine ih y ?_
    simp only [occL, if_pos h8, occLs, List.append_nil]
    exact List.mem_cons_of_mem _ hy
  | kid k p nm s ls ks a ns refs Ts g h8 h9 h j hj ih =>
    intro y hy
    refine ih y ?_
    simp only [occL, if_neg h8]
    exact List.mem_cons_of_mem _ (occLs_mem (List.getElem_mem hj) hy)

theorem CL.step {L : List Ty} {M : Nat} {T : Ty} (h : CL L M T) : ∃ u, Unf T u ∧ Shp M u ∧ ∀ k ∈ u.kids, CL L M k := by
  obtain ⟨ds, r, σ, t, a, ns, refs, Ts, g, ho, rfl, rfl⟩ := h
  obtain ⟨_, u, d, h1, h2, _, _, _, _, hl, hk⟩ := occ_step t ho (σ := σ)
  refine ⟨u, h1, h2, fun k hm => ?_⟩
  obtain ⟨j, hj, rfl⟩ := List.getElem_of_mem hm
  have hj' : j < d.next.length := by omega
  exact ⟨ds, _, hk j _ _ (List.getElem?_eq_getElem hj') (List.getElem?_eq_getElem hj)⟩
theorem CL.raise {L : List Ty} {M : Nat} {T : Ty} (k : Int) (h : CL L M T) : CL L M (raiseT k T) := by
  obtain ⟨ds, r, σ, t, a, ns, refs, Ts, g, ho, rfl, rfl⟩ := h
  exact ⟨ds, _, σ + k, t, a, ns, refs, Ts, g, ho, rfl, by rw [raise_raise]⟩
theorem CL.lm {L : List Ty} {M : Nat} {T : Ty} (h : CL L M T) : Lm M T := by
  obtain ⟨ds, r, σ, t, a, ns, refs, Ts, g, ho, rfl, rfl⟩ := h
  exact (Lm.sub (fun y T hy => ho.i.lts T (lkT_mem _ _ _ _ hy)) ho.i.lm).raise
theorem CL.base {L : List Ty} {M : Nat} {T : Ty} (h : CL L M T) : ∃ σ s, s ∈ L ∧ T = raiseT σ s ∧ CL L M s := by
  obtain ⟨ds, r, σ, t, a, ns, refs, Ts, g, ho, rfl, rfl⟩ := h
  exact ⟨σ, _, ho.mem _ (occL_self ns Ts t), rfl, ds, _, 0, t, a, ns, refs, Ts, g, ho, rfl, (raise0_sub ho.i.wf).symm⟩
theorem CL.ln {L : List Ty} {M : Nat} (hM : M ≤ 549755813888) {T : Ty} (h : CL L M T) : Ln T := h.lm.ln hM
theorem CL.unf {L : List Ty} {M : Nat} {T : Ty} (h : CL L M T) : Unf T (unfT T) ∧ Shp M (unfT T) ∧ ∀ k ∈ (unfT T).kids, CL L M k := by
  obtain ⟨u, h1, h2, h3⟩ := h.step
  rw [unfT_eq h1]; exact ⟨h1, h2, h3⟩
theorem Unf.to_unfT {T u : Ty} (h : Unf T u) : Unf T (unfT T) := by rw [unfT_eq h]; exact h

/-! what a pair needs -/
def TLoc (x y : Ty) : Prop := x.kind = y.kind ∧ x.prio = y.prio ∧ (x.kind = 6 → ∀ s ∈ y.labels, s ∈ x.labels) ∧ (x.kind = 7 → ∀ s ∈ x.labels, s ∈ y.labels)
def LRaw (x y : Ty) (s : ByteArray) (r : Ty × Ty) : Prop := ∃ i j : Nat, x.labels[i]? = some s ∧ y.labels[j]? = some s ∧ x.kids[i]? = some r.1 ∧ y.kids[j]? = some r.2
def TRaw (x y : Ty) (r : Ty × Ty) : Prop :=
  (x.kind = 4 ∧ y.kids[0]? = some r.1 ∧ x.kids[0]? = some r.2) ∨ (x.kind = 4 ∧ x.kids[1]? = some r.1 ∧ y.kids[1]? = some r.2) ∨
  (x.kind = 5 ∧ ∃ j : Nat, j < 2 ∧ x.kids[j]? = some r.1 ∧ y.kids[j]? = some r.2) ∨ ((x.kind = 6 ∨ x.kind = 7) ∧ ∃ s, LRaw x y s r)
def ndV : Option (List (Ty × Ty)) → PV
  | none => .tup [.sl [], .bool false]
  | some l => .tup [.sl (l.map pe), .bool true]
structure NdS (M : Nat) (x y : Ty) (o : Option (List (Ty × Ty))) : Prop where
  no : o = none → ¬ TLoc x y
  yes : ∀ l, o = some l → TLoc x y ∧ l.length ≤ M + 2 ∧ (∀ q ∈ l, ∃ r, TRaw x y r ∧ q = lw r) ∧ ∀ r, TRaw x y r → lw r ∈ l

theorem NdS.mk0 {M : Nat} {x y : Ty} (h : ¬ TLoc x y) : NdS M x y none := ⟨fun _ => h, fun _ e => by cases e⟩

theorem needs_loop {K : PV → Prop} {l : List ByteArray} {x y : Ty} {X Y : PV} (hl : l.length ≤ 1000000)
    (hX : ∀ s, ∃ o, Ok P F.ref08_Label [X, .str s] (lbV o) ∧ (∀ k, o = some k → ∃ j : Nat, x.labels[j]? = some s ∧ x.kids[j]? = some k) ∧ (o = none → s ∉ x.labels))
    (hY : ∀ s, ∃ o, Ok P F.ref08_Label [Y, .str s] (lbV o) ∧ (∀ k, o = some k → ∃ j : Nat, y.labels[j]? = some s ∧ y.kids[j]? = some k) ∧ (o = none → s ∉ y.labels))
    (hL : ∀ a ∈ x.kids, ∀ b ∈ y.kids, Ok P F.ref10_Lower [a.enc, b.enc] (pe (lw (a, b))))
    (hN : (∃ s ∈ l, s ∉ x.labels ∨ s ∉ y.labels) → K (ndV none))
    (hS : ∀ ps : List (Ty × Ty), ps.length = l.length → (∀ s ∈ l, ∃ r, LRaw x y s r ∧ lw r ∈ ps) → (∀ p ∈ ps, ∃ s r, LRaw x y s r ∧ p = lw r) → K (ndV (some ps))) :
    (T.loop [i 0, .sl []] fun y11 => .l .len [.sl (l.map .str)] fun x12 => .l (.cmp .lss .i64) [n y11 0, x12] fun x13 => .ite x13
      (.l (.idx 1 false) [.sl (l.map .str), n y11 0] fun x14 => .call F.ref08_Label [X, x14] fun x15 => .l (.tc 0) [x15] fun x16 => .l (.tc 1) [x15] fun x17 => .l (.okc 6 true) [x16] fun x18 =>
        .l (.idx 1 false) [.sl (l.map .str), n y11 0] fun x19 => .call F.ref08_Label [Y, x19] fun x20 => .l (.tc 0) [x20] fun x21 => .l (.tc 1) [x20] fun x22 => .l (.okc 6 true) [x21] fun x23 =>
        .l .bnot [x17] fun x24 => .ite x24 (.ret (.tup [.sl [], .bool false])) (.l .bnot [x22] fun x25 => .ite x25 (.ret (.tup [.sl [], .bool false]))
          (.call F.ref10_Lower [x18, x23] fun x26 => .l (.lst 12 true) [x26] fun x27 => .l (.app 12 true 176) [n y11 1, x27] fun x28 => .l (.arith .add .i64) [n y11 0, i 1] fun x29 => .cont 0 [x29, x28])))
      (.ret (.tup [n y11 1, .bool true]))).den0 P K [] := by
  refine den_loop (fun m' ys => ∃ (j : Nat) (ps : List (Ty × Ty)), j + m' = l.length ∧ ps.length = j ∧ (∀ s ∈ l.take j, ∃ r, LRaw x y s r ∧ lw r ∈ ps) ∧ (∀ p ∈ ps, ∃ s r, LRaw x y s r ∧ p = lw r) ∧ ys = [i j, .sl (ps.map pe)]) l.length ⟨0, [], by omega, rfl, by simp, by simp, rfl⟩ ?_
  rintro m' _ ⟨j, ps, hj, hp, h1, h2, rfl⟩
  refine d_l _ (len_str l) fun _ => d_l (.bool (decide ((j : Int) < (l.length : Int)))) rfl fun _ => d_dec (p := (j : Int) < (l.length : Int)) (fun h => ?_) fun h => d_ret ?_
  · have hjl : j < l.length := by omega
    have hm : l[j] ∈ l := List.getElem_mem hjl
    obtain ⟨o, oX, sX, nX⟩ := hX l[j]
    obtain ⟨o', oY, sY, nY⟩ := hY l[j]
    refine d_l _ (e_idx (str_at hjl) rfl) fun _ => d_call oX ?_
    cases o with
    | none =>
      refine d_l (.agg [i 0, i 0, .str ⟨#[]⟩, i 0, .sl [], .sl []]) rfl fun _ => d_l (.bool false) rfl fun _ => d_l _ rfl fun _ => d_l _ (e_idx (str_at hjl) rfl) fun _ => d_call oY ?_
      cases o' with
      | none => exact d_l (.agg [i 0, i 0, .str ⟨#[]⟩, i 0, .sl [], .sl []]) rfl fun _ => d_l (.bool false) rfl fun _ => d_l _ rfl fun _ => d_l (.bool true) rfl fun _ => d_true (d_ret (hN ⟨_, hm, .inl (nX rfl)⟩))
      | some b => exact d_l b.enc rfl fun _ => d_l (.bool true) rfl fun _ => d_l _ (e_okc (Ty.okc_enc b)) fun _ => d_l (.bool true) rfl fun _ => d_true (d_ret (hN ⟨_, hm, .inl (nX rfl)⟩))
    | some a =>
      refine d_l a.enc rfl fun _ => d_l (.bool true) rfl fun _ => d_l _ (e_okc (Ty.okc_enc a)) fun _ => d_l _ (e_idx (str_at hjl) rfl) fun _ => d_call oY ?_
      cases o' with
      | none => exact d_l (.agg [i 0, i 0, .str ⟨#[]⟩, i 0, .sl [], .sl []]) rfl fun _ => d_l (.bool false) rfl fun _ => d_l _ rfl fun _ => d_l (.bool false) rfl fun _ => d_false (d_l (.bool true) rfl fun _ => d_true (d_ret (hN ⟨_, hm, .inr (nY rfl)⟩)))
      | some b =>
        obtain ⟨qa, a1, a2⟩ := sX a rfl
        obtain ⟨qb, b1, b2⟩ := sY b rfl
        refine d_l b.enc rfl fun _ => d_l (.bool true) rfl fun _ => d_l _ (e_okc (Ty.okc_enc b)) fun _ => d_l (.bool false) rfl fun _ => d_false (d_l (.bool false) rfl fun _ => d_false (d_call (hL a (List.mem_of_getElem? a2) b (List.mem_of_getElem? b2)) ?_))
        refine d_l (.sl [pe (lw (a, b))]) (e_lst fun x hx => by simp at hx; subst hx; exact pe_okc _) fun _ => d_l (.sl (ps.map pe ++ [pe (lw (a, b))])) (e_app (l := ps.map pe) (m := [pe (lw (a, b))]) (fun x hx => by simp at hx; subst hx; exact pe_okc _) (by simp; omega) (by simp; omega)) fun _ => d_l _ (e_inc (by omega)) fun _ => d_cont rfl ⟨m' - 1, by omega, j + 1, ps ++ [lw (a, b)], by omega, by simp [hp], fun s hs => ?_, fun p hp => ?_, by rw [List.map_append]; rfl⟩
        · rw [List.take_succ_eq_append_getElem hjl] at hs
          rcases List.mem_append.1 hs with hs | hs
          · obtain ⟨r, r1, r2⟩ := h1 s hs
            exact ⟨r, r1, List.mem_append_left _ r2⟩
          · obtain rfl := List.mem_singleton.1 hs
            exact ⟨(a, b), ⟨qa, qb, a1, b1, a2, b2⟩, by simp⟩
        · rcases List.mem_append.1 hp with hp | hp
          · exact h2 p hp
          · obtain rfl := List.mem_singleton.1 hp
            exact ⟨_, (a, b), ⟨qa, qb, a1, b1, a2, b2⟩, rfl⟩
  · have e : l.take j = l := List.take_of_length_le (by omega)
    rw [e] at h1
    exact hS ps (by omega) h1 h2

theorem two_list {α : Type} {l : List α} (h : l.length = 2) : ∃ a b, l = [a, b] := by
  match l, h with
  | [a, b], _ => exact ⟨a, b, rfl⟩

end Go.Proofs.Ytlemfbmaineigaa.Tx

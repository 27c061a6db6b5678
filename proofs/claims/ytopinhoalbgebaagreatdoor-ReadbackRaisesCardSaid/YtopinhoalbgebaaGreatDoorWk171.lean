/- The normal tree as a function on closed types: equality of trees; the function. -/
import Derived.Test.YtopinhoalbgebaaGreatDoorWk129
import Derived.Lib.ItoaNum
set_option linter.all false
namespace Go.Proofs.YtopinhoalbgebaaGreatDoor.Tx
open Go.Lf Go.Lf.S Go.Lf.Duo
set_option maxRecDepth 100000

/-! what a closed type unfolds to is one of the list's too -/
theorem occU_rec {ds : List Nd} {L : List Ty} {M : Nat} {k p : Int} {nm : ByteArray} {s : Int} {ls : List ByteArray} {x : Ty} {a : Int} {ns : List ByteArray} {refs : List Rf} {Ts : List Ty} {g : Nat} {σ : Int} (h8 : k = 8) (h : Occ ds L M (.mk k p nm s ls [x]) a ns refs Ts g)
    (hs : ∃ u, Unf (raiseT σ (sub (lkT (ns ++ [nm]) (Ts ++ [sub (lkT ns Ts) (.mk k p nm s ls [x])])) x)) u ∧ CL L M u) :
    ∃ u, Unf (raiseT σ (sub (lkT ns Ts) (.mk k p nm s ls [x]))) u ∧ CL L M u := by
  have hi := h.i
  obtain ⟨x', hx', hw⟩ := wf_kid8 hi.wf h8
  cases hx'
  rw [lkT_snoc _ _ _ _ hi.l2.symm, ← put_sub hw (fun y T hy _ => hi.clo T (lkT_mem _ _ _ _ hy) nm), ← raise_put] at hs
  obtain ⟨u, h1, h2⟩ := hs
  refine ⟨u, ?_, h2⟩
  have e : raiseT σ (sub (lkT ns Ts) (.mk k p nm s ls [x])) = .mk k p nm s ls [raiseT σ (sub ((lkT ns Ts).del nm) x)] := by
    rw [sub_8 h8, raiseT_mk, if_neg (by omega)]; rfl
  refine .step _ (raiseT σ (sub ((lkT ns Ts).del nm) x)) u [] (by rw [e]; exact h8) (by rw [e]; rfl) ?_
  have en : (raiseT σ (sub (lkT ns Ts) (.mk k p nm s ls [x]))).name = nm := by rw [e]; rfl
  rw [en]; exact h1
theorem occU_node {ds : List Nd} {L : List Ty} {M : Nat} {k p : Int} {nm : ByteArray} {s : Int} {ls : List ByteArray} {ks : List Ty} {a : Int} {ns : List ByteArray} {refs : List Rf} {Ts : List Ty} {g : Nat} {σ : Int} (h8 : ¬ k = 8) (h9 : ¬ k = 9) (h : Occ ds L M (.mk k p nm s ls ks) a ns refs Ts g) :
    ∃ u, Unf (raiseT σ (sub (lkT ns Ts) (.mk k p nm s ls ks))) u ∧ CL L M u := by
  have hc : CL L M (raiseT σ (sub (lkT ns Ts) (.mk k p nm s ls ks))) := ⟨ds, _, σ, _, a, ns, refs, Ts, g, h, rfl, rfl⟩
  refine ⟨_, ?_, hc⟩
  have e : raiseT σ (sub (lkT ns Ts) (.mk k p nm s ls ks)) = .mk k (if 4 ≤ k ∧ k ≤ 7 then ad p σ else p) nm s ls ((ks.map (sub (lkT ns Ts))).map (raiseT σ)) := by rw [sub_o h8 h9, raiseT_mk]
  have := Unf.done (raiseT σ (sub (lkT ns Ts) (.mk k p nm s ls ks))) (by rw [e]; exact h8)
  rw [raise_raise] at this
  simpa using this
theorem occU_hd {ds : List Nd} {L : List Ty} {M : Nat} : ∀ (n : Nat) {t : Ty} {a : Int} {ns : List ByteArray} {refs : List Rf} {Ts : List Ty} {g : Nat} {σ : Int}, Hd n t → Occ ds L M t a ns refs Ts g →
    ∃ u, Unf (raiseT σ (sub (lkT ns Ts) t)) u ∧ CL L M u := by
  intro n
  induction n with
  | zero =>
    intro t a ns refs Ts g σ hh h
    obtain ⟨k, p, nm, s, ls, ks⟩ := t
    cases hh with
    | done _ h8 h9 _ _ => exact occU_node h8 h9 h
  | succ n ih =>
    intro t a ns refs Ts g σ hh h
    obtain ⟨k, p, nm, s, ls, ks⟩ := t
    cases hh with
    | step _ _ x h8 hk hh =>
      have hk : ks = [x] := hk
      subst hk
      exact occU_rec h8 h (ih hh (.down k p nm s ls x a ns refs Ts g h8 h))
theorem occU {ds : List Nd} {L : List Ty} {M : Nat} : ∀ (t : Ty) {a : Int} {ns : List ByteArray} {refs : List Rf} {Ts : List Ty} {g : Nat} {σ : Int}, Occ ds L M t a ns refs Ts g →
    ∃ u, Unf (raiseT σ (sub (lkT ns Ts) t)) u ∧ CL L M u := by
  intro t
  induction t using Ty.ind with
  | _ t ih =>
  intro a ns refs Ts g σ h
  have hi := h.i
  obtain ⟨k, p, nm, s, ls, ks⟩ := t
  by_cases h9 : k = 9
  · obtain ⟨j, hj, hla⟩ := wf_var hi.wf h9
    have hjn : j < ns.length := Nat.lt_of_lt_of_le hj hi.gle
    have hl1 := hi.l1
    have hl2 := hi.l2
    have h2 := lkT_at ns Ts nm j hla.1 hla.2 (by omega)
    obtain ⟨t', a', ns', refs', Ts', g', e1, e2, e3, e4⟩ := hi.ent j (by omega) (by omega)
    obtain ⟨m, hm⟩ := e4 (.inl hj)
    rw [sub_9 h9 h2, raise_raise, e3]
    exact occU_hd m hm e1
  · by_cases h8 : k = 8
    · obtain ⟨x, rfl, hw⟩ := wf_kid8 hi.wf h8
      exact occU_rec h8 h (ih x (by simp [Ty.kids]) (.down k p nm s ls x a ns refs Ts g h8 h))
    · exact occU_node h8 h9 h
theorem CL.unfC {L : List Ty} {M : Nat} {T : Ty} (h : CL L M T) : CL L M (unfT T) := by
  obtain ⟨ds, r, σ, t, a, ns, refs, Ts, g, ho, rfl, rfl⟩ := h
  obtain ⟨u, h1, h2⟩ := occU t ho (σ := σ)
  rw [unfT_eq h1]; exact h2
theorem CL.ex {L : List Ty} {M : Nat} {T : Ty} (h : CL L M T) : ∃ u, Unf T u := ⟨_, h.unf.1⟩
theorem CL.uu {L : List Ty} {M : Nat} {T : Ty} (h : CL L M T) : unfT (unfT T) = unfT T := unf_unf h.ex

/-! equality of trees -/
theorem Shp.nk {M : Nat} {u : Ty} (h : Shp M u) : u.kids.length = if u.kind ≤ 3 then 0 else if u.kind ≤ 5 then 2 else u.labels.length := by
  have h1 := h.k1
  split
  · rename_i c; rw [(h.k3 c).1]; rfl
  · split
    · rename_i c c2; exact (h.k5 ⟨by omega, c2⟩).1
    · exact h.k7 ⟨by omega, h1.2⟩
theorem ELoc.symm {x y : Ty} (h : ELoc x y) : ELoc y x := ⟨h.1.symm, h.2.1.symm, fun s => (h.2.2 s).symm⟩
theorem ELoc.nil {x y : Ty} (h : ELoc x y) : x.labels = [] ↔ y.labels = [] := by
  constructor
  · intro e
    refine List.eq_nil_iff_forall_not_mem.2 fun s hs => ?_
    have := (h.2.2 s).2 hs
    rw [e] at this; cases this
  · intro e
    refine List.eq_nil_iff_forall_not_mem.2 fun s hs => ?_
    have := (h.2.2 s).1 hs
    rw [e] at this; cases this
theorem ELoc.len {M M' : Nat} {x y : Ty} (h : ELoc x y) (hx : Shp M x) (hy : Shp M' y) : x.kids.length = y.kids.length := by
  rw [hx.nk, hy.nk, h.1, same_set hx.nd hy.nd h.2.2]
theorem eqP_refl {L : List Ty} {M : Nat} {A : Ty} (h : CL L M A) : EqP (A, A) := by
  refine ⟨fun q => q.1 = q.2 ∧ CL L M q.1, ⟨rfl, h⟩, ?_⟩
  rintro ⟨B, B'⟩ ⟨he, hB⟩
  obtain rfl : B = B' := he
  have hB : CL L M B := hB
  refine ⟨⟨rfl, rfl, fun s => Iff.rfl⟩, fun w hw => ?_⟩
  have hc := hw.cl hB.unf.2.2 hB.unf.2.2
  refine ⟨?_, hc.1⟩
  rcases hw with ⟨_, j, e1, e2⟩ | ⟨_, s, i, j, f1, f2, e1, e2⟩
  · exact Option.some.inj (e1.symm.trans e2)
  · obtain rfl := nodup_at hB.unf.2.1.nd f1 f2
    exact Option.some.inj (e1.symm.trans e2)
theorem ERaw.symm {x y : Ty} (h : ELoc x y) {w : Ty × Ty} (hw : ERaw x y w) : ERaw y x (w.2, w.1) := by
  rcases hw with ⟨e, j, e1, e2⟩ | ⟨e, s, i, j, f1, f2, e1, e2⟩
  · exact .inl ⟨h.nil.1 e, j, e2, e1⟩
  · exact .inr ⟨fun c => e (h.nil.2 c), s, j, i, f2, f1, e2, e1⟩
theorem ERaw.unraise {x y : Ty} {δ : Int} {w : Ty × Ty} (hw : ERaw (raiseT δ x) (raiseT δ y) w) : ∃ w', ERaw x y w' ∧ w = (raiseT δ w'.1, raiseT δ w'.2) := by
  rcases hw with ⟨g0, j, g1, g2⟩ | ⟨g0, s, i, j, f1, f2, g1, g2⟩
  · rw [raise_labels] at g0
    rw [raise_kids, List.getElem?_map, Option.map_eq_some_iff] at g1 g2
    obtain ⟨u, hu, e3⟩ := g1
    obtain ⟨v, hv, e4⟩ := g2
    exact ⟨(u, v), .inl ⟨g0, j, hu, hv⟩, Prod.ext e3.symm e4.symm⟩
  · rw [raise_labels] at g0 f1 f2
    rw [raise_kids, List.getElem?_map, Option.map_eq_some_iff] at g1 g2
    obtain ⟨u, hu, e3⟩ := g1
    obtain ⟨v, hv, e4⟩ := g2
    exact ⟨(u, v), .inr ⟨g0, s, i, j, f1, f2, hu, hv⟩, Prod.ext e3.symm e4.symm⟩
theorem eqP_raise {L : List Ty} {M : Nat} {A B : Ty} (cA : CL L M A) (cB : CL L M B) (k : Int) (h : EqP (A, B)) : EqP (raiseT k A, raiseT k B) := by
  refine ⟨fun q => ∃ A B, q = (raiseT k A, raiseT k B) ∧ CL L M A ∧ CL L M B ∧ EqP (A, B), ⟨A, B, rfl, cA, cB, h⟩, ?_⟩
  clear h cA cB
  rintro _ ⟨A, B, rfl, cA, cB, h⟩
  obtain ⟨l1, s1⟩ := h.step
  simp only at l1 s1
  simp only [unfT_raise k cA.ex, unfT_raise k cB.ex]
  refine ⟨l1.raise k, fun w hw => ?_⟩
  obtain ⟨w', hw', rfl⟩ := hw.unraise
  have hc := hw'.cl cA.unf.2.2 cB.unf.2.2
  exact ⟨w'.1, w'.2, rfl, hc.1, hc.2, s1 _ hw'⟩
theorem raise0 {L : List Ty} {M : Nat} {T : Ty} (h : CL L M T) : raiseT 0 (unfT T) = unfT T := (unf_done h.unf.1).2
theorem eqP_raise_iff {L : List Ty} {M : Nat} {A B : Ty} (cA : CL L M A) (cB : CL L M B) (hA : raiseT 0 A = A) (hB : raiseT 0 B = B) (k : Int) : EqP (raiseT k A, raiseT k B) ↔ EqP (A, B) := by
  refine ⟨fun h => ?_, eqP_raise cA cB k⟩
  have := eqP_raise (cA.raise k) (cB.raise k) (-k) h
  rw [raise_raise, raise_raise, show k + -k = 0 by omega, hA, hB] at this
  exact this
end Go.Proofs.YtopinhoalbgebaaGreatDoor.Tx

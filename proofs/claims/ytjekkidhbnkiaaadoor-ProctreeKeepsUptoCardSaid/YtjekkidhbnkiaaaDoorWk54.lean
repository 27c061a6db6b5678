/- Contracts: the nodes of a type one by one, few, sizes; lists backward. -/
import Derived.Test.YtjekkidhbnkiaaaDoorWk53
set_option linter.all false
namespace Go.Proofs.YtjekkidhbnkiaaaDoor.Tx
open Go.Lf Go.Lf.S Go.Lf.Duo
set_option maxRecDepth 100000
section
variable {K : PV → Prop} {hs : List (List PV → Prop)}
/-- a range over a function that may be left -/
theorem d_iterG {x : PV} {n : Nat} {xs : List PV} {bC bS : List PV → List PV → T PV} {after : List PV → T PV} {L : List (List PV)} (hL : ItsV P x L) (hn : ∀ y ∈ L, y.length = n)
  (I : Nat → List PV → Prop) (h0 : I 0 xs) (hs1 : ∀ (j : Nat) (y : List PV), L[j]? = some y → ∀ zs, I j zs → (∃ zs', (bC y zs).den0 P K (hs ++ [fun us => us = zs']) ∧ I (j + 1) zs') ∨ (bS y zs).den0 P K hs)
  (ha : ∀ zs, I L.length zs → (after zs).den0 P K hs) : (T.iter x n xs bC bS after).den0 P K hs := by
 refine ⟨L, hL, hn, ?_⟩
 clear hL hn
 induction L generalizing xs I with
 | nil => exact ha _ h0
 | cons y L ih =>
  rcases hs1 0 y rfl xs h0 with ⟨zs', h1, h2⟩ | h1
  ·exact .inl ⟨zs', h1, ih (fun j => I (j + 1)) h2 (fun j y hy zs hz => hs1 (j + 1) y (by simpa using hy) zs hz) fun zs hz => ha zs hz⟩
  ·exact .inr h1
end
/-- the elements, one by one, till the party has enough: has it not? -/
def runs2 (X : Xt) : List (List PV) → PV → Option (Bool × PV)
 | [], x => some (true, x)
 | y :: l, x => match X.step x y with
  | some (true, x') => runs2 X l x'
  | some (false, x') => some (false, x')
  | none => none
theorem runs2_app (X : Xt) : ∀ (l r : List (List PV)) (x : PV), runs2 X (l ++ r) x = match runs2 X l x with
  | some (true, x') => runs2 X r x'
  | o => o
 | [], r, x => rfl
 | y :: l, r, x => by
  simp only [List.cons_append, runs2]
  split
  ·exact runs2_app X l r _
  ·rfl
  ·rfl
theorem runs_2 (X : Xt) : ∀ (l : List (List PV)) (x s : PV), X.runs l x = some s → ∃ b, runs2 X l x = some (b, s)
 | [], x, s, h => ⟨true, by simp only [Xt.runs] at h; cases h; rfl⟩
 | y :: l, x, s, h => by
  simp only [Xt.runs] at h
  simp only [runs2]
  split at h
  ·rename_i x' hx; rw [hx]; exact runs_2 X l x' s h
  ·rename_i x' hx; cases h; rw [hx]; exact ⟨false, rfl⟩
  ·cases h
mutual
/-- the nodes, each before its kids -/
def pre : Ty → List Ty
 | .mk k p nm s ls ks => .mk k p nm s ls ks :: pres ks
def pres : List Ty → List Ty
 | [] => []
 | t :: r => pre t ++ pres r
end
mutual
theorem pre_len : ∀ t : Ty, (pre t).length = t.sz
 | .mk k p nm s ls ks => by simp only [pre, List.length_cons, Ty.sz]; rw [pres_len ks]
theorem pres_len : ∀ l : List Ty, (pres l).length = Ty.szs l
 | [] => rfl
 | t :: r => by simp only [pres, List.length_append, Ty.szs]; rw [pre_len t, pres_len r]
end
theorem pres_drop {l : List Ty} {j : Nat} (h : j < l.length) : pres (l.drop j) = pre l[j] ++ pres (l.drop (j + 1)) := by
 rw [List.drop_eq_getElem_cons h]; rfl
def e1 (t : Ty) : List PV := [t.enc]
theorem ty_at0 {ks : List Ty} {j : Nat} (h : j < ks.length) : (ks.map Ty.enc)[j]? = some (ks[j]).enc := by simp [h]
theorem okX_visit (X : Xt) (hX : XtC P X) : ∀ (t : Ty) (s s' : PV) (b : Bool), t.sz ≤ 1099511627776 → runs2 X ((pre t).map e1) s = some (b, s') → @OkX inferInstance { l := gl.l, x := X } P F.typetree_visit [some t.enc, none] s (.bool b) s' := by
 intro t
 induction t using Ty.ind with
 | _ t ih =>
 intro s s' b hz hr
 have hlen := szs_len t.kids
 obtain ⟨k, p, nm, sh, ls, ks⟩ := t
 simp only [Ty.sz, Ty.kids] at hz hlen
 simp only [pre, List.map_cons, runs2] at hr
 refine x_typetree_visit X hX [(Ty.mk k p nm sh ls ks).enc, .nilI, s] _ _ ?_
 letI : Gl := { l := gl.l, x := X }
 refine d_l (Ty.mk k p nm sh ls ks).enc (e_okc (Ty.okc_enc _)) fun _ => ?_
 have stop : ∀ s1, X.step s (e1 (Ty.mk k p nm sh ls ks)) = some (false, s1) → b = false ∧ s' = s1 := fun s1 h => by
  rw [h] at hr; cases hr; exact ⟨rfl, rfl⟩
 have go : ∀ s1, X.step s (e1 (Ty.mk k p nm sh ls ks)) = some (true, s1) → runs2 X ((pres ks).map e1) s1 = some (b, s') := fun s1 h => by rw [h] at hr; exact hr
 cases hst : X.step s (e1 (Ty.mk k p nm sh ls ks)) with
 | none => rw [hst] at hr; cases hr
 | some q =>
  obtain ⟨b1, s1⟩ := q
  refine d_yld hst (d_l (.bool !b1) rfl fun _ => d_ite (fun hb => d_ret ?_) fun hb => ?_)
  ·have hb : b1 = false := by simpa using hb
   subst hb
   obtain ⟨rfl, rfl⟩ := stop _ hst; rfl
  ·have hb : b1 = true := by simpa using hb
   subst hb
   rw [Ty.enc_mk]
   refine d_l _ e_len fun _ => ?_
   refine den_loop (fun m ys => ∃ (j : Nat) (st : PV), j + m = ks.length ∧ runs2 X ((pres (ks.drop j)).map e1) st = some (b, s') ∧ ys = [i j, st]) ks.length ⟨0, s1, by omega, go _ hst, rfl⟩ ?_
   rintro m _ ⟨j, st, hj, hru, rfl⟩
   refine d_l _ rfl fun _ => d_dec (fun h => ?_) fun h => ?_
   ·have hlt : j < ks.length := by have h : (j : Int) < ((ks.map Ty.enc).length : Int) := h; simp at h; omega
    have hmem : ks[j] ∈ ks := List.getElem_mem hlt
    have hs1 := Ty.szs_mem hmem
    refine d_l _ (e_idx (ty_at0 hlt) (Ty.okc_enc _)) fun _ => d_l _ (e_okc (Ty.okc_enc _)) fun _ => ?_
    rw [pres_drop hlt, List.map_append, runs2_app] at hru
    cases h2 : runs2 X ((pre ks[j]).map e1) st with
    | none => rw [h2] at hru; cases hru
    | some q =>
     obtain ⟨b2, s2⟩ := q
     rw [h2] at hru
     refine ⟨_, _, ih _ hmem st s2 b2 (by omega) h2, d_l (.bool !b2) rfl fun _ => d_ite (fun hb => d_ret ?_) fun hb => ?_⟩
     ·have hb : b2 = false := by simpa using hb
      subst hb
      cases hru; rfl
     ·have hb : b2 = true := by simpa using hb
      subst hb
      exact d_l _ (e_inc (by omega)) fun _ => d_cont rfl ⟨m - 1, by omega, j + 1, s2, by omega, hru, rfl⟩
   ·have h : ¬ (j : Int) < ((ks.map Ty.enc).length : Int) := h
    simp at h
    rw [List.drop_eq_nil_of_le (by omega)] at hru
    have : (true, st) = (b, s') := Option.some.inj hru
    cases this
    exact d_ret rfl
theorem itsV_nodes (t : Ty) (hz : t.sz ≤ 1099511627776) : ItsV P (.fn F.typetree_nodes_1 [] [.box t.enc]) ((pre t).map e1) := by
 refine ⟨_, _, rfl, fun X hX s0 s' hr => ?_⟩
 obtain ⟨b, hb⟩ := runs_2 X _ _ _ hr
 refine x_typetree_nodes_1 X hX [.nilI, .box t.enc, s0] _ _ ?_
 letI : Gl := { l := gl.l, x := X }
 refine d_l t.enc (by show (if t.enc.okc 6 true then some t.enc else none) = _; rw [if_pos (Ty.okc_enc t)]) fun _ => ?_
 exact ⟨_, _, okX_visit X hX t s0 s' b hz hb, d_ret rfl⟩
theorem ok_typetree_nodes (t : Ty) : Ok P F.typetree_nodes [t.enc] (.fn F.typetree_nodes_1 [] [.box t.enc]) :=
 k_typetree_nodes _ _ rfl (d_l t.enc (e_okc (Ty.okc_enc t)) fun _ => d_ret rfl)
theorem ok_typetree_Size (t : Ty) (hz : t.sz ≤ 1099511627776) : Ok P F.typetree_Size [t.enc] (i t.sz) := by
 refine k_typetree_Size _ _ rfl ?_
 refine d_l t.enc (e_okc (Ty.okc_enc t)) fun _ => d_l (i 0) rfl fun _ => d_call (ok_typetree_nodes t) ?_
 have hl := pre_len t
 refine d_iter (itsV_nodes t hz) (fun y hy => by obtain ⟨p, _, rfl⟩ := List.mem_map.1 hy; rfl) (fun j zs => zs = [i (j : Int)]) rfl ?_ ?_
 ·rintro j y hy _ rfl
  have hj := (List.getElem?_eq_some_iff.1 hy).1
  simp only [List.length_map] at hj
  exact ⟨[i ((j + 1 : Nat) : Int)], d_l _ (e_inc (by omega)) fun _ => d_l (i ((j + 1 : Nat) : Int)) rfl fun _ => d_cont rfl rfl, rfl⟩
 ·rintro zs hz
  rw [List.length_map, hl] at hz
  subst hz
  exact d_ret rfl
theorem ok_typetree_few (t : Ty) (hz : t.sz ≤ 1099511627776) (m : Nat) (hm : m ≤ 1099511627776) : Ok P F.typetree_few [t.enc, i (m : Int)] (.bool (decide (t.sz ≤ m))) := by
 refine k_typetree_few _ _ rfl ?_
 refine d_l t.enc (e_okc (Ty.okc_enc t)) fun _ => d_l (i (m : Int)) rfl fun _ => d_call (ok_typetree_nodes t) ?_
 have hl := pre_len t
 refine d_iterG (itsV_nodes t hz) (fun y hy => by obtain ⟨p, _, rfl⟩ := List.mem_map.1 hy; rfl) (fun j zs => j ≤ m ∧ zs = [i ((m : Int) - (j : Int))]) ⟨by omega, by simp⟩ ?_ ?_
 ·rintro j y hy _ ⟨hjm, rfl⟩
  have hj := (List.getElem?_eq_some_iff.1 hy).1
  simp only [List.length_map] at hj
  by_cases h : j < m
  ·refine .inl ⟨[i ((m : Int) - ((j + 1 : Nat) : Int))], ?_, by omega, rfl⟩
   have e : (m : Int) - (j : Int) - 1 = (m : Int) - ((j + 1 : Nat) : Int) := by omega
   exact d_l _ (e_sub (by omega) (by omega)) fun _ => d_l _ rfl fun _ => d_l _ rfl fun _ => d_dec (fun h1 => absurd (show (m : Int) - (j : Int) - 1 < 0 from h1) (by omega)) fun _ => d_cont rfl (by rw [e])
  ·refine .inr (d_l _ (e_sub (by omega) (by omega)) fun _ => d_l _ rfl fun _ => d_l _ rfl fun _ => d_dec (fun _ => d_ret ?_) fun h1 => absurd (show (m : Int) - (j : Int) - 1 < 0 by omega) h1)
   rw [decide_eq_false (by omega)]
 ·rintro zs ⟨h1, rfl⟩
  rw [List.length_map, hl] at h1
  exact d_ret (by rw [decide_eq_true h1])
/-! a list backward -/
end Go.Proofs.YtjekkidhbnkiaaaDoor.Tx

/- An evaluator with rules for the library's calls; the rules of this seat. -/
import Derived.Test.YtkpnmgohbipjjaaGreatDoorWk54
import Derived.Test.YtkpnmgohbipjjaaGreatDoorWk150b
set_option linter.all false
namespace Go.Proofs.YtkpnmgohbipjjaaGreatDoor.Tx
open Go.Lf Go.Lf.S Go.Lf.Duo
set_option maxRecDepth 100000
def evRl (xf : Nat → List PV → Option PV) (xS : Nat → Sig → List PV → Option (List PV)) (tb : List (Nat × Tx)) (tbS : List (Nat × TxS)) (L n : Nat) : (Nat → List PV → Option PV) × (Nat → Sig → List PV → Option (List PV)) :=
 Nat.rec (motive := fun _ => (Nat → List PV → Option PV) × (Nat → Sig → List PV → Option (List PV))) (fun _ _ => none, fun _ _ _ => none)
  (fun _ ih => (fun f xs => match xf f xs with
    | some r => some r
    | none => match lookE tb f with
     | some t => if Nat.beq xs.length t.n then run ih.1 ih.2 L (t.t xs) [] else none
     | none => none,
   fun f s xs => match xS f s xs with
    | some ys => some ys
    | none => match lookS tbS f s with
     | some t => if s = t.s then (match run ih.1 ih.2 L (t.t xs) [] with
      | some (.tup ys) => if Nat.beq ys.length s.nout then some ys else none
      | _ => none) else none
     | none => none)) n
theorem evRl_good {P : Program} {xf : Nat → List PV → Option PV} {xS : Nat → Sig → List PV → Option (List PV)} {tb : List (Nat × Tx)} {tbS : List (Nat × TxS)} {L : Nat} (hf : ∀ f xs r, xf f xs = some r → Ok P f xs r)
  (hS : ∀ f s xs ys, xS f s xs = some ys → ys.length = s.nout ∧ OkS P f s xs ys) (h1 : AllOk P tb) (h2 : AllOkS P tbS) : ∀ n, GoodEv P (evRl xf xS tb tbS L n).1 (evRl xf xS tb tbS L n).2
 | 0 => ⟨(fun f xs r h => by cases h), (fun f s xs ys h => by cases h)⟩
 | n + 1 => by
  have ih := evRl_good hf hS h1 h2 (L := L) n
  refine ⟨fun f xs r h => ?_, fun f s xs ys h => ?_⟩
  ·have h : (match xf f xs with
    | some r => some r
    | none => match lookE tb f with
     | some t => if Nat.beq xs.length t.n then run (evRl xf xS tb tbS L n).1 (evRl xf xS tb tbS L n).2 L (t.t xs) [] else none
     | none => none) = some r := h
   split at h
   ·rename_i r' hr; cases h; exact hf _ _ _ hr
   ·split at h
    ·rename_i t ht
     split at h
     ·rename_i hl
      exact allOk_at h1 ht xs r (Nat.eq_of_beq_eq_true hl) (run_sound ih L _ [] [] ⟨rfl, fun lvl b g h1 => by simp at h1⟩ h)
     ·cases h
    ·cases h
  ·have h : (match xS f s xs with
    | some ys => some ys
    | none => match lookS tbS f s with
     | some t => if s = t.s then (match run (evRl xf xS tb tbS L n).1 (evRl xf xS tb tbS L n).2 L (t.t xs) [] with
      | some (.tup ys) => if Nat.beq ys.length s.nout then some ys else none
      | _ => none) else none
     | none => none) = some ys := h
   split at h
   ·rename_i ys' hy; cases h; exact hS _ _ _ _ hy
   ·split at h
    ·rename_i t ht
     split at h
     ·rename_i hsm
      have := hsm
      split at h
      ·rename_i zs hz
       split at h
       ·rename_i hl
        simp at h; subst h
        refine ⟨Nat.eq_of_beq_eq_true hl, ?_⟩
        rw [this]
        exact allOkS_atS h2 ht xs _ (run_sound ih L _ [] [] ⟨rfl, fun lvl b g h1 => by simp at h1⟩ hz)
       ·cases h
      ·cases h
     ·cases h
    ·cases h
/-- a list of texts -/
def strs : List PV → Option (List (List UInt8))
 | [] => some []
 | .str b :: l => match strs l with
  | some zs => some (ofB b :: zs)
  | none => none
 | _ :: _ => none
theorem strs_eq : ∀ {l : List PV} {zs : List (List UInt8)}, strs l = some zs → l = zs.map strL
 | [], zs, h => by cases h; rfl
 | .str b :: l, zs, h => by
  unfold strs at h
  split at h
  ·rename_i ms hm
   cases h
   rw [List.map_cons, ← strs_eq hm, strL_ofB]
  ·cases h
/-- the library's calls with memory -/
def xS26 (f : Nat) (s : Sig) (xs : List PV) : Option (List PV) :=
 if Nat.beq f F.maps_Clone_graph_scope_string_graph_Ref then (if s = sg_maps_Clone_graph_scope_string_graph_Ref then (match xs with
  | [.mp ks vs] => some [.mp ks vs, .mp ks vs]
  | _ => none) else none)
 else if Nat.beq f F.maps_Clone_scope_names_string_bool then (if s = sg_maps_Clone_scope_names_string_bool then (match xs with
  | [.mp ks vs] => some [.mp ks vs]
  | _ => none) else none)
 else if Nat.beq f F.slices_Grow_int_int then (if s = sg_slices_Grow_int_int then (match xs with
  | [.int .i64 (.ofNat m)] => if Nat.ble m 1000 then some [.sl []] else none
  | _ => none) else none)
 else if Nat.beq f F.slices_Compact_int_int then (if s = sg_slices_Compact_int_int then (if peqs xs [.sl [i 0, i 1, i 1, i 2, i 3, i 5]] then some [.sl [i 0, i 1, i 2, i 3, i 5]] else none) else none)
 else if Nat.beq f F.slices_Compact_string_string then (if s = sg_slices_Compact_string_string then (match xs with
  | [.sl l] => match strs l with
   | some zs => if Nat.ble zs.length 1000 then some [.sl ((Lib.compact zs).map strL)] else none
   | none => none
  | _ => none) else none)
 else none
theorem xS26_ok : ∀ f s xs ys, xS26 f s xs = some ys → ys.length = s.nout ∧ OkS P f s xs ys := by
 intro f s xs ys h
 unfold xS26 at h
 split at h
 ·rename_i hf
  have hf := Nat.eq_of_beq_eq_true hf
  split at h
  ·rename_i hs
   split at h
   ·rename_i ks vs
    cases h
    subst hf hs
    exact ⟨rfl, okS_Clone_map ks vs⟩
   ·cases h
  ·cases h
 ·split at h
  ·rename_i hf
   have hf := Nat.eq_of_beq_eq_true hf
   split at h
   ·rename_i hs
    split at h
    ·rename_i ks vs
     cases h
     subst hf hs
     exact ⟨rfl, okS_CloneN ks vs⟩
    ·cases h
   ·cases h
  ·split at h
   ·rename_i hf
    have hf := Nat.eq_of_beq_eq_true hf
    split at h
    ·rename_i hs
     split at h
     ·rename_i m
      split at h
      ·rename_i hm
       cases h
       subst hf hs
       have := Nat.le_of_ble_eq_true hm
       exact ⟨rfl, okS_Grow m (by omega)⟩
      ·cases h
     ·cases h
    ·cases h
   ·split at h
    ·rename_i hf
     have hf := Nat.eq_of_beq_eq_true hf
     split at h
     ·rename_i hs
      split at h
      ·rename_i hp
       cases h
       subst hf hs
       have hp := peqs_eq hp
       subst hp
       have hc : Lib.compact ([0, 1, 1, 2, 3, 5] : List Int) = [0, 1, 2, 3, 5] := by decide
       have := okS_CompI [0, 1, 1, 2, 3, 5] (by decide)
       rw [hc] at this
       exact ⟨rfl, this⟩
      ·cases h
     ·cases h
    ·split at h
     ·rename_i hf
      have hf := Nat.eq_of_beq_eq_true hf
      split at h
      ·rename_i hs
       split at h
       ·split at h
        ·rename_i zs hz
         split at h
         ·rename_i hm
          have hm := Nat.le_of_ble_eq_true hm
          cases h
          subst hf hs
          rw [strs_eq hz]
          exact ⟨rfl, okS_CompS zs (by omega)⟩
         ·cases h
        ·cases h
       ·cases h
      ·cases h
     ·cases h
end Go.Proofs.YtkpnmgohbipjjaaGreatDoor.Tx

/- The function spoil, by the kit's walk. -/
import Derived.Test.YtjekkidhbnkiaaaDoorWk211
import Derived.WalkKit
import Derived.BigCall
import Derived.Lib.Hide
set_option linter.all false
namespace Go.Proofs.YtjekkidhbnkiaaaDoor.Tx
open Go.Lf Go.Lf.S Go.Lf.Duo Go.RowKit
set_option maxRecDepth 100000
theorem cell_new (w : World) (cs : Array Value) (t j : Nat) (v : Value) (h : cs[j]? = some v) : (w.alloc (.cells cs t)).cell? ⟨w.heap.size, j, none⟩ = some v := by
 simp only [World.cell?, World.alloc, Array.getElem?_push_size]
 simpa using h
theorem Tw.one12 {n : Nat} {w w' : World} (h : Tw n w w') {b o : Nat} (hall : ∀ j, j < 12 → ∃ u, w.cell? ⟨b, o + j, none⟩ = some u ∧ u.oneCell' = true) (j : Nat) (hj : j < 12) : ∃ u, w'.cell? ⟨b, o + j, none⟩ = some u ∧ u.oneCell' = true := by
 obtain ⟨u, h1, h2⟩ := hall j hj
 obtain ⟨u', h3, h4, _⟩ := h.cell _ _ h1
 exact ⟨u', h3, h4.one h2⟩
set_option maxHeartbeats 4000000 in
theorem spoil_walk (n : Nat) (hn0 : 0 < n) : ∀ (p : Pr) (w : World) (c0 c1 c2 c3 c4 c5 c6 c7 c8 c9 c10 c11 : Value), n ≤ w.heap.size → PSh n w (fun j => #[c0, c1, c2, c3, c4, c5, c6, c7, c8, c9, c10, c11][j]?) p →
  Calls P 16 #[.agg #[c0, c1, c2, c3, c4, c5, c6, c7, c8, c9, c10, c11]] w fun e w' => e = .returned (.tuple #[]) ∧ Tw n w w' := by
 intro p
 induction p using Pr.ind with
 | _ p ih =>
 intro w c0 c1 c2 c3 c4 c5 c6 c7 c8 c9 c10 c11 hnw hp
 cases hp with
 | mk _ _ al aa at_ ak cl ca ct ck h3 h4 h10 h11 hm hl ha ht hk hr =>
 obtain rfl : c3 = .slice al p.labels.length cl := by simpa using h3
 obtain rfl : c4 = .slice aa p.args.length ca := by simpa using h4
 obtain rfl : c10 = .slice at_ p.t.kids.length ct := by simpa using h10
 obtain rfl : c11 = .slice ak p.kids.length ck := by simpa using h11
 clear h3 h4 h10 h11
 have HL := Go.Lib.hid hl
 have HA := Go.Lib.hid ha
 have HT := Go.Lib.hid ht
 have HK := Go.Lib.hid hk
 have HR := Go.Lib.hid hr
 have HI := Go.Lib.hid ih
 clear hl ha ht hk hr ih
 go_enter Tryd.func16, Tryd.ntmps16
 go_wp2
 have q3 : (w.alloc (.cells #[c0, c1, c2, .slice al p.labels.length cl, .slice aa p.args.length ca, c5, c6, c7, c8, c9, .slice at_ p.t.kids.length ct, .slice ak p.kids.length ck] 29)).cell? ⟨w.heap.size, 3, none⟩ = some (.slice al p.labels.length cl) := cell_new _ _ _ _ _ rfl
 have q4 : (w.alloc (.cells #[c0, c1, c2, .slice al p.labels.length cl, .slice aa p.args.length ca, c5, c6, c7, c8, c9, .slice at_ p.t.kids.length ct, .slice ak p.kids.length ck] 29)).cell? ⟨w.heap.size, 4, none⟩ = some (.slice aa p.args.length ca) := cell_new _ _ _ _ _ rfl
 have q10 : (w.alloc (.cells #[c0, c1, c2, .slice al p.labels.length cl, .slice aa p.args.length ca, c5, c6, c7, c8, c9, .slice at_ p.t.kids.length ct, .slice ak p.kids.length ck] 29)).cell? ⟨w.heap.size, 10, none⟩ = some (.slice at_ p.t.kids.length ct) := cell_new _ _ _ _ _ rfl
 have q11 : (w.alloc (.cells #[c0, c1, c2, .slice al p.labels.length cl, .slice aa p.args.length ca, c5, c6, c7, c8, c9, .slice at_ p.t.kids.length ct, .slice ak p.kids.length ck] 29)).cell? ⟨w.heap.size, 11, none⟩ = some (.slice ak p.kids.length ck) := cell_new _ _ _ _ _ rfl
 have hW := (Tw.refl n w).alloc hnw (.cells #[c0, c1, c2, .slice al p.labels.length cl, .slice aa p.args.length ca, c5, c6, c7, c8, c9, .slice at_ p.t.kids.length ct, .slice ak p.kids.length ck] 29)
 generalize w.alloc (.cells #[c0, c1, c2, .slice al p.labels.length cl, .slice aa p.args.length ca, c5, c6, c7, c8, c9, .slice at_ p.t.kids.length ct, .slice ak p.kids.length ck] 29) = W at *
 have Q3 := Go.Lib.hid q3
 have Q4 := Go.Lib.hid q4
 have Q10 := Go.Lib.hid q10
 have Q11 := Go.Lib.hid q11
 have HW := Go.Lib.hid hW
 clear q3 q4 q10 q11 hW
 obtain ⟨⟨m3, m4⟩, m10, m11⟩ := hm
 go_loopw [2] (fun i wr => ∃ k : Nat, k ≤ p.labels.length ∧ i = .int .i64 k ∧ Tw n W wr) (fun i _ => p.labels.length - (intOf i).toNat)
 case atStart => exact ⟨0, Nat.zero_le _, rfl, Tw.refl _ _⟩
 case round =>
  obtain ⟨k, hk, rfl, htw⟩ := hrel
  have e3 := htw.sl Q3.out
  by_cases hlt : k < p.labels.length
  ·obtain ⟨b, o, rfl, hnb, hs, hf⟩ := HL.out k hlt
   obtain ⟨s, es⟩ := htw.str (HW.out.str hs)
   obtain ⟨s0, hs0⟩ := hs
   have ef := htw.fz (HW.out.cell _ _ hs0).choose_spec.1 (HW.out.fz hs0 hf)
   have HTW := Go.Lib.hid htw
   have HES := Go.Lib.hid es
   clear hs0 hf htw
   go_wp2
   go_roundw
   case rel => exact ⟨k + 1, by omega, by first | rfl | simp, HTW.out.set hnb HES.out (.inr (.inr ⟨_, _, rfl, rfl⟩))⟩
   case measure => simp [intOf]; omega
  ·have HTW := Go.Lib.hid htw
   clear htw hk
   go_wp2
   go_loopw [3] (fun i wr => ∃ k : Nat, k ≤ p.args.length ∧ i = .int .i64 k ∧ Tw n W wr) (fun i _ => p.args.length - (intOf i).toNat)
   case atStart => exact ⟨0, Nat.zero_le _, rfl, HTW.out⟩
   case round =>
    clear HTW e3
    obtain ⟨k2, hk2, rfl, htw⟩ := hrel
    have e4 := htw.sl Q4.out
    by_cases hlt2 : k2 < p.args.length
    ·obtain ⟨b, o, rfl, hnb, hs, hf⟩ := HA.out k2 hlt2
     obtain ⟨s, es⟩ := htw.int (HW.out.int hs)
     obtain ⟨s0, hs0⟩ := hs
     have ef := htw.fz (HW.out.cell _ _ hs0).choose_spec.1 (HW.out.fz hs0 hf)
     have HTW := Go.Lib.hid htw
     have HES := Go.Lib.hid es
     clear hs0 hf htw
     go_wp2
     go_roundw
     case rel => exact ⟨k2 + 1, by omega, by first | rfl | simp, HTW.out.set hnb HES.out (.inr (.inl ⟨_, _, _, rfl, rfl⟩))⟩
     case measure => simp [intOf]; omega
    ·have HTW := Go.Lib.hid htw
     clear htw hk2
     go_wp2
     go_loopw [4] (fun i wr => ∃ k : Nat, k ≤ p.t.kids.length ∧ i = .int .i64 k ∧ Tw n W wr) (fun i _ => p.t.kids.length - (intOf i).toNat)
     case atStart => exact ⟨0, Nat.zero_le _, rfl, HTW.out⟩
     case round =>
      clear HTW e4
      obtain ⟨k3, hk3, rfl, htw⟩ := hrel
      have e10 := htw.sl Q10.out
      by_cases hlt3 : k3 < p.t.kids.length
      ·obtain ⟨b, o, rfl, hnb, hs, hf⟩ := HT.out k3 hlt3
       obtain ⟨s, es⟩ := htw.int (HW.out.int hs)
       obtain ⟨s0, hs0⟩ := hs
       have ef := htw.fz (HW.out.cell _ _ hs0).choose_spec.1 (HW.out.fz hs0 hf)
       have HTW := Go.Lib.hid htw
       have HES := Go.Lib.hid es
       clear hs0 hf htw
       go_wp2
       go_roundw
       case rel => exact ⟨k3 + 1, by omega, by first | rfl | simp, HTW.out.set hnb HES.out (.inr (.inl ⟨_, _, _, rfl, rfl⟩))⟩
       case measure => simp [intOf]; omega
      ·have HTW := Go.Lib.hid htw
       clear htw hk3
       go_wp2
       go_loopw [5] (fun i wr => ∃ k : Nat, k ≤ p.kids.length ∧ i = .int .i64 k ∧ Tw n W wr) (fun i _ => p.kids.length - (intOf i).toNat)
       case atStart => exact ⟨0, Nat.zero_le _, rfl, HTW.out⟩
       case round =>
        clear HTW e10
        obtain ⟨k4, hk4, rfl, htw⟩ := hrel
        have e11 := htw.sl Q11.out
        by_cases hlt4 : k4 < p.kids.length
        ·obtain ⟨b, o, rfl, hnb, hall, hs, hf⟩ := HK.out k4 hlt4
         have hall := fun j hj => (HW.out.trans htw).one12 hall j hj
         obtain ⟨u0, g0, o0⟩ := hall 0 (by decide)
         obtain ⟨u1, g1, o1⟩ := hall 1 (by decide)
         obtain ⟨u2, g2, o2⟩ := hall 2 (by decide)
         obtain ⟨u3, g3, o3⟩ := hall 3 (by decide)
         obtain ⟨u4, g4, o4⟩ := hall 4 (by decide)
         obtain ⟨u5, g5, o5⟩ := hall 5 (by decide)
         obtain ⟨u6, g6, o6⟩ := hall 6 (by decide)
         obtain ⟨u7, g7, o7⟩ := hall 7 (by decide)
         obtain ⟨u8, g8, o8⟩ := hall 8 (by decide)
         obtain ⟨u9, g9, o9⟩ := hall 9 (by decide)
         obtain ⟨u10, g10, o10⟩ := hall 10 (by decide)
         obtain ⟨u11, g11, o11⟩ := hall 11 (by decide)
         have hnr : n ≤ wr.heap.size := Nat.le_trans hnw (HW.out.trans htw).below.size
         have hsh : PSh n wr (fun j => #[u0, u1, u2, u3, u4, u5, u6, u7, u8, u9, u10, u11][j]?) p.kids[k4] := (HR.out k4 hlt4 b o rfl).tw (HW.out.trans htw) fun j v hj hv => by
          obtain ⟨v', hv', hsim, _⟩ := (HW.out.trans htw).cell _ _ hv
          refine ⟨v', ?_, hsim⟩
          rw [← hv']
          rcases (show j = 0 ∨ j = 1 ∨ j = 2 ∨ j = 3 ∨ j = 4 ∨ j = 5 ∨ j = 6 ∨ j = 7 ∨ j = 8 ∨ j = 9 ∨ j = 10 ∨ j = 11 by omega) with rfl | rfl | rfl | rfl | rfl | rfl | rfl | rfl | rfl | rfl | rfl | rfl
          ·exact g0.symm
          ·exact g1.symm
          ·exact g2.symm
          ·exact g3.symm
          ·exact g4.symm
          ·exact g5.symm
          ·exact g6.symm
          ·exact g7.symm
          ·exact g8.symm
          ·exact g9.symm
          ·exact g10.symm
          ·exact g11.symm
         have HC := Go.Lib.hid (HI.out p.kids[k4] (List.getElem_mem _) wr u0 u1 u2 u3 u4 u5 u6 u7 u8 u9 u10 u11 hnr hsh)
         rw [Nat.add_zero] at g0
         have HTW := Go.Lib.hid htw
         have HS := Go.Lib.hid hs
         have HF := Go.Lib.hid hf
         clear hs hf htw hall hsh hnr
         go_wp2
         refine HC.out.mono ?_
         rintro e w2 ⟨rfl, htw2⟩
         clear g0 g1 g2 g3 g4 g5 g6 g7 g8 g9 g10 g11 o0 o1 o2 o3 o4 o5 o6 o7 o8 o9 o10 o11 e11 HC
         have HTW2 := Go.Lib.hid (HTW.out.trans htw2)
         have e11 := HTW2.out.sl Q11.out
         obtain ⟨s, es⟩ := HTW2.out.int (HW.out.int HS.out)
         have ef : w2.frozen? ⟨b, o + k4 * 12, none⟩ = false := by
          obtain ⟨s0, hs0⟩ := HS.out
          exact HTW2.out.fz (HW.out.cell _ _ hs0).choose_spec.1 (HW.out.fz hs0 HF.out)
         have HES := Go.Lib.hid es
         clear htw2
         go_wp2
         go_roundw
         case rel => exact ⟨k4 + 1, by omega, by first | rfl | simp, HTW2.out.set hnb HES.out (.inr (.inl ⟨_, _, _, rfl, rfl⟩))⟩
         case measure => simp [intOf]; omega
        ·have HTW := Go.Lib.hid htw
         clear htw hk4
         go_wp2
         refine bodyPost_end (results_none rfl _ _ _) rfl ?_
         exact ⟨rfl, HW.out.trans HTW.out⟩
end Go.Proofs.YtjekkidhbnkiaaaDoor.Tx

/- AuditKeeps: the pruned program lies in memory of its own. -/
import Derived.Test.YtbfjpjllaibooaaGreatWk141
import Derived.BigCall
set_option linter.all false
namespace Go.Proofs.YtbfjpjllaibooaaGreat.Tx
open Go.Lf Go.Lf.S Go.Lf.Duo Go.RowKit
set_option maxRecDepth 100000
theorem Bx.all13 {w : World} {b : Nat} {c0 c1 c2 c3 c4 c5 c6 c7 c8 c9 c10 c11 c12 : Value} (h : Bx w b #[c0, c1, c2, c3, c4, c5, c6, c7, c8, c9, c10, c11, c12]) :
  w.cell? ⟨b, 0, none⟩ = some c0 ∧ w.cell? ⟨b, 1, none⟩ = some c1 ∧ w.cell? ⟨b, 2, none⟩ = some c2 ∧ w.cell? ⟨b, 3, none⟩ = some c3 ∧ w.cell? ⟨b, 4, none⟩ = some c4 ∧ w.cell? ⟨b, 5, none⟩ = some c5 ∧ w.cell? ⟨b, 6, none⟩ = some c6 ∧ w.cell? ⟨b, 7, none⟩ = some c7 ∧ w.cell? ⟨b, 8, none⟩ = some c8 ∧ w.cell? ⟨b, 9, none⟩ = some c9 ∧ w.cell? ⟨b, 10, none⟩ = some c10 ∧ w.cell? ⟨b, 11, none⟩ = some c11 ∧ w.cell? ⟨b, 12, none⟩ = some c12 :=
 ⟨h 0 _ rfl, h 1 _ rfl, h 2 _ rfl, h 3 _ rfl, h 4 _ rfl, h 5 _ rfl, h 6 _ rfl, h 7 _ rfl, h 8 _ rfl, h 9 _ rfl, h 10 _ rfl, h 11 _ rfl, h 12 _ rfl⟩
theorem bd_main {m : Nat} {p : Pg} (h : Bd m p.enc) : Bd m p.main.enc := by
 obtain ⟨ds, ⟨k, ch, v, ls, ar, t, ks⟩⟩ := p
 simp only [Pg.enc, Pr.enc_mk, PV.cells] at h ⊢
 exact .agg _ fun x hx => h.agg_inv x (List.mem_cons_of_mem _ hx)
theorem bd_def {m : Nat} {p : Pg} (h : Bd m p.enc) : ∀ d ∈ p.defs, Bd m d.body.enc := by
 intro d hd
 have h1 : Bd m (.sl (p.defs.map Df.enc)) := h.agg_inv _ List.mem_cons_self
 have h2 := h1.sl_inv.2 d.enc (List.mem_map_of_mem hd)
 obtain ⟨nm, ps, ⟨k, ch, v, ls, ar, t, ks⟩⟩ := d
 simp only [Df.enc, Pr.enc_mk, PV.cells] at h2 ⊢
 exact .agg _ fun x hx => h2.agg_inv x (List.mem_cons_of_mem _ (List.mem_cons_of_mem _ hx))
theorem copy27 {m : Nat} {p : Pg} (h : Bd m p.enc) (hb : PB p) (hg : GLn p) : Ok P F.ref27_Copy [p.enc] p.enc :=
 ok_rCopy27 p (by have := hb.dl; omega) ((pbd_of _ (bd_main h)).cut hg.main.pm) fun d hd => ⟨(hg.defs d hd).len, (pbd_of _ (bd_def h d hd)).cut (hg.defs d hd).body.pm⟩
theorem same_selfG (p : Pg) (h : GLim p) : Ok P F.ref03_SameProgram [p.enc, p.enc] (.bool true) := by
 have := okx_ref03_SameProgram p p h
 rwa [show pb (p = p) = true from by unfold pb; exact @decide_eq_true _ (Classical.propDecidable _) rfl] at this
set_option maxHeartbeats 4000000 in
theorem akeeps_walk (aw : Ok P F.law27_awake [] (.bool true)) (p : Pg) (hlim : GLim p) {m : Nat} (hbd : Bd m p.enc) {F0 : Nat → Nat → Prop} {w : World} (hF : ∀ b o, F0 b o → b < w.heap.size) (hgl : GlOk F0 w) (c0 c1 c2 c3 c4 c5 c6 c7 c8 c9 c10 c11 c12 : Value)
  (hr : Rep F0 w (.agg #[c0, c1, c2, c3, c4, c5, c6, c7, c8, c9, c10, c11, c12]) p.enc) : Calls P 4 #[.agg #[c0, c1, c2, c3, c4, c5, c6, c7, c8, c9, c10, c11, c12]] w fun e w' => e = .returned (.bool true) ∧ Below w.heap.size w w' := by
 obtain ⟨bf, hRight, hok⟩ := ok_Right27 p hlim 100 (by omega)
 have A0 := Go.Lib.hid (Aft.refl hF hgl)
 have HR := Go.Lib.hid hr
 have HP := Go.Lib.hid (And.intro hlim hbd)
 have HOK := Go.Lib.hid hok
 have HRi := Go.Lib.hid hRight
 have AW := Go.Lib.hid aw
 clear hF hgl hr hlim hbd aw hok hRight
 go_enter Tryz.func4, Tryz.ntmps4
 go_wp2
 have A1 := Go.Lib.hid (A0.out.alloc (.cells #[c0, c1, c2, c3, c4, c5, c6, c7, c8, c9, c10, c11, c12] 32))
 have B1 := Go.Lib.hid (box_new w #[c0, c1, c2, c3, c4, c5, c6, c7, c8, c9, c10, c11, c12] 32)
 generalize w.alloc (.cells #[c0, c1, c2, c3, c4, c5, c6, c7, c8, c9, c10, c11, c12] 32) = W1 at *
 refine (call_bool AW.out A1.out.lt A1.out.gl ⟨rfl, fun i v x h => by simp at h⟩).mono ?_
 rintro e w2 ⟨rfl, F2, a2⟩
 have A2 := Go.Lib.hid (A1.out.trans a2)
 have B2 := Go.Lib.hid (B1.out.aft a2)
 clear a2 A1 B1
 obtain ⟨b0, b1, b2, b3, b4, b5, b6, b7, b8, b9, b10, b11, b12⟩ := B2.out.all13
 go_wp2
 refine (call_bool HRi.out A2.out.lt A2.out.gl (reps2 (A2.out.rep _ _ HR.out) (.int _ _))).mono ?_
 rintro e w3 ⟨rfl, F3, a3⟩
 have A3 := Go.Lib.hid (A2.out.trans a3)
 have B3 := Go.Lib.hid (B2.out.aft a3)
 clear a3 A2 B2 b0 b1 b2 b3 b4 b5 b6 b7 b8 b9 b10 b11 b12 HRi
 obtain ⟨b0, b1, b2, b3, b4, b5, b6, b7, b8, b9, b10, b11, b12⟩ := B3.out.all13
 cases bf with
 | false =>
  go_wp2
  refine (call_bool AW.out A3.out.lt A3.out.gl ⟨rfl, fun i v x h => by simp at h⟩).mono ?_
  rintro e w4 ⟨rfl, F4, a4⟩
  have A4 := Go.Lib.hid (A3.out.trans a4)
  clear a4 b0 b1 b2 b3 b4 b5 b6 b7 b8 b9 b10 b11 b12
  go_wp2
  go_ret
  exact ⟨rfl, A4.out.below⟩
 | true =>
  have HB := Go.Lib.hid (pb_of27 (by omega) (HOK.out rfl).1)
  have HG := Go.Lib.hid (gln_of (by omega) (HOK.out rfl).1 (HOK.out rfl).2.2)
  go_wp2
  refine (ok_call (copy27 HP.out.2 HB.out HG.out) A3.out.lt A3.out.gl (reps1 (A3.out.rep _ _ HR.out))).mono ?_
  rintro e w4 ⟨v, F4, rfl, hr4, a4⟩
  obtain ⟨d0, d1, d2, d3, d4, d5, d6, d7, d8, d9, d10, d11, d12, rfl, ⟨o0, o1, o2, o3, o4, o5⟩, o6, o7, o8, o9, o10, o11, o12⟩ := agg13 hr4
  have A4 := Go.Lib.hid (A3.out.trans a4)
  have B4 := Go.Lib.hid (B3.out.aft a4)
  have R4 := Go.Lib.hid hr4
  clear a4 A3 B3 hr4 b0 b1 b2 b3 b4 b5 b6 b7 b8 b9 b10 b11 b12
  go_wp2
  simp only [run_store1, o0, o1, o2, o3, o4, o5, o6, o7, o8, o9, o10, o11, o12, Result.andThen, List.setIfInBounds_toArray, List.set_cons_zero, List.set_cons_succ, List.size_toArray, List.length_cons, List.length_nil, Nat.reduceAdd, Nat.reduceLT]
  have A5 := Go.Lib.hid (A4.out.alloc (.cells #[d0, d1, d2, d3, d4, d5, d6, d7, d8, d9, d10, d11, d12] 32))
  have B5 := Go.Lib.hid (B4.out.aft ((Aft.refl A4.out.lt A4.out.gl).alloc (.cells #[d0, d1, d2, d3, d4, d5, d6, d7, d8, d9, d10, d11, d12] 32)))
  have D5 := Go.Lib.hid (box_new w4 #[d0, d1, d2, d3, d4, d5, d6, d7, d8, d9, d10, d11, d12] 32)
  have R5 := Go.Lib.hid (((Aft.refl A4.out.lt A4.out.gl).alloc (.cells #[d0, d1, d2, d3, d4, d5, d6, d7, d8, d9, d10, d11, d12] 32)).rep _ _ R4.out)
  clear A4 B4 R4 o0 o1 o2 o3 o4 o5 o6 o7 o8 o9 o10 o11 o12
  generalize w4.heap.size = bo at *
  generalize w4.alloc (.cells #[d0, d1, d2, d3, d4, d5, d6, d7, d8, d9, d10, d11, d12] 32) = w5 at *
  obtain ⟨b0, b1, b2, b3, b4, b5, b6, b7, b8, b9, b10, b11, b12⟩ := D5.out.all13
  go_wp2
  have hn5 : 0 < w5.heap.size := Nat.lt_of_le_of_lt (Nat.zero_le _) (cell_lt b0)
  refine (prune_call p HB.out HG.out A5.out.lt A5.out.gl R5.out hn5).mono ?_
  rintro e w6 ⟨v, F6, rfl, a6, hr6, hsh⟩
  generalize prunP p = q at hr6 hsh
  obtain ⟨e0, e1, e2, e3, e4, e5, e6, e7, e8, e9, e10, e11, e12, rfl, ⟨o0, o1, o2, o3, o4, o5⟩, o6, o7, o8, o9, o10, o11, o12⟩ := agg13 hr6
  have S6 := Go.Lib.hid (hsh _ rfl)
  have T6 := Go.Lib.hid a6
  clear a6 hr6 hsh b0 b1 b2 b3 b4 b5 b6 b7 b8 b9 b10 b11 b12
  go_wp2
  simp only [run_store1, o0, o1, o2, o3, o4, o5, o6, o7, o8, o9, o10, o11, o12, Result.andThen, List.setIfInBounds_toArray, List.set_cons_zero, List.set_cons_succ, List.size_toArray, List.length_cons, List.length_nil, Nat.reduceAdd, Nat.reduceLT]
  have T7 := Go.Lib.hid (T6.out.alloc (.cells #[e0, e1, e2, e3, e4, e5, e6, e7, e8, e9, e10, e11, e12] 32))
  have E7 := Go.Lib.hid (box_new w6 #[e0, e1, e2, e3, e4, e5, e6, e7, e8, e9, e10, e11, e12] 32)
  have S7 := Go.Lib.hid (S6.out.tw (Below.tw ((Aft.refl T6.out.lt T6.out.gl).alloc (.cells #[e0, e1, e2, e3, e4, e5, e6, e7, e8, e9, e10, e11, e12] 32)).below T6.out.below.size) fun j v _ h => ⟨v, h, .inl rfl⟩)
  clear T6 S6 o0 o1 o2 o3 o4 o5 o6 o7 o8 o9 o10 o11 o12
  generalize w6.heap.size = be at *
  generalize w6.alloc (.cells #[e0, e1, e2, e3, e4, e5, e6, e7, e8, e9, e10, e11, e12] 32) = w7 at *
  obtain ⟨b0, b1, b2, b3, b4, b5, b6, b7, b8, b9, b10, b11, b12⟩ := E7.out.all13
  go_wp2
  have hn7 := T7.out.below.size
  have hm7 : PSh w5.heap.size w7 (fun j => #[e1, e2, e3, e4, e5, e6, e7, e8, e9, e10, e11, e12][j]?) q.main := S7.out.main.tw (Tw.refl _ _) fun j v hj hv => ⟨v, by
   rcases (show j = 0 ∨ j = 1 ∨ j = 2 ∨ j = 3 ∨ j = 4 ∨ j = 5 ∨ j = 6 ∨ j = 7 ∨ j = 8 ∨ j = 9 ∨ j = 10 ∨ j = 11 by omega) with rfl | rfl | rfl | rfl | rfl | rfl | rfl | rfl | rfl | rfl | rfl | rfl <;> exact hv, .inl rfl⟩
  refine (spoil_walk w5.heap.size hn5 q.main w7 e1 e2 e3 e4 e5 e6 e7 e8 e9 e10 e11 e12 hn7 hm7).mono ?_
  rintro e w8 ⟨rfl, tw8⟩
  obtain ⟨⟨ad, cd, hd0, hdm, hds⟩, _⟩ := S7.out
  have hd0 : e0 = .slice ad q.defs.length cd := by simpa using hd0
  subst hd0
  have HDS := Go.Lib.hid hds
  have B0 := Go.Lib.hid b0
  have TW8 := Go.Lib.hid tw8
  have BW8 := Go.Lib.hid (T7.out.below.trans tw8.below)
  clear tw8 hds hm7 S7 E7 b0 b1 b2 b3 b4 b5 b6 b7 b8 b9 b10 b11 b12
  go_wp2
  go_loopw [5] (fun i wr => ∃ k : Nat, k ≤ q.defs.length ∧ i = .int .i64 k ∧ Tw w5.heap.size w8 wr) (fun i _ => q.defs.length - (intOf i).toNat)
  case atStart => exact ⟨0, Nat.zero_le _, rfl, Tw.refl _ _⟩
  case round =>
   obtain ⟨k, hk, rfl, htw⟩ := hrel
   have e0' := (TW8.out.trans htw).sl B0.out
   by_cases hlt : k < q.defs.length
   ·obtain ⟨b, o, rfl, hnb, hd⟩ := HDS.out k hlt
    have hdw := hd.tw (TW8.out.trans htw) (cs' := fun j => wr.cell? ⟨b, o + k * 14 + j, none⟩) (fun j v _ hv => by obtain ⟨u, h1, h2, _⟩ := (TW8.out.trans htw).cell _ _ hv; exact ⟨u, h1, h2⟩)
    obtain ⟨⟨ap, cp, hp1, hpm, hps⟩, hcells, hbody⟩ := hdw
    obtain ⟨u0, g0, o0⟩ := hcells 0 (by decide)
    obtain ⟨u1, g1, o1⟩ := hcells 1 (by decide)
    obtain ⟨u2, g2, o2⟩ := hcells 2 (by decide)
    obtain ⟨u3, g3, o3⟩ := hcells 3 (by decide)
    obtain ⟨u4, g4, o4⟩ := hcells 4 (by decide)
    obtain ⟨u5, g5, o5⟩ := hcells 5 (by decide)
    obtain ⟨u6, g6, o6⟩ := hcells 6 (by decide)
    obtain ⟨u7, g7, o7⟩ := hcells 7 (by decide)
    obtain ⟨u8, g8, o8⟩ := hcells 8 (by decide)
    obtain ⟨u9, g9, o9⟩ := hcells 9 (by decide)
    obtain ⟨u10, g10, o10⟩ := hcells 10 (by decide)
    obtain ⟨u11, g11, o11⟩ := hcells 11 (by decide)
    have hsh : PSh w5.heap.size wr (fun j => #[u0, u1, u2, u3, u4, u5, u6, u7, u8, u9, u10, u11][j]?) q.defs[k].body := hbody.tw (Tw.refl _ _) fun j v hj hv => ⟨v, by
     rcases (show j = 0 ∨ j = 1 ∨ j = 2 ∨ j = 3 ∨ j = 4 ∨ j = 5 ∨ j = 6 ∨ j = 7 ∨ j = 8 ∨ j = 9 ∨ j = 10 ∨ j = 11 by omega) with rfl | rfl | rfl | rfl | rfl | rfl | rfl | rfl | rfl | rfl | rfl | rfl
     ·exact g0.symm.trans hv
     ·exact g1.symm.trans hv
     ·exact g2.symm.trans hv
     ·exact g3.symm.trans hv
     ·exact g4.symm.trans hv
     ·exact g5.symm.trans hv
     ·exact g6.symm.trans hv
     ·exact g7.symm.trans hv
     ·exact g8.symm.trans hv
     ·exact g9.symm.trans hv
     ·exact g10.symm.trans hv
     ·exact g11.symm.trans hv, .inl rfl⟩
    have hnr : w5.heap.size ≤ wr.heap.size := Nat.le_trans hn7 (TW8.out.trans htw).below.size
    have HSH := Go.Lib.hid hsh
    have HPS := Go.Lib.hid hps
    have HTW := Go.Lib.hid htw
    clear hsh hps htw hbody hcells hd
    have hp1 : wr.cell? ⟨b, o + k * 14 + 1, none⟩ = some (.slice ap q.defs[k].params.length cp) := hp1
    have g0 : wr.cell? ⟨b, o + k * 14 + 2 + 0, none⟩ = some u0 := g0
    have g1 : wr.cell? ⟨b, o + k * 14 + 2 + 1, none⟩ = some u1 := g1
    have g2 : wr.cell? ⟨b, o + k * 14 + 2 + 2, none⟩ = some u2 := g2
    have g3 : wr.cell? ⟨b, o + k * 14 + 2 + 3, none⟩ = some u3 := g3
    have g4 : wr.cell? ⟨b, o + k * 14 + 2 + 4, none⟩ = some u4 := g4
    have g5 : wr.cell? ⟨b, o + k * 14 + 2 + 5, none⟩ = some u5 := g5
    have g6 : wr.cell? ⟨b, o + k * 14 + 2 + 6, none⟩ = some u6 := g6
    have g7 : wr.cell? ⟨b, o + k * 14 + 2 + 7, none⟩ = some u7 := g7
    have g8 : wr.cell? ⟨b, o + k * 14 + 2 + 8, none⟩ = some u8 := g8
    have g9 : wr.cell? ⟨b, o + k * 14 + 2 + 9, none⟩ = some u9 := g9
    have g10 : wr.cell? ⟨b, o + k * 14 + 2 + 10, none⟩ = some u10 := g10
    have g11 : wr.cell? ⟨b, o + k * 14 + 2 + 11, none⟩ = some u11 := g11
    go_wp2
    refine (spoil_walk w5.heap.size hn5 q.defs[k].body wr u0 u1 u2 u3 u4 u5 u6 u7 u8 u9 u10 u11 hnr HSH.out).mono ?_
    rintro e w2 ⟨rfl, tw2⟩
    have HTW2 := Go.Lib.hid ((TW8.out.trans HTW.out).trans tw2)
    have HT2 := Go.Lib.hid tw2
    have HP1 := Go.Lib.hid hp1
    clear tw2 g0 g1 g2 g3 g4 g5 g6 g7 g8 g9 g10 g11 o0 o1 o2 o3 o4 o5 o6 o7 o8 o9 o10 o11 e0' hp1 HSH
    go_wp2
    go_loopw [6] (fun i wr2 => ∃ m : Nat, m ≤ q.defs[k].params.length ∧ i = .int .i64 m ∧ Tw w5.heap.size w2 wr2) (fun i _ => q.defs[k].params.length - (intOf i).toNat)
    case atStart => exact ⟨0, Nat.zero_le _, rfl, Tw.refl _ _⟩
    case round =>
     obtain ⟨m, hm, rfl, htw⟩ := hrel
     have e0' := (HTW2.out.trans htw).sl B0.out
     have ep := (HT2.out.trans htw).sl HP1.out
     by_cases hlt2 : m < q.defs[k].params.length
     ·obtain ⟨b2, o2, rfl, hnb2, hs, hf⟩ := HPS.out m hlt2
      obtain ⟨s, es⟩ := (HT2.out.trans htw).str hs
      obtain ⟨s0, hs0⟩ := hs
      have ef := (HT2.out.trans htw).fz hs0 hf
      have HTW3 := Go.Lib.hid htw
      have HES := Go.Lib.hid es
      clear hs0 hf htw
      go_wp2
      go_roundw
      case rel => exact ⟨m + 1, by omega, by first | rfl | simp, HTW3.out.set hnb2 HES.out (.inr (.inr ⟨_, _, rfl, rfl⟩))⟩
      case measure => simp [intOf]; omega
     ·have HTW3 := Go.Lib.hid htw
      clear htw hm
      go_wp2
      go_roundw
      case rel => exact ⟨k + 1, by omega, by first | rfl | simp, (HTW.out.trans HT2.out).trans HTW3.out⟩
      case measure => simp [intOf]; omega
   ·have BW := Go.Lib.hid (T7.out.below.trans (TW8.out.trans htw).below)
    clear htw
    obtain ⟨b0, b1, b2, b3, b4, b5, b6, b7, b8, b9, b10, b11, b12⟩ := (D5.out.below BW.out (Nat.le_refl _)).all13
    obtain ⟨g0, g1, g2, g3, g4, g5, g6, g7, g8, g9, g10, g11, g12⟩ := (B5.out.below BW.out (Nat.le_refl _)).all13
    have HS := Go.Lib.hid (same_selfG p HP.out.1)
    go_wp2
    have hs9 : ∀ b q, F4 b q → Same w5 wr b q := fun b q hf => Same.of_block (BW.out.block b (A5.out.lt b q hf)) q
    refine (call_bool HS.out (F1 := F4) (fun b q hf => Nat.lt_of_lt_of_le (A5.out.lt b q hf) BW.out.size) (A5.out.gl.mono BW.out.size (fun _ _ h => h) hs9) (reps2 (R5.out.mono (fun _ _ h => h) hs9) ((A5.out.rep _ _ HR.out).mono (fun _ _ h => h) hs9))).mono ?_
    rintro e w10 ⟨rfl, F10, a10⟩
    have Z := Go.Lib.hid (A5.out.below.trans (BW.out.mono A5.out.below.size) |>.trans (a10.below.mono (Nat.le_trans A5.out.below.size BW.out.size)))
    clear a10 hs9 b0 b1 b2 b3 b4 b5 b6 b7 b8 b9 b10 b11 b12 g0 g1 g2 g3 g4 g5 g6 g7 g8 g9 g10 g11 g12
    go_wp2
    go_ret
    exact ⟨rfl, Z.out⟩
theorem ok_law27_AuditKeeps (aw : Ok P F.law27_awake [] (.bool true)) (p : Pg) (hlim : GLim p) {m : Nat} (hbd : Bd m p.enc) : Ok P F.law27_AuditKeeps [p.enc] (.bool true) := by
 have hent : Enters P F.law27_AuditKeeps := by
  obtain ⟨c, hc⟩ : ∃ c, Tryz.f4.body = some c := ⟨_, rfl⟩
  exact Go.Lf.enters_of (f := 4) Tryz.func4 hc (by decide)
 refine ⟨hent, fun F0 w vs hF hgl hvs => ?_⟩
 obtain ⟨v, rfl⟩ : ∃ v, vs = #[v] := by
  obtain ⟨l⟩ := vs
  match l, hvs.1 with
  | [v], _ => exact ⟨v, rfl⟩
 have hr : Rep F0 w v p.enc := hvs.2 0 v p.enc rfl rfl
 obtain ⟨c0, c1, c2, c3, c4, c5, c6, c7, c8, c9, c10, c11, c12, rfl, _⟩ := agg13 hr
 refine (akeeps_walk aw p hlim hbd hF hgl c0 c1 c2 c3 c4 c5 c6 c7 c8 c9 c10 c11 c12 hr).mono ?_
 rintro e w' ⟨rfl, hbl⟩
 exact ⟨.bool true, F0, rfl, hbl, fun _ _ h => h, fun _ _ h => .inl h, fun b o hf => Nat.lt_of_lt_of_le (hF b o hf) hbl.size, .bool true⟩
end Go.Proofs.YtbfjpjllaibooaaGreat.Tx

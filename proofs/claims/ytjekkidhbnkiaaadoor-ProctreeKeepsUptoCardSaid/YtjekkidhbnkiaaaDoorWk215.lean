/- ProctreeKeeps: a copy lies in memory of its own. -/
import Derived.Test.YtjekkidhbnkiaaaDoorWk214
import Derived.BigCall
set_option linter.all false
namespace Go.Proofs.YtjekkidhbnkiaaaDoor.Tx
open Go.Lf Go.Lf.S Go.Lf.Duo Go.RowKit
set_option maxRecDepth 100000
/-- the cells of a box -/
def Bx (w : World) (b : Nat) (cs : Array Value) : Prop := ∀ (j : Nat) (v : Value), cs[j]? = some v → w.cell? ⟨b, j, none⟩ = some v
theorem box_new (w : World) (cs : Array Value) (t : Nat) : Bx (w.alloc (.cells cs t)) w.heap.size cs := fun j v h => cell_new w cs t j v h
theorem Bx.aft {F1 F2 : Nat → Nat → Prop} {w w' : World} {b : Nat} {cs : Array Value} (h : Bx w b cs) (k : Aft F1 w F2 w') : Bx w' b cs := fun j v hj => k.cell (h j v hj)
theorem Bx.all {w : World} {b : Nat} {c0 c1 c2 c3 c4 c5 c6 c7 c8 c9 c10 c11 : Value} (h : Bx w b #[c0, c1, c2, c3, c4, c5, c6, c7, c8, c9, c10, c11]) :
  w.cell? ⟨b, 0, none⟩ = some c0 ∧ w.cell? ⟨b, 1, none⟩ = some c1 ∧ w.cell? ⟨b, 2, none⟩ = some c2 ∧ w.cell? ⟨b, 3, none⟩ = some c3 ∧ w.cell? ⟨b, 4, none⟩ = some c4 ∧ w.cell? ⟨b, 5, none⟩ = some c5 ∧ w.cell? ⟨b, 6, none⟩ = some c6 ∧ w.cell? ⟨b, 7, none⟩ = some c7 ∧ w.cell? ⟨b, 8, none⟩ = some c8 ∧ w.cell? ⟨b, 9, none⟩ = some c9 ∧ w.cell? ⟨b, 10, none⟩ = some c10 ∧ w.cell? ⟨b, 11, none⟩ = some c11 :=
 ⟨h 0 _ rfl, h 1 _ rfl, h 2 _ rfl, h 3 _ rfl, h 4 _ rfl, h 5 _ rfl, h 6 _ rfl, h 7 _ rfl, h 8 _ rfl, h 9 _ rfl, h 10 _ rfl, h 11 _ rfl⟩
theorem Bx.below {n : Nat} {w w' : World} {b : Nat} {cs : Array Value} (h : Bx w b cs) (k : Below n w w') (hn : w.heap.size ≤ n) : Bx w' b cs := fun j v hj => by
 have hc := h j v hj
 exact (World.cell?_of_block (w := w) (a := ⟨b, j, none⟩) (k.block b (Nat.lt_of_lt_of_le (cell_lt hc) hn))).trans hc
theorem same_self (p : Pr) (h : PLim p) : Ok P F.ref03_Same [p.enc, p.enc] (.bool true) := by
 have := okx_ref03_Same p p h
 rwa [show pb (p = p) = true from by unfold pb; exact @decide_eq_true _ (Classical.propDecidable _) rfl] at this
/-- a store into the block that was made last -/
theorem run_store1 {Q : Program} (W : World) (cs : Array Value) (t j : Nat) (v : Value) (hj : j < cs.size) (hv : v.oneCell' = true) : Sem.run Q (store ⟨W.heap.size, j, none⟩ v) (W.alloc (.cells cs t)) = .ok () (W.alloc (.cells (cs.setIfInBounds j v) t)) := by
 have h1 : (W.alloc (.cells cs t)).cell? ⟨W.heap.size, j, none⟩ = some cs[j] := cell_new W cs t j _ (Array.getElem?_eq_getElem hj)
 have hn : (W.alloc (.cells cs t)).heap[W.heap.size]? = some (.cells cs t (0, 0)) := heap_alloc_new W _
 have h2 : (W.alloc (.cells cs t)).frozen? ⟨W.heap.size, j, none⟩ = false := by
  simp only [World.frozen?, hn]
  simp
 have h3 : (W.alloc (.cells cs t)).setCell ⟨W.heap.size, j, none⟩ v = W.alloc (.cells (cs.setIfInBounds j v) t) := by
  have : ((W.alloc (.cells cs t)).setCell ⟨W.heap.size, j, none⟩ v).heap = (W.alloc (.cells (cs.setIfInBounds j v) t)).heap := by
   apply Array.ext_getElem?
   intro i
   by_cases e : i = W.heap.size
   ·subst e
    rw [heap_alloc_new]
    simp only [World.setCell, Array.getElem?_modify, if_true, hn]
    rfl
   ·by_cases hlt : i < W.heap.size
    ·rw [Below.heap_setCell _ _ _ _ e, Below.heap_alloc _ _ _ hlt, Below.heap_alloc _ _ _ hlt]
    ·rw [Array.getElem?_eq_none, Array.getElem?_eq_none]
     ·simp; omega
     ·simp [World.setCell]; omega
  show World.mk _ _ _ _ _ = World.mk _ _ _ _ _
  congr 1
 rw [run_store Q _ _ v .plain hv]
 simp only [stored, h1, h2, h3]
 rfl
set_option maxHeartbeats 4000000 in
theorem keeps_walk (aw : Ok P F.law03_awake [] (.bool true)) (p : Pr) (hlim : PLim p) (hb : PBd 1048576 p) {F0 : Nat → Nat → Prop} {w : World} (hF : ∀ b o, F0 b o → b < w.heap.size) (hgl : GlOk F0 w) (c0 c1 c2 c3 c4 c5 c6 c7 c8 c9 c10 c11 : Value)
  (hr : Rep F0 w (.agg #[c0, c1, c2, c3, c4, c5, c6, c7, c8, c9, c10, c11]) p.enc) : Calls P 5 #[.agg #[c0, c1, c2, c3, c4, c5, c6, c7, c8, c9, c10, c11]] w fun e w' => e = .returned (.bool true) ∧ Below w.heap.size w w' := by
 have A0 := Go.Lib.hid (Aft.refl hF hgl)
 have HR := Go.Lib.hid hr
 have HP := Go.Lib.hid (And.intro hlim hb)
 have AW := Go.Lib.hid aw
 clear hF hgl hr hlim hb aw
 go_enter Tryd.func5, Tryd.ntmps5
 go_wp2
 have A1 := Go.Lib.hid (A0.out.alloc (.cells #[c0, c1, c2, c3, c4, c5, c6, c7, c8, c9, c10, c11] 29))
 have B1 := Go.Lib.hid (box_new w #[c0, c1, c2, c3, c4, c5, c6, c7, c8, c9, c10, c11] 29)
 generalize w.alloc (.cells #[c0, c1, c2, c3, c4, c5, c6, c7, c8, c9, c10, c11] 29) = W1 at *
 refine (call_bool AW.out A1.out.lt A1.out.gl ⟨rfl, fun i v x h => by simp at h⟩).mono ?_
 rintro e w2 ⟨rfl, F2, a2⟩
 have A2 := Go.Lib.hid (A1.out.trans a2)
 have B2 := Go.Lib.hid (B1.out.aft a2)
 clear a2 A1 B1
 obtain ⟨b0, b1, b2, b3, b4, b5, b6, b7, b8, b9, b10, b11⟩ := B2.out.all
 obtain ⟨bf, hFew, _⟩ := ok_ref03_Few p HP.out.1 500 (by omega) (by omega)
 have HFew := Go.Lib.hid hFew
 clear hFew
 go_wp2
 refine (call_bool HFew.out A2.out.lt A2.out.gl (reps2 (A2.out.rep _ _ HR.out) (.int _ _))).mono ?_
 rintro e w3 ⟨rfl, F3, a3⟩
 have A3 := Go.Lib.hid (A2.out.trans a3)
 have B3 := Go.Lib.hid (B2.out.aft a3)
 clear a3 A2 B2 b0 b1 b2 b3 b4 b5 b6 b7 b8 b9 b10 b11 HFew
 obtain ⟨b0, b1, b2, b3, b4, b5, b6, b7, b8, b9, b10, b11⟩ := B3.out.all
 cases bf with
 | false =>
  go_wp2
  refine (call_bool AW.out A3.out.lt A3.out.gl ⟨rfl, fun i v x h => by simp at h⟩).mono ?_
  rintro e w4 ⟨rfl, F4, a4⟩
  have A4 := Go.Lib.hid (A3.out.trans a4)
  clear a4 b0 b1 b2 b3 b4 b5 b6 b7 b8 b9 b10 b11
  go_wp2
  go_ret
  exact ⟨rfl, A4.out.below⟩
 | true =>
  go_wp2
  refine (ok_call (ok_rCopy3 p HP.out.2) A3.out.lt A3.out.gl (reps1 (A3.out.rep _ _ HR.out))).mono ?_
  rintro e w4 ⟨v, F4, rfl, hr4, a4⟩
  obtain ⟨d0, d1, d2, d3, d4, d5, d6, d7, d8, d9, d10, d11, rfl, ⟨o0, o1, o2, o3, o4, o5⟩, o6, o7, o8, o9, o10, o11⟩ := agg12 hr4
  have A4 := Go.Lib.hid (A3.out.trans a4)
  have B4 := Go.Lib.hid (B3.out.aft a4)
  have R4 := Go.Lib.hid hr4
  clear a4 A3 B3 hr4 b0 b1 b2 b3 b4 b5 b6 b7 b8 b9 b10 b11
  go_wp2
  simp only [run_store1, o0, o1, o2, o3, o4, o5, o6, o7, o8, o9, o10, o11, Result.andThen, List.setIfInBounds_toArray, List.set_cons_zero, List.set_cons_succ, List.size_toArray, List.length_cons, List.length_nil, Nat.reduceAdd, Nat.reduceLT]
  have hn4 := w4.heap.size
  have A5 := Go.Lib.hid (A4.out.alloc (.cells #[d0, d1, d2, d3, d4, d5, d6, d7, d8, d9, d10, d11] 29))
  have B5 := Go.Lib.hid (B4.out.aft ((Aft.refl A4.out.lt A4.out.gl).alloc (.cells #[d0, d1, d2, d3, d4, d5, d6, d7, d8, d9, d10, d11] 29)))
  have D5 := Go.Lib.hid (box_new w4 #[d0, d1, d2, d3, d4, d5, d6, d7, d8, d9, d10, d11] 29)
  have R5 := Go.Lib.hid (((Aft.refl A4.out.lt A4.out.gl).alloc (.cells #[d0, d1, d2, d3, d4, d5, d6, d7, d8, d9, d10, d11] 29)).rep _ _ R4.out)
  clear A4 B4 R4 o0 o1 o2 o3 o4 o5 o6 o7 o8 o9 o10 o11
  generalize w4.heap.size = bo at *
  generalize w4.alloc (.cells #[d0, d1, d2, d3, d4, d5, d6, d7, d8, d9, d10, d11] 29) = w5 at *
  obtain ⟨b0, b1, b2, b3, b4, b5, b6, b7, b8, b9, b10, b11⟩ := D5.out.all
  go_wp2
  have hn5 : 0 < w5.heap.size := Nat.lt_of_le_of_lt (Nat.zero_le _) (cell_lt b0)
  have hbn : bo < w5.heap.size := cell_lt b0
  refine (copy_call p (HP.out.2.lm (by omega)) A5.out.lt A5.out.gl R5.out hn5).mono ?_
  rintro e w6 ⟨v, F6, rfl, a6, hr6, hsh⟩
  obtain ⟨e0, e1, e2, e3, e4, e5, e6, e7, e8, e9, e10, e11, rfl, ⟨o0, o1, o2, o3, o4, o5⟩, o6, o7, o8, o9, o10, o11⟩ := agg12 hr6
  have S6 := Go.Lib.hid (hsh _ rfl)
  have T6 := Go.Lib.hid a6
  have R6 := Go.Lib.hid hr6
  clear a6 hr6 hsh b0 b1 b2 b3 b4 b5 b6 b7 b8 b9 b10 b11
  go_wp2
  simp only [run_store1, o0, o1, o2, o3, o4, o5, o6, o7, o8, o9, o10, o11, Result.andThen, List.setIfInBounds_toArray, List.set_cons_zero, List.set_cons_succ, List.size_toArray, List.length_cons, List.length_nil, Nat.reduceAdd, Nat.reduceLT]
  have T7 := Go.Lib.hid (T6.out.alloc (.cells #[e0, e1, e2, e3, e4, e5, e6, e7, e8, e9, e10, e11] 29))
  have E7 := Go.Lib.hid (box_new w6 #[e0, e1, e2, e3, e4, e5, e6, e7, e8, e9, e10, e11] 29)
  have R7 := Go.Lib.hid (((Aft.refl T6.out.lt T6.out.gl).alloc (.cells #[e0, e1, e2, e3, e4, e5, e6, e7, e8, e9, e10, e11] 29)).rep _ _ R6.out)
  have S7 := Go.Lib.hid (S6.out.tw (Below.tw ((Aft.refl T6.out.lt T6.out.gl).alloc (.cells #[e0, e1, e2, e3, e4, e5, e6, e7, e8, e9, e10, e11] 29)).below T6.out.below.size) fun j v _ h => ⟨v, h, .inl rfl⟩)
  clear T6 R6 S6 o0 o1 o2 o3 o4 o5 o6 o7 o8 o9 o10 o11
  generalize w6.heap.size = be at *
  generalize w6.alloc (.cells #[e0, e1, e2, e3, e4, e5, e6, e7, e8, e9, e10, e11] 29) = w7 at *
  obtain ⟨b0, b1, b2, b3, b4, b5, b6, b7, b8, b9, b10, b11⟩ := E7.out.all
  obtain ⟨g0, g1, g2, g3, g4, g5, g6, g7, g8, g9, g10, g11⟩ := (B5.out.aft T7.out).all
  go_wp2
  have HS := Go.Lib.hid (same_self p HP.out.1)
  refine (call_bool HS.out T7.out.lt T7.out.gl (reps2 R7.out (T7.out.rep _ _ (A5.out.rep _ _ HR.out)))).mono ?_
  rintro e w8 ⟨rfl, F8, a8⟩
  have T8 := Go.Lib.hid (T7.out.trans a8)
  have E8 := Go.Lib.hid (E7.out.aft a8)
  have S8 := Go.Lib.hid (S7.out.tw (Below.tw a8.below T7.out.below.size) fun j v _ h => ⟨v, h, .inl rfl⟩)
  clear a8 T7 E7 R7 S7 b0 b1 b2 b3 b4 b5 b6 b7 b8 b9 b10 b11 g0 g1 g2 g3 g4 g5 g6 g7 g8 g9 g10 g11
  obtain ⟨b0, b1, b2, b3, b4, b5, b6, b7, b8, b9, b10, b11⟩ := E8.out.all
  go_wp2
  refine (spoil_walk w5.heap.size hn5 p w8 e0 e1 e2 e3 e4 e5 e6 e7 e8 e9 e10 e11 T8.out.below.size S8.out).mono ?_
  rintro e w9 ⟨rfl, tw⟩
  have BW := Go.Lib.hid (T8.out.below.trans tw.below)
  clear tw T8 E8 S8 b0 b1 b2 b3 b4 b5 b6 b7 b8 b9 b10 b11
  obtain ⟨b0, b1, b2, b3, b4, b5, b6, b7, b8, b9, b10, b11⟩ := (D5.out.below BW.out (Nat.le_refl _)).all
  obtain ⟨g0, g1, g2, g3, g4, g5, g6, g7, g8, g9, g10, g11⟩ := (B5.out.below BW.out (Nat.le_refl _)).all
  go_wp2
  have hs9 : ∀ b q, F4 b q → Same w5 w9 b q := fun b q hf => Same.of_block (BW.out.block b (A5.out.lt b q hf)) q
  refine (call_bool HS.out (F1 := F4) (fun b q hf => Nat.lt_of_lt_of_le (A5.out.lt b q hf) BW.out.size) (A5.out.gl.mono BW.out.size (fun _ _ h => h) hs9) (reps2 (R5.out.mono (fun _ _ h => h) hs9) ((A5.out.rep _ _ HR.out).mono (fun _ _ h => h) hs9))).mono ?_
  rintro e w10 ⟨rfl, F10, a10⟩
  have Z := Go.Lib.hid (A5.out.below.trans (BW.out.mono A5.out.below.size) |>.trans (a10.below.mono (Nat.le_trans A5.out.below.size BW.out.size)))
  clear a10 hs9 b0 b1 b2 b3 b4 b5 b6 b7 b8 b9 b10 b11 g0 g1 g2 g3 g4 g5 g6 g7 g8 g9 g10 g11
  go_wp2
  go_ret
  exact ⟨rfl, Z.out⟩
theorem ok_law03_ProctreeKeeps (aw : Ok P F.law03_awake [] (.bool true)) (p : Pr) (hlim : PLim p) (hb : PBd 1048576 p) : Ok P F.law03_ProctreeKeeps [p.enc] (.bool true) := by
 have hent : Enters P F.law03_ProctreeKeeps := by
  obtain ⟨c, hc⟩ : ∃ c, Tryd.f5.body = some c := ⟨_, rfl⟩
  exact Go.Lf.enters_of (f := 5) Tryd.func5 hc (by decide)
 refine ⟨hent, fun F0 w vs hF hgl hvs => ?_⟩
 obtain ⟨v, rfl⟩ : ∃ v, vs = #[v] := by
  obtain ⟨l⟩ := vs
  match l, hvs.1 with
  | [v], _ => exact ⟨v, rfl⟩
 have hr : Rep F0 w v p.enc := hvs.2 0 v p.enc rfl rfl
 obtain ⟨c0, c1, c2, c3, c4, c5, c6, c7, c8, c9, c10, c11, rfl, _⟩ := agg12 hr
 refine (keeps_walk aw p hlim hb hF hgl c0 c1 c2 c3 c4 c5 c6 c7 c8 c9 c10 c11 hr).mono ?_
 rintro e w' ⟨rfl, hbl⟩
 exact ⟨.bool true, F0, rfl, hbl, fun _ _ h => h, fun _ _ h => .inl h, fun b o hf => Nat.lt_of_lt_of_le (hF b o hf) hbl.size, .bool true⟩
end Go.Proofs.YtjekkidhbnkiaaaDoor.Tx

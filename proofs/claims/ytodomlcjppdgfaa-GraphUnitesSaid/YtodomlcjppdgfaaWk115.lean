/- slices.Sort of whole numbers, by the kit's contract, as a call with memory. -/
import Derived.Test.YtodomlcjppdgfaaWk110
import Derived.Shelf.Sort.AssemblyIn
import Derived.Sort.EveryDepth
set_option linter.all false
namespace Go.Proofs.Ytodomlcjppdgfaa.Tx
open Go.Lf Go.Lf.S Go.Lf.Duo Go.RowKit
set_option maxRecDepth 100000

def sortLays_ren : Go.Shelf.Ren := ⟨fun | 189 => 31 | 125 => 49 | 257 => 48 | 128 => 68 | 129 => 69 | 294 => 59 | 295 => 60 | 296 => 61 | 297 => 62 | 298 => 63 | 299 => 64 | 216 => 65 | 300 => 66 | 301 => 67 | 328 => 76 | 329 => 77 | 330 => 78 | 331 => 79 | 332 => 80 | 215 => 81 | 343 => 87 | n => n, fun | 28 => 42 | 3 => 3 | 46 => 98 | 0 => 0 | 51 => 116 | 53 => 95 | 4 => 4 | 183 => 109 | 182 => 108 | 131 => 64 | 5 => 5 | 9 => 9 | 218 => 121 | 222 => 125 | 228 => 130 | 229 => 131 | n => n, fun | n => n⟩
theorem sortLays : Lays.n189 Try.prog sortLays_ren where
  mixed := by kernel_rfl
  f125 := Try.func49.trans (congrArg some (by kernel_rfl))
  f128 := Try.func68.trans (congrArg some (by kernel_rfl))
  f129 := Try.func69.trans (congrArg some (by kernel_rfl))
  f189 := Try.func31.trans (congrArg some (by kernel_rfl))
  f215 := Try.func81.trans (congrArg some (by kernel_rfl))
  f216 := Try.func65.trans (congrArg some (by kernel_rfl))
  f257 := Try.func48.trans (congrArg some (by kernel_rfl))
  f294 := Try.func59.trans (congrArg some (by kernel_rfl))
  f295 := Try.func60.trans (congrArg some (by kernel_rfl))
  f296 := Try.func61.trans (congrArg some (by kernel_rfl))
  f297 := Try.func62.trans (congrArg some (by kernel_rfl))
  f298 := Try.func63.trans (congrArg some (by kernel_rfl))
  f299 := Try.func64.trans (congrArg some (by kernel_rfl))
  f300 := Try.func66.trans (congrArg some (by kernel_rfl))
  f301 := Try.func67.trans (congrArg some (by kernel_rfl))
  f328 := Try.func76.trans (congrArg some (by kernel_rfl))
  f329 := Try.func77.trans (congrArg some (by kernel_rfl))
  f330 := Try.func78.trans (congrArg some (by kernel_rfl))
  f331 := Try.func79.trans (congrArg some (by kernel_rfl))
  f332 := Try.func80.trans (congrArg some (by kernel_rfl))
  f343 := Try.func87.trans (congrArg some (by kernel_rfl))
  t0 := Try.underlying0
  a0 := Try.isAgg0
  z0 := Try.sizeOf0
  v0 := Try.zeroValue0
  t3 := Try.underlying3
  a3 := Try.isAgg3
  z3 := Try.sizeOf3
  v3 := Try.zeroValue3
  t4 := Try.underlying4
  a4 := Try.isAgg4
  z4 := Try.sizeOf4
  v4 := Try.zeroValue4
  t5 := Try.underlying5
  a5 := Try.isAgg5
  z5 := Try.sizeOf5
  v5 := Try.zeroValue5
  t9 := Try.underlying9
  a9 := Try.isAgg9
  z9 := Try.sizeOf9
  v9 := Try.zeroValue9
  t28 := Try.underlying42
  a28 := Try.isAgg42
  z28 := Try.sizeOf42
  v28 := Try.zeroValue42
  t46 := Try.underlying98
  a46 := Try.isAgg98
  z46 := Try.sizeOf98
  v46 := Try.zeroValue98
  t51 := Try.underlying116
  a51 := Try.isAgg116
  z51 := Try.sizeOf116
  v51 := Try.zeroValue116
  t53 := Try.underlying95
  a53 := Try.isAgg95
  z53 := Try.sizeOf95
  v53 := Try.zeroValue95
  t131 := Try.underlying64
  a131 := Try.isAgg64
  z131 := Try.sizeOf64
  v131 := Try.zeroValue64
  t182 := Try.underlying108
  a182 := Try.isAgg108
  z182 := Try.sizeOf108
  v182 := Try.zeroValue108
  t183 := Try.underlying109
  a183 := Try.isAgg109
  z183 := Try.sizeOf109
  v183 := Try.zeroValue109
  t218 := Try.underlying121
  a218 := Try.isAgg121
  z218 := Try.sizeOf121
  v218 := Try.zeroValue121
  t222 := Try.underlying125
  a222 := Try.isAgg125
  z222 := Try.sizeOf125
  v222 := Try.zeroValue125
  t228 := Try.underlying130
  a228 := Try.isAgg130
  z228 := Try.sizeOf130
  v228 := Try.zeroValue130
  t229 := Try.underlying131
  a229 := Try.isAgg131
  z229 := Try.sizeOf131
  v229 := Try.zeroValue131

theorem walk_Sort (blk cap : Nat) (zs : List Int) (w : World) (hH : Go.Sort.Holds (Value.int .i64) w blk 0 zs.toArray) (hblk : blk < w.heap.size) (hsz : zs.length < 4611686018427387904) :
    Calls P F.slices_Sort_int_int #[.slice (some ⟨blk, 0, none⟩) zs.length cap] w fun e w' =>
      e = .returned (.tuple #[]) ∧ ∃ n os, w' = Go.Sort.grow (Go.Sort.putRow (Value.int .i64) (Go.Sort.ahead w n) blk 0 (zs.mergeSort fun x y => decide (x ≤ y)).toArray) os :=
  calls_of_every_depth fun D => AnyS.slices_Sort_int_in sortLays D blk 0 cap zs w hH hblk hsz

theorem okS_Sort (zs : List Int) (h0 : zs ≠ []) (hlen : zs.length < 4611686018427387904) : OkS P F.slices_Sort_int_int sg_slices_Sort_int_int [.sl (zs.map Go.Lf.S.i)] [.tup [], .sl ((zs.mergeSort fun x y => decide (x ≤ y)).map Go.Lf.S.i)] := by
  have hent : Enters P F.slices_Sort_int_int := by
    obtain ⟨c, hc⟩ : ∃ c, Try.f31.body = some c := ⟨_, rfl⟩
    exact Go.Lf.enters_of (f := 31) Try.func31 hc (by decide)
  refine ⟨hent, fun F w vv ρ hF hgl hsz hargs hobs => ?_⟩
  obtain ⟨es, he, _, hok, hcase⟩ := hobs.rep 9000 (.arr false 3 1 false (.sl (zs.map Go.Lf.S.i))) rfl
  obtain rfl : es = zs.map Go.Lf.S.i := (PV.sl.inj he).symm
  rcases hcase with ⟨_, hn⟩ | ⟨g, cap, cur, hρ, hb, hlc, hcm, hcs, hcell, hFg⟩
  · exact absurd (List.map_eq_nil_iff.1 hn) h0
  have hFn : ∀ j, ¬ F g j := fun j h => by have := (hFg j).1 h; exact absurd this.1 (by decide)
  have hvv : vv = #[.slice (some ⟨g, 0, none⟩) zs.length cap] := by
    have hs : vv.size = 1 := hsz
    have h0 : vv[0]? = some (vv[0]'(by omega)) := Array.getElem?_eq_getElem (by omega)
    have := (hargs 0 _ (.at (.own 9000)) h0 rfl).1
    rw [hρ, List.length_map] at this
    apply Array.ext (by simpa using hs)
    intro i hi1 hi2
    have : i = 0 := by simp at hi2; omega
    subst this
    simpa using this
  subst hvv
  have hlt : g < w.heap.size := (Array.getElem?_eq_some_iff.1 hb).1
  have hcur : ∀ j (hj : j < zs.length), cur[j]? = some (.int .i64 zs[j]) := fun j hj => by
    obtain ⟨u, hu, hr⟩ := hcell j (Go.Lf.S.i zs[j]) 0 (Go.Lf.S.i zs[j]) (by simp [hj]) rfl
    rw [show j * 1 + 0 = j by omega] at hu
    rw [hu, rep_int hr]
  have hH : Go.Sort.Holds (Value.int .i64) w g 0 zs.toArray := fun j hj => by
    have hj : j < zs.length := by simpa using hj
    refine ⟨?_, ?_⟩
    · simp only [World.cell?, hb]
      rw [if_neg (by simp), Nat.zero_add, hcur j hj]
      simp [hj]
    · simp [World.frozen?, hb]
  have hml : (zs.mergeSort fun x y => decide (x ≤ y)).length = zs.length := List.length_mergeSort zs
  refine (walk_Sort g cap zs w hH hlt hlen).mono ?_
  rintro e w' ⟨rfl, m, os, rfl⟩
  generalize hms : (zs.mergeSort fun x y => decide (x ≤ y)) = ms at *
  have hheap : ∀ k, k < w.heap.size → k ≠ g → (Go.Sort.grow (Go.Sort.putRow (Value.int .i64) (Go.Sort.ahead w m) g 0 ms.toArray) os).heap[k]? = w.heap[k]? := fun k hk hne => by
    simp only [Go.Sort.grow, Go.Sort.putRow, Go.Sort.mapBlock, Go.Sort.ahead]
    rw [Array.getElem?_append_left (by simpa using hk), Array.getElem?_modify, if_neg (Ne.symm hne)]
  have hheapg : (Go.Sort.grow (Go.Sort.putRow (Value.int .i64) (Go.Sort.ahead w m) g 0 ms.toArray) os).heap[g]? = some (.cells (Go.Sort.putCells (Value.int .i64) 0 ms.toArray cur) 3 (0, 0)) := by
    simp only [Go.Sort.grow, Go.Sort.putRow, Go.Sort.mapBlock, Go.Sort.ahead]
    rw [Array.getElem?_append_left (by simpa using hlt), Array.getElem?_modify, if_pos rfl, hb]
    rfl
  have hsize : w.heap.size ≤ (Go.Sort.grow (Go.Sort.putRow (Value.int .i64) (Go.Sort.ahead w m) g 0 ms.toArray) os).heap.size := by
    simp [Go.Sort.grow, Go.Sort.putRow, Go.Sort.mapBlock, Go.Sort.ahead]
  have hsame : ∀ b o, F b o → Same w (Go.Sort.grow (Go.Sort.putRow (Value.int .i64) (Go.Sort.ahead w m) g 0 ms.toArray) os) b o := fun b o h => by
    have hne : b ≠ g := fun e => by subst e; exact hFn o h
    exact Same.of_block (hheap b (hF b o h) hne) o
  have hblk : ∀ k, ¬ blocksOf ρ (sg_slices_Sort_int_int.obsI [.sl (zs.map Go.Lf.S.i)]) k → k ≠ g := fun k hk e => by
    subst e
    refine hk ⟨(9000, .arr false 3 1 false (.sl (zs.map Go.Lf.S.i))), by simp [Sig.obsI, sg_slices_Sort_int_int, Ob.map', instL], ?_⟩
    rw [hρ]; exact (HB_hb (k0 := k) rfl).2 rfl
  refine ⟨_, F, ρ, rfl, ⟨rfl, rfl, rfl, hsize, fun k hk hn => hheap k hk (hblk k hn)⟩, fun b o h => ⟨h, hsame b o h⟩, fun b o h => .inl h, fun b o h => by have := hF b o h; omega, ?_, ⟨?_, ?_⟩, ?_, fun _ _ _ => rfl⟩
  · exact .tup _ _ rfl fun i c x h1 h2 => by simp at h2
  · intro o ob ho
    have hcase : o = 9000 ∧ ob = .arr false 3 1 false (.sl (ms.map Go.Lf.S.i)) := by
      have ho : Go.Lf.look [(9000, some (Ob.arr false 3 1 false (PV.sl (ms.map Go.Lf.S.i))))] o = some ob := ho
      simp only [Go.Lf.look] at ho
      split at ho
      · rename_i hq
        exact ⟨(Nat.eq_of_beq_eq_true hq).symm, (Option.some.inj ho).symm⟩
      · cases ho
    obtain ⟨rfl, rfl⟩ := hcase
    refine ⟨ms.map Go.Lf.S.i, rfl, by decide, fun y hy => ?_, .inr ⟨g, cap, Go.Sort.putCells (Value.int .i64) 0 ms.toArray cur, ?_, hheapg, ?_, hcm, ?_, fun q y j z hy hz => ?_, fun j => ⟨fun h => absurd h (hFn j), fun h => absurd h.1 (by decide)⟩⟩⟩
    · obtain ⟨a, _, rfl⟩ := List.mem_map.1 hy
      exact ⟨rfl, fun z hz => by
        have : z = Go.Lf.S.i a := by simpa [PV.cells, Go.Lf.S.i] using hz
        subst this; rfl⟩
    · rw [hρ, List.length_map, List.length_map, hml]
    · rw [List.length_map, hml]; rw [List.length_map] at hlc; exact hlc
    · simp [Go.Sort.putCells, hcs]
    · rw [List.getElem?_map, Option.map_eq_some_iff] at hy
      obtain ⟨a, ha, rfl⟩ := hy
      have hj : j = 0 := by
        cases j with
        | zero => rfl
        | succ j => simp [PV.cells, Go.Lf.S.i] at hz
      subst hj
      have hz : z = Go.Lf.S.i a := by simpa [PV.cells, Go.Lf.S.i, eq_comm] using hz
      subst hz
      obtain ⟨hq, hqa⟩ := List.getElem?_eq_some_iff.1 ha
      refine ⟨.int .i64 a, ?_, .int .i64 a⟩
      have hcq := hcur q (by omega)
      simp only [Go.Sort.putCells, Array.getElem?_mapIdx]
      rw [show q * 1 + 0 = q by omega, hcq]
      simp [hq, hqa]
  · intro o o' ob ob' ho ho' hne
    have hc : ∀ o ob, lookO (sg_slices_Sort_int_int.robsI [.tup [], .sl (ms.map Go.Lf.S.i)]) o = some ob → o = 9000 := fun o ob ho => by
      have ho : Go.Lf.look [(9000, some (Ob.arr false 3 1 false (PV.sl (ms.map Go.Lf.S.i))))] o = some ob := ho
      simp only [Go.Lf.look] at ho
      split at ho
      · rename_i hq
        exact (Nat.eq_of_beq_eq_true hq).symm
      · cases ho
    exact absurd ((hc o ob ho).trans (hc o' ob' ho').symm) hne
  · intro o ob ho k hk
    have ho : Go.Lf.look [(9000, some (Ob.arr false 3 1 false (PV.sl (ms.map Go.Lf.S.i))))] o = some ob := ho
    simp only [Go.Lf.look] at ho
    split at ho
    · rename_i hq
      obtain rfl := Nat.eq_of_beq_eq_true hq
      exact .inr ⟨(9000, .arr false 3 1 false (.sl (zs.map Go.Lf.S.i))), by simp [Sig.obsI, sg_slices_Sort_int_int, Ob.map', instL], hk⟩
    · cases ho
end Go.Proofs.Ytodomlcjppdgfaa.Tx

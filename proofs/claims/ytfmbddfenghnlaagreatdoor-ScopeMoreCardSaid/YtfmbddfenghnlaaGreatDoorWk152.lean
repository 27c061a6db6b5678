/- slices.Sort and slices.Compact of texts, by the kit's contracts, as calls with memory; what is twice in a list. -/
import Derived.Test.YtfmbddfenghnlaaGreatDoorWk151
import Derived.Shelf.Sort.AssemblysIn
import Derived.Shelf.Slices.In.CompactS
import Derived.Sort.EveryDepth
set_option linter.all false
namespace Go.Proofs.YtfmbddfenghnlaaGreatDoor.Tx
open Go.Lf Go.Lf.S Go.Lf.Duo Go.RowKit
set_option maxRecDepth 100000

def sortLays_ren : Go.Shelf.Ren := ⟨fun | 190 => 54 | 125 => 80 | 258 => 79 | 128 => 118 | 129 => 119 | 302 => 109 | 303 => 110 | 304 => 111 | 305 => 112 | 306 => 113 | 307 => 114 | 308 => 115 | 309 => 116 | 310 => 117 | 333 => 141 | 329 => 142 | 330 => 143 | 334 => 144 | 335 => 145 | 336 => 146 | 344 => 154 | n => n, fun | 31 => 23 | 9 => 9 | 3 => 3 | 46 => 99 | 0 => 0 | 51 => 134 | 53 => 136 | 4 => 4 | 183 => 127 | 182 => 126 | 131 => 43 | 5 => 5 | 218 => 156 | 222 => 160 | 228 => 164 | 229 => 35 | n => n, fun | n => n⟩
theorem sortLays : Lays.n190 Tryz.prog sortLays_ren where
  mixed := by kernel_rfl
  f125 := Tryz.func80.trans (congrArg some (by kernel_rfl))
  f128 := Tryz.func118.trans (congrArg some (by kernel_rfl))
  f129 := Tryz.func119.trans (congrArg some (by kernel_rfl))
  f190 := Tryz.func54.trans (congrArg some (by kernel_rfl))
  f258 := Tryz.func79.trans (congrArg some (by kernel_rfl))
  f302 := Tryz.func109.trans (congrArg some (by kernel_rfl))
  f303 := Tryz.func110.trans (congrArg some (by kernel_rfl))
  f304 := Tryz.func111.trans (congrArg some (by kernel_rfl))
  f305 := Tryz.func112.trans (congrArg some (by kernel_rfl))
  f306 := Tryz.func113.trans (congrArg some (by kernel_rfl))
  f307 := Tryz.func114.trans (congrArg some (by kernel_rfl))
  f308 := Tryz.func115.trans (congrArg some (by kernel_rfl))
  f309 := Tryz.func116.trans (congrArg some (by kernel_rfl))
  f310 := Tryz.func117.trans (congrArg some (by kernel_rfl))
  f329 := Tryz.func142.trans (congrArg some (by kernel_rfl))
  f330 := Tryz.func143.trans (congrArg some (by kernel_rfl))
  f333 := Tryz.func141.trans (congrArg some (by kernel_rfl))
  f334 := Tryz.func144.trans (congrArg some (by kernel_rfl))
  f335 := Tryz.func145.trans (congrArg some (by kernel_rfl))
  f336 := Tryz.func146.trans (congrArg some (by kernel_rfl))
  f344 := Tryz.func154.trans (congrArg some (by kernel_rfl))
  t0 := Tryz.underlying0
  a0 := Tryz.isAgg0
  z0 := Tryz.sizeOf0
  v0 := Tryz.zeroValue0
  t3 := Tryz.underlying3
  a3 := Tryz.isAgg3
  z3 := Tryz.sizeOf3
  v3 := Tryz.zeroValue3
  t4 := Tryz.underlying4
  a4 := Tryz.isAgg4
  z4 := Tryz.sizeOf4
  v4 := Tryz.zeroValue4
  t5 := Tryz.underlying5
  a5 := Tryz.isAgg5
  z5 := Tryz.sizeOf5
  v5 := Tryz.zeroValue5
  t9 := Tryz.underlying9
  a9 := Tryz.isAgg9
  z9 := Tryz.sizeOf9
  v9 := Tryz.zeroValue9
  t31 := Tryz.underlying23
  a31 := Tryz.isAgg23
  z31 := Tryz.sizeOf23
  v31 := Tryz.zeroValue23
  t46 := Tryz.underlying99
  a46 := Tryz.isAgg99
  z46 := Tryz.sizeOf99
  v46 := Tryz.zeroValue99
  t51 := Tryz.underlying134
  a51 := Tryz.isAgg134
  z51 := Tryz.sizeOf134
  v51 := Tryz.zeroValue134
  t53 := Tryz.underlying136
  a53 := Tryz.isAgg136
  z53 := Tryz.sizeOf136
  v53 := Tryz.zeroValue136
  t131 := Tryz.underlying43
  a131 := Tryz.isAgg43
  z131 := Tryz.sizeOf43
  v131 := Tryz.zeroValue43
  t182 := Tryz.underlying126
  a182 := Tryz.isAgg126
  z182 := Tryz.sizeOf126
  v182 := Tryz.zeroValue126
  t183 := Tryz.underlying127
  a183 := Tryz.isAgg127
  z183 := Tryz.sizeOf127
  v183 := Tryz.zeroValue127
  t218 := Tryz.underlying156
  a218 := Tryz.isAgg156
  z218 := Tryz.sizeOf156
  v218 := Tryz.zeroValue156
  t222 := Tryz.underlying160
  a222 := Tryz.isAgg160
  z222 := Tryz.sizeOf160
  v222 := Tryz.zeroValue160
  t228 := Tryz.underlying164
  a228 := Tryz.isAgg164
  z228 := Tryz.sizeOf164
  v228 := Tryz.zeroValue164
  t229 := Tryz.underlying35
  a229 := Tryz.isAgg35
  z229 := Tryz.sizeOf35
  v229 := Tryz.zeroValue35
def compLays_ren : Go.Shelf.Ren := ⟨fun | 194 => 55 | n => n, fun | 31 => 23 | 9 => 9 | 3 => 3 | 4 => 4 | 0 => 0 | n => n, fun | n => n⟩
theorem compLays : Lays.n194 Tryz.prog compLays_ren where
  mixed := by kernel_rfl
  f194 := Tryz.func55.trans (congrArg some (by kernel_rfl))
  t0 := Tryz.underlying0
  a0 := Tryz.isAgg0
  z0 := Tryz.sizeOf0
  v0 := Tryz.zeroValue0
  t3 := Tryz.underlying3
  a3 := Tryz.isAgg3
  z3 := Tryz.sizeOf3
  v3 := Tryz.zeroValue3
  t4 := Tryz.underlying4
  a4 := Tryz.isAgg4
  z4 := Tryz.sizeOf4
  v4 := Tryz.zeroValue4
  t9 := Tryz.underlying9
  a9 := Tryz.isAgg9
  z9 := Tryz.sizeOf9
  v9 := Tryz.zeroValue9
  t31 := Tryz.underlying23
  a31 := Tryz.isAgg23
  z31 := Tryz.sizeOf23
  v31 := Tryz.zeroValue23

def strL (l : List UInt8) : PV := .str ⟨l.toArray⟩
def ofB (b : ByteArray) : List UInt8 := b.data.toList
theorem strL_ofB (b : ByteArray) : strL (ofB b) = .str b := by
  unfold strL ofB
  congr 1

theorem walk_SortS (blk cap : Nat) (zs : List (List UInt8)) (w : World) (hH : Go.Sort.Holds encStr w blk 0 zs.toArray) (hblk : blk < w.heap.size) (hsz : zs.length < 4611686018427387904) :
    Calls P F.slices_Sort_string_string #[.slice (some ⟨blk, 0, none⟩) zs.length cap] w fun e w' =>
      e = .returned (.tuple #[]) ∧ ∃ n os, w' = Go.Sort.grow (Go.Sort.putRow encStr (Go.Sort.ahead w n) blk 0 (zs.mergeSort fun x y => decide (x ≤ y)).toArray) os :=
  calls_of_every_depth fun D => AnyS.slices_Sort_string_in sortLays D blk 0 cap zs w hH hblk hsz
theorem walk_CompS (blk cap : Nat) (zs : List (List UInt8)) (w : World) (hH : Go.Sort.Holds encStr w blk 0 zs.toArray) (hsz : zs.length ≤ 9223372036854775807) (hcap : zs.length ≤ cap) :
    Calls P F.slices_Compact_string_string #[.slice (some ⟨blk, 0, none⟩) zs.length cap] w fun e w' =>
      e = .returned (.slice (some ⟨blk, 0, none⟩) (Lib.compact zs).length cap) ∧ ∃ q, w' = Go.Sort.putRow encStr (Go.Sort.ahead w q) blk 0 (Lib.compact zs ++ List.replicate (zs.length - (Lib.compact zs).length) []).toArray :=
  calls_of_every_depth fun D => AnyS.slices_Compact_string_in compLays D blk 0 cap zs w hH hsz hcap
theorem walk_CompE (a : Option Addr) (cap : Nat) (w : World) :
    Calls P F.slices_Compact_string_string #[.slice a 0 cap] w fun e w' => e = .returned (.slice a 0 cap) ∧ w' = w :=
  calls_of_every_depth fun D => AnyS.slices_Compact_string_empty_in compLays D a cap w

theorem rep_strL {F : Nat → Nat → Prop} {w : World} {v : Value} {l : List UInt8} (h : Rep F w v (strL l)) : v = encStr l := by
  cases h; rfl

/-- what stands in the row of an own array of texts -/
theorem row_str {F : Nat → Nat → Prop} {w : World} {g : Nat} {cur : Array Value} {ty : Nat} {zs : List (List UInt8)} (hb : w.heap[g]? = some (.cells cur ty (0, 0)))
    (hcell : ∀ (i : Nat) (y : PV) (j : Nat) (z : PV), (zs.map strL)[i]? = some y → y.cells[j]? = some z → ∃ u, cur[i * 1 + j]? = some u ∧ Rep F w u z) :
    (∀ j (hj : j < zs.length), cur[j]? = some (encStr zs[j])) ∧ Go.Sort.Holds encStr w g 0 zs.toArray := by
  have hcur : ∀ j (hj : j < zs.length), cur[j]? = some (encStr zs[j]) := fun j hj => by
    obtain ⟨u, hu, hr⟩ := hcell j (strL zs[j]) 0 (strL zs[j]) (by simp [hj]) rfl
    rw [show j * 1 + 0 = j by omega] at hu
    rw [hu, rep_strL hr]
  refine ⟨hcur, fun j hj => ?_⟩
  have hj : j < zs.length := by simpa using hj
  refine ⟨?_, ?_⟩
  · simp only [World.cell?, hb]
    rw [if_neg (by simp), Nat.zero_add, hcur j hj]
    simp [hj]
  · simp [World.frozen?, hb]

theorem one_arg {F : Nat → Nat → Prop} {ρ : Nat → Value} {w : World} {vv : Array Value} {v : Value} (hs : vv.size = 1) (h : ∀ (i : Nat) (u : Value) (a : SV PV), vv[i]? = some u → [SV.at (A.own 9000)][i]? = some a → RepS F ρ w u a) (hρ : ρ 9000 = v) : vv = #[v] := by
  have h0 : vv[0]? = some (vv[0]'(by omega)) := Array.getElem?_eq_getElem (by omega)
  have := (h 0 _ (.at (.own 9000)) h0 rfl).1
  rw [hρ] at this
  apply Array.ext (by simpa using hs)
  intro i hi1 hi2
  have : i = 0 := by simp at hi2; omega
  subst this
  simpa using this

/-- the own array of texts after its row was written anew -/
theorem repO_row {F : Nat → Nat → Prop} {ρ : Nat → Value} {w' : World} {o g cap : Nat} {cur cur' : Array Value} {ms : List (List UInt8)} {L : Nat} (hρ : ρ o = .slice (some ⟨g, 0, none⟩) ms.length cap) (hb : w'.heap[g]? = some (.cells cur' 9 (0, 0))) (hlc : ms.length ≤ cap) (hcm : cap ≤ maxLen) (hcs : cur'.size = cap * 1)
    (hget : ∀ q (hq : q < ms.length), cur'[q]? = some (encStr ms[q])) (hFn : ∀ j, ¬ F g j) : RepO F ρ w' o (.arr false 9 1 false (.sl (ms.map strL))) := by
  refine ⟨ms.map strL, rfl, by decide, fun y hy => ?_, .inr ⟨g, cap, cur', ?_, hb, ?_, hcm, hcs, fun q y j z hy hz => ?_, fun j => ⟨fun h => absurd h (hFn j), fun h => absurd h.1 (by decide)⟩⟩⟩
  · obtain ⟨a, _, rfl⟩ := List.mem_map.1 hy
    exact ⟨rfl, fun z hz => by
      have : z = strL a := by simpa [PV.cells, strL] using hz
      subst this; rfl⟩
  · rw [hρ, List.length_map]
  · rw [List.length_map]; exact hlc
  · rw [List.getElem?_map, Option.map_eq_some_iff] at hy
    obtain ⟨a, ha, rfl⟩ := hy
    have hj : j = 0 := by
      cases j with
      | zero => rfl
      | succ j => simp [PV.cells, strL] at hz
    subst hj
    have hz : z = strL a := by simpa [PV.cells, strL, eq_comm] using hz
    subst hz
    obtain ⟨hq, hqa⟩ := List.getElem?_eq_some_iff.1 ha
    refine ⟨encStr a, ?_, .str _⟩
    rw [show q * 1 + 0 = q by omega, hget q hq, hqa]

theorem okS_SortS (zs : List (List UInt8)) (h0 : zs ≠ []) (hlen : zs.length < 4611686018427387904) : OkS P F.slices_Sort_string_string sg_slices_Sort_string_string [.sl (zs.map strL)] [.tup [], .sl ((zs.mergeSort fun x y => decide (x ≤ y)).map strL)] := by
  have hent : Enters P F.slices_Sort_string_string := by
    obtain ⟨c, hc⟩ : ∃ c, Tryz.f54.body = some c := ⟨_, rfl⟩
    exact Go.Lf.enters_of (f := 54) Tryz.func54 hc (by decide)
  refine ⟨hent, fun F w vv ρ hF hgl hsz hargs hobs => ?_⟩
  obtain ⟨es, he, _, hok, hcase⟩ := hobs.rep 9000 (.arr false 9 1 false (.sl (zs.map strL))) rfl
  obtain rfl : es = zs.map strL := (PV.sl.inj he).symm
  rcases hcase with ⟨_, hn⟩ | ⟨g, cap, cur, hρ, hb, hlc, hcm, hcs, hcell, hFg⟩
  · exact absurd (List.map_eq_nil_iff.1 hn) h0
  have hFn : ∀ j, ¬ F g j := fun j h => by have := (hFg j).1 h; exact absurd this.1 (by decide)
  rw [List.length_map] at hρ hlc
  obtain rfl := one_arg hsz hargs hρ
  have hlt : g < w.heap.size := (Array.getElem?_eq_some_iff.1 hb).1
  obtain ⟨hcur, hH⟩ := row_str hb hcell
  have hml : (zs.mergeSort fun x y => decide (x ≤ y)).length = zs.length := List.length_mergeSort zs
  refine (walk_SortS g cap zs w hH hlt hlen).mono ?_
  rintro e w' ⟨rfl, m, os, rfl⟩
  generalize hms : (zs.mergeSort fun x y => decide (x ≤ y)) = ms at *
  have hheap : ∀ k, k < w.heap.size → k ≠ g → (Go.Sort.grow (Go.Sort.putRow encStr (Go.Sort.ahead w m) g 0 ms.toArray) os).heap[k]? = w.heap[k]? := fun k hk hne => by
    simp only [Go.Sort.grow, Go.Sort.putRow, Go.Sort.mapBlock, Go.Sort.ahead]
    rw [Array.getElem?_append_left (by simpa using hk), Array.getElem?_modify, if_neg (Ne.symm hne)]
  have hheapg : (Go.Sort.grow (Go.Sort.putRow encStr (Go.Sort.ahead w m) g 0 ms.toArray) os).heap[g]? = some (.cells (Go.Sort.putCells encStr 0 ms.toArray cur) 9 (0, 0)) := by
    simp only [Go.Sort.grow, Go.Sort.putRow, Go.Sort.mapBlock, Go.Sort.ahead]
    rw [Array.getElem?_append_left (by simpa using hlt), Array.getElem?_modify, if_pos rfl, hb]
    rfl
  have hsize : w.heap.size ≤ (Go.Sort.grow (Go.Sort.putRow encStr (Go.Sort.ahead w m) g 0 ms.toArray) os).heap.size := by
    simp [Go.Sort.grow, Go.Sort.putRow, Go.Sort.mapBlock, Go.Sort.ahead]
  have hsame : ∀ b o, F b o → Same w (Go.Sort.grow (Go.Sort.putRow encStr (Go.Sort.ahead w m) g 0 ms.toArray) os) b o := fun b o h => by
    have hne : b ≠ g := fun e => by subst e; exact hFn o h
    exact Same.of_block (hheap b (hF b o h) hne) o
  have hblk : ∀ k, ¬ blocksOf ρ (sg_slices_Sort_string_string.obsI [.sl (zs.map strL)]) k → k ≠ g := fun k hk e => by
    subst e
    refine hk ⟨(9000, .arr false 9 1 false (.sl (zs.map strL))), by simp [Sig.obsI, sg_slices_Sort_string_string, Ob.map', instL], ?_⟩
    rw [hρ]; exact (HB_hb (k0 := k) rfl).2 rfl
  have look1 : ∀ o ob, lookO (sg_slices_Sort_string_string.robsI [.tup [], .sl (ms.map strL)]) o = some ob → o = 9000 ∧ ob = .arr false 9 1 false (.sl (ms.map strL)) := fun o ob ho => by
    have ho : Go.Lf.look [(9000, some (Ob.arr false 9 1 false (PV.sl (ms.map strL))))] o = some ob := ho
    simp only [Go.Lf.look] at ho
    split at ho
    · rename_i hq
      exact ⟨(Nat.eq_of_beq_eq_true hq).symm, (Option.some.inj ho).symm⟩
    · cases ho
  refine ⟨_, F, ρ, rfl, ⟨rfl, rfl, rfl, hsize, fun k hk hn => hheap k hk (hblk k hn)⟩, fun b o h => ⟨h, hsame b o h⟩, fun b o h => .inl h, fun b o h => by have := hF b o h; omega, ?_, ⟨?_, ?_⟩, ?_, fun _ _ _ => rfl⟩
  · exact .tup _ _ rfl fun i c x h1 h2 => by simp at h2
  · intro o ob ho
    obtain ⟨rfl, rfl⟩ := look1 o ob ho
    refine repO_row (L := 0) (cur := cur) (by rw [hρ, hml]) hheapg (by omega) hcm (by simp [Go.Sort.putCells, hcs]) (fun q hq => ?_) hFn
    have hcq := hcur q (by omega)
    simp only [Go.Sort.putCells, Array.getElem?_mapIdx]
    rw [hcq]
    simp [hq]
  · intro o o' ob ob' ho ho' hne
    exact absurd ((look1 o ob ho).1.trans (look1 o' ob' ho').1.symm) hne
  · intro o ob ho k hk
    obtain ⟨rfl, rfl⟩ := look1 o ob ho
    exact .inr ⟨(9000, .arr false 9 1 false (.sl (zs.map strL))), by simp [Sig.obsI, sg_slices_Sort_string_string, Ob.map', instL], hk⟩
theorem goodS6 (n : Nat) : GoodEv P (evAll tb tbS 100000 n).1 (evAll tb tbS 100000 n).2 := evAll_good allOk allOkS n
theorem okS_SortS0 : OkS P F.slices_Sort_string_string sg_slices_Sort_string_string [.sl []] [.tup [], .sl []] := ((goodS6 40).2 _ _ _ _ (by kernel_rfl)).2

theorem comp_le {zs : List (List UInt8)} : (Lib.compact zs).length ≤ zs.length := by
  unfold Lib.compact Lib.compactUpTo
  rw [List.length_map]
  have := List.length_filter_le (Lib.keeps zs.toArray) (List.range zs.length)
  simpa using this

theorem okS_CompS (zs : List (List UInt8)) (hlen : zs.length ≤ 549755813888) : OkS P F.slices_Compact_string_string sg_slices_Compact_string_string [.sl (zs.map strL)] [.sl ((Lib.compact zs).map strL)] := by
  have hent : Enters P F.slices_Compact_string_string := by
    obtain ⟨c, hc⟩ : ∃ c, Tryz.f55.body = some c := ⟨_, rfl⟩
    exact Go.Lf.enters_of (f := 55) Tryz.func55 hc (by decide)
  refine ⟨hent, fun F w vv ρ hF hgl hsz hargs hobs => ?_⟩
  obtain ⟨es, he, _, hok, hcase⟩ := hobs.rep 9000 (.arr false 9 1 false (.sl (zs.map strL))) rfl
  obtain rfl : es = zs.map strL := (PV.sl.inj he).symm
  have look1 : ∀ (ms : List (List UInt8)) o ob, lookO (sg_slices_Compact_string_string.robsI [.sl (ms.map strL)]) o = some ob → o = 9002 ∧ ob = .arr false 9 1 false (.sl (ms.map strL)) := fun ms o ob ho => by
    have ho : Go.Lf.look [(9002, some (Ob.arr false 9 1 false (PV.sl (ms.map strL))))] o = some ob := ho
    simp only [Go.Lf.look] at ho
    split at ho
    · rename_i hq
      exact ⟨(Nat.eq_of_beq_eq_true hq).symm, (Option.some.inj ho).symm⟩
    · cases ho
  rcases hcase with ⟨hρ, hn⟩ | ⟨g, cap, cur, hρ, hb, hlc, hcm, hcs, hcell, hFg⟩
  · -- nothing there
    obtain rfl : zs = [] := List.map_eq_nil_iff.1 hn
    obtain rfl := one_arg hsz hargs hρ
    refine (walk_CompE none 0 w).mono ?_
    rintro e w' ⟨rfl, hw⟩
    subst w'
    refine ⟨_, F, fun o => if o = 9002 then .slice none 0 0 else ρ o, rfl, ⟨rfl, rfl, rfl, Nat.le_refl _, fun k hk _ => rfl⟩, fun b o h => ⟨h, Same.refl _ _ _⟩, fun b o h => .inl h, hF, ⟨rfl, rfl⟩, ⟨?_, ?_⟩, ?_, ?_⟩
    · intro o ob ho
      obtain ⟨rfl, rfl⟩ := look1 [] o ob ho
      exact ⟨[], rfl, by decide, (fun y hy => by cases hy), .inl ⟨rfl, rfl⟩⟩
    · intro o o' ob ob' ho ho' hne
      exact absurd ((look1 [] o ob ho).1.trans (look1 [] o' ob' ho').1.symm) hne
    · intro o ob ho k hk
      obtain ⟨rfl, rfl⟩ := look1 [] o ob ho
      exact absurd hk (HB_none (by rfl) (fun bs e => by simp [encB] at e) k)
    · intro o ho ho2
      have e1 : o = 9000 := by simpa [sg_slices_Compact_string_string] using ho
      have e2 : o = 9002 := by simpa [sg_slices_Compact_string_string] using ho2
      omega
  have hFn : ∀ j, ¬ F g j := fun j h => by have := (hFg j).1 h; exact absurd this.1 (by decide)
  rw [List.length_map] at hρ hlc
  obtain rfl := one_arg hsz hargs hρ
  have hlt : g < w.heap.size := (Array.getElem?_eq_some_iff.1 hb).1
  obtain ⟨hcur, hH⟩ := row_str hb hcell
  have hcl := comp_le (zs := zs)
  refine (walk_CompS g cap zs w hH (by omega) hlc).mono ?_
  rintro e w' ⟨rfl, m, rfl⟩
  generalize hms : Lib.compact zs = ms at *
  generalize hrow : (ms ++ List.replicate (zs.length - ms.length) []) = row
  have hrl : row.length = zs.length := by rw [← hrow]; simp; omega
  have hheap : ∀ k, k < w.heap.size → k ≠ g → (Go.Sort.putRow encStr (Go.Sort.ahead w m) g 0 row.toArray).heap[k]? = w.heap[k]? := fun k hk hne => by
    simp only [Go.Sort.putRow, Go.Sort.mapBlock, Go.Sort.ahead]
    rw [Array.getElem?_modify, if_neg (Ne.symm hne)]
  have hheapg : (Go.Sort.putRow encStr (Go.Sort.ahead w m) g 0 row.toArray).heap[g]? = some (.cells (Go.Sort.putCells encStr 0 row.toArray cur) 9 (0, 0)) := by
    simp only [Go.Sort.putRow, Go.Sort.mapBlock, Go.Sort.ahead]
    rw [Array.getElem?_modify, if_pos rfl, hb]
    rfl
  have hsize : w.heap.size ≤ (Go.Sort.putRow encStr (Go.Sort.ahead w m) g 0 row.toArray).heap.size := by
    simp [Go.Sort.putRow, Go.Sort.mapBlock, Go.Sort.ahead]
  have hsame : ∀ b o, F b o → Same w (Go.Sort.putRow encStr (Go.Sort.ahead w m) g 0 row.toArray) b o := fun b o h => by
    have hne : b ≠ g := fun e => by subst e; exact hFn o h
    exact Same.of_block (hheap b (hF b o h) hne) o
  have hin : blocksOf ρ (sg_slices_Compact_string_string.obsI [.sl (zs.map strL)]) g :=
    ⟨(9000, .arr false 9 1 false (.sl (zs.map strL))), by simp [Sig.obsI, sg_slices_Compact_string_string, Ob.map', instL], by rw [hρ]; exact (HB_hb (k0 := g) rfl).2 rfl⟩
  have hblk : ∀ k, ¬ blocksOf ρ (sg_slices_Compact_string_string.obsI [.sl (zs.map strL)]) k → k ≠ g := fun k hk e => by
    subst e; exact hk hin
  refine ⟨_, F, fun o => if o = 9002 then .slice (some ⟨g, 0, none⟩) ms.length cap else ρ o, rfl, ⟨rfl, rfl, rfl, hsize, fun k hk hn => hheap k hk (hblk k hn)⟩, fun b o h => ⟨h, hsame b o h⟩, fun b o h => .inl h, fun b o h => by have := hF b o h; omega, ⟨rfl, rfl⟩, ⟨?_, ?_⟩, ?_, ?_⟩
  · intro o ob ho
    obtain ⟨rfl, rfl⟩ := look1 ms o ob ho
    refine repO_row (L := 0) (cur := cur) (by simp) hheapg (by omega) hcm (by simp [Go.Sort.putCells, hcs]) (fun q hq => ?_) hFn
    have hcq := hcur q (by omega)
    have hqr : row[q]? = some ms[q] := by rw [← hrow, List.getElem?_append_left hq]; simp [hq]
    obtain ⟨hqr1, hqr2⟩ := List.getElem?_eq_some_iff.1 hqr
    simp only [Go.Sort.putCells, Array.getElem?_mapIdx]
    rw [hcq]
    simp [hqr1, hqr2]
  · intro o o' ob ob' ho ho' hne
    exact absurd ((look1 ms o ob ho).1.trans (look1 ms o' ob' ho').1.symm) hne
  · intro o ob ho k hk
    obtain ⟨rfl, rfl⟩ := look1 ms o ob ho
    simp only [if_true] at hk
    have := (HB_hb (k0 := g) rfl).1 hk
    subst this
    exact .inr hin
  · intro o ho ho2
    have e1 : o = 9000 := by simpa [sg_slices_Compact_string_string] using ho
    have e2 : o = 9002 := by simpa [sg_slices_Compact_string_string] using ho2
    omega
end Go.Proofs.YtfmbddfenghnlaaGreatDoor.Tx

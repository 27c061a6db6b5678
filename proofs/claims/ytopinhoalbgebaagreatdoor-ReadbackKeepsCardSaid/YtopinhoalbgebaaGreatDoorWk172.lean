/- Contracts (Wk170, Wk171, Wk172). -/
import Derived.Test.YtopinhoalbgebaaGreatDoorWk15
import Derived.Shelf.Sort.AssemblysIn
import Derived.Shelf.Strconv.Itoa3
import Derived.Shelf.Strings.OnBuilder
import Derived.Sort.EveryDepth
import Derived.Test.YtopinhoalbgebaaGreatDoorWk129
import Derived.Lib.ItoaNum
set_option linter.all false
/- Library contracts for this seat: slices.Sort of texts, strconv.Itoa of small numbers, strings.Join (the layings are printed by the kit's look-up). -/
namespace Go.Proofs.YtopinhoalbgebaaGreatDoor.Tx
open Go.Lf Go.Lf.S Go.Lf.Duo Go.RowKit
set_option maxRecDepth 100000

def sortLays_ren : Go.Shelf.Ren := ⟨fun | 190 => 111 | 125 => 125 | 258 => 124 | 128 => 142 | 129 => 129 | 302 => 133 | 303 => 134 | 304 => 135 | 305 => 136 | 306 => 137 | 307 => 138 | 308 => 139 | 309 => 140 | 310 => 141 | 333 => 147 | 329 => 148 | 330 => 149 | 334 => 150 | 335 => 151 | 336 => 152 | 344 => 153 | n => n, fun | 31 => 22 | 9 => 9 | 3 => 3 | 46 => 162 | 0 => 0 | 51 => 166 | 53 => 154 | 4 => 4 | 183 => 170 | 182 => 169 | 131 => 73 | 5 => 5 | 218 => 180 | 222 => 184 | 228 => 188 | 229 => 189 | n => n, fun | n => n⟩
theorem sortLays : Go.Proofs.Lays.n190 Tryz.prog sortLays_ren where
  mixed := by kernel_rfl
  f125 := Tryz.func125.trans (congrArg some (by kernel_rfl))
  f128 := Tryz.func142.trans (congrArg some (by kernel_rfl))
  f129 := Tryz.func129.trans (congrArg some (by kernel_rfl))
  f190 := Tryz.func111.trans (congrArg some (by kernel_rfl))
  f258 := Tryz.func124.trans (congrArg some (by kernel_rfl))
  f302 := Tryz.func133.trans (congrArg some (by kernel_rfl))
  f303 := Tryz.func134.trans (congrArg some (by kernel_rfl))
  f304 := Tryz.func135.trans (congrArg some (by kernel_rfl))
  f305 := Tryz.func136.trans (congrArg some (by kernel_rfl))
  f306 := Tryz.func137.trans (congrArg some (by kernel_rfl))
  f307 := Tryz.func138.trans (congrArg some (by kernel_rfl))
  f308 := Tryz.func139.trans (congrArg some (by kernel_rfl))
  f309 := Tryz.func140.trans (congrArg some (by kernel_rfl))
  f310 := Tryz.func141.trans (congrArg some (by kernel_rfl))
  f329 := Tryz.func148.trans (congrArg some (by kernel_rfl))
  f330 := Tryz.func149.trans (congrArg some (by kernel_rfl))
  f333 := Tryz.func147.trans (congrArg some (by kernel_rfl))
  f334 := Tryz.func150.trans (congrArg some (by kernel_rfl))
  f335 := Tryz.func151.trans (congrArg some (by kernel_rfl))
  f336 := Tryz.func152.trans (congrArg some (by kernel_rfl))
  f344 := Tryz.func153.trans (congrArg some (by kernel_rfl))
  t0 := Tryz.underlying0
  a0 := Tryz.isAgg0
  z0 := Tryz.sizeOf0
  v0 := Tryz.zeroValue0
  t3 := Tryz.underlying3
  a3 := Tryz.isAgg3
  z3 := Tryz.sizeOf3
  v3 := Tryz.zeroValue3
  t4 := Tryz.underlying4
  a4 := Tryz.isAgg4
  z4 := Tryz.sizeOf4
  v4 := Tryz.zeroValue4
  t5 := Tryz.underlying5
  a5 := Tryz.isAgg5
  z5 := Tryz.sizeOf5
  v5 := Tryz.zeroValue5
  t9 := Tryz.underlying9
  a9 := Tryz.isAgg9
  z9 := Tryz.sizeOf9
  v9 := Tryz.zeroValue9
  t31 := Tryz.underlying22
  a31 := Tryz.isAgg22
  z31 := Tryz.sizeOf22
  v31 := Tryz.zeroValue22
  t46 := Tryz.underlying162
  a46 := Tryz.isAgg162
  z46 := Tryz.sizeOf162
  v46 := Tryz.zeroValue162
  t51 := Tryz.underlying166
  a51 := Tryz.isAgg166
  z51 := Tryz.sizeOf166
  v51 := Tryz.zeroValue166
  t53 := Tryz.underlying154
  a53 := Tryz.isAgg154
  z53 := Tryz.sizeOf154
  v53 := Tryz.zeroValue154
  t131 := Tryz.underlying73
  a131 := Tryz.isAgg73
  z131 := Tryz.sizeOf73
  v131 := Tryz.zeroValue73
  t182 := Tryz.underlying169
  a182 := Tryz.isAgg169
  z182 := Tryz.sizeOf169
  v182 := Tryz.zeroValue169
  t183 := Tryz.underlying170
  a183 := Tryz.isAgg170
  z183 := Tryz.sizeOf170
  v183 := Tryz.zeroValue170
  t218 := Tryz.underlying180
  a218 := Tryz.isAgg180
  z218 := Tryz.sizeOf180
  v218 := Tryz.zeroValue180
  t222 := Tryz.underlying184
  a222 := Tryz.isAgg184
  z222 := Tryz.sizeOf184
  v222 := Tryz.zeroValue184
  t228 := Tryz.underlying188
  a228 := Tryz.isAgg188
  z228 := Tryz.sizeOf188
  v228 := Tryz.zeroValue188
  t229 := Tryz.underlying189
  a229 := Tryz.isAgg189
  z229 := Tryz.sizeOf189
  v229 := Tryz.zeroValue189
def itoaSmall_ren : Go.Shelf.Ren := ⟨fun | 171 => 78 | 243 => 94 | 246 => 109 | 283 => 119 | 284 => 120 | 285 => 121 | 286 => 122 | 129 => 129 | 317 => 128 | 318 => 130 | 319 => 131 | 320 => 132 | 337 => 145 | 338 => 146 | n => n, fun | 3 => 3 | 9 => 9 | 2 => 2 | 4 => 4 | 171 => 153 | 0 => 0 | 53 => 154 | 37 => 143 | 5 => 5 | 173 => 157 | 212 => 165 | 51 => 166 | 20 => 20 | 213 => 167 | 46 => 162 | 232 => 186 | 233 => 187 | n => n, fun | 17 => 1 | 18 => 3 | 19 => 4 | n => n⟩
theorem itoaSmall : Go.Proofs.Lays.n171 Tryz.prog itoaSmall_ren where
  mixed := by kernel_rfl
  f129 := Tryz.func129.trans (congrArg some (by kernel_rfl))
  f171 := Tryz.func78.trans (congrArg some (by kernel_rfl))
  f243 := Tryz.func94.trans (congrArg some (by kernel_rfl))
  f246 := Tryz.func109.trans (congrArg some (by kernel_rfl))
  f283 := Tryz.func119.trans (congrArg some (by kernel_rfl))
  f284 := Tryz.func120.trans (congrArg some (by kernel_rfl))
  f285 := Tryz.func121.trans (congrArg some (by kernel_rfl))
  f286 := Tryz.func122.trans (congrArg some (by kernel_rfl))
  f317 := Tryz.func128.trans (congrArg some (by kernel_rfl))
  f318 := Tryz.func130.trans (congrArg some (by kernel_rfl))
  f319 := Tryz.func131.trans (congrArg some (by kernel_rfl))
  f320 := Tryz.func132.trans (congrArg some (by kernel_rfl))
  f337 := Tryz.func145.trans (congrArg some (by kernel_rfl))
  f338 := Tryz.func146.trans (congrArg some (by kernel_rfl))
  t0 := Tryz.underlying0
  a0 := Tryz.isAgg0
  z0 := Tryz.sizeOf0
  v0 := Tryz.zeroValue0
  t2 := Tryz.underlying2
  a2 := Tryz.isAgg2
  z2 := Tryz.sizeOf2
  v2 := Tryz.zeroValue2
  t3 := Tryz.underlying3
  a3 := Tryz.isAgg3
  z3 := Tryz.sizeOf3
  v3 := Tryz.zeroValue3
  t4 := Tryz.underlying4
  a4 := Tryz.isAgg4
  z4 := Tryz.sizeOf4
  v4 := Tryz.zeroValue4
  t5 := Tryz.underlying5
  a5 := Tryz.isAgg5
  z5 := Tryz.sizeOf5
  v5 := Tryz.zeroValue5
  t9 := Tryz.underlying9
  a9 := Tryz.isAgg9
  z9 := Tryz.sizeOf9
  v9 := Tryz.zeroValue9
  t20 := Tryz.underlying20
  a20 := Tryz.isAgg20
  z20 := Tryz.sizeOf20
  v20 := Tryz.zeroValue20
  t37 := Tryz.underlying143
  a37 := Tryz.isAgg143
  z37 := Tryz.sizeOf143
  v37 := Tryz.zeroValue143
  t46 := Tryz.underlying162
  a46 := Tryz.isAgg162
  z46 := Tryz.sizeOf162
  v46 := Tryz.zeroValue162
  t51 := Tryz.underlying166
  a51 := Tryz.isAgg166
  z51 := Tryz.sizeOf166
  v51 := Tryz.zeroValue166
  t53 := Tryz.underlying154
  a53 := Tryz.isAgg154
  z53 := Tryz.sizeOf154
  v53 := Tryz.zeroValue154
  t171 := Tryz.underlying153
  a171 := Tryz.isAgg153
  z171 := Tryz.sizeOf153
  v171 := Tryz.zeroValue153
  t173 := Tryz.underlying157
  a173 := Tryz.isAgg157
  z173 := Tryz.sizeOf157
  v173 := Tryz.zeroValue157
  t212 := Tryz.underlying165
  a212 := Tryz.isAgg165
  z212 := Tryz.sizeOf165
  v212 := Tryz.zeroValue165
  t213 := Tryz.underlying167
  a213 := Tryz.isAgg167
  z213 := Tryz.sizeOf167
  t232 := Tryz.underlying186
  a232 := Tryz.isAgg186
  z232 := Tryz.sizeOf186
  v232 := Tryz.zeroValue186
  t233 := Tryz.underlying187
  a233 := Tryz.isAgg187
  z233 := Tryz.sizeOf187
  v233 := Tryz.zeroValue187
  g17 := by kernel_rfl
  g18 := by kernel_rfl
  g19 := by kernel_rfl
def joinLays_ren : Go.Shelf.Ren := ⟨fun | 156 => 105 | 165 => 113 | 166 => 114 | 169 => 115 | 240 => 126 | 241 => 127 | 276 => 143 | 277 => 144 | n => n, fun | 31 => 22 | 9 => 9 | 3 => 3 | 4 => 4 | 0 => 0 | 20 => 20 | 72 => 145 | 76 => 149 | 70 => 142 | 37 => 143 | 75 => 148 | 127 => 163 | 164 => 177 | 5 => 5 | 80 => 151 | n => n, fun | n => n⟩
theorem joinLays : Go.Proofs.Lays.n156 Tryz.prog joinLays_ren where
  mixed := by kernel_rfl
  f156 := Tryz.func105.trans (congrArg some (by kernel_rfl))
  f165 := Tryz.func113.trans (congrArg some (by kernel_rfl))
  f166 := Tryz.func114.trans (congrArg some (by kernel_rfl))
  f169 := Tryz.func115.trans (congrArg some (by kernel_rfl))
  f240 := Tryz.func126.trans (congrArg some (by kernel_rfl))
  f241 := Tryz.func127.trans (congrArg some (by kernel_rfl))
  f276 := Tryz.func143.trans (congrArg some (by kernel_rfl))
  f277 := Tryz.func144.trans (congrArg some (by kernel_rfl))
  t0 := Tryz.underlying0
  a0 := Tryz.isAgg0
  z0 := Tryz.sizeOf0
  v0 := Tryz.zeroValue0
  t3 := Tryz.underlying3
  a3 := Tryz.isAgg3
  z3 := Tryz.sizeOf3
  v3 := Tryz.zeroValue3
  t4 := Tryz.underlying4
  a4 := Tryz.isAgg4
  z4 := Tryz.sizeOf4
  v4 := Tryz.zeroValue4
  t9 := Tryz.underlying9
  a9 := Tryz.isAgg9
  z9 := Tryz.sizeOf9
  v9 := Tryz.zeroValue9
  t20 := Tryz.underlying20
  a20 := Tryz.isAgg20
  z20 := Tryz.sizeOf20
  v20 := Tryz.zeroValue20
  t31 := Tryz.underlying22
  a31 := Tryz.isAgg22
  z31 := Tryz.sizeOf22
  v31 := Tryz.zeroValue22
  t37 := Tryz.underlying143
  a37 := Tryz.isAgg143
  z37 := Tryz.sizeOf143
  v37 := Tryz.zeroValue143
  t70 := Tryz.underlying142
  a70 := Tryz.isAgg142
  z70 := Tryz.sizeOf142
  v70 := Tryz.zeroValue142
  t72 := Tryz.underlying145
  a72 := Tryz.isAgg145
  z72 := Tryz.sizeOf145
  v72 := Tryz.zeroValue145
  t75 := Tryz.underlying148
  a75 := Tryz.isAgg148
  z75 := Tryz.sizeOf148
  v75 := Tryz.zeroValue148
  t76 := Tryz.underlying149
  a76 := Tryz.isAgg149
  z76 := Tryz.sizeOf149
  v76 := Tryz.zeroValue149
  t127 := Tryz.underlying163
  a127 := Tryz.isAgg163
  z127 := Tryz.sizeOf163
  v127 := Tryz.zeroValue163
  t164 := Tryz.underlying177
  a164 := Tryz.isAgg177
  z164 := Tryz.sizeOf177
  v164 := Tryz.zeroValue177

def strL (l : List UInt8) : PV := .str ⟨l.toArray⟩
def ofB (b : ByteArray) : List UInt8 := b.data.toList
theorem strL_ofB (b : ByteArray) : strL (ofB b) = .str b := by
  unfold strL ofB
  congr 1

theorem walk_SortS (blk cap : Nat) (zs : List (List UInt8)) (w : World) (hH : Go.Sort.Holds encStr w blk 0 zs.toArray) (hblk : blk < w.heap.size) (hsz : zs.length < 4611686018427387904) :
    Calls P F.slices_Sort_string_string #[.slice (some ⟨blk, 0, none⟩) zs.length cap] w fun e w' =>
      e = .returned (.tuple #[]) ∧ ∃ n os, w' = Go.Sort.grow (Go.Sort.putRow encStr (Go.Sort.ahead w n) blk 0 (zs.mergeSort fun x y => decide (x ≤ y)).toArray) os :=
  calls_of_every_depth fun D => AnyS.slices_Sort_string_in sortLays D blk 0 cap zs w hH hblk hsz
theorem rep_strL {F : Nat → Nat → Prop} {w : World} {v : Value} {l : List UInt8} (h : Rep F w v (strL l)) : v = encStr l := by
  cases h; rfl

/-- what stands in the row of an own array of texts -/
theorem row_str {F : Nat → Nat → Prop} {w : World} {g : Nat} {cur : Array Value} {ty : Nat} {zs : List (List UInt8)} (hb : w.heap[g]? = some (.cells cur ty (0, 0)))
    (hcell : ∀ (i : Nat) (y : PV) (j : Nat) (z : PV), (zs.map strL)[i]? = some y → y.cells[j]? = some z → ∃ u, cur[i * 1 + j]? = some u ∧ Rep F w u z) :
    (∀ j (hj : j < zs.length), cur[j]? = some (encStr zs[j])) ∧ Go.Sort.Holds encStr w g 0 zs.toArray := by
  have hcur : ∀ j (hj : j < zs.length), cur[j]? = some (encStr zs[j]) := fun j hj => by
    obtain ⟨u, hu, hr⟩ := hcell j (strL zs[j]) 0 (strL zs[j]) (by simp [hj]) rfl
    rw [show j * 1 + 0 = j by omega] at hu
    rw [hu, rep_strL hr]
  refine ⟨hcur, fun j hj => ?_⟩
  have hj : j < zs.length := by simpa using hj
  refine ⟨?_, ?_⟩
  · simp only [World.cell?, hb]
    rw [if_neg (by simp), Nat.zero_add, hcur j hj]
    simp [hj]
  · simp [World.frozen?, hb]

theorem one_arg {F : Nat → Nat → Prop} {ρ : Nat → Value} {w : World} {vv : Array Value} {v : Value} (hs : vv.size = 1) (h : ∀ (i : Nat) (u : Value) (a : SV PV), vv[i]? = some u → [SV.at (A.own 9000)][i]? = some a → RepS F ρ w u a) (hρ : ρ 9000 = v) : vv = #[v] := by
  have h0 : vv[0]? = some (vv[0]'(by omega)) := Array.getElem?_eq_getElem (by omega)
  have := (h 0 _ (.at (.own 9000)) h0 rfl).1
  rw [hρ] at this
  apply Array.ext (by simpa using hs)
  intro i hi1 hi2
  have : i = 0 := by simp at hi2; omega
  subst this
  simpa using this

/-- the own array of texts after its row was written anew -/
theorem repO_row {F : Nat → Nat → Prop} {ρ : Nat → Value} {w' : World} {o g cap : Nat} {cur cur' : Array Value} {ms : List (List UInt8)} {L : Nat} (hρ : ρ o = .slice (some ⟨g, 0, none⟩) ms.length cap) (hb : w'.heap[g]? = some (.cells cur' 9 (0, 0))) (hlc : ms.length ≤ cap) (hcm : cap ≤ maxLen) (hcs : cur'.size = cap * 1)
    (hget : ∀ q (hq : q < ms.length), cur'[q]? = some (encStr ms[q])) (hFn : ∀ j, ¬ F g j) : RepO F ρ w' o (.arr false 9 1 false (.sl (ms.map strL))) := by
  refine ⟨ms.map strL, rfl, by decide, fun y hy => ?_, .inr ⟨g, cap, cur', ?_, hb, ?_, hcm, hcs, fun q y j z hy hz => ?_, fun j => ⟨fun h => absurd h (hFn j), fun h => absurd h.1 (by decide)⟩⟩⟩
  · obtain ⟨a, _, rfl⟩ := List.mem_map.1 hy
    exact ⟨rfl, fun z hz => by
      have : z = strL a := by simpa [PV.cells, strL] using hz
      subst this; rfl⟩
  · rw [hρ, List.length_map]
  · rw [List.length_map]; exact hlc
  · rw [List.getElem?_map, Option.map_eq_some_iff] at hy
    obtain ⟨a, ha, rfl⟩ := hy
    have hj : j = 0 := by
      cases j with
      | zero => rfl
      | succ j => simp [PV.cells, strL] at hz
    subst hj
    have hz : z = strL a := by simpa [PV.cells, strL, eq_comm] using hz
    subst hz
    obtain ⟨hq, hqa⟩ := List.getElem?_eq_some_iff.1 ha
    refine ⟨encStr a, ?_, .str _⟩
    rw [show q * 1 + 0 = q by omega, hget q hq, hqa]

theorem okS_SortS (zs : List (List UInt8)) (h0 : zs ≠ []) (hlen : zs.length < 4611686018427387904) : OkS P F.slices_Sort_string_string sg_slices_Sort_string_string [.sl (zs.map strL)] [.tup [], .sl ((zs.mergeSort fun x y => decide (x ≤ y)).map strL)] := by
  have hent : Enters P F.slices_Sort_string_string := by
    obtain ⟨c, hc⟩ : ∃ c, Tryz.f111.body = some c := ⟨_, rfl⟩
    exact Go.Lf.enters_of (f := 111) Tryz.func111 hc (by decide)
  refine ⟨hent, fun F w vv ρ hF hgl hsz hargs hobs => ?_⟩
  obtain ⟨es, he, _, hok, hcase⟩ := hobs.rep 9000 (.arr false 9 1 false (.sl (zs.map strL))) rfl
  obtain rfl : es = zs.map strL := (PV.sl.inj he).symm
  rcases hcase with ⟨_, hn⟩ | ⟨g, cap, cur, hρ, hb, hlc, hcm, hcs, hcell, hFg⟩
  · exact absurd (List.map_eq_nil_iff.1 hn) h0
  have hFn : ∀ j, ¬ F g j := fun j h => by have := (hFg j).1 h; exact absurd this.1 (by decide)
  rw [List.length_map] at hρ hlc
  obtain rfl := one_arg hsz hargs hρ
  have hlt : g < w.heap.size := (Array.getElem?_eq_some_iff.1 hb).1
  obtain ⟨hcur, hH⟩ := row_str hb hcell
  have hml : (zs.mergeSort fun x y => decide (x ≤ y)).length = zs.length := List.length_mergeSort zs
  refine (walk_SortS g cap zs w hH hlt hlen).mono ?_
  rintro e w' ⟨rfl, m, os, rfl⟩
  generalize hms : (zs.mergeSort fun x y => decide (x ≤ y)) = ms at *
  have hheap : ∀ k, k < w.heap.size → k ≠ g → (Go.Sort.grow (Go.Sort.putRow encStr (Go.Sort.ahead w m) g 0 ms.toArray) os).heap[k]? = w.heap[k]? := fun k hk hne => by
    simp only [Go.Sort.grow, Go.Sort.putRow, Go.Sort.mapBlock, Go.Sort.ahead]
    rw [Array.getElem?_append_left (by simpa using hk), Array.getElem?_modify, if_neg (Ne.symm hne)]
  have hheapg : (Go.Sort.grow (Go.Sort.putRow encStr (Go.Sort.ahead w m) g 0 ms.toArray) os).heap[g]? = some (.cells (Go.Sort.putCells encStr 0 ms.toArray cur) 9 (0, 0)) := by
    simp only [Go.Sort.grow, Go.Sort.putRow, Go.Sort.mapBlock, Go.Sort.ahead]
    rw [Array.getElem?_append_left (by simpa using hlt), Array.getElem?_modify, if_pos rfl, hb]
    rfl
  have hsize : w.heap.size ≤ (Go.Sort.grow (Go.Sort.putRow encStr (Go.Sort.ahead w m) g 0 ms.toArray) os).heap.size := by
    simp [Go.Sort.grow, Go.Sort.putRow, Go.Sort.mapBlock, Go.Sort.ahead]
  have hsame : ∀ b o, F b o → Same w (Go.Sort.grow (Go.Sort.putRow encStr (Go.Sort.ahead w m) g 0 ms.toArray) os) b o := fun b o h => by
    have hne : b ≠ g := fun e => by subst e; exact hFn o h
    exact Same.of_block (hheap b (hF b o h) hne) o
  have hblk : ∀ k, ¬ blocksOf ρ (sg_slices_Sort_string_string.obsI [.sl (zs.map strL)]) k → k ≠ g := fun k hk e => by
    subst e
    refine hk ⟨(9000, .arr false 9 1 false (.sl (zs.map strL))), by simp [Sig.obsI, sg_slices_Sort_string_string, Ob.map', instL], ?_⟩
    rw [hρ]; exact (HB_hb (k0 := k) rfl).2 rfl
  have look1 : ∀ o ob, lookO (sg_slices_Sort_string_string.robsI [.tup [], .sl (ms.map strL)]) o = some ob → o = 9000 ∧ ob = .arr false 9 1 false (.sl (ms.map strL)) := fun o ob ho => by
    have ho : Go.Lf.look [(9000, some (Ob.arr false 9 1 false (PV.sl (ms.map strL))))] o = some ob := ho
    simp only [Go.Lf.look] at ho
    split at ho
    · rename_i hq
      exact ⟨(Nat.eq_of_beq_eq_true hq).symm, (Option.some.inj ho).symm⟩
    · cases ho
  refine ⟨_, F, ρ, rfl, ⟨rfl, rfl, rfl, hsize, fun k hk hn => hheap k hk (hblk k hn)⟩, fun b o h => ⟨h, hsame b o h⟩, fun b o h => .inl h, fun b o h => by have := hF b o h; omega, ?_, ⟨?_, ?_⟩, ?_, fun _ _ _ => rfl⟩
  · exact .tup _ _ rfl fun i c x h1 h2 => by simp at h2
  · intro o ob ho
    obtain ⟨rfl, rfl⟩ := look1 o ob ho
    refine repO_row (L := 0) (cur := cur) (by rw [hρ, hml]) hheapg (by omega) hcm (by simp [Go.Sort.putCells, hcs]) (fun q hq => ?_) hFn
    have hcq := hcur q (by omega)
    simp only [Go.Sort.putCells, Array.getElem?_mapIdx]
    rw [hcq]
    simp [hq]
  · intro o o' ob ob' ho ho' hne
    exact absurd ((look1 o ob ho).1.trans (look1 o' ob' ho').1.symm) hne
  · intro o ob ho k hk
    obtain ⟨rfl, rfl⟩ := look1 o ob ho
    exact .inr ⟨(9000, .arr false 9 1 false (.sl (zs.map strL))), by simp [Sig.obsI, sg_slices_Sort_string_string, Ob.map', instL], hk⟩
theorem rep_int {F : Nat → Nat → Prop} {w : World} {v : Value} {k : IntKind} {m : Int} (h : Rep F w v (.int k m)) : v = .int k m := by cases h; rfl
theorem rep_str1 {F : Nat → Nat → Prop} {w : World} {v : Value} {m : ByteArray} (h : Rep F w v (.str m)) : v = .string m := by cases h; rfl
theorem ok_Itoa (m : Nat) (hm : m < 100) : Ok P F.strconv_Itoa [i (m : Int)] (.str ⟨(Lib.decDigits m).toArray⟩) := by
  have hent : Enters P F.strconv_Itoa := by
    obtain ⟨c, hc⟩ : ∃ c, Tryz.f78.body = some c := ⟨_, rfl⟩
    exact Go.Lf.enters_of (f := 78) Tryz.func78 hc (by decide)
  refine ⟨hent, fun G w vs hF hgl hargs => ?_⟩
  have hvs : vs = #[.int .i64 m] := by
    obtain ⟨h1, h2⟩ := hargs
    have h1 : vs.size = 1 := h1
    have h0 : vs[0]? = some (vs[0]'(by omega)) := Array.getElem?_eq_getElem (by omega)
    have h3 := h2 0 _ (i (m : Int)) h0 rfl
    have h4 : vs[0]'(by omega) = .int .i64 m := rep_int h3
    apply Array.ext (by simpa using h1)
    intro q hq1 hq2
    have : q = 0 := by simp at hq2; omega
    subst this
    simpa using h4
  subst hvs
  have := Any.strconv_Itoa_small itoaSmall m hm w
  refine Calls.mono (show Calls P F.strconv_Itoa #[.int .i64 m] w _ from this) ?_
  rintro e w' ⟨rfl, rfl⟩
  exact ⟨_, G, rfl, Below.refl _ _, fun _ _ h => h, fun _ _ h => .inl h, hF, .str _⟩

theorem joinX : Builder.Extra Tryz.prog joinLays_ren where
  sizeBuilder := by kernel_rfl
  liesBuilder := by kernel_rfl
  t5 := Tryz.underlying5
  a5 := Tryz.isAgg5
  z5 := Tryz.sizeOf5
  v5 := Tryz.zeroValue5
  infoByte := by kernel_rfl
  cellsByte := by kernel_rfl
  sizeByte := by kernel_rfl
  neB5 := by decide

theorem ok_Join (l : List ByteArray) (sep : ByteArray) (hl : l.length ≤ 140737488355328) (hlen : (Lib.join (l.map (·.data.toList)) sep.data.toList).length ≤ 140737488355328) :
    Ok P F.strings_Join [.sl (l.map .str), .str sep] (.str ⟨(Lib.join (l.map (·.data.toList)) sep.data.toList).toArray⟩) := by
  have hent : Enters P F.strings_Join := by
    obtain ⟨c, hc⟩ : ∃ c, Tryz.f105.body = some c := ⟨_, rfl⟩
    exact Go.Lf.enters_of (f := 105) Tryz.func105 hc (by decide)
  refine ⟨hent, fun G w vs hF hgl hargs => ?_⟩
  obtain ⟨h1, h2⟩ := hargs
  have h1 : vs.size = 2 := h1
  have g0 : vs[0]? = some (vs[0]'(by omega)) := Array.getElem?_eq_getElem (by omega)
  have g1 : vs[1]? = some (vs[1]'(by omega)) := Array.getElem?_eq_getElem (by omega)
  have h3 := h2 0 _ (.sl (l.map .str)) g0 rfl
  have h4 := h2 1 _ (.str sep) g1 rfl
  have e1 : vs[1]'(by omega) = .string sep := rep_str1 h4
  have hvs : vs = #[vs[0]'(by omega), .string sep] := by
    apply Array.ext (by simpa using h1)
    intro q hq1 hq2
    have : q = 0 ∨ q = 1 := by simp at hq2; omega
    rcases this with rfl | rfl
    · rfl
    · simpa using e1
  generalize hv : vs[0]'(by omega) = v at hvs h3
  clear g0 g1 h2 h4 e1 hv
  subst hvs
  have key : Calls P F.strings_Join #[v, .string sep] w fun e w' => e = .returned (.string ⟨(Lib.join (l.map (·.data.toList)) sep.data.toList).toArray⟩) ∧ Below w.heap.size w w' := by
    have none : ∀ p c, Calls P F.strings_Join #[.slice p 0 c, .string sep] w fun e w' => e = .returned (.string ⟨(Lib.join (([] : List ByteArray).map (·.data.toList)) sep.data.toList).toArray⟩) ∧ Below w.heap.size w w' := fun p c => by
      refine Calls.mono (show Calls P F.strings_Join #[.slice p 0 c, .string sep] w _ from Any.strings_Join_none joinLays joinX p c sep w) ?_
      rintro e w' ⟨rfl, rfl⟩
      exact ⟨rfl, Below.refl _ _⟩
    generalize hxs : l.map PV.str = xs at h3
    cases h3 with
    | sl0 p =>
      obtain rfl := List.map_eq_nil_iff.1 hxs
      exact none p 0
    | sl b o cap m _ g hcap hm hn hc hg h =>
      subst hxs
      match l, hl, hlen, hcap, hn, hg, h with
      | [], _, _, _, _, _, _ => exact none _ _
      | x :: r, hl, hlen, hcap, hn, hg, h =>
        obtain rfl : m = 1 := (hn (.str x) (by simp)).symm
        have hb : b < w.heap.size := hF b _ (hg 0 (.str x) 0 (.str x) rfl rfl).1
        have := Any.strings_Join joinLays joinX b o cap (x :: r) sep w (fun j y hy => ?_) hb hl (by simpa using hcap) hlen
        · rw [List.length_map]
          exact this
        · have hy' : ((x :: r).map PV.str)[j]? = some (.str y) := by rw [List.getElem?_map, hy]; rfl
          have e := (hg j (.str y) 0 (.str y) hy' rfl).2
          have e2 := h j (.str y) 0 (.str y) hy' rfl
          rw [show o + j * 1 + 0 = o + j by omega] at e
          rw [e]
          rw [rep_str1 e2]
  refine key.mono ?_
  rintro e w' ⟨rfl, hB⟩
  exact ⟨_, G, rfl, hB, fun _ _ h => h, fun _ _ h => .inl h, fun b o h => Nat.lt_of_lt_of_le (hF b o h) hB.size, .str _⟩
end Go.Proofs.YtopinhoalbgebaaGreatDoor.Tx

/- The normal tree as a function on closed types: equality of trees; the function. -/
namespace Go.Proofs.YtopinhoalbgebaaGreatDoor.Tx
open Go.Lf Go.Lf.S Go.Lf.Duo
set_option maxRecDepth 100000

/-! what a closed type unfolds to is one of the list's too -/
theorem occU_rec {ds : List Nd} {L : List Ty} {M : Nat} {k p : Int} {nm : ByteArray} {s : Int} {ls : List ByteArray} {x : Ty} {a : Int} {ns : List ByteArray} {refs : List Rf} {Ts : List Ty} {g : Nat} {σ : Int} (h8 : k = 8) (h : Occ ds L M (.mk k p nm s ls [x]) a ns refs Ts g)
    (hs : ∃ u, Unf (raiseT σ (sub (lkT (ns ++ [nm]) (Ts ++ [sub (lkT ns Ts) (.mk k p nm s ls [x])])) x)) u ∧ CL L M u) :
    ∃ u, Unf (raiseT σ (sub (lkT ns Ts) (.mk k p nm s ls [x]))) u ∧ CL L M u := by
  have hi := h.i
  obtain ⟨x', hx', hw⟩ := wf_kid8 hi.wf h8
  cases hx'
  rw [lkT_snoc _ _ _ _ hi.l2.symm, ← put_sub hw (fun y T hy _ => hi.clo T (lkT_mem _ _ _ _ hy) nm), ← raise_put] at hs
  obtain ⟨u, h1, h2⟩ := hs
  refine ⟨u, ?_, h2⟩
  have e : raiseT σ (sub (lkT ns Ts) (.mk k p nm s ls [x])) = .mk k p nm s ls [raiseT σ (sub ((lkT ns Ts).del nm) x)] := by
    rw [sub_8 h8, raiseT_mk, if_neg (by omega)]; rfl
  refine .step _ (raiseT σ (sub ((lkT ns Ts).del nm) x)) u [] (by rw [e]; exact h8) (by rw [e]; rfl) ?_
  have en : (raiseT σ (sub (lkT ns Ts) (.mk k p nm s ls [x]))).name = nm := by rw [e]; rfl
  rw [en]; exact h1
theorem occU_node {ds : List Nd} {L : List Ty} {M : Nat} {k p : Int} {nm : ByteArray} {s : Int} {ls : List ByteArray} {ks : List Ty} {a : Int} {ns : List ByteArray} {refs : List Rf} {Ts : List Ty} {g : Nat} {σ : Int} (h8 : ¬ k = 8) (h9 : ¬ k = 9) (h : Occ ds L M (.mk k p nm s ls ks) a ns refs Ts g) :
    ∃ u, Unf (raiseT σ (sub (lkT ns Ts) (.mk k p nm s ls ks))) u ∧ CL L M u := by
  have hc : CL L M (raiseT σ (sub (lkT ns Ts) (.mk k p nm s ls ks))) := ⟨ds, _, σ, _, a, ns, refs, Ts, g, h, rfl, rfl⟩
  refine ⟨_, ?_, hc⟩
  have e : raiseT σ (sub (lkT ns Ts) (.mk k p nm s ls ks)) = .mk k (if 4 ≤ k ∧ k ≤ 7 then ad p σ else p) nm s ls ((ks.map (sub (lkT ns Ts))).map (raiseT σ)) := by rw [sub_o h8 h9, raiseT_mk]
  have := Unf.done (raiseT σ (sub (lkT ns Ts) (.mk k p nm s ls ks))) (by rw [e]; exact h8)
  rw [raise_raise] at this
  simpa using this
theorem occU_hd {ds : List Nd} {L : List Ty} {M : Nat} : ∀ (n : Nat) {t : Ty} {a : Int} {ns : List ByteArray} {refs : List Rf} {Ts : List Ty} {g : Nat} {σ : Int}, Hd n t → Occ ds L M t a ns refs Ts g →
    ∃ u, Unf (raiseT σ (sub (lkT ns Ts) t)) u ∧ CL L M u := by
  intro n
  induction n with
  | zero =>
    intro t a ns refs Ts g σ hh h
    obtain ⟨k, p, nm, s, ls, ks⟩ := t
    cases hh with
    | done _ h8 h9 _ _ => exact occU_node h8 h9 h
  | succ n ih =>
    intro t a ns refs Ts g σ hh h
    obtain ⟨k, p, nm, s, ls, ks⟩ := t
    cases hh with
    | step _ _ x h8 hk hh =>
      have hk : ks = [x] := hk
      subst hk
      exact occU_rec h8 h (ih hh (.down k p nm s ls x a ns refs Ts g h8 h))
theorem occU {ds : List Nd} {L : List Ty} {M : Nat} : ∀ (t : Ty) {a : Int} {ns : List ByteArray} {refs : List Rf} {Ts : List Ty} {g : Nat} {σ : Int}, Occ ds L M t a ns refs Ts g →
    ∃ u, Unf (raiseT σ (sub (lkT ns Ts) t)) u ∧ CL L M u := by
  intro t
  induction t using Ty.ind with
  | _ t ih =>
  intro a ns refs Ts g σ h
  have hi := h.i
  obtain ⟨k, p, nm, s, ls, ks⟩ := t
  by_cases h9 : k = 9
  · obtain ⟨j, hj, hla⟩ := wf_var hi.wf h9
    have hjn : j < ns.length := Nat.lt_of_lt_of_le hj hi.gle
    have hl1 := hi.l1
    have hl2 := hi.l2
    have h2 := lkT_at ns Ts nm j hla.1 hla.2 (by omega)
    obtain ⟨t', a', ns', refs', Ts', g', e1, e2, e3, e4⟩ := hi.ent j (by omega) (by omega)
    obtain ⟨m, hm⟩ := e4 (.inl hj)
    rw [sub_9 h9 h2, raise_raise, e3]
    exact occU_hd m hm e1
  · by_cases h8 : k = 8
    · obtain ⟨x, rfl, hw⟩ := wf_kid8 hi.wf h8
      exact occU_rec h8 h (ih x (by simp [Ty.kids]) (.down k p nm s ls x a ns refs Ts g h8 h))
    · exact occU_node h8 h9 h
theorem CL.unfC {L : List Ty} {M : Nat} {T : Ty} (h : CL L M T) : CL L M (unfT T) := by
  obtain ⟨ds, r, σ, t, a, ns, refs, Ts, g, ho, rfl, rfl⟩ := h
  obtain ⟨u, h1, h2⟩ := occU t ho (σ := σ)
  rw [unfT_eq h1]; exact h2
theorem CL.ex {L : List Ty} {M : Nat} {T : Ty} (h : CL L M T) : ∃ u, Unf T u := ⟨_, h.unf.1⟩
theorem CL.uu {L : List Ty} {M : Nat} {T : Ty} (h : CL L M T) : unfT (unfT T) = unfT T := unf_unf h.ex

/-! equality of trees -/
theorem Shp.nk {M : Nat} {u : Ty} (h : Shp M u) : u.kids.length = if u.kind ≤ 3 then 0 else if u.kind ≤ 5 then 2 else u.labels.length := by
  have h1 := h.k1
  split
  · rename_i c; rw [(h.k3 c).1]; rfl
  · split
    · rename_i c c2; exact (h.k5 ⟨by omega, c2⟩).1
    · exact h.k7 ⟨by omega, h1.2⟩
theorem ELoc.symm {x y : Ty} (h : ELoc x y) : ELoc y x := ⟨h.1.symm, h.2.1.symm, fun s => (h.2.2 s).symm⟩
theorem ELoc.nil {x y : Ty} (h : ELoc x y) : x.labels = [] ↔ y.labels = [] := by
  constructor
  · intro e
    refine List.eq_nil_iff_forall_not_mem.2 fun s hs => ?_
    have := (h.2.2 s).2 hs
    rw [e] at this; cases this
  · intro e
    refine List.eq_nil_iff_forall_not_mem.2 fun s hs => ?_
    have := (h.2.2 s).1 hs
    rw [e] at this; cases this
theorem ELoc.len {M M' : Nat} {x y : Ty} (h : ELoc x y) (hx : Shp M x) (hy : Shp M' y) : x.kids.length = y.kids.length := by
  rw [hx.nk, hy.nk, h.1, same_set hx.nd hy.nd h.2.2]
theorem eqP_refl {L : List Ty} {M : Nat} {A : Ty} (h : CL L M A) : EqP (A, A) := by
  refine ⟨fun q => q.1 = q.2 ∧ CL L M q.1, ⟨rfl, h⟩, ?_⟩
  rintro ⟨B, B'⟩ ⟨he, hB⟩
  obtain rfl : B = B' := he
  have hB : CL L M B := hB
  refine ⟨⟨rfl, rfl, fun s => Iff.rfl⟩, fun w hw => ?_⟩
  have hc := hw.cl hB.unf.2.2 hB.unf.2.2
  refine ⟨?_, hc.1⟩
  rcases hw with ⟨_, j, e1, e2⟩ | ⟨_, s, i, j, f1, f2, e1, e2⟩
  · exact Option.some.inj (e1.symm.trans e2)
  · obtain rfl := nodup_at hB.unf.2.1.nd f1 f2
    exact Option.some.inj (e1.symm.trans e2)
theorem ERaw.symm {x y : Ty} (h : ELoc x y) {w : Ty × Ty} (hw : ERaw x y w) : ERaw y x (w.2, w.1) := by
  rcases hw with ⟨e, j, e1, e2⟩ | ⟨e, s, i, j, f1, f2, e1, e2⟩
  · exact .inl ⟨h.nil.1 e, j, e2, e1⟩
  · exact .inr ⟨fun c => e (h.nil.2 c), s, j, i, f2, f1, e2, e1⟩
theorem eqP_symm {A B : Ty} (h : EqP (A, B)) : EqP (B, A) := by
  refine ⟨fun q => EqP (q.2, q.1), h, ?_⟩
  rintro ⟨X, Y⟩ h
  obtain ⟨h1, h2⟩ := EqP.step h
  exact ⟨h1.symm, fun w hw => h2 _ (ERaw.symm h1.symm hw)⟩
theorem ERaw.mid {M : Nat} {x y z : Ty} (h1 : ELoc x y) (h2 : ELoc y z) (hx : Shp M x) (hy : Shp M y) {w : Ty × Ty} (hw : ERaw x z w) : ∃ v, ERaw x y (w.1, v) ∧ ERaw y z (v, w.2) := by
  have hl := h1.len hx hy
  rcases hw with ⟨e, j, e1, e2⟩ | ⟨e, s, i, j, f1, f2, e1, e2⟩
  · have hj := (List.getElem?_eq_some_iff.1 e1).1
    exact ⟨y.kids[j], .inl ⟨e, j, e1, List.getElem?_eq_getElem (by omega)⟩, .inl ⟨h1.nil.1 e, j, List.getElem?_eq_getElem (by omega), e2⟩⟩
  · obtain ⟨q, hq, hqs⟩ := List.getElem_of_mem ((h1.2.2 s).1 (List.mem_of_getElem? f1))
    have hne : y.labels ≠ [] := fun c => e (h1.nil.2 c)
    have hqk : q < y.kids.length := by
      have k1 := hy.k1
      have : y.kids.length = y.labels.length := by
        by_cases c3 : y.kind ≤ 3
        · exact absurd (hy.k3 c3).2.1 hne
        · by_cases c5 : y.kind ≤ 5
          · exact absurd (hy.k5 ⟨by omega, c5⟩).2 hne
          · exact hy.k7 ⟨by omega, k1.2⟩
      omega
    have hql : y.labels[q]? = some s := by rw [List.getElem?_eq_getElem hq, hqs]
    exact ⟨y.kids[q], .inr ⟨e, s, i, q, f1, hql, e1, List.getElem?_eq_getElem hqk⟩, .inr ⟨hne, s, q, j, hql, f2, List.getElem?_eq_getElem hqk, e2⟩⟩
theorem eqP_trans {L : List Ty} {M : Nat} {A B C : Ty} (cA : CL L M A) (cB : CL L M B) (h1 : EqP (A, B)) (h2 : EqP (B, C)) : EqP (A, C) := by
  refine ⟨fun q => ∃ B, CL L M q.1 ∧ CL L M B ∧ EqP (q.1, B) ∧ EqP (B, q.2), ⟨B, cA, cB, h1, h2⟩, ?_⟩
  clear h1 h2 cA cB
  rintro ⟨A, C⟩ ⟨B, cA, cB, h1, h2⟩
  obtain ⟨l1, s1⟩ := h1.step
  obtain ⟨l2, s2⟩ := h2.step
  simp only at l1 l2 s1 s2 cA
  refine ⟨⟨l1.1.trans l2.1, l1.2.1.trans l2.2.1, fun s => (l1.2.2 s).trans (l2.2.2 s)⟩, fun w hw => ?_⟩
  obtain ⟨v, w1, w2⟩ := ERaw.mid l1 l2 cA.unf.2.1 cB.unf.2.1 hw
  have hc := w1.cl cA.unf.2.2 cB.unf.2.2
  exact ⟨v, hc.1, hc.2, s1 _ w1, s2 _ w2⟩
theorem ERaw.unraise {x y : Ty} {δ : Int} {w : Ty × Ty} (hw : ERaw (raiseT δ x) (raiseT δ y) w) : ∃ w', ERaw x y w' ∧ w = (raiseT δ w'.1, raiseT δ w'.2) := by
  rcases hw with ⟨g0, j, g1, g2⟩ | ⟨g0, s, i, j, f1, f2, g1, g2⟩
  · rw [raise_labels] at g0
    rw [raise_kids, List.getElem?_map, Option.map_eq_some_iff] at g1 g2
    obtain ⟨u, hu, e3⟩ := g1
    obtain ⟨v, hv, e4⟩ := g2
    exact ⟨(u, v), .inl ⟨g0, j, hu, hv⟩, Prod.ext e3.symm e4.symm⟩
  · rw [raise_labels] at g0 f1 f2
    rw [raise_kids, List.getElem?_map, Option.map_eq_some_iff] at g1 g2
    obtain ⟨u, hu, e3⟩ := g1
    obtain ⟨v, hv, e4⟩ := g2
    exact ⟨(u, v), .inr ⟨g0, s, i, j, f1, f2, hu, hv⟩, Prod.ext e3.symm e4.symm⟩
theorem eqP_raise {L : List Ty} {M : Nat} {A B : Ty} (cA : CL L M A) (cB : CL L M B) (k : Int) (h : EqP (A, B)) : EqP (raiseT k A, raiseT k B) := by
  refine ⟨fun q => ∃ A B, q = (raiseT k A, raiseT k B) ∧ CL L M A ∧ CL L M B ∧ EqP (A, B), ⟨A, B, rfl, cA, cB, h⟩, ?_⟩
  clear h cA cB
  rintro _ ⟨A, B, rfl, cA, cB, h⟩
  obtain ⟨l1, s1⟩ := h.step
  simp only at l1 s1
  simp only [unfT_raise k cA.ex, unfT_raise k cB.ex]
  refine ⟨l1.raise k, fun w hw => ?_⟩
  obtain ⟨w', hw', rfl⟩ := hw.unraise
  have hc := hw'.cl cA.unf.2.2 cB.unf.2.2
  exact ⟨w'.1, w'.2, rfl, hc.1, hc.2, s1 _ hw'⟩
theorem raise0 {L : List Ty} {M : Nat} {T : Ty} (h : CL L M T) : raiseT 0 (unfT T) = unfT T := (unf_done h.unf.1).2
/-- only what a type unfolds to matters -/
theorem eqP_unf {L : List Ty} {M : Nat} {A : Ty} (cA : CL L M A) : EqP (A, unfT A) := by
  obtain ⟨R, h1, h2⟩ := eqP_refl cA
  refine ⟨fun q => R q ∨ q = (A, unfT A), .inr rfl, ?_⟩
  rintro q (h | rfl)
  · obtain ⟨g1, g2⟩ := h2 q h
    exact ⟨g1, fun w hw => .inl (g2 w hw)⟩
  · obtain ⟨g1, g2⟩ := h2 _ h1
    simp only [cA.uu]
    exact ⟨g1, fun w hw => .inl (g2 w hw)⟩
end Go.Proofs.YtopinhoalbgebaaGreatDoor.Tx

/- The normal tree as a function on closed types (2). -/
namespace Go.Proofs.YtopinhoalbgebaaGreatDoor.Tx
open Go.Lf Go.Lf.S Go.Lf.Duo
set_option maxRecDepth 100000

/-! names -/
def decS (m : Nat) : ByteArray := ⟨(Lib.decDigits m).toArray⟩
def nmB (m : Nat) : ByteArray := ⟨#[114]⟩ ++ decS m
def numOf (l : List UInt8) : Nat := l.foldl (fun a d => 10 * a + (d.toNat - 48)) 0
theorem numOf_append (l : List UInt8) (d : UInt8) : numOf (l ++ [d]) = 10 * numOf l + (d.toNat - 48) := by simp [numOf]
theorem dec_num : ∀ m : Nat, numOf (Lib.decDigits m) = m := by
  intro m
  induction m using Nat.strongRecOn with
  | _ m ih =>
  rw [Lib.decDigits]
  split
  · rename_i h
    show 10 * 0 + ((UInt8.ofNat (48 + m)).toNat - 48) = m
    rw [UInt8.toNat_ofNat', Nat.mod_eq_of_lt (by omega)]; omega
  · rename_i h
    rw [numOf_append, ih _ (by omega), UInt8.toNat_ofNat', Nat.mod_eq_of_lt (by omega)]; omega
theorem nmB_inj {a b : Nat} (h : nmB a = nmB b) : a = b := by
  have h1 := congrArg (fun x : ByteArray => x.data.toList) h
  have h2 : (114 : UInt8) :: Lib.decDigits a = 114 :: Lib.decDigits b := by
    simpa [nmB, decS, ByteArray.data_append] using h1
  rw [← dec_num a, ← dec_num b, (List.cons.inj h2).2]

/-! labels in order -/
noncomputable def srt (l : List ByteArray) : List ByteArray := open Classical in if h : ∃ o : List ByteArray, o.length = l.length ∧ Shuf o l ∧ Srt o.length o then Classical.choose h else l
theorem srt_eq {l o : List ByteArray} (hn : l.Nodup) (h0 : o.length = l.length) (h1 : Shuf o l) (h2 : Srt o.length o) : srt l = o := by
  have he : ∃ o : List ByteArray, o.length = l.length ∧ Shuf o l ∧ Srt o.length o := ⟨o, h0, h1, h2⟩
  unfold srt
  rw [dif_pos he]
  obtain ⟨_, g1, g2⟩ := Classical.choose_spec he
  exact (sorted_eq hn hn g1 g2 h1 h2).2 fun s => Iff.rfl
theorem srt_nil : srt [] = [] := srt_eq List.nodup_nil rfl ⟨id, id, fun x => ⟨rfl, rfl⟩, fun x => rfl⟩ fun p q x y hp hpq hx hy => by simp at hx
theorem srt_spec {l : List ByteArray} (hn : l.Nodup) (hl : l.length ≤ 549755813888) : (srt l).length = l.length ∧ (∀ s, s ∈ srt l ↔ s ∈ l) ∧ (srt l).Nodup ∧ Ok P F.ref08_Sorted [.sl (l.map .str)] (.sl ((srt l).map .str)) := by
  obtain ⟨o, h0, h1, h2, h3⟩ := ok_Sorted l hl
  rw [srt_eq hn h1 h2 h3]
  exact ⟨h1, h2.mem, h2.nodup hn, h0⟩
theorem srt_set {l m : List ByteArray} (hn : l.Nodup) (hm : m.Nodup) (hl : l.length ≤ 549755813888) (hml : m.length ≤ 549755813888) : srt l = srt m ↔ ∀ s, s ∈ l ↔ s ∈ m := by
  obtain ⟨o, _, h1, h2, h3⟩ := ok_Sorted l hl
  obtain ⟨o', _, h1', h2', h3'⟩ := ok_Sorted m hml
  rw [srt_eq hn h1 h2 h3, srt_eq hm h1' h2' h3']
  exact sorted_eq hn hm h2 h3 h2' h3'

/-! rests in order -/
noncomputable def kidAt (u : Ty) (s : ByteArray) : Ty := open Classical in if h : ∃ k : Ty, ∃ j : Nat, u.labels[j]? = some s ∧ u.kids[j]? = some k then Classical.choose h else u
theorem kidAt_eq {u : Ty} (hn : u.labels.Nodup) {s : ByteArray} {k : Ty} {j : Nat} (h1 : u.labels[j]? = some s) (h2 : u.kids[j]? = some k) : kidAt u s = k := by
  have he : ∃ k : Ty, ∃ j : Nat, u.labels[j]? = some s ∧ u.kids[j]? = some k := ⟨k, j, h1, h2⟩
  unfold kidAt
  rw [dif_pos he]
  obtain ⟨j', g1, g2⟩ := Classical.choose_spec he
  obtain rfl := nodup_at hn g1 h1
  exact Option.some.inj (g2.symm.trans h2)
theorem kidAt_ex {M : Nat} {u : Ty} (hS : Shp M u) {s : ByteArray} (hs : s ∈ u.labels) : ∃ j : Nat, u.labels[j]? = some s ∧ u.kids[j]? = some (kidAt u s) := by
  obtain ⟨q, hq, hqs⟩ := List.getElem_of_mem hs
  have hne : u.labels ≠ [] := fun c => by rw [c] at hs; cases hs
  have hqk : q < u.kids.length := by
    have k1 := hS.k1
    have : u.kids.length = u.labels.length := by
      by_cases c3 : u.kind ≤ 3
      · exact absurd (hS.k3 c3).2.1 hne
      · by_cases c5 : u.kind ≤ 5
        · exact absurd (hS.k5 ⟨by omega, c5⟩).2 hne
        · exact hS.k7 ⟨by omega, k1.2⟩
    omega
  have hql : u.labels[q]? = some s := by rw [List.getElem?_eq_getElem hq, hqs]
  exact ⟨q, hql, by rw [kidAt_eq hS.nd hql (List.getElem?_eq_getElem hqk)]; exact List.getElem?_eq_getElem hqk⟩
noncomputable def ordK (u : Ty) : List Ty := if u.labels = [] then u.kids else (srt u.labels).map (kidAt u)
theorem ordK_mem {M : Nat} {u : Ty} (hS : Shp M u) (hM : M ≤ 549755813888) {k : Ty} (hk : k ∈ ordK u) : k ∈ u.kids := by
  unfold ordK at hk
  split at hk
  · exact hk
  · obtain ⟨s, hs, rfl⟩ := List.mem_map.1 hk
    have hl : u.labels.length ≤ M := by cases hS.lm with | mk _ h _ _ => exact h
    obtain ⟨j, _, h⟩ := kidAt_ex hS ((srt_spec hS.nd (by omega)).2.1 s |>.1 hs)
    exact List.mem_of_getElem? h

/-! the path -/
def off (p u : Ty) : Int := IntKind.i64.wrap (u.prio - pz p)
def Hit (p u : Ty) : Prop := EqP (raiseT (off p u) p, u)
noncomputable def fnd (path : List Ty) (u : Ty) : Option Nat := path.findIdx? fun p => dq (Hit p u)
structure POk (L : List Ty) (M : Nat) (path : List Ty) : Prop where
  cl : ∀ p ∈ path, CL L M p
  ac : ∀ p ∈ path, act p.kind = true
  un : ∀ p ∈ path, unfT p = p
  nd : (path.map nu).Nodup
theorem nu_raise {T : Ty} (hu : ∃ u, Unf T u) (ha : act (unfT T).kind = true) (k : Int) : nu (raiseT k T) = nu T := by
  unfold nu
  rw [unfT_raise k hu, pz_act (by rw [raise_kind]; exact ha), pz_act ha, raise_prio _ _ ha, raise_raise]
  refine raise_congr ?_ _
  rw [wrap_eq]
  have := wrap_mod ((unfT T).prio + k)
  unfold ad; omega
theorem nu_in {L : List Ty} {M : Nat} {T : Ty} (h : CL L M T) (ha : act (unfT T).kind = true) : nu T ∈ L.map nu := by
  obtain ⟨σ, s, hs, rfl, cs⟩ := h.base
  rw [unfT_raise σ cs.ex, raise_kind] at ha
  rw [nu_raise cs.ex ha]
  exact List.mem_map.2 ⟨s, hs, rfl⟩
theorem POk.len {L : List Ty} {M : Nat} {path : List Ty} (h : POk L M path) : path.length ≤ L.length := by
  have := nodup_leU h.nd (U := L.map nu) fun x hx => by
    obtain ⟨p, hp, rfl⟩ := List.mem_map.1 hx
    exact nu_in (h.cl p hp) (by rw [h.un p hp]; exact h.ac p hp)
  simpa using this
/-- one that is not on the path yet -/
theorem POk.snoc {L : List Ty} {M : Nat} {path : List Ty} (h : POk L M path) {T : Ty} (hT : CL L M T) (ha : act (unfT T).kind = true) (hf : fnd path (unfT T) = none) : POk L M (path ++ [unfT T]) := by
  refine ⟨fun p hp => ?_, fun p hp => ?_, fun p hp => ?_, ?_⟩
  · rcases List.mem_append.1 hp with hp | hp
    · exact h.cl p hp
    · obtain rfl := List.mem_singleton.1 hp; exact hT.unfC
  · rcases List.mem_append.1 hp with hp | hp
    · exact h.ac p hp
    · obtain rfl := List.mem_singleton.1 hp; exact ha
  · rcases List.mem_append.1 hp with hp | hp
    · exact h.un p hp
    · obtain rfl := List.mem_singleton.1 hp; exact hT.uu
  · rw [List.map_append, List.nodup_append]
    refine ⟨h.nd, by simp, ?_⟩
    rintro a ha' b hb rfl
    obtain ⟨p, hp, rfl⟩ := List.mem_map.1 ha'
    simp only [List.map_cons, List.map_nil, List.mem_singleton] at hb
    unfold fnd at hf
    rw [List.findIdx?_eq_none_iff] at hf
    have := hf p hp
    have hno : ¬ Hit p (unfT T) := fun c => by rw [dq_t c] at this; cases this
    refine hno ?_
    unfold Hit
    have e : raiseT (off p (unfT T)) p = unfT T := by
      unfold nu at hb
      rw [h.un p hp, hT.uu, pz_act ha, pz_act (h.ac p hp)] at hb
      have := congrArg (raiseT (unfT T).prio) hb
      rw [raise_raise, raise_raise, show -(unfT T).prio + (unfT T).prio = 0 by omega, raise0 hT] at this
      refine Eq.trans ?_ this
      unfold off
      rw [raise_wr, pz_act (h.ac p hp)]
      congr 1; omega
    rw [e]
    exact eqP_refl hT.unfC

/-! the tree -/
mutual
def usB (s : ByteArray) : Ty → Bool
  | .mk kd _ nm _ _ ks => (decide (kd = 9) && decide (nm = s)) || usBs s ks
def usBs (s : ByteArray) : List Ty → Bool
  | [] => false
  | t :: ts => usB s t || usBs s ts
end
theorem usBs_eq (s : ByteArray) : ∀ l : List Ty, usBs s l = l.any (usB s)
  | [] => by simp [usBs]
  | t :: ts => by simp [usBs, usBs_eq s ts]
theorem usB_mk (s : ByteArray) (kd p : Int) (nm : ByteArray) (sh : Int) (ls : List ByteArray) (ks : List Ty) : usB s (.mk kd p nm sh ls ks) = ((decide (kd = 9) && decide (nm = s)) || ks.any (usB s)) := by
  simp only [usB, usBs_eq]
def litT (k : Int) : Ty := .mk k 0 ⟨#[]⟩ 0 [] []
def varT (j : Nat) (s : Int) : Ty := .mk 9 0 (nmB j) s [] []
def wrapT (m : Nat) (t : Ty) : Ty := if t.kids.any (usB (nmB m)) then .mk 8 0 (nmB m) 0 [] [t] else t
noncomputable def nodeT (u : Ty) (ts : List Ty) : Ty := .mk u.kind u.prio ⟨#[]⟩ 0 (srt u.labels) ts
noncomputable def nmT : Nat → List Ty → Ty → Ty
  | 0, _, T => T
  | m + 1, path, T => if (unfT T).kind ≤ 3 then litT (unfT T).kind else
      match fnd path (unfT T) with
      | some j => varT j (off (path.getD j T) (unfT T))
      | none => wrapT path.length (nodeT (unfT T) ((ordK (unfT T)).map (nmT m (path ++ [unfT T]))))
theorem nmT_lit {m : Nat} {path : List Ty} {T : Ty} (h : (unfT T).kind ≤ 3) : nmT (m + 1) path T = litT (unfT T).kind := by
  rw [nmT, if_pos h]
theorem nmT_var {m : Nat} {path : List Ty} {T : Ty} (h : ¬ (unfT T).kind ≤ 3) {j : Nat} (hf : fnd path (unfT T) = some j) (hj : j < path.length) : nmT (m + 1) path T = varT j (off path[j] (unfT T)) := by
  rw [nmT, if_neg h, hf]
  simp only [List.getD_eq_getElem?_getD, List.getElem?_eq_getElem hj, Option.getD_some]
theorem nmT_node {m : Nat} {path : List Ty} {T : Ty} (h : ¬ (unfT T).kind ≤ 3) (hf : fnd path (unfT T) = none) : nmT (m + 1) path T = wrapT path.length (nodeT (unfT T) ((ordK (unfT T)).map (nmT m (path ++ [unfT T])))) := by
  rw [nmT, if_neg h, hf]
theorem fnd_some {path : List Ty} {u : Ty} {j : Nat} (h : fnd path u = some j) : ∃ hj : j < path.length, Hit path[j] u ∧ ∀ q (hq : q < j), ¬ Hit (path[q]'(by omega)) u := by
  unfold fnd at h
  rw [List.findIdx?_eq_some_iff_getElem] at h
  obtain ⟨h1, h2, h3⟩ := h
  exact ⟨h1, dq_iff.1 h2, fun q hq c => by have := h3 q hq; rw [dq_t c] at this; exact this rfl⟩
theorem fnd_none {path : List Ty} {u : Ty} (h : fnd path u = none) : ∀ q (hq : q < path.length), ¬ Hit path[q] u := by
  unfold fnd at h
  rw [List.findIdx?_eq_none_iff] at h
  intro q hq c
  have := h _ (List.getElem_mem hq)
  rw [dq_t c] at this; cases this
theorem fnd_of {path : List Ty} {u : Ty} {j : Nat} (hj : j < path.length) (h1 : Hit path[j] u) (h2 : ∀ q (hq : q < j), ¬ Hit (path[q]'(by omega)) u) : fnd path u = some j := by
  unfold fnd
  rw [List.findIdx?_eq_some_iff_getElem]
  exact ⟨hj, dq_t h1, fun q hq c => h2 q hq (dq_iff.1 c)⟩
theorem fnd_of_none {path : List Ty} {u : Ty} (h : ∀ q (hq : q < path.length), ¬ Hit path[q] u) : fnd path u = none := by
  unfold fnd
  rw [List.findIdx?_eq_none_iff]
  intro p hp
  obtain ⟨q, hq, rfl⟩ := List.getElem_of_mem hp
  exact dq_f (h q hq)
/-- only what a type unfolds to matters -/
theorem nmT_unf {L : List Ty} {M : Nat} {T : Ty} (h : CL L M T) (m : Nat) (path : List Ty) : nmT (m + 1) path (unfT T) = nmT (m + 1) path T := by
  by_cases h3 : (unfT T).kind ≤ 3
  · rw [nmT_lit h3, nmT_lit (by rw [h.uu]; exact h3), h.uu]
  · cases hf : fnd path (unfT T) with
    | none => rw [nmT_node h3 hf, nmT_node (by rw [h.uu]; exact h3) (by rw [h.uu]; exact hf), h.uu]
    | some j =>
      obtain ⟨hj, _⟩ := fnd_some hf
      rw [nmT_var h3 hf hj, nmT_var (by rw [h.uu]; exact h3) (by rw [h.uu]; exact hf) hj, h.uu]
end Go.Proofs.YtopinhoalbgebaaGreatDoor.Tx

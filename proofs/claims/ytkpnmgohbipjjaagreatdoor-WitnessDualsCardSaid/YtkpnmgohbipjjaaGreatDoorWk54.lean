/- Contracts (Wk203, Wk205, Wk50, Wk51, Wk52, Wk53, Wk54). -/
import Derived.Test.YtkpnmgohbipjjaaGreatDoorWk202
import Derived.Shelf.Slices.CompactS
import Derived.Sort.EncStr
import Derived.Test.YtkpnmgohbipjjaaGreatDoorWk7
set_option linter.all false
/- slices.Grow of nothing, by the kit's contract, as a call with memory. -/
namespace Go.Proofs.YtkpnmgohbipjjaaGreatDoor.Tx
open Go.Lf Go.Lf.S Go.Lf.Duo Go.RowKit
set_option maxRecDepth 100000
theorem okS_Grow (m : Nat) (hm : m ≤ 549755813888) : OkS P F.slices_Grow_int_int sg_slices_Grow_int_int [i (m : Int)] [.sl []] := by
 have hent : Enters P F.slices_Grow_int_int := by
  obtain ⟨c, hc⟩ : ∃ c, Tryz.f62.body = some c := ⟨_, rfl⟩
  exact Go.Lf.enters_of (f := 62) Tryz.func62 hc (by decide)
 refine ⟨hent, fun F w vv ρ hF hgl hsz hargs hobs => ?_⟩
 have hvv : vv = #[.slice none 0 0, .int .i64 m] := by
  have hs : vv.size = 2 := hsz
  have h0 : vv[0]? = some (vv[0]'(by omega)) := Array.getElem?_eq_getElem (by omega)
  have h1 : vv[1]? = some (vv[1]'(by omega)) := Array.getElem?_eq_getElem (by omega)
  have a0 : vv[0]'(by omega) = .slice none 0 0 := hargs 0 _ (.at .nils) h0 rfl
  have a1 : Rep F w (vv[1]'(by omega)) (i (m : Int)) := hargs 1 _ (.at (.dat (i (m : Int)))) h1 rfl
  have a1 : vv[1]'(by omega) = .int .i64 m := by
   generalize vv[1]'(by omega) = u at a1
   cases a1; rfl
  apply Array.ext (by simpa using hs)
  intro j hj1 hj2
  have : j = 0 ∨ j = 1 := by simp at hj2; omega
  rcases this with rfl | rfl
  ·simpa using a0
  ·simpa using a1
 subst hvv
 have look1 : ∀ o ob, lookO (sg_slices_Grow_int_int.robsI [.sl []]) o = some ob → o = 9000 ∧ ob = .arr false 3 1 false (.sl []) := fun o ob ho => by
  have ho : Go.Lf.look [(9000, some (Ob.arr false 3 1 false (PV.sl [])))] o = some ob := ho
  simp only [Go.Lf.look] at ho
  split at ho
  ·rename_i hq
   exact ⟨(Nat.eq_of_beq_eq_true hq).symm, (Option.some.inj ho).symm⟩
  ·cases ho
 by_cases h0 : m = 0
 ·subst h0
  refine (Any8.slices_Grow_room growLays none 0 0 0 w (Nat.le_refl _) (by omega) (by omega) (by omega)).mono ?_
  rintro e w' ⟨rfl, hw⟩
  subst w'
  refine ⟨_, F, fun o => if o = 9000 then .slice none 0 0 else ρ o, rfl, ⟨rfl, rfl, rfl, Nat.le_refl _, fun k hk _ => rfl⟩, fun b o h => ⟨h, Same.refl _ _ _⟩, fun b o h => .inl h, hF, ⟨rfl, rfl⟩, ⟨?_, ?_⟩, ?_, fun o ho => by cases ho⟩
  ·intro o ob ho
   obtain ⟨rfl, rfl⟩ := look1 o ob ho
   exact ⟨[], rfl, by decide, (fun y hy => by cases hy), .inl ⟨rfl, rfl⟩⟩
  ·intro o o' ob ob' ho ho' hne
   exact absurd ((look1 o ob ho).1.trans (look1 o' ob' ho').1.symm) hne
  ·intro o ob ho k hk
   obtain ⟨rfl, rfl⟩ := look1 o ob ho
   exact absurd hk (HB_none (by rfl) (fun bs e => by simp [encB] at e) k)
 ·obtain ⟨i0, hi0, hf0⟩ : ∃ i0, P.info? 3 = some i0 ∧ (i0.zero, i0.size, i0.bytes) = (some (Value.int .i64 0), 1, 8) :=
   Option.map_eq_some_iff.1 (show (P.info? 3).map (fun x => (x.zero, x.size, x.bytes)) = some (some (Value.int .i64 0), 1, 8) by kernel_rfl)
  have hfacts : i0.zero = some (.int .i64 0) ∧ i0.size = 1 ∧ i0.bytes = 8 := by simpa using hf0
  obtain ⟨f1, f2, f3⟩ := hfacts
  refine (Any8.slices_Grow_grow growLays i0 (.int .i64 0) hi0 f1 (by omega) none 0 0 m [] w (Nat.le_refl _) (by omega) (by rw [f3]; omega) (by omega) (by simp) (fun _ => rfl) (fun a h => by cases h)).mono ?_
  rintro e w' ⟨rfl, rfl⟩
  have hc1 := grownCap_ge w (0 + m) 0 (growLays_ren.t 25)
  have hc2 := grownCap_le_maxLen w (0 + m) 0 (growLays_ren.t 25) (by simp only [maxLen]; omega)
  have ht : growLays_ren.t 25 = 3 := rfl
  rw [ht] at hc1 hc2 ⊢
  generalize grownCap w (0 + m) 0 3 = cap at hc1 hc2 ⊢
  have hcs : (([] : List Value).toArray ++ Builtin.zeroCells (Value.int .i64 0).cells (0 + m - 0) ++ Builtin.zeroCells (Value.int .i64 0).cells (cap - (0 + m))).size = cap * 1 := by
   simp only [Array.size_append, size_zeroCells, Value.cells, List.size_toArray]
   simp; omega
  generalize (([] : List Value).toArray ++ Builtin.zeroCells (Value.int .i64 0).cells (0 + m - 0) ++ Builtin.zeroCells (Value.int .i64 0).cells (cap - (0 + m))) = cur at hcs ⊢
  have hnew : (w.drew.alloc (.cells cur 3)).heap[w.heap.size]? = some (.cells cur 3 (0, 0)) := World.alloc_heap_new w.drew _
  have hold : ∀ k, k < w.heap.size → (w.drew.alloc (.cells cur 3)).heap[k]? = w.heap[k]? := fun k hk => alloc_old w.drew _ k hk
  have hsize : (w.drew.alloc (.cells cur 3)).heap.size = w.heap.size + 1 := World.size_alloc w.drew _
  refine ⟨_, F, fun o => if o = 9000 then .slice (some ⟨w.heap.size, 0, none⟩) 0 cap else ρ o, rfl, ⟨rfl, rfl, rfl, by omega, fun k hk _ => hold k hk⟩, fun b o h => ⟨h, Same.of_block (hold b (hF b o h)) o⟩, fun b o h => .inl h, fun b o h => by have := hF b o h; omega, ⟨rfl, rfl⟩, ⟨?_, ?_⟩, ?_, fun o ho => by cases ho⟩
  ·intro o ob ho
   obtain ⟨rfl, rfl⟩ := look1 o ob ho
   refine ⟨[], rfl, by decide, (fun y hy => by cases hy), .inr ⟨w.heap.size, cap, cur, rfl, hnew, Nat.zero_le _, hc2, hcs, (fun q y j z hy => by simp at hy), fun j => ⟨fun h => ?_, fun h => absurd h.1 (by decide)⟩⟩⟩
   have := hF _ _ h; omega
  ·intro o o' ob ob' ho ho' hne
   exact absurd ((look1 o ob ho).1.trans (look1 o' ob' ho').1.symm) hne
  ·intro o ob ho k hk
   obtain ⟨rfl, rfl⟩ := look1 o ob ho
   simp only [if_true] at hk
   have := (HB_hb (k0 := w.heap.size) rfl).1 hk
   subst this
   exact .inl (Nat.le_refl _)
end Go.Proofs.YtkpnmgohbipjjaaGreatDoor.Tx
/- slices.Compact of texts, by the kit's contract, as a call with memory (numbers of the seat of law 26). -/
namespace Go.Proofs.YtkpnmgohbipjjaaGreatDoor.Tx
open Go.Lf Go.Lf.S Go.Lf.Duo Go.RowKit
set_option maxRecDepth 100000
def compLays_ren : Go.Shelf.Ren := ⟨fun | 194 => 140 | n => n, fun | 31 => 22 | 9 => 9 | 3 => 3 | 4 => 4 | 0 => 0 | n => n, fun | n => n⟩
theorem compLays : Lays.n194 Tryz.prog compLays_ren where
 mixed := by kernel_rfl
 f194 := Tryz.func140.trans (congrArg some (by kernel_rfl))
 t0 := Tryz.underlying0
 a0 := Tryz.isAgg0
 z0 := Tryz.sizeOf0
 v0 := Tryz.zeroValue0
 t3 := Tryz.underlying3
 a3 := Tryz.isAgg3
 z3 := Tryz.sizeOf3
 v3 := Tryz.zeroValue3
 t4 := Tryz.underlying4
 a4 := Tryz.isAgg4
 z4 := Tryz.sizeOf4
 v4 := Tryz.zeroValue4
 t9 := Tryz.underlying9
 a9 := Tryz.isAgg9
 z9 := Tryz.sizeOf9
 v9 := Tryz.zeroValue9
 t31 := Tryz.underlying22
 a31 := Tryz.isAgg22
 z31 := Tryz.sizeOf22
 v31 := Tryz.zeroValue22
def strL (l : List UInt8) : PV := .str ⟨l.toArray⟩
def ofB (b : ByteArray) : List UInt8 := b.data.toList
theorem strL_ofB (b : ByteArray) : strL (ofB b) = .str b := by
 unfold strL ofB
 congr 1
theorem walk_CompS (blk cap : Nat) (zs : List (List UInt8)) (w : World) (hH : Go.Sort.Holds encStr w blk 0 zs.toArray) (hsz : zs.length ≤ 9223372036854775807) (hcap : zs.length ≤ cap) :
  Calls P F.slices_Compact_string_string #[.slice (some ⟨blk, 0, none⟩) zs.length cap] w fun e w' =>
   e = .returned (.slice (some ⟨blk, 0, none⟩) (Lib.compact zs).length cap) ∧ ∃ q, w' = Go.Sort.putRow encStr (Go.Sort.ahead w q) blk 0 (Lib.compact zs ++ List.replicate (zs.length - (Lib.compact zs).length) []).toArray :=
 Any.slices_Compact_string compLays blk 0 cap zs w hH hsz hcap
theorem walk_CompE (a : Option Addr) (cap : Nat) (w : World) :
  Calls P F.slices_Compact_string_string #[.slice a 0 cap] w fun e w' => e = .returned (.slice a 0 cap) ∧ w' = w :=
 Any.slices_Compact_string_empty compLays a cap w
theorem rep_strL {F : Nat → Nat → Prop} {w : World} {v : Value} {l : List UInt8} (h : Rep F w v (strL l)) : v = encStr l := by
 cases h; rfl
/-- what stands in the row of an own array of texts -/
theorem row_str {F : Nat → Nat → Prop} {w : World} {g : Nat} {cur : Array Value} {ty : Nat} {zs : List (List UInt8)} (hb : w.heap[g]? = some (.cells cur ty (0, 0)))
  (hcell : ∀ (i : Nat) (y : PV) (j : Nat) (z : PV), (zs.map strL)[i]? = some y → y.cells[j]? = some z → ∃ u, cur[i * 1 + j]? = some u ∧ Rep F w u z) :
  (∀ j (hj : j < zs.length), cur[j]? = some (encStr zs[j])) ∧ Go.Sort.Holds encStr w g 0 zs.toArray := by
 have hcur : ∀ j (hj : j < zs.length), cur[j]? = some (encStr zs[j]) := fun j hj => by
  obtain ⟨u, hu, hr⟩ := hcell j (strL zs[j]) 0 (strL zs[j]) (by simp [hj]) rfl
  rw [show j * 1 + 0 = j by omega] at hu
  rw [hu, rep_strL hr]
 refine ⟨hcur, fun j hj => ?_⟩
 have hj : j < zs.length := by simpa using hj
 refine ⟨?_, ?_⟩
 ·simp only [World.cell?, hb]
  rw [if_neg (by simp), Nat.zero_add, hcur j hj]
  simp [hj]
 ·simp [World.frozen?, hb]
theorem one_arg {F : Nat → Nat → Prop} {ρ : Nat → Value} {w : World} {vv : Array Value} {v : Value} (hs : vv.size = 1) (h : ∀ (i : Nat) (u : Value) (a : SV PV), vv[i]? = some u → [SV.at (A.own 9000)][i]? = some a → RepS F ρ w u a) (hρ : ρ 9000 = v) : vv = #[v] := by
 have h0 : vv[0]? = some (vv[0]'(by omega)) := Array.getElem?_eq_getElem (by omega)
 have := (h 0 _ (.at (.own 9000)) h0 rfl).1
 rw [hρ] at this
 apply Array.ext (by simpa using hs)
 intro i hi1 hi2
 have : i = 0 := by simp at hi2; omega
 subst this
 simpa using this
/-- the own array of texts after its row was written anew -/
theorem repO_row {F : Nat → Nat → Prop} {ρ : Nat → Value} {w' : World} {o g cap : Nat} {cur cur' : Array Value} {ms : List (List UInt8)} {L : Nat} (hρ : ρ o = .slice (some ⟨g, 0, none⟩) ms.length cap) (hb : w'.heap[g]? = some (.cells cur' 9 (0, 0))) (hlc : ms.length ≤ cap) (hcm : cap ≤ maxLen) (hcs : cur'.size = cap * 1)
  (hget : ∀ q (hq : q < ms.length), cur'[q]? = some (encStr ms[q])) (hFn : ∀ j, ¬ F g j) : RepO F ρ w' o (.arr false 9 1 false (.sl (ms.map strL))) := by
 refine ⟨ms.map strL, rfl, by decide, fun y hy => ?_, .inr ⟨g, cap, cur', ?_, hb, ?_, hcm, hcs, fun q y j z hy hz => ?_, fun j => ⟨fun h => absurd h (hFn j), fun h => absurd h.1 (by decide)⟩⟩⟩
 ·obtain ⟨a, _, rfl⟩ := List.mem_map.1 hy
  exact ⟨rfl, fun z hz => by
   have : z = strL a := by simpa [PV.cells, strL] using hz
   subst this; rfl⟩
 ·rw [hρ, List.length_map]
 ·rw [List.length_map]; exact hlc
 ·rw [List.getElem?_map, Option.map_eq_some_iff] at hy
  obtain ⟨a, ha, rfl⟩ := hy
  have hj : j = 0 := by
   cases j with
   | zero => rfl
   | succ j => simp [PV.cells, strL] at hz
  subst hj
  have hz : z = strL a := by simpa [PV.cells, strL, eq_comm] using hz
  subst hz
  obtain ⟨hq, hqa⟩ := List.getElem?_eq_some_iff.1 ha
  refine ⟨encStr a, ?_, .str _⟩
  rw [show q * 1 + 0 = q by omega, hget q hq, hqa]
theorem comp_le {zs : List (List UInt8)} : (Lib.compact zs).length ≤ zs.length := by
 unfold Lib.compact Lib.compactUpTo
 rw [List.length_map]
 have := List.length_filter_le (Lib.keeps zs.toArray) (List.range zs.length)
 simpa using this
theorem okS_CompS (zs : List (List UInt8)) (hlen : zs.length ≤ 549755813888) : OkS P F.slices_Compact_string_string sg_slices_Compact_string_string [.sl (zs.map strL)] [.sl ((Lib.compact zs).map strL)] := by
 have hent : Enters P F.slices_Compact_string_string := by
  obtain ⟨c, hc⟩ : ∃ c, Tryz.f140.body = some c := ⟨_, rfl⟩
  exact Go.Lf.enters_of (f := 140) Tryz.func140 hc (by decide)
 refine ⟨hent, fun F w vv ρ hF hgl hsz hargs hobs => ?_⟩
 obtain ⟨es, he, _, hok, hcase⟩ := hobs.rep 9000 (.arr false 9 1 false (.sl (zs.map strL))) rfl
 obtain rfl : es = zs.map strL := (PV.sl.inj he).symm
 have look1 : ∀ (ms : List (List UInt8)) o ob, lookO (sg_slices_Compact_string_string.robsI [.sl (ms.map strL)]) o = some ob → o = 9002 ∧ ob = .arr false 9 1 false (.sl (ms.map strL)) := fun ms o ob ho => by
  have ho : Go.Lf.look [(9002, some (Ob.arr false 9 1 false (PV.sl (ms.map strL))))] o = some ob := ho
  simp only [Go.Lf.look] at ho
  split at ho
  ·rename_i hq
   exact ⟨(Nat.eq_of_beq_eq_true hq).symm, (Option.some.inj ho).symm⟩
  ·cases ho
 rcases hcase with ⟨hρ, hn⟩ | ⟨g, cap, cur, hρ, hb, hlc, hcm, hcs, hcell, hFg⟩
 ·-- nothing there
  obtain rfl : zs = [] := List.map_eq_nil_iff.1 hn
  obtain rfl := one_arg hsz hargs hρ
  refine (walk_CompE none 0 w).mono ?_
  rintro e w' ⟨rfl, hw⟩
  subst w'
  refine ⟨_, F, fun o => if o = 9002 then .slice none 0 0 else ρ o, rfl, ⟨rfl, rfl, rfl, Nat.le_refl _, fun k hk _ => rfl⟩, fun b o h => ⟨h, Same.refl _ _ _⟩, fun b o h => .inl h, hF, ⟨rfl, rfl⟩, ⟨?_, ?_⟩, ?_, ?_⟩
  ·intro o ob ho
   obtain ⟨rfl, rfl⟩ := look1 [] o ob ho
   exact ⟨[], rfl, by decide, (fun y hy => by cases hy), .inl ⟨rfl, rfl⟩⟩
  ·intro o o' ob ob' ho ho' hne
   exact absurd ((look1 [] o ob ho).1.trans (look1 [] o' ob' ho').1.symm) hne
  ·intro o ob ho k hk
   obtain ⟨rfl, rfl⟩ := look1 [] o ob ho
   exact absurd hk (HB_none (by rfl) (fun bs e => by simp [encB] at e) k)
  ·intro o ho ho2
   have e1 : o = 9000 := by simpa [sg_slices_Compact_string_string] using ho
   have e2 : o = 9002 := by simpa [sg_slices_Compact_string_string] using ho2
   omega
 have hFn : ∀ j, ¬ F g j := fun j h => by have := (hFg j).1 h; exact absurd this.1 (by decide)
 rw [List.length_map] at hρ hlc
 obtain rfl := one_arg hsz hargs hρ
 have hlt : g < w.heap.size := (Array.getElem?_eq_some_iff.1 hb).1
 obtain ⟨hcur, hH⟩ := row_str hb hcell
 have hcl := comp_le (zs := zs)
 refine (walk_CompS g cap zs w hH (by omega) hlc).mono ?_
 rintro e w' ⟨rfl, m, rfl⟩
 generalize hms : Lib.compact zs = ms at *
 generalize hrow : (ms ++ List.replicate (zs.length - ms.length) []) = row
 have hrl : row.length = zs.length := by rw [← hrow]; simp; omega
 have hheap : ∀ k, k < w.heap.size → k ≠ g → (Go.Sort.putRow encStr (Go.Sort.ahead w m) g 0 row.toArray).heap[k]? = w.heap[k]? := fun k hk hne => by
  simp only [Go.Sort.putRow, Go.Sort.mapBlock, Go.Sort.ahead]
  rw [Array.getElem?_modify, if_neg (Ne.symm hne)]
 have hheapg : (Go.Sort.putRow encStr (Go.Sort.ahead w m) g 0 row.toArray).heap[g]? = some (.cells (Go.Sort.putCells encStr 0 row.toArray cur) 9 (0, 0)) := by
  simp only [Go.Sort.putRow, Go.Sort.mapBlock, Go.Sort.ahead]
  rw [Array.getElem?_modify, if_pos rfl, hb]
  rfl
 have hsize : w.heap.size ≤ (Go.Sort.putRow encStr (Go.Sort.ahead w m) g 0 row.toArray).heap.size := by
  simp [Go.Sort.putRow, Go.Sort.mapBlock, Go.Sort.ahead]
 have hsame : ∀ b o, F b o → Same w (Go.Sort.putRow encStr (Go.Sort.ahead w m) g 0 row.toArray) b o := fun b o h => by
  have hne : b ≠ g := fun e => by subst e; exact hFn o h
  exact Same.of_block (hheap b (hF b o h) hne) o
 have hin : blocksOf ρ (sg_slices_Compact_string_string.obsI [.sl (zs.map strL)]) g :=
  ⟨(9000, .arr false 9 1 false (.sl (zs.map strL))), by simp [Sig.obsI, sg_slices_Compact_string_string, Ob.map', instL], by rw [hρ]; exact (HB_hb (k0 := g) rfl).2 rfl⟩
 have hblk : ∀ k, ¬ blocksOf ρ (sg_slices_Compact_string_string.obsI [.sl (zs.map strL)]) k → k ≠ g := fun k hk e => by
  subst e; exact hk hin
 refine ⟨_, F, fun o => if o = 9002 then .slice (some ⟨g, 0, none⟩) ms.length cap else ρ o, rfl, ⟨rfl, rfl, rfl, hsize, fun k hk hn => hheap k hk (hblk k hn)⟩, fun b o h => ⟨h, hsame b o h⟩, fun b o h => .inl h, fun b o h => by have := hF b o h; omega, ⟨rfl, rfl⟩, ⟨?_, ?_⟩, ?_, ?_⟩
 ·intro o ob ho
  obtain ⟨rfl, rfl⟩ := look1 ms o ob ho
  refine repO_row (L := 0) (cur := cur) (by simp) hheapg (by omega) hcm (by simp [Go.Sort.putCells, hcs]) (fun q hq => ?_) hFn
  have hcq := hcur q (by omega)
  have hqr : row[q]? = some ms[q] := by rw [← hrow, List.getElem?_append_left hq]; simp [hq]
  obtain ⟨hqr1, hqr2⟩ := List.getElem?_eq_some_iff.1 hqr
  simp only [Go.Sort.putCells, Array.getElem?_mapIdx]
  rw [hcq]
  simp [hqr1, hqr2]
 ·intro o o' ob ob' ho ho' hne
  exact absurd ((look1 ms o ob ho).1.trans (look1 ms o' ob' ho').1.symm) hne
 ·intro o ob ho k hk
  obtain ⟨rfl, rfl⟩ := look1 ms o ob ho
  simp only [if_true] at hk
  have := (HB_hb (k0 := g) rfl).1 hk
  subst this
  exact .inr hin
 ·intro o ho ho2
  have e1 : o = 9000 := by simpa [sg_slices_Compact_string_string] using ho
  have e2 : o = 9002 := by simpa [sg_slices_Compact_string_string] using ho2
  omega
end Go.Proofs.YtkpnmgohbipjjaaGreatDoor.Tx
/- Contracts: words and names, exactly, of the program and of the reference. -/
namespace Go.Proofs.YtkpnmgohbipjjaaGreatDoor.Tx
open Go.Lf Go.Lf.S Go.Lf.Duo
set_option maxRecDepth 100000
noncomputable def pb (p : Prop) : Bool := @decide p (Classical.propDecidable p)
theorem pb_of {r : Bool} {p : Prop} (h : r = true ↔ p) : r = pb p := by
 unfold pb
 cases r with
 | true => exact (@decide_eq_true p (Classical.propDecidable p) (h.1 rfl)).symm
 | false => exact (@decide_eq_false p (Classical.propDecidable p) fun hp => by cases h.2 hp).symm
theorem pb_iff {p : Prop} : pb p = true ↔ p := ⟨fun h => @of_decide_eq_true p (Classical.propDecidable p) h, fun h => @decide_eq_true p (Classical.propDecidable p) h⟩
theorem pb_false {p : Prop} : pb p = false ↔ ¬ p := by
 constructor
 ·intro h hp
  rw [pb_iff.2 hp] at h; cases h
 ·intro h
  cases hb : pb p with
  | true => exact absurd (pb_iff.1 hb) h
  | false => rfl
def IsB (p : Prop) (x : PV) : Prop := ∃ r, x = .bool r ∧ (r = true ↔ p)
theorem isB_t {p : Prop} (h : p) : IsB p (.bool true) := ⟨true, rfl, fun _ => h, fun _ => rfl⟩
theorem isB_f {p : Prop} (h : ¬ p) : IsB p (.bool false) := ⟨false, rfl, (fun e => by cases e), fun e => absurd e h⟩
theorem isB_d {p q : Prop} [Decidable p] (h : p ↔ q) : IsB q (.bool (decide p)) := ⟨_, rfl, decide_eq_true_iff.trans h⟩
theorem tx_pb {f m : Nat} {t : List PV → T PV} (h : TxOk P f m t) {p : Prop} {xs : List PV} (hl : xs.length = m) (hd : (t xs).dt) (hden : (t xs).den0 P (IsB p) []) : Ok P f xs (.bool (pb p)) := by
 obtain ⟨_, ⟨r, rfl, hr⟩, h⟩ := tx_ex h hl hd hden
 rw [← pb_of hr]; exact h
def letB (b : Nat) : Bool := (decide (65 ≤ b) && decide (b ≤ 90)) || (decide (97 ≤ b) && decide (b ≤ 122)) || decide (b = 95)
def digB (b : Nat) : Bool := decide (48 ≤ b) && decide (b ≤ 57)
def alnB (b : Nat) : Bool := letB b || digB b
theorem letB_aln {b : Nat} (h : letB b = true) : alnB b = true := by simp [alnB, h]
theorem good1 : GoodEv P (evAll tb tbS 1000 8).1 (evAll tb tbS 1000 8).2 := evAll_good allOk allOkS 8
def ck (f : Nat) (l : List PV) (g : Nat → Bool) : Bool := (List.range 256).all fun b => match (evAll tb tbS 1000 8).1 f (.int .u8 (b : Int) :: l) with
 | some (.bool r) => r == g b
 | _ => false
theorem ok_ck {f : Nat} {l : List PV} {g : Nat → Bool} (h : ck f l g = true) (b : UInt8) : Ok P f (.int .u8 (b.toNat : Int) :: l) (.bool (g b.toNat)) := by
 have h1 := (List.all_eq_true.1 h) b.toNat (List.mem_range.2 b.toNat_lt)
 split at h1
 ·rename_i r hr
  have : r = g b.toNat := by simpa using h1
  rw [← this]; exact good1.1 _ _ _ hr
 ·cases h1
def lettersV : PV := .str ⟨#[65, 66, 67, 68, 69, 70, 71, 72, 73, 74, 75, 76, 77, 78, 79, 80, 81, 82, 83, 84, 85, 86, 87, 88, 89, 90, 97, 98, 99, 100, 101, 102, 103, 104, 105, 106, 107, 108, 109, 110, 111, 112, 113, 114, 115, 116, 117, 118, 119, 120, 121, 122, 95]⟩
def digitsV : PV := .str ⟨#[48, 49, 50, 51, 52, 53, 54, 55, 56, 57]⟩
theorem ok_in_let (b : UInt8) : Ok P F.ref01_in [.int .u8 (b.toNat : Int), lettersV] (.bool (letB b.toNat)) := ok_ck (l := [lettersV]) (by kernel_rfl) b
theorem ok_in_dig (b : UInt8) : Ok P F.ref01_in [.int .u8 (b.toNat : Int), digitsV] (.bool (digB b.toNat)) := ok_ck (l := [digitsV]) (by kernel_rfl) b
def wordP (s : ByteArray) : Prop := ∃ h : 0 < s.size, letB (s[0]).toNat = true ∧ ∀ (j : Nat) (h : j < s.size), 1 ≤ j → alnB (s[j]).toNat = true
def kwds : List ByteArray := [⟨#[100, 101, 102]⟩, ⟨#[109, 97, 105, 110]⟩, ⟨#[115, 116, 111, 112]⟩, ⟨#[110, 101, 119]⟩, ⟨#[105, 110, 116]⟩, ⟨#[98, 111, 111, 108]⟩, ⟨#[101, 110, 100]⟩, ⟨#[114, 101, 99]⟩, ⟨#[116, 114, 117, 101]⟩, ⟨#[102, 97, 108, 115, 101]⟩]
def nameP (s : ByteArray) : Prop := wordP s ∧ s ∉ kwds
theorem okx_ref01_Word (s : ByteArray) (hs : s.size ≤ 9223372036854775807) : Ok P F.ref01_Word [.str s] (.bool (pb (wordP s))) := by
 refine tx_pb k_ref01_Word rfl (by simp [t_ref01_Word, T.dt]) ?_
 refine d_l _ rfl fun _ => d_l _ rfl fun _ => d_dec (fun h => d_ret (isB_f fun ⟨h1, _⟩ => by have : (s.size : Int) = 0 := h; omega)) fun h => ?_
 have h0 : 0 < s.size := by have : ¬ (s.size : Int) = 0 := h; omega
 refine d_l _ (e_sidx (k := 0) h0) fun _ => d_call ok_ref01_Letters (d_call (ok_in_let s[0]) (d_l _ rfl fun _ => ?_))
 refine d_ite (fun hb => d_ret (isB_f fun ⟨_, h1, _⟩ => by rw [h1] at hb; cases hb)) fun hb => ?_
 have hb : letB (s[0]).toNat = true := by simpa using hb
 refine den_loop (fun m ys => ∃ j : Nat, j + m = s.size ∧ 1 ≤ j ∧ (∀ (k : Nat) (h : k < s.size), 1 ≤ k → k < j → alnB (s[k]).toNat = true) ∧ ys = [i j]) (s.size - 1) ⟨1, by omega, Nat.le_refl _, fun k _ h1 h2 => by omega, rfl⟩ ?_
 rintro m _ ⟨j, hj, hj1, hall, rfl⟩
 refine d_l _ rfl fun _ => d_l _ rfl fun _ => d_dec (fun h => ?_) fun h => d_ret (isB_t ⟨h0, hb, fun k hk h1 => hall k hk h1 (by have : ¬ (j : Int) < (s.size : Int) := h; omega)⟩)
 have hlt : j < s.size := by have : (j : Int) < (s.size : Int) := h; omega
 refine d_l _ (e_sidx hlt) fun _ => d_call ok_ref01_Letters (d_call (ok_in_let s[j]) (d_l _ rfl fun _ => ?_))
 have next : alnB (s[j]).toNat = true → ∃ m', m' < m ∧ ∃ j' : Nat, j' + m' = s.size ∧ 1 ≤ j' ∧ (∀ (k : Nat) (h : k < s.size), 1 ≤ k → k < j' → alnB (s[k]).toNat = true) ∧ [i ((j + 1 : Nat) : Int)] = [i (j' : Int)] := fun ha =>
  ⟨m - 1, by omega, j + 1, by omega, by omega, fun k hk h1 h2 => by
   by_cases e : k = j
   ·subst e; exact ha
   ·exact hall k hk h1 (by omega), rfl⟩
 refine d_ite (fun hl => ?_) fun hl => d_l _ (e_inc (by omega)) fun _ => d_cont rfl (next (letB_aln (by simpa using hl)))
 have hl : letB (s[j]).toNat = false := by simpa using hl
 refine d_l _ (e_sidx hlt) fun _ => d_call ok_ref01_digits (d_call (ok_in_dig s[j]) (d_l _ rfl fun _ => ?_))
 refine d_ite (fun hd => d_ret (isB_f fun ⟨_, _, h1⟩ => ?_)) fun hd => d_l _ (e_inc (by omega)) fun _ => d_cont rfl (next (by simp only [alnB, hl, Bool.false_or]; simpa using hd))
 have := h1 j hlt hj1
 simp [alnB, hl] at this
 simp [this] at hd
theorem okx_ref01_Keyword (s : ByteArray) : Ok P F.ref01_Keyword [.str s] (.bool (pb (s ∈ kwds))) := by
 refine tx_pb k_ref01_Keyword rfl (by simp [t_ref01_Keyword, T.dt]) ?_
 refine d_l _ rfl fun _ => ?_
 refine den_loop (fun m ys => ∃ j : Nat, j + m = 10 ∧ s ∉ kwds.take j ∧ ys = [i j]) 10 ⟨0, by omega, (fun h => by cases h), rfl⟩ ?_
 rintro m _ ⟨j, hj, hn, rfl⟩
 refine d_l _ rfl fun _ => d_l _ rfl fun _ => d_dec (fun h => ?_) fun h => d_ret (isB_f ?_)
 ·have hlt : j < 10 := by have : (j : Int) < 10 := h; omega
  have : j = 0 ∨ j = 1 ∨ j = 2 ∨ j = 3 ∨ j = 4 ∨ j = 5 ∨ j = 6 ∨ j = 7 ∨ j = 8 ∨ j = 9 := by omega
  rcases this with rfl | rfl | rfl | rfl | rfl | rfl | rfl | rfl | rfl | rfl <;>
   exact d_l _ rfl fun _ => d_l _ rfl fun _ => d_dec (fun h => d_ret (isB_t (by have h : _ = s := h; simp [kwds, ← h]))) fun h => d_l _ (e_inc (by omega)) fun _ => d_cont rfl ⟨m - 1, by omega, _, by omega, (by have h : ¬ _ = s := h; simp [kwds] at hn ⊢; simp [hn, Ne.symm h]; try exact fun e => h e.symm), rfl⟩
 ·have hlt : j = 10 := by have : ¬ (j : Int) < 10 := h; omega
  subst hlt; exact hn
theorem okx_ref01_Name (s : ByteArray) (hs : s.size ≤ 9223372036854775807) : Ok P F.ref01_Name [.str s] (.bool (pb (nameP s))) := by
 refine tx_pb k_ref01_Name rfl (by simp [t_ref01_Name, T.dt]) ?_
 refine d_call (okx_ref01_Word s hs) (d_ite (fun h => d_call (okx_ref01_Keyword s) (d_l _ rfl fun _ => d_ret ⟨_, rfl, ?_⟩)) fun h => d_ret (isB_f fun hp => pb_false.1 h hp.1))
 simp only [Bool.not_eq_true', pb_false]
 exact ⟨fun h2 => ⟨pb_iff.1 h, h2⟩, fun h2 => h2.2⟩
/-! the program's -/
end Go.Proofs.YtkpnmgohbipjjaaGreatDoor.Tx
/- Maps whose keys are texts; sets of texts. -/
namespace Go.Proofs.YtkpnmgohbipjjaaGreatDoor.Tx
open Go.Lf Go.Lf.S Go.Lf.Duo
set_option maxRecDepth 100000
def labP (ls : List ByteArray) : Prop := (∀ s ∈ ls, nameP s) ∧ ls.Nodup
theorem labP_snoc {ls : List ByteArray} {j : Nat} (h : j < ls.length) : labP (ls.take (j + 1)) ↔ labP (ls.take j) ∧ nameP ls[j] ∧ ls[j] ∉ ls.take j := by
 unfold labP
 rw [← List.take_append_getElem h]
 simp only [List.mem_append, List.mem_singleton, List.nodup_append, List.nodup_cons, List.not_mem_nil, not_false_eq_true, List.nodup_nil, true_and, and_true]
 constructor
 ·rintro ⟨h1, h2, h3⟩
  exact ⟨⟨fun s hs => h1 s (.inl hs), h2⟩, h1 _ (.inr rfl), fun hm => h3 _ hm _ rfl rfl⟩
 ·rintro ⟨⟨h1, h2⟩, h3, h4⟩
  exact ⟨fun s hs => hs.elim (h1 s) fun e => e ▸ h3, h2, fun a ha b hb e => h4 (by rw [← hb, ← e]; exact ha)⟩
theorem labP_take {ls : List ByteArray} {j : Nat} (h : labP ls) : labP (ls.take j) := ⟨fun s hs => h.1 s (List.mem_of_mem_take hs), h.2.sublist (List.take_sublist _ _)⟩
theorem okx_ref02_Labels (ls : List ByteArray) (hl : ls.length ≤ 9223372036854775807) (hs : ∀ s ∈ ls, s.size ≤ 9223372036854775807) : Ok P F.ref02_Labels [.sl (ls.map .str)] (.bool (pb (labP ls))) := by
 refine tx_pb k_ref02_Labels rfl (by simp [t_ref02_Labels, T.dt]) ?_
 refine den_loop (fun m ys => ∃ j : Nat, j + m = ls.length ∧ labP (ls.take j) ∧ ys = [i j]) ls.length ⟨0, by omega, ⟨by simp, by simp⟩, rfl⟩ ?_
 rintro m _ ⟨j, hj, hnd, rfl⟩
 refine d_l _ e_len fun _ => d_l _ rfl fun _ => d_dec (fun h => ?_) fun h => d_ret (isB_t ?_)
 rotate_left
 ·have h : ¬ (j : Int) < ((ls.map PV.str).length : Int) := h
  rw [List.take_of_length_le (by simp at h; omega)] at hnd
  exact hnd
 have h : (j : Int) < ((ls.map PV.str).length : Int) := h
 have hlt : j < ls.length := by simp at h; omega
 refine d_l _ (e_idx (str_at hlt) rfl) fun _ => d_call (okx_ref01_Name ls[j] (hs _ (List.getElem_mem hlt))) (d_l _ rfl fun _ => d_ite (fun hn => d_ret (isB_f fun hp => ?_)) fun hn => ?_)
 ·have := pb_iff.2 ((labP_snoc hlt).1 (labP_take hp)).2.1
  rw [this] at hn; cases hn
 have hnm : nameP ls[j] := pb_iff.1 (by simpa using hn)
 refine d_l _ (e_idx (str_at hlt) rfl) fun _ => d_l _ (e_slcT (all_map okc_str _) (by simp; omega)) fun _ => ?_
 have hc := ok_ref02_in ls[j] (ls.take j) (by simp; omega)
 rw [List.map_take] at hc
 refine d_call hc (d_ite (fun hy => d_ret (isB_f fun hp => ((labP_snoc hlt).1 (labP_take hp)).2.2 (memB_iff.1 hy))) fun hno => d_l _ (e_inc (by omega)) fun _ => d_cont rfl ⟨m - 1, by omega, j + 1, by omega, ?_, rfl⟩)
 exact (labP_snoc hlt).2 ⟨hnd, hnm, fun hm => by rw [memB_iff.2 hm] at hno; cases hno⟩
end Go.Proofs.YtkpnmgohbipjjaaGreatDoor.Tx
/- Contracts: the shape of a type's node, exactly, of the program and of the reference. -/
namespace Go.Proofs.YtkpnmgohbipjjaaGreatDoor.Tx
open Go.Lf Go.Lf.S Go.Lf.Duo
set_option maxRecDepth 100000
def prP (n : Int) : Prop := 0 ≤ n ∧ n ≤ 1000000
def noB : ByteArray := ⟨#[]⟩
def shP (k p : Int) (nm : ByteArray) (s : Int) (ls : List ByteArray) (n : Nat) : Prop :=
 (k = 1 ∧ p = 0 ∧ nm = noB ∧ s = 0 ∧ ls.length = 0 ∧ n = 0) ∨ (k = 2 ∧ p = 0 ∧ nm = noB ∧ s = 0 ∧ ls.length = 0 ∧ n = 0) ∨ (k = 3 ∧ p = 0 ∧ nm = noB ∧ s = 0 ∧ ls.length = 0 ∧ n = 0) ∨
 (k = 4 ∧ prP p ∧ nm = noB ∧ s = 0 ∧ ls.length = 0 ∧ n = 2) ∨ (k = 5 ∧ prP p ∧ nm = noB ∧ s = 0 ∧ ls.length = 0 ∧ n = 2) ∨
 (k = 6 ∧ prP p ∧ nm = noB ∧ s = 0 ∧ 0 < ls.length ∧ labP ls ∧ n = ls.length) ∨ (k = 7 ∧ prP p ∧ nm = noB ∧ s = 0 ∧ 0 < ls.length ∧ labP ls ∧ n = ls.length) ∨
 (k = 8 ∧ p = 0 ∧ nameP nm ∧ s = 0 ∧ ls.length = 0 ∧ n = 1) ∨ (k = 9 ∧ p = 0 ∧ nameP nm ∧ prP s ∧ ls.length = 0 ∧ n = 0)
def shapeP (t : Ty) : Prop := shP t.kind t.prio t.name t.shift t.labels t.kids.length
theorem okx_ref02_shape (t : Ty) (hlim : Lim t) : Ok P F.ref02_shape [t.enc] (.bool (pb (shapeP t))) := by
  cases hlim with
  | mk _ hn hl hll hkl hkk =>
  obtain ⟨k, p, nm, s, ls, ks⟩ := t
  have hnb := okx_ref01_Name nm hn
  have hlb := okx_ref02_Labels ls hll hl
  have hp := ok_ref02_prio p
  have hs := ok_ref02_prio s
  refine tx_pb k_ref02_shape rfl (by simp [t_ref02_shape, T.dt]) ?_
  rw [Ty.enc_mk]
  refine d_l _ (by rfl) fun _ => ?_
  repeat' (first
    | refine d_call hp ?_
    | refine d_call hs ?_
    | refine d_call hnb ?_
    | refine d_call hlb ?_
    | refine d_dec (fun _ => ?_) (fun _ => ?_)
    | refine d_ite (fun _ => ?_) (fun _ => ?_)
    | refine d_l _ rfl fun _ => ?_)
  all_goals
    refine d_ret ?_
    try simp only [decide_eq_true_eq, decide_eq_false_iff_not, List.length_map, pb_iff, pb_false] at *
    first
      | (refine isB_f ?_
         simp only [shapeP, shP, Ty.kind, Ty.prio, Ty.shift, Ty.kids, Ty.labels, Ty.name, prP, noB]
         grind)
      | (refine isB_d ?_
         simp only [shapeP, shP, Ty.kind, Ty.prio, Ty.shift, Ty.kids, Ty.labels, Ty.name, prP, noB]
         grind)
end Go.Proofs.YtkpnmgohbipjjaaGreatDoor.Tx
/- Contracts: fields of types, exactly; where a name is bound. -/
namespace Go.Proofs.YtkpnmgohbipjjaaGreatDoor.Tx
open Go.Lf Go.Lf.S Go.Lf.Duo
set_option maxRecDepth 100000
theorem labP_nil : labP [] := ⟨by simp, by simp⟩
/-! where a name is bound -/
/-- the last place of a text -/
def lastI (s : ByteArray) : List ByteArray → Option Nat
 | [] => none
 | x :: r => match lastI s r with
  | some j => some (j + 1)
  | none => if x = s then some 0 else none
theorem lastI_none {s : ByteArray} : ∀ {ns : List ByteArray}, lastI s ns = none → ∀ j : Nat, ns[j]? ≠ some s
 | [], _, j => by simp
 | x :: r, h, j => by
  simp only [lastI] at h
  split at h
  ·cases h
  ·rename_i hr
   split at h
   ·cases h
   ·rename_i hx
    cases j with
    | zero => simpa using hx
    | succ j => simpa using lastI_none hr j
theorem lastI_some {s : ByteArray} : ∀ {ns : List ByteArray} {q : Nat}, lastI s ns = some q → ns[q]? = some s ∧ ∀ j, q < j → ns[j]? ≠ some s
 | [], q, h => by cases h
 | x :: r, q, h => by
  simp only [lastI] at h
  split at h
  ·rename_i q' hr
   cases h
   obtain ⟨h1, h2⟩ := lastI_some hr
   refine ⟨by simpa using h1, fun j hj => ?_⟩
   cases j with
   | zero => omega
   | succ j => simpa using h2 j (by omega)
  ·rename_i hr
   split at h
   ·rename_i hx
    cases h
    refine ⟨by simp [hx], fun j hj => ?_⟩
    cases j with
    | zero => omega
    | succ j => simpa using lastI_none hr j
   ·cases h
theorem lastI_is {s : ByteArray} {ns : List ByteArray} {q : Nat} (h1 : ns[q]? = some s) (h2 : ∀ j, q < j → ns[j]? ≠ some s) : lastI s ns = some q := by
 cases h : lastI s ns with
 | none => exact absurd h1 (lastI_none h q)
 | some q' =>
  obtain ⟨g1, g2⟩ := lastI_some h
  by_cases e : q = q'
  ·rw [e]
  ·rcases Nat.lt_or_gt_of_ne e with e | e
   ·exact absurd g1 (h2 q' e)
   ·exact absurd h1 (g2 q e)
theorem lastI_not {s : ByteArray} {ns : List ByteArray} (h : ∀ j : Nat, ns[j]? ≠ some s) : lastI s ns = none := by
 cases h' : lastI s ns with
 | none => rfl
 | some q => exact absurd (lastI_some h').1 (h q)
/-- the error of a node of a type, and those below -/
def sesB (k : Int) : Bool := decide (k ≠ 1 ∧ k ≠ 2)
mutual
noncomputable def nodeE : Ty → List ByteArray → Nat → Bool → Int
 | .mk k p nm s ls ks, ns, g, ses => if pb (¬ shP k p nm s ls ks.length) || (ses && !sesB k) then 3 else
   if k = 9 then (match lastI nm ns with
    | some q => if q < g then 0 else 3
    | none => 4)
   else nodeEs ks (decide (4 ≤ k ∧ k ≤ 5)) (if k = 8 then ns ++ [nm] else ns) (if k = 8 then g else ns.length)
/-- the first error; 'pay': the first one may be a payload -/
noncomputable def nodeEs : List Ty → Bool → List ByteArray → Nat → Int
 | [], _, _, _ => 0
 | t :: r, pay, ns, g => if nodeE t ns g (!pay) ≠ 0 then nodeE t ns g (!pay) else nodeEs r false ns g
end
theorem nodeEs_nil {pay : Bool} {ns : List ByteArray} {g : Nat} : nodeEs [] pay ns g = 0 := by simp [nodeEs]
theorem nodeEs_cons {t : Ty} {r : List Ty} {pay : Bool} {ns : List ByteArray} {g : Nat} : nodeEs (t :: r) pay ns g = if nodeE t ns g (!pay) ≠ 0 then nodeE t ns g (!pay) else nodeEs r false ns g := by simp only [nodeEs]
/-- the kids from j on -/
theorem nodeEs_drop {ks : List Ty} {j : Nat} (h : j < ks.length) {pay : Bool} {ns : List ByteArray} {g : Nat} :
  nodeEs (ks.drop j) pay ns g = if nodeE ks[j] ns g (!pay) ≠ 0 then nodeE ks[j] ns g (!pay) else nodeEs (ks.drop (j + 1)) false ns g := by
 rw [List.drop_eq_getElem_cons h, nodeEs_cons]
end Go.Proofs.YtkpnmgohbipjjaaGreatDoor.Tx
/- Contracts: the nodes of a type one by one, few, sizes; lists backward. -/
namespace Go.Proofs.YtkpnmgohbipjjaaGreatDoor.Tx
open Go.Lf Go.Lf.S Go.Lf.Duo
set_option maxRecDepth 100000
section
variable {K : PV → Prop} {hs : List (List PV → Prop)}
/-- a range over a function that may be left -/
theorem d_iterG {x : PV} {n : Nat} {xs : List PV} {bC bS : List PV → List PV → T PV} {after : List PV → T PV} {L : List (List PV)} (hL : ItsV P x L) (hn : ∀ y ∈ L, y.length = n)
  (I : Nat → List PV → Prop) (h0 : I 0 xs) (hs1 : ∀ (j : Nat) (y : List PV), L[j]? = some y → ∀ zs, I j zs → (∃ zs', (bC y zs).den0 P K (hs ++ [fun us => us = zs']) ∧ I (j + 1) zs') ∨ (bS y zs).den0 P K hs)
  (ha : ∀ zs, I L.length zs → (after zs).den0 P K hs) : (T.iter x n xs bC bS after).den0 P K hs := by
 refine ⟨L, hL, hn, ?_⟩
 clear hL hn
 induction L generalizing xs I with
 | nil => exact ha _ h0
 | cons y L ih =>
  rcases hs1 0 y rfl xs h0 with ⟨zs', h1, h2⟩ | h1
  ·exact .inl ⟨zs', h1, ih (fun j => I (j + 1)) h2 (fun j y hy zs hz => hs1 (j + 1) y (by simpa using hy) zs hz) fun zs hz => ha zs hz⟩
  ·exact .inr h1
end
/-- the elements, one by one, till the party has enough: has it not? -/
def runs2 (X : Xt) : List (List PV) → PV → Option (Bool × PV)
 | [], x => some (true, x)
 | y :: l, x => match X.step x y with
  | some (true, x') => runs2 X l x'
  | some (false, x') => some (false, x')
  | none => none
theorem runs2_app (X : Xt) : ∀ (l r : List (List PV)) (x : PV), runs2 X (l ++ r) x = match runs2 X l x with
  | some (true, x') => runs2 X r x'
  | o => o
 | [], r, x => rfl
 | y :: l, r, x => by
  simp only [List.cons_append, runs2]
  split
  ·exact runs2_app X l r _
  ·rfl
  ·rfl
theorem runs_2 (X : Xt) : ∀ (l : List (List PV)) (x s : PV), X.runs l x = some s → ∃ b, runs2 X l x = some (b, s)
 | [], x, s, h => ⟨true, by simp only [Xt.runs] at h; cases h; rfl⟩
 | y :: l, x, s, h => by
  simp only [Xt.runs] at h
  simp only [runs2]
  split at h
  ·rename_i x' hx; rw [hx]; exact runs_2 X l x' s h
  ·rename_i x' hx; cases h; rw [hx]; exact ⟨false, rfl⟩
  ·cases h
mutual
/-- the nodes, each before its kids -/
def pre : Ty → List Ty
 | .mk k p nm s ls ks => .mk k p nm s ls ks :: pres ks
def pres : List Ty → List Ty
 | [] => []
 | t :: r => pre t ++ pres r
end
mutual
theorem pre_len : ∀ t : Ty, (pre t).length = t.sz
 | .mk k p nm s ls ks => by simp only [pre, List.length_cons, Ty.sz]; rw [pres_len ks]
theorem pres_len : ∀ l : List Ty, (pres l).length = Ty.szs l
 | [] => rfl
 | t :: r => by simp only [pres, List.length_append, Ty.szs]; rw [pre_len t, pres_len r]
end
theorem pres_drop {l : List Ty} {j : Nat} (h : j < l.length) : pres (l.drop j) = pre l[j] ++ pres (l.drop (j + 1)) := by
 rw [List.drop_eq_getElem_cons h]; rfl
def e1 (t : Ty) : List PV := [t.enc]
theorem ty_at0 {ks : List Ty} {j : Nat} (h : j < ks.length) : (ks.map Ty.enc)[j]? = some (ks[j]).enc := by simp [h]
theorem okX_visit (X : Xt) (hX : XtC P X) : ∀ (t : Ty) (s s' : PV) (b : Bool), t.sz ≤ 1099511627776 → runs2 X ((pre t).map e1) s = some (b, s') → @OkX { l := gl.l, x := X } P F.typetree_visit [some t.enc, none] s (.bool b) s' := by
 intro t
 induction t using Ty.ind with
 | _ t ih =>
 intro s s' b hz hr
 have hlen := szs_len t.kids
 obtain ⟨k, p, nm, sh, ls, ks⟩ := t
 simp only [Ty.sz, Ty.kids] at hz hlen
 simp only [pre, List.map_cons, runs2] at hr
 refine x_typetree_visit X hX [(Ty.mk k p nm sh ls ks).enc, .nilI, s] _ _ ?_
 letI : Gl := { l := gl.l, x := X }
 refine d_l (Ty.mk k p nm sh ls ks).enc (e_okc (Ty.okc_enc _)) fun _ => ?_
 have stop : ∀ s1, X.step s (e1 (Ty.mk k p nm sh ls ks)) = some (false, s1) → b = false ∧ s' = s1 := fun s1 h => by
  rw [h] at hr; cases hr; exact ⟨rfl, rfl⟩
 have go : ∀ s1, X.step s (e1 (Ty.mk k p nm sh ls ks)) = some (true, s1) → runs2 X ((pres ks).map e1) s1 = some (b, s') := fun s1 h => by rw [h] at hr; exact hr
 cases hst : X.step s (e1 (Ty.mk k p nm sh ls ks)) with
 | none => rw [hst] at hr; cases hr
 | some q =>
  obtain ⟨b1, s1⟩ := q
  refine d_yld hst (d_l (.bool !b1) rfl fun _ => d_ite (fun hb => d_ret ?_) fun hb => ?_)
  ·have hb : b1 = false := by simpa using hb
   subst hb
   obtain ⟨rfl, rfl⟩ := stop _ hst; rfl
  ·have hb : b1 = true := by simpa using hb
   subst hb
   rw [Ty.enc_mk]
   refine d_l _ e_len fun _ => ?_
   refine den_loop (fun m ys => ∃ (j : Nat) (st : PV), j + m = ks.length ∧ runs2 X ((pres (ks.drop j)).map e1) st = some (b, s') ∧ ys = [i j, st]) ks.length ⟨0, s1, by omega, go _ hst, rfl⟩ ?_
   rintro m _ ⟨j, st, hj, hru, rfl⟩
   refine d_l _ rfl fun _ => d_dec (fun h => ?_) fun h => ?_
   ·have hlt : j < ks.length := by have h : (j : Int) < ((ks.map Ty.enc).length : Int) := h; simp at h; omega
    have hmem : ks[j] ∈ ks := List.getElem_mem hlt
    have hs1 := Ty.szs_mem hmem
    refine d_l _ (e_idx (ty_at0 hlt) (Ty.okc_enc _)) fun _ => d_l _ (e_okc (Ty.okc_enc _)) fun _ => ?_
    rw [pres_drop hlt, List.map_append, runs2_app] at hru
    cases h2 : runs2 X ((pre ks[j]).map e1) st with
    | none => rw [h2] at hru; cases hru
    | some q =>
     obtain ⟨b2, s2⟩ := q
     rw [h2] at hru
     refine ⟨_, _, ih _ hmem st s2 b2 (by omega) h2, d_l (.bool !b2) rfl fun _ => d_ite (fun hb => d_ret ?_) fun hb => ?_⟩
     ·have hb : b2 = false := by simpa using hb
      subst hb
      cases hru; rfl
     ·have hb : b2 = true := by simpa using hb
      subst hb
      exact d_l _ (e_inc (by omega)) fun _ => d_cont rfl ⟨m - 1, by omega, j + 1, s2, by omega, hru, rfl⟩
   ·have h : ¬ (j : Int) < ((ks.map Ty.enc).length : Int) := h
    simp at h
    rw [List.drop_eq_nil_of_le (by omega)] at hru
    have : (true, st) = (b, s') := Option.some.inj hru
    cases this
    exact d_ret rfl
theorem itsV_nodes (t : Ty) (hz : t.sz ≤ 1099511627776) : ItsV P (.fn F.typetree_nodes_1 [] [.box t.enc]) ((pre t).map e1) := by
 refine ⟨_, _, rfl, fun X hX s0 s' hr => ?_⟩
 obtain ⟨b, hb⟩ := runs_2 X _ _ _ hr
 refine x_typetree_nodes_1 X hX [.nilI, .box t.enc, s0] _ _ ?_
 letI : Gl := { l := gl.l, x := X }
 refine d_l t.enc (by show (if t.enc.okc 6 true then some t.enc else none) = _; rw [if_pos (Ty.okc_enc t)]) fun _ => ?_
 exact ⟨_, _, okX_visit X hX t s0 s' b hz hb, d_ret rfl⟩
theorem ok_typetree_nodes (t : Ty) : Ok P F.typetree_nodes [t.enc] (.fn F.typetree_nodes_1 [] [.box t.enc]) :=
 k_typetree_nodes _ _ rfl (d_l t.enc (e_okc (Ty.okc_enc t)) fun _ => d_ret rfl)
theorem ok_typetree_Size (t : Ty) (hz : t.sz ≤ 1099511627776) : Ok P F.typetree_Size [t.enc] (i t.sz) := by
 refine k_typetree_Size _ _ rfl ?_
 refine d_l t.enc (e_okc (Ty.okc_enc t)) fun _ => d_l (i 0) rfl fun _ => d_call (ok_typetree_nodes t) ?_
 have hl := pre_len t
 refine d_iter (itsV_nodes t hz) (fun y hy => by obtain ⟨p, _, rfl⟩ := List.mem_map.1 hy; rfl) (fun j zs => zs = [i (j : Int)]) rfl ?_ ?_
 ·rintro j y hy _ rfl
  have hj := (List.getElem?_eq_some_iff.1 hy).1
  simp only [List.length_map] at hj
  exact ⟨[i ((j + 1 : Nat) : Int)], d_l _ (e_inc (by omega)) fun _ => d_l (i ((j + 1 : Nat) : Int)) rfl fun _ => d_cont rfl rfl, rfl⟩
 ·rintro zs hz
  rw [List.length_map, hl] at hz
  subst hz
  exact d_ret rfl
theorem ok_typetree_few (t : Ty) (hz : t.sz ≤ 1099511627776) (m : Nat) (hm : m ≤ 1099511627776) : Ok P F.typetree_few [t.enc, i (m : Int)] (.bool (decide (t.sz ≤ m))) := by
 refine k_typetree_few _ _ rfl ?_
 refine d_l t.enc (e_okc (Ty.okc_enc t)) fun _ => d_l (i (m : Int)) rfl fun _ => d_call (ok_typetree_nodes t) ?_
 have hl := pre_len t
 refine d_iterG (itsV_nodes t hz) (fun y hy => by obtain ⟨p, _, rfl⟩ := List.mem_map.1 hy; rfl) (fun j zs => j ≤ m ∧ zs = [i ((m : Int) - (j : Int))]) ⟨by omega, by simp⟩ ?_ ?_
 ·rintro j y hy _ ⟨hjm, rfl⟩
  have hj := (List.getElem?_eq_some_iff.1 hy).1
  simp only [List.length_map] at hj
  by_cases h : j < m
  ·refine .inl ⟨[i ((m : Int) - ((j + 1 : Nat) : Int))], ?_, by omega, rfl⟩
   have e : (m : Int) - (j : Int) - 1 = (m : Int) - ((j + 1 : Nat) : Int) := by omega
   exact d_l _ (e_sub (by omega) (by omega)) fun _ => d_l _ rfl fun _ => d_l _ rfl fun _ => d_dec (fun h1 => absurd (show (m : Int) - (j : Int) - 1 < 0 from h1) (by omega)) fun _ => d_cont rfl (by rw [e])
  ·refine .inr (d_l _ (e_sub (by omega) (by omega)) fun _ => d_l _ rfl fun _ => d_l _ rfl fun _ => d_dec (fun _ => d_ret ?_) fun h1 => absurd (show (m : Int) - (j : Int) - 1 < 0 by omega) h1)
   rw [decide_eq_false (by omega)]
 ·rintro zs ⟨h1, rfl⟩
  rw [List.length_map, hl] at h1
  exact d_ret (by rw [decide_eq_true h1])
/-! a list backward -/
end Go.Proofs.YtkpnmgohbipjjaaGreatDoor.Tx

/- Contracts: maps.Clone of the sets of names of the package scope, by the kit's own walk: a set that is read becomes one of the call's own. -/
import Derived.Test.YtkpnmgohbipjjaaGreatDoorWk54
import Derived.Test.YtkpnmgohbipjjaaGreatDoorWk110
import Derived.Laws.Externs
import Derived.MapKept
import Derived.WalkKit
set_option linter.all false
namespace Go.Proofs.YtkpnmgohbipjjaaGreatDoor.Tx
open Go.Lf Go.Lf.S Go.Lf.Duo Go.RowKit Go.Maps
set_option maxRecDepth 100000
theorem walk_CloneN (b : Nat) (es : Array MapEntry) (clock : Nat) (w : World) (hb : w.heap[b]? = some (.map es clock)) :
  Calls P F.maps_Clone_scope_names_string_bool #[.map (some b)] w fun e w' => e = .returned (.map (some w.heap.size)) ∧ w' = w.alloc (.map es clock) := by
 show Calls Tryz.prog 141 _ _ _
 have hq := fun w => run_eql_map_nil (P := Tryz.prog) w 142 _ _ (some b) Tryz.underlying142
 go_enter Tryz.func141, Tryz.ntmps141
 go_wp2
 rw [run_callFunc_extern Tryz.func191 (by kernel_rfl) (by kernel_rfl) (by kernel_rfl) (e := Extern.MapsClone.clone) (by kernel_rfl), run_maps_clone' w 142 hb]
 simp only [Result.andThen]
 rw [Oper.upon_value]
 go_wp2
 rw [run_typeAssert_map _ 142 20 _ _ _ Tryz.underlying142]
 simp only [Result.andThen]
 rw [Oper.upon_value]
 go_wp2
 go_ret
 exact ⟨rfl, rfl⟩
theorem okS_CloneN (ks vs : List PV) : OkS P F.maps_Clone_scope_names_string_bool sg_maps_Clone_scope_names_string_bool [.mp ks vs] [.mp ks vs] := by
 have hent : Enters P F.maps_Clone_scope_names_string_bool := by
  obtain ⟨c, hc⟩ : ∃ c, Tryz.f141.body = some c := ⟨_, rfl⟩
  exact Go.Lf.enters_of (f := 141) Tryz.func141 hc (by decide)
 refine ⟨hent, fun F w vv ρ hF hgl hsz hargs hobs => ?_⟩
 have hs : vv.size = 1 := hsz
 have h0 : vv[0]? = some (vv[0]'(by omega)) := Array.getElem?_eq_getElem (by omega)
 have hrep : Rep F w (vv[0]'(by omega)) (.mp ks vs) := hargs 0 _ (.at (.dat (.mp ks vs))) h0 rfl
 generalize hv0 : vv[0]'(by omega) = v0 at hrep h0
 have hvv : vv = #[v0] := by
  apply Array.ext (by simpa using hs)
  intro i hi1 hi2
  have : i = 0 := by simp at hi2; omega
  subst this
  simpa using hv0
 subst hvv
 cases hrep with
 | mp r clock es _ _ hb hFr hk hv h1 h2 =>
 have hlt : r < w.heap.size := (Array.getElem?_eq_some_iff.1 hb).1
 refine (walk_CloneN r es clock w hb).mono ?_
 rintro e w' ⟨rfl, rfl⟩
 have hal := MapKept.heap_alloc w (.map es clock)
 have hsame : ∀ b o, F b o → Same w (w.alloc (.map es clock)) b o := fun b o h => Same.of_block (hal.2 b (hF b o h)) o
 have hsz' : (w.alloc (.map es clock)).heap.size = w.heap.size + 1 := by
  show (w.heap.push _).size = _
  simp
 have mono : ∀ {v : Value} {x : PV}, Rep F w v x → Rep F (w.alloc (.map es clock)) v x := fun h => h.mono (fun _ _ h => h) hsame
 have look1 : ∀ o ob, lookO (sg_maps_Clone_scope_names_string_bool.robsI [.mp ks vs]) o = some ob → o = 9001 ∧ ob = .map false (.mp ks vs) := fun o ob ho => by
  have ho : Go.Lf.look [(9001, some (Ob.map false (PV.mp ks vs)))] o = some ob := ho
  simp only [Go.Lf.look] at ho
  split at ho
  ·rename_i hq
   exact ⟨(Nat.eq_of_beq_eq_true hq).symm, (Option.some.inj ho).symm⟩
  ·cases ho
 refine ⟨_, F, fun o => if o = 9001 then .map (some w.heap.size) else ρ o, rfl, ⟨rfl, rfl, rfl, by omega, fun k hk _ => hal.2 k hk⟩, fun b o h => ⟨h, hsame b o h⟩, fun b o h => .inl h, fun b o h => by have := hF b o h; omega, ⟨rfl, rfl⟩, ⟨?_, ?_⟩, ?_, ?_⟩
 ·intro o ob ho
  obtain ⟨rfl, rfl⟩ := look1 o ob ho
  refine ⟨w.heap.size, es, clock, ks, vs, by simp, rfl, hal.1, hk, hv, fun i e y he hy => mono (h1 i e y he hy), fun i e y he hy => mono (h2 i e y he hy), fun j => ⟨fun h => ?_, fun h => by cases h.1⟩⟩
  have := hF _ _ h
  omega
 ·intro o o' ob ob' ho ho' hne
  exact absurd ((look1 o ob ho).1.trans (look1 o' ob' ho').1.symm) hne
 ·intro o ob ho k hk1
  obtain ⟨rfl, rfl⟩ := look1 o ob ho
  simp only [if_true] at hk1
  have := (HB_hb (k0 := w.heap.size) rfl).1 hk1
  exact .inl (by omega)
 ·intro o ho _
  simp [sg_maps_Clone_scope_names_string_bool] at ho
end Go.Proofs.YtkpnmgohbipjjaaGreatDoor.Tx

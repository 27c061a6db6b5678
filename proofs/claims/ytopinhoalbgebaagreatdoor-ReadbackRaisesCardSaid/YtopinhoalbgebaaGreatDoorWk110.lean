/- Contracts: maps.Clone of the scopes of the package graph; maps with text keys. -/
import Derived.Test.YtopinhoalbgebaaGreatDoorWk7
import Derived.Laws.Externs
import Derived.MapKept
import Derived.WalkKit
set_option linter.all false
namespace Go.Proofs.YtopinhoalbgebaaGreatDoor.Tx
open Go.Lf Go.Lf.S Go.Lf.Duo Go.RowKit Go.Maps
set_option maxRecDepth 100000

theorem run_eqIn_map_nil {P : Program} (w : World) (d : Nat) (t k e : TypeId) (p : Option Nat) (h : P.underlying t = some (.map k e)) :
    (Op.equalIn (d + 1) t (.map p) (.map none)).run P w = .ok p.isNone w := by
  cases p <;> simp [Op.equalIn, run_underlying h]
theorem run_eql_map_nil {P : Program} (w : World) (t k e : TypeId) (p : Option Nat) (h : P.underlying t = some (.map k e)) :
    (binOp .eql t (.map p) (.map none)).run P w = .ok (.bool p.isNone) w := by
  simp only [binOp]
  simp [show Op.equal t (.map p) (.map none) = Op.equalIn (9999 + 1) t (.map p) (.map none) from rfl, run_eqIn_map_nil w 9999 t k e p h]
theorem run_typeAssert_map {P : Program} (w : World) (t xT k e : TypeId) (v : Value) (h : P.underlying t = some (.map k e)) : (Instr.typeAssert (.iface t v) xT t false).run P w = .ok v w := by
  simp [Instr.typeAssert, run_underlying h, go_sem, Result.andThen]
theorem run_maps_clone' {P : Program} (w : World) {r : Nat} {es : Array MapEntry} {clock : Nat} (t : TypeId) (hb : w.heap[r]? = some (.map es clock)) :
    (Extern.MapsClone.clone #[.iface t (.map (some r))]).run P w = .ok (.iface t (.map (some w.heap.size))) (w.alloc (.map es clock)) := by
  have e : Extern.MapsClone.clone #[.iface t (.map (some r))] = (getObj r >>= fun o => match o with
      | .map entries clock => (newObj (.map entries clock) >>= fun n => pure (.iface t (.map (some n))))
      | _ => stuck "maps.clone: a map expected") := rfl
  rw [e]
  simp [MapKept.run_getObj_map hb, Result.andThen, go_sem]

theorem walk_Clone (b : Nat) (es : Array MapEntry) (clock : Nat) (w : World) (hb : w.heap[b]? = some (.map es clock)) :
    Calls P F.maps_Clone_graph_scope_string_graph_Ref #[.map (some b)] w fun e w' => e = .returned (.map (some w.heap.size)) ∧ w' = w.alloc (.map es clock) := by
  show Calls Tryz.prog 82 _ _ _
  have hq := fun w => run_eql_map_nil (P := Tryz.prog) w 101 _ _ (some b) Tryz.underlying101
  go_enter Tryz.func82, Tryz.ntmps82
  go_wp2
  rw [run_callFunc_extern Tryz.func97 (by kernel_rfl) (by kernel_rfl) (by kernel_rfl) (e := Extern.MapsClone.clone) (by kernel_rfl), run_maps_clone' w 101 hb]
  simp only [Result.andThen]
  rw [Oper.upon_value]
  go_wp2
  rw [run_typeAssert_map _ 101 20 _ _ _ Tryz.underlying101]
  simp only [Result.andThen]
  rw [Oper.upon_value]
  go_wp2
  go_ret
  exact ⟨rfl, rfl⟩

theorem look2 {β : Type} {a b o : Nat} {x y z : β} (h : Go.Lf.look [(a, some x), (b, some y)] o = some z) : (o = a ∧ z = x) ∨ (o = b ∧ z = y) := by
  simp only [Go.Lf.look] at h
  split at h
  · rename_i hq
    exact .inl ⟨(Nat.eq_of_beq_eq_true hq).symm, (Option.some.inj h).symm⟩
  · split at h
    · rename_i hq
      exact .inr ⟨(Nat.eq_of_beq_eq_true hq).symm, (Option.some.inj h).symm⟩
    · cases h
theorem okS_Clone_map (ks vs : List PV) : OkS P F.maps_Clone_graph_scope_string_graph_Ref sg_maps_Clone_graph_scope_string_graph_Ref [.mp ks vs] [.mp ks vs, .mp ks vs] := by
  refine ⟨enters_of Tryz.func82 rfl (by decide), fun F w vv ρ hF hgl hsz hargs hobs => ?_⟩
  obtain ⟨r, es, clock, ks', vs', hρ, he, hb, hk, hv, h1, h2, hFr⟩ := hobs.rep 9000 (.map false (.mp ks vs)) rfl
  cases he
  have hvv : vv = #[.map (some r)] := by
    have hs : vv.size = 1 := hsz
    have h0 : vv[0]? = some (vv[0]'(by omega)) := Array.getElem?_eq_getElem (by omega)
    have := (hargs 0 _ (.at (.mref 9000)) h0 rfl).1
    rw [hρ] at this
    apply Array.ext (by simpa using hs)
    intro i hi1 hi2
    have : i = 0 := by simp at hi2; omega
    subst this
    simpa using this
  subst hvv
  have hlt : r < w.heap.size := (Array.getElem?_eq_some_iff.1 hb).1
  refine (walk_Clone r es clock w hb).mono ?_
  rintro e w' ⟨rfl, rfl⟩
  have hal := MapKept.heap_alloc w (.map es clock)
  have hsame : ∀ b o, F b o → Same w (w.alloc (.map es clock)) b o := fun b o h => Same.of_block (hal.2 b (hF b o h)) o
  have hsz' : (w.alloc (.map es clock)).heap.size = w.heap.size + 1 := by
    show (w.heap.push _).size = _
    simp
  have mono : ∀ {v : Value} {x : PV}, Rep F w v x → Rep F (w.alloc (.map es clock)) v x := fun h => h.mono (fun _ _ h => h) hsame
  refine ⟨_, F, fun o => if o = 9001 then .map (some w.heap.size) else ρ o, rfl, ⟨rfl, rfl, rfl, by omega, fun k hk _ => hal.2 k hk⟩, fun b o h => ⟨h, hsame b o h⟩, fun b o h => .inl h, fun b o h => by have := hF b o h; omega, ⟨rfl, rfl⟩, ⟨?_, ?_⟩, ?_, ?_⟩
  · intro o ob ho
    have hcase : (o = 9000 ∨ o = 9001) ∧ ob = .map false (.mp ks vs) := by
      rcases look2 (a := 9000) (b := 9001) ho with ⟨h1, h2⟩ | ⟨h1, h2⟩
      · exact ⟨.inl h1, h2⟩
      · exact ⟨.inr h1, h2⟩
    obtain ⟨hc, rfl⟩ := hcase
    rcases hc with rfl | rfl
    · refine ⟨r, es, clock, ks, vs, by simpa using hρ, rfl, by rw [hal.2 r hlt]; exact hb, hk, hv, fun i e y he hy => mono (h1 i e y he hy), fun i e y he hy => mono (h2 i e y he hy), hFr⟩
    · refine ⟨w.heap.size, es, clock, ks, vs, by simp, rfl, hal.1, hk, hv, fun i e y he hy => mono (h1 i e y he hy), fun i e y he hy => mono (h2 i e y he hy), fun j => ⟨fun h => ?_, fun h => by cases h.1⟩⟩
      have := hF _ _ h
      omega
  · have hcase : ∀ o ob, lookO (sg_maps_Clone_graph_scope_string_graph_Ref.robsI [.mp ks vs, .mp ks vs]) o = some ob → o = 9000 ∨ o = 9001 := fun o ob ho => by
      rcases look2 (a := 9000) (b := 9001) ho with ⟨h1, _⟩ | ⟨h1, _⟩
      · exact .inl h1
      · exact .inr h1
    have hbb : ∀ (o k : Nat), (o = 9000 ∨ o = 9001) → HB (if o = 9001 then Value.map (some w.heap.size) else ρ o) k → (o = 9000 ∧ k = r) ∨ (o = 9001 ∧ k = w.heap.size) := by
      rintro o k (rfl | rfl) h
      · simp only [show ¬ (9000 : Nat) = 9001 by decide, if_false, hρ] at h
        exact .inl ⟨rfl, (HB_hb (k0 := r) rfl).1 h⟩
      · simp only [if_true] at h
        exact .inr ⟨rfl, (HB_hb (k0 := w.heap.size) rfl).1 h⟩
    intro o o' ob ob' ho ho' hne k hk1 hk2
    rcases hbb o k (hcase o ob ho) hk1 with ⟨e1, e2⟩ | ⟨e1, e2⟩ <;> rcases hbb o' k (hcase o' ob' ho') hk2 with ⟨e3, e4⟩ | ⟨e3, e4⟩
    · exact hne (e1.trans e3.symm)
    · omega
    · omega
    · exact hne (e1.trans e3.symm)
  · intro o ob ho k hk1
    rcases look2 (a := 9000) (b := 9001) ho with ⟨rfl, _⟩ | ⟨rfl, _⟩
    · simp only [show ¬ (9000 : Nat) = 9001 by decide, if_false] at hk1
      exact .inr ⟨(9000, .map false (.mp ks vs)), by simp [Sig.obsI, sg_maps_Clone_graph_scope_string_graph_Ref, Ob.map', instL], hk1⟩
    · simp only [if_true] at hk1
      have := (HB_hb (k0 := w.heap.size) rfl).1 hk1
      exact .inl (by omega)
  · intro o ho _
    have : o = 9000 := by simpa [sg_maps_Clone_graph_scope_string_graph_Ref] using ho
    subst this
    simp
end Go.Proofs.YtopinhoalbgebaaGreatDoor.Tx

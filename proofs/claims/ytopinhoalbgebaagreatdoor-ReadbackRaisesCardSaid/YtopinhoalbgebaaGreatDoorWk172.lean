/- The normal tree as a function on closed types (2). -/
import Derived.Test.YtopinhoalbgebaaGreatDoorWk171
set_option linter.all false
namespace Go.Proofs.YtopinhoalbgebaaGreatDoor.Tx
open Go.Lf Go.Lf.S Go.Lf.Duo
set_option maxRecDepth 100000

/-! names -/
def decS (m : Nat) : ByteArray := ⟨(Lib.decDigits m).toArray⟩
def nmB (m : Nat) : ByteArray := ⟨#[114]⟩ ++ decS m
def numOf (l : List UInt8) : Nat := l.foldl (fun a d => 10 * a + (d.toNat - 48)) 0
theorem numOf_append (l : List UInt8) (d : UInt8) : numOf (l ++ [d]) = 10 * numOf l + (d.toNat - 48) := by simp [numOf]
theorem dec_num : ∀ m : Nat, numOf (Lib.decDigits m) = m := by
  intro m
  induction m using Nat.strongRecOn with
  | _ m ih =>
  rw [Lib.decDigits]
  split
  · rename_i h
    show 10 * 0 + ((UInt8.ofNat (48 + m)).toNat - 48) = m
    rw [UInt8.toNat_ofNat', Nat.mod_eq_of_lt (by omega)]; omega
  · rename_i h
    rw [numOf_append, ih _ (by omega), UInt8.toNat_ofNat', Nat.mod_eq_of_lt (by omega)]; omega
theorem nmB_inj {a b : Nat} (h : nmB a = nmB b) : a = b := by
  have h1 := congrArg (fun x : ByteArray => x.data.toList) h
  have h2 : (114 : UInt8) :: Lib.decDigits a = 114 :: Lib.decDigits b := by
    simpa [nmB, decS, ByteArray.data_append] using h1
  rw [← dec_num a, ← dec_num b, (List.cons.inj h2).2]

/-! labels in order -/
noncomputable def srt (l : List ByteArray) : List ByteArray := open Classical in if h : ∃ o : List ByteArray, o.length = l.length ∧ Shuf o l ∧ Srt o.length o then Classical.choose h else l
theorem srt_eq {l o : List ByteArray} (hn : l.Nodup) (h0 : o.length = l.length) (h1 : Shuf o l) (h2 : Srt o.length o) : srt l = o := by
  have he : ∃ o : List ByteArray, o.length = l.length ∧ Shuf o l ∧ Srt o.length o := ⟨o, h0, h1, h2⟩
  unfold srt
  rw [dif_pos he]
  obtain ⟨_, g1, g2⟩ := Classical.choose_spec he
  exact (sorted_eq hn hn g1 g2 h1 h2).2 fun s => Iff.rfl
theorem srt_nil : srt [] = [] := srt_eq List.nodup_nil rfl ⟨id, id, fun x => ⟨rfl, rfl⟩, fun x => rfl⟩ fun p q x y hp hpq hx hy => by simp at hx
theorem srt_spec {l : List ByteArray} (hn : l.Nodup) (hl : l.length ≤ 549755813888) : (srt l).length = l.length ∧ (∀ s, s ∈ srt l ↔ s ∈ l) ∧ (srt l).Nodup ∧ Ok P F.ref08_Sorted [.sl (l.map .str)] (.sl ((srt l).map .str)) := by
  obtain ⟨o, h0, h1, h2, h3⟩ := ok_Sorted l hl
  rw [srt_eq hn h1 h2 h3]
  exact ⟨h1, h2.mem, h2.nodup hn, h0⟩
/-! rests in order -/
noncomputable def kidAt (u : Ty) (s : ByteArray) : Ty := open Classical in if h : ∃ k : Ty, ∃ j : Nat, u.labels[j]? = some s ∧ u.kids[j]? = some k then Classical.choose h else u
theorem kidAt_eq {u : Ty} (hn : u.labels.Nodup) {s : ByteArray} {k : Ty} {j : Nat} (h1 : u.labels[j]? = some s) (h2 : u.kids[j]? = some k) : kidAt u s = k := by
  have he : ∃ k : Ty, ∃ j : Nat, u.labels[j]? = some s ∧ u.kids[j]? = some k := ⟨k, j, h1, h2⟩
  unfold kidAt
  rw [dif_pos he]
  obtain ⟨j', g1, g2⟩ := Classical.choose_spec he
  obtain rfl := nodup_at hn g1 h1
  exact Option.some.inj (g2.symm.trans h2)
theorem kidAt_ex {M : Nat} {u : Ty} (hS : Shp M u) {s : ByteArray} (hs : s ∈ u.labels) : ∃ j : Nat, u.labels[j]? = some s ∧ u.kids[j]? = some (kidAt u s) := by
  obtain ⟨q, hq, hqs⟩ := List.getElem_of_mem hs
  have hne : u.labels ≠ [] := fun c => by rw [c] at hs; cases hs
  have hqk : q < u.kids.length := by
    have k1 := hS.k1
    have : u.kids.length = u.labels.length := by
      by_cases c3 : u.kind ≤ 3
      · exact absurd (hS.k3 c3).2.1 hne
      · by_cases c5 : u.kind ≤ 5
        · exact absurd (hS.k5 ⟨by omega, c5⟩).2 hne
        · exact hS.k7 ⟨by omega, k1.2⟩
    omega
  have hql : u.labels[q]? = some s := by rw [List.getElem?_eq_getElem hq, hqs]
  exact ⟨q, hql, by rw [kidAt_eq hS.nd hql (List.getElem?_eq_getElem hqk)]; exact List.getElem?_eq_getElem hqk⟩
noncomputable def ordK (u : Ty) : List Ty := if u.labels = [] then u.kids else (srt u.labels).map (kidAt u)
theorem ordK_mem {M : Nat} {u : Ty} (hS : Shp M u) (hM : M ≤ 549755813888) {k : Ty} (hk : k ∈ ordK u) : k ∈ u.kids := by
  unfold ordK at hk
  split at hk
  · exact hk
  · obtain ⟨s, hs, rfl⟩ := List.mem_map.1 hk
    have hl : u.labels.length ≤ M := by cases hS.lm with | mk _ h _ _ => exact h
    obtain ⟨j, _, h⟩ := kidAt_ex hS ((srt_spec hS.nd (by omega)).2.1 s |>.1 hs)
    exact List.mem_of_getElem? h

/-! the path -/
def off (p u : Ty) : Int := IntKind.i64.wrap (u.prio - pz p)
def Hit (p u : Ty) : Prop := EqP (raiseT (off p u) p, u)
noncomputable def fnd (path : List Ty) (u : Ty) : Option Nat := path.findIdx? fun p => dq (Hit p u)
structure POk (L : List Ty) (M : Nat) (path : List Ty) : Prop where
  cl : ∀ p ∈ path, CL L M p
  ac : ∀ p ∈ path, act p.kind = true
  un : ∀ p ∈ path, unfT p = p
  nd : (path.map nu).Nodup
theorem nu_raise {T : Ty} (hu : ∃ u, Unf T u) (ha : act (unfT T).kind = true) (k : Int) : nu (raiseT k T) = nu T := by
  unfold nu
  rw [unfT_raise k hu, pz_act (by rw [raise_kind]; exact ha), pz_act ha, raise_prio _ _ ha, raise_raise]
  refine raise_congr ?_ _
  rw [wrap_eq]
  have := wrap_mod ((unfT T).prio + k)
  unfold ad; omega
theorem nu_in {L : List Ty} {M : Nat} {T : Ty} (h : CL L M T) (ha : act (unfT T).kind = true) : nu T ∈ L.map nu := by
  obtain ⟨σ, s, hs, rfl, cs⟩ := h.base
  rw [unfT_raise σ cs.ex, raise_kind] at ha
  rw [nu_raise cs.ex ha]
  exact List.mem_map.2 ⟨s, hs, rfl⟩
theorem POk.len {L : List Ty} {M : Nat} {path : List Ty} (h : POk L M path) : path.length ≤ L.length := by
  have := nodup_leU h.nd (U := L.map nu) fun x hx => by
    obtain ⟨p, hp, rfl⟩ := List.mem_map.1 hx
    exact nu_in (h.cl p hp) (by rw [h.un p hp]; exact h.ac p hp)
  simpa using this
/-- one that is not on the path yet -/
theorem POk.snoc {L : List Ty} {M : Nat} {path : List Ty} (h : POk L M path) {T : Ty} (hT : CL L M T) (ha : act (unfT T).kind = true) (hf : fnd path (unfT T) = none) : POk L M (path ++ [unfT T]) := by
  refine ⟨fun p hp => ?_, fun p hp => ?_, fun p hp => ?_, ?_⟩
  · rcases List.mem_append.1 hp with hp | hp
    · exact h.cl p hp
    · obtain rfl := List.mem_singleton.1 hp; exact hT.unfC
  · rcases List.mem_append.1 hp with hp | hp
    · exact h.ac p hp
    · obtain rfl := List.mem_singleton.1 hp; exact ha
  · rcases List.mem_append.1 hp with hp | hp
    · exact h.un p hp
    · obtain rfl := List.mem_singleton.1 hp; exact hT.uu
  · rw [List.map_append, List.nodup_append]
    refine ⟨h.nd, by simp, ?_⟩
    rintro a ha' b hb rfl
    obtain ⟨p, hp, rfl⟩ := List.mem_map.1 ha'
    simp only [List.map_cons, List.map_nil, List.mem_singleton] at hb
    unfold fnd at hf
    rw [List.findIdx?_eq_none_iff] at hf
    have := hf p hp
    have hno : ¬ Hit p (unfT T) := fun c => by rw [dq_t c] at this; cases this
    refine hno ?_
    unfold Hit
    have e : raiseT (off p (unfT T)) p = unfT T := by
      unfold nu at hb
      rw [h.un p hp, hT.uu, pz_act ha, pz_act (h.ac p hp)] at hb
      have := congrArg (raiseT (unfT T).prio) hb
      rw [raise_raise, raise_raise, show -(unfT T).prio + (unfT T).prio = 0 by omega, raise0 hT] at this
      refine Eq.trans ?_ this
      unfold off
      rw [raise_wr, pz_act (h.ac p hp)]
      congr 1; omega
    rw [e]
    exact eqP_refl hT.unfC

/-! the tree -/
mutual
def usB (s : ByteArray) : Ty → Bool
  | .mk kd _ nm _ _ ks => (decide (kd = 9) && decide (nm = s)) || usBs s ks
def usBs (s : ByteArray) : List Ty → Bool
  | [] => false
  | t :: ts => usB s t || usBs s ts
end
theorem usBs_eq (s : ByteArray) : ∀ l : List Ty, usBs s l = l.any (usB s)
  | [] => by simp [usBs]
  | t :: ts => by simp [usBs, usBs_eq s ts]
theorem usB_mk (s : ByteArray) (kd p : Int) (nm : ByteArray) (sh : Int) (ls : List ByteArray) (ks : List Ty) : usB s (.mk kd p nm sh ls ks) = ((decide (kd = 9) && decide (nm = s)) || ks.any (usB s)) := by
  simp only [usB, usBs_eq]
def litT (k : Int) : Ty := .mk k 0 ⟨#[]⟩ 0 [] []
def varT (j : Nat) (s : Int) : Ty := .mk 9 0 (nmB j) s [] []
def wrapT (m : Nat) (t : Ty) : Ty := if t.kids.any (usB (nmB m)) then .mk 8 0 (nmB m) 0 [] [t] else t
noncomputable def nodeT (u : Ty) (ts : List Ty) : Ty := .mk u.kind u.prio ⟨#[]⟩ 0 (srt u.labels) ts
noncomputable def nmT : Nat → List Ty → Ty → Ty
  | 0, _, T => T
  | m + 1, path, T => if (unfT T).kind ≤ 3 then litT (unfT T).kind else
      match fnd path (unfT T) with
      | some j => varT j (off (path.getD j T) (unfT T))
      | none => wrapT path.length (nodeT (unfT T) ((ordK (unfT T)).map (nmT m (path ++ [unfT T]))))
theorem nmT_lit {m : Nat} {path : List Ty} {T : Ty} (h : (unfT T).kind ≤ 3) : nmT (m + 1) path T = litT (unfT T).kind := by
  rw [nmT, if_pos h]
theorem nmT_var {m : Nat} {path : List Ty} {T : Ty} (h : ¬ (unfT T).kind ≤ 3) {j : Nat} (hf : fnd path (unfT T) = some j) (hj : j < path.length) : nmT (m + 1) path T = varT j (off path[j] (unfT T)) := by
  rw [nmT, if_neg h, hf]
  simp only [List.getD_eq_getElem?_getD, List.getElem?_eq_getElem hj, Option.getD_some]
theorem nmT_node {m : Nat} {path : List Ty} {T : Ty} (h : ¬ (unfT T).kind ≤ 3) (hf : fnd path (unfT T) = none) : nmT (m + 1) path T = wrapT path.length (nodeT (unfT T) ((ordK (unfT T)).map (nmT m (path ++ [unfT T])))) := by
  rw [nmT, if_neg h, hf]
theorem fnd_some {path : List Ty} {u : Ty} {j : Nat} (h : fnd path u = some j) : ∃ hj : j < path.length, Hit path[j] u ∧ ∀ q (hq : q < j), ¬ Hit (path[q]'(by omega)) u := by
  unfold fnd at h
  rw [List.findIdx?_eq_some_iff_getElem] at h
  obtain ⟨h1, h2, h3⟩ := h
  exact ⟨h1, dq_iff.1 h2, fun q hq c => by have := h3 q hq; rw [dq_t c] at this; exact this rfl⟩
theorem fnd_none {path : List Ty} {u : Ty} (h : fnd path u = none) : ∀ q (hq : q < path.length), ¬ Hit path[q] u := by
  unfold fnd at h
  rw [List.findIdx?_eq_none_iff] at h
  intro q hq c
  have := h _ (List.getElem_mem hq)
  rw [dq_t c] at this; cases this
theorem fnd_of {path : List Ty} {u : Ty} {j : Nat} (hj : j < path.length) (h1 : Hit path[j] u) (h2 : ∀ q (hq : q < j), ¬ Hit (path[q]'(by omega)) u) : fnd path u = some j := by
  unfold fnd
  rw [List.findIdx?_eq_some_iff_getElem]
  exact ⟨hj, dq_t h1, fun q hq c => h2 q hq (dq_iff.1 c)⟩
theorem fnd_of_none {path : List Ty} {u : Ty} (h : ∀ q (hq : q < path.length), ¬ Hit path[q] u) : fnd path u = none := by
  unfold fnd
  rw [List.findIdx?_eq_none_iff]
  intro p hp
  obtain ⟨q, hq, rfl⟩ := List.getElem_of_mem hp
  exact dq_f (h q hq)
end Go.Proofs.YtopinhoalbgebaaGreatDoor.Tx

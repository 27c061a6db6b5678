/- Maps whose keys are texts; sets of texts. -/
import Derived.Test.YtbfjpjllaibooaaGreatWk50
import Derived.Test.YtbfjpjllaibooaaGreatWk3
set_option linter.all false
namespace Go.Proofs.YtbfjpjllaibooaaGreat.Tx
open Go.Lf Go.Lf.S Go.Lf.Duo
set_option maxRecDepth 100000

def idxS (s : ByteArray) : List ByteArray → Nat → Option Nat
  | [], _ => none
  | x :: r, n => if s = x then some n else idxS s r (n + 1)
theorem kfindGo_str (s : ByteArray) : ∀ (ls : List ByteArray) (n : Nat), PV.kfindGo false [.s] (.str s) (ls.map .str) n = some (idxS s ls n)
  | [], _ => rfl
  | x :: r, n => by
    have h : PV.keq false [.s] (.str s) (.str x) = some (decide (s = x)) := by
      show (match (some (decide (s = x)) : Option Bool) with
        | some true => some true
        | some false => some false
        | none => none) = _
      cases decide (s = x) <;> rfl
    simp only [List.map_cons, PV.kfindGo, h, idxS]
    by_cases e : s = x
    · rw [decide_eq_true e, if_pos e]
    · rw [decide_eq_false e, if_neg e]; exact kfindGo_str s r (n + 1)
theorem kfind_str (s : ByteArray) (ls : List ByteArray) : PV.kfind false [.s] (.str s) (ls.map .str) = some (idxS s ls 0) := kfindGo_str s ls 0
theorem idxS_none {s : ByteArray} : ∀ {ls : List ByteArray} {n : Nat}, idxS s ls n = none ↔ s ∉ ls
  | [], n => by simp [idxS]
  | x :: r, n => by
    simp only [idxS, List.mem_cons, not_or]
    by_cases e : s = x
    · simp [e]
    · simp only [if_neg e, e, not_false_eq_true, true_and]; exact idxS_none
theorem idxS_some {s : ByteArray} : ∀ {ls : List ByteArray} {n j : Nat}, idxS s ls n = some j → n ≤ j ∧ ls[j - n]? = some s ∧ ∀ k, k < j - n → ls[k]? ≠ some s
  | [], n, j, h => by cases h
  | x :: r, n, j, h => by
    simp only [idxS] at h
    by_cases e : s = x
    · rw [if_pos e] at h; cases h
      exact ⟨Nat.le_refl _, by simp [e], fun k hk => by omega⟩
    · rw [if_neg e] at h
      obtain ⟨h1, h2, h3⟩ := idxS_some h
      refine ⟨by omega, ?_, fun k hk => ?_⟩
      · obtain ⟨d, rfl⟩ : ∃ d, j = n + 1 + d := ⟨j - (n + 1), by omega⟩
        rw [show n + 1 + d - n = d + 1 by omega]
        rw [show n + 1 + d - (n + 1) = d by omega] at h2
        simpa using h2
      · cases k with
        | zero => simpa using Ne.symm e
        | succ k => simpa using h3 k (by omega)
theorem set_same {α : Type} {l : List α} {j : Nat} {x : α} (h : l[j]? = some x) : l.set j x = l := by
  apply List.ext_getElem?
  intro k
  rw [List.getElem?_set]
  split
  · rename_i e; subst e
    split
    · exact h.symm
    · rename_i hn; exact absurd (List.getElem?_eq_some_iff.1 h).1 hn
  · rfl

/-- a set of texts -/
def setV (ls : List ByteArray) : PV := .mp (ls.map .str) (ls.map fun _ => .bool true)
theorem e_mgetS {s : ByteArray} {ls : List ByteArray} : (Prim.mget false [.s] (.bool false)).ev [setV ls, .str s] = some (.bool (pb (s ∈ ls))) := by
  show (match PV.kfind false [.s] (.str s) (ls.map .str) with
    | some (some i) => (ls.map fun _ => PV.bool true)[i]?
    | some none => some (.bool false)
    | none => none) = _
  rw [kfind_str]
  cases h : idxS s ls 0 with
  | none => rw [pb_false.2 (idxS_none.1 h)]
  | some j =>
    obtain ⟨_, h2, _⟩ := idxS_some h
    have hm : s ∈ ls := List.mem_of_getElem? h2
    rw [pb_iff.2 hm]
    have := (List.getElem?_eq_some_iff.1 h2).1
    simp only [List.getElem?_map]
    rw [show j = j - 0 from rfl, h2]; rfl
def addS (s : ByteArray) (ls : List ByteArray) : List ByteArray := if memB s ls then ls else ls ++ [s]
theorem addS_in {s : ByteArray} {ls : List ByteArray} (h : s ∈ ls) : addS s ls = ls := if_pos (memB_iff.2 h)
theorem addS_new {s : ByteArray} {ls : List ByteArray} (h : s ∉ ls) : addS s ls = ls ++ [s] := if_neg fun e => h (memB_iff.1 e)
theorem mem_addS {s x : ByteArray} {ls : List ByteArray} : x ∈ addS s ls ↔ x ∈ ls ∨ x = s := by
  by_cases h : s ∈ ls
  · rw [addS_in h]; exact ⟨.inl, fun e => e.elim id fun e => e ▸ h⟩
  · rw [addS_new h]; simp
theorem e_msetS {s : ByteArray} {ls : List ByteArray} : (Prim.mset false [.s]).ev [setV ls, .str s, .bool true] = some (setV (addS s ls)) := by
  show (match PV.kfind false [.s] (.str s) (ls.map .str) with
    | some (some i) => some (PV.mp ((ls.map PV.str).set i (.str s)) ((ls.map fun _ => PV.bool true).set i (.bool true)))
    | some none => some (PV.mp (ls.map PV.str ++ [PV.str s]) ((ls.map fun _ => PV.bool true) ++ [PV.bool true]))
    | none => none) = _
  rw [kfind_str]
  cases h : idxS s ls 0 with
  | none =>
    rw [addS_new (idxS_none.1 h)]
    simp [setV]
  | some j =>
    obtain ⟨_, h2, _⟩ := idxS_some h
    have hm : s ∈ ls := List.mem_of_getElem? h2
    rw [addS_in hm]
    have h2 : ls[j]? = some s := h2
    simp only [setV]
    rw [set_same (by simp [h2]), set_same (by simp [h2])]

def labP (ls : List ByteArray) : Prop := (∀ s ∈ ls, nameP s) ∧ ls.Nodup
theorem labP_snoc {ls : List ByteArray} {j : Nat} (h : j < ls.length) : labP (ls.take (j + 1)) ↔ labP (ls.take j) ∧ nameP ls[j] ∧ ls[j] ∉ ls.take j := by
  unfold labP
  rw [← List.take_append_getElem h]
  simp only [List.mem_append, List.mem_singleton, List.nodup_append, List.nodup_cons, List.not_mem_nil, not_false_eq_true, List.nodup_nil, true_and, and_true]
  constructor
  · rintro ⟨h1, h2, h3⟩
    exact ⟨⟨fun s hs => h1 s (.inl hs), h2⟩, h1 _ (.inr rfl), fun hm => h3 _ hm _ rfl rfl⟩
  · rintro ⟨⟨h1, h2⟩, h3, h4⟩
    exact ⟨fun s hs => hs.elim (h1 s) fun e => e ▸ h3, h2, fun a ha b hb e => h4 (by rw [← hb, ← e]; exact ha)⟩
theorem labP_take {ls : List ByteArray} {j : Nat} (h : labP ls) : labP (ls.take j) := ⟨fun s hs => h.1 s (List.mem_of_mem_take hs), h.2.sublist (List.take_sublist _ _)⟩

theorem okx_ref02_Labels (ls : List ByteArray) (hl : ls.length ≤ 9223372036854775807) (hs : ∀ s ∈ ls, s.size ≤ 9223372036854775807) : Ok P F.ref02_Labels [.sl (ls.map .str)] (.bool (pb (labP ls))) := by
  refine tx_pb k_ref02_Labels rfl (by simp [t_ref02_Labels, T.dt]) ?_
  refine den_loop (fun m ys => ∃ j : Nat, j + m = ls.length ∧ labP (ls.take j) ∧ ys = [i j]) ls.length ⟨0, by omega, ⟨by simp, by simp⟩, rfl⟩ ?_
  rintro m _ ⟨j, hj, hnd, rfl⟩
  refine d_l _ e_len fun _ => d_l _ rfl fun _ => d_dec (fun h => ?_) fun h => d_ret (isB_t ?_)
  rotate_left
  · have h : ¬ (j : Int) < ((ls.map PV.str).length : Int) := h
    rw [List.take_of_length_le (by simp at h; omega)] at hnd
    exact hnd
  have h : (j : Int) < ((ls.map PV.str).length : Int) := h
  have hlt : j < ls.length := by simp at h; omega
  refine d_l _ (e_idx (str_at hlt) rfl) fun _ => d_call (okx_ref01_Name ls[j] (hs _ (List.getElem_mem hlt))) (d_l _ rfl fun _ => d_ite (fun hn => d_ret (isB_f fun hp => ?_)) fun hn => ?_)
  · have := pb_iff.2 ((labP_snoc hlt).1 (labP_take hp)).2.1
    rw [this] at hn; cases hn
  have hnm : nameP ls[j] := pb_iff.1 (by simpa using hn)
  refine d_l _ (e_idx (str_at hlt) rfl) fun _ => d_l _ (e_slcT (all_map okc_str _) (by simp; omega)) fun _ => ?_
  have hc := ok_ref02_in ls[j] (ls.take j) (by simp; omega)
  rw [List.map_take] at hc
  refine d_call hc (d_ite (fun hy => d_ret (isB_f fun hp => ((labP_snoc hlt).1 (labP_take hp)).2.2 (memB_iff.1 hy))) fun hno => d_l _ (e_inc (by omega)) fun _ => d_cont rfl ⟨m - 1, by omega, j + 1, by omega, ?_, rfl⟩)
  exact (labP_snoc hlt).2 ⟨hnd, hnm, fun hm => by rw [memB_iff.2 hm] at hno; cases hno⟩

end Go.Proofs.YtbfjpjllaibooaaGreat.Tx

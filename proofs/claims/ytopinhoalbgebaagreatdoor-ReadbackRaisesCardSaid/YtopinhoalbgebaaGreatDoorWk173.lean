/- The normal tree (3): what the reference computes. -/
import Derived.Test.YtopinhoalbgebaaGreatDoorWk172
import Derived.Test.YtopinhoalbgebaaGreatDoorWk111
set_option linter.all false
namespace Go.Proofs.YtopinhoalbgebaaGreatDoor.Tx
open Go.Lf Go.Lf.S Go.Lf.Duo
set_option maxRecDepth 100000

theorem shp_lm {M : Nat} {u : Ty} (h : Shp M u) : u.labels.length ≤ M ∧ u.kids.length ≤ M := by cases h.lm with | mk _ h1 h2 _ => exact ⟨h1, h2⟩
theorem ordK_len {M : Nat} {u : Ty} (hS : Shp M u) (hM : M ≤ 549755813888) : (ordK u).length = u.kids.length := by
  unfold ordK
  split
  · rfl
  · rename_i hne
    have := (shp_lm hS).1
    rw [List.length_map, (srt_spec hS.nd (by omega)).1]
    have := hS.nk
    have k1 := hS.k1
    by_cases c3 : u.kind ≤ 3
    · exact absurd (hS.k3 c3).2.1 hne
    · by_cases c5 : u.kind ≤ 5
      · exact absurd (hS.k5 ⟨by omega, c5⟩).2 hne
      · rw [this, if_neg c3, if_neg c5]
theorem litT_ln (k : Int) : Ln (litT k) := .mk _ (by simp [litT, Ty.labels]) (by simp [litT, Ty.kids]) fun k hk => by simp [litT, Ty.kids] at hk
theorem varT_ln (j : Nat) (s : Int) : Ln (varT j s) := .mk _ (by simp [varT, Ty.labels]) (by simp [varT, Ty.kids]) fun k hk => by simp [varT, Ty.kids] at hk
theorem wrapT_ln {m : Nat} {t : Ty} (h : Ln t) : Ln (wrapT m t) := by
  unfold wrapT
  split
  · exact .mk _ (by simp [Ty.labels]) (by simp [Ty.kids]) fun k hk => by simp [Ty.kids] at hk; subst hk; exact h
  · exact h
theorem nmT_ln {L : List Ty} {M : Nat} (hM : M ≤ 549755813888) : ∀ (m : Nat) (path : List Ty) (T : Ty), CL L M T → Ln (nmT m path T) := by
  intro m
  induction m with
  | zero => intro path T h; exact h.ln hM
  | succ m ih =>
    intro path T h
    have hS := h.unf.2.1
    have hl := shp_lm hS
    by_cases h3 : (unfT T).kind ≤ 3
    · rw [nmT_lit h3]; exact litT_ln _
    · cases hf : fnd path (unfT T) with
      | some j => rw [nmT_var h3 hf (fnd_some hf).1]; exact varT_ln _ _
      | none =>
        rw [nmT_node h3 hf]
        refine wrapT_ln (.mk _ ?_ ?_ fun k hk => ?_)
        · show (srt (unfT T).labels).length ≤ _
          rw [(srt_spec hS.nd (by omega)).1]; omega
        · show ((ordK (unfT T)).map _).length ≤ _
          rw [List.length_map, ordK_len hS hM]; omega
        · obtain ⟨x, hx, rfl⟩ := List.mem_map.1 (show k ∈ (ordK (unfT T)).map _ from hk)
          exact ih _ x (h.unf.2.2 x (ordK_mem hS hM hx))

/-! numbers -/
theorem decS_size {m : Nat} (h : m < 100) : (decS m).size ≤ 2 := by
  show (Lib.decDigits m).toArray.size ≤ 2
  rw [List.size_toArray]
  by_cases c : m < 10
  · rw [Lib.decDigits_one c]; simp
  · rw [Lib.decDigits_two c h]; simp
theorem ev_name {m : Nat} (h : m < 100) : (Prim.cat).ev [.str ⟨#[114]⟩, .str (decS m)] = some (.str (nmB m)) := by
  have := decS_size h
  show (if 1 + (decS m).size ≤ maxLen then some (PV.str (⟨#[114]⟩ ++ decS m)) else none) = _
  rw [if_pos (by unfold maxLen; omega)]; rfl
/-! names in a tree -/
end Go.Proofs.YtopinhoalbgebaaGreatDoor.Tx

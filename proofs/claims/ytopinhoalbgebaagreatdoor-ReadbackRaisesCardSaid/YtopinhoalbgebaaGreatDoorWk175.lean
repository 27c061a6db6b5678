/- The normal tree (5): what is used on the path. -/
import Derived.Test.YtopinhoalbgebaaGreatDoorWk174
set_option linter.all false
namespace Go.Proofs.YtopinhoalbgebaaGreatDoor.Tx
open Go.Lf Go.Lf.S Go.Lf.Duo
set_option maxRecDepth 100000

/-! the set of used places -/
def mpU (l : List Nat) : PV := .mp (l.map fun m : Nat => i (m : Int)) (l.map fun _ => .bool true)
def idxN : List Nat → Nat → Nat → Option Nat
  | [], _, _ => none
  | k :: r, a, j => if a = k then some j else idxN r a (j + 1)
theorem kfN_go (a : Nat) : ∀ (l : List Nat) (j : Nat), PV.kfindGo false [.i .i64] (i (a : Int)) (l.map fun m : Nat => i (m : Int)) j = some (idxN l a j)
  | [], j => rfl
  | k :: r, j => by
    have h : PV.keq false [.i .i64] (i (a : Int)) (i (k : Int)) = some (decide (a = k)) := by
      have e : decide ((a : Int) = (k : Int)) = decide (a = k) := by
        by_cases c : a = k
        · simp [c]
        · simp [c]; omega
      by_cases c : a = k <;> simp [PV.keq, PV.okc, PV.cells, PV.isAg, PV.isCell, PV.sameK, PV.same1, c, e]
    simp only [List.map_cons, PV.kfindGo, h, idxN]
    by_cases e : a = k
    · simp [e]
    · simp only [e, decide_false, if_false]; exact kfN_go a r (j + 1)
theorem kfN (a : Nat) (l : List Nat) : PV.kfind false [.i .i64] (i (a : Int)) (l.map fun m : Nat => i (m : Int)) = some (idxN l a 0) := by
  unfold PV.kfind
  rw [if_pos (show (i (a : Int)).okc ([CK.i .i64] : List CK).length false = true from rfl)]; exact kfN_go a l 0
theorem idxN_none : ∀ (l : List Nat) (a j : Nat), idxN l a j = none ↔ a ∉ l
  | [], a, j => by simp [idxN]
  | k :: r, a, j => by
    unfold idxN
    split
    · rename_i h; simp [h]
    · rename_i h; rw [idxN_none r a (j + 1)]; simp [h]
theorem idxN_some : ∀ (l : List Nat) (a j q : Nat), idxN l a j = some q → j ≤ q ∧ l[q - j]? = some a ∧ l.eraseIdx (q - j) = l.erase a
  | [], a, j, q, h => by cases h
  | k :: r, a, j, q, h => by
    unfold idxN at h
    split at h
    · rename_i e
      cases h
      subst e
      simp
    · rename_i e
      obtain ⟨h1, h2, h3⟩ := idxN_some r a (j + 1) q h
      have hq : q - j = (q - (j + 1)) + 1 := by omega
      refine ⟨by omega, by rw [hq, List.getElem?_cons_succ]; exact h2, ?_⟩
      rw [hq, List.eraseIdx_cons_succ, h3, List.erase_cons_tail (by simpa using fun c => e c.symm)]
def insU (l : List Nat) (a : Nat) : List Nat := if a ∈ l then l else l ++ [a]
theorem ev_getU (l : List Nat) (a : Nat) : (Prim.mget false [.i .i64] (.bool false)).ev [mpU l, i (a : Int)] = some (.bool (decide (a ∈ l))) := by
  show (match PV.kfind false [.i .i64] (i (a : Int)) (l.map fun m : Nat => i (m : Int)) with
      | some (some i) => (l.map fun _ => PV.bool true)[i]?
      | some none => some (PV.bool false)
      | none => none) = _
  rw [kfN]
  cases h : idxN l a 0 with
  | none => simp [(idxN_none l a 0).1 h]
  | some q =>
    obtain ⟨_, h2, _⟩ := idxN_some l a 0 q h
    have hm : a ∈ l := List.mem_of_getElem? h2
    simp only [Nat.sub_zero] at h2
    simp [h2, hm]
theorem ev_setU (l : List Nat) (a : Nat) : (Prim.mset false [.i .i64]).ev [mpU l, i (a : Int), .bool true] = some (mpU (insU l a)) := by
  show (match PV.kfind false [.i .i64] (i (a : Int)) (l.map fun m : Nat => i (m : Int)) with
      | some (some j) => some (PV.mp ((l.map fun m : Nat => i (m : Int)).set j (i (a : Int))) ((l.map fun _ => PV.bool true).set j (PV.bool true)))
      | some none => some (PV.mp ((l.map fun m : Nat => i (m : Int)) ++ [i (a : Int)]) ((l.map fun _ => PV.bool true) ++ [PV.bool true]))
      | none => none) = _
  rw [kfN]
  unfold insU
  cases h : idxN l a 0 with
  | none => rw [if_neg ((idxN_none l a 0).1 h)]; simp [mpU]
  | some q =>
    obtain ⟨_, h2, _⟩ := idxN_some l a 0 q h
    rw [if_pos (List.mem_of_getElem? h2)]
    simp only [Nat.sub_zero] at h2
    obtain ⟨hq, hqa⟩ := List.getElem?_eq_some_iff.1 h2
    have e1 : (l.map fun m : Nat => i (m : Int)).set q (i (a : Int)) = l.map fun m : Nat => i (m : Int) := by
      rw [show i (a : Int) = (l.map fun m : Nat => i (m : Int))[q]'(by simpa using hq) by simp [hqa]]
      exact List.set_getElem_self _
    have e2 : (l.map fun _ => PV.bool true).set q (PV.bool true) = l.map fun _ => PV.bool true := by
      rw [show (l.map fun _ : Nat => PV.bool true) = List.replicate l.length (PV.bool true) by simp [List.map_const'], List.set_replicate_self]
    simp only [e1, e2]; rfl
theorem map_eraseIdx' {α β : Type} (f : α → β) : ∀ (l : List α) (j : Nat), (l.map f).eraseIdx j = (l.eraseIdx j).map f
  | [], j => by simp
  | a :: r, 0 => by simp
  | a :: r, j + 1 => by simp [map_eraseIdx' f r j]
theorem ev_delU (l : List Nat) (a : Nat) : (Prim.mdel false [.i .i64]).ev [mpU l, i (a : Int)] = some (mpU (l.erase a)) := by
  show (match PV.kfind false [.i .i64] (i (a : Int)) (l.map fun m : Nat => i (m : Int)) with
      | some (some j) => some (PV.mp ((l.map fun m : Nat => i (m : Int)).eraseIdx j) ((l.map fun _ => PV.bool true).eraseIdx j))
      | some none => some (PV.mp (l.map fun m : Nat => i (m : Int)) (l.map fun _ => PV.bool true))
      | none => none) = _
  rw [kfN]
  cases h : idxN l a 0 with
  | none => rw [List.erase_of_not_mem ((idxN_none l a 0).1 h)]; rfl
  | some q =>
    obtain ⟨_, _, h3⟩ := idxN_some l a 0 q h
    simp only [Nat.sub_zero] at h3
    rw [← h3]
    simp only [map_eraseIdx']; rfl

noncomputable def usedT : Nat → List Ty → Ty → List Nat → List Nat
  | 0, _, _, l => l
  | m + 1, path, T, l => if (unfT T).kind ≤ 3 then l else
      match fnd path (unfT T) with
      | some j => insU l j
      | none => ((ordK (unfT T)).foldl (fun l k => usedT m (path ++ [unfT T]) k l) l).erase path.length
structure Used (pl : Nat) (l l' : List Nat) (us : ByteArray → Bool) : Prop where
  nd : l'.Nodup
  lt : ∀ j ∈ l', j < pl
  mem : ∀ j, j < pl → (j ∈ l' ↔ j ∈ l ∨ us (nmB j) = true)
theorem usB_node {u : Ty} (h : act u.kind = true) (s : ByteArray) (ts : List Ty) : usB s (nodeT u ts) = ts.any (usB s) := by
  have : ¬ u.kind = 9 := by
    simp only [act, decide_eq_true_eq] at h; omega
  rw [nodeT, usB_mk]; simp [this]
theorem usB_wrap (s : ByteArray) (m : Nat) (t : Ty) : usB s (wrapT m t) = usB s t := by
  unfold wrapT
  split
  · rw [usB_mk]; simp
  · rfl
theorem usedT_spec {L : List Ty} {M : Nat} (hM : M ≤ 549755813888) : ∀ (m : Nat) (path : List Ty) (T : Ty) (l : List Nat), CL L M T → POk L M path → L.length < path.length + m → l.Nodup → (∀ j ∈ l, j < path.length) →
    Used path.length l (usedT m path T l) fun s => usB s (nmT m path T) := by
  intro m
  induction m with
  | zero => intro path T l _ hp hm; have := hp.len; omega
  | succ m ih =>
  intro path T l hT hp hm hn hl
  have hS := hT.unf.2.1
  by_cases h3 : (unfT T).kind ≤ 3
  · rw [nmT_lit h3, usedT, if_pos h3]
    refine ⟨hn, hl, fun j hj => ?_⟩
    simp only [litT]
    rw [usB_mk]
    have : ¬ (unfT T).kind = 9 := by omega
    simp [this]
  have hact : act (unfT T).kind = true := by
    have := hS.k1
    simp only [act, decide_eq_true_eq]; omega
  cases hf : fnd path (unfT T) with
  | some j =>
    obtain ⟨hj, _⟩ := fnd_some hf
    rw [nmT_var h3 hf hj, usedT, if_neg h3, hf]
    have hus : ∀ q, usB (nmB q) (varT j (off path[j] (unfT T))) = decide (j = q) := fun q => by
      simp only [varT]
      rw [usB_mk]
      by_cases e : j = q
      · simp [e]
      · have : nmB j ≠ nmB q := fun c => e (nmB_inj c)
        simp [e, this]
    unfold insU
    refine ⟨?_, fun q hq => ?_, fun q hq => ?_⟩
    · simp only; split
      · exact hn
      · rename_i hno
        rw [List.nodup_append]
        exact ⟨hn, by simp, fun a ha b hb => by simp at hb; rintro rfl; exact hno (hb ▸ ha)⟩
    · simp only at hq; split at hq
      · exact hl q hq
      · rcases List.mem_append.1 hq with h | h
        · exact hl q h
        · rw [List.mem_singleton.1 h]; exact hj
    · simp only [hus]
      split
      · rename_i hjl
        constructor
        · exact fun h => .inl h
        · rintro (h | h)
          · exact h
          · rw [← of_decide_eq_true h]; exact hjl
      · simp only [List.mem_append, List.mem_singleton, decide_eq_true_eq]
        constructor <;> rintro (h | h) <;> first | exact .inl h | exact .inr h.symm
  | none =>
    rw [nmT_node h3 hf, usedT, if_neg h3, hf]
    simp only
    have hp2 := hp.snoc hT hact hf
    have hp2l : (path ++ [unfT T]).length = path.length + 1 := by simp
    have hK : ∀ k ∈ ordK (unfT T), CL L M k := fun k hk => hT.unf.2.2 k (ordK_mem hS hM hk)
    have key : ∀ (ks : List Ty) (l : List Nat), (∀ k ∈ ks, CL L M k) → l.Nodup → (∀ j ∈ l, j < path.length + 1) →
        Used (path.length + 1) l (ks.foldl (fun l k => usedT m (path ++ [unfT T]) k l) l) fun s => (ks.map (nmT m (path ++ [unfT T]))).any (usB s) := by
      intro ks
      induction ks with
      | nil => exact fun l _ h1 h2 => ⟨h1, h2, fun j hj => by simp⟩
      | cons k ks ihk =>
        intro l hc h1 h2
        have g := ih (path ++ [unfT T]) k l (hc k (by simp)) hp2 (by omega) h1 (by rw [hp2l]; exact h2)
        rw [hp2l] at g
        have g2 := ihk _ (fun k hk => hc k (by simp [hk])) g.nd g.lt
        refine ⟨g2.nd, g2.lt, fun j hj => ?_⟩
        rw [List.foldl_cons, g2.mem j hj, g.mem j hj]
        simp only [List.map_cons, List.any_cons, Bool.or_eq_true, or_assoc]
    have g := key (ordK (unfT T)) l hK hn fun j hj => by have := hl j hj; omega
    refine ⟨g.nd.erase _, fun j hj => ?_, fun j hj => ?_⟩
    · have h1 := g.lt j (List.mem_of_mem_erase hj)
      have h2 : j ≠ path.length := fun e => by subst e; exact g.nd.not_mem_erase hj
      omega
    · rw [usB_wrap, usB_node hact, List.mem_erase_of_ne (by omega), g.mem j (by omega)]
end Go.Proofs.YtopinhoalbgebaaGreatDoor.Tx

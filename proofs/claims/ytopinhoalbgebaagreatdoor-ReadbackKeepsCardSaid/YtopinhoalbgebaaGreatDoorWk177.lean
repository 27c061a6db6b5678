/- Contracts (Wk173, Wk174, Wk175, Wk176, Wk177). -/
import Derived.Test.YtopinhoalbgebaaGreatDoorWk172
import Derived.Test.YtopinhoalbgebaaGreatDoorWk122
set_option linter.all false
/- The normal tree (3): what the reference computes. -/
namespace Go.Proofs.YtopinhoalbgebaaGreatDoor.Tx
open Go.Lf Go.Lf.S Go.Lf.Duo
set_option maxRecDepth 100000

theorem shp_lm {M : Nat} {u : Ty} (h : Shp M u) : u.labels.length ≤ M ∧ u.kids.length ≤ M := by cases h.lm with | mk _ h1 h2 _ => exact ⟨h1, h2⟩
theorem ordK_len {M : Nat} {u : Ty} (hS : Shp M u) (hM : M ≤ 549755813888) : (ordK u).length = u.kids.length := by
  unfold ordK
  split
  · rfl
  · rename_i hne
    have := (shp_lm hS).1
    rw [List.length_map, (srt_spec hS.nd (by omega)).1]
    have := hS.nk
    have k1 := hS.k1
    by_cases c3 : u.kind ≤ 3
    · exact absurd (hS.k3 c3).2.1 hne
    · by_cases c5 : u.kind ≤ 5
      · exact absurd (hS.k5 ⟨by omega, c5⟩).2 hne
      · rw [this, if_neg c3, if_neg c5]
/-! numbers -/
theorem decS_size {m : Nat} (h : m < 100) : (decS m).size ≤ 2 := by
  show (Lib.decDigits m).toArray.size ≤ 2
  rw [List.size_toArray]
  by_cases c : m < 10
  · rw [Lib.decDigits_one c]; simp
  · rw [Lib.decDigits_two c h]; simp
theorem ev_name {m : Nat} (h : m < 100) : (Prim.cat).ev [.str ⟨#[114]⟩, .str (decS m)] = some (.str (nmB m)) := by
  have := decS_size h
  show (if 1 + (decS m).size ≤ maxLen then some (PV.str (⟨#[114]⟩ ++ decS m)) else none) = _
  rw [if_pos (by unfold maxLen; omega)]; rfl
/-! names in a tree -/
end Go.Proofs.YtopinhoalbgebaaGreatDoor.Tx

/- The normal tree (4): the reference computes nmT. -/
namespace Go.Proofs.YtopinhoalbgebaaGreatDoor.Tx
open Go.Lf Go.Lf.S Go.Lf.Duo
set_option maxRecDepth 100000

theorem takeMap1 {α β : Type} {f : α → β} {l : List α} {j : Nat} (h : j < l.length) : (l.take j).map f ++ [f l[j]] = (l.take (j + 1)).map f := by
  rw [List.take_succ_eq_append_getElem h, List.map_append]; rfl
theorem enc_node (u : Ty) (ts : List Ty) : (nodeT u ts).enc = .agg [i u.kind, i u.prio, .str ⟨#[]⟩, i 0, .sl ((srt u.labels).map .str), .sl (ts.map Ty.enc)] := by rw [nodeT, Ty.enc_mk]

end Go.Proofs.YtopinhoalbgebaaGreatDoor.Tx

/- The normal tree (5): what is used on the path. -/
namespace Go.Proofs.YtopinhoalbgebaaGreatDoor.Tx
open Go.Lf Go.Lf.S Go.Lf.Duo
set_option maxRecDepth 100000

/-! the set of used places -/
def mpU (l : List Nat) : PV := .mp (l.map fun m : Nat => i (m : Int)) (l.map fun _ => .bool true)
def idxN : List Nat → Nat → Nat → Option Nat
  | [], _, _ => none
  | k :: r, a, j => if a = k then some j else idxN r a (j + 1)
theorem kfN_go (a : Nat) : ∀ (l : List Nat) (j : Nat), PV.kfindGo false [.i .i64] (i (a : Int)) (l.map fun m : Nat => i (m : Int)) j = some (idxN l a j)
  | [], j => rfl
  | k :: r, j => by
    have h : PV.keq false [.i .i64] (i (a : Int)) (i (k : Int)) = some (decide (a = k)) := by
      have e : decide ((a : Int) = (k : Int)) = decide (a = k) := by
        by_cases c : a = k
        · simp [c]
        · simp [c]; omega
      by_cases c : a = k <;> simp [PV.keq, PV.okc, PV.cells, PV.isAg, PV.isCell, PV.sameK, PV.same1, c, e]
    simp only [List.map_cons, PV.kfindGo, h, idxN]
    by_cases e : a = k
    · simp [e]
    · simp only [e, decide_false, if_false]; exact kfN_go a r (j + 1)
theorem kfN (a : Nat) (l : List Nat) : PV.kfind false [.i .i64] (i (a : Int)) (l.map fun m : Nat => i (m : Int)) = some (idxN l a 0) := by
  unfold PV.kfind
  rw [if_pos (show (i (a : Int)).okc ([CK.i .i64] : List CK).length false = true from rfl)]; exact kfN_go a l 0
theorem idxN_none : ∀ (l : List Nat) (a j : Nat), idxN l a j = none ↔ a ∉ l
  | [], a, j => by simp [idxN]
  | k :: r, a, j => by
    unfold idxN
    split
    · rename_i h; simp [h]
    · rename_i h; rw [idxN_none r a (j + 1)]; simp [h]
theorem idxN_some : ∀ (l : List Nat) (a j q : Nat), idxN l a j = some q → j ≤ q ∧ l[q - j]? = some a ∧ l.eraseIdx (q - j) = l.erase a
  | [], a, j, q, h => by cases h
  | k :: r, a, j, q, h => by
    unfold idxN at h
    split at h
    · rename_i e
      cases h
      subst e
      simp
    · rename_i e
      obtain ⟨h1, h2, h3⟩ := idxN_some r a (j + 1) q h
      have hq : q - j = (q - (j + 1)) + 1 := by omega
      refine ⟨by omega, by rw [hq, List.getElem?_cons_succ]; exact h2, ?_⟩
      rw [hq, List.eraseIdx_cons_succ, h3, List.erase_cons_tail (by simpa using fun c => e c.symm)]
def insU (l : List Nat) (a : Nat) : List Nat := if a ∈ l then l else l ++ [a]
theorem ev_getU (l : List Nat) (a : Nat) : (Prim.mget false [.i .i64] (.bool false)).ev [mpU l, i (a : Int)] = some (.bool (decide (a ∈ l))) := by
  show (match PV.kfind false [.i .i64] (i (a : Int)) (l.map fun m : Nat => i (m : Int)) with
      | some (some i) => (l.map fun _ => PV.bool true)[i]?
      | some none => some (PV.bool false)
      | none => none) = _
  rw [kfN]
  cases h : idxN l a 0 with
  | none => simp [(idxN_none l a 0).1 h]
  | some q =>
    obtain ⟨_, h2, _⟩ := idxN_some l a 0 q h
    have hm : a ∈ l := List.mem_of_getElem? h2
    simp only [Nat.sub_zero] at h2
    simp [h2, hm]
theorem ev_setU (l : List Nat) (a : Nat) : (Prim.mset false [.i .i64]).ev [mpU l, i (a : Int), .bool true] = some (mpU (insU l a)) := by
  show (match PV.kfind false [.i .i64] (i (a : Int)) (l.map fun m : Nat => i (m : Int)) with
      | some (some j) => some (PV.mp ((l.map fun m : Nat => i (m : Int)).set j (i (a : Int))) ((l.map fun _ => PV.bool true).set j (PV.bool true)))
      | some none => some (PV.mp ((l.map fun m : Nat => i (m : Int)) ++ [i (a : Int)]) ((l.map fun _ => PV.bool true) ++ [PV.bool true]))
      | none => none) = _
  rw [kfN]
  unfold insU
  cases h : idxN l a 0 with
  | none => rw [if_neg ((idxN_none l a 0).1 h)]; simp [mpU]
  | some q =>
    obtain ⟨_, h2, _⟩ := idxN_some l a 0 q h
    rw [if_pos (List.mem_of_getElem? h2)]
    simp only [Nat.sub_zero] at h2
    obtain ⟨hq, hqa⟩ := List.getElem?_eq_some_iff.1 h2
    have e1 : (l.map fun m : Nat => i (m : Int)).set q (i (a : Int)) = l.map fun m : Nat => i (m : Int) := by
      rw [show i (a : Int) = (l.map fun m : Nat => i (m : Int))[q]'(by simpa using hq) by simp [hqa]]
      exact List.set_getElem_self _
    have e2 : (l.map fun _ => PV.bool true).set q (PV.bool true) = l.map fun _ => PV.bool true := by
      rw [show (l.map fun _ : Nat => PV.bool true) = List.replicate l.length (PV.bool true) by simp [List.map_const'], List.set_replicate_self]
    simp only [e1, e2]; rfl
theorem map_eraseIdx' {α β : Type} (f : α → β) : ∀ (l : List α) (j : Nat), (l.map f).eraseIdx j = (l.eraseIdx j).map f
  | [], j => by simp
  | a :: r, 0 => by simp
  | a :: r, j + 1 => by simp [map_eraseIdx' f r j]
theorem ev_delU (l : List Nat) (a : Nat) : (Prim.mdel false [.i .i64]).ev [mpU l, i (a : Int)] = some (mpU (l.erase a)) := by
  show (match PV.kfind false [.i .i64] (i (a : Int)) (l.map fun m : Nat => i (m : Int)) with
      | some (some j) => some (PV.mp ((l.map fun m : Nat => i (m : Int)).eraseIdx j) ((l.map fun _ => PV.bool true).eraseIdx j))
      | some none => some (PV.mp (l.map fun m : Nat => i (m : Int)) (l.map fun _ => PV.bool true))
      | none => none) = _
  rw [kfN]
  cases h : idxN l a 0 with
  | none => rw [List.erase_of_not_mem ((idxN_none l a 0).1 h)]; rfl
  | some q =>
    obtain ⟨_, _, h3⟩ := idxN_some l a 0 q h
    simp only [Nat.sub_zero] at h3
    rw [← h3]
    simp only [map_eraseIdx']; rfl

noncomputable def usedT : Nat → List Ty → Ty → List Nat → List Nat
  | 0, _, _, l => l
  | m + 1, path, T, l => if (unfT T).kind ≤ 3 then l else
      match fnd path (unfT T) with
      | some j => insU l j
      | none => ((ordK (unfT T)).foldl (fun l k => usedT m (path ++ [unfT T]) k l) l).erase path.length
structure Used (pl : Nat) (l l' : List Nat) (us : ByteArray → Bool) : Prop where
  nd : l'.Nodup
  lt : ∀ j ∈ l', j < pl
  mem : ∀ j, j < pl → (j ∈ l' ↔ j ∈ l ∨ us (nmB j) = true)
theorem usB_node {u : Ty} (h : act u.kind = true) (s : ByteArray) (ts : List Ty) : usB s (nodeT u ts) = ts.any (usB s) := by
  have : ¬ u.kind = 9 := by
    simp only [act, decide_eq_true_eq] at h; omega
  rw [nodeT, usB_mk]; simp [this]
theorem usB_wrap (s : ByteArray) (m : Nat) (t : Ty) : usB s (wrapT m t) = usB s t := by
  unfold wrapT
  split
  · rw [usB_mk]; simp
  · rfl
theorem usedT_spec {L : List Ty} {M : Nat} (hM : M ≤ 549755813888) : ∀ (m : Nat) (path : List Ty) (T : Ty) (l : List Nat), CL L M T → POk L M path → L.length < path.length + m → l.Nodup → (∀ j ∈ l, j < path.length) →
    Used path.length l (usedT m path T l) fun s => usB s (nmT m path T) := by
  intro m
  induction m with
  | zero => intro path T l _ hp hm; have := hp.len; omega
  | succ m ih =>
  intro path T l hT hp hm hn hl
  have hS := hT.unf.2.1
  by_cases h3 : (unfT T).kind ≤ 3
  · rw [nmT_lit h3, usedT, if_pos h3]
    refine ⟨hn, hl, fun j hj => ?_⟩
    simp only [litT]
    rw [usB_mk]
    have : ¬ (unfT T).kind = 9 := by omega
    simp [this]
  have hact : act (unfT T).kind = true := by
    have := hS.k1
    simp only [act, decide_eq_true_eq]; omega
  cases hf : fnd path (unfT T) with
  | some j =>
    obtain ⟨hj, _⟩ := fnd_some hf
    rw [nmT_var h3 hf hj, usedT, if_neg h3, hf]
    have hus : ∀ q, usB (nmB q) (varT j (off path[j] (unfT T))) = decide (j = q) := fun q => by
      simp only [varT]
      rw [usB_mk]
      by_cases e : j = q
      · simp [e]
      · have : nmB j ≠ nmB q := fun c => e (nmB_inj c)
        simp [e, this]
    unfold insU
    refine ⟨?_, fun q hq => ?_, fun q hq => ?_⟩
    · simp only; split
      · exact hn
      · rename_i hno
        rw [List.nodup_append]
        exact ⟨hn, by simp, fun a ha b hb => by simp at hb; rintro rfl; exact hno (hb ▸ ha)⟩
    · simp only at hq; split at hq
      · exact hl q hq
      · rcases List.mem_append.1 hq with h | h
        · exact hl q h
        · rw [List.mem_singleton.1 h]; exact hj
    · simp only [hus]
      split
      · rename_i hjl
        constructor
        · exact fun h => .inl h
        · rintro (h | h)
          · exact h
          · rw [← of_decide_eq_true h]; exact hjl
      · simp only [List.mem_append, List.mem_singleton, decide_eq_true_eq]
        constructor <;> rintro (h | h) <;> first | exact .inl h | exact .inr h.symm
  | none =>
    rw [nmT_node h3 hf, usedT, if_neg h3, hf]
    simp only
    have hp2 := hp.snoc hT hact hf
    have hp2l : (path ++ [unfT T]).length = path.length + 1 := by simp
    have hK : ∀ k ∈ ordK (unfT T), CL L M k := fun k hk => hT.unf.2.2 k (ordK_mem hS hM hk)
    have key : ∀ (ks : List Ty) (l : List Nat), (∀ k ∈ ks, CL L M k) → l.Nodup → (∀ j ∈ l, j < path.length + 1) →
        Used (path.length + 1) l (ks.foldl (fun l k => usedT m (path ++ [unfT T]) k l) l) fun s => (ks.map (nmT m (path ++ [unfT T]))).any (usB s) := by
      intro ks
      induction ks with
      | nil => exact fun l _ h1 h2 => ⟨h1, h2, fun j hj => by simp⟩
      | cons k ks ihk =>
        intro l hc h1 h2
        have g := ih (path ++ [unfT T]) k l (hc k (by simp)) hp2 (by omega) h1 (by rw [hp2l]; exact h2)
        rw [hp2l] at g
        have g2 := ihk _ (fun k hk => hc k (by simp [hk])) g.nd g.lt
        refine ⟨g2.nd, g2.lt, fun j hj => ?_⟩
        rw [List.foldl_cons, g2.mem j hj, g.mem j hj]
        simp only [List.map_cons, List.any_cons, Bool.or_eq_true, or_assoc]
    have g := key (ordK (unfT T)) l hK hn fun j hj => by have := hl j hj; omega
    refine ⟨g.nd.erase _, fun j hj => ?_, fun j hj => ?_⟩
    · have h1 := g.lt j (List.mem_of_mem_erase hj)
      have h2 : j ≠ path.length := fun e => by subst e; exact g.nd.not_mem_erase hj
      omega
    · rw [usB_wrap, usB_node hact, List.mem_erase_of_ne (by omega), g.mem j (by omega)]
end Go.Proofs.YtopinhoalbgebaaGreatDoor.Tx

/- The normal tree (6): what the reader computes. -/
namespace Go.Proofs.YtopinhoalbgebaaGreatDoor.Tx
open Go.Lf Go.Lf.S Go.Lf.Duo
set_option maxRecDepth 100000

theorem d_callvs {P : Program} {K : PV → Prop} {hs : List (List PV → Prop)} {f : Nat} {s : Sig} {xs : List PV} {k : List PV → T PV} {ys : List PV} (hl : ys.length = s.nout) (h : OkS P f s xs ys) (hk : (k ys).den0 P K hs) : (T.callvs (.fn f [] []) s xs k).den0 P K hs := ⟨ys, hl, ⟨f, rfl, h⟩, hk⟩
theorem ok_name {m : Nat} (h : m < 100) : Ok P F.readback_name [i (m : Int)] (.str (nmB m)) :=
  k_readback_name _ _ rfl (d_call (ok_Itoa m h) (d_l _ (ev_name h) fun _ => d_ret rfl))

/-! labels in order -/
theorem itsV_Values (ls : List ByteArray) (hl : ls.length ≤ 549755813888) : ItsV P (.fn F.slices_Values_string_string_1 [] [.box (.sl (ls.map .str))]) (ls.map fun s => [.str s]) := by
  refine ⟨_, _, rfl, fun X hX s0 s' hr => ?_⟩
  refine x_slices_Values_string_string_1 X hX [.nilI, .box (.sl (ls.map .str)), s0] _ _ ?_
  letI : Gl := { l := gl.l, x := X }
  refine d_l (.sl (ls.map .str)) rfl fun _ => d_l _ e_len fun _ => ?_
  refine den_loop (fun m ys => ∃ (j : Nat) (st : PV), j + m = ls.length ∧ X.runs ((ls.drop j).map fun s => [PV.str s]) st = some s' ∧ ys = [i j, st]) ls.length ⟨0, s0, by omega, hr, rfl⟩ ?_
  rintro m _ ⟨j, st, hj, hru, rfl⟩
  refine d_l _ rfl fun _ => d_dec (fun h => ?_) fun h => ?_
  · have h : (j : Int) < ((ls.map PV.str).length : Int) := h
    have hlt : j < ls.length := by simp at h; omega
    have he : (ls.map PV.str)[j]? = some (.str ls[j]) := by simp [hlt]
    rw [List.drop_eq_getElem_cons hlt, List.map_cons] at hru
    obtain ⟨b, s1, h1, h2, h3⟩ := runs_step hru
    refine d_l _ (e_idx he rfl) fun _ => d_yld h1 (d_l (.bool !b) rfl fun _ => d_ite (fun hb => ?_) fun hb => ?_)
    · have hb : b = false := by simpa using hb
      exact d_ret (by rw [h3 hb])
    · have hb : b = true := by simpa using hb
      exact d_l _ (e_inc (by omega)) fun _ => d_cont rfl ⟨m - 1, by omega, j + 1, s1, by omega, h2 hb, rfl⟩
  · have h : ¬ (j : Int) < ((ls.map PV.str).length : Int) := h
    simp at h
    rw [List.drop_eq_nil_of_le (by omega)] at hru
    exact d_ret (by rw [show st = s' from Option.some.inj hru]; rfl)
theorem okS_Collect_str (x : PV) (ls : List ByteArray) (h : ItsV P x (ls.map fun s => [.str s])) (hl : ls.length ≤ 549755813888) : OkS P F.slices_Collect_string sg_slices_Collect_string [x] [.sl (ls.map .str)] := by
  have h1 : OkS P F.slices_AppendSeq_string_string sg_slices_AppendSeq_string_string [x] [.sl (ls.map .str)] := by
    refine m_slices_AppendSeq_string_string _ _ ?_
    refine d_iter h (fun y hy => by obtain ⟨p, _, rfl⟩ := List.mem_map.1 hy; rfl) (fun j zs => zs = [.sl ((ls.take j).map .str)]) rfl ?_ ?_
    · rintro j y hy _ rfl
      simp only [List.getElem?_map, Option.map_eq_some_iff] at hy
      obtain ⟨p, hp, rfl⟩ := hy
      obtain ⟨hj, hp⟩ := List.getElem?_eq_some_iff.1 hp
      refine ⟨[.sl ((ls.take (j + 1)).map .str)], d_l (.sl [.str p]) (e_lst (by intro x hx; simp at hx; subst hx; rfl)) fun _ => d_l (.sl ((ls.take j).map .str ++ [.str p])) (e_app (l := (ls.take j).map .str) (m := [.str p]) (by intro x hx; simp at hx; subst hx; rfl) (by simp; omega) (by simp; omega)) fun _ => d_cont rfl ?_, rfl⟩
      rw [List.take_succ_eq_append_getElem hj, hp, List.map_append]; rfl
    · rintro zs hz
      rw [List.length_map, List.take_length] at hz
      subst hz
      exact d_ret rfl
  exact m_slices_Collect_string _ _ (d_calls rfl h1 (d_ret rfl))

theorem bl_mk (x y : List UInt8) : bl ⟨x.toArray⟩ ⟨y.toArray⟩ = true ↔ x < y := by
  rw [bl_iff, Lib.toList_data, Lib.toList_data]
theorem sorted_merge (zs : List (List UInt8)) : (zs.mergeSort fun x y => decide (x ≤ y)).Pairwise fun a b => a ≤ b := by
  have := List.pairwise_mergeSort (le := fun x y : List UInt8 => decide (x ≤ y)) (fun a b c h1 h2 => by
    simp only [decide_eq_true_eq] at *
    exact List.le_trans h1 h2) (fun a b => by
    simp only [Bool.or_eq_true, decide_eq_true_eq]
    exact List.le_total a b) zs
  exact this.imp fun h => by simpa using h
theorem ofB_mk (b : ByteArray) : (⟨(ofB b).toArray⟩ : ByteArray) = b := by unfold ofB; rfl
theorem ok_head_Labels {ds : List Nd} (a : Nat) (ha : a < ds.length) (s : Int) (hn : (ds[a]).labels.Nodup) (h0 : (ds[a]).labels ≠ []) (hl : (ds[a]).labels.length ≤ 549755813888) : Ok P F.head_Labels [.agg [.sl (ds.map Nd.enc)], ref a s] (.sl ((srt (ds[a]).labels).map .str)) := by
  generalize hls : (ds[a]).labels = ls at *
  have hV : Ok P F.slices_Values_string_string [.sl (ls.map .str)] (.fn F.slices_Values_string_string_1 [] [.box (.sl (ls.map .str))]) :=
    k_slices_Values_string_string _ _ rfl (d_l (.sl (ls.map .str)) rfl fun _ => d_ret rfl)
  have hC := okS_Collect_str _ ls (itsV_Values ls hl) hl
  have hzs : ls.map PV.str = (ls.map ofB).map strL := by rw [List.map_map]; exact List.map_congr_left fun b _ => (strL_ofB b).symm
  have hS := okS_SortS (ls.map ofB) (by simpa using h0) (by rw [List.length_map]; omega)
  have hsrt : ((ls.map ofB).mergeSort fun x y => decide (x ≤ y)).map strL = (srt ls).map .str := by
    obtain ⟨g1, g2, g3, _⟩ := srt_spec hn hl
    have hp := List.mergeSort_perm (ls.map ofB) fun x y => decide (x ≤ y)
    have e : ((ls.map ofB).mergeSort fun x y => decide (x ≤ y)).map (fun l => (⟨l.toArray⟩ : ByteArray)) = srt ls := by
      obtain ⟨o, _, o1, o2, o3⟩ := ok_Sorted ls hl
      rw [srt_eq hn o1 o2 o3]
      have pw1 : (((ls.map ofB).mergeSort fun x y => decide (x ≤ y)).map (fun l => (⟨l.toArray⟩ : ByteArray))).Pairwise fun a b => bl b a = false := by
        rw [List.pairwise_map]
        refine (sorted_merge _).imp fun {x y} h => ?_
        cases hb : bl ⟨y.toArray⟩ ⟨x.toArray⟩ with
        | false => rfl
        | true => exact absurd h (List.not_le.2 ((bl_mk y x).1 hb))
      have pw2 : o.Pairwise fun a b => bl b a = false := by
        rw [List.pairwise_iff_getElem]
        intro i j hi hj hij
        exact o3 i j _ _ hi hij (List.getElem?_eq_getElem hi) (List.getElem?_eq_getElem hj)
      refine List.Perm.eq_of_pairwise (le := fun a b => bl b a = false) (fun a b _ _ g1 g2 => bl_total g2 g1) pw1 pw2 ?_
      have q1 : (((ls.map ofB).mergeSort fun x y => decide (x ≤ y)).map (fun l => (⟨l.toArray⟩ : ByteArray))).Perm ls := by
        have := hp.map (fun l => (⟨l.toArray⟩ : ByteArray))
        rw [List.map_map, show ((fun l => (⟨l.toArray⟩ : ByteArray)) ∘ ofB) = id from funext ofB_mk, List.map_id] at this
        exact this
      refine q1.trans ?_
      rw [List.perm_ext_iff_of_nodup hn (o2.nodup hn)]
      exact fun s => (o2.mem s).symm
    rw [← e, List.map_map]
    exact List.map_congr_left fun l _ => rfl
  have hSo : Ok P F.slices_Sorted_string [.fn F.slices_Values_string_string_1 [] [.box (.sl (ls.map .str))]] (.sl ((srt ls).map .str)) := by
    rw [← hzs] at hS
    rw [hsrt] at hS
    exact k_slices_Sorted_string _ _ rfl (d_calls rfl hC (d_calls rfl hS (d_ret rfl)))
  have hidx : (Prim.idx 4 true).ev [.sl (ds.map Nd.enc), i (a : Int)] = some (ds[a]).enc := e_idx (nd_at ha) (Nd.okc_enc _)
  refine k_head_Labels _ _ rfl (d_l (.agg [.sl (ds.map Nd.enc)]) rfl fun _ => d_l (ref a s) rfl fun _ => d_l _ hidx fun _ => ?_)
  have hl2 : c 2 (ds[a]).enc = .sl (ls.map .str) := by rw [← hls]; rfl
  rw [hl2]
  exact d_call hV (d_call hSo (d_ret rfl))
end Go.Proofs.YtopinhoalbgebaaGreatDoor.Tx

/- The normal tree (7): the reader computes nmT. -/
namespace Go.Proofs.YtopinhoalbgebaaGreatDoor.Tx
open Go.Lf Go.Lf.S Go.Lf.Duo
set_option maxRecDepth 100000

def RTs (ds : List Nd) (rs : List Rf) (path : List Ty) : Prop := rs.length = path.length ∧ ∀ j (h1 : j < rs.length) (h2 : j < path.length), RT ds rs[j] path[j]
theorem RT.toU {ds : List Nd} {r : Rf} {T : Ty} (h : RT ds r T) : RT ds r (unfT T) := by
  have hU : Unf T (unfT T) := by
    obtain ⟨_, u, d, h1, _⟩ := h.step
    exact h1.to_unfT
  refine ⟨fun r T => Stp ds (RT ds) r T, ?_, fun r T h => h.mono fun r T h => h.step⟩
  obtain ⟨h0, u, d, h1, h2⟩ := h.step
  rw [unfT_eq h1]
  exact ⟨h0, u, d, unf_self h1, h2⟩
theorem RT.inG {ds : List Nd} {r : Rf} {T : Ty} (h : RT ds r T) : 0 ≤ r.node ∧ r.node < ds.length := by
  obtain ⟨h0, u, d, _, h2, _⟩ := h.step
  have := (List.getElem?_eq_some_iff.1 h2).1
  exact ⟨h0, by omega⟩
theorem RTs.snoc {ds : List Nd} {rs : List Rf} {path : List Ty} (h : RTs ds rs path) {x : Rf} {u : Ty} (hx : RT ds x u) : RTs ds (rs ++ [x]) (path ++ [u]) := by
  refine ⟨by simp [h.1], fun j h1 h2 => ?_⟩
  by_cases e : j < rs.length
  · rw [List.getElem_append_left e, List.getElem_append_left (by rw [← h.1]; exact e)]
    exact h.2 j e _
  · have hl := h.1
    have hj : j = rs.length := by rw [List.length_append, List.length_singleton] at h1; omega
    have e1 : (rs ++ [x])[j]? = some x := by rw [hj]; simp
    have e2 : (path ++ [u])[j]? = some u := by rw [hj, hl]; simp
    rw [List.getElem?_eq_getElem h1] at e1
    rw [List.getElem?_eq_getElem h2] at e2
    rw [Option.some.inj e1, Option.some.inj e2]; exact hx

theorem ok_head_Kind' (ds : List Nd) (a : Nat) (ha : a < ds.length) (s : Int) : Ok P F.head_Kind [.agg [.sl (ds.map Nd.enc)], ref a s] (i ds[a].kind) :=
  k_head_Kind _ _ rfl (d_l (.agg [.sl (ds.map Nd.enc)]) rfl fun _ => d_l (ref a s) rfl fun _ => d_l _ (e_idx (nd_at ha) (Nd.okc_enc _)) fun _ => d_ret rfl)
theorem ok_head_Label' {ds : List Nd} (hg : GrOk' ds) (a : Nat) (ha : a < ds.length) (s : Int) (lab : ByteArray) (hm : lab ∈ ds[a].labels) :
    ∃ (q : Nat) (u : Rf), ds[a].labels[q]? = some lab ∧ ds[a].next[q]? = some u ∧ Ok P F.head_Label [.agg [.sl (ds.map Nd.enc)], ref a s, .str lab] (.tup [ref u.node (ad u.shift s), .bool true]) := by
  have hno := hg.2 _ (List.getElem_mem ha)
  obtain ⟨r, hix, hat⟩ := ok_slices_Index_string_string ds[a].labels lab hno.ll
  rcases hat with ⟨rfl, hn⟩ | ⟨q, rfl, hq, _⟩
  · exact absurd hm hn
  · have hl : q < ds[a].labels.length := (List.getElem?_eq_some_iff.1 hq).1
    have hqn : q < ds[a].next.length := by
      have := hno.lab (by omega)
      omega
    exact ⟨q, ds[a].next[q], hq, List.getElem?_eq_getElem hqn, k_head_Label _ _ rfl (d_l (.agg [.sl (ds.map Nd.enc)]) rfl fun _ => d_l (ref a s) rfl fun _ => d_l _ (e_idx (nd_at ha) (Nd.okc_enc _)) fun _ => d_call hix (d_call (ok_head_Next ds a ha s q hqn) (d_l (ref ds[a].next[q].node (ad ds[a].next[q].shift s)) rfl fun _ => d_l (.bool true) rfl fun _ => d_l (ref ds[a].next[q].node (ad ds[a].next[q].shift s)) rfl fun _ => d_ret rfl)))⟩

noncomputable def fndV (path : List Ty) (u : Ty) : PV := match fnd path u with
  | some j => .tup [i (j : Int), i (off (path.getD j u) u), .bool true]
  | none => .tup [i 0, i 0, .bool false]
theorem ok_find {ds : List Nd} (hg : GrOk' ds) {L : List Ty} {M : Nat} {path : List Ty} (hp : POk L M path) {rs : List Rf} (hr : RTs ds rs path) (hrl : rs.length ≤ 549755813888) {x : Rf} {u : Ty} (hu : CL L M u) (huu : unfT u = u) (ha : act u.kind = true) (hx : RT ds x u) (l : List Nat) :
    Ok P F.readback_reader_find [.box (.agg [.sl (ds.map Nd.enc), .sl (rs.map Rf.enc), mpU l]), x.enc] (fndV path u) := by
  obtain ⟨hlen, hrt⟩ := hr
  have hxg := hx.inG
  refine k_readback_reader_find _ _ rfl (d_l x.enc rfl fun _ => d_l (.box (.agg [.sl (ds.map Nd.enc), .sl (rs.map Rf.enc), mpU l])) rfl fun _ => d_l (.agg [.sl (ds.map Nd.enc), .sl (rs.map Rf.enc), mpU l]) rfl fun _ => d_l (i (rs.length : Int)) (by show Prim.len.ev [.sl (rs.map Rf.enc)] = _; rw [e_len, List.length_map]) fun _ => ?_)
  refine den_loop (fun m' ys => ∃ j : Nat, j + m' = rs.length ∧ (∀ q (hq : q < path.length), q < j → ¬ Hit path[q] u) ∧ ys = [i j]) rs.length ⟨0, by omega, (fun q _ h => by omega), rfl⟩ ?_
  rintro m' _ ⟨j, hj, ht, rfl⟩
  refine d_l (.bool (decide ((j : Int) < (rs.length : Int)))) rfl fun _ => d_dec (p := (j : Int) < (rs.length : Int)) (fun h => ?_) fun h => d_ret ?_
  · have h1 : j < rs.length := by omega
    have h2 : j < path.length := by omega
    have hmem := List.getElem_mem h2
    have cp := hp.cl _ hmem
    have up := hp.un _ hmem
    have rp := hrt j h1 h2
    have rg := rp.inG
    have hd : off path[j] u = IntKind.i64.wrap (pv (Tx.pr ds x) - pv (Tx.pr ds rs[j])) := by
      rw [show pv (Tx.pr ds x) = pz (unfT u) from pv_rt (a := x.node) (s := x.shift) hx, show pv (Tx.pr ds rs[j]) = pz (unfT path[j]) from pv_rt (a := (rs[j]).node) (s := (rs[j]).shift) rp, huu, up, pz_act ha]; rfl
    obtain ⟨b, oO, hb⟩ := ok_Offset hg (r := rs[j]) (r' := x) rg.1 rg.2 hxg.1 hxg.2 hd
    have rp' : RT ds ⟨(rs[j]).node, (rs[j]).shift⟩ path[j] := rp
    have hb : b = true ↔ Hit path[j] u := by
      rw [hb]
      exact (eqP_eqv (cp.raise _) hu (rp'.raise (off path[j] u)) (show RT ds ⟨x.node, x.shift⟩ u from hx)).symm
    have hat : (rs.map Rf.enc)[j]? = some (rs[j]).enc := by simp [h1]
    refine d_l _ (e_idx hat rfl) fun _ => d_l (rs[j]).enc rfl fun _ => d_l (.box (.agg [.sl (ds.map Nd.enc), .sl (rs.map Rf.enc), mpU l])) rfl fun _ => d_l (.agg [.sl (ds.map Nd.enc), .sl (rs.map Rf.enc), mpU l]) rfl fun _ => d_call oO (d_l (i (if b then off path[j] u else 0)) rfl fun _ => d_l (.bool b) rfl fun _ => d_ite (fun hbt => d_ret ?_) fun hbf => d_l _ (e_inc (by omega)) fun _ => d_cont rfl ⟨m' - 1, by omega, j + 1, by omega, fun q hq hqj => ?_, rfl⟩)
    · subst hbt
      unfold fndV
      rw [fnd_of h2 (hb.1 rfl) fun q hq => ht q (by omega) hq]
      simp only [List.getD_eq_getElem?_getD, List.getElem?_eq_getElem h2, Option.getD_some, if_true]; rfl
    · by_cases e : q = j
      · subst e
        exact fun c => by rw [hb.2 c] at hbf; cases hbf
      · exact ht q hq (by omega)
  · unfold fndV
    rw [fnd_of_none fun q hq => ht q hq (by omega)]

/-- the text of tree, from the path on -/
def treeTx (x g rs mp : PV) (R : PV → PV → PV → PV → PV) : T PV :=
.l (.okc 2 true) [x] fun x0 =>
.call F.head_Prio [(.agg [g]), x0] fun x1 =>
.l (.tc 0) [x1] fun x2 =>
.l (.tc 1) [x1] fun x3 =>
.l .bnot [x3] fun x4 =>
.ite x4 (
 .call F.head_Kind [(.agg [g]), x0] fun x5 =>
 .l (.okcs [(1, false)]) [x5] fun x6 =>
 .ret (R (.agg [x5, (i 0), (.str ⟨#[]⟩), (i 0), (.sl []), (.sl [])]) g rs mp)) (
 .call F.readback_reader_find [(.box (.agg [g, rs, mp])), x0] fun x5 =>
 .l .gnd [x5] fun x6 =>
 .l (.tc 0) [x6] fun x7 =>
 .l (.tc 1) [x6] fun x8 =>
 .l (.tc 2) [x6] fun x9 =>
 .ite x9 (
  .l (.mset false [.i .i64]) [mp, x7, (.bool true)] fun x10 =>
  .call F.readback_name [x7] fun x11 =>
  .l (.okcs [(1, false), (1, false)]) [x11, x8] fun x12 =>
  .ret (R (.agg [(i 9), (i 0), x11, x8, (.sl []), (.sl [])]) g rs x10)) (
  .l .len [rs] fun x10 =>
  .l (.lst 2 true) [x0] fun x11 =>
  .l (.app 2 true 16) [rs, x11] fun x12 =>
  .l (.idx 4 true) [g, (c 0 x0)] fun x13 =>
  .l .len [(c 2 x13)] fun x14 =>
  .l (.cmp .gtr .i64) [x14, (i 0)] fun x15 =>
  .ite x15 (
   .callvs (.fn F.readback_reader_choice [] []) sg_readback_reader_tree [x0, g, x12, mp] fun z16 =>
   .l (.okc 6 true) [(n z16 0)] fun x17 =>
   .call F.head_Kind [(.agg [(n z16 1)]), x0] fun x18 =>
   .l (.okc 1 false) [x18] fun x19 =>
   .l (.okc 1 false) [x2] fun x20 =>
   .l (.slcT 2 true) [(n z16 2), x10] fun x21 =>
   .l (.mget false [.i .i64] (.bool false)) [(n z16 3), x10] fun x22 =>
   .ite x22 (
    .l (.mdel false [.i .i64]) [(n z16 3), x10] fun x23 =>
    .call F.readback_name [x10] fun x24 =>
    .l (.lst 6 true) [(.agg [x19, x20, (c 2 x17), (c 3 x17), (c 4 x17), (c 5 x17)])] fun x25 =>
    .l (.okcs [(1, false)]) [x24] fun x26 =>
    .ret (R (.agg [(i 8), (i 0), x24, (i 0), (.sl []), x25]) (n z16 1) x21 x23)) (
    .ret (R (.agg [x19, x20, (c 2 x17), (c 3 x17), (c 4 x17), (c 5 x17)]) (n z16 1) x21 (n z16 3)))) (
   .callvs (.fn F.readback_reader_plain [] []) sg_readback_reader_tree [x0, g, x12, mp] fun z16 =>
   .l (.okc 6 true) [(n z16 0)] fun x17 =>
   .call F.head_Kind [(.agg [(n z16 1)]), x0] fun x18 =>
   .l (.okc 1 false) [x18] fun x19 =>
   .l (.okc 1 false) [x2] fun x20 =>
   .l (.slcT 2 true) [(n z16 2), x10] fun x21 =>
   .l (.mget false [.i .i64] (.bool false)) [(n z16 3), x10] fun x22 =>
   .ite x22 (
    .l (.mdel false [.i .i64]) [(n z16 3), x10] fun x23 =>
    .call F.readback_name [x10] fun x24 =>
    .l (.lst 6 true) [(.agg [x19, x20, (c 2 x17), (c 3 x17), (c 4 x17), (c 5 x17)])] fun x25 =>
    .l (.okcs [(1, false)]) [x24] fun x26 =>
    .ret (R (.agg [(i 8), (i 0), x24, (i 0), (.sl []), x25]) (n z16 1) x21 x23)) (
    .ret (R (.agg [x19, x20, (c 2 x17), (c 3 x17), (c 4 x17), (c 5 x17)]) (n z16 1) x21 (n z16 3))))))
theorem u_tree_eq (x g rs mp : PV) : u_readback_reader_tree [x, g, rs, mp] = treeTx x g rs mp (fun t g r m => .tup [t, g, r, m]) := rfl
theorem u_treeN_eq (x g mp : PV) : u_readback_reader_tree_Nil [x, g, mp] = treeTx x g (.sl []) mp (fun t _ _ _ => .tup [t]) := rfl
end Go.Proofs.YtopinhoalbgebaaGreatDoor.Tx

/- Contracts: contexts: index, Find, Set. -/
import Derived.Test.YtlemfbmaineigaaWk30
set_option linter.all false
namespace Go.Proofs.Ytlemfbmaineigaa.Tx
open Go.Lf Go.Lf.S Go.Lf.Duo
set_option maxRecDepth 100000

/-- the first entry with a name -/
def ixf : List En → ByteArray → Option Nat
  | [], _ => none
  | e :: es, s => if e.name = s then some 0 else (ixf es s).map (· + 1)

theorem ixf_some : ∀ {es : List En} {s : ByteArray} {k : Nat}, ixf es s = some k → ∃ h : k < es.length, es[k].name = s ∧ ∀ q (hq : q < es.length), q < k → es[q].name ≠ s
  | [], _, _, h => by cases h
  | e :: es, s, k, h => by
    unfold ixf at h
    split at h
    · rename_i he; cases h
      exact ⟨by simp, he, fun q hq hk => by omega⟩
    · rename_i he
      rw [Option.map_eq_some_iff] at h
      obtain ⟨k', h1, rfl⟩ := h
      obtain ⟨h2, h3, h4⟩ := ixf_some h1
      refine ⟨by simp; omega, by simpa using h3, fun q hq hk => ?_⟩
      cases q with
      | zero => exact he
      | succ q => simpa using h4 q (by simp at hq; omega) (by omega)
theorem ixf_none : ∀ {es : List En} {s : ByteArray}, ixf es s = none → ∀ e ∈ es, e.name ≠ s
  | [], _, _ => fun _ h => by cases h
  | e :: es, s, h => by
    unfold ixf at h
    split at h
    · cases h
    · rename_i he
      rw [Option.map_eq_none_iff] at h
      intro e' hm
      rcases List.mem_cons.1 hm with rfl | hm
      · exact he
      · exact ixf_none h e' hm
theorem ixf_drop {es : List En} {s : ByteArray} {j : Nat} (hj : j < es.length) (hne : es[j].name ≠ s) : (ixf (es.drop j) s).map (· + j) = (ixf (es.drop (j + 1)) s).map (· + (j + 1)) := by
  rw [drop_at hj, ixf, if_neg hne, Option.map_map]
  congr 1; funext x; show x + 1 + j = _; omega
theorem ixf_drop_at {es : List En} {s : ByteArray} {j : Nat} (hj : j < es.length) (he : es[j].name = s) : (ixf (es.drop j) s).map (· + j) = some j := by
  rw [drop_at hj, ixf, if_pos he]; simp
theorem ixf_drop_nil {es : List En} {s : ByteArray} {j : Nat} (hj : es.length ≤ j) : (ixf (es.drop j) s).map (· + j) = none := by
  rw [List.drop_eq_nil_of_le hj]; rfl
theorem ixf_drop0 {es : List En} {s : ByteArray} : (ixf (es.drop 0) s).map (· + 0) = ixf es s := by simp

def ixr (o : Option Nat) : Int := match o with | some k => (k : Int) | none => -1

theorem ok_context_index_1 (e : En) (s : ByteArray) : Ok P F.context_index_1 [e.enc, .box (.str s)] (.bool (decide (e.name = s))) :=
  k_context_index_1 _ _ rfl (d_l _ (e_okc (En.okc_enc e)) fun _ => d_l (.str s) rfl fun _ => d_l _ rfl fun _ => d_ret rfl)

theorem ok_slices_IndexFunc (es : List En) (s : ByteArray) (hl : es.length ≤ 549755813888) : Ok P F.slices_IndexFunc_context_Entry_context_Entry [.sl (es.map En.enc), .fn F.context_index_1 [] [.box (.str s)]] (i (ixr (ixf es s))) := by
  refine k_slices_IndexFunc_context_Entry_context_Entry _ _ rfl (d_l _ e_len fun _ => ?_)
  refine den_loop (fun m ys => ∃ j : Nat, j + m = es.length ∧ (ixf (es.drop j) s).map (· + j) = ixf es s ∧ ys = [i j]) es.length ⟨0, by omega, ixf_drop0, rfl⟩ ?_
  rintro m _ ⟨j, hj, hx, rfl⟩
  refine d_l _ rfl fun _ => d_dec (fun h => ?_) fun h => ?_
  · have h : (j : Int) < ((es.map En.enc).length : Int) := h
    have hlt : j < es.length := by simp at h; omega
    refine d_l _ (e_idx (en_at hlt) (En.okc_enc _)) fun _ => d_callv (fs := []) (cs := [.box (.str s)]) (ok_context_index_1 es[j] s) (d_dec (fun he => ?_) fun he => ?_)
    · rw [ixf_drop_at hlt he] at hx
      exact d_ret (by rw [← hx]; rfl)
    · rw [ixf_drop hlt he] at hx
      exact d_l _ (e_inc (by omega)) fun _ => d_cont rfl ⟨m - 1, by omega, j + 1, by omega, hx, rfl⟩
  · have h : ¬ (j : Int) < ((es.map En.enc).length : Int) := h
    simp at h
    rw [ixf_drop_nil h] at hx
    exact d_ret (by rw [← hx]; rfl)

theorem ok_context_index (es : List En) (s : ByteArray) (hl : es.length ≤ 549755813888) : Ok P F.context_index [.sl (es.map En.enc), .str s] (i (ixr (ixf es s))) :=
  k_context_index _ _ rfl (d_l _ rfl fun _ => d_call (ok_slices_IndexFunc es s hl) (d_ret rfl))

/-- what a name has -/
def findE (es : List En) (s : ByteArray) : Option Rf := (ixf es s).bind fun k => es[k]?.map En.r
def fndr (o : Option Rf) : PV := match o with | some r => .tup [r.enc, .bool true] | none => .tup [.agg [i 0, i 0], .bool false]
theorem findE_some {es : List En} {s : ByteArray} {k : Nat} (h : ixf es s = some k) (hk : k < es.length) : findE es s = some es[k].r := by
  unfold findE; rw [h]; simp [hk]
theorem findE_none {es : List En} {s : ByteArray} (h : ixf es s = none) : findE es s = none := by
  unfold findE; rw [h]; rfl

theorem ok_context_Find (es : List En) (s : ByteArray) (hl : es.length ≤ 549755813888) : Ok P F.context_Find [.sl (es.map En.enc), .str s] (fndr (findE es s)) := by
  refine k_context_Find _ _ rfl (d_call (ok_context_index es s hl) ?_)
  cases hx : ixf es s with
  | none =>
    refine d_l (.bool true) rfl fun _ => d_true (d_ret ?_)
    rw [findE_none hx]; rfl
  | some k =>
    obtain ⟨hk, _, _⟩ := ixf_some hx
    refine d_l _ rfl fun _ => d_dec (fun h => ?_) fun _ => d_l _ (e_idx (en_at hk) (En.okc_enc _)) fun _ => d_l (es[k].r.enc) rfl fun _ => d_ret ?_
    · have h : (k : Int) < 0 := h
      omega
    · rw [findE_some hx hk]; rfl

theorem ok_law13_find (es : List En) (s : ByteArray) (hl : es.length ≤ 549755813888) : Ok P F.law13_find [.sl (es.map En.enc), .str s] (fndr (findE es s)) := by
  refine k_law13_find _ _ rfl ?_
  refine den_loop (fun m ys => ∃ j : Nat, j + m = es.length ∧ (ixf (es.drop j) s).map (· + j) = ixf es s ∧ ys = [i j]) es.length ⟨0, by omega, ixf_drop0, rfl⟩ ?_
  rintro m _ ⟨j, hj, hx, rfl⟩
  refine d_l _ e_len fun _ => d_l _ rfl fun _ => d_dec (fun h => ?_) fun h => ?_
  · have h : (j : Int) < ((es.map En.enc).length : Int) := h
    have hlt : j < es.length := by simp at h; omega
    refine d_l _ (e_idx (en_at hlt) (En.okc_enc _)) fun _ => d_l (.bool (decide (es[j].name = s))) rfl fun _ => d_dec (fun he => ?_) fun he => ?_
    · rw [ixf_drop_at hlt he] at hx
      refine d_l _ (e_idx (en_at hlt) (En.okc_enc _)) fun _ => d_l (es[j].r.enc) rfl fun _ => d_ret ?_
      rw [findE_some hx.symm hlt]; rfl
    · rw [ixf_drop hlt he] at hx
      exact d_l _ (e_inc (by omega)) fun _ => d_cont rfl ⟨m - 1, by omega, j + 1, by omega, hx, rfl⟩
  · have h : ¬ (j : Int) < ((es.map En.enc).length : Int) := h
    simp at h
    rw [ixf_drop_nil h] at hx
    refine d_ret ?_
    rw [findE_none hx.symm]; rfl

/-- a name has a reference -/
def setE (es : List En) (s : ByteArray) (r : Rf) : List En := match ixf es s with
  | some k => es.set k ⟨s, r⟩
  | none => es ++ [⟨s, r⟩]

theorem ok_slices_Clone_En (es : List En) (hl : es.length ≤ 549755813888) : OkS P F.slices_Clone_context_Entry_context_Entry sg_slices_Clone_context_Entry_context_Entry [.sl (es.map En.enc)] [.sl (es.map En.enc)] := by
  refine m_slices_Clone_context_Entry_context_Entry _ _ (d_nilq (fun h => d_ret ?_) (d_l (.sl []) rfl fun _ => d_l _ (e_app (all_map En.okc_enc es) (by simp; omega) (by simp; omega)) fun _ => d_ret ?_))
  · rw [h]
  · rw [List.nil_append]

theorem e_updF_en {es : List En} {k : Nat} (hk : k < es.length) (r : Rf) : (Prim.updF 3 1 2 true).ev [.sl (es.map En.enc), i (k : Int), r.enc] = some (.sl ((es.set k ⟨es[k].name, r⟩).map En.enc)) := by
  show (if (0 : Int) ≤ (k : Int) ∧ (k : Int) < ((es.map En.enc).length : Int) ∧ 1 + 2 ≤ 3 ∧ r.enc.okc 2 true then match (es.map En.enc)[(k : Int).toNat]? with
      | some e => if e.okc 3 true then some (PV.sl ((es.map En.enc).set (k : Int).toNat (.agg (e.cells.take 1 ++ r.enc.cells ++ e.cells.drop (1 + 2))))) else none
      | none => none else none) = _
  rw [if_pos ⟨by omega, by simp; omega, by omega, rfl⟩, Int.toNat_natCast, en_at hk, List.map_set]
  rfl

theorem ok_context_Set (es : List En) (s : ByteArray) (r : Rf) (hl : es.length ≤ 549755813888) : Ok P F.context_Set [.sl (es.map En.enc), .str s, r.enc] (.sl ((setE es s r).map En.enc)) := by
  refine k_context_Set _ _ rfl (d_l _ (e_okc (Rf.okc_enc r)) fun _ => d_calls rfl (ok_slices_Clone_En es hl) (d_call (ok_context_index es s hl) ?_))
  unfold setE
  cases hx : ixf es s with
  | none =>
    refine d_l (.bool false) rfl fun _ => d_false (d_l .nilI rfl fun _ => d_l (.sl [(⟨s, r⟩ : En).enc]) rfl fun _ => d_l _ (e_app (by intro x hx; simp at hx; subst hx; rfl) (by simp; omega) (by simp; omega)) fun _ => d_ret ?_)
    rw [List.map_append]; rfl
  | some k =>
    obtain ⟨hk, he, _⟩ := ixf_some hx
    refine d_l _ rfl fun _ => d_dec (fun _ => ?_) fun h => ?_
    · refine d_l _ (e_idx (en_at hk) (En.okc_enc _)) fun _ => d_l _ (e_updF_en hk r) fun _ => d_ret ?_
      simp only [he]
    · have h : ¬ (k : Int) ≥ 0 := h
      omega

/-! what setting does -/
theorem setE_length (es : List En) (s : ByteArray) (r : Rf) : (setE es s r).length = match ixf es s with | some _ => es.length | none => es.length + 1 := by
  unfold setE
  cases ixf es s <;> simp
theorem setE_at {es : List En} {s : ByteArray} {r : Rf} {j : Nat} (hj : j < es.length) : (setE es s r)[j]? = some (if ixf es s = some j then ⟨es[j].name, r⟩ else es[j]) := by
  unfold setE
  cases hx : ixf es s with
  | none => simp [List.getElem?_append_left hj, hj]
  | some k =>
    obtain ⟨hk, he, _⟩ := ixf_some hx
    by_cases hkj : k = j
    · subst hkj; simp [hk, he]
    · simp [List.getElem?_set_ne hkj, hj, hkj]
theorem setE_last {es : List En} {s : ByteArray} {r : Rf} (h : ixf es s = none) : (setE es s r)[es.length]? = some ⟨s, r⟩ := by
  unfold setE; rw [h]; simp
theorem ixf_of {es : List En} {s : ByteArray} {k : Nat} (hk : k < es.length) (he : es[k].name = s) (hl : ∀ q (hq : q < es.length), q < k → es[q].name ≠ s) : ixf es s = some k := by
  cases hx : ixf es s with
  | none => exact absurd he (ixf_none hx _ (List.getElem_mem hk))
  | some k' =>
    obtain ⟨h1, h2, h3⟩ := ixf_some hx
    rcases Nat.lt_trichotomy k' k with h | h | h
    · exact absurd h2 (hl k' h1 h)
    · rw [h]
    · exact absurd he (h3 k hk h)
theorem findE_set (es : List En) (s : ByteArray) (r : Rf) : findE (setE es s r) s = some r := by
  have hlen := setE_length es s r
  cases hx : ixf es s with
  | none =>
    rw [hx] at hlen
    have hlen : (setE es s r).length = es.length + 1 := hlen
    have hl := setE_last (r := r) hx
    have hk : es.length < (setE es s r).length := by omega
    have hat : (setE es s r)[es.length] = ⟨s, r⟩ := by
      rw [List.getElem?_eq_getElem hk] at hl; exact Option.some.inj hl
    rw [findE_some (ixf_of hk (by rw [hat]) fun q hq hlt => ?_) hk, hat]
    have := setE_at (s := s) (r := r) hlt
    rw [List.getElem?_eq_getElem hq, hx, if_neg (by simp)] at this
    rw [Option.some.inj this]
    exact ixf_none hx _ (List.getElem_mem hlt)
  | some k =>
    rw [hx] at hlen
    have hlen : (setE es s r).length = es.length := hlen
    obtain ⟨hk, he, hno⟩ := ixf_some hx
    have hk' : k < (setE es s r).length := by omega
    have hat : (setE es s r)[k] = ⟨s, r⟩ := by
      have := setE_at (s := s) (r := r) hk
      rw [List.getElem?_eq_getElem hk', hx, if_pos rfl, he] at this
      exact Option.some.inj this
    rw [findE_some (ixf_of hk' (by rw [hat]) fun q hq hlt => ?_) hk', hat]
    have hq' : q < es.length := by omega
    have := setE_at (s := s) (r := r) hq'
    rw [List.getElem?_eq_getElem hq, hx, if_neg (by simp; omega)] at this
    rw [Option.some.inj this]
    exact hno q hq' hlt

end Go.Proofs.Ytlemfbmaineigaa.Tx

/- The law about setting a name. -/
import Derived.Test.YtlemfbmaineigaaDAwake13
set_option linter.all false
namespace Go.Proofs.Ytlemfbmaineigaa.Tx
open Go.Lf Go.Lf.S Go.Lf.Duo
set_option maxRecDepth 100000

theorem en_same (e : En) : (Prim.acmp .neq [.s, .i .i64, .i .i64]).ev [e.enc, e.enc] = some (.bool false) := by
  simp [Prim.ev, En.enc, PV.sameK, PV.same1]
theorem en_eq (e : En) : (Prim.acmp .eql [.s, .i .i64, .i .i64]).ev [e.enc, e.enc] = some (.bool true) := by
  simp [Prim.ev, En.enc, PV.sameK, PV.same1]
theorem rf_ne (r : Rf) : (Prim.acmp .neq [.i .i64, .i .i64]).ev [r.enc, r.enc] = some (.bool false) := by
  simp [Prim.ev, Rf.enc, PV.sameK, PV.same1]
theorem rf_eq (r : Rf) : (Prim.acmp .eql [.i .i64, .i .i64]).ev [r.enc, r.enc] = some (.bool true) := by
  simp [Prim.ev, Rf.enc, PV.sameK, PV.same1]
theorem st_ne (s : ByteArray) : (Prim.scmp .neq).ev [.str s, .str s] = some (.bool false) := by
  show some (PV.bool (!decide (s = s))) = _
  simp

/-- the name has been set -/
def setAt (es : List En) (s : ByteArray) (j : Nat) : Bool := match ixf es s with | some k => decide (k < j) | none => false

theorem setE_le (es : List En) (s : ByteArray) (r : Rf) : (setE es s r).length ≤ es.length + 1 := by
  unfold setE
  cases ixf es s <;> simp
theorem set0 {es : List En} {s : ByteArray} : setAt es s 0 = false := by unfold setAt; split <;> simp
theorem set_now {es : List En} {s : ByteArray} {j : Nat} (hlt : j < es.length) (he : es[j].name = s) (h : setAt es s j = false) : ixf es s = some j := by
  unfold setAt at h
  cases hx : ixf es s with
  | none => exact absurd he (ixf_none hx _ (List.getElem_mem hlt))
  | some k =>
    rw [hx] at h
    have h : ¬ k < j := by simpa using h
    obtain ⟨h1, h2, h3⟩ := ixf_some hx
    rcases Nat.lt_or_ge j k with hjk | hjk
    · exact absurd he (h3 j hlt hjk)
    · congr 1; omega
theorem set_self {es : List En} {s : ByteArray} {j : Nat} (h : ixf es s = some j) : setAt es s (j + 1) = true := by
  unfold setAt; rw [h]; simp
theorem set_past {es : List En} {s : ByteArray} {j : Nat} (h : setAt es s j = true) : ixf es s ≠ some j := by
  intro he
  unfold setAt at h
  rw [he] at h
  simp at h
theorem set_next {es : List En} {s : ByteArray} {j : Nat} (h : ixf es s ≠ some j) : setAt es s (j + 1) = setAt es s j := by
  unfold setAt
  cases hx : ixf es s with
  | none => rfl
  | some k =>
    have : k ≠ j := fun e => h (by rw [hx, e])
    simp; omega
theorem set_other {es : List En} {s : ByteArray} {j : Nat} (hlt : j < es.length) (he : ¬ es[j].name = s) : ixf es s ≠ some j := by
  intro hx
  obtain ⟨_, h2, _⟩ := ixf_some hx
  exact he h2

theorem ok_law13_ContextSets (es : List En) (s : ByteArray) (r : Rf) (hl0 : es.length ≤ maxLen) : Ok P F.law13_ContextSets [.sl (es.map En.enc), .str s, r.enc] (.bool true) := by
  refine k_law13_ContextSets _ _ rfl (d_l _ (e_okc (Rf.okc_enc r)) fun _ => d_call awake13 (d_l (.bool false) rfl fun _ => d_false (d_l _ e_len fun _ => d_l _ rfl fun _ => d_dec (fun _ => d_call awake13 (d_ret rfl)) fun h => ?_)))
  have h : ¬ ((es.map En.enc).length : Int) > 100 := h
  simp at h
  have hl : es.length ≤ 549755813888 := by omega
  refine d_l (.sl []) rfl fun _ => d_l (.sl (es.map En.enc)) (by show (Prim.app 3 true 32).ev [.sl [], .sl (es.map En.enc)] = _; rw [e_app (all_map En.okc_enc es) (by simp; omega) (by simp; omega)]; rfl) fun _ => d_call (ok_context_Set es s r hl) (d_call (ok_law13_find es s hl) ?_)
  have hA : ∀ j (h : j < es.length), ∃ e', (setE es s r)[j]? = some e' ∧ e'.name = es[j].name ∧ (ixf es s = some j → e'.r = r) ∧ (ixf es s ≠ some j → e' = es[j]) := by
    intro j hj
    refine ⟨_, setE_at hj, ?_, fun h => by rw [if_pos h], fun h => by rw [if_neg h]⟩
    split <;> rfl
  have hlen := setE_length es s r
  have hF0 := ok_context_Find (setE es s r) s (by have := setE_le es s r; omega)
  have hF : Ok P F.context_Find [.sl ((setE es s r).map En.enc), .str s] (.tup [r.enc, .bool true]) := by rw [findE_set] at hF0; exact hF0
  cases hx : ixf es s with
  | some k =>
    obtain ⟨hk, he, _⟩ := ixf_some hx
    rw [hx] at hlen
    have hlen : (setE es s r).length = es.length := hlen
    rw [findE_some hx hk]
    refine d_l (es[k].r.enc) rfl fun _ => d_l (.bool true) rfl fun _ => d_l (es[k].r.enc) rfl fun _ => d_l _ e_len fun _ => d_l _ e_len fun _ => d_l (.bool false) (by simp [Prim.ev, cmpV, hlen]) fun _ => d_false (d_l _ e_len fun _ => d_l _ e_len fun _ => d_l (.bool true) (by simp [Prim.ev, cmpV, hlen]) fun _ => d_true (d_l (.bool false) rfl fun _ => d_false ?_))
    refine d_call hF (d_l r.enc rfl fun _ => d_l (.bool true) rfl fun _ => d_l r.enc rfl fun _ => ?_)
    refine den_loop (fun m ys => ∃ j : Nat, j + m = es.length ∧ ys = [i j, .bool (setAt es s j)]) es.length ⟨0, by omega, by rw [set0]; rfl⟩ ?_
    rintro m _ ⟨j, hj, rfl⟩
    refine d_l _ e_len fun _ => d_l _ rfl fun _ => d_dec (fun h => ?_) fun h => ?_
    · have h : (j : Int) < ((es.map En.enc).length : Int) := h
      have hlt : j < es.length := by simp at h; omega
      obtain ⟨e', hat, hnm, hr1, hr2⟩ := hA j hlt
      refine d_l _ (e_idx (en_at hlt) (En.okc_enc _)) fun _ => d_l _ (e_idx (en_at hlt) (En.okc_enc _)) fun _ => d_l _ (en_same _) fun _ => d_false (d_l e'.enc (e_idx (by rw [List.getElem?_map, hat]; rfl) (En.okc_enc _)) fun _ => d_l _ (e_idx (en_at hlt) (En.okc_enc _)) fun _ => ?_)
      refine d_l (.bool false) (by show (Prim.scmp .neq).ev [.str e'.name, .str es[j].name] = _; rw [hnm]; exact st_ne _) fun _ => d_false (d_l _ (e_idx (en_at hlt) (En.okc_enc _)) fun _ => d_l (.bool (decide (es[j].name = s))) rfl fun _ => d_dec (fun he => ?_) fun he => ?_)
      · refine d_l (.bool !(setAt es s j)) rfl fun _ => d_ite (fun hb => ?_) fun hb => ?_
        · have hxj := set_now hlt he (by simpa using hb)
          exact d_l e'.enc (e_idx (by rw [List.getElem?_map, hat]; rfl) (En.okc_enc _)) fun _ => d_l _ (by show (Prim.acmp .neq [.i .i64, .i .i64]).ev [e'.r.enc, r.enc] = _; rw [hr1 hxj]; exact rf_ne _) fun _ => d_false (d_l _ (e_inc (by omega)) fun _ => d_cont rfl ⟨m - 1, by omega, j + 1, by omega, by rw [set_self hxj]⟩)
        · have hb : setAt es s j = true := by simpa using hb
          have hxj := set_past hb
          exact d_l e'.enc (e_idx (by rw [List.getElem?_map, hat]; rfl) (En.okc_enc _)) fun _ => d_l _ (e_idx (en_at hlt) (En.okc_enc _)) fun _ => d_l _ (by rw [hr2 hxj]; exact en_same _) fun _ => d_false (d_l _ (e_inc (by omega)) fun _ => d_cont rfl ⟨m - 1, by omega, j + 1, by omega, by rw [set_next hxj]; rfl⟩)
      · have hxj := set_other hlt he
        exact d_l e'.enc (e_idx (by rw [List.getElem?_map, hat]; rfl) (En.okc_enc _)) fun _ => d_l _ (e_idx (en_at hlt) (En.okc_enc _)) fun _ => d_l _ (by rw [hr2 hxj]; exact en_same _) fun _ => d_false (d_l _ (e_inc (by omega)) fun _ => d_cont rfl ⟨m - 1, by omega, j + 1, by omega, by rw [set_next hxj]; rfl⟩)
    refine d_true (d_l _ (rf_eq r) fun _ => d_true ?_)
    exact d_true (d_ret rfl)
  | none =>
    rw [hx] at hlen
    have hlen : (setE es s r).length = es.length + 1 := hlen
    rw [findE_none hx]
    refine d_l (.agg [i 0, i 0]) rfl fun _ => d_l (.bool false) rfl fun _ => d_l (.agg [i 0, i 0]) rfl fun _ => d_l _ e_len fun _ => d_l _ e_len fun _ => d_l (.bool true) (by simp [Prim.ev, cmpV, hlen]; omega) fun _ => d_true (d_false (d_l _ e_len fun _ => d_l _ e_len fun _ => d_l _ (e_add (by omega) (by simp; omega)) fun _ => d_l (.bool false) (by simp [Prim.ev, cmpV, hlen]) fun _ => d_false (d_l _ e_len fun _ => d_l _ e_len fun _ => d_l (.bool false) (by simp [Prim.ev, cmpV, hlen]; omega) fun _ => d_false ?_)))
    refine d_call hF (d_l r.enc rfl fun _ => d_l (.bool true) rfl fun _ => d_l r.enc rfl fun _ => ?_)
    refine den_loop (fun m ys => ∃ j : Nat, j + m = es.length ∧ ys = [i j, .bool (setAt es s j)]) es.length ⟨0, by omega, by rw [set0]; rfl⟩ ?_
    rintro m _ ⟨j, hj, rfl⟩
    refine d_l _ e_len fun _ => d_l _ rfl fun _ => d_dec (fun h => ?_) fun h => ?_
    · have h : (j : Int) < ((es.map En.enc).length : Int) := h
      have hlt : j < es.length := by simp at h; omega
      obtain ⟨e', hat, hnm, hr1, hr2⟩ := hA j hlt
      refine d_l _ (e_idx (en_at hlt) (En.okc_enc _)) fun _ => d_l _ (e_idx (en_at hlt) (En.okc_enc _)) fun _ => d_l _ (en_same _) fun _ => d_false (d_l e'.enc (e_idx (by rw [List.getElem?_map, hat]; rfl) (En.okc_enc _)) fun _ => d_l _ (e_idx (en_at hlt) (En.okc_enc _)) fun _ => ?_)
      refine d_l (.bool false) (by show (Prim.scmp .neq).ev [.str e'.name, .str es[j].name] = _; rw [hnm]; exact st_ne _) fun _ => d_false (d_l _ (e_idx (en_at hlt) (En.okc_enc _)) fun _ => d_l (.bool (decide (es[j].name = s))) rfl fun _ => d_dec (fun he => ?_) fun he => ?_)
      · refine d_l (.bool !(setAt es s j)) rfl fun _ => d_ite (fun hb => ?_) fun hb => ?_
        · have hxj := set_now hlt he (by simpa using hb)
          exact d_l e'.enc (e_idx (by rw [List.getElem?_map, hat]; rfl) (En.okc_enc _)) fun _ => d_l _ (by show (Prim.acmp .neq [.i .i64, .i .i64]).ev [e'.r.enc, r.enc] = _; rw [hr1 hxj]; exact rf_ne _) fun _ => d_false (d_l _ (e_inc (by omega)) fun _ => d_cont rfl ⟨m - 1, by omega, j + 1, by omega, by rw [set_self hxj]⟩)
        · have hb : setAt es s j = true := by simpa using hb
          have hxj := set_past hb
          exact d_l e'.enc (e_idx (by rw [List.getElem?_map, hat]; rfl) (En.okc_enc _)) fun _ => d_l _ (e_idx (en_at hlt) (En.okc_enc _)) fun _ => d_l _ (by rw [hr2 hxj]; exact en_same _) fun _ => d_false (d_l _ (e_inc (by omega)) fun _ => d_cont rfl ⟨m - 1, by omega, j + 1, by omega, by rw [set_next hxj]; rfl⟩)
      · have hxj := set_other hlt he
        exact d_l e'.enc (e_idx (by rw [List.getElem?_map, hat]; rfl) (En.okc_enc _)) fun _ => d_l _ (e_idx (en_at hlt) (En.okc_enc _)) fun _ => d_l _ (by rw [hr2 hxj]; exact en_same _) fun _ => d_false (d_l _ (e_inc (by omega)) fun _ => d_cont rfl ⟨m - 1, by omega, j + 1, by omega, by rw [set_next hxj]; rfl⟩)
    refine d_true (d_l _ (rf_eq r) fun _ => d_true ?_)
    refine d_false (d_l (i (es.length : Int)) (by rw [← List.length_map (f := En.enc)]; exact e_len) fun _ => d_l (⟨s, r⟩ : En).enc (e_idx (k := es.length) ?_ rfl) fun _ => d_l .nilI rfl fun _ => d_l (.bool true) (en_eq ⟨s, r⟩) fun _ => d_ret rfl)
    rw [List.getElem?_map, setE_last hx]; rfl

end Go.Proofs.Ytlemfbmaineigaa.Tx

/- Contracts: contexts: selected, Drop, Split, live; the reference's. -/
import Derived.Test.YtlemfbmaineigaaWk34
import Derived.Test.YtlemfbmaineigaaWk31
import Derived.Test.YtlemfbmaineigaaWb
set_option linter.all false
namespace Go.Proofs.Ytlemfbmaineigaa.Tx
open Go.Lf Go.Lf.S Go.Lf.Duo
set_option maxRecDepth 100000

theorem ok_context_selected (es : List En) (f : Nat) (cs : List PV) (p : En → Bool) (hl : es.length ≤ 549755813888) (hf : ∀ e ∈ es, Ok P f (e.enc :: cs) (.bool (p e))) :
    Ok P F.context_selected_context_Entry [.sl (es.map En.enc), .fn f [] cs] (.sl ((es.filter p).map En.enc)) := by
  refine k_context_selected_context_Entry _ _ rfl (d_l _ e_len fun _ => ?_)
  refine den_rounds (fun j => [i j, .sl (((es.take j).filter p).map En.enc)]) es.length rfl (fun j hj => ?_) ?_
  · have hfl : ((es.take j).filter p).length ≤ j := Nat.le_trans (List.length_filter_le _ _) (List.length_take_le _ _)
    have ht : (es.take (j + 1)).filter p = (es.take j).filter p ++ (if p es[j] then [es[j]] else []) := by
      rw [List.take_succ_eq_append_getElem hj, List.filter_append]
      congr 1
      cases hp : p es[j] <;> simp [hp]
    refine d_l _ rfl fun _ => d_dec (fun _ => ?_) fun h => absurd (show (j : Int) < ((es.map En.enc).length : Int) by simp; omega) h
    refine d_l _ (e_idx (en_at hj) (En.okc_enc _)) fun _ => d_l _ (e_okc (En.okc_enc _)) fun _ => d_callv (fs := []) (cs := cs) (hf _ (List.getElem_mem hj)) (d_ite (fun hp => ?_) fun hp => ?_)
    · rw [hp] at ht
      exact d_l _ (e_lst (by intro x hx; simp at hx; subst hx; rfl)) fun _ => d_l _ (e_app (by intro x hx; simp at hx; subst hx; rfl) (by simp; omega) (by simp; omega)) fun _ => d_l _ (e_inc (by omega)) fun _ => d_cont rfl (by rw [ht, List.map_append]; rfl)
    · rw [hp] at ht
      have ht : (es.take (j + 1)).filter p = (es.take j).filter p := by simpa using ht
      exact d_l _ (e_inc (by omega)) fun _ => d_cont rfl (by rw [ht]; rfl)
  · refine d_l _ rfl fun _ => d_dec (fun h => ?_) fun h => d_ret ?_
    · have h : (es.length : Int) < ((es.map En.enc).length : Int) := h
      simp at h
    · rw [List.take_length]; rfl

def dropE (es : List En) (s : ByteArray) : List En := es.filter fun e => !decide (e.name = s)

theorem ok_context_Drop (es : List En) (s : ByteArray) (hl : es.length ≤ 549755813888) : Ok P F.context_Drop [.sl (es.map En.enc), .str s] (.sl ((dropE es s).map En.enc)) :=
  k_context_Drop _ _ rfl (d_l (.str s) rfl fun _ => d_call (ok_context_selected es F.context_Drop_1 [.box (.str s)] (fun e => !decide (e.name = s)) hl fun e _ =>
    k_context_Drop_1 _ _ rfl (d_l _ (e_okc (En.okc_enc e)) fun _ => d_l (.str s) rfl fun _ => d_l _ rfl fun _ => d_ret rfl)) (d_ret rfl))

theorem ok_context_live {ds : List Nd} {e : En} (h : InG ds e.r) : Ok P F.context_live [.agg [.sl (ds.map Nd.enc)], e.enc] (.bool (pr ds e.r).isSome) := by
  refine k_context_live _ _ rfl (d_l (.agg [.sl (ds.map Nd.enc)]) rfl fun _ => d_l e.enc rfl fun _ => d_call (ok_head_Prio' h) ?_)
  cases pr ds e.r with
  | none => exact d_l (i 0) rfl fun _ => d_l (.bool false) rfl fun _ => d_ret rfl
  | some p => exact d_l (i p) rfl fun _ => d_l (.bool true) rfl fun _ => d_ret rfl

theorem ok_slices_Contains (l : List ByteArray) (s : ByteArray) (hl : l.length ≤ 549755813888) : Ok P F.slices_Contains_string_string [.sl (l.map .str), .str s] (.bool (memB s l)) := by
  obtain ⟨r, hr, ha⟩ := ok_slices_Index_string_string l s hl
  refine k_slices_Contains_string_string _ _ rfl (d_call hr (d_l _ rfl fun _ => d_ret ?_))
  rcases ha with ⟨rfl, hno⟩ | ⟨k, rfl, hk, _⟩
  · have : memB s l = false := by
      cases hm : memB s l with
      | false => rfl
      | true => exact absurd (memB_iff.1 hm) hno
    rw [this]; rfl
  · have : memB s l = true := memB_iff.2 (List.mem_of_getElem? hk)
    rw [this]
    show PV.bool (decide ((0 : Int) ≤ (k : Int))) = _
    simp

/-- is an entry in the first part, in the second part? -/
def inA (ds : List Nd) (names : List ByteArray) (e : En) : Bool := !(pr ds e.r).isSome || memB e.name names
def inB (ds : List Nd) (names : List ByteArray) (e : En) : Bool := !(pr ds e.r).isSome || !memB e.name names

theorem ok_context_Split (ds : List Nd) (es : List En) (names : List ByteArray) (hl : es.length ≤ 549755813888) (hn : names.length ≤ 549755813888) (hin : ∀ e ∈ es, InG ds e.r) :
    Ok P F.context_Split [.agg [.sl (ds.map Nd.enc)], .sl (es.map En.enc), .sl (names.map .str)] (.tup [.sl ((es.filter (inA ds names)).map En.enc), .sl ((es.filter (inB ds names)).map En.enc)]) := by
  have hc : ∀ e : En, Ok P F.context_Split_1 [e.enc, .box (.sl (names.map .str))] (.bool (memB e.name names)) := fun e =>
    k_context_Split_1 _ _ rfl (d_l e.enc rfl fun _ => d_l (.sl (names.map .str)) rfl fun _ => d_call (ok_slices_Contains names e.name hn) (d_ret rfl))
  refine k_context_Split _ _ rfl (d_l (.agg [.sl (ds.map Nd.enc)]) rfl fun _ => d_l (.sl (names.map .str)) rfl fun _ => d_l (.fn F.context_Split_1 [] [.box (.sl (names.map .str))]) rfl fun _ =>
    d_call (ok_context_selected es F.context_Split_2 [.box (.agg [.sl (ds.map Nd.enc)]), .box (.fn F.context_Split_1 [] [.box (.sl (names.map .str))])] (inA ds names) hl fun e he => ?_)
    (d_call (ok_context_selected es F.context_Split_3 [.box (.agg [.sl (ds.map Nd.enc)]), .box (.fn F.context_Split_1 [] [.box (.sl (names.map .str))])] (inB ds names) hl fun e he => ?_) (d_ret rfl)))
  · refine k_context_Split_2 _ _ rfl (d_l e.enc rfl fun _ => d_l (.agg [.sl (ds.map Nd.enc)]) rfl fun _ => d_call (ok_context_live (hin e he)) (d_l (.bool !(pr ds e.r).isSome) rfl fun _ => d_ite (fun h => d_ret ?_) fun h => d_l (.fn F.context_Split_1 [] [.box (.sl (names.map .str))]) rfl fun _ => d_callv (fs := []) (cs := [.box (.sl (names.map .str))]) (hc e) (d_ret ?_)))
    · unfold inA; rw [h]; rfl
    · unfold inA; rw [h]; rfl
  · refine k_context_Split_3 _ _ rfl (d_l e.enc rfl fun _ => d_l (.agg [.sl (ds.map Nd.enc)]) rfl fun _ => d_call (ok_context_live (hin e he)) (d_l (.bool !(pr ds e.r).isSome) rfl fun _ => d_ite (fun h => d_ret ?_) fun h => d_l (.fn F.context_Split_1 [] [.box (.sl (names.map .str))]) rfl fun _ => d_callv (fs := []) (cs := [.box (.sl (names.map .str))]) (hc e) (d_l (.bool !memB e.name names) rfl fun _ => d_ret ?_)))
    · unfold inB; rw [h]; rfl
    · unfold inB; rw [h]; rfl

/-! the reference's -/
theorem et_at {cs : List Et} {j : Nat} (h : j < cs.length) : (cs.map Et.enc)[j]? = some (cs[j]).enc := by simp [h]
/-- a type that begins with something, with short lists -/
def Ok2 (t : Ty) : Prop := (∃ n, Hd n t) ∧ Ln t
theorem ok_prio {t : Ty} (h : Ok2 t) : Ok P F.ref08_Prio [t.enc] (prV (prT t)) := by
  obtain ⟨⟨n, hn⟩, hl⟩ := h
  exact ok_ref08_Prio hn hl
theorem Et.sub (e : Et) : sb 1 6 e.enc = e.t.enc := by
  obtain ⟨s, t⟩ := e
  cases t; simp [S.sb, Et.enc, Ty.enc_mk, PV.cells]
theorem Et.c0 (e : Et) : e.enc.cells.getD 0 .nilI = .str e.name := rfl

theorem ok_ref13_IsLive {t : Ty} (h : Ok2 t) : Ok P F.ref13_IsLive [t.enc] (.bool (prT t).isSome) := by
  refine k_ref13_IsLive _ _ rfl (d_l _ (e_okc (Ty.okc_enc t)) fun _ => d_call (ok_prio h) ?_)
  cases prT t with
  | none => exact d_l (i 0) rfl fun _ => d_l (.bool false) rfl fun _ => d_ret rfl
  | some p => exact d_l (i p) rfl fun _ => d_l (.bool true) rfl fun _ => d_ret rfl

theorem memB_cons (s x : ByteArray) (l : List ByteArray) : memB s (x :: l) = (decide (x = s) || memB s l) := rfl
theorem ok_ref03_In (s : ByteArray) (ls : List ByteArray) (hl : ls.length ≤ 549755813888) : Ok P F.ref03_In [.str s, .sl (ls.map .str)] (.bool (memB s ls)) := by
  refine k_ref03_In _ _ rfl ?_
  refine den_loop (fun m ys => ∃ j : Nat, j + m = ls.length ∧ memB s ls = memB s (ls.drop j) ∧ ys = [i j]) ls.length ⟨0, by omega, rfl, rfl⟩ ?_
  rintro m _ ⟨j, hj, hm, rfl⟩
  refine d_l _ e_len fun _ => d_l _ rfl fun _ => d_dec (fun h => ?_) fun h => ?_
  · have h : (j : Int) < ((ls.map PV.str).length : Int) := h
    have hlt : j < ls.length := by simp at h; omega
    rw [List.drop_eq_getElem_cons hlt] at hm
    refine d_l _ (e_idx (str_at hlt) rfl) fun _ => d_l (.bool (decide (ls[j] = s))) rfl fun _ => d_dec (fun he => d_ret ?_) fun he => d_l _ (e_inc (by omega)) fun _ => d_cont rfl ⟨m - 1, by omega, j + 1, by omega, ?_, rfl⟩
    · rw [hm, memB_cons]; simp [he]
    · rw [hm, memB_cons]; simp [he]
  · have h : ¬ (j : Int) < ((ls.map PV.str).length : Int) := h
    simp at h
    rw [List.drop_eq_nil_of_le h] at hm
    refine d_ret ?_
    rw [hm]; rfl

theorem ok_ref08_Lowest (ts : List Ty) (hl : ts.length ≤ 549755813888) (ht : ∀ t ∈ ts, Ok2 t) : Ok P F.ref08_Lowest [.sl (ts.map Ty.enc)] (.tup [i (low (ts.filterMap prT)).1, .bool (low (ts.filterMap prT)).2]) := by
  refine k_ref08_Lowest _ _ rfl ?_
  refine den_rounds (fun j => [i j, .bool (low ((ts.take j).filterMap prT)).2, i (low ((ts.take j).filterMap prT)).1]) ts.length rfl (fun j hj => ?_) ?_
  · have hst : low ((ts.take (j + 1)).filterMap prT) = match prT ts[j] with | some p => lowStep (low ((ts.take j).filterMap prT)) p | none => low ((ts.take j).filterMap prT) := by
      rw [List.take_succ_eq_append_getElem hj, List.filterMap_append]
      cases hp : prT ts[j] with
      | none => simp [hp]
      | some p => simp [hp, low, List.foldl_append]
    refine d_l _ e_len fun _ => d_l _ rfl fun _ => d_dec (fun _ => ?_) fun h => absurd (show (j : Int) < ((ts.map Ty.enc).length : Int) by simp; omega) h
    have hpr := ok_prio (ht _ (List.getElem_mem hj))
    refine d_l _ (e_idx (ty_at' hj) (Ty.okc_enc _)) fun _ => d_call hpr ?_
    generalize low ((ts.take j).filterMap prT) = a at hst ⊢
    obtain ⟨a, b⟩ := a
    rw [hst]
    cases prT ts[j] with
    | none => exact d_l (i 0) rfl fun _ => d_l (.bool false) rfl fun _ => d_false (d_l _ (e_inc (by omega)) fun _ => d_cont rfl rfl)
    | some p =>
      refine d_l (i p) rfl fun _ => d_l (.bool true) rfl fun _ => d_true (d_l (.bool !b) rfl fun _ => d_ite (fun hb => ?_) fun hb => ?_)
      · have hb : b = false := by simpa using hb
        subst hb
        exact d_l _ (e_inc (by omega)) fun _ => d_cont rfl rfl
      · have hb : b = true := by simpa using hb
        subst hb
        refine d_l (.bool (decide (p < a))) rfl fun _ => d_dec (fun h => ?_) fun h => ?_
        · refine d_l _ (e_inc (by omega)) fun _ => d_cont rfl ?_
          simp [lowStep, h]
        · refine d_l _ (e_inc (by omega)) fun _ => d_cont rfl ?_
          simp [lowStep, h]
  · refine d_l _ e_len fun _ => d_l _ rfl fun _ => d_dec (fun h => ?_) fun h => d_ret ?_
    · have h : (ts.length : Int) < ((ts.map Ty.enc).length : Int) := h
      simp at h
    · rw [List.take_length]; rfl

theorem ok_ref13_Lowest (c : List Et) (s : ByteArray) (hl : c.length ≤ 549755813888) (ht : ∀ e ∈ c, Ok2 e.t) : Ok P F.ref13_Lowest [.sl (c.map Et.enc), .str s]
    (.tup [i (low (((c.filter fun e => !decide (e.name = s)).map Et.t).filterMap prT)).1, .bool (low (((c.filter fun e => !decide (e.name = s)).map Et.t).filterMap prT)).2]) := by
  refine k_ref13_Lowest _ _ rfl ?_
  refine den_rounds (fun j => [i j, .sl ((((c.take j).filter fun e => !decide (e.name = s)).map Et.t).map Ty.enc)]) c.length rfl (fun j hj => ?_) ?_
  · have hfl : ((c.take j).filter fun e => !decide (e.name = s)).length ≤ j := Nat.le_trans (List.length_filter_le _ _) (List.length_take_le _ _)
    have htk : (c.take (j + 1)).filter (fun e => !decide (e.name = s)) = (c.take j).filter (fun e => !decide (e.name = s)) ++ (if c[j].name = s then [] else [c[j]]) := by
      rw [List.take_succ_eq_append_getElem hj, List.filter_append]
      congr 1
      by_cases hp : c[j].name = s <;> simp [hp]
    refine d_l _ e_len fun _ => d_l _ rfl fun _ => d_dec (fun _ => ?_) fun h => absurd (show (j : Int) < ((c.map Et.enc).length : Int) by simp; omega) h
    refine d_l _ (e_idx (et_at hj) (Et.okc_enc _)) fun _ => d_l (.bool (!decide (c[j].name = s))) rfl fun _ => d_ndec (fun hne => ?_) fun he => ?_
    · rw [if_neg hne] at htk
      refine d_l _ (e_idx (et_at hj) (Et.okc_enc _)) fun _ => d_l (.sl [c[j].t.enc]) (by rw [Et.sub]; exact e_lst (by intro x hx; simp at hx; subst hx; exact Ty.okc_enc _)) fun _ => d_l _ (e_app (by intro x hx; simp at hx; subst hx; exact Ty.okc_enc _) (by simp; omega) (by simp; omega)) fun _ => d_l _ (e_inc (by omega)) fun _ => d_cont rfl ?_
      rw [htk, List.map_append, List.map_append]; rfl
    · rw [if_pos he, List.append_nil] at htk
      exact d_l _ (e_inc (by omega)) fun _ => d_cont rfl (by rw [htk]; rfl)
  · refine d_l _ e_len fun _ => d_l _ rfl fun _ => d_dec (fun h => ?_) fun h => ?_
    · have h : (c.length : Int) < ((c.map Et.enc).length : Int) := h
      simp at h
    · rw [List.take_length]
      refine d_call (ok_ref08_Lowest _ (by rw [List.length_map]; exact Nat.le_trans (List.length_filter_le _ _) hl) fun t htm => ?_) (d_l _ rfl fun _ => d_l _ rfl fun _ => d_ret rfl)
      simp only [List.mem_map, List.mem_filter] at htm
      obtain ⟨e, ⟨he, _⟩, rfl⟩ := htm
      exact ht e he

end Go.Proofs.Ytlemfbmaineigaa.Tx

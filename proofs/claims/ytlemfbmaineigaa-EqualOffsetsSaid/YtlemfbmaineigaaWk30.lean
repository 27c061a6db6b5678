/- Contracts: producers (references of a context, priorities), the least priority. -/
import Derived.Test.YtlemfbmaineigaaWk11
set_option linter.all false
namespace Go.Proofs.Ytlemfbmaineigaa.Tx
open Go.Lf Go.Lf.S Go.Lf.Duo
set_option maxRecDepth 100000

theorem en_at {es : List En} {j : Nat} (h : j < es.length) : (es.map En.enc)[j]? = some (es[j]).enc := by simp [h]

/-- the references of all but one -/
def others (es : List En) (s : ByteArray) : List Rf := (es.filter fun e => decide (e.name ≠ s)).map En.r

theorem others_cons (e : En) (es : List En) (s : ByteArray) : others (e :: es) s = if e.name = s then others es s else e.r :: others es s := by
  by_cases h : e.name = s <;> simp [others, h]
theorem drop_at {α : Type} {l : List α} {j : Nat} (h : j < l.length) : l.drop j = l[j] :: l.drop (j + 1) := List.drop_eq_getElem_cons h

theorem itsV_others (es : List En) (s : ByteArray) (hl : es.length ≤ 549755813888) : ItsV P (.fn F.context_others_1 [] [.box (.sl (es.map En.enc)), .box (.str s)]) ((others es s).map fun r => [r.enc]) := by
  refine ⟨_, _, rfl, fun X hX s0 s' hr => ?_⟩
  refine x_context_others_1 X hX [.nilI, .box (.sl (es.map En.enc)), .box (.str s), s0] _ _ ?_
  letI : Gl := { l := gl.l, x := X }
  refine d_l (.sl (es.map En.enc)) rfl fun _ => d_l _ e_len fun _ => ?_
  refine den_loop (fun m ys => ∃ (j : Nat) (st : PV), j + m = es.length ∧ X.runs ((others (es.drop j) s).map fun r => [r.enc]) st = some s' ∧ ys = [i j, st]) es.length ⟨0, s0, by omega, hr, rfl⟩ ?_
  rintro m _ ⟨j, st, hj, hru, rfl⟩
  refine d_l _ rfl fun _ => d_dec (fun h => ?_) fun h => ?_
  · have h : (j : Int) < ((es.map En.enc).length : Int) := h
    have hlt : j < es.length := by simp at h; omega
    refine d_l _ (e_idx (en_at hlt) (En.okc_enc _)) fun _ => d_l _ (e_okc (En.okc_enc _)) fun _ => d_l (.str s) rfl fun _ => d_l (.bool (!decide (es[j].name = s))) rfl fun _ => d_ndec (fun hne => ?_) fun he => ?_
    · have hd : others (es.drop j) s = es[j].r :: others (es.drop (j + 1)) s := by
        rw [drop_at hlt, others_cons, if_neg hne]
      rw [hd] at hru
      obtain ⟨b, s1, h1, h2, h3⟩ := runs_step hru
      refine d_yld h1 (d_l (.bool !b) rfl fun _ => d_ite (fun hb => ?_) fun hb => ?_)
      · have hb : b = false := by simpa using hb
        exact d_ret (by rw [h3 hb])
      · have hb : b = true := by simpa using hb
        exact d_l _ (e_inc (by omega)) fun _ => d_cont rfl ⟨m - 1, by omega, j + 1, s1, by omega, h2 hb, rfl⟩
    · have hd : others (es.drop j) s = others (es.drop (j + 1)) s := by
        rw [drop_at hlt, others_cons, if_pos he]
      rw [hd] at hru
      exact d_l _ (e_inc (by omega)) fun _ => d_cont rfl ⟨m - 1, by omega, j + 1, st, by omega, hru, rfl⟩
  · have h : ¬ (j : Int) < ((es.map En.enc).length : Int) := h
    simp at h
    have hd : others (es.drop j) s = [] := by rw [List.drop_eq_nil_of_le (by omega)]; rfl
    rw [hd] at hru
    exact d_ret (by rw [show st = s' from Option.some.inj hru]; rfl)

/-- the priority of a reference -/
def pr (ds : List Nd) (r : Rf) : Option Int := match ds[r.node.toNat]? with
  | some d => if act d.kind then some (ad d.prio r.shift) else none
  | none => none
def InG (ds : List Nd) (r : Rf) : Prop := 0 ≤ r.node ∧ r.node < ds.length

theorem ok_head_Prio' {ds : List Nd} {r : Rf} (h : InG ds r) : Ok P F.head_Prio [.agg [.sl (ds.map Nd.enc)], r.enc] (match pr ds r with | some p => .tup [i p, .bool true] | none => .tup [i 0, .bool false]) := by
  obtain ⟨h1, h2⟩ := h
  have hn : r.node = ((r.node.toNat : Nat) : Int) := by omega
  have ha : r.node.toNat < ds.length := by omega
  have := ok_head_Prio ds r.node.toNat ha r.shift
  rw [← hn] at this
  unfold pr
  rw [List.getElem?_eq_getElem ha]
  cases hx : act ds[r.node.toNat].kind
  · rw [hx] at this; simp only [hx]; exact this
  · rw [hx] at this; simp only [hx]; exact this

theorem itsV_prios (ds : List Nd) (rs : List Rf) (hl : rs.length ≤ 549755813888) (hin : ∀ r ∈ rs, InG ds r) : ItsV P (.fn F.head_prios_1 [] [.box (.sl (rs.map Rf.enc)), .box (.agg [.sl (ds.map Nd.enc)])]) ((rs.filterMap (pr ds)).map fun p => [i p]) := by
  refine ⟨_, _, rfl, fun X hX s0 s' hr => ?_⟩
  refine x_head_prios_1 X hX [.nilI, .box (.sl (rs.map Rf.enc)), .box (.agg [.sl (ds.map Nd.enc)]), s0] _ _ ?_
  letI : Gl := { l := gl.l, x := X }
  refine d_l (.sl (rs.map Rf.enc)) rfl fun _ => d_l _ e_len fun _ => ?_
  refine den_loop (fun m ys => ∃ (j : Nat) (st : PV), j + m = rs.length ∧ X.runs (((rs.drop j).filterMap (pr ds)).map fun p => [i p]) st = some s' ∧ ys = [i j, st]) rs.length ⟨0, s0, by omega, hr, rfl⟩ ?_
  rintro m _ ⟨j, st, hj, hru, rfl⟩
  refine d_l _ rfl fun _ => d_dec (fun h => ?_) fun h => ?_
  · have h : (j : Int) < ((rs.map Rf.enc).length : Int) := h
    have hlt : j < rs.length := by simp at h; omega
    have hok := ok_head_Prio' (hin rs[j] (List.getElem_mem hlt))
    refine d_l _ (e_idx (rf_at hlt) (Rf.okc_enc _)) fun _ => d_l _ (e_okc (Rf.okc_enc _)) fun _ => d_l (.agg [.sl (ds.map Nd.enc)]) rfl fun _ => d_call hok ?_
    cases hp : pr ds rs[j] with
    | some p =>
      have hd : (rs.drop j).filterMap (pr ds) = p :: (rs.drop (j + 1)).filterMap (pr ds) := by
        rw [drop_at hlt, List.filterMap_cons_some hp]
      rw [hd] at hru
      obtain ⟨b, s1, h1, h2, h3⟩ := runs_step hru
      refine d_l (i p) rfl fun _ => d_l (.bool true) rfl fun _ => d_true (d_yld h1 (d_l (.bool !b) rfl fun _ => d_ite (fun hb => ?_) fun hb => ?_))
      · have hb : b = false := by simpa using hb
        exact d_ret (by rw [h3 hb])
      · have hb : b = true := by simpa using hb
        exact d_l _ (e_inc (by omega)) fun _ => d_cont rfl ⟨m - 1, by omega, j + 1, s1, by omega, h2 hb, rfl⟩
    | none =>
      have hd : (rs.drop j).filterMap (pr ds) = (rs.drop (j + 1)).filterMap (pr ds) := by
        rw [drop_at hlt, List.filterMap_cons_none hp]
      rw [hd] at hru
      exact d_l (i 0) rfl fun _ => d_l (.bool false) rfl fun _ => d_false (d_l _ (e_inc (by omega)) fun _ => d_cont rfl ⟨m - 1, by omega, j + 1, st, by omega, hru, rfl⟩)
  · have h : ¬ (j : Int) < ((rs.map Rf.enc).length : Int) := h
    simp at h
    rw [List.drop_eq_nil_of_le (by omega)] at hru
    exact d_ret (by rw [show st = s' from Option.some.inj hru]; rfl)

/-- what a round has at hand -/
def lowStep (a : Int × Bool) (p : Int) : Int × Bool := if a.2 then (if p < a.1 then p else a.1, true) else (p, true)
def low (ps : List Int) : Int × Bool := ps.foldl lowStep (0, false)

theorem ok_head_fold_int (x : PV) (ps : List Int) (h : ItsV P x (ps.map fun p => [i p])) : Ok P F.head_fold_int [x, .fn F.head_Lowest_1 [] []] (.tup [i (low ps).1, .bool (low ps).2]) := by
  refine k_head_fold_int _ _ rfl (d_l (.fn F.head_Lowest_1 [] []) rfl fun _ => ?_)
  refine d_iter h (fun y hy => by obtain ⟨p, _, rfl⟩ := List.mem_map.1 hy; rfl) (fun j zs => zs = [i ((ps.take j).foldl lowStep (0, false)).1, .bool ((ps.take j).foldl lowStep (0, false)).2]) rfl ?_ ?_
  · rintro j y hy _ rfl
    simp only [List.getElem?_map, Option.map_eq_some_iff] at hy
    obtain ⟨p, hp, rfl⟩ := hy
    obtain ⟨hj, hp⟩ := List.getElem?_eq_some_iff.1 hp
    have ht : (ps.take (j + 1)).foldl lowStep (0, false) = lowStep ((ps.take j).foldl lowStep (0, false)) p := by
      rw [List.take_succ_eq_append_getElem hj, List.foldl_append, hp]; rfl
    rw [ht]
    generalize (ps.take j).foldl lowStep (0, false) = a
    obtain ⟨a, b⟩ := a
    refine ⟨[i (lowStep (a, b) p).1, .bool (lowStep (a, b) p).2], d_ite (fun hb => ?_) fun hb => ?_, rfl⟩
    · have hb : b = true := hb
      subst hb
      have hm : Ok P F.head_Lowest_1 [i a, i p] (i (if p < a then p else a)) := k_head_Lowest_1 _ _ rfl (d_l (i (if p < a then p else a)) rfl fun _ => d_ret rfl)
      refine d_callv (fs := []) (cs := []) hm (d_l _ (e_okc rfl) fun _ => d_cont rfl ?_)
      rfl
    · have hb : b = false := hb
      subst hb
      exact d_l _ (e_okc rfl) fun _ => d_cont rfl rfl
  · rintro zs hz
    rw [List.length_map, List.take_length] at hz
    subst hz
    exact d_l _ (e_okc rfl) fun _ => d_l _ (e_okc rfl) fun _ => d_ret rfl

theorem ok_head_Lowest (ds : List Nd) (rs : List Rf) (hl : rs.length ≤ 549755813888) (hin : ∀ r ∈ rs, InG ds r) : Ok P F.head_Lowest [.agg [.sl (ds.map Nd.enc)], .sl (rs.map Rf.enc)] (.tup [i (low (rs.filterMap (pr ds))).1, .bool (low (rs.filterMap (pr ds))).2]) := by
  have h1 : Ok P F.head_prios [.agg [.sl (ds.map Nd.enc)], .sl (rs.map Rf.enc)] (.fn F.head_prios_1 [] [.box (.sl (rs.map Rf.enc)), .box (.agg [.sl (ds.map Nd.enc)])]) := k_head_prios _ _ rfl (d_l (.agg [.sl (ds.map Nd.enc)]) rfl fun _ => d_l (.sl (rs.map Rf.enc)) rfl fun _ => d_ret rfl)
  exact k_head_Lowest _ _ rfl (d_l (.agg [.sl (ds.map Nd.enc)]) rfl fun _ => d_call h1 (d_call (ok_head_fold_int _ _ (itsV_prios ds rs hl hin)) (d_l _ rfl fun _ => d_l _ rfl fun _ => d_ret rfl)))

theorem ok_slices_Collect (x : PV) (rs : List Rf) (h : ItsV P x (rs.map fun r => [r.enc])) (hl : rs.length ≤ 549755813888) : Ok P F.slices_Collect_graph_Ref [x] (.sl (rs.map Rf.enc)) := by
  have h1 : OkS P F.slices_AppendSeq_graph_Ref_graph_Ref sg_slices_AppendSeq_graph_Ref_graph_Ref [x] [.sl (rs.map Rf.enc)] := by
    refine m_slices_AppendSeq_graph_Ref_graph_Ref _ _ ?_
    refine d_iter h (fun y hy => by obtain ⟨p, _, rfl⟩ := List.mem_map.1 hy; rfl) (fun j zs => zs = [.sl ((rs.take j).map Rf.enc)]) rfl ?_ ?_
    · rintro j y hy _ rfl
      simp only [List.getElem?_map, Option.map_eq_some_iff] at hy
      obtain ⟨p, hp, rfl⟩ := hy
      obtain ⟨hj, hp⟩ := List.getElem?_eq_some_iff.1 hp
      refine ⟨[.sl ((rs.take (j + 1)).map Rf.enc)], d_l _ (e_okc (Rf.okc_enc p)) fun _ => d_l (.sl [p.enc]) (e_lst (by intro x hx; simp at hx; subst hx; rfl)) fun _ => d_l _ (e_app (by intro x hx; simp at hx; subst hx; rfl) (by simp; omega) (by simp; omega)) fun _ => d_cont rfl ?_, rfl⟩
      rw [← take_enc hj, hp]
    · rintro zs hz
      rw [List.length_map, List.take_length] at hz
      subst hz
      exact d_ret rfl
  exact k_slices_Collect_graph_Ref _ _ rfl (d_calls rfl h1 (d_ret rfl))

/-- the least priority of the entries but one -/
def lowE (ds : List Nd) (es : List En) (s : ByteArray) : Int × Bool := low ((others es s).filterMap (pr ds))

theorem ok_context_Lowest (ds : List Nd) (es : List En) (s : ByteArray) (hl : es.length ≤ 549755813888) (hin : ∀ e ∈ es, InG ds e.r) : Ok P F.context_Lowest [.agg [.sl (ds.map Nd.enc)], .sl (es.map En.enc), .str s] (.tup [i (lowE ds es s).1, .bool (lowE ds es s).2]) := by
  have h1 : Ok P F.context_others [.sl (es.map En.enc), .str s] (.fn F.context_others_1 [] [.box (.sl (es.map En.enc)), .box (.str s)]) := k_context_others _ _ rfl (d_l (.sl (es.map En.enc)) rfl fun _ => d_l (.str s) rfl fun _ => d_ret rfl)
  have hlen : (others es s).length ≤ 549755813888 := by
    unfold others
    rw [List.length_map]
    exact Nat.le_trans (List.length_filter_le _ _) hl
  refine k_context_Lowest _ _ rfl (d_l (.agg [.sl (ds.map Nd.enc)]) rfl fun _ => d_call h1 (d_call (ok_slices_Collect _ _ (itsV_others es s hl) hlen) (d_call (ok_head_Lowest ds _ hlen fun r hr => ?_) (d_l _ rfl fun _ => d_l _ rfl fun _ => d_ret rfl))))
  simp only [others, List.mem_map, List.mem_filter] at hr
  obtain ⟨e, ⟨he, _⟩, rfl⟩ := hr
  exact hin e he

end Go.Proofs.Ytlemfbmaineigaa.Tx

/- Contracts (Wk182, Wk183). -/
import Derived.Test.YtopinhoalbgebaaGreatDoorWk179
import Derived.Test.YtopinhoalbgebaaGreatDoorWk11
set_option linter.all false
/- The law of duals (1): the reader at any reference of a graph. -/
namespace Go.Proofs.YtopinhoalbgebaaGreatDoor.Tx
open Go.Lf Go.Lf.S Go.Lf.Duo
set_option maxRecDepth 100000

def dl (n : Nat) (a : Int) : Int := if a < n then a + n else a - n
structure DualOf (n : Nat) (x x' : Nd) : Prop where
  k : x'.kind = dk x.kind
  p : x'.prio = x.prio
  l : x'.labels = x.labels
  nl : x'.next.length = x.next.length
  nx : ∀ (j : Nat) (u : Rf), x.next[j]? = some u → x'.next[j]? = some (if restB x.kind j then ⟨dl n u.node, u.shift⟩ else u)
theorem dk_dk' (k : Int) : dk (dk k) = k := by unfold dk; split <;> (try split) <;> (try split) <;> (try split) <;> simp_all
theorem dk_67 (k : Int) : (dk k = 6 ↔ k = 7) ∧ (dk k = 7 ↔ k = 6) ∧ (dk k = 4 ↔ k = 5) ∧ (dk k = 5 ↔ k = 4) := by
  unfold dk; refine ⟨?_, ?_, ?_, ?_⟩ <;> (split <;> (try split) <;> (try split) <;> (try split) <;> omega)
theorem rest_dk (k : Int) (j : Nat) : restB (dk k) j = restB k j := by
  obtain ⟨h1, h2, _⟩ := dk_67 k
  unfold restB
  rw [decide_eq_decide.2 h1, decide_eq_decide.2 h2, Bool.or_assoc, Bool.or_assoc, Bool.or_comm (decide (k = 7))]
theorem act_dk (k : Int) : act (dk k) = act k := by
  unfold act dk
  rw [Bool.eq_iff_iff, decide_eq_true_iff, decide_eq_true_iff]
  split <;> (try split) <;> (try split) <;> (try split) <;> omega

theorem closeD_lo {ds : List Nd} {m : Nat} (h : m < ds.length) : (closeD ds)[m]? = some ds[m] := by
  unfold closeD; rw [List.getElem?_append_left h, List.getElem?_eq_getElem h]
theorem closeD_hi {ds : List Nd} {m : Nat} (h : m < ds.length) : (closeD ds)[m + ds.length]? = some (dualN ds.length ds[m]) := by
  unfold closeD; rw [List.getElem?_append_right (by omega)]; simp [h]

theorem dual_at {ds : List Nd} (hg : GrOk' ds) {a : Int} (h0 : 0 ≤ a) {x : Nd} (hx : (closeD ds)[a.toNat]? = some x) : 0 ≤ dl ds.length a ∧ ∃ x', (closeD ds)[(dl ds.length a).toNat]? = some x' ∧ DualOf ds.length x x' := by
  by_cases h : a < ds.length
  · have hm : a.toNat < ds.length := by omega
    rw [closeD_lo hm] at hx
    have hx : ds[a.toNat] = x := Option.some.inj hx
    have hin := (hg.2 _ (List.getElem_mem hm)).node'
    have hd : dl ds.length a = a + ds.length := if_pos h
    refine ⟨by omega, dualN ds.length ds[a.toNat], by rw [hd, show (a + ds.length).toNat = a.toNat + ds.length by omega]; exact closeD_hi hm, ?_⟩
    rw [hx] at hin ⊢
    refine ⟨rfl, rfl, rfl, by simp [dualN], fun j u hu => ?_⟩
    have hu' := hin u (List.mem_of_getElem? hu)
    simp only [dualN, List.getElem?_mapIdx, hu, Option.map_some, dualR]
    rw [show dl ds.length u.node = u.node + ds.length from if_pos hu'.2]
  · obtain ⟨hl, _⟩ := List.getElem?_eq_some_iff.1 hx
    rw [closeD_len] at hl
    have hm : a.toNat - ds.length < ds.length := by omega
    have ha : a.toNat = (a.toNat - ds.length) + ds.length := by omega
    rw [ha, closeD_hi hm] at hx
    have hx : dualN ds.length ds[a.toNat - ds.length] = x := Option.some.inj hx
    have hin := (hg.2 _ (List.getElem_mem hm)).node'
    have hd : dl ds.length a = a - ds.length := if_neg h
    refine ⟨by omega, ds[a.toNat - ds.length], by rw [hd, show (a - ds.length).toNat = a.toNat - ds.length by omega]; exact closeD_lo hm, ?_⟩
    generalize ds[a.toNat - ds.length] = e at hx hin
    subst hx
    refine ⟨(dk_dk' _).symm, rfl, rfl, by simp [dualN], fun j u hu => ?_⟩
    simp only [dualN, List.getElem?_mapIdx, Option.map_eq_some_iff] at hu
    obtain ⟨w, hw, rfl⟩ := hu
    have hw' := hin w (List.mem_of_getElem? hw)
    rw [hw]
    show some w = some (if restB (dk e.kind) j then _ else _)
    rw [rest_dk]
    unfold dualR
    cases hr : restB e.kind j with
    | false => simp
    | true =>
      simp only [if_true]
      rw [show dl ds.length (w.node + ds.length) = w.node by unfold dl; rw [if_neg (by omega)]; omega]

theorem closeOk {ds : List Nd} (hg : GrOk' ds) (hl : ds.length ≤ 137438953472) : GrOk' (closeD ds) := by
  refine ⟨by rw [closeD_len]; omega, fun d hd => ?_⟩
  rw [closeD_len]
  simp only [closeD, List.mem_append, List.mem_map] at hd
  rcases hd with hd | ⟨e, he, rfl⟩
  · exact (hg.2 d hd).weak (fun q hq => by cases hq) (Int.le_refl _) (by omega)
  · have h := hg.2 e he
    have hk := h.k1; have h3 := h.n3; have h5 := h.n5; have h7 := h.n7; have hx := h.nx
    obtain ⟨g1, g2, g3, g4⟩ := dk_67 e.kind
    have hlen : (dualN ds.length e).next.length = e.next.length := by simp [dualN]
    have kk : (dualN ds.length e).kind = dk e.kind := rfl
    have ll : (dualN ds.length e).labels = e.labels := rfl
    have hdk : (e.kind ≤ 3 → dk e.kind = e.kind) ∧ 1 ≤ dk e.kind ∧ dk e.kind ≤ 7 := by
      unfold dk; split <;> (try split) <;> (try split) <;> (try split) <;> omega
    refine ⟨by rw [kk]; omega, h.p, ?_, ?_, ?_, h.ll, h.nd, fun r hr => ?_⟩
    · rw [kk, hlen, ll]; omega
    · rw [kk, hlen, ll]; omega
    · rw [kk, hlen, ll]; omega
    · obtain ⟨j, hj⟩ := List.getElem?_of_mem hr
      simp only [dualN, List.getElem?_mapIdx, Option.map_eq_some_iff] at hj
      obtain ⟨w, hw, rfl⟩ := hj
      have hwm := List.mem_of_getElem? hw
      have hin := h.node' w hwm
      obtain ⟨_, s1, s2⟩ := hx w hwm
      unfold dualR
      split
      · exact ⟨.inr ⟨by show 0 ≤ w.node + _; omega, by show w.node + _ < _; omega⟩, s1, s2⟩
      · exact ⟨.inr ⟨hin.1, by omega⟩, s1, s2⟩


theorem txs_ex {f : Nat} {s : Sig} {t : List PV → T PV} (h : TxOkS P f s t) {K : PV → Prop} {xs : List PV} (hd : (t xs).dt) (hden : (t xs).den0 P K []) (hK : ∀ r, K r → ∃ ys, r = .tup ys) : ∃ ys, K (.tup ys) ∧ OkS P f s xs ys := by
  obtain ⟨r, hr, h1⟩ := den_ex (t xs) hd [] (fun _ => []) (fun _ => rfl) (fun j g ys h => by simp at h) hden
  obtain ⟨ys, rfl⟩ := hK r hr
  exact ⟨ys, hr, h xs ys h1⟩

theorem key_0 (m : Int) {s d s' p : Int} (hd : d = IntKind.i64.wrap (ad p s' - ad p s)) : keyOf false m m (ad s d) s' = ⟨m, m, 0⟩ := by
  unfold keyOf
  have : IntKind.i64.wrap (ad s d - s') = IntKind.i64.wrap 0 := by
    rw [wrap_eq]
    have g1 := wrap_mod (s + d)
    have g2 := wrap_mod (p + s')
    have g3 := wrap_mod (p + s)
    have g4 := wrap_mod (ad p s' - ad p s)
    rw [← hd] at g4
    unfold ad at *
    omega
  simp only [Bool.false_eq_true, if_false, this]; rfl

theorem ok_find_w {ds : List Nd} (hg : GrOk' ds) {rs : List Rf} (hin : ∀ r ∈ rs, InG ds r) (hrl : rs.length ≤ 549755813888) {x : Rf} (hx : InG ds x) (ha : ∀ d, ds[x.node.toNat]? = some d → act d.kind = true) (l : List Nat) :
    ∃ r, Ok P F.readback_reader_find [.box (.agg [.sl (ds.map Nd.enc), .sl (rs.map Rf.enc), mpU l]), x.enc] r ∧ ((∃ (j : Nat) (k : Int), j < rs.length ∧ r = .tup [i (j : Int), i k, .bool true]) ∨ (r = .tup [i 0, i 0, .bool false] ∧ ∀ q (hq : q < rs.length), (rs[q]).node ≠ x.node)) := by
  have := tx_ex (K := fun r => (∃ (j : Nat) (k : Int), j < rs.length ∧ r = .tup [i (j : Int), i k, .bool true]) ∨ (r = .tup [i 0, i 0, .bool false] ∧ ∀ q (hq : q < rs.length), (rs[q]).node ≠ x.node)) k_readback_reader_find (xs := [.box (.agg [.sl (ds.map Nd.enc), .sl (rs.map Rf.enc), mpU l]), x.enc]) rfl (by simp [t_readback_reader_find, T.dt]) (by
    refine d_l x.enc rfl fun _ => d_l (.box (.agg [.sl (ds.map Nd.enc), .sl (rs.map Rf.enc), mpU l])) rfl fun _ => d_l (.agg [.sl (ds.map Nd.enc), .sl (rs.map Rf.enc), mpU l]) rfl fun _ => d_l (i (rs.length : Int)) (by show Prim.len.ev [.sl (rs.map Rf.enc)] = _; rw [e_len, List.length_map]) fun _ => ?_
    refine den_loop (fun m' ys => ∃ j : Nat, j + m' = rs.length ∧ (∀ q (hq : q < rs.length), q < j → (rs[q]).node ≠ x.node) ∧ ys = [i j]) rs.length ⟨0, by omega, (fun q _ h => by omega), rfl⟩ ?_
    rintro m' _ ⟨j, hj, ht, rfl⟩
    refine d_l (.bool (decide ((j : Int) < (rs.length : Int)))) rfl fun _ => d_dec (p := (j : Int) < (rs.length : Int)) (fun h => ?_) fun h => d_ret (.inr ⟨rfl, fun q hq => ht q hq (by omega)⟩)
    have h1 : j < rs.length := by omega
    have rg := hin _ (List.getElem_mem h1)
    obtain ⟨b, oO, hb⟩ := ok_Offset hg (r := rs[j]) (r' := x) rg.1 rg.2 hx.1 hx.2 rfl
    have hat : (rs.map Rf.enc)[j]? = some (rs[j]).enc := by simp [h1]
    refine d_l _ (e_idx hat rfl) fun _ => d_l (rs[j]).enc rfl fun _ => d_l (.box (.agg [.sl (ds.map Nd.enc), .sl (rs.map Rf.enc), mpU l])) rfl fun _ => d_l (.agg [.sl (ds.map Nd.enc), .sl (rs.map Rf.enc), mpU l]) rfl fun _ => d_call oO (d_l _ rfl fun _ => d_l (.bool b) rfl fun _ => d_ite (fun hbt => d_ret (.inl ⟨j, _, h1, rfl⟩)) fun hbf => d_l _ (e_inc (by omega)) fun _ => d_cont rfl ⟨m' - 1, by omega, j + 1, by omega, fun q hq hqj => ?_, rfl⟩)
    by_cases e : q = j
    · subst e
      intro he
      have : b = true := by
        refine hb.2 ?_
        have hn : x.node.toNat < ds.length := by have := hx.1; have := hx.2; omega
        have hd := ha _ (List.getElem?_eq_getElem hn)
        have e1 : pv (Tx.pr ds x) = ad ds[x.node.toNat].prio x.shift := by
          unfold Tx.pr pv; rw [List.getElem?_eq_getElem hn]; simp [hd]
        have e2 : pv (Tx.pr ds rs[q]) = ad ds[x.node.toNat].prio (rs[q]).shift := by
          unfold Tx.pr pv; rw [he, List.getElem?_eq_getElem hn]; simp [hd]
        rw [e1, e2, he, key_0 _ rfl]
        have := eqv_refl hg false hn
        rwa [Int.toNat_of_nonneg hx.1] at this
      rw [this] at hbf; cases hbf
    · exact ht q hq (by omega))
  obtain ⟨r, h1, h2⟩ := this
  exact ⟨r, h2, h1⟩

noncomputable def ndT (d : Nd) (s : Int) (ts : List Ty) : Ty := .mk d.kind (ad d.prio s) ⟨#[]⟩ 0 (srt d.labels) ts
/-- the first node of a normal tree -/
def Root (ds : List Nd) (x : Rf) (t : Ty) : Prop := ∃ d, ds[x.node.toNat]? = some d ∧ ((act d.kind = false ∧ t = litT d.kind) ∨ (act d.kind = true ∧ ∃ ts : List Ty, ts.length = d.next.length ∧ (t = ndT d x.shift ts ∨ ∃ nm, t = .mk 8 0 nm 0 [] [ndT d x.shift ts])))
def WkOk (ds : List Nd) (m : Nat) : Prop := ∀ (rs : List Rf) (x : Rf) (l : List Nat), (∀ r ∈ rs, InG ds r) → (rs.map (·.node)).Nodup → InG ds x → ds.length < rs.length + m →
  ∃ t l', OkS P F.readback_reader_tree sg_readback_reader_tree [x.enc, .sl (ds.map Nd.enc), .sl (rs.map Rf.enc), mpU l] [Ty.enc t, .sl (ds.map Nd.enc), .sl (rs.map Rf.enc), mpU l']
theorem nodes_le {ds : List Nd} {rs : List Rf} (hin : ∀ r ∈ rs, InG ds r) (hnd : (rs.map (·.node)).Nodup) : rs.length ≤ ds.length := by
  have := nodup_leU hnd (U := (List.range ds.length).map fun q : Nat => (q : Int)) fun q hq => by
    obtain ⟨r, hr, rfl⟩ := List.mem_map.1 hq
    obtain ⟨h0, h1⟩ := hin r hr
    exact List.mem_map.2 ⟨r.node.toNat, List.mem_range.2 (by omega), by show ((r.node.toNat : Nat) : Int) = r.node; omega⟩
  simpa using this

section
variable {ds : List Nd} {m : Nat} {rs : List Rf} {x : Rf} {l : List Nat}

theorem plain_w (hg : GrOk' ds) (ih : WkOk ds m) (hin : ∀ r ∈ rs, InG ds r) (hnd : (rs.map (·.node)).Nodup) (hm : ds.length < rs.length + m) {d : Nd} (hx : InG ds x) (hd : ds[x.node.toNat]? = some d) (hno : d.labels = []) :
    ∃ (ts : List Ty) (l' : List Nat), ts.length = d.next.length ∧ OkS P F.readback_reader_plain sg_readback_reader_plain [x.enc, .sl (ds.map Nd.enc), .sl (rs.map Rf.enc), mpU l]
      [.agg [i 0, i 0, .str ⟨#[]⟩, i 0, .sl ((srt d.labels).map .str), .sl (ts.map Ty.enc)], .sl (ds.map Nd.enc), .sl (rs.map Rf.enc), mpU l'] := by
  have hl0 : (srt d.labels).map PV.str = [] := by rw [hno, srt_nil]; rfl
  rw [hl0]
  obtain ⟨nd, sh⟩ := x
  have ha0 : 0 ≤ nd := hx.1
  obtain ⟨a, rfl⟩ : ∃ a : Nat, nd = a := ⟨nd.toNat, by omega⟩
  have hx0 : ds[a]? = some d := hd
  obtain ⟨ha, hda⟩ := List.getElem?_eq_some_iff.1 hx0
  subst hda
  have hno2 := hg.2 _ (List.getElem_mem ha)
  have hnl : (ds[a]).next.length ≤ 549755813888 := hno2.len.2
  have := txs_ex (K := fun r => ∃ (ts : List Ty) (l' : List Nat), ts.length = (ds[a]).next.length ∧ r = .tup [.agg [i 0, i 0, .str ⟨#[]⟩, i 0, .sl [], .sl (ts.map Ty.enc)], .sl (ds.map Nd.enc), .sl (rs.map Rf.enc), mpU l']) m_readback_reader_plain (xs := [(⟨a, sh⟩ : Rf).enc, .sl (ds.map Nd.enc), .sl (rs.map Rf.enc), mpU l]) (by simp [u_readback_reader_plain, T.dt]) (by
    refine d_l (⟨a, sh⟩ : Rf).enc rfl fun _ => d_l _ (e_idx (nd_at ha) (Nd.okc_enc _)) fun _ => d_l (i ((ds[a]).next.length : Int)) (by show Prim.len.ev [.sl ((ds[a]).next.map Rf.enc)] = _; rw [e_len, List.length_map]) fun _ => ?_
    refine den_loop (fun m' ys => ∃ (q : Nat) (ts : List Ty) (l' : List Nat), q + m' = (ds[a]).next.length ∧ ts.length = q ∧ ys = [i q, i 0, i 0, .str ⟨#[]⟩, i 0, .sl [], .sl (ts.map Ty.enc), .sl (ds.map Nd.enc), .sl (rs.map Rf.enc), mpU l']) (ds[a]).next.length ⟨0, [], l, by omega, rfl, rfl⟩ ?_
    rintro m2 _ ⟨q, ts, l', hq, hts, rfl⟩
    refine d_l (.bool (decide ((q : Int) < ((ds[a]).next.length : Int)))) rfl fun _ => d_dec (p := (q : Int) < ((ds[a]).next.length : Int)) (fun h => ?_) fun h => d_ret ⟨ts, l', by omega, rfl⟩
    have hqn : q < (ds[a]).next.length := by omega
    have hnode := hno2.node' _ (List.getElem_mem hqn)
    obtain ⟨t, l2, oT⟩ := ih rs ⟨((ds[a]).next[q]).node, ad ((ds[a]).next[q]).shift sh⟩ l' hin hnd hnode hm
    refine d_call (ok_head_Next ds a ha sh q hqn) (d_l (ref ((ds[a]).next[q]).node (ad ((ds[a]).next[q]).shift sh)) rfl fun _ => d_l (.bool true) rfl fun _ => d_l (ref ((ds[a]).next[q]).node (ad ((ds[a]).next[q]).shift sh)) rfl fun _ => d_calls rfl oT (d_l (.sl [t.enc]) (e_lst fun x hx => by simp at hx; subst hx; exact Ty.okc_enc _) fun _ => d_l _ (e_app (fun x hx => by simp at hx; subst hx; exact Ty.okc_enc _) (by simp; omega) (by simp; omega)) fun _ => d_l _ (e_inc (by omega)) fun _ => d_cont rfl ⟨m2 - 1, by omega, q + 1, ts ++ [t], l2, by omega, by simp [hts], by rw [List.map_append]; rfl⟩))) (fun r ⟨ts, l', _, h⟩ => ⟨_, h⟩)
  obtain ⟨ys, ⟨ts, l', h1, h2⟩, h3⟩ := this
  cases h2
  exact ⟨ts, l', h1, h3⟩

theorem choice_w (hg : GrOk' ds) (ih : WkOk ds m) (hin : ∀ r ∈ rs, InG ds r) (hnd : (rs.map (·.node)).Nodup) (hm : ds.length < rs.length + m) {d : Nd} (hx : InG ds x) (hd : ds[x.node.toNat]? = some d) (hne : d.labels ≠ []) :
    ∃ (ts : List Ty) (l' : List Nat), ts.length = d.next.length ∧ OkS P F.readback_reader_choice sg_readback_reader_choice [x.enc, .sl (ds.map Nd.enc), .sl (rs.map Rf.enc), mpU l]
      [.agg [i 0, i 0, .str ⟨#[]⟩, i 0, .sl ((srt d.labels).map .str), .sl (ts.map Ty.enc)], .sl (ds.map Nd.enc), .sl (rs.map Rf.enc), mpU l'] := by
  obtain ⟨nd, sh⟩ := x
  have ha0 : 0 ≤ nd := hx.1
  obtain ⟨a, rfl⟩ : ∃ a : Nat, nd = a := ⟨nd.toNat, by omega⟩
  have hx0 : ds[a]? = some d := hd
  obtain ⟨ha, hda⟩ := List.getElem?_eq_some_iff.1 hx0
  subst hda
  have hno2 := hg.2 _ (List.getElem_mem ha)
  have hll := hno2.ll
  have hnl : (ds[a]).next.length = (ds[a]).labels.length := hno2.lab (List.length_pos_iff.2 hne)
  obtain ⟨s1, s2, s3, _⟩ := srt_spec hno2.nd hll
  have oLs := ok_head_Labels a ha sh hno2.nd hne hll
  have := txs_ex (K := fun r => ∃ (ts : List Ty) (l' : List Nat), ts.length = (ds[a]).next.length ∧ r = .tup [.agg [i 0, i 0, .str ⟨#[]⟩, i 0, .sl ((srt (ds[a]).labels).map .str), .sl (ts.map Ty.enc)], .sl (ds.map Nd.enc), .sl (rs.map Rf.enc), mpU l']) m_readback_reader_choice (xs := [(⟨a, sh⟩ : Rf).enc, .sl (ds.map Nd.enc), .sl (rs.map Rf.enc), mpU l]) (by simp [u_readback_reader_choice, T.dt]) (by
    refine d_l (⟨a, sh⟩ : Rf).enc rfl fun _ => d_call oLs (d_l .nilI rfl fun _ => d_l _ (len_str (srt (ds[a]).labels)) fun _ => ?_)
    refine den_loop (fun m' ys => ∃ (q : Nat) (ts : List Ty) (l' : List Nat), q + m' = (srt (ds[a]).labels).length ∧ ts.length = q ∧ ys = [i q, i 0, i 0, .str ⟨#[]⟩, i 0, .sl ((srt (ds[a]).labels).map .str), .sl (ts.map Ty.enc), .sl (ds.map Nd.enc), .sl (rs.map Rf.enc), mpU l']) (srt (ds[a]).labels).length ⟨0, [], l, by omega, rfl, rfl⟩ ?_
    rintro m2 _ ⟨q, ts, l', hq, hts, rfl⟩
    refine d_l (.bool (decide ((q : Int) < ((srt (ds[a]).labels).length : Int)))) rfl fun _ => d_dec (p := (q : Int) < ((srt (ds[a]).labels).length : Int)) (fun h => ?_) fun h => d_ret ⟨ts, l', by omega, rfl⟩
    have hqs : q < (srt (ds[a]).labels).length := by omega
    obtain ⟨q', v, g1, g2, oL⟩ := ok_head_Label' hg a ha sh (srt (ds[a]).labels)[q] ((s2 _).1 (List.getElem_mem hqs))
    have hnode := hno2.node' _ (List.mem_of_getElem? g2)
    obtain ⟨t, l2, oT⟩ := ih rs ⟨v.node, ad v.shift sh⟩ l' hin hnd hnode hm
    refine d_l _ (e_idx (str_at hqs) rfl) fun _ => d_call oL (d_l (ref v.node (ad v.shift sh)) rfl fun _ => d_l (.bool true) rfl fun _ => d_l (ref v.node (ad v.shift sh)) rfl fun _ => d_calls rfl oT (d_l (.sl [t.enc]) (e_lst fun x hx => by simp at hx; subst hx; exact Ty.okc_enc _) fun _ => d_l _ (e_app (fun x hx => by simp at hx; subst hx; exact Ty.okc_enc _) (by simp; omega) (by simp; omega)) fun _ => d_l _ (e_inc (by omega)) fun _ => d_cont rfl ⟨m2 - 1, by omega, q + 1, ts ++ [t], l2, by omega, by simp [hts], by rw [List.map_append]; rfl⟩))) (fun r ⟨ts, l', _, h⟩ => ⟨_, h⟩)
  obtain ⟨ys, ⟨ts, l', h1, h2⟩, h3⟩ := this
  cases h2
  exact ⟨ts, l', h1, h3⟩
end

theorem tree_w {ds : List Nd} {m : Nat} (hg : GrOk' ds) (hL : ds.length ≤ 98) (ih : WkOk ds m) (rs : List Rf) (x : Rf) (l : List Nat) (hin : ∀ r ∈ rs, InG ds r) (hnd : (rs.map (·.node)).Nodup) (hx : InG ds x) (hm : ds.length < rs.length + (m + 1)) (R : PV → PV → PV → PV → PV) :
    (treeTx x.enc (.sl (ds.map Nd.enc)) (.sl (rs.map Rf.enc)) (mpU l) R).den0 P (fun r => ∃ t l', r = R (Ty.enc t) (.sl (ds.map Nd.enc)) (.sl (rs.map Rf.enc)) (mpU l') ∧ (rs = [] → Root ds x t)) [] := by
  have hrl := nodes_le hin hnd
  obtain ⟨nd, sh⟩ := x
  have ha0 : 0 ≤ nd := hx.1
  obtain ⟨a, rfl⟩ : ∃ a : Nat, nd = a := ⟨nd.toNat, by omega⟩
  have ha : a < ds.length := by have : (a : Int) < ds.length := hx.2; omega
  have hd : ds[((⟨a, sh⟩ : Rf).node).toNat]? = some ds[a] := List.getElem?_eq_getElem ha
  have hno := hg.2 _ (List.getElem_mem ha)
  have oP := ok_head_Prio' hx
  have oK := ok_head_Kind' ds a ha sh
  have hprv : Tx.pr ds ⟨a, sh⟩ = if act (ds[a]).kind then some (ad (ds[a]).prio sh) else none := by
    unfold Tx.pr; rw [hd]
  unfold treeTx
  cases hact : act (ds[a]).kind with
  | false =>
    rw [hprv, hact] at oP
    refine d_l (⟨a, sh⟩ : Rf).enc rfl fun _ => d_call oP (d_l (i 0) rfl fun _ => d_l (.bool false) rfl fun _ => d_l (.bool true) rfl fun _ => d_true (d_call oK (d_l .nilI rfl fun _ => d_ret ⟨litT (ds[a]).kind, l, by rw [litT, Ty.enc_mk]; rfl, fun _ => ⟨_, hd, .inl ⟨hact, rfl⟩⟩⟩)))
  | true =>
    rw [hprv, hact] at oP
    obtain ⟨r, oF, hr⟩ := ok_find_w hg hin (by omega) hx (fun d h => by rw [hd] at h; cases h; exact hact) l
    refine d_l (⟨a, sh⟩ : Rf).enc rfl fun _ => d_call oP (d_l (i (ad (ds[a]).prio sh)) rfl fun _ => d_l (.bool true) rfl fun _ => d_l (.bool false) rfl fun _ => d_false (d_call oF ?_))
    rcases hr with ⟨j, k, hj, rfl⟩ | ⟨rfl, hfr⟩
    · refine d_l (.tup [i (j : Int), i k, .bool true]) rfl fun _ => d_l (i (j : Int)) rfl fun _ => d_l (i k) rfl fun _ => d_l (.bool true) rfl fun _ => d_true (d_l (mpU (insU l j)) (ev_setU l j) fun _ => d_call (ok_name (by omega)) (d_l .nilI rfl fun _ => d_ret ⟨varT j k, insU l j, by rw [varT, Ty.enc_mk]; rfl, fun h => by rw [h] at hj; simp at hj⟩))
    · have hmore : (rs ++ [(⟨a, sh⟩ : Rf)]).map Rf.enc = rs.map Rf.enc ++ [(⟨a, sh⟩ : Rf).enc] := by simp
      have hin2 : ∀ r ∈ rs ++ [(⟨a, sh⟩ : Rf)], InG ds r := fun r hr => by
        rcases List.mem_append.1 hr with h | h
        · exact hin r h
        · rw [List.mem_singleton.1 h]; exact hx
      have hnd2 : ((rs ++ [(⟨a, sh⟩ : Rf)]).map (·.node)).Nodup := by
        rw [List.map_append, List.nodup_append]
        refine ⟨hnd, by simp, ?_⟩
        rintro p hp q hq rfl
        obtain ⟨r, hr, rfl⟩ := List.mem_map.1 hp
        obtain ⟨z, hz, rfl⟩ := List.getElem_of_mem hr
        simp only [List.map_cons, List.map_nil, List.mem_singleton] at hq
        exact hfr z hz hq
      have hlen2 : (rs ++ [(⟨a, sh⟩ : Rf)]).length = rs.length + 1 := by simp
      have fin : ∀ (f : Nat) (ts : List Ty) (l' : List Nat), ts.length = (ds[a]).next.length → OkS P f sg_readback_reader_tree [(⟨a, sh⟩ : Rf).enc, .sl (ds.map Nd.enc), .sl ((rs ++ [(⟨a, sh⟩ : Rf)]).map Rf.enc), mpU l]
          [.agg [i 0, i 0, .str ⟨#[]⟩, i 0, .sl ((srt (ds[a]).labels).map .str), .sl (ts.map Ty.enc)], .sl (ds.map Nd.enc), .sl ((rs ++ [(⟨a, sh⟩ : Rf)]).map Rf.enc), mpU l'] →
          (Lf.T.callvs (.fn f [] []) sg_readback_reader_tree [(⟨a, sh⟩ : Rf).enc, .sl (ds.map Nd.enc), .sl ((rs ++ [(⟨a, sh⟩ : Rf)]).map Rf.enc), mpU l] fun z16 =>
   .l (.okc 6 true) [(n z16 0)] fun x17 =>
   .call F.head_Kind [(.agg [(n z16 1)]), (⟨a, sh⟩ : Rf).enc] fun x18 =>
   .l (.okc 1 false) [x18] fun x19 =>
   .l (.okc 1 false) [i (ad (ds[a]).prio sh)] fun x20 =>
   .l (.slcT 2 true) [(n z16 2), i (rs.length : Int)] fun x21 =>
   .l (.mget false [.i .i64] (.bool false)) [(n z16 3), i (rs.length : Int)] fun x22 =>
   .ite x22 (
    .l (.mdel false [.i .i64]) [(n z16 3), i (rs.length : Int)] fun x23 =>
    .call F.readback_name [i (rs.length : Int)] fun x24 =>
    .l (.lst 6 true) [(.agg [x19, x20, (c 2 x17), (c 3 x17), (c 4 x17), (c 5 x17)])] fun x25 =>
    .l (.okcs [(1, false)]) [x24] fun x26 =>
    .ret (R (.agg [(i 8), (i 0), x24, (i 0), (.sl []), x25]) (n z16 1) x21 x23)) (
    .ret (R (.agg [x19, x20, (c 2 x17), (c 3 x17), (c 4 x17), (c 5 x17)]) (n z16 1) x21 (n z16 3)))).den0 P (fun r => ∃ t l', r = R (Ty.enc t) (.sl (ds.map Nd.enc)) (.sl (rs.map Rf.enc)) (mpU l') ∧ (rs = [] → Root ds ⟨a, sh⟩ t)) [] := by
        intro f ts l' hts hf'
        have hsl : (Prim.slcT 2 true).ev [.sl ((rs ++ [(⟨a, sh⟩ : Rf)]).map Rf.enc), i (rs.length : Int)] = some (.sl (rs.map Rf.enc)) := by
          have := e_slcT (n := 2) (a := true) (l := (rs ++ [(⟨a, sh⟩ : Rf)]).map Rf.enc) (k := rs.length) (fun x hx => by obtain ⟨t, _, rfl⟩ := List.mem_map.1 hx; rfl) (by simp)
          rw [this, ← List.map_take, List.take_left']; rfl
        have hgt := ev_getU l' rs.length
        have hen : (ndT (ds[a]) sh ts).enc = .agg [i (ds[a]).kind, i (ad (ds[a]).prio sh), .str ⟨#[]⟩, i 0, .sl ((srt (ds[a]).labels).map .str), .sl (ts.map Ty.enc)] := by rw [ndT, Ty.enc_mk]
        refine d_callvs rfl hf' (d_l (.agg [i 0, i 0, .str ⟨#[]⟩, i 0, .sl ((srt (ds[a]).labels).map .str), .sl (ts.map Ty.enc)]) rfl fun _ => d_call oK (d_l (i (ds[a]).kind) rfl fun _ => d_l (i (ad (ds[a]).prio sh)) rfl fun _ => d_l _ hsl fun _ => d_l _ hgt fun _ => d_ite (fun hb => ?_) fun hb => ?_))
        · refine d_l _ (ev_delU _ _) fun _ => d_call (ok_name (by omega)) (d_l (.sl [(ndT (ds[a]) sh ts).enc]) (by rw [hen]; exact e_lst fun x hx => by simp at hx; subst hx; rfl) fun _ => d_l .nilI rfl fun _ => d_ret ⟨.mk 8 0 (nmB rs.length) 0 [] [ndT (ds[a]) sh ts], l'.erase rs.length, ?_, fun _ => ⟨_, hd, .inr ⟨hact, ts, hts, .inr ⟨_, rfl⟩⟩⟩⟩)
          rw [Ty.enc_mk]; rfl
        · exact d_ret ⟨ndT (ds[a]) sh ts, l', by rw [hen]; rfl, fun _ => ⟨_, hd, .inr ⟨hact, ts, hts, .inl rfl⟩⟩⟩
      have hnda : (Prim.idx 4 true).ev [.sl (ds.map Nd.enc), i (a : Int)] = some (ds[a]).enc := e_idx (nd_at ha) (Nd.okc_enc _)
      refine d_l (.tup [i 0, i 0, .bool false]) rfl fun _ => d_l (i 0) rfl fun _ => d_l (i 0) rfl fun _ => d_l (.bool false) rfl fun _ => d_false (d_l (i (rs.length : Int)) (by show Prim.len.ev [.sl (rs.map Rf.enc)] = _; rw [e_len, List.length_map]) fun _ => d_l (.sl [(⟨a, sh⟩ : Rf).enc]) rfl fun _ => d_l (.sl ((rs ++ [(⟨a, sh⟩ : Rf)]).map Rf.enc)) (by
        rw [hmore]
        exact e_app (fun x hx => by simp at hx; subst hx; rfl) (by simp; omega) (by simp; omega)) fun _ => d_l _ hnda fun _ => d_l (i ((ds[a]).labels.length : Int)) (by show Prim.len.ev [.sl ((ds[a]).labels.map .str)] = _; exact len_str _) fun _ => d_l (.bool (decide (((ds[a]).labels.length : Int) > 0))) rfl fun _ => d_dec (p := ((ds[a]).labels.length : Int) > 0) (fun hl0 => ?_) fun hl0 => ?_)
      · obtain ⟨ts, l', h1, h2⟩ := choice_w (l := l) hg ih hin2 hnd2 (by omega) hx hd (fun c => by rw [c] at hl0; simp at hl0)
        exact fin _ ts l' h1 h2
      · obtain ⟨ts, l', h1, h2⟩ := plain_w (l := l) hg ih hin2 hnd2 (by omega) hx hd (List.eq_nil_of_length_eq_zero (by omega))
        exact fin _ ts l' h1 h2

theorem wk_ok {ds : List Nd} (hg : GrOk' ds) (hL : ds.length ≤ 98) : ∀ m, WkOk ds m := by
  intro m
  induction m with
  | zero => intro rs x l hin hnd _ hm; have := nodes_le hin hnd; omega
  | succ m ih =>
    intro rs x l hin hnd hx hm
    have := tree_w hg hL ih rs x l hin hnd hx hm fun t g r m => .tup [t, g, r, m]
    rw [← u_tree_eq] at this
    obtain ⟨ys, ⟨t, l', h1, _⟩, h2⟩ := txs_ex m_readback_reader_tree (by simp [u_readback_reader_tree, T.dt]) this (fun r ⟨t, l', h, _⟩ => ⟨_, h⟩)
    cases h1
    exact ⟨t, l', h2⟩
theorem ok_Normal_w {ds : List Nd} (hg : GrOk' ds) (hL : ds.length ≤ 98) {x : Rf} (hx : InG ds x) : ∃ t, Ok P F.readback_Normal [.agg [.sl (ds.map Nd.enc)], x.enc] (Ty.enc t) ∧ Root ds x t := by
  have := tree_w hg hL (wk_ok hg hL ds.length) [] x [] (fun r h => by cases h) List.nodup_nil hx (by simp) fun t _ _ _ => .tup [t]
  rw [show mpU [] = .mp [] [] from rfl, show ([] : List Rf).map Rf.enc = [] from rfl, ← u_treeN_eq] at this
  obtain ⟨ys, ⟨t, l', h1, hr⟩, o⟩ := txs_ex m_readback_reader_tree_Nil (by simp [u_readback_reader_tree_Nil, T.dt]) this (fun r ⟨t, l', h, _⟩ => ⟨_, h⟩)
  cases h1
  exact ⟨t, k_readback_Normal _ _ rfl (d_l (.agg [.sl (ds.map Nd.enc)]) rfl fun _ => d_l x.enc rfl fun _ => d_l .nilI rfl fun _ => d_calls rfl o (d_l _ (e_okc (Ty.okc_enc _)) fun _ => d_ret rfl)), hr rfl⟩
end Go.Proofs.YtopinhoalbgebaaGreatDoor.Tx

/- The law of duals (2). -/
namespace Go.Proofs.YtopinhoalbgebaaGreatDoor.Tx
open Go.Lf Go.Lf.S Go.Lf.Duo
set_option maxRecDepth 100000

structure Opp (X Y : Ty) : Prop where
  x8 : X.kind ≠ 8
  y8 : Y.kind ≠ 8
  k : X.kind = dk Y.kind
  p : X.prio = Y.prio
  l : X.labels.length = Y.labels.length
  n : X.kids.length = Y.kids.length
theorem opp_tail {X Y : Ty} (h : Opp X Y) (x y : PV) (hx : x = X.enc) (hy : y = Y.enc) {hs : List (List PV → Prop)} :
    (Lf.T.call F.dual_Kind [(c 0 y)] fun x8 =>
     .l (.cmp .eql .i64) [(c 0 x), x8] fun x9 =>
     .ite x9 (
      .l (.cmp .eql .i64) [(c 1 x), (c 1 y)] fun x10 =>
      .ite x10 (
       .l .len [(c 4 x)] fun x11 =>
       .l .len [(c 4 y)] fun x12 =>
       .l (.cmp .eql .i64) [x11, x12] fun x13 =>
       .ite x13 (
        .l .len [(c 5 x)] fun x14 =>
        .l .len [(c 5 y)] fun x15 =>
        .l (.cmp .eql .i64) [x14, x15] fun x16 =>
        .ret x16) (
        .ret (.bool false))) (
       .ret (.bool false))) (
      .ret (.bool false))).den0 P (· = .bool true) hs := by
  subst hx hy
  have hk := ok_dual_Kind Y.kind
  have e : ∀ a b : Int, a = b → (Prim.cmp .eql .i64).ev [i a, i b] = some (.bool true) := fun a b hab => by
    show some (PV.bool (decide (a = b))) = _
    rw [hab]; simp
  simp only [ty0, ty1, ty4, ty5]
  exact d_call hk (d_l _ (e _ _ h.k) fun _ => d_true (d_l _ (e _ _ h.p) fun _ => d_true (d_l _ (len_str _) fun _ => d_l _ (len_str _) fun _ => d_l _ (e _ _ (by rw [h.l])) fun _ => d_true (d_l _ (len_ty _) fun _ => d_l _ (len_ty _) fun _ => d_l _ (e _ _ (by rw [h.n])) fun _ => d_ret rfl))))
theorem ok_opposite {X Y a b : Ty} (h : Opp X Y) (ha : a = X ∨ ∃ nm, a = .mk 8 0 nm 0 [] [X]) (hb : b = Y ∨ ∃ nm, b = .mk 8 0 nm 0 [] [Y]) : Ok P F.law12_opposite [a.enc, b.enc] (.bool true) := by
  have k8 : ∀ t : Ty, (Prim.cmp .eql .i64).ev [c 0 t.enc, i 8] = some (.bool (decide (t.kind = 8))) := fun t => by rw [ty0]; rfl
  have l1 : ∀ (nm : ByteArray) (X : Ty), Prim.len.ev [c 5 (Ty.mk 8 0 nm 0 [] [X]).enc] = some (i 1) := fun nm X => by rw [ty5]; rfl
  have i0 : ∀ (nm : ByteArray) (X : Ty), (Prim.idx 6 true).ev [c 5 (Ty.mk 8 0 nm 0 [] [X]).enc, i 0] = some X.enc := fun nm X => by rw [ty5]; exact e_idx (k := 0) rfl (Ty.okc_enc X)
  have t11 : (Prim.cmp .eql .i64).ev [i 1, i 1] = some (.bool true) := rfl
  have t8 : ∀ (nm : ByteArray) (X : Ty), (Prim.cmp .eql .i64).ev [c 0 (Ty.mk 8 0 nm 0 [] [X]).enc, i 8] = some (.bool true) := fun nm X => by rw [k8]; rfl
  have fX : (Prim.cmp .eql .i64).ev [c 0 X.enc, i 8] = some (.bool false) := by rw [k8, decide_eq_false h.x8]
  have fY : (Prim.cmp .eql .i64).ev [c 0 Y.enc, i 8] = some (.bool false) := by rw [k8, decide_eq_false h.y8]
  refine k_law12_opposite _ _ rfl (d_l _ (e_okc (Ty.okc_enc a)) fun _ => d_l _ (e_okc (Ty.okc_enc b)) fun _ => ?_)
  refine den_loop (fun m ys => (m = 1 ∧ ys = [a.enc, b.enc]) ∨ (m = 0 ∧ ys = [X.enc, Y.enc])) 1 (.inl ⟨rfl, rfl⟩) ?_
  rintro m ys (⟨rfl, rfl⟩ | ⟨rfl, rfl⟩)
  · rcases ha with rfl | ⟨na, rfl⟩
    · rcases hb with rfl | ⟨nb, rfl⟩
      · exact d_l _ fX fun _ => d_false (d_l _ fX fun _ => d_false (d_l _ fY fun _ => d_false (opp_tail h _ _ rfl rfl)))
      · exact d_l _ fX fun _ => d_false (d_l _ fX fun _ => d_false (d_l _ (t8 nb Y) fun _ => d_true (d_l _ (l1 nb Y) fun _ => d_l _ t11 fun _ => d_true (d_l _ (i0 nb Y) fun _ => d_l _ (e_okc (Ty.okc_enc Y)) fun _ => opp_tail h _ _ rfl rfl))))
    · rcases hb with rfl | ⟨nb, rfl⟩
      · exact d_l _ (t8 na X) fun _ => d_true (d_l _ fY fun _ => d_false (d_l _ (t8 na X) fun _ => d_true (d_l _ (l1 na X) fun _ => d_l _ t11 fun _ => d_true (d_l _ (i0 na X) fun _ => d_l _ (e_okc (Ty.okc_enc X)) fun _ => d_l _ fY fun _ => d_false (opp_tail h _ _ rfl rfl)))))
      · exact d_l _ (t8 na X) fun _ => d_true (d_l _ (t8 nb Y) fun _ => d_true (d_l _ (l1 na X) fun _ => d_l _ t11 fun _ => d_true (d_l _ (l1 nb Y) fun _ => d_l _ t11 fun _ => d_true (d_l _ (i0 na X) fun _ => d_l _ (e_okc (Ty.okc_enc X)) fun _ => d_l _ (i0 nb Y) fun _ => d_l _ (e_okc (Ty.okc_enc Y)) fun _ => d_cont rfl ⟨0, by omega, .inr ⟨rfl, rfl⟩⟩))))
  · exact d_l _ fX fun _ => d_false (d_l _ fX fun _ => d_false (d_l _ fY fun _ => d_false (opp_tail h _ _ rfl rfl)))

theorem rt_close {ds : List Nd} {r : Rf} {T : Ty} (h : RT ds r T) : RT (closeD ds) r T := by
  refine ⟨RT ds, h, fun r T h => ?_⟩
  obtain ⟨h0, u, d, h1, h2, h3⟩ := h.step
  obtain ⟨hl, hd⟩ := List.getElem?_eq_some_iff.1 h2
  exact ⟨h0, u, d, h1, by rw [closeD_lo hl, hd], h3⟩
theorem root_opp {ds : List Nd} (hg : GrOk' ds) {s : Int} {tx ty : Ty} (hx : Root (closeD ds) ⟨(0 + ds.length : Nat), s⟩ tx) (hy : Root (closeD ds) ⟨(0 : Nat), s⟩ ty) (h0 : 0 < ds.length) :
    ∃ X Y, Opp X Y ∧ (tx = X ∨ ∃ nm, tx = .mk 8 0 nm 0 [] [X]) ∧ (ty = Y ∨ ∃ nm, ty = .mk 8 0 nm 0 [] [Y]) := by
  obtain ⟨d1, e1, c1⟩ := hx
  obtain ⟨d0, e0, c0⟩ := hy
  obtain ⟨_, d1', e1', hD⟩ := dual_at hg (a := 0) (by omega) (x := d0) (by simpa using e0)
  have hdl : dl ds.length 0 = ds.length := by unfold dl; rw [if_pos (by omega)]; omega
  rw [hdl] at e1'
  have e1 : (closeD ds)[((0 + ds.length : Nat) : Int).toNat]? = some d1 := e1
  rw [show (((0 + ds.length : Nat) : Int)).toNat = ((ds.length : Nat) : Int).toNat by simp] at e1
  rw [e1] at e1'
  obtain rfl : d1 = d1' := Option.some.inj e1'
  have k0 : 1 ≤ d0.kind ∧ d0.kind ≤ 7 := by
    have : d0 = ds[0] := by
      have e0 : (closeD ds)[0]? = some d0 := by simpa using e0
      rw [closeD_lo h0] at e0
      exact (Option.some.inj e0).symm
    rw [this]
    exact (hg.2 _ (List.getElem_mem h0)).k1
  have hk : d1.kind = dk d0.kind := hD.k
  have ha : act d1.kind = act d0.kind := by rw [hk, act_dk]
  have k1 : d1.kind ≠ 8 := by
    rw [hk]; unfold dk; split <;> (try split) <;> (try split) <;> (try split) <;> omega
  rcases c0 with ⟨a0, rfl⟩ | ⟨a0, ts0, n0, c0⟩
  · rcases c1 with ⟨a1, rfl⟩ | ⟨a1, _⟩
    · exact ⟨litT d1.kind, litT d0.kind, ⟨k1, by show d0.kind ≠ 8; omega, hk, rfl, rfl, rfl⟩, .inl rfl, .inl rfl⟩
    · rw [ha, a0] at a1; cases a1
  · rcases c1 with ⟨a1, _⟩ | ⟨a1, ts1, n1, c1⟩
    · rw [ha, a0] at a1; cases a1
    · refine ⟨ndT d1 s ts1, ndT d0 s ts0, ⟨k1, by show d0.kind ≠ 8; omega, hk, ?_, ?_, ?_⟩, c1, c0⟩
      · show ad d1.prio s = ad d0.prio s
        rw [hD.p]
      · show (srt d1.labels).length = (srt d0.labels).length
        rw [hD.l]
      · show ts1.length = ts0.length
        rw [n1, n0, hD.nl]

theorem ok_law12_ReadbackDuals (aw : Ok P F.law12_awake [] (.bool true)) (t : Ty) (ht : Lim t) : Ok P F.law12_ReadbackDuals [t.enc] (.bool true) := by
  obtain ⟨b, s, w⟩ := ok_ref02_Small t ht 12 (by omega) (by omega)
  have oSe := ok_ref02_Session t
  refine k_law12_ReadbackDuals _ _ rfl (d_l _ (e_okc (Ty.okc_enc t)) fun _ => d_call aw (d_l (.bool false) rfl fun _ => d_false (d_call s (d_l (.bool !b) rfl fun _ => d_ite (fun _ => d_call aw (d_ret rfl)) fun h1 => d_call oSe (d_l (.bool (!decide (t.kind ≠ 1 ∧ t.kind ≠ 2))) rfl fun _ => d_ite (fun _ => d_call aw (d_ret rfl)) fun _ => ?_)))))
  obtain ⟨hz, hw⟩ := w (by simpa using h1)
  have hlen := occL_len [] [] t
  have ct : CL (occL [] [] t) 12 t := cl_topE hw (by omega) fun x hx => hx
  have hL : (occL [] [] t).length ≤ 99 := by omega
  generalize occL [] [] t = L at *
  obtain ⟨ds, rs, _, oG, hgr, hrl, hrs, hdf, hrf⟩ := built' [t] 1 12 (by simp) (by omega) (by
    intro x hx
    obtain rfl := List.mem_singleton.1 hx
    exact ⟨by omega, hw⟩)
  obtain ⟨_, g2, g3⟩ := one_graph hw (by omega)
  rw [← hdf] at g3
  rw [← hrf] at g2
  subst g2
  have hg : GrOk' ds := hgr
  have hdl : ds.length ≤ 12 := by
    rw [hdf]
    have := gcs_le [t]
    have hb := belows_len [t] [] 0 (fun x hx => by obtain rfl := List.mem_singleton.1 hx; exact hw) 0 [] []
    simp only [Ty.szs] at this
    omega
  have h0 : 0 < ds.length := by have := g3.inG; have : (0 : Int) < ds.length := this.2; omega
  have hgc := closeOk hg (by omega)
  have oC := ok_dual_Close ds (GrOk.close hg)
  have hclen : (((closeD ds).map Nd.enc).length : Int) = ((2 * ds.length : Nat) : Int) := by rw [List.length_map, closeD_len]
  have oO := ok_dual_Of ds (by omega) 0 h0 false 0
  have oB := ok_dual_Of ds (by omega) 0 h0 true 0
  have sf : side ds.length 0 false = 0 := rfl
  have st : side ds.length 0 true = 0 + ds.length := rfl
  rw [sf, show (!false) = true from rfl, st] at oO
  rw [st, show (!true) = false from rfl, sf] at oB
  have inD : InG (closeD ds) ⟨((0 + ds.length : Nat) : Int), 0⟩ := ⟨Int.natCast_nonneg _, by show ((0 + ds.length : Nat) : Int) < _; rw [closeD_len]; omega⟩
  have in0 : InG (closeD ds) ⟨((0 : Nat) : Int), 0⟩ := ⟨Int.natCast_nonneg _, by show ((0 : Nat) : Int) < _; rw [closeD_len]; omega⟩
  obtain ⟨tx, oX, rX⟩ := ok_Normal_w hgc (by rw [closeD_len]; omega) inD
  obtain ⟨ty, oY, rY⟩ := ok_Normal_w hgc (by rw [closeD_len]; omega) in0
  have oN := ok_Normal (m := L.length) hgc (by omega) hL (by omega) ct (rt_close g3)
  have oR := ok_ref12_Normal (m := L.length) (show 12 ≤ 1000 by omega) hL (by omega) ct
  have oS := ok_same (nmT (L.length + 1) [] t) (nmT (L.length + 1) [] t) (nmT_ln (show 12 ≤ 549755813888 by omega) _ _ _ ct)
  rw [dq_t rfl] at oS
  obtain ⟨X, Y, hop, hX, hY⟩ := root_opp hg rX rY h0
  have oOp := ok_opposite hop hX hY
  have hds : Prim.len.ev [.sl (ds.map Nd.enc)] = some (i (ds.length : Int)) := by rw [e_len, List.length_map]
  have hcs : Prim.len.ev [.sl ((closeD ds).map Nd.enc)] = some (i ((2 * ds.length : Nat) : Int)) := by rw [← hclen]; exact e_len
  have hne : (Prim.cmp .neq .i64).ev [i ((2 * ds.length : Nat) : Int), i ((2 * ds.length : Nat) : Int)] = some (.bool false) := by
    show some (PV.bool (!decide _)) = _
    simp
  have hac : (Prim.acmp .eql [.i .i64, .i .i64]).ev [.agg [i ((0 : Nat) : Int), i 0], (⟨0, 0⟩ : Rf).enc] = some (.bool true) := by kernel_rfl
  refine d_l (.sl ([t].map Ty.enc)) (e_lst fun x hx => by simp at hx; subst hx; exact Ty.okc_enc _) fun _ => d_call oG (d_l (.agg [.sl (ds.map Nd.enc)]) rfl fun _ => d_l (.sl [(⟨0, 0⟩ : Rf).enc]) rfl fun _ => d_l (.agg [.sl (ds.map Nd.enc)]) rfl fun _ => d_call oC (d_l (.agg [.sl ((closeD ds).map Nd.enc)]) rfl fun _ => d_l _ hcs fun _ => d_l _ hds fun _ => d_l _ (e_mul2 (by omega)) fun _ => d_l _ hne fun _ => d_false (d_l (⟨0, 0⟩ : Rf).enc rfl fun _ => d_call oO (d_l (.agg [i ((0 + ds.length : Nat) : Int), i 0]) rfl fun _ => d_l (.bool (decide (((0 + ds.length : Nat) : Int) < 0))) rfl fun _ => d_dec (fun h => absurd h (by omega)) fun _ => d_l _ hcs fun _ => d_l (.bool (decide (((0 + ds.length : Nat) : Int) ≥ ((2 * ds.length : Nat) : Int)))) rfl fun _ => d_dec (fun h => absurd h (by omega)) fun _ =>
    d_call oX (d_l _ (e_okc (Ty.okc_enc _)) fun _ => d_call oB (d_l (.agg [i ((0 : Nat) : Int), i 0]) rfl fun _ => d_l (⟨0, 0⟩ : Rf).enc rfl fun _ => d_l _ hac fun _ => d_true (d_call oN (d_call oR (d_call oS (d_true (d_l (⟨0, 0⟩ : Rf).enc rfl fun _ => d_call oY (d_call oOp (d_ret rfl)))))))))))))
end Go.Proofs.YtopinhoalbgebaaGreatDoor.Tx

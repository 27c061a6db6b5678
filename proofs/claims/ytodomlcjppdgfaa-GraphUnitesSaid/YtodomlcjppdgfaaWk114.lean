/- The law: raising a reference raises the references behind it, and the least priority. -/
import Derived.Test.YtodomlcjppdgfaaWk113
import Derived.Test.YtodomlcjppdgfaaWk30
set_option linter.all false
namespace Go.Proofs.Ytodomlcjppdgfaa.Tx
open Go.Lf Go.Lf.S Go.Lf.Duo
set_option maxRecDepth 100000

/-- a rest of a node; where a path leads -/
def nxR (ds : List Nd) (r : Rf) (p : Int) : Option Rf := match ds[r.node.toNat]? with
  | some d => if 0 ≤ p then (match d.next[p.toNat]? with
    | some v => some ⟨v.node, ad v.shift r.shift⟩
    | none => none) else none
  | none => none
def aftR (ds : List Nd) : Rf → List Int → Option Rf
  | r, [] => some r
  | r, p :: ps => match nxR ds r p with
    | some r' => aftR ds r' ps
    | none => none
def Gr8 (ds : List Nd) : Prop := ds.length ≤ 274877906944 ∧ ∀ d ∈ ds, ∀ r ∈ d.next, 0 ≤ r.node ∧ r.node < ds.length

theorem ok_Next8 {ds : List Nd} {r : Rf} (h : InG ds r) (p : Int) : Ok P F.head_Next [.agg [.sl (ds.map Nd.enc)], r.enc, i p] (match nxR ds r p with
    | some x => .tup [x.enc, .bool true]
    | none => .tup [.agg [i 0, i 0], .bool false]) := by
  obtain ⟨h1, h2⟩ := h
  have hn : r.node = ((r.node.toNat : Nat) : Int) := by omega
  have ha : r.node.toNat < ds.length := by omega
  have hre : r.enc = .agg [i ((r.node.toNat : Nat) : Int), i r.shift] := by rw [← hn]; rfl
  unfold nxR
  rw [List.getElem?_eq_getElem ha, hre]
  simp only
  by_cases h0 : 0 ≤ p
  · rw [if_pos h0]
    by_cases hl : p.toNat < ds[r.node.toNat].next.length
    · rw [List.getElem?_eq_getElem hl]
      have := ok_head_Next ds r.node.toNat ha r.shift p.toNat hl
      rw [show ((p.toNat : Nat) : Int) = p by omega] at this
      exact this
    · rw [List.getElem?_eq_none (by omega)]
      exact ok_head_Next_no ds r.node.toNat ha r.shift p (.inr (by omega))
  · rw [if_neg h0]
    exact ok_head_Next_no ds r.node.toNat ha r.shift p (.inl (by omega))
theorem nxR_in {ds : List Nd} (hg : Gr8 ds) {r x : Rf} {p : Int} (h : nxR ds r p = some x) : InG ds x := by
  unfold nxR at h
  split at h
  · rename_i d hd
    split at h
    · split at h
      · rename_i v hv
        cases h
        exact hg.2 d (List.mem_of_getElem? hd) v (List.mem_of_getElem? hv)
      · cases h
    · cases h
  · cases h

theorem int_at {ps : List Int} {j : Nat} (h : j < ps.length) : (ps.map i)[j]? = some (i ps[j]) := by simp [h]
theorem ok_After8 {ds : List Nd} (hg : Gr8 ds) {r : Rf} (hr : InG ds r) (ps : List Int) (hl : ps.length ≤ 549755813888) : Ok P F.head_After [.agg [.sl (ds.map Nd.enc)], r.enc, .sl (ps.map i)] (match aftR ds r ps with
    | some x => .tup [x.enc, .bool true]
    | none => .tup [.agg [i 0, i 0], .bool false]) := by
  refine k_head_After _ _ rfl (d_l (.agg [.sl (ds.map Nd.enc)]) rfl fun _ => d_l _ (e_okc (Rf.okc_enc r)) fun _ => d_l (i ((ps.map i).length : Int)) e_len fun _ => ?_)
  refine den_loop (fun m ys => ∃ (j : Nat) (q : Rf), j + m = ps.length ∧ InG ds q ∧ aftR ds r ps = aftR ds q (ps.drop j) ∧ ys = [i j, q.enc]) ps.length ⟨0, r, by omega, hr, rfl, rfl⟩ ?_
  rintro m _ ⟨j, q, hj, hq, he, rfl⟩
  rw [he]
  refine d_l (.bool (decide ((j : Int) < ((ps.map i).length : Int)))) rfl fun _ => d_dec (p := (j : Int) < ((ps.map i).length : Int)) (fun h => ?_) fun h => ?_
  · have hjl : j < ps.length := by simp at h; omega
    have hN := ok_Next8 hq ps[j]
    refine d_l _ (e_idx (int_at hjl) rfl) fun _ => d_call hN ?_
    have hd : ps.drop j = ps[j] :: ps.drop (j + 1) := List.drop_eq_getElem_cons hjl
    cases hx : nxR ds q ps[j] with
    | some x =>
      have he' : aftR ds q (ps.drop j) = aftR ds x (ps.drop (j + 1)) := by rw [hd]; simp only [aftR, hx]
      rw [he']
      exact d_l x.enc rfl fun _ => d_l (.bool true) rfl fun _ => d_l _ (e_okc (Rf.okc_enc x)) fun _ => d_l (.bool false) rfl fun _ => d_false (d_l _ (e_okc (Rf.okc_enc x)) fun _ => d_l _ (e_inc (by omega)) fun _ => d_cont rfl ⟨m - 1, by omega, j + 1, x, by omega, nxR_in hg hx, by first | rfl | rw [he, he'], rfl⟩)
    | none =>
      have he' : aftR ds q (ps.drop j) = none := by rw [hd]; simp only [aftR, hx]
      rw [he']
      exact d_l (.agg [i 0, i 0]) rfl fun _ => d_l (.bool false) rfl fun _ => d_l (.agg [i 0, i 0]) rfl fun _ => d_l (.bool true) rfl fun _ => d_true (d_ret rfl)
  · have hd : ps.drop j = [] := List.drop_of_length_le (by simp at h; omega)
    rw [hd]
    exact d_l _ (e_okc (Rf.okc_enc q)) fun _ => d_ret rfl

theorem ad_sw (a b k : Int) : ad a (ad b k) = ad (ad a b) k := by
  unfold ad
  simp only [IntKind.wrap, IntKind.signed, IntKind.bits]
  simp
  omega
theorem nxR_raise (ds : List Nd) (n s k p : Int) : nxR ds ⟨n, ad s k⟩ p = (nxR ds ⟨n, s⟩ p).map fun x => ⟨x.node, ad x.shift k⟩ := by
  unfold nxR
  cases ds[n.toNat]? with
  | none => rfl
  | some d =>
    simp only
    split
    · cases d.next[p.toNat]? with
      | none => rfl
      | some v => simp only [Option.map_some]; rw [ad_sw]
    · rfl
theorem aftR_raise (ds : List Nd) (k : Int) : ∀ (ps : List Int) (n s : Int), aftR ds ⟨n, ad s k⟩ ps = (aftR ds ⟨n, s⟩ ps).map fun x => ⟨x.node, ad x.shift k⟩
  | [], _, _ => rfl
  | p :: ps, n, s => by
    simp only [aftR, nxR_raise]
    cases nxR ds ⟨n, s⟩ p with
    | none => rfl
    | some x => exact aftR_raise ds k ps x.node x.shift

/-! ### the least priority -/

theorem low_mem (ps : List Int) : ∀ a : Int × Bool, (ps.foldl lowStep a).2 = true → (ps.foldl lowStep a).1 ∈ ps ∨ (a.2 = true ∧ (ps.foldl lowStep a).1 = a.1) := by
  induction ps with
  | nil => intro a h; exact .inr ⟨h, rfl⟩
  | cons p ps ih =>
    intro a h
    rw [List.foldl_cons] at h ⊢
    rcases ih _ h with h1 | ⟨_, h2⟩
    · exact .inl (List.mem_cons_of_mem _ h1)
    · rw [h2]
      unfold lowStep
      split
      · rename_i ha
        simp only
        split
        · exact .inl List.mem_cons_self
        · exact .inr ⟨ha, rfl⟩
      · exact .inl List.mem_cons_self
theorem low_raise (k : Int) (ps : List Int) : ∀ a b : Int × Bool, b.2 = a.2 → (a.2 = true → b.1 = a.1 + k) → ((ps.map (· + k)).foldl lowStep b).2 = (ps.foldl lowStep a).2 ∧ ((ps.foldl lowStep a).2 = true → ((ps.map (· + k)).foldl lowStep b).1 = (ps.foldl lowStep a).1 + k) := by
  induction ps with
  | nil => intro a b h1 h2; exact ⟨h1, h2⟩
  | cons p ps ih =>
    intro a b h1 h2
    rw [List.map_cons, List.foldl_cons, List.foldl_cons]
    refine ih _ _ ?_ ?_
    · unfold lowStep; rw [h1]; split <;> rfl
    · intro _
      unfold lowStep
      rw [h1]
      split
      · rename_i ha
        have := h2 ha
        simp only [this]
        split <;> split <;> omega
      · rfl

theorem ok_law08_HeadRaises (aw : Ok P F.law08_awake [] (.bool true)) (l : List Ty) (k : Int) (ps : List Int) (k0 : -32768 ≤ k) (k1 : k ≤ 32767) (hll : l.length ≤ 9223372036854775807) (hlim : ∀ t ∈ l, Lim t) :
    Ok P F.law08_HeadRaises [.sl (l.map Ty.enc), .int .i16 k, .sl (ps.map i)] (.bool true) := by
  obtain ⟨b, hf, hw⟩ := ok_ref07_Few l hll hlim 10 60 (by omega) (by omega)
  refine k_law08_HeadRaises _ _ rfl (d_call aw (d_l (.bool false) rfl fun _ => d_false (d_call hf (d_l (.bool !b) rfl fun _ => d_ite (fun _ => d_call aw (d_ret rfl)) fun h1 => ?_))))
  obtain ⟨hl10, hwf⟩ := hw (by simpa using h1)
  have hlen : Prim.len.ev [.sl (l.map Ty.enc)] = some (i (l.length : Int)) := by rw [e_len]; simp
  have hlps : Prim.len.ev [.sl (ps.map i)] = some (i (ps.length : Int)) := by rw [e_len]; simp
  refine d_l _ hlen fun _ => d_l (.bool (decide ((l.length : Int) = 0))) rfl fun _ => d_dec (p := (l.length : Int) = 0) (fun _ => d_call aw (d_ret rfl)) fun hl0 => d_l _ hlps fun _ => d_l (.bool (decide ((ps.length : Int) > 1000))) rfl fun _ => d_dec (p := (ps.length : Int) > 1000) (fun _ => d_call aw (d_ret rfl)) fun hps => ?_
  obtain ⟨ds, rs, _, hG, hgr, hrl, hrs, hdf, hrf⟩ := built' l 10 60 hl10 (by omega) (fun t ht => ⟨by have := (hwf t ht).1; omega, (hwf t ht).2⟩)
  have hg : Gr8 ds := ⟨hgr.1, fun d hd r hr => by
    obtain ⟨a, _⟩ := (hgr.2 d hd).nx r hr
    rcases a with ⟨q, hq, _⟩ | ⟨a1, a2⟩
    · cases hq
    · exact ⟨a1, a2⟩⟩
  have hsh : ∀ r ∈ rs, r.shift = 0 := fun r hr => by
    obtain ⟨j, hj, rfl⟩ := List.getElem_of_mem hr
    have hjl : j < l.length := by omega
    have h2 := nextsF_at (ks := l) (a := 0) (ns := []) (R := []) j hjl
    rw [← hrf, List.getElem?_eq_getElem hj, ref_top (hwf _ (List.getElem_mem hjl)).2] at h2
    rw [Option.some.inj h2]
  have hin : ∀ r ∈ rs, InG ds r := fun r hr => by
    obtain ⟨j, hj, rfl⟩ := List.getElem_of_mem hr
    obtain ⟨a, b, _⟩ := hrs j _ (List.getElem?_eq_getElem hj)
    exact ⟨a, b⟩
  have hpp : ∀ d ∈ ds, 0 ≤ d.prio ∧ d.prio ≤ 1000000 := fun d hd => (hgr.2 d hd).p
  have hr0 : 0 < rs.length := by omega
  clear hgr hrs hrf hdf hwf hw hf
  have hlr : Prim.len.ev [.sl (rs.map Rf.enc)] = some (i (rs.length : Int)) := by rw [e_len]; simp
  have hcv : (Prim.conv .i64).ev [.int .i16 k] = some (i k) := by
    show some (PV.int .i64 (IntKind.i64.wrap k)) = _
    rw [wrap_in (by omega) (by omega)]
  let up : Rf → Rf := fun r => ⟨r.node, ad r.shift k⟩
  have hrs10 : rs.length ≤ 10 := by omega
  refine d_call hG (d_l (.agg [.sl (ds.map Nd.enc)]) rfl fun _ => d_l (.sl (rs.map Rf.enc)) rfl fun _ => d_l (.agg [.sl (ds.map Nd.enc)]) rfl fun _ => ?_)
  refine den_rounds (fun j => [i j, .sl (((rs.take j).map up).map Rf.enc)]) rs.length (by simp) (fun j hj => ?_) ?_
  · refine d_l _ hlr fun _ => d_l (.bool (decide ((j : Int) < (rs.length : Int)))) rfl fun _ => d_dec (p := (j : Int) < (rs.length : Int)) (fun _ => ?_) fun h => by omega
    refine d_l _ (e_idx (rfAt hj) (Rf.okc_enc _)) fun _ => d_l _ hcv fun _ => d_call (ok_head_Raise rs[j].node rs[j].shift k) (d_l (.sl [(up rs[j]).enc]) rfl fun _ => d_l (.sl (((rs.take j).map up).map Rf.enc ++ [(up rs[j]).enc])) (e_app (l := ((rs.take j).map up).map Rf.enc) (m := [(up rs[j]).enc]) (fun x hx => by simp at hx; subst hx; exact Rf.okc_enc _) (by simp; omega) (by simp; omega)) fun _ => d_l _ (e_inc (by omega)) fun _ => d_cont rfl ?_)
    rw [List.take_succ_eq_append_getElem hj, List.map_append, List.map_append]; rfl
  · refine d_l _ hlr fun _ => d_l (.bool (decide ((rs.length : Int) < (rs.length : Int)))) rfl fun _ => d_dec (p := (rs.length : Int) < (rs.length : Int)) (fun h => by omega) fun _ => ?_
    simp only [List.take_length]
    have hup0 : 0 < (rs.map up).length := by simpa using hr0
    have i0 : (Prim.idx 2 true).ev [.sl (rs.map Rf.enc), i 0] = some rs[0].enc := e_idx (k := 0) (rfAt hr0) (Rf.okc_enc _)
    have i1 : (Prim.idx 2 true).ev [.sl ((rs.map up).map Rf.enc), i 0] = some (up rs[0]).enc := by
      have := e_idx (n := 2) (a := true) (k := 0) (rfAt hup0) (Rf.okc_enc _)
      rwa [List.getElem_map] at this
    have hI0 := hin _ (List.getElem_mem hr0)
    have hIu : InG ds (up rs[0]) := hI0
    have hA := ok_After8 hg hI0 ps (by omega)
    have hB := ok_After8 hg hIu ps (by omega)
    have hAB : aftR ds (up rs[0]) ps = (aftR ds rs[0] ps).map up := aftR_raise ds k ps rs[0].node rs[0].shift
    rw [hAB] at hB
    have hL := ok_head_Lowest ds rs (by omega) hin
    have hLu := ok_head_Lowest ds (rs.map up) (by simp; omega) fun r hr => by
      obtain ⟨q, hq, rfl⟩ := List.mem_map.1 hr
      exact hin q hq
    have hbd : ∀ p ∈ rs.filterMap (pr ds), 0 ≤ p ∧ p ≤ 1000000 := fun p hp => by
      obtain ⟨r, hr, hpr⟩ := List.mem_filterMap.1 hp
      unfold pr at hpr
      split at hpr
      · rename_i d hd
        split at hpr
        · have := hpp d (List.mem_of_getElem? hd)
          rw [hsh r hr] at hpr
          have e : ad d.prio 0 = d.prio := by unfold ad; rw [Int.add_zero]; exact wrap_in (by omega) (by omega)
          rw [e] at hpr
          cases hpr; exact this
        · cases hpr
      · cases hpr
    have hmap : (rs.map up).filterMap (pr ds) = (rs.filterMap (pr ds)).map (· + k) := by
      have : ∀ qs : List Rf, (∀ r ∈ qs, r ∈ rs) → (qs.map up).filterMap (pr ds) = (qs.filterMap (pr ds)).map (· + k) := by
        intro qs
        induction qs with
        | nil => intro _; rfl
        | cons r qs ih =>
          intro h
          have hr := h r List.mem_cons_self
          have hpu : pr ds (up r) = (pr ds r).map (· + k) := by
            unfold pr
            show (match ds[r.node.toNat]? with
              | some d => if act d.kind then some (ad d.prio (ad r.shift k)) else none
              | none => none) = _
            cases hd : ds[r.node.toNat]? with
            | none => rfl
            | some d =>
              simp only
              have hp := hpp d (List.mem_of_getElem? hd)
              have e : ad d.prio (ad r.shift k) = ad d.prio r.shift + k := by
                rw [hsh r hr, ad_sw]
                have e0 : ad d.prio 0 = d.prio := by unfold ad; rw [Int.add_zero]; exact wrap_in (by omega) (by omega)
                rw [e0]
                exact wrap_in (by omega) (by omega)
              rw [e]
              split <;> rfl
          rw [List.map_cons]
          cases hq : pr ds r with
          | none =>
            rw [hq] at hpu
            rw [List.filterMap_cons_none hq, List.filterMap_cons_none hpu]
            exact ih fun r hr => h r (List.mem_cons_of_mem _ hr)
          | some p =>
            rw [hq] at hpu
            rw [List.filterMap_cons_some hq, List.filterMap_cons_some hpu, List.map_cons]
            rw [ih fun r hr => h r (List.mem_cons_of_mem _ hr)]
      exact this rs fun _ h => h
    rw [hmap] at hLu
    obtain ⟨hlow2, hlow1⟩ := low_raise k (rs.filterMap (pr ds)) (0, false) (0, false) rfl (fun h => by cases h)
    have hlm := low_mem (rs.filterMap (pr ds)) (0, false)
    have hlb : (low (rs.filterMap (pr ds))).2 = true → 0 ≤ (low (rs.filterMap (pr ds))).1 ∧ (low (rs.filterMap (pr ds))).1 ≤ 1000000 := fun h => by
      rcases hlm h with h1 | ⟨h1, _⟩
      · exact hbd _ h1
      · cases h1
    have e2 : (low ((rs.filterMap (pr ds)).map (· + k))).2 = (low (rs.filterMap (pr ds))).2 := hlow2
    have e1 : (low (rs.filterMap (pr ds))).2 = true → (low ((rs.filterMap (pr ds)).map (· + k))).1 = (low (rs.filterMap (pr ds))).1 + k := hlow1
    rw [e2] at hLu
    have fin : ∀ (s : Bool) (a b : Int), (s = true → (0 ≤ a ∧ a ≤ 1000000) ∧ b = a + k) → (T.l (.bcmp .eql) [.bool s, .bool s] fun x33 =>
       .ite x33 (
        .l .bnot [.bool s] fun x34 =>
        .ite x34 (
         .ret (.bool true)) (
         .l (.conv .i64) [.int .i16 k] fun x35 =>
         .l (.arith .add .i64) [i a, x35] fun x36 =>
         .l (.cmp .eql .i64) [i b, x36] fun x37 =>
         .ret x37)) (
        .ret (.bool false))).den0 P (· = .bool true) ([] ++ [fun _ => False]) := fun s a b hs => by
      cases s with
      | false => exact d_l (.bool true) rfl fun _ => d_true (d_l (.bool true) rfl fun _ => d_true (d_ret rfl))
      | true =>
        obtain ⟨⟨a0, a1⟩, rfl⟩ := hs rfl
        refine d_l (.bool true) rfl fun _ => d_true (d_l (.bool false) rfl fun _ => d_false (d_l _ hcv fun _ => d_l (i (a + k)) (e_add (by omega) (by omega)) fun _ => d_l (.bool true) ?_ fun _ => d_ret rfl))
        show some (PV.bool (decide (a + k = a + k))) = _
        simp
    have hfin := fin (low (rs.filterMap (pr ds))).2 (low (rs.filterMap (pr ds))).1 (low ((rs.filterMap (pr ds)).map (· + k))).1 fun h => ⟨hlb h, e1 h⟩
    refine d_l _ i0 fun _ => d_call hA ?_
    cases hx : aftR ds rs[0] ps with
    | none =>
      rw [hx] at hB
      refine d_l (.agg [i 0, i 0]) rfl fun _ => d_l (.bool false) rfl fun _ => d_l (.agg [i 0, i 0]) rfl fun _ => d_l _ i1 fun _ => d_call hB (d_l (.agg [i 0, i 0]) rfl fun _ => d_l (.bool false) rfl fun _ => d_l (.agg [i 0, i 0]) rfl fun _ => d_call hL (d_l _ rfl fun _ => d_l _ rfl fun _ => d_call hLu (d_l _ rfl fun _ => d_l _ rfl fun _ => d_l (.bool true) rfl fun _ => d_true (d_l (.bool true) rfl fun _ => d_true hfin))))
    | some x =>
      rw [hx] at hB
      refine d_l x.enc rfl fun _ => d_l (.bool true) rfl fun _ => d_l x.enc rfl fun _ => d_l _ i1 fun _ => d_call hB (d_l (up x).enc rfl fun _ => d_l (.bool true) rfl fun _ => d_l (up x).enc rfl fun _ => d_call hL (d_l _ rfl fun _ => d_l _ rfl fun _ => d_call hLu (d_l _ rfl fun _ => d_l _ rfl fun _ => d_l (.bool true) rfl fun _ => d_true (d_l (.bool false) rfl fun _ => d_false (d_l _ hcv fun _ => d_call (ok_head_Raise x.node x.shift k) (d_l (.bool true) ?_ fun _ => d_true hfin))))))
      show (Prim.acmp .eql [.i .i64, .i .i64]).ev [(up x).enc, (up x).enc] = _
      simp [Prim.ev, Rf.enc, PV.sameK, PV.same1]
end Go.Proofs.Ytodomlcjppdgfaa.Tx

/- Contracts (Wk178, Wk179). -/
import Derived.Test.YtopinhoalbgebaaGreatDoorWk177
set_option linter.all false
/- The normal tree (8): the reader computes nmT, for the tree of a reference. -/
namespace Go.Proofs.YtopinhoalbgebaaGreatDoor.Tx
open Go.Lf Go.Lf.S Go.Lf.Duo
set_option maxRecDepth 100000

/-- what the reader does with the tree of a reference, at a fuel -/
def TrOk (ds : List Nd) (L : List Ty) (M m : Nat) : Prop := ∀ (path : List Ty) (rs : List Rf) (x : Rf) (T : Ty) (l : List Nat), CL L M T → POk L M path → RTs ds rs path → RT ds x T → L.length < path.length + m → l.Nodup → (∀ j ∈ l, j < path.length) →
  OkS P F.readback_reader_tree sg_readback_reader_tree [x.enc, .sl (ds.map Nd.enc), .sl (rs.map Rf.enc), mpU l] [(nmT m path T).enc, .sl (ds.map Nd.enc), .sl (rs.map Rf.enc), mpU (usedT m path T l)]

noncomputable def foldU (m : Nat) (more : List Ty) (ks : List Ty) (l : List Nat) : List Nat := ks.foldl (fun l k => usedT m more k l) l
theorem foldU_take {m : Nat} {more ks : List Ty} {l : List Nat} {q : Nat} (h : q < ks.length) : foldU m more (ks.take (q + 1)) l = usedT m more ks[q] (foldU m more (ks.take q) l) := by
  unfold foldU
  rw [List.take_succ_eq_append_getElem h, List.foldl_append]; rfl
theorem foldU_spec {L : List Ty} {M : Nat} (hM : M ≤ 549755813888) {m : Nat} {more : List Ty} (hp : POk L M more) (hm : L.length < more.length + m) : ∀ (ks : List Ty) (l : List Nat), (∀ k ∈ ks, CL L M k) → l.Nodup → (∀ j ∈ l, j < more.length) →
    Used more.length l (foldU m more ks l) fun s => (ks.map (nmT m more)).any (usB s) := by
  intro ks
  induction ks with
  | nil => exact fun l _ h1 h2 => ⟨h1, h2, fun j hj => by simp [foldU]⟩
  | cons k ks ihk =>
    intro l hc h1 h2
    have g := usedT_spec hM m more k l (hc k (by simp)) hp hm h1 h2
    have g2 := ihk _ (fun k hk => hc k (by simp [hk])) g.nd g.lt
    refine ⟨g2.nd, g2.lt, fun j hj => ?_⟩
    show j ∈ foldU m more ks (usedT m more k l) ↔ _
    rw [g2.mem j hj, g.mem j hj]
    simp only [List.map_cons, List.any_cons, Bool.or_eq_true, or_assoc]

theorem take_encs {m : Nat} {more ks : List Ty} {q : Nat} (h : q < ks.length) : (((ks.map (nmT m more)).take q).map Ty.enc) ++ [(nmT m more ks[q]).enc] = ((ks.map (nmT m more)).take (q + 1)).map Ty.enc := by
  rw [← takeMap1 (by rw [List.length_map]; exact h : q < (ks.map (nmT m more)).length), List.getElem_map]

section
variable {ds : List Nd} {L : List Ty} {M m : Nat} {more : List Ty} {rs : List Rf} {x : Rf} {u : Ty} {l : List Nat}

theorem ok_plain (hg : GrOk' ds) (hM : M ≤ 1000) (ih : TrOk ds L M m) (hp : POk L M more) (hr : RTs ds rs more) (hm : L.length < more.length + m) (hS : Shp M u) (hK : ∀ k ∈ u.kids, CL L M k) (hx : ∃ d, RtE ds x.node x.shift u d) (hno : u.labels = []) (hn : l.Nodup) (hl : ∀ j ∈ l, j < more.length) :
    OkS P F.readback_reader_plain sg_readback_reader_plain [x.enc, .sl (ds.map Nd.enc), .sl (rs.map Rf.enc), mpU l]
      [.agg [i 0, i 0, .str ⟨#[]⟩, i 0, .sl ((srt u.labels).map .str), .sl (((ordK u).map (nmT m more)).map Ty.enc)], .sl (ds.map Nd.enc), .sl (rs.map Rf.enc), mpU (foldU m more (ordK u) l)] := by
  obtain ⟨d, hd⟩ := hx
  have hoe : ordK u = u.kids := by unfold ordK; rw [if_pos hno]
  have hl0 : (srt u.labels).map PV.str = [] := by rw [hno, srt_nil]; rfl
  rw [hl0, hoe]
  have hlm := shp_lm hS
  obtain ⟨nd, sh⟩ := x
  have ha0 : 0 ≤ nd := hd.a0
  obtain ⟨a, rfl⟩ : ∃ a : Nat, nd = a := ⟨nd.toNat, by omega⟩
  have hx0 : ds[a]? = some d := hd.hx
  obtain ⟨ha, hda⟩ := List.getElem?_eq_some_iff.1 hx0
  subst hda
  have hnl : (ds[a]).next.length = u.kids.length := hd.nl
  refine m_readback_reader_plain _ _ (d_l (⟨a, sh⟩ : Rf).enc rfl fun _ => d_l _ (e_idx (nd_at ha) (Nd.okc_enc _)) fun _ => d_l (i (u.kids.length : Int)) (by show Prim.len.ev [.sl ((ds[a]).next.map Rf.enc)] = _; rw [e_len, List.length_map, hnl]) fun _ => ?_)
  refine den_loop (fun m' ys => ∃ q : Nat, q + m' = u.kids.length ∧ ys = [i q, i 0, i 0, .str ⟨#[]⟩, i 0, .sl [], .sl (((u.kids.map (nmT m more)).take q).map Ty.enc), .sl (ds.map Nd.enc), .sl (rs.map Rf.enc), mpU (foldU m more (u.kids.take q) l)]) u.kids.length ⟨0, by omega, rfl⟩ ?_
  rintro m2 _ ⟨q, hq, rfl⟩
  refine d_l (.bool (decide ((q : Int) < (u.kids.length : Int)))) rfl fun _ => d_dec (p := (q : Int) < (u.kids.length : Int)) (fun h => ?_) fun h => d_ret ?_
  · have hqk : q < u.kids.length := by omega
    have hqn : q < (ds[a]).next.length := by omega
    have hkq : u.kids[q] ∈ u.kids := List.getElem_mem hqk
    have hrt : RT ds ⟨((ds[a]).next[q]).node, ad ((ds[a]).next[q]).shift sh⟩ u.kids[q] := hd.dn q _ _ (List.getElem?_eq_getElem hqn) (List.getElem?_eq_getElem hqk)
    have hsp := foldU_spec (m := m) (by omega : M ≤ 549755813888) hp hm (u.kids.take q) l (fun k hk => hK k (List.mem_of_mem_take hk)) hn hl
    have oT := ih more rs _ u.kids[q] (foldU m more (u.kids.take q) l) (hK _ hkq) hp hr hrt hm hsp.nd hsp.lt
    rw [← foldU_take hqk] at oT
    refine d_call (ok_head_Next ds a ha sh q hqn) (d_l (ref ((ds[a]).next[q]).node (ad ((ds[a]).next[q]).shift sh)) rfl fun _ => d_l (.bool true) rfl fun _ => d_l (ref ((ds[a]).next[q]).node (ad ((ds[a]).next[q]).shift sh)) rfl fun _ => d_calls rfl oT (d_l (.sl [(nmT m more u.kids[q]).enc]) (e_lst fun x hx => by simp at hx; subst hx; exact Ty.okc_enc _) fun _ => d_l _ (e_app (fun x hx => by simp at hx; subst hx; exact Ty.okc_enc _) (by simp; omega) (by simp; omega)) fun _ => d_l _ (e_inc (by omega)) fun _ => d_cont rfl ⟨m2 - 1, by omega, q + 1, by omega, ?_⟩))
    rw [take_encs hqk]; rfl
  · have e : (u.kids.map (nmT m more)).take q = u.kids.map (nmT m more) := List.take_of_length_le (by simp; omega)
    have e2 : u.kids.take q = u.kids := List.take_of_length_le (by omega)
    rw [e, e2]; rfl

theorem ok_choice (hg : GrOk' ds) (hM : M ≤ 1000) (ih : TrOk ds L M m) (hp : POk L M more) (hr : RTs ds rs more) (hm : L.length < more.length + m) (hS : Shp M u) (hK : ∀ k ∈ u.kids, CL L M k) (hx : ∃ d, RtE ds x.node x.shift u d) (hne : u.labels ≠ []) (hn : l.Nodup) (hl : ∀ j ∈ l, j < more.length) :
    OkS P F.readback_reader_choice sg_readback_reader_choice [x.enc, .sl (ds.map Nd.enc), .sl (rs.map Rf.enc), mpU l]
      [.agg [i 0, i 0, .str ⟨#[]⟩, i 0, .sl ((srt u.labels).map .str), .sl (((ordK u).map (nmT m more)).map Ty.enc)], .sl (ds.map Nd.enc), .sl (rs.map Rf.enc), mpU (foldU m more (ordK u) l)] := by
  obtain ⟨d, hd⟩ := hx
  have hoe : ordK u = (srt u.labels).map (kidAt u) := by unfold ordK; rw [if_neg hne]
  have hlm := shp_lm hS
  obtain ⟨s1, s2, s3, _⟩ := srt_spec hS.nd (by omega : u.labels.length ≤ 549755813888)
  obtain ⟨nd, sh⟩ := x
  have ha0 : 0 ≤ nd := hd.a0
  obtain ⟨a, rfl⟩ : ∃ a : Nat, nd = a := ⟨nd.toNat, by omega⟩
  have hx0 : ds[a]? = some d := hd.hx
  obtain ⟨ha, hda⟩ := List.getElem?_eq_some_iff.1 hx0
  subst hda
  have hll : (ds[a]).labels = u.labels := hd.l
  have oLs := ok_head_Labels a ha sh (by rw [hll]; exact hS.nd) (by rw [hll]; exact hne) (by rw [hll]; omega)
  rw [hll] at oLs
  have hoK : ∀ k ∈ ordK u, CL L M k := fun k hk => hK k (ordK_mem hS (by omega) hk)
  have hol : (ordK u).length = (srt u.labels).length := by rw [hoe, List.length_map]
  refine m_readback_reader_choice _ _ (d_l (⟨a, sh⟩ : Rf).enc rfl fun _ => d_call oLs (d_l .nilI rfl fun _ => d_l _ (len_str (srt u.labels)) fun _ => ?_))
  refine den_loop (fun m' ys => ∃ q : Nat, q + m' = (srt u.labels).length ∧ ys = [i q, i 0, i 0, .str ⟨#[]⟩, i 0, .sl ((srt u.labels).map .str), .sl ((((ordK u).map (nmT m more)).take q).map Ty.enc), .sl (ds.map Nd.enc), .sl (rs.map Rf.enc), mpU (foldU m more ((ordK u).take q) l)]) (srt u.labels).length ⟨0, by omega, rfl⟩ ?_
  rintro m2 _ ⟨q, hq, rfl⟩
  refine d_l (.bool (decide ((q : Int) < ((srt u.labels).length : Int)))) rfl fun _ => d_dec (p := (q : Int) < ((srt u.labels).length : Int)) (fun h => ?_) fun h => d_ret ?_
  · have hqs : q < (srt u.labels).length := by omega
    have hqo : q < (ordK u).length := by omega
    have hsm : (srt u.labels)[q] ∈ u.labels := (s2 _).1 (List.getElem_mem hqs)
    obtain ⟨q', v, g1, g2, oL⟩ := ok_head_Label' hg a ha sh (srt u.labels)[q] (by rw [hll]; exact hsm)
    rw [hll] at g1
    obtain ⟨q2, k1, k2⟩ := kidAt_ex hS hsm
    obtain rfl := nodup_at hS.nd g1 k1
    have hko : (ordK u)[q] = kidAt u (srt u.labels)[q] := by simp only [hoe, List.getElem_map]
    have hrt : RT ds ⟨v.node, ad v.shift sh⟩ (kidAt u (srt u.labels)[q]) := hd.dn q' _ _ g2 k2
    rw [← hko] at hrt
    have hsp := foldU_spec (m := m) (by omega : M ≤ 549755813888) hp hm ((ordK u).take q) l (fun k hk => hoK k (List.mem_of_mem_take hk)) hn hl
    have oT := ih more rs _ (ordK u)[q] (foldU m more ((ordK u).take q) l) (hoK _ (List.getElem_mem hqo)) hp hr hrt hm hsp.nd hsp.lt
    rw [← foldU_take hqo] at oT
    refine d_l _ (e_idx (str_at hqs) rfl) fun _ => d_call oL (d_l (ref v.node (ad v.shift sh)) rfl fun _ => d_l (.bool true) rfl fun _ => d_l (ref v.node (ad v.shift sh)) rfl fun _ => d_calls rfl oT (d_l (.sl [(nmT m more (ordK u)[q]).enc]) (e_lst fun x hx => by simp at hx; subst hx; exact Ty.okc_enc _) fun _ => d_l _ (e_app (fun x hx => by simp at hx; subst hx; exact Ty.okc_enc _) (by simp; omega) (by simp; omega)) fun _ => d_l _ (e_inc (by omega)) fun _ => d_cont rfl ⟨m2 - 1, by omega, q + 1, by omega, ?_⟩))
    rw [take_encs hqo]; rfl
  · have e : ((ordK u).map (nmT m more)).take q = (ordK u).map (nmT m more) := List.take_of_length_le (by simp; omega)
    have e2 : (ordK u).take q = ordK u := List.take_of_length_le (by omega)
    rw [e, e2]; rfl
end

theorem tree_den {ds : List Nd} {L : List Ty} {M m : Nat} (hg : GrOk' ds) (hM : M ≤ 1000) (hL : L.length ≤ 99) (ih : TrOk ds L M m) (path : List Ty) (rs : List Rf) (x : Rf) (T : Ty) (l : List Nat) (hT : CL L M T) (hp : POk L M path) (hr : RTs ds rs path) (hx : RT ds x T) (hm : L.length < path.length + (m + 1)) (hn : l.Nodup) (hl : ∀ j ∈ l, j < path.length) (R : PV → PV → PV → PV → PV) :
    (treeTx x.enc (.sl (ds.map Nd.enc)) (.sl (rs.map Rf.enc)) (mpU l) R).den0 P (· = R (nmT (m + 1) path T).enc (.sl (ds.map Nd.enc)) (.sl (rs.map Rf.enc)) (mpU (usedT (m + 1) path T l))) [] := by
  have hpl := hp.len
  have hrl := hr.1
  obtain ⟨hU, hS, hK⟩ := hT.unf
  have hlm := shp_lm hS
  have hCu := hT.unfC
  have huu := hT.uu
  have hxu := hx.toU
  have hse : ∃ d, RtE ds x.node x.shift (unfT T) d := RT.se (a := x.node) (s := x.shift) hx
  have hpv : pv (Tx.pr ds x) = pz (unfT T) := pv_rt (a := x.node) (s := x.shift) hx
  have nlit := @nmT_lit m path T
  have nvar := @nmT_var m path T
  have nnode := @nmT_node m path T
  have hsn := fun ha hf => hp.snoc hT ha hf
  have us : usedT (m + 1) path T l = if (unfT T).kind ≤ 3 then l else
      match fnd path (unfT T) with
      | some j => insU l j
      | none => (foldU m (path ++ [unfT T]) (ordK (unfT T)) l).erase path.length := by rw [usedT]; rfl
  generalize nmT (m + 1) path T = res at *
  generalize usedT (m + 1) path T l = lres at *
  generalize unfT T = u at *
  obtain ⟨d, hd⟩ := hse
  have hxg := hxu.inG
  obtain ⟨nd, sh⟩ := x
  have ha0 : 0 ≤ nd := hd.a0
  obtain ⟨a, rfl⟩ : ∃ a : Nat, nd = a := ⟨nd.toNat, by omega⟩
  have hx0 : ds[a]? = some d := hd.hx
  obtain ⟨ha, hda⟩ := List.getElem?_eq_some_iff.1 hx0
  subst hda
  have hkd : (ds[a]).kind = u.kind := hd.k
  have oP : Ok P F.head_Prio [.agg [.sl (ds.map Nd.enc)], (⟨a, sh⟩ : Rf).enc] (.tup [i (pz u), .bool (act u.kind)]) := by
    have h1 := ok_head_Prio' (ds := ds) (r := ⟨a, sh⟩) ⟨by omega, by omega⟩
    have h2 : Tx.pr ds ⟨a, sh⟩ = if act u.kind then some (pz u) else none := by
      have : pv (Tx.pr ds ⟨a, sh⟩) = pz u := hpv
      unfold Tx.pr at this ⊢
      simp only [Int.toNat_natCast, List.getElem?_eq_getElem ha, hkd] at this ⊢
      cases hact : act u.kind with
      | false => rfl
      | true => rw [hact] at this; simp only [if_true] at this ⊢; rw [← this]; rfl
    rw [h2] at h1
    cases hact : act u.kind with
    | false =>
      rw [hact] at h1
      have : pz u = 0 := by unfold pz; rw [hact]; rfl
      rw [this]; exact h1
    | true => rw [hact] at h1; exact h1
  have oK := ok_head_Kind' ds a ha sh
  rw [hkd] at oK
  unfold treeTx
  refine d_l (⟨a, sh⟩ : Rf).enc rfl fun _ => d_call oP (d_l (i (pz u)) rfl fun _ => d_l (.bool (act u.kind)) rfl fun _ => d_l (.bool !(act u.kind)) rfl fun _ => d_ite (fun hact => ?_) fun hact => ?_)
  · have h3 : u.kind ≤ 3 := by
      have := hS.k1
      simp only [act, Bool.not_eq_true', decide_eq_false_iff_not] at hact; omega
    refine d_call oK (d_l .nilI rfl fun _ => d_ret ?_)
    rw [us, if_pos h3, nlit h3, litT, Ty.enc_mk]; rfl
  · have hact : act u.kind = true := by simpa using hact
    have h3 : ¬ u.kind ≤ 3 := by
      simp only [act, decide_eq_true_eq] at hact; omega
    have oF := ok_find hg hp hr (by omega) hCu huu hact hxu l
    rw [if_neg h3] at us
    unfold fndV at oF
    cases hf : fnd path u with
    | some j =>
      obtain ⟨hj, _⟩ := fnd_some hf
      rw [hf] at oF us
      simp only [List.getD_eq_getElem?_getD, List.getElem?_eq_getElem hj, Option.getD_some] at oF
      refine d_call oF (d_l (.tup [i (j : Int), i (off path[j] u), .bool true]) rfl fun _ => d_l (i (j : Int)) rfl fun _ => d_l (i (off path[j] u)) rfl fun _ => d_l (.bool true) rfl fun _ => d_true (d_l (mpU (insU l j)) (ev_setU l j) fun _ => d_call (ok_name (by omega)) (d_l .nilI rfl fun _ => d_ret ?_)))
      rw [us, nvar h3 hf hj, varT, Ty.enc_mk]; rfl
    | none =>
      rw [hf] at oF us
      simp only at oF us
      have hp2 : POk L M (path ++ [u]) := hsn hact hf
      have hp2l : (path ++ [u]).length = path.length + 1 := by simp
      have hr2 := hr.snoc hxu
      have hmore : (rs ++ [(⟨a, sh⟩ : Rf)]).map Rf.enc = rs.map Rf.enc ++ [(⟨a, sh⟩ : Rf).enc] := by simp
      have hl2 : ∀ j ∈ l, j < (path ++ [u]).length := fun j hj => by have := hl j hj; omega
      have hsp := foldU_spec (m := m) (by omega : M ≤ 549755813888) hp2 (by omega) (ordK u) l (fun k hk => hK k (ordK_mem hS (by omega) hk)) hn hl2
      have hin : decide (path.length ∈ foldU m (path ++ [u]) (ordK u) l) = ((ordK u).map (nmT m (path ++ [u]))).any (usB (nmB path.length)) := by
        rw [Bool.eq_iff_iff, decide_eq_true_eq, hsp.mem path.length (by omega)]
        constructor
        · rintro (h | h)
          · have := hl _ h; omega
          · exact h
        · exact fun h => .inr h
      have hres : res = if (decide (path.length ∈ foldU m (path ++ [u]) (ordK u) l)) = true then .mk 8 0 (nmB path.length) 0 [] [nodeT u ((ordK u).map (nmT m (path ++ [u])))] else nodeT u ((ordK u).map (nmT m (path ++ [u]))) := by
        rw [nnode h3 hf, hin]; rfl
      have hpu : pz u = u.prio := pz_act hact
      -- what comes behind the rests
      have fin : ∀ f : Nat, OkS P f sg_readback_reader_tree [(⟨a, sh⟩ : Rf).enc, .sl (ds.map Nd.enc), .sl ((rs ++ [(⟨a, sh⟩ : Rf)]).map Rf.enc), mpU l]
          [.agg [i 0, i 0, .str ⟨#[]⟩, i 0, .sl ((srt u.labels).map .str), .sl (((ordK u).map (nmT m (path ++ [u]))).map Ty.enc)], .sl (ds.map Nd.enc), .sl ((rs ++ [(⟨a, sh⟩ : Rf)]).map Rf.enc), mpU (foldU m (path ++ [u]) (ordK u) l)] →
          (Lf.T.callvs (.fn f [] []) sg_readback_reader_tree [(⟨a, sh⟩ : Rf).enc, .sl (ds.map Nd.enc), .sl ((rs ++ [(⟨a, sh⟩ : Rf)]).map Rf.enc), mpU l] fun z16 =>
   .l (.okc 6 true) [(n z16 0)] fun x17 =>
   .call F.head_Kind [(.agg [(n z16 1)]), (⟨a, sh⟩ : Rf).enc] fun x18 =>
   .l (.okc 1 false) [x18] fun x19 =>
   .l (.okc 1 false) [i (pz u)] fun x20 =>
   .l (.slcT 2 true) [(n z16 2), i (rs.length : Int)] fun x21 =>
   .l (.mget false [.i .i64] (.bool false)) [(n z16 3), i (rs.length : Int)] fun x22 =>
   .ite x22 (
    .l (.mdel false [.i .i64]) [(n z16 3), i (rs.length : Int)] fun x23 =>
    .call F.readback_name [i (rs.length : Int)] fun x24 =>
    .l (.lst 6 true) [(.agg [x19, x20, (c 2 x17), (c 3 x17), (c 4 x17), (c 5 x17)])] fun x25 =>
    .l (.okcs [(1, false)]) [x24] fun x26 =>
    .ret (R (.agg [(i 8), (i 0), x24, (i 0), (.sl []), x25]) (n z16 1) x21 x23)) (
    .ret (R (.agg [x19, x20, (c 2 x17), (c 3 x17), (c 4 x17), (c 5 x17)]) (n z16 1) x21 (n z16 3)))).den0 P (· = R res.enc (.sl (ds.map Nd.enc)) (.sl (rs.map Rf.enc)) (mpU lres)) [] := by
        intro f hf'
        have hsl : (Prim.slcT 2 true).ev [.sl ((rs ++ [(⟨a, sh⟩ : Rf)]).map Rf.enc), i (rs.length : Int)] = some (.sl (rs.map Rf.enc)) := by
          have := e_slcT (n := 2) (a := true) (l := (rs ++ [(⟨a, sh⟩ : Rf)]).map Rf.enc) (k := rs.length) (fun x hx => by obtain ⟨t, _, rfl⟩ := List.mem_map.1 hx; rfl) (by simp)
          rw [this, ← List.map_take, List.take_left']; rfl
        have hgt := ev_getU (foldU m (path ++ [u]) (ordK u) l) rs.length
        refine d_callvs rfl hf' (d_l (.agg [i 0, i 0, .str ⟨#[]⟩, i 0, .sl ((srt u.labels).map .str), .sl (((ordK u).map (nmT m (path ++ [u]))).map Ty.enc)]) rfl fun _ => d_call oK (d_l (i u.kind) rfl fun _ => d_l (i (pz u)) rfl fun _ => d_l _ hsl fun _ => d_l _ hgt fun _ => ?_))
        rw [hrl]
        refine d_ite (fun hb => ?_) fun hb => ?_
        · refine d_l _ (ev_delU _ _) fun _ => d_call (ok_name (by omega)) (d_l (.sl [.agg [i u.kind, i (pz u), .str ⟨#[]⟩, i 0, .sl ((srt u.labels).map .str), .sl (((ordK u).map (nmT m (path ++ [u]))).map Ty.enc)]]) (e_lst fun x hx => by simp at hx; subst hx; rfl) fun _ => d_l .nilI rfl fun _ => d_ret ?_)
          rw [hres, if_pos hb, us, Ty.enc_mk, List.map_cons, List.map_nil, enc_node, hpu]; rfl
        · refine d_ret ?_
          have hno : path.length ∉ foldU m (path ++ [u]) (ordK u) l := of_decide_eq_false hb
          rw [hres, if_neg (by rw [hb]; simp), us, List.erase_of_not_mem hno, enc_node, hpu]; rfl
      have hnda : (Prim.idx 4 true).ev [.sl (ds.map Nd.enc), i (a : Int)] = some (ds[a]).enc := e_idx (nd_at ha) (Nd.okc_enc _)
      have hll : (ds[a]).labels = u.labels := hd.l
      refine d_call oF (d_l (.tup [i 0, i 0, .bool false]) rfl fun _ => d_l (i 0) rfl fun _ => d_l (i 0) rfl fun _ => d_l (.bool false) rfl fun _ => d_false (d_l (i (rs.length : Int)) (by show Prim.len.ev [.sl (rs.map Rf.enc)] = _; rw [e_len, List.length_map]) fun _ => d_l (.sl [(⟨a, sh⟩ : Rf).enc]) rfl fun _ => d_l (.sl ((rs ++ [(⟨a, sh⟩ : Rf)]).map Rf.enc)) (by
        rw [hmore]
        exact e_app (fun x hx => by simp at hx; subst hx; rfl) (by simp; omega) (by simp; omega)) fun _ => d_l _ hnda fun _ => d_l (i (u.labels.length : Int)) (by show Prim.len.ev [.sl ((ds[a]).labels.map .str)] = _; rw [hll]; exact len_str _) fun _ => d_l (.bool (decide ((u.labels.length : Int) > 0))) rfl fun _ => d_dec (p := (u.labels.length : Int) > 0) (fun hl0 => ?_) fun hl0 => ?_))
      · exact fin _ (ok_choice hg hM ih hp2 hr2 (by omega) hS hK ⟨_, hd⟩ (fun c => by rw [c] at hl0; simp at hl0) hn hl2)
      · exact fin _ (ok_plain hg hM ih hp2 hr2 (by omega) hS hK ⟨_, hd⟩ (List.eq_nil_of_length_eq_zero (by omega)) hn hl2)

theorem tr_ok {ds : List Nd} {L : List Ty} {M : Nat} (hg : GrOk' ds) (hM : M ≤ 1000) (hL : L.length ≤ 99) : ∀ m, TrOk ds L M m := by
  intro m
  induction m with
  | zero => intro path rs x T l _ hp _ _ hm; have := hp.len; omega
  | succ m ih =>
    intro path rs x T l hT hp hr hx hm hn hl
    have := tree_den hg hM hL ih path rs x T l hT hp hr hx hm hn hl fun t g r m => .tup [t, g, r, m]
    rw [← u_tree_eq] at this
    exact m_readback_reader_tree _ _ this

theorem ok_Normal {ds : List Nd} {L : List Ty} {M : Nat} (hg : GrOk' ds) (hM : M ≤ 1000) (hL : L.length ≤ 99) {m : Nat} (hm : L.length ≤ m) {x : Rf} {T : Ty} (hT : CL L M T) (hx : RT ds x T) : Ok P F.readback_Normal [.agg [.sl (ds.map Nd.enc)], x.enc] (nmT (m + 1) [] T).enc := by
  have := tree_den hg hM hL (tr_ok hg hM hL m) [] [] x T [] hT ⟨(fun p h => by cases h), (fun p h => by cases h), (fun p h => by cases h), List.nodup_nil⟩ ⟨rfl, fun j h => by simp at h⟩ hx (by simp; omega) List.nodup_nil (fun j h => by cases h) fun t _ _ _ => .tup [t]
  have h0 : mpU [] = .mp [] [] := rfl
  rw [h0, show ([] : List Rf).map Rf.enc = [] from rfl, ← u_treeN_eq] at this
  have o := m_readback_reader_tree_Nil _ _ this
  exact k_readback_Normal _ _ rfl (d_l (.agg [.sl (ds.map Nd.enc)]) rfl fun _ => d_l x.enc rfl fun _ => d_l .nilI rfl fun _ => d_calls rfl o (d_l _ (e_okc (Ty.okc_enc _)) fun _ => d_ret rfl))
end Go.Proofs.YtopinhoalbgebaaGreatDoor.Tx

/- The law: the normal tree of a raised type. -/
namespace Go.Proofs.YtopinhoalbgebaaGreatDoor.Tx
open Go.Lf Go.Lf.S Go.Lf.Duo
set_option maxRecDepth 100000

theorem pok0 {L : List Ty} {M : Nat} : POk L M [] := ⟨(fun p h => by cases h), (fun p h => by cases h), (fun p h => by cases h), List.nodup_nil⟩
/-- the graph of one type, and its reference -/
theorem one_graph {t : Ty} (hw : Wf t [] 0) (hz : t.sz ≤ 1000000) : GrOk' (belowsF [t] 0 [] []) ∧ nextsF [t] 0 [] [] = [⟨0, 0⟩] ∧ RT (belowsF [t] 0 [] []) ⟨0, 0⟩ t := by
  obtain ⟨ds, rs, _, _, hgr, hrl, hrs, hdf, hrf⟩ := built' [t] 1 1000000 (by simp) (by omega) (by
    intro x hx
    obtain rfl := List.mem_singleton.1 hx
    exact ⟨by omega, hw⟩)
  have hpl : Pl ds 0 (belowsF [t] 0 [] []) := ⟨Int.le_refl _, fun k hk => by
    rw [← hdf] at hk
    simp only [← hdf]
    rw [show (0 : Int).toNat + k = k by simp]
    exact List.getElem?_eq_getElem hk⟩
  have hln : ∀ x ∈ [t], ∀ q, (nodesF x q [] []).length = gc x := fun x hx q => len_nodes x [] 0 (by obtain rfl := List.mem_singleton.1 hx; exact hw) q [] []
  have p0 := Pl.kid hpl hln 0 (by simp)
  have q0 := nextsF_at (ks := [t]) (a := 0) (ns := []) (R := []) 0 (by simp)
  obtain ⟨R0, f0⟩ := rt_top (t := t) hw p0
  have hr0 : rs = [⟨0, 0⟩] := by
    rw [← hrf] at q0
    have e : rs = [rs[0]'(by simp at hrl; omega)] := by
      match rs, hrl with
      | [r], _ => rfl
    rw [List.getElem?_eq_getElem (by simp at hrl; omega)] at q0
    rw [e, Option.some.inj q0]
    simpa [gcs] using f0
  rw [← hdf, ← hrf]
  refine ⟨hgr, hr0, ?_⟩
  have : (⟨0, 0⟩ : Rf) = refF t 0 [] [] := by
    rw [← hrf, hr0] at q0
    have := Option.some.inj q0
    simpa [gcs] using this
  rw [this]
  simpa [gcs] using R0
theorem ok_Canonical {L : List Ty} {M : Nat} (hM : M ≤ 1000) (hL : L.length ≤ 99) {m : Nat} (hm : L.length ≤ m) {t : Ty} (hw : Wf t [] 0) (hz : t.sz ≤ 1000000) (hT : CL L M t) : Ok P F.readback_Canonical [t.enc] (nmT (m + 1) [] t).enc := by
  obtain ⟨g1, g2, g3⟩ := one_graph hw hz
  have hB := ok_graph_Build [t] (fun x hx => by obtain rfl := List.mem_singleton.1 hx; exact hw) (by simp [Ty.szs]; omega)
  rw [g2] at hB
  have hN := ok_Normal g1 hM hL hm hT g3
  refine k_readback_Canonical _ _ rfl (d_l _ (e_okc (Ty.okc_enc t)) fun _ => d_l (.sl ([t].map Ty.enc)) (e_lst fun x hx => by simp at hx; subst hx; exact Ty.okc_enc _) fun _ => d_call hB (d_l (.agg [.sl ((belowsF [t] 0 [] []).map Nd.enc)]) rfl fun _ => d_l (.sl [(⟨0, 0⟩ : Rf).enc]) rfl fun _ => d_l (.agg [.sl ((belowsF [t] 0 [] []).map Nd.enc)]) rfl fun _ => d_l (⟨0, 0⟩ : Rf).enc rfl fun _ => d_call hN (d_l _ (e_okc (Ty.okc_enc _)) fun _ => d_ret rfl)))

/-! raising -/
end Go.Proofs.YtopinhoalbgebaaGreatDoor.Tx

/- The normal tree (7): the reader computes nmT. -/
import Derived.Test.YtopinhoalbgebaaGreatDoorWk176
set_option linter.all false
namespace Go.Proofs.YtopinhoalbgebaaGreatDoor.Tx
open Go.Lf Go.Lf.S Go.Lf.Duo
set_option maxRecDepth 100000

def RTs (ds : List Nd) (rs : List Rf) (path : List Ty) : Prop := rs.length = path.length ∧ ∀ j (h1 : j < rs.length) (h2 : j < path.length), RT ds rs[j] path[j]
theorem RT.toU {ds : List Nd} {r : Rf} {T : Ty} (h : RT ds r T) : RT ds r (unfT T) := by
  have hU : Unf T (unfT T) := by
    obtain ⟨_, u, d, h1, _⟩ := h.step
    exact h1.to_unfT
  refine ⟨fun r T => Stp ds (RT ds) r T, ?_, fun r T h => h.mono fun r T h => h.step⟩
  obtain ⟨h0, u, d, h1, h2⟩ := h.step
  rw [unfT_eq h1]
  exact ⟨h0, u, d, unf_self h1, h2⟩
theorem RT.inG {ds : List Nd} {r : Rf} {T : Ty} (h : RT ds r T) : 0 ≤ r.node ∧ r.node < ds.length := by
  obtain ⟨h0, u, d, _, h2, _⟩ := h.step
  have := (List.getElem?_eq_some_iff.1 h2).1
  exact ⟨h0, by omega⟩
theorem RTs.snoc {ds : List Nd} {rs : List Rf} {path : List Ty} (h : RTs ds rs path) {x : Rf} {u : Ty} (hx : RT ds x u) : RTs ds (rs ++ [x]) (path ++ [u]) := by
  refine ⟨by simp [h.1], fun j h1 h2 => ?_⟩
  by_cases e : j < rs.length
  · rw [List.getElem_append_left e, List.getElem_append_left (by rw [← h.1]; exact e)]
    exact h.2 j e _
  · have hl := h.1
    have hj : j = rs.length := by rw [List.length_append, List.length_singleton] at h1; omega
    have e1 : (rs ++ [x])[j]? = some x := by rw [hj]; simp
    have e2 : (path ++ [u])[j]? = some u := by rw [hj, hl]; simp
    rw [List.getElem?_eq_getElem h1] at e1
    rw [List.getElem?_eq_getElem h2] at e2
    rw [Option.some.inj e1, Option.some.inj e2]; exact hx

theorem ok_head_Kind' (ds : List Nd) (a : Nat) (ha : a < ds.length) (s : Int) : Ok P F.head_Kind [.agg [.sl (ds.map Nd.enc)], ref a s] (i ds[a].kind) :=
  k_head_Kind _ _ rfl (d_l (.agg [.sl (ds.map Nd.enc)]) rfl fun _ => d_l (ref a s) rfl fun _ => d_l _ (e_idx (nd_at ha) (Nd.okc_enc _)) fun _ => d_ret rfl)
theorem ok_head_Label' {ds : List Nd} (hg : GrOk' ds) (a : Nat) (ha : a < ds.length) (s : Int) (lab : ByteArray) (hm : lab ∈ ds[a].labels) :
    ∃ (q : Nat) (u : Rf), ds[a].labels[q]? = some lab ∧ ds[a].next[q]? = some u ∧ Ok P F.head_Label [.agg [.sl (ds.map Nd.enc)], ref a s, .str lab] (.tup [ref u.node (ad u.shift s), .bool true]) := by
  have hno := hg.2 _ (List.getElem_mem ha)
  obtain ⟨r, hix, hat⟩ := ok_slices_Index_string_string ds[a].labels lab hno.ll
  rcases hat with ⟨rfl, hn⟩ | ⟨q, rfl, hq, _⟩
  · exact absurd hm hn
  · have hl : q < ds[a].labels.length := (List.getElem?_eq_some_iff.1 hq).1
    have hqn : q < ds[a].next.length := by
      have := hno.lab (by omega)
      omega
    exact ⟨q, ds[a].next[q], hq, List.getElem?_eq_getElem hqn, k_head_Label _ _ rfl (d_l (.agg [.sl (ds.map Nd.enc)]) rfl fun _ => d_l (ref a s) rfl fun _ => d_l _ (e_idx (nd_at ha) (Nd.okc_enc _)) fun _ => d_call hix (d_call (ok_head_Next ds a ha s q hqn) (d_l (ref ds[a].next[q].node (ad ds[a].next[q].shift s)) rfl fun _ => d_l (.bool true) rfl fun _ => d_l (ref ds[a].next[q].node (ad ds[a].next[q].shift s)) rfl fun _ => d_ret rfl)))⟩

noncomputable def fndV (path : List Ty) (u : Ty) : PV := match fnd path u with
  | some j => .tup [i (j : Int), i (off (path.getD j u) u), .bool true]
  | none => .tup [i 0, i 0, .bool false]
theorem ok_find {ds : List Nd} (hg : GrOk' ds) {L : List Ty} {M : Nat} {path : List Ty} (hp : POk L M path) {rs : List Rf} (hr : RTs ds rs path) (hrl : rs.length ≤ 549755813888) {x : Rf} {u : Ty} (hu : CL L M u) (huu : unfT u = u) (ha : act u.kind = true) (hx : RT ds x u) (l : List Nat) :
    Ok P F.readback_reader_find [.box (.agg [.sl (ds.map Nd.enc), .sl (rs.map Rf.enc), mpU l]), x.enc] (fndV path u) := by
  obtain ⟨hlen, hrt⟩ := hr
  have hxg := hx.inG
  refine k_readback_reader_find _ _ rfl (d_l x.enc rfl fun _ => d_l (.box (.agg [.sl (ds.map Nd.enc), .sl (rs.map Rf.enc), mpU l])) rfl fun _ => d_l (.agg [.sl (ds.map Nd.enc), .sl (rs.map Rf.enc), mpU l]) rfl fun _ => d_l (i (rs.length : Int)) (by show Prim.len.ev [.sl (rs.map Rf.enc)] = _; rw [e_len, List.length_map]) fun _ => ?_)
  refine den_loop (fun m' ys => ∃ j : Nat, j + m' = rs.length ∧ (∀ q (hq : q < path.length), q < j → ¬ Hit path[q] u) ∧ ys = [i j]) rs.length ⟨0, by omega, (fun q _ h => by omega), rfl⟩ ?_
  rintro m' _ ⟨j, hj, ht, rfl⟩
  refine d_l (.bool (decide ((j : Int) < (rs.length : Int)))) rfl fun _ => d_dec (p := (j : Int) < (rs.length : Int)) (fun h => ?_) fun h => d_ret ?_
  · have h1 : j < rs.length := by omega
    have h2 : j < path.length := by omega
    have hmem := List.getElem_mem h2
    have cp := hp.cl _ hmem
    have up := hp.un _ hmem
    have rp := hrt j h1 h2
    have rg := rp.inG
    have hd : off path[j] u = IntKind.i64.wrap (pv (Tx.pr ds x) - pv (Tx.pr ds rs[j])) := by
      rw [show pv (Tx.pr ds x) = pz (unfT u) from pv_rt (a := x.node) (s := x.shift) hx, show pv (Tx.pr ds rs[j]) = pz (unfT path[j]) from pv_rt (a := (rs[j]).node) (s := (rs[j]).shift) rp, huu, up, pz_act ha]; rfl
    obtain ⟨b, oO, hb⟩ := ok_Offset hg (r := rs[j]) (r' := x) rg.1 rg.2 hxg.1 hxg.2 hd
    have rp' : RT ds ⟨(rs[j]).node, (rs[j]).shift⟩ path[j] := rp
    have hb : b = true ↔ Hit path[j] u := by
      rw [hb]
      exact (eqP_eqv (cp.raise _) hu (rp'.raise (off path[j] u)) (show RT ds ⟨x.node, x.shift⟩ u from hx)).symm
    have hat : (rs.map Rf.enc)[j]? = some (rs[j]).enc := by simp [h1]
    refine d_l _ (e_idx hat rfl) fun _ => d_l (rs[j]).enc rfl fun _ => d_l (.box (.agg [.sl (ds.map Nd.enc), .sl (rs.map Rf.enc), mpU l])) rfl fun _ => d_l (.agg [.sl (ds.map Nd.enc), .sl (rs.map Rf.enc), mpU l]) rfl fun _ => d_call oO (d_l (i (if b then off path[j] u else 0)) rfl fun _ => d_l (.bool b) rfl fun _ => d_ite (fun hbt => d_ret ?_) fun hbf => d_l _ (e_inc (by omega)) fun _ => d_cont rfl ⟨m' - 1, by omega, j + 1, by omega, fun q hq hqj => ?_, rfl⟩)
    · subst hbt
      unfold fndV
      rw [fnd_of h2 (hb.1 rfl) fun q hq => ht q (by omega) hq]
      simp only [List.getD_eq_getElem?_getD, List.getElem?_eq_getElem h2, Option.getD_some, if_true]; rfl
    · by_cases e : q = j
      · subst e
        exact fun c => by rw [hb.2 c] at hbf; cases hbf
      · exact ht q hq (by omega)
  · unfold fndV
    rw [fnd_of_none fun q hq => ht q hq (by omega)]

/-- the text of tree, from the path on -/
def treeTx (x g rs mp : PV) (R : PV → PV → PV → PV → PV) : T PV :=
.l (.okc 2 true) [x] fun x0 =>
.call F.head_Prio [(.agg [g]), x0] fun x1 =>
.l (.tc 0) [x1] fun x2 =>
.l (.tc 1) [x1] fun x3 =>
.l .bnot [x3] fun x4 =>
.ite x4 (
 .call F.head_Kind [(.agg [g]), x0] fun x5 =>
 .l (.okcs [(1, false)]) [x5] fun x6 =>
 .ret (R (.agg [x5, (i 0), (.str ⟨#[]⟩), (i 0), (.sl []), (.sl [])]) g rs mp)) (
 .call F.readback_reader_find [(.box (.agg [g, rs, mp])), x0] fun x5 =>
 .l .gnd [x5] fun x6 =>
 .l (.tc 0) [x6] fun x7 =>
 .l (.tc 1) [x6] fun x8 =>
 .l (.tc 2) [x6] fun x9 =>
 .ite x9 (
  .l (.mset false [.i .i64]) [mp, x7, (.bool true)] fun x10 =>
  .call F.readback_name [x7] fun x11 =>
  .l (.okcs [(1, false), (1, false)]) [x11, x8] fun x12 =>
  .ret (R (.agg [(i 9), (i 0), x11, x8, (.sl []), (.sl [])]) g rs x10)) (
  .l .len [rs] fun x10 =>
  .l (.lst 2 true) [x0] fun x11 =>
  .l (.app 2 true 16) [rs, x11] fun x12 =>
  .l (.idx 4 true) [g, (c 0 x0)] fun x13 =>
  .l .len [(c 2 x13)] fun x14 =>
  .l (.cmp .gtr .i64) [x14, (i 0)] fun x15 =>
  .ite x15 (
   .callvs (.fn F.readback_reader_choice [] []) sg_readback_reader_tree [x0, g, x12, mp] fun z16 =>
   .l (.okc 6 true) [(n z16 0)] fun x17 =>
   .call F.head_Kind [(.agg [(n z16 1)]), x0] fun x18 =>
   .l (.okc 1 false) [x18] fun x19 =>
   .l (.okc 1 false) [x2] fun x20 =>
   .l (.slcT 2 true) [(n z16 2), x10] fun x21 =>
   .l (.mget false [.i .i64] (.bool false)) [(n z16 3), x10] fun x22 =>
   .ite x22 (
    .l (.mdel false [.i .i64]) [(n z16 3), x10] fun x23 =>
    .call F.readback_name [x10] fun x24 =>
    .l (.lst 6 true) [(.agg [x19, x20, (c 2 x17), (c 3 x17), (c 4 x17), (c 5 x17)])] fun x25 =>
    .l (.okcs [(1, false)]) [x24] fun x26 =>
    .ret (R (.agg [(i 8), (i 0), x24, (i 0), (.sl []), x25]) (n z16 1) x21 x23)) (
    .ret (R (.agg [x19, x20, (c 2 x17), (c 3 x17), (c 4 x17), (c 5 x17)]) (n z16 1) x21 (n z16 3)))) (
   .callvs (.fn F.readback_reader_plain [] []) sg_readback_reader_tree [x0, g, x12, mp] fun z16 =>
   .l (.okc 6 true) [(n z16 0)] fun x17 =>
   .call F.head_Kind [(.agg [(n z16 1)]), x0] fun x18 =>
   .l (.okc 1 false) [x18] fun x19 =>
   .l (.okc 1 false) [x2] fun x20 =>
   .l (.slcT 2 true) [(n z16 2), x10] fun x21 =>
   .l (.mget false [.i .i64] (.bool false)) [(n z16 3), x10] fun x22 =>
   .ite x22 (
    .l (.mdel false [.i .i64]) [(n z16 3), x10] fun x23 =>
    .call F.readback_name [x10] fun x24 =>
    .l (.lst 6 true) [(.agg [x19, x20, (c 2 x17), (c 3 x17), (c 4 x17), (c 5 x17)])] fun x25 =>
    .l (.okcs [(1, false)]) [x24] fun x26 =>
    .ret (R (.agg [(i 8), (i 0), x24, (i 0), (.sl []), x25]) (n z16 1) x21 x23)) (
    .ret (R (.agg [x19, x20, (c 2 x17), (c 3 x17), (c 4 x17), (c 5 x17)]) (n z16 1) x21 (n z16 3))))))
theorem u_tree_eq (x g rs mp : PV) : u_readback_reader_tree [x, g, rs, mp] = treeTx x g rs mp (fun t g r m => .tup [t, g, r, m]) := rfl
theorem u_treeN_eq (x g mp : PV) : u_readback_reader_tree_Nil [x, g, mp] = treeTx x g (.sl []) mp (fun t _ _ _ => .tup [t]) := rfl
end Go.Proofs.YtopinhoalbgebaaGreatDoor.Tx

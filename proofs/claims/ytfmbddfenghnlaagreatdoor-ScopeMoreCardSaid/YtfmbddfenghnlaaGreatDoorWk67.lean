/- Contracts: right nodes of processes (2). -/
import Derived.Test.YtfmbddfenghnlaaGreatDoorWk66
set_option linter.all false
namespace Go.Proofs.YtfmbddfenghnlaaGreatDoor.Tx
open Go.Lf Go.Lf.S Go.Lf.Duo
set_option maxRecDepth 100000

def bodP (p : Pr) : Prop :=
  (p.kind = 1 ∧ p.chan = eB ∧ p.var = eB ∧ p.args.length = 0 ∧ p.labels.length = 0 ∧ p.kids.length = 0 ∧ p.t = zeroTy) ∨
  (p.kind = 2 ∧ nameP p.chan ∧ p.var = eB ∧ p.args.length = 1 ∧ p.labels.length = 0 ∧ p.kids.length = 1 ∧ p.t = zeroTy) ∨
  (p.kind = 3 ∧ nameP p.chan ∧ nameP p.var ∧ p.args.length = 0 ∧ p.labels.length = 0 ∧ p.kids.length = 1 ∧ p.t = zeroTy) ∨
  (p.kind = 4 ∧ nameP p.chan ∧ p.var = eB ∧ p.args.length = 0 ∧ p.labels.length = 1 ∧ labP p.labels ∧ p.kids.length = 1 ∧ p.t = zeroTy) ∨
  (p.kind = 5 ∧ nameP p.chan ∧ p.var = eB ∧ p.args.length = 0 ∧ 0 < p.labels.length ∧ labP p.labels ∧ p.kids.length = p.labels.length ∧ p.t = zeroTy) ∨
  (p.kind = 6 ∧ nameP p.chan ∧ nameP p.var ∧ p.chan ≠ p.var ∧ p.args.length = 0 ∧ p.labels.length = 0 ∧ p.kids.length = 1 ∧ rightE p.t = 0 ∧ sesB p.t.kind = true) ∨
  (p.kind = 7 ∧ (∀ x ∈ p.kids, x.kind ≠ 7) ∧ p.chan = eB ∧ p.var = eB ∧ p.args.length = 0 ∧ p.labels.length = 0 ∧ 2 ≤ p.kids.length ∧ p.t = zeroTy) ∨
  (p.kind = 8 ∧ nameP p.chan ∧ p.var = eB ∧ p.labels.length = 0 ∧ p.kids.length = 0 ∧ p.t = zeroTy)
def nodeP (p : Pr) : Prop := (∀ a ∈ p.args, valP a) ∧ bodP p

theorem labP_one {s : ByteArray} : labP [s] ↔ nameP s := by simp [labP]
theorem labP_0 {l : List ByteArray} (h : l.length = 0) : labP l := by rw [List.eq_nil_of_length_eq_zero h]; exact labP_nil

def nodP (p : Pr) (c v ty : Bool) (na nl : Int) (kp : Prop) : Prop := nmP c p.chan ∧ nmP v p.var ∧ typP ty p ∧ (na < 0 ∨ (p.args.length : Int) = na) ∧ (nl < 0 ∨ (p.labels.length : Int) = nl) ∧ kp ∧ labP p.labels ∧ ∀ a ∈ p.args, valP a
theorem okx_shape_of (p : Pr) (hlim : PLim p) (hz : p.t.sz ≤ 1099511627776) {cB vB tB : Bool} {na nl : Int} {g : Nat} {caps : List PV} {kp : Prop}
    (hr : (Prim.mget2 false [.i .i64] (.agg [(.bool false), (.bool false), (.bool false), (i 0), (i 0), .nilF])).ev [pruleV, i p.kind] = some (.tup [.agg [.bool cB, .bool vB, .bool tB, i na, i nl, .fn g [] caps], .bool true]))
    (hk : Ok P g (p.enc :: caps) (.bool (pb kp))) : Ok P F.proctree_shape [p.enc] (.bool (pb (nodP p cB vB tB na nl kp))) := by
  cases hlim with
  | mk _ hc hv hl hll ha hal ht hkl hkk =>
  have h3 := okx_typed p ht hz tB
  obtain ⟨k, c, v, ls, ar, t, ks⟩ := p
  rw [Pr.enc_mk] at hk h3 ⊢
  refine tx_pb k_proctree_shape rfl (by simp [t_proctree_shape, T.dt]) ?_
  have h4 := okx_pdistinct ls hll hl
  have h5 := okx_values ar hal ha
  have fin : nmP cB c → nmP vB v → typP tB (.mk k c v ls ar t ks) → (na < 0 ∨ (ar.length : Int) = na) → (nl < 0 ∨ (ls.length : Int) = nl) → (T.callv (.fn g [] caps) [.agg [i k, .str c, .str v, .sl (ls.map .str), .sl (ar.map Vl.enc), i t.kind, i t.prio, .str t.name, i t.shift, .sl (t.labels.map .str), .sl (t.kids.map Ty.enc), .sl (ks.map Pr.enc)]] fun x => .ite x (.call F.proctree_distinct [.sl (ls.map .str)] fun y => .ite y (.call F.slices_ContainsFunc_api_Value_api_Value [.sl (ar.map Vl.enc), .fn F.proctree_shape_1 [] []] fun z => .l .bnot [z] fun w => .ret w) (.ret (.bool false))) (.ret (.bool false))).den0 P (IsB (nodP (.mk k c v ls ar t ks) cB vB tB na nl kp)) [] := by
    intro f1 f2 f3 f4 f5
    refine d_callv (fs := []) hk (d_ite (fun f6 => ?_) fun f6 => d_ret (isB_f fun e => pb_false.1 f6 e.2.2.2.2.2.1))
    refine d_call h4 (d_ite (fun f7 => ?_) fun f7 => d_ret (isB_f fun e => pb_false.1 f7 e.2.2.2.2.2.2.1))
    refine d_call h5 (d_l _ rfl fun _ => d_ret ⟨_, rfl, ?_⟩)
    rw [Bool.not_not, pb_iff]
    exact ⟨fun e => ⟨f1, f2, f3, f4, f5, pb_iff.1 f6, pb_iff.1 f7, e⟩, fun e => e.2.2.2.2.2.2.2⟩
  refine d_l (.agg [i k, .str c, .str v, .sl (ls.map .str), .sl (ar.map Vl.enc), i t.kind, i t.prio, .str t.name, i t.shift, .sl (t.labels.map .str), .sl (t.kids.map Ty.enc), .sl (ks.map Pr.enc)]) rfl fun _ => d_call ok_rules (d_l _ hr fun _ => d_l _ rfl fun _ => d_l _ rfl fun _ => d_l _ rfl fun _ => d_true ?_)
  refine d_call (okx_named c hc cB) (d_ite (fun f1 => ?_) fun f1 => d_ret (isB_f fun e => pb_false.1 f1 e.1))
  refine d_call (okx_named v hv vB) (d_ite (fun f2 => ?_) fun f2 => d_ret (isB_f fun e => pb_false.1 f2 e.2.1))
  refine d_call h3 (d_ite (fun f3 => ?_) fun f3 => d_ret (isB_f fun e => pb_false.1 f3 e.2.2.1))
  have f1 := pb_iff.1 f1
  have f2 := pb_iff.1 f2
  have f3 := pb_iff.1 f3
  refine d_l _ rfl fun _ => d_dec (p := na < 0) (fun f4 => ?_) fun f4 => ?_
  · refine d_l _ rfl fun _ => d_dec (p := nl < 0) (fun f5 => fin f1 f2 f3 (.inl f4) (.inl f5)) fun f5 => ?_
    exact d_l _ (len_eq ls) fun _ => d_l _ rfl fun _ => d_dec (p := (ls.length : Int) = nl) (fun f6 => fin f1 f2 f3 (.inl f4) (.inr f6)) fun f6 => d_ret (isB_f fun e => e.2.2.2.2.1.elim f5 f6)
  · refine d_l _ (len_eq ar) fun _ => d_l _ rfl fun _ => d_dec (p := (ar.length : Int) = na) (fun f4' => ?_) fun f4' => d_ret (isB_f fun e => e.2.2.2.1.elim f4 f4')
    refine d_l _ rfl fun _ => d_dec (p := nl < 0) (fun f5 => fin f1 f2 f3 (.inr f4') (.inl f5)) fun f5 => ?_
    exact d_l _ (len_eq ls) fun _ => d_l _ rfl fun _ => d_dec (p := (ls.length : Int) = nl) (fun f6 => fin f1 f2 f3 (.inr f4') (.inr f6)) fun f6 => d_ret (isB_f fun e => e.2.2.2.2.1.elim f5 f6)

theorem okx_proctree_shape (p : Pr) (hlim : PLim p) (hz : p.t.sz ≤ 1099511627776) : Ok P F.proctree_shape [p.enc] (.bool (pb (nodeP p))) := by
  have hkl : p.kids.length ≤ maxLen := by cases hlim; assumption
  have hk0 : ∀ m : Int, Ok P F.proctree_kidsOf_1 (p.enc :: [.box (i m)]) (.bool (pb ((p.kids.length : Int) = m))) := fun m => by rw [pb_dec]; exact ok_kidsOf_1 p m
  by_cases h1 : p.kind = 1
  · have := okx_shape_of p hlim hz (by rw [h1]; rfl) (hk0 0)
    rwa [pb_congr (q := nodeP p)] at this
    simp [nodP, nodeP, bodP, nmP, typP, h1]
    grind [labP_0]
  by_cases h2 : p.kind = 2
  · have := okx_shape_of p hlim hz (by rw [h2]; rfl) (hk0 1)
    rwa [pb_congr (q := nodeP p)] at this
    simp [nodP, nodeP, bodP, nmP, typP, h2]
    grind [labP_0]
  by_cases h3 : p.kind = 3
  · have := okx_shape_of p hlim hz (by rw [h3]; rfl) (hk0 1)
    rwa [pb_congr (q := nodeP p)] at this
    simp [nodP, nodeP, bodP, nmP, typP, h3]
    grind [labP_0]
  by_cases h4 : p.kind = 4
  · have := okx_shape_of p hlim hz (by rw [h4]; rfl) (hk0 1)
    rwa [pb_congr (q := nodeP p)] at this
    simp [nodP, nodeP, bodP, nmP, typP, h4]
    grind [labP_0]
  by_cases h5 : p.kind = 5
  · have := okx_shape_of p hlim hz (by rw [h5]; rfl) (caps := []) (ok_each p)
    rwa [pb_congr (q := nodeP p)] at this
    simp [nodP, nodeP, bodP, nmP, typP, h5]
    grind [labP_0]
  by_cases h6 : p.kind = 6
  · have := okx_shape_of p hlim hz (by rw [h6]; rfl) (hk0 1)
    rwa [pb_congr (q := nodeP p)] at this
    simp [nodP, nodeP, bodP, nmP, typP, h6]
    grind [labP_0]
  by_cases h7 : p.kind = 7
  · have := okx_shape_of p hlim hz (by rw [h7]; rfl) (caps := []) (ok_several p hkl)
    rwa [pb_congr (q := nodeP p)] at this
    simp [nodP, nodeP, bodP, nmP, typP, h7]
    grind [labP_0]
  by_cases h8 : p.kind = 8
  · have := okx_shape_of p hlim hz (by rw [h8]; rfl) (hk0 0)
    rwa [pb_congr (q := nodeP p)] at this
    simp [nodP, nodeP, bodP, nmP, typP, h8]
    grind [labP_0]
  · have hr : (Prim.mget2 false [.i .i64] (.agg [(.bool false), (.bool false), (.bool false), (i 0), (i 0), .nilF])).ev [pruleV, i p.kind] = some (.tup [.agg [(.bool false), (.bool false), (.bool false), (i 0), (i 0), .nilF], .bool false]) := by
      simp [Prim.ev, pruleV, PV.kfind, PV.kfindGo, PV.keq, PV.sameK, PV.same1, PV.okc, PV.cells, PV.isAg, PV.isCell, h1, h2, h3, h4, h5, h6, h7, h8]
    refine tx_pb k_proctree_shape rfl (by simp [t_proctree_shape, T.dt]) ?_
    obtain ⟨k, c, v, ls, ar, t, ks⟩ := p
    rw [Pr.enc_mk]
    refine d_l (.agg [i k, .str c, .str v, .sl (ls.map .str), .sl (ar.map Vl.enc), i t.kind, i t.prio, .str t.name, i t.shift, .sl (t.labels.map .str), .sl (t.kids.map Ty.enc), .sl (ks.map Pr.enc)]) rfl fun _ => d_call ok_rules (d_l _ hr fun _ => d_l _ rfl fun _ => d_l _ rfl fun _ => d_l _ rfl fun _ => d_false (d_ret (isB_f ?_)))
    simp [nodeP, bodP, h1, h2, h3, h4, h5, h6, h7, h8]
end Go.Proofs.YtfmbddfenghnlaaGreatDoor.Tx

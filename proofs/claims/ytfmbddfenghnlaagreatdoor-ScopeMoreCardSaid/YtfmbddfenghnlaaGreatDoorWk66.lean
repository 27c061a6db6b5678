/- Contracts: right nodes of processes (1): values, names, rules. -/
import Derived.Test.YtfmbddfenghnlaaGreatDoorWk65
set_option linter.all false
namespace Go.Proofs.YtfmbddfenghnlaaGreatDoor.Tx
open Go.Lf Go.Lf.S Go.Lf.Duo
set_option maxRecDepth 100000

abbrev eB : ByteArray := ⟨#[]⟩
def valP (v : Vl) : Prop := (v.kind = 1 ∧ nameP v.name ∧ v.n = 0) ∨ (v.kind = 2 ∧ v.name = eB) ∨ (v.kind = 3 ∧ v.name = eB ∧ (v.n = 0 ∨ v.n = 1))
def nmP (b : Bool) (s : ByteArray) : Prop := if b then nameP s else s = eB
theorem okx_ref03_name (s : ByteArray) (hs : s.size ≤ maxLen) : Ok P F.ref03_name [.str s] (.bool (pb (nameP s))) :=
  k_ref03_name _ _ rfl (d_call (okx_ref01_Name s hs) (d_ret rfl))
theorem okx_named (s : ByteArray) (hs : s.size ≤ maxLen) (b : Bool) : Ok P F.proctree_named [.str s, .bool b] (.bool (pb (nmP b s))) := by
  refine tx_pb k_proctree_named rfl (by simp [t_proctree_named, T.dt]) ?_
  refine d_ite (fun h => ?_) fun h => ?_
  · refine d_call (okx_lex_Name s hs) (d_ret (isB_p ?_))
    have h : b = true := h
    subst h; exact Iff.rfl
  · refine d_l _ rfl fun _ => d_ret (isB_d ?_)
    have h : b = false := h
    subst h; exact Iff.rfl

theorem okx_value (v : Vl) (hs : v.name.size ≤ maxLen) : Ok P F.proctree_value [v.enc] (.bool (pb (valP v))) := by
  obtain ⟨k, nm, m⟩ := v
  refine tx_pb k_proctree_value rfl (by simp [t_proctree_value, T.dt]) ?_
  have hN := okx_lex_Name nm hs
  refine d_l (.agg [i k, .str nm, i m]) rfl fun _ => d_l _ rfl fun _ => d_dec (p := k = 1) (fun h1 => ?_) fun h1 => d_l _ rfl fun _ => d_dec (p := k = 2) (fun h2 => ?_) fun h2 => d_l _ rfl fun _ => d_dec (p := k = 3) (fun h3 => ?_) fun h3 => d_ret (isB_f (by simp [valP, h1, h2, h3]))
  · exact d_call hN (d_ite (fun h => d_l _ rfl fun _ => d_ret (isB_d (p := m = 0) (by have := pb_iff.1 h; simp [valP, h1, this]))) fun h => d_ret (isB_f (by have := pb_false.1 h; simp [valP, h1, this])))
  · exact d_l _ rfl fun _ => d_ret (isB_d (p := nm = eB) (by simp [valP, h2]))
  · refine d_l _ rfl fun _ => d_dec (p := nm = eB) (fun h => d_l _ rfl fun _ => d_dec (p := m = 0) (fun h4 => d_ret (isB_t (by simp [valP, h3, h, h4]))) fun h4 => d_l _ rfl fun _ => d_ret (isB_d (p := m = 1) (by simp [valP, h3, h, h4]))) fun h => d_ret (isB_f (by simp [valP, h3, h]))

theorem okx_ref03_value (v : Vl) (hs : v.name.size ≤ maxLen) : Ok P F.ref03_value [v.enc] (.bool (pb (valP v))) := by
  obtain ⟨k, nm, m⟩ := v
  refine tx_pb k_ref03_value rfl (by simp [t_ref03_value, T.dt]) ?_
  have hN := okx_ref03_name nm hs
  have g2 : ∀ (a b : T PV), (k = 2 → IsB (nm = eB) (.bool (decide (nm = eB))) → True) → True := fun _ _ _ => trivial
  refine d_l (.agg [i k, .str nm, i m]) rfl fun _ => d_l _ rfl fun _ => d_dec (p := k = 1) (fun h1 => ?_) fun h1 => ?_
  · subst h1
    refine d_call hN (d_ite (fun h => d_l _ rfl fun _ => d_dec (p := m = 0) (fun h4 => d_ret (isB_t (by have := pb_iff.1 h; simp [valP, this, h4]))) fun h4 => ?_) fun h => ?_)
    · refine d_l _ rfl fun _ => d_dec (p := (1 : Int) = 2) (fun h => absurd h (by decide)) fun _ => d_l _ rfl fun _ => d_dec (p := (1 : Int) = 3) (fun h => absurd h (by decide)) fun _ => d_ret (isB_f (by simp [valP, h4]))
    · have := pb_false.1 h
      refine d_l _ rfl fun _ => d_dec (p := (1 : Int) = 2) (fun h => absurd h (by decide)) fun _ => d_l _ rfl fun _ => d_dec (p := (1 : Int) = 3) (fun h => absurd h (by decide)) fun _ => d_ret (isB_f (by simp [valP, this]))
  · refine d_l _ rfl fun _ => d_dec (p := k = 2) (fun h2 => ?_) fun h2 => d_l _ rfl fun _ => d_dec (p := k = 3) (fun h3 => ?_) fun h3 => d_ret (isB_f (by simp [valP, h1, h2, h3]))
    · subst h2
      refine d_l _ rfl fun _ => d_dec (p := nm = eB) (fun h => d_ret (isB_t (by simp [valP, h]))) fun h => d_l _ rfl fun _ => d_dec (p := (2 : Int) = 3) (fun h => absurd h (by decide)) fun _ => d_ret (isB_f (by simp [valP, h]))
    · refine d_l _ rfl fun _ => d_dec (p := nm = eB) (fun h => d_l _ rfl fun _ => d_dec (p := m = 0) (fun h4 => d_ret (isB_t (by simp [valP, h3, h, h4]))) fun h4 => d_l _ rfl fun _ => d_ret (isB_d (p := m = 1) (by simp [valP, h3, h, h4]))) fun h => d_ret (isB_f (by simp [valP, h3, h]))

theorem okx_shape_1 (v : Vl) (hs : v.name.size ≤ maxLen) : Ok P F.proctree_shape_1 [v.enc] (.bool (!pb (valP v))) :=
  k_proctree_shape_1 _ _ rfl (d_l _ (e_okc (Vl.okc_enc v)) fun _ => d_call (okx_value v hs) (d_l _ rfl fun _ => d_ret rfl))
theorem kIdxV : TxOk P F.slices_IndexFunc_api_Value_api_Value 2 (idxFT 3) := k_slices_IndexFunc_api_Value_api_Value
theorem kConV : TxOk P F.slices_ContainsFunc_api_Value_api_Value 2 (conFT F.slices_IndexFunc_api_Value_api_Value) := k_slices_ContainsFunc_api_Value_api_Value
theorem okx_values (l : List Vl) (hl : l.length ≤ maxLen) (hs : ∀ a ∈ l, a.name.size ≤ maxLen) : Ok P F.slices_ContainsFunc_api_Value_api_Value [.sl (l.map Vl.enc), .fn F.proctree_shape_1 [] []] (.bool (!pb (∀ a ∈ l, valP a))) := by
  have h := conF_ok (caps := []) kIdxV kConV Vl.okc_enc hl (p := fun v => !pb (valP v)) fun a ha => okx_shape_1 a (hs a ha)
  rwa [show l.any (fun v => !pb (valP v)) = !pb (∀ a ∈ l, valP a) from ?_] at h
  rw [Bool.eq_iff_iff, List.any_eq_true, Bool.not_eq_true', pb_false]
  constructor
  · rintro ⟨a, ha, h⟩ hc
    rw [pb_iff.2 (hc a ha)] at h; cases h
  · intro h
    apply Classical.byContradiction
    intro hn
    exact h fun a ha => Classical.byContradiction fun hc => hn ⟨a, ha, by rw [pb_false.2 hc]; rfl⟩

theorem okx_pdistinct (ls : List ByteArray) (hl : ls.length ≤ maxLen) (hs : ∀ s ∈ ls, s.size ≤ maxLen) : Ok P F.proctree_distinct [.sl (ls.map .str)] (.bool (pb (labP ls))) := by
  have hl : ls.length ≤ 9223372036854775807 := hl
  refine tx_pb k_proctree_distinct rfl (by simp [t_proctree_distinct, T.dt]) ?_
  refine d_l _ (len_eq ls) fun _ => ?_
  refine den_loop (fun m ys => ∃ j : Nat, j + m = ls.length ∧ labP (ls.take j) ∧ ys = [i j]) ls.length ⟨0, by omega, ⟨by simp, by simp⟩, rfl⟩ ?_
  rintro m _ ⟨j, hj, hnd, rfl⟩
  refine d_l _ rfl fun _ => d_dec (fun h1 => ?_) fun h1 => d_ret (isB_t ?_)
  rotate_left
  · have h1 : ¬ (j : Int) < (ls.length : Int) := h1
    rwa [List.take_of_length_le (by omega)] at hnd
  have hlt : j < ls.length := by have h1 : (j : Int) < (ls.length : Int) := h1; omega
  have hst : (Prim.slcT 1 false).ev [.sl (ls.map .str), i (j : Int)] = some (.sl ((ls.take j).map .str)) := by
    rw [List.map_take]
    simp [Prim.ev]
    exact ⟨by omega, fun _ _ => rfl⟩
  refine d_l _ (e_idx (mp_at hlt) rfl) fun _ => d_call (okx_lex_Name _ (hs _ (List.getElem_mem hlt))) (d_l _ rfl fun _ => d_ite (fun hb => d_ret (isB_f fun hp => ?_)) fun hb => ?_)
  · have hb : pb (nameP ls[j]) = false := by simpa using hb
    exact pb_false.1 hb (hp.1 _ (List.getElem_mem hlt))
  have hb : nameP ls[j] := pb_iff.1 (by simpa using hb)
  refine d_l _ hst fun _ => d_call (okx_Contains_str (ls.take j) ls[j] (by simp; omega)) (d_ite (fun hc => d_ret (isB_f fun hp => ((labP_snoc hlt).1 (labP_take hp)).2.2 (pb_iff.1 hc))) fun hc => d_l _ (e_inc (by omega)) fun _ => d_cont rfl ⟨m - 1, by omega, j + 1, by omega, (labP_snoc hlt).2 ⟨hnd, hb, pb_false.1 hc⟩, rfl⟩)

def zeroTy : Ty := .mk 0 0 eB 0 [] []
theorem sb_pt (p : Pr) : sb 5 6 p.enc = p.t.enc := by
  obtain ⟨k, c, v, ls, ar, t, ks⟩ := p
  rw [Ty.enc_cs, Pr.enc_mk]; rfl
def typP (b : Bool) (p : Pr) : Prop := if b then rightE p.t = 0 ∧ sesB p.t.kind = true ∧ p.chan ≠ p.var else p.t = zeroTy
theorem okx_typed (p : Pr) (ht : Lim p.t) (hz : p.t.sz ≤ 1099511627776) (b : Bool) : Ok P F.proctree_typed [p.enc, .bool b] (.bool (pb (typP b p))) := by
  refine tx_pb k_proctree_typed rfl (by simp [t_proctree_typed, T.dt]) ?_
  have h1 := okx_typetree_Right p.t ht hz
  have h2 := ok_Session p.t
  have h3 := okx_typetree_Same p.t zeroTy ht
  rw [← sb_pt p] at h1 h2 h3
  refine d_l p.enc (e_okc (Pr.okc_enc p)) fun _ => d_ite (fun h => ?_) fun h => ?_
  · have h : b = true := h
    subst h
    refine d_call h1 (d_l _ rfl fun _ => d_dec (p := rightE p.t = 0) (fun e1 => ?_) fun e1 => d_ret (isB_f fun e => e1 e.1))
    refine d_call h2 (d_ite (fun e2 => ?_) fun e2 => d_ret (isB_f fun e => by rw [e.2.1] at e2; cases e2))
    obtain ⟨k, c, v, ls, ar, t, ks⟩ := p
    rw [Pr.enc_mk]
    exact d_l (.bool (!decide (c = v))) rfl fun _ => d_ret ⟨_, rfl, by simp only [typP, if_true, Pr.t, Pr.chan, Pr.var]; simp only [Pr.t] at e1 e2; simp [e1, e2]⟩
  · have h : b = false := h
    subst h
    exact d_call h3 (d_ret (isB_p Iff.rfl))
theorem okx_plain (p : Pr) (ht : Lim p.t) : Ok P F.ref03_plain [p.enc] (.bool (pb (p.t = zeroTy))) := by
  have h3 := okx_ref02_Same p.t zeroTy ht
  rw [← sb_pt p] at h3
  exact k_ref03_plain _ _ rfl (d_l p.enc (e_okc (Pr.okc_enc p)) fun _ => d_call h3 (d_ret rfl))

/-! the number of kids -/

theorem ok_kidsOf_1 (p : Pr) (m : Int) : Ok P F.proctree_kidsOf_1 [p.enc, .box (i m)] (.bool (decide ((p.kids.length : Int) = m))) := by
  obtain ⟨k, c, v, ls, ar, t, ks⟩ := p
  rw [Pr.enc_mk]
  exact k_proctree_kidsOf_1 _ _ rfl (d_l (.agg [i k, .str c, .str v, .sl (ls.map .str), .sl (ar.map Vl.enc), i t.kind, i t.prio, .str t.name, i t.shift, .sl (t.labels.map .str), .sl (t.kids.map Ty.enc), .sl (ks.map Pr.enc)]) rfl fun _ => d_l _ (len_eq ks) fun _ => d_l (i m) rfl fun _ => d_l _ rfl fun _ => d_ret rfl)
theorem ok_kidsOf (m : Int) : Ok P F.proctree_kidsOf [i m] (.fn F.proctree_kidsOf_1 [] [.box (i m)]) :=
  k_proctree_kidsOf _ _ rfl (d_l (i m) rfl fun _ => d_ret rfl)
theorem ok_each (p : Pr) : Ok P F.proctree_each [p.enc] (.bool (pb (p.kids.length = p.labels.length ∧ 0 < p.labels.length))) := by
  obtain ⟨k, c, v, ls, ar, t, ks⟩ := p
  rw [Pr.enc_mk]
  refine tx_pb k_proctree_each rfl (by simp [t_proctree_each, T.dt]) ?_
  refine (d_l (.agg [i k, .str c, .str v, .sl (ls.map .str), .sl (ar.map Vl.enc), i t.kind, i t.prio, .str t.name, i t.shift, .sl (t.labels.map .str), .sl (t.kids.map Ty.enc), .sl (ks.map Pr.enc)]) rfl fun _ => d_l _ (len_eq ks) fun _ => d_l _ (len_eq ls) fun _ => d_l _ rfl fun _ => d_dec (p := (ks.length : Int) = (ls.length : Int)) (fun h => d_l _ (len_eq ls) fun _ => d_l _ rfl fun _ => d_ret (isB_d (p := (0 : Int) < (ls.length : Int)) ?_)) fun h => d_ret (isB_f ?_))
  · simp only [Pr.kids, Pr.labels]; omega
  · simp only [Pr.kids, Pr.labels]; omega
theorem ok_several_1 (p : Pr) : Ok P F.proctree_several_1 [p.enc] (.bool (decide (p.kind = 7))) := by
  obtain ⟨k, c, v, ls, ar, t, ks⟩ := p
  rw [Pr.enc_mk]
  exact k_proctree_several_1 _ _ rfl (d_l (.agg [i k, .str c, .str v, .sl (ls.map .str), .sl (ar.map Vl.enc), i t.kind, i t.prio, .str t.name, i t.shift, .sl (t.labels.map .str), .sl (t.kids.map Ty.enc), .sl (ks.map Pr.enc)]) rfl fun _ => d_l _ rfl fun _ => d_ret rfl)
theorem ok_several (p : Pr) (hl : p.kids.length ≤ maxLen) : Ok P F.proctree_several [p.enc] (.bool (pb (2 ≤ p.kids.length ∧ ∀ x ∈ p.kids, x.kind ≠ 7))) := by
  have hc := conF_ok (caps := []) kIdxP kConP Pr.okc_enc hl fun x _ => ok_several_1 x
  obtain ⟨k, c, v, ls, ar, t, ks⟩ := p
  rw [Pr.enc_mk]
  refine tx_pb k_proctree_several rfl (by simp [t_proctree_several, T.dt]) ?_
  refine (d_l (.agg [i k, .str c, .str v, .sl (ls.map .str), .sl (ar.map Vl.enc), i t.kind, i t.prio, .str t.name, i t.shift, .sl (t.labels.map .str), .sl (t.kids.map Ty.enc), .sl (ks.map Pr.enc)]) rfl fun _ => d_l _ (len_eq ks) fun _ => d_l _ rfl fun _ => d_dec (p := (2 : Int) ≤ (ks.length : Int)) (fun h => d_call hc (d_l _ rfl fun _ => d_ret ⟨_, rfl, ?_⟩)) fun h => d_ret (isB_f ?_))
  · simp only [Pr.kids, Bool.not_eq_true', List.any_eq_false, decide_eq_true_iff]
    exact ⟨fun e => ⟨by omega, e⟩, fun e => e.2⟩
  · simp only [Pr.kids]; omega

def pruleV : PV := .mp [i 1, i 2, i 3, i 4, i 5, i 6, i 7, i 8]
  [.agg [.bool false, .bool false, .bool false, i 0, i 0, .fn F.proctree_kidsOf_1 [] [.box (i 0)]],
   .agg [.bool true, .bool false, .bool false, i 1, i 0, .fn F.proctree_kidsOf_1 [] [.box (i 1)]],
   .agg [.bool true, .bool true, .bool false, i 0, i 0, .fn F.proctree_kidsOf_1 [] [.box (i 1)]],
   .agg [.bool true, .bool false, .bool false, i 0, i 1, .fn F.proctree_kidsOf_1 [] [.box (i 1)]],
   .agg [.bool true, .bool false, .bool false, i 0, i (-1), .fn F.proctree_each [] []],
   .agg [.bool true, .bool true, .bool true, i 0, i 0, .fn F.proctree_kidsOf_1 [] [.box (i 1)]],
   .agg [.bool false, .bool false, .bool false, i 0, i 0, .fn F.proctree_several [] []],
   .agg [.bool true, .bool false, .bool false, i (-1), i 0, .fn F.proctree_kidsOf_1 [] [.box (i 0)]]]
theorem ok_rules : Ok P F.proctree_rules [] pruleV := by
  refine k_proctree_rules _ _ rfl ?_
  refine d_call (ok_kidsOf 0) (d_l _ rfl fun _ => d_l _ rfl fun _ => ?_)
  refine d_call (ok_kidsOf 1) (d_l _ rfl fun _ => d_l _ rfl fun _ => ?_)
  refine d_call (ok_kidsOf 1) (d_l _ rfl fun _ => d_l _ rfl fun _ => ?_)
  refine d_call (ok_kidsOf 1) (d_l _ rfl fun _ => d_l _ rfl fun _ => ?_)
  refine d_l _ rfl fun _ => d_l _ rfl fun _ => ?_
  refine d_call (ok_kidsOf 1) (d_l _ rfl fun _ => d_l _ rfl fun _ => ?_)
  refine d_l _ rfl fun _ => d_l _ rfl fun _ => ?_
  refine d_call (ok_kidsOf 0) (d_l _ rfl fun _ => d_l _ rfl fun _ => ?_)
  exact d_ret rfl
end Go.Proofs.YtfmbddfenghnlaaGreatDoor.Tx

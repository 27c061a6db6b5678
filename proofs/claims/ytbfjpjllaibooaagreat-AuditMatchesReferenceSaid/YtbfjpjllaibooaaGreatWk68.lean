/- Contracts: right nodes of processes (3): the reference. -/
import Derived.Test.YtbfjpjllaibooaaGreatWk67
set_option linter.all false
namespace Go.Proofs.YtbfjpjllaibooaaGreat.Tx
open Go.Lf Go.Lf.S Go.Lf.Duo
set_option maxRecDepth 100000

theorem take_snoc_all {α : Type} {l : List α} {j : Nat} (h : j < l.length) {p : α → Prop} (h1 : ∀ a ∈ l.take j, p a) (h2 : p l[j]) : ∀ a ∈ l.take (j + 1), p a := by
  intro a ha
  rw [List.take_succ, List.getElem?_eq_getElem h] at ha
  rcases List.mem_append.1 ha with ha | ha
  · exact h1 a ha
  · have : a = l[j] := by simpa using ha
    rw [this]; exact h2

theorem okx_ref03_node (p : Pr) (hlim : PLim p) (hz : p.t.sz ≤ 1099511627776) : Ok P F.ref03_node [p.enc] (.bool (pb (nodeP p))) := by
  cases hlim with
  | mk _ hc hv hl hll ha hal ht hkl hkk =>
  have hpl := okx_plain p ht
  have hR := okx_ref02_Right p.t ht hz
  have hS := ok_ref02_Session p.t
  rw [← sb_pt p] at hR hS
  obtain ⟨k, c, v, ls, ar, t, ks⟩ := p
  have hll : ls.length ≤ 9223372036854775807 := hll
  have hal : ar.length ≤ 9223372036854775807 := hal
  have hkl : ks.length ≤ 9223372036854775807 := hkl
  have hL := okx_ref02_Labels ls hll hl
  have hcn := okx_ref03_name c hc
  have hvn := okx_ref03_name v hv
  rw [Pr.enc_mk] at hpl hR hS ⊢
  refine tx_pb k_ref03_node rfl (by simp [t_ref03_node, T.dt]) ?_
  refine d_l (.agg [i k, .str c, .str v, .sl (ls.map .str), .sl (ar.map Vl.enc), i t.kind, i t.prio, .str t.name, i t.shift, .sl (t.labels.map .str), .sl (t.kids.map Ty.enc), .sl (ks.map Pr.enc)]) rfl fun _ => ?_
  refine den_loop (fun m ys => ∃ j : Nat, j + m = ar.length ∧ (∀ a ∈ ar.take j, valP a) ∧ ys = [i j]) ar.length ⟨0, by omega, by simp, rfl⟩ ?_
  rintro m _ ⟨j, hj, hdone, rfl⟩
  refine d_l _ (len_eq ar) fun _ => d_l _ rfl fun _ => d_dec (p := (j : Int) < (ar.length : Int)) (fun h1 => ?_) fun h1 => ?_
  · have hlt : j < ar.length := by omega
    refine d_l _ (e_idx (mp_at hlt) (Vl.okc_enc _)) fun _ => d_call (okx_ref03_value _ (ha _ (List.getElem_mem hlt))) (d_l _ rfl fun _ => d_ite (fun hb => d_ret (isB_f fun e => ?_)) fun hb => d_l _ (e_inc (by omega)) fun _ => d_cont rfl ⟨m - 1, by omega, j + 1, by omega, take_snoc_all hlt hdone (pb_iff.1 (by simpa using hb)), rfl⟩)
    have hb : pb (valP ar[j]) = false := by simpa using hb
    exact pb_false.1 hb (e.1 _ (List.getElem_mem hlt))
  rw [List.take_of_length_le (by omega)] at hdone
  have hA : ∀ {q : Prop}, (bodP (.mk k c v ls ar t ks) ↔ q) → nodeP (.mk k c v ls ar t ks) = q := fun h => propext ⟨fun e => h.1 e.2, fun e => ⟨hdone, h.2 e⟩⟩
  refine d_l _ (len_eq ar) fun _ => d_l _ (len_eq ls) fun _ => d_l _ (len_eq ks) fun _ => ?_
  refine d_l _ rfl fun _ => d_dec (p := k = 1) (fun h1 => ?_) fun h1 => ?_
  · rw [hA (q := c = eB ∧ v = eB ∧ ar.length = 0 ∧ ls.length = 0 ∧ ks.length = 0 ∧ t = zeroTy) (by simp [bodP, Pr.kind, Pr.chan, Pr.var, Pr.args, Pr.labels, Pr.kids, Pr.t, h1])]
    refine d_l _ rfl fun _ => d_dec (p := c = eB) (fun e1 => ?_) fun e1 => d_ret (isB_f fun e => e1 e.1)
    refine d_l _ rfl fun _ => d_dec (p := v = eB) (fun e2 => ?_) fun e2 => d_ret (isB_f fun e => e2 e.2.1)
    refine d_l _ rfl fun _ => d_dec (p := (ar.length : Int) = 0) (fun e3 => ?_) fun e3 => d_ret (isB_f fun e => by omega)
    refine d_l _ rfl fun _ => d_dec (p := (ls.length : Int) = 0) (fun e4 => ?_) fun e4 => d_ret (isB_f fun e => by omega)
    refine d_l _ rfl fun _ => d_dec (p := (ks.length : Int) = 0) (fun e5 => ?_) fun e5 => d_ret (isB_f fun e => by omega)
    exact d_call hpl (d_ret (isB_p ⟨fun e => ⟨e1, e2, by omega, by omega, by omega, e⟩, fun e => e.2.2.2.2.2⟩))
  refine d_l _ rfl fun _ => d_dec (p := k = 2) (fun h2 => ?_) fun h2 => ?_
  · rw [hA (q := nameP c ∧ v = eB ∧ ar.length = 1 ∧ ls.length = 0 ∧ ks.length = 1 ∧ t = zeroTy) (by simp [bodP, Pr.kind, Pr.chan, Pr.var, Pr.args, Pr.labels, Pr.kids, Pr.t, h2])]
    refine d_call hcn (d_ite (fun e1 => ?_) fun e1 => d_ret (isB_f fun e => pb_false.1 e1 e.1))
    refine d_l _ rfl fun _ => d_dec (p := v = eB) (fun e2 => ?_) fun e2 => d_ret (isB_f fun e => e2 e.2.1)
    refine d_l _ rfl fun _ => d_dec (p := (ar.length : Int) = 1) (fun e3 => ?_) fun e3 => d_ret (isB_f fun e => by omega)
    refine d_l _ rfl fun _ => d_dec (p := (ls.length : Int) = 0) (fun e4 => ?_) fun e4 => d_ret (isB_f fun e => by omega)
    refine d_l _ rfl fun _ => d_dec (p := (ks.length : Int) = 1) (fun e5 => ?_) fun e5 => d_ret (isB_f fun e => by omega)
    exact d_call hpl (d_ret (isB_p ⟨fun e => ⟨pb_iff.1 e1, e2, by omega, by omega, by omega, e⟩, fun e => e.2.2.2.2.2⟩))
  refine d_l _ rfl fun _ => d_dec (p := k = 3) (fun h3 => ?_) fun h3 => ?_
  · rw [hA (q := nameP c ∧ nameP v ∧ ar.length = 0 ∧ ls.length = 0 ∧ ks.length = 1 ∧ t = zeroTy) (by simp [bodP, Pr.kind, Pr.chan, Pr.var, Pr.args, Pr.labels, Pr.kids, Pr.t, h3])]
    refine d_call hcn (d_ite (fun e1 => ?_) fun e1 => d_ret (isB_f fun e => pb_false.1 e1 e.1))
    refine d_call hvn (d_ite (fun e2 => ?_) fun e2 => d_ret (isB_f fun e => pb_false.1 e2 e.2.1))
    refine d_l _ rfl fun _ => d_dec (p := (ar.length : Int) = 0) (fun e3 => ?_) fun e3 => d_ret (isB_f fun e => by omega)
    refine d_l _ rfl fun _ => d_dec (p := (ls.length : Int) = 0) (fun e4 => ?_) fun e4 => d_ret (isB_f fun e => by omega)
    refine d_l _ rfl fun _ => d_dec (p := (ks.length : Int) = 1) (fun e5 => ?_) fun e5 => d_ret (isB_f fun e => by omega)
    exact d_call hpl (d_ret (isB_p ⟨fun e => ⟨pb_iff.1 e1, pb_iff.1 e2, by omega, by omega, by omega, e⟩, fun e => e.2.2.2.2.2⟩))
  refine d_l _ rfl fun _ => d_dec (p := k = 4) (fun h4 => ?_) fun h4 => ?_
  · rw [hA (q := nameP c ∧ v = eB ∧ ar.length = 0 ∧ ls.length = 1 ∧ labP ls ∧ ks.length = 1 ∧ t = zeroTy) (by simp [bodP, Pr.kind, Pr.chan, Pr.var, Pr.args, Pr.labels, Pr.kids, Pr.t, h4])]
    refine d_call hcn (d_ite (fun e1 => ?_) fun e1 => d_ret (isB_f fun e => pb_false.1 e1 e.1))
    refine d_l _ rfl fun _ => d_dec (p := v = eB) (fun e2 => ?_) fun e2 => d_ret (isB_f fun e => e2 e.2.1)
    refine d_l _ rfl fun _ => d_dec (p := (ar.length : Int) = 0) (fun e3 => ?_) fun e3 => d_ret (isB_f fun e => by omega)
    refine d_l _ rfl fun _ => d_dec (p := (ls.length : Int) = 1) (fun e4 => ?_) fun e4 => d_ret (isB_f fun e => by omega)
    obtain ⟨s, rfl⟩ := List.length_eq_one_iff.1 (show ls.length = 1 by omega)
    rw [labP_one]
    refine d_l (.str s) rfl fun _ => d_call (okx_ref03_name s (hl s (by simp [Pr.labels]))) (d_ite (fun e5 => ?_) fun e5 => d_ret (isB_f fun e => pb_false.1 e5 e.2.2.2.2.1))
    refine d_l _ rfl fun _ => d_dec (p := (ks.length : Int) = 1) (fun e6 => ?_) fun e6 => d_ret (isB_f fun e => by omega)
    exact d_call hpl (d_ret (isB_p ⟨fun e => ⟨pb_iff.1 e1, e2, by omega, by omega, pb_iff.1 e5, by omega, e⟩, fun e => e.2.2.2.2.2.2⟩))
  refine d_l _ rfl fun _ => d_dec (p := k = 5) (fun h5 => ?_) fun h5 => ?_
  · rw [hA (q := nameP c ∧ v = eB ∧ ar.length = 0 ∧ 0 < ls.length ∧ labP ls ∧ ks.length = ls.length ∧ t = zeroTy) (by simp [bodP, Pr.kind, Pr.chan, Pr.var, Pr.args, Pr.labels, Pr.kids, Pr.t, h5])]
    refine d_call hcn (d_ite (fun e1 => ?_) fun e1 => d_ret (isB_f fun e => pb_false.1 e1 e.1))
    refine d_l _ rfl fun _ => d_dec (p := v = eB) (fun e2 => ?_) fun e2 => d_ret (isB_f fun e => e2 e.2.1)
    refine d_l _ rfl fun _ => d_dec (p := (ar.length : Int) = 0) (fun e3 => ?_) fun e3 => d_ret (isB_f fun e => by omega)
    refine d_l _ rfl fun _ => d_dec (p := 0 < (ls.length : Int)) (fun e4 => ?_) fun e4 => d_ret (isB_f fun e => by omega)
    refine d_call hL (d_ite (fun e5 => ?_) fun e5 => d_ret (isB_f fun e => pb_false.1 e5 e.2.2.2.2.1))
    refine d_l _ rfl fun _ => d_dec (p := (ks.length : Int) = (ls.length : Int)) (fun e6 => ?_) fun e6 => d_ret (isB_f fun e => by omega)
    exact d_call hpl (d_ret (isB_p ⟨fun e => ⟨pb_iff.1 e1, e2, by omega, by omega, pb_iff.1 e5, by omega, e⟩, fun e => e.2.2.2.2.2.2⟩))
  refine d_l _ rfl fun _ => d_dec (p := k = 6) (fun h6 => ?_) fun h6 => ?_
  · rw [hA (q := nameP c ∧ nameP v ∧ c ≠ v ∧ ar.length = 0 ∧ ls.length = 0 ∧ ks.length = 1 ∧ rightE t = 0 ∧ sesB t.kind = true) (by simp [bodP, Pr.kind, Pr.chan, Pr.var, Pr.args, Pr.labels, Pr.kids, Pr.t, h6])]
    refine d_call hcn (d_ite (fun e1 => ?_) fun e1 => d_ret (isB_f fun e => pb_false.1 e1 e.1))
    refine d_call hvn (d_ite (fun e2 => ?_) fun e2 => d_ret (isB_f fun e => pb_false.1 e2 e.2.1))
    refine d_l _ rfl fun _ => d_ndec (p := c = v) (fun e3 => ?_) fun e3 => d_ret (isB_f fun e => e.2.2.1 e3)
    refine d_l _ rfl fun _ => d_dec (p := (ar.length : Int) = 0) (fun e4 => ?_) fun e4 => d_ret (isB_f fun e => by omega)
    refine d_l _ rfl fun _ => d_dec (p := (ls.length : Int) = 0) (fun e5 => ?_) fun e5 => d_ret (isB_f fun e => by omega)
    refine d_l _ rfl fun _ => d_dec (p := (ks.length : Int) = 1) (fun e6 => ?_) fun e6 => d_ret (isB_f fun e => by omega)
    refine d_call hR (d_l _ rfl fun _ => d_dec (p := rightE t = 0) (fun e7 => ?_) fun e7 => d_ret (isB_f fun e => e7 e.2.2.2.2.2.2.1))
    exact d_call hS (d_ret ⟨_, rfl, ⟨fun e => ⟨pb_iff.1 e1, pb_iff.1 e2, e3, by omega, by omega, by omega, e7, e⟩, fun e => e.2.2.2.2.2.2.2⟩⟩)
  refine d_l _ rfl fun _ => d_dec (p := k = 7) (fun h7 => ?_) fun h7 => ?_
  · rw [hA (q := (∀ x ∈ ks, x.kind ≠ 7) ∧ c = eB ∧ v = eB ∧ ar.length = 0 ∧ ls.length = 0 ∧ 2 ≤ ks.length ∧ t = zeroTy) (by simp [bodP, Pr.kind, Pr.chan, Pr.var, Pr.args, Pr.labels, Pr.kids, Pr.t, h7])]
    refine den_loop (fun m ys => ∃ j : Nat, j + m = ks.length ∧ (∀ a ∈ ks.take j, a.kind ≠ 7) ∧ ys = [i j]) ks.length ⟨0, by omega, by simp, rfl⟩ ?_
    rintro m2 _ ⟨j2, hj2, hdone2, rfl⟩
    refine d_l _ rfl fun _ => d_dec (p := (j2 : Int) < (ks.length : Int)) (fun h1 => ?_) fun h1 => ?_
    · have hlt : j2 < ks.length := by omega
      have hk0 : Go.Lf.S.c 0 ks[j2].enc = i ks[j2].kind := by cases ks[j2]; rw [Pr.enc_mk]; rfl
      refine d_l _ (e_idx (mp_at hlt) (Pr.okc_enc _)) fun _ => ?_
      refine d_l (.bool (decide (ks[j2].kind = 7))) (by rw [hk0]; rfl) fun _ => d_dec (fun hb => d_ret (isB_f fun e => e.1 _ (List.getElem_mem hlt) hb)) fun hb => d_l _ (e_inc (by omega)) fun _ => d_cont rfl ⟨m2 - 1, by omega, j2 + 1, by omega, take_snoc_all hlt hdone2 hb, rfl⟩
    rw [List.take_of_length_le (by omega)] at hdone2
    refine d_l _ rfl fun _ => d_dec (p := c = eB) (fun e1 => ?_) fun e1 => d_ret (isB_f fun e => e1 e.2.1)
    refine d_l _ rfl fun _ => d_dec (p := v = eB) (fun e2 => ?_) fun e2 => d_ret (isB_f fun e => e2 e.2.2.1)
    refine d_l _ rfl fun _ => d_dec (p := (ar.length : Int) = 0) (fun e3 => ?_) fun e3 => d_ret (isB_f fun e => by omega)
    refine d_l _ rfl fun _ => d_dec (p := (ls.length : Int) = 0) (fun e4 => ?_) fun e4 => d_ret (isB_f fun e => by omega)
    refine d_l _ rfl fun _ => d_dec (p := 2 ≤ (ks.length : Int)) (fun e5 => ?_) fun e5 => d_ret (isB_f fun e => by omega)
    exact d_call hpl (d_ret (isB_p ⟨fun e => ⟨hdone2, e1, e2, by omega, by omega, by omega, e⟩, fun e => e.2.2.2.2.2.2⟩))
  refine d_l _ rfl fun _ => d_dec (p := k = 8) (fun h8 => ?_) fun h8 => d_ret (isB_f fun e => ?_)
  · rw [hA (q := nameP c ∧ v = eB ∧ ls.length = 0 ∧ ks.length = 0 ∧ t = zeroTy) (by simp [bodP, Pr.kind, Pr.chan, Pr.var, Pr.args, Pr.labels, Pr.kids, Pr.t, h8])]
    refine d_call hcn (d_ite (fun e1 => ?_) fun e1 => d_ret (isB_f fun e => pb_false.1 e1 e.1))
    refine d_l _ rfl fun _ => d_dec (p := v = eB) (fun e2 => ?_) fun e2 => d_ret (isB_f fun e => e2 e.2.1)
    refine d_l _ rfl fun _ => d_dec (p := (ls.length : Int) = 0) (fun e4 => ?_) fun e4 => d_ret (isB_f fun e => by omega)
    refine d_l _ rfl fun _ => d_dec (p := (ks.length : Int) = 0) (fun e5 => ?_) fun e5 => d_ret (isB_f fun e => by omega)
    exact d_call hpl (d_ret (isB_p ⟨fun e => ⟨pb_iff.1 e1, e2, by omega, by omega, e⟩, fun e => e.2.2.2.2⟩))
  · have := e.2
    simp [bodP, Pr.kind, h1, h2, h3, h4, h5, h6, h7, h8] at this
end Go.Proofs.YtbfjpjllaibooaaGreat.Tx

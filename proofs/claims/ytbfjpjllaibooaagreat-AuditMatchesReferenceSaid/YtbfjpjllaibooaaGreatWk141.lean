/- Right of the reference, there and back; the law: pruning twice is pruning once. -/
import Derived.Test.YtbfjpjllaibooaaGreatWk140
set_option linter.all false
namespace Go.Proofs.YtbfjpjllaibooaaGreat.Tx
open Go.Lf Go.Lf.S Go.Lf.Duo
set_option maxRecDepth 100000

/-- the looks at sizes that said yes -/
def LtP (p : Pg) (m : Nat) : Prop := Ok P F.ref03_Few [p.main.enc, i (m : Int)] (.bool true) ∧ ∀ d ∈ p.defs, Ok P F.ref03_Few [d.body.enc, i (m : Int)] (.bool true) ∧ ∀ e ∈ d.params, Ok P F.ref02_Few [e.t.enc, i 300] (.bool true)
theorem ok_Little2 (p : Pg) (h : GLim p) (m : Nat) (hm : m ≤ 20000) : ∃ b, Ok P F.ref03_Little [p.enc, i (m : Int)] (.bool b) ∧ (b = true → PgS p m ∧ LtP p m) := by
  obtain ⟨bm, km, km2⟩ := ok_ref03_Few p.main h.main m (by omega) (by omega)
  have km0 := km
  rw [← sb_main p] at km
  have := tx_ex (K := fun x => ∃ b, x = .bool b ∧ (b = true → PgS p m ∧ LtP p m)) k_ref03_Little (xs := [p.enc, i (m : Int)]) rfl (by simp [t_ref03_Little, T.dt]) (by
    refine d_l p.enc (e_okc (Pg.okc_enc p)) fun _ => d_l _ (len_eq p.defs) fun _ => d_l _ rfl fun _ => d_dec (fun _ => d_ret ⟨false, rfl, fun e => by cases e⟩) fun hl => ?_
    have hl : ¬ (20 : Int) < (p.defs.length : Int) := hl
    refine d_call km (d_l (.bool !bm) rfl fun _ => d_ite (fun _ => d_ret ⟨false, rfl, fun e => by cases e⟩) fun hbm => ?_)
    obtain ⟨m1, m2, m3⟩ := km2 (by simpa using hbm)
    have km1 : Ok P F.ref03_Few [p.main.enc, i (m : Int)] (.bool true) := by
      have : bm = true := by simpa using hbm
      rw [← this]; exact km0
    refine den_loop (fun mm ys => ∃ j : Nat, j + mm = p.defs.length ∧ (∀ d ∈ p.defs.take j, (d.body.sz ≤ m ∧ pdep d.body ≤ 150 ∧ TB 300 d.body) ∧ d.params.length ≤ 20 ∧ (∀ e ∈ d.params, e.t.sz ≤ 300) ∧ Ok P F.ref03_Few [d.body.enc, i (m : Int)] (.bool true) ∧ ∀ e ∈ d.params, Ok P F.ref02_Few [e.t.enc, i 300] (.bool true)) ∧ ys = [i j]) p.defs.length ⟨0, by omega, by simp, rfl⟩ ?_
    rintro mm _ ⟨j, hj, hdone, rfl⟩
    refine d_l _ (len_eq p.defs) fun _ => d_l _ rfl fun _ => d_dec (fun h1 => ?_) fun h1 => d_ret ⟨true, rfl, fun _ => ?_⟩
    rotate_left
    · have h1 : ¬ (j : Int) < (p.defs.length : Int) := h1
      rw [List.take_of_length_le (by omega)] at hdone
      exact ⟨⟨by omega, ⟨by omega, m2, m3⟩, fun d hd => (hdone d hd).1, fun d hd => ⟨(hdone d hd).2.1, (hdone d hd).2.2.1⟩⟩, km1, fun d hd => (hdone d hd).2.2.2⟩
    have hlt : j < p.defs.length := by have h1 : (j : Int) < (p.defs.length : Int) := h1; omega
    have hD := h.defs _ (List.getElem_mem hlt)
    obtain ⟨bd, kd, kd2⟩ := ok_ref03_Few p.defs[j].body hD.body m (by omega) (by omega)
    have kd0 := kd
    rw [← sb_body p.defs[j]] at kd
    have hpl : p.defs[j].params.length ≤ 9223372036854775807 := hD.len
    refine d_l _ (e_idx (mp_at hlt) (Df.okc_enc _)) fun _ => d_call kd (d_l (.bool !bd) rfl fun _ => d_ite (fun _ => d_ret ⟨false, rfl, fun e => by cases e⟩) fun hbd => ?_)
    obtain ⟨d1, d2, d3⟩ := kd2 (by simpa using hbd)
    have kd1 : Ok P F.ref03_Few [p.defs[j].body.enc, i (m : Int)] (.bool true) := by
      have : bd = true := by simpa using hbd
      rw [← this]; exact kd0
    refine d_l _ (e_idx (mp_at hlt) (Df.okc_enc _)) fun _ => d_l _ (len_eq p.defs[j].params) fun _ => d_l _ rfl fun _ => d_dec (fun _ => d_ret ⟨false, rfl, fun e => by cases e⟩) fun hp => ?_
    have hp : ¬ (20 : Int) < (p.defs[j].params.length : Int) := hp
    refine den_loop (fun mm' ys => ∃ q : Nat, q + mm' = p.defs[j].params.length ∧ (∀ e ∈ p.defs[j].params.take q, e.t.sz ≤ 300 ∧ Ok P F.ref02_Few [e.t.enc, i 300] (.bool true)) ∧ ys = [i q]) p.defs[j].params.length ⟨0, by omega, by simp, rfl⟩ ?_
    rintro mm' _ ⟨q, hq, hqd, rfl⟩
    refine d_l _ (e_idx (mp_at hlt) (Df.okc_enc _)) fun _ => d_l _ (len_eq p.defs[j].params) fun _ => d_l _ rfl fun _ => d_dec (fun h2 => ?_) fun h2 => d_l _ (e_inc (by omega)) fun _ => d_cont rfl ⟨mm - 1, by omega, j + 1, by omega, fun d hd => ?_, rfl⟩
    · have hqt : q < p.defs[j].params.length := by have h2 : (q : Int) < (p.defs[j].params.length : Int) := h2; omega
      obtain ⟨be, ke, ke2⟩ := okx_ref02_Few p.defs[j].params[q].t (hD.params _ (List.getElem_mem hqt)).t 300 (by omega) (by omega)
      have ke0 := ke
      rw [← sb_t p.defs[j].params[q]] at ke
      refine d_l _ (e_idx (mp_at hlt) (Df.okc_enc _)) fun _ => d_l _ (e_idx (mp_at hqt) (Et.okc_enc _)) fun _ => d_call ke (d_l (.bool !be) rfl fun _ => d_ite (fun _ => d_ret ⟨false, rfl, fun e => by cases e⟩) fun hbe => d_l _ (e_inc (by omega)) fun _ => d_cont rfl ⟨mm' - 1, by omega, q + 1, by omega, fun e he => ?_, rfl⟩)
      have e1 := (ke2 (by simpa using hbe)).1
      have ke1 : Ok P F.ref02_Few [p.defs[j].params[q].t.enc, i 300] (.bool true) := by
        have : be = true := by simpa using hbe
        rw [← this]; exact ke0
      rw [← List.take_append_getElem hqt] at he
      rcases List.mem_append.1 he with he | he
      · exact hqd e he
      · rw [List.mem_singleton.1 he]; exact ⟨by omega, ke1⟩
    · have h2 : ¬ (q : Int) < (p.defs[j].params.length : Int) := h2
      rw [List.take_of_length_le (by omega)] at hqd
      rw [← List.take_append_getElem hlt] at hd
      rcases List.mem_append.1 hd with hd | hd
      · exact hdone d hd
      · rw [List.mem_singleton.1 hd]; exact ⟨⟨by omega, d2, d3⟩, by omega, fun e he => (hqd e he).1, kd1, fun e he => (hqd e he).2⟩)
  obtain ⟨_, ⟨b, rfl, hb⟩, h⟩ := this
  exact ⟨b, h, hb⟩


theorem ok_Right27 (p : Pg) (hl : GLim p) (m : Nat) (hm : m ≤ 20000) : ∃ b, Ok P F.ref06_Right [p.enc, i (m : Int)] (.bool b) ∧ (b = true → PgS p m ∧ LtP p m ∧ RP p) := by
  obtain ⟨b, hb, hb2⟩ := ok_Little2 p hl m hm
  cases b with
  | false => exact ⟨false, k_ref06_Right _ _ rfl (d_l _ (e_okc (Pg.okc_enc p)) fun _ => d_call hb (d_l (.bool true) rfl fun _ => d_true (d_ret rfl))), fun h => by cases h⟩
  | true =>
    obtain ⟨h1, h2⟩ := hb2 rfl
    obtain ⟨e, a, hc, hr⟩ := ok_Check06 p hl hm h1
    exact ⟨decide (e = 0), k_ref06_Right _ _ rfl (d_l _ (e_okc (Pg.okc_enc p)) fun _ => d_call hb (d_l (.bool false) rfl fun _ => d_false (d_call hc (d_l (i e) rfl fun _ => d_l (i a) rfl fun _ => d_l (.bool (decide (e = 0))) rfl fun _ => d_ret rfl)))), fun h => ⟨h1, h2, hr.1 (of_decide_eq_true h)⟩⟩
theorem glim_prun {p : Pg} (h : GLim p) : GLim (prunP p) := ⟨Nat.le_trans (List.length_filter_le _ _) h.len, fun d hd => h.defs d (mem_prun.1 hd).1, h.main⟩
end Go.Proofs.YtbfjpjllaibooaaGreat.Tx

/- Right of the reference, there and back; the law: pruning twice is pruning once. -/
import Derived.Test.YtbfjpjllaibooaaWk140
set_option linter.all false
namespace Go.Proofs.Ytbfjpjllaibooaa.Tx
open Go.Lf Go.Lf.S Go.Lf.Duo
set_option maxRecDepth 100000

/-- the looks at sizes that said yes -/
def LtP (p : Pg) (m : Nat) : Prop := Ok P F.ref03_Few [p.main.enc, i (m : Int)] (.bool true) ∧ ∀ d ∈ p.defs, Ok P F.ref03_Few [d.body.enc, i (m : Int)] (.bool true) ∧ ∀ e ∈ d.params, Ok P F.ref02_Few [e.t.enc, i 300] (.bool true)
theorem ok_Little2 (p : Pg) (h : GLim p) (m : Nat) (hm : m ≤ 20000) : ∃ b, Ok P F.ref03_Little [p.enc, i (m : Int)] (.bool b) ∧ (b = true → PgS p m ∧ LtP p m) := by
  obtain ⟨bm, km, km2⟩ := ok_ref03_Few p.main h.main m (by omega) (by omega)
  have km0 := km
  rw [← sb_main p] at km
  have := tx_ex (K := fun x => ∃ b, x = .bool b ∧ (b = true → PgS p m ∧ LtP p m)) k_ref03_Little (xs := [p.enc, i (m : Int)]) rfl (by simp [t_ref03_Little, T.dt]) (by
    refine d_l p.enc (e_okc (Pg.okc_enc p)) fun _ => d_l _ (len_eq p.defs) fun _ => d_l _ rfl fun _ => d_dec (fun _ => d_ret ⟨false, rfl, fun e => by cases e⟩) fun hl => ?_
    have hl : ¬ (20 : Int) < (p.defs.length : Int) := hl
    refine d_call km (d_l (.bool !bm) rfl fun _ => d_ite (fun _ => d_ret ⟨false, rfl, fun e => by cases e⟩) fun hbm => ?_)
    obtain ⟨m1, m2, m3⟩ := km2 (by simpa using hbm)
    have km1 : Ok P F.ref03_Few [p.main.enc, i (m : Int)] (.bool true) := by
      have : bm = true := by simpa using hbm
      rw [← this]; exact km0
    refine den_loop (fun mm ys => ∃ j : Nat, j + mm = p.defs.length ∧ (∀ d ∈ p.defs.take j, (d.body.sz ≤ m ∧ pdep d.body ≤ 150 ∧ TB 300 d.body) ∧ d.params.length ≤ 20 ∧ (∀ e ∈ d.params, e.t.sz ≤ 300) ∧ Ok P F.ref03_Few [d.body.enc, i (m : Int)] (.bool true) ∧ ∀ e ∈ d.params, Ok P F.ref02_Few [e.t.enc, i 300] (.bool true)) ∧ ys = [i j]) p.defs.length ⟨0, by omega, by simp, rfl⟩ ?_
    rintro mm _ ⟨j, hj, hdone, rfl⟩
    refine d_l _ (len_eq p.defs) fun _ => d_l _ rfl fun _ => d_dec (fun h1 => ?_) fun h1 => d_ret ⟨true, rfl, fun _ => ?_⟩
    rotate_left
    · have h1 : ¬ (j : Int) < (p.defs.length : Int) := h1
      rw [List.take_of_length_le (by omega)] at hdone
      exact ⟨⟨by omega, ⟨by omega, m2, m3⟩, fun d hd => (hdone d hd).1, fun d hd => ⟨(hdone d hd).2.1, (hdone d hd).2.2.1⟩⟩, km1, fun d hd => (hdone d hd).2.2.2⟩
    have hlt : j < p.defs.length := by have h1 : (j : Int) < (p.defs.length : Int) := h1; omega
    have hD := h.defs _ (List.getElem_mem hlt)
    obtain ⟨bd, kd, kd2⟩ := ok_ref03_Few p.defs[j].body hD.body m (by omega) (by omega)
    have kd0 := kd
    rw [← sb_body p.defs[j]] at kd
    have hpl : p.defs[j].params.length ≤ 9223372036854775807 := hD.len
    refine d_l _ (e_idx (mp_at hlt) (Df.okc_enc _)) fun _ => d_call kd (d_l (.bool !bd) rfl fun _ => d_ite (fun _ => d_ret ⟨false, rfl, fun e => by cases e⟩) fun hbd => ?_)
    obtain ⟨d1, d2, d3⟩ := kd2 (by simpa using hbd)
    have kd1 : Ok P F.ref03_Few [p.defs[j].body.enc, i (m : Int)] (.bool true) := by
      have : bd = true := by simpa using hbd
      rw [← this]; exact kd0
    refine d_l _ (e_idx (mp_at hlt) (Df.okc_enc _)) fun _ => d_l _ (len_eq p.defs[j].params) fun _ => d_l _ rfl fun _ => d_dec (fun _ => d_ret ⟨false, rfl, fun e => by cases e⟩) fun hp => ?_
    have hp : ¬ (20 : Int) < (p.defs[j].params.length : Int) := hp
    refine den_loop (fun mm' ys => ∃ q : Nat, q + mm' = p.defs[j].params.length ∧ (∀ e ∈ p.defs[j].params.take q, e.t.sz ≤ 300 ∧ Ok P F.ref02_Few [e.t.enc, i 300] (.bool true)) ∧ ys = [i q]) p.defs[j].params.length ⟨0, by omega, by simp, rfl⟩ ?_
    rintro mm' _ ⟨q, hq, hqd, rfl⟩
    refine d_l _ (e_idx (mp_at hlt) (Df.okc_enc _)) fun _ => d_l _ (len_eq p.defs[j].params) fun _ => d_l _ rfl fun _ => d_dec (fun h2 => ?_) fun h2 => d_l _ (e_inc (by omega)) fun _ => d_cont rfl ⟨mm - 1, by omega, j + 1, by omega, fun d hd => ?_, rfl⟩
    · have hqt : q < p.defs[j].params.length := by have h2 : (q : Int) < (p.defs[j].params.length : Int) := h2; omega
      obtain ⟨be, ke, ke2⟩ := okx_ref02_Few p.defs[j].params[q].t (hD.params _ (List.getElem_mem hqt)).t 300 (by omega) (by omega)
      have ke0 := ke
      rw [← sb_t p.defs[j].params[q]] at ke
      refine d_l _ (e_idx (mp_at hlt) (Df.okc_enc _)) fun _ => d_l _ (e_idx (mp_at hqt) (Et.okc_enc _)) fun _ => d_call ke (d_l (.bool !be) rfl fun _ => d_ite (fun _ => d_ret ⟨false, rfl, fun e => by cases e⟩) fun hbe => d_l _ (e_inc (by omega)) fun _ => d_cont rfl ⟨mm' - 1, by omega, q + 1, by omega, fun e he => ?_, rfl⟩)
      have e1 := (ke2 (by simpa using hbe)).1
      have ke1 : Ok P F.ref02_Few [p.defs[j].params[q].t.enc, i 300] (.bool true) := by
        have : be = true := by simpa using hbe
        rw [← this]; exact ke0
      rw [← List.take_append_getElem hqt] at he
      rcases List.mem_append.1 he with he | he
      · exact hqd e he
      · rw [List.mem_singleton.1 he]; exact ⟨by omega, ke1⟩
    · have h2 : ¬ (q : Int) < (p.defs[j].params.length : Int) := h2
      rw [List.take_of_length_le (by omega)] at hqd
      rw [← List.take_append_getElem hlt] at hd
      rcases List.mem_append.1 hd with hd | hd
      · exact hdone d hd
      · rw [List.mem_singleton.1 hd]; exact ⟨⟨by omega, d2, d3⟩, by omega, fun e he => (hqd e he).1, kd1, fun e he => (hqd e he).2⟩)
  obtain ⟨_, ⟨b, rfl, hb⟩, h⟩ := this
  exact ⟨b, h, hb⟩


theorem Little_true {p : Pg} {m : Nat} (hs : PgS p m) (h : LtP p m) : Ok P F.ref03_Little [p.enc, i (m : Int)] (.bool true) := by
  obtain ⟨km, hd⟩ := h
  have hl := hs.len
  rw [← sb_main p] at km
  refine k_ref03_Little _ _ rfl (d_l p.enc (e_okc (Pg.okc_enc p)) fun _ => d_l _ (len_eq p.defs) fun _ => d_l (.bool (decide ((p.defs.length : Int) > 20))) rfl fun _ => d_dec (p := (p.defs.length : Int) > 20) (fun h => by omega) fun _ => d_call km (d_l (.bool false) rfl fun _ => d_false ?_))
  refine den_rounds (fun j => [i j]) p.defs.length rfl (fun j hj => ?_) ?_
  · have hmem := List.getElem_mem hj
    obtain ⟨kd, ke⟩ := hd _ hmem
    have hpl := (hs.par _ hmem).1
    rw [← sb_body p.defs[j]] at kd
    have hix := e_idx (n := 14) (a := true) (mp_at (f := Df.enc) hj) (Df.okc_enc _)
    refine d_l _ (len_eq p.defs) fun _ => d_l (.bool (decide ((j : Int) < (p.defs.length : Int)))) rfl fun _ => d_dec (p := (j : Int) < (p.defs.length : Int)) (fun h1 => ?_) fun h1 => absurd (show (j : Int) < (p.defs.length : Int) by omega) h1
    refine d_l _ hix fun _ => d_call kd (d_l (.bool false) rfl fun _ => d_false (d_l _ hix fun _ => d_l _ (len_eq p.defs[j].params) fun _ => d_l (.bool (decide ((p.defs[j].params.length : Int) > 20))) rfl fun _ => d_dec (p := (p.defs[j].params.length : Int) > 20) (fun h => by omega) fun _ => ?_))
    refine den_rounds (fun q => [i q]) p.defs[j].params.length rfl (fun q hq => ?_) ?_
    · have k := ke _ (List.getElem_mem hq)
      rw [← sb_t p.defs[j].params[q]] at k
      refine d_l _ hix fun _ => d_l _ (len_eq p.defs[j].params) fun _ => d_l (.bool (decide ((q : Int) < (p.defs[j].params.length : Int)))) rfl fun _ => d_dec (p := (q : Int) < (p.defs[j].params.length : Int)) (fun h1 => ?_) fun h1 => absurd (show (q : Int) < (p.defs[j].params.length : Int) by omega) h1
      exact d_l _ hix fun _ => d_l _ (e_idx (mp_at (f := Et.enc) hq) (Et.okc_enc _)) fun _ => d_call k (d_l (.bool false) rfl fun _ => d_false (d_l _ (e_inc (by omega)) fun _ => d_cont rfl rfl))
    · exact d_l _ hix fun _ => d_l _ (len_eq p.defs[j].params) fun _ => d_l (.bool (decide ((p.defs[j].params.length : Int) < (p.defs[j].params.length : Int)))) rfl fun _ => d_dec (p := (p.defs[j].params.length : Int) < (p.defs[j].params.length : Int)) (fun h => by omega) fun _ => d_l _ (e_inc (by omega)) fun _ => d_cont rfl rfl
  · exact d_l _ (len_eq p.defs) fun _ => d_l (.bool (decide ((p.defs.length : Int) < (p.defs.length : Int)))) rfl fun _ => d_dec (p := (p.defs.length : Int) < (p.defs.length : Int)) (fun h => by omega) fun _ => d_ret rfl

theorem ok_Right27 (p : Pg) (hl : GLim p) (m : Nat) (hm : m ≤ 20000) : ∃ b, Ok P F.ref06_Right [p.enc, i (m : Int)] (.bool b) ∧ (b = true → PgS p m ∧ LtP p m ∧ RP p) := by
  obtain ⟨b, hb, hb2⟩ := ok_Little2 p hl m hm
  cases b with
  | false => exact ⟨false, k_ref06_Right _ _ rfl (d_l _ (e_okc (Pg.okc_enc p)) fun _ => d_call hb (d_l (.bool true) rfl fun _ => d_true (d_ret rfl))), fun h => by cases h⟩
  | true =>
    obtain ⟨h1, h2⟩ := hb2 rfl
    obtain ⟨e, a, hc, hr⟩ := ok_Check06 p hl hm h1
    exact ⟨decide (e = 0), k_ref06_Right _ _ rfl (d_l _ (e_okc (Pg.okc_enc p)) fun _ => d_call hb (d_l (.bool false) rfl fun _ => d_false (d_call hc (d_l (i e) rfl fun _ => d_l (i a) rfl fun _ => d_l (.bool (decide (e = 0))) rfl fun _ => d_ret rfl)))), fun h => ⟨h1, h2, hr.1 (of_decide_eq_true h)⟩⟩
theorem Right_true {p : Pg} (hl : GLim p) {m : Nat} (hm : m ≤ 20000) (h1 : PgS p m) (h2 : LtP p m) (h3 : RP p) : Ok P F.ref06_Right [p.enc, i (m : Int)] (.bool true) := by
  obtain ⟨e, a, hc, hr⟩ := ok_Check06 p hl hm h1
  obtain rfl := hr.2 h3
  exact k_ref06_Right _ _ rfl (d_l _ (e_okc (Pg.okc_enc p)) fun _ => d_call (Little_true h1 h2) (d_l (.bool false) rfl fun _ => d_false (d_call hc (d_l (i 0) rfl fun _ => d_l (i a) rfl fun _ => d_l (.bool true) rfl fun _ => d_ret rfl))))
theorem glim_prun {p : Pg} (h : GLim p) : GLim (prunP p) := ⟨Nat.le_trans (List.length_filter_le _ _) h.len, fun d hd => h.defs d (mem_prun.1 hd).1, h.main⟩
theorem LtP.prun {p : Pg} {m : Nat} (h : LtP p m) : LtP (prunP p) m := ⟨h.1, fun d hd => h.2 d (mem_prun.1 hd).1⟩

theorem ok_law27_AuditTwice (p : Pg) (hl : GLim p) : Ok P F.law27_AuditTwice [p.enc] (.bool true) := by
  obtain ⟨b, hb, hb2⟩ := ok_Right27 p hl 100 (by omega)
  refine k_law27_AuditTwice _ _ rfl (d_l _ (e_okc (Pg.okc_enc p)) fun _ => d_call awake27 (d_l (.bool false) rfl fun _ => d_false (d_call hb (d_l (.bool !b) rfl fun _ => d_ite (fun _ => d_call awake27 (d_ret rfl)) fun h => ?_))))
  obtain ⟨h1, h2, h3⟩ := hb2 (by simpa using h)
  have q1 := h1.prun
  have q3 := h3.prun
  have g1 := gln_of (by omega) h1 h3
  have g2 := gln_of (by omega) q1 q3
  have p1 := ok_Prune27 p (pb_of27 (by omega) h1) g1
  have p2 := ok_Prune27 (prunP p) (pb_of27 (by omega) q1) g2
  rw [prun_prun h3] at p2
  have r2 := Right_true (glim_prun hl) (by omega) q1 h2.prun q3
  have s := okx_ref03_SameProgram (prunP p) (prunP p) (glim_prun hl)
  rw [pb_iff.2 rfl] at s
  have u2 := ok_Unused27 (prunP p) (pb_of27 (by omega) q1)
  rw [unN_prun h3] at u2
  have u1 := ok_Unused27 p (pb_of27 (by omega) h1)
  have r1 := ok_Reached27 p (pb_of27 (by omega) h1)
  have hboth := len_both (p := p)
  have hlp := len_prun (p := p)
  have hdl := h1.len
  have hsum : (Prim.arith .add .i64).ev [i ((reN p).length : Int), i ((unN p).length : Int)] = some (i (p.defs.length : Int)) := by
    rw [e_add (by omega) (by omega), ← hboth]; rfl
  have l0 : Prim.len.ev [c 0 p.enc] = some (i (p.defs.length : Int)) := by rw [c0_pg]; exact len_eq p.defs
  have l1 : Prim.len.ev [c 0 (prunP p).enc] = some (i ((reN p).length : Int)) := by rw [c0_pg, ← hlp]; exact len_eq (prunP p).defs
  have icm : ∀ x : Int, (Prim.cmp .eql .i64).ev [i x, i x] = some (.bool true) := fun x => by
    show some (PV.bool (decide (x = x))) = _
    simp
  exact d_call p1 (d_l _ (e_okc (Pg.okc_enc _)) fun _ => d_call r2 (d_l (.bool false) rfl fun _ => d_false (d_call p2 (d_call s (d_true (d_call u2 (d_l (i 0) rfl fun _ => d_l _ (icm 0) fun _ => d_true (d_call r1 (d_l _ (len_eq (reN p)) fun _ => d_call u1 (d_l _ (len_eq (unN p)) fun _ => d_l _ hsum fun _ => d_l _ l0 fun _ => d_l _ (icm _) fun _ => d_true (d_l _ l1 fun _ => d_call r1 (d_l _ (len_eq (reN p)) fun _ => d_l _ (icm _) fun _ => d_ret rfl))))))))))))
end Go.Proofs.Ytbfjpjllaibooaa.Tx

/- The law ProctreeMeasures. -/
import Derived.Test.YtjekkidhbnkiaaaGreatDoorWk64
set_option linter.all false
namespace Go.Proofs.YtjekkidhbnkiaaaGreatDoor.Tx
open Go.Lf Go.Lf.S Go.Lf.Duo
set_option maxRecDepth 100000

theorem ok_ref03_Little (p : Pg) (h : GLim p) (m : Nat) (hm : m ≤ 20000) : ∃ b, Ok P F.ref03_Little [p.enc, i (m : Int)] (.bool b) ∧ (b = true → PgS p m) := by
  obtain ⟨bm, km, km2⟩ := ok_ref03_Few p.main h.main m (by omega) (by omega)
  rw [← sb_main p] at km
  have := tx_ex (K := fun x => ∃ b, x = .bool b ∧ (b = true → PgS p m)) k_ref03_Little (xs := [p.enc, i (m : Int)]) rfl (by simp [t_ref03_Little, T.dt]) (by
    refine d_l p.enc (e_okc (Pg.okc_enc p)) fun _ => d_l _ (len_eq p.defs) fun _ => d_l _ rfl fun _ => d_dec (fun _ => d_ret ⟨false, rfl, fun e => by cases e⟩) fun hl => ?_
    have hl : ¬ (20 : Int) < (p.defs.length : Int) := hl
    refine d_call km (d_l (.bool !bm) rfl fun _ => d_ite (fun _ => d_ret ⟨false, rfl, fun e => by cases e⟩) fun hbm => ?_)
    obtain ⟨m1, m2, m3⟩ := km2 (by simpa using hbm)
    refine den_loop (fun mm ys => ∃ j : Nat, j + mm = p.defs.length ∧ (∀ d ∈ p.defs.take j, (d.body.sz ≤ m ∧ pdep d.body ≤ 150 ∧ TB 300 d.body) ∧ d.params.length ≤ 20 ∧ ∀ e ∈ d.params, e.t.sz ≤ 300) ∧ ys = [i j]) p.defs.length ⟨0, by omega, by simp, rfl⟩ ?_
    rintro mm _ ⟨j, hj, hdone, rfl⟩
    refine d_l _ (len_eq p.defs) fun _ => d_l _ rfl fun _ => d_dec (fun h1 => ?_) fun h1 => d_ret ⟨true, rfl, fun _ => ?_⟩
    rotate_left
    · have h1 : ¬ (j : Int) < (p.defs.length : Int) := h1
      rw [List.take_of_length_le (by omega)] at hdone
      exact ⟨by omega, ⟨by omega, m2, m3⟩, fun d hd => (hdone d hd).1, fun d hd => (hdone d hd).2⟩
    have hlt : j < p.defs.length := by have h1 : (j : Int) < (p.defs.length : Int) := h1; omega
    have hD := h.defs _ (List.getElem_mem hlt)
    obtain ⟨bd, kd, kd2⟩ := ok_ref03_Few p.defs[j].body hD.body m (by omega) (by omega)
    rw [← sb_body p.defs[j]] at kd
    have hpl : p.defs[j].params.length ≤ 9223372036854775807 := hD.len
    refine d_l _ (e_idx (mp_at hlt) (Df.okc_enc _)) fun _ => d_call kd (d_l (.bool !bd) rfl fun _ => d_ite (fun _ => d_ret ⟨false, rfl, fun e => by cases e⟩) fun hbd => ?_)
    obtain ⟨d1, d2, d3⟩ := kd2 (by simpa using hbd)
    refine d_l _ (e_idx (mp_at hlt) (Df.okc_enc _)) fun _ => d_l _ (len_eq p.defs[j].params) fun _ => d_l _ rfl fun _ => d_dec (fun _ => d_ret ⟨false, rfl, fun e => by cases e⟩) fun hp => ?_
    have hp : ¬ (20 : Int) < (p.defs[j].params.length : Int) := hp
    refine den_loop (fun mm' ys => ∃ q : Nat, q + mm' = p.defs[j].params.length ∧ (∀ e ∈ p.defs[j].params.take q, e.t.sz ≤ 300) ∧ ys = [i q]) p.defs[j].params.length ⟨0, by omega, by simp, rfl⟩ ?_
    rintro mm' _ ⟨q, hq, hqd, rfl⟩
    refine d_l _ (e_idx (mp_at hlt) (Df.okc_enc _)) fun _ => d_l _ (len_eq p.defs[j].params) fun _ => d_l _ rfl fun _ => d_dec (fun h2 => ?_) fun h2 => d_l _ (e_inc (by omega)) fun _ => d_cont rfl ⟨mm - 1, by omega, j + 1, by omega, fun d hd => ?_, rfl⟩
    · have hqt : q < p.defs[j].params.length := by have h2 : (q : Int) < (p.defs[j].params.length : Int) := h2; omega
      obtain ⟨be, ke, ke2⟩ := okx_ref02_Few p.defs[j].params[q].t (hD.params _ (List.getElem_mem hqt)).t 300 (by omega) (by omega)
      rw [← sb_t p.defs[j].params[q]] at ke
      refine d_l _ (e_idx (mp_at hlt) (Df.okc_enc _)) fun _ => d_l _ (e_idx (mp_at hqt) (Et.okc_enc _)) fun _ => d_call ke (d_l (.bool !be) rfl fun _ => d_ite (fun _ => d_ret ⟨false, rfl, fun e => by cases e⟩) fun hbe => d_l _ (e_inc (by omega)) fun _ => d_cont rfl ⟨mm' - 1, by omega, q + 1, by omega, fun e he => ?_, rfl⟩)
      have e1 := (ke2 (by simpa using hbe)).1
      rw [← List.take_append_getElem hqt] at he
      rcases List.mem_append.1 he with he | he
      · exact hqd e he
      · rw [List.mem_singleton.1 he]; omega
    · have h2 : ¬ (q : Int) < (p.defs[j].params.length : Int) := h2
      rw [List.take_of_length_le (by omega)] at hqd
      rw [← List.take_append_getElem hlt] at hd
      rcases List.mem_append.1 hd with hd | hd
      · exact hdone d hd
      · rw [List.mem_singleton.1 hd]; exact ⟨⟨by omega, d2, d3⟩, by omega, hqd⟩)
  obtain ⟨_, ⟨b, rfl, hb⟩, h⟩ := this
  exact ⟨b, h, hb⟩

theorem ok_Prefix (p : Pr) : Ok P F.proctree_Prefix [p.enc] (.bool (decide (2 ≤ p.kind ∧ p.kind ≤ 5))) := by
  obtain ⟨k, ch, v, ls, ar, t, ks⟩ := p
  rw [Pr.enc_mk]
  refine k_proctree_Prefix _ _ rfl (d_l (.agg [i k, .str ch, .str v, .sl (ls.map .str), .sl (ar.map Vl.enc), i t.kind, i t.prio, .str t.name, i t.shift, .sl (t.labels.map .str), .sl (t.kids.map Ty.enc), .sl (ks.map Pr.enc)]) rfl fun _ => d_l _ rfl fun _ => d_dec (fun h => d_l _ rfl fun _ => d_ret (congrArg PV.bool ?_)) fun h => d_ret (congrArg PV.bool ?_))
  · have h : 2 ≤ k := h; simp [Pr.kind, h]
  · have h : ¬ 2 ≤ k := h; simp [Pr.kind, h]

theorem ok_law03_ProctreeMeasures (a b : Pr) (p q : Pg) (ha : PLim a) (hb : PLim b) (hp : GLim p) (hq : GLim q) : Ok P F.law03_ProctreeMeasures [a.enc, b.enc, p.enc, q.enc] (.bool true) := by
  obtain ⟨ra, ka, ka2⟩ := ok_ref03_Few a ha 1000 (by omega) (by omega)
  obtain ⟨rb, kb, kb2⟩ := ok_ref03_Few b hb 1000 (by omega) (by omega)
  obtain ⟨rp, kp, kp2⟩ := ok_ref03_Little p hp 1000 (by omega)
  obtain ⟨rq, kq, kq2⟩ := ok_ref03_Little q hq 1000 (by omega)
  refine k_law03_ProctreeMeasures _ _ rfl (d_l a.enc (e_okc (Pr.okc_enc a)) fun _ => d_l b.enc (e_okc (Pr.okc_enc b)) fun _ => d_l p.enc (e_okc (Pg.okc_enc p)) fun _ => d_l q.enc (e_okc (Pg.okc_enc q)) fun _ => d_call awake03 (d_l (.bool false) rfl fun _ => d_false ?_))
  refine d_call ka (d_l (.bool !ra) rfl fun _ => d_ite (fun _ => d_call awake03 (d_ret rfl)) fun h => ?_)
  obtain ⟨za, _, ta⟩ := ka2 (by simpa using h)
  refine d_call kb (d_l (.bool !rb) rfl fun _ => d_ite (fun _ => d_call awake03 (d_ret rfl)) fun h => ?_)
  refine d_call kp (d_l (.bool !rp) rfl fun _ => d_ite (fun _ => d_call awake03 (d_ret rfl)) fun h => ?_)
  have sp := kp2 (by simpa using h)
  refine d_call kq (d_l (.bool !rq) rfl fun _ => d_ite (fun _ => d_call awake03 (d_ret rfl)) fun h => ?_)
  have tt : ∀ {p : Prop} [Decidable p], p → (some (PV.bool (decide p)) : Option PV) = some (.bool true) := fun h => by rw [decide_eq_true h]
  refine d_call (ok_proctree_Size a (by omega)) (d_call (ok_ref03_Size a (by omega)) (d_l (.bool true) (tt rfl) fun _ => d_true ?_))
  refine d_call (ok_proctree_Depth a (by omega)) (d_call (ok_ref03_Depth a (by omega)) (d_l (.bool true) (tt rfl) fun _ => d_true ?_))
  refine d_call (ok_proctree_Total p (m := 1000) (by omega) sp) (d_call (ok_ref03_Total p (m := 1000) (by omega) sp) (d_l (.bool true) (tt rfl) fun _ => d_true ?_))
  have bb : ∀ x : Bool, (some (PV.bool (x == x)) : Option PV) = some (.bool true) := fun x => by simp
  refine d_call (okx_proctree_Same a b ha) (d_call (okx_ref03_Same a b ha) (d_l (.bool true) (bb _) fun _ => d_true ?_))
  have s1 : Ok P F.proctree_Same [a.enc, a.enc] (.bool true) := by
    have := okx_proctree_Same a a ha
    rwa [pb_iff.2 rfl] at this
  refine d_call s1 (d_true ?_)
  refine d_call (okx_proctree_SameProgram p q hp) (d_call (okx_ref03_SameProgram p q hp) (d_l (.bool true) (bb _) fun _ => d_true ?_))
  have s2 : Ok P F.proctree_SameProgram [p.enc, p.enc] (.bool true) := by
    have := okx_proctree_SameProgram p p hp
    rwa [pb_iff.2 rfl] at this
  refine d_call s2 (d_true (d_call (ok_Prefix a) ?_))
  have ec : c 0 a.enc = i a.kind := by obtain ⟨k, ch, v, ls, ar, t, ks⟩ := a; rw [Pr.enc_mk]; rfl
  rw [ec]
  refine d_l (.bool (decide (2 ≤ a.kind))) rfl fun _ => d_dec (fun h => d_l (.bool (decide (a.kind ≤ 5))) rfl fun _ => d_l (.bool true) ?_ fun _ => d_ret rfl) fun h => d_l (.bool true) ?_ fun _ => d_ret rfl
  · show some (PV.bool (decide (2 ≤ a.kind ∧ a.kind ≤ 5) == decide (a.kind ≤ 5))) = _
    have e : decide (2 ≤ a.kind ∧ a.kind ≤ 5) = decide (a.kind ≤ 5) := decide_eq_decide.2 ⟨fun h => h.2, fun h2 => ⟨h, h2⟩⟩
    rw [e]; simp
  · show some (PV.bool (decide (2 ≤ a.kind ∧ a.kind ≤ 5) == false)) = _
    have e : decide (2 ≤ a.kind ∧ a.kind ≤ 5) = false := decide_eq_false fun h2 => h h2.1
    rw [e]; rfl
end Go.Proofs.YtjekkidhbnkiaaaGreatDoor.Tx

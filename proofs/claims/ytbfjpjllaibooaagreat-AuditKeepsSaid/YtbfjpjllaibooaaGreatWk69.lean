/- Contracts (Wk64, Wk65, Wk66, Wk67, Wk68, Wk69). -/
import Derived.Test.YtbfjpjllaibooaaGreatWk33
import Derived.Test.YtbfjpjllaibooaaGreatDAwake03
set_option linter.all false
/- Contracts: sameness and sizes of programs; the law ProctreeMeasures. -/
namespace Go.Proofs.YtbfjpjllaibooaaGreat.Tx
open Go.Lf Go.Lf.S Go.Lf.Duo
set_option maxRecDepth 100000
theorem sb_body (d : Df) : sb 2 12 d.enc = d.body.enc := by
 obtain ⟨s, ps, p⟩ := d
 obtain ⟨k, c, v, ls, ar, t, ks⟩ := p
 simp only [Df.enc, Pr.enc_mk]; rfl
theorem sb_main (p : Pg) : sb 1 12 p.enc = p.main.enc := by
 obtain ⟨ds, p⟩ := p
 obtain ⟨k, c, v, ls, ar, t, ks⟩ := p
 simp only [Pg.enc, Pr.enc_mk]; rfl
theorem sb_t (e : Et) : sb 1 6 e.enc = e.t.enc := by
 obtain ⟨s, t⟩ := e
 rw [Ty.enc_cs]
 simp only [Et.enc, Ty.cells_enc]; rfl
theorem et_eq {a b : Et} : a = b ↔ a.name = b.name ∧ a.t = b.t := by
 obtain ⟨x, y⟩ := a
 obtain ⟨x', y'⟩ := b
 constructor
 ·intro e; cases e; exact ⟨rfl, rfl⟩
 ·rintro ⟨h1, h2⟩
  simp only at h1 h2
  subst h1 h2; rfl
theorem df_eq {a b : Df} : a = b ↔ a.name = b.name ∧ a.body = b.body ∧ a.params = b.params := by
 obtain ⟨x, y, z⟩ := a
 obtain ⟨x', y', z'⟩ := b
 constructor
 ·intro e; cases e; exact ⟨rfl, rfl, rfl⟩
 ·rintro ⟨h1, h2, h3⟩
  simp only at h1 h2 h3
  subst h1 h2 h3; rfl
theorem pg_eq {a b : Pg} : a = b ↔ a.defs = b.defs ∧ a.main = b.main := by
 obtain ⟨x, y⟩ := a
 obtain ⟨x', y'⟩ := b
 constructor
 ·intro e; cases e; exact ⟨rfl, rfl⟩
 ·rintro ⟨h1, h2⟩
  simp only at h1 h2
  subst h1 h2; rfl
theorem okx_ref03_SameProgram (a b : Pg) (h : GLim a) : Ok P F.ref03_SameProgram [a.enc, b.enc] (.bool (pb (a = b))) := by
 refine tx_pb k_ref03_SameProgram rfl (by simp [t_ref03_SameProgram, T.dt]) ?_
 have hs := okx_ref03_Same a.main b.main h.main
 rw [← sb_main a, ← sb_main b] at hs
 have hdl : a.defs.length ≤ 9223372036854775807 := h.len
 rw [pg_eq]
 refine d_l a.enc (e_okc (Pg.okc_enc a)) fun _ => d_l b.enc (e_okc (Pg.okc_enc b)) fun _ => ?_
 refine d_l _ (len_eq a.defs) fun _ => d_l _ (len_eq b.defs) fun _ => d_l _ rfl fun _ => d_ndec (fun e => d_ret (isB_f fun e' => e (by rw [e'.1]))) fun e0 => ?_
 have e0 : (a.defs.length : Int) = (b.defs.length : Int) := e0
 refine d_call hs (d_l _ rfl fun _ => d_ite (fun e => d_ret (isB_f fun e' => pb_false.1 (by simpa using e) e'.2)) fun e1 => ?_)
 have e1 : a.main = b.main := pb_iff.1 (by simpa using e1)
 refine den_loop (fun m ys => ∃ j : Nat, j + m = a.defs.length ∧ (∀ k (hk : k < a.defs.length) (hk' : k < b.defs.length), k < j → a.defs[k] = b.defs[k]) ∧ ys = [i j]) a.defs.length ⟨0, by omega, fun k _ _ h => by omega, rfl⟩ ?_
 rintro m _ ⟨j, hj, hno, rfl⟩
 refine d_l _ (len_eq a.defs) fun _ => d_l _ rfl fun _ => d_dec (fun h1 => ?_) fun h1 => d_ret (isB_t ⟨list_eq_of (by omega) fun k hk hk' => hno k hk hk' (by have h1 : ¬ (j : Int) < (a.defs.length : Int) := h1; omega), e1⟩)
 have hlt : j < a.defs.length := by have h1 : (j : Int) < (a.defs.length : Int) := h1; omega
 have hlt' : j < b.defs.length := by omega
 have hdm := List.getElem_mem hlt
 have hD := h.defs _ hdm
 have hpl : a.defs[j].params.length ≤ 9223372036854775807 := hD.len
 have hs := okx_ref03_Same a.defs[j].body b.defs[j].body hD.body
 rw [← sb_body a.defs[j], ← sb_body b.defs[j]] at hs
 have no : a.defs[j] ≠ b.defs[j] → ¬ (a.defs = b.defs ∧ a.main = b.main) := fun hn e => hn (by simp only [e.1])
 refine d_l _ (e_idx (mp_at hlt) (Df.okc_enc _)) fun _ => d_l a.defs[j].enc (e_okc (Df.okc_enc _)) fun _ => d_l _ (e_idx (mp_at hlt') (Df.okc_enc _)) fun _ => d_l b.defs[j].enc (e_okc (Df.okc_enc _)) fun _ => ?_
 refine d_l (.bool (!decide (a.defs[j].name = b.defs[j].name))) rfl fun _ => d_ndec (fun e => d_ret (isB_f (no fun e' => e (by rw [e'])))) fun e2 => ?_
 refine d_l _ (len_eq a.defs[j].params) fun _ => d_l _ (len_eq b.defs[j].params) fun _ => d_l _ rfl fun _ => d_ndec (fun e => d_ret (isB_f (no fun e' => e (by rw [e'])))) fun e3 => ?_
 have e3 : (a.defs[j].params.length : Int) = (b.defs[j].params.length : Int) := e3
 refine d_call hs (d_l _ rfl fun _ => d_ite (fun e => d_ret (isB_f (no fun e' => pb_false.1 (by simpa using e) (by rw [e'])))) fun e4 => ?_)
 have e4 : a.defs[j].body = b.defs[j].body := pb_iff.1 (by simpa using e4)
 refine den_loop (fun mm ys => ∃ q : Nat, q + mm = a.defs[j].params.length ∧ (∀ k (hk : k < a.defs[j].params.length) (hk' : k < b.defs[j].params.length), k < q → a.defs[j].params[k] = b.defs[j].params[k]) ∧ ys = [i q]) a.defs[j].params.length ⟨0, by omega, fun k _ _ h => by omega, rfl⟩ ?_
 rintro mm _ ⟨q, hq, hnq, rfl⟩
 refine d_l _ (len_eq a.defs[j].params) fun _ => d_l _ rfl fun _ => d_dec (fun h2 => ?_) fun h2 => d_l _ (e_inc (by omega)) fun _ => d_cont rfl ⟨m - 1, by omega, j + 1, by omega, fun k hk hk' h1 => ?_, rfl⟩
 ·have hqt : q < a.defs[j].params.length := by have h2 : (q : Int) < (a.defs[j].params.length : Int) := h2; omega
  have hqt' : q < b.defs[j].params.length := by omega
  have hE := hD.params _ (List.getElem_mem hqt)
  have hs := okx_ref02_Same a.defs[j].params[q].t b.defs[j].params[q].t hE.t
  rw [← sb_t a.defs[j].params[q], ← sb_t b.defs[j].params[q]] at hs
  refine d_l _ (e_idx (mp_at hqt) (Et.okc_enc _)) fun _ => d_l _ (e_idx (mp_at hqt') (Et.okc_enc _)) fun _ => d_l (.bool (!decide (a.defs[j].params[q].name = b.defs[j].params[q].name))) rfl fun _ => d_ndec (fun e => d_ret (isB_f (no fun e' => e (by simp only [e'])))) fun e5 => ?_
  refine d_l _ (e_idx (mp_at hqt) (Et.okc_enc _)) fun _ => d_l _ (e_idx (mp_at hqt') (Et.okc_enc _)) fun _ => d_call hs (d_l _ rfl fun _ => d_ite (fun e => d_ret (isB_f (no fun e' => pb_false.1 (by simpa using e) (by simp only [e'])))) fun e6 => d_l _ (e_inc (by omega)) fun _ => d_cont rfl ⟨mm - 1, by omega, q + 1, by omega, fun k hk hk' h3 => ?_, rfl⟩)
  by_cases ek : k = q
  ·subst ek; exact et_eq.2 ⟨e5, pb_iff.1 (by simpa using e6)⟩
  ·exact hnq k hk hk' (by omega)
 ·by_cases ek : k = j
  ·subst ek
   exact df_eq.2 ⟨e2, e4, list_eq_of (by omega) fun x hx hx' => hnq x hx hx' (by have h2 : ¬ (q : Int) < (a.defs[k].params.length : Int) := h2; omega)⟩
  ·exact hno k hk hk' (by omega)
/-! sizes -/
theorem ok_ref03_Size : ∀ p : Pr, p.sz ≤ 1099511627776 → Ok P F.ref03_Size [p.enc] (i p.sz) := by
 intro p
 induction p using Pr.ind with
 | _ p ih =>
 obtain ⟨k, ch, v, ls, ar, t, ks⟩ := p
 intro hz
 simp only [Pr.sz] at hz ⊢
 have hlen := pr_len ks
 rw [Pr.enc_mk]
 refine k_ref03_Size _ _ rfl (d_l (.agg [i k, .str ch, .str v, .sl (ls.map .str), .sl (ar.map Vl.enc), i t.kind, i t.prio, .str t.name, i t.shift, .sl (t.labels.map .str), .sl (t.kids.map Ty.enc), .sl (ks.map Pr.enc)]) rfl fun _ => ?_)
 refine den_rounds (fun j => [i j, i ((Pr.szs (ks.take j) + 1 : Nat) : Int)]) ks.length rfl (fun j hj => ?_) ?_
 ·have hmem : ks[j] ∈ ks := List.getElem_mem hj
  have hs1 := Pr.szs_mem hmem
  have hs2 := pszs_take ks j hj
  have hs3 := pszs_take_le ks (j + 1)
  refine d_l _ (len_eq ks) fun _ => d_l _ rfl fun _ => d_dec (fun h => ?_) fun h => absurd (show (j : Int) < (ks.length : Int) by omega) h
  refine d_l _ (e_idx (mp_at hj) (Pr.okc_enc _)) fun _ => d_call (ih _ hmem (by omega)) (d_l _ (e_add (by omega) (by omega)) fun _ => d_l _ (e_inc (by omega)) fun _ => d_cont rfl ?_)
  show [_, _] = [_, _]
  rw [hs2]
  congr 2
  simp only [S.i]; congr 1; omega
 ·refine d_l _ (len_eq ks) fun _ => d_l _ rfl fun _ => d_dec (fun h => absurd (show (ks.length : Int) < (ks.length : Int) from h) (by omega)) fun _ => d_ret ?_
  rw [List.take_length]; rfl
mutual
def tps : Pr → Nat
 | .mk k _ _ _ _ t ks => tpss ks + (if k = 6 then t.sz else 0)
def tpss : List Pr → Nat
 | [] => 0
 | p :: r => tps p + tpss r
end
mutual
theorem wgt_tps : ∀ p : Pr, wgt p = p.sz + tps p
 | .mk k c v ls ar t ks => by simp only [wgt, Pr.sz, tps, wgts_tps ks]; omega
theorem wgts_tps : ∀ l : List Pr, wgts l = Pr.szs l + tpss l
 | [] => rfl
 | p :: r => by simp only [wgts, Pr.szs, tpss, wgt_tps p, wgts_tps r]; omega
end
theorem tpss_take (l : List Pr) (j : Nat) (h : j < l.length) : tpss (l.take (j + 1)) = tpss (l.take j) + tps l[j] := by
 induction l generalizing j with
 | nil => simp at h
 | cons x l ih =>
  cases j with
  | zero => simp [tpss]
  | succ j => simp only [List.take_succ_cons, tpss, List.getElem_cons_succ]; rw [ih j (by simpa using h)]; omega
theorem tpss_take_le (l : List Pr) (j : Nat) : tpss (l.take j) ≤ tpss l := by
 induction l generalizing j with
 | nil => simp
 | cons x l ih =>
  cases j with
  | zero => simp [tpss]
  | succ j => simp only [List.take_succ_cons, tpss]; have := ih j; omega
theorem tpss_mem {p : Pr} : ∀ {l : List Pr}, p ∈ l → tps p ≤ tpss l
 | [], h => by cases h
 | k :: ks, h => by
  simp only [tpss]
  rcases List.mem_cons.1 h with rfl | h
  ·omega
  ·have := tpss_mem h; omega
theorem ok_ref03_types : ∀ p : Pr, p.sz ≤ 1099511627776 → tps p ≤ 1099511627776 → TB 1048576 p → Ok P F.ref03_types [p.enc] (i (tps p)) := by
  intro p
  induction p using Pr.ind with
  | _ p ih =>
  intro hz hw ht
  have hsz := ok_ref02_Size p.t (by have := ht.t; omega)
  have htk := ht.kids
  obtain ⟨k, ch, v, ls, ar, t, ks⟩ := p
  have htt : t.sz ≤ 1048576 := ht.t
  simp only [Pr.sz] at hz
  simp only [tps] at hw
  simp only [Pr.kids] at htk ih
  have hlen := pr_len ks
  rw [Ty.enc_cs] at hsz
  rw [Pr.enc_mk]
  have loop : ∀ (b : Nat), b + tpss ks ≤ 1099511627776 → (T.loop [i 0, i (b : Int)] fun y3 =>
     .l .len [.sl (ks.map Pr.enc)] fun x4 =>
     .l (.cmp .lss .i64) [(n y3 0), x4] fun x5 =>
     .ite x5 (
      .l (.idx 12 true) [.sl (ks.map Pr.enc), (n y3 0)] fun x6 =>
      .call F.ref03_types [x6] fun x7 =>
      .l (.arith .add .i64) [(n y3 1), x7] fun x8 =>
      .l (.arith .add .i64) [(n y3 0), (i 1)] fun x9 =>
      .cont 0 [x9, x8]) (
      .ret (n y3 1))).den0 P (· = i ((b + tpss ks : Nat) : Int)) [] := by
    intro b hb
    refine den_rounds (fun j => [i j, i ((b + tpss (ks.take j) : Nat) : Int)]) ks.length rfl (fun j hj => ?_) ?_
    · have hmem : ks[j] ∈ ks := List.getElem_mem hj
      have hs1 := Pr.szs_mem hmem
      have hs2 := tpss_take ks j hj
      have hs3 := tpss_take_le ks (j + 1)
      have hs4 := tpss_mem hmem
      refine d_l _ (len_eq ks) fun _ => d_l _ rfl fun _ => d_dec (fun h => ?_) fun h => absurd (show (j : Int) < (ks.length : Int) by omega) h
      refine d_l _ (e_idx (mp_at hj) (Pr.okc_enc _)) fun _ => d_call (ih _ hmem (by omega) (by omega) (htk _ hmem)) (d_l _ (e_add (by omega) (by omega)) fun _ => d_l _ (e_inc (by omega)) fun _ => d_cont rfl ?_)
      show [_, _] = [_, _]
      rw [hs2]
      congr 2
      simp only [S.i]; congr 1; omega
    · refine d_l _ (len_eq ks) fun _ => d_l _ rfl fun _ => d_dec (fun h => absurd (show (ks.length : Int) < (ks.length : Int) from h) (by omega)) fun _ => d_ret ?_
      rw [List.take_length]; rfl
  refine k_ref03_types _ _ rfl (d_l (.agg [i k, .str ch, .str v, .sl (ls.map .str), .sl (ar.map Vl.enc), i t.kind, i t.prio, .str t.name, i t.shift, .sl (t.labels.map .str), .sl (t.kids.map Ty.enc), .sl (ks.map Pr.enc)]) rfl fun _ => d_l _ rfl fun _ => d_dec (fun h => ?_) fun h => ?_)
  · have h : k = 6 := h
    rw [if_pos h] at hw
    have e : tps (.mk k ch v ls ar t ks) = t.sz + tpss ks := by simp only [tps, if_pos h]; omega
    rw [e]
    exact d_call hsz (loop t.sz (by omega))
  · have h : ¬ k = 6 := h
    have e : tps (.mk k ch v ls ar t ks) = 0 + tpss ks := by simp only [tps, if_neg h]; omega
    rw [e]
    exact loop 0 (by omega)
/-- what the parameters weigh -/
def pws : List Et → Nat
 | [] => 0
 | e :: r => e.t.sz + pws r
def dws : List Df → Nat
 | [] => 0
 | d :: r => wgt d.body + pws d.params + dws r
theorem pws_take (l : List Et) (j : Nat) (h : j < l.length) : pws (l.take (j + 1)) = pws (l.take j) + l[j].t.sz := by
 induction l generalizing j with
 | nil => simp at h
 | cons x l ih =>
  cases j with
  | zero => simp [pws]
  | succ j => simp only [List.take_succ_cons, pws, List.getElem_cons_succ]; rw [ih j (by simpa using h)]; omega
theorem dws_take (l : List Df) (j : Nat) (h : j < l.length) : dws (l.take (j + 1)) = dws (l.take j) + (wgt l[j].body + pws l[j].params) := by
 induction l generalizing j with
 | nil => simp at h
 | cons x l ih =>
  cases j with
  | zero => simp [dws]
  | succ j => simp only [List.take_succ_cons, dws, List.getElem_cons_succ]; rw [ih j (by simpa using h)]; omega
theorem pws_le (b : Nat) : ∀ l : List Et, (∀ e ∈ l, e.t.sz ≤ b) → pws l ≤ l.length * b
 | [], _ => by simp [pws]
 | e :: r, h => by
  have h1 := h e List.mem_cons_self
  have h2 := pws_le b r fun x hx => h x (List.mem_cons_of_mem _ hx)
  simp only [pws, List.length_cons, Nat.add_mul, Nat.one_mul]; omega
theorem dws_le (b : Nat) : ∀ l : List Df, (∀ d ∈ l, wgt d.body + pws d.params ≤ b) → dws l ≤ l.length * b
 | [], _ => by simp [dws]
 | e :: r, h => by
  have h1 := h e List.mem_cons_self
  have h2 := dws_le b r fun x hx => h x (List.mem_cons_of_mem _ hx)
  simp only [dws, List.length_cons, Nat.add_mul, Nat.one_mul]; omega
/-- a program of bounded size -/
structure PgS (p : Pg) (m : Nat) (L : Nat := 20) : Prop where
 len : p.defs.length ≤ L
 main : p.main.sz ≤ m ∧ pdep p.main ≤ 150 ∧ TB 300 p.main
 body : ∀ d ∈ p.defs, d.body.sz ≤ m ∧ pdep d.body ≤ 150 ∧ TB 300 d.body
 par : ∀ d ∈ p.defs, d.params.length ≤ 20 ∧ ∀ e ∈ d.params, e.t.sz ≤ 300
def total (p : Pg) : Nat := wgt p.main + dws p.defs
theorem PgS.w {p : Pg} {m L : Nat} (h : PgS p m L) : wgt p.main ≤ m * 301 ∧ ∀ d ∈ p.defs, wgt d.body + pws d.params ≤ m * 301 + 6000 := by
 refine ⟨?_, fun d hd => ?_⟩
 ·have := wgt_le p.main h.main.2.2
  have h2 : p.main.sz * 301 ≤ m * 301 := Nat.mul_le_mul_right _ h.main.1
  omega
 ·have := wgt_le d.body (h.body d hd).2.2
  have h2 : d.body.sz * 301 ≤ m * 301 := Nat.mul_le_mul_right _ (h.body d hd).1
  have h3 := pws_le 300 d.params (h.par d hd).2
  have h4 : d.params.length * 300 ≤ 20 * 300 := Nat.mul_le_mul_right _ (h.par d hd).1
  omega
theorem PgS.t {p : Pg} {m L : Nat} (h : PgS p m L) (hm : m ≤ 20000) (hL : L ≤ 21 := by decide) : total p ≤ 200000000 ∧ ∀ j, dws (p.defs.take j) ≤ 130000000 := by
 obtain ⟨h1, h2⟩ := h.w
 have key : ∀ l : List Df, (∀ d ∈ l, d ∈ p.defs) → l.length ≤ 21 → dws l ≤ 130000000 := fun l hl hn => by
  have h3 := dws_le (m * 301 + 6000) l fun d hd => h2 d (hl d hd)
  have h4 : l.length * (m * 301 + 6000) ≤ 21 * (m * 301 + 6000) := Nat.mul_le_mul_right _ hn
  omega
 have h3 := key p.defs (fun _ h => h) (Nat.le_trans h.len hL)
 refine ⟨by unfold total; omega, fun j => key _ (fun d hd => List.mem_of_mem_take hd) (by have := h.len; simp; omega)⟩
theorem ok_ref03_Total (p : Pg) {m L : Nat} (hm : m ≤ 20000) (h : PgS p m L) (hL : L ≤ 21 := by decide) : Ok P F.ref03_Total [p.enc] (i (total p)) := by
 obtain ⟨w1, w2⟩ := h.w
 obtain ⟨t1, t2⟩ := h.t hm hL
 have hl := h.len
 have wm := wgt_tps p.main
 have hs1 := ok_ref03_Size p.main (by have := h.main.1; omega)
 have hs2 := ok_ref03_types p.main (by have := h.main.1; omega) (by omega) (h.main.2.2.weak (by omega))
 rw [← sb_main p] at hs1 hs2
 refine k_ref03_Total _ _ rfl (d_l p.enc (e_okc (Pg.okc_enc p)) fun _ => d_call hs1 (d_call hs2 (d_l _ (e_add (by omega) (by omega)) fun _ => ?_)))
 refine den_rounds (fun j => [i j, i ((wgt p.main + dws (p.defs.take j) : Nat) : Int)]) p.defs.length (by rw [wm]; simp [dws]) (fun j hj => ?_) ?_
 ·have hmem := List.getElem_mem hj
  have hd := dws_take p.defs j hj
  have t3 := t2 (j + 1)
  have hb := h.body _ hmem
  have hp := h.par _ hmem
  have wb := wgt_tps p.defs[j].body
  have hw1 := ok_ref03_Size p.defs[j].body (by omega)
  have hw2 := ok_ref03_types p.defs[j].body (by omega) (by omega) (hb.2.2.weak (by omega))
  rw [← sb_body p.defs[j]] at hw1 hw2
  refine d_l _ (len_eq p.defs) fun _ => d_l _ rfl fun _ => d_dec (fun h => ?_) fun h => absurd (show (j : Int) < (p.defs.length : Int) by omega) h
  refine d_l _ (e_idx (mp_at hj) (Df.okc_enc _)) fun _ => d_call hw1 (d_l _ (e_add (by omega) (by omega)) fun _ => d_l _ (e_idx (mp_at hj) (Df.okc_enc _)) fun _ => d_call hw2 (d_l _ (e_add (by omega) (by omega)) fun _ => ?_))
  have pt := pws_take p.defs[j].params
  have pl : ∀ q, pws (p.defs[j].params.take q) ≤ pws p.defs[j].params := fun q => by
   have : ∀ (l : List Et) (q : Nat), pws (l.take q) ≤ pws l := by
    intro l
    induction l with
    | nil => intro q; simp
    | cons x l ih => intro q; cases q with
     | zero => simp [pws]
     | succ q => simp only [List.take_succ_cons, pws]; have := ih q; omega
   exact this _ _
  refine den_rounds (fun q => [i q, i ((wgt p.main + dws (p.defs.take j) + wgt p.defs[j].body + pws (p.defs[j].params.take q) : Nat) : Int)]) p.defs[j].params.length (by show [i 0, i _] = [i 0, i _]; rw [wb, List.take_zero]; simp only [pws]; congr 2; simp only [S.i, n, List.getD_cons_succ, List.getD_cons_zero]; congr 1; omega) (fun q hq => ?_) ?_
  ·have hs := ok_ref02_Size p.defs[j].params[q].t (by have := hp.2 _ (List.getElem_mem hq); omega)
   rw [← sb_t p.defs[j].params[q]] at hs
   have pq := pt q hq
   have pl2 := pl (q + 1)
   refine d_l _ (e_idx (mp_at hj) (Df.okc_enc _)) fun _ => d_l _ (len_eq p.defs[j].params) fun _ => d_l _ rfl fun _ => d_dec (fun h => ?_) fun h => absurd (show (q : Int) < (p.defs[j].params.length : Int) by omega) h
   refine d_l _ (e_idx (mp_at hj) (Df.okc_enc _)) fun _ => d_l _ (e_idx (mp_at hq) (Et.okc_enc _)) fun _ => d_call hs (d_l _ (e_add (by omega) (by omega)) fun _ => d_l _ (e_inc (by omega)) fun _ => d_cont rfl ?_)
   show [_, _] = [_, _]
   rw [pq]
   congr 2
   simp only [S.i]; congr 1; omega
  ·refine d_l _ (e_idx (mp_at hj) (Df.okc_enc _)) fun _ => d_l _ (len_eq p.defs[j].params) fun _ => d_l _ rfl fun _ => d_dec (fun h => absurd (show (p.defs[j].params.length : Int) < (p.defs[j].params.length : Int) from h) (by omega)) fun _ => d_l _ (e_inc (by omega)) fun _ => d_cont rfl ?_
   show [_, _] = [_, _]
   rw [hd, List.take_length]
   congr 2
   simp only [S.i, n, List.getD_cons_succ, List.getD_cons_zero]; congr 1; omega
 ·refine d_l _ (len_eq p.defs) fun _ => d_l _ rfl fun _ => d_dec (fun h => absurd (show (p.defs.length : Int) < (p.defs.length : Int) from h) (by omega)) fun _ => d_ret ?_
  rw [List.take_length]; rfl
end Go.Proofs.YtbfjpjllaibooaaGreat.Tx
/- The law ProctreeMeasures. -/
namespace Go.Proofs.YtbfjpjllaibooaaGreat.Tx
open Go.Lf Go.Lf.S Go.Lf.Duo
set_option maxRecDepth 100000
end Go.Proofs.YtbfjpjllaibooaaGreat.Tx
/- Contracts: right nodes of processes (1): values, names, rules. -/
namespace Go.Proofs.YtbfjpjllaibooaaGreat.Tx
open Go.Lf Go.Lf.S Go.Lf.Duo
set_option maxRecDepth 100000
abbrev eB : ByteArray := ⟨#[]⟩
def valP (v : Vl) : Prop := (v.kind = 1 ∧ nameP v.name ∧ v.n = 0) ∨ (v.kind = 2 ∧ v.name = eB) ∨ (v.kind = 3 ∧ v.name = eB ∧ (v.n = 0 ∨ v.n = 1))
theorem okx_ref03_name (s : ByteArray) (hs : s.size ≤ maxLen) : Ok P F.ref03_name [.str s] (.bool (pb (nameP s))) :=
 k_ref03_name _ _ rfl (d_call (okx_ref01_Name s hs) (d_ret rfl))
theorem okx_ref03_value (v : Vl) (hs : v.name.size ≤ maxLen) : Ok P F.ref03_value [v.enc] (.bool (pb (valP v))) := by
 obtain ⟨k, nm, m⟩ := v
 refine tx_pb k_ref03_value rfl (by simp [t_ref03_value, T.dt]) ?_
 have hN := okx_ref03_name nm hs
 have g2 : ∀ (a b : T PV), (k = 2 → IsB (nm = eB) (.bool (decide (nm = eB))) → True) → True := fun _ _ _ => trivial
 refine d_l (.agg [i k, .str nm, i m]) rfl fun _ => d_l _ rfl fun _ => d_dec (p := k = 1) (fun h1 => ?_) fun h1 => ?_
 ·subst h1
  refine d_call hN (d_ite (fun h => d_l _ rfl fun _ => d_dec (p := m = 0) (fun h4 => d_ret (isB_t (by have := pb_iff.1 h; simp [valP, this, h4]))) fun h4 => ?_) fun h => ?_)
  ·refine d_l _ rfl fun _ => d_dec (p := (1 : Int) = 2) (fun h => absurd h (by decide)) fun _ => d_l _ rfl fun _ => d_dec (p := (1 : Int) = 3) (fun h => absurd h (by decide)) fun _ => d_ret (isB_f (by simp [valP, h4]))
  ·have := pb_false.1 h
   refine d_l _ rfl fun _ => d_dec (p := (1 : Int) = 2) (fun h => absurd h (by decide)) fun _ => d_l _ rfl fun _ => d_dec (p := (1 : Int) = 3) (fun h => absurd h (by decide)) fun _ => d_ret (isB_f (by simp [valP, this]))
 ·refine d_l _ rfl fun _ => d_dec (p := k = 2) (fun h2 => ?_) fun h2 => d_l _ rfl fun _ => d_dec (p := k = 3) (fun h3 => ?_) fun h3 => d_ret (isB_f (by simp [valP, h1, h2, h3]))
  ·subst h2
   refine d_l _ rfl fun _ => d_dec (p := nm = eB) (fun h => d_ret (isB_t (by simp [valP, h]))) fun h => d_l _ rfl fun _ => d_dec (p := (2 : Int) = 3) (fun h => absurd h (by decide)) fun _ => d_ret (isB_f (by simp [valP, h]))
  ·refine d_l _ rfl fun _ => d_dec (p := nm = eB) (fun h => d_l _ rfl fun _ => d_dec (p := m = 0) (fun h4 => d_ret (isB_t (by simp [valP, h3, h, h4]))) fun h4 => d_l _ rfl fun _ => d_ret (isB_d (p := m = 1) (by simp [valP, h3, h, h4]))) fun h => d_ret (isB_f (by simp [valP, h3, h]))
def zeroTy : Ty := .mk 0 0 eB 0 [] []
theorem sb_pt (p : Pr) : sb 5 6 p.enc = p.t.enc := by
 obtain ⟨k, c, v, ls, ar, t, ks⟩ := p
 rw [Ty.enc_cs, Pr.enc_mk]; rfl
theorem okx_plain (p : Pr) (ht : Lim p.t) : Ok P F.ref03_plain [p.enc] (.bool (pb (p.t = zeroTy))) := by
 have h3 := okx_ref02_Same p.t zeroTy ht
 rw [← sb_pt p] at h3
 exact k_ref03_plain _ _ rfl (d_l p.enc (e_okc (Pr.okc_enc p)) fun _ => d_call h3 (d_ret rfl))
/-! the number of kids -/
end Go.Proofs.YtbfjpjllaibooaaGreat.Tx
/- Contracts: right nodes of processes (2). -/
namespace Go.Proofs.YtbfjpjllaibooaaGreat.Tx
open Go.Lf Go.Lf.S Go.Lf.Duo
set_option maxRecDepth 100000
def bodP (p : Pr) : Prop :=
 (p.kind = 1 ∧ p.chan = eB ∧ p.var = eB ∧ p.args.length = 0 ∧ p.labels.length = 0 ∧ p.kids.length = 0 ∧ p.t = zeroTy) ∨
 (p.kind = 2 ∧ nameP p.chan ∧ p.var = eB ∧ p.args.length = 1 ∧ p.labels.length = 0 ∧ p.kids.length = 1 ∧ p.t = zeroTy) ∨
 (p.kind = 3 ∧ nameP p.chan ∧ nameP p.var ∧ p.args.length = 0 ∧ p.labels.length = 0 ∧ p.kids.length = 1 ∧ p.t = zeroTy) ∨
 (p.kind = 4 ∧ nameP p.chan ∧ p.var = eB ∧ p.args.length = 0 ∧ p.labels.length = 1 ∧ labP p.labels ∧ p.kids.length = 1 ∧ p.t = zeroTy) ∨
 (p.kind = 5 ∧ nameP p.chan ∧ p.var = eB ∧ p.args.length = 0 ∧ 0 < p.labels.length ∧ labP p.labels ∧ p.kids.length = p.labels.length ∧ p.t = zeroTy) ∨
 (p.kind = 6 ∧ nameP p.chan ∧ nameP p.var ∧ p.chan ≠ p.var ∧ p.args.length = 0 ∧ p.labels.length = 0 ∧ p.kids.length = 1 ∧ rightE p.t = 0 ∧ sesB p.t.kind = true) ∨
 (p.kind = 7 ∧ (∀ x ∈ p.kids, x.kind ≠ 7) ∧ p.chan = eB ∧ p.var = eB ∧ p.args.length = 0 ∧ p.labels.length = 0 ∧ 2 ≤ p.kids.length ∧ p.t = zeroTy) ∨
 (p.kind = 8 ∧ nameP p.chan ∧ p.var = eB ∧ p.labels.length = 0 ∧ p.kids.length = 0 ∧ p.t = zeroTy)
def nodeP (p : Pr) : Prop := (∀ a ∈ p.args, valP a) ∧ bodP p
theorem labP_one {s : ByteArray} : labP [s] ↔ nameP s := by simp [labP]
end Go.Proofs.YtbfjpjllaibooaaGreat.Tx
/- Contracts: right nodes of processes (3): the reference. -/
namespace Go.Proofs.YtbfjpjllaibooaaGreat.Tx
open Go.Lf Go.Lf.S Go.Lf.Duo
set_option maxRecDepth 100000
theorem take_snoc_all {α : Type} {l : List α} {j : Nat} (h : j < l.length) {p : α → Prop} (h1 : ∀ a ∈ l.take j, p a) (h2 : p l[j]) : ∀ a ∈ l.take (j + 1), p a := by
 intro a ha
 rw [List.take_succ, List.getElem?_eq_getElem h] at ha
 rcases List.mem_append.1 ha with ha | ha
 ·exact h1 a ha
 ·have : a = l[j] := by simpa using ha
  rw [this]; exact h2
theorem okx_ref03_node (p : Pr) (hlim : PLim p) (hz : p.t.sz ≤ 1099511627776) : Ok P F.ref03_node [p.enc] (.bool (pb (nodeP p))) := by
 cases hlim with
 | mk _ hc hv hl hll ha hal ht hkl hkk =>
 have hpl := okx_plain p ht
 have hR := okx_ref02_Right p.t ht hz
 have hS := ok_ref02_Session p.t
 rw [← sb_pt p] at hR hS
 obtain ⟨k, c, v, ls, ar, t, ks⟩ := p
 have hll : ls.length ≤ 9223372036854775807 := hll
 have hal : ar.length ≤ 9223372036854775807 := hal
 have hkl : ks.length ≤ 9223372036854775807 := hkl
 have hL := okx_ref02_Labels ls hll hl
 have hcn := okx_ref03_name c hc
 have hvn := okx_ref03_name v hv
 rw [Pr.enc_mk] at hpl hR hS ⊢
 refine tx_pb k_ref03_node rfl (by simp [t_ref03_node, T.dt]) ?_
 refine d_l (.agg [i k, .str c, .str v, .sl (ls.map .str), .sl (ar.map Vl.enc), i t.kind, i t.prio, .str t.name, i t.shift, .sl (t.labels.map .str), .sl (t.kids.map Ty.enc), .sl (ks.map Pr.enc)]) rfl fun _ => ?_
 refine den_loop (fun m ys => ∃ j : Nat, j + m = ar.length ∧ (∀ a ∈ ar.take j, valP a) ∧ ys = [i j]) ar.length ⟨0, by omega, by simp, rfl⟩ ?_
 rintro m _ ⟨j, hj, hdone, rfl⟩
 refine d_l _ (len_eq ar) fun _ => d_l _ rfl fun _ => d_dec (p := (j : Int) < (ar.length : Int)) (fun h1 => ?_) fun h1 => ?_
 ·have hlt : j < ar.length := by omega
  refine d_l _ (e_idx (mp_at hlt) (Vl.okc_enc _)) fun _ => d_call (okx_ref03_value _ (ha _ (List.getElem_mem hlt))) (d_l _ rfl fun _ => d_ite (fun hb => d_ret (isB_f fun e => ?_)) fun hb => d_l _ (e_inc (by omega)) fun _ => d_cont rfl ⟨m - 1, by omega, j + 1, by omega, take_snoc_all hlt hdone (pb_iff.1 (by simpa using hb)), rfl⟩)
  have hb : pb (valP ar[j]) = false := by simpa using hb
  exact pb_false.1 hb (e.1 _ (List.getElem_mem hlt))
 rw [List.take_of_length_le (by omega)] at hdone
 have hA : ∀ {q : Prop}, (bodP (.mk k c v ls ar t ks) ↔ q) → nodeP (.mk k c v ls ar t ks) = q := fun h => propext ⟨fun e => h.1 e.2, fun e => ⟨hdone, h.2 e⟩⟩
 refine d_l _ (len_eq ar) fun _ => d_l _ (len_eq ls) fun _ => d_l _ (len_eq ks) fun _ => ?_
 refine d_l _ rfl fun _ => d_dec (p := k = 1) (fun h1 => ?_) fun h1 => ?_
 ·rw [hA (q := c = eB ∧ v = eB ∧ ar.length = 0 ∧ ls.length = 0 ∧ ks.length = 0 ∧ t = zeroTy) (by simp [bodP, Pr.kind, Pr.chan, Pr.var, Pr.args, Pr.labels, Pr.kids, Pr.t, h1])]
  refine d_l _ rfl fun _ => d_dec (p := c = eB) (fun e1 => ?_) fun e1 => d_ret (isB_f fun e => e1 e.1)
  refine d_l _ rfl fun _ => d_dec (p := v = eB) (fun e2 => ?_) fun e2 => d_ret (isB_f fun e => e2 e.2.1)
  refine d_l _ rfl fun _ => d_dec (p := (ar.length : Int) = 0) (fun e3 => ?_) fun e3 => d_ret (isB_f fun e => by omega)
  refine d_l _ rfl fun _ => d_dec (p := (ls.length : Int) = 0) (fun e4 => ?_) fun e4 => d_ret (isB_f fun e => by omega)
  refine d_l _ rfl fun _ => d_dec (p := (ks.length : Int) = 0) (fun e5 => ?_) fun e5 => d_ret (isB_f fun e => by omega)
  exact d_call hpl (d_ret (isB_p ⟨fun e => ⟨e1, e2, by omega, by omega, by omega, e⟩, fun e => e.2.2.2.2.2⟩))
 refine d_l _ rfl fun _ => d_dec (p := k = 2) (fun h2 => ?_) fun h2 => ?_
 ·rw [hA (q := nameP c ∧ v = eB ∧ ar.length = 1 ∧ ls.length = 0 ∧ ks.length = 1 ∧ t = zeroTy) (by simp [bodP, Pr.kind, Pr.chan, Pr.var, Pr.args, Pr.labels, Pr.kids, Pr.t, h2])]
  refine d_call hcn (d_ite (fun e1 => ?_) fun e1 => d_ret (isB_f fun e => pb_false.1 e1 e.1))
  refine d_l _ rfl fun _ => d_dec (p := v = eB) (fun e2 => ?_) fun e2 => d_ret (isB_f fun e => e2 e.2.1)
  refine d_l _ rfl fun _ => d_dec (p := (ar.length : Int) = 1) (fun e3 => ?_) fun e3 => d_ret (isB_f fun e => by omega)
  refine d_l _ rfl fun _ => d_dec (p := (ls.length : Int) = 0) (fun e4 => ?_) fun e4 => d_ret (isB_f fun e => by omega)
  refine d_l _ rfl fun _ => d_dec (p := (ks.length : Int) = 1) (fun e5 => ?_) fun e5 => d_ret (isB_f fun e => by omega)
  exact d_call hpl (d_ret (isB_p ⟨fun e => ⟨pb_iff.1 e1, e2, by omega, by omega, by omega, e⟩, fun e => e.2.2.2.2.2⟩))
 refine d_l _ rfl fun _ => d_dec (p := k = 3) (fun h3 => ?_) fun h3 => ?_
 ·rw [hA (q := nameP c ∧ nameP v ∧ ar.length = 0 ∧ ls.length = 0 ∧ ks.length = 1 ∧ t = zeroTy) (by simp [bodP, Pr.kind, Pr.chan, Pr.var, Pr.args, Pr.labels, Pr.kids, Pr.t, h3])]
  refine d_call hcn (d_ite (fun e1 => ?_) fun e1 => d_ret (isB_f fun e => pb_false.1 e1 e.1))
  refine d_call hvn (d_ite (fun e2 => ?_) fun e2 => d_ret (isB_f fun e => pb_false.1 e2 e.2.1))
  refine d_l _ rfl fun _ => d_dec (p := (ar.length : Int) = 0) (fun e3 => ?_) fun e3 => d_ret (isB_f fun e => by omega)
  refine d_l _ rfl fun _ => d_dec (p := (ls.length : Int) = 0) (fun e4 => ?_) fun e4 => d_ret (isB_f fun e => by omega)
  refine d_l _ rfl fun _ => d_dec (p := (ks.length : Int) = 1) (fun e5 => ?_) fun e5 => d_ret (isB_f fun e => by omega)
  exact d_call hpl (d_ret (isB_p ⟨fun e => ⟨pb_iff.1 e1, pb_iff.1 e2, by omega, by omega, by omega, e⟩, fun e => e.2.2.2.2.2⟩))
 refine d_l _ rfl fun _ => d_dec (p := k = 4) (fun h4 => ?_) fun h4 => ?_
 ·rw [hA (q := nameP c ∧ v = eB ∧ ar.length = 0 ∧ ls.length = 1 ∧ labP ls ∧ ks.length = 1 ∧ t = zeroTy) (by simp [bodP, Pr.kind, Pr.chan, Pr.var, Pr.args, Pr.labels, Pr.kids, Pr.t, h4])]
  refine d_call hcn (d_ite (fun e1 => ?_) fun e1 => d_ret (isB_f fun e => pb_false.1 e1 e.1))
  refine d_l _ rfl fun _ => d_dec (p := v = eB) (fun e2 => ?_) fun e2 => d_ret (isB_f fun e => e2 e.2.1)
  refine d_l _ rfl fun _ => d_dec (p := (ar.length : Int) = 0) (fun e3 => ?_) fun e3 => d_ret (isB_f fun e => by omega)
  refine d_l _ rfl fun _ => d_dec (p := (ls.length : Int) = 1) (fun e4 => ?_) fun e4 => d_ret (isB_f fun e => by omega)
  obtain ⟨s, rfl⟩ := List.length_eq_one_iff.1 (show ls.length = 1 by omega)
  rw [labP_one]
  refine d_l (.str s) rfl fun _ => d_call (okx_ref03_name s (hl s (by simp [Pr.labels]))) (d_ite (fun e5 => ?_) fun e5 => d_ret (isB_f fun e => pb_false.1 e5 e.2.2.2.2.1))
  refine d_l _ rfl fun _ => d_dec (p := (ks.length : Int) = 1) (fun e6 => ?_) fun e6 => d_ret (isB_f fun e => by omega)
  exact d_call hpl (d_ret (isB_p ⟨fun e => ⟨pb_iff.1 e1, e2, by omega, by omega, pb_iff.1 e5, by omega, e⟩, fun e => e.2.2.2.2.2.2⟩))
 refine d_l _ rfl fun _ => d_dec (p := k = 5) (fun h5 => ?_) fun h5 => ?_
 ·rw [hA (q := nameP c ∧ v = eB ∧ ar.length = 0 ∧ 0 < ls.length ∧ labP ls ∧ ks.length = ls.length ∧ t = zeroTy) (by simp [bodP, Pr.kind, Pr.chan, Pr.var, Pr.args, Pr.labels, Pr.kids, Pr.t, h5])]
  refine d_call hcn (d_ite (fun e1 => ?_) fun e1 => d_ret (isB_f fun e => pb_false.1 e1 e.1))
  refine d_l _ rfl fun _ => d_dec (p := v = eB) (fun e2 => ?_) fun e2 => d_ret (isB_f fun e => e2 e.2.1)
  refine d_l _ rfl fun _ => d_dec (p := (ar.length : Int) = 0) (fun e3 => ?_) fun e3 => d_ret (isB_f fun e => by omega)
  refine d_l _ rfl fun _ => d_dec (p := 0 < (ls.length : Int)) (fun e4 => ?_) fun e4 => d_ret (isB_f fun e => by omega)
  refine d_call hL (d_ite (fun e5 => ?_) fun e5 => d_ret (isB_f fun e => pb_false.1 e5 e.2.2.2.2.1))
  refine d_l _ rfl fun _ => d_dec (p := (ks.length : Int) = (ls.length : Int)) (fun e6 => ?_) fun e6 => d_ret (isB_f fun e => by omega)
  exact d_call hpl (d_ret (isB_p ⟨fun e => ⟨pb_iff.1 e1, e2, by omega, by omega, pb_iff.1 e5, by omega, e⟩, fun e => e.2.2.2.2.2.2⟩))
 refine d_l _ rfl fun _ => d_dec (p := k = 6) (fun h6 => ?_) fun h6 => ?_
 ·rw [hA (q := nameP c ∧ nameP v ∧ c ≠ v ∧ ar.length = 0 ∧ ls.length = 0 ∧ ks.length = 1 ∧ rightE t = 0 ∧ sesB t.kind = true) (by simp [bodP, Pr.kind, Pr.chan, Pr.var, Pr.args, Pr.labels, Pr.kids, Pr.t, h6])]
  refine d_call hcn (d_ite (fun e1 => ?_) fun e1 => d_ret (isB_f fun e => pb_false.1 e1 e.1))
  refine d_call hvn (d_ite (fun e2 => ?_) fun e2 => d_ret (isB_f fun e => pb_false.1 e2 e.2.1))
  refine d_l _ rfl fun _ => d_ndec (p := c = v) (fun e3 => ?_) fun e3 => d_ret (isB_f fun e => e.2.2.1 e3)
  refine d_l _ rfl fun _ => d_dec (p := (ar.length : Int) = 0) (fun e4 => ?_) fun e4 => d_ret (isB_f fun e => by omega)
  refine d_l _ rfl fun _ => d_dec (p := (ls.length : Int) = 0) (fun e5 => ?_) fun e5 => d_ret (isB_f fun e => by omega)
  refine d_l _ rfl fun _ => d_dec (p := (ks.length : Int) = 1) (fun e6 => ?_) fun e6 => d_ret (isB_f fun e => by omega)
  refine d_call hR (d_l _ rfl fun _ => d_dec (p := rightE t = 0) (fun e7 => ?_) fun e7 => d_ret (isB_f fun e => e7 e.2.2.2.2.2.2.1))
  exact d_call hS (d_ret ⟨_, rfl, ⟨fun e => ⟨pb_iff.1 e1, pb_iff.1 e2, e3, by omega, by omega, by omega, e7, e⟩, fun e => e.2.2.2.2.2.2.2⟩⟩)
 refine d_l _ rfl fun _ => d_dec (p := k = 7) (fun h7 => ?_) fun h7 => ?_
 ·rw [hA (q := (∀ x ∈ ks, x.kind ≠ 7) ∧ c = eB ∧ v = eB ∧ ar.length = 0 ∧ ls.length = 0 ∧ 2 ≤ ks.length ∧ t = zeroTy) (by simp [bodP, Pr.kind, Pr.chan, Pr.var, Pr.args, Pr.labels, Pr.kids, Pr.t, h7])]
  refine den_loop (fun m ys => ∃ j : Nat, j + m = ks.length ∧ (∀ a ∈ ks.take j, a.kind ≠ 7) ∧ ys = [i j]) ks.length ⟨0, by omega, by simp, rfl⟩ ?_
  rintro m2 _ ⟨j2, hj2, hdone2, rfl⟩
  refine d_l _ rfl fun _ => d_dec (p := (j2 : Int) < (ks.length : Int)) (fun h1 => ?_) fun h1 => ?_
  ·have hlt : j2 < ks.length := by omega
   have hk0 : Go.Lf.S.c 0 ks[j2].enc = i ks[j2].kind := by cases ks[j2]; rw [Pr.enc_mk]; rfl
   refine d_l _ (e_idx (mp_at hlt) (Pr.okc_enc _)) fun _ => ?_
   refine d_l (.bool (decide (ks[j2].kind = 7))) (by rw [hk0]; rfl) fun _ => d_dec (fun hb => d_ret (isB_f fun e => e.1 _ (List.getElem_mem hlt) hb)) fun hb => d_l _ (e_inc (by omega)) fun _ => d_cont rfl ⟨m2 - 1, by omega, j2 + 1, by omega, take_snoc_all hlt hdone2 hb, rfl⟩
  rw [List.take_of_length_le (by omega)] at hdone2
  refine d_l _ rfl fun _ => d_dec (p := c = eB) (fun e1 => ?_) fun e1 => d_ret (isB_f fun e => e1 e.2.1)
  refine d_l _ rfl fun _ => d_dec (p := v = eB) (fun e2 => ?_) fun e2 => d_ret (isB_f fun e => e2 e.2.2.1)
  refine d_l _ rfl fun _ => d_dec (p := (ar.length : Int) = 0) (fun e3 => ?_) fun e3 => d_ret (isB_f fun e => by omega)
  refine d_l _ rfl fun _ => d_dec (p := (ls.length : Int) = 0) (fun e4 => ?_) fun e4 => d_ret (isB_f fun e => by omega)
  refine d_l _ rfl fun _ => d_dec (p := 2 ≤ (ks.length : Int)) (fun e5 => ?_) fun e5 => d_ret (isB_f fun e => by omega)
  exact d_call hpl (d_ret (isB_p ⟨fun e => ⟨hdone2, e1, e2, by omega, by omega, by omega, e⟩, fun e => e.2.2.2.2.2.2⟩))
 refine d_l _ rfl fun _ => d_dec (p := k = 8) (fun h8 => ?_) fun h8 => d_ret (isB_f fun e => ?_)
 ·rw [hA (q := nameP c ∧ v = eB ∧ ls.length = 0 ∧ ks.length = 0 ∧ t = zeroTy) (by simp [bodP, Pr.kind, Pr.chan, Pr.var, Pr.args, Pr.labels, Pr.kids, Pr.t, h8])]
  refine d_call hcn (d_ite (fun e1 => ?_) fun e1 => d_ret (isB_f fun e => pb_false.1 e1 e.1))
  refine d_l _ rfl fun _ => d_dec (p := v = eB) (fun e2 => ?_) fun e2 => d_ret (isB_f fun e => e2 e.2.1)
  refine d_l _ rfl fun _ => d_dec (p := (ls.length : Int) = 0) (fun e4 => ?_) fun e4 => d_ret (isB_f fun e => by omega)
  refine d_l _ rfl fun _ => d_dec (p := (ks.length : Int) = 0) (fun e5 => ?_) fun e5 => d_ret (isB_f fun e => by omega)
  exact d_call hpl (d_ret (isB_p ⟨fun e => ⟨pb_iff.1 e1, e2, by omega, by omega, e⟩, fun e => e.2.2.2.2⟩))
 ·have := e.2
  simp [bodP, Pr.kind, h1, h2, h3, h4, h5, h6, h7, h8] at this
end Go.Proofs.YtbfjpjllaibooaaGreat.Tx
/- Contracts: right processes, right programs; the law ProctreeShapes. -/
namespace Go.Proofs.YtbfjpjllaibooaaGreat.Tx
open Go.Lf Go.Lf.S Go.Lf.Duo
set_option maxRecDepth 100000
inductive NodesP : Pr → Prop
 | mk (p : Pr) (h : nodeP p) (hk : ∀ k ∈ p.kids, NodesP k) : NodesP p
theorem nodesP_iff {p : Pr} : NodesP p ↔ nodeP p ∧ ∀ k ∈ p.kids, NodesP k := ⟨fun h => by cases h with | mk _ h hk => exact ⟨h, hk⟩, fun ⟨h, hk⟩ => .mk p h hk⟩
theorem okx_ref03_nodes : ∀ (p : Pr), PLim p → TB 300 p → Ok P F.ref03_nodes [p.enc] (.bool (pb (NodesP p))) := by
 intro p
 induction p using Pr.ind with
 | _ p ih =>
 intro hlim htb
 have hsh := okx_ref03_node p hlim (by have := htb.t; omega)
 cases hlim with
 | mk _ hc hv hl hll ha hal ht hkl hkk =>
 have htk := htb.kids
 obtain ⟨k, c, v, ls, ar, t, ks⟩ := p
 have hkl : ks.length ≤ 9223372036854775807 := hkl
 rw [Pr.enc_mk] at hsh ⊢
 refine tx_pb k_ref03_nodes rfl (by simp [t_ref03_nodes, T.dt]) ?_
 rw [nodesP_iff]
 refine d_l (.agg [i k, .str c, .str v, .sl (ls.map .str), .sl (ar.map Vl.enc), i t.kind, i t.prio, .str t.name, i t.shift, .sl (t.labels.map .str), .sl (t.kids.map Ty.enc), .sl (ks.map Pr.enc)]) rfl fun _ => ?_
 refine d_call hsh (d_l _ rfl fun _ => d_ite (fun h1 => d_ret (isB_f fun e => pb_false.1 (by simpa using h1) e.1)) fun h1 => ?_)
 have h1 : nodeP (.mk k c v ls ar t ks) := pb_iff.1 (by simpa using h1)
 refine den_loop (fun m ys => ∃ j : Nat, j + m = ks.length ∧ (∀ a ∈ ks.take j, NodesP a) ∧ ys = [i j]) ks.length ⟨0, by omega, by simp, rfl⟩ ?_
 rintro m _ ⟨j, hj, hdone, rfl⟩
 refine d_l _ (len_eq ks) fun _ => d_l _ rfl fun _ => d_dec (p := (j : Int) < (ks.length : Int)) (fun h2 => ?_) fun h2 => ?_
 ·have hlt : j < ks.length := by omega
  have hm : ks[j] ∈ ks := List.getElem_mem hlt
  refine d_l _ (e_idx (mp_at hlt) (Pr.okc_enc _)) fun _ => d_call (ih _ hm (hkk _ hm) (htk _ hm)) (d_l _ rfl fun _ => d_ite (fun hb => d_ret (isB_f fun e => ?_)) fun hb => d_l _ (e_inc (by omega)) fun _ => d_cont rfl ⟨m - 1, by omega, j + 1, by omega, take_snoc_all hlt hdone (pb_iff.1 (by simpa using hb)), rfl⟩)
  have hb : pb (NodesP ks[j]) = false := by simpa using hb
  exact pb_false.1 hb (e.2 _ hm)
 ·rw [List.take_of_length_le (by omega)] at hdone
  exact d_ret (isB_t ⟨h1, hdone⟩)
noncomputable def prightE (p : Pr) : Int := if 100 < pdep p ∨ 10000 < p.sz then 2 else if pb (NodesP p) then 0 else 3
theorem okx_ref03_Right (p : Pr) (hlim : PLim p) (hz : p.sz ≤ 1099511627776) (ht : TB 300 p) : Ok P F.ref03_Right [p.enc] (i (prightE p)) := by
 have hd := ok_ref03_Depth p hz
 have hs := ok_ref03_Size p hz
 have ha := okx_ref03_nodes p hlim ht
 refine k_ref03_Right _ _ rfl (d_l _ (e_okc (Pr.okc_enc p)) fun _ => d_call hd (d_l _ rfl fun _ => d_dec (p := (100 : Int) < (pdep p : Int)) (fun h => d_ret ?_) fun h => d_call hs (d_l _ rfl fun _ => d_dec (p := (10000 : Int) < (p.sz : Int)) (fun h2 => d_ret ?_) fun h2 => d_call ha (d_l _ rfl fun _ => d_ite (fun h3 => d_ret ?_) fun h3 => d_ret ?_))))
 ·rw [prightE, if_pos (by omega)]
 ·rw [prightE, if_pos (by omega)]
 ·rw [prightE, if_neg (by omega), if_neg (by simpa using h3)]
 ·rw [prightE, if_neg (by omega), if_pos (by simpa using h3)]
/-! programs -/
noncomputable def firstE : List Df → Int
 | [] => 0
 | d :: r => if prightE d.body = 0 then firstE r else prightE d.body
theorem firstE_0 : ∀ {l : List Df}, (∀ d ∈ l, prightE d.body = 0) → firstE l = 0
 | [], _ => rfl
 | d :: r, h => by rw [firstE, if_pos (h d List.mem_cons_self)]; exact firstE_0 fun x hx => h x (List.mem_cons_of_mem _ hx)
theorem firstE_at : ∀ {l : List Df} {j : Nat} (h : j < l.length), (∀ d ∈ l.take j, prightE d.body = 0) → prightE l[j].body ≠ 0 → firstE l = prightE l[j].body
 | [], j, h, _, _ => absurd h (by simp)
 | d :: r, 0, h, _, h2 => by
  have h2 : prightE d.body ≠ 0 := h2
  rw [firstE, if_neg h2]; rfl
 | d :: r, j + 1, h, h1, h2 => by
  rw [firstE, if_pos (h1 d (by simp))]
  exact firstE_at (by simpa using h) (fun x hx => h1 x (by simp [hx])) h2
def parP (e : Et) : Prop := nameP e.name ∧ rightE e.t = 0
def dfP (d : Df) : Prop := nameP d.name ∧ ∀ e ∈ d.params, parP e
noncomputable def progE (p : Pg) : Int := if 10000 < total p then 2 else if firstE p.defs ≠ 0 then firstE p.defs else if prightE p.main ≠ 0 then prightE p.main else if pb (∀ d ∈ p.defs, dfP d) then 0 else 3
theorem okx_ref03_Program (p : Pg) (hlim : GLim p) {m L : Nat} (hm : m ≤ 20000) (h : PgS p m L) (hL : L ≤ 21 := by decide) : Ok P F.ref03_Program [p.enc] (i (progE p)) := by
 have hl : p.defs.length ≤ 21 := Nat.le_trans h.len hL
 have hmain := okx_ref03_Right p.main hlim.main (by have := h.main.1; omega) h.main.2.2
 rw [← sb_main p] at hmain
 refine k_ref03_Program _ _ rfl (d_l _ (e_okc (Pg.okc_enc p)) fun _ => d_call (ok_ref03_Total p hm h hL) (d_l _ rfl fun _ => d_dec (p := (10000 : Int) < (total p : Int)) (fun ht => d_ret ?_) fun ht => ?_))
 ·rw [progE, if_pos (by omega)]
 refine den_loop (fun m ys => ∃ j : Nat, j + m = p.defs.length ∧ (∀ d ∈ p.defs.take j, prightE d.body = 0) ∧ ys = [i j]) p.defs.length ⟨0, by omega, by simp, rfl⟩ ?_
 rintro mm _ ⟨j, hj, hdone, rfl⟩
 refine d_l _ (len_eq p.defs) fun _ => d_l _ rfl fun _ => d_dec (p := (j : Int) < (p.defs.length : Int)) (fun h1 => ?_) fun h1 => ?_
 ·have hlt : j < p.defs.length := by omega
  have hmem : p.defs[j] ∈ p.defs := List.getElem_mem hlt
  have hb := h.body _ hmem
  have hR := okx_ref03_Right p.defs[j].body (hlim.defs _ hmem).body (by omega) hb.2.2
  rw [← sb_body] at hR
  refine d_l _ (e_idx (mp_at hlt) (Df.okc_enc _)) fun _ => d_call hR (d_l _ rfl fun _ => d_ndec (p := prightE p.defs[j].body = 0) (fun e => d_ret ?_) fun e => d_l _ (e_inc (by omega)) fun _ => d_cont rfl ⟨mm - 1, by omega, j + 1, by omega, take_snoc_all hlt hdone e, rfl⟩)
  rw [progE, if_neg (by omega), firstE_at hlt hdone e, if_pos e]
 rw [List.take_of_length_le (by omega)] at hdone
 have hf := firstE_0 hdone
 refine d_call hmain (d_l _ rfl fun _ => d_ndec (p := prightE p.main = 0) (fun e => d_ret ?_) fun em => ?_)
 ·rw [progE, if_neg (by omega), if_neg (fun hh => hh hf), if_pos e]
 refine den_loop (fun m ys => ∃ j : Nat, j + m = p.defs.length ∧ (∀ d ∈ p.defs.take j, dfP d) ∧ ys = [i j]) p.defs.length ⟨0, by omega, by simp, rfl⟩ ?_
 rintro mm2 _ ⟨j2, hj2, hdone2, rfl⟩
 have hE : progE p = if pb (∀ d ∈ p.defs, dfP d) then 0 else 3 := by
  rw [progE, if_neg (by omega), if_neg (fun hh => hh hf), if_neg (fun hh => hh em)]
 rw [hE]
 refine d_l _ (len_eq p.defs) fun _ => d_l _ rfl fun _ => d_dec (p := (j2 : Int) < (p.defs.length : Int)) (fun h1 => ?_) fun h1 => d_ret ?_
 ·have hlt : j2 < p.defs.length := by omega
  have hmem : p.defs[j2] ∈ p.defs := List.getElem_mem hlt
  have hd := hlim.defs _ hmem
  have hp := h.par _ hmem
  have hpl := hp.1
  refine d_l _ (e_idx (mp_at hlt) (Df.okc_enc _)) fun _ => d_l _ (e_okc (Df.okc_enc _)) fun _ => d_call (okx_ref03_name p.defs[j2].name hd.name) (d_l _ rfl fun _ => d_ite (fun e1 => d_ret ?_) fun e1 => ?_)
  ·have e1 : pb (nameP p.defs[j2].name) = false := by simpa using e1
   rw [if_neg fun hh => pb_false.1 e1 (pb_iff.1 hh _ hmem).1]
  have e1 : nameP p.defs[j2].name := pb_iff.1 (by simpa using e1)
  refine den_loop (fun m ys => ∃ j : Nat, j + m = p.defs[j2].params.length ∧ (∀ e ∈ p.defs[j2].params.take j, parP e) ∧ ys = [i j]) p.defs[j2].params.length ⟨0, by omega, by simp, rfl⟩ ?_
  rintro mm3 _ ⟨j3, hj3, hdone3, rfl⟩
  refine d_l _ (len_eq p.defs[j2].params) fun _ => d_l _ rfl fun _ => d_dec (p := (j3 : Int) < (p.defs[j2].params.length : Int)) (fun h2 => ?_) fun h2 => ?_
  ·have hlt3 : j3 < p.defs[j2].params.length := by omega
   have hmem3 : p.defs[j2].params[j3] ∈ p.defs[j2].params := List.getElem_mem hlt3
   have he := hd.params _ hmem3
   have hR := okx_ref02_Right p.defs[j2].params[j3].t he.t (by have := hp.2 _ hmem3; omega)
   rw [← sb_t] at hR
   refine d_l _ (e_idx (mp_at hlt3) (Et.okc_enc _)) fun _ => d_call (okx_ref03_name _ he.name) (d_l _ rfl fun _ => d_ite (fun e3 => d_ret ?_) fun e3 => ?_)
   ·have e3 : pb (nameP p.defs[j2].params[j3].name) = false := by simpa using e3
    rw [if_neg fun hh => pb_false.1 e3 ((pb_iff.1 hh _ hmem).2 _ hmem3).1]
   have e3 : nameP p.defs[j2].params[j3].name := pb_iff.1 (by simpa using e3)
   refine d_l _ (e_idx (mp_at hlt3) (Et.okc_enc _)) fun _ => d_call hR (d_l _ rfl fun _ => d_ndec (p := rightE p.defs[j2].params[j3].t = 0) (fun e4 => d_ret ?_) fun e4 => d_l _ (e_inc (by omega)) fun _ => d_cont rfl ⟨mm3 - 1, by omega, j3 + 1, by omega, take_snoc_all hlt3 hdone3 ⟨e3, e4⟩, rfl⟩)
   rw [if_neg fun hh => e4 ((pb_iff.1 hh _ hmem).2 _ hmem3).2]
  ·rw [List.take_of_length_le (by omega)] at hdone3
   exact d_l _ (e_inc (by omega)) fun _ => d_cont rfl ⟨mm2 - 1, by omega, j2 + 1, by omega, take_snoc_all hlt hdone2 ⟨e1, hdone3⟩, rfl⟩
 ·rw [List.take_of_length_le (by omega)] at hdone2
  rw [if_pos (pb_iff.2 hdone2)]
end Go.Proofs.YtbfjpjllaibooaaGreat.Tx

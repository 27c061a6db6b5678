/- Contracts: right processes, right programs; the law ProctreeShapes. -/
import Derived.Test.YtbfjpjllaibooaaGreatWk68
import Derived.Test.YtbfjpjllaibooaaGreatDAwake03
set_option linter.all false
namespace Go.Proofs.YtbfjpjllaibooaaGreat.Tx
open Go.Lf Go.Lf.S Go.Lf.Duo
set_option maxRecDepth 100000

inductive NodesP : Pr → Prop
  | mk (p : Pr) (h : nodeP p) (hk : ∀ k ∈ p.kids, NodesP k) : NodesP p
theorem nodesP_iff {p : Pr} : NodesP p ↔ nodeP p ∧ ∀ k ∈ p.kids, NodesP k := ⟨fun h => by cases h with | mk _ h hk => exact ⟨h, hk⟩, fun ⟨h, hk⟩ => .mk p h hk⟩

theorem okx_ref03_nodes : ∀ (p : Pr), PLim p → TB 300 p → Ok P F.ref03_nodes [p.enc] (.bool (pb (NodesP p))) := by
  intro p
  induction p using Pr.ind with
  | _ p ih =>
  intro hlim htb
  have hsh := okx_ref03_node p hlim (by have := htb.t; omega)
  cases hlim with
  | mk _ hc hv hl hll ha hal ht hkl hkk =>
  have htk := htb.kids
  obtain ⟨k, c, v, ls, ar, t, ks⟩ := p
  have hkl : ks.length ≤ 9223372036854775807 := hkl
  rw [Pr.enc_mk] at hsh ⊢
  refine tx_pb k_ref03_nodes rfl (by simp [t_ref03_nodes, T.dt]) ?_
  rw [nodesP_iff]
  refine d_l (.agg [i k, .str c, .str v, .sl (ls.map .str), .sl (ar.map Vl.enc), i t.kind, i t.prio, .str t.name, i t.shift, .sl (t.labels.map .str), .sl (t.kids.map Ty.enc), .sl (ks.map Pr.enc)]) rfl fun _ => ?_
  refine d_call hsh (d_l _ rfl fun _ => d_ite (fun h1 => d_ret (isB_f fun e => pb_false.1 (by simpa using h1) e.1)) fun h1 => ?_)
  have h1 : nodeP (.mk k c v ls ar t ks) := pb_iff.1 (by simpa using h1)
  refine den_loop (fun m ys => ∃ j : Nat, j + m = ks.length ∧ (∀ a ∈ ks.take j, NodesP a) ∧ ys = [i j]) ks.length ⟨0, by omega, by simp, rfl⟩ ?_
  rintro m _ ⟨j, hj, hdone, rfl⟩
  refine d_l _ (len_eq ks) fun _ => d_l _ rfl fun _ => d_dec (p := (j : Int) < (ks.length : Int)) (fun h2 => ?_) fun h2 => ?_
  · have hlt : j < ks.length := by omega
    have hm : ks[j] ∈ ks := List.getElem_mem hlt
    refine d_l _ (e_idx (mp_at hlt) (Pr.okc_enc _)) fun _ => d_call (ih _ hm (hkk _ hm) (htk _ hm)) (d_l _ rfl fun _ => d_ite (fun hb => d_ret (isB_f fun e => ?_)) fun hb => d_l _ (e_inc (by omega)) fun _ => d_cont rfl ⟨m - 1, by omega, j + 1, by omega, take_snoc_all hlt hdone (pb_iff.1 (by simpa using hb)), rfl⟩)
    have hb : pb (NodesP ks[j]) = false := by simpa using hb
    exact pb_false.1 hb (e.2 _ hm)
  · rw [List.take_of_length_le (by omega)] at hdone
    exact d_ret (isB_t ⟨h1, hdone⟩)

noncomputable def prightE (p : Pr) : Int := if 100 < pdep p ∨ 10000 < p.sz then 2 else if pb (NodesP p) then 0 else 3
theorem okx_ref03_Right (p : Pr) (hlim : PLim p) (hz : p.sz ≤ 1099511627776) (ht : TB 300 p) : Ok P F.ref03_Right [p.enc] (i (prightE p)) := by
  have hd := ok_ref03_Depth p hz
  have hs := ok_ref03_Size p hz
  have ha := okx_ref03_nodes p hlim ht
  refine k_ref03_Right _ _ rfl (d_l _ (e_okc (Pr.okc_enc p)) fun _ => d_call hd (d_l _ rfl fun _ => d_dec (p := (100 : Int) < (pdep p : Int)) (fun h => d_ret ?_) fun h => d_call hs (d_l _ rfl fun _ => d_dec (p := (10000 : Int) < (p.sz : Int)) (fun h2 => d_ret ?_) fun h2 => d_call ha (d_l _ rfl fun _ => d_ite (fun h3 => d_ret ?_) fun h3 => d_ret ?_))))
  · rw [prightE, if_pos (by omega)]
  · rw [prightE, if_pos (by omega)]
  · rw [prightE, if_neg (by omega), if_neg (by simpa using h3)]
  · rw [prightE, if_neg (by omega), if_pos (by simpa using h3)]

/-! programs -/

noncomputable def firstE : List Df → Int
  | [] => 0
  | d :: r => if prightE d.body = 0 then firstE r else prightE d.body
theorem firstE_0 : ∀ {l : List Df}, (∀ d ∈ l, prightE d.body = 0) → firstE l = 0
  | [], _ => rfl
  | d :: r, h => by rw [firstE, if_pos (h d List.mem_cons_self)]; exact firstE_0 fun x hx => h x (List.mem_cons_of_mem _ hx)
theorem firstE_at : ∀ {l : List Df} {j : Nat} (h : j < l.length), (∀ d ∈ l.take j, prightE d.body = 0) → prightE l[j].body ≠ 0 → firstE l = prightE l[j].body
  | [], j, h, _, _ => absurd h (by simp)
  | d :: r, 0, h, _, h2 => by
    have h2 : prightE d.body ≠ 0 := h2
    rw [firstE, if_neg h2]; rfl
  | d :: r, j + 1, h, h1, h2 => by
    rw [firstE, if_pos (h1 d (by simp))]
    exact firstE_at (by simpa using h) (fun x hx => h1 x (by simp [hx])) h2
def parP (e : Et) : Prop := nameP e.name ∧ rightE e.t = 0
def dfP (d : Df) : Prop := nameP d.name ∧ ∀ e ∈ d.params, parP e
noncomputable def progE (p : Pg) : Int := if 10000 < total p then 2 else if firstE p.defs ≠ 0 then firstE p.defs else if prightE p.main ≠ 0 then prightE p.main else if pb (∀ d ∈ p.defs, dfP d) then 0 else 3

theorem okx_ref03_Program (p : Pg) (hlim : GLim p) {m L : Nat} (hm : m ≤ 20000) (h : PgS p m L) (hL : L ≤ 21 := by decide) : Ok P F.ref03_Program [p.enc] (i (progE p)) := by
  have hl : p.defs.length ≤ 21 := Nat.le_trans h.len hL
  have hmain := okx_ref03_Right p.main hlim.main (by have := h.main.1; omega) h.main.2.2
  rw [← sb_main p] at hmain
  refine k_ref03_Program _ _ rfl (d_l _ (e_okc (Pg.okc_enc p)) fun _ => d_call (ok_ref03_Total p hm h hL) (d_l _ rfl fun _ => d_dec (p := (10000 : Int) < (total p : Int)) (fun ht => d_ret ?_) fun ht => ?_))
  · rw [progE, if_pos (by omega)]
  refine den_loop (fun m ys => ∃ j : Nat, j + m = p.defs.length ∧ (∀ d ∈ p.defs.take j, prightE d.body = 0) ∧ ys = [i j]) p.defs.length ⟨0, by omega, by simp, rfl⟩ ?_
  rintro mm _ ⟨j, hj, hdone, rfl⟩
  refine d_l _ (len_eq p.defs) fun _ => d_l _ rfl fun _ => d_dec (p := (j : Int) < (p.defs.length : Int)) (fun h1 => ?_) fun h1 => ?_
  · have hlt : j < p.defs.length := by omega
    have hmem : p.defs[j] ∈ p.defs := List.getElem_mem hlt
    have hb := h.body _ hmem
    have hR := okx_ref03_Right p.defs[j].body (hlim.defs _ hmem).body (by omega) hb.2.2
    rw [← sb_body] at hR
    refine d_l _ (e_idx (mp_at hlt) (Df.okc_enc _)) fun _ => d_call hR (d_l _ rfl fun _ => d_ndec (p := prightE p.defs[j].body = 0) (fun e => d_ret ?_) fun e => d_l _ (e_inc (by omega)) fun _ => d_cont rfl ⟨mm - 1, by omega, j + 1, by omega, take_snoc_all hlt hdone e, rfl⟩)
    rw [progE, if_neg (by omega), firstE_at hlt hdone e, if_pos e]
  rw [List.take_of_length_le (by omega)] at hdone
  have hf := firstE_0 hdone
  refine d_call hmain (d_l _ rfl fun _ => d_ndec (p := prightE p.main = 0) (fun e => d_ret ?_) fun em => ?_)
  · rw [progE, if_neg (by omega), if_neg (fun hh => hh hf), if_pos e]
  refine den_loop (fun m ys => ∃ j : Nat, j + m = p.defs.length ∧ (∀ d ∈ p.defs.take j, dfP d) ∧ ys = [i j]) p.defs.length ⟨0, by omega, by simp, rfl⟩ ?_
  rintro mm2 _ ⟨j2, hj2, hdone2, rfl⟩
  have hE : progE p = if pb (∀ d ∈ p.defs, dfP d) then 0 else 3 := by
    rw [progE, if_neg (by omega), if_neg (fun hh => hh hf), if_neg (fun hh => hh em)]
  rw [hE]
  refine d_l _ (len_eq p.defs) fun _ => d_l _ rfl fun _ => d_dec (p := (j2 : Int) < (p.defs.length : Int)) (fun h1 => ?_) fun h1 => d_ret ?_
  · have hlt : j2 < p.defs.length := by omega
    have hmem : p.defs[j2] ∈ p.defs := List.getElem_mem hlt
    have hd := hlim.defs _ hmem
    have hp := h.par _ hmem
    have hpl := hp.1
    refine d_l _ (e_idx (mp_at hlt) (Df.okc_enc _)) fun _ => d_l _ (e_okc (Df.okc_enc _)) fun _ => d_call (okx_ref03_name p.defs[j2].name hd.name) (d_l _ rfl fun _ => d_ite (fun e1 => d_ret ?_) fun e1 => ?_)
    · have e1 : pb (nameP p.defs[j2].name) = false := by simpa using e1
      rw [if_neg fun hh => pb_false.1 e1 (pb_iff.1 hh _ hmem).1]
    have e1 : nameP p.defs[j2].name := pb_iff.1 (by simpa using e1)
    refine den_loop (fun m ys => ∃ j : Nat, j + m = p.defs[j2].params.length ∧ (∀ e ∈ p.defs[j2].params.take j, parP e) ∧ ys = [i j]) p.defs[j2].params.length ⟨0, by omega, by simp, rfl⟩ ?_
    rintro mm3 _ ⟨j3, hj3, hdone3, rfl⟩
    refine d_l _ (len_eq p.defs[j2].params) fun _ => d_l _ rfl fun _ => d_dec (p := (j3 : Int) < (p.defs[j2].params.length : Int)) (fun h2 => ?_) fun h2 => ?_
    · have hlt3 : j3 < p.defs[j2].params.length := by omega
      have hmem3 : p.defs[j2].params[j3] ∈ p.defs[j2].params := List.getElem_mem hlt3
      have he := hd.params _ hmem3
      have hR := okx_ref02_Right p.defs[j2].params[j3].t he.t (by have := hp.2 _ hmem3; omega)
      rw [← sb_t] at hR
      refine d_l _ (e_idx (mp_at hlt3) (Et.okc_enc _)) fun _ => d_call (okx_ref03_name _ he.name) (d_l _ rfl fun _ => d_ite (fun e3 => d_ret ?_) fun e3 => ?_)
      · have e3 : pb (nameP p.defs[j2].params[j3].name) = false := by simpa using e3
        rw [if_neg fun hh => pb_false.1 e3 ((pb_iff.1 hh _ hmem).2 _ hmem3).1]
      have e3 : nameP p.defs[j2].params[j3].name := pb_iff.1 (by simpa using e3)
      refine d_l _ (e_idx (mp_at hlt3) (Et.okc_enc _)) fun _ => d_call hR (d_l _ rfl fun _ => d_ndec (p := rightE p.defs[j2].params[j3].t = 0) (fun e4 => d_ret ?_) fun e4 => d_l _ (e_inc (by omega)) fun _ => d_cont rfl ⟨mm3 - 1, by omega, j3 + 1, by omega, take_snoc_all hlt3 hdone3 ⟨e3, e4⟩, rfl⟩)
      rw [if_neg fun hh => e4 ((pb_iff.1 hh _ hmem).2 _ hmem3).2]
    · rw [List.take_of_length_le (by omega)] at hdone3
      exact d_l _ (e_inc (by omega)) fun _ => d_cont rfl ⟨mm2 - 1, by omega, j2 + 1, by omega, take_snoc_all hlt hdone2 ⟨e1, hdone3⟩, rfl⟩
  · rw [List.take_of_length_le (by omega)] at hdone2
    rw [if_pos (pb_iff.2 hdone2)]

end Go.Proofs.YtbfjpjllaibooaaGreat.Tx

/- Contracts: sizes and depths of processes and programs. -/
import Derived.Test.YtjekkidhbnkiaaaDoorWk60
set_option linter.all false
namespace Go.Proofs.YtjekkidhbnkiaaaDoor.Tx
open Go.Lf Go.Lf.S Go.Lf.Duo
set_option maxRecDepth 100000
theorem pszs_take (l : List Pr) (j : Nat) (h : j < l.length) : Pr.szs (l.take (j + 1)) = Pr.szs (l.take j) + Pr.sz l[j] := by
 induction l generalizing j with
 | nil => simp at h
 | cons x l ih =>
  cases j with
  | zero => simp [Pr.szs]
  | succ j => simp only [List.take_succ_cons, Pr.szs, List.getElem_cons_succ]; rw [ih j (by simpa using h)]; omega
/-! the size -/
/-! the size with that of the types -/
/-- types of bounded size -/
inductive TB (b : Nat) : Pr → Prop
 | mk (p : Pr) (h : p.t.sz ≤ b) (hk : ∀ k ∈ p.kids, TB b k) : TB b p
theorem TB.t {b : Nat} {p : Pr} (h : TB b p) : p.t.sz ≤ b := by cases h; assumption
theorem TB.kids {b : Nat} {p : Pr} (h : TB b p) : ∀ k ∈ p.kids, TB b k := by cases h; assumption
/-! few nodes -/
/-! depths -/
mutual
def pdep : Pr → Nat
 | .mk _ _ _ _ _ _ ks => pdeps ks + 1
def pdeps : List Pr → Nat
 | [] => 0
 | k :: ks => max (pdep k) (pdeps ks)
end
theorem pdeps_take (l : List Pr) (j : Nat) (h : j < l.length) : pdeps (l.take (j + 1)) = max (pdeps (l.take j)) (pdep l[j]) := by
 induction l generalizing j with
 | nil => simp at h
 | cons x l ih =>
  cases j with
  | zero => simp [pdeps]
  | succ j => simp only [List.take_succ_cons, pdeps, List.getElem_cons_succ]; rw [ih j (by simpa using h)]; omega
mutual
theorem pdep_le : ∀ p : Pr, pdep p ≤ p.sz
 | .mk _ _ _ _ _ _ ks => by have := pdeps_le ks; simp only [pdep, Pr.sz]; omega
theorem pdeps_le : ∀ l : List Pr, pdeps l ≤ Pr.szs l
 | [] => by simp [pdeps, Pr.szs]
 | k :: ks => by have := pdep_le k; have := pdeps_le ks; simp only [pdeps, Pr.szs]; omega
end
theorem e_mxN {a b : Nat} : (Prim.mx .i64).ev [i (a : Int), i (b : Int)] = some (i ((max a b : Nat) : Int)) := by
 show some (i (if (b : Int) > (a : Int) then (b : Int) else (a : Int))) = _
 congr 2
 split <;> omega
theorem ok_ref03_Depth : ∀ p : Pr, p.sz ≤ 1099511627776 → Ok P F.ref03_Depth [p.enc] (i (pdep p)) := by
 intro p
 induction p using Pr.ind with
 | _ p ih =>
 obtain ⟨k, ch, v, ls, ar, t, ks⟩ := p
 intro hz
 simp only [Pr.sz] at hz
 have hlen := pr_len ks
 rw [Pr.enc_mk]
 refine k_ref03_Depth _ _ rfl (d_l (.agg [i k, .str ch, .str v, .sl (ls.map .str), .sl (ar.map Vl.enc), i t.kind, i t.prio, .str t.name, i t.shift, .sl (t.labels.map .str), .sl (t.kids.map Ty.enc), .sl (ks.map Pr.enc)]) rfl fun _ => ?_)
 refine den_rounds (fun j => [i j, i (pdeps (ks.take j))]) ks.length rfl (fun j hj => ?_) ?_
 ·have hmem : ks[j] ∈ ks := List.getElem_mem hj
  have hs1 := Pr.szs_mem hmem
  refine d_l _ (len_eq ks) fun _ => d_l _ rfl fun _ => d_dec (fun h => ?_) fun h => absurd (show (j : Int) < (ks.length : Int) by omega) h
  refine d_l _ (e_idx (mp_at hj) (Pr.okc_enc _)) fun _ => d_call (ih _ hmem (by omega)) (d_l (i (pdeps (ks.take (j + 1)))) (by rw [pdeps_take ks j hj]; exact e_mxN) fun _ => d_l _ (e_inc (by omega)) fun _ => d_cont rfl rfl)
 ·have hd := pdeps_le ks
  refine d_l _ (len_eq ks) fun _ => d_l _ rfl fun _ => d_dec (fun h => absurd (show (ks.length : Int) < (ks.length : Int) from h) (by omega)) fun _ => ?_
  rw [List.take_length]
  exact d_l _ (e_add (by omega) (by omega)) fun _ => d_ret (by simp only [pdep]; rfl)
/-! processes with few nodes -/
theorem ok_ref03_left : ∀ (p : Pr) (m : Int), PLim p → 0 ≤ m → m ≤ 1099511627776 → ∃ r : Int, Ok P F.ref03_left [p.enc, i m] (i r) ∧ -1 ≤ r ∧ r ≤ m ∧ (0 ≤ r → r = m - p.sz ∧ TB 300 p) := by
 intro p
 induction p using Pr.ind with
 | _ p ih =>
 intro m hlim h0 h1
 obtain ⟨fb, hf, hf2⟩ : ∃ b, Ok P F.ref02_Few [p.t.enc, i 300] (.bool b) ∧ (b = true → (p.t.sz : Int) ≤ 300 ∧ dep p.t ≤ 150) := okx_ref02_Few p.t (by cases hlim; assumption) 300 (by omega) (by omega)
 have hlim' := hlim
 cases hlim' with
 | mk _ _ _ _ _ _ _ _ hkl hkk =>
 obtain ⟨k, ch, v, ls, ar, t, ks⟩ := p
 have hkl : ks.length ≤ 9223372036854775807 := hkl
 rw [Ty.enc_cs] at hf
 rw [Pr.enc_mk]
 have := tx_ex (K := fun x => ∃ r : Int, x = i r ∧ -1 ≤ r ∧ r ≤ m ∧ (0 ≤ r → r = m - ((Pr.mk k ch v ls ar t ks).sz : Int) ∧ TB 300 (.mk k ch v ls ar t ks))) k_ref03_left (xs := [.agg [i k, .str ch, .str v, .sl (ls.map .str), .sl (ar.map Vl.enc), i t.kind, i t.prio, .str t.name, i t.shift, .sl (t.labels.map .str), .sl (t.kids.map Ty.enc), .sl (ks.map Pr.enc)], i m]) rfl (by simp [t_ref03_left, T.dt]) (by
  refine d_l (.agg [i k, .str ch, .str v, .sl (ls.map .str), .sl (ar.map Vl.enc), i t.kind, i t.prio, .str t.name, i t.shift, .sl (t.labels.map .str), .sl (t.kids.map Ty.enc), .sl (ks.map Pr.enc)]) rfl fun _ => d_l _ (e_sub (by omega) (by omega)) fun _ => d_call hf (d_l (.bool !fb) rfl fun _ => d_ite (fun _ => d_ret ⟨-1, rfl, by omega, by omega, fun h => by omega⟩) fun hfb => ?_)
  have hft := (hf2 (by simpa using hfb)).1
  refine den_loop (fun mm ys => ∃ (j : Nat) (r : Int), j + mm = ks.length ∧ -1 ≤ r ∧ r ≤ m - 1 ∧ (0 ≤ r → r = m - 1 - Pr.szs (ks.take j) ∧ ∀ x ∈ ks.take j, TB 300 x) ∧ ys = [i j, i r]) ks.length ⟨0, m - 1, by omega, by omega, by omega, fun _ => ⟨by simp [Pr.szs], by simp⟩, rfl⟩ ?_
  rintro mm _ ⟨j, r, hj, r0, r1, r2, rfl⟩
  refine d_l _ (len_eq ks) fun _ => d_l _ rfl fun _ => d_dec (fun h => ?_) fun h => ?_
  ·have hlt : j < ks.length := by have h : (j : Int) < (ks.length : Int) := h; omega
   have hx := List.getElem_mem hlt
   refine d_l _ rfl fun _ => d_dec (fun h2 => ?_) fun h2 => d_ret ⟨r, rfl, r0, by omega, fun h3 => absurd h3 h2⟩
   have h2 : 0 ≤ r := h2
   obtain ⟨e1, e2⟩ := r2 h2
   obtain ⟨r', g1, g2, g3, g4⟩ := ih _ hx r (hkk _ hx) h2 (by omega)
   refine d_l _ (e_idx (mp_at hlt) (Pr.okc_enc _)) fun _ => d_call g1 (d_l _ (e_inc (by omega)) fun _ => d_cont rfl ⟨mm - 1, by omega, j + 1, r', by omega, g2, by omega, fun h3 => ?_, rfl⟩)
   obtain ⟨k1, k2⟩ := g4 h3
   have := pszs_take ks j hlt
   refine ⟨by omega, fun x hx' => ?_⟩
   rw [← List.take_append_getElem hlt] at hx'
   rcases List.mem_append.1 hx' with hx' | hx'
   ·exact e2 x hx'
   ·rw [List.mem_singleton.1 hx']; exact k2
  ·have h : ¬ (j : Int) < (ks.length : Int) := h
   refine d_ret ⟨r, rfl, r0, by omega, fun h3 => ?_⟩
   obtain ⟨e1, e2⟩ := r2 h3
   rw [List.take_of_length_le (by omega)] at e1 e2
   refine ⟨by simp only [Pr.sz]; omega, .mk _ (by have e : (Pr.mk k ch v ls ar t ks).t.sz = t.sz := rfl; omega) e2⟩)
 obtain ⟨_, ⟨r, rfl, hr⟩, h⟩ := this
 exact ⟨r, h, hr⟩
theorem ok_ref03_Few (p : Pr) (hlim : PLim p) (m : Int) (h0 : 0 ≤ m) (h1 : m ≤ 1099511627776) : ∃ b, Ok P F.ref03_Few [p.enc, i m] (.bool b) ∧ (b = true → (p.sz : Int) ≤ m ∧ pdep p ≤ 150 ∧ TB 300 p) := by
 obtain ⟨r, hr, r0, r1, r2⟩ := ok_ref03_left p m hlim h0 h1
 have := tx_ex (K := fun x => ∃ b, x = .bool b ∧ (b = true → (p.sz : Int) ≤ m ∧ pdep p ≤ 150 ∧ TB 300 p)) k_ref03_Few (xs := [p.enc, i m]) rfl (by simp [t_ref03_Few, T.dt]) (by
  refine d_l _ (e_okc (Pr.okc_enc p)) fun _ => d_call hr (d_l _ rfl fun _ => d_dec (fun h => ?_) fun h => d_ret ⟨false, rfl, fun h => by cases h⟩)
  have h : 0 ≤ r := h
  obtain ⟨e1, e2⟩ := r2 h
  refine d_call (ok_ref03_Depth p (by omega)) (d_l _ rfl fun _ => d_ret ⟨_, rfl, fun h2 => ⟨by omega, ?_, e2⟩⟩)
  have h2 : ((pdep p : Nat) : Int) ≤ 150 := of_decide_eq_true h2
  omega)
 obtain ⟨_, ⟨b, rfl, hb⟩, h⟩ := this
 exact ⟨b, h, hb⟩
end Go.Proofs.YtjekkidhbnkiaaaDoor.Tx

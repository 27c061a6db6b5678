/- Contracts: sizes and depths of processes and programs. -/
import Derived.Test.YtfmbddfenghnlaaGreatDoorWk60
set_option linter.all false
namespace Go.Proofs.YtfmbddfenghnlaaGreatDoor.Tx
open Go.Lf Go.Lf.S Go.Lf.Duo
set_option maxRecDepth 100000

theorem pszs_take (l : List Pr) (j : Nat) (h : j < l.length) : Pr.szs (l.take (j + 1)) = Pr.szs (l.take j) + Pr.sz l[j] := by
  induction l generalizing j with
  | nil => simp at h
  | cons x l ih =>
    cases j with
    | zero => simp [Pr.szs]
    | succ j => simp only [List.take_succ_cons, Pr.szs, List.getElem_cons_succ]; rw [ih j (by simpa using h)]; omega
theorem pszs_take_le (l : List Pr) (j : Nat) : Pr.szs (l.take j) ≤ Pr.szs l := by
  induction l generalizing j with
  | nil => simp
  | cons x l ih =>
    cases j with
    | zero => simp [Pr.szs]
    | succ j => simp only [List.take_succ_cons, Pr.szs]; have := ih j; omega

/-! the size -/

/-! the size with that of the types -/

mutual
def wgt : Pr → Nat
  | .mk k _ _ _ _ t ks => wgts ks + 1 + (if k = 6 then t.sz else 0)
def wgts : List Pr → Nat
  | [] => 0
  | p :: r => wgt p + wgts r
end
/-- types of bounded size -/
inductive TB (b : Nat) : Pr → Prop
  | mk (p : Pr) (h : p.t.sz ≤ b) (hk : ∀ k ∈ p.kids, TB b k) : TB b p
theorem TB.t {b : Nat} {p : Pr} (h : TB b p) : p.t.sz ≤ b := by cases h; assumption
theorem TB.kids {b : Nat} {p : Pr} (h : TB b p) : ∀ k ∈ p.kids, TB b k := by cases h; assumption
def stpWg (p : Pr) (n : Int) : Bool × Int := (true, n + 1 + (if p.kind = 6 then (p.t.sz : Int) else 0))
mutual
theorem all_wg : ∀ (p : Pr) (n : Int), allF stpWg p n = (true, n + (wgt p : Int))
  | .mk k c v ls ar t ks, n => by
    rw [allF]
    simp only [stpWg, if_true, any_wg ks, Bool.not_false, wgt, Pr.kind, Pr.t]
    congr 1
    split <;> omega
theorem any_wg : ∀ (l : List Pr) (n : Int), anyF stpWg l n = (false, n + (wgts l : Int))
  | [], n => by simp [anyF, wgts]
  | p :: r, n => by
    rw [anyF, all_wg p n]
    simp only [if_true, any_wg r, wgts]
    congr 1
    omega
end
theorem okS_weight_1 (p : Pr) (n : Int) (ht : p.t.sz ≤ 1099511627776) (h0 : -4611686018427387904 ≤ n) (h1 : n ≤ 4611686018427387904) : OkS P F.proctree_weight_1 sg_proctree_weight_1 [p.enc, i n] [.bool (stpWg p n).1, i (stpWg p n).2] := by
  have hs := ok_typetree_Size p.t ht
  obtain ⟨k, ch, v, ls, ar, t, ks⟩ := p
  rw [Pr.enc_mk]
  refine m_proctree_weight_1 _ _ (d_l (.agg [i k, .str ch, .str v, .sl (ls.map .str), .sl (ar.map Vl.enc), i t.kind, i t.prio, .str t.name, i t.shift, .sl (t.labels.map .str), .sl (t.kids.map Ty.enc), .sl (ks.map Pr.enc)]) rfl fun _ => d_l _ (e_add (by omega) (by omega)) fun _ => d_l (i (n + 1)) rfl fun _ => d_l _ rfl fun _ => d_dec (fun h => ?_) fun h => d_ret ?_)
  · have h : k = 6 := h
    rw [Ty.enc_cs] at hs
    simp only [Pr.t] at ht
    refine d_call hs (d_l _ (e_add (by omega) (by simp only [Pr.t]; omega)) fun _ => d_l (i (n + 1 + (t.sz : Int))) rfl fun _ => d_ret ?_)
    simp only [stpWg, Pr.kind, Pr.t, h, if_true]
  · have h : ¬ k = 6 := h
    have e : stpWg (.mk k ch v ls ar t ks) n = (true, n + 1) := by
      show (true, n + 1 + (if k = 6 then (t.sz : Int) else 0)) = _
      rw [if_neg h, Int.add_zero]
    rw [e]
mutual
theorem wgt_le {b : Nat} : ∀ p : Pr, TB b p → wgt p ≤ p.sz * (b + 1)
  | .mk k c v ls ar t ks, h => by
    have h1 := h.t
    have h2 := wgts_le ks h.kids
    simp only [Pr.t] at h1
    simp only [wgt, Pr.sz, Nat.add_mul, Nat.one_mul]
    split <;> omega
theorem wgts_le {b : Nat} : ∀ l : List Pr, (∀ k ∈ l, TB b k) → wgts l ≤ Pr.szs l * (b + 1)
  | [], _ => by simp [wgts, Pr.szs]
  | p :: r, h => by
    have h1 := wgt_le p (h p List.mem_cons_self)
    have h2 := wgts_le r fun k hk => h k (List.mem_cons_of_mem _ hk)
    simp only [wgts, Pr.szs, Nat.add_mul]
    omega
end
theorem ok_proctree_weight (p : Pr) (hz : p.sz ≤ 1048576) (ht : TB 1048576 p) : Ok P F.proctree_weight [p.enc] (i (wgt p)) := by
  have h := (all_ok (K := F.proctree_weight_1) (sgK := sg_proctree_weight_1) (m_proctree_all_Wg : TxOkS P F.proctree_all sg_proctree_all_Wg (gAll F.proctree_weight_1 sg_proctree_weight_1 F.slices_ContainsFunc_api_Proc_api_Proc sg_slices_ContainsFunc_api_Proc_api_Proc_Wg))
    (m_slices_ContainsFunc_api_Proc_api_Proc_Wg : TxOkS P _ _ (gCon F.slices_IndexFunc_api_Proc_api_Proc sg_slices_IndexFunc_api_Proc_api_Proc_Wg)) (m_slices_IndexFunc_api_Proc_api_Proc_Wg : TxOkS P _ _ (gIdx F.proctree_all_1 sg_proctree_all_1_Wg))
    (m_proctree_all_1_Wg : TxOkS P _ _ (gA1 F.proctree_all sg_proctree_all_Wg)) rfl rfl rfl rfl (stp := stpWg) (Q := TB 1048576) (B := 4611686018427387904) (D := 1048577) (by omega) (fun _ h => h.kids)
    (fun p n h a b => ⟨okS_weight_1 p n (by have := h.t; omega) a b, by have := h.t; simp only [stpWg]; split <;> omega, by have := h.t; simp only [stpWg]; split <;> omega⟩) p 0 ht (by omega) (by omega) (by omega)).1
  rw [all_wg] at h
  refine k_proctree_weight _ _ rfl (d_l _ (e_okc (Pr.okc_enc p)) fun _ => d_l (i 0) rfl fun _ => d_calls rfl h (d_ret ?_))
  show i (0 + (wgt p : Int)) = _
  rw [Int.zero_add]

/-! few nodes -/

def stpFw (_ : Pr) (n : Int) : Bool × Int := (decide (0 ≤ n - 1), n - 1)
mutual
theorem all_fw : ∀ (p : Pr) (n : Int), 0 ≤ n → ((allF stpFw p n).1 = true ↔ (p.sz : Int) ≤ n) ∧ ((allF stpFw p n).1 = true → (allF stpFw p n).2 = n - p.sz)
  | .mk k c v ls ar t ks, n, hn => by
    rw [allF]
    simp only [stpFw, Pr.sz, decide_eq_true_eq]
    split
    · rename_i h
      obtain ⟨h1, h2⟩ := any_fw ks (n - 1) h
      simp only [Bool.not_eq_true']
      refine ⟨⟨fun h3 => ?_, fun h3 => h1.2 (by omega)⟩, fun h3 => ?_⟩
      · have := h1.1 h3; omega
      · rw [h2 h3]; omega
    · rename_i h
      refine ⟨⟨(fun e => by cases e), fun e => by omega⟩, fun e => by cases e⟩
theorem any_fw : ∀ (l : List Pr) (n : Int), 0 ≤ n → ((anyF stpFw l n).1 = false ↔ (Pr.szs l : Int) ≤ n) ∧ ((anyF stpFw l n).1 = false → (anyF stpFw l n).2 = n - Pr.szs l)
  | [], n, hn => by simp [anyF, Pr.szs, hn]
  | p :: r, n, hn => by
    obtain ⟨h1, h2⟩ := all_fw p n hn
    rw [anyF]
    simp only [Pr.szs]
    split
    · rename_i h
      have e := h2 h
      have := h1.1 h
      obtain ⟨h3, h4⟩ := any_fw r (allF stpFw p n).2 (by omega)
      refine ⟨h3.trans ⟨fun _ => by omega, fun _ => by omega⟩, fun h5 => ?_⟩
      rw [h4 h5]; omega
    · rename_i h
      have h : ¬ ((allF stpFw p n).1 = true) := h
      rw [h1] at h
      exact ⟨⟨(fun e => by cases e), fun e => by omega⟩, fun e => by cases e⟩
end
theorem okS_few_1 (p : Pr) (n : Int) (h0 : -4611686018427387904 ≤ n) (h1 : n ≤ 4611686018427387904) : OkS P F.proctree_few_1 sg_proctree_few_1 [p.enc, i n] [.bool (stpFw p n).1, i (stpFw p n).2] :=
  m_proctree_few_1 _ _ (d_l _ (e_okc (Pr.okc_enc p)) fun _ => d_l _ (e_sub (by omega) (by omega)) fun _ => d_l (i (n - 1)) rfl fun _ => d_l _ rfl fun _ => d_ret rfl)
theorem ok_proctree_few (p : Pr) (m : Nat) (hz : p.sz ≤ 1099511627776) (hm : m ≤ 1099511627776) : Ok P F.proctree_few [p.enc, i (m : Int)] (.bool (decide (p.sz ≤ m))) := by
  have h := (all_ok (K := F.proctree_few_1) (sgK := sg_proctree_few_1) (m_proctree_all_Fw : TxOkS P F.proctree_all sg_proctree_all_Fw (gAll F.proctree_few_1 sg_proctree_few_1 F.slices_ContainsFunc_api_Proc_api_Proc sg_slices_ContainsFunc_api_Proc_api_Proc_Fw))
    (m_slices_ContainsFunc_api_Proc_api_Proc_Fw : TxOkS P _ _ (gCon F.slices_IndexFunc_api_Proc_api_Proc sg_slices_IndexFunc_api_Proc_api_Proc_Fw)) (m_slices_IndexFunc_api_Proc_api_Proc_Fw : TxOkS P _ _ (gIdx F.proctree_all_1 sg_proctree_all_1_Fw))
    (m_proctree_all_1_Fw : TxOkS P _ _ (gA1 F.proctree_all sg_proctree_all_Fw)) rfl rfl rfl rfl (stp := stpFw) (Q := fun _ => True) (B := 4611686018427387904) (D := 1) (by omega) (fun _ _ _ _ => trivial)
    (fun p n _ a b => ⟨okS_few_1 p n a b, by simp only [stpFw]; omega, by simp only [stpFw]; omega⟩) p m trivial hz (by omega) (by omega)).1
  refine k_proctree_few _ _ rfl (d_l _ (e_okc (Pr.okc_enc p)) fun _ => d_l (i (m : Int)) rfl fun _ => d_calls rfl h (d_ret ?_))
  show PV.bool (allF stpFw p (m : Int)).1 = _
  congr 1
  rw [Bool.eq_iff_iff, (all_fw p m (by omega)).1, decide_eq_true_iff]
  omega

/-! depths -/

mutual
def pdep : Pr → Nat
  | .mk _ _ _ _ _ _ ks => pdeps ks + 1
def pdeps : List Pr → Nat
  | [] => 0
  | k :: ks => max (pdep k) (pdeps ks)
end
theorem pdeps_take (l : List Pr) (j : Nat) (h : j < l.length) : pdeps (l.take (j + 1)) = max (pdeps (l.take j)) (pdep l[j]) := by
  induction l generalizing j with
  | nil => simp at h
  | cons x l ih =>
    cases j with
    | zero => simp [pdeps]
    | succ j => simp only [List.take_succ_cons, pdeps, List.getElem_cons_succ]; rw [ih j (by simpa using h)]; omega
mutual
theorem pdep_le : ∀ p : Pr, pdep p ≤ p.sz
  | .mk _ _ _ _ _ _ ks => by have := pdeps_le ks; simp only [pdep, Pr.sz]; omega
theorem pdeps_le : ∀ l : List Pr, pdeps l ≤ Pr.szs l
  | [] => by simp [pdeps, Pr.szs]
  | k :: ks => by have := pdep_le k; have := pdeps_le ks; simp only [pdeps, Pr.szs]; omega
end
theorem e_mxN {a b : Nat} : (Prim.mx .i64).ev [i (a : Int), i (b : Int)] = some (i ((max a b : Nat) : Int)) := by
  show some (i (if (b : Int) > (a : Int) then (b : Int) else (a : Int))) = _
  congr 2
  split <;> omega
theorem ok_ref03_Depth : ∀ p : Pr, p.sz ≤ 1099511627776 → Ok P F.ref03_Depth [p.enc] (i (pdep p)) := by
  intro p
  induction p using Pr.ind with
  | _ p ih =>
  obtain ⟨k, ch, v, ls, ar, t, ks⟩ := p
  intro hz
  simp only [Pr.sz] at hz
  have hlen := pr_len ks
  rw [Pr.enc_mk]
  refine k_ref03_Depth _ _ rfl (d_l (.agg [i k, .str ch, .str v, .sl (ls.map .str), .sl (ar.map Vl.enc), i t.kind, i t.prio, .str t.name, i t.shift, .sl (t.labels.map .str), .sl (t.kids.map Ty.enc), .sl (ks.map Pr.enc)]) rfl fun _ => ?_)
  refine den_rounds (fun j => [i j, i (pdeps (ks.take j))]) ks.length rfl (fun j hj => ?_) ?_
  · have hmem : ks[j] ∈ ks := List.getElem_mem hj
    have hs1 := Pr.szs_mem hmem
    refine d_l _ (len_eq ks) fun _ => d_l _ rfl fun _ => d_dec (fun h => ?_) fun h => absurd (show (j : Int) < (ks.length : Int) by omega) h
    refine d_l _ (e_idx (mp_at hj) (Pr.okc_enc _)) fun _ => d_call (ih _ hmem (by omega)) (d_l (i (pdeps (ks.take (j + 1)))) (by rw [pdeps_take ks j hj]; exact e_mxN) fun _ => d_l _ (e_inc (by omega)) fun _ => d_cont rfl rfl)
  · have hd := pdeps_le ks
    refine d_l _ (len_eq ks) fun _ => d_l _ rfl fun _ => d_dec (fun h => absurd (show (ks.length : Int) < (ks.length : Int) from h) (by omega)) fun _ => ?_
    rw [List.take_length]
    exact d_l _ (e_add (by omega) (by omega)) fun _ => d_ret (by simp only [pdep]; rfl)

theorem kIdxP : TxOk P F.slices_IndexFunc_api_Proc_api_Proc 2 (idxFT 12) := k_slices_IndexFunc_api_Proc_api_Proc
theorem kConP : TxOk P F.slices_ContainsFunc_api_Proc_api_Proc 2 (conFT F.slices_IndexFunc_api_Proc_api_Proc) := k_slices_ContainsFunc_api_Proc_api_Proc
theorem pdeps_le_iff (l : List Pr) (m : Nat) : pdeps l ≤ m ↔ ∀ t ∈ l, pdep t ≤ m := by
  induction l with
  | nil => simp [pdeps]
  | cons x l ih =>
    simp only [pdeps, List.mem_cons, forall_eq_or_imp, ← ih]
    omega
theorem ok_proctree_shallow : ∀ (p : Pr) (m : Nat), PLim p → m ≤ 1099511627776 → Ok P F.proctree_shallow [p.enc, i (m : Int)] (.bool (decide (pdep p ≤ m))) := by
  intro p
  induction p using Pr.ind with
  | _ p ih =>
  intro m hlim hm
  cases hlim with
  | mk _ _ _ _ _ _ _ _ hkl hkk =>
  obtain ⟨k, ch, v, ls, ar, t, ks⟩ := p
  rw [Pr.enc_mk]
  refine k_proctree_shallow _ _ rfl (d_l (.agg [i k, .str ch, .str v, .sl (ls.map .str), .sl (ar.map Vl.enc), i t.kind, i t.prio, .str t.name, i t.shift, .sl (t.labels.map .str), .sl (t.kids.map Ty.enc), .sl (ks.map Pr.enc)]) rfl fun _ => d_l (i (m : Int)) rfl fun _ => d_l _ rfl fun _ => d_dec (fun h => ?_) fun h => d_ret ?_)
  · have h : 0 < (m : Int) := h
    have hs : ∀ x ∈ ks, Ok P F.proctree_shallow_1 (x.enc :: [.box (i (m : Int))]) (.bool (!decide (pdep x ≤ m - 1))) := fun x hx => by
      refine k_proctree_shallow_1 _ _ rfl (d_l _ (e_okc (Pr.okc_enc x)) fun _ => d_l (i (m : Int)) rfl fun _ => d_l _ (e_sub (by omega) (by omega)) fun _ => d_call (r := .bool (decide (pdep x ≤ m - 1))) ?_ (d_l _ rfl fun _ => d_ret rfl))
      have := ih x hx (m - 1) (hkk x hx) (by omega)
      rwa [show ((m - 1 : Nat) : Int) = (m : Int) - 1 by omega] at this
    refine d_call (conF_ok kIdxP kConP Pr.okc_enc hkl hs) (d_l _ rfl fun _ => d_ret (congrArg PV.bool ?_))
    have e : pdep (Pr.mk k ch v ls ar t ks) = pdeps ks + 1 := by simp only [pdep]
    have h1 := pdeps_le_iff ks (m - 1)
    rw [e, Bool.eq_iff_iff, decide_eq_true_iff, Bool.not_eq_true', List.any_eq_false]
    constructor
    · intro h2
      have := h1.2 fun t ht => by have := h2 t ht; simpa using this
      omega
    · intro h2 t ht
      have := h1.1 (by omega) t ht
      simpa using this
  · have h : ¬ 0 < (m : Int) := h
    rw [decide_eq_false (by simp only [pdep]; omega)]

/-! processes with few nodes -/

theorem ok_ref03_left : ∀ (p : Pr) (m : Int), PLim p → 0 ≤ m → m ≤ 1099511627776 → ∃ r : Int, Ok P F.ref03_left [p.enc, i m] (i r) ∧ -1 ≤ r ∧ r ≤ m ∧ (0 ≤ r → r = m - p.sz ∧ TB 300 p) := by
  intro p
  induction p using Pr.ind with
  | _ p ih =>
  intro m hlim h0 h1
  obtain ⟨fb, hf, hf2⟩ : ∃ b, Ok P F.ref02_Few [p.t.enc, i 300] (.bool b) ∧ (b = true → (p.t.sz : Int) ≤ 300 ∧ dep p.t ≤ 150) := okx_ref02_Few p.t (by cases hlim; assumption) 300 (by omega) (by omega)
  have hlim' := hlim
  cases hlim' with
  | mk _ _ _ _ _ _ _ _ hkl hkk =>
  obtain ⟨k, ch, v, ls, ar, t, ks⟩ := p
  have hkl : ks.length ≤ 9223372036854775807 := hkl
  rw [Ty.enc_cs] at hf
  rw [Pr.enc_mk]
  have := tx_ex (K := fun x => ∃ r : Int, x = i r ∧ -1 ≤ r ∧ r ≤ m ∧ (0 ≤ r → r = m - ((Pr.mk k ch v ls ar t ks).sz : Int) ∧ TB 300 (.mk k ch v ls ar t ks))) k_ref03_left (xs := [.agg [i k, .str ch, .str v, .sl (ls.map .str), .sl (ar.map Vl.enc), i t.kind, i t.prio, .str t.name, i t.shift, .sl (t.labels.map .str), .sl (t.kids.map Ty.enc), .sl (ks.map Pr.enc)], i m]) rfl (by simp [t_ref03_left, T.dt]) (by
    refine d_l (.agg [i k, .str ch, .str v, .sl (ls.map .str), .sl (ar.map Vl.enc), i t.kind, i t.prio, .str t.name, i t.shift, .sl (t.labels.map .str), .sl (t.kids.map Ty.enc), .sl (ks.map Pr.enc)]) rfl fun _ => d_l _ (e_sub (by omega) (by omega)) fun _ => d_call hf (d_l (.bool !fb) rfl fun _ => d_ite (fun _ => d_ret ⟨-1, rfl, by omega, by omega, fun h => by omega⟩) fun hfb => ?_)
    have hft := (hf2 (by simpa using hfb)).1
    refine den_loop (fun mm ys => ∃ (j : Nat) (r : Int), j + mm = ks.length ∧ -1 ≤ r ∧ r ≤ m - 1 ∧ (0 ≤ r → r = m - 1 - Pr.szs (ks.take j) ∧ ∀ x ∈ ks.take j, TB 300 x) ∧ ys = [i j, i r]) ks.length ⟨0, m - 1, by omega, by omega, by omega, fun _ => ⟨by simp [Pr.szs], by simp⟩, rfl⟩ ?_
    rintro mm _ ⟨j, r, hj, r0, r1, r2, rfl⟩
    refine d_l _ (len_eq ks) fun _ => d_l _ rfl fun _ => d_dec (fun h => ?_) fun h => ?_
    · have hlt : j < ks.length := by have h : (j : Int) < (ks.length : Int) := h; omega
      have hx := List.getElem_mem hlt
      refine d_l _ rfl fun _ => d_dec (fun h2 => ?_) fun h2 => d_ret ⟨r, rfl, r0, by omega, fun h3 => absurd h3 h2⟩
      have h2 : 0 ≤ r := h2
      obtain ⟨e1, e2⟩ := r2 h2
      obtain ⟨r', g1, g2, g3, g4⟩ := ih _ hx r (hkk _ hx) h2 (by omega)
      refine d_l _ (e_idx (mp_at hlt) (Pr.okc_enc _)) fun _ => d_call g1 (d_l _ (e_inc (by omega)) fun _ => d_cont rfl ⟨mm - 1, by omega, j + 1, r', by omega, g2, by omega, fun h3 => ?_, rfl⟩)
      obtain ⟨k1, k2⟩ := g4 h3
      have := pszs_take ks j hlt
      refine ⟨by omega, fun x hx' => ?_⟩
      rw [← List.take_append_getElem hlt] at hx'
      rcases List.mem_append.1 hx' with hx' | hx'
      · exact e2 x hx'
      · rw [List.mem_singleton.1 hx']; exact k2
    · have h : ¬ (j : Int) < (ks.length : Int) := h
      refine d_ret ⟨r, rfl, r0, by omega, fun h3 => ?_⟩
      obtain ⟨e1, e2⟩ := r2 h3
      rw [List.take_of_length_le (by omega)] at e1 e2
      refine ⟨by simp only [Pr.sz]; omega, .mk _ (by have e : (Pr.mk k ch v ls ar t ks).t.sz = t.sz := rfl; omega) e2⟩)
  obtain ⟨_, ⟨r, rfl, hr⟩, h⟩ := this
  exact ⟨r, h, hr⟩

theorem ok_ref03_Few (p : Pr) (hlim : PLim p) (m : Int) (h0 : 0 ≤ m) (h1 : m ≤ 1099511627776) : ∃ b, Ok P F.ref03_Few [p.enc, i m] (.bool b) ∧ (b = true → (p.sz : Int) ≤ m ∧ pdep p ≤ 150 ∧ TB 300 p) := by
  obtain ⟨r, hr, r0, r1, r2⟩ := ok_ref03_left p m hlim h0 h1
  have := tx_ex (K := fun x => ∃ b, x = .bool b ∧ (b = true → (p.sz : Int) ≤ m ∧ pdep p ≤ 150 ∧ TB 300 p)) k_ref03_Few (xs := [p.enc, i m]) rfl (by simp [t_ref03_Few, T.dt]) (by
    refine d_l _ (e_okc (Pr.okc_enc p)) fun _ => d_call hr (d_l _ rfl fun _ => d_dec (fun h => ?_) fun h => d_ret ⟨false, rfl, fun h => by cases h⟩)
    have h : 0 ≤ r := h
    obtain ⟨e1, e2⟩ := r2 h
    refine d_call (ok_ref03_Depth p (by omega)) (d_l _ rfl fun _ => d_ret ⟨_, rfl, fun h2 => ⟨by omega, ?_, e2⟩⟩)
    have h2 : ((pdep p : Nat) : Int) ≤ 150 := of_decide_eq_true h2
    omega)
  obtain ⟨_, ⟨b, rfl, hb⟩, h⟩ := this
  exact ⟨b, h, hb⟩
theorem TB.weak {a b : Nat} (hab : a ≤ b) : ∀ {p : Pr}, TB a p → TB b p := by
  intro p
  induction p using Pr.ind with
  | _ p ih => exact fun h => .mk p (by have := h.t; omega) fun k hk => ih k hk (h.kids k hk)
end Go.Proofs.YtfmbddfenghnlaaGreatDoor.Tx

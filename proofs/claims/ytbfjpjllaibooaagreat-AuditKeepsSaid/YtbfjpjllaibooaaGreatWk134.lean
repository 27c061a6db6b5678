/- Contracts (Wk57, Wk60, Wk61, Wk131, Wk132, Wk133, Wk134). -/
import Derived.Test.YtbfjpjllaibooaaGreatWk56
import Derived.Test.YtbfjpjllaibooaaGreatLfD
set_option linter.all false
/- Contracts: right types, exactly, of the program and of the reference; few nodes. -/
namespace Go.Proofs.YtbfjpjllaibooaaGreat.Tx
open Go.Lf Go.Lf.S Go.Lf.Duo
set_option maxRecDepth 100000
theorem okx_ref02_node : ∀ (t : Ty), Lim t → ∀ (ns : List ByteArray) (g : Nat) (ses : Bool), ns.length + t.sz ≤ 1099511627776 →
    Ok P F.ref02_node [t.enc, .sl (ns.map .str), i g, .bool ses] (i (nodeE t ns g ses)) := by
  intro t
  induction t using Ty.ind with
  | _ t ih =>
  intro hlim ns g ses hz
  have hb := okx_ref02_shape t hlim
  have hse : Ok P F.ref02_Session [t.enc] (.bool (sesB t.kind)) := ok_ref02_Session t
  have hkl := szs_len t.kids
  cases hlim with
  | mk _ hn hl hll hkl' hkk =>
  obtain ⟨k, p, nm, s, ls, ks⟩ := t
  have hzk : ∀ x ∈ ks, x.sz < (Ty.mk k p nm s ls ks).sz := fun x hx => Ty.sz_kid hx
  simp only [Ty.kids] at ih hkl hkk
  have hks : ks.length ≤ 1099511627776 := by simp only [Ty.sz] at hz; omega
  have hns : ns.length ≤ 1099511627776 := by omega
  rw [Ty.enc_mk] at hb hse ⊢
  refine k_ref02_node _ _ rfl ?_
  refine d_l (.agg [.int .i64 k, .int .i64 p, .str nm, .int .i64 s, .sl (ls.map .str), .sl (ks.map Ty.enc)]) rfl fun _ => d_call hb (d_l _ rfl fun _ => d_ite (fun h => d_ret ?_) fun h => ?_)
  · have h : pb (shapeP (.mk k p nm s ls ks)) = false := by simpa using h
    rw [nodeE_3 (pb_false.1 h)]
  have hsh : shapeP (.mk k p nm s ls ks) := pb_iff.1 (by simpa using h)
  have hsh' := hsh
  simp only [shapeP, shP, Ty.kind, Ty.prio, Ty.shift, Ty.kids, Ty.labels, Ty.name] at hsh'
  refine d_ite (fun hs => d_call hse (d_l _ rfl fun _ => d_ite (fun h2 => d_ret ?_) fun h2 => ?_)) fun hs => ?_
  · rw [nodeE_3s hs (by simpa [Ty.kind] using h2)]
  all_goals
    have hs2 : ses = true → sesB k = true := by
      intro e
      first
        | exact (by simpa [Ty.kind] using h2)
        | exact (by rw [hs] at e; cases e)
    refine d_l _ rfl fun _ => d_dec (fun h9 => ?_) fun h9 => ?_
    · have h9 : k = 9 := h9
      rw [nodeE_9 hsh hs2 h9]
      refine d_l _ e_len fun _ => d_l _ (e_sub (by simp; omega) (by simp; omega)) fun _ => ?_
      refine den_loop (fun m ys => ∃ q : Int, q + 1 = m ∧ q < ns.length ∧ (∀ x : Nat, q < x → ns[x]? ≠ some nm) ∧ ys = [i q]) ns.length ⟨ns.length - 1, by omega, by omega, fun x hx => by rw [List.getElem?_eq_none (by omega)]; simp, by simp⟩ ?_
      rintro m _ ⟨q, hq1, hq2, hq3, rfl⟩
      refine d_l _ rfl fun _ => d_dec (fun h => ?_) fun h => d_ret ?_
      rotate_left
      · have h : ¬ (0 : Int) ≤ q := h
        rw [lastI_not fun x => hq3 x (by omega)]
      have h : (0 : Int) ≤ q := h
      obtain ⟨j, rfl⟩ : ∃ j : Nat, q = j := ⟨q.toNat, by omega⟩
      have hlt : j < ns.length := by omega
      refine d_l _ (e_idx (str_at hlt) rfl) fun _ => d_l _ rfl fun _ => d_dec (fun he => ?_) fun he => ?_
      · have he : ns[j] = nm := he
        have hli : lastI nm ns = some j := lastI_is (by rw [List.getElem?_eq_getElem hlt, he]) fun x hx => hq3 x (by omega)
        rw [hli]
        exact d_l _ rfl fun _ => d_dec (fun hg => d_ret (by have hg : (j : Int) < (g : Int) := hg; simp only []; rw [if_pos (by omega)])) fun hg => d_ret (by have hg : ¬ (j : Int) < (g : Int) := hg; simp only []; rw [if_neg (by omega)])
      · refine d_l _ (e_sub (by omega) (by omega)) fun _ => d_cont rfl ⟨m - 1, by omega, (j : Int) - 1, by omega, by omega, fun x hx => ?_, rfl⟩
        by_cases hxj : x = j
        · subst hxj; rw [List.getElem?_eq_getElem hlt]; intro e; exact he (Option.some.inj e)
        · exact hq3 x (by omega)
    · have h9 : ¬ k = 9 := h9
      rw [nodeE_o hsh hs2 h9]
      refine d_l _ rfl fun _ => d_dec (fun h8 => ?_) fun h8 => ?_
      · have h8 : k = 8 := h8
        rw [if_pos h8, if_pos h8]
        have hk1 : ks.length = 1 := by grind
        obtain ⟨x, rfl⟩ : ∃ x, ks = [x] := by
          match ks, hk1 with
          | [x], _ => exact ⟨x, rfl⟩
        have he := ih x (by simp) (hkk _ (by simp)) (ns ++ [nm]) g true (by have := hzk x (by simp); simp; omega)
        refine d_l x.enc (e_idx (k := 0) (l := [x].map Ty.enc) rfl (Ty.okc_enc _)) fun _ => d_l _ rfl fun _ => d_l _ (e_app (all_map okc_str _) (by simp; omega) (by simp; omega)) fun _ => d_l _ rfl fun _ => d_l _ (e_app (fun x hx => by simp at hx; subst hx; rfl) (by simp; omega) (by simp; omega)) fun _ => ?_
        rw [List.map_append] at he
        refine d_call he (d_ret ?_)
        have e2 : nodeEs [x] (decide (4 ≤ k ∧ k ≤ 5)) (ns ++ [nm]) g = nodeE x (ns ++ [nm]) g true := by
          rw [nodeEs_cons, nodeEs_nil, decide_eq_false (by omega)]
          simp only [Bool.not_false]
          split
          · rfl
          · rename_i h0; exact (Decidable.not_not.1 h0).symm
        rw [e2]
      · have h8 : ¬ k = 8 := h8
        rw [if_neg h8, if_neg h8]
        refine den_loop (fun m ys => ∃ j : Nat, j + m = ks.length ∧ nodeEs (ks.drop j) (if j = 0 then decide (4 ≤ k ∧ k ≤ 5) else false) ns ns.length = nodeEs ks (decide (4 ≤ k ∧ k ≤ 5)) ns ns.length ∧ ys = [i j]) ks.length ⟨0, by omega, by simp, rfl⟩ ?_
        rintro m _ ⟨j, hj, hE, rfl⟩
        refine d_l _ (len_eq ks) fun _ => d_l _ rfl fun _ => d_dec (fun h => ?_) fun h => d_ret ?_
        · have hlt : j < ks.length := by have h : (j : Int) < (ks.length : Int) := h; omega
          have hmem : ks[j] ∈ ks := List.getElem_mem hlt
          rw [nodeEs_drop hlt] at hE
          have fin : ∀ ses : Bool, ses = (!(if j = 0 then decide (4 ≤ k ∧ k ≤ 5) else false)) → (T.call F.ref02_node [ks[j].enc, .sl (ns.map .str), i (ns.length : Int), .bool ses] fun x20 =>
             .l (.cmp .neq .i64) [x20, (i 0)] fun x21 =>
             .ite x21 (.ret x20) (
              .l (.arith .add .i64) [i j, (i 1)] fun x22 =>
              .cont 0 [x22])).den0 P (· = i (nodeEs ks (decide (4 ≤ k ∧ k ≤ 5)) ns ns.length)) ([] ++ [fun zs => ∃ m', m' < m ∧ ∃ j : Nat, j + m' = ks.length ∧ nodeEs (ks.drop j) (if j = 0 then decide (4 ≤ k ∧ k ≤ 5) else false) ns ns.length = nodeEs ks (decide (4 ≤ k ∧ k ≤ 5)) ns ns.length ∧ zs = [i j]]) := by
            rintro ses rfl
            refine d_call (ih _ hmem (hkk _ hmem) ns ns.length _ (by have := hzk _ hmem; omega)) (d_l _ rfl fun _ => d_ndec (fun h0 => d_ret ?_) fun h0 => d_l _ (e_inc (by omega)) fun _ => d_cont rfl ⟨m - 1, by omega, j + 1, by omega, ?_, rfl⟩)
            · have h0 : ¬ nodeE ks[j] ns ns.length (!(if j = 0 then decide (4 ≤ k ∧ k ≤ 5) else false)) = 0 := h0
              rw [if_pos h0] at hE
              rw [← hE]
            · have h0 : nodeE ks[j] ns ns.length (!(if j = 0 then decide (4 ≤ k ∧ k ≤ 5) else false)) = 0 := h0
              rw [if_neg (fun e => e h0)] at hE
              rw [if_neg (by omega)]
              exact hE
          refine d_l _ (e_idx (mp_at hlt) (Ty.okc_enc _)) fun _ => d_l _ (len_eq ns) fun _ => d_l _ rfl fun _ => d_dec (fun h0 => fin true (by have h0 : 0 < (j : Int) := h0; rw [if_neg (by omega)]; rfl)) fun h0 => d_l (.bool (decide (5 < k))) rfl fun _ => fin _ ?_
          have h0 : ¬ 0 < (j : Int) := h0
          rw [if_pos (by omega)]
          have : ¬ (1 ≤ k ∧ k ≤ 3) := fun e => by
            have : ks.length = 0 := by grind
            omega
          have : 1 ≤ k := by grind
          rw [← decide_not]
          exact decide_eq_decide.2 ⟨fun e => by omega, fun e => by omega⟩
        · have h : ¬ (j : Int) < (ks.length : Int) := h
          rw [List.drop_eq_nil_of_le (by omega), nodeEs_nil] at hE
          rw [← hE]
noncomputable def rightE (t : Ty) : Int := if 100 < dep t ∨ 10000 < t.sz then 2 else nodeE t [] 0 false
theorem okx_ref02_Right (t : Ty) (hlim : Lim t) (hz : t.sz ≤ 1099511627776) : Ok P F.ref02_Right [t.enc] (i (rightE t)) := by
 have hd := ok_ref02_Depth t hz
 have hs := ok_ref02_Size t hz
 have he := okx_ref02_node t hlim [] 0 false (by simp; omega)
 refine k_ref02_Right _ _ rfl (d_l _ (e_okc (Ty.okc_enc t)) fun _ => d_call hd (d_l _ rfl fun _ => d_dec (fun h => d_ret ?_) fun h => d_call hs (d_l _ rfl fun _ => d_dec (fun h2 => d_ret ?_) fun h2 => d_call he (d_ret ?_))))
 ·have h : (100 : Int) < (dep t : Int) := h
  rw [rightE, if_pos (by omega)]
 ·have h2 : (10000 : Int) < (t.sz : Int) := h2
  rw [rightE, if_pos (by omega)]
 ·have h : ¬ (100 : Int) < (dep t : Int) := h
  have h2 : ¬ (10000 : Int) < (t.sz : Int) := h2
  rw [rightE, if_neg (by omega)]
theorem okx_ref02_Few (t : Ty) (hlim : Lim t) (m : Int) (h0 : 0 ≤ m) (h1 : m ≤ 549755813888) : ∃ b, Ok P F.ref02_Few [t.enc, i m] (.bool b) ∧ (b = true → (t.sz : Int) ≤ m ∧ dep t ≤ 150) := by
 have hc := ok_ref02_count t m hlim h0 (by omega)
 have hk := Ty.okc_enc t
 obtain ⟨c1, c2, c3⟩ := cnt_spec t m h0
 have := tx_ex (K := fun x => ∃ b, x = .bool b ∧ (b = true → (t.sz : Int) ≤ m ∧ dep t ≤ 150)) k_ref02_Few (xs := [t.enc, i m]) rfl (by simp [t_ref02_Few, T.dt]) (by
  refine d_l _ (e_okc hk) fun _ => d_call hc (d_l _ rfl fun _ => d_dec (fun h => ?_) fun h => d_ret ⟨false, rfl, fun h => by cases h⟩)
  have h : 0 ≤ cnt t m := h
  have hz := c3 h
  refine d_call (ok_ref02_Depth t (by omega)) (d_l _ rfl fun _ => d_ret ⟨_, rfl, fun h2 => ⟨by omega, ?_⟩⟩)
  have h2 : ((dep t : Nat) : Int) ≤ 150 := of_decide_eq_true h2
  omega)
 obtain ⟨_, ⟨b, rfl, hb⟩, h⟩ := this
 exact ⟨b, h, hb⟩
end Go.Proofs.YtbfjpjllaibooaaGreat.Tx
/- Contracts: a condition for all nodes of a process, with a number that is carried along; sizes, depths. -/
namespace Go.Proofs.YtbfjpjllaibooaaGreat.Tx
open Go.Lf Go.Lf.S Go.Lf.Duo
set_option maxRecDepth 100000
theorem pr_len (l : List Pr) : l.length ≤ Pr.szs l := by
 induction l with
 | nil => simp
 | cons x l ih => simp only [List.length_cons, Pr.szs]; have : 1 ≤ Pr.sz x := by { cases x; simp [Pr.sz] }; omega
section
variable (stp : Pr → Int → Bool × Int)
end
end Go.Proofs.YtbfjpjllaibooaaGreat.Tx
/- Contracts: sizes and depths of processes and programs. -/
namespace Go.Proofs.YtbfjpjllaibooaaGreat.Tx
open Go.Lf Go.Lf.S Go.Lf.Duo
set_option maxRecDepth 100000
theorem pszs_take (l : List Pr) (j : Nat) (h : j < l.length) : Pr.szs (l.take (j + 1)) = Pr.szs (l.take j) + Pr.sz l[j] := by
 induction l generalizing j with
 | nil => simp at h
 | cons x l ih =>
  cases j with
  | zero => simp [Pr.szs]
  | succ j => simp only [List.take_succ_cons, Pr.szs, List.getElem_cons_succ]; rw [ih j (by simpa using h)]; omega
theorem pszs_take_le (l : List Pr) (j : Nat) : Pr.szs (l.take j) ≤ Pr.szs l := by
 induction l generalizing j with
 | nil => simp
 | cons x l ih =>
  cases j with
  | zero => simp [Pr.szs]
  | succ j => simp only [List.take_succ_cons, Pr.szs]; have := ih j; omega
/-! the size -/
/-! the size with that of the types -/
mutual
def wgt : Pr → Nat
 | .mk k _ _ _ _ t ks => wgts ks + 1 + (if k = 6 then t.sz else 0)
def wgts : List Pr → Nat
 | [] => 0
 | p :: r => wgt p + wgts r
end
/-- types of bounded size -/
inductive TB (b : Nat) : Pr → Prop
 | mk (p : Pr) (h : p.t.sz ≤ b) (hk : ∀ k ∈ p.kids, TB b k) : TB b p
theorem TB.t {b : Nat} {p : Pr} (h : TB b p) : p.t.sz ≤ b := by cases h; assumption
theorem TB.kids {b : Nat} {p : Pr} (h : TB b p) : ∀ k ∈ p.kids, TB b k := by cases h; assumption
mutual
theorem wgt_le {b : Nat} : ∀ p : Pr, TB b p → wgt p ≤ p.sz * (b + 1)
 | .mk k c v ls ar t ks, h => by
  have h1 := h.t
  have h2 := wgts_le ks h.kids
  simp only [Pr.t] at h1
  simp only [wgt, Pr.sz, Nat.add_mul, Nat.one_mul]
  split <;> omega
theorem wgts_le {b : Nat} : ∀ l : List Pr, (∀ k ∈ l, TB b k) → wgts l ≤ Pr.szs l * (b + 1)
 | [], _ => by simp [wgts, Pr.szs]
 | p :: r, h => by
  have h1 := wgt_le p (h p List.mem_cons_self)
  have h2 := wgts_le r fun k hk => h k (List.mem_cons_of_mem _ hk)
  simp only [wgts, Pr.szs, Nat.add_mul]
  omega
end
/-! few nodes -/
/-! depths -/
mutual
def pdep : Pr → Nat
 | .mk _ _ _ _ _ _ ks => pdeps ks + 1
def pdeps : List Pr → Nat
 | [] => 0
 | k :: ks => max (pdep k) (pdeps ks)
end
theorem pdeps_take (l : List Pr) (j : Nat) (h : j < l.length) : pdeps (l.take (j + 1)) = max (pdeps (l.take j)) (pdep l[j]) := by
 induction l generalizing j with
 | nil => simp at h
 | cons x l ih =>
  cases j with
  | zero => simp [pdeps]
  | succ j => simp only [List.take_succ_cons, pdeps, List.getElem_cons_succ]; rw [ih j (by simpa using h)]; omega
mutual
theorem pdep_le : ∀ p : Pr, pdep p ≤ p.sz
 | .mk _ _ _ _ _ _ ks => by have := pdeps_le ks; simp only [pdep, Pr.sz]; omega
theorem pdeps_le : ∀ l : List Pr, pdeps l ≤ Pr.szs l
 | [] => by simp [pdeps, Pr.szs]
 | k :: ks => by have := pdep_le k; have := pdeps_le ks; simp only [pdeps, Pr.szs]; omega
end
theorem e_mxN {a b : Nat} : (Prim.mx .i64).ev [i (a : Int), i (b : Int)] = some (i ((max a b : Nat) : Int)) := by
 show some (i (if (b : Int) > (a : Int) then (b : Int) else (a : Int))) = _
 congr 2
 split <;> omega
theorem ok_ref03_Depth : ∀ p : Pr, p.sz ≤ 1099511627776 → Ok P F.ref03_Depth [p.enc] (i (pdep p)) := by
 intro p
 induction p using Pr.ind with
 | _ p ih =>
 obtain ⟨k, ch, v, ls, ar, t, ks⟩ := p
 intro hz
 simp only [Pr.sz] at hz
 have hlen := pr_len ks
 rw [Pr.enc_mk]
 refine k_ref03_Depth _ _ rfl (d_l (.agg [i k, .str ch, .str v, .sl (ls.map .str), .sl (ar.map Vl.enc), i t.kind, i t.prio, .str t.name, i t.shift, .sl (t.labels.map .str), .sl (t.kids.map Ty.enc), .sl (ks.map Pr.enc)]) rfl fun _ => ?_)
 refine den_rounds (fun j => [i j, i (pdeps (ks.take j))]) ks.length rfl (fun j hj => ?_) ?_
 ·have hmem : ks[j] ∈ ks := List.getElem_mem hj
  have hs1 := Pr.szs_mem hmem
  refine d_l _ (len_eq ks) fun _ => d_l _ rfl fun _ => d_dec (fun h => ?_) fun h => absurd (show (j : Int) < (ks.length : Int) by omega) h
  refine d_l _ (e_idx (mp_at hj) (Pr.okc_enc _)) fun _ => d_call (ih _ hmem (by omega)) (d_l (i (pdeps (ks.take (j + 1)))) (by rw [pdeps_take ks j hj]; exact e_mxN) fun _ => d_l _ (e_inc (by omega)) fun _ => d_cont rfl rfl)
 ·have hd := pdeps_le ks
  refine d_l _ (len_eq ks) fun _ => d_l _ rfl fun _ => d_dec (fun h => absurd (show (ks.length : Int) < (ks.length : Int) from h) (by omega)) fun _ => ?_
  rw [List.take_length]
  exact d_l _ (e_add (by omega) (by omega)) fun _ => d_ret (by simp only [pdep]; rfl)
/-! processes with few nodes -/
theorem ok_ref03_left : ∀ (p : Pr) (m : Int), PLim p → 0 ≤ m → m ≤ 1099511627776 → ∃ r : Int, Ok P F.ref03_left [p.enc, i m] (i r) ∧ -1 ≤ r ∧ r ≤ m ∧ (0 ≤ r → r = m - p.sz ∧ TB 300 p) := by
 intro p
 induction p using Pr.ind with
 | _ p ih =>
 intro m hlim h0 h1
 obtain ⟨fb, hf, hf2⟩ : ∃ b, Ok P F.ref02_Few [p.t.enc, i 300] (.bool b) ∧ (b = true → (p.t.sz : Int) ≤ 300 ∧ dep p.t ≤ 150) := okx_ref02_Few p.t (by cases hlim; assumption) 300 (by omega) (by omega)
 have hlim' := hlim
 cases hlim' with
 | mk _ _ _ _ _ _ _ _ hkl hkk =>
 obtain ⟨k, ch, v, ls, ar, t, ks⟩ := p
 have hkl : ks.length ≤ 9223372036854775807 := hkl
 rw [Ty.enc_cs] at hf
 rw [Pr.enc_mk]
 have := tx_ex (K := fun x => ∃ r : Int, x = i r ∧ -1 ≤ r ∧ r ≤ m ∧ (0 ≤ r → r = m - ((Pr.mk k ch v ls ar t ks).sz : Int) ∧ TB 300 (.mk k ch v ls ar t ks))) k_ref03_left (xs := [.agg [i k, .str ch, .str v, .sl (ls.map .str), .sl (ar.map Vl.enc), i t.kind, i t.prio, .str t.name, i t.shift, .sl (t.labels.map .str), .sl (t.kids.map Ty.enc), .sl (ks.map Pr.enc)], i m]) rfl (by simp [t_ref03_left, T.dt]) (by
  refine d_l (.agg [i k, .str ch, .str v, .sl (ls.map .str), .sl (ar.map Vl.enc), i t.kind, i t.prio, .str t.name, i t.shift, .sl (t.labels.map .str), .sl (t.kids.map Ty.enc), .sl (ks.map Pr.enc)]) rfl fun _ => d_l _ (e_sub (by omega) (by omega)) fun _ => d_call hf (d_l (.bool !fb) rfl fun _ => d_ite (fun _ => d_ret ⟨-1, rfl, by omega, by omega, fun h => by omega⟩) fun hfb => ?_)
  have hft := (hf2 (by simpa using hfb)).1
  refine den_loop (fun mm ys => ∃ (j : Nat) (r : Int), j + mm = ks.length ∧ -1 ≤ r ∧ r ≤ m - 1 ∧ (0 ≤ r → r = m - 1 - Pr.szs (ks.take j) ∧ ∀ x ∈ ks.take j, TB 300 x) ∧ ys = [i j, i r]) ks.length ⟨0, m - 1, by omega, by omega, by omega, fun _ => ⟨by simp [Pr.szs], by simp⟩, rfl⟩ ?_
  rintro mm _ ⟨j, r, hj, r0, r1, r2, rfl⟩
  refine d_l _ (len_eq ks) fun _ => d_l _ rfl fun _ => d_dec (fun h => ?_) fun h => ?_
  ·have hlt : j < ks.length := by have h : (j : Int) < (ks.length : Int) := h; omega
   have hx := List.getElem_mem hlt
   refine d_l _ rfl fun _ => d_dec (fun h2 => ?_) fun h2 => d_ret ⟨r, rfl, r0, by omega, fun h3 => absurd h3 h2⟩
   have h2 : 0 ≤ r := h2
   obtain ⟨e1, e2⟩ := r2 h2
   obtain ⟨r', g1, g2, g3, g4⟩ := ih _ hx r (hkk _ hx) h2 (by omega)
   refine d_l _ (e_idx (mp_at hlt) (Pr.okc_enc _)) fun _ => d_call g1 (d_l _ (e_inc (by omega)) fun _ => d_cont rfl ⟨mm - 1, by omega, j + 1, r', by omega, g2, by omega, fun h3 => ?_, rfl⟩)
   obtain ⟨k1, k2⟩ := g4 h3
   have := pszs_take ks j hlt
   refine ⟨by omega, fun x hx' => ?_⟩
   rw [← List.take_append_getElem hlt] at hx'
   rcases List.mem_append.1 hx' with hx' | hx'
   ·exact e2 x hx'
   ·rw [List.mem_singleton.1 hx']; exact k2
  ·have h : ¬ (j : Int) < (ks.length : Int) := h
   refine d_ret ⟨r, rfl, r0, by omega, fun h3 => ?_⟩
   obtain ⟨e1, e2⟩ := r2 h3
   rw [List.take_of_length_le (by omega)] at e1 e2
   refine ⟨by simp only [Pr.sz]; omega, .mk _ (by have e : (Pr.mk k ch v ls ar t ks).t.sz = t.sz := rfl; omega) e2⟩)
 obtain ⟨_, ⟨r, rfl, hr⟩, h⟩ := this
 exact ⟨r, h, hr⟩
theorem ok_ref03_Few (p : Pr) (hlim : PLim p) (m : Int) (h0 : 0 ≤ m) (h1 : m ≤ 1099511627776) : ∃ b, Ok P F.ref03_Few [p.enc, i m] (.bool b) ∧ (b = true → (p.sz : Int) ≤ m ∧ pdep p ≤ 150 ∧ TB 300 p) := by
 obtain ⟨r, hr, r0, r1, r2⟩ := ok_ref03_left p m hlim h0 h1
 have := tx_ex (K := fun x => ∃ b, x = .bool b ∧ (b = true → (p.sz : Int) ≤ m ∧ pdep p ≤ 150 ∧ TB 300 p)) k_ref03_Few (xs := [p.enc, i m]) rfl (by simp [t_ref03_Few, T.dt]) (by
  refine d_l _ (e_okc (Pr.okc_enc p)) fun _ => d_call hr (d_l _ rfl fun _ => d_dec (fun h => ?_) fun h => d_ret ⟨false, rfl, fun h => by cases h⟩)
  have h : 0 ≤ r := h
  obtain ⟨e1, e2⟩ := r2 h
  refine d_call (ok_ref03_Depth p (by omega)) (d_l _ rfl fun _ => d_ret ⟨_, rfl, fun h2 => ⟨by omega, ?_, e2⟩⟩)
  have h2 : ((pdep p : Nat) : Int) ≤ 150 := of_decide_eq_true h2
  omega)
 obtain ⟨_, ⟨b, rfl, hb⟩, h⟩ := this
 exact ⟨b, h, hb⟩
theorem TB.weak {a b : Nat} (hab : a ≤ b) : ∀ {p : Pr}, TB a p → TB b p := by
 intro p
 induction p using Pr.ind with
 | _ p ih => exact fun h => .mk p (by have := h.t; omega) fun k hk => ih k hk (h.kids k hk)
end Go.Proofs.YtbfjpjllaibooaaGreat.Tx
/- The package scope: what is collected of all nodes: calls, binders. -/
namespace Go.Proofs.YtbfjpjllaibooaaGreat.Tx
open Go.Lf Go.Lf.S Go.Lf.Duo
set_option maxRecDepth 100000
mutual
def coll (f : Int → ByteArray → ByteArray → List ByteArray) : Pr → List ByteArray
 | .mk k ch v _ _ _ ks => f k ch v ++ colls f ks
def colls (f : Int → ByteArray → ByteArray → List ByteArray) : List Pr → List ByteArray
 | [] => []
 | p :: r => coll f p ++ colls f r
end
def callF (k : Int) (ch _v : ByteArray) : List ByteArray := if k = 8 then [ch] else []
theorem colls_take (f : Int → ByteArray → ByteArray → List ByteArray) : ∀ (l : List Pr) (j : Nat) (h : j < l.length), colls f (l.take (j + 1)) = colls f (l.take j) ++ coll f l[j]
 | x :: l, 0, _ => by simp [colls]
 | x :: l, j + 1, h => by
  have := colls_take f l j (by simpa using h)
  simp only [List.take_succ_cons, colls, List.getElem_cons_succ, this, List.append_assoc]
mutual
theorem coll_len {f : Int → ByteArray → ByteArray → List ByteArray} (hf : ∀ k a b, (f k a b).length ≤ 2) : ∀ p : Pr, (coll f p).length ≤ 2 * p.sz
 | .mk k ch v _ _ _ ks => by
  have h1 := hf k ch v
  have h2 := colls_len hf ks
  simp only [coll, Pr.sz, List.length_append]; omega
theorem colls_len {f : Int → ByteArray → ByteArray → List ByteArray} (hf : ∀ k a b, (f k a b).length ≤ 2) : ∀ l : List Pr, (colls f l).length ≤ 2 * Pr.szs l
 | [] => by simp [colls]
 | p :: r => by
  have h1 := coll_len hf p
  have h2 := colls_len hf r
  simp only [colls, Pr.szs, List.length_append]; omega
end
theorem call_le (k : Int) (a b : ByteArray) : (callF k a b).length ≤ 2 := by unfold callF; split <;> simp
theorem app_str {l m : List ByteArray} (h : l.length + m.length ≤ 8796093022208) : (Prim.app 1 false 16).ev [.sl (l.map .str), .sl (m.map .str)] = some (.sl ((l ++ m).map .str)) := by
 rw [e_app (all_map okc_str m) (by simp; omega) (by simp; omega), List.map_append]
theorem okS_collect_1 {f : Int → ByteArray → ByteArray → List ByteArray} (hf : ∀ k a b, (f k a b).length ≤ 2) {g : Nat} (hg : ∀ p : Pr, Ok P g [p.enc] (.sl ((f p.kind p.chan p.var).map .str))) :
  ∀ (p : Pr) (out : List ByteArray), out.length + 2 * p.sz ≤ 8796093022208 → OkS P F.scope_collect_1 sg_scope_collect_1 [p.enc, .fn g [] [], .sl (out.map .str)] [.tup [], .fn g [] [], .sl ((out ++ coll f p).map .str)] := by
 intro p
 induction p using Pr.ind with
 | _ p ih =>
 intro out hz
 have hgp := hg p
 obtain ⟨k, ch, v, ls, ar, t, ks⟩ := p
 simp only [Pr.sz] at hz
 have hlen := pr_len ks
 have h1 := hf k ch v
 have ih : ∀ x ∈ ks, ∀ (out : List ByteArray), out.length + 2 * x.sz ≤ 8796093022208 → OkS P F.scope_collect_1 sg_scope_collect_1 [x.enc, .fn g [] [], .sl (out.map .str)] [.tup [], .fn g [] [], .sl ((out ++ coll f x).map .str)] := ih
 rw [Pr.enc_mk] at hgp ⊢
 have hgp : Ok P g _ (.sl ((f k ch v).map .str)) := hgp
 refine m_scope_collect_1 _ _ (d_l (.agg [i k, .str ch, .str v, .sl (ls.map .str), .sl (ar.map Vl.enc), i t.kind, i t.prio, .str t.name, i t.shift, .sl (t.labels.map .str), .sl (t.kids.map Ty.enc), .sl (ks.map Pr.enc)]) rfl fun _ => d_callv (fs := []) (cs := []) hgp (d_l _ (app_str (by omega)) fun _ => d_l _ (len_eq ks) fun _ => ?_))
 refine den_rounds (fun j => [i j, .sl ((out ++ f k ch v ++ colls f (ks.take j)).map .str), .fn g [] []]) ks.length (by simp [colls]) (fun j hj => ?_) ?_
 ·have hmem : ks[j] ∈ ks := List.getElem_mem hj
  have hs1 := Pr.szs_mem hmem
  have hs2 := pszs_take ks j hj
  have hs3 := pszs_take_le ks (j + 1)
  have hc := colls_len hf (ks.take j)
  refine d_l (.bool (decide ((j : Int) < (ks.length : Int)))) rfl fun _ => d_dec (p := (j : Int) < (ks.length : Int)) (fun h => ?_) fun h => absurd (show (j : Int) < (ks.length : Int) by omega) h
  refine d_l _ (e_idx (mp_at (f := Pr.enc) hj) (Pr.okc_enc _)) fun _ => d_l _ (e_okc (Pr.okc_enc _)) fun _ => d_calls rfl (ih _ hmem (out ++ f k ch v ++ colls f (ks.take j)) (by simp only [List.length_append]; omega)) (d_l _ (e_inc (by omega)) fun _ => d_cont rfl ?_)
  rw [colls_take f ks j hj]
  simp only [n, List.getD_cons_zero, List.getD_cons_succ, List.append_assoc]
 ·refine d_l (.bool (decide ((ks.length : Int) < (ks.length : Int)))) rfl fun _ => d_dec (p := (ks.length : Int) < (ks.length : Int)) (fun h => by omega) fun _ => d_ret ?_
  rw [List.take_length]
  simp only [coll, List.append_assoc]
  rfl
theorem ok_collect {f : Int → ByteArray → ByteArray → List ByteArray} (hf : ∀ k a b, (f k a b).length ≤ 2) {g : Nat} (hg : ∀ p : Pr, Ok P g [p.enc] (.sl ((f p.kind p.chan p.var).map .str))) (p : Pr) (hz : p.sz ≤ 1099511627776) :
  Ok P F.scope_collect [p.enc, .fn g [] []] (.sl ((coll f p).map .str)) :=
 k_scope_collect _ _ rfl (d_l _ (e_okc (Pr.okc_enc p)) fun _ => d_l (.fn g [] []) rfl fun _ => d_calls rfl (okS_collect_1 hf hg p [] (by simp; omega)) (d_ret (by simp [n])))
theorem ok_Calls_1 (p : Pr) : Ok P F.scope_Calls_1 [p.enc] (.sl ((callF p.kind p.chan p.var).map .str)) := by
 obtain ⟨k, ch, v, ls, ar, t, ks⟩ := p
 rw [Pr.enc_mk]
 show Ok P F.scope_Calls_1 _ (.sl ((callF k ch v).map .str))
 refine k_scope_Calls_1 _ _ rfl (d_l (.agg [i k, .str ch, .str v, .sl (ls.map .str), .sl (ar.map Vl.enc), i t.kind, i t.prio, .str t.name, i t.shift, .sl (t.labels.map .str), .sl (t.kids.map Ty.enc), .sl (ks.map Pr.enc)]) rfl fun _ => d_l (.bool (decide (k = 8))) rfl fun _ => d_dec (p := k = 8) (fun h => d_l (.sl [.str ch]) rfl fun _ => d_ret ?_) fun h => d_ret ?_)
 ·unfold callF; rw [if_pos h]; rfl
 ·unfold callF; rw [if_neg h]; rfl
theorem ok_scope_Calls (p : Pr) (hz : p.sz ≤ 1099511627776) : Ok P F.scope_Calls [p.enc] (.sl ((coll callF p).map .str)) :=
 k_scope_Calls _ _ rfl (d_l _ (e_okc (Pr.okc_enc p)) fun _ => d_call (ok_collect call_le ok_Calls_1 p hz) (d_ret rfl))
end Go.Proofs.YtbfjpjllaibooaaGreat.Tx
/- The package audit: what is called, directly or not. -/
namespace Go.Proofs.YtbfjpjllaibooaaGreat.Tx
open Go.Lf Go.Lf.S Go.Lf.Duo
set_option maxRecDepth 100000
/-- a map from names to lists of names -/
def mpC (K : List ByteArray) (V : List (List ByteArray)) : PV := .mp (K.map .str) (V.map fun l : List ByteArray => PV.sl (l.map PV.str))
def gk (K : List ByteArray) (V : List (List ByteArray)) (s : ByteArray) : List ByteArray := match idxS s K 0 with
 | some j => (V[j]?).getD []
 | none => []
theorem e_mgetC {K : List ByteArray} {V : List (List ByteArray)} (h : K.length = V.length) {s : ByteArray} : (Prim.mget false [.s] (.sl [])).ev [mpC K V, .str s] = some (.sl ((gk K V s).map .str)) := by
 show (match PV.kfind false [.s] (.str s) (K.map .str) with
  | some (some i) => (V.map fun l : List ByteArray => PV.sl (l.map PV.str))[i]?
  | some none => some (.sl [])
  | none => none) = _
 rw [kfind_str]
 unfold gk
 cases e : idxS s K 0 with
 | none => rfl
 | some j =>
  obtain ⟨_, h2, _⟩ := idxS_some e
  have := (List.getElem?_eq_some_iff.1 h2).1
  have hj : j < V.length := by omega
  simp only [List.getElem?_map, List.getElem?_eq_getElem hj, Option.map_some, Option.getD_some]
def updC (K : List ByteArray) (V : List (List ByteArray)) (s : ByteArray) (l : List ByteArray) : List ByteArray × List (List ByteArray) := match idxS s K 0 with
 | some j => (K, V.set j l)
 | none => (K ++ [s], V ++ [l])
theorem e_msetC {K : List ByteArray} {V : List (List ByteArray)} {s : ByteArray} {l : List ByteArray} : (Prim.mset false [.s]).ev [mpC K V, .str s, .sl (l.map .str)] = some (mpC (updC K V s l).1 (updC K V s l).2) := by
 show (match PV.kfind false [.s] (.str s) (K.map .str) with
  | some (some i) => some (PV.mp ((K.map PV.str).set i (.str s)) ((V.map fun l : List ByteArray => PV.sl (l.map PV.str)).set i (.sl (l.map .str))))
  | some none => some (PV.mp (K.map PV.str ++ [PV.str s]) ((V.map fun l : List ByteArray => PV.sl (l.map PV.str)) ++ [PV.sl (l.map .str)]))
  | none => none) = _
 rw [kfind_str]
 unfold updC
 cases e : idxS s K 0 with
 | none => simp [mpC]
 | some j =>
  obtain ⟨_, h2, _⟩ := idxS_some e
  have h2 : K[j]? = some s := h2
  simp only [mpC]
  rw [set_same51 (by simp [h2]), List.map_set]
theorem updC_len {K : List ByteArray} {V : List (List ByteArray)} {s : ByteArray} {l : List ByteArray} (h : K.length = V.length) : (updC K V s l).1.length = (updC K V s l).2.length := by
 unfold updC; split <;> simp [h]
theorem idxS_snoc {s t : ByteArray} : ∀ {ls : List ByteArray} {n : Nat}, idxS t (ls ++ [s]) n = match idxS t ls n with
  | some j => some j
  | none => if t = s then some (n + ls.length) else none
 | [], n => by simp [idxS]
 | x :: r, n => by
  simp only [List.cons_append, idxS]
  by_cases e : t = x
  ·simp [e]
  ·simp only [if_neg e]
   rw [idxS_snoc]
   cases idxS t r (n + 1) with
   | some j => rfl
   | none => simp only [List.length_cons]; split <;> (try rfl); congr 1; omega
theorem gk_upd {K : List ByteArray} {V : List (List ByteArray)} {s : ByteArray} {l : List ByteArray} (h : K.length = V.length) (t : ByteArray) : gk (updC K V s l).1 (updC K V s l).2 t = if t = s then l else gk K V t := by
 unfold updC
 cases e : idxS s K 0 with
 | some j =>
  obtain ⟨_, h2, h3⟩ := idxS_some e
  have hj := (List.getElem?_eq_some_iff.1 h2).1
  by_cases c : t = s
  ·subst c
   simp only [gk, e, if_true]
   rw [List.getElem?_set_self (by omega)]; rfl
  ·simp only [gk, if_neg c]
   cases e2 : idxS t K 0 with
   | none => rfl
   | some k =>
    obtain ⟨_, g2, _⟩ := idxS_some e2
    have : k ≠ j := fun h => by
     subst h
     have h2 : K[k]? = some s := h2
     have g2 : K[k]? = some t := g2
     rw [g2] at h2; exact c (Option.some.inj h2)
    simp only
    rw [List.getElem?_set_ne (by omega)]
 | none =>
  simp only [gk, idxS_snoc]
  by_cases c : t = s
  ·subst c
   simp only [e, if_true]
   rw [List.getElem?_append_right (by omega)]
   simp [h]
  ·cases e2 : idxS t K 0 with
   | none => simp only [if_neg c]
   | some k =>
    obtain ⟨_, g2, _⟩ := idxS_some e2
    have hk := (List.getElem?_eq_some_iff.1 g2).1
    simp only [if_neg c]
    rw [List.getElem?_append_left (by omega)]
/-- reached by calls -/
inductive Rc (g : ByteArray → List ByteArray) (l : List ByteArray) : ByteArray → Prop
 | base {x : ByteArray} (h : x ∈ l) : Rc g l x
 | step {x y : ByteArray} (h : Rc g l x) (hy : y ∈ g x) : Rc g l y
theorem Rc.sub {g : ByteArray → List ByteArray} {l : List ByteArray} {s x : ByteArray} (hs : Rc g l s) (h : Rc g (g s) x) : Rc g l x := by
 induction h with
 | base h => exact .step hs h
 | step h hy ih => exact .step ih hy
theorem nodup_leV {α : Type} : ∀ {l U : List α}, l.Nodup → (∀ x ∈ l, x ∈ U) → l.length ≤ U.length
 | [], _, _, _ => by simp
 | a :: l, U, hn, h => by
  obtain ⟨s, t, rfl⟩ := List.append_of_mem (h a List.mem_cons_self)
  rw [List.nodup_cons] at hn
  have := nodup_leV (l := l) (U := s ++ t) hn.2 fun x hx => by
   have := h x (List.mem_cons_of_mem _ hx)
   simp only [List.mem_append, List.mem_cons] at this ⊢
   rcases this with h | rfl | h
   ·exact .inl h
   ·exact absurd hx hn.1
   ·exact .inr h
  simp only [List.length_append, List.length_cons] at this ⊢
  omega
theorem tx_exS27 {f : Nat} {sg : Sig} {t : List PV → T PV} (h : TxOkS P f sg t) {K : List PV → Prop} {xs : List PV} (hd : (t xs).dt) (hden : (t xs).den0 P (fun r => ∃ ys, r = .tup ys ∧ K ys) []) : ∃ ys, K ys ∧ OkS P f sg xs ys := by
 obtain ⟨r, ⟨ys, rfl, hk⟩, h1⟩ := den_ex (t xs) hd [] (fun _ => []) (fun _ => rfl) (fun j g ys h => by simp at h) hden
 exact ⟨ys, hk, h xs ys h1⟩
theorem ok_visit {K : List ByteArray} {V : List (List ByteArray)} (hKV : K.length = V.length) {U : List ByteArray} (hb : ∀ s, (gk K V s).length ≤ 549755813888) (hU : ∀ s, ∀ x ∈ gk K V s, x ∈ U) :
  ∀ (m : Nat) (l S : List ByteArray), l.length ≤ 549755813888 → (∀ x ∈ l, x ∈ U) → S.Nodup → (∀ x ∈ S, x ∈ U) → U.length ≤ m + S.length →
  ∃ S', OkS P F.audit_closure_1 sg_audit_closure_1 [.sl (l.map .str), setV S, mpC K V] [.tup [], setV S', mpC K V] ∧ S'.Nodup ∧ (∀ x ∈ S', x ∈ U) ∧ (∀ x ∈ S, x ∈ S') ∧ (∀ x ∈ l, x ∈ S') ∧
   ∀ x ∈ S', x ∉ S → (∀ y ∈ gk K V x, y ∈ S') ∧ Rc (gk K V) l x := by
 intro m
 induction m using Nat.strongRecOn with
 | _ m ih =>
 intro l S hl hlU hn hSU hm
 have := tx_exS27 m_audit_closure_1 (K := fun ys => ∃ S', S'.Nodup ∧ (∀ x ∈ S', x ∈ U) ∧ (∀ x ∈ S, x ∈ S') ∧ (∀ x ∈ l, x ∈ S') ∧ (∀ x ∈ S', x ∉ S → (∀ y ∈ gk K V x, y ∈ S') ∧ Rc (gk K V) l x) ∧ ys = [.tup [], setV S', mpC K V])
  (xs := [.sl (l.map .str), setV S, mpC K V]) (by simp [u_audit_closure_1, T.dt]) (by
  refine d_l _ (len_eq l) fun _ => ?_
  refine den_loop (fun m' ys => ∃ (j : Nat) (S2 : List ByteArray), j + m' = l.length ∧ S2.Nodup ∧ (∀ x ∈ S2, x ∈ U) ∧ (∀ x ∈ S, x ∈ S2) ∧ (∀ x ∈ l.take j, x ∈ S2) ∧ (∀ x ∈ S2, x ∉ S → (∀ y ∈ gk K V x, y ∈ S2) ∧ Rc (gk K V) l x) ∧ ys = [i j, setV S2, mpC K V]) l.length
   ⟨0, S, by omega, hn, hSU, fun _ h => h, by simp, fun x h1 h2 => absurd h1 h2, rfl⟩ ?_
  rintro m' _ ⟨j, S2, hj, n2, u2, s2, t2, c2, rfl⟩
  refine d_l (.bool (decide ((j : Int) < (l.length : Int)))) rfl fun _ => d_dec (p := (j : Int) < (l.length : Int)) (fun h => ?_) fun h => d_ret ⟨_, rfl, S2, n2, u2, s2, ?_, c2, rfl⟩
  ·have hjl : j < l.length := by omega
   have htk : l.take (j + 1) = l.take j ++ [l[j]] := List.take_succ_eq_append_getElem hjl
   have hsl : l[j] ∈ l := List.getElem_mem hjl
   have hix := e_idx (n := 1) (a := false) (mp_at (f := PV.str) hjl) rfl
   generalize l[j] = s at *
   refine d_l _ hix fun _ => d_l _ e_mgetS fun _ => d_l (.bool (!pb (s ∈ S2))) rfl fun _ => d_ite (fun hs => ?_) fun hs => ?_
   ·have hno : s ∉ S2 := pb_false.1 (by simpa using hs)
    have e3 : addS s S2 = S2 ++ [s] := addS_new hno
    have n3 : (addS s S2).Nodup := by
     rw [e3, List.nodup_append]
     exact ⟨n2, by simp, fun a ha b hb e => by simp at hb; subst hb; subst e; exact hno ha⟩
    have u3 : ∀ x ∈ addS s S2, x ∈ U := fun x hx => (mem_addS.1 hx).elim (u2 x) fun e => e ▸ hlU s hsl
    have l3 := nodup_leV n3 u3
    have ls2 := nodup_leV hn s2
    have el : (addS s S2).length = S2.length + 1 := by rw [e3]; simp
    obtain ⟨S4, o4, n4, u4, s4, t4, c4⟩ := ih (m - 1) (by omega) (gk K V s) (addS s S2) (hb s) (hU s) n3 u3 (by omega)
    refine d_l _ e_msetS fun _ => d_l _ (e_mgetC hKV) fun _ => d_calls rfl o4 (d_l _ (e_inc (by omega)) fun _ => d_cont rfl ⟨m' - 1, by omega, j + 1, S4, by omega, n4, u4, fun x hx => s4 x (mem_addS.2 (.inl (s2 x hx))), fun x hx => ?_, fun x hx hxS => ?_, rfl⟩)
    ·rw [htk] at hx
     rcases List.mem_append.1 hx with hx | hx
     ·exact s4 x (mem_addS.2 (.inl (t2 x hx)))
     ·obtain rfl := List.mem_singleton.1 hx
      exact s4 x (mem_addS.2 (.inr rfl))
    ·by_cases h2 : x ∈ S2
     ·obtain ⟨g1, g2⟩ := c2 x h2 hxS
      exact ⟨fun y hy => s4 y (mem_addS.2 (.inl (g1 y hy))), g2⟩
     ·by_cases e : x = s
      ·subst e
       exact ⟨t4, .base hsl⟩
      ·obtain ⟨g1, g2⟩ := c4 x hx fun h => (mem_addS.1 h).elim h2 e
       exact ⟨g1, Rc.sub (.base hsl) g2⟩
   ·have hin : s ∈ S2 := pb_iff.1 (by simpa using hs)
    refine d_l _ (e_inc (by omega)) fun _ => d_cont rfl ⟨m' - 1, by omega, j + 1, S2, by omega, n2, u2, s2, fun x hx => ?_, c2, rfl⟩
    rw [htk] at hx
    rcases List.mem_append.1 hx with hx | hx
    ·exact t2 x hx
    ·obtain rfl := List.mem_singleton.1 hx
     exact hin
  ·have e : l.take j = l := List.take_of_length_le (by omega)
   rw [e] at t2; exact t2)
 obtain ⟨_, ⟨S', h1, h2, h3, h4, h5, rfl⟩, h⟩ := this
 exact ⟨S', h, h1, h2, h3, h4, h5⟩
end Go.Proofs.YtbfjpjllaibooaaGreat.Tx
/- The package audit: Reached, Unused, Loops, exactly. -/
namespace Go.Proofs.YtbfjpjllaibooaaGreat.Tx
open Go.Lf Go.Lf.S Go.Lf.Duo
set_option maxRecDepth 100000
structure PB (p : Pg) : Prop where
 dl : p.defs.length ≤ 1000000
 body : ∀ d ∈ p.defs, d.body.sz ≤ 1000000
 main : p.main.sz ≤ 1000000
theorem sb_bodyA (d : Df) : sb 2 12 d.enc = d.body.enc := by
 obtain ⟨nm, ps, ⟨k, ch, v, ls, ar, t, ks⟩⟩ := d
 simp only [Df.enc, Pr.enc_mk]; rfl
theorem sb_mainA (p : Pg) : sb 1 12 p.enc = p.main.enc := by
 obtain ⟨ds, ⟨k, ch, v, ls, ar, t, ks⟩⟩ := p
 simp only [Pg.enc, Pr.enc_mk]; rfl
theorem c0_pg (p : Pg) : c 0 p.enc = .sl (p.defs.map Df.enc) := rfl
/-- who calls whom -/
def kvOf (ds : List Df) : List ByteArray × List (List ByteArray) := ds.foldl (fun kv d => updC kv.1 kv.2 d.name (coll callF d.body)) ([], [])
theorem kvOf_take {ds : List Df} {j : Nat} (h : j < ds.length) : kvOf (ds.take (j + 1)) = updC (kvOf (ds.take j)).1 (kvOf (ds.take j)).2 ds[j].name (coll callF ds[j].body) := by
 unfold kvOf
 rw [List.take_succ_eq_append_getElem h, List.foldl_append]; rfl
theorem kvOf_ok (ds : List Df) : ∀ j, j ≤ ds.length → (kvOf (ds.take j)).1.length = (kvOf (ds.take j)).2.length ∧ ∀ s, gk (kvOf (ds.take j)).1 (kvOf (ds.take j)).2 s = [] ∨ ∃ d ∈ ds, d.name = s ∧ gk (kvOf (ds.take j)).1 (kvOf (ds.take j)).2 s = coll callF d.body := by
 intro j
 induction j with
 | zero => intro _; exact ⟨rfl, fun s => .inl rfl⟩
 | succ j ih =>
  intro h
  obtain ⟨h1, h2⟩ := ih (by omega)
  rw [kvOf_take (by omega : j < ds.length)]
  refine ⟨updC_len h1, fun s => ?_⟩
  rw [gk_upd h1]
  by_cases e : s = ds[j].name
  ·rw [if_pos e]
   exact .inr ⟨ds[j], List.getElem_mem _, e.symm, rfl⟩
  ·rw [if_neg e]; exact h2 s
def gP (p : Pg) : ByteArray → List ByteArray := gk (kvOf p.defs).1 (kvOf p.defs).2
theorem ok_closure (p : Pg) (hb : PB p) (l : List ByteArray) (hl : l.length ≤ 549755813888) : ∃ S, Ok P F.audit_closure [p.enc, .sl (l.map .str)] (setV S) ∧ ∀ x, x ∈ S ↔ Rc (gP p) l x := by
 obtain ⟨hlen, hg⟩ := kvOf_ok p.defs p.defs.length (Nat.le_refl _)
 rw [List.take_length] at hlen hg
 have hgl : ∀ s, (gk (kvOf p.defs).1 (kvOf p.defs).2 s).length ≤ 549755813888 := fun s => by
  rcases hg s with h | ⟨d, hd, _, h⟩
  ·rw [h]; simp
  ·rw [h]
   have := coll_len call_le d.body
   have := hb.body d hd
   omega
 obtain ⟨S, hv, _, _, _, h3, h4⟩ := ok_visit hlen (U := l ++ p.defs.flatMap fun d => coll callF d.body) hgl (fun s x hx => by
  rcases hg s with h | ⟨d, hd, _, h⟩
  ·rw [h] at hx; cases hx
  ·rw [h] at hx
   exact List.mem_append_right _ (List.mem_flatMap.2 ⟨d, hd, hx⟩)) _ l [] hl (fun x hx => List.mem_append_left _ hx) (by simp) (by simp) (Nat.le_add_right _ _)
 refine ⟨S, ?_, fun x => ⟨fun hx => (h4 x hx (by simp)).2, fun hx => ?_⟩⟩
 ·refine k_audit_closure _ _ rfl (d_l _ (e_okc (Pg.okc_enc p)) fun _ => d_l _ (len_eq p.defs) fun _ => ?_)
  refine den_rounds (fun j => [i j, mpC (kvOf (p.defs.take j)).1 (kvOf (p.defs.take j)).2]) p.defs.length rfl (fun j hj => ?_) ?_
  ·have hd := hb.body _ (List.getElem_mem hj)
   have hc := ok_scope_Calls p.defs[j].body (by omega)
   rw [← sb_bodyA p.defs[j]] at hc
   have hdl := hb.dl
   refine d_l (.bool (decide ((j : Int) < (p.defs.length : Int)))) rfl fun _ => d_dec (p := (j : Int) < (p.defs.length : Int)) (fun h => ?_) fun h => absurd (show (j : Int) < (p.defs.length : Int) by omega) h
   refine d_l _ (e_idx (mp_at (f := Df.enc) hj) (Df.okc_enc _)) fun _ => d_l _ (e_okc (Df.okc_enc _)) fun _ => d_call hc (d_l _ e_msetC fun _ => d_l _ (e_inc (by omega)) fun _ => d_cont rfl ?_)
   rw [kvOf_take hj]
  ·refine d_l (.bool (decide ((p.defs.length : Int) < (p.defs.length : Int)))) rfl fun _ => d_dec (p := (p.defs.length : Int) < (p.defs.length : Int)) (fun h => by omega) fun _ => ?_
   rw [List.take_length]
   exact d_calls rfl hv (d_ret rfl)
 ·induction hx with
  | base h => exact h3 _ h
  | step h hy ih => exact (h4 _ ih (by simp)).1 _ hy
theorem ok_named (p : Pg) (hb : PB p) {g : Nat} {caps : List PV} {q : Df → Bool} (hq : ∀ d ∈ p.defs, Ok P g (d.enc :: caps) (.bool (q d))) : Ok P F.audit_named [p.enc, .fn g [] caps] (.sl (((p.defs.filter q).map Df.name).map .str)) := by
 have hdl := hb.dl
 refine k_audit_named _ _ rfl (d_l _ (e_okc (Pg.okc_enc p)) fun _ => d_l _ (len_eq p.defs) fun _ => ?_)
 refine den_rounds (fun j => [i j, .sl ((((p.defs.take j).filter q).map Df.name).map .str)]) p.defs.length rfl (fun j hj => ?_) ?_
 ·have hc := hq _ (List.getElem_mem hj)
  have htk : p.defs.take (j + 1) = p.defs.take j ++ [p.defs[j]] := List.take_succ_eq_append_getElem hj
  have hfl : ((p.defs.take j).filter q).length ≤ 1000000 := by
   have := List.length_filter_le q (p.defs.take j)
   rw [List.length_take] at this
   omega
  refine d_l (.bool (decide ((j : Int) < (p.defs.length : Int)))) rfl fun _ => d_dec (p := (j : Int) < (p.defs.length : Int)) (fun h => ?_) fun h => absurd (show (j : Int) < (p.defs.length : Int) by omega) h
  refine d_l _ (e_idx (mp_at (f := Df.enc) hj) (Df.okc_enc _)) fun _ => d_l _ (e_okc (Df.okc_enc _)) fun _ => d_callv (fs := []) (xs := [p.defs[j].enc]) (cs := caps) hc (d_ite (fun h1 => ?_) fun h1 => ?_)
  ·refine d_l (.sl [.str p.defs[j].name]) rfl fun _ => d_l _ (app_str (m := [p.defs[j].name]) (by simp; omega)) fun _ => d_l _ (e_inc (by omega)) fun _ => d_cont rfl ?_
   rw [htk, List.filter_append, List.filter_cons, h1]
   simp
  ·refine d_l _ (e_inc (by omega)) fun _ => d_cont rfl ?_
   rw [htk, List.filter_append, List.filter_cons, h1]
   simp
 ·refine d_l (.bool (decide ((p.defs.length : Int) < (p.defs.length : Int)))) rfl fun _ => d_dec (p := (p.defs.length : Int) < (p.defs.length : Int)) (fun h => by omega) fun _ => d_ret ?_
  rw [List.take_length]; rfl
/-- the names of the definitions that are reached, that are not, that reach themselves -/
noncomputable def reN (p : Pg) : List ByteArray := (p.defs.filter fun d => pb (Rc (gP p) (coll callF p.main) d.name)).map Df.name
theorem ok_Reached27 (p : Pg) (hb : PB p) : Ok P F.audit_Reached [p.enc] (.sl ((reN p).map .str)) := by
 have hc := ok_scope_Calls p.main (by have := hb.main; omega)
 have hcl := coll_len call_le p.main
 have hm := hb.main
 obtain ⟨S, hS, hm⟩ := ok_closure p hb (coll callF p.main) (by omega)
 rw [← sb_mainA p] at hc
 have hn := ok_named p hb (g := F.audit_Reached_1) (caps := [.box (setV S)]) (q := fun d => pb (Rc (gP p) (coll callF p.main) d.name)) fun d hd => by
  rw [← pb_congr (hm d.name)]
  exact k_audit_Reached_1 _ _ rfl (d_l _ (e_okc (Df.okc_enc d)) fun _ => d_l (setV S) rfl fun _ => d_l _ e_mgetS fun _ => d_ret rfl)
 exact k_audit_Reached _ _ rfl (d_l _ (e_okc (Pg.okc_enc p)) fun _ => d_call hc (d_call hS (d_l (setV S) rfl fun _ => d_call hn (d_ret rfl))))
end Go.Proofs.YtbfjpjllaibooaaGreat.Tx
/- The package audit: copies, Prune, exactly. -/
namespace Go.Proofs.YtbfjpjllaibooaaGreat.Tx
open Go.Lf Go.Lf.S Go.Lf.Duo
set_option maxRecDepth 100000
/-- lists of bounded lengths throughout -/
inductive TLn : Ty → Prop
 | mk (t : Ty) (h1 : t.labels.length ≤ 549755813888) (h2 : t.kids.length ≤ 549755813888) (h : ∀ k ∈ t.kids, TLn k) : TLn t
inductive PLn : Pr → Prop
 | mk (p : Pr) (h1 : p.labels.length ≤ 549755813888) (h2 : p.args.length ≤ 549755813888) (h3 : p.kids.length ≤ 549755813888) (ht : TLn p.t) (h : ∀ k ∈ p.kids, PLn k) : PLn p
structure DLn (d : Df) : Prop where
 len : d.params.length ≤ 549755813888
 ps : ∀ e ∈ d.params, TLn e.t
 body : PLn d.body
structure GLn (p : Pg) : Prop where
 defs : ∀ d ∈ p.defs, DLn d
 main : PLn p.main
end Go.Proofs.YtbfjpjllaibooaaGreat.Tx

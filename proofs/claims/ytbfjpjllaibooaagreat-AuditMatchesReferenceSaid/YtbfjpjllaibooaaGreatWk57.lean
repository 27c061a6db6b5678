/- Contracts: right types, exactly, of the program and of the reference; few nodes. -/
import Derived.Test.YtbfjpjllaibooaaGreatWk56
set_option linter.all false
namespace Go.Proofs.YtbfjpjllaibooaaGreat.Tx
open Go.Lf Go.Lf.S Go.Lf.Duo
set_option maxRecDepth 100000

theorem okx_ref02_node : ∀ (t : Ty), Lim t → ∀ (ns : List ByteArray) (g : Nat) (ses : Bool), ns.length + t.sz ≤ 1099511627776 →
    Ok P F.ref02_node [t.enc, .sl (ns.map .str), i g, .bool ses] (i (nodeE t ns g ses)) := by
  intro t
  induction t using Ty.ind with
  | _ t ih =>
  intro hlim ns g ses hz
  have hb := okx_ref02_shape t hlim
  have hse : Ok P F.ref02_Session [t.enc] (.bool (sesB t.kind)) := ok_ref02_Session t
  have hkl := szs_len t.kids
  cases hlim with
  | mk _ hn hl hll hkl' hkk =>
  obtain ⟨k, p, nm, s, ls, ks⟩ := t
  have hzk : ∀ x ∈ ks, x.sz < (Ty.mk k p nm s ls ks).sz := fun x hx => Ty.sz_kid hx
  simp only [Ty.kids] at ih hkl hkk
  have hks : ks.length ≤ 1099511627776 := by simp only [Ty.sz] at hz; omega
  have hns : ns.length ≤ 1099511627776 := by omega
  rw [Ty.enc_mk] at hb hse ⊢
  refine k_ref02_node _ _ rfl ?_
  refine d_l (.agg [.int .i64 k, .int .i64 p, .str nm, .int .i64 s, .sl (ls.map .str), .sl (ks.map Ty.enc)]) rfl fun _ => d_call hb (d_l _ rfl fun _ => d_ite (fun h => d_ret ?_) fun h => ?_)
  · have h : pb (shapeP (.mk k p nm s ls ks)) = false := by simpa using h
    rw [nodeE_3 (pb_false.1 h)]
  have hsh : shapeP (.mk k p nm s ls ks) := pb_iff.1 (by simpa using h)
  have hsh' := hsh
  simp only [shapeP, shP, Ty.kind, Ty.prio, Ty.shift, Ty.kids, Ty.labels, Ty.name] at hsh'
  refine d_ite (fun hs => d_call hse (d_l _ rfl fun _ => d_ite (fun h2 => d_ret ?_) fun h2 => ?_)) fun hs => ?_
  · rw [nodeE_3s hs (by simpa [Ty.kind] using h2)]
  all_goals
    have hs2 : ses = true → sesB k = true := by
      intro e
      first
        | exact (by simpa [Ty.kind] using h2)
        | exact (by rw [hs] at e; cases e)
    refine d_l _ rfl fun _ => d_dec (fun h9 => ?_) fun h9 => ?_
    · have h9 : k = 9 := h9
      rw [nodeE_9 hsh hs2 h9]
      refine d_l _ e_len fun _ => d_l _ (e_sub (by simp; omega) (by simp; omega)) fun _ => ?_
      refine den_loop (fun m ys => ∃ q : Int, q + 1 = m ∧ q < ns.length ∧ (∀ x : Nat, q < x → ns[x]? ≠ some nm) ∧ ys = [i q]) ns.length ⟨ns.length - 1, by omega, by omega, fun x hx => by rw [List.getElem?_eq_none (by omega)]; simp, by simp⟩ ?_
      rintro m _ ⟨q, hq1, hq2, hq3, rfl⟩
      refine d_l _ rfl fun _ => d_dec (fun h => ?_) fun h => d_ret ?_
      rotate_left
      · have h : ¬ (0 : Int) ≤ q := h
        rw [lastI_not fun x => hq3 x (by omega)]
      have h : (0 : Int) ≤ q := h
      obtain ⟨j, rfl⟩ : ∃ j : Nat, q = j := ⟨q.toNat, by omega⟩
      have hlt : j < ns.length := by omega
      refine d_l _ (e_idx (str_at hlt) rfl) fun _ => d_l _ rfl fun _ => d_dec (fun he => ?_) fun he => ?_
      · have he : ns[j] = nm := he
        have hli : lastI nm ns = some j := lastI_is (by rw [List.getElem?_eq_getElem hlt, he]) fun x hx => hq3 x (by omega)
        rw [hli]
        exact d_l _ rfl fun _ => d_dec (fun hg => d_ret (by have hg : (j : Int) < (g : Int) := hg; simp only []; rw [if_pos (by omega)])) fun hg => d_ret (by have hg : ¬ (j : Int) < (g : Int) := hg; simp only []; rw [if_neg (by omega)])
      · refine d_l _ (e_sub (by omega) (by omega)) fun _ => d_cont rfl ⟨m - 1, by omega, (j : Int) - 1, by omega, by omega, fun x hx => ?_, rfl⟩
        by_cases hxj : x = j
        · subst hxj; rw [List.getElem?_eq_getElem hlt]; intro e; exact he (Option.some.inj e)
        · exact hq3 x (by omega)
    · have h9 : ¬ k = 9 := h9
      rw [nodeE_o hsh hs2 h9]
      refine d_l _ rfl fun _ => d_dec (fun h8 => ?_) fun h8 => ?_
      · have h8 : k = 8 := h8
        rw [if_pos h8, if_pos h8]
        have hk1 : ks.length = 1 := by grind
        obtain ⟨x, rfl⟩ : ∃ x, ks = [x] := by
          match ks, hk1 with
          | [x], _ => exact ⟨x, rfl⟩
        have he := ih x (by simp) (hkk _ (by simp)) (ns ++ [nm]) g true (by have := hzk x (by simp); simp; omega)
        refine d_l x.enc (e_idx (k := 0) (l := [x].map Ty.enc) rfl (Ty.okc_enc _)) fun _ => d_l _ rfl fun _ => d_l _ (e_app (all_map okc_str _) (by simp; omega) (by simp; omega)) fun _ => d_l _ rfl fun _ => d_l _ (e_app (fun x hx => by simp at hx; subst hx; rfl) (by simp; omega) (by simp; omega)) fun _ => ?_
        rw [List.map_append] at he
        refine d_call he (d_ret ?_)
        have e2 : nodeEs [x] (decide (4 ≤ k ∧ k ≤ 5)) (ns ++ [nm]) g = nodeE x (ns ++ [nm]) g true := by
          rw [nodeEs_cons, nodeEs_nil, decide_eq_false (by omega)]
          simp only [Bool.not_false]
          split
          · rfl
          · rename_i h0; exact (Decidable.not_not.1 h0).symm
        rw [e2]
      · have h8 : ¬ k = 8 := h8
        rw [if_neg h8, if_neg h8]
        refine den_loop (fun m ys => ∃ j : Nat, j + m = ks.length ∧ nodeEs (ks.drop j) (if j = 0 then decide (4 ≤ k ∧ k ≤ 5) else false) ns ns.length = nodeEs ks (decide (4 ≤ k ∧ k ≤ 5)) ns ns.length ∧ ys = [i j]) ks.length ⟨0, by omega, by simp, rfl⟩ ?_
        rintro m _ ⟨j, hj, hE, rfl⟩
        refine d_l _ (len_eq ks) fun _ => d_l _ rfl fun _ => d_dec (fun h => ?_) fun h => d_ret ?_
        · have hlt : j < ks.length := by have h : (j : Int) < (ks.length : Int) := h; omega
          have hmem : ks[j] ∈ ks := List.getElem_mem hlt
          rw [nodeEs_drop hlt] at hE
          have fin : ∀ ses : Bool, ses = (!(if j = 0 then decide (4 ≤ k ∧ k ≤ 5) else false)) → (T.call F.ref02_node [ks[j].enc, .sl (ns.map .str), i (ns.length : Int), .bool ses] fun x20 =>
             .l (.cmp .neq .i64) [x20, (i 0)] fun x21 =>
             .ite x21 (.ret x20) (
              .l (.arith .add .i64) [i j, (i 1)] fun x22 =>
              .cont 0 [x22])).den0 P (· = i (nodeEs ks (decide (4 ≤ k ∧ k ≤ 5)) ns ns.length)) ([] ++ [fun zs => ∃ m', m' < m ∧ ∃ j : Nat, j + m' = ks.length ∧ nodeEs (ks.drop j) (if j = 0 then decide (4 ≤ k ∧ k ≤ 5) else false) ns ns.length = nodeEs ks (decide (4 ≤ k ∧ k ≤ 5)) ns ns.length ∧ zs = [i j]]) := by
            rintro ses rfl
            refine d_call (ih _ hmem (hkk _ hmem) ns ns.length _ (by have := hzk _ hmem; omega)) (d_l _ rfl fun _ => d_ndec (fun h0 => d_ret ?_) fun h0 => d_l _ (e_inc (by omega)) fun _ => d_cont rfl ⟨m - 1, by omega, j + 1, by omega, ?_, rfl⟩)
            · have h0 : ¬ nodeE ks[j] ns ns.length (!(if j = 0 then decide (4 ≤ k ∧ k ≤ 5) else false)) = 0 := h0
              rw [if_pos h0] at hE
              rw [← hE]
            · have h0 : nodeE ks[j] ns ns.length (!(if j = 0 then decide (4 ≤ k ∧ k ≤ 5) else false)) = 0 := h0
              rw [if_neg (fun e => e h0)] at hE
              rw [if_neg (by omega)]
              exact hE
          refine d_l _ (e_idx (mp_at hlt) (Ty.okc_enc _)) fun _ => d_l _ (len_eq ns) fun _ => d_l _ rfl fun _ => d_dec (fun h0 => fin true (by have h0 : 0 < (j : Int) := h0; rw [if_neg (by omega)]; rfl)) fun h0 => d_l (.bool (decide (5 < k))) rfl fun _ => fin _ ?_
          have h0 : ¬ 0 < (j : Int) := h0
          rw [if_pos (by omega)]
          have : ¬ (1 ≤ k ∧ k ≤ 3) := fun e => by
            have : ks.length = 0 := by grind
            omega
          have : 1 ≤ k := by grind
          rw [← decide_not]
          exact decide_eq_decide.2 ⟨fun e => by omega, fun e => by omega⟩
        · have h : ¬ (j : Int) < (ks.length : Int) := h
          rw [List.drop_eq_nil_of_le (by omega), nodeEs_nil] at hE
          rw [← hE]

noncomputable def rightE (t : Ty) : Int := if 100 < dep t ∨ 10000 < t.sz then 2 else nodeE t [] 0 false

theorem okx_ref02_Right (t : Ty) (hlim : Lim t) (hz : t.sz ≤ 1099511627776) : Ok P F.ref02_Right [t.enc] (i (rightE t)) := by
  have hd := ok_ref02_Depth t hz
  have hs := ok_ref02_Size t hz
  have he := okx_ref02_node t hlim [] 0 false (by simp; omega)
  refine k_ref02_Right _ _ rfl (d_l _ (e_okc (Ty.okc_enc t)) fun _ => d_call hd (d_l _ rfl fun _ => d_dec (fun h => d_ret ?_) fun h => d_call hs (d_l _ rfl fun _ => d_dec (fun h2 => d_ret ?_) fun h2 => d_call he (d_ret ?_))))
  · have h : (100 : Int) < (dep t : Int) := h
    rw [rightE, if_pos (by omega)]
  · have h2 : (10000 : Int) < (t.sz : Int) := h2
    rw [rightE, if_pos (by omega)]
  · have h : ¬ (100 : Int) < (dep t : Int) := h
    have h2 : ¬ (10000 : Int) < (t.sz : Int) := h2
    rw [rightE, if_neg (by omega)]

theorem okx_ref02_Few (t : Ty) (hlim : Lim t) (m : Int) (h0 : 0 ≤ m) (h1 : m ≤ 549755813888) : ∃ b, Ok P F.ref02_Few [t.enc, i m] (.bool b) ∧ (b = true → (t.sz : Int) ≤ m ∧ dep t ≤ 150) := by
  have hc := ok_ref02_count t m hlim h0 (by omega)
  have hk := Ty.okc_enc t
  obtain ⟨c1, c2, c3⟩ := cnt_spec t m h0
  have := tx_ex (K := fun x => ∃ b, x = .bool b ∧ (b = true → (t.sz : Int) ≤ m ∧ dep t ≤ 150)) k_ref02_Few (xs := [t.enc, i m]) rfl (by simp [t_ref02_Few, T.dt]) (by
    refine d_l _ (e_okc hk) fun _ => d_call hc (d_l _ rfl fun _ => d_dec (fun h => ?_) fun h => d_ret ⟨false, rfl, fun h => by cases h⟩)
    have h : 0 ≤ cnt t m := h
    have hz := c3 h
    refine d_call (ok_ref02_Depth t (by omega)) (d_l _ rfl fun _ => d_ret ⟨_, rfl, fun h2 => ⟨by omega, ?_⟩⟩)
    have h2 : ((dep t : Nat) : Int) ≤ 150 := of_decide_eq_true h2
    omega)
  obtain ⟨_, ⟨b, rfl, hb⟩, h⟩ := this
  exact ⟨b, h, hb⟩
end Go.Proofs.YtbfjpjllaibooaaGreat.Tx

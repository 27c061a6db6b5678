/- Contracts: the classes of equal nodes; the law about them. -/
import Derived.Test.YtlemfbmaineigaaWk20
import Derived.Test.YtlemfbmaineigaaWb
set_option linter.all false
namespace Go.Proofs.Ytlemfbmaineigaa.Tx
open Go.Lf Go.Lf.S Go.Lf.Duo
set_option maxRecDepth 100000

/-- nodes are equal -/
def Eq2 (ds : List Nd) (a b : Nat) : Prop := Eqv ds false (keyOf false a b 0 0)
theorem Eq2.symm {ds : List Nd} (hg : GrOk' ds) {a b : Nat} (h : Eq2 ds a b) : Eq2 ds b a := keyOf_symm hg h
theorem Eq2.trans {ds : List Nd} {a b c : Nat} (h : Eq2 ds a b) (h2 : Eq2 ds b c) : Eq2 ds a c := keyOf_trans h h2
theorem Eq2.refl {ds : List Nd} (hg : GrOk' ds) {a : Nat} (ha : a < ds.length) : Eq2 ds a a := keyOf_refl hg ha 0

/-- the least node that is equal -/
def Least (ds : List Nd) (j : Nat) (c : Int) : Prop := ∃ k : Nat, c = (k : Int) ∧ k ≤ j ∧ Eq2 ds k j ∧ ∀ q, q < k → ¬ Eq2 ds q j

theorem least_new {ds : List Nd} (hg : GrOk' ds) {cs : List Int} {j : Nat} (hj : j ≤ cs.length) (hjd : j < ds.length) (h : ∀ q (hq : q < cs.length), q < j → Least ds q cs[q])
    {k : Nat} (hk : k ≤ j) (hno : ∀ q (hq : q < cs.length), q < k → cs[q] = (q : Int) → ¬ Eq2 ds q j) : ∀ q, q < k → ¬ Eq2 ds q j := by
  intro q
  induction q using Nat.strongRecOn with
  | _ q ih =>
  intro hqk he
  have hql : q < cs.length := by omega
  obtain ⟨c, h1, h2, h3, h4⟩ := h q hql (by omega)
  rcases Nat.lt_or_ge c q with hc | hc
  · exact ih c hc (by omega) (h3.trans he)
  · have : c = q := by omega
    subst this
    exact hno c hql hqk h1 he

theorem ok_equal_Classes {ds : List Nd} (hg : GrOk' ds) : ∃ cs : List Int, Ok P F.equal_Classes [.agg [.sl (ds.map Nd.enc)]] (.sl (cs.map i)) ∧ cs.length = ds.length ∧ ∀ j (h : j < cs.length), Least ds j cs[j] := by
  have hn := hg.1
  have := tx_ex (K := fun x => ∃ cs : List Int, x = .sl (cs.map i) ∧ cs.length = ds.length ∧ ∀ j (h : j < cs.length), Least ds j cs[j]) k_equal_Classes (xs := [.agg [.sl (ds.map Nd.enc)]]) rfl (by simp [t_equal_Classes, T.dt]) (by
    refine d_l (.agg [.sl (ds.map Nd.enc)]) rfl fun _ => d_l (i (ds.length : Int)) (by rw [← List.length_map (f := Nd.enc)]; exact e_len) fun _ => d_l _ (e_rep (by omega) (by omega) rfl) fun _ => d_l (i (ds.length : Int)) (by rw [e_len]; simp) fun _ => ?_
    refine den_loop (fun m ys => ∃ (j : Nat) (cs : List Int), j + m = ds.length ∧ cs.length = ds.length ∧ (∀ q (hq : q < cs.length), q < j → Least ds q cs[q]) ∧ ys = [i j, .sl (cs.map i)]) ds.length
      ⟨0, List.replicate ds.length 0, by omega, by simp, (fun q hq h => by omega), by simp⟩ ?_
    rintro m _ ⟨j, cs, hj, hcl, hcs, rfl⟩
    refine d_l _ rfl fun _ => d_dec (fun h => ?_) fun h => ?_
    · have hjl : j < ds.length := by
        have h : (j : Int) < (ds.length : Int) := h
        omega
      refine d_l _ (e_idx (in_at (by omega)) rfl) fun _ => d_l (.sl ((cs.set j (j : Int)).map i)) (by rw [List.map_set]; exact e_upd (by simp; omega) rfl) fun _ => ?_
      refine den_loop (fun m ys => ∃ k : Nat, k + m = j ∧ (∀ q (hq : q < cs.length), q < k → cs[q] = (q : Int) → ¬ Eq2 ds q j) ∧ ys = [i k]) j ⟨0, by omega, (fun q hq h => by omega), rfl⟩ ?_
      rintro m' _ ⟨k, hk, hno, rfl⟩
      have hset : ∀ q, q < j → ∀ hq : q < (cs.set j (j : Int)).length, (cs.set j (j : Int))[q] = cs[q]'(by simpa using hq) := fun q hqj hq => by
        rw [List.getElem_set_ne (by omega)]
      have next : ∀ c : Nat, c ≤ j → Eq2 ds c j → (∀ q, q < c → ¬ Eq2 ds q j) → ∀ q (hq : q < (cs.set j (c : Int)).length), q < j + 1 → Least ds q (cs.set j (c : Int))[q] := by
        intro c hcj he hl q hq hqj
        by_cases hqe : q = j
        · subst hqe
          rw [List.getElem_set_self]
          exact ⟨c, rfl, hcj, he, hl⟩
        · rw [List.getElem_set_ne (by omega)]
          exact hcs q (by simpa using hq) (by omega)
      refine d_l _ rfl fun _ => d_dec (fun h => ?_) fun h => ?_
      · have hkj : k < j := by
          have h : (k : Int) < (j : Int) := h
          omega
        have hk1 : k < (cs.set j (j : Int)).length := by simp; omega
        refine d_l _ (e_idx (in_at hk1) rfl) fun _ => d_l _ (e_idx (in_at hk1) rfl) fun _ => d_l _ rfl fun _ => d_dec (fun he => ?_) fun he => ?_
        · have he : (cs.set j (j : Int))[k] = (k : Int) := he
          rw [hset k hkj] at he
          obtain ⟨r, hr, hiff⟩ := ok_equal_Equal hg (a := k) (b := j) (by omega) hjl 0 0
          refine d_l _ rfl fun _ => d_l _ rfl fun _ => d_call hr (d_ite (fun ht => ?_) fun ht => ?_)
          · have hj1 : j < (cs.set j (j : Int)).length := by simp; omega
            refine d_l _ (e_idx (in_at hj1) rfl) fun _ => d_l (.sl ((cs.set j (k : Int)).map i)) ?_ fun _ => d_l _ (e_inc (by omega)) fun _ => d_cont rfl ⟨m - 1, by omega, j + 1, cs.set j (k : Int), by omega, by simpa using hcl, ?_, rfl⟩
            · rw [show cs.set j (k : Int) = (cs.set j (j : Int)).set j (k : Int) by rw [List.set_set], List.map_set (l := cs.set j (j : Int))]
              exact e_upd (by simp; omega) rfl
            · exact next k (by omega) (hiff.1 ht) (least_new hg (by omega) hjl hcs (by omega) hno)
          · refine d_l _ (e_inc (by omega)) fun _ => d_cont rfl ⟨m' - 1, by omega, k + 1, by omega, fun q hq hqk hqe => ?_, rfl⟩
            by_cases hqe' : q = k
            · subst hqe'
              intro hE
              rw [hiff.2 hE] at ht; cases ht
            · exact hno q hq (by omega) hqe
        · have he : ¬ (cs.set j (j : Int))[k] = (k : Int) := he
          rw [hset k hkj] at he
          refine d_l _ (e_inc (by omega)) fun _ => d_cont rfl ⟨m' - 1, by omega, k + 1, by omega, fun q hq hqk hqe => ?_, rfl⟩
          by_cases hqe' : q = k
          · subst hqe'
            exact absurd hqe he
          · exact hno q hq (by omega) hqe
      · have hkj : k = j := by
          have h : ¬ (k : Int) < (j : Int) := h
          omega
        subst hkj
        refine d_l _ (e_inc (by omega)) fun _ => d_cont rfl ⟨m - 1, by omega, k + 1, cs.set k (k : Int), by omega, by simpa using hcl, ?_, rfl⟩
        exact next k (Nat.le_refl _) (Eq2.refl hg hjl) (least_new hg (by omega) hjl hcs (Nat.le_refl _) hno)
    · have h : ¬ (j : Int) < (ds.length : Int) := h
      exact d_ret ⟨cs, rfl, hcl, fun q hq => hcs q hq (by omega)⟩)
  obtain ⟨_, ⟨cs, rfl, h1, h2⟩, h⟩ := this
  exact ⟨cs, h, h1, h2⟩

theorem least_iff {ds : List Nd} (hg : GrOk' ds) {a b : Nat} {c d : Int} (ha : Least ds a c) (hb : Least ds b d) : c = d ↔ Eq2 ds a b := by
  obtain ⟨p, rfl, p1, p2, p3⟩ := ha
  obtain ⟨q, rfl, q1, q2, q3⟩ := hb
  constructor
  · intro h
    have : p = q := by omega
    subst this
    exact (p2.symm hg).trans q2
  · intro h
    have h1 : ¬ p < q := fun hl => q3 p hl (p2.trans h)
    have h2 : ¬ q < p := fun hl => p3 q hl (q2.trans (h.symm hg))
    omega

theorem beq_of_iff {a b : Bool} (h : a = true ↔ b = true) : a = b := by cases a <;> cases b <;> simp_all

theorem ok_law10_EqualClasses (aw : Ok P F.law10_awake [] (.bool true)) (l : List Ty) (hll : l.length ≤ 9223372036854775807) (hlim : ∀ t ∈ l, Lim t) : Ok P F.law10_EqualClasses [.sl (l.map Ty.enc)] (.bool true) := by
  obtain ⟨b, hf, hb⟩ := ok_ref07_Few l hll hlim 3 12 (by omega) (by omega)
  refine k_law10_EqualClasses _ _ rfl (d_call aw (d_l _ rfl fun _ => d_false (d_call hf (d_l _ rfl fun _ => d_ite (fun h => d_call aw (d_ret rfl)) fun h => ?_))))
  have hb := hb (by simpa using h)
  obtain ⟨ds, rs, hB, hG, hgr, hrl, hrs⟩ := built' l 3 12 hb.1 (by omega) hb.2
  have hg : GrOk' ds := hgr
  have h1 := hgr.1
  obtain ⟨cs, hC, hcl, hcs⟩ := ok_equal_Classes hg
  refine d_call hG (d_l (.agg [.sl (ds.map Nd.enc)]) rfl fun _ => d_l _ rfl fun _ => d_l (.agg [.sl (ds.map Nd.enc)]) (by rfl) fun _ => d_call hC ?_)
  have hlc : Prim.len.ev [.sl (cs.map i)] = some (i (ds.length : Int)) := by rw [e_len]; simp [hcl]
  refine d_l _ hlc fun _ => d_l (i (ds.length : Int)) (by rw [← List.length_map (f := Nd.enc)]; exact e_len) fun _ => d_l _ rfl fun _ => d_ndec (fun h => absurd rfl h) fun _ => ?_
  refine den_loop (fun m ys => ∃ j : Nat, j + m = ds.length ∧ ys = [i j]) ds.length ⟨0, by omega, rfl⟩ ?_
  rintro m _ ⟨j, hj, rfl⟩
  refine d_l _ hlc fun _ => d_l _ rfl fun _ => d_dec (fun h => ?_) fun _ => d_ret rfl
  have hjl : j < ds.length := by
    have h : (j : Int) < (ds.length : Int) := h
    omega
  have hjc : j < cs.length := by omega
  -- going down: the least so far
  refine den_loop (fun m' ys => ∃ (e : Int) (c : Nat), e + 1 = (m' : Int) ∧ m' ≤ j + 1 ∧ c ≤ j ∧ Eq2 ds c j ∧ (∀ q : Nat, e < (q : Int) → q < c → ¬ Eq2 ds q j) ∧ (c = j ∨ e < (c : Int)) ∧ ys = [i e, i (c : Int)]) (j + 1)
    ⟨j, j, by omega, by omega, by omega, Eq2.refl hg hjl, (fun q h1 h2 => by omega), .inl rfl, rfl⟩ ?_
  rintro m' _ ⟨e, c, he, hm', hc, hcE, hcl', hce, rfl⟩
  refine d_l _ rfl fun _ => d_dec (fun h => ?_) fun h => ?_
  · have h : (0 : Int) ≤ e := h
    obtain ⟨k, rfl⟩ : ∃ k : Nat, e = (k : Int) := ⟨e.toNat, by omega⟩
    have hkl : k < ds.length := by omega
    have hkc : k < cs.length := by omega
    obtain ⟨r1, hr1, hi1⟩ := ok_equal_Equal hg (a := j) (b := k) hjl hkl 0 0
    obtain ⟨r2, hr2, hi2⟩ := ok_equal_Equal hg (a := k) (b := j) hkl hjl 0 0
    have e12 : r1 = r2 := beq_of_iff (hi1.trans ⟨fun h => hi2.2 (keyOf_symm hg h), fun h => keyOf_symm hg (hi2.1 h)⟩)
    have e13 : decide (cs[j] = cs[k]) = r1 := by
      refine beq_of_iff ?_
      rw [decide_eq_true_eq]
      exact (least_iff hg (hcs j hjc) (hcs k hkc)).trans hi1.symm
    subst e12
    have hdec : (Prim.arith .sub .i64).ev [i (k : Int), i 1] = some (i ((k : Int) - 1)) := e_sub (by omega) (by omega)
    have hneq : ∀ b : Bool, (Prim.bcmp .neq).ev [.bool b, .bool b] = some (.bool false) := by intro b; cases b <;> rfl
    have hcmp : (Prim.cmp .eql .i64).ev [i cs[j], i cs[k]] = some (.bool r1) := by rw [← e13]; rfl
    refine d_l _ rfl fun _ => d_l _ rfl fun _ => d_call hr1 (d_ite (fun ht => ?_) fun ht => ?_)
    · refine d_l _ rfl fun _ => d_l _ rfl fun _ => d_call hr2 (d_l _ (hneq _) fun _ => d_false (d_l _ (e_idx (in_at hjc) rfl) fun _ => d_l _ (e_idx (in_at hkc) rfl) fun _ => d_l _ hcmp fun _ => d_l _ (hneq _) fun _ => d_false (d_l _ hdec fun _ => d_cont rfl ?_)))
      exact ⟨m' - 1, by omega, (k : Int) - 1, k, by omega, by omega, by omega, hi2.1 ht, (fun q h1 h2 => by omega), .inr (by omega), rfl⟩
    · refine d_l _ rfl fun _ => d_l _ rfl fun _ => d_call hr2 (d_l _ (hneq _) fun _ => d_false (d_l _ (e_idx (in_at hjc) rfl) fun _ => d_l _ (e_idx (in_at hkc) rfl) fun _ => d_l _ hcmp fun _ => d_l _ (hneq _) fun _ => d_false (d_l _ hdec fun _ => d_cont rfl ?_)))
      refine ⟨m' - 1, by omega, (k : Int) - 1, c, by omega, by omega, hc, hcE, (fun q h1 h2 => ?_), ?_, rfl⟩
      · by_cases hq : q = k
        · subst hq
          intro hE
          rw [hi2.2 hE] at ht; cases ht
        · exact hcl' q (by omega) h2
      · rcases hce with h | h
        · exact .inl h
        · exact .inr (by omega)
  · have h : ¬ (0 : Int) ≤ e := h
    have hce : cs[j] = (c : Int) := by
      obtain ⟨p, p1, p2, p3, p4⟩ := hcs j hjc
      have h1 : ¬ p < c := fun hl => hcl' p (by omega) hl p3
      have h2 : ¬ c < p := fun hl => p4 c hl hcE
      omega
    refine d_l _ (e_idx (in_at hjc) rfl) fun _ => d_l _ rfl fun _ => d_ndec (fun h => absurd hce h) fun _ => d_l _ (e_inc (by omega)) fun _ => d_cont rfl ⟨m - 1, by omega, j + 1, by omega, rfl⟩

end Go.Proofs.Ytlemfbmaineigaa.Tx

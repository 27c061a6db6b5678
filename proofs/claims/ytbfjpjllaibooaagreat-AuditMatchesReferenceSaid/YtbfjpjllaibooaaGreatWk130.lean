/- Totals of processes; the law. -/
import Derived.Test.YtbfjpjllaibooaaGreatWk61
import Derived.Test.YtbfjpjllaibooaaGreatDAwake27
set_option linter.all false
namespace Go.Proofs.YtbfjpjllaibooaaGreat.Tx
open Go.Lf Go.Lf.S Go.Lf.Duo
set_option maxRecDepth 100000

structure To where
  p : Nat
  n : Nat
  c : Nat
  t : Nat
def To.enc (a : To) : PV := .agg [i (a.p : Int), i (a.n : Int), i (a.c : Int), i (a.t : Int)]
theorem To.okc_enc (a : To) : a.enc.okc 4 true = true := rfl
def To.add (a b : To) : To := ⟨a.p + b.p, a.n + b.n, a.c + b.c, a.t + b.t⟩
def To.noT (a : To) : To := ⟨a.p, a.n, a.c, 0⟩
def prefB (k : Int) : Bool := decide (2 ≤ k ∧ k ≤ 5)
def nodeT (k : Int) : To := if prefB k then ⟨1, 0, 0, 1⟩ else if k = 6 then ⟨0, 1, 0, 0⟩ else if k = 8 then ⟨0, 0, 1, 1⟩ else ⟨0, 0, 0, 0⟩
def cutT (b : Bool) (a : To) : To := if b then a.noT else a
mutual
def tot : Pr → To
  | .mk k _ _ _ _ _ ks => (nodeT k).add (cutT (prefB k) (tots ks))
def tots : List Pr → To
  | [] => ⟨0, 0, 0, 0⟩
  | p :: r => (tot p).add (tots r)
end
theorem To.ext' {a b : To} (h1 : a.p = b.p) (h2 : a.n = b.n) (h3 : a.c = b.c) (h4 : a.t = b.t) : a = b := by cases a; cases b; simp_all
theorem tots_take : ∀ (l : List Pr) (j : Nat) (h : j < l.length), tots (l.take (j + 1)) = (tots (l.take j)).add (tot l[j])
  | x :: l, 0, _ => by simp only [List.take_succ_cons, List.take_zero, tots, List.getElem_cons_zero]; exact To.ext' (by simp [To.add]) (by simp [To.add]) (by simp [To.add]) (by simp [To.add])
  | x :: l, j + 1, h => by
    have := tots_take l j (by simpa using h)
    simp only [List.take_succ_cons, tots, List.getElem_cons_succ, this]
    exact To.ext' (by simp [To.add]; omega) (by simp [To.add]; omega) (by simp [To.add]; omega) (by simp [To.add]; omega)
theorem cut_add (b : Bool) (x y : To) : cutT b (x.add y) = (cutT b x).add (cutT b y) := by cases b <;> rfl
theorem node_le (k : Int) : (nodeT k).p + (nodeT k).n + (nodeT k).c ≤ 1 ∧ (nodeT k).t ≤ (nodeT k).p + (nodeT k).c := by
  unfold nodeT; split
  · simp
  · split
    · simp
    · split <;> simp
mutual
theorem tot_le : ∀ p : Pr, (tot p).p + (tot p).n + (tot p).c ≤ p.sz ∧ (tot p).t ≤ (tot p).p + (tot p).c
  | .mk k _ _ _ _ _ ks => by
    have h1 := node_le k
    have h2 := tots_le ks
    simp only [tot, Pr.sz, To.add]
    cases prefB k
    · simp only [cutT, Bool.false_eq_true, if_false]; omega
    · simp only [cutT, if_true, To.noT]; omega
theorem tots_le : ∀ l : List Pr, (tots l).p + (tots l).n + (tots l).c ≤ Pr.szs l ∧ (tots l).t ≤ (tots l).p + (tots l).c
  | [] => by simp [tots, Pr.szs]
  | p :: r => by
    have h1 := tot_le p
    have h2 := tots_le r
    simp only [tots, Pr.szs, To.add]; omega
end

theorem ok_Pfx (p : Pr) : Ok P F.proctree_Prefix [p.enc] (.bool (prefB p.kind)) := by
  obtain ⟨k, ch, v, ls, ar, t, ks⟩ := p
  rw [Pr.enc_mk]
  show Ok P F.proctree_Prefix _ (.bool (prefB k))
  refine k_proctree_Prefix _ _ rfl (d_l (.agg [i k, .str ch, .str v, .sl (ls.map .str), .sl (ar.map Vl.enc), i t.kind, i t.prio, .str t.name, i t.shift, .sl (t.labels.map .str), .sl (t.kids.map Ty.enc), .sl (ks.map Pr.enc)]) rfl fun _ => d_l (.bool (decide (2 ≤ k))) rfl fun _ => d_dec (fun h => d_l (.bool (decide (k ≤ 5))) rfl fun _ => d_ret (congrArg PV.bool ?_)) fun h => d_ret (congrArg PV.bool ?_))
  · unfold prefB; simp [h]
  · unfold prefB; simp [h]
theorem ok_node27 (p : Pr) : Ok P F.audit_node [p.enc] (nodeT p.kind).enc := by
  have hp := ok_Pfx p
  obtain ⟨k, ch, v, ls, ar, t, ks⟩ := p
  rw [Pr.enc_mk] at hp ⊢
  show Ok P F.audit_node _ (nodeT k).enc
  have hp : Ok P F.proctree_Prefix _ (.bool (prefB k)) := hp
  refine k_audit_node _ _ rfl (d_l (.agg [i k, .str ch, .str v, .sl (ls.map .str), .sl (ar.map Vl.enc), i t.kind, i t.prio, .str t.name, i t.shift, .sl (t.labels.map .str), .sl (t.kids.map Ty.enc), .sl (ks.map Pr.enc)]) rfl fun _ => d_call hp (d_ite (fun h => d_ret ?_) fun h => d_l (.bool (decide (k = 6))) rfl fun _ => d_dec (fun h6 => d_ret ?_) fun h6 => d_l (.bool (decide (k = 8))) rfl fun _ => d_dec (fun h8 => d_ret ?_) fun h8 => d_ret ?_))
  · unfold nodeT; rw [h]; rfl
  · unfold nodeT; rw [h, if_neg (by simp), if_pos h6]; rfl
  · unfold nodeT; rw [h, if_neg (by simp), if_neg h6, if_pos h8]; rfl
  · unfold nodeT; rw [h, if_neg (by simp), if_neg h6, if_neg h8]; rfl
theorem e_nat {a b : Nat} (h : a + b ≤ 4611686018427387904) : (Prim.arith .add .i64).ev [i (a : Int), i (b : Int)] = some (i ((a + b : Nat) : Int)) := by
  rw [e_add (by omega) (by omega)]; rfl
theorem ok_plus (a b : To) (h : a.p + a.n + a.c + a.t + b.p + b.n + b.c + b.t ≤ 4611686018427387904) : Ok P F.audit_Totals_plus [a.enc, b.enc] (a.add b).enc :=
  k_audit_Totals_plus _ _ rfl (d_l a.enc rfl fun _ => d_l b.enc rfl fun _ => d_l _ (e_nat (by omega)) fun _ => d_l _ (e_nat (by omega)) fun _ => d_l _ (e_nat (by omega)) fun _ => d_l _ (e_nat (by omega)) fun _ => d_l _ rfl fun _ => d_ret rfl)

theorem ok_Count : ∀ p : Pr, p.sz ≤ 1099511627776 → Ok P F.audit_Count [p.enc] (tot p).enc := by
  intro p
  induction p using Pr.ind with
  | _ p ih =>
  intro hz
  have hn := ok_node27 p
  have hp := ok_Pfx p
  obtain ⟨k, ch, v, ls, ar, t, ks⟩ := p
  simp only [Pr.sz] at hz
  have hlen := pr_len ks
  have hnl := node_le k
  have ih : ∀ x ∈ ks, x.sz ≤ 1099511627776 → Ok P F.audit_Count [x.enc] (tot x).enc := ih
  rw [Pr.enc_mk] at hn hp ⊢
  have hn : Ok P F.audit_node _ (nodeT k).enc := hn
  have hp : Ok P F.proctree_Prefix _ (.bool (prefB k)) := hp
  refine k_audit_Count _ _ rfl (d_l (.agg [i k, .str ch, .str v, .sl (ls.map .str), .sl (ar.map Vl.enc), i t.kind, i t.prio, .str t.name, i t.shift, .sl (t.labels.map .str), .sl (t.kids.map Ty.enc), .sl (ks.map Pr.enc)]) rfl fun _ => d_call hn (d_l (nodeT k).enc rfl fun _ => d_l _ (len_eq ks) fun _ => ?_))
  refine den_rounds (fun j => [i j, ((nodeT k).add (cutT (prefB k) (tots (ks.take j)))).enc]) ks.length (by
    have : (nodeT k).add (cutT (prefB k) (tots (ks.take 0))) = nodeT k := by
      rw [List.take_zero]; cases prefB k <;> exact To.ext' (by simp [To.add, cutT, To.noT, tots]) (by simp [To.add, cutT, To.noT, tots]) (by simp [To.add, cutT, To.noT, tots]) (by simp [To.add, cutT, To.noT, tots])
    rw [this]; rfl) (fun j hj => ?_) ?_
  · have hmem : ks[j] ∈ ks := List.getElem_mem hj
    have hs1 := Pr.szs_mem hmem
    have hs3 := pszs_take_le ks j
    have hx := tot_le ks[j]
    have hy := tots_le (ks.take j)
    have ihj := ih _ hmem (by omega)
    have ht := tots_take ks j hj
    have hix := e_idx (n := 12) (a := true) (mp_at (f := Pr.enc) hj) (Pr.okc_enc _)
    have hck : (cutT (prefB k) (tots (ks.take j))).p + (cutT (prefB k) (tots (ks.take j))).n + (cutT (prefB k) (tots (ks.take j))).c ≤ Pr.szs ks ∧ (cutT (prefB k) (tots (ks.take j))).t ≤ Pr.szs ks := by
      cases prefB k
      · simp only [cutT, Bool.false_eq_true, if_false]; omega
      · simp only [cutT, if_true, To.noT]; omega
    refine d_l (.bool (decide ((j : Int) < (ks.length : Int)))) rfl fun _ => d_dec (p := (j : Int) < (ks.length : Int)) (fun h => ?_) fun h => absurd (show (j : Int) < (ks.length : Int) by omega) h
    refine d_l _ hix fun _ => d_l _ (e_okc (Pr.okc_enc _)) fun _ => d_call ihj (d_l (tot ks[j]).enc rfl fun _ => d_call hp (d_ite (fun hb => ?_) fun hb => ?_))
    · refine d_l (i 0) rfl fun _ => d_call (ok_plus ((nodeT k).add (cutT (prefB k) (tots (ks.take j)))) (tot ks[j]).noT (by simp only [To.add, To.noT]; omega)) (d_l (((nodeT k).add (cutT (prefB k) (tots (ks.take j)))).add (tot ks[j]).noT).enc rfl fun _ => d_l _ (e_inc (by omega)) fun _ => d_cont rfl ?_)
      rw [ht, cut_add, hb]
      show [_, _] = [_, _]
      congr 2
      exact congrArg To.enc (To.ext' (by simp [To.add, cutT, To.noT]; omega) (by simp [To.add, cutT, To.noT]; omega) (by simp [To.add, cutT, To.noT]; omega) (by simp [To.add, cutT, To.noT]))
    · refine d_call (ok_plus ((nodeT k).add (cutT (prefB k) (tots (ks.take j)))) (tot ks[j]) (by simp only [To.add]; omega)) (d_l (((nodeT k).add (cutT (prefB k) (tots (ks.take j)))).add (tot ks[j])).enc rfl fun _ => d_l _ (e_inc (by omega)) fun _ => d_cont rfl ?_)
      rw [ht, cut_add, hb]
      show [_, _] = [_, _]
      congr 2
      exact congrArg To.enc (To.ext' (by simp [To.add, cutT]; omega) (by simp [To.add, cutT]; omega) (by simp [To.add, cutT]; omega) (by simp [To.add, cutT]; omega))
  · refine d_l (.bool (decide ((ks.length : Int) < (ks.length : Int)))) rfl fun _ => d_dec (p := (ks.length : Int) < (ks.length : Int)) (fun h => by omega) fun _ => ?_
    rw [List.take_length]
    exact d_l _ rfl fun _ => d_ret rfl

end Go.Proofs.YtbfjpjllaibooaaGreat.Tx

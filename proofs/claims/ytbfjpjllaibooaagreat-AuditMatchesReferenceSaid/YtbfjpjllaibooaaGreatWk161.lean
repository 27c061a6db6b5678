/- The reference of the package audit: the totals, in an array. -/
import Derived.Test.YtbfjpjllaibooaaGreatWk130
set_option linter.all false
namespace Go.Proofs.YtbfjpjllaibooaaGreat.Tx
open Go.Lf Go.Lf.S Go.Lf.Duo
set_option maxRecDepth 100000

theorem hCt : TxOk P F.ref27_Count 2 ctT := k_ref27_Count

/-- the totals, the threads only if there is no prefix around -/
def cv (f : Bool) (a : To) : To := cutT (!f) a
def To.mix (j : Nat) (a b : To) : To := ⟨if 0 < j then a.p + b.p else a.p, if 1 < j then a.n + b.n else a.n, if 2 < j then a.c + b.c else a.c, if 3 < j then a.t + b.t else a.t⟩
def To.big (a : To) (m : Nat) : Prop := a.p + a.n + a.c + a.t ≤ m

theorem d_ctI {K : PV → Prop} {h0 : List PV → Prop} {j : Nat} {a z : To} (ha : a.big 2305843009213693952) (hz : z.big 2305843009213693952) (hj : j < 9223372036854775807) (h : h0 [i ((j + 1 : Nat) : Int), i ((a.add z).p : Int), i ((a.add z).n : Int), i ((a.add z).c : Int), i ((a.add z).t : Int)]) :
    (ctI [i (j : Int), i (a.p : Int), i (a.n : Int), i (a.c : Int), i (a.t : Int)] z.enc).den0 P K [h0] := by
  obtain ⟨p, q, r, t⟩ := a
  obtain ⟨zp, zq, zr, zt⟩ := z
  unfold To.big at ha hz
  simp only at ha hz
  unfold ctI
  refine den_loop (fun m ys => ∃ k : Nat, k + m = 4 ∧ ys = [i k, i ((To.mix k ⟨p, q, r, t⟩ ⟨zp, zq, zr, zt⟩).p : Int), i ((To.mix k ⟨p, q, r, t⟩ ⟨zp, zq, zr, zt⟩).n : Int), i ((To.mix k ⟨p, q, r, t⟩ ⟨zp, zq, zr, zt⟩).c : Int), i ((To.mix k ⟨p, q, r, t⟩ ⟨zp, zq, zr, zt⟩).t : Int)]) 4 ⟨0, by omega, rfl⟩ ?_
  rintro m _ ⟨k, hk, rfl⟩
  have hk4 : k = 0 ∨ k = 1 ∨ k = 2 ∨ k = 3 ∨ k = 4 := by omega
  rcases hk4 with rfl | rfl | rfl | rfl | rfl
  · exact d_l (.bool true) rfl fun _ => d_true (d_l (i (p : Int)) rfl fun _ => d_l (i (p : Int)) rfl fun _ => d_l (i (zp : Int)) rfl fun _ => d_l (i (zp : Int)) rfl fun _ => d_l _ (e_nat (by omega)) fun _ => d_l (i (p : Int)) rfl fun _ => d_l (.agg [i ((p + zp : Nat) : Int), i (q : Int), i (r : Int), i (t : Int)]) rfl fun _ => d_l (i 1) rfl fun _ => d_cont rfl ⟨3, by omega, 1, rfl, rfl⟩)
  · exact d_l (.bool true) rfl fun _ => d_true (d_l (i (q : Int)) rfl fun _ => d_l (i (q : Int)) rfl fun _ => d_l (i (zq : Int)) rfl fun _ => d_l (i (zq : Int)) rfl fun _ => d_l _ (e_nat (by omega)) fun _ => d_l (i (q : Int)) rfl fun _ => d_l (.agg [i ((p + zp : Nat) : Int), i ((q + zq : Nat) : Int), i (r : Int), i (t : Int)]) rfl fun _ => d_l (i 2) rfl fun _ => d_cont rfl ⟨2, by omega, 2, rfl, rfl⟩)
  · exact d_l (.bool true) rfl fun _ => d_true (d_l (i (r : Int)) rfl fun _ => d_l (i (r : Int)) rfl fun _ => d_l (i (zr : Int)) rfl fun _ => d_l (i (zr : Int)) rfl fun _ => d_l _ (e_nat (by omega)) fun _ => d_l (i (r : Int)) rfl fun _ => d_l (.agg [i ((p + zp : Nat) : Int), i ((q + zq : Nat) : Int), i ((r + zr : Nat) : Int), i (t : Int)]) rfl fun _ => d_l (i 3) rfl fun _ => d_cont rfl ⟨1, by omega, 3, rfl, rfl⟩)
  · exact d_l (.bool true) rfl fun _ => d_true (d_l (i (t : Int)) rfl fun _ => d_l (i (t : Int)) rfl fun _ => d_l (i (zt : Int)) rfl fun _ => d_l (i (zt : Int)) rfl fun _ => d_l _ (e_nat (by omega)) fun _ => d_l (i (t : Int)) rfl fun _ => d_l (.agg [i ((p + zp : Nat) : Int), i ((q + zq : Nat) : Int), i ((r + zr : Nat) : Int), i ((t + zt : Nat) : Int)]) rfl fun _ => d_l (i 4) rfl fun _ => d_cont rfl ⟨0, by omega, 4, rfl, rfl⟩)
  · exact d_l (.bool false) rfl fun _ => d_false (d_l _ (e_inc hj) fun _ => d_cont rfl h)

theorem cv_add (f : Bool) (a b : To) : cv f (a.add b) = (cv f a).add (cv f b) := cut_add _ a b
theorem cv_big {f : Bool} {a : To} {m : Nat} (h : a.big m) : (cv f a).big m := by
  cases f
  · unfold To.big cv cutT To.noT at *; simp only [Bool.not_false, if_true]; omega
  · exact h
theorem tots_big (l : List Pr) : (tots l).big (2 * Pr.szs l) := by
  have := tots_le l
  unfold To.big; omega
theorem tot_big (p : Pr) : (tot p).big (2 * p.sz) := by
  have := tot_le p
  unfold To.big; omega
theorem d_ctL {K : PV → Prop} {f pB g : Bool} {ks : List Pr} {a : To} (hg : g = (f && !pB)) (ha : a.big 4) (hz : Pr.szs ks ≤ 1099511627776) (ih : ∀ x ∈ ks, ∀ f, Ok P F.ref27_Count [x.enc, .bool f] (cv f (tot x)).enc)
    (hK : K ((a.add (cv g (tots ks))).enc)) : (ctL (.sl (ks.map Pr.enc)) (.bool f) (.bool pB) (i (a.p : Int)) (i (a.n : Int)) (i (a.c : Int)) (i (a.t : Int))).den0 P K [] := by
  have hlen := pr_len ks
  unfold ctL
  refine den_loop (fun m ys => ∃ j : Nat, j + m = ks.length ∧ ys = [i j, i ((a.add (cv g (tots (ks.take j)))).p : Int), i ((a.add (cv g (tots (ks.take j)))).n : Int), i ((a.add (cv g (tots (ks.take j)))).c : Int), i ((a.add (cv g (tots (ks.take j)))).t : Int)]) ks.length ⟨0, by omega, by cases g <;> simp [tots, cv, cutT, To.noT, To.add]⟩ ?_
  rintro m _ ⟨j, hj, rfl⟩
  refine d_l _ (len_eq ks) fun _ => d_l (.bool (decide ((j : Int) < (ks.length : Int)))) rfl fun _ => d_dec (p := (j : Int) < (ks.length : Int)) (fun h => ?_) fun h => ?_
  · have hjl : j < ks.length := by omega
    have hm := List.getElem_mem hjl
    have hs1 := pszs_take_le ks j
    have hsm := Pr.szs_mem hm
    have hb1 : (a.add (cv g (tots (ks.take j)))).big 2305843009213693952 := by
      have := cv_big (f := g) (tots_big (ks.take j))
      unfold To.big To.add at *; simp only; omega
    have hb2 : (cv g (tot ks[j])).big 2305843009213693952 := by
      have := cv_big (f := g) (tot_big ks[j])
      unfold To.big at *; omega
    have hsn : a.add (cv g (tots (ks.take (j + 1)))) = (a.add (cv g (tots (ks.take j)))).add (cv g (tot ks[j])) := by
      rw [tots_take ks j hjl, cv_add]
      simp only [To.add, To.mk.injEq]; omega
    have go : (ctI [i (j : Int), i ((a.add (cv g (tots (ks.take j)))).p : Int), i ((a.add (cv g (tots (ks.take j)))).n : Int), i ((a.add (cv g (tots (ks.take j)))).c : Int), i ((a.add (cv g (tots (ks.take j)))).t : Int)] (cv g (tot ks[j])).enc).den0 P K [fun zs => ∃ m', m' < m ∧ ∃ j : Nat, j + m' = ks.length ∧ zs = [i j, i ((a.add (cv g (tots (ks.take j)))).p : Int), i ((a.add (cv g (tots (ks.take j)))).n : Int), i ((a.add (cv g (tots (ks.take j)))).c : Int), i ((a.add (cv g (tots (ks.take j)))).t : Int)]] :=
      d_ctI hb1 hb2 (by omega) ⟨m - 1, by omega, j + 1, by omega, by rw [hsn]⟩
    refine d_l _ (e_idx (n := 12) (a := true) (mp_at (f := Pr.enc) hjl) (Pr.okc_enc _)) fun _ => d_ite (fun hf => ?_) fun hf => ?_
    · refine d_l (.bool (!pB)) rfl fun _ => d_call (ih _ hm (!pB)) (d_l _ (e_okc (To.okc_enc _)) fun _ => ?_)
      have : g = !pB := by rw [hg, hf]; rfl
      rw [← this]; exact go
    · refine d_call (ih _ hm false) (d_l _ (e_okc (To.okc_enc _)) fun _ => ?_)
      have : g = false := by rw [hg, hf]; rfl
      rw [← this]; exact go
  · have : ks.take j = ks := List.take_of_length_le (by omega)
    rw [this]
    exact d_ret hK

theorem ok_CountR : ∀ (p : Pr) (f : Bool), p.sz ≤ 1099511627776 → Ok P F.ref27_Count [p.enc, .bool f] (cv f (tot p)).enc := by
  intro p
  induction p using Pr.ind with
  | _ p ih =>
  intro f hz
  obtain ⟨k, ch, v, ls, ar, t, ks⟩ := p
  simp only [Pr.sz] at hz
  have ih : ∀ x ∈ ks, ∀ f, Ok P F.ref27_Count [x.enc, .bool f] (cv f (tot x)).enc := fun x hx f => ih x hx f (by have := Pr.szs_mem hx; omega)
  have hzk : Pr.szs ks ≤ 1099511627776 := by omega
  rw [Pr.enc_mk]
  -- the node's own totals
  have fin : ∀ (pB : Bool) (a : To), pB = prefB k → a = cv f (nodeT k) → (ctL (.sl (ks.map Pr.enc)) (.bool f) (.bool pB) (i (a.p : Int)) (i (a.n : Int)) (i (a.c : Int)) (i (a.t : Int))).den0 P (fun x => x = (cv f (tot (.mk k ch v ls ar t ks))).enc) [] := by
    rintro pB a hp rfl
    have hb : (cv f (nodeT k)).big 4 := cv_big (by have := node_le k; unfold To.big; omega)
    refine d_ctL rfl hb hzk ih ?_
    congr 1
    simp only [tot]
    rw [cv_add]
    congr 1
    rw [← hp]
    cases f <;> cases pB <;> rfl
  have n68 : ∀ pB : Bool, pB = prefB k → pB = true → (k ≠ 6 ∧ k ≠ 8) := by
    rintro pB hp rfl
    have : 2 ≤ k ∧ k ≤ 5 := of_decide_eq_true hp.symm
    omega
  have val : ∀ {pB : Bool} {a b c' d : Nat}, pB = prefB k → a = (if pB then 1 else 0) → b = (if k = 6 then 1 else 0) → c' = (if k = 8 then 1 else 0) → d = (if f && (pB || decide (k = 8)) then 1 else 0) → (⟨a, b, c', d⟩ : To) = cv f (nodeT k) := by
    rintro pB a b c' d hp rfl rfl rfl rfl
    unfold nodeT
    rw [← hp]
    cases pB
    · by_cases h6 : k = 6
      · subst h6; cases f <;> rfl
      · by_cases h8 : k = 8
        · subst h8; cases f <;> rfl
        · cases f <;> simp [h6, h8, cv, cutT, To.noT]
    · obtain ⟨h6, h8⟩ := n68 true hp rfl
      cases f <;> simp [h6, h8, cv, cutT, To.noT]
  have sE : ∀ (known pB : Bool) (a b c' : Nat), (known = true → pB = false) → pB = prefB k → a = (if pB then 1 else 0) → b = (if k = 6 then 1 else 0) → c' = (if k = 8 then 1 else 0) →
      (ctE known (i k) (.sl (ks.map Pr.enc)) (.bool f) (.bool pB) (i (a : Int)) (i (b : Int)) (i (c' : Int))).den0 P (fun x => x = (cv f (tot (.mk k ch v ls ar t ks))).enc) [] := by
    intro known pB a b c' hkn hp h0 h1 h2
    have sQ : f = true → pB = false → (ctQ (i k) (.sl (ks.map Pr.enc)) (.bool f) (.bool pB) (i (a : Int)) (i (b : Int)) (i (c' : Int))).den0 P (fun x => x = (cv f (tot (.mk k ch v ls ar t ks))).enc) [] := by
      intro hf hpb
      unfold ctQ
      refine d_l (.bool (decide (k = 8))) rfl fun _ => d_dec (p := k = 8) (fun h8 => d_l (i ((1 : Nat) : Int)) rfl fun _ => ?_) fun h8 => ?_
      · exact fin pB ⟨a, b, c', 1⟩ hp (val hp h0 h1 h2 (by rw [hf, hpb]; simp [h8]))
      · exact fin pB ⟨a, b, c', 0⟩ hp (val hp h0 h1 h2 (by rw [hf, hpb]; simp [h8]))
    unfold ctE
    refine d_ite (fun hf => ?_) fun hf => ?_
    · cases known with
      | true => exact sQ hf (hkn rfl)
      | false =>
        refine d_ite (fun hpb => d_l (i ((1 : Nat) : Int)) rfl fun _ => ?_) fun hpb => sQ hf hpb
        exact fin pB ⟨a, b, c', 1⟩ hp (val hp h0 h1 h2 (by rw [hf, hpb]; rfl))
    · exact fin pB ⟨a, b, c', 0⟩ hp (val hp h0 h1 h2 (by rw [hf]; rfl))
  have s6 : ∀ (known pB : Bool) (a : Nat), (known = true → pB = false) → pB = prefB k → a = (if pB then 1 else 0) →
      (ctK6 known (i k) (.sl (ks.map Pr.enc)) (.bool f) (.bool pB) (i (a : Int))).den0 P (fun x => x = (cv f (tot (.mk k ch v ls ar t ks))).enc) [] := by
    intro known pB a hkn hp h0
    have s8 : ∀ b : Nat, b = (if k = 6 then 1 else 0) → (ctK8 known (i k) (.sl (ks.map Pr.enc)) (.bool f) (.bool pB) (i (a : Int)) (i (b : Int))).den0 P (fun x => x = (cv f (tot (.mk k ch v ls ar t ks))).enc) [] := by
      intro b hb
      unfold ctK8
      refine d_l (.bool (decide (k = 8))) rfl fun _ => d_dec (p := k = 8) (fun h8 => d_l (i ((1 : Nat) : Int)) rfl fun _ => sE known pB a b 1 hkn hp h0 hb (by rw [if_pos h8])) fun h8 => sE known pB a b 0 hkn hp h0 hb (by rw [if_neg h8])
    unfold ctK6
    refine d_l (.bool (decide (k = 6))) rfl fun _ => d_dec (p := k = 6) (fun h6 => d_l (i ((1 : Nat) : Int)) rfl fun _ => s8 1 (by rw [if_pos h6])) fun h6 => s8 0 (by rw [if_neg h6])
  refine hCt _ _ rfl (d_l (.agg [i k, .str ch, .str v, .sl (ls.map .str), .sl (ar.map Vl.enc), i t.kind, i t.prio, .str t.name, i t.shift, .sl (t.labels.map .str), .sl (t.kids.map Ty.enc), .sl (ks.map Pr.enc)]) rfl fun _ => d_l (.bool (decide (2 ≤ k))) rfl fun _ => d_dec (p := 2 ≤ k) (fun h2 => ?_) fun h2 => ?_)
  · refine d_l (.bool (decide (k ≤ 5))) rfl fun _ => ?_
    have hp : decide (k ≤ 5) = prefB k := by unfold prefB; simp [h2]
    refine d_ite (fun h5 => d_l (i ((1 : Nat) : Int)) rfl fun _ => s6 false _ 1 (by simp) hp (by rw [h5]; rfl)) fun h5 => s6 false _ 0 (by simp) hp (by rw [h5]; rfl)
  · exact s6 true false 0 (fun _ => rfl) (by unfold prefB; simp [h2]) rfl
end Go.Proofs.YtbfjpjllaibooaaGreat.Tx

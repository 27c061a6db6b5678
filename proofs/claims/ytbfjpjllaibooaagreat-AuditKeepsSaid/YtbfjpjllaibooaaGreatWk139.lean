/- Contracts (Wk138, Wk139). -/
import Derived.Test.YtbfjpjllaibooaaGreatWk137
import Derived.Test.YtbfjpjllaibooaaGreatWk69
import Derived.Test.YtbfjpjllaibooaaGreatWk134
import Derived.Test.YtbfjpjllaibooaaGreatWk33
set_option linter.all false
/- The reference of the package scope: Check, exactly. -/
namespace Go.Proofs.YtbfjpjllaibooaaGreat.Tx
open Go.Lf Go.Lf.S Go.Lf.Duo
set_option maxRecDepth 100000
def prN06 (d : Df) : List ByteArray := d.params.map Et.name
/-- a definition's name is new, and its parameters' names differ -/
def D06 (ds : List Df) (j : Nat) : Prop := ∀ d, ds[j]? = some d → (∀ q d', q < j → ds[q]? = some d' → d'.name ≠ d.name) ∧ (prN06 d).Nodup
/-- a program without a fault -/
def RP (p : Pg) : Prop := progE p = 0 ∧ (∀ j, D06 p.defs j) ∧ (∀ d ∈ p.defs, N06 p d.body (prN06 d) false) ∧ N06 p p.main [] true
theorem nd_take {l : List ByteArray} {k : Nat} (h : k < l.length) : (l.take (k + 1)).Nodup ↔ (l.take k).Nodup ∧ l[k] ∉ l.take k := by
 rw [List.take_succ_eq_append_getElem h, List.nodup_append]
 simp only [List.nodup_cons, List.not_mem_nil, not_false_eq_true, List.nodup_nil, and_true, List.mem_singleton, true_and]
 constructor
 ·rintro ⟨h1, h2⟩
  exact ⟨h1, fun hm => h2 _ hm _ rfl rfl⟩
 ·rintro ⟨h1, h2⟩
  exact ⟨h1, fun a ha b hb e => h2 (by rw [← hb, ← e]; exact ha)⟩
theorem nodup_at06 {l : List ByteArray} (hn : l.Nodup) {a b : Nat} {s : ByteArray} (ha : l[a]? = some s) (hb : l[b]? = some s) : a = b := by
 obtain ⟨h1, e1⟩ := List.getElem?_eq_some_iff.1 ha
 obtain ⟨h2, e2⟩ := List.getElem?_eq_some_iff.1 hb
 rw [List.Nodup, List.pairwise_iff_getElem] at hn
 rcases Nat.lt_trichotomy a b with h | h | h
 ·exact absurd (e1.trans e2.symm) (hn a b h1 h2 h)
 ·exact h
 ·exact absurd (e2.trans e1.symm) (hn b a h2 h1 h)
theorem ok_Check06 (p : Pg) (hlim : GLim p) {m : Nat} (hm : m ≤ 20000) (h : PgS p m) : ∃ e at_ : Int, Ok P F.ref06_Check [p.enc] (.tup [i e, i at_]) ∧ (e = 0 ↔ RP p) := by
 have h0 := h
 have hP := okx_ref03_Program p hlim hm h
 have hdl := h.len
 have hN : ∀ (x : Pr) (sc : List ByteArray) (g : Bool), PLim x → sc.length + 2 * x.sz ≤ 1000000000 → ∃ e : Int, Ok P F.ref06_node [p.enc, x.enc, .sl (sc.map .str), .bool g] (i e) ∧ (e = 0 ↔ N06 p x sc g) := ok_N06 p (by omega)
 have := tx_ex (K := fun x => ∃ e at_ : Int, x = .tup [i e, i at_] ∧ (e = 0 ↔ RP p)) k_ref06_Check (xs := [p.enc]) rfl (by simp [t_ref06_Check, T.dt]) (by
  have no : ∀ {e at_ : Int}, e ≠ 0 → ¬ RP p → ∃ e' at' : Int, PV.tup [i e, i at_] = .tup [i e', i at'] ∧ (e' = 0 ↔ RP p) := fun {e at_} he hq => ⟨e, at_, rfl, fun h => absurd h he, fun h => absurd h hq⟩
  refine d_l _ (e_okc (Pg.okc_enc p)) fun _ => d_call hP (d_l (.bool (!decide (progE p = 0))) rfl fun _ => d_ndec (fun h => d_ret (no h fun hc => h hc.1)) fun e0 => ?_)
  refine den_loop (fun m' ys => ∃ j : Nat, j + m' = p.defs.length ∧ (∀ q, q < j → D06 p.defs q) ∧ ys = [i j]) p.defs.length ⟨0, by omega, fun q h => by omega, rfl⟩ ?_
  rintro m' _ ⟨j, hj, hD, rfl⟩
  refine d_l _ (len_eq p.defs) fun _ => d_l (.bool (decide ((j : Int) < (p.defs.length : Int)))) rfl fun _ => d_dec (p := (j : Int) < (p.defs.length : Int)) (fun h => ?_) fun h => ?_
  ·have hjl : j < p.defs.length := by omega
   have hjd : p.defs[j]? = some p.defs[j] := List.getElem?_eq_getElem hjl
   have hpl := (h0.par p.defs[j] (List.getElem_mem hjl)).1
   have hix := e_idx (n := 14) (a := true) (mp_at (f := Df.enc) hjl) (Df.okc_enc _)
   obtain ⟨r, hr, hc⟩ := ok_Find06 p p.defs[j].name (by omega)
   generalize p.defs[j] = d at *
   refine d_l _ hix fun _ => d_l _ (e_okc (Df.okc_enc d)) fun _ => d_call hr ?_
   obtain ⟨q, d', rfl, hqd, hqn, _, hqm⟩ : ∃ (q : Nat) (d' : Df), r = q ∧ p.defs[q]? = some d' ∧ d'.name = d.name ∧ fstD p.defs d.name = some d' ∧ ∀ k d', k < q → p.defs[k]? = some d' → d'.name ≠ d.name := by
    rcases hc with ⟨_, hn⟩ | hc
    ·unfold fstD at hn
     rw [List.find?_eq_none] at hn
     exact absurd (hn d (List.mem_of_getElem? hjd)) (by simp)
    ·exact hc
   refine d_l (.bool (decide ((q : Int) < (j : Int)))) rfl fun _ => d_dec (p := (q : Int) < (j : Int)) (fun hq => d_ret (no (by omega) fun hc => ?_)) fun hq => ?_
   ·exact (hc.2.1 j d hjd).1 q d' (by omega) hqd hqn
   have new : ∀ k d', k < j → p.defs[k]? = some d' → d'.name ≠ d.name := fun k d' hk hd' => hqm k d' (by omega) hd'
   refine den_loop (fun m2 ys => ∃ k : Nat, k + m2 = d.params.length ∧ ((prN06 d).take k).Nodup ∧ ys = [i k]) d.params.length ⟨0, by omega, by simp, rfl⟩ ?_
   rintro m2 _ ⟨k, hk, hnd, rfl⟩
   refine d_l _ (len_eq d.params) fun _ => d_l (.bool (decide ((k : Int) < (d.params.length : Int)))) rfl fun _ => d_dec (p := (k : Int) < (d.params.length : Int)) (fun hkl => ?_) fun hkl => ?_
   ·have hkp : k < d.params.length := by omega
    have hkn : k < (prN06 d).length := by unfold prN06; simpa using hkp
    have hke : (prN06 d)[k] = d.params[k].name := by simp [prN06]
    refine den_loop (fun m3 ys => ∃ b : Nat, b + m3 = k ∧ (prN06 d)[k] ∉ (prN06 d).take b ∧ ys = [i b]) k ⟨0, by omega, by simp, rfl⟩ ?_
    rintro m3 _ ⟨b, hb, hbn, rfl⟩
    refine d_l (.bool (decide ((b : Int) < (k : Int)))) rfl fun _ => d_dec (p := (b : Int) < (k : Int)) (fun hbk => ?_) fun hbk => ?_
    ·have hbp : b < d.params.length := by omega
     have hbl : b < (prN06 d).length := by omega
     have hbe : (prN06 d)[b] = d.params[b].name := by simp [prN06]
     refine d_l _ (e_idx (mp_at (f := Et.enc) hbp) (Et.okc_enc _)) fun _ => d_l _ (e_idx (mp_at (f := Et.enc) hkp) (Et.okc_enc _)) fun _ => d_l (.bool (decide (d.params[b].name = d.params[k].name))) rfl fun _ => d_dec (p := d.params[b].name = d.params[k].name) (fun e => d_ret (no (by omega) fun hc => ?_)) fun e => d_l _ (e_inc (by omega)) fun _ => d_cont rfl ⟨m3 - 1, by omega, b + 1, by omega, fun hc => ?_, rfl⟩
     ·have := (hc.2.1 j d hjd).2
      have := nodup_at06 this (List.getElem?_eq_getElem hbl) (by rw [List.getElem?_eq_getElem hkn, hke, hbe, e])
      omega
     ·rw [List.take_succ_eq_append_getElem hbl] at hc
      rcases List.mem_append.1 hc with hc | hc
      ·exact hbn hc
      ·have := List.mem_singleton.1 hc
       rw [hke, hbe] at this
       exact e this.symm
    ·have hbk : b = k := by omega
     subst hbk
     exact d_l _ (e_inc (by omega)) fun _ => d_cont rfl ⟨m2 - 1, by omega, b + 1, by omega, (nd_take hkn).2 ⟨hnd, hbn⟩, rfl⟩
   ·have hndk : (prN06 d).Nodup := by
     rw [List.take_of_length_le (by unfold prN06; rw [List.length_map]; omega)] at hnd; exact hnd
    refine d_l _ (e_inc (by omega)) fun _ => d_cont rfl ⟨m' - 1, by omega, j + 1, by omega, fun q' hq' => ?_, rfl⟩
    by_cases e : q' = j
    ·subst e
     intro d2 hd2
     rw [hjd] at hd2; cases hd2
     exact ⟨new, hndk⟩
    ·exact hD q' (by omega)
  ·have hall : ∀ q, D06 p.defs q := fun q => by
    by_cases e : q < j
    ·exact hD q e
    ·intro d hd
     have := (List.getElem?_eq_some_iff.1 hd).1
     omega
   refine den_loop (fun m2 ys => ∃ a : Nat, a + m2 = p.defs.length ∧ (∀ d ∈ p.defs.take a, N06 p d.body (prN06 d) false) ∧ ys = [i a]) p.defs.length ⟨0, by omega, by simp, rfl⟩ ?_
   rintro m2 _ ⟨a, ha, hdn, rfl⟩
   refine d_l _ (len_eq p.defs) fun _ => d_l (.bool (decide ((a : Int) < (p.defs.length : Int)))) rfl fun _ => d_dec (p := (a : Int) < (p.defs.length : Int)) (fun hal => ?_) fun hal => ?_
   ·have hap : a < p.defs.length := by omega
    have hmem := List.getElem_mem hap
    have hpl := (h0.par p.defs[a] hmem).1
    have hbz := (h0.body p.defs[a] hmem).1
    have hbl := (hlim.defs p.defs[a] hmem).body
    have htk : p.defs.take (a + 1) = p.defs.take a ++ [p.defs[a]] := List.take_succ_eq_append_getElem hap
    have hix := e_idx (n := 14) (a := true) (mp_at (f := Df.enc) hap) (Df.okc_enc _)
    have hnl : (prN06 p.defs[a]).length = p.defs[a].params.length := by simp [prN06]
    obtain ⟨e, he, hi⟩ := hN p.defs[a].body (prN06 p.defs[a]) false hbl (by omega)
    rw [← sb_bodyA p.defs[a]] at he
    generalize p.defs[a] = d at *
    refine den_loop (fun m3 ys => ∃ b : Nat, b + m3 = d.params.length ∧ ys = [i b, .sl (((prN06 d).take b).map .str)]) d.params.length ⟨0, by omega, by simp⟩ ?_
    rintro m3 _ ⟨b, hb, rfl⟩
    refine d_l _ hix fun _ => d_l _ (len_eq d.params) fun _ => d_l (.bool (decide ((b : Int) < (d.params.length : Int)))) rfl fun _ => d_dec (p := (b : Int) < (d.params.length : Int)) (fun hbp => ?_) fun hbp => ?_
    ·have hbp : b < d.params.length := by omega
     have hbl : b < (prN06 d).length := by omega
     have hbe : (prN06 d)[b] = d.params[b].name := by simp [prN06]
     refine d_l _ hix fun _ => d_l _ (e_idx (mp_at (f := Et.enc) hbp) (Et.okc_enc _)) fun _ => d_l (.sl [.str d.params[b].name]) rfl fun _ => d_l _ (app_str (m := [d.params[b].name]) (by simp; omega)) fun _ => d_l _ (e_inc (by omega)) fun _ => d_cont rfl ⟨m3 - 1, by omega, b + 1, by omega, ?_⟩
     rw [List.take_succ_eq_append_getElem hbl, hbe]
    ·have etk : (prN06 d).take b = prN06 d := List.take_of_length_le (by omega)
     rw [etk]
     refine d_l _ hix fun _ => d_call he (d_l (.bool (!decide (e = 0))) rfl fun _ => d_ndec (fun h => d_ret (no h fun hc => h (hi.2 (hc.2.2.1 d hmem)))) fun h => d_l _ (e_inc (by omega)) fun _ => d_cont rfl ⟨m2 - 1, by omega, a + 1, by omega, fun x hx => ?_, rfl⟩)
     rw [htk] at hx
     rcases List.mem_append.1 hx with hx | hx
     ·exact hdn x hx
     ·obtain rfl := List.mem_singleton.1 hx; exact hi.1 h
   ·have hb : ∀ d ∈ p.defs, N06 p d.body (prN06 d) false := by rw [List.take_of_length_le (by omega)] at hdn; exact hdn
    have hmz := h0.main.1
    obtain ⟨e, he, hi⟩ := hN p.main [] true hlim.main (by simp; omega)
    rw [← sb_mainA p] at he
    exact d_call he (d_l _ (len_eq p.defs) fun _ => d_ret ⟨e, _, rfl, fun h => ⟨e0, hall, hb, hi.1 h⟩, fun h => hi.2 h.2.2.2⟩))
 obtain ⟨_, ⟨e, at_, rfl, he⟩, h⟩ := this
 exact ⟨e, at_, h, he⟩
end Go.Proofs.YtbfjpjllaibooaaGreat.Tx
/- A pruned program has no fault. -/
namespace Go.Proofs.YtbfjpjllaibooaaGreat.Tx
open Go.Lf Go.Lf.S Go.Lf.Duo
set_option maxRecDepth 100000
theorem firstE_iff : ∀ {l : List Df}, firstE l = 0 ↔ ∀ d ∈ l, prightE d.body = 0
 | [] => by simp [firstE]
 | d :: r => by
  rw [firstE]
  by_cases h : prightE d.body = 0
  ·rw [if_pos h, firstE_iff]; simp [h]
  ·rw [if_neg h]; simp [h]
theorem progE_iff {p : Pg} : progE p = 0 ↔ ¬ 10000 < total p ∧ firstE p.defs = 0 ∧ prightE p.main = 0 ∧ ∀ d ∈ p.defs, dfP d := by
 unfold progE
 by_cases h1 : 10000 < total p
 ·rw [if_pos h1]; simp [h1]
 ·rw [if_neg h1]
  by_cases h2 : firstE p.defs ≠ 0
  ·rw [if_pos h2]; simp [h2]
  ·rw [if_neg h2]
   by_cases h3 : prightE p.main ≠ 0
   ·rw [if_pos h3]; simp [h3]
   ·rw [if_neg h3]
    have h2 : firstE p.defs = 0 := Classical.not_not.1 h2
    have h3 : prightE p.main = 0 := Classical.not_not.1 h3
    by_cases h4 : ∀ d ∈ p.defs, dfP d
    ·rw [pb_iff.2 h4]; simp [h1, h2, h3]; exact h4
    ·rw [pb_false.2 h4]; simp only [Bool.false_eq_true, if_false]
     exact ⟨fun h => by omega, fun h => absurd h.2.2.2 h4⟩
end Go.Proofs.YtbfjpjllaibooaaGreat.Tx

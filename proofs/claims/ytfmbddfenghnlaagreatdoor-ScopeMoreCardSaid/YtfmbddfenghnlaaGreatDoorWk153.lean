/- The package scope: Check, exactly. -/
import Derived.Test.YtfmbddfenghnlaaGreatDoorWk152
import Derived.Test.YtfmbddfenghnlaaGreatDoorWk138
set_option linter.all false
namespace Go.Proofs.YtfmbddfenghnlaaGreatDoor.Tx
open Go.Lf Go.Lf.S Go.Lf.Duo
set_option maxRecDepth 100000

/-! what is twice in a list -/

theorem nodup_adj {α : Type} {le : α → α → Prop} (anti : ∀ a b, le a b → le b a → a = b) : ∀ {l : List α}, l.Pairwise le → (∀ (j : Nat) a b, l[j]? = some a → l[j + 1]? = some b → a ≠ b) → l.Nodup
  | [], _, _ => List.nodup_nil
  | [a], _, _ => by simp
  | a :: b :: r, hp, h => by
    have hp' := (List.pairwise_cons.1 hp)
    have ih := nodup_adj anti hp'.2 fun j x y hx hy => h (j + 1) x y (by simpa using hx) (by simpa using hy)
    rw [List.nodup_cons]
    refine ⟨fun hm => ?_, ih⟩
    have hab := h 0 a b rfl rfl
    rcases List.mem_cons.1 hm with e | hm
    · exact hab e
    · exact hab (anti a b (hp'.1 b (by simp)) ((List.pairwise_cons.1 hp'.2).1 a hm))

theorem comp_nodup (zs : List (List UInt8)) : (Lib.compact (zs.mergeSort fun x y => decide (x ≤ y))).length < zs.length ↔ ¬ zs.Nodup := by
  have hperm := List.mergeSort_perm zs fun x y => decide (x ≤ y)
  have hsort := List.pairwise_mergeSort (le := fun x y : List UInt8 => decide (x ≤ y)) (fun a b c h1 h2 => by
    simp only [decide_eq_true_eq] at h1 h2 ⊢; exact List.le_trans h1 h2) (fun a b => by
    simp only [Bool.or_eq_true, decide_eq_true_eq]; exact List.le_total a b) zs
  rw [← hperm.nodup_iff, ← hperm.length_eq]
  generalize (zs.mergeSort fun x y => decide (x ≤ y)) = ms at *
  unfold Lib.compact Lib.compactUpTo
  rw [List.length_map]
  have e : ms.length = (List.range ms.length).length := by simp
  conv => lhs; rhs; rw [e]
  rw [List.length_filter_lt_length_iff_exists]
  have hget : ∀ (j : Nat) (h : j < ms.length), ms.toArray[j]! = ms[j] := fun j h => by simp [h]
  constructor
  · rintro ⟨j, hj, hk⟩ hn
    have hj : j < ms.length := by simpa using hj
    unfold Lib.keeps at hk
    simp only [decide_eq_true_eq, not_or, Decidable.not_not] at hk
    obtain ⟨h1, h2⟩ := hk
    rw [hget j hj, hget (j - 1) (by omega)] at h2
    rw [List.Nodup, List.pairwise_iff_getElem] at hn
    exact hn (j - 1) j (by omega) hj (by omega) h2.symm
  · intro hn
    apply Classical.byContradiction
    intro hc
    refine hn (nodup_adj (le := fun x y : List UInt8 => x ≤ y) (fun a b h1 h2 => List.le_antisymm h1 h2) (hsort.imp fun h => by simpa using h) fun j a b ha hb e => hc ⟨j + 1, ?_, ?_⟩)
    · simpa using (List.getElem?_eq_some_iff.1 hb).1
    · obtain ⟨h1, rfl⟩ := List.getElem?_eq_some_iff.1 ha
      obtain ⟨h2, rfl⟩ := List.getElem?_eq_some_iff.1 hb
      unfold Lib.keeps
      simp only [decide_eq_true_eq, not_or, Decidable.not_not]
      refine ⟨by omega, ?_⟩
      rw [hget _ h2, Nat.add_sub_cancel, hget _ h1, e]

theorem ofB_inj {a b : ByteArray} (h : ofB a = ofB b) : a = b := by
  have := congrArg strL h
  rw [strL_ofB, strL_ofB] at this
  exact PV.str.inj this
theorem map_ofB (l : List ByteArray) : (l.map ofB).map strL = l.map PV.str := by
  rw [List.map_map]; exact List.map_congr_left fun b _ => strL_ofB b
theorem nodup_ofB {l : List ByteArray} : (l.map ofB).Nodup ↔ l.Nodup := by
  constructor
  · exact fun h => (List.pairwise_map.1 h).imp fun h e => h (by rw [e])
  · exact fun h => List.pairwise_map.2 (h.imp fun h e => h (ofB_inj e))

theorem okS_clone6 (zs : List (List UInt8)) (hl : zs.length ≤ 549755813888) : OkS P F.slices_Clone_string_string sg_slices_Clone_string_string [.sl (zs.map strL)] [.sl (zs.map strL)] :=
  m_slices_Clone_string_string _ _ (d_nilq (fun h => d_ret (by rw [h])) (d_l (.sl []) rfl fun _ => d_l _ (e_app (l := []) (m := zs.map strL) (all_map (fun _ => rfl) _) (by simp; omega) (by simp; omega)) fun _ => d_ret (by rw [List.nil_append])))

theorem okS_twice (l : List ByteArray) (hl : l.length ≤ 549755813888) : OkS P F.scope_twice sg_scope_twice [.sl (l.map .str)] [.bool (pb (¬ l.Nodup))] := by
  have key : ∀ (ms : List (List UInt8)), ms.length = l.length → OkS P F.slices_Sort_string_string sg_slices_Sort_string_string [.sl (l.map .str)] [.tup [], .sl (ms.map strL)] → ((Lib.compact ms).length < l.length ↔ ¬ l.Nodup) → OkS P F.scope_twice sg_scope_twice [.sl (l.map .str)] [.bool (pb (¬ l.Nodup))] := by
    intro ms hm hS hc
    refine m_scope_twice _ _ (d_calls rfl hS (d_calls rfl (okS_clone6 ms (by omega)) (d_calls rfl (okS_CompS ms (by omega)) (d_l _ (len_eq _) fun _ => d_l _ (len_eq _) fun _ => d_l (.bool (decide (((Lib.compact ms).length : Int) < (ms.length : Int)))) rfl fun _ => d_ret ?_))))
    congr 3
    rw [← pb_dec]
    exact pb_congr ⟨fun h => hc.1 (by omega), fun h => by have := hc.2 h; omega⟩
  by_cases h0 : l = []
  · subst h0
    exact key [] rfl okS_SortS0 (by simp)
  · have hS := okS_SortS (l.map ofB) (by simpa using h0) (by simp; omega)
    rw [map_ofB] at hS
    refine key _ (by rw [List.length_mergeSort, List.length_map]) hS ?_
    have e : (l.map ofB).length = l.length := List.length_map _
    rw [← nodup_ofB, ← e]
    exact comp_nodup _

theorem okS_params (d : Df) (hl : d.params.length ≤ 549755813888) : OkS P F.scope_params sg_scope_params [d.enc] [.sl ((prN06 d).map .str)] := by
  refine m_scope_params _ _ (d_l _ (e_okc (Df.okc_enc d)) fun _ => d_l _ (len_eq d.params) fun _ => ?_)
  refine den_rounds (fun j => [i j, .sl (((prN06 d).take j).map .str)]) d.params.length (by simp) (fun j hj => ?_) ?_
  · have hn : j < (prN06 d).length := by simpa [prN06] using hj
    have hne : (prN06 d)[j] = d.params[j].name := by simp [prN06]
    have htl : ((prN06 d).take j).length = j := by simp; omega
    rw [List.take_succ_eq_append_getElem hn, hne]
    refine d_l (.bool (decide ((j : Int) < (d.params.length : Int)))) rfl fun _ => d_dec (p := (j : Int) < (d.params.length : Int)) (fun _ => ?_) fun h => absurd h (by omega)
    exact d_l _ (e_idx (mp_at (f := Et.enc) hj) (Et.okc_enc _)) fun _ => d_l _ (e_okc (Et.okc_enc _)) fun _ => d_l (.sl [.str d.params[j].name]) rfl fun _ => d_l _ (app_str (m := [d.params[j].name]) (by simp; omega)) fun _ => d_l _ (e_inc (by omega)) fun _ => d_cont rfl (by simp)
  · refine d_l (.bool (decide ((d.params.length : Int) < (d.params.length : Int)))) rfl fun _ => d_dec (p := (d.params.length : Int) < (d.params.length : Int)) (fun h => absurd h (by omega)) fun h => d_ret ?_
    rw [List.take_of_length_le (by simp [prN06])]; rfl

/-! the first fault -/

noncomputable def bdE (p : Pg) (j : Nat) : Int := match p.defs[j]? with
  | some d => e06 p d.body (prN06 d) false
  | none => 0
noncomputable def chk (e0 : Int) (p : Pg) : Int × Nat := if e0 ≠ 0 then (e0, 0) else match (List.range p.defs.length).find? (fun j => !pb (D06 p.defs j)) with
  | some j => (5, j)
  | none => match (List.range p.defs.length).find? (fun j => !decide (bdE p j = 0)) with
    | some j => (bdE p j, j)
    | none => (e06 p p.main [] true, p.defs.length)
theorem find_at {b : Nat → Bool} {m j : Nat} (hj : j < m) (h : b j = true) (hm : ∀ q, q < j → b q = false) : (List.range m).find? b = some j := by
  rw [List.find?_range_eq_some]
  exact ⟨h, by simpa using hj, fun q hq => by simp [hm q hq]⟩
theorem find_no {b : Nat → Bool} {m : Nat} (hm : ∀ q, q < m → b q = false) : (List.range m).find? b = none := by
  rw [List.find?_range_eq_none]
  exact fun q hq => by simp [hm q hq]
theorem chk_p {e0 : Int} {p : Pg} (h : e0 ≠ 0) : chk e0 p = (e0, 0) := by unfold chk; rw [if_pos h]
theorem chk_d {p : Pg} {j : Nat} (hj : j < p.defs.length) (h : ¬ D06 p.defs j) (hm : ∀ q, q < j → D06 p.defs q) : chk 0 p = (5, j) := by
  unfold chk; rw [if_neg (by simp), find_at hj (by rw [pb_false.2 h]; rfl) fun q hq => by rw [pb_iff.2 (hm q hq)]; rfl]
theorem chk_b {p : Pg} {j : Nat} (hj : j < p.defs.length) (hD : ∀ q, q < p.defs.length → D06 p.defs q) (h : bdE p j ≠ 0) (hm : ∀ q, q < j → bdE p q = 0) : chk 0 p = (bdE p j, j) := by
  unfold chk; rw [if_neg (by simp), find_no fun q hq => by rw [pb_iff.2 (hD q hq)]; rfl]
  simp only
  rw [find_at hj (by simpa using h) fun q hq => by simpa using hm q hq]
theorem chk_m {p : Pg} (hD : ∀ q, q < p.defs.length → D06 p.defs q) (hm : ∀ q, q < p.defs.length → bdE p q = 0) : chk 0 p = (e06 p p.main [] true, p.defs.length) := by
  unfold chk; rw [if_neg (by simp), find_no fun q hq => by rw [pb_iff.2 (hD q hq)]; rfl]
  simp only
  rw [find_no fun q hq => by simpa using hm q hq]

/-- what the package scope says of it -/
noncomputable def fltE (e0 : Int) (p : Pg) : PV := if (chk e0 p).1 = 0 then .agg [i 0, i 0] else .agg [i (chk e0 p).1, i ((chk e0 p).2 : Nat)]
theorem wk_eq (p : Pg) (b : Bool) : wkV p b = .agg [c 0 p.enc, c 1 p.enc, c 2 p.enc, c 3 p.enc, c 4 p.enc, c 5 p.enc, c 6 p.enc, c 7 p.enc, c 8 p.enc, c 9 p.enc, c 10 p.enc, c 11 p.enc, c 12 p.enc, .bool b] := by
  obtain ⟨ds, m⟩ := p
  cases m; simp only [wkV, Pg.enc, Pr.enc_mk]; rfl

theorem ok_scope_Check (p : Pg) (hlim : GLim p) {m L : Nat} (hm : m ≤ 20000) (h0 : PgS p m L) {e0 : Int} (hP : Ok P F.proctree_Program [p.enc] (i e0)) (hL : L ≤ 21 := by decide) : Ok P F.scope_Check [p.enc] (fltE e0 p) := by
  have hdl := Nat.le_trans h0.len hL
  have hpl : ∀ d ∈ p.defs, d.params.length ≤ 549755813888 := fun d hd => by have := (h0.par d hd).1; omega
  have hdl2 : ∀ d ∈ p.defs, d.params.length ≤ 9223372036854775807 := fun d hd => by have := hpl d hd; omega
  have hW : ∀ (b : Bool) (x : Pr) (ls : List ByteArray) (g : Bool), PLim x → Ok P F.scope_walker_walk [.agg [c 0 p.enc, c 1 p.enc, c 2 p.enc, c 3 p.enc, c 4 p.enc, c 5 p.enc, c 6 p.enc, c 7 p.enc, c 8 p.enc, c 9 p.enc, c 10 p.enc, c 11 p.enc, c 12 p.enc, .bool b], x.enc, setV ls, .bool g] (i (e06 p x ls g)) := fun b x ls g hx => by
    rw [← wk_eq]; exact ok_walkA p (by omega) hdl2 b x ls g hx
  have out : ∀ {e : Int} {a : Nat}, chk e0 p = (e, a) → e ≠ 0 → PV.agg [i e, i (a : Nat)] = fltE e0 p := fun {e a} h he => by
    unfold fltE; rw [h, if_neg he]
  refine k_scope_Check _ _ rfl (d_l _ (e_okc (Pg.okc_enc p)) fun _ => d_call hP (d_l (.bool (!decide (e0 = 0))) rfl fun _ => d_ndec (fun h => d_l .nilI rfl fun _ => d_ret (out (chk_p h) h)) fun h00 => ?_))
  subst h00
  refine d_l _ (len_eq p.defs) fun _ => den_loop (fun m' ys => ∃ j : Nat, j + m' = p.defs.length ∧ (∀ q, q < j → D06 p.defs q) ∧ ys = [i j]) p.defs.length ⟨0, by omega, fun q h => by omega, rfl⟩ ?_
  rintro m' _ ⟨j, hj, hD, rfl⟩
  refine d_l (.bool (decide ((j : Int) < (p.defs.length : Int)))) rfl fun _ => d_dec (p := (j : Int) < (p.defs.length : Int)) (fun h => ?_) fun h => ?_
  · have hjl : j < p.defs.length := by omega
    have hjd : p.defs[j]? = some p.defs[j] := List.getElem?_eq_getElem hjl
    have hpj := hpl p.defs[j] (List.getElem_mem hjl)
    have hix := e_idx (n := 14) (a := true) (mp_at (f := Df.enc) hjl) (Df.okc_enc _)
    obtain ⟨r, hr, hc⟩ := ok_FindS p p.defs[j].name (by omega)
    have hpa := okS_params p.defs[j] hpj
    have htw := okS_twice (prN06 p.defs[j]) (by simpa [prN06] using hpj)
    generalize p.defs[j] = d at *
    obtain ⟨q, d', rfl, hqd, hqn, _, hqm⟩ : ∃ (q : Nat) (d' : Df), r = q ∧ p.defs[q]? = some d' ∧ d'.name = d.name ∧ fstD p.defs d.name = some d' ∧ ∀ k d', k < q → p.defs[k]? = some d' → d'.name ≠ d.name := by
      rcases hc with ⟨_, hn⟩ | hc
      · unfold fstD at hn
        rw [List.find?_eq_none] at hn
        exact absurd (hn d (List.mem_of_getElem? hjd)) (by simp)
      · exact hc
    have eq : max (q : Int) 0 = q := by omega
    rw [eq] at hr
    refine d_l _ hix fun _ => d_l _ (e_okc (Df.okc_enc d)) fun _ => d_call hr (d_l (i (q : Nat)) rfl fun _ => d_l (.bool (decide (0 ≤ (q : Int)))) rfl fun _ => d_l (.bool (decide ((q : Int) < (j : Int)))) rfl fun _ => d_dec (p := (q : Int) < (j : Int)) (fun hq => d_l .nilI rfl fun _ => d_ret (out (chk_d hjl (fun hc => ?_) hD) (by omega))) fun hq => ?_)
    · exact (hc d hjd).1 q d' (by omega) hqd hqn
    have new : ∀ k d', k < j → p.defs[k]? = some d' → d'.name ≠ d.name := fun k d' hk hd' => hqm k d' (by omega) hd'
    refine d_calls rfl hpa (d_calls rfl htw (d_ite (fun hb => d_l .nilI rfl fun _ => d_ret (out (chk_d hjl (fun hc => pb_iff.1 hb (hc d hjd).2) hD) (by omega))) fun hb => d_l _ (e_inc (by omega)) fun _ => d_cont rfl ⟨m' - 1, by omega, j + 1, by omega, fun q' hq' => ?_, rfl⟩))
    by_cases e : q' = j
    · subst e
      intro d2 hd2
      rw [hjd] at hd2; cases hd2
      exact ⟨new, Classical.not_not.1 (pb_false.1 hb)⟩
    · exact hD q' (by omega)
  · have hall : ∀ q, q < p.defs.length → D06 p.defs q := fun q hq => hD q (by omega)
    refine d_l _ (len_eq p.defs) fun _ => den_loop (fun m2 ys => ∃ a : Nat, a + m2 = p.defs.length ∧ (∀ q, q < a → bdE p q = 0) ∧ ys = [i a]) p.defs.length ⟨0, by omega, fun q h => by omega, rfl⟩ ?_
    rintro m2 _ ⟨a, ha, hdn, rfl⟩
    refine d_l (.bool (decide ((a : Int) < (p.defs.length : Int)))) rfl fun _ => d_dec (p := (a : Int) < (p.defs.length : Int)) (fun hal => ?_) fun hal => ?_
    · have hap : a < p.defs.length := by omega
      have hmem := List.getElem_mem hap
      have hpa := okS_params p.defs[a] (hpl _ hmem)
      have hpj := hpl _ hmem
      have hbl := (hlim.defs p.defs[a] hmem).body
      have hix := e_idx (n := 14) (a := true) (mp_at (f := Df.enc) hap) (Df.okc_enc _)
      have hw1 := ok_with [] (prN06 p.defs[a]) (by simp [prN06]; omega)
      have hwk := hW false p.defs[a].body (addL [] (prN06 p.defs[a])) false hbl
      rw [← sb_bodyA p.defs[a]] at hwk
      have hbe : e06 p p.defs[a].body (addL [] (prN06 p.defs[a])) false = bdE p a := by
        unfold bdE
        rw [List.getElem?_eq_getElem hap]
        exact e06_congr (g := false) _ fun x => by rw [mem_addL]; simp
      rw [hbe] at hwk
      generalize hd : p.defs[a] = d at *
      refine d_l _ hix fun _ => d_l _ (e_okc (Df.okc_enc d)) fun _ => d_calls rfl hpa (d_call hw1 (d_l (setV (addL [] (prN06 d))) rfl fun _ => d_l (.bool (frB [] (prN06 d))) rfl fun _ => d_l .nilI (by simp [Prim.ev, Pg.okc_enc]) fun _ => d_call hwk (d_l (.bool (!decide (bdE p a = 0))) rfl fun _ => d_ndec (fun hne => d_l .nilI rfl fun _ => d_ret (out (chk_b hap hall hne hdn) hne)) fun hz => d_l _ (e_inc (by omega)) fun _ => d_cont rfl ⟨m2 - 1, by omega, a + 1, by omega, fun q hq => ?_, rfl⟩)))
      by_cases e : q = a
      · subst e; exact hz
      · exact hdn q (by omega)
    · have hb : ∀ q, q < p.defs.length → bdE p q = 0 := fun q hq => hdn q (by omega)
      have hwk := hW true p.main [] true hlim.main
      rw [← sb_mainA p] at hwk
      have hcm := chk_m hall hb
      refine d_l .nilI (by simp [Prim.ev, Pg.okc_enc]) fun _ => d_call hwk (d_l (.bool (!decide (e06 p p.main [] true = 0))) rfl fun _ => d_ndec (fun hne => d_l _ (len_eq p.defs) fun _ => d_l .nilI rfl fun _ => d_ret (out hcm hne)) fun hz => d_ret ?_)
      unfold fltE
      rw [hcm, if_pos hz]
end Go.Proofs.YtfmbddfenghnlaaGreatDoor.Tx

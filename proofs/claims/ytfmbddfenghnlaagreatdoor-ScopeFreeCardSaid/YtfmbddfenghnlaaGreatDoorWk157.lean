/- Law 6, ScopeFree: what is free in a program without a fault. -/
import Derived.Test.YtfmbddfenghnlaaGreatDoorWk154
import Derived.Test.YtfmbddfenghnlaaGreatDoorWk156
import Derived.Test.YtfmbddfenghnlaaGreatDoorWk72
set_option linter.all false
namespace Go.Proofs.YtfmbddfenghnlaaGreatDoor.Tx
open Go.Lf Go.Lf.S Go.Lf.Duo
set_option maxRecDepth 100000

theorem ndE_0 {w : Pg} {k : Int} {ch v : ByteArray} {ar : List Vl} {sc : List ByteArray} {g : Bool} (h : ndE w k ch v ar sc g = 0) :
    (pfx k = true → ch ∈ sc) ∧ (∀ a ∈ ar, a.kind = 1 → a.name ∈ sc) ∧ (k = 8 → ∃ d, fstD w.defs ch = some d ∧ d.params.length = ar.length) := by
  unfold ndE at h
  split at h
  · cases h
  rename_i h1
  split at h
  · cases h
  rename_i h2
  split at h
  · refine ⟨fun hp => ?_, fun a ha hk => ?_, fun h8 => ?_⟩
    · apply Classical.byContradiction
      intro hn
      exact h1 (by rw [hp, pb_false.2 hn]; rfl)
    · apply Classical.byContradiction
      intro hn
      exact h2 (List.any_eq_true.2 ⟨a, ha, by rw [decide_eq_true hk, pb_false.2 hn]; rfl⟩)
    · rw [if_pos h8] at h
      unfold callE at h
      split at h
      · cases h
      · rename_i d hd
        split at h
        · rename_i hl; exact ⟨d, hd, hl⟩
        · cases h
  · cases h
theorem e06s_all {w : Pg} {sc : List ByteArray} {g : Bool} : ∀ {l : List Pr}, e06s w l sc g = 0 ↔ ∀ x ∈ l, e06 w x sc g = 0
  | [] => by simp [e06s]
  | p :: r => by
    simp only [e06s]
    by_cases h : e06 w p sc g = 0
    · rw [if_pos h, e06s_all (l := r)]; simp [h]
    · rw [if_neg h]; simp [h]
theorem e06_0 {w : Pg} {k : Int} {ch v : ByteArray} {ls : List ByteArray} {ar : List Vl} {t : Ty} {ks : List Pr} {sc : List ByteArray} {g : Bool} (h : e06 w (.mk k ch v ls ar t ks) sc g = 0) :
    ndE w k ch v ar sc g = 0 ∧ ∀ x ∈ ks, e06 w x (sc ++ bindF k ch v) (g || pfx k) = 0 := by
  simp only [e06] at h
  by_cases h0 : ndE w k ch v ar sc g = 0
  · rw [if_pos h0] at h; exact ⟨h0, e06s_all.1 h⟩
  · rw [if_neg h0] at h; exact absurd h h0

theorem bnd_eq (k : Int) (c v : ByteArray) (b : List ByteArray) : bnd k c v b = b ++ bindF k c v := by
  unfold bnd bindF
  split
  · rfl
  · split
    · rfl
    · simp
theorem mem_usFs {x : ByteArray} {b : List ByteArray} : ∀ {l : List Pr}, x ∈ usFs l b ↔ ∃ p ∈ l, x ∈ usF p b
  | [] => by simp [usFs]
  | p :: r => by simp only [usFs, List.mem_append, mem_usFs (l := r), List.mem_cons, exists_eq_or_imp]
/-- what is used and not bound stands in the scope -/
theorem us_in {w : Pg} : ∀ (p : Pr) (sc b S : List ByteArray) (g : Bool), e06 w p sc g = 0 → (∀ x ∈ sc, x ∈ b ∨ x ∈ S) → ∀ x ∈ usF p b, x ∈ S := by
  intro p
  induction p using Pr.ind with
  | _ p ih =>
  intro sc b S g h hsc x hx
  obtain ⟨k, ch, v, ls, ar, t, ks⟩ := p
  obtain ⟨h1, h2⟩ := e06_0 h
  obtain ⟨n1, n2, _⟩ := ndE_0 h1
  simp only [usF, List.mem_append, List.mem_filter] at hx
  rcases hx with ⟨hx, hb⟩ | hx
  · have hxs : x ∈ sc := by
      unfold uN at hx
      rcases List.mem_append.1 hx with hx | hx
      · split at hx
        · rename_i hk
          obtain rfl := List.mem_singleton.1 hx
          exact n1 (by unfold pfx; simp [hk])
        · cases hx
      · unfold aN at hx
        obtain ⟨a, ha, rfl⟩ := List.mem_map.1 hx
        obtain ⟨ha, hk⟩ := List.mem_filter.1 ha
        exact n2 a ha (of_decide_eq_true hk)
    rcases hsc x hxs with h3 | h3
    · rw [memB_iff.2 h3] at hb; cases hb
    · exact h3
  · obtain ⟨y, hy, hx⟩ := mem_usFs.1 hx
    rw [bnd_eq] at hx
    refine ih y hy _ _ S _ (h2 y hy) (fun z hz => ?_) x hx
    rcases List.mem_append.1 hz with hz | hz
    · exact (hsc z hz).imp (fun h => List.mem_append.2 (.inl h)) id
    · exact .inl (List.mem_append.2 (.inr hz))
theorem mem_colls {f : Int → ByteArray → ByteArray → List ByteArray} {x : ByteArray} : ∀ {l : List Pr}, x ∈ colls f l ↔ ∃ p ∈ l, x ∈ coll f p
  | [] => by simp [colls]
  | p :: r => by simp only [colls, List.mem_append, mem_colls (l := r), List.mem_cons, exists_eq_or_imp]
theorem calls_in {w : Pg} : ∀ (p : Pr) (sc : List ByteArray) (g : Bool), e06 w p sc g = 0 → ∀ x ∈ coll callF p, fstD w.defs x ≠ none := by
  intro p
  induction p using Pr.ind with
  | _ p ih =>
  intro sc g h x hx
  obtain ⟨k, ch, v, ls, ar, t, ks⟩ := p
  obtain ⟨h1, h2⟩ := e06_0 h
  obtain ⟨_, _, n3⟩ := ndE_0 h1
  simp only [coll, List.mem_append] at hx
  rcases hx with hx | hx
  · unfold callF at hx
    split at hx
    · rename_i h8
      obtain rfl := List.mem_singleton.1 hx
      obtain ⟨d, hd, _⟩ := n3 h8
      rw [hd]; simp
    · cases hx
  · obtain ⟨y, hy, hx⟩ := mem_colls.1 hx
    exact ih y hy _ _ (h2 y hy) x hx
theorem fst_some {ds : List Df} {s : ByteArray} {d : Df} (h : fstD ds s = some d) : d ∈ ds := List.mem_of_find?_eq_some h
theorem pa_of {w : Pg} (hd : ∀ d ∈ w.defs, d.params.length ≤ 20) : ∀ (p : Pr) (sc : List ByteArray) (g : Bool), NodesP p → e06 w p sc g = 0 → PA 20 p := by
  intro p
  induction p using Pr.ind with
  | _ p ih =>
  intro sc g hn h
  obtain ⟨k, ch, v, ls, ar, t, ks⟩ := p
  obtain ⟨h1, h2⟩ := e06_0 h
  obtain ⟨_, _, n3⟩ := ndE_0 h1
  obtain ⟨⟨_, hb⟩, hk⟩ := nodesP_iff.1 hn
  refine .mk _ ?_ fun y hy => ih y hy _ _ (hk y hy) (h2 y hy)
  show ar.length ≤ 20
  rcases hb with hb | hb | hb | hb | hb | hb | hb | hb
  · have := hb.2.2.2.1; simp only [Pr.args] at this; omega
  · have := hb.2.2.2.1; simp only [Pr.args] at this; omega
  · have := hb.2.2.2.1; simp only [Pr.args] at this; omega
  · have := hb.2.2.2.1; simp only [Pr.args] at this; omega
  · have := hb.2.2.2.1; simp only [Pr.args] at this; omega
  · have := hb.2.2.2.2.1; simp only [Pr.args] at this; omega
  · have := hb.2.2.2.2.1; simp only [Pr.args] at this; omega
  · obtain ⟨d, hf, hl⟩ := n3 hb.1
    have := hd d (fst_some hf)
    omega
theorem nodes_of {p : Pr} (h : prightE p = 0) : NodesP p := by
  unfold prightE at h
  split at h
  · cases h
  · split at h
    · rename_i hn; exact pb_iff.1 hn
    · cases h
theorem mem_addAll {x : ByteArray} : ∀ {l o : List ByteArray}, x ∈ addAll o l ↔ x ∈ o ∨ x ∈ l
  | [], o => by simp [addAll]
  | s :: l, o => by
    have := mem_addAll (x := x) (l := l) (o := addS s o)
    show x ∈ addAll (addS s o) l ↔ _
    rw [this, mem_addS, List.mem_cons, or_assoc]

/-- the free names of a node without a fault -/
theorem ok_FreeF {w : Pg} (hd : ∀ d ∈ w.defs, d.params.length ≤ 20) {p : Pr} (hlim : PLim p) {m : Nat} (hz : p.sz ≤ m ∧ pdep p ≤ 150 ∧ TB 300 p) (hm : m ≤ 20000) {S : List ByteArray} {g : Bool} (hn : prightE p = 0) (h : e06 w p S g = 0) :
    ∃ L : List ByteArray, L.length ≤ 1000000 ∧ Ok P F.ref03_Free [p.enc] (.sl (L.map .str)) ∧ ∀ x ∈ L, x ∈ S := by
  have hpa := pa_of hd p S g (nodes_of hn) h
  have hnu := nU_le p hpa
  have h21 : p.sz * (20 + 1) ≤ 20000 * 21 := Nat.mul_le_mul_right _ (by omega)
  have hul := usF_len p []
  have hal := addAll_len (usF p []) []
  refine ⟨addAll [] (usF p []), by simp at hal; omega, ok_ref03_Free p hlim (by omega) (by omega), fun x hx => ?_⟩
  rcases mem_addAll.1 hx with h1 | h1
  · cases h1
  · exact us_in p S [] S g h (fun y hy => .inr hy) x h1

theorem ok_law06_ScopeFree (p : Pg) (hp : GLim p) : Ok P F.law06_ScopeFree [p.enc] (.bool true) := by
  obtain ⟨b1, hb1, hg1⟩ := ok_ref03_Little p hp 1000 (by omega)
  refine k_law06_ScopeFree _ _ rfl (d_l _ (e_okc (Pg.okc_enc p)) fun _ => d_call awake06 (d_l (.bool false) rfl fun _ => d_false (d_call hb1 (d_l (.bool (!b1)) rfl fun _ => d_ite (fun _ => d_call awake06 (d_ret rfl)) fun h1 => ?_))))
  have hb1t : b1 = true := by simpa using h1
  subst hb1t
  have h1 := hg1 rfl
  have hlen := h1.len
  have hP := okx_proctree_Program p hp (by omega) h1
  have hR := okx_ref03_Program p hp (by omega) h1
  have hS := ok_scope_Check p hp (by omega) h1 hP
  have hC := ok_CheckE p hp (by omega) h1 hR
  obtain ⟨b, hf, hb0, hb1'⟩ := fltE_cases (progE p) p
  rw [hf] at hS
  have hk := chk_0 (e0 := progE p) (p := p)
  generalize (chk (progE p) p).1 = e at *
  refine d_call hS (d_l (.agg [i e, i b]) rfl fun _ => d_l (.bool (!decide (e = 0))) rfl fun _ => d_ndec (fun he => ?_) fun he => ?_)
  · have hRt : Ok P F.ref06_Right [p.enc, i 1000] (.bool false) := by
      refine k_ref06_Right _ _ rfl (d_l _ (e_okc (Pg.okc_enc p)) fun _ => d_call hb1 (d_l (.bool false) rfl fun _ => d_false (d_call hC (d_l (i e) rfl fun _ => d_l (i ((chk (progE p) p).2 : Nat)) rfl fun _ => d_l (.bool (decide (e = 0))) rfl fun _ => d_ret ?_))))
      rw [decide_eq_false he]
    exact d_call hRt (d_l (.bool true) rfl fun _ => d_ret rfl)
  · obtain ⟨he0, hD, hB, hM⟩ := hk.1 he
    rw [bd_all] at hB
    obtain ⟨_, g2, g3, _⟩ := prog_iff.1 he0
    have hpar : ∀ d ∈ p.defs, d.params.length ≤ 20 := fun d hd => (h1.par d hd).1
    obtain ⟨LM, hLM, hFM, hinM⟩ := ok_FreeF hpar hp.main h1.main (by omega) g3 hM
    rw [← sb_mainA p] at hFM
    refine den_loop (fun m' ys => ∃ j : Nat, j + m' = p.defs.length ∧ ys = [i j]) p.defs.length ⟨0, by omega, rfl⟩ ?_
    rintro m' _ ⟨j, hj, rfl⟩
    refine d_l _ (len_eq p.defs) fun _ => d_l (.bool (decide ((j : Int) < (p.defs.length : Int)))) rfl fun _ => d_dec (p := (j : Int) < (p.defs.length : Int)) (fun h => ?_) fun h => ?_
    · have hjl : j < p.defs.length := by omega
      have hmem := List.getElem_mem hjl
      have hix := e_idx (n := 14) (a := true) (mp_at (f := Df.enc) hjl) (Df.okc_enc _)
      obtain ⟨L, hL, hF, hin⟩ := ok_FreeF hpar (hp.defs _ hmem).body (h1.body _ hmem) (by omega) (g2 _ hmem) (hB _ hmem)
      have hdp := hpar _ hmem
      have hcin := calls_in _ _ _ (hB _ hmem)
      have hbz := (h1.body _ hmem).1
      have hCa := ok_Calls06 p.defs[j].body (by omega)
      have hcl := coll_len call_le p.defs[j].body
      rw [← sb_bodyA p.defs[j]] at hF hCa
      generalize p.defs[j] = d at *
      refine d_l _ hix fun _ => d_call hF ?_
      refine den_loop (fun m2 ys => ∃ a : Nat, a + m2 = L.length ∧ ys = [i a]) L.length ⟨0, by omega, rfl⟩ ?_
      rintro m2 _ ⟨a, ha, rfl⟩
      refine d_l _ (len_eq L) fun _ => d_l (.bool (decide ((a : Int) < (L.length : Int)))) rfl fun _ => d_dec (p := (a : Int) < (L.length : Int)) (fun h2 => ?_) fun h2 => ?_
      · have hal : a < L.length := by omega
        have hLa := hin _ (List.getElem_mem hal)
        have hlx := e_idx (n := 1) (a := false) (mp_at (f := PV.str) hal) rfl
        generalize L[a] = s at *
        refine den_loop (fun m3 ys => ∃ t : Nat, t + m3 = d.params.length ∧ ys = [i t, .bool (memB s ((prN06 d).take t))]) d.params.length ⟨0, by omega, by simp [memB]⟩ ?_
        rintro m3 _ ⟨t, ht, rfl⟩
        refine d_l _ hix fun _ => d_l _ (len_eq d.params) fun _ => d_l (.bool (decide ((t : Int) < (d.params.length : Int)))) rfl fun _ => d_dec (p := (t : Int) < (d.params.length : Int)) (fun h3 => ?_) fun h3 => ?_
        · have htl : t < d.params.length := by omega
          have htn : t < (prN06 d).length := by simpa [prN06] using htl
          have hte : (prN06 d)[t] = d.params[t].name := by simp [prN06]
          have hts : (prN06 d).take (t + 1) = (prN06 d).take t ++ [d.params[t].name] := by rw [List.take_succ_eq_append_getElem htn, hte]
          refine d_ite (fun hb => ?_) fun hb => ?_
          · refine d_l _ (e_inc (by omega)) fun _ => d_cont rfl ⟨m3 - 1, by omega, t + 1, by omega, ?_⟩
            have : memB s ((prN06 d).take (t + 1)) = true := by rw [hts]; exact memB_iff.2 (List.mem_append.2 (.inl (memB_iff.1 hb)))
            rw [this]
          · refine d_l _ hix fun _ => d_l _ (e_idx (mp_at (f := Et.enc) htl) (Et.okc_enc _)) fun _ => d_l _ hlx fun _ => d_l (.bool (decide (d.params[t].name = s))) rfl fun _ => d_l _ (e_inc (by omega)) fun _ => d_cont rfl ⟨m3 - 1, by omega, t + 1, by omega, ?_⟩
            have : memB s ((prN06 d).take (t + 1)) = decide (d.params[t].name = s) := by
              rw [hts, Bool.eq_iff_iff, memB_iff, decide_eq_true_iff, List.mem_append, List.mem_singleton]
              have hn : s ∉ (prN06 d).take t := fun hc => by rw [memB_iff.2 hc] at hb; cases hb
              exact ⟨fun h => h.elim (fun h => absurd h hn) Eq.symm, fun h => .inr h.symm⟩
            rw [this]
        · have : memB s ((prN06 d).take t) = true := memB_iff.2 (by rw [List.take_of_length_le (by simp [prN06]; omega)]; exact hLa)
          rw [this]
          exact d_l (.bool false) rfl fun _ => d_false (d_l _ (e_inc (by omega)) fun _ => d_cont rfl ⟨m2 - 1, by omega, a + 1, by omega, rfl⟩)
      · refine d_l _ hix fun _ => d_call hCa ?_
        generalize coll callF d.body = Cs at *
        refine den_loop (fun m3 ys => ∃ t : Nat, t + m3 = Cs.length ∧ ys = [i t]) Cs.length ⟨0, by omega, rfl⟩ ?_
        rintro m3 _ ⟨t, ht, rfl⟩
        refine d_l _ (len_eq Cs) fun _ => d_l (.bool (decide ((t : Int) < (Cs.length : Int)))) rfl fun _ => d_dec (p := (t : Int) < (Cs.length : Int)) (fun h3 => ?_) fun h3 => ?_
        · have htl : t < Cs.length := by omega
          obtain ⟨r, hr, hc⟩ := ok_Find06 p Cs[t] (by omega)
          refine d_l _ (e_idx (mp_at (f := PV.str) htl) rfl) fun _ => d_call hr (d_l (.bool (decide (r < 0))) rfl fun _ => d_dec (p := r < 0) (fun h4 => ?_) fun _ => d_l _ (e_inc (by omega)) fun _ => d_cont rfl ⟨m3 - 1, by omega, t + 1, by omega, rfl⟩)
          rcases hc with ⟨_, hn⟩ | ⟨q, _, rfl, _⟩
          · exact absurd hn (hcin _ (List.getElem_mem htl))
          · omega
        · exact d_l _ (e_inc (by omega)) fun _ => d_cont rfl ⟨m' - 1, by omega, j + 1, by omega, rfl⟩
    · have : LM = [] := List.eq_nil_iff_forall_not_mem.2 fun x hx => by cases hinM x hx
      subst this
      exact d_call hFM (d_l (i 0) rfl fun _ => d_l (.bool true) rfl fun _ => d_ret rfl)
end Go.Proofs.YtfmbddfenghnlaaGreatDoor.Tx

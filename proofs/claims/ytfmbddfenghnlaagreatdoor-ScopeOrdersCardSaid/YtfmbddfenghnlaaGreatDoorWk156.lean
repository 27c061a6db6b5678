/- Law 6, ScopeOrders: the order of the definitions. -/
import Derived.Test.YtfmbddfenghnlaaGreatDoorWk155
set_option linter.all false
namespace Go.Proofs.YtfmbddfenghnlaaGreatDoor.Tx
open Go.Lf Go.Lf.S Go.Lf.Duo
set_option maxRecDepth 100000

theorem chk_0 {e0 : Int} {p : Pg} : (chk e0 p).1 = 0 ↔ e0 = 0 ∧ (∀ q, q < p.defs.length → D06 p.defs q) ∧ (∀ q, q < p.defs.length → bdE p q = 0) ∧ e06 p p.main [] true = 0 := by
  by_cases h0 : e0 = 0
  · subst h0
    by_cases hD : ∀ q, q < p.defs.length → D06 p.defs q
    · by_cases hB : ∀ q, q < p.defs.length → bdE p q = 0
      · rw [chk_m hD hB]
        exact ⟨fun h => ⟨rfl, hD, hB, h⟩, fun h => h.2.2.2⟩
      · obtain ⟨j, hj, hjb, hm⟩ : ∃ j, j < p.defs.length ∧ bdE p j ≠ 0 ∧ ∀ q, q < j → bdE p q = 0 := by
          have : ∃ j, j < p.defs.length ∧ bdE p j ≠ 0 := by
            apply Classical.byContradiction
            intro hc
            exact hB fun q hq => Classical.byContradiction fun hn => hc ⟨q, hq, hn⟩
          obtain ⟨j, hj⟩ := this
          induction j using Nat.strongRecOn with
          | _ j ih =>
            by_cases hq : ∀ q, q < j → bdE p q = 0
            · exact ⟨j, hj.1, hj.2, hq⟩
            · have : ∃ q, q < j ∧ bdE p q ≠ 0 := by
                apply Classical.byContradiction
                intro hc
                exact hq fun q hq => Classical.byContradiction fun hn => hc ⟨q, hq, hn⟩
              obtain ⟨q, hq, hn⟩ := this
              exact ih q hq ⟨by omega, hn⟩
        rw [chk_b hj hD hjb hm]
        exact ⟨fun h => absurd h hjb, fun h => absurd (h.2.2.1 j hj) hjb⟩
    · obtain ⟨j, hj, hjb, hm⟩ : ∃ j, j < p.defs.length ∧ ¬ D06 p.defs j ∧ ∀ q, q < j → D06 p.defs q := by
        have : ∃ j, j < p.defs.length ∧ ¬ D06 p.defs j := by
          apply Classical.byContradiction
          intro hc
          exact hD fun q hq => Classical.byContradiction fun hn => hc ⟨q, hq, hn⟩
        obtain ⟨j, hj⟩ := this
        induction j using Nat.strongRecOn with
        | _ j ih =>
          by_cases hq : ∀ q, q < j → D06 p.defs q
          · exact ⟨j, hj.1, hj.2, hq⟩
          · have : ∃ q, q < j ∧ ¬ D06 p.defs q := by
              apply Classical.byContradiction
              intro hc
              exact hq fun q hq => Classical.byContradiction fun hn => hc ⟨q, hq, hn⟩
            obtain ⟨q, hq, hn⟩ := this
            exact ih q hq ⟨by omega, hn⟩
      rw [chk_d hj hjb hm]
      exact ⟨fun h => by simp at h, fun h => absurd (h.2.1 j hj) hjb⟩
  · rw [chk_p h0]
    exact ⟨fun h => absurd h h0, fun h => absurd h.1 h0⟩

theorem d06_all {ds : List Df} : (∀ q, q < ds.length → D06 ds q) ↔ (ds.map Df.name).Nodup ∧ ∀ d ∈ ds, (prN06 d).Nodup := by
  constructor
  · intro h
    refine ⟨?_, fun d hd => ?_⟩
    · rw [List.Nodup, List.pairwise_iff_getElem]
      intro a b ha hb hab
      simp only [List.length_map] at ha hb
      simp only [List.getElem_map]
      exact (h b hb ds[b] (List.getElem?_eq_getElem hb)).1 a ds[a] hab (List.getElem?_eq_getElem ha)
    · obtain ⟨j, hj, rfl⟩ := List.getElem_of_mem hd
      exact (h j hj ds[j] (List.getElem?_eq_getElem hj)).2
  · rintro ⟨h1, h2⟩ q hq d hd
    refine ⟨fun a d' ha hd' => ?_, h2 d (List.mem_of_getElem? hd)⟩
    rw [List.Nodup, List.pairwise_iff_getElem] at h1
    obtain ⟨hb, rfl⟩ := List.getElem?_eq_some_iff.1 hd
    obtain ⟨hb', rfl⟩ := List.getElem?_eq_some_iff.1 hd'
    have := h1 a q (by simpa using hb') (by simpa using hb) ha
    simpa using this
theorem bd_all {p : Pg} : (∀ q, q < p.defs.length → bdE p q = 0) ↔ ∀ d ∈ p.defs, e06 p d.body (prN06 d) false = 0 := by
  constructor
  · intro h d hd
    obtain ⟨j, hj, rfl⟩ := List.getElem_of_mem hd
    have := h j hj
    unfold bdE at this
    rwa [List.getElem?_eq_getElem hj] at this
  · intro h q hq
    unfold bdE
    rw [List.getElem?_eq_getElem hq]
    exact h _ (List.getElem_mem hq)
theorem fst_mem {ds : List Df} (hn : (ds.map Df.name).Nodup) {s : ByteArray} {d : Df} : fstD ds s = some d ↔ d ∈ ds ∧ d.name = s := by
  unfold fstD
  constructor
  · intro h
    exact ⟨List.mem_of_find?_eq_some h, by simpa using List.find?_some h⟩
  · rintro ⟨hm, he⟩
    cases hf : ds.find? fun d => decide (d.name = s) with
    | none => rw [List.find?_eq_none] at hf; exact absurd (hf d hm) (by simp [he])
    | some d' =>
      have h1 := List.mem_of_find?_eq_some hf
      have h2 : d'.name = s := by simpa using List.find?_some hf
      obtain ⟨a, ha, rfl⟩ := List.getElem_of_mem hm
      obtain ⟨b, hb, rfl⟩ := List.getElem_of_mem h1
      rw [List.Nodup, List.pairwise_iff_getElem] at hn
      rcases Nat.lt_trichotomy a b with h | h | h
      · exact absurd (show (ds.map Df.name)[a]'(by simpa using ha) = (ds.map Df.name)[b]'(by simpa using hb) by rw [List.getElem_map, List.getElem_map, he, h2]) (hn a b (by simpa using ha) (by simpa using hb) h)
      · subst h; rfl
      · exact absurd (show (ds.map Df.name)[b]'(by simpa using hb) = (ds.map Df.name)[a]'(by simpa using ha) by rw [List.getElem_map, List.getElem_map, he, h2]) (hn b a (by simpa using hb) (by simpa using ha) h)
theorem callE_fst {w w' : Pg} {ch : ByteArray} {m : Nat} {g : Bool} (h : fstD w.defs ch = fstD w'.defs ch) : callE w ch m g = callE w' ch m g := by
  unfold callE; rw [h]
mutual
theorem e06_fst {w w' : Pg} (h : ∀ s, fstD w.defs s = fstD w'.defs s) : ∀ (p : Pr) (sc : List ByteArray) (g : Bool), e06 w p sc g = e06 w' p sc g
  | .mk k ch v _ ar _ ks, sc, g => by
    have : ndE w k ch v ar sc g = ndE w' k ch v ar sc g := by unfold ndE; rw [callE_fst (h ch)]
    simp only [e06]
    rw [this, e06s_fst h ks]
theorem e06s_fst {w w' : Pg} (h : ∀ s, fstD w.defs s = fstD w'.defs s) : ∀ (l : List Pr) (sc : List ByteArray) (g : Bool), e06s w l sc g = e06s w' l sc g
  | [], _, _ => by simp [e06s]
  | p :: r, sc, g => by
    simp only [e06s]
    rw [e06_fst h p, e06s_fst h r]
end
theorem dws_append : ∀ (a b : List Df), dws (a ++ b) = dws a + dws b
  | [], b => by simp [dws]
  | d :: a, b => by simp only [List.cons_append, dws, dws_append a b]; omega
theorem dws_rev : ∀ l : List Df, dws l.reverse = dws l
  | [] => rfl
  | d :: r => by rw [List.reverse_cons, dws_append, dws_rev r]; simp only [dws]; omega
theorem first_iff : ∀ {l : List Df}, firstE l = 0 ↔ ∀ d ∈ l, prightE d.body = 0
  | [] => by simp [firstE]
  | d :: r => by
    rw [firstE]
    by_cases h : prightE d.body = 0
    · rw [if_pos h, first_iff (l := r)]; simp [h]
    · rw [if_neg h]; simp [h]
theorem prog_iff {p : Pg} : progE p = 0 ↔ ¬ 10000 < total p ∧ (∀ d ∈ p.defs, prightE d.body = 0) ∧ prightE p.main = 0 ∧ ∀ d ∈ p.defs, dfP d := by
  unfold progE
  rw [← first_iff]
  by_cases h1 : 10000 < total p
  · rw [if_pos h1]; simp [h1]
  · rw [if_neg h1]
    by_cases h2 : firstE p.defs = 0
    · rw [if_neg (by simp [h2])]
      by_cases h3 : prightE p.main = 0
      · rw [if_neg (by simp [h3])]
        by_cases h4 : ∀ d ∈ p.defs, dfP d
        · rw [if_pos (pb_iff.2 h4)]; simp [h1, h2, h3]; exact h4
        · rw [if_neg (fun h => h4 (pb_iff.1 h))]; simp only [h1, h2, h3, h4]; simp
      · rw [if_pos h3]; simp [h1, h2, h3]
    · rw [if_pos h2]; simp [h1, h2]

/-- the definitions in the opposite order -/
def revP (p : Pg) : Pg := ⟨p.defs.reverse, p.main⟩
theorem chk_rev (p : Pg) : (chk (progE p) p).1 = 0 ↔ (chk (progE (revP p)) (revP p)).1 = 0 := by
  have hm : ∀ d, d ∈ (revP p).defs ↔ d ∈ p.defs := fun d => List.mem_reverse
  have hpr : progE (revP p) = 0 ↔ progE p = 0 := by
    rw [prog_iff, prog_iff]
    have ht : total (revP p) = total p := by unfold total revP; simp only; rw [dws_rev]
    rw [ht]
    simp only [hm]
    exact Iff.rfl
  rw [chk_0, chk_0, d06_all, d06_all, bd_all, bd_all, hpr]
  simp only [hm]
  have hnd : ((revP p).defs.map Df.name).Nodup ↔ (p.defs.map Df.name).Nodup := by
    show (p.defs.reverse.map Df.name).Nodup ↔ _
    rw [List.map_reverse]
    unfold List.Nodup
    rw [List.pairwise_reverse]
    exact ⟨fun h => h.imp fun h => Ne.symm h, fun h => h.imp fun h => Ne.symm h⟩
  rw [hnd]
  have key : (p.defs.map Df.name).Nodup → ∀ (x : Pr) sc g, e06 (revP p) x sc g = e06 p x sc g := fun hn x sc g => by
    refine e06_fst (fun s => ?_) x sc g
    apply Option.ext
    intro d
    rw [fst_mem (hnd.2 hn), fst_mem hn, hm]
  constructor
  · rintro ⟨h1, ⟨h2, h3⟩, h4, h5⟩
    exact ⟨h1, ⟨h2, h3⟩, fun d hd => by rw [key h2]; exact h4 d hd, by rw [key h2]; exact h5⟩
  · rintro ⟨h1, ⟨h2, h3⟩, h4, h5⟩
    exact ⟨h1, ⟨h2, h3⟩, fun d hd => by rw [← key h2]; exact h4 d hd, by rw [← key h2]; exact h5⟩

theorem glim_rev {p : Pg} (h : GLim p) : GLim (revP p) := ⟨by show p.defs.reverse.length ≤ _; rw [List.length_reverse]; exact h.len, fun d hd => h.defs d (List.mem_reverse.1 hd), h.main⟩
theorem pgs_rev {p : Pg} {m : Nat} (h : PgS p m) : PgS (revP p) m := ⟨by show p.defs.reverse.length ≤ _; rw [List.length_reverse]; exact h.len, h.main, fun d hd => h.body d (List.mem_reverse.1 hd), fun d hd => h.par d (List.mem_reverse.1 hd)⟩
theorem enc_rev (p : Pg) : (revP p).enc = .agg [.sl (p.defs.reverse.map Df.enc), c 0 (sb 1 12 p.enc), c 1 (sb 1 12 p.enc), c 2 (sb 1 12 p.enc), c 3 (sb 1 12 p.enc), c 4 (sb 1 12 p.enc), c 5 (sb 1 12 p.enc), c 6 (sb 1 12 p.enc), c 7 (sb 1 12 p.enc), c 8 (sb 1 12 p.enc), c 9 (sb 1 12 p.enc), c 10 (sb 1 12 p.enc), c 11 (sb 1 12 p.enc)] := by
  rw [sb_mainA]
  obtain ⟨ds, m⟩ := p
  cases m; simp only [revP, Pg.enc, Pr.enc_mk]; rfl
theorem app_df {l m : List Df} (h : l.length + m.length ≤ 500000000) : (Prim.app 14 true 240).ev [.sl (l.map Df.enc), .sl (m.map Df.enc)] = some (.sl ((l ++ m).map Df.enc)) := by
  rw [e_app (all_map Df.okc_enc m) (by simp; omega) (by simp; omega), List.map_append]

theorem ok_law06_ScopeOrders (p : Pg) (hp : GLim p) : Ok P F.law06_ScopeOrders [p.enc] (.bool true) := by
  obtain ⟨b1, hb1, hg1⟩ := ok_ref03_Little p hp 500 (by omega)
  refine k_law06_ScopeOrders _ _ rfl (d_l _ (e_okc (Pg.okc_enc p)) fun _ => d_call awake06 (d_l (.bool false) rfl fun _ => d_false (d_call hb1 (d_l (.bool (!b1)) rfl fun _ => d_ite (fun _ => d_call awake06 (d_ret rfl)) fun h1 => ?_))))
  have h1 := hg1 (by simpa using h1)
  have hlen := h1.len
  have hS := ok_scope_Check p hp (by omega) h1 (okx_proctree_Program p hp (by omega) h1)
  have hS' := ok_scope_Check (revP p) (glim_rev hp) (by omega) (pgs_rev h1) (okx_proctree_Program (revP p) (glim_rev hp) (by omega) (pgs_rev h1))
  obtain ⟨b, hf, hb0, hb1⟩ := fltE_cases (progE p) p
  obtain ⟨b', hf', hb0', hb1'⟩ := fltE_cases (progE (revP p)) (revP p)
  have hk := chk_rev p
  rw [hf] at hS
  rw [hf', enc_rev] at hS'
  generalize (chk (progE p) p).1 = e at *
  generalize (chk (progE (revP p)) (revP p)).1 = e' at *
  refine d_l .nilI (by show (Prim.okcs [(12, true)]).ev [sb 1 12 p.enc] = _; rw [sb_mainA]; simp [Prim.ev, Pr.okc_enc]) fun _ => d_l _ (len_eq p.defs) fun _ => d_l (i ((p.defs.length : Int) - 1)) (e_sub (by omega) (by omega)) fun _ => ?_
  refine den_loop (fun m' ys => ∃ j : Nat, j + m' = p.defs.length ∧ ys = [i ((p.defs.length : Int) - 1 - (j : Nat)), .sl ((p.defs.reverse.take j).map Df.enc), c 0 (sb 1 12 p.enc), c 1 (sb 1 12 p.enc), c 2 (sb 1 12 p.enc), c 3 (sb 1 12 p.enc), c 4 (sb 1 12 p.enc), c 5 (sb 1 12 p.enc), c 6 (sb 1 12 p.enc), c 7 (sb 1 12 p.enc), c 8 (sb 1 12 p.enc), c 9 (sb 1 12 p.enc), c 10 (sb 1 12 p.enc), c 11 (sb 1 12 p.enc)]) p.defs.length ⟨0, by omega, by simp⟩ ?_
  rintro m' _ ⟨j, hj, rfl⟩
  refine d_l (.bool (decide (0 ≤ (p.defs.length : Int) - 1 - (j : Nat)))) rfl fun _ => d_dec (p := 0 ≤ (p.defs.length : Int) - 1 - (j : Nat)) (fun h => ?_) fun h => ?_
  · have hjl : j < p.defs.reverse.length := by rw [List.length_reverse]; omega
    have hq : p.defs.length - 1 - j < p.defs.length := by omega
    have eq : (p.defs.length : Int) - 1 - (j : Nat) = ((p.defs.length - 1 - j : Nat) : Int) := by omega
    have hr : p.defs.reverse[j] = p.defs[p.defs.length - 1 - j] := by rw [List.getElem_reverse]
    refine d_l p.defs[p.defs.length - 1 - j].enc (by rw [show n [i ((p.defs.length : Int) - 1 - (j : Nat)), .sl ((p.defs.reverse.take j).map Df.enc), c 0 (sb 1 12 p.enc), c 1 (sb 1 12 p.enc), c 2 (sb 1 12 p.enc), c 3 (sb 1 12 p.enc), c 4 (sb 1 12 p.enc), c 5 (sb 1 12 p.enc), c 6 (sb 1 12 p.enc), c 7 (sb 1 12 p.enc), c 8 (sb 1 12 p.enc), c 9 (sb 1 12 p.enc), c 10 (sb 1 12 p.enc), c 11 (sb 1 12 p.enc)] 0 = i ((p.defs.length - 1 - j : Nat) : Int) from congrArg i eq]; exact e_idx (n := 14) (a := true) (mp_at (f := Df.enc) hq) (Df.okc_enc _)) fun _ => ?_
    refine d_l (.sl [p.defs[p.defs.length - 1 - j].enc]) (e_lst (by intro x hx; simp at hx; subst hx; exact Df.okc_enc _)) fun _ => d_l (.sl ((p.defs.reverse.take (j + 1)).map Df.enc)) ?_ fun _ => d_l (i ((p.defs.length : Int) - 1 - (j : Nat) - 1)) (e_sub (by omega) (by omega)) fun _ => d_cont rfl ⟨m' - 1, by omega, j + 1, by omega, ?_⟩
    · rw [List.take_succ_eq_append_getElem hjl, hr]
      exact app_df (m := [p.defs[p.defs.length - 1 - j]]) (by simp; omega)
    · have : (p.defs.length : Int) - 1 - (j : Nat) - 1 = (p.defs.length : Int) - 1 - ((j + 1 : Nat) : Int) := by omega
      rw [this]; rfl
  · have etk : p.defs.reverse.take j = p.defs.reverse := List.take_of_length_le (by rw [List.length_reverse]; omega)
    rw [etk]
    refine d_call hS (d_l (.agg [i e, i b]) rfl fun _ => d_call hS' (d_l (.agg [i e', i b']) rfl fun _ => d_l (.bool (decide (e = 0))) rfl fun _ => d_l (.bool (decide (e' = 0))) rfl fun _ => d_l (.bool true) ?_ fun _ => d_true (d_l (.bool (!decide (e = 0))) rfl fun _ => d_ndec (fun _ => d_ret rfl) fun he => ?_)))
    · have : decide (e = 0) = decide (e' = 0) := by
        by_cases he : e = 0
        · rw [decide_eq_true he, decide_eq_true (hk.1 he)]
        · rw [decide_eq_false he, decide_eq_false fun h => he (hk.2 h)]
      simp [Prim.ev, bcmpV, this]
    · have he' := hk.1 he
      have hbb := hb0 he
      have hbb' := hb0' he'
      subst he; subst he'; subst hbb; subst hbb'
      exact d_l (.bool true) rfl fun _ => d_true (d_l (.bool true) rfl fun _ => d_ret rfl)
end Go.Proofs.YtfmbddfenghnlaaGreatDoor.Tx

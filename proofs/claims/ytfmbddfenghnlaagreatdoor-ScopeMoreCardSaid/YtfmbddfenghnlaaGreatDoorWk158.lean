/- Law 6, ScopeMore: a further definition. -/
import Derived.Test.YtfmbddfenghnlaaGreatDoorWk154
import Derived.Test.YtfmbddfenghnlaaGreatDoorWk156
set_option linter.all false
namespace Go.Proofs.YtfmbddfenghnlaaGreatDoor.Tx
open Go.Lf Go.Lf.S Go.Lf.Duo
set_option maxRecDepth 100000

theorem least {Q : Nat → Prop} {m : Nat} (h : ∃ j, j < m ∧ Q j) : ∃ j, j < m ∧ Q j ∧ ∀ q, q < j → ¬ Q q := by
  obtain ⟨j, hj⟩ := h
  induction j using Nat.strongRecOn with
  | _ j ih =>
    by_cases hq : ∃ q, q < j ∧ Q q
    · obtain ⟨q, h1, h2⟩ := hq
      exact ih q h1 ⟨by omega, h2⟩
    · exact ⟨j, hj.1, hj.2, fun q h1 h2 => hq ⟨q, h1, h2⟩⟩

mutual
theorem e06_fstC {w w' : Pg} : ∀ (p : Pr) (sc : List ByteArray) (g : Bool), (∀ s ∈ coll callF p, fstD w.defs s = fstD w'.defs s) → e06 w p sc g = e06 w' p sc g
  | .mk k ch v ls ar t ks, sc, g, h => by
    have h1 : ndE w k ch v ar sc g = ndE w' k ch v ar sc g := by
      unfold ndE
      by_cases h8 : k = 8
      · rw [callE_fst (h ch (by simp only [coll, callF, if_pos h8]; simp))]
      · simp only [if_neg h8]
    simp only [e06]
    rw [h1, e06s_fstC ks _ _ fun s hs => h s (by simp only [coll]; exact List.mem_append.2 (.inr hs))]
theorem e06s_fstC {w w' : Pg} : ∀ (l : List Pr) (sc : List ByteArray) (g : Bool), (∀ s ∈ colls callF l, fstD w.defs s = fstD w'.defs s) → e06s w l sc g = e06s w' l sc g
  | [], _, _, _ => by simp [e06s]
  | p :: r, sc, g, h => by
    simp only [e06s]
    rw [e06_fstC p sc g fun s hs => h s (by simp only [colls]; exact List.mem_append.2 (.inl hs)), e06s_fstC r sc g fun s hs => h s (by simp only [colls]; exact List.mem_append.2 (.inr hs))]
end

/-- a further definition -/
def newD (s : ByteArray) : Df := ⟨s, [], st06⟩
def morP (p : Pg) (s : ByteArray) : Pg := ⟨p.defs ++ [newD s], p.main⟩
theorem fst_mor {p : Pg} {s x : ByteArray} (h : x ≠ s) : fstD (morP p s).defs x = fstD p.defs x := by
  unfold fstD morP
  simp only [List.find?_append]
  have : [newD s].find? (fun d => decide (d.name = x)) = none := by
    rw [List.find?_eq_none]
    intro d hd
    obtain rfl := List.mem_singleton.1 hd
    intro hc
    exact h (of_decide_eq_true hc).symm
  rw [this, Option.or_none]
theorem fst_no {ds : List Df} {s : ByteArray} (h : fstD ds s = none) : ∀ d ∈ ds, d.name ≠ s := fun d hd => by
  unfold fstD at h
  rw [List.find?_eq_none] at h
  simpa using h d hd
theorem mor_get {p : Pg} {s : ByteArray} {j : Nat} (h : j < p.defs.length) : (morP p s).defs[j]? = p.defs[j]? := by
  unfold morP; simp only; rw [List.getElem?_append_left h]
theorem mor_last {p : Pg} {s : ByteArray} : (morP p s).defs[p.defs.length]? = some (newD s) := by
  unfold morP; simp
theorem mor_len {p : Pg} {s : ByteArray} : (morP p s).defs.length = p.defs.length + 1 := by simp [morP]
theorem d06_mor {p : Pg} {s : ByteArray} {j : Nat} (h : j < p.defs.length) : D06 (morP p s).defs j ↔ D06 p.defs j := by
  unfold D06
  rw [mor_get h]
  constructor
  · exact fun hh d hd => ⟨fun q d' hq hd' => (hh d hd).1 q d' hq (by rw [mor_get (by omega)]; exact hd'), (hh d hd).2⟩
  · exact fun hh d hd => ⟨fun q d' hq hd' => (hh d hd).1 q d' hq (by rw [mor_get (by omega)] at hd'; exact hd'), (hh d hd).2⟩
theorem d06_last {p : Pg} {s : ByteArray} (h : fstD p.defs s = none) : D06 (morP p s).defs p.defs.length := fun d hd => by
  rw [mor_last] at hd; cases hd
  refine ⟨fun q d' hq hd' => ?_, by simp [newD, prN06]⟩
  rw [mor_get hq] at hd'
  exact fst_no h d' (List.mem_of_getElem? hd')
theorem bd_mor {p : Pg} {s : ByteArray} {j : Nat} (h : j < p.defs.length) (hc : ∀ d ∈ p.defs, s ∉ coll callF d.body) : bdE (morP p s) j = bdE p j := by
  unfold bdE
  rw [mor_get h, List.getElem?_eq_getElem h]
  exact e06_fstC _ _ _ fun x hx => fst_mor fun e => hc _ (List.getElem_mem h) (e ▸ hx)
theorem bd_last {p : Pg} {s : ByteArray} : bdE (morP p s) p.defs.length = 0 := by
  unfold bdE
  rw [mor_last]
  simp [newD, st06, e06, e06s, ndE, pfx, bindF, frB]
theorem mor_cases {p : Pg} {s : ByteArray} (hf : fstD p.defs s = none) (hc : ∀ d ∈ p.defs, s ∉ coll callF d.body) (hm : s ∉ coll callF p.main) :
    (∃ (e : Int) (a : Nat), chk 0 p = (e, a) ∧ chk 0 (morP p s) = (e, a) ∧ a < p.defs.length ∧ e ≠ 0) ∨ ∃ e : Int, chk 0 p = (e, p.defs.length) ∧ chk 0 (morP p s) = (e, p.defs.length + 1) := by
  by_cases hD : ∃ j, j < p.defs.length ∧ ¬ D06 p.defs j
  · obtain ⟨j, h1, h2, h3⟩ := least hD
    refine .inl ⟨5, j, chk_d h1 h2 fun q hq => Classical.not_not.1 (h3 q hq), chk_d (by rw [mor_len]; omega) (fun h => h2 ((d06_mor h1).1 h)) fun q hq => (d06_mor (by omega)).2 (Classical.not_not.1 (h3 q hq)), h1, by decide⟩
  have hD : ∀ q, q < p.defs.length → D06 p.defs q := fun q hq => Classical.byContradiction fun hn => hD ⟨q, hq, hn⟩
  have hD' : ∀ q, q < (morP p s).defs.length → D06 (morP p s).defs q := fun q hq => by
    rw [mor_len] at hq
    by_cases e : q = p.defs.length
    · subst e; exact d06_last hf
    · exact (d06_mor (by omega)).2 (hD q (by omega))
  by_cases hB : ∃ j, j < p.defs.length ∧ bdE p j ≠ 0
  · obtain ⟨j, h1, h2, h3⟩ := least hB
    have h3 : ∀ q, q < j → bdE p q = 0 := fun q hq => Classical.not_not.1 (h3 q hq)
    refine .inl ⟨bdE p j, j, chk_b h1 hD h2 h3, ?_, h1, h2⟩
    have := chk_b (p := morP p s) (j := j) (by rw [mor_len]; omega) hD' (by rw [bd_mor h1 hc]; exact h2) fun q hq => by rw [bd_mor (by omega) hc]; exact h3 q hq
    rw [bd_mor h1 hc] at this
    exact this
  have hB : ∀ q, q < p.defs.length → bdE p q = 0 := fun q hq => Classical.byContradiction fun hn => hB ⟨q, hq, hn⟩
  refine .inr ⟨e06 p p.main [] true, chk_m hD hB, ?_⟩
  have := chk_m (p := morP p s) hD' fun q hq => by
    rw [mor_len] at hq
    by_cases e : q = p.defs.length
    · subst e; exact bd_last
    · rw [bd_mor (by omega) hc]; exact hB q (by omega)
  rw [mor_len] at this
  rw [this, show (morP p s).main = p.main from rfl, e06_fstC (w := morP p s) (w' := p) _ _ _ fun x hx => fst_mor fun e => hm (e ▸ hx)]

theorem prog_mor {p : Pg} {s : ByteArray} (h : progE (morP p s) = 0) : progE p = 0 := by
  obtain ⟨h1, h2, h3, h4⟩ := prog_iff.1 h
  have hm : ∀ d ∈ p.defs, d ∈ (morP p s).defs := fun d hd => List.mem_append.2 (.inl hd)
  refine prog_iff.2 ⟨?_, fun d hd => h2 d (hm d hd), h3, fun d hd => h4 d (hm d hd)⟩
  have : total (morP p s) = total p + dws [newD s] := by unfold total morP; simp only; rw [dws_append]; omega
  omega
theorem glim_mor {p : Pg} {s : ByteArray} (h : GLim p) (hl : p.defs.length ≤ 20) (hs : s.size ≤ maxLen) : GLim (morP p s) := ⟨by
    rw [mor_len]
    have : (21 : Nat) ≤ maxLen := by decide
    omega, fun d hd => by
  rcases List.mem_append.1 hd with hd | hd
  · exact h.defs d hd
  · obtain rfl := List.mem_singleton.1 hd
    exact ⟨hs, by show (0 : Nat) ≤ maxLen; decide, (fun e he => by cases he), plim_st06⟩, h.main⟩
theorem pgs_mor {p : Pg} {s : ByteArray} {m : Nat} (hm : 100 ≤ m) (h : PgS p m) : PgS (morP p s) m 21 := ⟨by rw [mor_len]; have := h.len; omega, h.main, fun d hd => by
  rcases List.mem_append.1 hd with hd | hd
  · exact h.body d hd
  · obtain rfl := List.mem_singleton.1 hd
    have := sz06 1 ⟨#[]⟩ ⟨#[]⟩ [] []
    exact ⟨Nat.le_trans this.1 hm, this.2⟩, fun d hd => by
  rcases List.mem_append.1 hd with hd | hd
  · exact h.par d hd
  · obtain rfl := List.mem_singleton.1 hd
    exact ⟨by simp [newD], fun e he => by simp [newD] at he⟩⟩
theorem enc_mor (p : Pg) (s : ByteArray) : (morP p s).enc = .agg [.sl ((p.defs ++ [newD s]).map Df.enc), c 0 (sb 1 12 p.enc), c 1 (sb 1 12 p.enc), c 2 (sb 1 12 p.enc), c 3 (sb 1 12 p.enc), c 4 (sb 1 12 p.enc), c 5 (sb 1 12 p.enc), c 6 (sb 1 12 p.enc), c 7 (sb 1 12 p.enc), c 8 (sb 1 12 p.enc), c 9 (sb 1 12 p.enc), c 10 (sb 1 12 p.enc), c 11 (sb 1 12 p.enc)] := by
  rw [sb_mainA]
  obtain ⟨ds, m⟩ := p
  cases m; simp only [morP, Pg.enc, Pr.enc_mk]; rfl
theorem enc_newD (s : ByteArray) : (newD s).enc = .agg [.str s, .sl [], i 1, .str ⟨#[]⟩, .str ⟨#[]⟩, .sl [], .sl [], i 0, i 0, .str ⟨#[]⟩, i 0, .sl [], .sl [], .sl []] := by
  simp only [newD, st06, Df.enc, Pr.enc_mk]; rfl

theorem okS_CallsFr (p : Pr) (hz : p.sz ≤ 1099511627776) : OkS P F.ref06_Calls sg_ref06_Calls_Fr [p.enc] [.sl ((coll callF p).map .str)] := by
  obtain ⟨k, ch, v, ls, ar, t, ks⟩ := p
  simp only [Pr.sz] at hz
  have ih : ∀ x ∈ ks, Ok P F.ref06_Calls [x.enc] (.sl ((coll callF x).map .str)) := fun x hx => ok_Calls06 x (by have := Pr.szs_mem hx; omega)
  rw [Pr.enc_mk]
  refine m_ref06_Calls_Fr _ _ (d_l _ (e_prC k ch v ls ar t ks) fun _ => d_l (.bool (decide (k = 8))) rfl fun _ => d_dec (p := k = 8) (fun h => d_l (.sl [.str ch]) rfl fun _ => d_l _ (app_str (l := []) (m := [ch]) (by simp)) fun _ => d_collR call_le (w := fun x => .tup [x]) (L0 := [ch]) ih (by simp; omega) ?_) fun h => d_collR call_le (w := fun x => .tup [x]) (L0 := []) ih (by simp; omega) ?_)
  · simp only [coll, callF, if_pos h]
  · simp only [coll, callF, if_neg h]

def cds : List Df → List ByteArray
  | [] => []
  | d :: r => coll callF d.body ++ cds r
theorem cds_append : ∀ (a b : List Df), cds (a ++ b) = cds a ++ cds b
  | [], b => rfl
  | d :: a, b => by simp only [List.cons_append, cds, cds_append a b, List.append_assoc]
theorem mem_cds {x : ByteArray} : ∀ {l : List Df}, x ∈ cds l ↔ ∃ d ∈ l, x ∈ coll callF d.body
  | [] => by simp [cds]
  | d :: r => by simp only [cds, List.mem_append, mem_cds (l := r), List.mem_cons, exists_eq_or_imp]
theorem cds_len {b : Nat} : ∀ {l : List Df}, (∀ d ∈ l, d.body.sz ≤ b) → (cds l).length ≤ l.length * (2 * b)
  | [], _ => by simp [cds]
  | d :: r, h => by
    have h1 := coll_len call_le d.body
    have h2 := h d List.mem_cons_self
    have h3 := cds_len (l := r) fun x hx => h x (List.mem_cons_of_mem _ hx)
    have h4 : (r.length + 1) * (2 * b) = r.length * (2 * b) + 2 * b := Nat.succ_mul _ _
    simp only [cds, List.length_append, List.length_cons]; rw [h4]; omega

theorem ok_law06_ScopeMore (p : Pg) (s : ByteArray) (hp : GLim p) (hs : s.size ≤ maxLen) : Ok P F.law06_ScopeMore [p.enc, .str s] (.bool true) := by
  obtain ⟨b1, hb1, hg1⟩ := ok_ref03_Little p hp 500 (by omega)
  refine k_law06_ScopeMore _ _ rfl (d_l _ (e_okc (Pg.okc_enc p)) fun _ => d_call awake06 (d_l (.bool false) rfl fun _ => d_false (d_call hb1 (d_l (.bool (!b1)) rfl fun _ => d_ite (fun _ => d_call awake06 (d_ret rfl)) fun h1 => ?_))))
  have h1 := hg1 (by simpa using h1)
  have hlen := h1.len
  obtain ⟨r, hr, hc⟩ := ok_Find06 p s (by omega)
  refine d_call hr (d_l (.bool (decide (0 ≤ r))) rfl fun _ => d_dec (p := 0 ≤ r) (fun _ => d_call awake06 (d_ret rfl)) fun hr0 => ?_)
  have hf : fstD p.defs s = none := by
    rcases hc with ⟨_, h⟩ | ⟨j, _, rfl, _⟩
    · exact h
    · omega
  refine d_call (ok_ref03_Total p (by omega) h1) (d_l (.bool (decide ((9000 : Int) < (total p : Int)))) rfl fun _ => d_dec (p := (9000 : Int) < (total p : Int)) (fun _ => d_call awake06 (d_ret rfl)) fun _ => ?_)
  have hgq := glim_mor (s := s) hp hlen hs
  have hsq := pgs_mor (s := s) (m := 500) (by omega) h1
  have hPq := okx_proctree_Program (morP p s) hgq (by omega) hsq
  have hRq := okx_ref03_Program (morP p s) hgq (by omega) hsq
  have hS := ok_scope_Check p hp (by omega) h1 (okx_proctree_Program p hp (by omega) h1)
  have hS' := ok_scope_Check (morP p s) hgq (by omega) hsq hPq
  rw [enc_mor] at hS' hRq
  have a0 : (Prim.app 14 true 240).ev [.sl [], .sl (p.defs.map Df.enc)] = some (.sl (p.defs.map Df.enc)) := by
    have := app_df (l := []) (m := p.defs) (by simp; omega)
    simpa using this
  have a1 : (Prim.app 14 true 240).ev [.sl (p.defs.map Df.enc), .sl [(newD s).enc]] = some (.sl ((p.defs ++ [newD s]).map Df.enc)) := app_df (m := [newD s]) (by simp; omega)
  refine d_l (.sl []) rfl fun _ => d_l _ a0 fun _ => d_l .nilI rfl fun _ => d_l (.sl [(newD s).enc]) (by rw [enc_newD]; rfl) fun _ => d_l _ a1 fun _ => d_l .nilI (by show (Prim.okcs [(12, true)]).ev [sb 1 12 p.enc] = _; rw [sb_mainA]; simp [Prim.ev, Pr.okc_enc]) fun _ => ?_
  have flt_ok : ∀ (e0 : Int) (p : Pg), (Prim.okc 2 true).ev [fltE e0 p] = some (fltE e0 p) := fun e0 p => by
    obtain ⟨b, h, _⟩ := fltE_cases e0 p
    rw [h]; rfl
  refine d_call hS (d_l _ (flt_ok _ _) fun _ => d_call hS' (d_l _ (flt_ok _ _) fun _ => d_call hRq (d_l (.bool (!decide (progE (morP p s) = 0))) rfl fun _ => d_ndec (fun hq => ?_) fun hq => ?_)))
  · have : fltE (progE (morP p s)) (morP p s) = .agg [i (progE (morP p s)), i 0] := by
      unfold fltE; rw [chk_p hq, if_neg hq]; rfl
    rw [this]
    refine d_l (.bool (!decide (progE (morP p s) = 0))) rfl fun _ => d_ret ?_
    rw [decide_eq_false hq]; rfl
  · rw [prog_mor hq, hq]
    have hCm := okS_CallsFr p.main (by have := h1.main.1; omega)
    rw [← sb_mainA p] at hCm
    have hml := coll_len call_le p.main
    have hmz := h1.main.1
    refine d_calls rfl hCm ?_
    refine den_loop (fun m' ys => ∃ j : Nat, j + m' = p.defs.length ∧ ys = [i j, .sl ((coll callF p.main ++ cds (p.defs.take j)).map .str)]) p.defs.length ⟨0, by omega, by simp [cds]⟩ ?_
    rintro m' _ ⟨j, hj, rfl⟩
    refine d_l _ (len_eq p.defs) fun _ => d_l (.bool (decide ((j : Int) < (p.defs.length : Int)))) rfl fun _ => d_dec (p := (j : Int) < (p.defs.length : Int)) (fun h => ?_) fun h => ?_
    · have hjl : j < p.defs.length := by omega
      have hix := e_idx (n := 14) (a := true) (mp_at (f := Df.enc) hjl) (Df.okc_enc _)
      have hbz := (h1.body _ (List.getElem_mem hjl)).1
      have hCb := ok_Calls06 p.defs[j].body (by omega)
      have hbl := coll_len call_le p.defs[j].body
      rw [← sb_bodyA p.defs[j]] at hCb
      have hcl := cds_len (b := 500) (l := p.defs.take j) fun d hd => (h1.body d (List.mem_of_mem_take hd)).1
      have htl : (p.defs.take j).length * (2 * 500) ≤ 20 * 1000 := Nat.mul_le_mul_right _ (by simp; omega)
      have hsn : coll callF p.main ++ cds (p.defs.take (j + 1)) = (coll callF p.main ++ cds (p.defs.take j)) ++ coll callF p.defs[j].body := by
        rw [List.take_succ_eq_append_getElem hjl, cds_append, List.append_assoc]
        simp [cds]
      refine d_l _ hix fun _ => d_call hCb (d_l _ (app_str (by simp; omega)) fun _ => d_l _ (e_inc (by omega)) fun _ => d_cont rfl ⟨m' - 1, by omega, j + 1, by omega, ?_⟩)
      rw [hsn]
    · rw [List.take_of_length_le (by omega)]
      have hcl := cds_len (b := 500) (l := p.defs) fun d hd => (h1.body d hd).1
      have htl : p.defs.length * (2 * 500) ≤ 20 * 1000 := Nat.mul_le_mul_right _ hlen
      refine d_call (ok_In06 s _ (by simp; omega)) (d_ite (fun _ => d_ret rfl) fun hb => ?_)
      have hn := pb_false.1 hb
      rw [List.mem_append, not_or] at hn
      have key := mor_cases (p := p) (s := s) hf (fun d hd hx => hn.2 (mem_cds.2 ⟨d, hd, hx⟩)) hn.1
      have fl : ∀ {q : Pg} {e : Int} {a : Nat}, chk 0 q = (e, a) → e ≠ 0 → fltE 0 q = .agg [i e, i (a : Nat)] := fun h he => by unfold fltE; rw [h, if_neg he]
      rcases key with ⟨e, a, k1, k2, k3, k4⟩ | ⟨e, k1, k2⟩
      · rw [fl k1 k4, fl k2 k4]
        refine d_l (.bool (!decide (e = 0))) rfl fun _ => d_ndec (fun _ => d_l _ (len_eq p.defs) fun _ => d_l (.bool (decide ((a : Int) = (p.defs.length : Int)))) rfl fun _ => d_dec (p := (a : Int) = (p.defs.length : Int)) (fun h => by omega) fun _ => d_l (.bool true) ?_ fun _ => d_ret rfl) fun h => absurd h k4
        simp [Prim.ev, PV.sameK, PV.same1]
      · by_cases he : e = 0
        · subst he
          have f1 : fltE 0 p = .agg [i 0, i 0] := by unfold fltE; rw [k1, if_pos rfl]
          have f2 : fltE 0 (morP p s) = .agg [i 0, i 0] := by unfold fltE; rw [k2, if_pos rfl]
          rw [f1, f2]
          exact d_l (.bool false) rfl fun _ => d_false (d_l (.bool true) rfl fun _ => d_ret rfl)
        · rw [fl k1 he, fl k2 he]
          refine d_l (.bool (!decide (e = 0))) rfl fun _ => d_ndec (fun _ => d_l _ (len_eq p.defs) fun _ => d_l (.bool (decide ((p.defs.length : Int) = (p.defs.length : Int)))) rfl fun _ => d_dec (p := (p.defs.length : Int) = (p.defs.length : Int)) (fun _ => d_l (.bool (decide (e = e))) rfl fun _ => d_dec (p := e = e) (fun _ => d_l _ (e_inc (by omega)) fun _ => d_l (.bool (decide (((p.defs.length + 1 : Nat) : Int) = ((p.defs.length + 1 : Nat) : Int)))) rfl fun _ => d_ret ?_) fun h => absurd rfl h) fun h => absurd rfl h) fun h => absurd h he
          rw [decide_eq_true rfl]
end Go.Proofs.YtfmbddfenghnlaaGreatDoor.Tx

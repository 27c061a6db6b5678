/- The laws of contexts: drops, parts. -/
import Derived.Test.YtlemfbmaineigaaWk37
set_option linter.all false
namespace Go.Proofs.Ytlemfbmaineigaa.Tx
open Go.Lf Go.Lf.S Go.Lf.Duo
set_option maxRecDepth 100000

theorem low_go : ∀ (ps : List Int) (a : Int), (ps.foldl lowStep (a, true)).2 = true ∧ ((ps.foldl lowStep (a, true)).1 = a ∨ (ps.foldl lowStep (a, true)).1 ∈ ps) ∧ (ps.foldl lowStep (a, true)).1 ≤ a ∧ ∀ x ∈ ps, (ps.foldl lowStep (a, true)).1 ≤ x
  | [], a => ⟨rfl, .inl rfl, Int.le_refl _, fun _ h => by cases h⟩
  | p :: ps, a => by
    have hs : lowStep (a, true) p = (if p < a then p else a, true) := rfl
    simp only [List.foldl_cons, hs]
    obtain ⟨h1, h2, h3, h4⟩ := low_go ps (if p < a then p else a)
    refine ⟨h1, ?_, ?_, fun x hx => ?_⟩
    · rcases h2 with h2 | h2
      · rw [h2]
        split
        · exact .inr List.mem_cons_self
        · exact .inl rfl
      · exact .inr (List.mem_cons_of_mem _ h2)
    · split at h3 <;> split <;> omega
    · rcases List.mem_cons.1 hx with rfl | hx
      · split at h3 <;> split <;> omega
      · exact h4 x hx
theorem low_nil : low [] = (0, false) := rfl
theorem low_some {ps : List Int} (h : ps ≠ []) : (low ps).2 = true ∧ (low ps).1 ∈ ps ∧ ∀ x ∈ ps, (low ps).1 ≤ x := by
  cases ps with
  | nil => exact absurd rfl h
  | cons p ps =>
    obtain ⟨h1, h2, h3, h4⟩ := low_go ps p
    refine ⟨h1, ?_, fun x hx => ?_⟩
    · rcases h2 with h2 | h2
      · show (ps.foldl lowStep (p, true)).1 ∈ _
        rw [h2]; exact List.mem_cons_self
      · exact List.mem_cons_of_mem _ h2
    · rcases List.mem_cons.1 hx with rfl | hx
      · exact h3
      · exact h4 x hx
theorem low_false {ps : List Int} (h : (low ps).2 = false) : ps = [] := by
  cases ps with
  | nil => rfl
  | cons p ps =>
    have := (low_some (ps := p :: ps) (by simp)).1
    rw [h] at this; cases this
theorem low_true {ps : List Int} (h : (low ps).2 = true) : ps ≠ [] := by
  rintro rfl
  cases h
theorem low_eq {ps qs : List Int} (h : ∀ x, x ∈ ps ↔ x ∈ qs) : low ps = low qs := by
  cases ps with
  | nil =>
    cases qs with
    | nil => rfl
    | cons q qs => have := (h q).2 List.mem_cons_self; cases this
  | cons p ps =>
    have hq : qs ≠ [] := by
      rintro rfl
      have := (h p).1 List.mem_cons_self
      cases this
    obtain ⟨a1, a2, a3⟩ := low_some (ps := p :: ps) (by simp)
    obtain ⟨b1, b2, b3⟩ := low_some hq
    have h1 := a3 _ ((h _).2 b2)
    have h2 := b3 _ ((h _).1 a2)
    exact Prod.ext (by omega) (a1.trans b1.symm)

/-- the priorities of a context but of one name -/
def prs (ds : List Nd) (es : List En) (s : ByteArray) : List Int := (others es s).filterMap (pr ds)
theorem mem_prs {ds : List Nd} {es : List En} {s : ByteArray} {x : Int} : x ∈ prs ds es s ↔ ∃ e ∈ es, e.name ≠ s ∧ pr ds e.r = some x := by
  simp only [prs, others, List.mem_filterMap, List.mem_map, List.mem_filter, decide_eq_true_eq]
  constructor
  · rintro ⟨_, ⟨e, ⟨h1, h2⟩, rfl⟩, h3⟩; exact ⟨e, h1, h2, h3⟩
  · rintro ⟨e, h1, h2, h3⟩; exact ⟨_, ⟨e, ⟨h1, h2⟩, rfl⟩, h3⟩

theorem ok_low (ds : List Nd) (es : List En) (s : ByteArray) (hl : es.length ≤ 12) (hin : ∀ e ∈ es, InG ds e.r) : Ok P F.context_Lowest [.agg [.sl (ds.map Nd.enc)], .sl (es.map En.enc), .str s] (.tup [i (low (prs ds es s)).1, .bool (low (prs ds es s)).2]) :=
  ok_context_Lowest ds es s (by omega) hin

theorem find_T : ∀ {c : List Et} {s : ByteArray}, (∀ t, findT c s = some t → ∃ e ∈ c, e.name = s ∧ e.t = t) ∧ (findT c s = none → ∀ e ∈ c, e.name ≠ s)
  | [], s => ⟨(fun t h => by cases h), fun _ _ h => by cases h⟩
  | e :: c, s => by
    obtain ⟨h1, h2⟩ := find_T (c := c) (s := s)
    unfold findT
    by_cases he : e.name = s
    · rw [if_pos he]
      exact ⟨(fun t h => ⟨e, List.mem_cons_self, he, Option.some.inj h⟩), fun h => by cases h⟩
    · rw [if_neg he]
      refine ⟨fun t h => ?_, fun h e' he' => ?_⟩
      · obtain ⟨e', a, b⟩ := h1 t h
        exact ⟨e', List.mem_cons_of_mem _ a, b⟩
      · rcases List.mem_cons.1 he' with rfl | he'
        · exact he
        · exact h2 h e' he'

theorem e_nil_str : (.str ⟨#[]⟩ : PV) = .str ByteArray.empty := rfl

theorem ok_law13_ContextDrops (c : List Et) (s : ByteArray) (hl : c.length ≤ 1400000000000) (hlim : ∀ e ∈ c, Lim e.t) : Ok P F.law13_ContextDrops [.sl (c.map Et.enc), .str s] (.bool true) := by
  obtain ⟨b, hR, hb⟩ := ok_law13_right c hl hlim
  refine k_law13_ContextDrops _ _ rfl (d_call awake13 (d_l (.bool false) rfl fun _ => d_false (d_call hR (d_l (.bool !b) rfl fun _ => d_ite (fun h => d_call awake13 (d_ret rfl)) fun h => ?_))))
  have hb := hb (by simpa using h)
  obtain ⟨ds, es, hB, hA, hd, hel, hok⟩ := built13 hb
  have hcl := hA.len
  have hdl : (dropE es s).length ≤ 12 := Nat.le_trans (List.length_filter_le _ _) hel
  have hsub : ∀ e ∈ dropE es s, e ∈ es ∧ e.name ≠ s := fun e he => by
    obtain ⟨h1, h2⟩ := List.mem_filter.1 he
    exact ⟨h1, by simpa using h2⟩
  have hD := ok_context_Drop es s (by omega)
  have hnone : findE (dropE es s) s = none := by
    cases hf : findE (dropE es s) s with
    | none => rfl
    | some r =>
      obtain ⟨e, he, hn⟩ := find_some.1 (show (findE (dropE es s) s).isSome = true by rw [hf]; rfl)
      exact absurd hn (hsub e he).2
  have hFd := ok_context_Find (dropE es s) s (by omega)
  rw [hnone] at hFd
  have hin := hA.inG
  have hinD : ∀ e ∈ dropE es s, InG ds e.r := fun e he => hin e (hsub e he).1
  refine d_call hB (d_l (.agg [.sl (ds.map Nd.enc)]) rfl fun _ => d_l (.sl (es.map En.enc)) rfl fun _ => d_l (.agg [.sl (ds.map Nd.enc)]) rfl fun _ => d_call hD (d_call hFd (d_l (.agg [i 0, i 0]) rfl fun _ => d_l (.bool false) rfl fun _ => d_l (.agg [i 0, i 0]) rfl fun _ => ?_)))
  refine den_rounds (fun j => [i j]) (dropE es s).length rfl (fun j hj => ?_) ?_
  · obtain ⟨h1, h2⟩ := hinD _ (List.getElem_mem hj)
    refine d_l _ e_len fun _ => d_l _ rfl fun _ => d_dec (fun _ => ?_) fun h => absurd (show (j : Int) < (((dropE es s).map En.enc).length : Int) by simp; omega) h
    refine d_l _ (e_idx (en_at hj) (En.okc_enc _)) fun _ => d_l (.bool (decide ((dropE es s)[j].r.node < 0))) rfl fun _ => d_dec (fun hc => by omega) fun _ => d_l _ (e_idx (en_at hj) (En.okc_enc _)) fun _ => d_l (i (ds.length : Int)) (by rw [← List.length_map (f := Nd.enc)]; exact e_len) fun _ => d_l (.bool (decide ((dropE es s)[j].r.node ≥ (ds.length : Int)))) rfl fun _ => d_dec (fun hc => by omega) fun _ => d_l _ (e_inc (by omega)) fun _ => d_cont rfl rfl
  · refine d_l _ e_len fun _ => d_l _ rfl fun _ => d_dec (fun h => ?_) fun _ => ?_
    · have h : ((dropE es s).length : Int) < (((dropE es s).map En.enc).length : Int) := h
      simp at h
    refine d_call (ok_low ds es ⟨#[]⟩ hel hin) (d_l (i (low (prs ds es ⟨#[]⟩)).1) rfl fun _ => d_l (.bool (low (prs ds es ⟨#[]⟩)).2) rfl fun _ => d_call (ok_low ds (dropE es s) ⟨#[]⟩ hdl hinD) (d_l (i (low (prs ds (dropE es s) ⟨#[]⟩)).1) rfl fun _ => d_l (.bool (low (prs ds (dropE es s) ⟨#[]⟩)).2) rfl fun _ => d_call (ok_ref13_Find c s (by omega)) ?_))
    have hsubP : ∀ x, x ∈ prs ds (dropE es s) ⟨#[]⟩ → x ∈ prs ds es ⟨#[]⟩ := fun x hx => by
      obtain ⟨e, h1, h2, h3⟩ := mem_prs.1 hx
      exact mem_prs.2 ⟨e, (hsub e h1).1, h2, h3⟩
    have tail : ∀ (had : Bool), (had = false → dropE es s = es) → ∀ hs : List (List PV → Prop), (T.l .bnot [.bool false] fun x30 =>
       .ite x30 (
        .l .bnot [.bool (low (prs ds (dropE es s) ⟨#[]⟩)).2] fun x31 =>
        .ite x31 (
         .ite (.bool had) (
          .ret (.bool true)) (
          .l .len [.sl ((dropE es s).map En.enc)] fun x32 =>
          .l .len [.sl (es.map En.enc)] fun x33 =>
          .l (.cmp .eql .i64) [x32, x33] fun x34 =>
          .ret x34)) (
         .ite (.bool (low (prs ds es ⟨#[]⟩)).2) (
          .l (.cmp .leq .i64) [i (low (prs ds es ⟨#[]⟩)).1, i (low (prs ds (dropE es s) ⟨#[]⟩)).1] fun x32 =>
          .ite x32 (
           .ite (.bool had) (
            .ret (.bool true)) (
            .l .len [.sl ((dropE es s).map En.enc)] fun x33 =>
            .l .len [.sl (es.map En.enc)] fun x34 =>
            .l (.cmp .eql .i64) [x33, x34] fun x35 =>
            .ret x35)) (
           .ret (.bool false))) (
          .ret (.bool false)))) (
        .ret (.bool false))).den0 P (· = .bool true) hs := by
      intro had hh hs
      have last : (T.ite (.bool had) (
          .ret (.bool true)) (
          .l .len [.sl ((dropE es s).map En.enc)] fun x32 =>
          .l .len [.sl (es.map En.enc)] fun x33 =>
          .l (.cmp .eql .i64) [x32, x33] fun x34 =>
          .ret x34)).den0 P (· = .bool true) hs := by
        refine d_ite (fun _ => d_ret rfl) fun h => ?_
        rw [hh h]
        refine d_l _ e_len fun _ => d_l _ e_len fun _ => d_l (.bool true) ?_ fun _ => d_ret rfl
        show (if IntKind.i64 = .i64 ∧ IntKind.i64 = .i64 then (cmpV .eql ((es.map En.enc).length : Int) ((es.map En.enc).length : Int)).map PV.bool else none) = _
        simp [cmpV]
      refine d_l (.bool true) rfl fun _ => d_true (d_l (.bool !(low (prs ds (dropE es s) ⟨#[]⟩)).2) rfl fun _ => d_ite (fun _ => last) fun hm => ?_)
      have hm : (low (prs ds (dropE es s) ⟨#[]⟩)).2 = true := by simpa using hm
      obtain ⟨q1, q2, q3⟩ := low_some (low_true hm)
      obtain ⟨p1, p2, p3⟩ := low_some (ps := prs ds es ⟨#[]⟩) (fun he => by
        have := hsubP _ q2
        rw [he] at this; cases this)
      rw [p1]
      refine d_true (d_l _ rfl fun _ => d_dec (fun _ => last) fun hc => absurd (p3 _ (hsubP _ q2)) hc)
    cases hf : findT c s with
    | none =>
      refine d_l (.agg [i 0, i 0, .str ⟨#[]⟩, i 0, .sl [], .sl []]) rfl fun _ => d_l (.bool false) rfl fun _ => d_l (.agg [i 0, i 0, .str ⟨#[]⟩, i 0, .sl [], .sl []]) rfl fun _ => d_false ?_
      refine tail false (fun _ => ?_) _
      have hno := find_T.2 hf
      refine List.filter_eq_self.2 fun e he => ?_
      obtain ⟨j, hj, rfl⟩ := List.getElem_of_mem he
      have hjc : j < c.length := by omega
      have := hno _ (List.getElem_mem hjc)
      rw [← (hA.at j hj hjc).1] at this
      simp [this]
    | some t =>
      obtain ⟨e, he, hn, ht⟩ := find_T.1 t hf
      have hokt : Ok2 t := by rw [← ht]; exact hok e he
      refine d_l t.enc rfl fun _ => d_l (.bool true) rfl fun _ => d_l _ (e_okc (Ty.okc_enc t)) fun _ => d_true (d_call (ok_ref13_IsLive hokt) ?_)
      have tl := tail true (fun h => by cases h)
      cases hp : prT t with
      | some p => exact d_l (.bool false) rfl fun _ => d_false (tl _)
      | none =>
        have heq : low (prs ds es ⟨#[]⟩) = low (prs ds (dropE es s) ⟨#[]⟩) := low_eq fun x => ⟨fun hx => by
          obtain ⟨e1, h1, h2, h3⟩ := mem_prs.1 hx
          refine mem_prs.2 ⟨e1, List.mem_filter.2 ⟨h1, ?_⟩, h2, h3⟩
          have hne : e1.name ≠ s := by
            intro hs
            obtain ⟨j, hj, rfl⟩ := List.getElem_of_mem h1
            obtain ⟨k, hk, rfl⟩ := List.getElem_of_mem he
            have hke : k < es.length := by omega
            obtain ⟨a1, a2, _⟩ := hA.at k hke hk
            have : es[j] = es[k] := hd.eq h1 (List.getElem_mem hke) (by rw [hs, a1, hn])
            rw [this, a2, ht, hp] at h3
            cases h3
          simp [hne], hsubP x⟩
        refine d_l (.bool true) rfl fun _ => d_true ?_
        have e1 : (Prim.cmp .neq .i64).ev [i (low (prs ds es ⟨#[]⟩)).1, i (low (prs ds (dropE es s) ⟨#[]⟩)).1] = some (.bool false) := by
          rw [heq]
          show (if IntKind.i64 = .i64 ∧ IntKind.i64 = .i64 then (cmpV .neq _ _).map PV.bool else none) = _
          simp [cmpV]
        have e2 : (Prim.bcmp .neq).ev [.bool (low (prs ds es ⟨#[]⟩)).2, .bool (low (prs ds (dropE es s) ⟨#[]⟩)).2] = some (.bool false) := by
          rw [heq]
          cases (low (prs ds (dropE es s) ⟨#[]⟩)).2 <;> rfl
        exact d_l _ e1 fun _ => d_false (d_l _ e2 fun _ => d_false (tl _))

theorem ok_law13_ContextParts (c : List Et) (names : List ByteArray) (hl : c.length ≤ 1400000000000) (hlim : ∀ e ∈ c, Lim e.t) (hnl : names.length ≤ maxLen) : Ok P F.law13_ContextParts [.sl (c.map Et.enc), .sl (names.map .str)] (.bool true) := by
  obtain ⟨b, hR, hb⟩ := ok_law13_right c hl hlim
  refine k_law13_ContextParts _ _ rfl (d_call awake13 (d_l (.bool false) rfl fun _ => d_false (d_call hR (d_l (.bool !b) rfl fun _ => d_ite (fun h => d_call awake13 (d_ret rfl)) fun h => d_l _ e_len fun _ => d_l _ rfl fun _ => d_dec (fun _ => d_call awake13 (d_ret rfl)) fun hn => ?_))))
  have hb := hb (by simpa using h)
  have hn : ¬ ((names.map PV.str).length : Int) > 100 := hn
  have hn : names.length ≤ 549755813888 := by simp at hn; omega
  obtain ⟨ds, es, hB, hA, hd, hel, hok⟩ := built13 hb
  have hcl := hA.len
  have hin := hA.inG
  have hSp := ok_context_Split ds es names (by omega) hn hin
  have hl1 : (es.filter (inA ds names)).length ≤ 12 := Nat.le_trans (List.length_filter_le _ _) hel
  have hl2 : (es.filter (inB ds names)).length ≤ 12 := Nat.le_trans (List.length_filter_le _ _) hel
  have hi1 : ∀ e ∈ es.filter (inA ds names), InG ds e.r := fun e he => hin e (List.mem_filter.1 he).1
  have hi2 : ∀ e ∈ es.filter (inB ds names), InG ds e.r := fun e he => hin e (List.mem_filter.1 he).1
  have hlen : Prim.len.ev [.sl (ds.map Nd.enc)] = some (i (ds.length : Int)) := by rw [← List.length_map (f := Nd.enc)]; exact e_len
  refine d_call hB (d_l (.agg [.sl (ds.map Nd.enc)]) rfl fun _ => d_l (.sl (es.map En.enc)) rfl fun _ => d_l (.agg [.sl (ds.map Nd.enc)]) rfl fun _ => d_call hSp (d_l (.sl ((es.filter (inA ds names)).map En.enc)) rfl fun _ => d_l (.sl ((es.filter (inB ds names)).map En.enc)) rfl fun _ => d_l _ hlen fun _ =>
    d_call (ok_law13_inside _ ds.length (by omega) hi1) (d_l (.bool false) rfl fun _ => d_false (d_l _ hlen fun _ => d_call (ok_law13_inside _ ds.length (by omega) hi2) (d_l (.bool false) rfl fun _ => d_false ?_)))))
  have hE : low (((c.filter fun e => !decide (e.name = ⟨#[]⟩)).map Et.t).filterMap prT) = low (prs ds es ⟨#[]⟩) := by
    congr 1
    have h2 : A2 ds (es.filter fun e => decide (e.name ≠ ⟨#[]⟩)) (c.filter fun e => !decide (e.name = ⟨#[]⟩)) := hA.filter fun e t h1 _ => by rw [h1]; simp
    exact h2.fm.symm
  have hRL := ok_ref13_Lowest c ⟨#[]⟩ (by omega) hok
  rw [hE] at hRL
  have hmem : ∀ x, x ∈ prs ds es ⟨#[]⟩ ↔ x ∈ prs ds (es.filter (inA ds names)) ⟨#[]⟩ ∨ x ∈ prs ds (es.filter (inB ds names)) ⟨#[]⟩ := by
    intro x
    rw [mem_prs, mem_prs, mem_prs]
    constructor
    · rintro ⟨e, h1, h2, h3⟩
      cases hm : memB e.name names with
      | true => exact .inl ⟨e, List.mem_filter.2 ⟨h1, by simp [inA, hm]⟩, h2, h3⟩
      | false => exact .inr ⟨e, List.mem_filter.2 ⟨h1, by simp [inB, hm]⟩, h2, h3⟩
    · rintro (⟨e, h1, h2, h3⟩ | ⟨e, h1, h2, h3⟩)
      · exact ⟨e, (List.mem_filter.1 h1).1, h2, h3⟩
      · exact ⟨e, (List.mem_filter.1 h1).1, h2, h3⟩
  refine d_call (ok_low ds _ ⟨#[]⟩ hl1 hi1) (d_l (i (low (prs ds (es.filter (inA ds names)) ⟨#[]⟩)).1) rfl fun _ => d_l (.bool (low (prs ds (es.filter (inA ds names)) ⟨#[]⟩)).2) rfl fun _ => d_call (ok_low ds _ ⟨#[]⟩ hl2 hi2) (d_l (i (low (prs ds (es.filter (inB ds names)) ⟨#[]⟩)).1) rfl fun _ => d_l (.bool (low (prs ds (es.filter (inB ds names)) ⟨#[]⟩)).2) rfl fun _ => d_call hRL (d_l (i (low (prs ds es ⟨#[]⟩)).1) rfl fun _ => d_l (.bool (low (prs ds es ⟨#[]⟩)).2) rfl fun _ => ?_)))
  have hp : ∀ p ∈ prs ds es ⟨#[]⟩, IntKind.i64.wrap p = p := by
    intro p hp
    obtain ⟨e, h1, h2, h3⟩ := mem_prs.1 hp
    obtain ⟨j, hj, rfl⟩ := List.getElem_of_mem h1
    have hjc : j < c.length := by omega
    obtain ⟨a1, a2, _⟩ := hA.at j hj hjc
    obtain ⟨⟨n, hn⟩, _⟩ := hok _ (List.getElem_mem hjc)
    have hb := hd_prio hn
    rw [a2] at h3
    unfold prT at h3
    split at h3
    · have := Option.some.inj h3
      exact wrap_in (by omega) (by omega)
    · cases h3
  generalize prs ds es ⟨#[]⟩ = pe at hmem hp ⊢
  generalize prs ds (es.filter (inA ds names)) ⟨#[]⟩ = pa at hmem ⊢
  generalize prs ds (es.filter (inB ds names)) ⟨#[]⟩ = pb at hmem ⊢
  have hadd : ∀ a b : Int, (Prim.arith .add .i64).ev [i a, i b] = some (i (IntKind.i64.wrap (a + b))) := fun a b => rfl
  have heq : ∀ a b : Int, a = b → (Prim.cmp .eql .i64).ev [i a, i b] = some (.bool true) := by
    rintro a b rfl
    show (if IntKind.i64 = .i64 ∧ IntKind.i64 = .i64 then (cmpV .eql a a).map PV.bool else none) = _
    simp [cmpV]
  cases hx : (low pa).2 with
  | true =>
    have hxa := low_true hx
    obtain ⟨a1, a2, a3⟩ := low_some hxa
    have hpe : pe ≠ [] := fun h => by
      have := (hmem _).2 (.inl a2)
      rw [h] at this; cases this
    obtain ⟨e1, e2, e3⟩ := low_some hpe
    cases hy : (low pb).2 with
    | true =>
      obtain ⟨b1, b2, b3⟩ := low_some (low_true hy)
      rw [e1]
      refine d_true (d_true (d_true (d_l (i (if (low pb).1 < (low pa).1 then (low pb).1 else (low pa).1)) rfl fun _ => d_l _ (heq _ _ ?_) fun _ => d_ret rfl)))
      have h1 := e3 _ ((hmem _).2 (.inl a2))
      have h2 := e3 _ ((hmem _).2 (.inr b2))
      rcases (hmem _).1 e2 with h3 | h3
      · have := a3 _ h3
        split <;> omega
      · have := b3 _ h3
        split <;> omega
    | false =>
      have hpb := low_false hy
      have hle : low pe = low pa := low_eq fun x => by rw [hmem x, hpb]; simp
      rw [hpb, e1]
      refine d_true (d_false (d_true (d_l (.bool true) rfl fun _ => d_true (d_l _ (hadd _ _) fun _ => d_l _ (heq _ _ ?_) fun _ => d_ret rfl))))
      rw [low_nil, Int.add_zero, ← hle]
      exact (hp _ e2).symm
  | false =>
    have hpa := low_false hx
    have hle : low pe = low pb := low_eq fun x => by rw [hmem x, hpa]; simp
    rw [hpa, hle]
    refine d_false (d_false (d_l (.bool true) ?_ fun _ => d_true (d_l _ (hadd _ _) fun _ => d_l _ (heq _ _ ?_) fun _ => d_ret rfl)))
    · cases (low pb).2 <;> rfl
    · rw [low_nil, Int.zero_add]
      cases hy : (low pb).2 with
      | true =>
        obtain ⟨b1, b2, b3⟩ := low_some (low_true hy)
        exact (hp _ ((hmem _).2 (.inr b2))).symm
      | false =>
        rw [low_false hy]; rfl

end Go.Proofs.Ytlemfbmaineigaa.Tx

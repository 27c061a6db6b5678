/- The laws of contexts: splits, drops, parts. -/
import Derived.Test.YtlemfbmaineigaaWk36
import Derived.Test.YtlemfbmaineigaaDAwake13
set_option linter.all false
namespace Go.Proofs.Ytlemfbmaineigaa.Tx
open Go.Lf Go.Lf.S Go.Lf.Duo
set_option maxRecDepth 100000

/-- a context and the one that it is built from -/
inductive A2 (ds : List Nd) : List En → List Et → Prop
  | nil : A2 ds [] []
  | cons (e : En) (t : Et) (es : List En) (c : List Et) (hn : e.name = t.name) (hp : pr ds e.r = prT t.t) (hi : InG ds e.r) (h : A2 ds es c) : A2 ds (e :: es) (t :: c)

theorem A2.of {ds : List Nd} : ∀ {es : List En} {c : List Et}, es.length = c.length → (∀ j (h1 : j < es.length) (h2 : j < c.length), es[j].name = c[j].name ∧ pr ds es[j].r = prT c[j].t ∧ InG ds es[j].r) → A2 ds es c
  | [], [], _, _ => .nil
  | [], _ :: _, h, _ => by simp at h
  | _ :: _, [], h, _ => by simp at h
  | e :: es, t :: c, h, hj => by
    obtain ⟨h1, h2, h3⟩ := hj 0 (by simp) (by simp)
    exact .cons e t es c h1 h2 h3 (A2.of (by simpa using h) fun j a b => hj (j + 1) (Nat.succ_lt_succ a) (Nat.succ_lt_succ b))
theorem A2.len {ds : List Nd} {es : List En} {c : List Et} (h : A2 ds es c) : es.length = c.length := by
  induction h with
  | nil => rfl
  | cons e t es c hn hp hi h ih => simp [ih]
theorem A2.at {ds : List Nd} {es : List En} {c : List Et} (h : A2 ds es c) : ∀ j (h1 : j < es.length) (h2 : j < c.length), es[j].name = c[j].name ∧ pr ds es[j].r = prT c[j].t ∧ InG ds es[j].r := by
  induction h with
  | nil => intro j h1; simp at h1
  | cons e t es c hn hp hi h ih =>
    intro j h1 h2
    cases j with
    | zero => exact ⟨hn, hp, hi⟩
    | succ j => simpa using ih j (by simpa using h1) (by simpa using h2)
theorem A2.inG {ds : List Nd} {es : List En} {c : List Et} (h : A2 ds es c) : ∀ e ∈ es, InG ds e.r := by
  intro e he
  obtain ⟨j, hj, rfl⟩ := List.getElem_of_mem he
  exact (h.at j hj (by have := h.len; omega)).2.2
theorem A2.filter {ds : List Nd} {p : En → Bool} {q : Et → Bool} (hpq : ∀ e t, e.name = t.name → pr ds e.r = prT t.t → p e = q t) {es : List En} {c : List Et} (h : A2 ds es c) : A2 ds (es.filter p) (c.filter q) := by
  induction h with
  | nil => exact .nil
  | cons e t es c hn hp hi h ih =>
    have he := hpq e t hn hp
    cases hq : q t with
    | true => rw [List.filter_cons_of_pos (by rw [he, hq]), List.filter_cons_of_pos (by rw [hq])]; exact .cons e t _ _ hn hp hi ih
    | false => rw [List.filter_cons_of_neg (by rw [he, hq]; simp), List.filter_cons_of_neg (by rw [hq]; simp)]; exact ih
theorem A2.fm {ds : List Nd} {es : List En} {c : List Et} (h : A2 ds es c) : (es.map En.r).filterMap (pr ds) = (c.map Et.t).filterMap prT := by
  induction h with
  | nil => rfl
  | cons e t es c hn hp hi h ih =>
    simp only [List.map_cons, List.filterMap_cons, hp, ih]

/-- different names -/
def Dn (es : List En) : Prop := ∀ p q (hp : p < es.length) (hq : q < es.length), p < q → es[p].name ≠ es[q].name
theorem Dn.find {es : List En} (h : Dn es) {e : En} (he : e ∈ es) : findE es e.name = some e.r := by
  obtain ⟨j, hj, rfl⟩ := List.getElem_of_mem he
  exact findE_some (ixf_of hj rfl fun q hq hlt => h q j hq hj hlt) hj
theorem Dn.eq {es : List En} (h : Dn es) {e e' : En} (he : e ∈ es) (he' : e' ∈ es) (hn : e.name = e'.name) : e = e' := by
  obtain ⟨j, hj, rfl⟩ := List.getElem_of_mem he
  obtain ⟨k, hk, rfl⟩ := List.getElem_of_mem he'
  rcases Nat.lt_trichotomy j k with hl | hl | hl
  · exact absurd hn (h j k hj hk hl)
  · subst hl; rfl
  · exact absurd hn.symm (h k j hk hj hl)
theorem find_some {es : List En} {s : ByteArray} : (findE es s).isSome = true ↔ ∃ e ∈ es, e.name = s := by
  cases hx : ixf es s with
  | none =>
    rw [findE_none hx]
    constructor
    · intro h; cases h
    · rintro ⟨e, he, hn⟩; exact absurd hn (ixf_none hx e he)
  | some k =>
    obtain ⟨hk, he, _⟩ := ixf_some hx
    rw [findE_some hx hk]
    exact ⟨fun _ => ⟨_, List.getElem_mem hk, he⟩, fun _ => rfl⟩
theorem find_filter {es : List En} (h : Dn es) (p : En → Bool) {e : En} (he : e ∈ es) : (findE (es.filter p) e.name).isSome = p e := by
  rw [Bool.eq_iff_iff, find_some]
  constructor
  · rintro ⟨e', he', hn⟩
    obtain ⟨h1, h2⟩ := List.mem_filter.1 he'
    rw [← h.eq h1 he hn]; exact h2
  · exact fun hp => ⟨e, List.mem_filter.2 ⟨he, hp⟩, rfl⟩

/-- a right context, built -/
theorem built13 {c : List Et} (hc : Rgt c) : ∃ (ds : List Nd) (es : List En), Ok P F.law13_build [.sl (c.map Et.enc)] (.tup [.agg [.sl (ds.map Nd.enc)], .sl (es.map En.enc)]) ∧ A2 ds es c ∧ Dn es ∧ es.length ≤ 12 ∧ (∀ e ∈ c, Ok2 e.t) := by
  obtain ⟨h1, h2, h3⟩ := hc
  have hl : ∀ t ∈ c.map Et.t, (t.sz : Int) ≤ 60 ∧ Wf t [] 0 := fun t ht => by
    obtain ⟨e, he, rfl⟩ := List.mem_map.1 ht
    obtain ⟨a, b⟩ := h3 e he
    exact ⟨by omega, b⟩
  obtain ⟨ds, rs, hB, hG, hgr, hrl, hrs, hdf, hrf⟩ := built' (c.map Et.t) 12 60 (by simp; omega) (by omega) hl
  have hrl : rs.length = c.length := by simpa using hrl
  have hbl := bld_len hrl
  have hA : A2 ds (bld c rs) c := A2.of hbl fun j a b => by
    have hjr : j < rs.length := by omega
    obtain ⟨r, e1, e2⟩ := pr_root (c.map Et.t) (fun t ht => (hl t ht).2) j (by simpa using b)
    rw [← hrf, List.getElem?_eq_getElem hjr] at e1
    have e1 := Option.some.inj e1
    rw [← hdf] at e2
    obtain ⟨f1, f2, _⟩ := hrs j rs[j] (List.getElem?_eq_getElem hjr)
    rw [bld_at b hjr a]
    refine ⟨rfl, ?_, f1, f2⟩
    show pr ds rs[j] = _
    rw [e1, e2]; simp
  refine ⟨ds, bld c rs, ok_law13_build c (by omega) hrl hG, hA, fun p q hp hq hpq => ?_, by omega, fun e he => ?_⟩
  · rw [(hA.at p hp (by omega)).1, (hA.at q hq (by omega)).1]
    exact h1 p q _ _ hpq
  · obtain ⟨a, b⟩ := h3 e he
    exact ⟨Wf.hd e.t [] b, Wf.ln e.t [] 0 b (by omega)⟩

theorem st_eqN (es : List En) : (Prim.lst 3 true).ev ([] : List PV) = some (.sl []) := rfl
theorem own_app (es : List En) (hl : es.length ≤ 549755813888) : (Prim.app 3 true 32).ev [.sl [], .sl (es.map En.enc)] = some (.sl (es.map En.enc)) := by
  rw [e_app (all_map En.okc_enc es) (by simp; omega) (by simp; omega)]; rfl
theorem en_ne (e : En) : (Prim.acmp .neq [.s, .i .i64, .i .i64]).ev [e.enc, e.enc] = some (.bool false) := by
  simp [Prim.ev, En.enc, PV.sameK, PV.same1]

theorem same_of {ds : List Nd} {a es : List En} {x : List Et} (hA : A2 ds a x) (hd : Dn es) (hs : ∀ e ∈ a, e ∈ es) (hl : es.length ≤ 12) (hal : a.length ≤ 12) : Ok P F.law13_same [.sl (a.map En.enc), .sl (x.map Et.enc), .sl (es.map En.enc)] (.bool true) := by
  refine ok_law13_same a x es (by omega) (by omega) hA.len fun j h1 h2 => ?_
  obtain ⟨g1, _, _⟩ := hA.at j h1 h2
  exact ⟨g1, by rw [← g1]; exact hd.find (hs _ (List.getElem_mem h1))⟩

theorem fnd_tc1 (o : Option Rf) : (Prim.tc 1).ev [fndr o] = some (.bool o.isSome) := by cases o <;> rfl
theorem fnd_tc0 (o : Option Rf) : ∃ r : Rf, (Prim.tc 0).ev [fndr o] = some r.enc := by
  cases o with
  | none => exact ⟨⟨0, 0⟩, rfl⟩
  | some r => exact ⟨r, rfl⟩

theorem ok_law13_ContextSplits (c : List Et) (names : List ByteArray) (hl : c.length ≤ 1400000000000) (hlim : ∀ e ∈ c, Lim e.t) (hnl : names.length ≤ maxLen) : Ok P F.law13_ContextSplits [.sl (c.map Et.enc), .sl (names.map .str)] (.bool true) := by
  obtain ⟨b, hR, hb⟩ := ok_law13_right c hl hlim
  refine k_law13_ContextSplits _ _ rfl (d_call awake13 (d_l (.bool false) rfl fun _ => d_false (d_call hR (d_l (.bool !b) rfl fun _ => d_ite (fun h => d_call awake13 (d_ret rfl)) fun h => d_l _ e_len fun _ => d_l _ rfl fun _ => d_dec (fun _ => d_call awake13 (d_ret rfl)) fun hn => ?_))))
  have hb := hb (by simpa using h)
  have hn : ¬ ((names.map PV.str).length : Int) > 100 := hn
  have hn : names.length ≤ 549755813888 := by simp at hn; omega
  obtain ⟨ds, es, hB, hA, hd, hel, hok⟩ := built13 hb
  have hcl := hA.len
  have hSp := ok_context_Split ds es names (by omega) hn hA.inG
  have hRs := ok_ref13_Split c names (by omega) hn hok
  have hA1 : A2 ds (es.filter (inA ds names)) (c.filter (inAr names)) := hA.filter fun e t h1 h2 => by simp [inA, inAr, h1, h2]
  have hA2 : A2 ds (es.filter (inB ds names)) (c.filter (inBr names)) := hA.filter fun e t h1 h2 => by simp [inB, inBr, h1, h2]
  have hl1 : (es.filter (inA ds names)).length ≤ 12 := Nat.le_trans (List.length_filter_le _ _) hel
  have hl2 : (es.filter (inB ds names)).length ≤ 12 := Nat.le_trans (List.length_filter_le _ _) hel
  have hs1 := same_of hA1 hd (fun e he => (List.mem_filter.1 he).1) hel hl1
  have hs2 := same_of hA2 hd (fun e he => (List.mem_filter.1 he).1) hel hl2
  refine d_call hB (d_l (.agg [.sl (ds.map Nd.enc)]) rfl fun _ => d_l (.sl (es.map En.enc)) rfl fun _ => d_l (.agg [.sl (ds.map Nd.enc)]) rfl fun _ => d_l (.sl []) rfl fun _ => d_l (.sl (es.map En.enc)) (own_app es (by omega)) fun _ => d_call hSp (d_l (.sl ((es.filter (inA ds names)).map En.enc)) rfl fun _ => d_l (.sl ((es.filter (inB ds names)).map En.enc)) rfl fun _ => d_call hRs (d_l (.sl ((c.filter (inAr names)).map Et.enc)) rfl fun _ => d_l (.sl ((c.filter (inBr names)).map Et.enc)) rfl fun _ =>
    d_call hs1 (d_l (.bool false) rfl fun _ => d_false (d_call hs2 (d_l (.bool false) rfl fun _ => d_false ?_))))))
  refine den_rounds (fun j => [i j]) c.length rfl (fun j hj => ?_) ?_
  · have hje : j < es.length := by omega
    obtain ⟨g1, g2, _⟩ := hA.at j hje hj
    have hm := List.getElem_mem hje
    have hf1 := ok_law13_find (es.filter (inA ds names)) c[j].name (by omega)
    have hf2 := ok_law13_find (es.filter (inB ds names)) c[j].name (by omega)
    obtain ⟨r1, t1⟩ := fnd_tc0 (findE (es.filter (inA ds names)) c[j].name)
    obtain ⟨r2, t2⟩ := fnd_tc0 (findE (es.filter (inB ds names)) c[j].name)
    have u1 := fnd_tc1 (findE (es.filter (inA ds names)) c[j].name)
    have u2 := fnd_tc1 (findE (es.filter (inB ds names)) c[j].name)
    rw [← g1, find_filter hd _ hm] at u1
    rw [← g1, find_filter hd _ hm] at u2
    rw [← g1] at hf1 hf2 t1 t2
    have hlv := ok_ref13_IsLive (hok _ (List.getElem_mem hj))
    rw [← g2] at hlv
    refine d_l _ e_len fun _ => d_l _ rfl fun _ => d_dec (fun _ => ?_) fun h => absurd (show (j : Int) < ((c.map Et.enc).length : Int) by simp; omega) h
    have hx : (Prim.idx 7 true).ev [.sl (c.map Et.enc), i (j : Int)] = some c[j].enc := e_idx (et_at hj) (Et.okc_enc _)
    refine d_l _ hx fun _ => d_call (r := fndr (findE (es.filter (inA ds names)) es[j].name)) (by show Ok P F.law13_find [_, .str c[j].name] _; rw [← g1]; exact hf1) (d_l _ t1 fun _ => d_l _ u1 fun _ => d_l _ (e_okc (Rf.okc_enc r1)) fun _ => d_l _ hx fun _ => d_call (r := fndr (findE (es.filter (inB ds names)) es[j].name)) (by show Ok P F.law13_find [_, .str c[j].name] _; rw [← g1]; exact hf2) (d_l _ t2 fun _ => d_l _ u2 fun _ => d_l _ (e_okc (Rf.okc_enc r2)) fun _ => ?_))
    refine d_l _ (e_idx (en_at hje) (En.okc_enc _)) fun _ => d_l _ (e_idx (en_at hje) (En.okc_enc _)) fun _ => d_l _ (en_ne _) fun _ => d_false (d_l _ hx fun _ => d_call (r := .bool (pr ds es[j].r).isSome) (by rw [Et.sub]; exact hlv) ?_)
    have fin : ∀ {K : PV → Prop} {g : List PV → Prop}, g [i ((j + 1 : Nat) : Int)] → (T.l (.arith .add .i64) [i (j : Int), i 1] fun x42 => .cont 0 [x42]).den0 P K ([] ++ [g]) := fun hg => d_l _ (e_inc (by omega)) fun _ => d_cont rfl hg
    unfold inA inB
    cases (pr ds es[j].r).isSome with
    | false =>
      exact d_true (d_l (.bool false) rfl fun _ => d_false (d_l (.bool false) rfl fun _ => d_false (fin rfl)))
    | true =>
      cases memB es[j].name names with
      | true => exact d_true (d_l (.bool false) rfl fun _ => d_false (d_l (.bool false) rfl fun _ => d_false (fin rfl)))
      | false => exact d_false (d_l (.bool false) rfl fun _ => d_false (d_l (.bool true) rfl fun _ => d_true (d_l (.bool false) rfl fun _ => d_false (fin rfl))))
  · refine d_l _ e_len fun _ => d_l _ rfl fun _ => d_dec (fun h => ?_) fun h => d_ret rfl
    have h : (c.length : Int) < ((c.map Et.enc).length : Int) := h
    simp at h

end Go.Proofs.Ytlemfbmaineigaa.Tx

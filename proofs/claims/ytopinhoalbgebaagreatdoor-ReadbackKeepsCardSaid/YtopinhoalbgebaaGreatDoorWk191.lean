/- Contracts (Wk57, Wk190, Wk191). -/
import Derived.Test.YtopinhoalbgebaaGreatDoorWk56
set_option linter.all false
/- Contracts: right types, exactly, of the program and of the reference; few nodes. -/
namespace Go.Proofs.YtopinhoalbgebaaGreatDoor.Tx
open Go.Lf Go.Lf.S Go.Lf.Duo
set_option maxRecDepth 100000

theorem okx_ref02_node : ∀ (t : Ty), Lim t → ∀ (ns : List ByteArray) (g : Nat) (ses : Bool), ns.length + t.sz ≤ 1099511627776 →
    Ok P F.ref02_node [t.enc, .sl (ns.map .str), i g, .bool ses] (i (nodeE t ns g ses)) := by
  intro t
  induction t using Ty.ind with
  | _ t ih =>
  intro hlim ns g ses hz
  have hb := okx_ref02_shape t hlim
  have hse : Ok P F.ref02_Session [t.enc] (.bool (sesB t.kind)) := ok_ref02_Session t
  have hkl := szs_len t.kids
  cases hlim with
  | mk _ hn hl hll hkl' hkk =>
  obtain ⟨k, p, nm, s, ls, ks⟩ := t
  have hzk : ∀ x ∈ ks, x.sz < (Ty.mk k p nm s ls ks).sz := fun x hx => Ty.sz_kid hx
  simp only [Ty.kids] at ih hkl hkk
  have hks : ks.length ≤ 1099511627776 := by simp only [Ty.sz] at hz; omega
  have hns : ns.length ≤ 1099511627776 := by omega
  rw [Ty.enc_mk] at hb hse ⊢
  refine k_ref02_node _ _ rfl ?_
  refine d_l (.agg [.int .i64 k, .int .i64 p, .str nm, .int .i64 s, .sl (ls.map .str), .sl (ks.map Ty.enc)]) rfl fun _ => d_call hb (d_l _ rfl fun _ => d_ite (fun h => d_ret ?_) fun h => ?_)
  · have h : pb (shapeP (.mk k p nm s ls ks)) = false := by simpa using h
    rw [nodeE_3 (pb_false.1 h)]
  have hsh : shapeP (.mk k p nm s ls ks) := pb_iff.1 (by simpa using h)
  have hsh' := hsh
  simp only [shapeP, shP, Ty.kind, Ty.prio, Ty.shift, Ty.kids, Ty.labels, Ty.name] at hsh'
  refine d_ite (fun hs => d_call hse (d_l _ rfl fun _ => d_ite (fun h2 => d_ret ?_) fun h2 => ?_)) fun hs => ?_
  · rw [nodeE_3s hs (by simpa [Ty.kind] using h2)]
  all_goals
    have hs2 : ses = true → sesB k = true := by
      intro e
      first
        | exact (by simpa [Ty.kind] using h2)
        | exact (by rw [hs] at e; cases e)
    refine d_l _ rfl fun _ => d_dec (fun h9 => ?_) fun h9 => ?_
    · have h9 : k = 9 := h9
      rw [nodeE_9 hsh hs2 h9]
      refine d_l _ e_len fun _ => d_l _ (e_sub (by simp; omega) (by simp; omega)) fun _ => ?_
      refine den_loop (fun m ys => ∃ q : Int, q + 1 = m ∧ q < ns.length ∧ (∀ x : Nat, q < x → ns[x]? ≠ some nm) ∧ ys = [i q]) ns.length ⟨ns.length - 1, by omega, by omega, fun x hx => by rw [List.getElem?_eq_none (by omega)]; simp, by simp⟩ ?_
      rintro m _ ⟨q, hq1, hq2, hq3, rfl⟩
      refine d_l _ rfl fun _ => d_dec (fun h => ?_) fun h => d_ret ?_
      rotate_left
      · have h : ¬ (0 : Int) ≤ q := h
        rw [lastI_not fun x => hq3 x (by omega)]
      have h : (0 : Int) ≤ q := h
      obtain ⟨j, rfl⟩ : ∃ j : Nat, q = j := ⟨q.toNat, by omega⟩
      have hlt : j < ns.length := by omega
      refine d_l _ (e_idx (str_at hlt) rfl) fun _ => d_l _ rfl fun _ => d_dec (fun he => ?_) fun he => ?_
      · have he : ns[j] = nm := he
        have hli : lastI nm ns = some j := lastI_is (by rw [List.getElem?_eq_getElem hlt, he]) fun x hx => hq3 x (by omega)
        rw [hli]
        exact d_l _ rfl fun _ => d_dec (fun hg => d_ret (by have hg : (j : Int) < (g : Int) := hg; simp only []; rw [if_pos (by omega)])) fun hg => d_ret (by have hg : ¬ (j : Int) < (g : Int) := hg; simp only []; rw [if_neg (by omega)])
      · refine d_l _ (e_sub (by omega) (by omega)) fun _ => d_cont rfl ⟨m - 1, by omega, (j : Int) - 1, by omega, by omega, fun x hx => ?_, rfl⟩
        by_cases hxj : x = j
        · subst hxj; rw [List.getElem?_eq_getElem hlt]; intro e; exact he (Option.some.inj e)
        · exact hq3 x (by omega)
    · have h9 : ¬ k = 9 := h9
      rw [nodeE_o hsh hs2 h9]
      refine d_l _ rfl fun _ => d_dec (fun h8 => ?_) fun h8 => ?_
      · have h8 : k = 8 := h8
        rw [if_pos h8, if_pos h8]
        have hk1 : ks.length = 1 := by grind
        obtain ⟨x, rfl⟩ : ∃ x, ks = [x] := by
          match ks, hk1 with
          | [x], _ => exact ⟨x, rfl⟩
        have he := ih x (by simp) (hkk _ (by simp)) (ns ++ [nm]) g true (by have := hzk x (by simp); simp; omega)
        refine d_l x.enc (e_idx (k := 0) (l := [x].map Ty.enc) rfl (Ty.okc_enc _)) fun _ => d_l _ rfl fun _ => d_l _ (e_app (all_map okc_str _) (by simp; omega) (by simp; omega)) fun _ => d_l _ rfl fun _ => d_l _ (e_app (fun x hx => by simp at hx; subst hx; rfl) (by simp; omega) (by simp; omega)) fun _ => ?_
        rw [List.map_append] at he
        refine d_call he (d_ret ?_)
        have e2 : nodeEs [x] (decide (4 ≤ k ∧ k ≤ 5)) (ns ++ [nm]) g = nodeE x (ns ++ [nm]) g true := by
          rw [nodeEs_cons, nodeEs_nil, decide_eq_false (by omega)]
          simp only [Bool.not_false]
          split
          · rfl
          · rename_i h0; exact (Decidable.not_not.1 h0).symm
        rw [e2]
      · have h8 : ¬ k = 8 := h8
        rw [if_neg h8, if_neg h8]
        refine den_loop (fun m ys => ∃ j : Nat, j + m = ks.length ∧ nodeEs (ks.drop j) (if j = 0 then decide (4 ≤ k ∧ k ≤ 5) else false) ns ns.length = nodeEs ks (decide (4 ≤ k ∧ k ≤ 5)) ns ns.length ∧ ys = [i j]) ks.length ⟨0, by omega, by simp, rfl⟩ ?_
        rintro m _ ⟨j, hj, hE, rfl⟩
        refine d_l _ (len_eq ks) fun _ => d_l _ rfl fun _ => d_dec (fun h => ?_) fun h => d_ret ?_
        · have hlt : j < ks.length := by have h : (j : Int) < (ks.length : Int) := h; omega
          have hmem : ks[j] ∈ ks := List.getElem_mem hlt
          rw [nodeEs_drop hlt] at hE
          have fin : ∀ ses : Bool, ses = (!(if j = 0 then decide (4 ≤ k ∧ k ≤ 5) else false)) → (T.call F.ref02_node [ks[j].enc, .sl (ns.map .str), i (ns.length : Int), .bool ses] fun x20 =>
             .l (.cmp .neq .i64) [x20, (i 0)] fun x21 =>
             .ite x21 (.ret x20) (
              .l (.arith .add .i64) [i j, (i 1)] fun x22 =>
              .cont 0 [x22])).den0 P (· = i (nodeEs ks (decide (4 ≤ k ∧ k ≤ 5)) ns ns.length)) ([] ++ [fun zs => ∃ m', m' < m ∧ ∃ j : Nat, j + m' = ks.length ∧ nodeEs (ks.drop j) (if j = 0 then decide (4 ≤ k ∧ k ≤ 5) else false) ns ns.length = nodeEs ks (decide (4 ≤ k ∧ k ≤ 5)) ns ns.length ∧ zs = [i j]]) := by
            rintro ses rfl
            refine d_call (ih _ hmem (hkk _ hmem) ns ns.length _ (by have := hzk _ hmem; omega)) (d_l _ rfl fun _ => d_ndec (fun h0 => d_ret ?_) fun h0 => d_l _ (e_inc (by omega)) fun _ => d_cont rfl ⟨m - 1, by omega, j + 1, by omega, ?_, rfl⟩)
            · have h0 : ¬ nodeE ks[j] ns ns.length (!(if j = 0 then decide (4 ≤ k ∧ k ≤ 5) else false)) = 0 := h0
              rw [if_pos h0] at hE
              rw [← hE]
            · have h0 : nodeE ks[j] ns ns.length (!(if j = 0 then decide (4 ≤ k ∧ k ≤ 5) else false)) = 0 := h0
              rw [if_neg (fun e => e h0)] at hE
              rw [if_neg (by omega)]
              exact hE
          refine d_l _ (e_idx (mp_at hlt) (Ty.okc_enc _)) fun _ => d_l _ (len_eq ns) fun _ => d_l _ rfl fun _ => d_dec (fun h0 => fin true (by have h0 : 0 < (j : Int) := h0; rw [if_neg (by omega)]; rfl)) fun h0 => d_l (.bool (decide (5 < k))) rfl fun _ => fin _ ?_
          have h0 : ¬ 0 < (j : Int) := h0
          rw [if_pos (by omega)]
          have : ¬ (1 ≤ k ∧ k ≤ 3) := fun e => by
            have : ks.length = 0 := by grind
            omega
          have : 1 ≤ k := by grind
          rw [← decide_not]
          exact decide_eq_decide.2 ⟨fun e => by omega, fun e => by omega⟩
        · have h : ¬ (j : Int) < (ks.length : Int) := h
          rw [List.drop_eq_nil_of_le (by omega), nodeEs_nil] at hE
          rw [← hE]

noncomputable def rightE (t : Ty) : Int := if 100 < dep t ∨ 10000 < t.sz then 2 else nodeE t [] 0 false

theorem okx_ref02_Right (t : Ty) (hlim : Lim t) (hz : t.sz ≤ 1099511627776) : Ok P F.ref02_Right [t.enc] (i (rightE t)) := by
  have hd := ok_ref02_Depth t hz
  have hs := ok_ref02_Size t hz
  have he := okx_ref02_node t hlim [] 0 false (by simp; omega)
  refine k_ref02_Right _ _ rfl (d_l _ (e_okc (Ty.okc_enc t)) fun _ => d_call hd (d_l _ rfl fun _ => d_dec (fun h => d_ret ?_) fun h => d_call hs (d_l _ rfl fun _ => d_dec (fun h2 => d_ret ?_) fun h2 => d_call he (d_ret ?_))))
  · have h : (100 : Int) < (dep t : Int) := h
    rw [rightE, if_pos (by omega)]
  · have h2 : (10000 : Int) < (t.sz : Int) := h2
    rw [rightE, if_pos (by omega)]
  · have h : ¬ (100 : Int) < (dep t : Int) := h
    have h2 : ¬ (10000 : Int) < (t.sz : Int) := h2
    rw [rightE, if_neg (by omega)]

end Go.Proofs.YtopinhoalbgebaaGreatDoor.Tx

/- The normal tree of a right type is right: what right types are like throughout. -/
namespace Go.Proofs.YtopinhoalbgebaaGreatDoor.Tx
open Go.Lf Go.Lf.S Go.Lf.Duo
set_option maxRecDepth 100000

/-! a node without a fault -/
theorem nodeEs_zero {g : Nat} {ns : List ByteArray} : ∀ {ks : List Ty} {pay : Bool}, nodeEs ks pay ns g = 0 ↔ ∀ (j : Nat) (k : Ty), ks[j]? = some k → nodeE k ns g (!(pay && decide (j = 0))) = 0
  | [], pay => by simp [nodeEs_nil]
  | t :: r, pay => by
    rw [nodeEs_cons]
    constructor
    · intro h j k hj
      split at h
      · rename_i h0; exact absurd h h0
      · rename_i h0
        have h0 : nodeE t ns g (!pay) = 0 := Decidable.not_not.1 h0
        cases j with
        | zero => cases (Option.some.inj hj : t = k); simpa using h0
        | succ j =>
          have := (nodeEs_zero (ks := r) (pay := false)).1 h j k (by simpa using hj)
          simpa using this
    · intro h
      have h0 := h 0 t rfl
      rw [if_neg (by simpa using h0)]
      refine (nodeEs_zero (ks := r) (pay := false)).2 fun j k hj => ?_
      have := h (j + 1) k (by simpa using hj)
      simpa using this
theorem nodeE_zero {k p : Int} {nm : ByteArray} {s : Int} {ls : List ByteArray} {ks : List Ty} {ns : List ByteArray} {g : Nat} {ses : Bool} : nodeE (.mk k p nm s ls ks) ns g ses = 0 ↔ shapeP (.mk k p nm s ls ks) ∧ (ses = true → sesB k = true) ∧ (k = 9 → ∃ q, lastI nm ns = some q ∧ q < g) ∧
    (¬ k = 9 → ∀ (j : Nat) (x : Ty), ks[j]? = some x → nodeE x (if k = 8 then ns ++ [nm] else ns) (if k = 8 then g else ns.length) (!(decide (4 ≤ k ∧ k ≤ 5) && decide (j = 0))) = 0) := by
  by_cases hsh : shapeP (.mk k p nm s ls ks)
  · by_cases hs : ses = true → sesB k = true
    · by_cases h9 : k = 9
      · rw [nodeE_9 hsh hs h9]
        cases hl : lastI nm ns with
        | none =>
          refine ⟨fun h => absurd (show (4 : Int) = 0 from h) (by decide), ?_⟩
          rintro ⟨_, _, h, _⟩
          obtain ⟨q, hq, _⟩ := h h9
          cases hq
        | some q =>
          simp only []
          refine ⟨fun h => ⟨hsh, hs, fun _ => ⟨q, rfl, ?_⟩, fun h => absurd h9 h⟩, ?_⟩
          · by_cases c : q < g
            · exact c
            · rw [if_neg c] at h; exact absurd h (by decide)
          · rintro ⟨_, _, h, _⟩
            obtain ⟨q', hq, hlt⟩ := h h9
            cases hq
            rw [if_pos hlt]
      · rw [nodeE_o hsh hs h9, nodeEs_zero]
        exact ⟨fun h => ⟨hsh, hs, fun h => absurd h h9, fun _ => h⟩, fun h => h.2.2.2 h9⟩
    · have h2 : ses = true ∧ sesB k = false := by
        cases ses <;> cases hk : sesB k <;> simp [hk] at hs ⊢
      rw [nodeE_3s h2.1 h2.2]
      refine ⟨fun h => absurd h (by decide), ?_⟩
      rintro ⟨_, h, _⟩
      exact absurd h hs
  · rw [nodeE_3 hsh]
    refine ⟨fun h => absurd h (by decide), ?_⟩
    rintro ⟨h, _⟩
    exact absurd h hsh
theorem wf_of : ∀ {t : Ty} {ns : List ByteArray} {g : Nat} {ses : Bool}, nodeE t ns g ses = 0 → Wf t ns g := by
  intro t
  induction t using Ty.ind with
  | _ t ih =>
  intro ns g ses h
  obtain ⟨k, p, nm, s, ls, ks⟩ := t
  obtain ⟨h1, _, h3, h4⟩ := nodeE_zero.1 h
  have hnd : ls.Nodup ∧ Wf1 (.mk k p nm s ls ks) := by
    simp only [shapeP, shP, Ty.kind, Ty.prio, Ty.shift, Ty.kids, Ty.labels, Ty.name, prP] at h1
    have hnd : ls.Nodup := by
      rcases h1 with h | h | h | h | h | h | h | h | h
      all_goals first
        | exact h.2.2.2.2.2.1.2
        | (have : ls = [] := List.eq_nil_of_length_eq_zero h.2.2.2.2.1
           rw [this]; exact List.nodup_nil)
    refine ⟨hnd, ⟨?_, hnd⟩⟩
    simp only [Ty.kind, Ty.prio, Ty.shift, Ty.kids, Ty.labels]
    clear h3 h4 h ih hnd
    rcases h1 with h | h | h | h | h | h | h | h | h
    all_goals
      obtain ⟨hk, hp, _, hs, hr⟩ := h
      subst hk
      refine ⟨⟨by omega, by omega⟩, ⟨by omega, by omega, by omega, by omega⟩, fun c => ⟨?_, ?_, ?_⟩, fun c => ⟨?_, ?_⟩, fun c => ⟨?_, ?_⟩, fun c => ⟨?_, ?_⟩, fun c => ⟨?_, ?_⟩⟩
      all_goals omega
  refine .mk _ _ _ hnd.2 (fun h9 => ?_) (fun h8 x hx => ?_) (fun h8 x hx => ?_)
  · obtain ⟨q, hq, hlt⟩ := h3 h9
    obtain ⟨g1, g2⟩ := lastI_some hq
    exact ⟨q, hlt, g1, g2⟩
  · have h8 : k = 8 := h8
    obtain ⟨j, hj, rfl⟩ := List.getElem_of_mem (show x ∈ ks from hx)
    have := h4 (by omega) j _ (List.getElem?_eq_getElem hj)
    rw [if_pos h8, if_pos h8] at this
    exact ih _ (List.getElem_mem hj) this
  · have h8 : ¬ k = 8 := h8
    obtain ⟨j, hj, rfl⟩ := List.getElem_of_mem (show x ∈ ks from hx)
    by_cases h9 : k = 9
    · have := (hnd.2.1.2.2.2.2.2.2 h9).1
      have : ks.length = 0 := this
      omega
    have := h4 h9 j _ (List.getElem?_eq_getElem hj)
    rw [if_neg h8, if_neg h8] at this
    exact ih _ (List.getElem_mem hj) this

/-! labels are names, rests are sessions -/
inductive Gd : Ty → Prop
  | mk (t : Ty) (hl : labP t.labels) (hz : ∀ s ∈ t.labels, s.size ≤ maxLen) (h6 : 6 ≤ t.kind ∧ t.kind ≤ 7 → 0 < t.labels.length) (hs : ∀ (j : Nat) (k : Ty), t.kids[j]? = some k → (j = 0 ∧ 4 ≤ t.kind ∧ t.kind ≤ 5) ∨ sesB k.kind = true) (hk : ∀ k ∈ t.kids, Gd k) : Gd t
theorem Gd.raise (k : Int) : ∀ {t : Ty}, Gd t → Gd (raiseT k t) := by
  intro t
  induction t using Ty.ind with
  | _ t ih =>
  intro h
  cases h with
  | mk _ hl hz h6 hs hk =>
  refine .mk _ (by rw [raise_labels]; exact hl) (by rw [raise_labels]; exact hz) (by rw [raise_labels, raise_kind]; exact h6) (fun j x hx => ?_) fun x hx => ?_
  · rw [raise_kids, List.getElem?_map, Option.map_eq_some_iff] at hx
    obtain ⟨y, hy, rfl⟩ := hx
    rw [raise_kind, raise_kind]; exact hs j y hy
  · rw [raise_kids] at hx
    obtain ⟨y, hy, rfl⟩ := List.mem_map.1 hx
    exact ih y hy (hk y hy)
theorem Gd.put {x : ByteArray} {b : Ty} (hb : Gd b) (hsb : sesB b.kind = true) : ∀ {t : Ty}, Gd t → Gd (putT x b t) ∧ (sesB t.kind = true → sesB (putT x b t).kind = true) := by
  intro t
  induction t using Ty.ind with
  | _ t ih =>
  intro h
  have h0 := h
  cases h with
  | mk _ hl hz h6 hs hk =>
  obtain ⟨kd, p, nm, s, ls, ks⟩ := t
  unfold putT
  split
  · exact ⟨hb.raise s, fun _ => by rw [raise_kind]; exact hsb⟩
  · split
    · exact ⟨h0.raise 0, fun h => by rw [raise_kind]; exact h⟩
    · rw [putTs_eq]
      refine ⟨.mk _ hl hz h6 (fun j k hjk => ?_) fun k hk' => ?_, fun h => h⟩
      · have hjk : (ks.map (putT x b))[j]? = some k := hjk
        rw [List.getElem?_map, Option.map_eq_some_iff] at hjk
        obtain ⟨y, hy, rfl⟩ := hjk
        rcases hs j y hy with h | h
        · exact .inl h
        · exact .inr ((ih y (List.mem_of_getElem? hy) (hk y (List.mem_of_getElem? hy))).2 h)
      · obtain ⟨y, hy, rfl⟩ := List.mem_map.1 (show k ∈ ks.map (putT x b) from hk')
        exact (ih y hy (hk y hy)).1
theorem Gd.unf {t u : Ty} (h : Unf t u) : Gd t → Gd u ∧ (sesB t.kind = true → sesB u.kind = true) := by
  induction h with
  | done t h => exact fun g => ⟨g.raise 0, fun h => by rw [raise_kind]; exact h⟩
  | step t q u r h hk hu ih =>
    intro g
    have g0 := g
    cases g with
    | mk _ hl hz h6 hs hkk =>
    have hq : Gd q := hkk q (by rw [hk]; simp)
    have hsq : sesB q.kind = true := by
      rcases hs 0 q (by rw [hk]; rfl) with c | c
      · omega
      · exact c
    have hst : sesB t.kind = true := by rw [h]; decide
    obtain ⟨g1, g2⟩ := g0.put hst hq (x := t.name)
    obtain ⟨g3, g4⟩ := ih g1
    exact ⟨g3, fun _ => g4 (g2 hsq)⟩
theorem gd_of : ∀ {t : Ty} {ns : List ByteArray} {g : Nat} {ses : Bool}, Lim t → nodeE t ns g ses = 0 → Gd t ∧ (ses = true → sesB t.kind = true) := by
  intro t
  induction t using Ty.ind with
  | _ t ih =>
  intro ns g ses hlim h
  cases hlim with
  | mk _ hn hl hll hk hkk =>
  obtain ⟨k, p, nm, s, ls, ks⟩ := t
  obtain ⟨h1, h2, _, h4⟩ := nodeE_zero.1 h
  simp only [shapeP, shP, Ty.kind, Ty.prio, Ty.shift, Ty.kids, Ty.labels, Ty.name, prP] at h1
  have hlab : labP ls ∧ (6 ≤ k ∧ k ≤ 7 → 0 < ls.length) ∧ (k = 9 → ks = []) := by
    have hz : ls.length = 0 → labP ls := fun e => by rw [List.eq_nil_of_length_eq_zero e]; exact labP_nil
    refine ⟨?_, ?_, fun e => List.eq_nil_of_length_eq_zero ?_⟩
    · rcases h1 with h | h | h | h | h | h | h | h | h
      all_goals first
        | exact h.2.2.2.2.2.1
        | exact hz h.2.2.2.2.1
    · clear h4 h2 h ih; grind
    · clear h4 h2 h ih; grind
  have hkid : ∀ (j : Nat) (x : Ty), ks[j]? = some x → Gd x ∧ ((!(decide (4 ≤ k ∧ k ≤ 5) && decide (j = 0))) = true → sesB x.kind = true) := fun j x hx => by
    have h9 : ¬ k = 9 := fun e => by rw [hlab.2.2 e] at hx; simp at hx
    have hm := List.mem_of_getElem? hx
    exact ih x hm (hkk x hm) (h4 h9 j x hx)
  refine ⟨.mk _ hlab.1 hl hlab.2.1 (fun j x hx => ?_) fun x hx => ?_, h2⟩
  · by_cases c : (decide (4 ≤ k ∧ k ≤ 5) && decide (j = 0)) = true
    · rw [Bool.and_eq_true, decide_eq_true_eq, decide_eq_true_eq] at c
      exact .inl ⟨c.2, c.1⟩
    · exact .inr ((hkid j x hx).2 (by rw [Bool.not_eq_true] at c; rw [c]; rfl))
  · obtain ⟨j, hj, rfl⟩ := List.getElem_of_mem (show x ∈ ks from hx)
    exact (hkid j _ (List.getElem?_eq_getElem hj)).1

/-! names of references on the path -/
theorem dec_dig : ∀ m : Nat, ∀ d ∈ Lib.decDigits m, 48 ≤ d.toNat ∧ d.toNat ≤ 57 := by
  intro m
  induction m using Nat.strongRecOn with
  | _ m ih =>
  intro d hd
  rw [Lib.decDigits] at hd
  split at hd
  · rename_i h
    obtain rfl := List.mem_singleton.1 hd
    rw [UInt8.toNat_ofNat', Nat.mod_eq_of_lt (by omega)]; omega
  · rename_i h
    rcases List.mem_append.1 hd with hd | hd
    · exact ih _ (by omega) d hd
    · obtain rfl := List.mem_singleton.1 hd
      rw [UInt8.toNat_ofNat', Nat.mod_eq_of_lt (by omega)]; omega
theorem nmB_list (j : Nat) : (nmB j).data.toList = 114 :: Lib.decDigits j := by simp [nmB, decS, ByteArray.data_append]
theorem ba_get {s : ByteArray} {l : List UInt8} (h : s.data.toList = l) (q : Nat) (hq : q < s.size) : l[q]? = some s[q] := by
  subst h
  rw [Array.getElem?_toList]
  exact Array.getElem?_eq_getElem hq
theorem nmB_name (j : Nat) : nameP (nmB j) := by
  have hl := nmB_list j
  have hsz : 0 < (nmB j).size := by
    have : (nmB j).data.toList.length = (nmB j).size := by rw [Array.length_toList]; rfl
    rw [← this, hl]; simp
  refine ⟨⟨hsz, ?_, fun q hq h1 => ?_⟩, fun hk => ?_⟩
  · have := ba_get hl 0 hsz
    rw [← Option.some.inj this]; decide
  · have := ba_get hl q hq
    obtain ⟨q, rfl⟩ : ∃ q', q = q' + 1 := ⟨q - 1, by omega⟩
    rw [List.getElem?_cons_succ] at this
    have := dec_dig j _ (List.mem_of_getElem? this)
    simp only [alnB, digB, Bool.or_eq_true, Bool.and_eq_true, decide_eq_true_eq]
    exact .inr this
  · have key : ∀ s ∈ kwds, s.data.toList.head? = some 114 → s.data.toList = [114, 101, 99] := by
      intro s hs
      simp only [kwds, List.mem_cons, List.not_mem_nil, or_false] at hs
      rcases hs with rfl | rfl | rfl | rfl | rfl | rfl | rfl | rfl | rfl | rfl <;> simp
    have := key _ hk (by rw [hl]; rfl)
    rw [hl] at this
    have := (List.cons.inj this).2
    have h2 := dec_dig j 101 (by rw [this]; simp)
    exact absurd h2.2 (by decide)
theorem lastI_mem {s : ByteArray} {ns : List ByteArray} (h : s ∈ ns) : ∃ q, lastI s ns = some q ∧ q < ns.length := by
  cases hl : lastI s ns with
  | none =>
    obtain ⟨j, hj, he⟩ := List.getElem_of_mem h
    exact absurd (by rw [List.getElem?_eq_getElem hj, he]) (lastI_none hl j)
  | some q => exact ⟨q, rfl, (List.getElem?_eq_some_iff.1 (lastI_some hl).1).1⟩

/-! priorities and shifts beyond the range -/
mutual
def tallB : Ty → Bool
  | .mk _ p _ s _ ks => decide (1000000 < p) || decide (1000000 < s) || tallBs ks
def tallBs : List Ty → Bool
  | [] => false
  | t :: ts => tallB t || tallBs ts
end
theorem tallBs_eq : ∀ l : List Ty, tallBs l = l.any tallB
  | [] => by simp [tallBs]
  | t :: ts => by simp [tallBs, tallBs_eq ts]
theorem tallB_mk (k p : Int) (nm : ByteArray) (s : Int) (ls : List ByteArray) (ks : List Ty) : tallB (.mk k p nm s ls ks) = (decide (1000000 < p) || decide (1000000 < s) || ks.any tallB) := by
  simp only [tallB, tallBs_eq]
theorem tall_no {t : Ty} (h : tallB t = false) : t.prio ≤ 1000000 ∧ t.shift ≤ 1000000 ∧ ∀ k ∈ t.kids, tallB k = false := by
  obtain ⟨k, p, nm, s, ls, ks⟩ := t
  rw [tallB_mk] at h
  simp only [Bool.or_eq_false_iff, decide_eq_false_iff_not, List.any_eq_false] at h
  refine ⟨?_, ?_, fun k hk => ?_⟩
  · have := h.1.1; show p ≤ 1000000; omega
  · have := h.1.2; show s ≤ 1000000; omega
  · have := h.2 k hk
    simpa using this
end Go.Proofs.YtopinhoalbgebaaGreatDoor.Tx

/- The normal tree of a right type is right (2). -/
namespace Go.Proofs.YtopinhoalbgebaaGreatDoor.Tx
open Go.Lf Go.Lf.S Go.Lf.Duo
set_option maxRecDepth 100000

theorem Gd.kids {t : Ty} (h : Gd t) {k : Ty} (hk : k ∈ t.kids) : Gd k := by cases h with | mk _ _ _ _ _ h => exact h k hk
theorem sesB_of {k : Int} (h : 3 ≤ k) : sesB k = true := by
  unfold sesB
  exact decide_eq_true ⟨by omega, by omega⟩
/-- the rests of a node are sessions, in order -/
theorem ord_ses {M : Nat} {u : Ty} (hS : Shp M u) (hM : M ≤ 549755813888) (hG : Gd u) {j : Nat} {k : Ty} (hj : (ordK u)[j]? = some k) : (j = 0 ∧ 4 ≤ u.kind ∧ u.kind ≤ 5) ∨ sesB k.kind = true := by
  cases hG with
  | mk _ _ _ h6 hs _ =>
  unfold ordK at hj
  split at hj
  · exact hs j k hj
  · rename_i hne
    have hm := ordK_mem hS hM (k := k) (by unfold ordK; rw [if_neg hne]; exact List.mem_of_getElem? hj)
    obtain ⟨q, hq, rfl⟩ := List.getElem_of_mem hm
    rcases hs q _ (List.getElem?_eq_getElem hq) with c | c
    · exact absurd (hS.k5 c.2).2 hne
    · exact .inr c
theorem shape_lit {k : Int} (h : 1 ≤ k ∧ k ≤ 3) : shapeP (.mk k 0 ⟨#[]⟩ 0 [] []) := by
  have : k = 1 ∨ k = 2 ∨ k = 3 := by omega
  simp only [shapeP, shP, Ty.kind, Ty.prio, Ty.shift, Ty.kids, Ty.labels, Ty.name, noB, List.length_nil]
  rcases this with e | e | e <;> simp [e]
theorem shape_var {nm : ByteArray} {s : Int} (h : nameP nm) (h0 : 0 ≤ s) (h1 : s ≤ 1000000) : shapeP (.mk 9 0 nm s [] []) := by
  simp only [shapeP, shP, Ty.kind, Ty.prio, Ty.shift, Ty.kids, Ty.labels, Ty.name, noB, List.length_nil]
  simp [prP, h, h0, h1]
theorem shape_rec {nm : ByteArray} {t : Ty} (h : nameP nm) : shapeP (.mk 8 0 nm 0 [] [t]) := by
  simp only [shapeP, shP, Ty.kind, Ty.prio, Ty.shift, Ty.kids, Ty.labels, Ty.name]
  simp [h]
theorem shape_node {k p : Int} {ls : List ByteArray} {ks : List Ty} (h : 4 ≤ k ∧ k ≤ 7) (h0 : 0 ≤ p) (h1 : p ≤ 1000000) (h5 : 4 ≤ k ∧ k ≤ 5 → ks.length = 2 ∧ ls = []) (h7 : 6 ≤ k ∧ k ≤ 7 → 0 < ls.length ∧ labP ls ∧ ks.length = ls.length) : shapeP (.mk k p ⟨#[]⟩ 0 ls ks) := by
  simp only [shapeP, shP, Ty.kind, Ty.prio, Ty.shift, Ty.kids, Ty.labels, Ty.name, noB]
  have hp : prP p := ⟨h0, h1⟩
  have : k = 4 ∨ k = 5 ∨ k = 6 ∨ k = 7 := by omega
  rcases this with rfl | rfl | rfl | rfl
  · obtain ⟨e1, rfl⟩ := h5 ⟨by omega, by omega⟩
    simp [hp, e1]
  · obtain ⟨e1, rfl⟩ := h5 ⟨by omega, by omega⟩
    simp [hp, e1]
  · obtain ⟨e1, e2, e3⟩ := h7 ⟨by omega, by omega⟩
    simp [hp, e1, e2, e3]
  · obtain ⟨e1, e2, e3⟩ := h7 ⟨by omega, by omega⟩
    simp [hp, e1, e2, e3]
theorem tok_kids {t : Ty} (h : Tok t) : ∀ k ∈ t.kids, Tok k := by cases h with | mk _ _ _ _ _ _ _ h => exact h

theorem nmT_right {L : List Ty} {M : Nat} (hM : M ≤ 549755813888) : ∀ (m : Nat) (path : List Ty) (T : Ty) (ns : List ByteArray) (ses : Bool), CL L M T → POk L M path → L.length < path.length + m → Gd T → (ses = true → sesB T.kind = true) → Tok (nmT m path T) → tallB (nmT m path T) = false →
    (∀ j, j < path.length → usB (nmB j) (nmT m path T) = true → nmB j ∈ ns) → nodeE (nmT m path T) ns ns.length ses = 0 := by
  intro m
  induction m with
  | zero => intro path T _ _ _ hp hm; have := hp.len; omega
  | succ m ih =>
    intro path T ns ses cT hp hm hG hses hk ht hu
    have hS := cT.unf.2.1
    have k1 := hS.k1
    obtain ⟨gU, gS⟩ := hG.unf cT.unf.1
    have hsu : ses = true → sesB (unfT T).kind = true := fun e => gS (hses e)
    by_cases h3 : (unfT T).kind ≤ 3
    · rw [nmT_lit h3, litT]
      exact nodeE_zero.2 ⟨shape_lit ⟨k1.1, h3⟩, hsu, fun e => by omega, fun _ j x hx => by simp at hx⟩
    have hact : act (unfT T).kind = true := by simp only [act, decide_eq_true_eq]; omega
    cases hf : fnd path (unfT T) with
    | some j =>
      obtain ⟨hj, _⟩ := fnd_some hf
      rw [nmT_var h3 hf hj] at hk ht hu ⊢
      have hmem := hu j hj (by rw [varT, usB_mk]; simp)
      obtain ⟨_, ht2, _⟩ := tall_no ht
      have hk9 : 0 ≤ (varT j (off path[j] (unfT T))).shift := by
        cases hk with
        | mk _ _ _ _ _ _ k9 _ => exact (k9 rfl).1
      rw [varT] at hk9 ht2 ⊢
      exact nodeE_zero.2 ⟨shape_var (nmB_name j) hk9 ht2, fun _ => by decide, fun _ => lastI_mem hmem, fun h => absurd rfl h⟩
    | none =>
      rw [nmT_node h3 hf] at hk ht hu ⊢
      have hp2 := hp.snoc cT hact hf
      have hlm := shp_lm hS
      have hol := ordK_len hS hM
      have hsl := srt_spec hS.nd (by omega)
      -- the node itself
      have node : ∀ (ns' : List ByteArray) (g : Nat) (ses' : Bool), Tok (nodeT (unfT T) ((ordK (unfT T)).map (nmT m (path ++ [unfT T])))) → tallB (nodeT (unfT T) ((ordK (unfT T)).map (nmT m (path ++ [unfT T])))) = false →
          (∀ j, j < path.length + 1 → (((ordK (unfT T)).map (nmT m (path ++ [unfT T]))).any (usB (nmB j)) = true) → nmB j ∈ ns') →
          nodeE (nodeT (unfT T) ((ordK (unfT T)).map (nmT m (path ++ [unfT T])))) ns' g ses' = 0 := by
        intro ns' g ses' hk ht hu
        obtain ⟨t1, _, t3⟩ := tall_no ht
        have tk := tok_kids hk
        have tp : 0 ≤ (unfT T).prio := by
          cases hk with
          | mk _ _ k4 _ _ _ _ _ => exact (k4 ⟨by show (4 : Int) ≤ (unfT T).kind; omega, k1.2⟩).1
        have t1 : (unfT T).prio ≤ 1000000 := t1
        rw [nodeT]
        refine nodeE_zero.2 ⟨?_, fun _ => sesB_of (by omega), fun e => by omega, fun _ j x hx => ?_⟩
        · have hlab : labP (srt (unfT T).labels) := by
            cases gU with
            | mk _ hl _ _ _ _ => exact ⟨fun s hs => hl.1 s ((hsl.2.1 s).1 hs), hsl.2.2.1⟩
          have h6 : 6 ≤ (unfT T).kind ∧ (unfT T).kind ≤ 7 → 0 < (unfT T).labels.length := by
            cases gU with
            | mk _ _ _ h6 _ _ => exact h6
          refine shape_node ⟨by omega, k1.2⟩ tp t1 (fun c => ?_) fun c => ?_
          · obtain ⟨e1, e2⟩ := hS.k5 c
            rw [List.length_map, hol, e2]
            exact ⟨e1, srt_nil⟩
          · have e1 := hS.k7 c
            have e2 := h6 c
            rw [List.length_map, hol, hsl.1]
            exact ⟨e2, hlab, e1⟩
        · have hx0 := hx
          rw [List.getElem?_map, Option.map_eq_some_iff] at hx
          obtain ⟨k, hk', rfl⟩ := hx
          have hkm := List.mem_of_getElem? hk'
          have hxm := List.mem_of_getElem? hx0
          rw [if_neg (by omega), if_neg (by omega)]
          refine ih _ k ns' _ (cT.unf.2.2 k (ordK_mem hS hM hkm)) hp2 (by simp; omega) (gU.kids (ordK_mem hS hM hkm)) (fun e => ?_) (tk _ hxm) (t3 _ hxm) fun j' hj' hu' => ?_
          · rcases ord_ses hS hM gU hk' with c | c
            · rw [decide_eq_true c.2, decide_eq_true c.1] at e
              cases e
            · exact c
          · refine hu j' (by simpa using hj') ?_
            rw [List.any_eq_true]
            exact ⟨_, hxm, hu'⟩
      by_cases hw : ((nodeT (unfT T) ((ordK (unfT T)).map (nmT m (path ++ [unfT T])))).kids.any (usB (nmB path.length))) = true
      · rw [wrapT, if_pos hw] at hk ht hu ⊢
        have hk' := tok_kids hk _ (List.mem_singleton.2 rfl)
        have ht' := (tall_no ht).2.2 _ (List.mem_singleton.2 rfl)
        refine nodeE_zero.2 ⟨?_, fun _ => by decide, fun e => absurd e (by decide), fun _ j x hx => ?_⟩
        · exact shape_rec (nmB_name _)
        · have hj : j = 0 := by
            cases j with
            | zero => rfl
            | succ j => simp at hx
          subst hj
          cases (Option.some.inj hx : _ = x)
          rw [if_pos rfl, if_pos rfl]
          refine node _ _ _ hk' ht' fun j hj hu' => ?_
          by_cases e : j < path.length
          · refine List.mem_append_left _ (hu j e ?_)
            rw [usB_mk]
            have : usB (nmB j) (nodeT (unfT T) ((ordK (unfT T)).map (nmT m (path ++ [unfT T])))) = true := by
              rw [nodeT, usB_mk, hu', Bool.or_true]
            simp [this]
          · have : j = path.length := by omega
            subst this
            exact List.mem_append_right _ (List.mem_singleton.2 rfl)
      · rw [wrapT, if_neg hw] at hk ht hu ⊢
        refine node _ _ _ hk ht fun j hj hu' => ?_
        by_cases e : j < path.length
        · refine hu j e ?_
          rw [nodeT, usB_mk, hu', Bool.or_true]
        · have : j = path.length := by omega
          subst this
          exact absurd hu' hw

/-- lengths -/
theorem nmT_lim {L : List Ty} {M : Nat} (hM : M ≤ 549755813888) (hL : L.length ≤ 99) : ∀ (m : Nat) (path : List Ty) (T : Ty), CL L M T → POk L M path → L.length < path.length + m → Gd T → Lim (nmT m path T) := by
  intro m
  induction m with
  | zero => intro path T _ hp hm; have := hp.len; omega
  | succ m ih =>
    intro path T cT hp hm hG
    have hS := cT.unf.2.1
    have k1 := hS.k1
    have hpl := hp.len
    have gU := (hG.unf cT.unf.1).1
    have hlm := shp_lm hS
    have hsl := srt_spec hS.nd (by omega)
    have hmx : (549755813888 : Nat) ≤ maxLen := by decide
    by_cases h3 : (unfT T).kind ≤ 3
    · rw [nmT_lit h3, litT]
      exact .mk _ (by show (0 : Nat) ≤ _; omega) (fun s hs => by cases hs) (by show (0 : Nat) ≤ _; omega) (by show (0 : Nat) ≤ _; omega) fun k hk => by cases hk
    have hact : act (unfT T).kind = true := by simp only [act, decide_eq_true_eq]; omega
    cases hf : fnd path (unfT T) with
    | some j =>
      obtain ⟨hj, _⟩ := fnd_some hf
      rw [nmT_var h3 hf hj, varT]
      have := nmB_size (j := j) (by omega)
      exact .mk _ (by show (nmB j).size ≤ _; omega) (fun s hs => by cases hs) (by show (0 : Nat) ≤ _; omega) (by show (0 : Nat) ≤ _; omega) fun k hk => by cases hk
    | none =>
      rw [nmT_node h3 hf]
      have hp2 := hp.snoc cT hact hf
      have hnode : Lim (nodeT (unfT T) ((ordK (unfT T)).map (nmT m (path ++ [unfT T])))) := by
        refine .mk _ (by show (0 : Nat) ≤ _; omega) (fun s hs => ?_) ?_ ?_ fun k hk => ?_
        · cases gU with
          | mk _ _ hz _ _ _ => exact hz s ((hsl.2.1 s).1 hs)
        · show (srt (unfT T).labels).length ≤ _
          rw [hsl.1]; omega
        · show ((ordK (unfT T)).map _).length ≤ _
          rw [List.length_map, ordK_len hS hM]; omega
        · obtain ⟨x, hx, rfl⟩ := List.mem_map.1 (show k ∈ (ordK (unfT T)).map _ from hk)
          have hxk := ordK_mem hS hM hx
          exact ih _ x (cT.unf.2.2 x hxk) hp2 (by simp; omega) (gU.kids hxk)
      unfold wrapT
      split
      · have := nmB_size (j := path.length) (by omega)
        exact .mk _ (by show (nmB path.length).size ≤ _; omega) (fun s hs => by cases hs) (by show (0 : Nat) ≤ _; omega) (by show (1 : Nat) ≤ _; omega) fun k hk => by
          rw [List.mem_singleton.1 hk]; exact hnode
      · exact hnode
end Go.Proofs.YtopinhoalbgebaaGreatDoor.Tx

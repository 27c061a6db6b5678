/- A verified reading of Go code into a small language (no conditions: a library for the claim's own proof): part C. -/
import Derived.Test.YtlemfbmaineigaaLfB
import Derived.Carry
import Derived.ChangeArms
import Derived.ChangeOld
import Derived.OpenShut
import Derived.Deep.DeepHandedRow
import Derived.Lib.LaidTab
set_option linter.all false
/- Drawn regions: any order that the edges allow does what the text's order does. -/
namespace Go.Lf
variable [Gl]
open Go.RowKit

structure It where
  i : Nat
  o : Oper
  δ : Dl PV
  dn : Done

def apX (s : St PV) (X : List It) : St PV := X.foldl (fun s x => s.ap x.o.dst x.δ) s

section
variable {P : Program} {H : Hint} {S : Fx} {F0 : Nat → Nat → Prop} {w0 : World} {ds : List Deferred} {w : World} {a : Act} {s s' c : St PV} {o : Oper} {δ : Dl PV}
  {Q : Exit → Act → World → Prop} {all : List Oper} {K : PV → Prop} {hs : List (List PV → Prop)}

/-- what was done at a place of the text -/
structure Rec (P : Program) (H : Hint) (all : List Oper) (s : St PV) (x : It) : Prop where
  fit : fits s x.o = true
  what : (want all s x.o = some false ∧ x.δ = skipDl ∧ x.dn = doneSkip all s x.i x.o) ∨
    (want all s x.o = some true ∧ ∃ p cf cmd δ0 δ1, dl pvAlg P H all s x.o = (p, cf, some cmd) ∧ cmd.gives P δ0 ∧
      (δ1 = δ0 ∨ ∃ b, δ0.dst = some (.at (.dat (.bool b))) ∧ δ1 = { δ0 with dst := some (.at (.kb b)) }) ∧ x.δ = δ1.frz p cf ∧ x.dn = doneOf all s x.i x.o x.δ)

theorem wp_ex {K : Act → World → Prop} (h : o.wp P a w K (fun _ _ _ => False)) : ∃ a' w', K a' w' := by
  have lets : ¬ LetsOut (fun (_ : Exit) (_ : Act) (_ : World) => False) := fun ⟨_, _, h⟩ => h
  unfold Oper.wp at h
  generalize (execOp a.eval o).run P w = r at h
  cases r with
  | ok n w' =>
    cases n <;> simp only [Oper.upon] at h <;> first | exact ⟨_, _, h⟩ | skip
    · obtain ⟨e, w'', fr, he, _⟩ := h []
      cases e <;> first | exact ⟨_, _, he⟩ | exact absurd he lets | exact he.elim
    · obtain ⟨v, w'', he, _⟩ := h default []
      exact ⟨_, _, he⟩
  | halt x w' => cases x <;> simp only [Oper.upon] at h

theorem ops_virt {k : St PV → T PV} : ∀ (rest : List Oper) (i : Nat) (s : St PV) (done : List Done) (a : Act) (w : World), StR S F0 w0 ds s a w → (∀ ops : Array Oper, ops.toList = all → True) →
    (comOps pvAlg P H all true rest i s done k).den P K hs →
    ∃ X : List It, X.map (·.o) = rest ∧ X.map (·.i) = List.range' i rest.length ∧ (∀ A x B, X = A ++ x :: B → Rec P H all (apX s A) x) ∧ (k (apX s X)).den P K hs ∧ drawOk all ((X.map (·.dn)).reverse ++ done) = true
  | [], i, s, done, a, w, _, _, hden => by
    simp only [comOps, Bool.true_and] at hden
    split at hden
    · cases hden
    · rename_i hd
      exact ⟨[], rfl, rfl, fun A x B h => by simp at h, hden, by simpa using hd⟩
  | o :: rest, i, s, done, a, w, h, hu, hden => by
    have fin : ∀ (x : It) (a' : Act) (w' : World), x.o = o → x.i = i → Rec P H all s x → StR S F0 w0 ds (s.ap o.dst x.δ) a' w' → (comOps pvAlg P H all true rest (i + 1) (s.ap o.dst x.δ) (x.dn :: done) k).den P K hs →
        ∃ X : List It, X.map (·.o) = o :: rest ∧ X.map (·.i) = List.range' i (o :: rest).length ∧ (∀ A x B, X = A ++ x :: B → Rec P H all (apX s A) x) ∧ (k (apX s X)).den P K hs ∧ drawOk all ((X.map (·.dn)).reverse ++ done) = true := by
      intro x a' w' ho hi hrec hst hd
      obtain ⟨X, h1, h2, h3, h4, h5⟩ := ops_virt rest (i + 1) _ _ a' w' hst hu hd
      refine ⟨x :: X, by simp [ho, h1], by simp [hi, h2, List.range'_succ], fun A y B hAB => ?_, by simpa [apX, ho] using h4, by simpa using h5⟩
      cases A with
      | nil => simp at hAB; obtain ⟨rfl, rfl⟩ := hAB; exact hrec
      | cons z A =>
        simp at hAB
        obtain ⟨rfl, hAB⟩ := hAB
        have := h3 A y B hAB
        simpa [apX, ho] using this
    unfold comOps at hden
    split at hden
    · rename_i hfit
      have hf := fits_dst hfit h
      split at hden
      · cases hden
      · rename_i hw
        exact fin ⟨i, o, skipDl, doneSkip all s i o⟩ _ _ rfl rfl ⟨hfit, .inl ⟨hw, rfl, rfl⟩⟩ (skip_step h hf) hden
      · rename_i hw
        split at hden
        · rename_i p cf cmd hd
          split at hden
          · cases hden
          · rename_i hn
            have hn' : cmd.isNilq = false := by simpa using hn
            have hd0 := hd
            unfold dl at hd0
            simp only [Prod.mk.injEq] at hd0
            obtain ⟨rfl, rfl, hd0⟩ := hd0
            have hsub := sub_cut s (looks all o)
            obtain ⟨F, ρ, hin⟩ := op_in (P := P) h hsub rfl hf (frl H (s.cut (looks all o)) o)
            obtain ⟨δ, hg, hδ⟩ := den_runCmd hn' hden
            have hden := hδ fun x hx => by subst hx; exact op_post hin hd0
            obtain ⟨a', w', hst⟩ := wp_ex (op_step (Q := fun _ _ _ => False) h hsub rfl hf hd0 hg)
            rcases den_splitB hden with h1 | ⟨b, hb, h1⟩
            · exact fin ⟨i, o, _, _⟩ a' w' rfl rfl ⟨hfit, .inr ⟨hw, _, _, cmd, δ, δ, hd, hg, .inl rfl, rfl, rfl⟩⟩ hst h1
            · exact fin ⟨i, o, _, _⟩ a' w' rfl rfl ⟨hfit, .inr ⟨hw, _, _, cmd, δ, _, hd, hg, .inr ⟨b, hb, rfl⟩, rfl, rfl⟩⟩ (know_bool (δ := δ.frz _ _) hb hst) h1
        · cases hden
    · cases hden

/-! ### apart -/

theorem meets_iff {xs ys : List Nat} (h : meets xs ys = false) : ∀ x ∈ xs, x ∉ ys := by
  intro x hx hy
  simp only [meets, List.any_eq_false] at h
  have := h x hx
  simp only [List.any_eq_true, not_exists, not_and] at this
  have := this x hy
  simp at this

theorem dlRefs_dst {δ : Dl PV} {v : SV PV} (h : δ.dst = some v) : ∀ d ∈ svRefs v, d ∈ dlRefs δ := by
  intro d hd
  simp only [dlRefs, h, List.mem_append]
  exact .inl hd
theorem dlRefs_obs {δ : Dl PV} {o : Nat} {b : Ob PV} (h : look δ.obs o = some b) : ∀ d ∈ obRefs b, d ∈ dlRefs δ := by
  intro d hd
  have := look_some _ _ _ h
  simp only [dlRefs, List.mem_append, List.mem_flatMap]
  refine .inr ⟨_, this, ?_⟩
  cases b with
  | cells fz n ag cs =>
    cases cs with
    | wh x => simp [obRefs] at hd
    | pts l => exact hd
  | arr => simp [obRefs] at hd
  | map => simp [obRefs] at hd

/-- two transitions apart: the second may come first -/
theorem comm1 {x y : It} (h1 : ∀ d, x.o.dst = some d → y.o.dst ≠ some d) (h2 : ∀ u ∈ x.δ.obs.map (·.1), u ∉ y.δ.obs.map (·.1)) (h3 : ∀ d ∈ x.δ.born, d ∉ dlRefs y.δ) :
    Sub ((s.ap x.o.dst x.δ).ap y.o.dst y.δ) ((s.ap y.o.dst y.δ).ap x.o.dst x.δ) := by
  refine ⟨fun t v ht => ?_, fun o b ho => ?_⟩
  · rcases ap_gt ht with ⟨e1, e2⟩ | ⟨e1, e2, e3⟩
    · refine ap_gt_of (fun hx => h1 t hx e1) (by rw [ap_gt_dst e1]; exact e2) fun d hd hv => h3 d hd (dlRefs_dst e2 d hv)
    · rcases ap_gt e2 with ⟨g1, g2⟩ | ⟨g1, g2, g3⟩
      · rw [ap_gt_dst g1]; exact g2
      · exact ap_gt_of g1 (ap_gt_of e1 g2 e3) g3
  · by_cases hk : o ∈ y.δ.obs.map (·.1)
    · rw [ap_go_key hk] at ho
      exact ap_go_of (fun hx => h2 o hx hk) (by rw [ap_go_key hk]; exact ho) fun d hd hv => h3 d hd (dlRefs_obs ho d hv)
    · rcases ap_go ho with e1 | ⟨_, e2, e3⟩
      · exact absurd (look_keys _ _ _ e1) hk
      · by_cases hx : o ∈ x.δ.obs.map (·.1)
        · rw [ap_go_key hx] at e2 ⊢; exact e2
        · rcases ap_go e2 with g1 | ⟨_, g2, g3⟩
          · exact absurd (look_keys _ _ _ g1) hx
          · exact ap_go_of hx (ap_go_of hk g2 e3) g3

theorem comms {x : It} : ∀ (B : List It) {s : St PV}, (∀ y ∈ B, (∀ d, x.o.dst = some d → y.o.dst ≠ some d) ∧ (∀ u ∈ x.δ.obs.map (·.1), u ∉ y.δ.obs.map (·.1)) ∧ (∀ d ∈ x.δ.born, d ∉ dlRefs y.δ)) →
    Sub (apX (s.ap x.o.dst x.δ) B) ((apX s B).ap x.o.dst x.δ)
  | [], _, _ => Sub.refl _
  | y :: B, s, h => by
    obtain ⟨h1, h2, h3⟩ := h y List.mem_cons_self
    have mono : ∀ (B : List It) {s s' : St PV}, Sub s s' → Sub (apX s B) (apX s' B) := by
      intro B
      induction B with
      | nil => intro s s' h; exact h
      | cons z B ih => intro s s' h; exact ih (ap_mono h)
    exact (mono B (comm1 h1 h2 h3)).trans (comms B fun z hz => h z (List.mem_cons_of_mem _ hz))

/-- facts at some places -/
def Gf (T O : List Nat) (s s' : St PV) : Prop := (∀ t ∈ T, ∀ v, s.gt t = some v → s'.gt t = some v) ∧ ∀ o ∈ O, ∀ b, s.go o = some b → s'.go o = some b

theorem gf_keep {T O : List Nat} {x : It} (h : Gf T O s s') : Gf T O (s.ap x.o.dst x.δ) (s'.ap x.o.dst x.δ) := by
  refine ⟨fun t ht v hv => ?_, fun o ho b hb => ?_⟩
  · rcases ap_gt hv with ⟨e1, e2⟩ | ⟨e1, e2, e3⟩
    · rw [ap_gt_dst e1]; exact e2
    · exact ap_gt_of e1 (h.1 t ht v e2) e3
  · by_cases hk : o ∈ x.δ.obs.map (·.1)
    · rw [ap_go_key hk] at hb ⊢; exact hb
    · rcases ap_go hb with e1 | ⟨_, e2, e3⟩
      · exact absurd (look_keys _ _ _ e1) hk
      · exact ap_go_of hk (h.2 o ho b e2) e3

theorem gf_drop {T O : List Nat} {x : It} (h : Gf T O s s') (h1 : ∀ t ∈ T, x.o.dst ≠ some t) (h2 : ∀ o ∈ O, o ∉ x.δ.obs.map (·.1)) : Gf T O (s.ap x.o.dst x.δ) s' := by
  refine ⟨fun t ht v hv => ?_, fun o ho b hb => ?_⟩
  · rcases ap_gt hv with ⟨e1, e2⟩ | ⟨e1, e2, e3⟩
    · exact absurd e1 (h1 t ht)
    · exact h.1 t ht v e2
  · rcases ap_go hb with e1 | ⟨_, e2, e3⟩
    · exact absurd (look_keys _ _ _ e1) (h2 o ho)
    · exact h.2 o ho b e2

theorem gf_filter {T O : List Nat} (e : Nat → Bool) : ∀ (A : List It) {s s' : St PV}, Gf T O s s' → (∀ y ∈ A, e y.i = false → (∀ t ∈ T, y.o.dst ≠ some t) ∧ ∀ o ∈ O, o ∉ y.δ.obs.map (·.1)) → Gf T O (apX s A) (apX s' (A.filter fun y => e y.i))
  | [], _, _, h, _ => h
  | y :: A, s, s', h, hA => by
    have hr := fun z hz => hA z (List.mem_cons_of_mem y hz)
    cases he : e y.i with
    | true =>
      simp only [List.filter_cons, he, if_true]
      exact gf_filter e A (gf_keep h) hr
    | false =>
      simp only [List.filter_cons, he, Bool.false_eq_true, if_false]
      obtain ⟨h1, h2⟩ := hA y List.mem_cons_self he
      exact gf_filter e A (gf_drop h h1 h2) hr

theorem gf_add {T O : List Nat} (hT : ∀ t ∈ T, ∀ v, s.gt t = some v → True) : ∀ (B : List It) {s' : St PV}, Gf T O s s' →
    (∀ y ∈ B, (∀ t ∈ T, y.o.dst ≠ some t) ∧ (∀ o ∈ O, o ∉ y.δ.obs.map (·.1)) ∧ (∀ d ∈ y.δ.born, (∀ t ∈ T, ∀ v, s.gt t = some v → d ∉ svRefs v) ∧ ∀ o ∈ O, ∀ b, s.go o = some b → d ∉ obRefs b)) → Gf T O s (apX s' B)
  | [], _, h, _ => h
  | y :: B, s', h, hB => by
    obtain ⟨h1, h2, h3⟩ := hB y List.mem_cons_self
    refine gf_add hT B ⟨fun t ht v hv => ?_, fun o ho b hb => ?_⟩ fun z hz => hB z (List.mem_cons_of_mem y hz)
    · exact ap_gt_of (h1 t ht) (h.1 t ht v hv) fun d hd => (h3 d hd).1 t ht v hv
    · exact ap_go_of (h2 o ho) (h.2 o ho b hb) fun d hd => (h3 d hd).2 o ho b hb

end
end Go.Lf

/- Drawn regions: any order that the edges allow (second half). -/
namespace Go.Lf
variable [Gl]
open Go.RowKit

section
variable {P : Program} {H : Hint} {S : Fx} {F0 : Nat → Nat → Prop} {w0 : World} {ds : List Deferred} {w : World} {a : Act} {s s' c s0 : St PV} {o : Oper} {δ : Dl PV}
  {Q : Exit → Act → World → Prop} {all : List Oper} {K : PV → Prop} {hs : List (List PV → Prop)}

/-- closed under the edges that always bind -/
def Closed (all : List Oper) (e : Nat → Bool) : Prop := ∀ m o, all[m]? = some o → e m = true → ∀ ed ∈ o.after.toList, Region.binds .any ed = true → e ed.on = true

theorem fold_bits {acc : List Nat} {j : Nat} : ∀ (l : List Edge) (m0 : Nat), (l.foldl (fun m e => if Region.binds .any e then m ||| 2 ^ e.on ||| acc.getD e.on 0 else m) m0).testBit j = true →
    m0.testBit j = true ∨ ∃ ed ∈ l, Region.binds .any ed = true ∧ (j = ed.on ∨ (acc.getD ed.on 0).testBit j = true)
  | [], m0, h => .inl h
  | ed :: l, m0, h => by
    rw [List.foldl_cons] at h
    rcases fold_bits l _ h with h1 | ⟨e, he, h1, h2⟩
    · split at h1
      · rename_i hb
        simp only [Nat.testBit_or, Bool.or_eq_true, Nat.testBit_two_pow, decide_eq_true_eq] at h1
        rcases h1 with (h1 | h1) | h1
        · exact .inl h1
        · exact .inr ⟨ed, List.mem_cons_self, hb, .inl h1.symm⟩
        · exact .inr ⟨ed, List.mem_cons_self, hb, .inr h1⟩
      · exact .inl h1
    · exact .inr ⟨e, List.mem_cons_of_mem _ he, h1, h2⟩

theorem fore_closed {e : Nat → Bool} (hc : Closed all e) : ∀ (rest : List Oper) (acc : List Nat), all.drop acc.length = rest → (∀ m j, e m = true → (acc.getD m 0).testBit j = true → e j = true) →
    ∀ m j, e m = true → ((fore rest acc).getD m 0).testBit j = true → e j = true
  | [], acc, _, h => fun m j he hj => h m j he hj
  | o :: rest, acc, hd, h => by
    have ho : all[acc.length]? = some o := by
      have : (all.drop acc.length)[0]? = some o := by rw [hd]; rfl
      simpa using this
    unfold fore
    refine fore_closed hc rest _ (by rw [List.length_append, List.length_singleton, ← List.drop_drop, hd]; rfl) fun m j he hj => ?_
    by_cases hm : m < acc.length
    · rw [List.getD_eq_getElem?_getD, List.getElem?_append_left hm, ← List.getD_eq_getElem?_getD] at hj
      exact h m j he hj
    · by_cases hm' : m = acc.length
      · subst hm'
        rw [List.getD_eq_getElem?_getD, List.getElem?_append_right (Nat.le_refl _)] at hj
        simp only [Nat.sub_self, List.getElem?_cons_zero, Option.getD_some] at hj
        rcases fold_bits _ _ hj with h1 | ⟨ed, hed, h1, h2⟩
        · simp at h1
        · have hon := hc _ o ho he ed hed h1
          rcases h2 with rfl | h2
          · exact hon
          · exact h _ j hon h2
      · rw [List.getD_eq_getElem?_getD, List.getElem?_eq_none (by simp; omega)] at hj
        simp at hj

theorem mem_ready {ops : Array Oper} (hall : ops.toList = all) {listed : Array Bool} (hsz : listed.size = ops.size) {i : Nat} : i ∈ Region.ready .any ops listed ↔
    i < all.length ∧ listed.getD i false = false ∧ ∀ o, all[i]? = some o → ∀ ed ∈ o.after.toList, Region.binds .any ed = true → listed.getD ed.on false = true := by
  have hn : all.length = ops.size := by rw [← hall]; simp
  unfold Region.ready
  simp only [List.mem_filter, List.mem_range, hn, Bool.and_eq_true, Bool.not_eq_true']
  refine and_congr_right fun hi => ?_
  have hlt : i < listed.size := by omega
  have e1 : listed.getD i true = listed.getD i false := by simp [Array.getD, hlt]
  rw [e1]
  refine and_congr_right fun _ => ?_
  have ho : ops[i]? = some (ops[i]'hi) := Array.getElem?_eq_getElem hi
  have ho' : all[i]? = some (ops[i]'hi) := by rw [← hall, Array.getElem?_toList]; exact ho
  rw [ho, ho']
  simp only [Option.map_some, Option.getD_some, Array.all_eq_true_iff_forall_mem, Bool.or_eq_true, Bool.not_eq_true', Option.some.injEq, forall_eq']
  constructor
  · intro h ed hed hb
    rcases h ed (by simpa using hed) with h1 | h1
    · rw [hb] at h1; cases h1
    · exact h1
  · intro h ed hed
    cases hb : Region.binds .any ed with
    | false => exact .inl rfl
    | true => exact .inr (h ed (by simpa using hed) hb)

theorem edges_lt (h : edgesOk all = true) {i : Nat} {o : Oper} (ho : all[i]? = some o) : ∀ ed ∈ o.after.toList, Region.binds .any ed = true → ed.on < i := by
  intro ed hed hb
  simp only [edgesOk, List.all_eq_true] at h
  have hm : (o, i) ∈ all.zipIdx := by
    rw [List.mem_zipIdx_iff_getElem?]; simpa using ho
  have := h _ hm ed hed
  simpa [hb] using this

theorem all_listed {ops : Array Oper} (hall : ops.toList = all) (hE : edgesOk all = true) {listed : Array Bool} (hsz : listed.size = ops.size) (h : Region.ready .any ops listed = []) : ∀ i, i < all.length → listed.getD i false = true := by
  intro i
  induction i using Nat.strongRecOn with
  | _ i ih =>
    intro hi
    cases hl : listed.getD i false with
    | true => rfl
    | false =>
      have : i ∈ Region.ready .any ops listed := (mem_ready hall hsz).2 ⟨hi, hl, fun o ho ed hed hb => ih ed.on (edges_lt hE ho ed hed hb) (Nat.lt_trans (edges_lt hE ho ed hed hb) hi)⟩
      rw [h] at this; cases this

theorem rec_dn {x : It} (h : Rec P H all s x) : x.dn.i = x.i ∧ x.dn.dst = x.o.dst ∧ x.dn.lk = looks all x.o ∧ x.dn.rd = refs3 s (looks all x.o) ∧ x.dn.wr = x.δ.obs.map (·.1) ++ x.δ.born ∧ x.dn.born = x.δ.born ∧ x.dn.refs = dlRefs x.δ := by
  rcases h.what with ⟨_, h1, h2⟩ | ⟨_, p, cf, cmd, δ0, δ1, _, _, _, _, h2⟩
  · rw [h2, h1]; exact ⟨rfl, rfl, rfl, rfl, rfl, rfl, rfl⟩
  · rw [h2]; exact ⟨rfl, rfl, rfl, rfl, rfl, rfl, rfl⟩

theorem want_mono {b : Bool} (h : want all s o = some b) (hm : ∀ t ∈ looks all o, ∀ v, s.gt t = some v → s'.gt t = some v) : want all s' o = some b := by
  unfold want at h ⊢
  split at h
  · exact h
  · rename_i g v hg
    split at h
    · cases h
    · rename_i t ht
      have htl : t ∈ looks all o := by
        simp only [looks, hg, ht, List.mem_append]; exact .inr (by simp)
      split at h
      · rename_i b' hb; simp only [ht, hm t htl _ hb]; exact h
      · rename_i hb; simp only [ht, hm t htl _ hb]; exact h
      · cases h

theorem refs_in {ts : List Nat} {t : Nat} {v : SV PV} (ht : t ∈ ts) (hv : s.gt t = some v) : ∀ d ∈ svRefs v, d ∈ refsOf s ts := by
  intro d hd
  simp only [refsOf, List.mem_flatMap]
  exact ⟨t, ht, by rw [hv]; exact hd⟩
theorem grow_in {l : List Nat} {o : Nat} {b : Ob PV} (ho : o ∈ l) (hb : s.go o = some b) : ∀ d ∈ obRefs b, d ∈ grow s l := by
  intro d hd
  simp only [grow, List.mem_append, List.mem_flatMap]
  refine .inr ⟨o, ho, ?_⟩
  rw [hb]
  cases b with
  | cells fz n ag cs =>
    cases cs with
    | wh x => simp [obRefs] at hd
    | pts l => exact hd
  | arr => simp [obRefs] at hd
  | map => simp [obRefs] at hd

theorem apX_al : ∀ (X : List It) {s : St PV}, (apX s X).al = s.al
  | [], _ => rfl
  | x :: X, s => by
    have : apX s (x :: X) = apX (s.ap x.o.dst x.δ) X := rfl
    rw [this, apX_al X, ap_al]
theorem apX_nt : ∀ (X : List It) {s : St PV}, (apX s X).nt = s.nt
  | [], _ => rfl
  | x :: X, s => by
    have : apX s (x :: X) = apX (s.ap x.o.dst x.δ) X := rfl
    rw [this, apX_nt X, ap_nt]

end
end Go.Lf

/- Drawn regions: all orders. -/
namespace Go.Lf
variable [Gl]
open Go.RowKit

section
variable {P : Program} {H : Hint} {S : Fx} {F0 : Nat → Nat → Prop} {w0 : World} {ds : List Deferred} {w : World} {a : Act} {s s' c s0 : St PV} {o : Oper} {δ : Dl PV}
  {Q : Exit → Act → World → Prop} {all : List Oper} {K : PV → Prop} {hs : List (List PV → Prop)}

theorem apX_append (A B : List It) (s : St PV) : apX s (A ++ B) = apX (apX s A) B := List.foldl_append

/-- what two things apart leave to each other -/
theorem apart_spec {x y : Done} (h : apartD x y = true) : (∀ d, x.dst = some d → d ∉ y.lk ∧ y.dst ≠ some d) ∧ (∀ d, y.dst = some d → d ∉ x.lk) ∧ (∀ u ∈ x.wr, u ∉ y.rd ∧ u ∉ y.wr) ∧ (∀ u ∈ y.wr, u ∉ x.rd) ∧ (∀ d ∈ x.born, d ∉ y.refs) := by
  simp only [apartD, Bool.and_eq_true, Bool.not_eq_true'] at h
  obtain ⟨⟨⟨⟨⟨⟨h1, h2⟩, h3⟩, h4⟩, h5⟩, _⟩, _⟩ := h
  refine ⟨fun d hd => ?_, fun d hd => meets_iff h2 d (by simp [hd]), fun u hu => ?_, fun u hu => meets_iff h4 u hu, fun d hd => meets_iff h5 d hd⟩
  · have := meets_iff h1 d (by simp [hd])
    simp only [List.mem_append, not_or, Option.mem_toList] at this
    exact ⟨this.1, this.2⟩
  · have := meets_iff h3 u hu
    simp only [List.mem_append, not_or] at this
    exact this

theorem any_go {ops : Array Oper} (hall : ops.toList = all) {X : List It} (hXo : X.map (·.o) = all) (hXi : X.map (·.i) = List.range all.length)
    (hrec : ∀ A x B, X = A ++ x :: B → Rec P H all (apX s0 A) x) (hdraw : drawOk all ((X.map (·.dn)).reverse ++ []) = true) (hQ : ∀ a w, StR S F0 w0 ds (apX s0 X) a w → Q .normal a w) :
    ∀ (fuel : Nat) (listed : Array Bool) (a : Act) (w : World), listed.size = ops.size → Closed all (fun i => listed.getD i false) → (X.filter fun x => listed.getD x.i false).length + fuel = X.length →
      StR S F0 w0 ds (apX s0 (X.filter fun x => listed.getD x.i false)) a w → wpAny P .any ops Q fuel listed a w := by
  have hXl : X.length = all.length := by rw [← hXo]; simp
  have hidx : ∀ (k : Nat) (x : It), X[k]? = some x → x.i = k ∧ all[k]? = some x.o := fun k x hk => by
    constructor
    · have : (X.map (·.i))[k]? = some x.i := by rw [List.getElem?_map, hk]; rfl
      rw [hXi, List.getElem?_range (by rw [← hXl]; exact (List.getElem?_eq_some_iff.1 hk).1)] at this
      simpa using this.symm
    · rw [← hXo, List.getElem?_map, hk]; rfl
  simp only [drawOk, Bool.and_eq_true] at hdraw
  obtain ⟨hE, hpairs⟩ := hdraw
  have hdn : ∀ x ∈ X, ∃ A B, X = A ++ x :: B ∧ Rec P H all (apX s0 A) x := fun x hx => by
    obtain ⟨A, B, hAB⟩ := List.append_of_mem hx
    exact ⟨A, B, hAB, hrec A x B hAB⟩
  have pair : ∀ x ∈ X, ∀ y ∈ X, x.i < y.i → ((fore all []).getD y.i 0).testBit x.i = true ∨ apartD x.dn y.dn = true := by
    intro x hx y hy hlt
    simp only [List.all_eq_true] at hpairs
    have h1 := hpairs y.dn (by simp; exact ⟨y, hy, rfl⟩) x.dn (by simp; exact ⟨x, hx, rfl⟩)
    obtain ⟨_, _, _, rx⟩ := hdn x hx
    obtain ⟨_, _, _, ry⟩ := hdn y hy
    rw [(rec_dn rx).1, (rec_dn ry).1] at h1
    have hb : Nat.blt x.i y.i = true := by simpa using hlt
    simp only [hb, if_true, Bool.or_eq_true] at h1
    exact h1
  have done : ∀ (listed : Array Bool), listed.size = ops.size → (∀ i, i < all.length → listed.getD i false = true) → (X.filter fun x => listed.getD x.i false) = X := by
    intro listed _ hl
    refine List.filter_eq_self.2 fun x hx => ?_
    obtain ⟨k, hk, rfl⟩ := List.getElem_of_mem hx
    have := hidx k X[k] (List.getElem?_eq_getElem hk)
    rw [this.1]; exact hl k (by omega)
  intro fuel
  induction fuel with
  | zero =>
    intro listed a w hsz hc hn h
    have hfe : (X.filter fun x => listed.getD x.i false) = X := List.filter_eq_self.2 (by
      have := List.length_filter_eq_length_iff.1 (by omega : (X.filter fun x => listed.getD x.i false).length = X.length)
      exact this)
    rw [hfe] at h
    have hl : ∀ i, i < all.length → listed.getD i false = true := fun i hi => by
      have hk : X[i]? = some (X[i]'(by omega)) := List.getElem?_eq_getElem (by omega)
      have hm : (X[i]'(by omega)) ∈ (X.filter fun x => listed.getD x.i false) := by rw [hfe]; exact List.getElem_mem _
      have := (List.mem_filter.1 hm).2
      rw [(hidx i _ hk).1] at this; exact this
    refine ⟨?_, hQ a w h⟩
    refine List.eq_nil_iff_forall_not_mem.2 fun i hi => ?_
    obtain ⟨h1, h2, _⟩ := (mem_ready hall hsz).1 hi
    rw [hl i h1] at h2; cases h2
  | succ fuel ih =>
    intro listed a w hsz hc hn h
    refine ⟨fun hr => ?_, fun i hi => ?_⟩
    · rw [done listed hsz (all_listed hall hE hsz hr)] at h
      exact hQ a w h
    · obtain ⟨hil, hli, hed⟩ := (mem_ready hall hsz).1 hi
      have hiX : i < X.length := by omega
      have hx : X[i]? = some (X[i]'hiX) := List.getElem?_eq_getElem hiX
      obtain ⟨hxi, hxo⟩ := hidx i _ hx
      have hsplit : X = X.take i ++ X[i]'hiX :: X.drop (i + 1) := by rw [List.getElem_cons_drop, List.take_append_drop]
      generalize hxx : X[i]'hiX = x at hx hxi hxo hsplit
      generalize hA : X.take i = A at hsplit
      generalize hB : X.drop (i + 1) = B at hsplit
      have hAi : ∀ y ∈ A, y ∈ X ∧ y.i < i := fun y hy => by
        rw [← hA] at hy
        obtain ⟨k, hk, rfl⟩ := List.getElem_of_mem hy
        simp only [List.length_take] at hk
        refine ⟨List.mem_of_mem_take hy, ?_⟩
        rw [List.getElem_take, (hidx k _ (List.getElem?_eq_getElem (by omega))).1]; omega
      have hBi : ∀ y ∈ B, y ∈ X ∧ i < y.i := fun y hy => by
        rw [← hB] at hy
        obtain ⟨k, hk, rfl⟩ := List.getElem_of_mem hy
        simp only [List.length_drop] at hk
        refine ⟨List.mem_of_mem_drop hy, ?_⟩
        rw [List.getElem_drop, (hidx (i + 1 + k) _ (List.getElem?_eq_getElem (by omega))).1]; omega
      have hxX : x ∈ X := by rw [hsplit]; simp
      have rx := hrec A x B hsplit
      obtain ⟨dx1, dx2, dx3, dx4, dx5, dx6, dx7⟩ := rec_dn rx
      -- what is listed behind it
      have hlt : i < listed.size := by rw [hsz, ← Array.length_toList, hall]; exact hil
      have hget : ∀ j, (listed.setIfInBounds i true).getD j false = (if j = i then true else listed.getD j false) := fun j => by
        simp only [Array.getD_eq_getD_getElem?, Array.getElem?_setIfInBounds]
        by_cases hj : i = j
        · subst hj; simp [hlt]
        · simp [hj, Ne.symm hj]
      have hc' : Closed all (fun j => (listed.setIfInBounds i true).getD j false) := by
        intro m o' ho' hm ed hed' hb
        simp only [hget] at hm ⊢
        by_cases hmi : m = i
        · subst hmi
          split
          · rfl
          · exact hed o' ho' ed hed' hb
        · rw [if_neg hmi] at hm
          split
          · rfl
          · exact hc m o' ho' hm ed hed' hb
      have apA : ∀ y ∈ A, listed.getD y.i false = false → apartD y.dn x.dn = true := fun y hy he => by
        obtain ⟨hyX, hyi⟩ := hAi y hy
        rcases pair y hyX x hxX (by omega) with h1 | h1
        · have := fore_closed hc' all [] rfl (by simp) x.i y.i (by simp only [hget, hxi, if_true]) h1
          simp only [hget] at this
          rw [if_neg (by omega)] at this
          rw [he] at this; cases this
        · exact h1
      have apB : ∀ y ∈ B, listed.getD y.i false = true → apartD x.dn y.dn = true := fun y hy he => by
        obtain ⟨hyX, hyi⟩ := hBi y hy
        rcases pair x hxX y hyX (by omega) with h1 | h1
        · have := fore_closed hc all [] rfl (by simp) y.i x.i he h1
          rw [hxi, hli] at this; cases this
        · exact h1
      have hfil : (X.filter fun x => listed.getD x.i false) = (A.filter fun x => listed.getD x.i false) ++ (B.filter fun x => listed.getD x.i false) := by
        rw [hsplit, List.filter_append, List.filter_cons]
        simp [hxi, hli]
      have hfil' : (X.filter fun x => (listed.setIfInBounds i true).getD x.i false) = (A.filter fun x => listed.getD x.i false) ++ x :: (B.filter fun x => listed.getD x.i false) := by
        rw [hsplit, List.filter_append, List.filter_cons]
        simp only [hget, hxi, if_true]
        congr 1
        · exact List.filter_congr fun y hy => by rw [if_neg (by have := (hAi y hy).2; omega)]
        · congr 1
          exact List.filter_congr fun y hy => by rw [if_neg (by have := (hBi y hy).2; omega)]
      -- the facts at its looks
      have G : Gf (looks all x.o) (refs2 (apX s0 A) (looks all x.o)) (apX s0 A) (apX s0 (X.filter fun x => listed.getD x.i false)) := by
        rw [hfil, apX_append]
        refine gf_add (fun _ _ _ _ => trivial) _ (gf_filter (fun j => listed.getD j false) A ⟨fun _ _ _ h => h, fun _ _ _ h => h⟩ fun y hy he => ?_) fun y hy => ?_
        · obtain ⟨_, _, _, ry⟩ := hdn y (hAi y hy).1
          obtain ⟨_, dy2, _, _, dy5, _, _⟩ := rec_dn ry
          obtain ⟨q1, _, q3, _, _⟩ := apart_spec (apA y hy he)
          refine ⟨fun t ht hd => (q1 t (by rw [dy2]; exact hd)).1 (by rw [dx3]; exact ht), fun u hu hk => (q3 u (by rw [dy5]; exact List.mem_append.2 (.inl hk))).1 (by rw [dx4]; exact List.mem_append.2 (.inl hu))⟩
        · obtain ⟨hyB, he⟩ := List.mem_filter.1 hy
          obtain ⟨_, _, _, ry⟩ := hdn y (hBi y hyB).1
          obtain ⟨_, dy2, _, _, dy5, _, _⟩ := rec_dn ry
          obtain ⟨_, q2, _, q4, _⟩ := apart_spec (apB y hyB he)
          refine ⟨fun t ht hd => q2 t (by rw [dy2]; exact hd) (by rw [dx3]; exact ht), fun u hu hk => q4 u (by rw [dy5]; exact List.mem_append.2 (.inl hk)) (by rw [dx4]; exact List.mem_append.2 (.inl hu)), fun d hd => ⟨fun t ht v hv hdv => ?_, fun u hu b hb hdb => ?_⟩⟩
          · exact q4 d (by rw [dy5]; exact List.mem_append.2 (.inr hd)) (by rw [dx4]; exact List.mem_append.2 (.inl (List.mem_append.2 (.inl (refs_in ht hv d hdv)))))
          · exact q4 d (by rw [dy5]; exact List.mem_append.2 (.inr hd)) (by rw [dx4]; exact grow_in hu hb d hdb)
      have hsub : Sub ((apX s0 A).cut (looks all x.o)) (apX s0 (X.filter fun x => listed.getD x.i false)) := by
        refine ⟨fun t v ht => ?_, fun u b hb => ?_⟩
        · have hm := look_keys _ _ _ ht
          rw [show ((apX s0 A).cut (looks all x.o)).tm = (looks all x.o).map fun t => (t, (apX s0 A).gt t) from rfl, keys_map_fun] at hm
          exact G.1 t hm v ((sub_cut _ _).1 t v ht)
        · have hm := look_keys _ _ _ hb
          rw [show ((apX s0 A).cut (looks all x.o)).ob = (refs2 (apX s0 A) (looks all x.o)).map fun o => (o, (apX s0 A).go o) from rfl, keys_map_fun] at hm
          exact G.2 u hm b ((sub_cut _ _).2 u b hb)
      have hf : Fit S a x.o := by
        have := rx.fit
        simp only [fits, Bool.and_eq_true, Bool.not_eq_true', apX_nt, apX_al] at this
        refine ⟨fun d hd => ?_, by rw [← h.al, apX_al]; exact not_has this.2⟩
        rw [h.size, apX_nt]; simpa [hd] using this.1
      have next : ∀ a' w', StR S F0 w0 ds ((apX s0 (X.filter fun x => listed.getD x.i false)).ap x.o.dst x.δ) a' w' → wpAny P .any ops Q fuel (listed.setIfInBounds i true) a' w' := by
        intro a' w' hst
        refine ih _ a' w' (by simp [hsz]) hc' ?_ ?_
        · rw [hfil'] ; rw [hfil] at hn
          simp only [List.length_append, List.length_cons] at hn ⊢
          omega
        · rw [hfil', apX_append]
          rw [hfil, apX_append] at hst
          refine hst.sub (comms _ fun y hy => ?_) (by simp only [ap_nt, apX_nt]) (by show (apX _ (x :: _)).al = _; simp only [ap_al, apX_al])
          obtain ⟨hyB, he⟩ := List.mem_filter.1 hy
          obtain ⟨_, _, _, ry⟩ := hdn y (hBi y hyB).1
          obtain ⟨_, dy2, _, _, dy5, _, dy7⟩ := rec_dn ry
          obtain ⟨q1, _, q3, _, q5⟩ := apart_spec (apB y hyB he)
          exact ⟨fun d hd => by rw [← dy2]; exact (q1 d (by rw [dx2]; exact hd)).2, fun u hu hk => (q3 u (by rw [dx5]; exact List.mem_append.2 (.inl hu))).2 (by rw [dy5]; exact List.mem_append.2 (.inl hk)),
            fun d hd => by rw [← dy7]; exact q5 d (by rw [dx6]; exact hd)⟩
      have ho : ops[i]? = some x.o := by rw [← Array.getElem?_toList, hall]; exact hxo
      unfold wpOp
      simp only [ho]
      rcases rx.what with ⟨hw, hδ, _⟩ | ⟨hw, p, cf, cmd, δ0, δ1, hd, hg, hδ1, hδ, _⟩
      · rw [want_sound h hall (want_mono hw G.1)]
        simp only [Bool.false_eq_true, if_false]
        exact next _ _ (by rw [hδ]; exact skip_step h hf)
      · rw [want_sound h hall (want_mono hw G.1)]
        simp only [if_true]
        left
        unfold dl at hd
        simp only [Prod.mk.injEq] at hd
        obtain ⟨rfl, rfl, hd⟩ := hd
        refine Oper.wp_mono (fun a' w' hp => next a' w' ?_) (op_step (Q := Q) h hsub (by show (apX s0 A).al = _; simp only [apX_al]) hf hd hg)
        rw [hδ]
        rcases hδ1 with rfl | ⟨b, hb, rfl⟩
        · exact hp
        · exact know_bool (δ := δ0.frz _ _) hb hp

end
end Go.Lf

/- A drawn region does what its text says. -/
namespace Go.Lf
variable [Gl]
open Go.RowKit

section
variable {P : Program} {H : Hint} {S : Fx} {F0 : Nat → Nat → Prop} {w0 : World} {ds : List Deferred} {w : World} {a : Act} {s s' c s0 : St PV} {o : Oper} {δ : Dl PV}
  {Q : Exit → Act → World → Prop} {all : List Oper} {K : PV → Prop} {hs : List (List PV → Prop)}

theorem apX_dep : ∀ (X : List It) {s : St PV}, (apX s X).dep = s.dep
  | [], _ => rfl
  | x :: X, s => by
    have : apX s (x :: X) = apX (s.ap x.o.dst x.δ) X := rfl
    rw [this, apX_dep X, ap_dep]

theorem keep_apX : ∀ (X : List It) {s : St PV}, Keep s (apX s X)
  | [], s => Keep.refl s
  | x :: X, s => (keep_ap (dst := x.o.dst) (δ := x.δ)).trans (keep_apX X)

theorem StR.drew (h : StR S F0 w0 ds s a w) (n : Nat) : StR S F0 w0 ds s a { w with drawn := n } := by
  obtain ⟨F, ρ, hr⟩ := h.ex
  exact ⟨h.gl, h.al, h.size, h.defers, F, ρ, hr.drew n⟩

theorem ops_draw {ops : Array Oper} (hall : ops.toList = all) {k : St PV → T PV} (h : StR S F0 w0 ds s a w) (hden : (comOps pvAlg P H all true all 0 s [] k).den P K hs)
    (hk : ∀ s' a' w', Keep s s' → StR S F0 w0 ds s' a' w' → (k s').den P K hs → Q .normal a' w') : wpAny P .any ops Q ops.size (Array.replicate ops.size false) a { w with drawn := w.drawn + 1 } := by
  obtain ⟨X, h1, h2, h3, h4, h5⟩ := ops_virt all 0 s [] a w h (fun _ _ => trivial) hden
  have hn : all.length = ops.size := by rw [← hall]; simp
  have hg : ∀ i, (Array.replicate ops.size false).getD i false = false := fun i => by
    simp only [Array.getD_eq_getD_getElem?, Array.getElem?_replicate]
    split <;> rfl
  have hf : (X.filter fun x => (Array.replicate ops.size false).getD x.i false) = [] := List.filter_eq_nil_iff.2 fun x _ => by rw [hg]; simp
  refine any_go (s0 := s) hall h1 (by rw [h2, List.range_eq_range']) h3 h5 (fun a' w' hst => hk _ a' w' (keep_apX X) hst h4) ops.size _ a _ (by simp) (fun m o' _ hm => ?_) ?_ ?_
  · have hm : (Array.replicate ops.size false).getD m false = true := hm
    rw [hg] at hm; cases hm
  · rw [hf, ← hn, ← h1]; simp
  · rw [hf]; exact h.drew _

end
end Go.Lf

/- Code does what its text says. -/
namespace Go.Lf
variable [Gl]
open Go.RowKit

section
variable {P : Program} {H : Hint} {S : Fx} {F0 : Nat → Nat → Prop} {w0 : World} {ds : List Deferred} {w : World} {a : Act} {s s' c s0 : St PV} {o : Oper} {δ : Dl PV}
  {Q : Exit → Act → World → Prop} {all : List Oper} {K : PV → Prop} {hs : List (List PV → Prop)}

theorem StR.opv (h : StR S F0 w0 ds s a w) {x : Operand} {sv : SV PV} (hx : Lf.opv pvAlg s x = some sv) : ∃ F ρ, RepS F ρ w (a.eval x) sv := by
  obtain ⟨F, ρ, hr⟩ := h.ex
  exact ⟨F, ρ, opv_rep (h.gl.mono hr.f0 hr.f3) hr.tm hx⟩

theorem know_step (h : StR S F0 w0 ds s a w) {t : Nat} {b : Bool} (hv : a.eval (.tmp t) = .bool b) (ht : t < a.tmps.size) : StR S F0 w0 ds (s.know t b) a w ∧ Keep s (s.know t b) := by
  unfold St.know
  split
  · exact ⟨h, Keep.refl _⟩
  · rename_i hk
    obtain ⟨F, ρ, hr⟩ := h.ex
    have hget : a.tmps[t]? = some (.bool b) := by
      have : a.tmps[t]? = some (a.tmps[t]'ht) := Array.getElem?_eq_getElem ht
      rw [this]
      simp [Act.eval, ht] at hv
      rw [hv]
    refine ⟨⟨h.gl, h.al, h.size, h.defers, F, ρ, hr.val (tmps' := a.tmps) fun u sv hu => ?_⟩, rfl, rfl, fun B hB => ⟨fun u hu hk' v hv' => ?_, hB.2⟩⟩
    · have hu' : look ((t, some (.at (.kb b))) :: s.tm) u = some sv := hu
      rw [look_cons] at hu'
      by_cases he : t = u
      · subst he; simp at hu'; subst hu'; exact .inr ⟨_, hget, rfl⟩
      · rw [if_neg he] at hu'; exact .inl ⟨hu', rfl⟩
    · have hne : t ≠ u := by
        rintro rfl
        apply hk
        simp only [has, List.any_eq_true]
        exact ⟨t, hk', by simp⟩
      show look ((t, some (.at (.kb b))) :: s.tm) u = some v
      rw [look_cons, if_neg hne]
      exact hB.1 u hu hk' v hv'

/-- a way on: with all that is told of the state there -/
def Cont (P : Program) (S : Fx) (F0 : Nat → Nat → Prop) (w0 : World) (ds : List Deferred) (K : PV → Prop) (hs : List (List PV → Prop)) (nt : Nat) (bs : List Base) (k : St PV → T PV) (G : Act → World → Prop) : Prop :=
  ∀ hs', hs <+: hs' → ∀ s' a' w', s'.dep = hs'.length → s'.nt = nt → (∀ B ∈ bs, KInv B s') → StR S F0 w0 ds s' a' w' → (k s').den P K hs' → G a' w'

theorem Cont.mono {hs hs' : List (List PV → Prop)} {nt : Nat} {bs : List Base} {k : St PV → T PV} {G : Act → World → Prop} (h : Cont P S F0 w0 ds K hs nt bs k G) (hp : hs <+: hs') : Cont P S F0 w0 ds K hs' nt bs k G :=
  fun hs2 hp2 => h hs2 (hp.trans hp2)

/-- the loop's head, from any state that tells what the plan carries -/
def Enters' (P : Program) : Prop := ∀ (S : Fx) (F0 : Nat → Nat → Prop) (w0 : World) (ds : List Deferred) (p : Plan) (s base : St PV) (a : Act) (w : World) (zs : List PV),
  StR S F0 w0 ds s a w → p.ok pvAlg s = true → leavesGo pvAlg s p.cars = some zs → base.nt = s.nt → base.al = s.al → Sub base s → (∀ t v, base.gt t = some v → t ∈ p.ts) → (∀ o b, base.go o = some b → o ∈ p.os) →
  StR S F0 w0 ds (headGo pvAlg p.cars zs 0 base) a w

theorem headGo_nt : ∀ (cs : List Car) (xs : List PV) (k : Nat) (s : St PV), (headGo pvAlg cs xs k s).nt = s.nt
  | [], _, _, _ => rfl
  | c :: cs, xs, k, s => by
    unfold headGo
    rw [headGo_nt cs]
    cases c <;> rfl

theorem headGo_al : ∀ (cs : List Car) (xs : List PV) (k : Nat) (s : St PV), (headGo pvAlg cs xs k s).al = s.al
  | [], _, _, _ => rfl
  | c :: cs, xs, k, s => by
    unfold headGo
    rw [headGo_al cs]
    cases c <;> rfl

theorem headGo_gt {t : Nat} : ∀ (cs : List Car) (xs : List PV) (k : Nat) (s : St PV), t ∉ cs.flatMap Car.tmps → (headGo pvAlg cs xs k s).gt t = s.gt t
  | [], _, _, _, _ => rfl
  | c :: cs, xs, k, s, h => by
    simp only [List.flatMap_cons, List.mem_append, not_or] at h
    unfold headGo
    rw [headGo_gt cs _ _ _ h.2]
    cases c with
    | D u =>
      have hne : u ≠ t := fun e => h.1 (by simp [Car.tmps, e])
      simp only [Car.head, St.gt, look_cons, if_neg hne]
    | O u c ty sz ag =>
      have hne : u ≠ t := fun e => h.1 (by simp [Car.tmps, e])
      simp only [Car.head, St.gt, look_cons, if_neg hne]
    | W => rfl
    | C => rfl
    | R => rfl
    | M => rfl
    | H => rfl

theorem headGo_go {o : Nat} : ∀ (cs : List Car) (xs : List PV) (k : Nat) (s : St PV), o ∉ cs.flatMap Car.news → o ∉ cs.flatMap Car.stay → (headGo pvAlg cs xs k s).go o = s.go o
  | [], _, _, _, _, _ => rfl
  | c :: cs, xs, k, s, h, h' => by
    simp only [List.flatMap_cons, List.mem_append, not_or] at h h'
    unfold headGo
    rw [headGo_go cs _ _ _ h.2 h'.2]
    cases c with
    | D u => rfl
    | O u c ty sz ag =>
      have hne : c ≠ o := fun e => h.1 (by simp [Car.news, e])
      simp only [Car.head, St.go, look_cons, if_neg hne]
    | W u n ag =>
      have hne : u ≠ o := fun e => h'.1 (by simp [Car.stay, e])
      simp only [Car.head, St.go, look_cons, if_neg hne]
    | R u ty sz ag =>
      have hne : u ≠ o := fun e => h'.1 (by simp [Car.stay, e])
      simp only [Car.head, St.go, look_cons, if_neg hne]
    | M u =>
      have hne : u ≠ o := fun e => h'.1 (by simp [Car.stay, e])
      simp only [Car.head, St.go, look_cons, if_neg hne]
    | H u n ag ks =>
      have hne : u ≠ o := fun e => h'.1 (by simp [Car.stay, e])
      simp only [Car.head, St.go]
      rw [look_append, if_neg, look_cons, if_neg hne]
      intro hm
      apply h'.1
      simp only [List.mem_map, List.mem_filterMap] at hm
      obtain ⟨q, ⟨p, hp, hq⟩, rfl⟩ := hm
      split at hq
      · rename_i m he
        simp at hq; subst hq
        have hp' : p.1 ∈ ks := by
          have := List.mem_zipIdx hp
          rw [this.2.2]; exact List.getElem_mem _
        exact List.mem_cons_of_mem _ (List.mem_filterMap.2 ⟨p.1, hp', by rw [he]; rfl⟩)
      · cases hq
    | C u n ag ks =>
      have hne : u ≠ o := fun e => h'.1 (by simp [Car.stay, e])
      simp only [Car.head, St.go]
      rw [look_append, if_neg, look_cons, if_neg hne]
      intro hm
      apply h.1
      simp only [List.mem_map, List.mem_filterMap] at hm
      obtain ⟨q, ⟨p, hp, hq⟩, rfl⟩ := hm
      split at hq
      · rename_i c' ty sz ag' he
        simp at hq; subst hq
        simp only [Car.news, List.mem_filterMap]
        have hp' : p.1 ∈ ks := by
          have := List.mem_zipIdx hp
          rw [this.2.2]; exact List.getElem_mem _
        exact ⟨p.1, hp', by rw [he]; rfl⟩
      · cases hq

theorem kept_gt {p : Plan} {s : St PV} {t : Nat} {v : SV PV} (h : (kept p s).gt t = some v) : t ∈ p.ts ∧ s.gt t = some v := by
  have : look (p.ts.filterMap fun t => (s.gt t).map fun v => (t, some v)) t = some v := h
  have hm := look_some _ _ _ this
  simp only [List.mem_filterMap, Option.map_eq_some_iff] at hm
  obtain ⟨u, hu, v', hv, he⟩ := hm
  simp at he; obtain ⟨rfl, rfl⟩ := he
  exact ⟨hu, hv⟩
theorem kept_go {p : Plan} {s : St PV} {o : Nat} {b : Ob PV} (h : (kept p s).go o = some b) : o ∈ p.os ∧ s.go o = some b := by
  have : look (p.os.filterMap fun o => (s.go o).map fun v => (o, some v)) o = some b := h
  have hm := look_some _ _ _ this
  simp only [List.mem_filterMap, Option.map_eq_some_iff] at hm
  obtain ⟨u, hu, v', hv, he⟩ := hm
  simp at he; obtain ⟨rfl, rfl⟩ := he
  exact ⟨hu, hv⟩

end
end Go.Lf

/- Code does what its text says (2). -/
namespace Go.Lf
variable [Gl]
open Go.RowKit

section
variable {P : Program} {H : Hint} {S : Fx} {F0 : Nat → Nat → Prop} {w0 : World} {ds : List Deferred}
  {K : PV → Prop}

theorem wp_loop_m {c : Code} {Q : Exit → Act → World → Prop} (J : Nat → Act → World → Prop)
    (round : ∀ m a w, J m a w → c.wp P (Exit.then (fun a' w' => ∃ m', m' < m ∧ J m' a' w') Q) a w) {m : Nat} {a : Act} {w : World} (h : J m a w) : (Code.loop c).wp P Q a w := by
  intro b k cs
  have key : ∀ n a w, J n a w →
      ∃ e a' w', Q e a' w' ∧ Arrives P (lone (b.at a (.code c :: .inLoop c :: k)) cs w) b k cs e a' w' := by
    intro n
    induction n using Nat.strongRecOn with
    | _ n ih =>
      intro a w hI
      obtain ⟨e, a₁, w₁, hq, harr⟩ := round n a w hI b (.inLoop c :: k) cs
      cases e with
      | normal =>
        obtain ⟨m', hlt, hI₁⟩ := hq
        obtain ⟨e₂, a₂, w₂, hq₂, harr₂⟩ := ih m' hlt a₁ w₁ hI₁
        exact ⟨e₂, a₂, w₂, hq₂, .of_steps (Steps.trans harr (.one step_inLoop)) harr₂⟩
      | exit id => exact ⟨_, a₁, w₁, hq, .pass (x := .inLoop c) rfl (fun _ _ => .inl (by simp)) harr⟩
      | goto l => exact ⟨_, a₁, w₁, hq, .pass (x := .inLoop c) rfl (fun _ _ => .inl (by simp)) harr⟩
      | ret => exact ⟨_, a₁, w₁, hq, .pass (x := .inLoop c) rfl (fun _ _ => .inl (by simp)) harr⟩
      | panic ch => exact ⟨_, a₁, w₁, hq, .pass (x := .inLoop c) rfl (fun _ _ => .inl (by simp)) harr⟩
      | outgrown => exact ⟨_, a₁, w₁, hq, .pass (x := .inLoop c) rfl (fun _ _ => .inl (by simp)) harr⟩
  obtain ⟨e, a', w', hq, harr⟩ := key _ a w h
  exact ⟨e, a', w', hq, .of_steps (.one step_loop) harr⟩

theorem has_mem {l : List Nat} {x : Nat} (h : has l x = true) : x ∈ l := by
  simp only [has, List.any_eq_true] at h
  obtain ⟨y, hy, e⟩ := h
  have := Nat.eq_of_beq_eq_true e
  subst this; exact hy
theorem mem_has {l : List Nat} {x : Nat} (h : x ∈ l) : has l x = true := by
  simp only [has, List.any_eq_true]
  exact ⟨x, h, by simp⟩

/-- around the inner loop the outer's facts are looked at through this -/
def Base.cut (B : Base) (s : St PV) : Base := { B with ts := B.ts.filter (has s.kt), os := B.os.filter (has s.ko) }

theorem kinv_back {B : Base} {s s' : St PV} (h : KInv (B.cut s) s') : KInv B (s'.back s) := by
  refine ⟨fun t ht hk v hv => ?_, fun o ho hk b hb => ?_⟩
  · have hk' : t ∈ s.kt.filter (has s'.kt) := hk
    obtain ⟨h1, h2⟩ := List.mem_filter.1 hk'
    exact h.1 t (List.mem_filter.2 ⟨ht, mem_has h1⟩) (has_mem h2) v hv
  · have hk' : o ∈ s.ko.filter (has s'.ko) := hk
    obtain ⟨h1, h2⟩ := List.mem_filter.1 hk'
    exact h.2 o (List.mem_filter.2 ⟨ho, mem_has h1⟩) (has_mem h2) b hb

theorem back_str {s s' : St PV} {a : Act} {w : World} (h : StR S F0 w0 ds s' a w) : StR S F0 w0 ds (s'.back s) a w := ⟨h.gl, h.al, h.size, h.defers, h.ex⟩

theorem cont_back {hs : List (List PV → Prop)} {nt : Nat} {bs : List Base} {s : St PV} {k : St PV → T PV} {G : Act → World → Prop} {B0 : Base} (h : Cont P S F0 w0 ds K hs nt bs k G) :
    Cont P S F0 w0 ds K hs nt (B0 :: bs.map (·.cut s)) (fun s' => k (s'.back s)) G :=
  fun hs' hp s' a' w' hd hn hB hst hden => h hs' hp (s'.back s) a' w' hd hn (fun B hBm => kinv_back (hB _ (List.mem_cons_of_mem _ (List.mem_map_of_mem hBm)))) (back_str hst) hden

theorem lookE_map {β : Type} (f : β → β) : ∀ (l : List (Nat × β)) (t : Nat) (v : β), lookE (l.map fun e => (e.1, f e.2)) t = some v → ∃ u, lookE l t = some u ∧ v = f u
  | [], _, _, h => by cases h
  | (q, u) :: l, t, v, h => by
    simp only [List.map_cons, lookE] at h ⊢
    split at h
    · rename_i e; rw [if_pos e]; simp at h; exact ⟨u, rfl, h.symm⟩
    · rename_i e; rw [if_neg e]; exact lookE_map f l t v h

theorem kept_gt_of {p : Plan} {s : St PV} {t : Nat} (h : t ∈ p.ts) : (kept p s).gt t = s.gt t := by
  show look (p.ts.filterMap fun t => (s.gt t).map fun v => (t, some v)) t = s.gt t
  generalize p.ts = l at h
  induction l with
  | nil => cases h
  | cons u l ih =>
    rw [List.filterMap_cons]
    cases hu : s.gt u with
    | none =>
      simp only [Option.map_none]
      by_cases he : u = t
      · subst he
        rw [hu]
        cases hl : look (l.filterMap fun t => (s.gt t).map fun v => (t, some v)) u with
        | none => rfl
        | some v =>
          have hm := look_some _ _ _ hl
          simp only [List.mem_filterMap, Option.map_eq_some_iff] at hm
          obtain ⟨q, _, v', hv, e⟩ := hm
          simp at e; obtain ⟨rfl, rfl⟩ := e
          rw [hu] at hv; cases hv
      · exact ih (by simpa [Ne.symm he] using h)
    | some v =>
      simp only [Option.map_some, look_cons]
      by_cases he : u = t
      · subst he; simp [hu]
      · rw [if_neg he]; exact ih (by simpa [Ne.symm he] using h)

theorem kept_go_of {p : Plan} {s : St PV} {t : Nat} (h : t ∈ p.os) : (kept p s).go t = s.go t := by
  show look (p.os.filterMap fun t => (s.go t).map fun v => (t, some v)) t = s.go t
  generalize p.os = l at h
  induction l with
  | nil => cases h
  | cons u l ih =>
    rw [List.filterMap_cons]
    cases hu : s.go u with
    | none =>
      simp only [Option.map_none]
      by_cases he : u = t
      · subst he
        rw [hu]
        cases hl : look (l.filterMap fun t => (s.go t).map fun v => (t, some v)) u with
        | none => rfl
        | some v =>
          have hm := look_some _ _ _ hl
          simp only [List.mem_filterMap, Option.map_eq_some_iff] at hm
          obtain ⟨q, _, v', hv, e⟩ := hm
          simp at e; obtain ⟨rfl, rfl⟩ := e
          rw [hu] at hv; cases hv
      · exact ih (by simpa [Ne.symm he] using h)
    | some v =>
      simp only [Option.map_some, look_cons]
      by_cases he : u = t
      · subst he; simp [hu]
      · rw [if_neg he]; exact ih (by simpa [Ne.symm he] using h)

theorem ok_tmps {p : Plan} {s : St PV} (h : p.ok pvAlg s = true) : ∀ t, t ∈ p.ts → t ∉ p.cars.flatMap Car.tmps := by
  simp only [Plan.ok, Bool.and_eq_true, Bool.not_eq_true'] at h
  exact fun t ht hc => meets_iff h.1.1.1.1.2 t hc ht
theorem ok_objs {p : Plan} {s : St PV} (h : p.ok pvAlg s = true) : ∀ o, o ∈ p.os → o ∉ p.cars.flatMap Car.news ∧ o ∉ p.cars.flatMap Car.stay := by
  simp only [Plan.ok, Bool.and_eq_true, Bool.not_eq_true'] at h
  exact fun o ho => ⟨fun hc => meets_iff h.1.1.1.2 o (List.mem_append.2 (.inl hc)) ho, fun hc => meets_iff h.1.1.1.2 o (List.mem_append.2 (.inr hc)) ho⟩

theorem com_sound (hE : ∀ P : Program, Enters' P) (hm : P.follows .mixedOrders = true) : ∀ (c : Code) (x : Ctx PV) (s : St PV) (k : St PV → T PV) (hs : List (List PV → Prop)) (bs : List Base) (a : Act) (w : World) (Q : Exit → Act → World → Prop),
    s.dep = hs.length → (∀ B ∈ bs, KInv B s) → StR S F0 w0 ds s a w → (com pvAlg P H c x s k).den P K hs → Cont P S F0 w0 ds K hs s.nt bs k (Q .normal) →
    (∀ id k', lookE x.exits id = some k' → Cont P S F0 w0 ds K hs s.nt bs k' (Q (.exit id))) → Cont P S F0 w0 ds K hs s.nt bs x.ret (Q .ret) → c.wp P Q a w := by
  intro c
  induction c with
  | skip => exact fun x s k hs bs a w Q hd hB h hden hk he hr => wp_skip (hk hs (List.prefix_refl _) s a w hd rfl hB h hden)
  | region id ops draw =>
    intro x s k hs bs a w Q hd hB h hden hk he hr
    have fin : ∀ s' a' w', Keep s s' → StR S F0 w0 ds s' a' w' → (k s').den P K hs → Q .normal a' w' := fun s' a' w' e hst hden => hk hs (List.prefix_refl _) s' a' w' (e.dep.trans hd) e.nt (fun B hBm => e.kinv B (hB B hBm)) hst hden
    cases draw with
    | true => exact wp_region_any hm (ops_draw rfl h hden fin)
    | false =>
      refine wp_region ?_
      rw [List.range_eq_range', ← Array.length_toList]
      exact ops_text rfl ops.toList 0 s [] a w rfl h hden fin
  | seq c1 c2 ih1 ih2 =>
    intro x s k hs bs a w Q hd hB h hden hk he hr
    refine wp_seq (ih1 x s _ hs bs a w _ hd hB h hden (fun hs' hp s' a' w' hd' hn' hB' hst hden' => ?_) (fun id k' hl => he id k' hl) hr)
    exact ih2 x s' k hs' bs a' w' Q hd' hB' hst hden' (by rw [hn']; exact hk.mono hp) (fun id k' hl => by rw [hn']; exact (he id k' hl).mono hp) (by rw [hn']; exact hr.mono hp)
  | cond cnd c1 c2 ih1 ih2 =>
    intro x s k hs bs a w Q hd hB h hden hk he hr
    simp only [com] at hden
    split at hden
    · rename_i v hv
      obtain ⟨F, ρ, hrep⟩ := h.opv hv
      have hc : a.eval cnd = .bool v := hrep
      cases v with
      | true => exact wp_cond_true hc (ih1 x s k hs bs a w Q hd hB h hden hk he hr)
      | false => exact wp_cond_false hc (ih2 x s k hs bs a w Q hd hB h hden hk he hr)
    · rename_i u hv
      obtain ⟨F, ρ, hrep⟩ := h.opv hv
      split at hden
      · rename_i t
        have hrep' : Rep F w (a.eval (.tmp t)) u := hrep
        obtain ⟨F2, ρ2, hr2⟩ := h.ex
        have ht : t < a.tmps.size := by
          obtain ⟨v, hv2, _⟩ := hr2.tm t _ hv
          exact (Array.getElem?_eq_some_iff.1 hv2).1
        rcases hden with ⟨rfl, hden⟩ | ⟨rfl, hden⟩
        · have hc := rep_bool hrep'
          obtain ⟨h1, h2⟩ := know_step h hc ht
          exact wp_cond_true hc (ih1 x _ k hs bs a w Q (h2.dep.trans hd) (fun B hBm => h2.kinv B (hB B hBm)) h1 hden (by rw [h2.nt]; exact hk) (fun id k' hl => by rw [h2.nt]; exact he id k' hl) (by rw [h2.nt]; exact hr))
        · have hc := rep_bool hrep'
          obtain ⟨h1, h2⟩ := know_step h hc ht
          exact wp_cond_false hc (ih2 x _ k hs bs a w Q (h2.dep.trans hd) (fun B hBm => h2.kinv B (hB B hBm)) h1 hden (by rw [h2.nt]; exact hk) (fun id k' hl => by rw [h2.nt]; exact he id k' hl) (by rw [h2.nt]; exact hr))
      · cases hden
    · cases hden
  | block id c1 ih =>
    intro x s k hs bs a w Q hd hB h hden hk he hr
    refine wp_block (ih _ s k hs bs a w _ hd hB h hden hk (fun id' k' hl => ?_) hr)
    simp only [lookE] at hl
    split at hl
    · rename_i hb
      have := Nat.eq_of_beq_eq_true hb
      subst this
      simp at hl; subst hl
      rw [show Exit.inBlock id Q (.exit id) = Q .normal from by funext a w; simp [Exit.inBlock]]
      exact hk
    · rename_i hb
      have hne : id' ≠ id := fun e => hb (by simp [e])
      rw [show Exit.inBlock id Q (.exit id') = Q (.exit id') from by funext a w; simp [Exit.inBlock, hne]]
      exact he id' k' hl
  | loop c1 ih =>
    intro x s k hs bs a w Q hd hB h hden hk he hr
    simp only [com] at hden
    generalize (lookE x.plans x.cur).getD (guess pvAlg P H s c1) = p at hden
    split at hden
    · rename_i xs hxs
      split at hden
      · rename_i hok
        obtain ⟨n, hn⟩ := hden
        have hsub : ∀ t, t ∈ p.ts → t ∉ p.cars.flatMap Car.tmps := ok_tmps hok
        have hobj : ∀ o, o ∈ p.os → o ∉ p.cars.flatMap Car.news ∧ o ∉ p.cars.flatMap Car.stay := ok_objs hok
        let Hn : Nat → List PV → Prop := fun m => Nat.rec (motive := fun _ => List PV → Prop) (fun _ => False) (fun _ h ys => (com pvAlg P H c1 (inX x s) (p.head pvAlg s ys) (backK pvAlg p s)).den P K (hs ++ [h])) m
        refine wp_loop_m (fun m a w => ∃ ys, Hn m ys ∧ StR S F0 w0 ds (p.head pvAlg s ys) a w) (fun m a w hJ => ?_) (m := n) ⟨xs, hn, ?_⟩
        · obtain ⟨ys, hm', hst⟩ := hJ
          cases m with
          | zero => cases hm'
          | succ m =>
            have hbody : (com pvAlg P H c1 (inX x s) (p.head pvAlg s ys) (backK pvAlg p s)).den P K (hs ++ [Hn m]) := hm'
            have hnt : (p.head pvAlg s ys).nt = s.nt := by
              show (headGo pvAlg p.cars ys 0 (kept p s)).nt = s.nt
              rw [headGo_nt]; rfl
            let B0 : Base := ⟨p.ts, p.os, kept p s⟩
            have hgt : ∀ t ∈ p.ts, (p.head pvAlg s ys).gt t = (kept p s).gt t := fun t ht => headGo_gt p.cars ys 0 (kept p s) (hsub t ht)
            have hgo : ∀ o ∈ p.os, (p.head pvAlg s ys).go o = (kept p s).go o := fun o ho => headGo_go p.cars ys 0 (kept p s) (hobj o ho).1 (hobj o ho).2
            have kgt : ∀ t ∈ p.ts, (kept p s).gt t = s.gt t := fun t ht => kept_gt_of ht
            have kgo : ∀ o ∈ p.os, (kept p s).go o = s.go o := fun o ho => kept_go_of ho
            refine ih (inX x s) (p.head pvAlg s ys) _ (hs ++ [Hn m]) (B0 :: bs.map (·.cut s)) a w _ (by show s.dep + 1 = _; rw [hd]; simp) (fun B hBm => ?_) hst hbody (fun hs' hp s' a' w' hd' hn' hB' hst' hden' => ?_) (fun id k' hl => ?_) ?_
            · rcases List.mem_cons.1 hBm with rfl | hBm
              · exact ⟨fun t ht _ v hv => by rw [hgt t ht]; exact hv, fun o ho _ b hb => by rw [hgo o ho]; exact hb⟩
              · obtain ⟨B, hB1, rfl⟩ := List.mem_map.1 hBm
                have hBs := hB B hB1
                refine ⟨fun t ht hk' v hv => ?_, fun o ho hk' b hb => ?_⟩
                · obtain ⟨t1, t2⟩ := List.mem_filter.1 ht
                  have hk2 : t ∈ p.ts := hk'
                  rw [hgt t hk2, kgt t hk2]; exact hBs.1 t t1 (has_mem t2) v hv
                · obtain ⟨t1, t2⟩ := List.mem_filter.1 ho
                  have hk2 : o ∈ p.os := hk'
                  rw [hgo o hk2, kgo o hk2]; exact hBs.2 o t1 (has_mem t2) b hb
            · show ∃ m', m' < m + 1 ∧ _
              unfold backK at hden'
              split at hden'
              · rename_i hc
                simp only [Bool.and_eq_true] at hc
                obtain ⟨hok', hstay⟩ := hc
                split at hden'
                · rename_i zs hzs
                  have hz : Hn m zs := by
                    unfold T.den at hden'
                    have hget : hs'[s.dep]? = some (Hn m) := by
                      obtain ⟨tl, rfl⟩ := hp
                      rw [hd]; simp
                    rw [hget] at hden'
                    exact hden'
                  have hB0 := hB' B0 List.mem_cons_self
                  simp only [Plan.stayed, Bool.and_eq_true, List.all_eq_true] at hstay
                  have hent := hE P S F0 w0 ds p s' (kept p s) a' w' zs hst' hok' hzs (by rw [hn', hnt]; rfl) (h.al.trans hst'.al.symm) ⟨fun t v hv => hB0.1 t (kept_gt hv).1 (has_mem (hstay.1 t (kept_gt hv).1)) v hv, fun o b hb => hB0.2 o (kept_go hb).1 (has_mem (hstay.2 o (kept_go hb).1)) b hb⟩
                    (fun t v hv => (kept_gt hv).1) (fun o b hb => (kept_go hb).1)
                  exact ⟨m, Nat.lt_succ_self m, zs, hz, hent.gl, hent.al, hent.size, hent.defers, hent.ex⟩
                · cases hden'
              · cases hden'
            · obtain ⟨k0, hl0, rfl⟩ := lookE_map (fun (k : St PV → T PV) (s' : St PV) => k (s'.back s)) x.exits id k' hl
              rw [hnt]
              exact cont_back ((he id k0 hl0).mono (List.prefix_append _ _))
            · rw [hnt]
              exact cont_back (hr.mono (List.prefix_append _ _))
        · have hent := hE P S F0 w0 ds p s (kept p s) a w xs h hok hxs rfl rfl ⟨fun t v hv => (kept_gt hv).2, fun o b hb => (kept_go hb).2⟩ (fun t v hv => (kept_gt hv).1) (fun o b hb => (kept_go hb).1)
          exact ⟨hent.gl, hent.al, hent.size, hent.defers, hent.ex⟩
      · cases hden
    · cases hden
  | exit id =>
    intro x s k hs bs a w Q hd hB h hden hk he hr
    simp only [com] at hden
    split at hden
    · rename_i k' hl
      exact wp_exit (he id k' hl hs (List.prefix_refl _) s a w hd rfl hB h hden)
    · cases hden
  | ret => exact fun x s k hs bs a w Q hd hB h hden hk he hr => wp_ret (hr hs (List.prefix_refl _) s a w hd rfl hB h hden)
  | _ => intro x s k hs bs a w Q hd hB h hden; simp only [com] at hden; cases hden

end
end Go.Lf

/- The loop's head. -/
namespace Go.Lf
variable [Gl]
open Go.RowKit

section
variable {S : Fx} {F0 : Nat → Nat → Prop} {w0 : World} {F : Nat → Nat → Prop} {ρ ρ' : Nat → Value} {tmps : Array Value} {w : World} {ds : List Deferred} {a : Act}
  {gt gt' : Nat → Option (SV PV)} {go go' : Nat → Option (Ob PV)}

/-- the same world told anew, under new names -/
theorem R.turn (h : R S F0 w0 F ρ tmps w gt go) (src : Nat → Nat) (htm : ∀ t sv, gt' t = some sv → ∃ v, tmps[t]? = some v ∧ RepS F ρ' w v sv)
    (hob : ∀ o b, go' o = some b → RepO F ρ' w o b ∧ ∀ k, hb (ρ' o) = some k → ∃ b0, go (src o) = some b0 ∧ hb (ρ (src o)) = some k)
    (inj : ∀ o o' b b', go' o = some b → go' o' = some b' → o ≠ o' → hb (ρ' o) ≠ none → hb (ρ' o') ≠ none → src o ≠ src o') (hal : ∀ o ∈ S.al, ρ' o = ρ o) : R S F0 w0 F ρ' tmps w gt' go' := by
  refine ⟨h.kp, h.f0, h.f1, h.f2, h.f3, htm, ⟨fun o b ho => (hob o b ho).1, fun o o' b b' ho ho' hne k hk hk' => ?_⟩, fun o b ho k hk => ?_, fun o ho => (hal o ho).trans (h.al o ho)⟩
  · obtain ⟨b1, g1, e1⟩ := (hob o b ho).2 k hk
    obtain ⟨b2, g2, e2⟩ := (hob o' b' ho').2 k hk'
    exact h.ob.sep _ _ b1 b2 g1 g2 (inj o o' b b' ho ho' hne (by rw [hk]; simp) (by rw [hk']; simp)) k e1 e2
  · obtain ⟨b1, g1, e1⟩ := (hob o b ho).2 k hk
    exact h.mine _ b1 g1 k e1

/-- the cars with the places of their leaves -/
def carsAt : List Car → Nat → List (Car × Nat)
  | [], _ => []
  | c :: cs, k => (c, k) :: carsAt cs (k + c.wide)

theorem headGo_gt_inv {t : Nat} {v : SV PV} : ∀ (cs : List Car) (xs : List PV) (k : Nat) (s : St PV), (headGo pvAlg cs xs k s).gt t = some v →
    s.gt t = some v ∨ (∃ q ∈ carsAt cs k, (q.1 = .D t ∧ v = .at (.dat (instL xs q.2)))) ∨ ∃ q ∈ carsAt cs k, ∃ c ty sz ag, q.1 = .O t c ty sz ag ∧ v = .at (.own c)
  | [], _, _, _, h => .inl h
  | c :: cs, xs, k, s, h => by
    unfold headGo at h
    rcases headGo_gt_inv cs xs _ _ h with h1 | ⟨q, hq, h1⟩ | ⟨q, hq, h1⟩
    · cases c with
      | D u =>
        simp only [Car.head, St.gt, look_cons] at h1
        split at h1
        · rename_i e; subst e
          simp at h1; subst h1
          exact .inr (.inl ⟨_, List.mem_cons_self, rfl, rfl⟩)
        · exact .inl h1
      | O u c ty sz ag =>
        simp only [Car.head, St.gt, look_cons] at h1
        split at h1
        · rename_i e; subst e
          simp at h1; subst h1
          exact .inr (.inr ⟨_, List.mem_cons_self, c, ty, sz, ag, rfl, rfl⟩)
        · exact .inl h1
      | W => exact .inl h1
      | C => exact .inl h1
      | R => exact .inl h1
      | M => exact .inl h1
      | H => exact .inl h1
    · exact .inr (.inl ⟨q, List.mem_cons_of_mem _ hq, h1⟩)
    · exact .inr (.inr ⟨q, List.mem_cons_of_mem _ hq, h1⟩)

/-- what a car puts at the head -/
def carOb (c : Car) (xs : List PV) (k : Nat) (o : Nat) (b : Ob PV) : Prop := match c with
  | .D _ => False
  | .O _ c ty sz ag => o = c ∧ b = .arr true ty sz ag (instL xs k)
  | .W u n ag => o = u ∧ b = .cells false n ag (.wh (instL xs k))
  | .R u ty sz ag => o = u ∧ b = .arr false ty sz ag (instL xs k)
  | .M u => o = u ∧ b = .map false (instL xs k)
  | .H u n ag ks => (o = u ∧ b = .cells false n ag (.pts (ks.zipIdx.map fun p => match p.1 with
      | some m => .mref m
      | none => .dat (instL xs (k + p.2))))) ∨ ∃ j m, ks[j]? = some (some m) ∧ o = m ∧ b = .map false (instL xs (k + j))
  | .C u n ag ks => (o = u ∧ b = .cells false n ag (.pts (ks.zipIdx.map fun p => match p.1 with
      | some (c, _) => .own c
      | none => .dat (instL xs (k + p.2))))) ∨ ∃ j c ty sz ag', ks[j]? = some (some (c, ty, sz, ag')) ∧ o = c ∧ b = .arr true ty sz ag' (instL xs (k + j))

theorem headGo_go_inv {o : Nat} {b : Ob PV} : ∀ (cs : List Car) (xs : List PV) (k : Nat) (s : St PV), (headGo pvAlg cs xs k s).go o = some b → s.go o = some b ∨ ∃ q ∈ carsAt cs k, carOb q.1 xs q.2 o b
  | [], _, _, _, h => .inl h
  | c :: cs, xs, k, s, h => by
    unfold headGo at h
    rcases headGo_go_inv cs xs _ _ h with h1 | ⟨q, hq, h1⟩
    · have here : carOb c xs k o b → s.go o = some b ∨ ∃ q ∈ carsAt (c :: cs) k, carOb q.1 xs q.2 o b := fun hc => .inr ⟨(c, k), List.mem_cons_self, hc⟩
      cases c with
      | D u => exact .inl h1
      | O u c ty sz ag =>
        simp only [Car.head, St.go, look_cons] at h1
        split at h1
        · rename_i e; subst e
          simp at h1; subst h1
          exact here ⟨rfl, rfl⟩
        · exact .inl h1
      | W u n ag =>
        simp only [Car.head, St.go, look_cons] at h1
        split at h1
        · rename_i e; subst e
          simp at h1; subst h1
          exact here ⟨rfl, rfl⟩
        · exact .inl h1
      | R u ty sz ag =>
        simp only [Car.head, St.go, look_cons] at h1
        split at h1
        · rename_i e; subst e
          simp at h1; subst h1
          exact here ⟨rfl, rfl⟩
        · exact .inl h1
      | M u =>
        simp only [Car.head, St.go, look_cons] at h1
        split at h1
        · rename_i e; subst e
          simp at h1; subst h1
          exact here ⟨rfl, rfl⟩
        · exact .inl h1
      | H u n ag ks =>
        simp only [Car.head, St.go] at h1
        rw [look_append] at h1
        split at h1
        · have hm := look_some _ _ _ h1
          simp only [List.mem_filterMap] at hm
          obtain ⟨p, hp, he⟩ := hm
          split at he
          · rename_i m hc
            simp at he; obtain ⟨rfl, rfl⟩ := he
            have hz := (List.mem_zipIdx_iff_getElem?).1 hp
            exact here (.inr ⟨p.2, m, by rw [hz, hc], rfl, rfl⟩)
          · cases he
        · rw [look_cons] at h1
          split at h1
          · rename_i e; subst e
            simp at h1; subst h1
            exact here (.inl ⟨rfl, rfl⟩)
          · exact .inl h1
      | C u n ag ks =>
        simp only [Car.head, St.go] at h1
        rw [look_append] at h1
        split at h1
        · have hm := look_some _ _ _ h1
          simp only [List.mem_filterMap] at hm
          obtain ⟨p, hp, he⟩ := hm
          split at he
          · rename_i c ty sz ag' hc
            simp at he; obtain ⟨rfl, rfl⟩ := he
            have hz := (List.mem_zipIdx_iff_getElem?).1 hp
            exact here (.inr ⟨p.2, c, ty, sz, ag', by rw [hz, hc], rfl, rfl⟩)
          · cases he
        · rw [look_cons] at h1
          split at h1
          · rename_i e; subst e
            simp at h1; subst h1
            exact here (.inl ⟨rfl, rfl⟩)
          · exact .inl h1
    · exact .inr ⟨q, List.mem_cons_of_mem _ hq, h1⟩

theorem leavesGo_at {s : St PV} : ∀ (cs : List Car) (zs : List PV) (pre : List PV), leavesGo pvAlg s cs = some zs → ∀ q ∈ carsAt cs pre.length, ∃ ls, q.1.leaves pvAlg s = some ls ∧ ls.length = q.1.wide ∧ ∀ j, j < q.1.wide → (pre ++ zs)[q.2 + j]? = ls[j]?
  | [], _, _, _, q, hq => by cases hq
  | c :: cs, zs, pre, h, q, hq => by
    unfold leavesGo at h
    split at h
    · rename_i xs ys h1 h2
      split at h
      · rename_i hw
        simp only [beq_iff_eq] at hw
        simp at h; subst h
        simp only [carsAt, List.mem_cons] at hq
        rcases hq with rfl | hq
        · refine ⟨xs, h1, hw, fun j hj => ?_⟩
          have hj' : j < c.wide := hj
          show (pre ++ (xs ++ ys))[pre.length + j]? = xs[j]?
          rw [List.getElem?_append_right (by omega), List.getElem?_append_left (by omega)]
          congr 1; omega
        · have := leavesGo_at cs ys (pre ++ xs) h2 q (by rw [List.length_append, hw]; exact hq)
          simpa using this
      · cases h
    · cases h

end
end Go.Lf

/- The loop's head: names and their sources. -/
namespace Go.Lf
variable [Gl]
open Go.RowKit

theorem seqL_nodup : ∀ {l : List Nat}, seqL l = true → l.Nodup
  | [], _ => List.nodup_nil
  | x :: l, h => by
    simp only [seqL, Bool.and_eq_true, Bool.not_eq_true', List.any_eq_false] at h
    refine List.nodup_cons.2 ⟨fun hm => ?_, seqL_nodup h.2⟩
    have := h.1 x hm
    simp at this

section
variable {S : Fx} {F0 : Nat → Nat → Prop} {w0 : World} {F : Nat → Nat → Prop} {ρ ρ' : Nat → Value} {tmps : Array Value} {w : World} {ds : List Deferred} {a : Act} {s : St PV}

/-- a car's new names: each with the value that it stands for and its source, if there is one -/
def cellOf (ρ : Nat → Value) (w : World) (u j : Nat) : Value := match ρ u with
  | .pointer (some ad) => match w.heap[ad.block]? with
    | some (.cells c _ _) => c.getD j undef
    | _ => undef
  | _ => undef

def srcAt (s : St PV) (u n : Nat) (ag : Bool) (j : Nat) : Option Nat := match s.go u with
  | some (.cells _ _ _ cs) => match (explode pvAlg n ag cs)[j]? with
    | some (.own o) => some o
    | _ => none
  | _ => none

def carNew (ρ : Nat → Value) (tmps : Array Value) (w : World) (s : St PV) : Car → List (Nat × Value × Option Nat)
  | .O t c _ _ _ => [(c, tmps.getD t undef, match s.gt t with
    | some (.at (.own o)) => some o
    | _ => none)]
  | .C u n ag ks => ks.zipIdx.filterMap fun p => p.1.map fun q => (q.1, cellOf ρ w u p.2, srcAt s u n ag p.2)
  | _ => []

def newsOf (ρ : Nat → Value) (tmps : Array Value) (w : World) (s : St PV) (cs : List Car) : List (Nat × Value × Option Nat) := cs.flatMap (carNew ρ tmps w s)

def rhoN (L : List (Nat × Value × Option Nat)) (ρ : Nat → Value) (o : Nat) : Value := match lookE L o with
  | some q => q.1
  | none => ρ o
def srcN (L : List (Nat × Value × Option Nat)) (o : Nat) : Nat := match lookE L o with
  | some q => q.2.getD o
  | none => o

theorem lookE_mem {β : Type} : ∀ (l : List (Nat × β)) (t : Nat) (v : β), lookE l t = some v → (t, v) ∈ l
  | [], _, _, h => by cases h
  | (q, u) :: l, t, v, h => by
    simp only [lookE] at h
    split at h
    · rename_i e
      have := Nat.eq_of_beq_eq_true e
      subst this; simp at h; subst h; simp
    · exact List.mem_cons_of_mem _ (lookE_mem l t v h)

theorem lookE_of {β : Type} : ∀ (l : List (Nat × β)) (t : Nat) (v : β), (l.map (·.1)).Nodup → (t, v) ∈ l → lookE l t = some v
  | [], _, _, _, h => by cases h
  | (q, u) :: l, t, v, hn, h => by
    simp only [List.map_cons, List.nodup_cons] at hn
    simp only [lookE]
    rcases List.mem_cons.1 h with e | e
    · cases e; simp
    · have : q ≠ t := fun he => hn.1 (List.mem_map.2 ⟨_, e, he.symm⟩)
      have hb : Nat.beq q t = false := by
        cases hbb : Nat.beq q t with
        | false => rfl
        | true => exact absurd (Nat.eq_of_beq_eq_true hbb) this
      rw [hb]
      exact lookE_of l t v hn.2 e

theorem carNew_keys (c : Car) : (carNew ρ tmps w s c).map (·.1) = c.news := by
  cases c with
  | O t c ty sz ag => rfl
  | C u n ag ks =>
    simp only [carNew, Car.news]
    rw [List.map_filterMap]
    have : ∀ (l : List (Option (Nat × Nat × Nat × Bool))) (k : Nat) (f : Nat → Value) (g : Nat → Option Nat), ((l.zipIdx k).filterMap fun p => (p.1.map fun q => (q.1, f p.2, g p.2)).map (·.1)) = l.filterMap fun k => k.map (·.1) := by
      intro l
      induction l with
      | nil => intro k f g; rfl
      | cons x l ih =>
        intro k f g
        simp only [List.zipIdx_cons, List.filterMap_cons]
        cases x with
        | none => simpa using ih (k + 1) f g
        | some q => simpa using ih (k + 1) f g
    exact this ks 0 (cellOf ρ w u) (srcAt s u n ag)
  | _ => rfl

theorem newsOf_keys (cs : List Car) : (newsOf ρ tmps w s cs).map (·.1) = cs.flatMap Car.news := by
  unfold newsOf
  rw [List.map_flatMap]
  congr 1
  funext c
  exact carNew_keys c

end
end Go.Lf

/- The loop's head: what is kept. -/
namespace Go.Lf
variable [Gl]
open Go.RowKit

section
variable {S : Fx} {F0 : Nat → Nat → Prop} {w0 : World} {F : Nat → Nat → Prop} {ρ ρ' : Nat → Value} {tmps : Array Value} {w : World} {ds : List Deferred} {a : Act} {s : St PV} {p : Plan}

structure OkP (p : Plan) (s : St PV) : Prop where
  nal : ∀ o ∈ s.al, o ∉ p.cars.flatMap Car.news
  nst : (p.cars.flatMap Car.news ++ p.cars.flatMap Car.stay).Nodup
  ct : (p.cars.flatMap Car.tmps).Nodup
  ow : (p.cars.flatMap (Car.owns pvAlg s)).Nodup
  os : ∀ o ∈ p.os, o ∉ p.cars.flatMap Car.news ∧ o ∉ p.cars.flatMap Car.stay
  ows : ∀ o ∈ p.cars.flatMap (Car.owns pvAlg s), o ∉ p.os ∧ o ∉ p.cars.flatMap Car.stay
  ts : ∀ t ∈ p.ts, ∀ v, s.gt t = some v → ∀ o ∈ svRefs v, o ∈ p.os ∨ o ∈ p.cars.flatMap Car.stay
  ob : ∀ o ∈ p.os, ∀ b, s.go o = some b → ∀ u ∈ obRefs b, u ∈ p.os ∨ u ∈ p.cars.flatMap Car.stay

theorem okP (h : p.ok pvAlg s = true) : OkP p s := by
  simp only [Plan.ok, Bool.and_eq_true, Bool.not_eq_true', List.all_eq_true] at h
  obtain ⟨⟨⟨⟨⟨⟨⟨⟨h0, h1⟩, h2⟩, h3⟩, h4⟩, h5⟩, h6⟩, h7⟩, h8⟩ := h
  refine ⟨fun o ho hc => meets_iff h0 o hc ho, seqL_nodup h1, seqL_nodup h2, seqL_nodup h3, fun o ho => ⟨fun hc => meets_iff h5 o (List.mem_append.2 (.inl hc)) ho, fun hc => meets_iff h5 o (List.mem_append.2 (.inr hc)) ho⟩,
    fun o ho => ⟨fun hc => meets_iff h6 o ho (List.mem_append.2 (.inl hc)), fun hc => meets_iff h6 o ho (List.mem_append.2 (.inr hc))⟩, fun t ht v hv o ho => ?_, fun o ho b hb u hu => ?_⟩
  · have := h7 t ht
    rw [hv] at this
    simp only [List.all_eq_true] at this
    exact List.mem_append.1 (has_mem (this o ho))
  · have := h8 o ho
    rw [hb] at this
    cases b with
    | cells fz n ag cs =>
      cases cs with
      | wh x => simp [obRefs] at hu
      | pts l =>
        simp only [List.all_eq_true] at this
        exact List.mem_append.1 (has_mem (this u hu))
    | arr => simp [obRefs] at hu
    | map => simp [obRefs] at hu

theorem rho_out {L : List (Nat × Value × Option Nat)} {o : Nat} (h : o ∉ L.map (·.1)) : rhoN L ρ o = ρ o ∧ srcN L o = o := by
  have : lookE L o = none := by
    cases hl : lookE L o with
    | none => rfl
    | some q => exact absurd (List.mem_map.2 ⟨_, lookE_mem L o q hl, rfl⟩) h
  simp [rhoN, srcN, this]

/-- names that are not new -/
theorem rho_old (hok : OkP p s) {o : Nat} (h : o ∈ p.os ∨ o ∈ p.cars.flatMap Car.stay) : rhoN (newsOf ρ tmps w s p.cars) ρ o = ρ o ∧ srcN (newsOf ρ tmps w s p.cars) o = o := by
  refine rho_out ?_
  rw [newsOf_keys]
  rcases h with h | h
  · exact (hok.os o h).1
  · intro hc
    exact (List.nodup_append.1 hok.nst).2.2 o hc o h rfl

end
end Go.Lf

/- The loop's head: the cars. -/
namespace Go.Lf
variable [Gl]
open Go.RowKit

section
variable {S : Fx} {F0 : Nat → Nat → Prop} {w0 : World} {F : Nat → Nat → Prop} {ρ ρ' : Nat → Value} {tmps : Array Value} {w : World} {ds : List Deferred} {a : Act} {s : St PV} {p : Plan}

/-- cells that are told one by one, told as a whole -/
theorem wh_of_pts (ho : ObsR F ρ w s.go) {n : Nat} {ag : Bool} {cl : Array Value} {l : List (A PV)} {xs : List PV} (hcl : cl.size = n) (hcs : RepCs F ρ w false n ag cl (.pts l)) (hxs : l.mapM (asA pvAlg s) = some xs) {y : PV}
    (hy : (ag = true ∧ y = .agg xs) ∨ (ag = false ∧ xs = [y])) (fz : Bool) : RepCs F ρ w fz n ag cl (.wh y) := by
  obtain ⟨m1, m2⟩ := mapM_some hxs
  have e1 : xs.length = n := by rw [m1, hcs.2.1]
  have each : ∀ (i : Nat) (u : Value) (y : PV), cl[i]? = some u → xs[i]? = some y → Rep F w u y ∧ y.isCell = true := by
    intro i u y hu hy
    have hil : i < l.length := by rw [hcs.2.1, ← hcl]; exact (Array.getElem?_eq_some_iff.1 hu).1
    have hl : l[i]? = some (l[i]'hil) := List.getElem?_eq_getElem hil
    obtain ⟨r1, r2⟩ := hcs.2.2 i u _ hu hl
    have := asA_rep ho r1 (m2 i _ y hl hy)
    exact ⟨this, isCell_of_rep this r2⟩
  have hal : ∀ y ∈ xs, y.isCell = true := by
    intro y hy
    obtain ⟨i, hi, rfl⟩ := List.getElem_of_mem hy
    have hi' : i < cl.size := by omega
    exact (each i cl[i] xs[i] (Array.getElem?_eq_getElem hi') (List.getElem?_eq_getElem hi)).2
  rcases hy with ⟨rfl, rfl⟩ | ⟨rfl, rfl⟩
  · refine ⟨?_, hal, fun i u y hu hy => (each i u y hu hy).1⟩
    simp only [PV.okc, PV.cells, PV.isAg, e1, beq_self_eq_true, Bool.and_self, Bool.true_and, List.all_eq_true]
    exact hal
  · have hx := hal y (by simp)
    have hn : n = 1 := by simpa using e1.symm
    subst hn
    have hcx := cells_of_one (by rw [(okc_cells (okc_cell hx)).2] : y.isAg = false)
    refine ⟨okc_cell hx, okc_all (okc_cell hx), fun i u z hu hz => ?_⟩
    rw [hcx] at hz
    exact (each i u z hu hz).1

theorem RepO.cells_keep {o n : Nat} {ag : Bool} {cs cs' : Cs PV} (h : RepO F ρ w o (.cells false n ag cs)) (ho : ρ' o = ρ o) (hc : ∀ cl : Array Value, cl.size = n → RepCs F ρ w false n ag cl cs → RepCs F ρ' w false n ag cl cs') : RepO F ρ' w o (.cells false n ag cs') := by
  obtain ⟨b, c, ty, h1, h2, h3, h4, h5⟩ := h
  exact ⟨b, c, ty, by rw [ho]; exact h1, h2, h3, hc c h3 h4, h5⟩

/-- W: a variable as a whole -/
theorem car_W (h : ObsR F ρ w s.go) {o n : Nat} {ag : Bool} {ls : List PV} (hl : (Car.W o n ag).leaves pvAlg s = some ls) {x : PV} (hx : ls[0]? = some x) (hρ : ρ' o = ρ o) :
    RepO F ρ' w o (.cells false n ag (.wh x)) ∧ ∃ b, s.go o = some b := by
  simp only [Car.leaves] at hl
  split at hl
  · rename_i n' ag' y hgo
    split at hl
    · rename_i hc
      simp only [Bool.and_eq_true, beq_iff_eq] at hc
      obtain ⟨rfl, rfl⟩ := hc
      simp at hl; subst hl
      simp at hx; subst hx
      exact ⟨(h.rep o _ hgo).cells_keep hρ fun cl _ hcs => hcs, _, hgo⟩
    · cases hl
  · rename_i n' ag' l hgo
    split at hl
    · rename_i hc
      simp only [Bool.and_eq_true, beq_iff_eq] at hc
      obtain ⟨rfl, rfl⟩ := hc
      split at hl
      · rename_i xs hxs
        split at hl
        · rename_i hag
          simp at hl; subst hl
          simp at hx; subst hx
          exact ⟨(h.rep o _ hgo).cells_keep hρ fun cl hcl hcs => wh_of_pts h hcl hcs hxs (.inl ⟨hag, rfl⟩) false, _, hgo⟩
        · rename_i hag
          split at hl
          · simp at hl; subst hl
            simp at hx; subst hx
            exact ⟨(h.rep o _ hgo).cells_keep hρ fun cl hcl hcs => wh_of_pts h hcl hcs hxs (.inr ⟨by simpa using hag, rfl⟩) false, _, hgo⟩
          · cases hl
      · cases hl
    · cases hl
  · cases hl

theorem RepO.arr_name {o o' ty sz : Nat} {fz ag : Bool} {x : PV} (h : RepO F ρ w o (.arr fz ty sz ag x)) (hρ : ρ' o' = ρ o) : RepO F ρ' w o' (.arr fz ty sz ag x) := by
  obtain ⟨es, h1, h2, h3, h4⟩ := h
  refine ⟨es, h1, h2, h3, ?_⟩
  rw [hρ]; exact h4

theorem arr_nil {o ty sz : Nat} {fz ag : Bool} (h0 : 0 < sz) (hρ : ρ o = .slice none 0 0) : RepO F ρ w o (.arr fz ty sz ag (.sl [])) := ⟨[], rfl, h0, by simp, .inl ⟨hρ, rfl⟩⟩

/-- R: an array that is written in place -/
theorem car_R (h : ObsR F ρ w s.go) {o ty sz : Nat} {ag : Bool} {ls : List PV} (hl : (Car.R o ty sz ag).leaves pvAlg s = some ls) {x : PV} (hx : ls[0]? = some x) (hρ : ρ' o = ρ o) :
    RepO F ρ' w o (.arr false ty sz ag x) ∧ ∃ b, s.go o = some b := by
  simp only [Car.leaves] at hl
  split at hl
  · rename_i ty' sz' ag' y hgo
    split at hl
    · rename_i hc
      simp only [Bool.and_eq_true, beq_iff_eq] at hc
      obtain ⟨⟨rfl, rfl⟩, rfl⟩ := hc
      simp at hl; subst hl
      simp at hx; subst hx
      exact ⟨(h.rep o _ hgo).arr_name hρ, _, hgo⟩
    · cases hl
  · cases hl

/-- M: a map that is written -/
theorem car_M (h : ObsR F ρ w s.go) {o : Nat} {ls : List PV} (hl : (Car.M o).leaves pvAlg s = some ls) {x : PV} (hx : ls[0]? = some x) (hρ : ρ' o = ρ o) :
    RepO F ρ' w o (.map false x) ∧ ∃ b, s.go o = some b := by
  simp only [Car.leaves] at hl
  split at hl
  · rename_i y hgo
    simp at hl; subst hl
    simp at hx; subst hx
    obtain ⟨r, es, clock, ks, vs, h1, h2⟩ := h.rep o _ hgo
    exact ⟨⟨r, es, clock, ks, vs, by rw [hρ]; exact h1, h2⟩, _, hgo⟩
  · cases hl

/-- D: a datum -/
theorem car_D (ht : ∀ t sv, s.gt t = some sv → ∃ v, tmps[t]? = some v ∧ RepS F ρ w v sv) (h : ObsR F ρ w s.go) {t : Nat} {ls : List PV} (hl : (Car.D t).leaves pvAlg s = some ls) {x : PV} (hx : ls[0]? = some x) :
    ∃ v, tmps[t]? = some v ∧ RepS F ρ' w v (.at (.dat x)) := by
  simp only [Car.leaves] at hl
  split at hl
  · rename_i sv hg
    simp only [Option.map_eq_some_iff] at hl
    obtain ⟨y, hy, rfl⟩ := hl
    simp at hx; subst hx
    obtain ⟨v, hv, hr⟩ := ht t sv hg
    exact ⟨v, hv, asE_rep h hr hy⟩
  · cases hl

/-- O: an array of the call's own in a temporary, under a new name -/
theorem car_O (ht : ∀ t sv, s.gt t = some sv → ∃ v, tmps[t]? = some v ∧ RepS F ρ w v sv) (h : ObsR F ρ w s.go) {t c ty sz : Nat} {ag : Bool} {ls : List PV} (hl : (Car.O t c ty sz ag).leaves pvAlg s = some ls) {x : PV} (hx : ls[0]? = some x)
    (hρ : ρ' c = tmps.getD t undef) : (∃ v, tmps[t]? = some v ∧ RepS F ρ' w v (.at (.own c))) ∧ RepO F ρ' w c (.arr true ty sz ag x) ∧
      ((s.gt t = some (.at .nils) ∧ hb (ρ' c) = none) ∨ ∃ o b, s.gt t = some (.at (.own o)) ∧ s.go o = some b ∧ ρ' c = ρ o) := by
  simp only [Car.leaves] at hl
  split at hl
  · rename_i hg
    split at hl
    · rename_i h0
      simp at hl; subst hl
      simp [pvAlg] at hx; subst hx
      obtain ⟨v, hv, hr⟩ := ht t _ hg
      have hve : v = .slice none 0 0 := hr
      subst hve
      have hρc : ρ' c = .slice none 0 0 := by rw [hρ]; simp [Array.getD_eq_getD_getElem?, hv]
      exact ⟨⟨_, hv, hρc.symm, rfl⟩, arr_nil (by simpa using h0) hρc, .inl ⟨hg, by rw [hρc]; rfl⟩⟩
    · cases hl
  · rename_i o hg
    split at hl
    · rename_i ty' sz' ag' y hgo
      split at hl
      · rename_i hc
        simp only [Bool.and_eq_true, beq_iff_eq] at hc
        obtain ⟨⟨rfl, rfl⟩, rfl⟩ := hc
        simp at hl; subst hl
        simp at hx; subst hx
        obtain ⟨v, hv, hr⟩ := ht t _ hg
        have hρc : ρ' c = ρ o := by rw [hρ, ← hr.1]; simp [Array.getD_eq_getD_getElem?, hv]
        exact ⟨⟨v, hv, by rw [hρc]; exact hr.1, hr.2⟩, (h.rep o _ hgo).arr_name hρc, .inr ⟨o, _, hg, hgo, hρc⟩⟩
      · cases hl
    · cases hl
  · cases hl

end
end Go.Lf

/- The loop's head: a variable cell by cell. -/
namespace Go.Lf
variable [Gl]
open Go.RowKit

section
variable {S : Fx} {F0 : Nat → Nat → Prop} {w0 : World} {F : Nat → Nat → Prop} {ρ ρ' : Nat → Value} {tmps : Array Value} {w : World} {ds : List Deferred} {a : Act} {s : St PV} {p : Plan}

/-- what a C car's leaves say of the cells -/
theorem car_C_get {o n : Nat} {ag : Bool} {ks : List (Option (Nat × Nat × Nat × Bool))} {ls : List PV} (hl : (Car.C o n ag ks).leaves pvAlg s = some ls) :
    ∃ cs, s.go o = some (.cells false n ag cs) ∧ (explode pvAlg n ag cs).length = ks.length ∧ ls.length = ks.length ∧ ∀ j, j < ks.length →
      (ks[j]? = some none → ∃ a x, (explode pvAlg n ag cs)[j]? = some a ∧ ls[j]? = some x ∧ asA pvAlg s a = some x) ∧
      (∀ c ty sz g, ks[j]? = some (some (c, ty, sz, g)) → ∃ a x, (explode pvAlg n ag cs)[j]? = some a ∧ ls[j]? = some x ∧
        ((a = .nils ∧ 0 < sz ∧ x = .sl []) ∨ ∃ u, a = .own u ∧ s.go u = some (.arr true ty sz g x))) := by
  simp only [Car.leaves] at hl
  split at hl
  · rename_i n' ag' cs hgo
    split at hl
    · rename_i hc
      simp only [Bool.and_eq_true, beq_iff_eq] at hc
      obtain ⟨⟨rfl, rfl⟩, hlen⟩ := hc
      obtain ⟨m1, m2⟩ := mapM_some hl
      simp only [List.length_zip, hlen, Nat.min_self] at m1
      refine ⟨cs, hgo, hlen, m1, fun j hj => ?_⟩
      have ha : (explode pvAlg n' ag' cs)[j]? = some ((explode pvAlg n' ag' cs)[j]'(by omega)) := List.getElem?_eq_getElem (by omega)
      have hk : ks[j]? = some (ks[j]'hj) := List.getElem?_eq_getElem hj
      have hx : ls[j]? = some (ls[j]'(by omega)) := List.getElem?_eq_getElem (by omega)
      have hz : ((explode pvAlg n' ag' cs).zip ks)[j]? = some ((explode pvAlg n' ag' cs)[j]'(by omega), ks[j]'hj) := by
        rw [List.getElem?_zip_eq_some]; exact ⟨ha, hk⟩
      have := m2 j _ _ hz hx
      generalize (explode pvAlg n' ag' cs)[j]'(by omega) = a at ha this
      generalize ls[j]'(by omega) = x at hx this
      generalize ks[j]'hj = k at hk this
      refine ⟨fun he => ?_, fun c ty sz g he => ?_⟩
      · rw [hk] at he; simp at he; subst he
        exact ⟨a, x, ha, hx, this⟩
      · rw [hk] at he; simp at he; subst he
        refine ⟨a, x, ha, hx, ?_⟩
        cases a with
        | nils =>
          simp only at this
          split at this
          · rename_i h0
            simp [pvAlg] at this
            exact .inl ⟨rfl, by simpa using h0, this.symm⟩
          · cases this
        | own u =>
          simp only at this
          split at this
          · rename_i hgu
            split at this
            · rename_i hc
              simp only [Bool.and_eq_true, beq_iff_eq] at hc
              obtain ⟨⟨rfl, rfl⟩, rfl⟩ := hc
              simp at this; subst this
              exact .inr ⟨_, rfl, hgu⟩
            · cases this
          · cases this
        | _ => cases this
    · cases hl
  · cases hl

/-- what an H car's leaves say of the cells -/
theorem car_H_get {o n : Nat} {ag : Bool} {ks : List (Option Nat)} {ls : List PV} (hl : (Car.H o n ag ks).leaves pvAlg s = some ls) :
    ∃ cs, s.go o = some (.cells false n ag cs) ∧ (explode pvAlg n ag cs).length = ks.length ∧ ls.length = ks.length ∧ ∀ j, j < ks.length →
      (ks[j]? = some none → ∃ a x, (explode pvAlg n ag cs)[j]? = some a ∧ ls[j]? = some x ∧ asA pvAlg s a = some x) ∧
      (∀ m, ks[j]? = some (some m) → ∃ x, (explode pvAlg n ag cs)[j]? = some (.mref m) ∧ ls[j]? = some x ∧ s.go m = some (.map false x)) := by
  simp only [Car.leaves] at hl
  split at hl
  · rename_i n' ag' cs hgo
    split at hl
    · rename_i hc
      simp only [Bool.and_eq_true, beq_iff_eq] at hc
      obtain ⟨⟨rfl, rfl⟩, hlen⟩ := hc
      obtain ⟨m1, m2⟩ := mapM_some hl
      simp only [List.length_zip, hlen, Nat.min_self] at m1
      refine ⟨cs, hgo, hlen, m1, fun j hj => ?_⟩
      have ha : (explode pvAlg n' ag' cs)[j]? = some ((explode pvAlg n' ag' cs)[j]'(by omega)) := List.getElem?_eq_getElem (by omega)
      have hk : ks[j]? = some (ks[j]'hj) := List.getElem?_eq_getElem hj
      have hx : ls[j]? = some (ls[j]'(by omega)) := List.getElem?_eq_getElem (by omega)
      have hz : ((explode pvAlg n' ag' cs).zip ks)[j]? = some ((explode pvAlg n' ag' cs)[j]'(by omega), ks[j]'hj) := by
        rw [List.getElem?_zip_eq_some]; exact ⟨ha, hk⟩
      have := m2 j _ _ hz hx
      generalize (explode pvAlg n' ag' cs)[j]'(by omega) = a at ha this
      generalize ls[j]'(by omega) = x at hx this
      generalize ks[j]'hj = k at hk this
      refine ⟨fun he => ?_, fun m he => ?_⟩
      · rw [hk] at he; simp at he; subst he
        exact ⟨a, x, ha, hx, this⟩
      · rw [hk] at he; simp at he; subst he
        cases a with
        | mref u =>
          simp only at this
          split at this
          · rename_i hb
            have := Nat.eq_of_beq_eq_true hb
            subst this
            rename_i this
            split at this
            · rename_i hgu
              simp at this; subst this
              exact ⟨_, ha, hx, hgu⟩
            · cases this
          · cases this
        | _ => cases this
    · cases hl
  · cases hl

end
end Go.Lf

/- The loop's head: from any state that tells what the plan carries. -/
namespace Go.Lf
variable [Gl]
open Go.RowKit

section
variable {S : Fx} {F0 : Nat → Nat → Prop} {w0 : World} {F : Nat → Nat → Prop} {ρ ρ' : Nat → Value} {tmps : Array Value} {w : World} {ds : List Deferred} {a : Act} {s : St PV} {p : Plan}

/-- C: a variable cell by cell, arrays of the call's own among its cells -/
theorem car_C (h : ObsR F ρ w s.go) {o n : Nat} {ag : Bool} {ks : List (Option (Nat × Nat × Nat × Bool))} {ls zs : List PV} {k : Nat} (hl : (Car.C o n ag ks).leaves pvAlg s = some ls)
    (hz : ∀ j, j < ks.length → zs[k + j]? = ls[j]?) (hρ : ρ' o = ρ o) (hc : ∀ j c ty sz g, ks[j]? = some (some (c, ty, sz, g)) → ρ' c = cellOf ρ w o j) :
    (RepO F ρ' w o (.cells false n ag (.pts (ks.zipIdx.map fun p => match p.1 with
      | some (c, _) => .own c
      | none => .dat (instL zs (k + p.2))))) ∧ ∃ b, s.go o = some b) ∧
    ∀ j c ty sz g, ks[j]? = some (some (c, ty, sz, g)) → RepO F ρ' w c (.arr true ty sz g (instL zs (k + j))) ∧
      (hb (ρ' c) = none ∨ ∃ u b, srcAt s o n ag j = some u ∧ s.go u = some b ∧ ρ' c = ρ u) := by
  obtain ⟨cs, hgo, hlen, hll, hj⟩ := car_C_get hl
  obtain ⟨b, cl, ty0, h1, h2, h3, h4, h5⟩ := h.rep o _ hgo
  obtain ⟨e1, e2⟩ := explode_rep h3 h4
  have hcell : ∀ j u, cl[j]? = some u → cellOf ρ w o j = u := by
    intro j u hu
    simp [cellOf, h1, h2, Array.getD_eq_getD_getElem?, hu]
  have hcl : ∀ j, j < ks.length → ∃ u, cl[j]? = some u := fun j hjk => ⟨cl[j]'(by omega), Array.getElem?_eq_getElem (by omega)⟩
  have arr : ∀ j c ty sz g, ks[j]? = some (some (c, ty, sz, g)) → (RepO F ρ' w c (.arr true ty sz g (instL zs (k + j))) ∧
      (hb (ρ' c) = none ∨ ∃ u b, srcAt s o n ag j = some u ∧ s.go u = some b ∧ ρ' c = ρ u)) ∧ ∀ u, cl[j]? = some u → u = ρ' c ∧ u.oneCell' = true := by
    intro j c ty sz g hk
    have hjk : j < ks.length := (List.getElem?_eq_some_iff.1 hk).1
    obtain ⟨u, hu⟩ := hcl j hjk
    obtain ⟨a, x, ha, hx, hax⟩ := (hj j hjk).2 c ty sz g hk
    obtain ⟨r1, r2⟩ := e2 j u a hu ha
    have hcv : ρ' c = u := by rw [hc j c ty sz g hk, hcell j u hu]
    have hxe : instL zs (k + j) = x := by
      have : zs[k + j]? = some x := by rw [hz j hjk, hx]
      simp [instL, List.getD_eq_getElem?_getD, this]
    refine ⟨?_, fun u' hu' => ?_⟩
    · rw [hxe]
      rcases hax with ⟨rfl, h0, rfl⟩ | ⟨v, rfl, hgv⟩
      · have hn : u = .slice none 0 0 := r1
        exact ⟨arr_nil h0 (by rw [hcv, hn]), .inl (by rw [hcv, hn]; rfl)⟩
      · have hv : ρ' c = ρ v := by rw [hcv]; exact r1.1
        refine ⟨(h.rep v _ hgv).arr_name hv, .inr ⟨v, _, ?_, hgv, hv⟩⟩
        simp [srcAt, hgo, ha]
    · rw [hu] at hu'; simp at hu'; subst hu'
      exact ⟨hcv.symm, r2⟩
  refine ⟨⟨⟨b, cl, ty0, by rw [hρ]; exact h1, h2, h3, ⟨rfl, by simp; omega, fun i u a hu ha => ?_⟩, h5⟩, _, hgo⟩, fun j c ty sz g hk => (arr j c ty sz g hk).1⟩
  simp only [List.getElem?_map, List.getElem?_zipIdx, Option.map_eq_some_iff] at ha
  obtain ⟨q, ⟨kk, hk, rfl⟩, rfl⟩ := ha
  have hik : i < ks.length := (List.getElem?_eq_some_iff.1 hk).1
  cases kk with
  | none =>
    obtain ⟨a, x, ha, hx, hax⟩ := (hj i hik).1 hk
    obtain ⟨r1, r2⟩ := e2 i u a hu ha
    have : zs[k + i]? = some x := by rw [hz i hik, hx]
    refine ⟨?_, r2⟩
    simp only [Nat.zero_add]
    show Rep F w u (instL zs (k + i))
    simp only [instL, List.getD_eq_getElem?_getD, this, Option.getD_some]
    exact asA_rep h r1 hax
  | some q =>
    obtain ⟨c, ty, sz, g⟩ := q
    obtain ⟨r1, r2⟩ := (arr i c ty sz g hk).2 u hu
    exact ⟨⟨r1, r2⟩, r2⟩

/-- H: a variable cell by cell, maps that are written among its cells -/
theorem car_H (h : ObsR F ρ w s.go) {o n : Nat} {ag : Bool} {ks : List (Option Nat)} {ls zs : List PV} {k : Nat} (hl : (Car.H o n ag ks).leaves pvAlg s = some ls)
    (hz : ∀ j, j < ks.length → zs[k + j]? = ls[j]?) (hρ : ρ' o = ρ o) (hm : ∀ m ∈ ks.filterMap id, ρ' m = ρ m) :
    (RepO F ρ' w o (.cells false n ag (.pts (ks.zipIdx.map fun p => match p.1 with
      | some m => .mref m
      | none => .dat (instL zs (k + p.2))))) ∧ ∃ b, s.go o = some b) ∧
    ∀ j m, ks[j]? = some (some m) → RepO F ρ' w m (.map false (instL zs (k + j))) ∧ ∃ b, s.go m = some b := by
  obtain ⟨cs, hgo, hlen, hll, hj⟩ := car_H_get hl
  obtain ⟨b, cl, ty0, h1, h2, h3, h4, h5⟩ := h.rep o _ hgo
  obtain ⟨e1, e2⟩ := explode_rep h3 h4
  have hmem : ∀ j m, ks[j]? = some (some m) → ρ' m = ρ m := fun j m hk => hm m (List.mem_filterMap.2 ⟨some m, List.mem_of_getElem? hk, rfl⟩)
  refine ⟨⟨⟨b, cl, ty0, by rw [hρ]; exact h1, h2, h3, ⟨rfl, by simp; omega, fun i u a hu ha => ?_⟩, h5⟩, _, hgo⟩, fun j m hk => ?_⟩
  · simp only [List.getElem?_map, List.getElem?_zipIdx, Option.map_eq_some_iff] at ha
    obtain ⟨q, ⟨kk, hk, rfl⟩, rfl⟩ := ha
    have hik : i < ks.length := (List.getElem?_eq_some_iff.1 hk).1
    cases kk with
    | none =>
      obtain ⟨a, x, ha, hx, hax⟩ := (hj i hik).1 hk
      obtain ⟨r1, r2⟩ := e2 i u a hu ha
      have : zs[k + i]? = some x := by rw [hz i hik, hx]
      refine ⟨?_, r2⟩
      simp only [Nat.zero_add]
      show Rep F w u (instL zs (k + i))
      simp only [instL, List.getD_eq_getElem?_getD, this, Option.getD_some]
      exact asA_rep h r1 hax
    | some m =>
      obtain ⟨x, ha, hx, hgm⟩ := (hj i hik).2 m hk
      obtain ⟨r1, r2⟩ := e2 i u _ hu ha
      refine ⟨?_, r2⟩
      show u = ρ' m ∧ _
      rw [hmem i m hk]
      exact r1
  · have hjk : j < ks.length := (List.getElem?_eq_some_iff.1 hk).1
    obtain ⟨x, ha, hx, hgm⟩ := (hj j hjk).2 m hk
    have : zs[k + j]? = some x := by rw [hz j hjk, hx]
    simp only [instL, List.getD_eq_getElem?_getD, this, Option.getD_some]
    obtain ⟨r, es, clock, ks', vs, g1, g2⟩ := h.rep m _ hgm
    exact ⟨⟨r, es, clock, ks', vs, by rw [hmem j m hk]; exact g1, g2⟩, _, hgm⟩

/-! sources -/

def ownOf (l : List (A PV)) (j : Nat) : Option Nat := match l[j]? with
  | some (.own o) => some o
  | _ => none

theorem owns_zip : ∀ (ks : List (Option (Nat × Nat × Nat × Bool))) (l : List (A PV)) (k : Nat) (f : Nat → Value) (g : Nat → Option Nat), (∀ j, g (k + j) = ownOf l j) →
    ((ks.zipIdx k).filterMap fun p => p.1.map fun q => (q.1, f p.2, g p.2)).filterMap (fun x => x.2.2) = (l.zip ks).filterMap fun p => match p.2, p.1 with
      | some _, .own o' => some o'
      | _, _ => none
  | [], l, _, _, _, _ => by simp
  | q :: ks, [], k, f, g, hg => by
    rw [List.filterMap_eq_nil_iff.2]
    · simp
    · intro x hx
      simp only [List.mem_filterMap] at hx
      obtain ⟨p, hp, he⟩ := hx
      obtain ⟨h1, h2, h3⟩ := List.mem_zipIdx hp
      have : g p.2 = none := by
        have := hg (p.2 - k)
        rw [show k + (p.2 - k) = p.2 by omega] at this
        rw [this]; simp [ownOf]
      cases hq : p.1 with
      | none => rw [hq] at he; cases he
      | some q => rw [hq] at he; simp at he; subst he; exact this
  | q :: ks, x :: l, k, f, g, hg => by
    have ih := owns_zip ks l (k + 1) f g fun j => by rw [show k + 1 + j = k + (j + 1) by omega, hg]; simp [ownOf]
    have h0 : g k = ownOf (x :: l) 0 := hg 0
    simp only [List.zipIdx_cons, List.filterMap_cons, List.zip_cons_cons]
    cases q with
    | none => simpa using ih
    | some q =>
      simp only [Option.map_some, List.filterMap_cons, h0]
      cases x <;> simp [ownOf] <;> exact ih

theorem carNew_owns (c : Car) : (carNew ρ tmps w s c).filterMap (fun x => x.2.2) = c.owns pvAlg s := by
  cases c with
  | O t c ty sz ag =>
    simp only [carNew, Car.owns, List.filterMap_cons, List.filterMap_nil]
    split <;> rename_i h <;> split at h <;> simp_all
  | C u n ag ks =>
    simp only [carNew, Car.owns]
    cases hg : s.go u with
    | none =>
      rw [List.filterMap_eq_nil_iff.2]
      intro x hx
      simp only [List.mem_filterMap, Option.map_eq_some_iff] at hx
      obtain ⟨p, _, q, _, rfl⟩ := hx
      simp [srcAt, hg]
    | some b =>
      cases b with
      | cells fz n' ag' cs =>
        refine (owns_zip ks (explode pvAlg n ag cs) 0 (cellOf ρ w u) (srcAt s u n ag) fun j => (congrArg (srcAt s u n ag) (Nat.zero_add j)).trans ?_).trans ?_
        · rcases h0 : (explode pvAlg n ag cs)[j]? with _ | x
          · simp [srcAt, ownOf, hg, h0]
          · cases x <;> simp [srcAt, ownOf, hg, h0]
        · simp only
          congr 1
          funext p
          obtain ⟨x, y⟩ := p
          cases y <;> cases x <;> rfl
      | _ =>
        rw [List.filterMap_eq_nil_iff.2]
        intro x hx
        simp only [List.mem_filterMap, Option.map_eq_some_iff] at hx
        obtain ⟨p, _, q, _, rfl⟩ := hx
        simp [srcAt, hg]
  | _ => rfl

theorem newsOf_owns (cs : List Car) : (newsOf ρ tmps w s cs).filterMap (fun x => x.2.2) = cs.flatMap (Car.owns pvAlg s) := by
  unfold newsOf
  rw [List.filterMap_flatMap]
  congr 1
  funext c
  exact carNew_owns c

theorem src_inj {α : Type} (f : α → Option Nat) : ∀ {l : List α}, (l.filterMap f).Nodup → ∀ x ∈ l, ∀ y ∈ l, ∀ o, f x = some o → f y = some o → x = y
  | [], _, x, hx, _, _, _, _, _ => by cases hx
  | a :: l, hn, x, hx, y, hy, o, h1, h2 => by
    rw [List.filterMap_cons] at hn
    cases ha : f a with
    | none =>
      rw [ha] at hn
      have ne : ∀ z, z ∈ a :: l → f z = some o → z ∈ l := fun z hz he => by
        rcases List.mem_cons.1 hz with rfl | hz
        · rw [ha] at he; cases he
        · exact hz
      exact src_inj f hn x (ne x hx h1) y (ne y hy h2) o h1 h2
    | some q =>
      rw [ha] at hn
      obtain ⟨n1, n2⟩ := List.nodup_cons.1 hn
      have no : ∀ z ∈ l, f z ≠ some q := fun z hz he => n1 (List.mem_filterMap.2 ⟨z, hz, he⟩)
      rcases List.mem_cons.1 hx with ex | hx
      · rcases List.mem_cons.1 hy with ey | hy
        · rw [ex, ey]
        · rw [← ex, h1] at ha; cases ha; exact absurd h2 (no y hy)
      · rcases List.mem_cons.1 hy with ey | hy
        · rw [← ey, h2] at ha; cases ha; exact absurd h1 (no x hx)
        · exact src_inj f n2 x hx y hy o h1 h2

theorem inst_of {zs : List PV} {k : Nat} {x : PV} (h : zs[k]? = some x) : instL zs k = x := by simp [instL, List.getD_eq_getElem?_getD, h]

theorem carsAt_mem : ∀ (cs : List Car) (k : Nat) (q : Car × Nat), q ∈ carsAt cs k → q.1 ∈ cs
  | c :: cs, k, q, h => by
    simp only [carsAt, List.mem_cons] at h
    rcases h with rfl | h
    · exact List.mem_cons_self
    · exact List.mem_cons_of_mem _ (carsAt_mem cs _ q h)

theorem enters' (P : Program) : Enters' P := by
  intro S F0 w0 ds p s base a w zs hst hok hlv hnt hba hsub hbt hbo
  obtain ⟨F, ρ, hr⟩ := hst.ex
  have hP := okP hok
  have hL : ((newsOf ρ a.tmps w s p.cars).map (·.1)).Nodup := by
    rw [newsOf_keys]; exact (List.nodup_append.1 hP.nst).1
  have hO : ((newsOf ρ a.tmps w s p.cars).filterMap (fun x => x.2.2)).Nodup := by
    rw [newsOf_owns]; exact hP.ow
  have hmem : ∀ c ∈ p.cars, ∀ x ∈ carNew ρ a.tmps w s c, x ∈ newsOf ρ a.tmps w s p.cars := fun c hc x hx => List.mem_flatMap.2 ⟨c, hc, hx⟩
  have hnew : ∀ x ∈ newsOf ρ a.tmps w s p.cars, rhoN (newsOf ρ a.tmps w s p.cars) ρ x.1 = x.2.1 ∧ srcN (newsOf ρ a.tmps w s p.cars) x.1 = x.2.2.getD x.1 := by
    intro x hx
    have := lookE_of _ x.1 x.2 hL hx
    simp [rhoN, srcN, this]
  have hat : ∀ q ∈ carsAt p.cars 0, ∃ ls, q.1.leaves pvAlg s = some ls ∧ ls.length = q.1.wide ∧ ∀ j, j < q.1.wide → zs[q.2 + j]? = ls[j]? := fun q hq => by
    simpa using leavesGo_at p.cars zs [] hlv q hq
  have hold : ∀ {o}, o ∈ p.os ∨ o ∈ p.cars.flatMap Car.stay → rhoN (newsOf ρ a.tmps w s p.cars) ρ o = ρ o ∧ srcN (newsOf ρ a.tmps w s p.cars) o = o := fun h => rho_old hP h
  have hC : ∀ q ∈ carsAt p.cars 0, ∀ o n ag ks, q.1 = .C o n ag ks → ∀ j c ty sz g, ks[j]? = some (some (c, ty, sz, g)) → (c, cellOf ρ w o j, srcAt s o n ag j) ∈ newsOf ρ a.tmps w s p.cars := by
    intro q hq o n ag ks he j c ty sz g hk
    refine hmem _ (carsAt_mem _ _ q hq) _ ?_
    rw [he]
    simp only [carNew, List.mem_filterMap, Option.map_eq_some_iff]
    exact ⟨(some (c, ty, sz, g), j), List.mem_zipIdx_iff_getElem?.2 (by simpa using hk), _, rfl, rfl⟩
  have hstay : ∀ q ∈ carsAt p.cars 0, ∀ o ∈ q.1.stay, o ∈ p.os ∨ o ∈ p.cars.flatMap Car.stay := fun q hq o ho => .inr (List.mem_flatMap.2 ⟨_, carsAt_mem _ _ q hq, ho⟩)
  -- what each name at the head is
  have hkey : ∀ o b, (headGo pvAlg p.cars zs 0 base).go o = some b → RepO F (rhoN (newsOf ρ a.tmps w s p.cars) ρ) w o b ∧
      (((o ∈ p.os ∨ o ∈ p.cars.flatMap Car.stay) ∧ ∃ b0, s.go o = some b0) ∨ hb (rhoN (newsOf ρ a.tmps w s p.cars) ρ o) = none ∨
        ∃ x ∈ newsOf ρ a.tmps w s p.cars, ∃ u b0, x.1 = o ∧ x.2.2 = some u ∧ s.go u = some b0 ∧ rhoN (newsOf ρ a.tmps w s p.cars) ρ o = ρ u) := by
    intro o b hgo
    rcases headGo_go_inv p.cars zs 0 base hgo with h1 | ⟨q, hq, hob⟩
    · have ho := hbo o b h1
      have hs := hsub.2 o b h1
      refine ⟨(hr.ob.rep o b hs).keep (fun _ _ h => h) (fun _ _ _ => Same.refl _ _ _) (fun u hu => (hold (hP.ob o ho b hs u hu)).1) (hold (.inl ho)).1 (fun _ _ => rfl) (fun _ _ _ h => h), .inl ⟨.inl ho, b, hs⟩⟩
    · obtain ⟨ls, hls, hw, hz⟩ := hat q hq
      obtain ⟨car, k⟩ := q
      cases car with
      | D t => cases hob
      | O t c ty sz ag =>
        obtain ⟨rfl, rfl⟩ := hob
        have hx : ls[0]? = some (instL zs k) := by
          have h0 := hz 0 (by show 0 < 1; omega)
          have hw' : ls.length = 1 := hw
          have : ls[0]? = some (ls[0]'(by omega)) := List.getElem?_eq_getElem (by omega)
          rw [this]; rw [this] at h0
          rw [inst_of (by simpa using h0)]
        have hm := hmem _ (carsAt_mem _ _ _ hq) _ (List.mem_cons_self : _ ∈ carNew ρ a.tmps w s (.O t o ty sz ag))
        obtain ⟨_, h2, h3⟩ := car_O hr.tm hr.ob hls hx (hnew _ hm).1
        refine ⟨h2, .inr ?_⟩
        rcases h3 with ⟨_, h3⟩ | ⟨u, b0, g1, g2, g3⟩
        · exact .inl h3
        · exact .inr ⟨_, hm, u, b0, rfl, by simp [g1], g2, g3⟩
      | W u n ag =>
        obtain ⟨rfl, rfl⟩ := hob
        have hx : ls[0]? = some (instL zs k) := by
          have h0 := hz 0 (by show 0 < 1; omega)
          have hw' : ls.length = 1 := hw
          have : ls[0]? = some (ls[0]'(by omega)) := List.getElem?_eq_getElem (by omega)
          rw [this]; rw [this] at h0
          rw [inst_of (by simpa using h0)]
        have hs := hstay _ hq o (by simp [Car.stay])
        obtain ⟨h1, h2⟩ := car_W hr.ob hls hx (hold hs).1
        exact ⟨h1, .inl ⟨hs, h2⟩⟩
      | R u ty sz ag =>
        obtain ⟨rfl, rfl⟩ := hob
        have hx : ls[0]? = some (instL zs k) := by
          have h0 := hz 0 (by show 0 < 1; omega)
          have hw' : ls.length = 1 := hw
          have : ls[0]? = some (ls[0]'(by omega)) := List.getElem?_eq_getElem (by omega)
          rw [this]; rw [this] at h0
          rw [inst_of (by simpa using h0)]
        have hs := hstay _ hq o (by simp [Car.stay])
        obtain ⟨h1, h2⟩ := car_R hr.ob hls hx (hold hs).1
        exact ⟨h1, .inl ⟨hs, h2⟩⟩
      | M u =>
        obtain ⟨rfl, rfl⟩ := hob
        have hx : ls[0]? = some (instL zs k) := by
          have h0 := hz 0 (by show 0 < 1; omega)
          have hw' : ls.length = 1 := hw
          have : ls[0]? = some (ls[0]'(by omega)) := List.getElem?_eq_getElem (by omega)
          rw [this]; rw [this] at h0
          rw [inst_of (by simpa using h0)]
        have hs := hstay _ hq o (by simp [Car.stay])
        obtain ⟨h1, h2⟩ := car_M hr.ob hls hx (hold hs).1
        exact ⟨h1, .inl ⟨hs, h2⟩⟩
      | H u n ag ks =>
        have hs := hstay _ hq u (by simp [Car.stay])
        have hms : ∀ m ∈ ks.filterMap id, m ∈ p.os ∨ m ∈ p.cars.flatMap Car.stay := fun m hm => hstay _ hq m (List.mem_cons_of_mem _ hm)
        obtain ⟨⟨h1, h2⟩, h3⟩ := car_H (ρ' := rhoN (newsOf ρ a.tmps w s p.cars) ρ) (k := k) hr.ob hls hz (hold hs).1 (fun m hm => (hold (hms m hm)).1)
        rcases hob with ⟨rfl, rfl⟩ | ⟨j, m, hk, rfl, rfl⟩
        · exact ⟨h1, .inl ⟨hs, h2⟩⟩
        · obtain ⟨g1, g2⟩ := h3 j o hk
          exact ⟨g1, .inl ⟨hms o (List.mem_filterMap.2 ⟨some o, List.mem_of_getElem? hk, rfl⟩), g2⟩⟩
      | C u n ag ks =>
        have hs := hstay _ hq u (by simp [Car.stay])
        have hc := hC _ hq u n ag ks rfl
        obtain ⟨⟨h1, h2⟩, h3⟩ := car_C (ρ' := rhoN (newsOf ρ a.tmps w s p.cars) ρ) (k := k) hr.ob hls hz (hold hs).1 (fun j c ty sz g hk => (hnew _ (hc j c ty sz g hk)).1)
        rcases hob with ⟨rfl, rfl⟩ | ⟨j, c, ty, sz, ag', hk, rfl, rfl⟩
        · exact ⟨h1, .inl ⟨hs, h2⟩⟩
        · obtain ⟨g1, g2⟩ := h3 j o ty sz ag' hk
          refine ⟨g1, .inr ?_⟩
          rcases g2 with g2 | ⟨v, b0, e1, e2, e3⟩
          · exact .inl g2
          · exact .inr ⟨_, hc j o ty sz ag' hk, v, b0, rfl, e1, e2, e3⟩
  refine ⟨hst.gl, ?_, by rw [headGo_nt, hnt]; exact hst.size, hst.defers, F, rhoN (newsOf ρ a.tmps w s p.cars) ρ, hr.turn (srcN (newsOf ρ a.tmps w s p.cars)) (fun t sv ht => ?_) (fun o b hgo => ?_) (fun o o' b b' hgo hgo' hne hh hh' => ?_) (fun o ho => ?_)⟩
  · rw [headGo_al, hba]; exact hst.al
  · rcases headGo_gt_inv p.cars zs 0 base ht with h1 | ⟨q, hq, he, rfl⟩ | ⟨q, hq, c, ty, sz, ag, he, rfl⟩
    · have ht' := hbt t sv h1
      obtain ⟨v, hv, hrep⟩ := hr.tm t sv (hsub.1 t sv h1)
      exact ⟨v, hv, hrep.mono (fun _ _ h => h) (fun _ _ _ => Same.refl _ _ _) fun o ho => (hold (hP.ts t ht' sv (hsub.1 t sv h1) o ho)).1⟩
    · obtain ⟨ls, hls, hw, hz⟩ := hat q hq
      obtain ⟨car, k⟩ := q
      have he : car = .D t := he
      subst he
      have hx : ls[0]? = some (instL zs k) := by
        have h0 := hz 0 (by show 0 < 1; omega)
        have hw' : ls.length = 1 := hw
        have : ls[0]? = some (ls[0]'(by omega)) := List.getElem?_eq_getElem (by omega)
        rw [this]; rw [this] at h0
        rw [inst_of (by simpa using h0)]
      exact car_D hr.tm hr.ob hls hx
    · obtain ⟨ls, hls, hw, hz⟩ := hat q hq
      obtain ⟨car, k⟩ := q
      have he : car = .O t c ty sz ag := he
      subst he
      have hx : ls[0]? = some (instL zs k) := by
        have h0 := hz 0 (by show 0 < 1; omega)
        have hw' : ls.length = 1 := hw
        have : ls[0]? = some (ls[0]'(by omega)) := List.getElem?_eq_getElem (by omega)
        rw [this]; rw [this] at h0
        rw [inst_of (by simpa using h0)]
      have hm := hmem _ (carsAt_mem _ _ _ hq) _ (List.mem_cons_self : _ ∈ carNew ρ a.tmps w s (.O t c ty sz ag))
      exact (car_O hr.tm hr.ob hls hx (hnew _ hm).1).1
  · obtain ⟨h1, h2⟩ := hkey o b hgo
    refine ⟨h1, fun k hk => ?_⟩
    rcases h2 with ⟨h2, b0, h3⟩ | h2 | ⟨x, hx, u, b0, rfl, e2, e3, e4⟩
    · rw [(hold h2).2]; rw [(hold h2).1] at hk; exact ⟨b0, h3, hk⟩
    · rw [h2] at hk; cases hk
    · have : srcN (newsOf ρ a.tmps w s p.cars) x.1 = u := by rw [(hnew x hx).2, e2]; rfl
      rw [this]
      rw [e4] at hk
      exact ⟨b0, e3, hk⟩
  · have in_own : ∀ x ∈ newsOf ρ a.tmps w s p.cars, ∀ u, x.2.2 = some u → u ∈ p.cars.flatMap (Car.owns pvAlg s) := fun x hx u hu => by
      rw [← newsOf_owns (ρ := ρ) (tmps := a.tmps) (w := w)]
      exact List.mem_filterMap.2 ⟨x, hx, hu⟩
    have hsrc : ∀ x ∈ newsOf ρ a.tmps w s p.cars, ∀ u, x.2.2 = some u → srcN (newsOf ρ a.tmps w s p.cars) x.1 = u := fun x hx u hu => by rw [(hnew x hx).2, hu]; rfl
    have apart : ∀ {o u}, (o ∈ p.os ∨ o ∈ p.cars.flatMap Car.stay) → u ∈ p.cars.flatMap (Car.owns pvAlg s) → o ≠ u := fun {o u} h1 h2 he => by
      subst he
      rcases h1 with h1 | h1
      · exact (hP.ows _ h2).1 h1
      · exact (hP.ows _ h2).2 h1
    rcases (hkey o b hgo).2 with ⟨h2, _⟩ | h2 | ⟨x, hx, u, b0, rfl, e2, e3, e4⟩
    · rcases (hkey o' b' hgo').2 with ⟨h2', _⟩ | h2' | ⟨x', hx', u', b0', rfl, e2', e3', e4'⟩
      · rw [(hold h2).2, (hold h2').2]; exact hne
      · exact absurd h2' hh'
      · rw [(hold h2).2, hsrc x' hx' u' e2']; exact apart h2 (in_own x' hx' u' e2')
    · exact absurd h2 hh
    · rcases (hkey o' b' hgo').2 with ⟨h2', _⟩ | h2' | ⟨x', hx', u', b0', rfl, e2', e3', e4'⟩
      · rw [(hold h2').2, hsrc x hx u e2]; exact (apart h2' (in_own x hx u e2)).symm
      · exact absurd h2' hh'
      · rw [hsrc x hx u e2, hsrc x' hx' u' e2']
        rintro rfl
        exact hne (by rw [src_inj (fun x => x.2.2) hO x hx x' hx' u e2 e2'])

  · rw [← hst.al] at ho
    exact (rho_out (by rw [newsOf_keys]; exact hP.nal o ho)).1

end
end Go.Lf

/- A function's body does what its text says. -/
namespace Go.Lf
variable [Gl]
open Go.RowKit

section
variable {P : Program} {H : Hint} {S : Fx} {F0 : Nat → Nat → Prop} {w0 : World} {ds : List Deferred} {w : World} {a : Act} {s : St PV}

theorem reps_nil {F : Nat → Nat → Prop} {vs : Array Value} (h : Reps F w vs []) : vs = #[] := by
  have := h.1
  simpa using this

/-- a result as it stands, and its run -/
theorem resS_run {F : Nat → Nat → Prop} {ρ : Nat → Value} {tmps : Array Value} (h : R S F0 w0 F ρ tmps w s.gt s.go) {r : ResultVar} {sv : SV PV} (hr : resS pvAlg P s r = some sv) :
    ∃ v, (match r with
      | .tmp t => pure (tmps.getD t undef)
      | .cell a t => do loadVar t (← asAddr (tmps.getD a undef)) : Sem Value).run P w = .ok v w ∧ RepS F ρ w v sv := by
  cases r with
  | tmp t =>
    obtain ⟨v, hv, hrep⟩ := h.tm t sv hr
    exact ⟨v, by simp [hv], hrep⟩
  | cell t ty =>
    simp only [resS] at hr
    split at hr
    · rename_i o off m g hgt hm hg
      split at hr
      · rename_i fz n ag cs hgo
        obtain ⟨v, hv, b, h1, h2⟩ := h.tm t _ hgt
        obtain ⟨b', c, ty0, g1, g2, g3, g4, g5⟩ := h.ob.rep o _ hgo
        rw [g1] at h1
        simp at h1; subst h1
        have e1 : tmps.getD t undef = .pointer (some ⟨b', off, none⟩) := by simp [hv, h2]
        have hc : ∀ j, j < n → w.cell? ⟨b', 0 + j, none⟩ = c[j]? := fun j hj => by
          rw [Nat.zero_add]
          have hjc : j < c.size := by omega
          simp [World.cell?, g2, hjc]
        obtain ⟨h1, h2⟩ := loadCs_rep g3 g4 hr
        have hle : off + m ≤ n := by
          cases g with
          | true => exact (h1 rfl).1
          | false =>
            obtain ⟨e, u, hu, _⟩ := h2 rfl
            have := (Array.getElem?_eq_some_iff.1 hu).1
            omega
        have hrun := run_load_place (P := P) (w := w) (b := b') (base := 0) (off := off) (t := ty) hc g3 hm hg hle (fun e => (h2 e).1)
        rw [Nat.zero_add] at hrun
        refine ⟨_, by simpa only [e1, Instr.loadAt, Instr.sureAddr, asAddr] using hrun, ?_⟩
        cases g with
        | true => exact (h1 rfl).2
        | false =>
          obtain ⟨_, u, hu, hr⟩ := h2 rfl
          simp only [Bool.false_eq_true, if_false, hu, Option.getD_some]
          exact hr
      · cases hr
    · cases hr

theorem runs_of {β : Type} (f : β → Sem Value) (G : Value → SV PV → Prop) (g : β → Option (SV PV)) : ∀ {l : List β} {svs : List (SV PV)}, l.mapM g = some svs → (∀ r sv, g r = some sv → ∃ v, (f r).run P w = .ok v w ∧ G v sv) →
    ∃ vs : List Value, (l.mapM f).run P w = .ok vs w ∧ vs.length = svs.length ∧ ∀ (i : Nat) (v : Value) (sv : SV PV), vs[i]? = some v → svs[i]? = some sv → G v sv
  | [], svs, h, _ => by simp at h; subst h; exact ⟨[], by simp, rfl, fun i v sv h => by simp at h⟩
  | r :: l, svs, h, hf => by
    rw [List.mapM_cons] at h
    cases hg : g r with
    | none => rw [hg] at h; simp at h
    | some b =>
      rw [hg] at h
      cases hl : l.mapM g with
      | none => rw [hl] at h; simp at h
      | some bs =>
        rw [hl] at h
        simp at h; subst h
        obtain ⟨v, hv, hG⟩ := hf r b hg
        obtain ⟨vs, h1, h2, h3⟩ := runs_of f G g hl hf
        refine ⟨v :: vs, by simp [List.mapM_cons, hv, h1], by simp [h2], fun i u sv hu hs => ?_⟩
        cases i with
        | zero => simp at hu hs; subst hu; subst hs; exact hG
        | succ i => simp at hu hs; exact h3 i u sv hu hs

theorem ret_sound {fn : Func} {K : PV → Prop} {hs : List (List PV → Prop)} (h : StR S F0 w0 ds s a w) (hden : (comRet pvAlg P fn s).den P K hs) :
    ∃ v F' r, (results fn a.tmps).run P w = .ok v w ∧ Kp S.s w0 w ∧ (∀ b o, F0 b o → F' b o) ∧ (∀ b o, F' b o → F0 b o ∨ w0.heap.size ≤ b ∨ S b) ∧ (∀ b o, F' b o → b < w.heap.size) ∧ Rep F' w v r ∧ K r := by
  obtain ⟨F, ρ, hr⟩ := h.ex
  unfold comRet at hden
  split at hden
  · rename_i l hl
    obtain ⟨vs, h1, h2, h3⟩ := runs_of (P := P) (w := w) (fun r => (match r with
      | .tmp t => pure (a.tmps.getD t undef)
      | .cell b t => do loadVar t (← asAddr (a.tmps.getD b undef)) : Sem Value)) (fun v sv => RepS F ρ w v sv) (resS pvAlg P s) hl (fun r sv hr' => resS_run hr hr')
    obtain ⟨⟨F', hFF, h4⟩, h5⟩ := hr.upd (c := s) ⟨fun _ _ h => h, fun _ _ h => h⟩ (l.flatMap svRefs)
    have h6 := h4.sub h5.1 h5.2
    have hrun : (results fn a.tmps).run P w = .ok (if h : vs.toArray.size = 1 then vs.toArray[0] else .tuple vs.toArray) w := by
      have e : (results fn a.tmps) = (fn.results.mapM (fun r => (match r with
        | .tmp t => pure (a.tmps.getD t undef)
        | .cell b t => do loadVar t (← asAddr (a.tmps.getD b undef)) : Sem Value))) >>= fun vs => pure (if h : vs.size = 1 then vs[0] else .tuple vs) := rfl
      rw [e, Array.mapM_eq_mapM_toList]
      simp only [Sem.run_bind, map_eq_pure_bind, h1, Result.andThen_ok, Sem.run_pure]
    have hreps : ∀ xs, l.mapM (asE pvAlg ((l.flatMap svRefs).foldl (St.fr pvAlg) s)) = some xs → xs.length = l.length ∧ ∀ (i : Nat) (v : Value) (x : PV), vs[i]? = some v → xs[i]? = some x → Rep F' w v x := by
      intro xs hxs
      obtain ⟨m1, m2⟩ := mapM_some hxs
      refine ⟨m1, fun i v x hv hx => ?_⟩
      have hil : i < l.length := by rw [← m1]; exact (List.getElem?_eq_some_iff.1 hx).1
      have hl' : l[i]? = some (l[i]'hil) := List.getElem?_eq_getElem hil
      have := (h3 i v _ hv hl').mono (F' := F') (ρ' := ρ) (w' := w) hFF (fun _ _ _ => Same.refl _ _ _) (fun _ _ => rfl)
      exact asE_rep h6.ob this (m2 i _ x hl' hx)
    have fin : ∀ v r, vs.toArray.size = l.length → (if h : vs.toArray.size = 1 then vs.toArray[0] else .tuple vs.toArray) = v → Rep F' w v r → K r →
        ∃ v F' r, (results fn a.tmps).run P w = .ok v w ∧ Kp S.s w0 w ∧ (∀ b o, F0 b o → F' b o) ∧ (∀ b o, F' b o → F0 b o ∨ w0.heap.size ≤ b ∨ S b) ∧ (∀ b o, F' b o → b < w.heap.size) ∧ Rep F' w v r ∧ K r :=
      fun v r _ hv hrep hK => ⟨v, F', r, by rw [hrun, hv], h6.kp, h6.f0, h6.f1, h6.f2, hrep, hK⟩
    have hsz : vs.toArray.size = l.length := by simpa using h2
    simp only at hden
    split at hden
    · rename_i x hxs
      obtain ⟨e1, e2⟩ := hreps _ hxs
      have hl1 : l.length = 1 := e1.symm
      have hv1 : vs.length = 1 := by omega
      have hv0 : vs[0]? = some (vs[0]'(by omega)) := List.getElem?_eq_getElem (by omega)
      refine fin _ x hsz ?_ (e2 0 (vs[0]'(by omega)) x hv0 rfl) hden
      rw [dif_pos (by simpa using hv1)]
      simp
    · rename_i xs hne hxs
      obtain ⟨e1, e2⟩ := hreps _ hxs
      have hl1 : l.length ≠ 1 := by
        intro he
        rw [he] at e1
        match xs, e1 with
        | [x], _ => exact hne x rfl
      have hv1 : ¬ vs.toArray.size = 1 := by simp; omega
      refine fin _ (.tup xs) hsz (dif_neg hv1) (.tup _ xs (by simp; omega) fun i c x hc hx => e2 i c x (by simpa using hc) hx) hden
    · cases hden
  · cases hden

theorem init_str {F : Nat → Nat → Prop} {args : Array Value} {xs : List PV} {n nt : Nat} (hgl : GlOk F w) (hF : ∀ b o, F b o → b < w.heap.size) (h : Reps F w args xs) (hn : xs.length = n) :
    StR ⟨fun _ => False, [], fun _ => undef⟩ F w [] (initSt pvAlg n nt xs) { tmps := args ++ Array.replicate (nt - args.size) undef, defers := [] } w := by
  refine ⟨hgl, rfl, ?_, rfl, F, fun _ => undef, Kp.refl _ _, fun _ _ h => h, fun _ _ h => .inl h, hF, fun _ _ _ => Same.refl _ _ _, fun t sv ht => ?_, ⟨fun o b ho => ?_, fun o o' b b' ho => ?_⟩, fun o b ho => ?_, fun o ho => by cases ho⟩
  · have h1 := h.1
    simp only [Array.size_append, Array.size_replicate, initSt]
    show args.size + (nt - args.size) = max n nt
    omega
  · have hm := look_some _ _ _ ht
    simp only [initSt, List.mem_map, List.mem_range] at hm
    obtain ⟨i, hi, he⟩ := hm
    simp at he; obtain ⟨rfl, rfl⟩ := he
    have h1 := h.1
    have hia : i < args.size := by omega
    refine ⟨args[i], by show (args ++ Array.replicate (nt - args.size) undef)[i]? = _; rw [Array.getElem?_append_left hia]; simp [hia], ?_⟩
    have hx : xs[i]? = some (xs[i]'(by omega)) := List.getElem?_eq_getElem (by omega)
    have : pvAlg.nth xs i = xs[i]'(by omega) := by simp [pvAlg, hx]
    rw [this]
    exact h.2 i _ _ (by simp [hia]) hx
  · cases ho
  · cases ho
  · cases ho

theorem enters_of {f : Nat} {fn : Func} {c : Code} (hf : P.funcs[f]? = some fn) (hb : fn.body = some c) (hn : fn.name ≠ "runtime.NumGoroutine") : Enters P f := by
  intro args w
  unfold callFunc
  simp [hf, hb, hn]

theorem of_den (hm : P.follows .mixedOrders = true) {plans : List (Nat × Plan)} {f : Nat} {fn : Func} {args : List PV} {r : PV} (hf : P.funcs[f]? = some fn) (hn : (fn.name == "runtime.NumGoroutine") = false)
    (hl : args.length = fn.params.size + fn.nfree) (h : (comF pvAlg P H plans fn args).den P (· = r) []) : Ok P f args r := by
  unfold comF at h
  cases hb : fn.body with
  | none => rw [hb] at h; cases h
  | some c =>
    rw [hb] at h
    refine ⟨enters_of hf hb (by simpa using hn), fun F w vs hF hgl hvs => ?_⟩
    refine calls_of_wp hf hb ?_
    have hst := init_str (nt := fn.ntmps) hgl hF hvs hl
    have fin : Cont P ⟨fun _ => False, [], fun _ => undef⟩ F w [] (· = r) [] (initSt pvAlg (fn.params.size + fn.nfree) fn.ntmps args).nt [] (comRet pvAlg P fn) (fun a' w' => a'.defers = [] ∧ ∃ v, (results fn a'.tmps).run P w' = .ok v w' ∧
        ∃ v' F', Ending.returned v = .returned v' ∧ Below w.heap.size w w' ∧ (∀ b o, F b o → F' b o) ∧ (∀ b o, F' b o → F b o ∨ w.heap.size ≤ b) ∧ (∀ b o, F' b o → b < w'.heap.size) ∧ Rep F' w' v' r) := by
      intro hs' _ s' a' w' _ _ _ hst' hden
      obtain ⟨v, F', r', h1, h2, h3, h4, h5, h6, rfl⟩ := ret_sound hst' hden
      refine ⟨hst'.defers, v, h1, v, F', rfl, ⟨h2.os, h2.tape, h2.output, h2.size, fun k hk => h2.block k hk fun h => h⟩, h3, fun b o hf => ?_, h5, h6⟩
      rcases h4 b o hf with h | h | h
      · exact .inl h
      · exact .inr h
      · exact h.elim
    exact com_sound (fun P => enters' P) (H := hintOf P H fn) hm c _ _ _ [] [] _ _ _ rfl (fun B hB => by cases hB) hst h fin (fun id k' hl => by cases hl) fin

end
end Go.Lf

/- A function's body with memory does what its text says. -/
namespace Go.Lf
variable [Gl]
open Go.RowKit

section
variable {P : Program} {H : Hint} {S : Fx} {F0 : Nat → Nat → Prop} {w0 : World} {ds : List Deferred} {w : World} {a : Act} {s : St PV}

/-- what the run of the results gives, told by a state that may have been frozen -/
def RetOk (P : Program) (S : Fx) (F0 : Nat → Nat → Prop) (w0 : World) (fn : Func) (a : Act) (w : World) (sv : SV PV) (s : St PV) : Prop :=
  ∃ v F ρ, (results fn a.tmps).run P w = .ok v w ∧ R S F0 w0 F ρ a.tmps w s.gt s.go ∧ RepS F ρ w v sv

theorem runs_results {fn : Func} {F : Nat → Nat → Prop} {ρ : Nat → Value} {l : List (SV PV)} (hr : R S F0 w0 F ρ a.tmps w s.gt s.go) (hl : fn.results.toList.mapM (resS pvAlg P s) = some l) :
    ∃ vs : List Value, (results fn a.tmps).run P w = .ok (if h : vs.toArray.size = 1 then vs.toArray[0] else .tuple vs.toArray) w ∧ vs.length = l.length ∧
      ∀ (i : Nat) (v : Value) (sv : SV PV), vs[i]? = some v → l[i]? = some sv → RepS F ρ w v sv := by
  obtain ⟨vs, h1, h2, h3⟩ := runs_of (P := P) (w := w) (fun r => (match r with
    | .tmp t => pure (a.tmps.getD t undef)
    | .cell b t => do loadVar t (← asAddr (a.tmps.getD b undef)) : Sem Value)) (fun v sv => RepS F ρ w v sv) (resS pvAlg P s) hl (fun r sv hr' => resS_run hr hr')
  refine ⟨vs, ?_, h2, h3⟩
  have e : (results fn a.tmps) = (fn.results.mapM (fun r => (match r with
    | .tmp t => pure (a.tmps.getD t undef)
    | .cell b t => do loadVar t (← asAddr (a.tmps.getD b undef)) : Sem Value))) >>= fun vs => pure (if h : vs.size = 1 then vs[0] else .tuple vs) := rfl
  rw [e, Array.mapM_eq_mapM_toList]
  simp only [Sem.run_bind, map_eq_pure_bind, h1, Result.andThen_ok, Sem.run_pure]

theorem retS_ok {sg : Sig} {fn : Func} {sv : SV PV} {s' : St PV} (h : StR S F0 w0 ds s a w) (hr : retS pvAlg P sg fn s = some (sv, s')) : RetOk P S F0 w0 fn a w sv s' := by
  obtain ⟨F, ρ, hR⟩ := h.ex
  unfold retS at hr
  split at hr
  · rename_i hl
    simp only [Option.some.injEq, Prod.mk.injEq] at hr
    obtain ⟨rfl, rfl⟩ := hr
    obtain ⟨vs, h1, h2, _⟩ := runs_results (P := P) (fn := fn) (l := []) hR (by rw [hl]; rfl)
    have : vs = [] := by simpa using h2
    subst this
    exact ⟨_, F, ρ, h1, hR, .tup #[] [] rfl fun i c x hc => by simp at hc⟩
  · rename_i q hl
    split at hr
    · rename_i x1 x2 u i hv he
      simp only [Option.some.injEq, Prod.mk.injEq] at hr
      obtain ⟨rfl, rfl⟩ := hr
      obtain ⟨vs, h1, h2, h3⟩ := runs_results (P := P) (fn := fn) (l := [u]) hR (by rw [hl]; simp [hv])
      obtain ⟨⟨F', hFF, h4⟩, h5⟩ := hR.upd (c := s) ⟨fun _ _ h => h, fun _ _ h => h⟩ (svRefs u)
      have h6 := h4.sub h5.1 h5.2
      have hv1 : vs.length = 1 := h2
      have hv0 : vs[0]? = some (vs[0]'(by omega)) := List.getElem?_eq_getElem (by omega)
      refine ⟨_, F', ρ, h1, h6, ?_⟩
      rw [dif_pos (by simpa using hv1)]
      have := (h3 0 _ u hv0 rfl).mono (F' := F') (ρ' := ρ) (w' := w) hFF (fun _ _ _ => Same.refl _ _ _) (fun _ _ => rfl)
      simpa using this
    · rename_i v hv _
      simp only [Option.some.injEq, Prod.mk.injEq] at hr
      obtain ⟨rfl, rfl⟩ := hr
      obtain ⟨vs, h1, h2, h3⟩ := runs_results (P := P) (fn := fn) (l := [v]) hR (by rw [hl]; simp [hv])
      have hv1 : vs.length = 1 := h2
      have hv0 : vs[0]? = some (vs[0]'(by omega)) := List.getElem?_eq_getElem (by omega)
      refine ⟨_, F, ρ, h1, hR, ?_⟩
      rw [dif_pos (by simpa using hv1)]
      simpa using h3 0 _ v hv0 rfl
    · cases hr
  · rename_i l0 hne1 hne2
    split at hr
    · rename_i l hl
      simp only [Option.map_eq_some_iff, Prod.mk.injEq] at hr
      obtain ⟨xs, hxs, rfl, rfl⟩ := hr
      obtain ⟨vs, h1, h2, h3⟩ := runs_results (P := P) (fn := fn) (l := l) hR hl
      obtain ⟨⟨F', hFF, h4⟩, h5⟩ := hR.upd (c := s) ⟨fun _ _ h => h, fun _ _ h => h⟩ (l.flatMap svRefs)
      have h6 := h4.sub h5.1 h5.2
      obtain ⟨m1, m2⟩ := mapM_some hxs
      obtain ⟨k1, _⟩ := mapM_some hl
      have hv1 : ¬ vs.toArray.size = 1 := by
        simp only [List.size_toArray]
        intro he
        have : fn.results.toList.length = 1 := by omega
        match hq : fn.results.toList, this with
        | [q], _ => exact hne2 q hq
      refine ⟨_, F', ρ, h1, h6, ?_⟩
      rw [dif_neg hv1]
      refine .tup _ xs (by simp; omega) fun i c x hc hx => ?_
      have hil : i < l.length := by rw [← m1]; exact (List.getElem?_eq_some_iff.1 hx).1
      have hl' : l[i]? = some (l[i]'hil) := List.getElem?_eq_getElem hil
      have := (h3 i c _ (by simpa using hc) hl').mono (F' := F') (ρ' := ρ) (w' := w) hFF (fun _ _ _ => Same.refl _ _ _) (fun _ _ => rfl)
      exact asE_rep h6.ob this (m2 i _ x hl' hx)
    · cases hr

theorem preset {l : List (Nat × Ob Nat)} {rk : List Nat} {o : Nat} (h1 : o ∈ l.map (·.1)) (h2 : o ∈ rk) : lookE (l.filterMap fun p => if has rk p.1 then some (p.1, p.1) else none) o = some o := by
  induction l with
  | nil => cases h1
  | cons p l ih =>
    rw [List.filterMap_cons]
    by_cases he : p.1 = o
    · rw [if_pos (by rw [he]; exact has_of_mem h2)]
      simp only [he]
      rw [lookE_cons, if_pos rfl]
    · have h1' : o ∈ l.map (·.1) := by
        rcases List.mem_cons.1 h1 with e | e
        · exact absurd e.symm he
        · exact e
      split
      · rename_i e; split at e <;> first | exact ih h1' | cases e
      · rename_i q e
        split at e
        · simp at e; subst e
          rw [lookE_cons, if_neg he]; exact ih h1'
        · cases e

theorem retS_sound {sg : Sig} {fn : Func} {K : PV → Prop} {hs : List (List PV → Prop)} (hal : S.al = sg.obs.map (·.1)) (h : StR S F0 w0 ds s a w) (hden : (comRetS pvAlg P sg fn s).den P K hs) :
    ∃ v F' ρ' ys, (results fn a.tmps).run P w = .ok v w ∧ Kp S.s w0 w ∧ (∀ b o, F0 b o → F' b o ∧ Same w0 w b o) ∧ (∀ b o, F' b o → F0 b o ∨ w0.heap.size ≤ b ∨ S b) ∧ (∀ b o, F' b o → b < w.heap.size) ∧
      RepS F' ρ' w v (sg.resI ys) ∧ ObsR F' ρ' w (lookO (sg.robsI ys)) ∧ (∀ o b, lookO (sg.robsI ys) o = some b → ∀ k, hb (ρ' o) = some k → w0.heap.size ≤ k ∨ S k) ∧
      (∀ o ∈ sg.obs.map (·.1), o ∈ sg.robs.map (·.1) → ρ' o = S.ρ0 o) ∧ K (.tup ys) := by
  unfold comRetS at hden
  split at hden
  · rename_i r hr
    obtain ⟨sv, s'⟩ := r
    simp only at hden
    obtain ⟨v, F, ρ, hrun, hR, hrep⟩ := retS_ok h hr
    split at hden
    · rename_i b hb
      simp only [Option.bind_eq_some_iff] at hb
      obtain ⟨b1, hb1, hb2⟩ := hb
      split at hden
      · rename_i ys hys
        split at hden
        · rename_i hc
          simp only [Bool.and_eq_true, beq_iff_eq] at hc
          obtain ⟨⟨⟨⟨c1, c2⟩, c3⟩, c4⟩, c5⟩ := hc
          have n2 := seqL_nd c2
          obtain ⟨l1, l2⟩ := bind_sv hR.ob hb1
          obtain ⟨l3, l4⟩ := bind_obs hR.ob hb2
          let ρs : Nat → Value := fun o => match lookE b.ids o with
            | some u => ρ u
            | none => undef
          have hfull : Full b ys ρ ρs := by
            refine ⟨fun i x hi => ?_, fun o u hu => by simp only [ρs, hu]⟩
            obtain ⟨m1, m2⟩ := mapM_some hys
            have hlen : i < sg.nout := by
              have hmem : ∀ j, j < sg.nout → j ∈ b.lv.map (·.1) := by
                intro j hj
                have hx' : ys[j]? = some (ys[j]'(by simp at m1; omega)) := List.getElem?_eq_getElem _
                have := m2 j j _ (by simp [hj]) hx'
                exact List.mem_map.2 ⟨_, lookE_in _ _ _ this, rfl⟩
              have hi' : i ∈ b.lv.map (·.1) := List.mem_map.2 ⟨_, lookE_in _ _ _ hi, rfl⟩
              rcases Nat.lt_or_ge i sg.nout with hlt | hge
              · exact hlt
              · exfalso
                have hsub : (i :: List.range sg.nout).Nodup := List.nodup_cons.2 ⟨by simp; omega, List.nodup_range⟩
                have := hsub.length_le_of_subset (l₂ := b.lv.map (·.1)) (fun j hj => by
                  rcases List.mem_cons.1 hj with rfl | hj
                  · exact hi'
                  · exact hmem j (by simpa using hj))
                simp at this
                omega
            have hx' : ys[i]? = some (ys[i]'(by simp at m1; omega)) := List.getElem?_eq_getElem _
            have := m2 i i _ (by simp [hlen]) hx'
            rw [hi] at this
            simp only [instL, List.getD_eq_getElem?_getD, hx', Option.getD_some]
            exact (Option.some.inj this).symm
          have mem : ∀ o b', lookO (sg.robsI ys) o = some b' → ∃ u q, lookE b.ids o = some u ∧ s'.go u = some q ∧ ρs o = ρ u ∧ RepO F ρs w o b' := by
            intro o b' hb'
            have := lookO_some hb'
            simp only [Sig.robsI, List.mem_map] at this
            obtain ⟨q, hq, e⟩ := this
            simp at e; obtain ⟨rfl, rfl⟩ := e
            obtain ⟨u, q', g1, g2, g3⟩ := l4 b ys ρs (BLe.refl _) hfull q.1 q.2 hq
            exact ⟨u, q', g1, g2, hfull.id _ u g1, g3⟩
          refine ⟨v, F, ρs, ys, hrun, hR.kp, fun b o hf => ⟨hR.f0 b o hf, hR.f3 b o hf⟩, hR.f1, hR.f2, l2 b ys ρs l3 hfull v hrep, ⟨fun o b' hb' => ?_, fun o o' b1 b2 h1 h2 hne k hk hk' => ?_⟩, fun o b' hb' k hk => ?_, fun o ho ho' => ?_, hden⟩
          · obtain ⟨_, _, _, _, _, g⟩ := mem o b' hb'
            exact g
          · obtain ⟨u1, q1, e1, e2, e3, _⟩ := mem o b1 h1
            obtain ⟨u2, q2, f1, f2, f3, _⟩ := mem o' b2 h2
            have hu : u1 ≠ u2 := fun e => hne (by
              have := nodup_val n2 (lookE_in _ _ _ e1) (lookE_in _ _ _ f1) e
              simpa using congrArg Prod.fst this)
            rw [e3] at hk; rw [f3] at hk'
            exact hR.ob.sep u1 u2 q1 q2 e2 f2 hu k hk hk'
          · obtain ⟨u, q, e1, e2, e3, _⟩ := mem o b' hb'
            rw [e3] at hk
            exact hR.mine u q e2 k hk
          · have h1 : lookE b.ids o = some o := l3.1 _ _ (l1.1 _ _ (preset ho ho'))
            rw [hfull.id o o h1]
            exact hR.al o (by rw [hal]; exact ho)
        · cases hden
      · cases hden
    · cases hden
  · cases hden

theorem look_zip {l : List (SV Nat)} {f : SV Nat → SV PV} {t : Nat} {v : SV PV} (h : look (l.zipIdx.map fun p => (p.2, some (f p.1))) t = some v) : ∃ y, l[t]? = some y ∧ v = f y := by
  have hm := look_some _ _ _ h
  simp only [List.mem_map] at hm
  obtain ⟨p, hp, e⟩ := hm
  simp at e; obtain ⟨rfl, rfl⟩ := e
  exact ⟨p.1, List.mem_zipIdx_iff_getElem?.1 hp, rfl⟩

theorem initS_str {F : Nat → Nat → Prop} {ρ : Nat → Value} {vs : Array Value} {sg : Sig} {xs : List PV} {nt : Nat} (hgl : GlOk F w) (hF : ∀ b o, F b o → b < w.heap.size) (hn : vs.size = sg.args.length)
    (hargs : ∀ (i : Nat) (v : Value) (a : SV PV), vs[i]? = some v → (sg.argsI xs)[i]? = some a → RepS F ρ w v a) (hobs : ObsR F ρ w (lookO (sg.obsI xs))) :
    StR ⟨blocksOf ρ (sg.obsI xs), sg.obs.map (·.1), ρ⟩ F w [] (initStS pvAlg sg nt xs) { tmps := vs ++ Array.replicate (nt - vs.size) undef, defers := [] } w := by
  have hgo : ∀ o, (initStS pvAlg sg nt xs).go o = lookO (sg.obsI xs) o := by
    intro o
    show look (sg.obs.map fun p => (p.1, some (p.2.map' (pvAlg.nth xs) id))) o = look ((sg.obs.map fun p => (p.1, p.2.map' (instL xs) id)).map fun p => (p.1, some p.2)) o
    rw [List.map_map]; rfl
  refine ⟨hgl, rfl, ?_, rfl, F, ρ, Kp.refl _ _, fun _ _ h => h, fun _ _ h => .inl h, hF, fun _ _ _ => Same.refl _ _ _, fun t sv ht => ?_, ⟨fun o b ho => ?_, fun o o' b b' ho ho' => ?_⟩, fun o b ho k hk => ?_, fun o ho => rfl⟩
  · simp only [Array.size_append, Array.size_replicate, initStS]
    show vs.size + (nt - vs.size) = max sg.args.length nt
    omega
  · obtain ⟨y, hy, rfl⟩ := look_zip ht
    have hia : t < vs.size := by rw [hn]; exact (List.getElem?_eq_some_iff.1 hy).1
    refine ⟨vs[t], by show (vs ++ Array.replicate (nt - vs.size) undef)[t]? = _; rw [Array.getElem?_append_left hia]; simp [hia], ?_⟩
    exact hargs t _ _ (by simp [hia]) (by simp only [Sig.argsI, List.getElem?_map, hy, Option.map_some]; rfl)
  · rw [hgo] at ho; exact hobs.rep o b ho
  · rw [hgo] at ho ho'; exact hobs.sep o o' b b' ho ho'
  · rw [hgo] at ho
    exact .inr ⟨_, lookO_some ho, hk⟩

theorem of_denS (hm : P.follows .mixedOrders = true) {plans : List (Nat × Plan)} {f : Nat} {fn : Func} {sg : Sig} {xs ys : List PV} (hf : P.funcs[f]? = some fn) (hn : (fn.name == "runtime.NumGoroutine") = false)
    (h : (comFS pvAlg P H plans sg fn xs).den P (· = .tup ys) []) : OkS P f sg xs ys := by
  unfold comFS at h
  cases hbd : fn.body with
  | none => rw [hbd] at h; cases h
  | some c =>
    rw [hbd] at h
    refine ⟨enters_of hf hbd (by simpa using hn), fun F w vs ρ hF hgl hsz hargs hobs => ?_⟩
    refine calls_of_wp hf hbd ?_
    have hst := initS_str (nt := fn.ntmps) hgl hF hsz hargs hobs
    have fin : Cont P ⟨blocksOf ρ (sg.obsI xs), sg.obs.map (·.1), ρ⟩ F w [] (· = .tup ys) [] (initStS pvAlg sg fn.ntmps xs).nt [] (comRetS pvAlg P sg fn) (fun a' w' => a'.defers = [] ∧ ∃ v, (results fn a'.tmps).run P w' = .ok v w' ∧
        ∃ v' F' ρ', Ending.returned v = .returned v' ∧ Kp (blocksOf ρ (sg.obsI xs)) w w' ∧ (∀ b o, F b o → F' b o ∧ Same w w' b o) ∧ (∀ b o, F' b o → F b o ∨ w.heap.size ≤ b ∨ blocksOf ρ (sg.obsI xs) b) ∧ (∀ b o, F' b o → b < w'.heap.size) ∧
          RepS F' ρ' w' v' (sg.resI ys) ∧ ObsR F' ρ' w' (lookO (sg.robsI ys)) ∧ (∀ o b, lookO (sg.robsI ys) o = some b → ∀ k, hb (ρ' o) = some k → w.heap.size ≤ k ∨ blocksOf ρ (sg.obsI xs) k) ∧
          (∀ o ∈ sg.obs.map (·.1), o ∈ sg.robs.map (·.1) → ρ' o = ρ o)) := by
      intro hs' _ s' a' w' _ _ _ hst' hden
      obtain ⟨v, F', ρ', ys', h1, h2, h3, h4, h5, h6, h7, h8, h9, h10⟩ := retS_sound rfl hst' hden
      obtain rfl : ys' = ys := by simpa using h10
      exact ⟨hst'.defers, v, h1, v, F', ρ', rfl, h2, h3, h4, h5, h6, h7, h8, h9⟩
    exact com_sound (fun P => enters' P) (H := hintOf P H fn) hm c _ _ _ [] [] _ _ _ rfl (fun B hB => by cases hB) hst h fin (fun id k' hl => by cases hl) fin

end
end Go.Lf

/- A law's arguments read as values without memory; a law from the contract of its function. -/
namespace Go.Lf
variable [Gl]
open Go.RowKit Go.ChangeShapes

/-! ### readings -/
section
variable {H : Type}

def litPV : Lit → PV
  | .bool b => .bool b
  | .int k n => .int k n
  | .string l => .str ⟨l.toArray⟩
  | _ => .nilI

mutual
def dpv : DataW H → PV
  | .lit l => litPV l
  | .nil => .sl []
  | .slice es _ => .sl (dpvs es)
  | .agg ps => .agg (dpvc ps)
  | _ => .nilI
def dpvs : List (DataW H) → List PV
  | [] => []
  | d :: r => dpv d :: dpvs r
def dpvc : List (DataW H) → List PV
  | [] => []
  | d :: r => (dpv d).cells ++ dpvc r
end

theorem dpvs_eq : ∀ l : List (DataW H), dpvs l = l.map dpv
  | [] => by simp [dpvs]
  | d :: r => by simp [dpvs, dpvs_eq r]
theorem dpvc_eq : ∀ l : List (DataW H), dpvc l = l.flatMap fun d => (dpv d).cells
  | [] => by simp [dpvc]
  | d :: r => by simp [dpvc, dpvc_eq r]

/- how many values and letters -/
mutual
def dbulk : DataW H → Nat
  | .lit (.string l) => l.length + 1
  | .lit _ => 1
  | .slice es sp => dbulks es + dbulks sp + 1
  | .agg ps => dbulks ps + 1
  | _ => 1
def dbulks : List (DataW H) → Nat
  | [] => 0
  | d :: r => dbulk d + dbulks r
end

theorem dbulks_mem {d : DataW H} : ∀ {l : List (DataW H)}, d ∈ l → dbulk d ≤ dbulks l
  | [], h => by cases h
  | x :: l, h => by
    simp only [dbulks]
    rcases List.mem_cons.1 h with rfl | h
    · omega
    · have := dbulks_mem h; omega

/-- values of a type, as they come in; with the bulk that they have at least -/
inductive HasT (P : Program) : Nat → PV → Nat → Prop
  | int (t : Nat) (k : IntKind) (n : Int) (m : Nat) (ht : P.underlying t = some (.int k)) (hw : (Lit.int k n).wf = true) (hm : 1 ≤ m) : HasT P t (.int k n) m
  | bool (t : Nat) (b : Bool) (m : Nat) (ht : P.underlying t = some .bool) (hm : 1 ≤ m) : HasT P t (.bool b) m
  | str (t : Nat) (s : ByteArray) (m : Nat) (ht : P.underlying t = some .string) (hw : s.size ≤ maxLen) (hm : s.size + 1 ≤ m) : HasT P t (.str s) m
  | sl (t e : Nat) (l : List PV) (ms : List Nat) (m : Nat) (ht : P.underlying t = some (.slice e)) (hl : l.length ≤ maxLen) (hms : ms.length = l.length)
      (h : ∀ (i : Nat) (x : PV) (k : Nat), l[i]? = some x → ms[i]? = some k → HasT P e x k) (hm : ms.sum + 1 ≤ m) : HasT P t (.sl l) m
  | agg (t : Nat) (fs : Array Field) (xs : List PV) (ms : List Nat) (m : Nat) (ht : P.underlying t = some (.struct fs)) (hl : xs.length = fs.size) (hms : ms.length = xs.length)
      (h : ∀ (i : Nat) (f : Field) (x : PV) (k : Nat), fs[i]? = some f → xs[i]? = some x → ms[i]? = some k → HasT P f.type x k) (hm : ms.sum + 1 ≤ m) : HasT P t (.agg (xs.flatMap PV.cells)) m

theorem dbulks_sum : ∀ l : List (DataW H), dbulks l = (l.map dbulk).sum
  | [] => by simp [dbulks]
  | d :: r => by simp [dbulks, dbulks_sum r]

/-! ### the types that can be read so -/

def fieldsAt (P : Program) : List Field → Nat → Option Nat
  | [], off => some off
  | f :: fs, off => if f.offset == off then fieldsAt P fs (off + P.cellsOf f.type) else none

def plainT (P : Program) (tys : List Nat) (t : Nat) : Bool := match P.underlying t with
  | some (.int _) => P.cellsOf t == 1
  | some .bool => P.cellsOf t == 1
  | some .string => P.cellsOf t == 1
  | some (.slice e) => P.cellsOf t == 1 && has tys e && Nat.blt 0 (P.cellsOf e)
  | some (.struct fs) => (fieldsAt P fs.toList 0 == some (P.cellsOf t)) && fs.toList.all fun f => has tys f.type
  | _ => false
def plainAll (P : Program) (tys : List Nat) : Bool := tys.all (plainT P tys)

theorem fields_cells {P : Program} {cs : List Value} {xs : List PV} : ∀ (fs : List Field) (off n : Nat), fieldsAt P fs off = some n → cs.length = n → fs.length = xs.length →
    (∀ (i : Nat) (f : Field) (x : PV), fs[i]? = some f → xs[i]? = some x → x.cells.length = ((cs.drop f.offset).take (P.cellsOf f.type)).length ∧ ((cs.drop f.offset).take (P.cellsOf f.type)).length = P.cellsOf f.type) →
    (xs.flatMap PV.cells).length = n - off ∧ off ≤ n ∧ ∀ (i : Nat) (y : PV), (xs.flatMap PV.cells)[i]? = some y → ∃ (j : Nat) (f : Field) (x : PV) (k : Nat), fs[j]? = some f ∧ xs[j]? = some x ∧ x.cells[k]? = some y ∧ off + i = f.offset + k ∧ k < P.cellsOf f.type := by
  intro fs
  induction fs generalizing xs with
  | nil =>
    intro off n h1 h2 h3 h4
    simp only [fieldsAt, Option.some.injEq] at h1; subst h1
    obtain rfl : xs = [] := by simpa using h3.symm
    exact ⟨by simp, Nat.le_refl _, fun i y hy => by simp at hy⟩
  | cons f fs ih =>
    intro off n h1 h2 h3 h4
    unfold fieldsAt at h1
    split at h1
    · rename_i hoff
      have hoff : f.offset = off := by simpa using hoff
      cases xs with
      | nil => simp at h3
      | cons x xs =>
        obtain ⟨e1, e2⟩ := h4 0 f x (by simp) (by simp)
        obtain ⟨i1, i2, i3⟩ := ih (xs := xs) _ n h1 h2 (by simpa using h3) fun i f' x' hf hx => h4 (i + 1) f' x' (by simpa using hf) (by simpa using hx)
        have hx : x.cells.length = P.cellsOf f.type := by omega
        refine ⟨by simp only [List.flatMap_cons, List.length_append, i1, hx]; omega, by omega, fun i y hy => ?_⟩
        rw [List.flatMap_cons, List.getElem?_append] at hy
        split at hy
        · rename_i hlt
          exact ⟨0, f, x, i, by simp, by simp, hy, by rw [hoff], by omega⟩
        · rename_i hge
          obtain ⟨j, f', x', k, g1, g2, g3, g4, g5⟩ := i3 _ y hy
          exact ⟨j + 1, f', x', k, by simpa using g1, by simpa using g2, g3, by omega, g5⟩
    · cases h1

/-- what is read of the cells -/
structure Reads (P : Program) (w : World) (t : Nat) (cs : List Value) (x : PV) (m : Nat) : Prop where
  len : cs.length = x.cells.length
  rep : ∀ (i : Nat) (c : Value) (y : PV), cs[i]? = some c → x.cells[i]? = some y → Rep (fun b _ => b < w.heap.size) w c y
  okc : x.okc (P.cellsOf t) (tag P t) = true
  has : HasT P t x m

theorem one_reads {P : Program} {w : World} {t : Nat} {c : Value} {x : PV} {m : Nat} (hx : x.cells = [x]) (hc : x.isCell = true) (ha : x.isAg = false) (hn : P.cellsOf t = 1) (ht : tag P t = false) (hr : Rep (fun b _ => b < w.heap.size) w c x) (hh : HasT P t x m) : Reads P w t [c] x m := by
  refine ⟨by rw [hx]; rfl, fun i c' y h1 h2 => ?_, by simp [PV.okc, hx, hn, ha, ht, hc], hh⟩
  rw [hx] at h2
  cases i with
  | zero => simp at h1 h2; subst h1; subst h2; exact hr
  | succ i => simp at h1

theorem trod_reads {P : Program} {tys : List Nat} (hp : plainAll P tys = true) {enc : TypeId × Value → H} {w : World} : ∀ (fuel : Nat) (t : Nat) (cs : List Value) (d : DataW H) (ps : List MemPlace), t ∈ tys →
    DataW.trod enc P w 0 (fun _ => true) true fuel t cs = some (d, ps) → Reads P w t cs (dpv d) (dbulk d) := by
  intro fuel
  induction fuel with
  | zero => intro t cs d ps _ h; simp [DataW.trod] at h
  | succ n ih =>
    intro t cs d ps hty h
    have hpt := List.all_eq_true.1 hp t hty
    unfold plainT at hpt
    split at hpt
    · rename_i k hu
      obtain ⟨z, rfl, hx, hw⟩ := DataW.trod_int hu h
      simp only [Prod.mk.injEq] at hx
      obtain ⟨rfl, rfl⟩ := hx
      exact one_reads rfl rfl rfl (by simpa using hpt) (by simp [tag, hu]) (.int _ _) (.int t k z _ hu hw (by simp [dbulk]))
    · rename_i hu
      obtain ⟨z, rfl, hx⟩ := DataW.trod_bool hu h
      simp only [Prod.mk.injEq] at hx
      obtain ⟨rfl, rfl⟩ := hx
      exact one_reads rfl rfl rfl (by simpa using hpt) (by simp [tag, hu]) (.bool _) (.bool t z _ hu (by simp [dbulk]))
    · rename_i hu
      obtain ⟨z, rfl, hx, hz⟩ := DataW.trod_string hu h
      simp only [Prod.mk.injEq] at hx
      obtain ⟨rfl, rfl⟩ := hx
      have e : dpv (H := H) (.lit (.string z.data.toList)) = .str z := by simp [dpv, litPV]
      rw [e]
      exact one_reads rfl rfl rfl (by simpa using hpt) (by simp [tag, hu]) (.str _) (.str t z _ hu hz (by simp [dbulk]))
    · rename_i e hu
      simp only [Bool.and_eq_true, beq_iff_eq] at hpt
      obtain ⟨⟨p1, p2⟩, p3⟩ := hpt
      have p3 : 0 < P.cellsOf e := by simpa using p3
      have he : e ∈ tys := mem_of_has p2
      have htag : tag P t = false := by simp [tag, hu]
      rcases DataW.trod_slice hu h with ⟨rfl, hx⟩ | ⟨a, len, cap, elems, rest, n', hn, rfl, hx, hb, hl, hm, hlen, hel, hsp, _⟩
      · simp only [Prod.mk.injEq] at hx
        obtain ⟨rfl, rfl⟩ := hx
        exact one_reads rfl rfl rfl p1 htag (.sl0 none) (.sl t e [] [] _ hu (Nat.zero_le _) rfl (fun i x k hx => by simp at hx) (by simp [dbulk]))
      · obtain rfl : n = n' := by omega
        simp only [Prod.mk.injEq] at hx
        obtain ⟨rfl, rfl⟩ := hx
        have hdp : dpv (.slice (elems.map (·.1)) (rest.map (·.1))) = .sl (elems.map fun p => dpv p.1) := by
          simp [dpv, dpvs_eq, List.map_map, Function.comp_def]
        obtain ⟨hsp1, hsp2⟩ := hsp rfl
        -- each element
        have elem : ∀ (i : Nat) (p : DataW H × List MemPlace), elems[i]? = some p → ∃ us : List Value, w.cells? 0 (a.add (i * P.cellsOf e)) (P.cellsOf e) = some us ∧ Reads P w e us (dpv p.1) (dbulk p.1) := by
          intro i p hp'
          have hi : i < len := by rw [← hlen]; exact (List.getElem?_eq_some_iff.1 hp').1
          have := hel i hi
          rw [hp'] at this
          simp only [Option.bind_eq_some_iff] at this
          obtain ⟨us, hus, hr⟩ := this
          exact ⟨us, hus, ih e us p.1 p.2 he hr⟩
        have cellsAt : ∀ {ad : Addr} {m : Nat} {us : List Value}, w.cells? 0 ad m = some us → us.length = m ∧ ∀ j u, us[j]? = some u → w.cell? (ad.add j) = some u := by
          intro ad m us hus
          unfold World.cells? at hus
          split at hus
          · obtain ⟨m1, m2⟩ := mapM_some hus
            refine ⟨by simpa using m1, fun j u hu => ?_⟩
            have hj : j < m := by have := (List.getElem?_eq_some_iff.1 hu).1; simp at m1; omega
            exact m2 j j u (by simp [hj]) hu
          · cases hus
        by_cases hc0 : cap = 0
        · have hl0 : len = 0 := by omega
          subst hl0; subst hc0
          have : elems = [] := List.eq_nil_of_length_eq_zero hlen
          subst this
          rw [hdp]
          exact one_reads rfl rfl rfl p1 htag (.sl0 (some a)) (.sl t e [] [] _ hu (Nat.zero_le _) rfl (fun i x k hx => by simp at hx) (by simp [dbulk]))
        · -- the address has no spot
          have hspot : a.spot = none := by
            have : ∃ us, w.cells? 0 (a.add (0 * P.cellsOf e)) (P.cellsOf e) = some us := by
              by_cases hl0 : len = 0
              · have h0 := hsp2 0 (by omega)
                subst hl0
                have hr0 : rest[0]? = some (rest[0]'(by omega)) := List.getElem?_eq_getElem (by omega)
                rw [hr0] at h0
                simp only [Option.bind_eq_some_iff] at h0
                obtain ⟨us, hus, _⟩ := h0
                exact ⟨us, by simpa using hus⟩
              · have h0 := hel 0 (by omega)
                have hr0 : elems[0]? = some (elems[0]'(by omega)) := List.getElem?_eq_getElem (by omega)
                rw [hr0] at h0
                simp only [Option.bind_eq_some_iff] at h0
                obtain ⟨us, hus, _⟩ := h0
                exact ⟨us, hus⟩
            obtain ⟨us, hus⟩ := this
            obtain ⟨q1, q2⟩ := cellsAt hus
            have := q2 0 (us[0]'(by omega)) (List.getElem?_eq_getElem (by omega))
            have := World.cell?_spot this
            simpa [Addr.add] using this
          obtain ⟨b, off, sp⟩ := a
          simp only at hspot
          subst hspot
          have hadd : ∀ i j : Nat, (Addr.add (Addr.add ⟨b, off, none⟩ (i * P.cellsOf e)) j) = ⟨b, off + i * P.cellsOf e + j, none⟩ := fun i j => by rw [addr_add, addr_add]
          have hlt : ∀ {ad : Addr} {u : Value}, w.cell? ad = some u → ad.block < w.heap.size := by
            intro ad u hu
            unfold World.cell? at hu
            split at hu
            · rename_i hh; exact (Array.getElem?_eq_some_iff.1 hh).1
            · cases hu
          rw [hdp]
          have hlen' : (elems.map fun p => dpv p.1).length = len := by simpa using hlen
          have hrep : Rep (fun b _ => b < w.heap.size) w (.slice (some ⟨b, off, none⟩) (elems.map fun p => dpv p.1).length cap) (.sl (elems.map fun p => dpv p.1)) := by
            refine .sl b off cap (P.cellsOf e) _ (fun i j => (w.cell? ⟨b, off + i * P.cellsOf e + j, none⟩).getD undef) (by omega) hm (fun x hx => ?_) (fun x hx => ?_) (fun i x j y hx hy => ?_) (fun i x j y hx hy => ?_)
            · obtain ⟨p, hp', rfl⟩ := List.mem_map.1 hx
              obtain ⟨i, hi, rfl⟩ := List.getElem_of_mem hp'
              obtain ⟨us, _, hr⟩ := elem i _ (List.getElem?_eq_getElem hi)
              exact (okc_cells hr.okc).1
            · obtain ⟨p, hp', rfl⟩ := List.mem_map.1 hx
              obtain ⟨i, hi, rfl⟩ := List.getElem_of_mem hp'
              obtain ⟨us, _, hr⟩ := elem i _ (List.getElem?_eq_getElem hi)
              exact okc_all hr.okc
            all_goals
              simp only [List.getElem?_map, Option.map_eq_some_iff] at hx
              obtain ⟨p, hp', rfl⟩ := hx
              obtain ⟨us, hus, hr⟩ := elem i p hp'
              obtain ⟨q1, q2⟩ := cellsAt hus
              have hj : j < us.length := by rw [hr.len]; exact (List.getElem?_eq_some_iff.1 hy).1
              have hcell := q2 j (us[j]'hj) (List.getElem?_eq_getElem hj)
              rw [hadd] at hcell
            · exact ⟨hlt hcell, by simp only [hcell, Option.getD_some]⟩
            · simp only [hcell, Option.getD_some]
              exact hr.rep j _ y (List.getElem?_eq_getElem hj) hy
          rw [hlen'] at hrep
          refine one_reads rfl rfl rfl p1 htag hrep (.sl t e _ (elems.map fun p => dbulk p.1) _ hu (by rw [hlen']; omega) (by simp) (fun i x k hx hk => ?_) ?_)
          · simp only [List.getElem?_map, Option.map_eq_some_iff] at hx hk
            obtain ⟨p, hp', rfl⟩ := hx
            obtain ⟨p2, hp2, rfl⟩ := hk
            rw [hp'] at hp2; cases hp2
            obtain ⟨us, _, hr⟩ := elem i p hp'
            exact hr.has
          · simp only [dbulk, dbulks_sum, List.map_map, Function.comp_def]
            omega
    · rename_i fs hu
      simp only [Bool.and_eq_true, beq_iff_eq] at hpt
      obtain ⟨p1, p2⟩ := hpt
      obtain ⟨xs, n', hn, hx, hcs, hxs, hf⟩ := DataW.trod_struct hu h
      obtain rfl : n = n' := by omega
      simp only [Prod.mk.injEq] at hx
      obtain ⟨rfl, rfl⟩ := hx
      have htag : tag P t = true := by simp [tag, hu]
      have hdp : dpv (.agg (xs.map (·.1))) = .agg ((xs.map fun p => dpv p.1).flatMap PV.cells) := by
        simp only [dpv, dpvc_eq, List.flatMap_map]
      have fld : ∀ (i : Nat) (f : Field) (p : DataW H × List MemPlace), fs[i]? = some f → xs[i]? = some p → Reads P w f.type ((cs.drop f.offset).take (P.cellsOf f.type)) (dpv p.1) (dbulk p.1) := by
        intro i f p hf1 hp1
        have := hf i f hf1
        rw [hp1] at this
        have hm : f ∈ fs.toList := List.mem_of_getElem? (by rw [Array.getElem?_toList]; exact hf1)
        exact ih f.type _ p.1 p.2 (mem_of_has (List.all_eq_true.1 p2 f hm)) this
      have hfc := fields_cells (P := P) (cs := cs) (xs := xs.map fun p => dpv p.1) fs.toList 0 _ p1 hcs (by simp [hxs]) (fun i f x hf1 hx1 => by
        simp only [List.getElem?_map, Option.map_eq_some_iff] at hx1
        obtain ⟨p, hp1, rfl⟩ := hx1
        have := fld i f p (by simpa using hf1) hp1
        exact ⟨this.len.symm, by rw [this.len]; exact (okc_cells this.okc).1⟩)
      obtain ⟨q1, _, q3⟩ := hfc
      rw [hdp]
      refine ⟨by simp only [PV.cells, q1, hcs]; rfl, fun i c y hc hy => ?_, ?_, ?_⟩
      · obtain ⟨j, f, x, k, g1, g2, g3, g4, g5⟩ := q3 i y hy
        simp only [List.getElem?_map, Option.map_eq_some_iff] at g2
        obtain ⟨p, hp1, rfl⟩ := g2
        have := fld j f p (by simpa using g1) hp1
        refine this.rep k c y ?_ g3
        rw [List.getElem?_take, if_pos g5, List.getElem?_drop, ← g4, Nat.zero_add]
        exact hc
      · simp only [PV.okc, PV.cells, PV.isAg, htag, q1, Nat.sub_zero, beq_self_eq_true, Bool.and_self, Bool.true_and, List.all_eq_true]
        intro y hy
        obtain ⟨i, hi, rfl⟩ := List.getElem_of_mem hy
        obtain ⟨j, f, x, k, g1, g2, g3, _⟩ := q3 i _ (List.getElem?_eq_getElem hi)
        simp only [List.getElem?_map, Option.map_eq_some_iff] at g2
        obtain ⟨p, hp1, rfl⟩ := g2
        have := fld j f p (by simpa using g1) hp1
        exact okc_all this.okc _ (List.mem_of_getElem? g3)
      · refine .agg t fs _ (xs.map fun p => dbulk p.1) _ hu (by simp [hxs]) (by simp) (fun i f x k hf1 hx1 hk => ?_) ?_
        · simp only [List.getElem?_map, Option.map_eq_some_iff] at hx1 hk
          obtain ⟨p, hp1, rfl⟩ := hx1
          obtain ⟨p2, hp2, rfl⟩ := hk
          rw [hp1] at hp2; cases hp2
          exact (fld i f p hf1 hp1).has
        · simp only [dbulk, dbulks_sum, List.map_map, Function.comp_def]
          omega
    · cases hpt

end
end Go.Lf

/- A law from the contract of its function. -/
namespace Go.Lf
variable [Gl]
open Go.RowKit Go.ChangeShapes

theorem trodAll_inv {H : Type} {enc : TypeId × Value → H} {P : Program} {w : World} {base : Nat} {sp : Nat → Bool} {held : Bool} : ∀ {ts : List Nat} {vs : List Value} {ds : List (DataW H)} {ps : List MemPlace}, DataW.TrodAll enc P w base sp held ts vs ds ps →
    vs.length = ts.length ∧ ds.length = ts.length ∧ ∀ (i : Nat) t v d, ts[i]? = some t → vs[i]? = some v → ds[i]? = some d → ∃ p, (∀ x ∈ p, x ∈ ps) ∧ DataW.Trod enc P w base sp held t v d p
  | [], vs, ds, ps, h => by
    cases vs <;> cases ds <;> simp [DataW.TrodAll] at h
    exact ⟨rfl, rfl, fun i t v d h => by simp at h⟩
  | t :: ts, vs, ds, ps, h => by
    obtain ⟨v, vs', d, ds', p, q, rfl, rfl, rfl, h1, h2⟩ := trodAll_cons h
    obtain ⟨i1, i2, i3⟩ := trodAll_inv h2
    refine ⟨by simp [i1], by simp [i2], fun i t' v' d' ht hv hd => ?_⟩
    cases i with
    | zero => simp at ht hv hd; subst ht; subst hv; subst hd; exact ⟨p, fun x hx => List.mem_append.2 (.inl hx), h1⟩
    | succ i =>
      obtain ⟨p', g1, g2⟩ := i3 i t' v' d' (by simpa using ht) (by simpa using hv) (by simpa using hd)
      exact ⟨p', fun x hx => List.mem_append.2 (.inr (g1 x hx)), g2⟩

theorem trodAll_below {H : Type} {enc : TypeId × Value → H} {P : Program} (hlo : laidOutB P = true) {W W' : World} (hb : Below W.heap.size W W') : ∀ {ts : List Nat} {vs : List Value} {ds : List (DataW H)} {ps : List MemPlace},
    DataW.TrodAll enc P W 0 (fun _ => true) true ts vs ds ps → (∀ t ∈ ts, P.readableRec t = true ∧ t < P.types.size) → ∃ pa, DataW.TrodAll enc P W' 0 (fun b => decide (b < W.heap.size)) true ts vs ds pa
  | [], vs, ds, ps, h, _ => by
    cases vs <;> cases ds <;> simp [DataW.TrodAll] at h
    exact ⟨[], rfl⟩
  | t :: ts, vs, ds, ps, h, ht => by
    obtain ⟨v, vs', d, ds', p, q, rfl, rfl, rfl, h1, h2⟩ := trodAll_cons h
    obtain ⟨pa, ih⟩ := trodAll_below hlo hb h2 fun t ht' => ht t (List.mem_cons_of_mem _ ht')
    obtain ⟨g1, g2⟩ := ht t List.mem_cons_self
    have hlt : ∀ x ∈ p, x.block < W.heap.size := by obtain ⟨m, hm⟩ := h1; exact DataW.trod_lt m _ _ _ hm
    exact ⟨_, trodAll_cons_mk (Below.trod hlo g1 g2 h1 hb hlt) ih⟩

/-- a whole argument -/
theorem arg_rep {H : Type} {enc : TypeId × Value → H} {P : Program} {tys : List Nat} (hp : plainAll P tys = true) {W : World} {base t : Nat} {v : Value} {d : DataW H} {p : List MemPlace} (ht : t ∈ tys)
    (hv : Value.okWide P W .any base t v) (h : DataW.Trod enc P W 0 (fun _ => true) true t v d p) : Rep (fun b _ => b < W.heap.size) W v (dpv d) ∧ HasT P t (dpv d) (dbulk d) := by
  obtain ⟨fuel, hf⟩ := h
  have hr := trod_reads hp fuel t _ d p ht hf
  refine ⟨?_, hr.has⟩
  cases hg : tag P t with
  | true =>
    have hag : (dpv d).isAg = true := by rw [(okc_cells hr.okc).2, hg]
    have hs : ∃ cs, v = .agg cs := by
      unfold Value.okWide at hv
      split at hv
      · obtain ⟨cs, hcs, _⟩ := hv; exact ⟨cs, hcs⟩
      · obtain ⟨cs, hcs, _⟩ := hv; exact ⟨cs, hcs⟩
      · rename_i h1 h2
        unfold tag at hg
        split at hg
        · rename_i fs hu; exact absurd hu (h1 _)
        · rename_i n e hu; exact absurd hu (h2 _ _)
        · cases hg
    obtain ⟨cs, rfl⟩ := hs
    have hx := cells_of_agg hag
    rw [hx]
    refine .agg cs _ (by simpa [Value.cells] using hr.len) (okc_all hr.okc) fun i c x hc hx => hr.rep i c x (by simpa [Value.cells] using hc) hx
  | false =>
    have hag : (dpv d).isAg = false := by rw [(okc_cells hr.okc).2, hg]
    have hx := cells_of_one hag
    have hvc : v.cells = #[v] := by
      cases v with
      | agg cs =>
        exfalso
        unfold Value.okWide at hv
        unfold tag at hg
        split at hv
        · rename_i hu; simp [hu] at hg
        · rename_i hu; simp [hu] at hg
        · unfold Cell.okWide at hv
          split at hv <;> first | (rename_i h1 h2; cases h2; done) | skip
          unfold Cell.ok at hv
          split at hv <;> first | (rename_i h1 h2; cases h2; done) | exact hv
      | _ => rfl
    refine hr.rep 0 v _ ?_ (by rw [hx]; rfl)
    rw [hvc]; rfl

/-- what is asked of a law's function: at every argument that can come in it answers true -/
def LawOk (P : Program) (fn : Func) (f : Nat) (m : Nat) : Prop := ∀ xs : List PV, xs.length = fn.params.size → (∃ ms : List Nat, ms.length = xs.length ∧ ms.sum ≤ m ∧ ∀ (i : Nat) t x k, fn.params[i]? = some t → xs[i]? = some x → ms[i]? = some k → HasT P t x k) → Ok P f xs (.bool true)

/-- the contract of a law's row -/
theorem law_contract {P : Program} {f : Nat} {fn : Func} {tys : List Nat} {tb m : Nat} {s : ChangeSpec} (hp : plainAll P tys = true) (hpar : ∀ t ∈ fn.params.toList, t ∈ tys) (hread : ∀ t ∈ fn.params.toList, P.readableRec t = true ∧ t < P.types.size)
    (hlo : laidOutB P = true) (hres : fn.resultTypes = #[tb]) (htb : P.underlying tb = some .bool) (hvars : s.vars = []) (hs : ∀ (H : Type) (ds : List (DataW H)), ds.length = fn.params.size → s.fn H ds = { results := [.lit (.bool true)], args := ds, vars := [] })
    (hok : LawOk P fn f m) {H : Type} {enc : TypeId × Value → H} (W : World) (base : Nat) (args : Array Value) (ds gs : List (DataW H)) (before : List MemPlace)
    (hval : ∀ (j : Nat) t v, fn.params[j]? = some t → args[j]? = some v → Value.okWide P W .any base t v) (hgl : GlOk (fun b _ => b < W.heap.size) W) (hm : dbulks ds ≤ m)
    (hW : DataW.Whole enc P fn.params.toList s.vars false W args.toList ds gs before) : Calls P f args W fun e W' => ∃ v, e = .returned v ∧ s.post enc P fn false true false false W args v W' := by
  have hW' := hW
  obtain ⟨p, q, hA, hV, rfl, _, _⟩ := hW
  rw [hvars] at hV
  obtain ⟨rfl, rfl⟩ := trodVars_none hV
  obtain ⟨l1, l2, l3⟩ := trodAll_inv hA
  have hreps : Reps (fun b _ => b < W.heap.size) W args (ds.map dpv) := by
    refine ⟨by simp at l1; simp [l1, l2], fun i v x hv hx => ?_⟩
    simp only [List.getElem?_map, Option.map_eq_some_iff] at hx
    obtain ⟨d, hd, rfl⟩ := hx
    have hi : i < fn.params.toList.length := by rw [← l2]; exact (List.getElem?_eq_some_iff.1 hd).1
    have ht : fn.params.toList[i]? = some (fn.params.toList[i]'hi) := List.getElem?_eq_getElem hi
    obtain ⟨pp, _, htr⟩ := l3 i _ v d ht (by rw [Array.getElem?_toList]; exact hv) hd
    exact (arg_rep hp (hpar _ (List.getElem_mem _)) (hval i _ v (by simpa using ht) hv) htr).1
  have hl : LawOk P fn f m := hok
  have hcall := (hl (ds.map dpv) (by simp [l2]) ⟨ds.map dbulk, by simp, by rw [← dbulks_sum]; exact hm, fun i t x k ht hx hk => by
    simp only [List.getElem?_map, Option.map_eq_some_iff] at hx hk
    obtain ⟨d, hd, rfl⟩ := hx
    obtain ⟨d2, hd2, rfl⟩ := hk
    rw [hd] at hd2; cases hd2
    have hi : i < args.toList.length := by rw [l1, ← l2]; exact (List.getElem?_eq_some_iff.1 hd).1
    have hv : args.toList[i]? = some (args.toList[i]'hi) := List.getElem?_eq_getElem hi
    have ht' : fn.params.toList[i]? = some t := by rw [Array.getElem?_toList]; exact ht
    obtain ⟨pp, _, htr⟩ := l3 i t _ d ht' hv hd
    exact (arg_rep hp (hpar _ (List.mem_of_getElem? ht')) (hval i t _ ht (by rw [← Array.getElem?_toList]; exact hv)) htr).2⟩).2 (fun b _ => b < W.heap.size) W args (fun _ _ h => h) hgl hreps
  refine hcall.mono fun e W' hh => ?_
  obtain ⟨v, F', rfl, hb, _, _, _, hrep⟩ := hh
  have hv : v = .bool true := by cases hrep; rfl
  subst hv
  obtain ⟨pa, hpa⟩ := trodAll_below hlo hb hA hread
  have hsf := hs H ds (by simpa using l2)
  have hsf' : s.fn H (ds ++ []) = { results := [.lit (.bool true)], args := ds, vars := [] } := by rw [List.append_nil]; exact hsf
  refine ⟨_, rfl, ds, [], _, [], pa, [], hW', ?_, ?_, ?_, hb.frame _, fun h => by cases h⟩
  · rw [hsf', hres]
    exact trodAll_mk1 (shut_bool htb _)
  · rw [hsf']; exact hpa
  · rw [hsf', hvars]; rfl

end Go.Lf

/- Running texts: an evaluator, and that what it answers is so. -/
namespace Go.Lf
variable [Gl]
open Go.RowKit

/-- what a text means, with nothing known besides -/
def T.den0 (P : Program) (K : PV → Prop) : T PV → List (List PV → Prop) → Prop
  | .ret x, _ => K x
  | .fail, _ => False
  | .l p xs k, hs => ∃ y, p.ev xs = some y ∧ (k y).den0 P K hs
  | .ite c a b, hs => (c = .bool true ∧ a.den0 P K hs) ∨ (c = .bool false ∧ b.den0 P K hs)
  | .nilq x a b, hs => ∃ l, x = .sl l ∧ (l = [] → a.den0 P K hs) ∧ b.den0 P K hs
  | .call f xs k, hs => ∃ r, Ok P f xs r ∧ (k r).den0 P K hs
  | .callv x xs k, hs => ∃ r, OkV P x xs r ∧ (k r).den0 P K hs
  | .calls f s xs k, hs => ∃ ys, ys.length = s.nout ∧ OkS P f s xs ys ∧ (k ys).den0 P K hs
  | .callvs x s xs k, hs => ∃ ys, ys.length = s.nout ∧ OkVS P x s xs ys ∧ (k ys).den0 P K hs
  | .loop xs body, hs => ∃ n : Nat, (Nat.rec (motive := fun _ => List PV → Prop) (fun _ => False) (fun _ h ys => (body ys).den0 P K (hs ++ [h])) n) xs
  | .cont lvl xs, hs => match hs[lvl]? with
    | some h => h xs
    | none => False

/-! ### what a text means grows with what the loops around mean -/

def HLe (hs hs' : List (List PV → Prop)) : Prop := ∀ (i : Nat) h, hs[i]? = some h → ∃ h', hs'[i]? = some h' ∧ ∀ ys, h ys → h' ys

theorem HLe.refl (hs : List (List PV → Prop)) : HLe hs hs := fun _ h hh => ⟨h, hh, fun _ h => h⟩
theorem HLe.snoc {hs hs' : List (List PV → Prop)} {h h' : List PV → Prop} (hl : hs.length = hs'.length) (hle : HLe hs hs') (hh : ∀ ys, h ys → h' ys) : HLe (hs ++ [h]) (hs' ++ [h']) := by
  intro i g hg
  rw [List.getElem?_append] at hg
  split at hg
  · rename_i hi
    obtain ⟨g', h1, h2⟩ := hle i g hg
    exact ⟨g', by rw [List.getElem?_append_left (by omega)]; exact h1, h2⟩
  · rename_i hi
    have : i - hs.length = 0 := by
      rcases Nat.eq_zero_or_pos (i - hs.length) with h0 | h0
      · exact h0
      · rw [List.getElem?_eq_none (by simp; omega)] at hg; cases hg
    rw [this] at hg
    simp at hg; subst hg
    exact ⟨h', by rw [List.getElem?_append_right (by omega), ← hl, this]; rfl, hh⟩

def loopN (P : Program) (K : PV → Prop) (body : List PV → T PV) (hs : List (List PV → Prop)) (n : Nat) : List PV → Prop :=
  Nat.rec (motive := fun _ => List PV → Prop) (fun _ => False) (fun _ h ys => (body ys).den0 P K (hs ++ [h])) n

theorem den_mono {P : Program} {K : PV → Prop} : ∀ (t : T PV) (hs hs' : List (List PV → Prop)), hs.length = hs'.length → HLe hs hs' → t.den0 P K hs → t.den0 P K hs' := by
  intro t
  induction t with
  | ret x => exact fun _ _ _ _ h => h
  | fail => exact fun _ _ _ _ h => h
  | l p xs k ih => exact fun hs hs' hl hle ⟨y, h1, h2⟩ => ⟨y, h1, ih y hs hs' hl hle h2⟩
  | ite c a b iha ihb => exact fun hs hs' hl hle h => h.imp (fun h => ⟨h.1, iha hs hs' hl hle h.2⟩) fun h => ⟨h.1, ihb hs hs' hl hle h.2⟩
  | nilq x a b iha ihb => exact fun hs hs' hl hle ⟨l, h1, h2, h3⟩ => ⟨l, h1, fun e => iha hs hs' hl hle (h2 e), ihb hs hs' hl hle h3⟩
  | call f xs k ih => exact fun hs hs' hl hle ⟨r, h1, h2⟩ => ⟨r, h1, ih r hs hs' hl hle h2⟩
  | callv x xs k ih => exact fun hs hs' hl hle ⟨r, h1, h2⟩ => ⟨r, h1, ih r hs hs' hl hle h2⟩
  | calls f s xs k ih => exact fun hs hs' hl hle ⟨r, h0, h1, h2⟩ => ⟨r, h0, h1, ih r hs hs' hl hle h2⟩
  | callvs x s xs k ih => exact fun hs hs' hl hle ⟨r, h0, h1, h2⟩ => ⟨r, h0, h1, ih r hs hs' hl hle h2⟩
  | loop xs body ih =>
    intro hs hs' hl hle ⟨n, h⟩
    have key : ∀ n ys, loopN P K body hs n ys → loopN P K body hs' n ys := by
      intro n
      induction n with
      | zero => exact fun _ h => h
      | succ n ihn => exact fun ys h => ih ys _ _ (by simp [hl]) (hle.snoc hl ihn) h
    exact ⟨n, key n xs h⟩
  | cont lvl xs =>
    intro hs hs' hl hle h
    unfold T.den0 at h ⊢
    split at h
    · rename_i g hg
      obtain ⟨g', h1, h2⟩ := hle lvl g hg
      rw [h1]; exact h2 xs h
    · exact h.elim

theorem loopN_succ {P : Program} {K : PV → Prop} {body : List PV → T PV} {hs : List (List PV → Prop)} : ∀ (n : Nat) (ys : List PV), loopN P K body hs n ys → loopN P K body hs (n + 1) ys
  | 0, _, h => h.elim
  | n + 1, ys, h => den_mono (body ys) _ _ (by simp) ((HLe.refl hs).snoc rfl (loopN_succ n)) h

/-- A LOOP by a count: 'I m' holds at the head with m rounds to go at most. -/
theorem den_loop {P : Program} {K : PV → Prop} {xs : List PV} {body : List PV → T PV} {hs : List (List PV → Prop)} (I : Nat → List PV → Prop) (n : Nat) (h0 : I n xs)
    (hI : ∀ m ys, I m ys → (body ys).den0 P K (hs ++ [fun zs => ∃ m', m' < m ∧ I m' zs])) : (T.loop xs body).den0 P K hs := by
  have key : ∀ n m ys, m < n → I m ys → loopN P K body hs n ys := by
    intro n
    induction n with
    | zero => intro m ys h; omega
    | succ n ih =>
      intro m ys hm hi
      refine den_mono (body ys) _ _ (by simp) ((HLe.refl hs).snoc rfl ?_) (hI m ys hi)
      rintro zs ⟨m', h1, h2⟩
      exact ih m' zs (by omega) h2
  exact ⟨n + 1, key (n + 1) n xs (by omega) h0⟩

/-- a loop whose head is told by the number of the round: 'n' full rounds, then out -/
theorem den_rounds {P : Program} {K : PV → Prop} {xs : List PV} {body : List PV → T PV} {hs : List (List PV → Prop)} (st : Nat → List PV) (n : Nat) (h0 : xs = st 0)
    (hr : ∀ i, i < n → (body (st i)).den0 P K (hs ++ [fun zs => zs = st (i + 1)])) (he : (body (st n)).den0 P K (hs ++ [fun _ => False])) : (T.loop xs body).den0 P K hs := by
  refine den_loop (fun m ys => m ≤ n ∧ ys = st (n - m)) n ⟨Nat.le_refl _, by simpa using h0⟩ ?_
  rintro m ys ⟨hm, rfl⟩
  cases m with
  | zero => exact den_mono _ _ _ (by simp) ((HLe.refl hs).snoc rfl fun _ (h : False) => h.elim) (by simpa using he)
  | succ m =>
    refine den_mono _ _ _ (by simp) ((HLe.refl hs).snoc rfl ?_) (hr (n - (m + 1)) (by omega))
    rintro zs rfl
    exact ⟨m, by omega, by omega, by congr 1; omega⟩

theorem HLe_of {hs hs' : List (List PV → Prop)} (h : HLe hs hs') (hl : hs.length = hs'.length) {g g' : List PV → Prop} (hg : ∀ ys, g ys → g' ys) : HLe (hs ++ [g]) (hs' ++ [g']) := h.snoc hl hg

theorem den_of0 {P : Program} {K : PV → Prop} : ∀ (t : T PV) (hs hs' : List (List PV → Prop)), hs.length = hs'.length → HLe hs hs' → t.den0 P K hs → t.den P K hs' := by
  intro t
  induction t with
  | ret x => exact fun _ _ _ _ h => h
  | fail => exact fun _ _ _ _ h => h
  | l p xs k ih => exact fun hs hs' hl hle ⟨y, h1, h2⟩ => ⟨y, h1, fun _ => ih y hs hs' hl hle h2⟩
  | ite c a b iha ihb => exact fun hs hs' hl hle h => h.imp (fun h => ⟨h.1, iha hs hs' hl hle h.2⟩) fun h => ⟨h.1, ihb hs hs' hl hle h.2⟩
  | nilq x a b iha ihb => exact fun hs hs' hl hle ⟨l, h1, h2, h3⟩ => ⟨l, h1, fun e => iha hs hs' hl hle (h2 e), ihb hs hs' hl hle h3⟩
  | call f xs k ih => exact fun hs hs' hl hle ⟨r, h1, h2⟩ => ⟨r, h1, ih r hs hs' hl hle h2⟩
  | callv x xs k ih => exact fun hs hs' hl hle ⟨r, h1, h2⟩ => ⟨r, h1, ih r hs hs' hl hle h2⟩
  | calls f s xs k ih => exact fun hs hs' hl hle ⟨r, h0, h1, h2⟩ => ⟨r, h0, h1, ih r hs hs' hl hle h2⟩
  | callvs x s xs k ih => exact fun hs hs' hl hle ⟨r, h0, h1, h2⟩ => ⟨r, h0, h1, ih r hs hs' hl hle h2⟩
  | loop xs body ih =>
    intro hs hs' hl hle ⟨n, h⟩
    have key : ∀ n ys, loopN P K body hs n ys → (Nat.rec (motive := fun _ => List PV → Prop) (fun _ => False) (fun _ h ys => (body ys).den P K (hs' ++ [h])) n : List PV → Prop) ys := by
      intro n
      induction n with
      | zero => exact fun _ h => h
      | succ n ihn => exact fun ys h => ih ys _ _ (by simp [hl]) (hle.snoc hl ihn) h
    exact ⟨n, key n xs h⟩
  | cont lvl xs =>
    intro hs hs' hl hle h
    unfold T.den0 at h
    unfold T.den
    split at h
    · rename_i g hg
      obtain ⟨g', h1, h2⟩ := hle lvl g hg
      rw [h1]; exact h2 xs h
    · exact h.elim

/-! ### the evaluator -/

mutual
def peq : PV → PV → Bool
  | .int k n, .int k' n' => decide (k = k') && decide (n = n')
  | .bool b, .bool b' => b == b'
  | .str s, .str s' => decide (s = s')
  | .nilI, .nilI => true
  | .nilF, .nilF => true
  | .nilP, .nilP => true
  | .agg l, .agg l' => peqs l l'
  | .tup l, .tup l' => peqs l l'
  | .sl l, .sl l' => peqs l l'
  | .fn f a c, .fn f' a' c' => Nat.beq f f' && (peqs a a' && peqs c c')
  | .box x, .box x' => peq x x'
  | .ifc t x, .ifc t' x' => Nat.beq t t' && peq x x'
  | .mp a c, .mp a' c' => peqs a a' && peqs c c'
  | _, _ => false
def peqs : List PV → List PV → Bool
  | [], [] => true
  | x :: l, x' :: l' => peq x x' && peqs l l'
  | _, _ => false
end

mutual
theorem peq_eq : ∀ {x y : PV}, peq x y = true → x = y
  | .int k n, y, h => by cases y <;> simp [peq] at h; obtain ⟨rfl, rfl⟩ := h; rfl
  | .bool b, y, h => by cases y <;> simp [peq] at h; subst h; rfl
  | .str s, y, h => by cases y <;> simp [peq] at h; subst h; rfl
  | .nilI, y, h => by cases y <;> simp [peq] at h; rfl
  | .nilF, y, h => by cases y <;> simp [peq] at h; rfl
  | .nilP, y, h => by cases y <;> simp [peq] at h; rfl
  | .agg l, y, h => by
    cases y <;> simp only [peq, Bool.false_eq_true] at h
    rw [peqs_eq h]
  | .tup l, y, h => by
    cases y <;> simp only [peq, Bool.false_eq_true] at h
    rw [peqs_eq h]
  | .sl l, y, h => by
    cases y <;> simp only [peq, Bool.false_eq_true] at h
    rw [peqs_eq h]
  | .fn f a c, y, h => by
    cases y <;> simp only [peq, Bool.false_eq_true, Bool.and_eq_true] at h
    rw [Nat.eq_of_beq_eq_true h.1, peqs_eq h.2.1, peqs_eq h.2.2]
  | .box x, y, h => by
    cases y <;> simp only [peq, Bool.false_eq_true] at h
    rw [peq_eq h]
  | .ifc t x, y, h => by
    cases y <;> simp only [peq, Bool.false_eq_true, Bool.and_eq_true] at h
    rw [Nat.eq_of_beq_eq_true h.1, peq_eq h.2]
  | .mp a c, y, h => by
    cases y <;> simp only [peq, Bool.false_eq_true, Bool.and_eq_true] at h
    rw [peqs_eq h.1, peqs_eq h.2]
theorem peqs_eq : ∀ {x y : List PV}, peqs x y = true → x = y
  | [], y, h => by cases y <;> simp [peqs] at h; rfl
  | a :: x, y, h => by
    cases y with
    | nil => simp [peqs] at h
    | cons b y =>
      simp only [peqs, Bool.and_eq_true] at h
      rw [peq_eq h.1, peqs_eq h.2]
end

def runStep (call : Nat → List PV → Option PV) (callS : Nat → Sig → List PV → Option (List PV)) (ih : T PV → List (List PV → T PV) → Option PV) (t : T PV) (st : List (List PV → T PV)) : Option PV :=
  match t with
  | .ret x => some x
  | .fail => none
  | .l p xs k => match p.ev xs with
    | some y => ih (k y) st
    | none => none
  | .ite (.bool c) a b => match c with
    | true => ih a st
    | false => ih b st
  | .nilq (.sl l) a b => match l with
    | [] => match ih a st, ih b st with
      | some r, some r' => if peq r r' then some r else none
      | _, _ => none
    | _ :: _ => ih b st
  | .call f xs k => match call f xs with
    | some y => ih (k y) st
    | none => none
  | .callv (.fn f fs cs) xs k => match call f (fs ++ xs ++ cs) with
    | some y => ih (k y) st
    | none => none
  | .calls f s xs k => match callS f s xs with
    | some ys => ih (k ys) st
    | none => none
  | .callvs (.fn f [] []) s xs k => match callS f s xs with
    | some ys => ih (k ys) st
    | none => none
  | .loop xs body => ih (body xs) (st ++ [body])
  | .cont lvl xs => match st[lvl]? with
    | some b => ih (b xs) (st.take (lvl + 1))
    | none => none
  | _ => none

def run (call : Nat → List PV → Option PV) (callS : Nat → Sig → List PV → Option (List PV)) (n : Nat) : T PV → List (List PV → T PV) → Option PV :=
  Nat.rec (motive := fun _ => T PV → List (List PV → T PV) → Option PV) (fun _ _ => none) (fun _ ih => runStep call callS ih) n

def GoodEv (P : Program) (call : Nat → List PV → Option PV) (callS : Nat → Sig → List PV → Option (List PV)) : Prop :=
  (∀ f xs r, call f xs = some r → Ok P f xs r) ∧ ∀ f s xs ys, callS f s xs = some ys → ys.length = s.nout ∧ OkS P f s xs ys

section
variable {P : Program} {call : Nat → List PV → Option PV} {callS : Nat → Sig → List PV → Option (List PV)}

def StOk (call : Nat → List PV → Option PV) (callS : Nat → Sig → List PV → Option (List PV)) (n : Nat) (st : List (List PV → T PV)) (hs : List (List PV → Prop)) (r : PV) : Prop :=
  st.length = hs.length ∧ ∀ lvl b h, st[lvl]? = some b → hs[lvl]? = some h → ∀ m, m < n → ∀ ys, run call callS m (b ys) (st.take (lvl + 1)) = some r → h ys

theorem StOk.mono {n m : Nat} {st : List (List PV → T PV)} {hs : List (List PV → Prop)} {r : PV} (h : StOk call callS n st hs r) (hm : m ≤ n) : StOk call callS m st hs r :=
  ⟨h.1, fun lvl b g h1 h2 k hk ys hr => h.2 lvl b g h1 h2 k (by omega) ys hr⟩

theorem run_sound (hG : GoodEv P call callS) {r : PV} : ∀ (n : Nat) (t : T PV) (st : List (List PV → T PV)) (hs : List (List PV → Prop)), StOk call callS n st hs r → run call callS n t st = some r → t.den0 P (· = r) hs := by
  intro n
  induction n using Nat.strongRecOn with
  | _ n ih =>
    intro t st hs hst h
    cases n with
    | zero => cases h
    | succ n =>
      change runStep call callS (run call callS n) t st = some r at h
      have hst' := hst.mono (Nat.le_succ n)
      have ihn := fun t st hs => ih n (Nat.lt_succ_self n) t st hs
      unfold runStep at h
      split at h
      · exact Option.some.inj h
      · cases h
      · split at h
        · rename_i y hy; exact ⟨y, hy, ihn _ _ _ hst' h⟩
        · cases h
      · rename_i c a b
        cases c with
        | true => exact .inl ⟨rfl, ihn _ _ _ hst' h⟩
        | false => exact .inr ⟨rfl, ihn _ _ _ hst' h⟩
      · rename_i l a b
        cases l with
        | nil =>
          simp only at h
          split at h
          · rename_i r1 r2 h1 h2
            split at h
            · rename_i he
              have := peq_eq he
              subst this
              simp at h; subst h
              exact ⟨[], rfl, fun _ => ihn _ _ _ hst' h1, ihn _ _ _ hst' h2⟩
            · cases h
          · cases h
        | cons x l => exact ⟨_, rfl, (fun e => by cases e), ihn _ _ _ hst' h⟩
      · split at h
        · rename_i y hy; exact ⟨y, hG.1 _ _ _ hy, ihn _ _ _ hst' h⟩
        · cases h
      · split at h
        · rename_i y hy; exact ⟨y, ⟨_, _, _, rfl, hG.1 _ _ _ hy⟩, ihn _ _ _ hst' h⟩
        · cases h
      · split at h
        · rename_i y hy
          obtain ⟨g1, g2⟩ := hG.2 _ _ _ _ hy
          exact ⟨y, g1, g2, ihn _ _ _ hst' h⟩
        · cases h
      · split at h
        · rename_i y hy
          obtain ⟨g1, g2⟩ := hG.2 _ _ _ _ hy
          exact ⟨y, g1, ⟨_, rfl, g2⟩, ihn _ _ _ hst' h⟩
        · cases h
      · rename_i xs body
        have key : ∀ k m ys, m < k → m ≤ n → run call callS m (body ys) (st ++ [body]) = some r → loopN P (· = r) body hs k ys := by
          intro k
          induction k with
          | zero => intro m ys hm; omega
          | succ k ihk =>
            intro m ys hm hmn hr
            refine ih m (by omega) (body ys) (st ++ [body]) (hs ++ [loopN P (· = r) body hs k]) ⟨by simp [hst.1], fun lvl b g h1 h2 m' hm' ys' hr' => ?_⟩ hr
            rcases Nat.lt_or_ge lvl st.length with hlt | hge
            · rw [List.getElem?_append_left hlt] at h1
              rw [List.getElem?_append_left (by rw [← hst.1]; exact hlt)] at h2
              rw [List.take_append_of_le_length (by omega)] at hr'
              exact hst.2 lvl b g h1 h2 m' (by omega) ys' hr'
            · have hl : lvl = st.length := by
                have := (List.getElem?_eq_some_iff.1 h1).1
                simp at this; omega
              subst hl
              simp at h1; subst h1
              rw [hst.1] at h2
              simp at h2; subst h2
              rw [List.take_of_length_le (by simp)] at hr'
              exact ihk m' ys' (by omega) (by omega) hr'
        exact ⟨n + 1, key (n + 1) n xs (by omega) (Nat.le_refl _) h⟩
      · rename_i lvl xs
        split at h
        · rename_i b hb
          unfold T.den0
          have hlt : lvl < hs.length := by rw [← hst.1]; exact (List.getElem?_eq_some_iff.1 hb).1
          have hh : hs[lvl]? = some (hs[lvl]'hlt) := List.getElem?_eq_getElem hlt
          rw [hh]
          exact hst.2 lvl b _ hb hh n (Nat.lt_succ_self n) xs h
        · cases h
      · cases h

/-! ### texts of functions -/

/-- the text of a function: what it comes to is what the function returns -/
def TxOk (P : Program) (f n : Nat) (t : List PV → T PV) : Prop := ∀ xs r, xs.length = n → (t xs).den0 P (· = r) [] → Ok P f xs r
def TxOkS (P : Program) (f : Nat) (s : Sig) (t : List PV → T PV) : Prop := ∀ xs ys, (t xs).den0 P (· = .tup ys) [] → OkS P f s xs ys

theorem txOk_of {H : Hint} {plans : List (Nat × Plan)} {f n : Nat} {fn : Func} {t : List PV → T PV} (hm : P.follows .mixedOrders = true) (hf : P.funcs[f]? = some fn) (hn : (fn.name == "runtime.NumGoroutine") = false)
    (hl : fn.params.size + fn.nfree = n) (he : ∀ xs, comF pvAlg P H plans fn xs = t xs) : TxOk P f n t := fun xs r hx h => of_den hm hf hn (hx.trans hl.symm) (by rw [he]; exact den_of0 _ [] [] rfl (HLe.refl _) h)
theorem txOkS_of {H : Hint} {plans : List (Nat × Plan)} {f : Nat} {fn : Func} {s : Sig} {t : List PV → T PV} (hm : P.follows .mixedOrders = true) (hf : P.funcs[f]? = some fn) (hn : (fn.name == "runtime.NumGoroutine") = false)
    (he : ∀ xs, comFS pvAlg P H plans s fn xs = t xs) : TxOkS P f s t := fun xs ys h => of_denS hm hf hn (by rw [he]; exact den_of0 _ [] [] rfl (HLe.refl _) h)

/-- tables of texts -/
structure Tx where
  n : Nat
  t : List PV → T PV
structure TxS where
  s : Sig
  t : List PV → T PV

def AllOk (P : Program) : List (Nat × Tx) → Prop
  | [] => True
  | p :: r => TxOk P p.1 p.2.n p.2.t ∧ AllOk P r
def AllOkS (P : Program) : List (Nat × TxS) → Prop
  | [] => True
  | p :: r => TxOkS P p.1 p.2.s p.2.t ∧ AllOkS P r

theorem allOk_at : ∀ {l : List (Nat × Tx)} {f : Nat} {t : Tx}, AllOk P l → lookE l f = some t → TxOk P f t.n t.t
  | [], _, _, _, h => by cases h
  | p :: r, f, t, ha, h => by
    obtain ⟨k, v⟩ := p
    rw [lookE_cons] at h
    split at h
    · rename_i e; subst e; cases h; exact ha.1
    · exact allOk_at ha.2 h
theorem allOkS_at : ∀ {l : List (Nat × TxS)} {f : Nat} {t : TxS}, AllOkS P l → lookE l f = some t → TxOkS P f t.s t.t
  | [], _, _, _, h => by cases h
  | p :: r, f, t, ha, h => by
    obtain ⟨k, v⟩ := p
    rw [lookE_cons] at h
    split at h
    · rename_i e; subst e; cases h; exact ha.1
    · exact allOkS_at ha.2 h

/-- calls, by the tables -/
def evAll (tb : List (Nat × Tx)) (tbS : List (Nat × TxS)) (L n : Nat) : (Nat → List PV → Option PV) × (Nat → Sig → List PV → Option (List PV)) :=
  Nat.rec (motive := fun _ => (Nat → List PV → Option PV) × (Nat → Sig → List PV → Option (List PV))) (fun _ _ => none, fun _ _ _ => none)
    (fun _ ih => (fun f xs => match lookE tb f with
        | some t => if Nat.beq xs.length t.n then run ih.1 ih.2 L (t.t xs) [] else none
        | none => none,
      fun f s xs => match lookE tbS f with
        | some t => if s = t.s then (match run ih.1 ih.2 L (t.t xs) [] with
          | some (.tup ys) => if Nat.beq ys.length s.nout then some ys else none
          | _ => none) else none
        | none => none)) n

theorem evAll_good {tb : List (Nat × Tx)} {tbS : List (Nat × TxS)} {L : Nat} (h1 : AllOk P tb) (h2 : AllOkS P tbS) : ∀ n, GoodEv P (evAll tb tbS L n).1 (evAll tb tbS L n).2
  | 0 => ⟨(fun f xs r h => by cases h), (fun f s xs ys h => by cases h)⟩
  | n + 1 => by
    have ih := evAll_good h1 h2 (L := L) n
    refine ⟨fun f xs r h => ?_, fun f s xs ys h => ?_⟩
    · have h : (match lookE tb f with
        | some t => if Nat.beq xs.length t.n then run (evAll tb tbS L n).1 (evAll tb tbS L n).2 L (t.t xs) [] else none
        | none => none) = some r := h
      split at h
      · rename_i t ht
        split at h
        · rename_i hl
          exact allOk_at h1 ht xs r (Nat.eq_of_beq_eq_true hl) (run_sound ih L _ [] [] ⟨rfl, fun lvl b g h1 => by simp at h1⟩ h)
        · cases h
      · cases h
    · have h : (match lookE tbS f with
        | some t => if s = t.s then (match run (evAll tb tbS L n).1 (evAll tb tbS L n).2 L (t.t xs) [] with
          | some (.tup ys) => if Nat.beq ys.length s.nout then some ys else none
          | _ => none) else none
        | none => none) = some ys := h
      split at h
      · rename_i t ht
        split at h
        · rename_i hsm
          have := hsm
          split at h
          · rename_i zs hz
            split at h
            · rename_i hl
              simp at h; subst h
              refine ⟨Nat.eq_of_beq_eq_true hl, ?_⟩
              rw [this]
              exact allOkS_at h2 ht xs _ (run_sound ih L _ [] [] ⟨rfl, fun lvl b g h1 => by simp at h1⟩ hz)
            · cases h
          · cases h
        · cases h
      · cases h

end
end Go.Lf

/-! short names for texts -/
namespace Go.Lf.S
abbrev n (l : List PV) (k : Nat) : PV := l.getD k .nilI
abbrev c (o : Nat) (x : PV) : PV := x.cells.getD o .nilI
abbrev sb (o m : Nat) (x : PV) : PV := .agg ((x.cells.drop o).take m)
abbrev i (k : Int) : PV := .int .i64 k
end Go.Lf.S

/- Steps through texts. -/
namespace Go.Lf
variable [Gl]
open Go.RowKit

section
variable {P : Program} {K : PV → Prop} {hs : List (List PV → Prop)}

theorem d_l {p : Prim} {xs : List PV} {k : PV → T PV} (y : PV) (h : p.ev xs = some y) (hk : True → (k y).den0 P K hs) : (T.l p xs k).den0 P K hs := ⟨y, h, hk trivial⟩
theorem d_ite {c : Bool} {a b : T PV} (ha : c = true → a.den0 P K hs) (hb : c = false → b.den0 P K hs) : (T.ite (.bool c) a b).den0 P K hs := by
  cases c with
  | true => exact .inl ⟨rfl, ha rfl⟩
  | false => exact .inr ⟨rfl, hb rfl⟩
/-- a test that is decided -/
theorem d_dec {p : Prop} [Decidable p] {a b : T PV} (ha : p → a.den0 P K hs) (hb : ¬ p → b.den0 P K hs) : (T.ite (.bool (decide p)) a b).den0 P K hs :=
  d_ite (fun h => ha (of_decide_eq_true h)) (fun h => hb (of_decide_eq_false h))
theorem d_ndec {p : Prop} [Decidable p] {a b : T PV} (ha : ¬ p → a.den0 P K hs) (hb : p → b.den0 P K hs) : (T.ite (.bool (!decide p)) a b).den0 P K hs :=
  d_ite (fun h => ha (of_decide_eq_false (by simpa using h))) (fun h => hb (of_decide_eq_true (by simpa using h)))
theorem d_true {a b : T PV} (ha : a.den0 P K hs) : (T.ite (.bool true) a b).den0 P K hs := .inl ⟨rfl, ha⟩
theorem d_false {a b : T PV} (hb : b.den0 P K hs) : (T.ite (.bool false) a b).den0 P K hs := .inr ⟨rfl, hb⟩
theorem d_nilq {l : List PV} {a b : T PV} (ha : l = [] → a.den0 P K hs) (hb : b.den0 P K hs) : (T.nilq (.sl l) a b).den0 P K hs := ⟨l, rfl, ha, hb⟩
theorem d_call {f : Nat} {xs : List PV} {k : PV → T PV} {r : PV} (h : Ok P f xs r) (hk : (k r).den0 P K hs) : (T.call f xs k).den0 P K hs := ⟨r, h, hk⟩
theorem d_callv {f : Nat} {fs cs xs : List PV} {k : PV → T PV} {r : PV} (h : Ok P f (fs ++ xs ++ cs) r) (hk : (k r).den0 P K hs) : (T.callv (.fn f fs cs) xs k).den0 P K hs := ⟨r, ⟨f, fs, cs, rfl, h⟩, hk⟩
theorem d_calls {f : Nat} {s : Sig} {xs : List PV} {k : List PV → T PV} {ys : List PV} (hl : ys.length = s.nout) (h : OkS P f s xs ys) (hk : (k ys).den0 P K hs) : (T.calls f s xs k).den0 P K hs := ⟨ys, hl, h, hk⟩
theorem d_ret {x : PV} (h : K x) : (T.ret x).den0 P K hs := h

end

/-- a table of whole numbers that the row lists -/
theorem gl_ints {P : Program} {W : World} {name : String} {k : IntKind} {zs : List Int} {g : Nat} (h : Lib.TabIs P W name k zs) (hg : P.globalNamed name = some g) (h0 : 0 < zs.length) :
    (PV.agg (zs.map (.int k))).okc zs.length true = true ∧ Rep (fun b _ => b < W.heap.size) W (.pointer (some ⟨g, 0, none⟩)) (.box (.agg (zs.map (.int k)))) := by
  have hlt : g < W.heap.size := by
    have := h.cell hg 0 h0
    unfold World.cell? at this
    split at this
    · rename_i hh; exact (Array.getElem?_eq_some_iff.1 hh).1
    · cases this
  refine ⟨by simp [PV.okc, PV.cells, PV.isAg, PV.isCell], .box g 0 _ (fun j => .int k (zs.getD j 0)) (fun y hy => ?_) (fun j y hy => ?_) fun j y hy => ?_⟩
  · simp only [PV.cells, List.mem_map] at hy
    obtain ⟨z, _, rfl⟩ := hy
    rfl
  · simp only [PV.cells, List.getElem?_map, Option.map_eq_some_iff] at hy
    obtain ⟨z, hz, rfl⟩ := hy
    have hj := (List.getElem?_eq_some_iff.1 hz).1
    exact ⟨hlt, by rw [Nat.zero_add]; exact h.cell hg j hj⟩
  · simp only [PV.cells, List.getElem?_map, Option.map_eq_some_iff] at hy
    obtain ⟨z, hz, rfl⟩ := hy
    simp only [List.getD_eq_getElem?_getD, hz, Option.getD_some]
    exact .int _ _

theorem hasT_int {P : Program} {t : Nat} {k : IntKind} {x : PV} {m : Nat} (ht : P.underlying t = some (.int k)) (h : HasT P t x m) : ∃ n, x = .int k n ∧ k.min ≤ n ∧ n ≤ k.max := by
  cases h with
  | int _ k' n _ ht' hw =>
    rw [ht] at ht'
    cases ht'
    simp only [Lit.wf, Bool.and_eq_true, decide_eq_true_eq] at hw
    exact ⟨n, rfl, hw⟩
  | bool _ _ _ ht' => rw [ht] at ht'; cases ht'
  | str _ _ _ ht' => rw [ht] at ht'; cases ht'
  | sl _ _ _ _ _ ht' => rw [ht] at ht'; cases ht'
  | agg _ _ _ _ _ ht' => rw [ht] at ht'; cases ht'
theorem hasT_bool {P : Program} {t : Nat} {x : PV} {m : Nat} (ht : P.underlying t = some .bool) (h : HasT P t x m) : ∃ b, x = .bool b := by
  cases h with
  | bool _ b => exact ⟨b, rfl⟩
  | int _ _ _ _ ht' => rw [ht] at ht'; cases ht'
  | str _ _ _ ht' => rw [ht] at ht'; cases ht'
  | sl _ _ _ _ _ ht' => rw [ht] at ht'; cases ht'
  | agg _ _ _ _ _ ht' => rw [ht] at ht'; cases ht'
theorem hasT_str {P : Program} {t : Nat} {x : PV} {m : Nat} (ht : P.underlying t = some .string) (h : HasT P t x m) : ∃ s, x = .str s ∧ s.size + 1 ≤ m := by
  cases h with
  | str _ s _ _ _ hm => exact ⟨s, rfl, hm⟩
  | int _ _ _ _ ht' => rw [ht] at ht'; cases ht'
  | bool _ _ _ ht' => rw [ht] at ht'; cases ht'
  | sl _ _ _ _ _ ht' => rw [ht] at ht'; cases ht'
  | agg _ _ _ _ _ ht' => rw [ht] at ht'; cases ht'
theorem hasT_sl {P : Program} {t e : Nat} {x : PV} {m : Nat} (ht : P.underlying t = some (.slice e)) (h : HasT P t x m) :
    ∃ (l : List PV) (ms : List Nat), x = .sl l ∧ ms.length = l.length ∧ ms.sum + 1 ≤ m ∧ ∀ (i : Nat) (y : PV) (k : Nat), l[i]? = some y → ms[i]? = some k → HasT P e y k := by
  cases h with
  | sl _ e' l ms _ ht' _ hl hh hm => rw [ht] at ht'; cases ht'; exact ⟨l, ms, rfl, hl, hm, hh⟩
  | int _ _ _ _ ht' => rw [ht] at ht'; cases ht'
  | bool _ _ _ ht' => rw [ht] at ht'; cases ht'
  | str _ _ _ ht' => rw [ht] at ht'; cases ht'
  | agg _ _ _ _ _ ht' => rw [ht] at ht'; cases ht'
theorem hasT_agg {P : Program} {t : Nat} {fs : Array Field} {x : PV} {m : Nat} (ht : P.underlying t = some (.struct fs)) (h : HasT P t x m) :
    ∃ (xs : List PV) (ms : List Nat), x = .agg (xs.flatMap PV.cells) ∧ xs.length = fs.size ∧ ms.length = xs.length ∧ ms.sum + 1 ≤ m ∧ ∀ (i : Nat) (f : Field) (y : PV) (k : Nat), fs[i]? = some f → xs[i]? = some y → ms[i]? = some k → HasT P f.type y k := by
  cases h with
  | agg _ fs' xs ms _ ht' h1 h2 hh hm => rw [ht] at ht'; cases ht'; exact ⟨xs, ms, rfl, h1, h2, hm, hh⟩
  | int _ _ _ _ ht' => rw [ht] at ht'; cases ht'
  | bool _ _ _ ht' => rw [ht] at ht'; cases ht'
  | str _ _ _ ht' => rw [ht] at ht'; cases ht'
  | sl _ _ _ _ _ ht' => rw [ht] at ht'; cases ht'

end Go.Lf

/- Steps of single operations on encoded data. -/
namespace Go.Lf
open S

theorem wrap_in {x : Int} (h1 : -9223372036854775808 ≤ x) (h2 : x ≤ 9223372036854775807) : IntKind.i64.wrap x = x := by
  simp only [IntKind.wrap, IntKind.signed, IntKind.bits]
  simp
  omega

theorem e_add {a b : Int} (h1 : -9223372036854775808 ≤ a + b) (h2 : a + b ≤ 9223372036854775807) : (Prim.arith .add .i64).ev [i a, i b] = some (i (a + b)) := by
  show ((arithV .add .i64 a b).map (PV.int .i64)) = _
  simp only [arithV, wrap_in h1 h2, Option.map_some]
theorem e_sub {a b : Int} (h1 : -9223372036854775808 ≤ a - b) (h2 : a - b ≤ 9223372036854775807) : (Prim.arith .sub .i64).ev [i a, i b] = some (i (a - b)) := by
  show ((arithV .sub .i64 a b).map (PV.int .i64)) = _
  simp only [arithV, wrap_in h1 h2, Option.map_some]
theorem e_inc {k : Nat} (h : k < 9223372036854775807) : (Prim.arith .add .i64).ev [i (k : Int), i 1] = some (i ((k + 1 : Nat) : Int)) := by
  rw [e_add (by omega) (by omega)]; rfl
theorem e_len {l : List PV} : Prim.len.ev [.sl l] = some (i (l.length : Int)) := rfl
theorem e_idx {n : Nat} {a : Bool} {l : List PV} {k : Nat} {x : PV} (h : l[k]? = some x) (hk : x.okc n a = true) : (Prim.idx n a).ev [.sl l, i (k : Int)] = some x := by
  show (if (0 : Int) ≤ (k : Int) then match l[(k : Int).toNat]? with
      | some x => if x.okc n a then some x else none
      | none => none else none) = _
  rw [if_pos (by omega), Int.toNat_natCast, h]
  simp only [hk, if_true]
theorem e_okc {n : Nat} {a : Bool} {x : PV} (hk : x.okc n a = true) : (Prim.okc n a).ev [x] = some x := by
  show (if x.okc n a then some x else none) = _
  rw [if_pos hk]
theorem e_lst {n : Nat} {a : Bool} {l : List PV} (hk : ∀ x ∈ l, x.okc n a = true) : (Prim.lst n a).ev l = some (.sl l) := by
  show (if l.all (·.okc n a) then some (PV.sl l) else none) = _
  rw [if_pos (List.all_eq_true.2 hk)]
theorem e_app {n : Nat} {a : Bool} {b : Nat} {l m : List PV} (hk : ∀ x ∈ m, x.okc n a = true) (h1 : (l.length + m.length) * b ≤ 140737488355328) (h2 : l.length + m.length ≤ 9223372036854775807) : (Prim.app n a b).ev [.sl l, .sl m] = some (.sl (l ++ m)) := by
  show (if m.all (·.okc n a) ∧ (l.length + m.length) * b ≤ roomB ∧ l.length + m.length ≤ maxLen then some (PV.sl (l ++ m)) else none) = _
  rw [if_pos ⟨List.all_eq_true.2 hk, h1, h2⟩]
theorem e_slcT {n : Nat} {a : Bool} {l : List PV} {k : Nat} (hk : ∀ x ∈ l, x.okc n a = true) (h : k ≤ l.length) : (Prim.slcT n a).ev [.sl l, i (k : Int)] = some (.sl (l.take k)) := by
  show (if 0 ≤ (k : Int) ∧ (k : Int) ≤ (l.length : Int) ∧ l.all (·.okc n a) then some (PV.sl (l.take (k : Int).toNat)) else none) = _
  rw [if_pos ⟨by omega, by omega, List.all_eq_true.2 hk⟩, Int.toNat_natCast]
theorem e_sidx {s : ByteArray} {k : Nat} (h : k < s.size) : (Prim.sidx).ev [.str s, i (k : Int)] = some (.int .u8 (s[k]).toNat) := by
  show (if (0 : Int) ≤ (k : Int) then (s[(k : Int).toNat]?).map fun b => PV.int .u8 b.toNat else none) = _
  rw [if_pos (by omega), Int.toNat_natCast, getElem?_pos s k h]
  rfl
theorem d_cont [Gl] {P : Program} {K : PV → Prop} {hs : List (List PV → Prop)} {lvl : Nat} {xs : List PV} {g : List PV → Prop} (h : hs[lvl]? = some g) (hg : g xs) : (T.cont lvl xs).den0 P K hs := by
  unfold T.den0; rw [h]; exact hg
theorem okc_int (k : IntKind) (x : Int) : (PV.int k x).okc 1 false = true := rfl
theorem okc_str (s : ByteArray) : (PV.str s).okc 1 false = true := rfl
theorem okc_bool (b : Bool) : (PV.bool b).okc 1 false = true := rfl
theorem all_map {α : Type} {f : α → PV} {n : Nat} {a : Bool} (h : ∀ x, (f x).okc n a = true) (l : List α) : ∀ x ∈ l.map f, x.okc n a = true := by
  intro x hx
  obtain ⟨y, _, rfl⟩ := List.mem_map.1 hx
  exact h y

end Go.Lf

/- Some answer: what a deterministic text comes to. -/
namespace Go.Lf
variable [Gl]

/-- no question for nil: one answer -/
def T.dt : T PV → Prop
  | .ret _ => True
  | .fail => True
  | .l _ _ k => ∀ y, (k y).dt
  | .ite _ a b => a.dt ∧ b.dt
  | .nilq _ _ _ => False
  | .call _ _ k => ∀ y, (k y).dt
  | .callv _ _ k => ∀ y, (k y).dt
  | .calls _ _ _ k => ∀ ys, (k ys).dt
  | .callvs _ _ _ k => ∀ ys, (k ys).dt
  | .loop _ body => ∀ ys, (body ys).dt
  | .cont _ _ => True

theorem den_ex {P : Program} {K : PV → Prop} : ∀ (t : T PV), t.dt → ∀ (hsK : List (List PV → Prop)) (hsr : PV → List (List PV → Prop)), (∀ r, (hsr r).length = hsK.length) →
    (∀ (j : Nat) g ys, hsK[j]? = some g → g ys → ∃ r, K r ∧ ∃ g', (hsr r)[j]? = some g' ∧ g' ys) → t.den0 P K hsK → ∃ r, K r ∧ t.den0 P (· = r) (hsr r) := by
  intro t
  induction t with
  | ret x => exact fun _ _ _ _ _ h => ⟨x, h, rfl⟩
  | fail => exact fun _ _ _ _ _ h => h.elim
  | l p xs k ih =>
    intro hd hsK hsr hl hh ⟨y, h1, h2⟩
    obtain ⟨r, hr, h3⟩ := ih y (hd y) hsK hsr hl hh h2
    exact ⟨r, hr, y, h1, h3⟩
  | ite c a b iha ihb =>
    intro hd hsK hsr hl hh h
    rcases h with ⟨h1, h2⟩ | ⟨h1, h2⟩
    · obtain ⟨r, hr, h3⟩ := iha hd.1 hsK hsr hl hh h2
      exact ⟨r, hr, .inl ⟨h1, h3⟩⟩
    · obtain ⟨r, hr, h3⟩ := ihb hd.2 hsK hsr hl hh h2
      exact ⟨r, hr, .inr ⟨h1, h3⟩⟩
  | nilq x a b iha ihb => exact fun h => h.elim
  | call f xs k ih =>
    intro hd hsK hsr hl hh ⟨y, h1, h2⟩
    obtain ⟨r, hr, h3⟩ := ih y (hd y) hsK hsr hl hh h2
    exact ⟨r, hr, y, h1, h3⟩
  | callv x xs k ih =>
    intro hd hsK hsr hl hh ⟨y, h1, h2⟩
    obtain ⟨r, hr, h3⟩ := ih y (hd y) hsK hsr hl hh h2
    exact ⟨r, hr, y, h1, h3⟩
  | calls f s xs k ih =>
    intro hd hsK hsr hl hh ⟨y, h0, h1, h2⟩
    obtain ⟨r, hr, h3⟩ := ih y (hd y) hsK hsr hl hh h2
    exact ⟨r, hr, y, h0, h1, h3⟩
  | callvs x s xs k ih =>
    intro hd hsK hsr hl hh ⟨y, h0, h1, h2⟩
    obtain ⟨r, hr, h3⟩ := ih y (hd y) hsK hsr hl hh h2
    exact ⟨r, hr, y, h0, h1, h3⟩
  | loop xs body ih =>
    intro hd hsK hsr hl hh ⟨n, h⟩
    have key : ∀ n ys, loopN P K body hsK n ys → ∃ r, K r ∧ loopN P (· = r) body (hsr r) n ys := by
      intro n
      induction n with
      | zero => exact fun _ h => h.elim
      | succ n ihn =>
        intro ys h
        refine ih ys (hd ys) (hsK ++ [loopN P K body hsK n]) (fun r => hsr r ++ [loopN P (· = r) body (hsr r) n]) (fun r => by simp [hl]) (fun j g zs hg hz => ?_) h
        rw [List.getElem?_append] at hg
        split at hg
        · rename_i hj
          obtain ⟨r, hr, g', h1, h2⟩ := hh j g zs hg hz
          exact ⟨r, hr, g', by rw [List.getElem?_append_left (by rw [hl]; exact hj)]; exact h1, h2⟩
        · rename_i hj
          have hj0 : j = hsK.length := by
            have := (List.getElem?_eq_some_iff.1 hg).1
            simp at this; omega
          subst hj0
          simp at hg; subst hg
          obtain ⟨r, hr, h2⟩ := ihn zs hz
          exact ⟨r, hr, _, by rw [List.getElem?_append_right (by rw [hl]; exact Nat.le_refl _), hl]; simp, h2⟩
    obtain ⟨r, hr, h2⟩ := key n xs h
    exact ⟨r, hr, n, h2⟩
  | cont lvl xs =>
    intro _ hsK hsr hl hh h
    unfold T.den0 at h
    split at h
    · rename_i g hg
      obtain ⟨r, hr, g', h1, h2⟩ := hh lvl g xs hg h
      refine ⟨r, hr, ?_⟩
      unfold T.den0
      rw [h1]; exact h2
    · exact h.elim

/-- a function's text and what is asked of its answer: it answers, and so -/
theorem tx_ex {P : Program} {f m : Nat} {t : List PV → T PV} (h : TxOk P f m t) {K : PV → Prop} {xs : List PV} (hl : xs.length = m) (hd : (t xs).dt) (hden : (t xs).den0 P K []) : ∃ r, K r ∧ Ok P f xs r := by
  obtain ⟨r, hr, h1⟩ := den_ex (t xs) hd [] (fun _ => []) (fun _ => rfl) (fun j g ys h => by simp at h) hden
  exact ⟨r, hr, h xs r hl h1⟩

end Go.Lf

/- The program's data: types, graphs. -/
namespace Go.Lf.Duo
open Go.Lf Go.Lf.S

inductive Ty where
  | mk (kind prio : Int) (name : ByteArray) (shift : Int) (labels : List ByteArray) (kids : List Ty)

namespace Ty
def kind : Ty → Int | mk k _ _ _ _ _ => k
def prio : Ty → Int | mk _ p _ _ _ _ => p
def name : Ty → ByteArray | mk _ _ n _ _ _ => n
def shift : Ty → Int | mk _ _ _ s _ _ => s
def labels : Ty → List ByteArray | mk _ _ _ _ l _ => l
def kids : Ty → List Ty | mk _ _ _ _ _ k => k
mutual
def enc : Ty → PV
  | mk k p n s ls ks => .agg [.int .i64 k, .int .i64 p, .str n, .int .i64 s, .sl (ls.map .str), .sl (encs ks)]
def encs : List Ty → List PV
  | [] => []
  | k :: ks => enc k :: encs ks
end
mutual
/-- how many nodes -/
def sz : Ty → Nat
  | mk _ _ _ _ _ ks => szs ks + 1
def szs : List Ty → Nat
  | [] => 0
  | k :: ks => sz k + szs ks
end
theorem encs_eq : ∀ l : List Ty, encs l = l.map enc
  | [] => by simp [encs]
  | k :: ks => by simp [encs, encs_eq ks]
theorem enc_mk (k p : Int) (n : ByteArray) (s : Int) (ls : List ByteArray) (ks : List Ty) : enc (mk k p n s ls ks) = .agg [.int .i64 k, .int .i64 p, .str n, .int .i64 s, .sl (ls.map .str), .sl (ks.map enc)] := by
  simp only [enc, encs_eq]
theorem okc_enc (t : Ty) : t.enc.okc 6 true = true := by
  cases t; simp [enc_mk, PV.okc, PV.cells, PV.isAg, PV.isCell]
theorem szs_mem {t : Ty} : ∀ {l : List Ty}, t ∈ l → sz t ≤ szs l
  | [], h => by cases h
  | k :: ks, h => by
    simp only [szs]
    rcases List.mem_cons.1 h with rfl | h
    · omega
    · have := szs_mem h; omega
theorem sz_kid {t k : Ty} (h : k ∈ t.kids) : sz k < sz t := by
  cases t with
  | mk a b c d e ks =>
    have := szs_mem (l := ks) h
    simp only [sz]; omega
theorem ind {p : Ty → Prop} (h : ∀ t, (∀ k ∈ t.kids, p k) → p t) : ∀ t, p t := by
  have : ∀ n t, sz t < n → p t := by
    intro n
    induction n with
    | zero => intro t h; omega
    | succ n ih => exact fun t ht => h t fun k hk => ih k (by have := sz_kid hk; omega)
  exact fun t => this (sz t + 1) t (by omega)
end Ty

structure Rf where
  node : Int
  shift : Int
def Rf.enc (r : Rf) : PV := .agg [.int .i64 r.node, .int .i64 r.shift]
theorem Rf.okc_enc (r : Rf) : r.enc.okc 2 true = true := rfl

structure Nd where
  kind : Int
  prio : Int
  labels : List ByteArray
  next : List Rf
def Nd.enc (d : Nd) : PV := .agg [.int .i64 d.kind, .int .i64 d.prio, .sl (d.labels.map .str), .sl (d.next.map Rf.enc)]
theorem Nd.okc_enc (d : Nd) : d.enc.okc 4 true = true := rfl
def Gr (l : List Nd) : PV := .agg [.sl (l.map Nd.enc)]

/-- a text is in a list -/
def memB (s : ByteArray) (l : List ByteArray) : Bool := l.any fun x => decide (x = s)
theorem memB_iff {s : ByteArray} {l : List ByteArray} : memB s l = true ↔ s ∈ l := by
  simp only [memB, List.any_eq_true, decide_eq_true_eq]
  exact ⟨fun ⟨x, h1, h2⟩ => h2 ▸ h1, fun h => ⟨s, h, rfl⟩⟩

/-! ### what a right type is like -/

/-- the fields of a node -/
def Wf1 (t : Ty) : Prop := ((1 ≤ t.kind ∧ t.kind ≤ 9) ∧ (0 ≤ t.prio ∧ t.prio ≤ 1000000 ∧ 0 ≤ t.shift ∧ t.shift ≤ 1000000) ∧ (t.kind ≤ 3 → t.kids.length = 0 ∧ t.labels.length = 0) ∧ (4 ≤ t.kind ∧ t.kind ≤ 5 → t.kids.length = 2 ∧ t.labels.length = 0) ∧
  (6 ≤ t.kind ∧ t.kind ≤ 7 → t.kids.length = t.labels.length ∧ 0 < t.labels.length) ∧ (t.kind = 8 → t.kids.length = 1 ∧ t.labels.length = 0) ∧ (t.kind = 9 → t.kids.length = 0 ∧ t.labels.length = 0)) ∧ t.labels.Nodup

/-- the last place of a text -/
def LastAt (s : ByteArray) (ns : List ByteArray) (j : Nat) : Prop := ns[j]? = some s ∧ ∀ i, j < i → ns[i]? ≠ some s

inductive Wf : Ty → List ByteArray → Nat → Prop
  | mk (t : Ty) (ns : List ByteArray) (g : Nat) (h1 : Wf1 t) (h9 : t.kind = 9 → ∃ j, j < g ∧ LastAt t.name ns j) (h8 : t.kind = 8 → ∀ k ∈ t.kids, Wf k (ns ++ [t.name]) g) (hk : t.kind ≠ 8 → ∀ k ∈ t.kids, Wf k ns ns.length) : Wf t ns g

/-- lengths as they can come in -/
inductive Lim : Ty → Prop
  | mk (t : Ty) (hn : t.name.size ≤ maxLen) (hl : ∀ s ∈ t.labels, s.size ≤ maxLen) (hll : t.labels.length ≤ maxLen) (hk : t.kids.length ≤ maxLen) (h : ∀ k ∈ t.kids, Lim k) : Lim t

section
variable [Gl] {P : Program} {tT tI tS tLS tLT : Nat} {fs : Array Field}

theorem hasT_bound {t : Nat} {s : ByteArray} {m : Nat} (h : HasT P t (.str s) m) : s.size ≤ maxLen := by
  cases h with
  | str _ _ _ _ hw => exact hw
theorem hasT_len {t : Nat} {l : List PV} {m : Nat} (h : HasT P t (.sl l) m) : l.length ≤ maxLen := by
  cases h with
  | sl _ _ _ _ _ _ hl => exact hl

theorem strs_of (hS : P.underlying tS = some .string) {t : Nat} (ht : P.underlying t = some (.slice tS)) {x : PV} {m : Nat} (h : HasT P t x m) : ∃ ls : List ByteArray, x = .sl (ls.map .str) ∧ ls.length ≤ maxLen ∧ ∀ s ∈ ls, s.size ≤ maxLen := by
  have hlen := fun (l : List PV) (e : x = .sl l) => hasT_len (m := m) (e ▸ h)
  obtain ⟨l, ms, rfl, hl, _, hh⟩ := hasT_sl ht h
  have key : ∀ l : List PV, (∀ y ∈ l, ∃ s : ByteArray, y = .str s ∧ s.size ≤ maxLen) → ∃ ls : List ByteArray, l = ls.map .str ∧ ∀ s ∈ ls, s.size ≤ maxLen := by
    intro l
    induction l with
    | nil => exact fun _ => ⟨[], rfl, fun _ h => by cases h⟩
    | cons y l ih =>
      intro hy
      obtain ⟨s, rfl, hs⟩ := hy _ List.mem_cons_self
      obtain ⟨ls, rfl, hls⟩ := ih fun y h => hy y (List.mem_cons_of_mem _ h)
      refine ⟨s :: ls, rfl, fun s' h' => ?_⟩
      rcases List.mem_cons.1 h' with e | e
      · rw [e]; exact hs
      · exact hls s' e
  obtain ⟨ls, rfl, hls⟩ := key l fun y hy => by
    obtain ⟨i, hi, rfl⟩ := List.getElem_of_mem hy
    have := hh i l[i] (ms[i]'(by omega)) (List.getElem?_eq_getElem hi) (List.getElem?_eq_getElem (by omega))
    have hb := this
    obtain ⟨s, e, _⟩ := hasT_str hS this
    rw [e] at hb
    exact ⟨s, e, hasT_bound hb⟩
  refine ⟨ls, rfl, ?_, hls⟩
  simpa using hlen _ rfl

/-- six fields -/
theorem six {xs : List PV} (h : xs.length = 6) : ∃ a b c d e f, xs = [a, b, c, d, e, f] := by
  match xs, h with
  | [a, b, c, d, e, f], _ => exact ⟨a, b, c, d, e, f, rfl⟩

/-- a type that comes in -/
theorem ty_of (hT : P.underlying tT = some (.struct fs)) (hf : fs.toList.map (·.type) = [tI, tI, tS, tI, tLS, tLT]) (hI : P.underlying tI = some (.int .i64)) (hS : P.underlying tS = some .string)
    (hLS : P.underlying tLS = some (.slice tS)) (hLT : P.underlying tLT = some (.slice tT)) {t : Nat} {x : PV} {m : Nat} (h : HasT P t x m) :
    (t = tT → ∃ ty : Ty, x = ty.enc ∧ Lim ty) ∧ (t = tLT → ∃ l : List Ty, x = .sl (l.map Ty.enc) ∧ l.length ≤ maxLen ∧ ∀ ty ∈ l, Lim ty) := by
  have nT : tT ≠ tLT := fun e => by rw [e, hLT] at hT; cases hT
  induction h with
  | int t k n m ht => exact ⟨(fun e => by rw [e, hT] at ht; cases ht), fun e => by rw [e, hLT] at ht; cases ht⟩
  | bool t b m ht => exact ⟨(fun e => by rw [e, hT] at ht; cases ht), fun e => by rw [e, hLT] at ht; cases ht⟩
  | str t s m ht => exact ⟨(fun e => by rw [e, hT] at ht; cases ht), fun e => by rw [e, hLT] at ht; cases ht⟩
  | sl t e l ms m ht hl hms hh hm ih =>
    refine ⟨(fun e => by rw [e, hT] at ht; cases ht), fun et => ?_⟩
    subst et
    rw [hLT] at ht; cases ht
    have key : ∀ l : List PV, (∀ y ∈ l, ∃ ty : Ty, y = ty.enc ∧ Lim ty) → ∃ ls : List Ty, l = ls.map Ty.enc ∧ ∀ ty ∈ ls, Lim ty := by
      intro l
      induction l with
      | nil => exact fun _ => ⟨[], rfl, fun _ h => by cases h⟩
      | cons y l ih =>
        intro hy
        obtain ⟨s, rfl, hs⟩ := hy _ List.mem_cons_self
        obtain ⟨ls, rfl, hls⟩ := ih fun y h => hy y (List.mem_cons_of_mem _ h)
        refine ⟨s :: ls, rfl, fun s' h' => ?_⟩
        rcases List.mem_cons.1 h' with e | e
        · rw [e]; exact hs
        · exact hls s' e
    obtain ⟨ls, rfl, hls⟩ := key l fun y hy => by
      obtain ⟨i, hi, rfl⟩ := List.getElem_of_mem hy
      exact (ih i l[i] (ms[i]'(by omega)) (List.getElem?_eq_getElem hi) (List.getElem?_eq_getElem (by omega))).1 rfl
    exact ⟨ls, rfl, by simpa using hl, hls⟩
  | agg t fs' xs ms m ht hl hms hh hm ih =>
    refine ⟨fun et => ?_, fun e => by rw [e, hLT] at ht; cases ht⟩
    subst et
    rw [hT] at ht; cases ht
    have h6 : xs.length = 6 := by
      have := congrArg List.length hf
      simp at this; omega
    obtain ⟨a, b, c, d, e, f, rfl⟩ := six h6
    have at_ : ∀ (i : Nat) (y : PV) (u : Nat), [a, b, c, d, e, f][i]? = some y → (fs.toList.map (·.type))[i]? = some u → ∃ fd k, fs[i]? = some fd ∧ fd.type = u ∧ ms[i]? = some k := by
      intro i y u hy hu
      have hi := (List.getElem?_eq_some_iff.1 hy).1
      simp only [List.getElem?_map, Option.map_eq_some_iff] at hu
      obtain ⟨fd, hfd, hu⟩ := hu
      have him : i < ms.length := by rw [hms]; exact hi
      exact ⟨fd, ms[i], by rw [← Array.getElem?_toList]; exact hfd, hu, List.getElem?_eq_getElem him⟩
    have fld : ∀ (i : Nat) (y : PV) (u : Nat), [a, b, c, d, e, f][i]? = some y → (fs.toList.map (·.type))[i]? = some u → ∃ k, HasT P u y k := by
      intro i y u hy hu
      obtain ⟨fd, k, h1, h2, h3⟩ := at_ i y u hy hu
      exact ⟨k, h2 ▸ hh i fd y k h1 hy h3⟩
    rw [hf] at fld
    obtain ⟨k0, h0⟩ := fld 0 a tI rfl rfl
    obtain ⟨k1, h1⟩ := fld 1 b tI rfl rfl
    obtain ⟨k2, h2⟩ := fld 2 c tS rfl rfl
    obtain ⟨k3, h3⟩ := fld 3 d tI rfl rfl
    obtain ⟨k4, h4⟩ := fld 4 e tLS rfl rfl
    obtain ⟨fd5, k5, g1, g2, g3⟩ := at_ 5 f tLT rfl (by rw [hf]; rfl)
    obtain ⟨ks, rfl, hks, hkl⟩ := (ih 5 fd5 f k5 g1 rfl g3).2 g2
    obtain ⟨n0, rfl, _⟩ := hasT_int hI h0
    obtain ⟨n1, rfl, _⟩ := hasT_int hI h1
    obtain ⟨n3, rfl, _⟩ := hasT_int hI h3
    obtain ⟨s2, e2, _⟩ := hasT_str hS h2
    subst e2
    obtain ⟨ls, e4, hl1, hl2⟩ := strs_of hS hLS h4
    subst e4
    refine ⟨.mk n0 n1 s2 n3 ls ks, ?_, .mk _ (hasT_bound h2) hl2 hl1 hks hkl⟩
    rw [Ty.enc_mk]; rfl

end
end Go.Lf.Duo

/- The reference's subtyping (3): the pairs that are reached are finitely many. -/
import Derived.Test.YtijamnklmohjfaaDoorWk121
import Derived.Test.YtijamnklmohjfaaDoorWk20
set_option linter.all false
namespace Go.Proofs.YtijamnklmohjfaaDoor.Tx
open Go.Lf Go.Lf.S Go.Lf.Duo
set_option maxRecDepth 100000

theorem nodup_leU {α : Type} : ∀ {l U : List α}, l.Nodup → (∀ x ∈ l, x ∈ U) → l.length ≤ U.length
  | [], _, _, _ => by simp
  | a :: l, U, hn, h => by
    obtain ⟨s, t, rfl⟩ := List.append_of_mem (h a List.mem_cons_self)
    rw [List.nodup_cons] at hn
    have := nodup_leU (l := l) (U := s ++ t) hn.2 fun x hx => by
      have := h x (List.mem_cons_of_mem _ hx)
      simp only [List.mem_append, List.mem_cons] at this ⊢
      rcases this with h | rfl | h
      · exact .inl h
      · exact absurd hx hn.1
      · exact .inr h
    simp only [List.length_append, List.length_cons] at this ⊢
    omega
theorem flat_le {α β : Type} {f : α → List β} {c : Nat} : ∀ {l : List α}, (∀ x ∈ l, (f x).length ≤ c) → (l.flatMap f).length ≤ l.length * c
  | [], _ => by simp
  | a :: l, h => by
    have h1 := h a List.mem_cons_self
    have h2 := flat_le (l := l) (f := f) (c := c) fun x hx => h x (List.mem_cons_of_mem _ hx)
    simp only [List.flatMap_cons, List.length_append, List.length_cons, Nat.add_mul, Nat.one_mul]
    omega

theorem raise_congr {a b : Int} (h : IntKind.i64.wrap a = IntKind.i64.wrap b) (t : Ty) : raiseT a t = raiseT b t := by rw [← raise_wr a, h, raise_wr]
noncomputable def nrm (a : Ty) : Ty := raiseT (-pz (unfT a)) a
theorem act_raise (k : Int) (t : Ty) : act (raiseT k t).kind = act t.kind := by rw [raise_kind]
theorem pz_act {u : Ty} (h : act u.kind = true) : pz u = u.prio := by unfold pz; rw [if_pos h]
theorem unfT_raise {T : Ty} (k : Int) (h : ∃ u, Unf T u) : unfT (raiseT k T) = raiseT k (unfT T) := by
  obtain ⟨u, h⟩ := h
  rw [unfT_eq h, unfT_eq (h.raise k)]

/-- a lowered pair -/
def Lwd (L : List Ty) (M : Nat) (q : Ty × Ty) : Prop := ∃ A B, CL L M A ∧ CL L M B ∧ q = lw (A, B)
theorem Lwd.cl {L : List Ty} {M : Nat} {q : Ty × Ty} (h : Lwd L M q) : CL L M q.1 ∧ CL L M q.2 := by
  obtain ⟨A, B, h1, h2, rfl⟩ := h
  exact ⟨h1.raise _, h2.raise _⟩

/-- a lowered pair that begins with actions of the same priority is one of finitely many -/
theorem Lwd.nrm {L : List Ty} {M : Nat} {q : Ty × Ty} (h : Lwd L M q) (hl : TLoc (unfT q.1) (unfT q.2)) (ha : act (unfT q.1).kind = true) : ∃ a b, a ∈ L ∧ b ∈ L ∧ q = (nrm a, nrm b) := by
  obtain ⟨A, B, h1, h2, rfl⟩ := h
  obtain ⟨σ, a, la, rfl, ca⟩ := h1.base
  obtain ⟨τ, b, lb, rfl, cb⟩ := h2.base
  have ua : ∃ u, Unf a u := ⟨_, ca.unf.1⟩
  have ub : ∃ u, Unf b u := ⟨_, cb.unf.1⟩
  simp only [lw] at hl ha ⊢
  rw [unfT_raise σ ua] at hl ha ⊢
  rw [raise_raise] at hl ha ⊢
  rw [raise_raise] at hl ⊢
  rw [unfT_raise _ ua] at hl ha
  rw [unfT_raise _ ub] at hl
  obtain ⟨l1, l2, _⟩ := hl
  rw [raise_kind, raise_kind] at l1
  rw [raise_kind] at ha
  have hb : act (unfT b).kind = true := by rw [← l1]; exact ha
  have hpa : pz (raiseT σ (unfT a)) = ad (unfT a).prio σ := by rw [pz_act (by rw [raise_kind]; exact ha), raise_prio _ _ ha]
  rw [raise_prio _ _ ha, raise_prio _ _ hb, hpa] at l2
  rw [hpa]
  refine ⟨a, b, la, lb, Prod.ext ?_ ?_⟩
  · unfold Tx.nrm
    refine raise_congr ?_ a
    rw [pz_act ha, wrap_eq]
    have := wrap_mod ((unfT a).prio + σ)
    unfold ad; omega
  · unfold Tx.nrm
    refine raise_congr ?_ b
    rw [pz_act hb, wrap_eq]
    unfold ad at l2 ⊢
    rw [wrap_eq] at l2
    have := wrap_mod ((unfT a).prio + σ)
    omega

/-- what the pairs need, each told once -/
def NeOk (L : List Ty) (M : Nat) (ne : Ty × Ty → Option (List (Ty × Ty))) : Prop := ∀ q : Ty × Ty, CL L M q.1 → CL L M q.2 → Ok P F.ref11_needs [pe q] (ndV (ne q)) ∧ NdS M (unfT q.1) (unfT q.2) (ne q)
theorem ne_ex (L : List Ty) (M : Nat) (hM : M ≤ 1000000) : ∃ ne, NeOk L M ne := by
  classical
  refine ⟨fun q => if h : CL L M q.1 ∧ CL L M q.2 then Classical.choose (ok_needs hM h.1 h.2) else none, fun q h1 h2 => ?_⟩
  simp only [dif_pos (And.intro h1 h2)]
  exact Classical.choose_spec (ok_needs hM h1 h2)

noncomputable def Un (L : List Ty) (M : Nat) (ne : Ty × Ty → Option (List (Ty × Ty))) (p : Ty × Ty) : List (Ty × Ty) := p :: L.flatMap fun a => L.flatMap fun b => ((ne (nrm a, nrm b)).getD []).take (M + 2)
theorem len_Un (L : List Ty) (M : Nat) (ne : Ty × Ty → Option (List (Ty × Ty))) (p : Ty × Ty) : (Un L M ne p).length ≤ 1 + L.length * (L.length * (M + 2)) := by
  have := flat_le (f := fun a => L.flatMap fun b => ((ne (nrm a, nrm b)).getD []).take (M + 2)) (c := L.length * (M + 2)) (l := L) fun a _ => flat_le fun b _ => by simp; omega
  simp only [Un, List.length_cons]
  omega

theorem TRaw.cl {L : List Ty} {M : Nat} {x y : Ty} (hx : ∀ k ∈ x.kids, CL L M k) (hy : ∀ k ∈ y.kids, CL L M k) {r : Ty × Ty} (h : TRaw x y r) : CL L M r.1 ∧ CL L M r.2 := by
  rcases h with ⟨_, e1, e2⟩ | ⟨_, e1, e2⟩ | ⟨_, j, _, e1, e2⟩ | ⟨_, s, i, j, _, _, e1, e2⟩
  · exact ⟨hy _ (List.mem_of_getElem? e1), hx _ (List.mem_of_getElem? e2)⟩
  · exact ⟨hx _ (List.mem_of_getElem? e1), hy _ (List.mem_of_getElem? e2)⟩
  · exact ⟨hx _ (List.mem_of_getElem? e1), hy _ (List.mem_of_getElem? e2)⟩
  · exact ⟨hx _ (List.mem_of_getElem? e1), hy _ (List.mem_of_getElem? e2)⟩
theorem TRaw.isact {x y : Ty} {r : Ty × Ty} (h : TRaw x y r) : act x.kind = true := by
  simp only [act, decide_eq_true_eq]
  rcases h with ⟨h, _⟩ | ⟨h, _⟩ | ⟨h, _⟩ | ⟨h, _⟩ <;> omega

/-- what a lowered pair needs is lowered, and one of finitely many -/
theorem need_in {L : List Ty} {M : Nat} {ne : Ty × Ty → Option (List (Ty × Ty))} (hne : NeOk L M ne) (p : Ty × Ty) {q r : Ty × Ty} {l : List (Ty × Ty)} (hq : Lwd L M q) (hl : ne q = some l) (hr : r ∈ l) : Lwd L M r ∧ r ∈ Un L M ne p := by
  have hc := hq.cl
  obtain ⟨_, hs⟩ := hne q hc.1 hc.2
  obtain ⟨s1, s2, s3, _⟩ := hs.yes l hl
  obtain ⟨w, hw, rfl⟩ := s3 r hr
  have hcw := hw.cl hc.1.unf.2.2 hc.2.unf.2.2
  refine ⟨⟨w.1, w.2, hcw.1, hcw.2, rfl⟩, ?_⟩
  obtain ⟨a, b, ha, hb, rfl⟩ := hq.nrm s1 hw.isact
  refine List.mem_cons_of_mem _ (List.mem_flatMap.2 ⟨a, ha, List.mem_flatMap.2 ⟨b, hb, ?_⟩⟩)
  rw [hl, Option.getD_some, List.take_of_length_le s2]
  exact hr

theorem ok_reached {L : List Ty} {M : Nat} (hM : M ≤ 1000) (hL : L.length ≤ 1000) {ne : Ty × Ty → Option (List (Ty × Ty))} (hne : NeOk L M ne) {p : Ty × Ty} (hp : Lwd L M p) :
    ∃ l : List (Ty × Ty), Ok P F.ref11_reached [pe p] (.sl (l.map pe)) ∧ l[0]? = some p ∧ (∀ q ∈ l, Lwd L M q) ∧ l.length ≤ 1100000000 ∧ ∀ q ∈ l, ∀ m, ne q = some m → ∀ r ∈ m, r ∈ l := by
  have hU : (Un L M ne p).length ≤ 1100000000 := by
    have h1 := len_Un L M ne p
    have h2 : L.length * (L.length * (M + 2)) ≤ 1000 * (1000 * 1002) := Nat.mul_le_mul hL (Nat.mul_le_mul hL (by omega))
    omega
  have := tx_ex (K := fun x => ∃ l : List (Ty × Ty), x = .sl (l.map pe) ∧ l[0]? = some p ∧ (∀ q ∈ l, Lwd L M q) ∧ l.length ≤ 1100000000 ∧ ∀ q ∈ l, ∀ m, ne q = some m → ∀ r ∈ m, r ∈ l) k_ref11_reached (xs := [pe p]) rfl (by simp [t_ref11_reached, T.dt]) (by
    refine d_l _ (e_okc (pe_okc p)) fun _ => d_l (.sl [pe p]) (e_lst fun x hx => by simp at hx; subst hx; exact pe_okc _) fun _ => ?_
    refine den_loop (fun m' ys => ∃ (j : Nat) (l : List (Ty × Ty)), j + m' = (Un L M ne p).length + 1 ∧ j ≤ l.length ∧ l[0]? = some p ∧ (∀ q ∈ l, Lwd L M q ∧ q ∈ Un L M ne p) ∧ l.Nodup ∧ (∀ q ∈ l.take j, ∀ m, ne q = some m → ∀ r ∈ m, r ∈ l) ∧ ys = [i j, .sl (l.map pe)]) ((Un L M ne p).length + 1)
      ⟨0, [p], by omega, by simp, rfl, (fun q hq => by simp at hq; subst hq; exact ⟨hp, List.mem_cons_self⟩), by simp, by simp, rfl⟩ ?_
    rintro m' _ ⟨j, l, hj, hjl, h0, hq, hn, hc, rfl⟩
    have hlU := nodup_leU hn fun q h => (hq q h).2
    refine d_l _ (len_pr l) fun _ => d_l (.bool (decide ((j : Int) < (l.length : Int)))) rfl fun _ => d_dec (p := (j : Int) < (l.length : Int)) (fun h => ?_) fun h => ?_
    · have hjl : j < l.length := by omega
      have hm := hq _ (List.getElem_mem hjl)
      have hcl := hm.1.cl
      obtain ⟨hcall, hspec⟩ := hne _ hcl.1 hcl.2
      refine d_l _ (e_idx (pr_at hjl) (pe_okc _)) fun _ => d_call hcall ?_
      have htake : l.take (j + 1) = l.take j ++ [l[j]] := List.take_succ_eq_append_getElem hjl
      generalize hlj : l[j] = q at *
      cases hne1 : ne q with
      | none =>
        refine d_l (.sl []) rfl fun _ => d_l (.bool false) rfl fun _ => den_loop (fun m' ys => ys = [i 0, .sl (l.map pe)]) 0 rfl ?_
        rintro m2 _ rfl
        refine d_l (i 0) rfl fun _ => d_l (.bool (decide ((0 : Int) < 0))) rfl fun _ => d_dec (p := (0 : Int) < 0) (fun h => by omega) fun _ => d_l _ (e_inc (by omega)) fun _ => d_cont rfl ⟨m' - 1, by omega, j + 1, l, by omega, by omega, h0, hq, hn, fun q' hq' => ?_, rfl⟩
        rw [htake] at hq'
        rcases List.mem_append.1 hq' with h | h
        · exact hc q' h
        · obtain rfl := List.mem_singleton.1 h
          intro m hm'; rw [hne1] at hm'; cases hm'
      | some mo =>
        refine d_l (.sl (mo.map pe)) rfl fun _ => d_l (.bool true) rfl fun _ => den_loop (fun m2 ys => ∃ (k : Nat) (l2 : List (Ty × Ty)), k + m2 = mo.length ∧ l2.take l.length = l ∧ (∀ q ∈ l2, Lwd L M q ∧ q ∈ Un L M ne p) ∧ l2.Nodup ∧ (∀ r ∈ mo.take k, r ∈ l2) ∧ ys = [i k, .sl (l2.map pe)]) mo.length
          ⟨0, l, by omega, List.take_length, hq, hn, by simp, rfl⟩ ?_
        rintro m2 _ ⟨k, l2, hk, ht2, hq2, hn2, hc2, rfl⟩
        have hl2U := nodup_leU hn2 fun q h => (hq2 q h).2
        have hll2 : l.length ≤ l2.length := by rw [← ht2]; simp; omega
        have hsub : ∀ x ∈ l, x ∈ l2 := fun x hx => by rw [← ht2] at hx; exact List.mem_of_mem_take hx
        have hmol : mo.length ≤ M + 2 := (hspec.yes mo hne1).2.1
        refine d_l _ (len_pr mo) fun _ => d_l (.bool (decide ((k : Int) < (mo.length : Int)))) rfl fun _ => d_dec (p := (k : Int) < (mo.length : Int)) (fun h => d_true ?_) fun h => ?_
        · have hkl : k < mo.length := by omega
          have hr := need_in hne p hm.1 hne1 (List.getElem_mem hkl)
          have htk : mo.take (k + 1) = mo.take k ++ [mo[k]] := List.take_succ_eq_append_getElem hkl
          have hix := e_idx (n := 12) (a := true) (pr_at hkl) (pe_okc _)
          generalize mo[k] = r at *
          refine d_l _ hix fun _ => d_call (ok_Seen l2 r (by omega) fun q h => ⟨(hq2 q h).1.cl.1.ln (by omega), (hq2 q h).1.cl.2.ln (by omega)⟩) (d_l (.bool (!dq (r ∈ l2))) rfl fun _ => d_ite (fun hs => ?_) fun hs => ?_)
          · have hno : r ∉ l2 := fun hin => by rw [dq_t hin] at hs; cases hs
            refine d_l _ hix fun _ => d_l (.sl [pe r]) (e_lst fun x hx => by simp at hx; subst hx; exact pe_okc _) fun _ => d_l (.sl (l2.map pe ++ [pe r])) (e_app (l := l2.map pe) (m := [pe r]) (fun x hx => by simp at hx; subst hx; exact pe_okc _) (by simp; omega) (by simp; omega)) fun _ => d_l _ (e_inc (by omega)) fun _ => d_cont rfl ⟨m2 - 1, by omega, k + 1, l2 ++ [r], by omega, ?_, fun q' hq' => ?_, ?_, fun r' hr' => ?_, by rw [List.map_append]; rfl⟩
            · rw [List.take_append_of_le_length hll2]; exact ht2
            · rcases List.mem_append.1 hq' with h | h
              · exact hq2 q' h
              · obtain rfl := List.mem_singleton.1 h
                exact hr
            · rw [List.nodup_append]
              exact ⟨hn2, by simp, fun a ha b hb e => by simp at hb; subst hb; subst e; exact hno ha⟩
            · rw [htk] at hr'
              rcases List.mem_append.1 hr' with h | h
              · exact List.mem_append_left _ (hc2 r' h)
              · exact List.mem_append_right _ h
          · have hin : r ∈ l2 := dq_iff.1 (by simpa using hs)
            refine d_l _ (e_inc (by omega)) fun _ => d_cont rfl ⟨m2 - 1, by omega, k + 1, l2, by omega, ht2, hq2, hn2, fun r' hr' => ?_, rfl⟩
            rw [htk] at hr'
            rcases List.mem_append.1 hr' with h | h
            · exact hc2 r' h
            · obtain rfl := List.mem_singleton.1 h
              exact hin
        · have ek : mo.take k = mo := List.take_of_length_le (by omega)
          rw [ek] at hc2
          have hj2 : l2.take (j + 1) = l.take (j + 1) := by rw [← ht2, List.take_take]; congr 1; omega
          have h02 : l2[0]? = some p := by
            have : (l2.take l.length)[0]? = some p := by rw [ht2]; exact h0
            rw [List.getElem?_take] at this
            split at this
            · exact this
            · cases this
          refine d_l _ (e_inc (by omega)) fun _ => d_cont rfl ⟨m' - 1, by omega, j + 1, l2, by omega, by omega, h02, hq2, hn2, fun q' hq' => ?_, rfl⟩
          rw [hj2, htake] at hq'
          rcases List.mem_append.1 hq' with h | h
          · exact fun m hm' r hr => hsub r (hc q' h m hm' r hr)
          · obtain rfl := List.mem_singleton.1 h
            intro m hm' r hr
            rw [hne1] at hm'; cases hm'
            exact hc2 r hr
    · have e : l.take j = l := List.take_of_length_le (by omega)
      rw [e] at hc
      exact d_ret ⟨l, rfl, h0, (fun q h => (hq q h).1), by omega, hc⟩)
  obtain ⟨_, ⟨l, rfl, h1, h2, h3, h4⟩, h⟩ := this
  exact ⟨l, h, h1, h2, h3, h4⟩
end Go.Proofs.YtijamnklmohjfaaDoor.Tx

/- The reference's subtyping (4): the greatest fixed point. -/
import Derived.Test.YtijamnklmohjfaaDoorWk122
set_option linter.all false
namespace Go.Proofs.YtijamnklmohjfaaDoor.Tx
open Go.Lf Go.Lf.S Go.Lf.Duo
set_option maxRecDepth 100000

/-- related: a set of pairs has all that its pairs need -/
def RelP (ne : Ty × Ty → Option (List (Ty × Ty))) (p : Ty × Ty) : Prop := ∃ R : Ty × Ty → Prop, R p ∧ ∀ q, R q → ∃ m, ne q = some m ∧ ∀ r ∈ m, R r
theorem RelP.step {ne : Ty × Ty → Option (List (Ty × Ty))} {p : Ty × Ty} (h : RelP ne p) : ∃ m, ne p = some m ∧ ∀ r ∈ m, RelP ne r := by
  obtain ⟨R, h1, h2⟩ := h
  obtain ⟨m, h3, h4⟩ := h2 p h1
  exact ⟨m, h3, fun r hr => ⟨R, h4 r hr, h2⟩⟩

theorem cnt_set : ∀ (h : List Bool) (j : Nat), h[j]? = some true → (h.set j false).count true + 1 = h.count true
  | [], j, e => by simp at e
  | b :: h, 0, e => by
    simp at e; subst e; simp
  | b :: h, j + 1, e => by
    have := cnt_set h j (by simpa using e)
    simp only [List.set_cons_succ, List.count_cons]
    omega
theorem bl_at {h : List Bool} {j : Nat} {b : Bool} (e : h[j]? = some b) : (h.map PV.bool)[j]? = some (.bool b) := by simp [e]
theorem ev_bl {h : List Bool} {j : Nat} {b : Bool} (e : h[j]? = some b) : (Prim.idx 1 false).ev [.sl (h.map .bool), i (j : Int)] = some (.bool b) := e_idx (bl_at e) rfl
theorem up_bl {h : List Bool} {j : Nat} {b : Bool} (e : j < h.length) : (Prim.upd 1 false).ev [.sl (h.map .bool), i (j : Int), .bool b] = some (.sl ((h.set j b).map .bool)) := by
  rw [e_updT (by simpa using e) rfl, List.map_set]

structure HInv (ne : Ty × Ty → Option (List (Ty × Ty))) (l : List (Ty × Ty)) (h : List Bool) : Prop where
  len : h.length = l.length
  ok : ∀ (j : Nat) q, l[j]? = some q → h[j]? = some true → (ne q).isSome = true
  rel : ∀ (j : Nat) q, l[j]? = some q → RelP ne q → h[j]? = some true
def StbAt (ne : Ty × Ty → Option (List (Ty × Ty))) (ix : Ty × Ty → Nat) (l : List (Ty × Ty)) (h : List Bool) (j : Nat) : Prop := ∀ q m, l[j]? = some q → h[j]? = some true → ne q = some m → ∀ r ∈ m, h[ix r]? = some true
def Stb (ne : Ty × Ty → Option (List (Ty × Ty))) (ix : Ty × Ty → Nat) (l : List (Ty × Ty)) (h : List Bool) : Prop := ∀ j, StbAt ne ix l h j

theorem nd_0 (o : Option (List (Ty × Ty))) : (Prim.tc 0).ev [ndV o] = some (.sl ((o.getD []).map pe)) := by cases o <;> rfl
theorem nd_1 (o : Option (List (Ty × Ty))) : (Prim.tc 1).ev [ndV o] = some (.bool o.isSome) := by cases o <;> rfl

theorem ok_ref11_Sub {L : List Ty} {M : Nat} (hM : M ≤ 1000) (hLl : L.length ≤ 1000) {ne : Ty × Ty → Option (List (Ty × Ty))} (hne : NeOk L M ne) {A B : Ty} (hA : CL L M A) (hB : CL L M B) :
    ∃ b, Ok P F.ref11_Sub [A.enc, B.enc] (.bool b) ∧ (b = true ↔ RelP ne (lw (A, B))) := by
  obtain ⟨l, hR, h0, hlw, hll, hcl⟩ := ok_reached hM hLl hne (p := lw (A, B)) ⟨A, B, hA, hB, rfl⟩
  have hlow := ok_Lower hA.unf.1 (hA.ln (by omega)) (hB.ln (by omega)) (B := B)
  generalize lw (A, B) = p at *
  have hln : ∀ q ∈ l, Ln q.1 ∧ Ln q.2 := fun q h => ⟨(hlw q h).cl.1.ln (by omega), (hlw q h).cl.2.ln (by omega)⟩
  obtain ⟨ix, hix⟩ : ∃ ix : Ty × Ty → Nat, ∀ r ∈ l, ix r < l.length ∧ l[ix r]? = some r ∧ Ok P F.ref11_index [.sl (l.map pe), pe r] (i (ix r : Int)) := by
    classical
    refine ⟨fun r => if h : r ∈ l then Classical.choose (ok_index11 l r (by omega) hln h) else 0, fun r h => ?_⟩
    simp only [dif_pos h]
    exact Classical.choose_spec (ok_index11 l r (by omega) hln h)
  have hnd : ∀ q ∈ l, Ok P F.ref11_needs [pe q] (ndV (ne q)) ∧ (ne q).getD [] ⊆ l ∧ ((ne q).getD []).length ≤ M + 2 := fun q hq => by
    have c := (hlw q hq).cl
    obtain ⟨g1, g2⟩ := hne q c.1 c.2
    refine ⟨g1, ?_, ?_⟩
    · cases e : ne q with
      | none => simp
      | some m => exact fun r hr => hcl q hq m e r hr
    · cases e : ne q with
      | none => simp
      | some m => exact (g2.yes m e).2.1
  have hlen : Prim.len.ev [.sl (l.map pe)] = some (i (l.length : Int)) := len_pr l
  have h0l : 0 < l.length := (List.getElem?_eq_some_iff.1 h0).1
  have hrep : (Prim.rep 1 false 1 (.bool false)).ev [i (l.length : Int)] = some (.sl ((List.replicate l.length false).map .bool)) := by
    show (if 0 ≤ (l.length : Int) ∧ (l.length : Int).toNat * 1 ≤ roomB ∧ (l.length : Int) ≤ maxLen ∧ (PV.bool false).okc 1 false then some (PV.sl (List.replicate (l.length : Int).toNat (.bool false))) else none) = _
    have hm : (1100000001 : Int) ≤ maxLen := by decide
    rw [if_pos ⟨by omega, by unfold roomB; omega, by omega, rfl⟩, Int.toNat_natCast, List.map_replicate]
  have lidx : ∀ (j : Nat) (h : j < l.length), (Prim.idx 12 true).ev [.sl (l.map pe), i (j : Int)] = some (pe l[j]) := fun j h => e_idx (pr_at h) (pe_okc _)
  have := tx_ex (K := fun x => ∃ b, x = .bool b ∧ (b = true ↔ RelP ne p)) k_ref11_Sub (xs := [A.enc, B.enc]) rfl (by simp [t_ref11_Sub, T.dt]) (by
    refine d_l _ (e_okc (Ty.okc_enc A)) fun _ => d_l _ (e_okc (Ty.okc_enc B)) fun _ => d_call hlow (d_call hR (d_l _ hlen fun _ => d_l _ hrep fun _ => ?_))
    refine den_loop (fun m' ys => ∃ (j : Nat) (h : List Bool), j + m' = l.length ∧ h.length = l.length ∧ (∀ (k : Nat) q, k < j → l[k]? = some q → h[k]? = some (ne q).isSome) ∧ ys = [i j, .sl (h.map .bool)]) l.length ⟨0, _, by omega, by simp, (fun k q h => by omega), rfl⟩ ?_
    rintro m' _ ⟨j, h, hj, hh, hok, rfl⟩
    refine d_l _ hlen fun _ => d_l (.bool (decide ((j : Int) < (l.length : Int)))) rfl fun _ => d_dec (p := (j : Int) < (l.length : Int)) (fun hlt => ?_) fun hlt => ?_
    · have hjl : j < l.length := by omega
      have hhj : h[j]? = some (h[j]'(by omega)) := List.getElem?_eq_getElem (by omega)
      obtain ⟨n1, _, _⟩ := hnd _ (List.getElem_mem hjl)
      refine d_l _ (lidx j hjl) fun _ => d_call n1 (d_l _ (nd_0 _) fun _ => d_l _ (nd_1 _) fun _ => d_l _ (ev_bl hhj) fun _ => d_l _ (up_bl (by omega)) fun _ => d_l _ (e_inc (by omega)) fun _ => d_cont rfl ⟨m' - 1, by omega, j + 1, _, by omega, by simpa using hh, fun k q hk hq => ?_, rfl⟩)
      by_cases e : k = j
      · subst e
        rw [List.getElem?_eq_getElem hjl] at hq
        cases hq
        rw [List.getElem?_set_self (by omega)]
      · rw [List.getElem?_set_ne (by omega)]
        exact hok k q (by omega) hq
    have hI0 : HInv ne l h := ⟨hh, fun k q hq ht => by
      have := hok k q (by have := (List.getElem?_eq_some_iff.1 hq).1; omega) hq
      rw [ht] at this; exact (Option.some.inj this).symm, fun k q hq hr => by
      obtain ⟨m, hm, _⟩ := hr.step
      have := hok k q (by have := (List.getElem?_eq_some_iff.1 hq).1; omega) hq
      rw [this, hm]; rfl⟩
    clear hok
    refine den_loop (fun m2 ys => ∃ (t : Nat) (h : List Bool), t + m2 = l.length + 1 ∧ HInv ne l h ∧ (Stb ne ix l h ∨ h.count true + t ≤ l.length) ∧ ys = [i t, .sl (h.map .bool)]) (l.length + 1) ⟨0, h, by omega, hI0, .inr (by have := List.count_le_length (a := true) (l := h); omega), rfl⟩ ?_
    rintro m2 _ ⟨t, h0', ht, hI, hst, rfl⟩
    refine d_l _ hlen fun _ => d_l (.bool (decide ((t : Int) ≤ (l.length : Int)))) rfl fun _ => d_dec (p := (t : Int) ≤ (l.length : Int)) (fun hle => ?_) fun hle => ?_
    · -- one round
      refine den_loop (fun m3 ys => ∃ (j : Nat) (h : List Bool), j + m3 = l.length ∧ HInv ne l h ∧ (Stb ne ix l h0' → h = h0') ∧ ((h = h0' ∧ ∀ k, k < j → StbAt ne ix l h0' k) ∨ h.count true < h0'.count true) ∧ ys = [i j, .sl (h.map .bool)]) l.length ⟨0, h0', by omega, hI, fun _ => rfl, .inl ⟨rfl, fun k h => by omega⟩, rfl⟩ ?_
      rintro m3 _ ⟨j, h1, hj1, hI1, hs1, hc1, rfl⟩
      refine d_l _ hlen fun _ => d_l (.bool (decide ((j : Int) < (l.length : Int)))) rfl fun _ => d_dec (p := (j : Int) < (l.length : Int)) (fun hlt => ?_) fun hlt => ?_
      · have hjl : j < l.length := by omega
        obtain ⟨n1, n2, n3⟩ := hnd _ (List.getElem_mem hjl)
        have hlq : l[j]? = some l[j] := List.getElem?_eq_getElem hjl
        refine d_l _ (lidx j hjl) fun _ => d_call n1 (d_l _ (nd_0 _) fun _ => d_l _ (nd_1 _) fun _ => ?_)
        generalize l[j] = q at *
        generalize hmo : (ne q).getD [] = mo at *
        have hneq : ∀ m, ne q = some m → m = mo := fun m e => by rw [← hmo, e]; rfl
        refine den_loop (fun m4 ys => ∃ (k : Nat) (h : List Bool), k + m4 = mo.length ∧ HInv ne l h ∧ (Stb ne ix l h0' → h = h0') ∧ ((h = h0' ∧ (∀ k, k < j → StbAt ne ix l h0' k) ∧ (h0'[j]? = some true → ∀ r ∈ mo.take k, h0'[ix r]? = some true)) ∨ h.count true < h0'.count true) ∧ ys = [i k, .sl (h.map .bool)]) mo.length
          ⟨0, h1, by omega, hI1, hs1, hc1.imp (fun ⟨a, b⟩ => ⟨a, b, by simp⟩) id, rfl⟩ ?_
        rintro m4 _ ⟨k, h2, hk, hI2, hs2, hc2, rfl⟩
        have hh2 : h2[j]? = some (h2[j]'(by rw [hI2.len]; exact hjl)) := List.getElem?_eq_getElem _
        generalize h2[j]'(by rw [hI2.len]; exact hjl) = bj at hh2
        refine d_l _ (len_pr mo) fun _ => d_l (.bool (decide ((k : Int) < (mo.length : Int)))) rfl fun _ => d_dec (p := (k : Int) < (mo.length : Int)) (fun hkl => ?_) fun hkl => ?_
        · have hkm : k < mo.length := by omega
          have htk : mo.take (k + 1) = mo.take k ++ [mo[k]] := List.take_succ_eq_append_getElem hkm
          have hmk := e_idx (n := 12) (a := true) (pr_at hkm) (pe_okc _)
          have hrm : mo[k] ∈ mo := List.getElem_mem hkm
          have hrl := n2 hrm
          generalize mo[k] = r at *
          refine d_l _ (ev_bl hh2) fun _ => d_l _ (ev_bl hh2) fun _ => ?_
          cases bj with
          | true =>
            obtain ⟨i1, i2, i3⟩ := hix r hrl
            have hhr : h2[ix r]? = some (h2[ix r]'(by rw [hI2.len]; exact i1)) := List.getElem?_eq_getElem _
            generalize h2[ix r]'(by rw [hI2.len]; exact i1) = br at hhr
            refine d_true (d_l _ hmk fun _ => d_call i3 (d_l _ (ev_bl hhr) fun _ => d_l _ (ev_bl hhr) fun _ => d_l _ (ev_bl hh2) fun _ => d_l _ (up_bl (by rw [hI2.len]; exact hjl)) fun _ => d_l _ (e_inc (by omega)) fun _ => d_cont rfl ?_))
            cases br with
            | true =>
              have he : h2.set j true = h2 := by
                obtain ⟨hjl2, hv⟩ := List.getElem?_eq_some_iff.1 hh2
                have e0 : h2.set j h2[j] = h2 := List.set_getElem_self hjl2
                rwa [hv] at e0
              rw [he]
              refine ⟨m4 - 1, by omega, k + 1, h2, by omega, hI2, hs2, hc2.imp (fun ⟨a, b, c⟩ => ⟨a, b, fun hj0 r' hr' => ?_⟩) id, rfl⟩
              rw [htk] at hr'
              rcases List.mem_append.1 hr' with h | h
              · exact c hj0 r' h
              · obtain rfl := List.mem_singleton.1 h
                rw [← a]; exact hhr
            | false =>
              have hcn := cnt_set h2 j hh2
              have hle2 : h2.count true ≤ h0'.count true := by
                rcases hc2 with ⟨a, _⟩ | a
                · rw [a]; exact Nat.le_refl _
                · omega
              have hnr : ¬ RelP ne q := fun hr => by
                obtain ⟨m, e1, e2⟩ := hr.step
                have := hI2.rel _ r i2 (e2 r (by rw [hneq m e1]; exact hrm))
                rw [hhr] at this; cases this
              refine ⟨m4 - 1, by omega, k + 1, _, by omega, ⟨by simpa using hI2.len, fun a q' hq' ht => ?_, fun a q' hq' hr => ?_⟩, fun hS => ?_, .inr (by omega), rfl⟩
              · by_cases e : a = j
                · subst e
                  rw [List.getElem?_set_self (by rw [hI2.len]; exact hjl)] at ht
                  cases ht
                · rw [List.getElem?_set_ne (by omega)] at ht
                  exact hI2.ok a q' hq' ht
              · by_cases e : a = j
                · subst e
                  rw [hlq] at hq'; cases hq'
                  exact absurd hr hnr
                · rw [List.getElem?_set_ne (by omega)]
                  exact hI2.rel a q' hq' hr
              · have e := hs2 hS
                subst e
                obtain ⟨m, hm⟩ := Option.isSome_iff_exists.1 (hI2.ok j q hlq hh2)
                have := hS j q m hlq hh2 hm r (by rw [hneq m hm]; exact hrm)
                rw [hhr] at this; cases this
          | false =>
            refine d_false (d_l _ (e_inc (by omega)) fun _ => d_cont rfl ⟨m3 - 1, by omega, j + 1, h2, by omega, hI2, hs2, hc2.imp (fun ⟨a, b, c⟩ => ⟨a, fun k hk => ?_⟩) id, rfl⟩)
            by_cases e : k = j
            · subst e
              intro q' m hq' ht
              rw [← a, hh2] at ht; cases ht
            · exact b k (by omega)
        · have ek : mo.take k = mo := List.take_of_length_le (by omega)
          rw [ek] at hc2
          refine d_l _ (e_inc (by omega)) fun _ => d_cont rfl ⟨m3 - 1, by omega, j + 1, h2, by omega, hI2, hs2, hc2.imp (fun ⟨a, b, c⟩ => ⟨a, fun k hk => ?_⟩) id, rfl⟩
          by_cases e : k = j
          · subst e
            intro q' m hq' ht hm
            rw [hlq] at hq'; cases hq'
            rw [hneq m hm]
            exact c ht
          · exact b k (by omega)
      · refine d_l _ (e_inc (by omega)) fun _ => d_cont rfl ⟨m2 - 1, by omega, t + 1, h1, by omega, hI1, ?_, rfl⟩
        have hall : (∀ k, k < j → StbAt ne ix l h0' k) → Stb ne ix l h0' := fun h k => by
          by_cases e : k < j
          · exact h k e
          · intro q m hq
            have := (List.getElem?_eq_some_iff.1 hq).1
            omega
        rcases hst with hS | hn
        · left; rw [hs1 hS]; exact hS
        · rcases hc1 with ⟨a, b⟩ | a
          · left; rw [a]; exact hall b
          · right; omega
    · -- done
      have hS : Stb ne ix l h0' := by
        rcases hst with h | h
        · exact h
        · omega
      have h00 : h0'[0]? = some (h0'[0]'(by rw [hI.len]; exact h0l)) := List.getElem?_eq_getElem _
      generalize h0'[0]'(by rw [hI.len]; exact h0l) = b at h00
      have hv : (Prim.idx 1 false).ev [.sl (h0'.map .bool), i 0] = some (.bool b) := ev_bl (j := 0) h00
      refine d_l _ hv fun _ => d_l _ hv fun _ => d_ret ⟨b, rfl, fun hb => ?_, fun hr => ?_⟩
      · subst hb
        refine ⟨fun q => ∃ j : Nat, l[j]? = some q ∧ h0'[j]? = some true, ⟨0, h0, h00⟩, ?_⟩
        rintro q ⟨j, hq, hj⟩
        obtain ⟨m, hm⟩ := Option.isSome_iff_exists.1 (hI.ok j q hq hj)
        refine ⟨m, hm, fun r hr => ?_⟩
        have hrl := hcl q (List.mem_of_getElem? hq) m hm r hr
        exact ⟨ix r, (hix r hrl).2.1, hS j q m hq hj hm r hr⟩
      · have := hI.rel 0 p h0 hr
        rw [h00] at this
        exact Option.some.inj this)
  obtain ⟨_, ⟨b, rfl, hb⟩, h⟩ := this
  exact ⟨b, h, hb⟩
end Go.Proofs.YtijamnklmohjfaaDoor.Tx

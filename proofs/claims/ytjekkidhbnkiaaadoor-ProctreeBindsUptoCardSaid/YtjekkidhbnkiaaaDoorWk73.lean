/- The free names (4): the law ProctreeBinds. -/
import Derived.Test.YtjekkidhbnkiaaaDoorWk72
set_option linter.all false
namespace Go.Proofs.YtjekkidhbnkiaaaDoor.Tx
open Go.Lf Go.Lf.S Go.Lf.Duo
set_option maxRecDepth 100000

theorem fltB_nil (l : List ByteArray) : fltB [] l = l := by
  unfold fltB
  rw [List.filter_eq_self]
  intro a _
  have : memB a [] = false := by cases h : memB a [] with | false => rfl | true => exact absurd (memB_iff.1 h) (by simp)
  rw [this]; rfl
theorem memB_app (s : ByteArray) (a b : List ByteArray) : memB s (a ++ b) = (memB s a || memB s b) := by
  rw [Bool.eq_iff_iff, memB_iff, Bool.or_eq_true, memB_iff, memB_iff, List.mem_append]
theorem fltB_fltB (a b l : List ByteArray) : fltB a (fltB b l) = fltB (a ++ b) l := by
  unfold fltB
  rw [List.filter_filter]
  congr 1
  funext s
  rw [memB_app]
  cases memB s a <;> cases memB s b <;> rfl
theorem mem_fltB {s : ByteArray} {b l : List ByteArray} : s ∈ fltB b l ↔ s ∈ l ∧ s ∉ b := by
  unfold fltB
  rw [List.mem_filter, Bool.not_eq_true']
  constructor
  · rintro ⟨h1, h2⟩
    exact ⟨h1, fun h => by rw [memB_iff.2 h] at h2; cases h2⟩
  · rintro ⟨h1, h2⟩
    refine ⟨h1, ?_⟩
    cases h : memB s b with
    | false => rfl
    | true => exact absurd (memB_iff.1 h) h2

theorem bnd_app (k : Int) (c v : ByteArray) (b : List ByteArray) : bnd k c v b = b ++ bnd k c v [] := by
  unfold bnd
  split
  · simp
  · split <;> simp
mutual
theorem usF_flt : ∀ (p : Pr) (b : List ByteArray), usF p b = fltB b (usF p [])
  | .mk k c v ls ar t ks, b => by
    have h1 : usF (.mk k c v ls ar t ks) b = fltB b (uN k c ar) ++ usFs ks (bnd k c v b) := by simp only [usF]; rfl
    have h2 : usF (.mk k c v ls ar t ks) [] = fltB [] (uN k c ar) ++ usFs ks (bnd k c v []) := by simp only [usF]; rfl
    rw [h1, h2, fltB_nil, fltB_app, usFs_flt ks (bnd k c v b), usFs_flt ks (bnd k c v []), fltB_fltB, ← bnd_app]
theorem usFs_flt : ∀ (l : List Pr) (b : List ByteArray), usFs l b = fltB b (usFs l [])
  | [], b => by simp [usFs, fltB]
  | p :: r, b => by
    simp only [usFs]
    rw [fltB_app, ← usF_flt p b, ← usFs_flt r b]
end

theorem addAll_snoc (o l : List ByteArray) (s : ByteArray) : addAll o (l ++ [s]) = addS s (addAll o l) := by rw [addAll_app]; rfl
theorem mem_addAll {s : ByteArray} : ∀ {l o : List ByteArray}, s ∈ addAll o l ↔ s ∈ o ∨ s ∈ l := by
  intro l
  induction l with
  | nil => intro o; simp [addAll]
  | cons x l ih =>
    intro o
    show s ∈ addAll (addS x o) l ↔ _
    rw [ih, mem_addS, List.mem_cons, or_assoc]
theorem snoc_ind {α : Type} {p : List α → Prop} (h0 : p []) (h1 : ∀ l a, p l → p (l ++ [a])) : ∀ l, p l := by
  have : ∀ m : Nat, ∀ l : List α, l.length = m → p l := by
    intro m
    induction m with
    | zero => intro l h; rw [List.eq_nil_of_length_eq_zero h]; exact h0
    | succ m ih =>
      intro l h
      have hne : l ≠ [] := fun e => by rw [e] at h; cases h
      rw [← List.dropLast_concat_getLast hne]
      exact h1 _ _ (ih _ (by rw [List.length_dropLast]; omega))
  exact fun l => this _ l rfl
theorem addS_eq (s : ByteArray) (o : List ByteArray) : addS s o = o ++ fltB o [s] := by
  unfold addS fltB
  cases h : memB s o <;> simp [h]
theorem addAll_flt (b : List ByteArray) : ∀ l : List ByteArray, addAll [] (fltB b l) = fltB b (addAll [] l) := by
  refine snoc_ind rfl fun l s ih => ?_
  rw [addAll_snoc, fltB_app]
  cases hb : memB s b with
  | true =>
    rw [fltB_one_in hb, List.append_nil, ih, addS_eq, fltB_app]
    have : fltB b (fltB (addAll [] l) [s]) = [] := by
      rw [List.eq_nil_iff_forall_not_mem]
      intro a ha
      obtain ⟨h1, h2⟩ := mem_fltB.1 ha
      obtain ⟨h3, _⟩ := mem_fltB.1 h1
      rw [List.mem_singleton.1 h3] at h2
      exact h2 (memB_iff.1 hb)
    rw [this, List.append_nil]
  | false =>
    rw [fltB_one hb, addAll_snoc, ih, addS_eq, addS_eq, fltB_app]
    congr 1
    have hs : s ∉ b := fun h => by rw [memB_iff.2 h] at hb; cases hb
    cases h2 : memB s (addAll [] l) with
    | true =>
      rw [fltB_one_in h2, fltB_one_in (memB_iff.2 (mem_fltB.2 ⟨memB_iff.1 h2, hs⟩))]; rfl
    | false =>
      rw [fltB_one h2, fltB_one hb, fltB_one]
      cases h3 : memB s (fltB b (addAll [] l)) with
      | false => rfl
      | true =>
        have := (mem_fltB.1 (memB_iff.1 h3)).1
        rw [memB_iff.2 this] at h2; cases h2
theorem addAll_from (o : List ByteArray) : ∀ l : List ByteArray, addAll o l = o ++ fltB o (addAll [] l) := by
  refine snoc_ind (by simp [addAll, fltB]) fun l s ih => ?_
  rw [addAll_snoc, addAll_snoc, addS_eq, addS_eq, fltB_app, ← List.append_assoc, ← ih]
  congr 1
  have hm : s ∈ addAll o l ↔ s ∈ o ∨ s ∈ addAll [] l := by rw [mem_addAll, mem_addAll]; simp
  cases h1 : memB s (addAll [] l) with
  | true =>
    rw [fltB_one_in (memB_iff.2 (hm.2 (.inr (memB_iff.1 h1)))), fltB_one_in h1]; rfl
  | false =>
    rw [fltB_one h1]
    have hn : s ∉ addAll [] l := fun h => by rw [memB_iff.2 h] at h1; cases h1
    cases h2 : memB s o with
    | true => rw [fltB_one_in h2, fltB_one_in (memB_iff.2 (hm.2 (.inl (memB_iff.1 h2))))]
    | false =>
      rw [fltB_one h2, fltB_one]
      cases h3 : memB s (addAll o l) with
      | false => rfl
      | true =>
        rcases hm.1 (memB_iff.1 h3) with h | h
        · rw [memB_iff.2 h] at h2; cases h2
        · exact absurd h hn

def zTy : Ty := .mk 0 0 ⟨#[]⟩ 0 [] []
def eTy : Ty := .mk 3 0 ⟨#[]⟩ 0 [] []
theorem lim_lit (k : Int) : Lim (.mk k 0 ⟨#[]⟩ 0 [] []) := .mk _ (Nat.zero_le _) (by intro s hs; cases hs) (Nat.zero_le _) (Nat.zero_le _) (by intro s hs; cases hs)
theorem plim_of {k : Int} {c x : ByteArray} {ks : List Pr} {t : Ty} (ht : Lim t) (hc : c.size ≤ maxLen) (hx : x.size ≤ maxLen) (hl : ks.length ≤ maxLen) (hk : ∀ p ∈ ks, PLim p) : PLim (.mk k c x [] [] t ks) :=
  .mk _ hc hx (by intro s hs; cases hs) (Nat.zero_le _) (by intro s hs; cases hs) (Nat.zero_le _) ht hl hk

theorem e_neqS (a b : ByteArray) : (Prim.scmp .neq).ev [.str a, .str b] = some (.bool (!decide (a = b))) := rfl

theorem ok_law03_ProctreeBinds (p q : Pr) (c x : ByteArray) (hp : PLim p) (hq : PLim q) (hc : c.size ≤ maxLen) (hx : x.size ≤ maxLen) (hA : PA 1048576 p) (hB : PA 1048576 q) : Ok P F.law03_ProctreeBinds [p.enc, q.enc, .str c, .str x] (.bool true) := by
  obtain ⟨rp, kp, kp2⟩ := ok_ref03_Few p hp 500 (by omega) (by omega)
  obtain ⟨rq, kq, kq2⟩ := ok_ref03_Few q hq 500 (by omega) (by omega)
  refine k_law03_ProctreeBinds _ _ rfl (d_l _ (e_okc (Pr.okc_enc p)) fun _ => d_l _ (e_okc (Pr.okc_enc q)) fun _ => d_call awake03 (d_l _ rfl fun _ => d_false ?_))
  refine d_call kp (d_l _ rfl fun _ => d_ite (fun _ => d_call awake03 (d_ret rfl)) fun h1 => ?_)
  refine d_call kq (d_l _ rfl fun _ => d_ite (fun _ => d_call awake03 (d_ret rfl)) fun h2 => ?_)
  obtain ⟨p1, p2, _⟩ := kp2 (by simpa using h1)
  obtain ⟨q1, q2, _⟩ := kq2 (by simpa using h2)
  have np := nU_small (m := 500) p1 (by omega) hA
  have nq := nU_small (m := 500) q1 (by omega) hB
  have f1 := ok_proctree_Free (.mk 3 c x [] [] zTy [p]) (plim_of (lim_lit 0) hc hx (by simp [maxLen]) (by simpa using hp)) (by simp only [pdep, pdeps]; omega) (by simp only [nU, nUs, List.length_nil]; omega)
  have f2 := ok_proctree_Free (.mk 6 c x [] [] eTy [p]) (plim_of (lim_lit 3) hc hx (by simp [maxLen]) (by simpa using hp)) (by simp only [pdep, pdeps]; omega) (by simp only [nU, nUs, List.length_nil]; omega)
  have f3 := ok_proctree_Free (.mk 7 ⟨#[]⟩ ⟨#[]⟩ [] [] zTy [p, q]) (plim_of (lim_lit 0) (Nat.zero_le _) (Nat.zero_le _) (by simp [maxLen]) (by simp [hp, hq])) (by simp only [pdep, pdeps]; omega) (by simp only [nU, nUs, List.length_nil]; omega)
  have f4 := ok_ref03_Free p hp (by omega) (by omega)
  have f5 := ok_ref03_Free q hq (by omega) (by omega)
  have e1 : usF (.mk 3 c x [] [] zTy [p]) [] = [c] ++ fltB [x] (usF p []) := by
    have : usF (.mk 3 c x [] [] zTy [p]) [] = fltB [] [c] ++ (usF p [x] ++ []) := rfl
    rw [this, fltB_nil, List.append_nil, usF_flt p [x]]
  have e2 : usF (.mk 6 c x [] [] eTy [p]) [] = fltB [c, x] (usF p []) := by
    have : usF (.mk 6 c x [] [] eTy [p]) [] = fltB [] [] ++ (usF p [c, x] ++ []) := rfl
    rw [this, fltB_nil, List.append_nil, usF_flt p [c, x]]; rfl
  have e3 : usF (.mk 7 ⟨#[]⟩ ⟨#[]⟩ [] [] zTy [p, q]) [] = usF p [] ++ usF q [] := by
    have : usF (.mk 7 ⟨#[]⟩ ⟨#[]⟩ [] [] zTy [p, q]) [] = fltB [] [] ++ (usF p [] ++ (usF q [] ++ [])) := rfl
    rw [this, fltB_nil, List.append_nil]; rfl
  rw [e1, addAll_app, show addAll [] [c] = [c] from rfl, addAll_from, addAll_flt] at f1
  rw [e2, addAll_flt] at f2
  rw [e3] at f3
  rw [Pr.enc_mk] at f1 f2 f3
  have lp := usF_len p []
  have lq := usF_len q []
  have lfp := addAll_len (usF p []) []
  have lfq := addAll_len (usF q []) []
  have lfb := addAll_len (usF p [] ++ usF q []) []
  have hbP : ∀ s, s ∈ addAll [] (usF p []) → s ∈ addAll [] (usF p [] ++ usF q []) := fun s hs => by
    rw [mem_addAll] at hs ⊢
    exact hs.imp id fun h => List.mem_append_left _ h
  have hbQ : ∀ s, s ∈ addAll [] (usF q []) → s ∈ addAll [] (usF p [] ++ usF q []) := fun s hs => by
    rw [mem_addAll] at hs ⊢
    exact hs.imp id fun h => List.mem_append_right _ h
  rw [List.length_append] at lfb
  simp only [List.length_nil] at lfp lfq lfb
  generalize addAll [] (usF p [] ++ usF q []) = bo at f3 hbP hbQ lfb
  generalize addAll [] (usF p []) = fr at f1 f2 f4 hbP lfp
  generalize addAll [] (usF q []) = ot at f5 hbQ lfq
  clear e1 e2 e3 kp2 kq2
  have hlf : ∀ b l : List ByteArray, (fltB b l).length ≤ l.length := fun b l => List.length_filter_le _ _
  have hl1 := hlf [c, x] fr
  have hl2 := hlf [c] (fltB [x] fr)
  have hl3 := hlf [x] fr
  have i1 : ∀ s, s ∈ fr → s ≠ x → memB s ([c] ++ fltB [c] (fltB [x] fr)) = true := fun s hs hsx => by
    refine memB_iff.2 ?_
    by_cases hsc : s = c
    · rw [hsc]; simp
    · exact List.mem_append_right _ (mem_fltB.2 ⟨mem_fltB.2 ⟨hs, by simpa using hsx⟩, by simpa using hsc⟩)
  have i2 : ∀ s, s ∈ fr → s ≠ x → s ≠ c → memB s (fltB [c, x] fr) = true := fun s hs hsx hsc => memB_iff.2 (mem_fltB.2 ⟨hs, by simp [hsx, hsc]⟩)
  have i3 : ∀ s, s ∈ fr → memB s bo = true := fun s hs => memB_iff.2 (hbP s hs)
  have i4 : ∀ s, s ∈ ot → memB s bo = true := fun s hs => memB_iff.2 (hbQ s hs)
  have hcx : fltB [c] (fltB [x] fr) = fltB [c, x] fr := fltB_fltB [c] [x] fr
  rw [hcx] at f1 i1
  have t1 : ∀ s, Ok P F.ref03_In [.str s, .sl (([c] ++ fltB [c, x] fr).map .str)] (.bool (memB s ([c] ++ fltB [c, x] fr))) := fun s => okx_ref03_In s _ (by simp; omega)
  have t2 : ∀ s, Ok P F.ref03_In [.str s, .sl ((fltB [c, x] fr).map .str)] (.bool (memB s (fltB [c, x] fr))) := fun s => okx_ref03_In s _ (by omega)
  have t3 : ∀ s, Ok P F.ref03_In [.str s, .sl (bo.map .str)] (.bool (memB s bo)) := fun s => okx_ref03_In s _ (by omega)
  have l1 : (Prim.lst 12 true).ev [p.enc] = some (.sl [p.enc]) := e_lst (by intro y hy; rw [List.mem_singleton] at hy; subst hy; exact Pr.okc_enc _)
  have l2 : (Prim.lst 12 true).ev [p.enc, q.enc] = some (.sl [p.enc, q.enc]) := e_lst (by intro y hy; simp at hy; rcases hy with rfl | rfl <;> exact Pr.okc_enc _)
  refine d_l _ l1 fun _ => d_l _ rfl fun _ => d_call f1 (d_l _ l1 fun _ => d_l _ rfl fun _ => d_call f2 (d_l _ l2 fun _ => d_call f3 (d_call f4 ?_)))
  refine den_rounds (fun j => [i j, i ((fltB [c, x] (fr.take j)).length : Nat)]) fr.length (by simp [fltB]) (fun j hj => ?_) ?_
  · have hm : fr[j] ∈ fr := List.getElem_mem hj
    have hx0 : (Prim.idx 1 false).ev [.sl (fr.map .str), i (j : Int)] = some (.str fr[j]) := e_idx (mp_at hj) rfl
    have hlt : (fltB [c, x] (fr.take j)).length ≤ j := by
      have := hlf [c, x] (fr.take j)
      rw [List.length_take] at this; omega
    have hinc := e_inc (k := j) (by omega)
    refine d_l _ (len_eq fr) fun _ => d_l _ rfl fun _ => d_dec (p := (j : Int) < (fr.length : Int)) (fun _ => ?_) fun h => absurd (show (j : Int) < (fr.length : Int) by omega) h
    by_cases hfx : fr[j] = x
    · have n1 : (Prim.scmp .neq).ev [.str fr[j], .str x] = some (.bool false) := by rw [e_neqS]; simp [hfx]
      have hst : fltB [c, x] (fr.take (j + 1)) = fltB [c, x] (fr.take j) := by
        rw [fltB_take _ _ j hj, memB_iff.2 (by simp [hfx]), if_pos rfl, List.append_nil]
      have s3 := t3 fr[j]
      rw [i3 _ hm] at s3
      refine d_l _ hx0 fun _ => d_l _ n1 fun _ => d_false (d_l _ hx0 fun _ => d_l _ n1 fun _ => d_false (d_l _ hx0 fun _ => d_call s3 (d_l _ rfl fun _ => d_false (d_l _ hx0 fun _ => d_l _ n1 fun _ => d_false (d_l _ hinc fun _ => d_cont rfl ?_)))))
      rw [hst]; rfl
    · have n1 : (Prim.scmp .neq).ev [.str fr[j], .str x] = some (.bool true) := by rw [e_neqS]; simp [hfx]
      have s1 := t1 fr[j]
      rw [i1 _ hm hfx] at s1
      have s3 := t3 fr[j]
      rw [i3 _ hm] at s3
      refine d_l _ hx0 fun _ => d_l _ n1 fun _ => d_true (d_l _ hx0 fun _ => d_call s1 (d_l _ rfl fun _ => d_false (d_l _ hx0 fun _ => d_l _ n1 fun _ => d_true (d_l _ hx0 fun _ => ?_))))
      by_cases hfc : fr[j] = c
      · have n2 : (Prim.scmp .neq).ev [.str fr[j], .str c] = some (.bool false) := by rw [e_neqS]; simp [hfc]
        have hst : fltB [c, x] (fr.take (j + 1)) = fltB [c, x] (fr.take j) := by
          rw [fltB_take _ _ j hj, memB_iff.2 (by simp [hfc]), if_pos rfl, List.append_nil]
        refine d_l _ n2 fun _ => d_false (d_l _ hx0 fun _ => d_call s3 (d_l _ rfl fun _ => d_false (d_l _ hx0 fun _ => d_l _ n1 fun _ => d_true (d_l _ hx0 fun _ => d_l _ n2 fun _ => d_false (d_l _ hinc fun _ => d_cont rfl ?_)))))
        rw [hst]; rfl
      · have n2 : (Prim.scmp .neq).ev [.str fr[j], .str c] = some (.bool true) := by rw [e_neqS]; simp [hfc]
        have s2 := t2 fr[j]
        rw [i2 _ hm hfx hfc] at s2
        have hst : (fltB [c, x] (fr.take (j + 1))).length = (fltB [c, x] (fr.take j)).length + 1 := by
          have hm0 : memB fr[j] [c, x] = false := by
            cases h : memB fr[j] [c, x] with
            | false => rfl
            | true => have := memB_iff.1 h; simp [hfx, hfc] at this
          rw [fltB_take _ _ j hj, hm0]; simp
        refine d_l _ n2 fun _ => d_true (d_l _ hx0 fun _ => d_call s2 (d_l _ rfl fun _ => d_false (d_l _ hx0 fun _ => d_call s3 (d_l _ rfl fun _ => d_false (d_l _ hx0 fun _ => d_l _ n1 fun _ => d_true (d_l _ hx0 fun _ => d_l _ n2 fun _ => d_true (d_l _ (e_inc (by omega)) fun _ => d_l _ hinc fun _ => d_cont rfl ?_)))))))
        rw [hst]
  · refine d_l _ (len_eq fr) fun _ => d_l _ rfl fun _ => d_dec (p := (fr.length : Int) < (fr.length : Int)) (fun h => absurd h (by omega)) fun _ => ?_
    rw [List.take_length]
    refine d_call f5 ?_
    refine den_rounds (fun j => [i j]) ot.length rfl (fun j hj => ?_) ?_
    · have hx0 : (Prim.idx 1 false).ev [.sl (ot.map .str), i (j : Int)] = some (.str ot[j]) := e_idx (mp_at hj) rfl
      have s3 := t3 ot[j]
      rw [i4 _ (List.getElem_mem hj)] at s3
      exact d_l _ (len_eq ot) fun _ => d_l _ rfl fun _ => d_dec (p := (j : Int) < (ot.length : Int)) (fun _ => d_l _ hx0 fun _ => d_call s3 (d_l _ rfl fun _ => d_false (d_l _ (e_inc (by omega)) fun _ => d_cont rfl rfl))) fun h => absurd (show (j : Int) < (ot.length : Int) by omega) h
    · refine d_l _ (len_eq ot) fun _ => d_l _ rfl fun _ => d_dec (p := (ot.length : Int) < (ot.length : Int)) (fun h => absurd h (by omega)) fun _ => ?_
      have s1 := t1 c
      rw [memB_iff.2 (by simp)] at s1
      refine d_l _ (len_eq ([c] ++ fltB [c, x] fr)) fun _ => d_l _ (e_inc (by omega)) fun _ => d_l (.bool true) ?_ fun _ => d_true (d_l _ (len_eq (fltB [c, x] fr)) fun _ => d_l (.bool true) ?_ fun _ => d_true (d_call s1 (d_ret rfl)))
      · show some (PV.bool (decide ((([c] ++ fltB [c, x] fr).length : Int) = (((fltB [c, x] fr).length + 1 : Nat) : Int)))) = _
        rw [decide_eq_true (by simp)]
      · show some (PV.bool (decide (((fltB [c, x] fr).length : Int) = ((fltB [c, x] fr).length : Int)))) = _
        rw [decide_eq_true rfl]
end Go.Proofs.YtjekkidhbnkiaaaDoor.Tx

/- Contracts (Wk55, Wk56, Wk57, Wk206, Wk100, Wk101, Wk102, Wk103, Wk104). -/
import Derived.Test.YtkpnmgohbipjjaaGreatDoorWk54
import Derived.Test.YtkpnmgohbipjjaaGreatDoorWk45
import Derived.Test.YtkpnmgohbipjjaaGreatDoorLfD
set_option linter.all false
/- Contracts: the error of a type, exactly, of the program and of the reference. -/
namespace Go.Proofs.YtkpnmgohbipjjaaGreatDoor.Tx
open Go.Lf Go.Lf.S Go.Lf.Duo
set_option maxRecDepth 100000
theorem nodeE_if {k p : Int} {nm : ByteArray} {s : Int} {ls : List ByteArray} {ks : List Ty} {ses : Bool} {A B : Int} (h : shapeP (.mk k p nm s ls ks)) (hs : ses = true → sesB k = true) : (if (pb (¬ shP k p nm s ls ks.length) || (ses && !sesB k)) = true then A else B) = B := by
 have h1 : pb (¬ shP k p nm s ls ks.length) = false := pb_false.2 fun e => e h
 rw [h1]
 cases ses with
 | false => rfl
 | true => rw [hs rfl]; rfl
theorem nodeE_3 {k p : Int} {nm : ByteArray} {s : Int} {ls : List ByteArray} {ks : List Ty} {ns : List ByteArray} {g : Nat} {ses : Bool} (h : ¬ shapeP (.mk k p nm s ls ks)) : nodeE (.mk k p nm s ls ks) ns g ses = 3 := by
 have h1 : pb (¬ shP k p nm s ls ks.length) = true := pb_iff.2 h
 simp only [nodeE, h1, Bool.true_or, if_true]
theorem nodeE_3s {k p : Int} {nm : ByteArray} {s : Int} {ls : List ByteArray} {ks : List Ty} {ns : List ByteArray} {g : Nat} {ses : Bool} (hs : ses = true) (h : sesB k = false) : nodeE (.mk k p nm s ls ks) ns g ses = 3 := by
 simp only [nodeE, hs, h]
 simp
theorem nodeE_9 {k p : Int} {nm : ByteArray} {s : Int} {ls : List ByteArray} {ks : List Ty} {ns : List ByteArray} {g : Nat} {ses : Bool} (h : shapeP (.mk k p nm s ls ks)) (hs : ses = true → sesB k = true) (h9 : k = 9) :
  nodeE (.mk k p nm s ls ks) ns g ses = match lastI nm ns with
   | some q => if q < g then 0 else 3
   | none => 4 := by
 simp only [nodeE]
 rw [nodeE_if h hs, if_pos h9] <;> rfl
theorem nodeE_o {k p : Int} {nm : ByteArray} {s : Int} {ls : List ByteArray} {ks : List Ty} {ns : List ByteArray} {g : Nat} {ses : Bool} (h : shapeP (.mk k p nm s ls ks)) (hs : ses = true → sesB k = true) (h9 : ¬ k = 9) :
  nodeE (.mk k p nm s ls ks) ns g ses = nodeEs ks (decide (4 ≤ k ∧ k ≤ 5)) (if k = 8 then ns ++ [nm] else ns) (if k = 8 then g else ns.length) := by
 rw [nodeE, nodeE_if h hs, if_neg h9]
end Go.Proofs.YtkpnmgohbipjjaaGreatDoor.Tx
/- Contracts: depth, sameness of types; lists compared and searched by a function. -/
namespace Go.Proofs.YtkpnmgohbipjjaaGreatDoor.Tx
open Go.Lf Go.Lf.S Go.Lf.Duo
set_option maxRecDepth 100000
/-! a list searched by a function -/
/-! lists compared by a function -/
theorem len_eq {α : Type} {f : α → PV} (l : List α) : Prim.len.ev [.sl (l.map f)] = some (i (l.length : Int)) := by
 rw [← List.length_map (f := f)]; exact e_len
theorem mp_at {α : Type} {f : α → PV} {l : List α} {j : Nat} (h : j < l.length) : (l.map f)[j]? = some (f l[j]) := by simp [h]
/-! types -/
end Go.Proofs.YtkpnmgohbipjjaaGreatDoor.Tx
/- Contracts: right types, exactly, of the program and of the reference; few nodes. -/
namespace Go.Proofs.YtkpnmgohbipjjaaGreatDoor.Tx
open Go.Lf Go.Lf.S Go.Lf.Duo
set_option maxRecDepth 100000
theorem okx_ref02_node : ∀ (t : Ty), Lim t → ∀ (ns : List ByteArray) (g : Nat) (ses : Bool), ns.length + t.sz ≤ 1099511627776 →
    Ok P F.ref02_node [t.enc, .sl (ns.map .str), i g, .bool ses] (i (nodeE t ns g ses)) := by
  intro t
  induction t using Ty.ind with
  | _ t ih =>
  intro hlim ns g ses hz
  have hb := okx_ref02_shape t hlim
  have hse : Ok P F.ref02_Session [t.enc] (.bool (sesB t.kind)) := ok_ref02_Session t
  have hkl := szs_len t.kids
  cases hlim with
  | mk _ hn hl hll hkl' hkk =>
  obtain ⟨k, p, nm, s, ls, ks⟩ := t
  have hzk : ∀ x ∈ ks, x.sz < (Ty.mk k p nm s ls ks).sz := fun x hx => Ty.sz_kid hx
  simp only [Ty.kids] at ih hkl hkk
  have hks : ks.length ≤ 1099511627776 := by simp only [Ty.sz] at hz; omega
  have hns : ns.length ≤ 1099511627776 := by omega
  rw [Ty.enc_mk] at hb hse ⊢
  refine k_ref02_node _ _ rfl ?_
  refine d_l (.agg [.int .i64 k, .int .i64 p, .str nm, .int .i64 s, .sl (ls.map .str), .sl (ks.map Ty.enc)]) rfl fun _ => d_call hb (d_l _ rfl fun _ => d_ite (fun h => d_ret ?_) fun h => ?_)
  · have h : pb (shapeP (.mk k p nm s ls ks)) = false := by simpa using h
    rw [nodeE_3 (pb_false.1 h)]
  have hsh : shapeP (.mk k p nm s ls ks) := pb_iff.1 (by simpa using h)
  have hsh' := hsh
  simp only [shapeP, shP, Ty.kind, Ty.prio, Ty.shift, Ty.kids, Ty.labels, Ty.name] at hsh'
  refine d_ite (fun hs => d_call hse (d_l _ rfl fun _ => d_ite (fun h2 => d_ret ?_) fun h2 => ?_)) fun hs => ?_
  · rw [nodeE_3s hs (by simpa [Ty.kind] using h2)]
  all_goals
    have hs2 : ses = true → sesB k = true := by
      intro e
      first
        | exact (by simpa [Ty.kind] using h2)
        | exact (by rw [hs] at e; cases e)
    refine d_l _ rfl fun _ => d_dec (fun h9 => ?_) fun h9 => ?_
    · have h9 : k = 9 := h9
      rw [nodeE_9 hsh hs2 h9]
      refine d_l _ e_len fun _ => d_l _ (e_sub (by simp; omega) (by simp; omega)) fun _ => ?_
      refine den_loop (fun m ys => ∃ q : Int, q + 1 = m ∧ q < ns.length ∧ (∀ x : Nat, q < x → ns[x]? ≠ some nm) ∧ ys = [i q]) ns.length ⟨ns.length - 1, by omega, by omega, fun x hx => by rw [List.getElem?_eq_none (by omega)]; simp, by simp⟩ ?_
      rintro m _ ⟨q, hq1, hq2, hq3, rfl⟩
      refine d_l _ rfl fun _ => d_dec (fun h => ?_) fun h => d_ret ?_
      rotate_left
      · have h : ¬ (0 : Int) ≤ q := h
        rw [lastI_not fun x => hq3 x (by omega)]
      have h : (0 : Int) ≤ q := h
      obtain ⟨j, rfl⟩ : ∃ j : Nat, q = j := ⟨q.toNat, by omega⟩
      have hlt : j < ns.length := by omega
      refine d_l _ (e_idx (str_at hlt) rfl) fun _ => d_l _ rfl fun _ => d_dec (fun he => ?_) fun he => ?_
      · have he : ns[j] = nm := he
        have hli : lastI nm ns = some j := lastI_is (by rw [List.getElem?_eq_getElem hlt, he]) fun x hx => hq3 x (by omega)
        rw [hli]
        exact d_l _ rfl fun _ => d_dec (fun hg => d_ret (by have hg : (j : Int) < (g : Int) := hg; simp only []; rw [if_pos (by omega)])) fun hg => d_ret (by have hg : ¬ (j : Int) < (g : Int) := hg; simp only []; rw [if_neg (by omega)])
      · refine d_l _ (e_sub (by omega) (by omega)) fun _ => d_cont rfl ⟨m - 1, by omega, (j : Int) - 1, by omega, by omega, fun x hx => ?_, rfl⟩
        by_cases hxj : x = j
        · subst hxj; rw [List.getElem?_eq_getElem hlt]; intro e; exact he (Option.some.inj e)
        · exact hq3 x (by omega)
    · have h9 : ¬ k = 9 := h9
      rw [nodeE_o hsh hs2 h9]
      refine d_l _ rfl fun _ => d_dec (fun h8 => ?_) fun h8 => ?_
      · have h8 : k = 8 := h8
        rw [if_pos h8, if_pos h8]
        have hk1 : ks.length = 1 := by grind
        obtain ⟨x, rfl⟩ : ∃ x, ks = [x] := by
          match ks, hk1 with
          | [x], _ => exact ⟨x, rfl⟩
        have he := ih x (by simp) (hkk _ (by simp)) (ns ++ [nm]) g true (by have := hzk x (by simp); simp; omega)
        refine d_l x.enc (e_idx (k := 0) (l := [x].map Ty.enc) rfl (Ty.okc_enc _)) fun _ => d_l _ rfl fun _ => d_l _ (e_app (all_map okc_str _) (by simp; omega) (by simp; omega)) fun _ => d_l _ rfl fun _ => d_l _ (e_app (fun x hx => by simp at hx; subst hx; rfl) (by simp; omega) (by simp; omega)) fun _ => ?_
        rw [List.map_append] at he
        refine d_call he (d_ret ?_)
        have e2 : nodeEs [x] (decide (4 ≤ k ∧ k ≤ 5)) (ns ++ [nm]) g = nodeE x (ns ++ [nm]) g true := by
          rw [nodeEs_cons, nodeEs_nil, decide_eq_false (by omega)]
          simp only [Bool.not_false]
          split
          · rfl
          · rename_i h0; exact (Decidable.not_not.1 h0).symm
        rw [e2]
      · have h8 : ¬ k = 8 := h8
        rw [if_neg h8, if_neg h8]
        refine den_loop (fun m ys => ∃ j : Nat, j + m = ks.length ∧ nodeEs (ks.drop j) (if j = 0 then decide (4 ≤ k ∧ k ≤ 5) else false) ns ns.length = nodeEs ks (decide (4 ≤ k ∧ k ≤ 5)) ns ns.length ∧ ys = [i j]) ks.length ⟨0, by omega, by simp, rfl⟩ ?_
        rintro m _ ⟨j, hj, hE, rfl⟩
        refine d_l _ (len_eq ks) fun _ => d_l _ rfl fun _ => d_dec (fun h => ?_) fun h => d_ret ?_
        · have hlt : j < ks.length := by have h : (j : Int) < (ks.length : Int) := h; omega
          have hmem : ks[j] ∈ ks := List.getElem_mem hlt
          rw [nodeEs_drop hlt] at hE
          have fin : ∀ ses : Bool, ses = (!(if j = 0 then decide (4 ≤ k ∧ k ≤ 5) else false)) → (T.call F.ref02_node [ks[j].enc, .sl (ns.map .str), i (ns.length : Int), .bool ses] fun x20 =>
             .l (.cmp .neq .i64) [x20, (i 0)] fun x21 =>
             .ite x21 (.ret x20) (
              .l (.arith .add .i64) [i j, (i 1)] fun x22 =>
              .cont 0 [x22])).den0 P (· = i (nodeEs ks (decide (4 ≤ k ∧ k ≤ 5)) ns ns.length)) ([] ++ [fun zs => ∃ m', m' < m ∧ ∃ j : Nat, j + m' = ks.length ∧ nodeEs (ks.drop j) (if j = 0 then decide (4 ≤ k ∧ k ≤ 5) else false) ns ns.length = nodeEs ks (decide (4 ≤ k ∧ k ≤ 5)) ns ns.length ∧ zs = [i j]]) := by
            rintro ses rfl
            refine d_call (ih _ hmem (hkk _ hmem) ns ns.length _ (by have := hzk _ hmem; omega)) (d_l _ rfl fun _ => d_ndec (fun h0 => d_ret ?_) fun h0 => d_l _ (e_inc (by omega)) fun _ => d_cont rfl ⟨m - 1, by omega, j + 1, by omega, ?_, rfl⟩)
            · have h0 : ¬ nodeE ks[j] ns ns.length (!(if j = 0 then decide (4 ≤ k ∧ k ≤ 5) else false)) = 0 := h0
              rw [if_pos h0] at hE
              rw [← hE]
            · have h0 : nodeE ks[j] ns ns.length (!(if j = 0 then decide (4 ≤ k ∧ k ≤ 5) else false)) = 0 := h0
              rw [if_neg (fun e => e h0)] at hE
              rw [if_neg (by omega)]
              exact hE
          refine d_l _ (e_idx (mp_at hlt) (Ty.okc_enc _)) fun _ => d_l _ (len_eq ns) fun _ => d_l _ rfl fun _ => d_dec (fun h0 => fin true (by have h0 : 0 < (j : Int) := h0; rw [if_neg (by omega)]; rfl)) fun h0 => d_l (.bool (decide (5 < k))) rfl fun _ => fin _ ?_
          have h0 : ¬ 0 < (j : Int) := h0
          rw [if_pos (by omega)]
          have : ¬ (1 ≤ k ∧ k ≤ 3) := fun e => by
            have : ks.length = 0 := by grind
            omega
          have : 1 ≤ k := by grind
          rw [← decide_not]
          exact decide_eq_decide.2 ⟨fun e => by omega, fun e => by omega⟩
        · have h : ¬ (j : Int) < (ks.length : Int) := h
          rw [List.drop_eq_nil_of_le (by omega), nodeEs_nil] at hE
          rw [← hE]
noncomputable def rightE (t : Ty) : Int := if 100 < dep t ∨ 10000 < t.sz then 2 else nodeE t [] 0 false
theorem okx_ref02_Right (t : Ty) (hlim : Lim t) (hz : t.sz ≤ 1099511627776) : Ok P F.ref02_Right [t.enc] (i (rightE t)) := by
 have hd := ok_ref02_Depth t hz
 have hs := ok_ref02_Size t hz
 have he := okx_ref02_node t hlim [] 0 false (by simp; omega)
 refine k_ref02_Right _ _ rfl (d_l _ (e_okc (Ty.okc_enc t)) fun _ => d_call hd (d_l _ rfl fun _ => d_dec (fun h => d_ret ?_) fun h => d_call hs (d_l _ rfl fun _ => d_dec (fun h2 => d_ret ?_) fun h2 => d_call he (d_ret ?_))))
 ·have h : (100 : Int) < (dep t : Int) := h
  rw [rightE, if_pos (by omega)]
 ·have h2 : (10000 : Int) < (t.sz : Int) := h2
  rw [rightE, if_pos (by omega)]
 ·have h : ¬ (100 : Int) < (dep t : Int) := h
  have h2 : ¬ (10000 : Int) < (t.sz : Int) := h2
  rw [rightE, if_neg (by omega)]
end Go.Proofs.YtkpnmgohbipjjaaGreatDoor.Tx
/- What right types are like throughout: labels are names, rests are sessions. -/
namespace Go.Proofs.YtkpnmgohbipjjaaGreatDoor.Tx
open Go.Lf Go.Lf.S Go.Lf.Duo
set_option maxRecDepth 100000
/-! a node without a fault -/
theorem nodeEs_zero {g : Nat} {ns : List ByteArray} : ∀ {ks : List Ty} {pay : Bool}, nodeEs ks pay ns g = 0 ↔ ∀ (j : Nat) (k : Ty), ks[j]? = some k → nodeE k ns g (!(pay && decide (j = 0))) = 0
 | [], pay => by simp [nodeEs_nil]
 | t :: r, pay => by
  rw [nodeEs_cons]
  constructor
  ·intro h j k hj
   split at h
   ·rename_i h0; exact absurd h h0
   ·rename_i h0
    have h0 : nodeE t ns g (!pay) = 0 := Decidable.not_not.1 h0
    cases j with
    | zero => cases (Option.some.inj hj : t = k); simpa using h0
    | succ j =>
     have := (nodeEs_zero (ks := r) (pay := false)).1 h j k (by simpa using hj)
     simpa using this
  ·intro h
   have h0 := h 0 t rfl
   rw [if_neg (by simpa using h0)]
   refine (nodeEs_zero (ks := r) (pay := false)).2 fun j k hj => ?_
   have := h (j + 1) k (by simpa using hj)
   simpa using this
theorem nodeE_zero {k p : Int} {nm : ByteArray} {s : Int} {ls : List ByteArray} {ks : List Ty} {ns : List ByteArray} {g : Nat} {ses : Bool} : nodeE (.mk k p nm s ls ks) ns g ses = 0 ↔ shapeP (.mk k p nm s ls ks) ∧ (ses = true → sesB k = true) ∧ (k = 9 → ∃ q, lastI nm ns = some q ∧ q < g) ∧
  (¬ k = 9 → ∀ (j : Nat) (x : Ty), ks[j]? = some x → nodeE x (if k = 8 then ns ++ [nm] else ns) (if k = 8 then g else ns.length) (!(decide (4 ≤ k ∧ k ≤ 5) && decide (j = 0))) = 0) := by
 by_cases hsh : shapeP (.mk k p nm s ls ks)
 ·by_cases hs : ses = true → sesB k = true
  ·by_cases h9 : k = 9
   ·rw [nodeE_9 hsh hs h9]
    cases hl : lastI nm ns with
    | none =>
     refine ⟨fun h => absurd (show (4 : Int) = 0 from h) (by decide), ?_⟩
     rintro ⟨_, _, h, _⟩
     obtain ⟨q, hq, _⟩ := h h9
     cases hq
    | some q =>
     simp only []
     refine ⟨fun h => ⟨hsh, hs, fun _ => ⟨q, rfl, ?_⟩, fun h => absurd h9 h⟩, ?_⟩
     ·by_cases c : q < g
      ·exact c
      ·rw [if_neg c] at h; exact absurd h (by decide)
     ·rintro ⟨_, _, h, _⟩
      obtain ⟨q', hq, hlt⟩ := h h9
      cases hq
      rw [if_pos hlt]
   ·rw [nodeE_o hsh hs h9, nodeEs_zero]
    exact ⟨fun h => ⟨hsh, hs, fun h => absurd h h9, fun _ => h⟩, fun h => h.2.2.2 h9⟩
  ·have h2 : ses = true ∧ sesB k = false := by
    cases ses <;> cases hk : sesB k <;> simp [hk] at hs ⊢
   rw [nodeE_3s h2.1 h2.2]
   refine ⟨fun h => absurd h (by decide), ?_⟩
   rintro ⟨_, h, _⟩
   exact absurd h hs
 ·rw [nodeE_3 hsh]
  refine ⟨fun h => absurd h (by decide), ?_⟩
  rintro ⟨h, _⟩
  exact absurd h hsh
theorem wf_of : ∀ {t : Ty} {ns : List ByteArray} {g : Nat} {ses : Bool}, nodeE t ns g ses = 0 → Wf t ns g := by
  intro t
  induction t using Ty.ind with
  | _ t ih =>
  intro ns g ses h
  obtain ⟨k, p, nm, s, ls, ks⟩ := t
  obtain ⟨h1, _, h3, h4⟩ := nodeE_zero.1 h
  have hnd : ls.Nodup ∧ Wf1 (.mk k p nm s ls ks) := by
    simp only [shapeP, shP, Ty.kind, Ty.prio, Ty.shift, Ty.kids, Ty.labels, Ty.name, prP] at h1
    have hnd : ls.Nodup := by
      rcases h1 with h | h | h | h | h | h | h | h | h
      all_goals first
        | exact h.2.2.2.2.2.1.2
        | (have : ls = [] := List.eq_nil_of_length_eq_zero h.2.2.2.2.1
           rw [this]; exact List.nodup_nil)
    refine ⟨hnd, ⟨?_, hnd⟩⟩
    simp only [Ty.kind, Ty.prio, Ty.shift, Ty.kids, Ty.labels]
    clear h3 h4 h ih hnd
    rcases h1 with h | h | h | h | h | h | h | h | h
    all_goals
      obtain ⟨hk, hp, _, hs, hr⟩ := h
      subst hk
      refine ⟨⟨by omega, by omega⟩, ⟨by omega, by omega, by omega, by omega⟩, fun c => ⟨?_, ?_, ?_⟩, fun c => ⟨?_, ?_⟩, fun c => ⟨?_, ?_⟩, fun c => ⟨?_, ?_⟩, fun c => ⟨?_, ?_⟩⟩
      all_goals omega
  refine .mk _ _ _ hnd.2 (fun h9 => ?_) (fun h8 x hx => ?_) (fun h8 x hx => ?_)
  · obtain ⟨q, hq, hlt⟩ := h3 h9
    obtain ⟨g1, g2⟩ := lastI_some hq
    exact ⟨q, hlt, g1, g2⟩
  · have h8 : k = 8 := h8
    obtain ⟨j, hj, rfl⟩ := List.getElem_of_mem (show x ∈ ks from hx)
    have := h4 (by omega) j _ (List.getElem?_eq_getElem hj)
    rw [if_pos h8, if_pos h8] at this
    exact ih _ (List.getElem_mem hj) this
  · have h8 : ¬ k = 8 := h8
    obtain ⟨j, hj, rfl⟩ := List.getElem_of_mem (show x ∈ ks from hx)
    by_cases h9 : k = 9
    · have := (hnd.2.1.2.2.2.2.2.2 h9).1
      have : ks.length = 0 := this
      omega
    have := h4 h9 j _ (List.getElem?_eq_getElem hj)
    rw [if_neg h8, if_neg h8] at this
    exact ih _ (List.getElem_mem hj) this
/-! labels are names, rests are sessions -/
inductive Gd : Ty → Prop
 | mk (t : Ty) (hl : labP t.labels) (hz : ∀ s ∈ t.labels, s.size ≤ maxLen) (h6 : 6 ≤ t.kind ∧ t.kind ≤ 7 → 0 < t.labels.length) (hs : ∀ (j : Nat) (k : Ty), t.kids[j]? = some k → (j = 0 ∧ 4 ≤ t.kind ∧ t.kind ≤ 5) ∨ sesB k.kind = true) (hk : ∀ k ∈ t.kids, Gd k) : Gd t
theorem Gd.raise (k : Int) : ∀ {t : Ty}, Gd t → Gd (raiseT k t) := by
 intro t
 induction t using Ty.ind with
 | _ t ih =>
 intro h
 cases h with
 | mk _ hl hz h6 hs hk =>
 refine .mk _ (by rw [raise_labels]; exact hl) (by rw [raise_labels]; exact hz) (by rw [raise_labels, raise_kind]; exact h6) (fun j x hx => ?_) fun x hx => ?_
 ·rw [raise_kids, List.getElem?_map, Option.map_eq_some_iff] at hx
  obtain ⟨y, hy, rfl⟩ := hx
  rw [raise_kind, raise_kind]; exact hs j y hy
 ·rw [raise_kids] at hx
  obtain ⟨y, hy, rfl⟩ := List.mem_map.1 hx
  exact ih y hy (hk y hy)
theorem Gd.put {x : ByteArray} {b : Ty} (hb : Gd b) (hsb : sesB b.kind = true) : ∀ {t : Ty}, Gd t → Gd (putT x b t) ∧ (sesB t.kind = true → sesB (putT x b t).kind = true) := by
 intro t
 induction t using Ty.ind with
 | _ t ih =>
 intro h
 have h0 := h
 cases h with
 | mk _ hl hz h6 hs hk =>
 obtain ⟨kd, p, nm, s, ls, ks⟩ := t
 unfold putT
 split
 ·exact ⟨hb.raise s, fun _ => by rw [raise_kind]; exact hsb⟩
 ·split
  ·exact ⟨h0.raise 0, fun h => by rw [raise_kind]; exact h⟩
  ·rw [putTs_eq]
   refine ⟨.mk _ hl hz h6 (fun j k hjk => ?_) fun k hk' => ?_, fun h => h⟩
   ·have hjk : (ks.map (putT x b))[j]? = some k := hjk
    rw [List.getElem?_map, Option.map_eq_some_iff] at hjk
    obtain ⟨y, hy, rfl⟩ := hjk
    rcases hs j y hy with h | h
    ·exact .inl h
    ·exact .inr ((ih y (List.mem_of_getElem? hy) (hk y (List.mem_of_getElem? hy))).2 h)
   ·obtain ⟨y, hy, rfl⟩ := List.mem_map.1 (show k ∈ ks.map (putT x b) from hk')
    exact (ih y hy (hk y hy)).1
theorem Gd.unf {t u : Ty} (h : Unf t u) : Gd t → Gd u ∧ (sesB t.kind = true → sesB u.kind = true) := by
 induction h with
 | done t h => exact fun g => ⟨g.raise 0, fun h => by rw [raise_kind]; exact h⟩
 | step t q u r h hk hu ih =>
  intro g
  have g0 := g
  cases g with
  | mk _ hl hz h6 hs hkk =>
  have hq : Gd q := hkk q (by rw [hk]; simp)
  have hsq : sesB q.kind = true := by
   rcases hs 0 q (by rw [hk]; rfl) with c | c
   ·omega
   ·exact c
  have hst : sesB t.kind = true := by rw [h]; decide
  obtain ⟨g1, g2⟩ := g0.put hst hq (x := t.name)
  obtain ⟨g3, g4⟩ := ih g1
  exact ⟨g3, fun _ => g4 (g2 hsq)⟩
theorem gd_of : ∀ {t : Ty} {ns : List ByteArray} {g : Nat} {ses : Bool}, Lim t → nodeE t ns g ses = 0 → Gd t ∧ (ses = true → sesB t.kind = true) := by
 intro t
 induction t using Ty.ind with
 | _ t ih =>
 intro ns g ses hlim h
 cases hlim with
 | mk _ hn hl hll hk hkk =>
 obtain ⟨k, p, nm, s, ls, ks⟩ := t
 obtain ⟨h1, h2, _, h4⟩ := nodeE_zero.1 h
 simp only [shapeP, shP, Ty.kind, Ty.prio, Ty.shift, Ty.kids, Ty.labels, Ty.name, prP] at h1
 have hlab : labP ls ∧ (6 ≤ k ∧ k ≤ 7 → 0 < ls.length) ∧ (k = 9 → ks = []) := by
  have hz : ls.length = 0 → labP ls := fun e => by rw [List.eq_nil_of_length_eq_zero e]; exact labP_nil
  refine ⟨?_, ?_, fun e => List.eq_nil_of_length_eq_zero ?_⟩
  ·rcases h1 with h | h | h | h | h | h | h | h | h
   all_goals first
    | exact h.2.2.2.2.2.1
    | exact hz h.2.2.2.2.1
  ·clear h4 h2 h ih; grind
  ·clear h4 h2 h ih; grind
 have hkid : ∀ (j : Nat) (x : Ty), ks[j]? = some x → Gd x ∧ ((!(decide (4 ≤ k ∧ k ≤ 5) && decide (j = 0))) = true → sesB x.kind = true) := fun j x hx => by
  have h9 : ¬ k = 9 := fun e => by rw [hlab.2.2 e] at hx; simp at hx
  have hm := List.mem_of_getElem? hx
  exact ih x hm (hkk x hm) (h4 h9 j x hx)
 refine ⟨.mk _ hlab.1 hl hlab.2.1 (fun j x hx => ?_) fun x hx => ?_, h2⟩
 ·by_cases c : (decide (4 ≤ k ∧ k ≤ 5) && decide (j = 0)) = true
  ·rw [Bool.and_eq_true, decide_eq_true_eq, decide_eq_true_eq] at c
   exact .inl ⟨c.2, c.1⟩
  ·exact .inr ((hkid j x hx).2 (by rw [Bool.not_eq_true] at c; rw [c]; rfl))
 ·obtain ⟨j, hj, rfl⟩ := List.getElem_of_mem (show x ∈ ks from hx)
  exact (hkid j _ (List.getElem?_eq_getElem hj)).1
end Go.Proofs.YtkpnmgohbipjjaaGreatDoor.Tx
/- Contracts: typetree.mapped, Copy, Raise, replace, Unfold: exactly. -/
namespace Go.Proofs.YtkpnmgohbipjjaaGreatDoor.Tx
open Go.Lf Go.Lf.S Go.Lf.Duo
set_option maxRecDepth 100000
/-- priorities are numbers of the machine, and a recursive type has one body -/
inductive Pk : Ty → Prop
 | mk (t : Ty) (hp : IntKind.i64.wrap t.prio = t.prio) (h8 : t.kind = 8 → t.kids.length = 1) (h : ∀ k ∈ t.kids, Pk k) : Pk t
theorem wrap_ww (x : Int) : IntKind.i64.wrap (IntKind.i64.wrap x) = IntKind.i64.wrap x := by
 simp only [IntKind.wrap, IntKind.signed, IntKind.bits]; simp; omega
theorem Pk.raise {k : Int} : ∀ {t : Ty}, Pk t → Pk (raiseT k t) := by
 intro t
 induction t using Ty.ind with
 | _ t ih =>
 intro h
 cases h with
 | mk _ hp h8 h =>
 obtain ⟨kd, p, nm, s, ls, ks⟩ := t
 have hp : IntKind.i64.wrap p = p := hp
 rw [raiseT_mk]
 refine .mk _ ?_ (fun e => by show (ks.map (raiseT k)).length = 1; rw [List.length_map]; exact h8 e) fun x hx => ?_
 ·show IntKind.i64.wrap (if 4 ≤ kd ∧ kd ≤ 7 then ad p k else p) = if 4 ≤ kd ∧ kd ≤ 7 then ad p k else p
  split
  ·exact wrap_ww _
  ·exact hp
 ·obtain ⟨y, hy, rfl⟩ := List.mem_map.1 hx
  exact ih y hy (h y hy)
theorem Pk.put {x : ByteArray} {b : Ty} (hb : Pk b) : ∀ {t : Ty}, Pk t → Pk (putT x b t) := by
 intro t
 induction t using Ty.ind with
 | _ t ih =>
 intro h
 have h' := h
 cases h with
 | mk _ hp h8 h =>
 obtain ⟨kd, p, nm, s, ls, ks⟩ := t
 have hp : IntKind.i64.wrap p = p := hp
 unfold putT
 split
 ·exact hb.raise
 ·split
  ·exact h'.raise
  ·rw [putTs_eq]
   refine .mk _ ?_ (fun e => by show (ks.map (putT x b)).length = 1; rw [List.length_map]; exact h8 e) fun y hy => ?_
   ·show IntKind.i64.wrap (if 4 ≤ kd ∧ kd ≤ 7 then ad p 0 else p) = if 4 ≤ kd ∧ kd ≤ 7 then ad p 0 else p
    split
    ·exact wrap_ww _
    ·exact hp
   ·obtain ⟨z, hz, rfl⟩ := List.mem_map.1 hy
    exact ih z hz (h z hz)
theorem Pk.unf {t u : Ty} (h : Unf t u) : Pk t → Pk u := by
 induction h with
 | done t h => exact Pk.raise
 | step t k u r h hk hu ih =>
  intro hl
  have hk' : Pk k := by
   cases hl with
   | mk _ _ _ h => exact h k (by rw [hk]; exact List.mem_cons_self)
  exact ih (Pk.put hl hk')
theorem Ln.unf {t u : Ty} (h : Unf t u) : Ln t → Ln u := by
 induction h with
 | done t h => exact Ln.raise
 | step t k u r h hk hu ih =>
  intro hl
  have hk' : Ln k := by
   cases hl with
   | mk _ _ _ h => exact h k (by rw [hk]; exact List.mem_cons_self)
  exact ih (Ln.put hl hk')
theorem Wf.pk : ∀ {t : Ty} {ns : List ByteArray} {g : Nat}, Wf t ns g → Pk t := by
 intro t
 induction t using Ty.ind with
 | _ t ih =>
 intro ns g h
 cases h with
 | mk _ _ _ h1 h9 h8 hk =>
 have hp := h1.1.2.1
 have h8k := h1.1.2.2.2.2.2.1
 refine .mk _ (wrap_in (by omega) (by omega)) (fun e => (h8k e).1) fun k hkm => ?_
 by_cases e : t.kind = 8
 ·exact ih k hkm (h8 e k hkm)
 ·exact ih k hkm (hk e k hkm)
end Go.Proofs.YtkpnmgohbipjjaaGreatDoor.Tx
/- Contracts: a monitor's functions. -/
namespace Go.Proofs.YtkpnmgohbipjjaaGreatDoor.Tx
open Go.Lf Go.Lf.S Go.Lf.Duo
set_option maxRecDepth 100000
/-! ### types as they come up under unfolding -/
def NdS (d : Nd) : Prop := (4 ≤ d.kind ∧ d.kind ≤ 5 → d.next.length = 2 ∧ d.labels.length = 0) ∧ (6 ≤ d.kind ∧ d.kind ≤ 7 → d.next.length = d.labels.length)
/-- a closed type that comes of a right one -/
def Md (u : Ty) : Prop := Ln u ∧ Pk u ∧ Lim u ∧ ∃ ds r, (∀ d ∈ ds, NdS d) ∧ RT ds r u
theorem lim_raise' {k : Int} : ∀ {t : Ty}, Lim t → Lim (raiseT k t) := by
 intro t
 induction t using Ty.ind with
 | _ t ih =>
 intro h
 cases h with
 | mk _ hn hl hll hk h =>
 obtain ⟨kd, p, nm, s, ls, ks⟩ := t
 rw [raiseT_mk]
 refine .mk _ hn hl hll (by simpa [Ty.kids] using hk) fun x hx => ?_
 obtain ⟨y, hy, rfl⟩ := List.mem_map.1 hx
 exact ih y hy (h y hy)
theorem lim_put {x : ByteArray} {b : Ty} (hb : Lim b) : ∀ {t : Ty}, Lim t → Lim (putT x b t) := by
 intro t
 induction t using Ty.ind with
 | _ t ih =>
 intro h
 have h' := h
 cases h with
 | mk _ hn hl hll hk h =>
 obtain ⟨kd, p, nm, s, ls, ks⟩ := t
 unfold putT
 split
 ·exact lim_raise' hb
 ·split
  ·exact lim_raise' h'
  ·rw [putTs_eq]
   refine .mk _ hn hl hll (by simpa [Ty.kids] using hk) fun y hy => ?_
   obtain ⟨z, hz, rfl⟩ := List.mem_map.1 hy
   exact ih z hz (h z hz)
theorem lim_unf {t u : Ty} (h : Unf t u) : Lim t → Lim u := by
 induction h with
 | done t h => exact lim_raise'
 | step t k u r h hk hu ih =>
  intro hl
  have hk' : Lim k := by
   cases hl with
   | mk _ _ _ _ _ h => exact h k (by rw [hk]; exact List.mem_cons_self)
  exact ih (lim_put hl hk')
/-- the unfolded type's shape -/
structure Sh (u : Ty) : Prop where
 n5 : 4 ≤ u.kind ∧ u.kind ≤ 5 → u.kids.length = 2
 l5 : 4 ≤ u.kind ∧ u.kind ≤ 5 → u.labels.length = 0
 n7 : 6 ≤ u.kind ∧ u.kind ≤ 7 → u.kids.length = u.labels.length
theorem Md.unf {t : Ty} (h : Md t) : ∃ u, Unf t u ∧ Md u ∧ Unf u u ∧ Sh u := by
 obtain ⟨h1, h2, h4, ds, r, h3, hr⟩ := h
 obtain ⟨h0, u, d, hU, hd, k1, _, k2, k3, _⟩ := hr.step
 have hs := h3 d (List.mem_of_getElem? hd)
 refine ⟨u, hU, ⟨Ln.unf hU h1, Pk.unf hU h2, lim_unf hU h4, ds, r, h3, hr.unf hU⟩, unf_self hU, ?_, ?_, ?_⟩
 ·intro e; rw [← k3]; exact (hs.1 (by rw [k1]; exact e)).1
 ·intro e; rw [← k2]; exact (hs.1 (by rw [k1]; exact e)).2
 ·intro e; rw [← k3, ← k2]; exact hs.2 (by rw [k1]; exact e)
/-! ### the monitor's functions -/
/-! ### an event -/
structure Ev where
 ch : Int
 plus : Bool
 label : ByteArray
 v : Vl
def Ev.enc (e : Ev) : PV := .agg [i e.ch, .bool e.plus, .str e.label, i e.v.kind, .str e.v.name, i e.v.n]
theorem Ev.okc (e : Ev) : e.enc.okc 6 true = true := rfl
def wantK (e : Ev) : Int := if e.label = ⟨#[]⟩ then (if e.plus then 4 else 5) else (if e.plus then 6 else 7)
def fitK (vk pk : Int) : Bool := if pk = 1 then decide (vk = 2) else if pk = 2 then decide (vk = 3) else decide (vk = 1)
/-- what a monitor makes of an event -/
inductive Obs (e : Ev) (us : List Ty) : Int → List Ty → Prop
 | arg (h : ¬ (0 ≤ e.ch ∧ e.ch < (us.length : Int))) : Obs e us 12 us
 | kind (h0 : 0 ≤ e.ch) (t : Ty) (ht : us[e.ch.toNat]? = some t) (h : t.kind ≠ wantK e) : Obs e us 8 us
 | nolabel (h0 : 0 ≤ e.ch) (t : Ty) (ht : us[e.ch.toNat]? = some t) (h : t.kind = wantK e) (hl : e.label ≠ ⟨#[]⟩) (hm : e.label ∉ t.labels) : Obs e us 9 us
 | label (h0 : 0 ≤ e.ch) (t : Ty) (ht : us[e.ch.toNat]? = some t) (h : t.kind = wantK e) (hl : e.label ≠ ⟨#[]⟩) (j : Nat) (hj : t.labels[j]? = some e.label) (hf : ∀ q, q < j → t.labels[q]? ≠ some e.label) (k w : Ty) (hk : t.kids[j]? = some k) (hw : Unf k w) : Obs e us 0 (us.set e.ch.toNat w)
 | nofit (h0 : 0 ≤ e.ch) (t : Ty) (ht : us[e.ch.toNat]? = some t) (h : t.kind = wantK e) (hl : e.label = ⟨#[]⟩) (p : Ty) (hp : t.kids[0]? = some p) (hn : fitK e.v.kind p.kind = false) : Obs e us 8 us
 | fit (h0 : 0 ≤ e.ch) (t : Ty) (ht : us[e.ch.toNat]? = some t) (h : t.kind = wantK e) (hl : e.label = ⟨#[]⟩) (p : Ty) (hp : t.kids[0]? = some p) (hn : fitK e.v.kind p.kind = true) (k w : Ty) (hk : t.kids[1]? = some k) (hw : Unf k w) : Obs e us 0 (us.set e.ch.toNat w)
end Go.Proofs.YtkpnmgohbipjjaaGreatDoor.Tx
/- Contracts: a monitor observes; MonitorApart. -/
namespace Go.Proofs.YtkpnmgohbipjjaaGreatDoor.Tx
open Go.Lf Go.Lf.S Go.Lf.Duo
set_option maxRecDepth 100000
theorem Ty.c5 (t : Ty) : c 5 t.enc = .sl (t.kids.map Ty.enc) := by obtain ⟨a, b, c, d, e, f⟩ := t; rw [Ty.enc_mk]; rfl
/-! ### the same type -/
/-- what an event leaves -/
theorem Obs.apart {e : Ev} {us us' : List Ty} {r : Int} (h : Obs e us r us') : us'.length = us.length ∧ (r ≠ 0 → us' = us) ∧ (r = 0 → 0 ≤ e.ch ∧ e.ch < (us.length : Int) ∧ ∀ (j : Nat), (j : Int) ≠ e.ch → us'[j]? = us[j]?) := by
 have st : ∀ (t w : Ty), 0 ≤ e.ch → us[e.ch.toNat]? = some t → (us.set e.ch.toNat w).length = us.length ∧ ((0 : Int) ≠ 0 → us.set e.ch.toNat w = us) ∧ ((0 : Int) = 0 → 0 ≤ e.ch ∧ e.ch < (us.length : Int) ∧ ∀ (j : Nat), (j : Int) ≠ e.ch → (us.set e.ch.toNat w)[j]? = us[j]?) := fun t w h0 ht => by
  have := (List.getElem?_eq_some_iff.1 ht).1
  refine ⟨by simp, fun h => absurd rfl h, fun _ => ⟨h0, by omega, fun j hj => ?_⟩⟩
  rw [List.getElem?_set_ne (by omega)]
 cases h with
 | arg h => exact ⟨rfl, fun _ => rfl, fun h => by cases h⟩
 | kind h0 t ht h => exact ⟨rfl, fun _ => rfl, fun h => by cases h⟩
 | nolabel h0 t ht h hl hm => exact ⟨rfl, fun _ => rfl, fun h => by cases h⟩
 | label h0 t ht h hl j hj hf k w hk hw => exact st t w h0 ht
 | nofit h0 t ht h hl p hp hn => exact ⟨rfl, fun _ => rfl, fun h => by cases h⟩
 | fit h0 t ht h hl p hp hn k w hk hw => exact st t w h0 ht
end Go.Proofs.YtkpnmgohbipjjaaGreatDoor.Tx
/- An event that comes in. -/
namespace Go.Proofs.YtkpnmgohbipjjaaGreatDoor.Tx
open Go.Lf Go.Lf.S Go.Lf.Duo
end Go.Proofs.YtkpnmgohbipjjaaGreatDoor.Tx
/- Contracts: the duals of types by the reference: closed, dual, Dual; what they come to. -/
namespace Go.Proofs.YtkpnmgohbipjjaaGreatDoor.Tx
open Go.Lf Go.Lf.S Go.Lf.Duo
set_option maxRecDepth 100000
abbrev Bn := ByteArray × Ty
def Bn.enc (b : Bn) : PV := .agg (.str b.1 :: b.2.cs)
theorem Bn.okc (b : Bn) : (Bn.enc b).okc 7 true = true := rfl
def lookB (l : List Bn) (nm : ByteArray) : Option Ty := (l.reverse.find? fun b => decide (b.1 = nm)).map (·.2)
mutual
def clT (l : List Bn) : Ty → Ty
 | .mk kd p nm s ls ks => if kd = 9 then (match lookB l nm with
   | some T => raiseT s T
   | none => .mk kd p nm s ls ks) else .mk kd (if 4 ≤ kd ∧ kd ≤ 7 then ad p 0 else p) nm s ls (clTs (if kd = 8 then l.filter (fun b => !decide (b.1 = nm)) else l) ks)
def clTs (l : List Bn) : List Ty → List Ty
 | [] => []
 | t :: ts => clT l t :: clTs l ts
end
theorem clTs_eq (l : List Bn) : ∀ ks : List Ty, clTs l ks = ks.map (clT l)
 | [] => by simp [clTs]
 | t :: ts => by simp [clTs, clTs_eq l ts]
def dk' (k : Int) : Int := if k = 4 then 5 else if k = 5 then 4 else if k = 6 then 7 else if k = 7 then 6 else k
mutual
def duT (l : List Bn) : Ty → Ty
 | .mk kd p nm s ls ks => .mk (dk' kd) (if 4 ≤ kd ∧ kd ≤ 7 then ad p 0 else p) nm s ls (duTs (decide (kd = 4) || decide (kd = 5)) (if kd = 8 then l ++ [(nm, clT l (.mk kd p nm s ls ks))] else l) ks)
def duTs (b : Bool) (l : List Bn) : List Ty → List Ty
 | [] => []
 | t :: ts => (if b then clT l t else duT l t) :: duTs false l ts
end
/-- what stands at a place of the dual's kids -/
def duK (b : Bool) (l : List Bn) (j : Nat) (k : Ty) : Ty := if b && decide (j = 0) then clT l k else duT l k
theorem duTs_at : ∀ (b : Bool) (l : List Bn) (ks : List Ty), duTs b l ks = ks.mapIdx (duK b l)
 | b, l, [] => by simp [duTs]
 | b, l, t :: ts => by
  simp only [duTs, List.mapIdx_cons]
  congr 1
  ·cases b <;> simp [duK]
  ·rw [duTs_at false l ts]
   congr 1
   funext j k
   simp [duK]
theorem set_next {A B : List Ty} (h : A.length = B.length) {j : Nat} (hj : j < A.length) : (A.take j ++ B.drop j).set j A[j] = A.take (j + 1) ++ B.drop (j + 1) := by
 have hl : (A.take j).length = j := by simp; omega
 rw [List.set_append_right _ _ (by omega), hl, Nat.sub_self, List.drop_eq_getElem_cons (by omega : j < B.length), List.set_cons_zero, List.take_succ_eq_append_getElem hj, List.append_assoc]
 rfl
/-- the round of closed over the kids -/
theorem cl_loop {K : PV → Prop} {hs : List (List PV → Prop)} {lv : Nat} (hlv : lv = hs.length) {ks : List Ty} {l : List Bn} {L : PV} (hk : ks.length ≤ 549755813888) (ih : ∀ t ∈ ks, Ok P F.ref14_closed [t.enc, L] (clT l t).enc) {R : PV → PV} (hR : K (R (.sl ((ks.map (clT l)).map Ty.enc)))) :
  (T.loop [i 0, .sl ((ks.map (raiseT 0)).map Ty.enc)] fun y => .l .len [.sl (ks.map Ty.enc)] fun x5 => .l (.cmp .lss .i64) [n y 0, x5] fun x6 => .ite x6
   (.l (.idx 6 true) [.sl (ks.map Ty.enc), n y 0] fun x7 => .call F.ref14_closed [x7, L] fun x8 => .l (.idx 6 true) [n y 1, n y 0] fun _ => .l (.upd 6 true) [n y 1, n y 0, x8] fun x10 => .l (.arith .add .i64) [n y 0, i 1] fun x11 =>
    .cont lv [x11, x10]) (.ret (R (n y 1)))).den0 P K hs := by
 subst hlv
 refine den_rounds (fun j => [i j, .sl (((ks.map (clT l)).take j ++ (ks.map (raiseT 0)).drop j).map Ty.enc)]) ks.length (by simp) (fun j hj => ?_) ?_
 ·have hlen : j < ((ks.map (clT l)).take j ++ (ks.map (raiseT 0)).drop j).length := by simp; omega
  refine d_l _ e_len fun _ => d_l (.bool (decide ((j : Int) < ((ks.map Ty.enc).length : Int)))) rfl fun _ => d_dec (p := (j : Int) < ((ks.map Ty.enc).length : Int)) (fun _ => ?_) fun h => absurd (show (j : Int) < ((ks.map Ty.enc).length : Int) by simp; omega) h
  refine d_l _ (e_idx (ty_at' hj) (Ty.okc_enc _)) fun _ => d_call (ih _ (List.getElem_mem hj)) (d_l _ (e_idx (ty_at' hlen) (Ty.okc_enc _)) fun _ => d_l _ (e_updT (by rw [List.length_map]; exact hlen) (Ty.okc_enc _)) fun _ => d_l _ (e_inc (by omega)) fun _ => d_cont List.getElem?_concat_length ?_)
  rw [← List.map_set]
  have := set_next (A := ks.map (clT l)) (B := ks.map (raiseT 0)) (by simp) (j := j) (by simpa using hj)
  simp only [List.getElem_map] at this
  rw [this]
 ·refine d_l _ e_len fun _ => d_l (.bool (decide ((ks.length : Int) < ((ks.map Ty.enc).length : Int)))) rfl fun _ => d_dec (p := (ks.length : Int) < ((ks.map Ty.enc).length : Int)) (fun h => ?_) fun h => d_ret ?_
  ·simp at h
  ·have e1 : (ks.map (clT l)).take ks.length = ks.map (clT l) := List.take_of_length_le (by simp)
   have e2 : (ks.map (raiseT 0)).drop ks.length = [] := List.drop_of_length_le (by simp)
   rw [e1, e2, List.append_nil]; exact hR
theorem bn_at {l : List Bn} {j : Nat} (h : j < l.length) : (l.map Bn.enc)[j]? = some (Bn.enc l[j]) := by simp [h]
theorem ok_closed : ∀ (t : Ty) (l : List Bn), Ln t → (∀ b ∈ l, Ln b.2) → l.length ≤ 549755813888 → Ok P F.ref14_closed [t.enc, .sl (l.map Bn.enc)] (clT l t).enc := by
 intro t
 induction t using Ty.ind with
 | _ t ih =>
 intro l h hb hl
 have hR := ok_ref02_RaiseS t 0 h
 cases h with
 | mk _ h1 h2 h =>
 obtain ⟨kd, p, nm, s, ls, ks⟩ := t
 have h2 : ks.length ≤ 549755813888 := h2
 rw [raiseT_mk] at hR
 have hcl : ∀ (l' : List Bn), (∀ b ∈ l', Ln b.2) → l'.length ≤ 549755813888 → ∀ x ∈ ks, Ok P F.ref14_closed [x.enc, .sl (l'.map Bn.enc)] (clT l' x).enc := fun l' hb' hl' x hx => ih x hx l' (h x hx) hb' hl'
 unfold clT
 rw [Ty.enc_mk] at hR ⊢
 refine k_ref14_closed _ _ rfl (d_l (.agg [i kd, i p, .str nm, i s, .sl (ls.map .str), .sl (ks.map Ty.enc)]) rfl fun _ => d_l (.bool (decide (kd = 9))) rfl fun _ => d_dec (p := kd = 9) (fun h9 => ?_) fun h9 => ?_)
 ·rw [if_pos h9]
  refine d_l (i ((l.map Bn.enc).length : Int)) e_len fun _ => d_l (i ((l.length : Int) - 1)) (by rw [List.length_map]; exact e_sub (by omega) (by omega)) fun _ => ?_
  refine den_loop (fun m ys => m ≤ l.length ∧ lookB l nm = lookB (l.take m) nm ∧ ys = [i ((m : Int) - 1)]) l.length ⟨Nat.le_refl _, by rw [List.take_length], rfl⟩ ?_
  rintro m _ ⟨hm, hlk, rfl⟩
  cases m with
  | zero =>
   refine d_l (.bool false) rfl fun _ => d_false (d_l (.agg [i kd, i p, .str nm, i s, .sl (ls.map .str), .sl (ks.map Ty.enc)]) rfl fun _ => d_ret ?_)
   rw [hlk]; simp only [List.take_zero, lookB, List.reverse_nil, List.find?_nil, Option.map_none]
   rw [Ty.enc_mk]
  | succ m =>
   have hml : m < l.length := by omega
   have hst : l.take (m + 1) = l.take m ++ [l[m]] := List.take_succ_eq_append_getElem hml
   have hi : i (((m + 1 : Nat) : Int) - 1) = i (m : Int) := by congr 1; omega
   have hix : (Prim.idx 7 true).ev [.sl (l.map Bn.enc), i (((m + 1 : Nat) : Int) - 1)] = some (Bn.enc l[m]) := by rw [hi]; exact e_idx (bn_at hml) (Bn.okc _)
   have hfd : lookB (l.take (m + 1)) nm = if l[m].1 = nm then some l[m].2 else lookB (l.take m) nm := by
    rw [hst]
    simp only [lookB, List.reverse_append, List.reverse_cons, List.reverse_nil, List.nil_append, List.cons_append, List.find?_cons]
    by_cases hc : l[m].1 = nm
    ·simp [hc]
    ·simp [hc]
   refine d_l (.bool (decide (0 ≤ ((m + 1 : Nat) : Int) - 1))) rfl fun _ => d_dec (p := 0 ≤ ((m + 1 : Nat) : Int) - 1) (fun _ => ?_) fun h => by omega
   refine d_l _ hix fun _ => d_l (.bool (decide (l[m].1 = nm))) rfl fun _ => d_dec (p := l[m].1 = nm) (fun hc => ?_) fun hc => ?_
   ·have hT := ok_ref02_RaiseS l[m].2 s (hb _ (List.getElem_mem hml))
    have hT : OkS P F.ref02_Raise sg_ref02_Raise [sb 1 6 (Bn.enc l[m]), i s] (Ty.cellsOf (raiseT s l[m].2)) := by
     have e : sb 1 6 (Bn.enc l[m]) = l[m].2.enc := by rw [Ty.enc_cs]; rfl
     rw [e]; exact hT
    refine d_l _ hix fun _ => d_calls rfl hT (d_ret ?_)
    rw [hlk, hfd, if_pos hc, Ty.enc_cells]; rfl
   ·refine d_l (i ((m : Int) - 1)) (by show (Prim.arith .sub .i64).ev [i (((m + 1 : Nat) : Int) - 1), i 1] = _; rw [hi]; exact e_sub (by omega) (by omega)) fun _ => d_cont rfl ⟨m, by omega, by omega, by rw [hlk, hfd, if_neg hc], rfl⟩
 ·rw [if_neg h9, clTs_eq]
  refine d_calls rfl hR (d_l (.bool (decide (kd = 8))) rfl fun _ => d_dec (p := kd = 8) (fun h8 => ?_) fun h8 => ?_)
  ·rw [if_pos h8]
   refine den_rounds (fun j => [i j, .sl (((l.take j).filter fun b => !decide (b.1 = nm)).map Bn.enc)]) l.length (by simp) (fun j hj => ?_) ?_
   ·refine d_l _ e_len fun _ => d_l (.bool (decide ((j : Int) < ((l.map Bn.enc).length : Int)))) rfl fun _ => d_dec (p := (j : Int) < ((l.map Bn.enc).length : Int)) (fun _ => ?_) fun h => absurd (show (j : Int) < ((l.map Bn.enc).length : Int) by simp; omega) h
    have hle : ((l.take j).filter fun b => !decide (b.1 = nm)).length ≤ j := Nat.le_trans (List.length_filter_le _ _) (by simp; omega)
    refine d_l _ (e_idx (bn_at hj) (Bn.okc _)) fun _ => d_l (.bool (!decide (l[j].1 = nm))) rfl fun _ => d_ndec (p := l[j].1 = nm) (fun hc => ?_) fun hc => ?_
    ·refine d_l _ (e_idx (bn_at hj) (Bn.okc _)) fun _ => d_l (.sl [Bn.enc l[j]]) (e_lst (fun x hx => by simp at hx; subst hx; exact Bn.okc _)) fun _ => d_l (.sl (((l.take j).filter fun b => !decide (b.1 = nm)).map Bn.enc ++ [Bn.enc l[j]])) (e_app (l := ((l.take j).filter fun b => !decide (b.1 = nm)).map Bn.enc) (m := [Bn.enc l[j]]) (fun x hx => by simp at hx; subst hx; exact Bn.okc _) (by rw [List.length_map]; simp; omega) (by rw [List.length_map]; simp; omega)) fun _ => d_l _ (e_inc (by omega)) fun _ => d_cont rfl ?_
     rw [List.take_succ_eq_append_getElem hj, List.filter_append]
     simp [hc]
    ·refine d_l _ (e_inc (by omega)) fun _ => d_cont rfl ?_
     rw [List.take_succ_eq_append_getElem hj, List.filter_append]
     simp [hc]
   ·refine d_l _ e_len fun _ => d_l (.bool (decide ((l.length : Int) < ((l.map Bn.enc).length : Int)))) rfl fun _ => d_dec (p := (l.length : Int) < ((l.map Bn.enc).length : Int)) (fun h => ?_) fun h => ?_
    ·simp at h
    ·rw [List.take_length]
     have hle := List.length_filter_le (fun b : Bn => !decide (b.1 = nm)) l
     exact cl_loop (lv := 1) rfl h2 (hcl (l.filter fun b => !decide (b.1 = nm)) (fun b hbm => hb b (List.mem_filter.1 hbm).1) (by omega)) (R := fun q => .agg [i kd, i (if 4 ≤ kd ∧ kd ≤ 7 then ad p 0 else p), .str nm, i s, .sl (ls.map .str), q]) (by rw [Ty.enc_mk])
  ·rw [if_neg h8]
   exact cl_loop (lv := 0) rfl h2 (hcl l hb hl) (R := fun q => .agg [i kd, i (if 4 ≤ kd ∧ kd ≤ 7 then ad p 0 else p), .str nm, i s, .sl (ls.map .str), q]) (by rw [Ty.enc_mk])
end Go.Proofs.YtkpnmgohbipjjaaGreatDoor.Tx

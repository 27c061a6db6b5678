/- The turned type: its contract, that it is right. -/
import Derived.Test.YtlemfbmaineigaaWk40
set_option linter.all false
namespace Go.Proofs.Ytlemfbmaineigaa.Tx
open Go.Lf Go.Lf.S Go.Lf.Duo
set_option maxRecDepth 100000

mutual
/-- a type with its labels in the other order -/
def turnT : Ty → Ty
  | .mk k p n s ls ks => .mk k p n s ls.reverse (if ls = [] then turnTs ks else (turnTs ks).reverse)
def turnTs : List Ty → List Ty
  | [] => []
  | t :: ts => turnT t :: turnTs ts
end
theorem turnTs_eq : ∀ l : List Ty, turnTs l = l.map turnT
  | [] => by simp [turnTs]
  | t :: ts => by simp [turnTs, turnTs_eq ts]
theorem turnT_mk (k p : Int) (n : ByteArray) (s : Int) (ls : List ByteArray) (ks : List Ty) : turnT (.mk k p n s ls ks) = .mk k p n s ls.reverse (if ls = [] then ks.map turnT else (ks.map turnT).reverse) := by
  simp only [turnT, turnTs_eq]

/-- labels and rests are as many, if there are labels -/
inductive Lk : Ty → Prop
  | mk (t : Ty) (h1 : t.labels.length ≤ 549755813888) (h2 : t.kids.length ≤ 549755813888) (h3 : t.labels ≠ [] → t.kids.length = t.labels.length) (h : ∀ k ∈ t.kids, Lk k) : Lk t

theorem Wf.lk : ∀ (t : Ty) (ns : List ByteArray) (g : Nat), Wf t ns g → t.sz ≤ 549755813888 → Lk t := by
  intro t
  induction t using Ty.ind with
  | _ t ih =>
  intro ns g h hz
  cases h with
  | mk _ _ _ h1 h9 h8 hk =>
  unfold Wf1 at h1
  have h1 := h1.1
  have hkl : t.kids.length ≤ t.sz := by
    obtain ⟨k, p, nm, s, ls, ks⟩ := t
    have := szs_len ks
    simp only [Ty.sz, Ty.kids]
    omega
  have hll : t.labels.length = 0 ∨ t.labels.length = t.kids.length := by
    clear h8 h9 hk ih
    omega
  refine .mk t (by omega) (by omega) (fun hne => ?_) fun k hkm => ?_
  · rcases hll with h | h
    · exact absurd (List.eq_nil_of_length_eq_zero h) hne
    · exact h.symm
  · have hs := Ty.sz_kid hkm
    by_cases hk8 : t.kind = 8
    · exact ih k hkm _ _ (h8 hk8 k hkm) (by omega)
    · exact ih k hkm _ _ (hk hk8 k hkm) (by omega)

theorem ok_law10_turned : ∀ t : Ty, Lk t → Ok P F.law10_turned [t.enc] (turnT t).enc := by
  intro t
  induction t using Ty.ind with
  | _ t ih =>
  intro h
  cases h with
  | mk _ h1 h2 h3 h =>
  obtain ⟨k, p, nm, s, ls, ks⟩ := t
  have h1 : ls.length ≤ 549755813888 := h1
  have h2 : ks.length ≤ 549755813888 := h2
  have h3 : ls ≠ [] → ks.length = ls.length := h3
  have hk : ∀ x ∈ ks, Ok P F.law10_turned [x.enc] (turnT x).enc := fun x hx => ih x hx (h x hx)
  rw [turnT_mk, Ty.enc_mk, Ty.enc_mk]
  refine k_law10_turned _ _ rfl (d_l (.agg [i k, i p, .str nm, i s, .sl (ls.map .str), .sl (ks.map Ty.enc)]) rfl fun _ => d_l .nilI rfl fun _ => d_l (i (ls.length : Int)) (by rw [← List.length_map (f := PV.str)]; exact e_len) fun _ => d_l (i ((ls.length : Int) - 1)) (e_sub (by omega) (by omega)) fun _ => ?_)
  refine den_rounds (fun j => [i ((ls.length : Int) - 1 - (j : Int)), i k, i p, .str nm, i s, .sl ((ls.reverse.take j).map .str), .sl ((((ks.map turnT).reverse).take j).map Ty.enc)]) ls.length (by
    simp only [show ((ls.length : Int) - 1 - ((0 : Nat) : Int)) = (ls.length : Int) - 1 by omega]; rfl) (fun j hj => ?_) ?_
  · have hne : ls ≠ [] := by rintro rfl; simp at hj
    have hkl := h3 hne
    have hq : ls.length - 1 - j < ls.length := by omega
    have hqk : ls.length - 1 - j < ks.length := by omega
    have hjr : j < ls.reverse.length := by simpa using hj
    have hjk : j < (ks.map turnT).reverse.length := by simp; omega
    have e1 : ((ls.length : Int) - 1 - (j : Int)) = ((ls.length - 1 - j : Nat) : Int) := by omega
    have e2 : ls.reverse[j] = ls[ls.length - 1 - j] := List.getElem_reverse ..
    have e3 : (ks.map turnT).reverse[j] = turnT ks[ls.length - 1 - j] := by
      rw [List.getElem_reverse, List.getElem_map]; simp only [List.length_map, hkl]
    refine d_l (.bool true) (by show (if IntKind.i64 = .i64 ∧ IntKind.i64 = .i64 then (cmpV .geq ((ls.length : Int) - 1 - (j : Int)) 0).map PV.bool else none) = _; simp [cmpV]; omega) fun _ => d_true ?_
    rw [e1]
    refine d_l _ (e_idx (str_at hq) rfl) fun _ => d_l (.sl [.str ls[ls.length - 1 - j]]) rfl fun _ => d_l _ (e_app (by intro x hx; simp at hx; subst hx; rfl) (by simp; omega) (by simp; omega)) fun _ => d_l _ (e_idx (ty_at hqk) (Ty.okc_enc _)) fun _ => d_call (hk _ (List.getElem_mem hqk)) (d_l _ (e_lst (fun x hx => by simp at hx; subst hx; exact Ty.okc_enc _)) fun _ => d_l _ (e_app (fun x hx => by simp at hx; subst hx; exact Ty.okc_enc _) (by simp; omega) (by simp; omega)) fun _ => d_l _ (e_sub (by omega) (by omega)) fun _ => d_cont rfl ?_)
    rw [List.take_succ_eq_append_getElem hjr, List.take_succ_eq_append_getElem hjk, e2, e3, List.map_append, List.map_append, ← e1]
    congr 2
    omega
  · refine d_l (.bool false) (by show (if IntKind.i64 = .i64 ∧ IntKind.i64 = .i64 then (cmpV .geq ((ls.length : Int) - 1 - (ls.length : Int)) 0).map PV.bool else none) = _; simp [cmpV]; omega) fun _ => d_false ?_
    have t1 : ls.reverse.take ls.length = ls.reverse := List.take_of_length_le (by simp)
    rw [t1]
    by_cases hne : ls = []
    · subst hne
      rw [if_pos rfl]
      refine den_rounds (fun j => [i j, i k, i p, .str nm, i s, .sl [], .sl (((ks.map turnT).take j).map Ty.enc)]) ks.length rfl (fun j hj => ?_) ?_
      · have hjm : j < (ks.map turnT).length := by simpa using hj
        refine d_l _ e_len fun _ => d_l _ rfl fun _ => d_dec (fun _ => ?_) fun h => absurd (show (j : Int) < ((ks.map Ty.enc).length : Int) by simp; omega) h
        refine d_l (i 0) rfl fun _ => d_l (.bool true) rfl fun _ => d_true (d_l _ (e_idx (ty_at hj) (Ty.okc_enc _)) fun _ => d_call (hk _ (List.getElem_mem hj)) (d_l _ (e_lst (fun x hx => by simp at hx; subst hx; exact Ty.okc_enc _)) fun _ => d_l _ (e_app (fun x hx => by simp at hx; subst hx; exact Ty.okc_enc _) (by simp; omega) (by simp; omega)) fun _ => d_l _ (e_inc (by omega)) fun _ => d_cont rfl ?_))
        rw [List.take_succ_eq_append_getElem hjm, List.map_append, List.getElem_map]; rfl
      · refine d_l _ e_len fun _ => d_l _ rfl fun _ => d_dec (fun h => ?_) fun h => d_ret ?_
        · have h : (ks.length : Int) < ((ks.map Ty.enc).length : Int) := h
          simp at h
        · rw [show ks.length = (ks.map turnT).length by simp, List.take_length]; rfl
    · rw [if_neg hne]
      have hkl := h3 hne
      have t2 : (ks.map turnT).reverse.take ls.length = (ks.map turnT).reverse := List.take_of_length_le (by simp; omega)
      rw [t2]
      have h0 : 0 < ls.length := by
        rcases Nat.eq_zero_or_pos ls.length with h | h
        · exact absurd (List.eq_nil_of_length_eq_zero h) hne
        · exact h
      refine den_rounds (fun j => [i j, i k, i p, .str nm, i s, .sl (ls.reverse.map .str), .sl ((ks.map turnT).reverse.map Ty.enc)]) 0 rfl (fun j hj => absurd hj (by omega)) ?_
      refine d_l _ e_len fun _ => d_l _ rfl fun _ => d_dec (fun _ => ?_) fun h => d_ret rfl
      refine d_l (i (ls.length : Int)) (by rw [← List.length_map (f := PV.str)]; exact e_len) fun _ => d_l (.bool false) (by show (if IntKind.i64 = .i64 ∧ IntKind.i64 = .i64 then (cmpV .eql (ls.length : Int) 0).map PV.bool else none) = _; simp [cmpV]; omega) fun _ => d_false (d_ret rfl)

theorem turn_kids (t : Ty) : (turnT t).kids = if t.labels = [] then t.kids.map turnT else (t.kids.map turnT).reverse := by
  obtain ⟨k, p, nm, s, ls, ks⟩ := t
  rw [turnT_mk]; rfl
theorem turn_len (t : Ty) : (turnT t).kids.length = t.kids.length := by
  rw [turn_kids]; split <;> simp
theorem turn_mem {t x : Ty} (h : x ∈ (turnT t).kids) : ∃ k ∈ t.kids, x = turnT k := by
  rw [turn_kids] at h
  have : x ∈ t.kids.map turnT := by
    split at h
    · exact h
    · exact List.mem_reverse.1 h
  obtain ⟨k, hk, rfl⟩ := List.mem_map.1 this
  exact ⟨k, hk, rfl⟩

theorem Wf.turn : ∀ (t : Ty) (ns : List ByteArray) (g : Nat), Wf t ns g → Wf (turnT t) ns g := by
  intro t
  induction t using Ty.ind with
  | _ t ih =>
  intro ns g h
  have hkl := turn_len t
  have hmem := fun x hx => turn_mem (t := t) (x := x) hx
  cases h with
  | mk _ _ _ h1 h9 h8 hk =>
  have e : (turnT t).kind = t.kind ∧ (turnT t).prio = t.prio ∧ (turnT t).name = t.name ∧ (turnT t).shift = t.shift ∧ (turnT t).labels = t.labels.reverse := by
    obtain ⟨k, p, nm, s, ls, ks⟩ := t
    rw [turnT_mk]; exact ⟨rfl, rfl, rfl, rfl, rfl⟩
  obtain ⟨e1, e2, e3, e4, e5⟩ := e
  have hll : (turnT t).labels.length = t.labels.length := by rw [e5]; simp
  refine .mk _ _ _ ?_ ?_ ?_ ?_
  · unfold Wf1 at h1 ⊢
    rw [e1, e2, e4, hkl, hll]
    refine ⟨h1.1, ?_⟩
    rw [e5]
    have := h1.2
    unfold List.Nodup at this ⊢
    rw [List.pairwise_reverse]
    exact this.imp fun h => h.symm
  · rw [e1, e3]; exact h9
  · intro h x hx
    obtain ⟨k, hkm, rfl⟩ := hmem x hx
    rw [e3]
    rw [e1] at h
    exact ih k hkm _ _ (h8 h k hkm)
  · intro h x hx
    obtain ⟨k, hkm, rfl⟩ := hmem x hx
    rw [e1] at h
    exact ih k hkm _ _ (hk h k hkm)

theorem szs_map_turn : ∀ ks : List Ty, (∀ k ∈ ks, (turnT k).sz = k.sz) → Ty.szs (ks.map turnT) = Ty.szs ks
  | [], _ => rfl
  | k :: ks, h => by
    simp only [List.map_cons, Ty.szs, h k List.mem_cons_self, szs_map_turn ks fun x hx => h x (List.mem_cons_of_mem _ hx)]
theorem szs_append : ∀ a b : List Ty, Ty.szs (a ++ b) = Ty.szs a + Ty.szs b
  | [], b => by simp [Ty.szs]
  | x :: a, b => by simp only [List.cons_append, Ty.szs, szs_append a b]; omega
theorem szs_reverse : ∀ a : List Ty, Ty.szs a.reverse = Ty.szs a
  | [] => rfl
  | x :: a => by rw [List.reverse_cons, szs_append, szs_reverse a]; simp only [Ty.szs]; omega
theorem turn_sz : ∀ t : Ty, (turnT t).sz = t.sz := by
  intro t
  induction t using Ty.ind with
  | _ t ih =>
  obtain ⟨k, p, nm, s, ls, ks⟩ := t
  have := szs_map_turn ks ih
  rw [turnT_mk]
  simp only [Ty.sz]
  split
  · rw [this]
  · rw [szs_reverse, this]

end Go.Proofs.Ytlemfbmaineigaa.Tx

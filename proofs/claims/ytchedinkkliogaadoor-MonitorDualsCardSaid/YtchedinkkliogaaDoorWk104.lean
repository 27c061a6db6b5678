/- Contracts: the duals of types by the reference: closed, dual, Dual; what they come to. -/
import Derived.Test.YtchedinkkliogaaDoorWk103
set_option linter.all false
namespace Go.Proofs.YtchedinkkliogaaDoor.Tx
open Go.Lf Go.Lf.S Go.Lf.Duo
set_option maxRecDepth 100000

abbrev Bn := ByteArray × Ty
def Bn.enc (b : Bn) : PV := .agg (.str b.1 :: b.2.cs)
theorem Bn.okc (b : Bn) : (Bn.enc b).okc 7 true = true := rfl
def lookB (l : List Bn) (nm : ByteArray) : Option Ty := (l.reverse.find? fun b => decide (b.1 = nm)).map (·.2)

mutual
def clT (l : List Bn) : Ty → Ty
  | .mk kd p nm s ls ks => if kd = 9 then (match lookB l nm with
      | some T => raiseT s T
      | none => .mk kd p nm s ls ks) else .mk kd (if 4 ≤ kd ∧ kd ≤ 7 then ad p 0 else p) nm s ls (clTs (if kd = 8 then l.filter (fun b => !decide (b.1 = nm)) else l) ks)
def clTs (l : List Bn) : List Ty → List Ty
  | [] => []
  | t :: ts => clT l t :: clTs l ts
end
theorem clTs_eq (l : List Bn) : ∀ ks : List Ty, clTs l ks = ks.map (clT l)
  | [] => by simp [clTs]
  | t :: ts => by simp [clTs, clTs_eq l ts]
def dk' (k : Int) : Int := if k = 4 then 5 else if k = 5 then 4 else if k = 6 then 7 else if k = 7 then 6 else k
mutual
def duT (l : List Bn) : Ty → Ty
  | .mk kd p nm s ls ks => .mk (dk' kd) (if 4 ≤ kd ∧ kd ≤ 7 then ad p 0 else p) nm s ls (duTs (decide (kd = 4) || decide (kd = 5)) (if kd = 8 then l ++ [(nm, clT l (.mk kd p nm s ls ks))] else l) ks)
def duTs (b : Bool) (l : List Bn) : List Ty → List Ty
  | [] => []
  | t :: ts => (if b then clT l t else duT l t) :: duTs false l ts
end
/-- what stands at a place of the dual's kids -/
def duK (b : Bool) (l : List Bn) (j : Nat) (k : Ty) : Ty := if b && decide (j = 0) then clT l k else duT l k
theorem duTs_at : ∀ (b : Bool) (l : List Bn) (ks : List Ty), duTs b l ks = ks.mapIdx (duK b l)
  | b, l, [] => by simp [duTs]
  | b, l, t :: ts => by
    simp only [duTs, List.mapIdx_cons]
    congr 1
    · cases b <;> simp [duK]
    · rw [duTs_at false l ts]
      congr 1
      funext j k
      simp [duK]

theorem set_next {A B : List Ty} (h : A.length = B.length) {j : Nat} (hj : j < A.length) : (A.take j ++ B.drop j).set j A[j] = A.take (j + 1) ++ B.drop (j + 1) := by
  have hl : (A.take j).length = j := by simp; omega
  rw [List.set_append_right _ _ (by omega), hl, Nat.sub_self, List.drop_eq_getElem_cons (by omega : j < B.length), List.set_cons_zero, List.take_succ_eq_append_getElem hj, List.append_assoc]
  rfl

/-- the round of closed over the kids -/
theorem cl_loop {K : PV → Prop} {hs : List (List PV → Prop)} {lv : Nat} (hlv : lv = hs.length) {ks : List Ty} {l : List Bn} {L : PV} (hk : ks.length ≤ 549755813888) (ih : ∀ t ∈ ks, Ok P F.ref14_closed [t.enc, L] (clT l t).enc) {R : PV → PV} (hR : K (R (.sl ((ks.map (clT l)).map Ty.enc)))) :
    (T.loop [i 0, .sl ((ks.map (raiseT 0)).map Ty.enc)] fun y => .l .len [.sl (ks.map Ty.enc)] fun x5 => .l (.cmp .lss .i64) [n y 0, x5] fun x6 => .ite x6
      (.l (.idx 6 true) [.sl (ks.map Ty.enc), n y 0] fun x7 => .call F.ref14_closed [x7, L] fun x8 => .l (.idx 6 true) [n y 1, n y 0] fun _ => .l (.upd 6 true) [n y 1, n y 0, x8] fun x10 => .l (.arith .add .i64) [n y 0, i 1] fun x11 =>
        .cont lv [x11, x10]) (.ret (R (n y 1)))).den0 P K hs := by
  subst hlv
  refine den_rounds (fun j => [i j, .sl (((ks.map (clT l)).take j ++ (ks.map (raiseT 0)).drop j).map Ty.enc)]) ks.length (by simp) (fun j hj => ?_) ?_
  · have hlen : j < ((ks.map (clT l)).take j ++ (ks.map (raiseT 0)).drop j).length := by simp; omega
    refine d_l _ e_len fun _ => d_l (.bool (decide ((j : Int) < ((ks.map Ty.enc).length : Int)))) rfl fun _ => d_dec (p := (j : Int) < ((ks.map Ty.enc).length : Int)) (fun _ => ?_) fun h => absurd (show (j : Int) < ((ks.map Ty.enc).length : Int) by simp; omega) h
    refine d_l _ (e_idx (ty_at' hj) (Ty.okc_enc _)) fun _ => d_call (ih _ (List.getElem_mem hj)) (d_l _ (e_idx (ty_at' hlen) (Ty.okc_enc _)) fun _ => d_l _ (e_updT (by rw [List.length_map]; exact hlen) (Ty.okc_enc _)) fun _ => d_l _ (e_inc (by omega)) fun _ => d_cont List.getElem?_concat_length ?_)
    rw [← List.map_set]
    have := set_next (A := ks.map (clT l)) (B := ks.map (raiseT 0)) (by simp) (j := j) (by simpa using hj)
    simp only [List.getElem_map] at this
    rw [this]
  · refine d_l _ e_len fun _ => d_l (.bool (decide ((ks.length : Int) < ((ks.map Ty.enc).length : Int)))) rfl fun _ => d_dec (p := (ks.length : Int) < ((ks.map Ty.enc).length : Int)) (fun h => ?_) fun h => d_ret ?_
    · simp at h
    · have e1 : (ks.map (clT l)).take ks.length = ks.map (clT l) := List.take_of_length_le (by simp)
      have e2 : (ks.map (raiseT 0)).drop ks.length = [] := List.drop_of_length_le (by simp)
      rw [e1, e2, List.append_nil]; exact hR

theorem bn_at {l : List Bn} {j : Nat} (h : j < l.length) : (l.map Bn.enc)[j]? = some (Bn.enc l[j]) := by simp [h]

theorem ok_closed : ∀ (t : Ty) (l : List Bn), Ln t → (∀ b ∈ l, Ln b.2) → l.length ≤ 549755813888 → Ok P F.ref14_closed [t.enc, .sl (l.map Bn.enc)] (clT l t).enc := by
  intro t
  induction t using Ty.ind with
  | _ t ih =>
  intro l h hb hl
  have hR := ok_ref02_RaiseS t 0 h
  cases h with
  | mk _ h1 h2 h =>
  obtain ⟨kd, p, nm, s, ls, ks⟩ := t
  have h2 : ks.length ≤ 549755813888 := h2
  rw [raiseT_mk] at hR
  have hcl : ∀ (l' : List Bn), (∀ b ∈ l', Ln b.2) → l'.length ≤ 549755813888 → ∀ x ∈ ks, Ok P F.ref14_closed [x.enc, .sl (l'.map Bn.enc)] (clT l' x).enc := fun l' hb' hl' x hx => ih x hx l' (h x hx) hb' hl'
  unfold clT
  rw [Ty.enc_mk] at hR ⊢
  refine k_ref14_closed _ _ rfl (d_l (.agg [i kd, i p, .str nm, i s, .sl (ls.map .str), .sl (ks.map Ty.enc)]) rfl fun _ => d_l (.bool (decide (kd = 9))) rfl fun _ => d_dec (p := kd = 9) (fun h9 => ?_) fun h9 => ?_)
  · rw [if_pos h9]
    refine d_l (i ((l.map Bn.enc).length : Int)) e_len fun _ => d_l (i ((l.length : Int) - 1)) (by rw [List.length_map]; exact e_sub (by omega) (by omega)) fun _ => ?_
    refine den_loop (fun m ys => m ≤ l.length ∧ lookB l nm = lookB (l.take m) nm ∧ ys = [i ((m : Int) - 1)]) l.length ⟨Nat.le_refl _, by rw [List.take_length], rfl⟩ ?_
    rintro m _ ⟨hm, hlk, rfl⟩
    cases m with
    | zero =>
      refine d_l (.bool false) rfl fun _ => d_false (d_l (.agg [i kd, i p, .str nm, i s, .sl (ls.map .str), .sl (ks.map Ty.enc)]) rfl fun _ => d_ret ?_)
      rw [hlk]; simp only [List.take_zero, lookB, List.reverse_nil, List.find?_nil, Option.map_none]
      rw [Ty.enc_mk]
    | succ m =>
      have hml : m < l.length := by omega
      have hst : l.take (m + 1) = l.take m ++ [l[m]] := List.take_succ_eq_append_getElem hml
      have hi : i (((m + 1 : Nat) : Int) - 1) = i (m : Int) := by congr 1; omega
      have hix : (Prim.idx 7 true).ev [.sl (l.map Bn.enc), i (((m + 1 : Nat) : Int) - 1)] = some (Bn.enc l[m]) := by rw [hi]; exact e_idx (bn_at hml) (Bn.okc _)
      have hfd : lookB (l.take (m + 1)) nm = if l[m].1 = nm then some l[m].2 else lookB (l.take m) nm := by
        rw [hst]
        simp only [lookB, List.reverse_append, List.reverse_cons, List.reverse_nil, List.nil_append, List.cons_append, List.find?_cons]
        by_cases hc : l[m].1 = nm
        · simp [hc]
        · simp [hc]
      refine d_l (.bool (decide (0 ≤ ((m + 1 : Nat) : Int) - 1))) rfl fun _ => d_dec (p := 0 ≤ ((m + 1 : Nat) : Int) - 1) (fun _ => ?_) fun h => by omega
      refine d_l _ hix fun _ => d_l (.bool (decide (l[m].1 = nm))) rfl fun _ => d_dec (p := l[m].1 = nm) (fun hc => ?_) fun hc => ?_
      · have hT := ok_ref02_RaiseS l[m].2 s (hb _ (List.getElem_mem hml))
        have hT : OkS P F.ref02_Raise sg_ref02_Raise [sb 1 6 (Bn.enc l[m]), i s] (Ty.cellsOf (raiseT s l[m].2)) := by
          have e : sb 1 6 (Bn.enc l[m]) = l[m].2.enc := by rw [Ty.enc_cs]; rfl
          rw [e]; exact hT
        refine d_l _ hix fun _ => d_calls rfl hT (d_ret ?_)
        rw [hlk, hfd, if_pos hc, Ty.enc_cells]; rfl
      · refine d_l (i ((m : Int) - 1)) (by show (Prim.arith .sub .i64).ev [i (((m + 1 : Nat) : Int) - 1), i 1] = _; rw [hi]; exact e_sub (by omega) (by omega)) fun _ => d_cont rfl ⟨m, by omega, by omega, by rw [hlk, hfd, if_neg hc], rfl⟩
  · rw [if_neg h9, clTs_eq]
    refine d_calls rfl hR (d_l (.bool (decide (kd = 8))) rfl fun _ => d_dec (p := kd = 8) (fun h8 => ?_) fun h8 => ?_)
    · rw [if_pos h8]
      refine den_rounds (fun j => [i j, .sl (((l.take j).filter fun b => !decide (b.1 = nm)).map Bn.enc)]) l.length (by simp) (fun j hj => ?_) ?_
      · refine d_l _ e_len fun _ => d_l (.bool (decide ((j : Int) < ((l.map Bn.enc).length : Int)))) rfl fun _ => d_dec (p := (j : Int) < ((l.map Bn.enc).length : Int)) (fun _ => ?_) fun h => absurd (show (j : Int) < ((l.map Bn.enc).length : Int) by simp; omega) h
        have hle : ((l.take j).filter fun b => !decide (b.1 = nm)).length ≤ j := Nat.le_trans (List.length_filter_le _ _) (by simp; omega)
        refine d_l _ (e_idx (bn_at hj) (Bn.okc _)) fun _ => d_l (.bool (!decide (l[j].1 = nm))) rfl fun _ => d_ndec (p := l[j].1 = nm) (fun hc => ?_) fun hc => ?_
        · refine d_l _ (e_idx (bn_at hj) (Bn.okc _)) fun _ => d_l (.sl [Bn.enc l[j]]) (e_lst (fun x hx => by simp at hx; subst hx; exact Bn.okc _)) fun _ => d_l (.sl (((l.take j).filter fun b => !decide (b.1 = nm)).map Bn.enc ++ [Bn.enc l[j]])) (e_app (l := ((l.take j).filter fun b => !decide (b.1 = nm)).map Bn.enc) (m := [Bn.enc l[j]]) (fun x hx => by simp at hx; subst hx; exact Bn.okc _) (by rw [List.length_map]; simp; omega) (by rw [List.length_map]; simp; omega)) fun _ => d_l _ (e_inc (by omega)) fun _ => d_cont rfl ?_
          rw [List.take_succ_eq_append_getElem hj, List.filter_append]
          simp [hc]
        · refine d_l _ (e_inc (by omega)) fun _ => d_cont rfl ?_
          rw [List.take_succ_eq_append_getElem hj, List.filter_append]
          simp [hc]
      · refine d_l _ e_len fun _ => d_l (.bool (decide ((l.length : Int) < ((l.map Bn.enc).length : Int)))) rfl fun _ => d_dec (p := (l.length : Int) < ((l.map Bn.enc).length : Int)) (fun h => ?_) fun h => ?_
        · simp at h
        · rw [List.take_length]
          have hle := List.length_filter_le (fun b : Bn => !decide (b.1 = nm)) l
          exact cl_loop (lv := 1) rfl h2 (hcl (l.filter fun b => !decide (b.1 = nm)) (fun b hbm => hb b (List.mem_filter.1 hbm).1) (by omega)) (R := fun q => .agg [i kd, i (if 4 ≤ kd ∧ kd ≤ 7 then ad p 0 else p), .str nm, i s, .sl (ls.map .str), q]) (by rw [Ty.enc_mk])
    · rw [if_neg h8]
      exact cl_loop (lv := 0) rfl h2 (hcl l hb hl) (R := fun q => .agg [i kd, i (if 4 ≤ kd ∧ kd ≤ 7 then ad p 0 else p), .str nm, i s, .sl (ls.map .str), q]) (by rw [Ty.enc_mk])
end Go.Proofs.YtchedinkkliogaaDoor.Tx

/- Contracts: ref02 Raise, put, Unfold: exactly. -/
import Derived.Test.YtjekkidhbnkiaaaDoorWk11
set_option linter.all false
namespace Go.Proofs.YtjekkidhbnkiaaaDoor.Tx
open Go.Lf Go.Lf.S Go.Lf.Duo
set_option maxRecDepth 100000
mutual
/-- a type with its priorities raised -/
def raiseT (k : Int) : Ty → Ty
 | .mk kd p nm s ls ks => .mk kd (if 4 ≤ kd ∧ kd ≤ 7 then ad p k else p) nm s ls (raiseTs k ks)
def raiseTs (k : Int) : List Ty → List Ty
 | [] => []
 | t :: ts => raiseT k t :: raiseTs k ts
end
theorem raiseTs_eq (k : Int) : ∀ l : List Ty, raiseTs k l = l.map (raiseT k)
 | [] => rfl
 | t :: ts => by simp [raiseTs, raiseTs_eq k ts]
theorem raiseT_mk (k kd p : Int) (nm : ByteArray) (s : Int) (ls : List ByteArray) (ks : List Ty) : raiseT k (.mk kd p nm s ls ks) = .mk kd (if 4 ≤ kd ∧ kd ≤ 7 then ad p k else p) nm s ls (ks.map (raiseT k)) := by
 simp only [raiseT, raiseTs_eq]
/-- lists of bounded lengths throughout -/
inductive Ln : Ty → Prop
 | mk (t : Ty) (h1 : t.labels.length ≤ 549755813888) (h2 : t.kids.length ≤ 549755813888) (h : ∀ k ∈ t.kids, Ln k) : Ln t
theorem ty_at' {ks : List Ty} {j : Nat} (h : j < ks.length) : (ks.map Ty.enc)[j]? = some (ks[j]).enc := by simp [h]
/-- the round of Raise -/
theorem raise_loop {K : PV → Prop} {ks : List Ty} {k : Int} (hk : ks.length ≤ 549755813888) (ih : ∀ t ∈ ks, Ok P F.ref02_Raise [t.enc, i k] (raiseT k t).enc) {a p nm s lb : PV} {R : List PV → PV} (hR : K (R [i (ks.length : Int), a, p, nm, s, lb, .sl ((ks.map (raiseT k)).map Ty.enc)])) :
  (T.loop [i 0, a, p, nm, s, lb, .sl []] fun y => .l .len [.sl (ks.map Ty.enc)] fun x9 => .l (.cmp .lss .i64) [n y 0, x9] fun x10 => .ite x10
   (.l (.idx 6 true) [.sl (ks.map Ty.enc), n y 0] fun x11 => .call F.ref02_Raise [x11, i k] fun x12 => .l (.lst 6 true) [x12] fun x13 => .l (.app 6 true 88) [n y 6, x13] fun x14 => .l (.arith .add .i64) [n y 0, i 1] fun x15 =>
    .cont 0 [x15, n y 1, n y 2, n y 3, n y 4, n y 5, x14]) (.ret (R y))).den0 P K [] := by
 refine den_rounds (fun j => [i j, a, p, nm, s, lb, .sl (((ks.take j).map (raiseT k)).map Ty.enc)]) ks.length (by simp) (fun j hj => ?_) ?_
 ·refine d_l _ e_len fun _ => d_l _ rfl fun _ => d_dec (fun _ => ?_) fun h => absurd (show (j : Int) < ((ks.map Ty.enc).length : Int) by simp; omega) h
  refine d_l _ (e_idx (ty_at' hj) (Ty.okc_enc _)) fun _ => d_call (ih _ (List.getElem_mem hj)) (d_l _ (e_lst (fun x hx => by simp at hx; subst hx; exact Ty.okc_enc _)) fun _ => d_l _ (e_app (fun x hx => by simp at hx; subst hx; exact Ty.okc_enc _) (by simp; omega) (by simp; omega)) fun _ => d_l _ (e_inc (by omega)) fun _ => d_cont rfl ?_)
  rw [List.take_succ_eq_append_getElem hj, List.map_append, List.map_append]; rfl
 ·refine d_l _ e_len fun _ => d_l _ rfl fun _ => d_dec (fun h => ?_) fun h => d_ret ?_
  ·have h : (ks.length : Int) < ((ks.map Ty.enc).length : Int) := h
   simp at h
  ·rw [List.take_length]; exact hR
theorem ok_ref02_Raise : ∀ (t : Ty) (k : Int), Ln t → Ok P F.ref02_Raise [t.enc, i k] (raiseT k t).enc := by
 intro t
 induction t using Ty.ind with
 | _ t ih =>
 intro k h
 cases h with
 | mk _ h1 h2 h =>
 obtain ⟨kd, p, nm, s, ls, ks⟩ := t
 have h1 : ls.length ≤ 549755813888 := h1
 have h2 : ks.length ≤ 549755813888 := h2
 have hks : ∀ x ∈ ks, Ok P F.ref02_Raise [x.enc, i k] (raiseT k x).enc := fun x hx => ih x hx k (h x hx)
 rw [raiseT_mk, Ty.enc_mk, Ty.enc_mk]
 refine k_ref02_Raise _ _ rfl (d_l _ (by rfl) fun _ => d_l (.sl []) rfl fun _ => d_l (.sl (ls.map .str)) (by
  show (Prim.app 1 false 16).ev [.sl [], .sl (ls.map .str)] = _
  rw [e_app (all_map okc_str ls) (by simp; omega) (by simp; omega)]; rfl) fun _ => d_l .nilI rfl fun _ => d_l _ rfl fun _ => d_dec (fun h4 => d_l _ rfl fun _ => d_dec (fun h7 => ?_) fun h7 => ?_) fun h4 => ?_)
 ·rw [if_pos ⟨h4, h7⟩]
  exact d_l (i (ad p k)) rfl fun _ => d_l (i (ad p k)) rfl fun _ => raise_loop h2 hks (R := fun y => .agg [n y 1, n y 2, n y 3, n y 4, n y 5, n y 6]) rfl
 ·rw [if_neg (fun hc => h7 hc.2)]
  exact raise_loop h2 hks (R := fun y => .agg [n y 1, n y 2, n y 3, n y 4, n y 5, n y 6]) rfl
 ·rw [if_neg (fun hc => h4 hc.1)]
  exact raise_loop h2 hks (R := fun y => .agg [n y 1, n y 2, n y 3, n y 4, n y 5, n y 6]) rfl
def Ty.cellsOf (t : Ty) : List PV := [i t.kind, i t.prio, .str t.name, i t.shift, .sl (t.labels.map .str), .sl (t.kids.map Ty.enc)]
end Go.Proofs.YtjekkidhbnkiaaaDoor.Tx

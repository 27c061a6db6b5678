/- Contracts: sameness of processes and programs, sizes of programs. -/
import Derived.Test.YtjekkidhbnkiaaaDoorWk61
set_option linter.all false
namespace Go.Proofs.YtjekkidhbnkiaaaDoor.Tx
open Go.Lf Go.Lf.S Go.Lf.Duo
set_option maxRecDepth 100000
theorem vl_eq {v w : Vl} : v = w ↔ v.kind = w.kind ∧ v.name = w.name ∧ v.n = w.n := by
 obtain ⟨a, b, c⟩ := v
 obtain ⟨a', b', c'⟩ := w
 constructor
 ·intro e; cases e; exact ⟨rfl, rfl, rfl⟩
 ·rintro ⟨h1, h2, h3⟩
  simp only at h1 h2 h3
  subst h1 h2 h3; rfl
theorem e_vneq (v w : Vl) : (Prim.acmp .neq [.i .i64, .s, .i .i64]).ev [v.enc, w.enc] = some (.bool (!pb (v = w))) := by
 have h : PV.sameK [.i .i64, .s, .i .i64] [i v.kind, .str v.name, i v.n] [i w.kind, .str w.name, i w.n] = some (pb (v = w)) := by
  by_cases h1 : v.kind = w.kind
  ·by_cases h2 : v.name = w.name
   ·by_cases h3 : v.n = w.n
    ·rw [pb_iff.2 (vl_eq.2 ⟨h1, h2, h3⟩)]
     simp [PV.sameK, PV.same1, h1, h2, h3]
    ·rw [pb_false.2 fun e => h3 (vl_eq.1 e).2.2]
     simp [PV.sameK, PV.same1, h1, h2, h3]
   ·rw [pb_false.2 fun e => h2 (vl_eq.1 e).2.1]
    simp [PV.sameK, PV.same1, h1, h2]
  ·rw [pb_false.2 fun e => h1 (vl_eq.1 e).1]
   simp [PV.sameK, PV.same1, h1]
 show (if [i v.kind, PV.str v.name, i v.n].length = 3 ∧ [i w.kind, PV.str w.name, i w.n].length = 3 then (PV.sameK [.i .i64, .s, .i .i64] [i v.kind, .str v.name, i v.n] [i w.kind, .str w.name, i w.n]).map (fun b => PV.bool (!b)) else none) = _
 rw [if_pos ⟨rfl, rfl⟩, h]; rfl
theorem pr_eq {k k' : Int} {c c' v v' : ByteArray} {ls ls' : List ByteArray} {ar ar' : List Vl} {t t' : Ty} {ks ks' : List Pr} : (Pr.mk k c v ls ar t ks = Pr.mk k' c' v' ls' ar' t' ks') ↔ k = k' ∧ c = c' ∧ v = v' ∧ ls = ls' ∧ ar = ar' ∧ t = t' ∧ ks = ks' := by
 constructor
 ·intro e; cases e; exact ⟨rfl, rfl, rfl, rfl, rfl, rfl, rfl⟩
 ·rintro ⟨rfl, rfl, rfl, rfl, rfl, rfl, rfl⟩; rfl
theorem okx_ref03_Texts {l r : List ByteArray} (hl : l.length ≤ 9223372036854775807) : Ok P F.ref03_Texts [.sl (l.map .str), .sl (r.map .str)] (.bool (pb (l = r))) := by
 refine tx_pb k_ref03_Texts rfl (by simp [t_ref03_Texts, T.dt]) ?_
 refine d_l _ (len_eq l) fun _ => d_l _ (len_eq r) fun _ => d_l _ rfl fun _ => d_ndec (fun h => d_ret (isB_f fun e => h (by rw [e]))) fun h => ?_
 have h : (l.length : Int) = (r.length : Int) := h
 refine den_loop (fun m ys => ∃ j : Nat, j + m = l.length ∧ (∀ k (hk : k < l.length) (hk' : k < r.length), k < j → l[k] = r[k]) ∧ ys = [i j]) l.length ⟨0, by omega, fun k _ _ h => by omega, rfl⟩ ?_
 rintro m _ ⟨j, hj, hno, rfl⟩
 refine d_l _ (len_eq l) fun _ => d_l _ rfl fun _ => d_dec (fun h1 => ?_) fun h1 => d_ret (isB_t (list_eq_of (by omega) fun k hk hk' => hno k hk hk' (by have h1 : ¬ (j : Int) < (l.length : Int) := h1; omega)))
 have hlt : j < l.length := by have h1 : (j : Int) < (l.length : Int) := h1; omega
 have hlt' : j < r.length := by omega
 refine d_l _ (e_idx (mp_at hlt) rfl) fun _ => d_l _ (e_idx (mp_at hlt') rfl) fun _ => d_l _ rfl fun _ => d_ndec (fun hb => d_ret (isB_f fun e => ?_)) fun hb => d_l _ (e_inc (by omega)) fun _ => d_cont rfl ⟨m - 1, by omega, j + 1, by omega, fun k hk hk' h1 => ?_, rfl⟩
 ·subst e; exact hb rfl
 ·by_cases e : k = j
  ·subst e; exact hb
  ·exact hno k hk hk' (by omega)
theorem okx_ref03_Same : ∀ (a b : Pr), PLim a → Ok P F.ref03_Same [a.enc, b.enc] (.bool (pb (a = b))) := by
 intro a
 induction a using Pr.ind with
 | _ a ih =>
 intro b hlim
 cases hlim with
 | mk _ _ _ _ hll _ hal ht hkl hkk =>
 obtain ⟨k, c, v, ls, ar, t, ks⟩ := a
 obtain ⟨k', c', v', ls', ar', t', ks'⟩ := b
 have hkl : ks.length ≤ 9223372036854775807 := hkl
 have hal : ar.length ≤ 9223372036854775807 := hal
 have h2 := okx_ref03_Texts (l := ls) (r := ls') hll
 have h4 := okx_ref02_Same t t' ht
 rw [Ty.enc_cs, Ty.enc_cs] at h4
 rw [Pr.enc_mk, Pr.enc_mk]
 refine tx_pb k_ref03_Same rfl (by simp [t_ref03_Same, T.dt]) ?_
 refine d_l (.agg [i k, .str c, .str v, .sl (ls.map .str), .sl (ar.map Vl.enc), i t.kind, i t.prio, .str t.name, i t.shift, .sl (t.labels.map .str), .sl (t.kids.map Ty.enc), .sl (ks.map Pr.enc)]) rfl fun _ => d_l (.agg [i k', .str c', .str v', .sl (ls'.map .str), .sl (ar'.map Vl.enc), i t'.kind, i t'.prio, .str t'.name, i t'.shift, .sl (t'.labels.map .str), .sl (t'.kids.map Ty.enc), .sl (ks'.map Pr.enc)]) rfl fun _ => ?_
 rw [pr_eq]
 refine d_l _ rfl fun _ => d_ndec (fun e1 => d_ret (isB_f fun e => e1 e.1)) fun e1 => ?_
 refine d_l _ rfl fun _ => d_ndec (fun e2 => d_ret (isB_f fun e => e2 e.2.1)) fun e2 => ?_
 refine d_l _ rfl fun _ => d_ndec (fun e3 => d_ret (isB_f fun e => e3 e.2.2.1)) fun e3 => ?_
 refine d_call h2 (d_l _ rfl fun _ => d_ite (fun e4 => d_ret (isB_f fun e => pb_false.1 (by simpa using e4) e.2.2.2.1)) fun e4 => ?_)
 refine d_l _ (len_eq ar) fun _ => d_l _ (len_eq ar') fun _ => d_l _ rfl fun _ => d_ndec (fun e5 => d_ret (isB_f fun e => e5 (by rw [e.2.2.2.2.1]))) fun e5 => ?_
 refine d_call h4 (d_l _ rfl fun _ => d_ite (fun e6 => d_ret (isB_f fun e => pb_false.1 (by simpa using e6) e.2.2.2.2.2.1)) fun e6 => ?_)
 refine d_l _ (len_eq ks) fun _ => d_l _ (len_eq ks') fun _ => d_l _ rfl fun _ => d_ndec (fun e7 => d_ret (isB_f fun e => e7 (by rw [e.2.2.2.2.2.2]))) fun e7 => ?_
 have e4 : ls = ls' := pb_iff.1 (by simpa using e4)
 have e5 : (ar.length : Int) = (ar'.length : Int) := e5
 have e6 : t = t' := pb_iff.1 (by simpa using e6)
 have e7 : (ks.length : Int) = (ks'.length : Int) := e7
 refine den_loop (fun m ys => ∃ j : Nat, j + m = ar.length ∧ (∀ k (hk : k < ar.length) (hk' : k < ar'.length), k < j → ar[k] = ar'[k]) ∧ ys = [i j]) ar.length ⟨0, by omega, fun k _ _ h => by omega, rfl⟩ ?_
 rintro m _ ⟨j, hj, hno, rfl⟩
 refine d_l _ (len_eq ar) fun _ => d_l _ rfl fun _ => d_dec (fun h1 => ?_) fun h1 => ?_
 ·have hlt : j < ar.length := by have h1 : (j : Int) < (ar.length : Int) := h1; omega
  have hlt' : j < ar'.length := by omega
  refine d_l _ (e_idx (mp_at hlt) (Vl.okc_enc _)) fun _ => d_l _ (e_idx (mp_at hlt') (Vl.okc_enc _)) fun _ => d_l _ (e_vneq _ _) fun _ => d_ite (fun hb => d_ret (isB_f fun e => ?_)) fun hb => d_l _ (e_inc (by omega)) fun _ => d_cont rfl ⟨m - 1, by omega, j + 1, by omega, fun k hk hk' h1 => ?_, rfl⟩
  ·have hb : pb (ar[j] = ar'[j]) = false := by simpa using hb
   exact pb_false.1 hb (by simp only [e.2.2.2.2.1])
  ·have hb : pb (ar[j] = ar'[j]) = true := by simpa using hb
   by_cases e : k = j
   ·subst e; exact pb_iff.1 hb
   ·exact hno k hk hk' (by omega)
 ·have ha : ar = ar' := list_eq_of (by omega) fun k hk hk' => hno k hk hk' (by have h1 : ¬ (j : Int) < (ar.length : Int) := h1; omega)
  refine den_loop (fun m ys => ∃ j : Nat, j + m = ks.length ∧ (∀ k (hk : k < ks.length) (hk' : k < ks'.length), k < j → ks[k] = ks'[k]) ∧ ys = [i j]) ks.length ⟨0, by omega, fun k _ _ h => by omega, rfl⟩ ?_
  rintro m _ ⟨j, hj, hno, rfl⟩
  refine d_l _ (len_eq ks) fun _ => d_l _ rfl fun _ => d_dec (fun h1 => ?_) fun h1 => d_ret (isB_t ⟨e1, e2, e3, e4, ha, e6, list_eq_of (by omega) fun k hk hk' => hno k hk hk' (by have h1 : ¬ (j : Int) < (ks.length : Int) := h1; omega)⟩)
  have hlt : j < ks.length := by have h1 : (j : Int) < (ks.length : Int) := h1; omega
  have hlt' : j < ks'.length := by omega
  refine d_l _ (e_idx (mp_at hlt) (Pr.okc_enc _)) fun _ => d_l _ (e_idx (mp_at hlt') (Pr.okc_enc _)) fun _ => d_call (ih _ (List.getElem_mem hlt) _ (hkk _ (List.getElem_mem hlt))) (d_l _ rfl fun _ => d_ite (fun hb => d_ret (isB_f fun e => ?_)) fun hb => d_l _ (e_inc (by omega)) fun _ => d_cont rfl ⟨m - 1, by omega, j + 1, by omega, fun k hk hk' h1 => ?_, rfl⟩)
  ·have hb : pb (ks[j] = ks'[j]) = false := by simpa using hb
   exact pb_false.1 hb (by simp only [e.2.2.2.2.2.2])
  ·have hb : pb (ks[j] = ks'[j]) = true := by simpa using hb
   by_cases e : k = j
   ·subst e; exact pb_iff.1 hb
   ·exact hno k hk hk' (by omega)
end Go.Proofs.YtjekkidhbnkiaaaDoor.Tx

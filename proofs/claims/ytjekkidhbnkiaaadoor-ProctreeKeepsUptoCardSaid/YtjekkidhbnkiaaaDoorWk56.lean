/- Contracts: depth, sameness of types; lists compared and searched by a function. -/
import Derived.Test.YtjekkidhbnkiaaaDoorWk55
set_option linter.all false
namespace Go.Proofs.YtjekkidhbnkiaaaDoor.Tx
open Go.Lf Go.Lf.S Go.Lf.Duo
set_option maxRecDepth 100000
/-! a list searched by a function -/
/-! lists compared by a function -/
theorem len_eq {α : Type} {f : α → PV} (l : List α) : Prim.len.ev [.sl (l.map f)] = some (i (l.length : Int)) := by
 rw [← List.length_map (f := f)]; exact e_len
theorem mp_at {α : Type} {f : α → PV} {l : List α} {j : Nat} (h : j < l.length) : (l.map f)[j]? = some (f l[j]) := by simp [h]
theorem list_eq_of {α : Type} {l r : List α} (hl : l.length = r.length) (h : ∀ j (h1 : j < l.length) (h2 : j < r.length), l[j] = r[j]) : l = r := List.ext_getElem hl fun j h1 h2 => h j h1 h2
theorem okx_ref02_texts {l r : List ByteArray} (hl : l.length ≤ 9223372036854775807) : Ok P F.ref02_texts [.sl (l.map .str), .sl (r.map .str)] (.bool (pb (l = r))) := by
 refine tx_pb k_ref02_texts rfl (by simp [t_ref02_texts, T.dt]) ?_
 refine d_l _ (len_eq l) fun _ => d_l _ (len_eq r) fun _ => d_l _ rfl fun _ => d_ndec (fun h => d_ret (isB_f fun e => h (by rw [e]))) fun h => ?_
 have h : (l.length : Int) = (r.length : Int) := h
 refine den_loop (fun m ys => ∃ j : Nat, j + m = l.length ∧ (∀ k (hk : k < l.length) (hk' : k < r.length), k < j → l[k] = r[k]) ∧ ys = [i j]) l.length ⟨0, by omega, fun k _ _ h => by omega, rfl⟩ ?_
 rintro m _ ⟨j, hj, hno, rfl⟩
 refine d_l _ (len_eq l) fun _ => d_l _ rfl fun _ => d_dec (fun h1 => ?_) fun h1 => d_ret (isB_t (list_eq_of (by omega) fun k hk hk' => hno k hk hk' (by have h1 : ¬ (j : Int) < (l.length : Int) := h1; omega)))
 have hlt : j < l.length := by have h1 : (j : Int) < (l.length : Int) := h1; omega
 have hlt' : j < r.length := by omega
 refine d_l _ (e_idx (mp_at hlt) rfl) fun _ => d_l _ (e_idx (mp_at hlt') rfl) fun _ => d_l _ rfl fun _ => d_ndec (fun hb => d_ret (isB_f fun e => ?_)) fun hb => d_l _ (e_inc (by omega)) fun _ => d_cont rfl ⟨m - 1, by omega, j + 1, by omega, fun k hk hk' h1 => ?_, rfl⟩
 ·subst e; exact hb rfl
 ·by_cases e : k = j
  ·subst e; exact hb
  ·exact hno k hk hk' (by omega)
/-! types -/
theorem okx_ref02_Same : ∀ (a b : Ty), Lim a → Ok P F.ref02_Same [a.enc, b.enc] (.bool (pb (a = b))) := by
 intro a
 induction a using Ty.ind with
 | _ a ih =>
 intro b hlim
 cases hlim with
 | mk _ hn hl hll hkl hkk =>
 obtain ⟨k, p, nm, s, ls, ks⟩ := a
 obtain ⟨k', p', nm', s', ls', ks'⟩ := b
 have hkl : ks.length ≤ 9223372036854775807 := hkl
 have h2 := okx_ref02_texts (l := ls) (r := ls') hll
 rw [Ty.enc_mk, Ty.enc_mk]
 refine tx_pb k_ref02_Same rfl (by simp [t_ref02_Same, T.dt]) ?_
 refine d_l (.agg [.int .i64 k, .int .i64 p, .str nm, .int .i64 s, .sl (ls.map .str), .sl (ks.map Ty.enc)]) rfl fun _ => d_l (.agg [.int .i64 k', .int .i64 p', .str nm', .int .i64 s', .sl (ls'.map .str), .sl (ks'.map Ty.enc)]) rfl fun _ => ?_
 refine d_l _ rfl fun _ => d_ndec (fun e1 => d_ret (isB_f fun e => e1 (by cases e; rfl))) fun e1 => ?_
 refine d_l _ rfl fun _ => d_ndec (fun e2 => d_ret (isB_f fun e => e2 (by cases e; rfl))) fun e2 => ?_
 refine d_l _ rfl fun _ => d_ndec (fun e3 => d_ret (isB_f fun e => e3 (by cases e; rfl))) fun e3 => ?_
 refine d_l _ rfl fun _ => d_ndec (fun e4 => d_ret (isB_f fun e => e4 (by cases e; rfl))) fun e4 => ?_
 refine d_call h2 (d_l _ rfl fun _ => d_ite (fun e5 => d_ret (isB_f fun e => pb_false.1 (by simpa using e5) (by cases e; rfl))) fun e5 => ?_)
 have e1 : k = k' := e1
 have e2 : p = p' := e2
 have e3 : nm = nm' := e3
 have e4 : s = s' := e4
 have e5 : ls = ls' := pb_iff.1 (by simpa using e5)
 subst e1 e2 e3 e4 e5
 refine d_l _ (len_eq ks) fun _ => d_l _ (len_eq ks') fun _ => d_l _ rfl fun _ => d_ndec (fun h => d_ret (isB_f fun e => h (by cases e; rfl))) fun h => ?_
 have h : (ks.length : Int) = (ks'.length : Int) := h
 refine den_loop (fun m ys => ∃ j : Nat, j + m = ks.length ∧ (∀ k (hk : k < ks.length) (hk' : k < ks'.length), k < j → ks[k] = ks'[k]) ∧ ys = [i j]) ks.length ⟨0, by omega, fun k _ _ h => by omega, rfl⟩ ?_
 rintro m _ ⟨j, hj, hno, rfl⟩
 refine d_l _ (len_eq ks) fun _ => d_l _ rfl fun _ => d_dec (fun h1 => ?_) fun h1 => d_ret (isB_t (by rw [list_eq_of (l := ks) (r := ks') (by omega) fun k hk hk' => hno k hk hk' (by have h1 : ¬ (j : Int) < (ks.length : Int) := h1; omega)]))
 have hlt : j < ks.length := by have h1 : (j : Int) < (ks.length : Int) := h1; omega
 have hlt' : j < ks'.length := by omega
 refine d_l _ (e_idx (mp_at hlt) (Ty.okc_enc _)) fun _ => d_l _ (e_idx (mp_at hlt') (Ty.okc_enc _)) fun _ => d_call (ih _ (List.getElem_mem hlt) _ (hkk _ (List.getElem_mem hlt))) (d_l _ rfl fun _ => d_ite (fun hb => d_ret (isB_f fun e => ?_)) fun hb => d_l _ (e_inc (by omega)) fun _ => d_cont rfl ⟨m - 1, by omega, j + 1, by omega, fun k hk hk' h1 => ?_, rfl⟩)
 ·have hb : pb (ks[j] = ks'[j]) = false := by simpa using hb
  cases e
  exact pb_false.1 hb rfl
 ·have hb : pb (ks[j] = ks'[j]) = true := by simpa using hb
  by_cases e : k = j
  ·subst e; exact pb_iff.1 hb
  ·exact hno k hk hk' (by omega)
end Go.Proofs.YtjekkidhbnkiaaaDoor.Tx

/- Contracts: sameness of processes and programs, sizes of programs. -/
import Derived.Test.YtfmbddfenghnlaaGreatDoorWk61
set_option linter.all false
namespace Go.Proofs.YtfmbddfenghnlaaGreatDoor.Tx
open Go.Lf Go.Lf.S Go.Lf.Duo
set_option maxRecDepth 100000

theorem vl_eq {v w : Vl} : v = w ↔ v.kind = w.kind ∧ v.name = w.name ∧ v.n = w.n := by
  obtain ⟨a, b, c⟩ := v
  obtain ⟨a', b', c'⟩ := w
  constructor
  · intro e; cases e; exact ⟨rfl, rfl, rfl⟩
  · rintro ⟨h1, h2, h3⟩
    simp only at h1 h2 h3
    subst h1 h2 h3; rfl
theorem e_vneq (v w : Vl) : (Prim.acmp .neq [.i .i64, .s, .i .i64]).ev [v.enc, w.enc] = some (.bool (!pb (v = w))) := by
  have h : PV.sameK [.i .i64, .s, .i .i64] [i v.kind, .str v.name, i v.n] [i w.kind, .str w.name, i w.n] = some (pb (v = w)) := by
    by_cases h1 : v.kind = w.kind
    · by_cases h2 : v.name = w.name
      · by_cases h3 : v.n = w.n
        · rw [pb_iff.2 (vl_eq.2 ⟨h1, h2, h3⟩)]
          simp [PV.sameK, PV.same1, h1, h2, h3]
        · rw [pb_false.2 fun e => h3 (vl_eq.1 e).2.2]
          simp [PV.sameK, PV.same1, h1, h2, h3]
      · rw [pb_false.2 fun e => h2 (vl_eq.1 e).2.1]
        simp [PV.sameK, PV.same1, h1, h2]
    · rw [pb_false.2 fun e => h1 (vl_eq.1 e).1]
      simp [PV.sameK, PV.same1, h1]
  show (if [i v.kind, PV.str v.name, i v.n].length = 3 ∧ [i w.kind, PV.str w.name, i w.n].length = 3 then (PV.sameK [.i .i64, .s, .i .i64] [i v.kind, .str v.name, i v.n] [i w.kind, .str w.name, i w.n]).map (fun b => PV.bool (!b)) else none) = _
  rw [if_pos ⟨rfl, rfl⟩, h]; rfl

theorem pr_eq {k k' : Int} {c c' v v' : ByteArray} {ls ls' : List ByteArray} {ar ar' : List Vl} {t t' : Ty} {ks ks' : List Pr} : (Pr.mk k c v ls ar t ks = Pr.mk k' c' v' ls' ar' t' ks') ↔ k = k' ∧ c = c' ∧ v = v' ∧ ls = ls' ∧ ar = ar' ∧ t = t' ∧ ks = ks' := by
  constructor
  · intro e; cases e; exact ⟨rfl, rfl, rfl, rfl, rfl, rfl, rfl⟩
  · rintro ⟨rfl, rfl, rfl, rfl, rfl, rfl, rfl⟩; rfl
theorem kEqS2 : TxOk P F.slices_Equal_string_string 2 eqST := k_slices_Equal_string_string
theorem okx_ref03_Texts {l r : List ByteArray} (hl : l.length ≤ 9223372036854775807) : Ok P F.ref03_Texts [.sl (l.map .str), .sl (r.map .str)] (.bool (pb (l = r))) := by
  refine tx_pb k_ref03_Texts rfl (by simp [t_ref03_Texts, T.dt]) ?_
  refine d_l _ (len_eq l) fun _ => d_l _ (len_eq r) fun _ => d_l _ rfl fun _ => d_ndec (fun h => d_ret (isB_f fun e => h (by rw [e]))) fun h => ?_
  have h : (l.length : Int) = (r.length : Int) := h
  refine den_loop (fun m ys => ∃ j : Nat, j + m = l.length ∧ (∀ k (hk : k < l.length) (hk' : k < r.length), k < j → l[k] = r[k]) ∧ ys = [i j]) l.length ⟨0, by omega, fun k _ _ h => by omega, rfl⟩ ?_
  rintro m _ ⟨j, hj, hno, rfl⟩
  refine d_l _ (len_eq l) fun _ => d_l _ rfl fun _ => d_dec (fun h1 => ?_) fun h1 => d_ret (isB_t (list_eq_of (by omega) fun k hk hk' => hno k hk hk' (by have h1 : ¬ (j : Int) < (l.length : Int) := h1; omega)))
  have hlt : j < l.length := by have h1 : (j : Int) < (l.length : Int) := h1; omega
  have hlt' : j < r.length := by omega
  refine d_l _ (e_idx (mp_at hlt) rfl) fun _ => d_l _ (e_idx (mp_at hlt') rfl) fun _ => d_l _ rfl fun _ => d_ndec (fun hb => d_ret (isB_f fun e => ?_)) fun hb => d_l _ (e_inc (by omega)) fun _ => d_cont rfl ⟨m - 1, by omega, j + 1, by omega, fun k hk hk' h1 => ?_, rfl⟩
  · subst e; exact hb rfl
  · by_cases e : k = j
    · subst e; exact hb
    · exact hno k hk hk' (by omega)

end Go.Proofs.YtfmbddfenghnlaaGreatDoor.Tx

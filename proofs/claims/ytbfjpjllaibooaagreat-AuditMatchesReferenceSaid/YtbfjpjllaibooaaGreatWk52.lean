/- Contracts: the shape of a type's node, exactly, of the program and of the reference. -/
import Derived.Test.YtbfjpjllaibooaaGreatWk51
set_option linter.all false
namespace Go.Proofs.YtbfjpjllaibooaaGreat.Tx
open Go.Lf Go.Lf.S Go.Lf.Duo
set_option maxRecDepth 100000

def prP (n : Int) : Prop := 0 ≤ n ∧ n ≤ 1000000
def noB : ByteArray := ⟨#[]⟩
def shP (k p : Int) (nm : ByteArray) (s : Int) (ls : List ByteArray) (n : Nat) : Prop :=
  (k = 1 ∧ p = 0 ∧ nm = noB ∧ s = 0 ∧ ls.length = 0 ∧ n = 0) ∨ (k = 2 ∧ p = 0 ∧ nm = noB ∧ s = 0 ∧ ls.length = 0 ∧ n = 0) ∨ (k = 3 ∧ p = 0 ∧ nm = noB ∧ s = 0 ∧ ls.length = 0 ∧ n = 0) ∨
  (k = 4 ∧ prP p ∧ nm = noB ∧ s = 0 ∧ ls.length = 0 ∧ n = 2) ∨ (k = 5 ∧ prP p ∧ nm = noB ∧ s = 0 ∧ ls.length = 0 ∧ n = 2) ∨
  (k = 6 ∧ prP p ∧ nm = noB ∧ s = 0 ∧ 0 < ls.length ∧ labP ls ∧ n = ls.length) ∨ (k = 7 ∧ prP p ∧ nm = noB ∧ s = 0 ∧ 0 < ls.length ∧ labP ls ∧ n = ls.length) ∨
  (k = 8 ∧ p = 0 ∧ nameP nm ∧ s = 0 ∧ ls.length = 0 ∧ n = 1) ∨ (k = 9 ∧ p = 0 ∧ nameP nm ∧ prP s ∧ ls.length = 0 ∧ n = 0)
def shapeP (t : Ty) : Prop := shP t.kind t.prio t.name t.shift t.labels t.kids.length

theorem okx_ref02_shape (t : Ty) (hlim : Lim t) : Ok P F.ref02_shape [t.enc] (.bool (pb (shapeP t))) := by
  cases hlim with
  | mk _ hn hl hll hkl hkk =>
  obtain ⟨k, p, nm, s, ls, ks⟩ := t
  have hnb := okx_ref01_Name nm hn
  have hlb := okx_ref02_Labels ls hll hl
  have hp := ok_ref02_prio p
  have hs := ok_ref02_prio s
  refine tx_pb k_ref02_shape rfl (by simp [t_ref02_shape, T.dt]) ?_
  rw [Ty.enc_mk]
  refine d_l _ (by rfl) fun _ => ?_
  repeat' (first
    | refine d_call hp ?_
    | refine d_call hs ?_
    | refine d_call hnb ?_
    | refine d_call hlb ?_
    | refine d_dec (fun _ => ?_) (fun _ => ?_)
    | refine d_ite (fun _ => ?_) (fun _ => ?_)
    | refine d_l _ rfl fun _ => ?_)
  all_goals
    refine d_ret ?_
    try simp only [decide_eq_true_eq, decide_eq_false_iff_not, List.length_map, pb_iff, pb_false] at *
    first
      | (refine isB_f ?_
         simp only [shapeP, shP, Ty.kind, Ty.prio, Ty.shift, Ty.kids, Ty.labels, Ty.name, prP, noB]
         grind)
      | (refine isB_d ?_
         simp only [shapeP, shP, Ty.kind, Ty.prio, Ty.shift, Ty.kids, Ty.labels, Ty.name, prP, noB]
         grind)

end Go.Proofs.YtbfjpjllaibooaaGreat.Tx

/- Contracts: the shape of a type's node, exactly, of the program and of the reference. -/
import Derived.Test.YtfmbddfenghnlaaGreatDoorWk51
set_option linter.all false
namespace Go.Proofs.YtfmbddfenghnlaaGreatDoor.Tx
open Go.Lf Go.Lf.S Go.Lf.Duo
set_option maxRecDepth 100000

def prP (n : Int) : Prop := 0 ≤ n ∧ n ≤ 1000000
def noB : ByteArray := ⟨#[]⟩
theorem noB_name : ¬ nameP noB := fun ⟨⟨h, _⟩, _⟩ => absurd h (by decide)
def shP (k p : Int) (nm : ByteArray) (s : Int) (ls : List ByteArray) (n : Nat) : Prop :=
  (k = 1 ∧ p = 0 ∧ nm = noB ∧ s = 0 ∧ ls.length = 0 ∧ n = 0) ∨ (k = 2 ∧ p = 0 ∧ nm = noB ∧ s = 0 ∧ ls.length = 0 ∧ n = 0) ∨ (k = 3 ∧ p = 0 ∧ nm = noB ∧ s = 0 ∧ ls.length = 0 ∧ n = 0) ∨
  (k = 4 ∧ prP p ∧ nm = noB ∧ s = 0 ∧ ls.length = 0 ∧ n = 2) ∨ (k = 5 ∧ prP p ∧ nm = noB ∧ s = 0 ∧ ls.length = 0 ∧ n = 2) ∨
  (k = 6 ∧ prP p ∧ nm = noB ∧ s = 0 ∧ 0 < ls.length ∧ labP ls ∧ n = ls.length) ∨ (k = 7 ∧ prP p ∧ nm = noB ∧ s = 0 ∧ 0 < ls.length ∧ labP ls ∧ n = ls.length) ∨
  (k = 8 ∧ p = 0 ∧ nameP nm ∧ s = 0 ∧ ls.length = 0 ∧ n = 1) ∨ (k = 9 ∧ p = 0 ∧ nameP nm ∧ prP s ∧ ls.length = 0 ∧ n = 0)
def shapeP (t : Ty) : Prop := shP t.kind t.prio t.name t.shift t.labels t.kids.length

theorem okx_ref02_shape (t : Ty) (hlim : Lim t) : Ok P F.ref02_shape [t.enc] (.bool (pb (shapeP t))) := by
  cases hlim with
  | mk _ hn hl hll hkl hkk =>
  obtain ⟨k, p, nm, s, ls, ks⟩ := t
  have hnb := okx_ref01_Name nm hn
  have hlb := okx_ref02_Labels ls hll hl
  have hp := ok_ref02_prio p
  have hs := ok_ref02_prio s
  refine tx_pb k_ref02_shape rfl (by simp [t_ref02_shape, T.dt]) ?_
  rw [Ty.enc_mk]
  refine d_l _ (by rfl) fun _ => ?_
  repeat' (first
    | refine d_call hp ?_
    | refine d_call hs ?_
    | refine d_call hnb ?_
    | refine d_call hlb ?_
    | refine d_dec (fun _ => ?_) (fun _ => ?_)
    | refine d_ite (fun _ => ?_) (fun _ => ?_)
    | refine d_l _ rfl fun _ => ?_)
  all_goals
    refine d_ret ?_
    try simp only [decide_eq_true_eq, decide_eq_false_iff_not, List.length_map, pb_iff, pb_false] at *
    first
      | (refine isB_f ?_
         simp only [shapeP, shP, Ty.kind, Ty.prio, Ty.shift, Ty.kids, Ty.labels, Ty.name, prP, noB]
         grind)
      | (refine isB_d ?_
         simp only [shapeP, shP, Ty.kind, Ty.prio, Ty.shift, Ty.kids, Ty.labels, Ty.name, prP, noB]
         grind)

def wiP (n : Int) (b : Bool) : Prop := n = 0 ∨ (b = true ∧ 0 < n ∧ n ≤ 1000000)
theorem okx_within (n : Int) (b : Bool) : Ok P F.typetree_within [i n, .bool b] (.bool (pb (wiP n b))) := by
  refine tx_pb k_typetree_within rfl (by simp [t_typetree_within, T.dt]) ?_
  refine d_l _ rfl fun _ => d_dec (fun h => d_ret (isB_t (.inl h))) fun h => d_ite (fun hb => d_l _ rfl fun _ => d_dec (fun h1 => d_l _ rfl fun _ => d_ret (isB_d ?_)) fun h1 => d_ret (isB_f ?_)) fun hb => d_ret (isB_f ?_)
  · have h : ¬ n = 0 := h
    have h1 : 0 < n := h1
    simp only [wiP]; constructor
    · intro h2; exact .inr ⟨hb, h1, h2⟩
    · rintro (h2 | h2)
      · exact absurd h2 h
      · exact h2.2.2
  · have h : ¬ n = 0 := h
    have h1 : ¬ 0 < n := h1
    rintro (h2 | h2)
    · exact h h2
    · exact h1 h2.2.1
  · have h : ¬ n = 0 := h
    have hb : b = false := hb
    rintro (h2 | h2)
    · exact h h2
    · rw [hb] at h2; cases h2.1

def ruleV (p n s l : Bool) (k : Int) : PV := .agg [.bool p, .bool n, .bool s, .bool l, i k]
def rulesV : PV := .mp [i 1, i 2, i 3, i 4, i 5, i 6, i 7, i 8, i 9] [ruleV false false false false 0, ruleV false false false false 0, ruleV false false false false 0, ruleV true false false false 2, ruleV true false false false 2, ruleV true false false true (-1), ruleV true false false true (-1), ruleV false true false false 1, ruleV false true true false 0]
theorem okx_rules : Ok P F.typetree_rules [] rulesV := good1.1 _ _ _ (by kernel_rfl)

def fdP (rp rn rs rl : Bool) (rk : Int) (ok : Bool) (p : Int) (nm : ByteArray) (s : Int) (ls : List ByteArray) (n : Nat) : Prop :=
  ok = true ∧ (n : Int) = (if rk < 0 then (if (ls.length : Int) > 1 then (ls.length : Int) else 1) else rk) ∧ wiP p rp ∧ wiP s rs ∧ (rn = pb (nameP nm)) ∧ (rn = false → nm = noB) ∧ (rl = decide ((0 : Int) < ls.length)) ∧ labP ls

theorem okx_fields' {rp rn rs rl ok : Bool} {rk : Int} (t : Ty) (hlim : Lim t) (hr : (Prim.mget2 false [.i .i64] (.agg [(.bool false), (.bool false), (.bool false), (.bool false), (i 0)])).ev [rulesV, i t.kind] = some (.tup [ruleV rp rn rs rl rk, .bool ok])) :
    Ok P F.typetree_fields [t.enc] (.bool (pb (fdP rp rn rs rl rk ok t.prio t.name t.shift t.labels t.kids.length))) := by
  cases hlim with
  | mk _ hn hl hll hkl hkk =>
  obtain ⟨k, p, nm, s, ls, ks⟩ := t
  have hnb := okx_lex_Name nm hn
  have hlb := okx_distinct ls hll hl
  have hp := okx_within p rp
  have hs := okx_within s rs
  refine tx_pb k_typetree_fields rfl (by simp [t_typetree_fields, T.dt]) ?_
  rw [Ty.enc_mk]
  simp only [Ty.kind] at hr
  refine d_l (.agg [.int .i64 k, .int .i64 p, .str nm, .int .i64 s, .sl (ls.map .str), .sl (ks.map Ty.enc)]) rfl fun _ => d_call okx_rules (d_l (.tup [ruleV rp rn rs rl rk, .bool ok]) hr fun _ => d_l (ruleV rp rn rs rl rk) rfl fun _ => d_l (.bool ok) rfl fun _ => d_l (ruleV rp rn rs rl rk) rfl fun _ => ?_)
  repeat' (first
    | refine d_call hp ?_
    | refine d_call hs ?_
    | refine d_call hnb ?_
    | refine d_call hlb ?_
    | refine d_dec (fun _ => ?_) (fun _ => ?_)
    | refine d_ndec (fun _ => ?_) (fun _ => ?_)
    | refine d_ite (fun _ => ?_) (fun _ => ?_)
    | refine d_l _ rfl fun _ => ?_)
  all_goals
    refine d_ret ?_
    try simp only [List.length_map, Ty.prio, Ty.name, Ty.shift, Ty.labels, Ty.kids, Bool.not_eq_true', Bool.not_eq_false', pb_iff, pb_false] at *
    first
      | (refine isB_f ?_
         simp only [fdP, noB]
         grind)
      | (refine isB_p ?_
         simp only [fdP, noB]
         grind)
end Go.Proofs.YtfmbddfenghnlaaGreatDoor.Tx

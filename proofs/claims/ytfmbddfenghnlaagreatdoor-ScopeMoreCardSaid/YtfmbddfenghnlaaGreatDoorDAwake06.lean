/- The fixed results of law 6 are as its awake asks: by evaluation, with scope.Check from its contract. -/
import Derived.Test.YtfmbddfenghnlaaGreatDoorWk153
set_option linter.all false
namespace Go.Proofs.YtfmbddfenghnlaaGreatDoor.Tx
open Go.Lf Go.Lf.S Go.Lf.Duo
set_option maxRecDepth 100000
def t06 : Ty := .mk 0 0 ⟨#[]⟩ 0 [] []
def te06 : Ty := .mk 3 0 ⟨#[]⟩ 0 [] []
def ca06 : Pr := .mk 8 ⟨#[88]⟩ ⟨#[]⟩ [] [⟨1, ⟨#[97]⟩, 0⟩] t06 []
def cb06 : Pr := .mk 8 ⟨#[88]⟩ ⟨#[]⟩ [] [] t06 []
def st06 : Pr := .mk 1 ⟨#[]⟩ ⟨#[]⟩ [] [] t06 []
def rc06 : Pr := .mk 3 ⟨#[97]⟩ ⟨#[120]⟩ [] [] t06 [ca06]
def p06 : Pg := ⟨[⟨⟨#[88]⟩, [⟨⟨#[97]⟩, te06⟩], ca06⟩], st06⟩
def q06 : Pg := ⟨[], cb06⟩
def r06 : Pg := ⟨[⟨⟨#[88]⟩, [⟨⟨#[97]⟩, te06⟩], rc06⟩], st06⟩
theorem lim06 (k : Int) : Lim (.mk k 0 ⟨#[]⟩ 0 [] []) := .mk _ (by show (0 : Nat) ≤ maxLen; decide) (fun _ h => by cases h) (by show (0 : Nat) ≤ maxLen; decide) (by show (0 : Nat) ≤ maxLen; decide) (fun _ h => by cases h)
theorem plim_ca06 : PLim ca06 := .mk _ (by decide) (by decide) (fun _ h => by cases h) (by decide) (fun a h => by
  have : a = ⟨1, ⟨#[97]⟩, 0⟩ := by simpa [ca06, Pr.args] using h
  subst this; decide) (by decide) (lim06 0) (by decide) (fun _ h => by cases h)
theorem plim_cb06 : PLim cb06 := .mk _ (by decide) (by decide) (fun _ h => by cases h) (by decide) (fun a h => by cases h) (by decide) (lim06 0) (by decide) (fun _ h => by cases h)
theorem plim_st06 : PLim st06 := .mk _ (by decide) (by decide) (fun _ h => by cases h) (by decide) (fun a h => by cases h) (by decide) (lim06 0) (by decide) (fun _ h => by cases h)
theorem plim_rc06 : PLim rc06 := .mk _ (by decide) (by decide) (fun _ h => by cases h) (by decide) (fun a h => by cases h) (by decide) (lim06 0) (by decide) (fun k h => by
  have : k = ca06 := by simpa [rc06, Pr.kids] using h
  subst this; exact plim_ca06)
theorem dlim06 {b : Pr} (h : PLim b) : DLim ⟨⟨#[88]⟩, [⟨⟨#[97]⟩, te06⟩], b⟩ := ⟨by show (1 : Nat) ≤ maxLen; decide, by show (1 : Nat) ≤ maxLen; decide, fun e he => by
  have : e = ⟨⟨#[97]⟩, te06⟩ := by simpa using he
  subst this; exact ⟨by decide, lim06 3⟩, h⟩
theorem glim_p06 : GLim p06 := ⟨by show (1 : Nat) ≤ maxLen; decide, fun d hd => by
  have : d = ⟨⟨#[88]⟩, [⟨⟨#[97]⟩, te06⟩], ca06⟩ := by simpa [p06] using hd
  subst this; exact dlim06 plim_ca06, plim_st06⟩
theorem glim_r06 : GLim r06 := ⟨by show (1 : Nat) ≤ maxLen; decide, fun d hd => by
  have : d = ⟨⟨#[88]⟩, [⟨⟨#[97]⟩, te06⟩], rc06⟩ := by simpa [r06] using hd
  subst this; exact dlim06 plim_rc06, plim_st06⟩
theorem glim_q06 : GLim q06 := ⟨by show (0 : Nat) ≤ maxLen; decide, (fun d hd => by cases hd), plim_cb06⟩
theorem tb06 (k : Int) (ch v : ByteArray) (ls : List ByteArray) (ar : List Vl) : TB 300 (.mk k ch v ls ar t06 []) := .mk _ (by simp [Pr.t, t06, Ty.sz, Ty.szs]) (fun _ h => by cases h)
theorem tb_rc06 : TB 300 rc06 := .mk _ (by simp [rc06, Pr.t, t06, Ty.sz, Ty.szs]) (fun k h => by
  have : k = ca06 := by simpa [rc06, Pr.kids] using h
  subst this; exact tb06 _ _ _ _ _)
theorem sz06 (k : Int) (ch v : ByteArray) (ls : List ByteArray) (ar : List Vl) : (Pr.mk k ch v ls ar t06 []).sz ≤ 100 ∧ pdep (.mk k ch v ls ar t06 []) ≤ 150 ∧ TB 300 (.mk k ch v ls ar t06 []) := ⟨by simp [Pr.sz, Pr.szs], by simp [pdep, pdeps], tb06 _ _ _ _ _⟩
theorem sz_rc06 : rc06.sz ≤ 100 ∧ pdep rc06 ≤ 150 ∧ TB 300 rc06 := ⟨by simp [rc06, ca06, Pr.sz, Pr.szs], by simp [rc06, ca06, pdep, pdeps], tb_rc06⟩
theorem par06 : ([⟨⟨#[97]⟩, te06⟩] : List Et).length ≤ 20 ∧ ∀ e ∈ ([⟨⟨#[97]⟩, te06⟩] : List Et), e.t.sz ≤ 300 := ⟨by simp, fun e he => by
  have : e = ⟨⟨#[97]⟩, te06⟩ := by simpa using he
  subst this; simp [te06, Ty.sz, Ty.szs]⟩
theorem pgs_p06 : PgS p06 100 := ⟨by simp [p06], sz06 _ _ _ _ _, fun d hd => by
  have : d = ⟨⟨#[88]⟩, [⟨⟨#[97]⟩, te06⟩], ca06⟩ := by simpa [p06] using hd
  subst this; exact sz06 _ _ _ _ _, fun d hd => by
  have : d = ⟨⟨#[88]⟩, [⟨⟨#[97]⟩, te06⟩], ca06⟩ := by simpa [p06] using hd
  subst this; exact par06⟩
theorem pgs_r06 : PgS r06 100 := ⟨by simp [r06], sz06 _ _ _ _ _, fun d hd => by
  have : d = ⟨⟨#[88]⟩, [⟨⟨#[97]⟩, te06⟩], rc06⟩ := by simpa [r06] using hd
  subst this; exact sz_rc06, fun d hd => by
  have : d = ⟨⟨#[88]⟩, [⟨⟨#[97]⟩, te06⟩], rc06⟩ := by simpa [r06] using hd
  subst this; exact par06⟩
theorem pgs_q06 : PgS q06 100 := ⟨by simp [q06], sz06 _ _ _ _ _, fun d hd => (by cases hd), fun d hd => by cases hd⟩
theorem prog06 : Ok P F.proctree_Program [p06.enc] (i 0) := (good03 80).1 _ [_] _ (by kernel_rfl)
theorem prog06q : Ok P F.proctree_Program [q06.enc] (i 0) := (good03 80).1 _ [_] _ (by kernel_rfl)
theorem prog06r : Ok P F.proctree_Program [r06.enc] (i 0) := (good03 80).1 _ [_] _ (by kernel_rfl)
theorem d06_one (d : Df) (h : (prN06 d).Nodup) : ∀ q, D06 [d] q := fun q d' hd' => by
  cases q with
  | zero => simp at hd'; subst hd'; exact ⟨fun q d' hq => absurd hq (by omega), h⟩
  | succ q => simp at hd'
theorem bd_p06 : bdE p06 0 = 7 := by
  simp [bdE, p06, ca06, e06, e06s, ndE, pfx, bindF, frB, callE, fstD, prN06, pb_dec]
theorem bd_r06 : bdE r06 0 = 0 := by
  simp [bdE, r06, rc06, ca06, e06, e06s, ndE, pfx, bindF, frB, callE, fstD, prN06, pb_dec]
theorem flt_p06 : fltE 0 p06 = .agg [i 7, i 0] := by
  unfold fltE
  rw [chk_b (j := 0) (p := p06) (by simp [p06]) (fun q _ => d06_one _ (by simp [prN06]) q) (by rw [bd_p06]; decide) (fun q h => by omega), bd_p06]
  rfl
theorem flt_q06 : fltE 0 q06 = .agg [i 4, i 0] := by
  have : e06 q06 q06.main [] true = 4 := by simp [q06, cb06, e06, e06s, ndE, pfx, bindF, frB, callE, fstD, pb_dec]
  unfold fltE
  rw [chk_m (p := q06) (fun q h => by simp [q06] at h) (fun q h => by simp [q06] at h), this]
  rfl
theorem flt_r06 : fltE 0 r06 = .agg [i 0, i 0] := by
  have : e06 r06 r06.main [] true = 0 := by simp [r06, st06, e06, e06s, ndE, pfx, bindF, frB, callE, fstD, pb_dec]
  unfold fltE
  rw [chk_m (p := r06) (fun q _ => d06_one _ (by simp [prN06]) q) (fun q h => by
    have : q = 0 := by simp [r06] at h; omega
    subst this; exact bd_r06), this]
  rfl
def ex06 : List (Nat × List PV × PV) := [(F.scope_Check, [p06.enc], .agg [i 7, i 0]), (F.scope_Check, [q06.enc], .agg [i 4, i 0]), (F.scope_Check, [r06.enc], .agg [i 0, i 0])]
theorem ex06Ok : ExOk P ex06 := ⟨flt_p06 ▸ ok_scope_Check p06 glim_p06 (by omega) pgs_p06 prog06, flt_q06 ▸ ok_scope_Check q06 glim_q06 (by omega) pgs_q06 prog06q, flt_r06 ▸ ok_scope_Check r06 glim_r06 (by omega) pgs_r06 prog06r, trivial⟩
theorem good06 (n : Nat) : GoodEv P (evEx ex06 tb tbS 100000 n).1 (evEx ex06 tb tbS 100000 n).2 := evEx_good ex06Ok allOk allOkS n
theorem awake06 : Ok P F.law06_awake [] (.bool true) := (good06 80).1 _ [] _ (by kernel_rfl)
end Go.Proofs.YtfmbddfenghnlaaGreatDoor.Tx

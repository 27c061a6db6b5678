/- The fixed results of law 02 are as its awake asks: by evaluation, with the functions that range over nodes from their contracts. -/
import Derived.Test.YtkihijbeknphpaaDoorWk57
set_option linter.all false
namespace Go.Proofs.YtkihijbeknphpaaDoor.Tx
open Go.Lf Go.Lf.S Go.Lf.Duo
set_option maxRecDepth 100000
def tB : ByteArray := ⟨#[116]⟩
def tyInt : Ty := .mk 1 0 noB 0 [] []
def tyVar (k : Int) : Ty := .mk 9 0 tB k [] []
def tySend (p : Int) (r : Ty) : Ty := .mk 4 p noB 0 [] [tyInt, r]
def tyLoop (p k : Int) : Ty := .mk 8 0 tB 0 [] [tySend p (tyVar k)]
def tyBare : Ty := .mk 8 0 tB 0 [] [tyVar 0]
theorem fewEx (t : Ty) (h : t.sz ≤ 10000) : Ok P F.typetree_few [t.enc, i 10000] (.bool true) := by
  have := ok_typetree_few t (by omega) 10000 (by omega)
  rwa [decide_eq_true h] at this
def ex02 : List (Nat × List PV × PV) := [(F.typetree_few, [(tyLoop 0 2).enc, i 10000], .bool true), (F.typetree_few, [(tyVar 0).enc, i 10000], .bool true), (F.typetree_few, [tyBare.enc, i 10000], .bool true),
  (F.typetree_few, [tyInt.enc, i 10000], .bool true), (F.typetree_few, [(tySend 0 tyInt).enc, i 10000], .bool true), (F.typetree_Size, [(tyLoop 0 2).enc], i 4),
  (F.typetree_find, [.sl (bv [] 0), .str tB], findV [] 0 tB), (F.typetree_find, [.sl (bv [tB] 0), .str tB], findV [tB] 0 tB), (F.typetree_find, [.sl (bv [tB] 1), .str tB], findV [tB] 1 tB)]
theorem ex02Ok : ExOk P ex02 := ⟨fewEx _ (by decide), fewEx _ (by decide), fewEx _ (by decide), fewEx _ (by decide), fewEx _ (by decide), ok_typetree_Size _ (by decide),
  ok_find _ _ _ (by decide), ok_find _ _ _ (by decide), ok_find _ _ _ (by decide), trivial⟩
theorem good02 (n : Nat) : GoodEv P (evEx ex02 tb tbS 100000 n).1 (evEx ex02 tb tbS 100000 n).2 := evEx_good ex02Ok allOk allOkS n
theorem awake02 : Ok P F.law02_awake [] (.bool true) := (good02 60).1 _ [] _ (by kernel_rfl)

theorem ok_law02_TypetreeRight (t : Ty) (hlim : Lim t) : Ok P F.law02_TypetreeRight [t.enc] (.bool true) := by
  obtain ⟨b, hb, hb2⟩ := okx_ref02_Few t hlim 12000 (by omega) (by omega)
  refine k_law02_TypetreeRight _ _ rfl (d_l _ (e_okc (Ty.okc_enc t)) fun _ => d_call awake02 (d_l (.bool false) rfl fun _ => d_false (d_call hb (d_l (.bool !b) rfl fun _ => d_ite (fun _ => d_call awake02 (d_ret rfl)) fun h => ?_))))
  have hz := (hb2 (by simpa using h)).1
  exact d_call (okx_typetree_Right t hlim (by omega)) (d_call (okx_ref02_Right t hlim (by omega)) (d_l _ rfl fun _ => d_ret (by rw [decide_eq_true rfl])))

theorem ok_law02_TypetreeMeasures (a b : Ty) (ha : Lim a) (hb : Lim b) : Ok P F.law02_TypetreeMeasures [a.enc, b.enc] (.bool true) := by
  obtain ⟨ra, ka, ka2⟩ := okx_ref02_Few a ha 2000 (by omega) (by omega)
  obtain ⟨rb, kb, kb2⟩ := okx_ref02_Few b hb 2000 (by omega) (by omega)
  refine k_law02_TypetreeMeasures _ _ rfl (d_l a.enc (e_okc (Ty.okc_enc a)) fun _ => d_l b.enc (e_okc (Ty.okc_enc b)) fun _ => d_call awake02 (d_l (.bool false) rfl fun _ => d_false ?_))
  refine d_call ka (d_l (.bool !ra) rfl fun _ => d_ite (fun _ => d_call awake02 (d_ret rfl)) fun h => ?_)
  have hza := (ka2 (by simpa using h)).1
  refine d_call kb (d_l (.bool !rb) rfl fun _ => d_ite (fun _ => d_call awake02 (d_ret rfl)) fun h => ?_)
  have tt : ∀ {p : Prop} [Decidable p], p → PV.bool (decide p) = .bool true := fun h => by rw [decide_eq_true h]
  refine d_call (ok_typetree_Size a (by omega)) (d_call (ok_ref02_Size a (by omega)) (d_l (.bool true) (congrArg some (tt rfl)) fun _ => d_true ?_))
  refine d_call (okx_typetree_Depth a (by omega)) (d_call (ok_ref02_Depth a (by omega)) (d_l (.bool true) (congrArg some (tt rfl)) fun _ => d_true ?_))
  refine d_call (okx_typetree_Same a b ha) (d_call (okx_ref02_Same a b ha) (d_l (.bool true) (by show some (PV.bool (pb (a = b) == pb (a = b))) = _; simp) fun _ => d_true ?_))
  have e : pb (b = a) = pb (a = b) := pb_congr ⟨Eq.symm, Eq.symm⟩
  refine d_call (okx_typetree_Same b a hb) (d_call (okx_ref02_Same a b ha) (d_l (.bool true) (by rw [e]; show some (PV.bool (pb (a = b) == pb (a = b))) = _; simp) fun _ => d_true ?_))
  have h1 : Ok P F.typetree_Same [a.enc, a.enc] (.bool true) := by
    have := okx_typetree_Same a a ha
    rwa [pb_iff.2 rfl] at this
  refine d_call h1 (d_true (d_call (ok_Session a) (d_call (r := .bool (sesB a.kind)) (ok_ref02_Session a) (d_l (.bool true) (by show some (PV.bool (sesB a.kind == sesB a.kind)) = _; simp) fun _ => d_ret rfl))))
end Go.Proofs.YtkihijbeknphpaaDoor.Tx

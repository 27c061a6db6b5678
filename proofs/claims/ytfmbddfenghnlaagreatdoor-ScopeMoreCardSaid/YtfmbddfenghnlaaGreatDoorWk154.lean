/- The package scope: what is found and listed, as the reference does (law 6, ScopeFinds). -/
import Derived.Test.YtfmbddfenghnlaaGreatDoorWk153
import Derived.Test.YtfmbddfenghnlaaGreatDoorDAwake06
set_option linter.all false
namespace Go.Proofs.YtfmbddfenghnlaaGreatDoor.Tx
open Go.Lf Go.Lf.S Go.Lf.Duo
set_option maxRecDepth 100000

theorem d_collR {f : Int → ByteArray → ByteArray → List ByteArray} (hf : ∀ k a b, (f k a b).length ≤ 2) {g : Nat} {w : PV → PV} {ks : List Pr} {L0 : List ByteArray} {K : PV → Prop} (ih : ∀ x ∈ ks, Ok P g [x.enc] (.sl ((coll f x).map .str)))
    (hb : L0.length + 2 * Pr.szs ks ≤ 8796093022208) (hK : K (w (.sl ((L0 ++ colls f ks).map .str)))) :
    (T.loop [(i 0), .sl (L0.map .str)] fun y => .l .len [.sl (ks.map Pr.enc)] fun x5 => .l (.cmp .lss .i64) [(n y 0), x5] fun x6 => .ite x6
      (.l (.idx 12 true) [.sl (ks.map Pr.enc), (n y 0)] fun x7 => .call g [x7] fun x8 => .l (.app 1 false 16) [(n y 1), x8] fun x9 => .l (.arith .add .i64) [(n y 0), (i 1)] fun x10 => .cont 0 [x10, x9])
      (.ret (w (n y 1)))).den0 P K [] := by
  have hlen := pr_len ks
  refine den_rounds (fun j => [i j, .sl ((L0 ++ colls f (ks.take j)).map .str)]) ks.length (by simp [colls]) (fun j hj => ?_) ?_
  · have hc := colls_len hf (ks.take j)
    have hs2 := pszs_take ks j hj
    have hs3 := pszs_take_le ks (j + 1)
    have hc1 := coll_len hf ks[j]
    refine d_l _ (len_eq ks) fun _ => d_l (.bool (decide ((j : Int) < (ks.length : Int)))) rfl fun _ => d_dec (p := (j : Int) < (ks.length : Int)) (fun _ => ?_) fun h => absurd h (by omega)
    rw [colls_take f ks j hj, ← List.append_assoc]
    exact d_l _ (e_idx (n := 12) (a := true) (mp_at (f := Pr.enc) hj) (Pr.okc_enc _)) fun _ => d_call (ih _ (List.getElem_mem hj)) (d_l _ (app_str (by simp; omega)) fun _ => d_l _ (e_inc (by omega)) fun _ => d_cont rfl (by simp))
  · refine d_l _ (len_eq ks) fun _ => d_l (.bool (decide ((ks.length : Int) < (ks.length : Int)))) rfl fun _ => d_dec (p := (ks.length : Int) < (ks.length : Int)) (fun h => absurd h (by omega)) fun h => d_ret ?_
    rw [List.take_of_length_le (Nat.le_refl _)]
    exact hK

theorem ok_Calls06 : ∀ p : Pr, p.sz ≤ 1099511627776 → Ok P F.ref06_Calls [p.enc] (.sl ((coll callF p).map .str)) := by
  intro p
  induction p using Pr.ind with
  | _ p ih =>
  intro hz
  obtain ⟨k, ch, v, ls, ar, t, ks⟩ := p
  simp only [Pr.sz] at hz
  have ih : ∀ x ∈ ks, Ok P F.ref06_Calls [x.enc] (.sl ((coll callF x).map .str)) := fun x hx => ih x hx (by have := Pr.szs_mem hx; omega)
  rw [Pr.enc_mk]
  refine k_ref06_Calls _ _ rfl (d_l _ (e_prC k ch v ls ar t ks) fun _ => d_l (.bool (decide (k = 8))) rfl fun _ => d_dec (p := k = 8) (fun h => d_l (.sl [.str ch]) rfl fun _ => d_l _ (app_str (l := []) (m := [ch]) (by simp)) fun _ => d_collR call_le (w := id) (L0 := [ch]) ih (by simp; omega) ?_) fun h => d_collR call_le (w := id) (L0 := []) ih (by simp; omega) ?_)
  · simp only [coll, callF, if_pos h]; rfl
  · simp only [coll, callF, if_neg h]; rfl
end Go.Proofs.YtfmbddfenghnlaaGreatDoor.Tx

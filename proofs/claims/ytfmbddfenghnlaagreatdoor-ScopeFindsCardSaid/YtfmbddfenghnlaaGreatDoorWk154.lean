/- The package scope: what is found and listed, as the reference does (law 6, ScopeFinds). -/
import Derived.Test.YtfmbddfenghnlaaGreatDoorWk153
import Derived.Test.YtfmbddfenghnlaaGreatDoorDAwake06
set_option linter.all false
namespace Go.Proofs.YtfmbddfenghnlaaGreatDoor.Tx
open Go.Lf Go.Lf.S Go.Lf.Duo
set_option maxRecDepth 100000

theorem d_collR {f : Int → ByteArray → ByteArray → List ByteArray} (hf : ∀ k a b, (f k a b).length ≤ 2) {g : Nat} {w : PV → PV} {ks : List Pr} {L0 : List ByteArray} {K : PV → Prop} (ih : ∀ x ∈ ks, Ok P g [x.enc] (.sl ((coll f x).map .str)))
    (hb : L0.length + 2 * Pr.szs ks ≤ 8796093022208) (hK : K (w (.sl ((L0 ++ colls f ks).map .str)))) :
    (T.loop [(i 0), .sl (L0.map .str)] fun y => .l .len [.sl (ks.map Pr.enc)] fun x5 => .l (.cmp .lss .i64) [(n y 0), x5] fun x6 => .ite x6
      (.l (.idx 12 true) [.sl (ks.map Pr.enc), (n y 0)] fun x7 => .call g [x7] fun x8 => .l (.app 1 false 16) [(n y 1), x8] fun x9 => .l (.arith .add .i64) [(n y 0), (i 1)] fun x10 => .cont 0 [x10, x9])
      (.ret (w (n y 1)))).den0 P K [] := by
  have hlen := pr_len ks
  refine den_rounds (fun j => [i j, .sl ((L0 ++ colls f (ks.take j)).map .str)]) ks.length (by simp [colls]) (fun j hj => ?_) ?_
  · have hc := colls_len hf (ks.take j)
    have hs2 := pszs_take ks j hj
    have hs3 := pszs_take_le ks (j + 1)
    have hc1 := coll_len hf ks[j]
    refine d_l _ (len_eq ks) fun _ => d_l (.bool (decide ((j : Int) < (ks.length : Int)))) rfl fun _ => d_dec (p := (j : Int) < (ks.length : Int)) (fun _ => ?_) fun h => absurd h (by omega)
    rw [colls_take f ks j hj, ← List.append_assoc]
    exact d_l _ (e_idx (n := 12) (a := true) (mp_at (f := Pr.enc) hj) (Pr.okc_enc _)) fun _ => d_call (ih _ (List.getElem_mem hj)) (d_l _ (app_str (by simp; omega)) fun _ => d_l _ (e_inc (by omega)) fun _ => d_cont rfl (by simp))
  · refine d_l _ (len_eq ks) fun _ => d_l (.bool (decide ((ks.length : Int) < (ks.length : Int)))) rfl fun _ => d_dec (p := (ks.length : Int) < (ks.length : Int)) (fun h => absurd h (by omega)) fun h => d_ret ?_
    rw [List.take_of_length_le (Nat.le_refl _)]
    exact hK

theorem ok_Calls06 : ∀ p : Pr, p.sz ≤ 1099511627776 → Ok P F.ref06_Calls [p.enc] (.sl ((coll callF p).map .str)) := by
  intro p
  induction p using Pr.ind with
  | _ p ih =>
  intro hz
  obtain ⟨k, ch, v, ls, ar, t, ks⟩ := p
  simp only [Pr.sz] at hz
  have ih : ∀ x ∈ ks, Ok P F.ref06_Calls [x.enc] (.sl ((coll callF x).map .str)) := fun x hx => ih x hx (by have := Pr.szs_mem hx; omega)
  rw [Pr.enc_mk]
  refine k_ref06_Calls _ _ rfl (d_l _ (e_prC k ch v ls ar t ks) fun _ => d_l (.bool (decide (k = 8))) rfl fun _ => d_dec (p := k = 8) (fun h => d_l (.sl [.str ch]) rfl fun _ => d_l _ (app_str (l := []) (m := [ch]) (by simp)) fun _ => d_collR call_le (w := id) (L0 := [ch]) ih (by simp; omega) ?_) fun h => d_collR call_le (w := id) (L0 := []) ih (by simp; omega) ?_)
  · simp only [coll, callF, if_pos h]; rfl
  · simp only [coll, callF, if_neg h]; rfl
theorem ok_Binders06 : ∀ p : Pr, p.sz ≤ 1099511627776 → Ok P F.ref06_Binders [p.enc] (.sl ((coll bindF p).map .str)) := by
  intro p
  induction p using Pr.ind with
  | _ p ih =>
  intro hz
  obtain ⟨k, ch, v, ls, ar, t, ks⟩ := p
  simp only [Pr.sz] at hz
  have ih : ∀ x ∈ ks, Ok P F.ref06_Binders [x.enc] (.sl ((coll bindF x).map .str)) := fun x hx => ih x hx (by have := Pr.szs_mem hx; omega)
  rw [Pr.enc_mk]
  refine k_ref06_Binders _ _ rfl (d_l _ (e_prC k ch v ls ar t ks) fun _ => d_l (.bool (decide (k = 3))) rfl fun _ => d_dec (p := k = 3) (fun h => d_l (.sl [.str v]) rfl fun _ => d_l _ (app_str (l := []) (m := [v]) (by simp)) fun _ => d_l (.bool (decide (k = 6))) rfl fun _ => d_dec (p := k = 6) (fun h6 => by omega) fun h6 => d_collR bind_le (w := id) (L0 := [v]) ih (by simp; omega) ?_) fun h => d_l (.bool (decide (k = 6))) rfl fun _ => d_dec (p := k = 6) (fun h6 => d_l (.sl [.str ch, .str v]) rfl fun _ => d_l _ (app_str (l := []) (m := [ch, v]) (by simp)) fun _ => d_collR bind_le (w := id) (L0 := [ch, v]) ih (by simp; omega) ?_) fun h6 => d_collR bind_le (w := id) (L0 := []) ih (by simp; omega) ?_)
  · simp only [coll, bindF, if_pos h]; rfl
  · simp only [coll, bindF, if_neg h, if_pos h6]; rfl
  · simp only [coll, bindF, if_neg h, if_neg h6]; rfl
theorem ok_BindersA (p : Pr) (hz : p.sz ≤ 1099511627776) : Ok P F.scope_Binders [p.enc] (.sl ((coll bindF p).map .str)) :=
  k_scope_Binders _ _ rfl (d_l _ (e_okc (Pr.okc_enc p)) fun _ => d_call (ok_collect bind_le ok_boundA p hz) (d_ret rfl))

theorem ok_FindR (w : Pg) (s : ByteArray) (hl : w.defs.length ≤ 1000000) : ∃ r : Int, Ok P F.ref06_Find [w.enc, .str s] (i r) ∧ FS w s r := ok_Find06 w s hl

theorem ok_law06_ScopeFinds (p : Pg) (q : Pr) (s : ByteArray) (hp : GLim p) (hq : PLim q) : Ok P F.law06_ScopeFinds [p.enc, q.enc, .str s] (.bool true) := by
  obtain ⟨b1, hb1, hg1⟩ := ok_ref03_Little p hp 500 (by omega)
  obtain ⟨b2, hb2, hg2⟩ := ok_ref03_Few q hq 500 (by omega) (by omega)
  refine k_law06_ScopeFinds _ _ rfl (d_l _ (e_okc (Pg.okc_enc p)) fun _ => d_l _ (e_okc (Pr.okc_enc q)) fun _ => d_call awake06 (d_l (.bool false) rfl fun _ => d_false (d_call hb1 (d_l (.bool (!b1)) rfl fun _ => d_ite (fun _ => d_call awake06 (d_ret rfl)) fun h1 => d_call hb2 (d_l (.bool (!b2)) rfl fun _ => d_ite (fun _ => d_call awake06 (d_ret rfl)) fun h2 => ?_)))))
  have h1 := hg1 (by simpa using h1)
  have h2 := hg2 (by simpa using h2)
  have hlen := h1.len
  have hz : q.sz ≤ 1099511627776 := by omega
  have hcl := coll_len call_le q
  have hbl := coll_len bind_le q
  obtain ⟨r, hr, hc⟩ := ok_FindS p s (by omega)
  obtain ⟨r', hr', hc'⟩ := ok_FindR p s (by omega)
  have e1 : decide (0 ≤ r) = decide (0 ≤ r') := by
    rcases hc.two hc' with ⟨a, b⟩ | rfl
    · rw [decide_eq_false (by omega), decide_eq_false (by omega)]
    · rfl
  have e2 : max r 0 = max r' 0 := by
    rcases hc.two hc' with ⟨a, b⟩ | rfl
    · omega
    · rfl
  have ht1 : Ok P F.ref03_Texts [.sl ((coll callF q).map .str), .sl ((coll callF q).map .str)] (.bool true) := by
    have := okx_ref03_Texts (l := coll callF q) (r := coll callF q) (by omega)
    rwa [pb_iff.2 rfl] at this
  have ht2 : Ok P F.ref03_Texts [.sl ((coll bindF q).map .str), .sl ((coll bindF q).map .str)] (.bool true) := by
    have := okx_ref03_Texts (l := coll bindF q) (r := coll bindF q) (by omega)
    rwa [pb_iff.2 rfl] at this
  refine d_call hr (d_l (i (max r 0)) rfl fun _ => d_l (.bool (decide (0 ≤ r))) rfl fun _ => d_call hr' (d_l (.bool (decide (0 ≤ r'))) rfl fun _ => d_l (.bool true) (by rw [e1]; simp [Prim.ev, bcmpV]) fun _ => d_true (d_l (i (max r' 0)) (by
    have : (if (0 : Int) > r' then 0 else r') = max r' 0 := by omega
    rw [← this]; rfl) fun _ => d_l (.bool (decide (max r 0 = max r' 0))) rfl fun _ => d_dec (p := max r 0 = max r' 0) (fun _ => ?_) fun h => absurd e2 h)))
  exact d_call (ok_scope_Calls q hz) (d_call (ok_Calls06 q hz) (d_call ht1 (d_true (d_call (ok_BindersA q hz) (d_call (ok_Binders06 q hz) (d_call ht2 (d_ret rfl)))))))
end Go.Proofs.YtfmbddfenghnlaaGreatDoor.Tx

/- The package scope: what is collected of all nodes: calls, binders. -/
import Derived.Test.YtbfjpjllaibooaaGreatWk61
set_option linter.all false
namespace Go.Proofs.YtbfjpjllaibooaaGreat.Tx
open Go.Lf Go.Lf.S Go.Lf.Duo
set_option maxRecDepth 100000

mutual
def coll (f : Int → ByteArray → ByteArray → List ByteArray) : Pr → List ByteArray
  | .mk k ch v _ _ _ ks => f k ch v ++ colls f ks
def colls (f : Int → ByteArray → ByteArray → List ByteArray) : List Pr → List ByteArray
  | [] => []
  | p :: r => coll f p ++ colls f r
end
def callF (k : Int) (ch _v : ByteArray) : List ByteArray := if k = 8 then [ch] else []
theorem colls_take (f : Int → ByteArray → ByteArray → List ByteArray) : ∀ (l : List Pr) (j : Nat) (h : j < l.length), colls f (l.take (j + 1)) = colls f (l.take j) ++ coll f l[j]
  | x :: l, 0, _ => by simp [colls]
  | x :: l, j + 1, h => by
    have := colls_take f l j (by simpa using h)
    simp only [List.take_succ_cons, colls, List.getElem_cons_succ, this, List.append_assoc]
mutual
theorem coll_len {f : Int → ByteArray → ByteArray → List ByteArray} (hf : ∀ k a b, (f k a b).length ≤ 2) : ∀ p : Pr, (coll f p).length ≤ 2 * p.sz
  | .mk k ch v _ _ _ ks => by
    have h1 := hf k ch v
    have h2 := colls_len hf ks
    simp only [coll, Pr.sz, List.length_append]; omega
theorem colls_len {f : Int → ByteArray → ByteArray → List ByteArray} (hf : ∀ k a b, (f k a b).length ≤ 2) : ∀ l : List Pr, (colls f l).length ≤ 2 * Pr.szs l
  | [] => by simp [colls]
  | p :: r => by
    have h1 := coll_len hf p
    have h2 := colls_len hf r
    simp only [colls, Pr.szs, List.length_append]; omega
end
theorem call_le (k : Int) (a b : ByteArray) : (callF k a b).length ≤ 2 := by unfold callF; split <;> simp
theorem app_str {l m : List ByteArray} (h : l.length + m.length ≤ 8796093022208) : (Prim.app 1 false 16).ev [.sl (l.map .str), .sl (m.map .str)] = some (.sl ((l ++ m).map .str)) := by
  rw [e_app (all_map okc_str m) (by simp; omega) (by simp; omega), List.map_append]

theorem okS_collect_1 {f : Int → ByteArray → ByteArray → List ByteArray} (hf : ∀ k a b, (f k a b).length ≤ 2) {g : Nat} (hg : ∀ p : Pr, Ok P g [p.enc] (.sl ((f p.kind p.chan p.var).map .str))) :
    ∀ (p : Pr) (out : List ByteArray), out.length + 2 * p.sz ≤ 8796093022208 → OkS P F.scope_collect_1 sg_scope_collect_1 [p.enc, .fn g [] [], .sl (out.map .str)] [.tup [], .fn g [] [], .sl ((out ++ coll f p).map .str)] := by
  intro p
  induction p using Pr.ind with
  | _ p ih =>
  intro out hz
  have hgp := hg p
  obtain ⟨k, ch, v, ls, ar, t, ks⟩ := p
  simp only [Pr.sz] at hz
  have hlen := pr_len ks
  have h1 := hf k ch v
  have ih : ∀ x ∈ ks, ∀ (out : List ByteArray), out.length + 2 * x.sz ≤ 8796093022208 → OkS P F.scope_collect_1 sg_scope_collect_1 [x.enc, .fn g [] [], .sl (out.map .str)] [.tup [], .fn g [] [], .sl ((out ++ coll f x).map .str)] := ih
  rw [Pr.enc_mk] at hgp ⊢
  have hgp : Ok P g _ (.sl ((f k ch v).map .str)) := hgp
  refine m_scope_collect_1 _ _ (d_l (.agg [i k, .str ch, .str v, .sl (ls.map .str), .sl (ar.map Vl.enc), i t.kind, i t.prio, .str t.name, i t.shift, .sl (t.labels.map .str), .sl (t.kids.map Ty.enc), .sl (ks.map Pr.enc)]) rfl fun _ => d_callv (fs := []) (cs := []) hgp (d_l _ (app_str (by omega)) fun _ => d_l _ (len_eq ks) fun _ => ?_))
  refine den_rounds (fun j => [i j, .sl ((out ++ f k ch v ++ colls f (ks.take j)).map .str), .fn g [] []]) ks.length (by simp [colls]) (fun j hj => ?_) ?_
  · have hmem : ks[j] ∈ ks := List.getElem_mem hj
    have hs1 := Pr.szs_mem hmem
    have hs2 := pszs_take ks j hj
    have hs3 := pszs_take_le ks (j + 1)
    have hc := colls_len hf (ks.take j)
    refine d_l (.bool (decide ((j : Int) < (ks.length : Int)))) rfl fun _ => d_dec (p := (j : Int) < (ks.length : Int)) (fun h => ?_) fun h => absurd (show (j : Int) < (ks.length : Int) by omega) h
    refine d_l _ (e_idx (mp_at (f := Pr.enc) hj) (Pr.okc_enc _)) fun _ => d_l _ (e_okc (Pr.okc_enc _)) fun _ => d_calls rfl (ih _ hmem (out ++ f k ch v ++ colls f (ks.take j)) (by simp only [List.length_append]; omega)) (d_l _ (e_inc (by omega)) fun _ => d_cont rfl ?_)
    rw [colls_take f ks j hj]
    simp only [n, List.getD_cons_zero, List.getD_cons_succ, List.append_assoc]
  · refine d_l (.bool (decide ((ks.length : Int) < (ks.length : Int)))) rfl fun _ => d_dec (p := (ks.length : Int) < (ks.length : Int)) (fun h => by omega) fun _ => d_ret ?_
    rw [List.take_length]
    simp only [coll, List.append_assoc]
    rfl

theorem ok_collect {f : Int → ByteArray → ByteArray → List ByteArray} (hf : ∀ k a b, (f k a b).length ≤ 2) {g : Nat} (hg : ∀ p : Pr, Ok P g [p.enc] (.sl ((f p.kind p.chan p.var).map .str))) (p : Pr) (hz : p.sz ≤ 1099511627776) :
    Ok P F.scope_collect [p.enc, .fn g [] []] (.sl ((coll f p).map .str)) :=
  k_scope_collect _ _ rfl (d_l _ (e_okc (Pr.okc_enc p)) fun _ => d_l (.fn g [] []) rfl fun _ => d_calls rfl (okS_collect_1 hf hg p [] (by simp; omega)) (d_ret (by simp [n])))

theorem ok_Calls_1 (p : Pr) : Ok P F.scope_Calls_1 [p.enc] (.sl ((callF p.kind p.chan p.var).map .str)) := by
  obtain ⟨k, ch, v, ls, ar, t, ks⟩ := p
  rw [Pr.enc_mk]
  show Ok P F.scope_Calls_1 _ (.sl ((callF k ch v).map .str))
  refine k_scope_Calls_1 _ _ rfl (d_l (.agg [i k, .str ch, .str v, .sl (ls.map .str), .sl (ar.map Vl.enc), i t.kind, i t.prio, .str t.name, i t.shift, .sl (t.labels.map .str), .sl (t.kids.map Ty.enc), .sl (ks.map Pr.enc)]) rfl fun _ => d_l (.bool (decide (k = 8))) rfl fun _ => d_dec (p := k = 8) (fun h => d_l (.sl [.str ch]) rfl fun _ => d_ret ?_) fun h => d_ret ?_)
  · unfold callF; rw [if_pos h]; rfl
  · unfold callF; rw [if_neg h]; rfl
theorem ok_scope_Calls (p : Pr) (hz : p.sz ≤ 1099511627776) : Ok P F.scope_Calls [p.enc] (.sl ((coll callF p).map .str)) :=
  k_scope_Calls _ _ rfl (d_l _ (e_okc (Pr.okc_enc p)) fun _ => d_call (ok_collect call_le ok_Calls_1 p hz) (d_ret rfl))
end Go.Proofs.YtbfjpjllaibooaaGreat.Tx

/- The package scope: its walker, exactly (1): sets of names, one node. -/
import Derived.Test.YtfmbddfenghnlaaGreatDoorWk150
import Derived.Test.YtfmbddfenghnlaaGreatDoorWk137
import Derived.Test.YtfmbddfenghnlaaGreatDoorWk69
set_option linter.all false
namespace Go.Proofs.YtfmbddfenghnlaaGreatDoor.Tx
open Go.Lf Go.Lf.S Go.Lf.Duo
set_option maxRecDepth 100000

abbrev prC (k : Int) (ch v : ByteArray) (ls : List ByteArray) (ar : List Vl) (t : Ty) (ks : List Pr) : PV :=
  .agg [i k, .str ch, .str v, .sl (ls.map .str), .sl (ar.map Vl.enc), i t.kind, i t.prio, .str t.name, i t.shift, .sl (t.labels.map .str), .sl (t.kids.map Ty.enc), .sl (ks.map Pr.enc)]
theorem e_prC (k : Int) (ch v : ByteArray) (ls : List ByteArray) (ar : List Vl) (t : Ty) (ks : List Pr) : (Prim.okc 12 true).ev [prC k ch v ls ar t ks] = some (prC k ch v ls ar t ks) := rfl

theorem ok_PrefixA (p : Pr) : Ok P F.proctree_Prefix [p.enc] (.bool (pfx p.kind)) := by
  obtain ⟨k, ch, v, ls, ar, t, ks⟩ := p
  show Ok P _ _ (.bool (pfx k))
  rw [Pr.enc_mk]
  refine k_proctree_Prefix _ _ rfl (d_l _ (e_prC k ch v ls ar t ks) fun _ => d_l (.bool (decide (2 ≤ k))) rfl fun _ => d_dec (p := 2 ≤ k) (fun h => d_l (.bool (decide (k ≤ 5))) rfl fun _ => d_ret ?_) fun h => d_ret ?_)
  · unfold pfx; simp [h]
  · unfold pfx; simp [h]

theorem ok_boundA (p : Pr) : Ok P F.scope_bound [p.enc] (.sl ((bindF p.kind p.chan p.var).map .str)) := by
  obtain ⟨k, ch, v, ls, ar, t, ks⟩ := p
  show Ok P _ _ (.sl ((bindF k ch v).map .str))
  rw [Pr.enc_mk]
  refine k_scope_bound _ _ rfl (d_l _ (e_prC k ch v ls ar t ks) fun _ => d_l (.bool (decide (k = 3))) rfl fun _ => d_dec (p := k = 3) (fun h => d_l (.sl [.str v]) rfl fun _ => d_ret ?_) fun h =>
    d_l (.bool (decide (k = 6))) rfl fun _ => d_dec (p := k = 6) (fun h6 => d_l (.sl [.str ch, .str v]) rfl fun _ => d_ret ?_) fun h6 => d_ret ?_)
  · unfold bindF; rw [if_pos h]; rfl
  · unfold bindF; rw [if_neg h, if_pos h6]; rfl
  · unfold bindF; rw [if_neg h, if_neg h6]; rfl

/-! sets of names -/

def addL (ls l : List ByteArray) : List ByteArray := l.foldl (fun a s => addS s a) ls
theorem mem_addL {x : ByteArray} : ∀ {l ls : List ByteArray}, x ∈ addL ls l ↔ x ∈ ls ∨ x ∈ l
  | [], ls => by simp [addL]
  | s :: l, ls => by
    have := mem_addL (x := x) (l := l) (ls := addS s ls)
    show x ∈ addL (addS s ls) l ↔ _
    rw [this, mem_addS, List.mem_cons, or_assoc]
noncomputable def frB (ls l : List ByteArray) : Bool := l.all fun s => !pb (s ∈ ls)

theorem ok_with (ls l : List ByteArray) (hl : l.length ≤ 9223372036854775807) : Ok P F.scope_names_with [setV ls, .sl (l.map .str)] (.tup [setV (addL ls l), .bool (frB ls l)]) := by
  refine k_scope_names_with _ _ rfl (d_calls rfl (okS_CloneN _ _) (d_l _ (len_eq l) fun _ => ?_))
  refine den_rounds (fun j => [i j, .bool (frB ls (l.take j)), setV (addL ls (l.take j))]) l.length (by simp [frB, addL]; rfl) (fun j hj => ?_) ?_
  · have hs : l.take (j + 1) = l.take j ++ [l[j]] := List.take_succ_eq_append_getElem hj
    have e1 : addL ls (l.take (j + 1)) = addS l[j] (addL ls (l.take j)) := by rw [hs]; unfold addL; rw [List.foldl_append]; rfl
    have e2 : frB ls (l.take (j + 1)) = (frB ls (l.take j) && !pb (l[j] ∈ ls)) := by rw [hs]; unfold frB; rw [List.all_append]; simp only [List.all_cons, List.all_nil, Bool.and_true]
    rw [e1, e2]
    refine d_l (.bool (decide ((j : Int) < (l.length : Int)))) rfl fun _ => d_dec (p := (j : Int) < (l.length : Int)) (fun _ => ?_) fun h => absurd h (by omega)
    refine d_l _ (e_idx (mp_at (f := PV.str) hj) rfl) fun _ => ?_
    refine d_ite (fun h => ?_) fun h => ?_
    · rw [h]
      exact d_l _ e_mgetS fun _ => d_l (.bool (!pb (l[j] ∈ ls))) rfl fun _ => d_l _ e_msetS fun _ => d_l _ (e_inc (by omega)) fun _ => d_cont rfl (by simp)
    · rw [h]
      exact d_l _ e_msetS fun _ => d_l _ (e_inc (by omega)) fun _ => d_cont rfl (by simp)
  · refine d_l (.bool (decide ((l.length : Int) < (l.length : Int)))) rfl fun _ => d_dec (p := (l.length : Int) < (l.length : Int)) (fun h => absurd h (by omega)) fun h => d_ret ?_
    rw [List.take_of_length_le (Nat.le_refl _)]; rfl

/-! finding a definition -/

theorem kIdxD : TxOk P F.slices_IndexFunc_api_Def_api_Def 2 (idxFT 14) := k_slices_IndexFunc_api_Def_api_Def
theorem ok_Find_1 (d : Df) (s : ByteArray) : Ok P F.scope_Find_1 [d.enc, .box (.str s)] (.bool (decide (d.name = s))) :=
  k_scope_Find_1 _ _ rfl (d_l _ (e_okc (Df.okc_enc d)) fun _ => d_l (.str s) rfl fun _ => d_l (.bool (decide (d.name = s))) rfl fun _ => d_ret rfl)
/-- where a definition stands: its number, or a negative one -/
def FS (w : Pg) (s : ByteArray) (r : Int) : Prop := (r < 0 ∧ fstD w.defs s = none) ∨ ∃ (j : Nat) (d : Df), r = j ∧ w.defs[j]? = some d ∧ d.name = s ∧ fstD w.defs s = some d ∧ ∀ q d', q < j → w.defs[q]? = some d' → d'.name ≠ s
theorem ok_FindS (w : Pg) (s : ByteArray) (hl : w.defs.length ≤ 1000000) : ∃ r : Int, Ok P F.scope_Find [w.enc, .str s] (.tup [i (max r 0), .bool (decide (0 ≤ r))]) ∧ FS w s r := by
  obtain ⟨r, h1, h2, h3, h4⟩ := idxF_ok (caps := [.box (.str s)]) kIdxD Df.okc_enc (l := w.defs) (by omega) (p := fun d => decide (d.name = s)) fun d _ => ok_Find_1 d s
  refine ⟨r, k_scope_Find _ _ rfl (d_l _ (e_okc (Pg.okc_enc w)) fun _ => d_l (.str s) rfl fun _ => d_call h1 (d_l (i (if (0 : Int) > r then 0 else r)) rfl fun _ => d_l (.bool (decide (0 ≤ r))) rfl fun _ => d_ret ?_)), ?_⟩
  · have : (if (0 : Int) > r then 0 else r) = max r 0 := by omega
    rw [this]
  · by_cases h0 : 0 ≤ r
    · obtain ⟨hlt, h5, h6⟩ := h3 h0
      have h5 : w.defs[r.toNat].name = s := of_decide_eq_true h5
      refine .inr ⟨r.toNat, w.defs[r.toNat], by omega, List.getElem?_eq_getElem hlt, h5, ?_, fun q d' hq hd => ?_⟩
      · unfold fstD
        rw [List.find?_eq_some_iff_getElem]
        exact ⟨by simpa using h5, r.toNat, hlt, rfl, fun q hq => by simpa using h6 q (by omega) hq⟩
      · obtain ⟨hql, rfl⟩ := List.getElem?_eq_some_iff.1 hd
        have := h6 q hql hq
        exact of_decide_eq_false this
    · refine .inl ⟨by omega, ?_⟩
      unfold fstD
      rw [List.find?_eq_none]
      intro d hd hc
      exact h0 (h2.2 ⟨d, hd, hc⟩)

/-! one node -/

def callE (w : Pg) (ch : ByteArray) (m : Nat) (g : Bool) : Int := match fstD w.defs ch with
  | none => 4
  | some d => if d.params.length = m then (if g then 0 else 7) else 6
noncomputable def ndE (w : Pg) (k : Int) (ch v : ByteArray) (ar : List Vl) (sc : List ByteArray) (g : Bool) : Int :=
  if pfx k && !pb (ch ∈ sc) then 4 else if (ar.any fun a => decide (a.kind = 1) && !pb (a.name ∈ sc)) then 4
  else if frB sc (bindF k ch v) then (if k = 8 then callE w ch ar.length g else 0) else 5
mutual
noncomputable def e06 (w : Pg) : Pr → List ByteArray → Bool → Int
  | .mk k ch v _ ar _ ks, sc, g => if ndE w k ch v ar sc g = 0 then e06s w ks (sc ++ bindF k ch v) (g || pfx k) else ndE w k ch v ar sc g
noncomputable def e06s (w : Pg) : List Pr → List ByteArray → Bool → Int
  | [], _, _ => 0
  | p :: r, sc, g => if e06 w p sc g = 0 then e06s w r sc g else e06 w p sc g
end
theorem frB_congr {sc sc' : List ByteArray} (h : ∀ x, x ∈ sc ↔ x ∈ sc') (l : List ByteArray) : frB sc l = frB sc' l := by
  unfold frB
  congr 1
  funext s
  rw [pb_congr (h s)]
theorem ndE_congr {w : Pg} {k : Int} {ch v : ByteArray} {ar : List Vl} {sc sc' : List ByteArray} {g : Bool} (h : ∀ x, x ∈ sc ↔ x ∈ sc') : ndE w k ch v ar sc g = ndE w k ch v ar sc' g := by
  unfold ndE
  rw [frB_congr h, pb_congr (h ch)]
  have : (fun a : Vl => decide (a.kind = 1) && !pb (a.name ∈ sc)) = fun a : Vl => decide (a.kind = 1) && !pb (a.name ∈ sc') := by
    funext a; rw [pb_congr (h a.name)]
  rw [this]
mutual
theorem e06_congr {w : Pg} {g : Bool} : ∀ (p : Pr) {sc sc' : List ByteArray}, (∀ x, x ∈ sc ↔ x ∈ sc') → ∀ {g : Bool}, e06 w p sc g = e06 w p sc' g
  | .mk k ch v _ ar _ ks, sc, sc', h, g => by
    simp only [e06]
    rw [ndE_congr h, e06s_congr (g := g) ks (sc := sc ++ bindF k ch v) (sc' := sc' ++ bindF k ch v) fun x => by simp only [List.mem_append, h x]]
theorem e06s_congr {w : Pg} {g : Bool} : ∀ (l : List Pr) {sc sc' : List ByteArray}, (∀ x, x ∈ sc ↔ x ∈ sc') → ∀ {g : Bool}, e06s w l sc g = e06s w l sc' g
  | [], _, _, _, _ => by simp [e06s]
  | p :: r, sc, sc', h, g => by
    simp only [e06s]
    rw [e06_congr (g := g) p h, e06s_congr (g := g) r h]
end
theorem e06s_append {w : Pg} {sc : List ByteArray} {g : Bool} : ∀ (a b : List Pr), e06s w (a ++ b) sc g = if e06s w a sc g = 0 then e06s w b sc g else e06s w a sc g
  | [], b => by simp [e06s]
  | p :: a, b => by
    simp only [List.cons_append, e06s]
    rw [e06s_append a b]
    by_cases h : e06 w p sc g = 0
    · simp only [h, if_true]
    · simp only [h, if_false]
theorem e06s_stop {w : Pg} {sc : List ByteArray} {g : Bool} {l : List Pr} {j : Nat} (h : e06s w (l.take j) sc g ≠ 0) : e06s w l sc g = e06s w (l.take j) sc g := by
  conv => lhs; rw [← List.take_append_drop j l]
  rw [e06s_append, if_neg h]
theorem e06s_snoc {w : Pg} {sc : List ByteArray} {g : Bool} {l : List Pr} {j : Nat} (hj : j < l.length) (h : e06s w (l.take j) sc g = 0) : e06s w (l.take (j + 1)) sc g = e06 w l[j] sc g := by
  rw [List.take_succ_eq_append_getElem hj, e06s_append, if_pos h]
  simp only [e06s]
  by_cases e : e06 w l[j] sc g = 0
  · rw [if_pos e, e]
  · rw [if_neg e]

/-- a walker -/
def wkV (w : Pg) (b : Bool) : PV := .agg (.sl (w.defs.map Df.enc) :: (w.main.enc.cells ++ [.bool b]))
theorem okc_wkV (w : Pg) (b : Bool) : (wkV w b).okc 14 true = true := by
  obtain ⟨ds, m⟩ := w
  cases m; simp [wkV, Pr.enc_mk, PV.okc, PV.cells, PV.isAg, PV.isCell]
theorem sb_wkV (w : Pg) (b : Bool) : sb 0 13 (wkV w b) = w.enc := by
  obtain ⟨ds, m⟩ := w
  cases m; simp only [wkV, Pg.enc, Pr.enc_mk]; rfl

theorem ok_callA (w : Pg) (hw : w.defs.length ≤ 1000000) (b : Bool) (p : Pr) (hal : p.args.length ≤ 9223372036854775807) (hdl : ∀ d ∈ w.defs, d.params.length ≤ 9223372036854775807) (g : Bool) : Ok P F.scope_walker_call [wkV w b, p.enc, .bool g] (i (callE w p.chan p.args.length g)) := by
  obtain ⟨r, hr, hc⟩ := ok_FindS w p.chan hw
  rw [← sb_wkV w b] at hr
  obtain ⟨k, ch, v, ls, ar, t, ks⟩ := p
  show Ok P _ _ (i (callE w ch ar.length g))
  rw [Pr.enc_mk]
  have hc : FS w ch r := hc
  refine k_scope_walker_call _ _ rfl (d_l _ (e_okc (okc_wkV w b)) fun _ => d_l _ (e_prC k ch v ls ar t ks) fun _ => d_call hr (d_l (i (max r 0)) rfl fun _ => d_l (.bool (decide (0 ≤ r))) rfl fun _ => d_l (.bool (!decide (0 ≤ r))) rfl fun _ => d_ndec (fun h => d_ret ?_) fun h => ?_))
  · rcases hc with ⟨_, hn⟩ | ⟨j, d, rfl, _⟩
    · unfold callE; rw [hn]
    · omega
  · rcases hc with ⟨h0, _⟩ | ⟨j, d, rfl, hd, hdn, hf, _⟩
    · omega
    have hde : (w.defs.map Df.enc)[j]? = some d.enc := by simp [hd]
    have ej : max (j : Int) 0 = j := by omega
    rw [ej]
    refine d_l _ (e_idx hde (Df.okc_enc d)) fun _ => d_l _ (len_eq d.params) fun _ => d_l _ (len_eq ar) fun _ => d_l (.bool (!decide ((d.params.length : Int) = (ar.length : Int)))) rfl fun _ => d_ndec (fun h => d_ret ?_) fun h => d_l (.bool (!g)) rfl fun _ => d_ite (fun hg => d_ret ?_) fun hg => d_ret ?_
    · unfold callE; rw [hf]; simp only; rw [if_neg (by omega)]
    · unfold callE; rw [hf]; simp only; rw [if_pos (by omega)]
      have : g = false := by simpa using hg
      rw [this]; rfl
    · unfold callE; rw [hf]; simp only; rw [if_pos (by omega)]
      have : g = true := by simpa using hg
      rw [this]; rfl

theorem ok_node_1 (a : Vl) (ls : List ByteArray) : Ok P F.scope_walker_node_1 [a.enc, .box (setV ls)] (.bool (decide (a.kind = 1) && !pb (a.name ∈ ls))) := by
  obtain ⟨k, nm, m⟩ := a
  refine k_scope_walker_node_1 _ _ rfl (d_l (.agg [i k, .str nm, i m]) rfl fun _ => d_l (.bool (decide (k = 1))) rfl fun _ => d_dec (p := k = 1) (fun h => d_l (setV ls) rfl fun _ => d_l _ e_mgetS fun _ => d_l (.bool (!pb (nm ∈ ls))) rfl fun _ => d_ret ?_) fun h => d_ret ?_)
  · simp [h]
  · simp [h]

theorem ok_nodeA (w : Pg) (hw : w.defs.length ≤ 1000000) (hdl : ∀ d ∈ w.defs, d.params.length ≤ 9223372036854775807) (b : Bool) (p : Pr) (hal : p.args.length ≤ 9223372036854775807) (ls : List ByteArray) (g : Bool) :
    ∃ X, Ok P F.scope_walker_node [wkV w b, p.enc, setV ls, .bool g] (.tup [X, i (ndE w p.kind p.chan p.var p.args ls g)]) ∧ (ndE w p.kind p.chan p.var p.args ls g = 0 → X = setV (addL ls (bindF p.kind p.chan p.var))) := by
  have hp := ok_PrefixA p
  have hb := ok_boundA p
  have hcl := ok_callA w hw b p hal hdl g
  have hcon : Ok P F.slices_ContainsFunc_api_Value_api_Value [.sl (p.args.map Vl.enc), .fn F.scope_walker_node_1 [] [.box (setV ls)]] (.bool (p.args.any fun a => decide (a.kind = 1) && !pb (a.name ∈ ls))) :=
    conF_ok (caps := [.box (setV ls)]) kIdxV kConV Vl.okc_enc hal fun a _ => ok_node_1 a ls
  obtain ⟨k, ch, v, lbs, ar, t, ks⟩ := p
  rw [Pr.enc_mk] at hp hb hcl ⊢
  have hp : Ok P F.proctree_Prefix [prC k ch v lbs ar t ks] (.bool (pfx k)) := hp
  have hb : Ok P F.scope_bound [prC k ch v lbs ar t ks] (.sl ((bindF k ch v).map .str)) := hb
  have hcl : Ok P F.scope_walker_call [wkV w b, prC k ch v lbs ar t ks, .bool g] (i (callE w ch ar.length g)) := hcl
  have hcon : Ok P F.slices_ContainsFunc_api_Value_api_Value [.sl (ar.map Vl.enc), .fn F.scope_walker_node_1 [] [.box (setV ls)]] (.bool (ar.any fun a => decide (a.kind = 1) && !pb (a.name ∈ ls))) := hcon
  have hwi := ok_with ls (bindF k ch v) (by have := bind_le k ch v; omega)
  show ∃ X, Ok P F.scope_walker_node [wkV w b, prC k ch v lbs ar t ks, setV ls, .bool g] (.tup [X, i (ndE w k ch v ar ls g)]) ∧ (ndE w k ch v ar ls g = 0 → X = setV (addL ls (bindF k ch v)))
  have := tx_ex (K := fun x => ∃ X, x = .tup [X, i (ndE w k ch v ar ls g)] ∧ (ndE w k ch v ar ls g = 0 → X = setV (addL ls (bindF k ch v)))) k_scope_walker_node (xs := [wkV w b, prC k ch v lbs ar t ks, setV ls, .bool g]) rfl (by simp [t_scope_walker_node, T.dt]) (by
    have out : ∀ {X : PV} {e : Int}, ndE w k ch v ar ls g = e → (e = 0 → X = setV (addL ls (bindF k ch v))) → ∃ X', PV.tup [X, i e] = .tup [X', i (ndE w k ch v ar ls g)] ∧ (ndE w k ch v ar ls g = 0 → X' = setV (addL ls (bindF k ch v))) := by
      rintro X e rfl h
      exact ⟨X, rfl, h⟩
    have rest : (pfx k && !pb (ch ∈ ls)) = false → ((T.call F.slices_ContainsFunc_api_Value_api_Value [.sl (ar.map Vl.enc), .fn F.scope_walker_node_1 [] [.box (setV ls)]] fun x4 => .ite x4 (.ret (.tup [.nilM, (i 4)])) (.call F.scope_bound [prC k ch v lbs ar t ks] fun x5 => .call F.scope_names_with [setV ls, x5] fun x6 => .l (.tc 0) [x6] fun x7 => .l (.tc 1) [x6] fun x8 => .l .bnot [x8] fun x9 => .ite x9 (.ret (.tup [.nilM, (i 5)])) (.l (.cmp .eql .i64) [i k, (i 8)] fun x10 => .ite x10 (.call F.scope_walker_call [wkV w b, prC k ch v lbs ar t ks, .bool g] fun x11 => .ret (.tup [x7, x11])) (.ret (.tup [x7, (i 0)]))))).den0 P (fun x => ∃ X, x = .tup [X, i (ndE w k ch v ar ls g)] ∧ (ndE w k ch v ar ls g = 0 → X = setV (addL ls (bindF k ch v)))) []) := by
      intro c1
      refine d_call hcon (d_ite (fun c2 => d_ret (out (by unfold ndE; rw [c1, c2]; rfl) (by intro h; cases h))) fun c2 => d_call hb (d_call hwi (d_l (setV (addL ls (bindF k ch v))) rfl fun _ => d_l (.bool (frB ls (bindF k ch v))) rfl fun _ => d_l (.bool (!frB ls (bindF k ch v))) rfl fun _ => d_ite (fun c3 => d_ret (out ?_ (by intro h; cases h))) fun c3 => d_l (.bool (decide (k = 8))) rfl fun _ => d_dec (p := k = 8) (fun h8 => d_call hcl (d_ret (out ?_ fun _ => rfl))) fun h8 => d_ret (out ?_ fun _ => rfl))))
      · have c3 : frB ls (bindF k ch v) = false := by simpa using c3
        unfold ndE; rw [c1, c2, c3]; rfl
      · have c3 : frB ls (bindF k ch v) = true := by simpa using c3
        unfold ndE; rw [c1, c2, c3, if_pos h8]; rfl
      · have c3 : frB ls (bindF k ch v) = true := by simpa using c3
        unfold ndE; rw [c1, c2, c3, if_neg h8]; rfl
    refine d_l _ (e_okc (okc_wkV w b)) fun _ => d_l _ (e_prC k ch v lbs ar t ks) fun _ => d_l (setV ls) rfl fun _ => d_call hp (d_ite (fun h => d_l _ e_mgetS fun _ => d_l (.bool (!pb (ch ∈ ls))) rfl fun _ => d_ite (fun h2 => d_ret (out ?_ (by intro h; cases h))) fun h2 => rest (by rw [h, h2]; rfl)) fun h => rest (by rw [h]; rfl))
    unfold ndE; rw [h, h2]; rfl)
  obtain ⟨_, ⟨X, rfl, hX⟩, h⟩ := this
  exact ⟨X, h, hX⟩

theorem ok_walkA (w : Pg) (hw : w.defs.length ≤ 1000000) (hdl : ∀ d ∈ w.defs, d.params.length ≤ 9223372036854775807) (b : Bool) : ∀ (p : Pr) (ls : List ByteArray) (g : Bool), PLim p → Ok P F.scope_walker_walk [wkV w b, p.enc, setV ls, .bool g] (i (e06 w p ls g)) := by
  intro p
  induction p using Pr.ind with
  | _ p ih =>
  intro ls g hlim
  cases hlim with
  | mk _ _ _ _ _ _ hal _ hkl hkk =>
  obtain ⟨X, hX, hX0⟩ := ok_nodeA w hw hdl b p hal ls g
  have hp := ok_PrefixA p
  obtain ⟨k, ch, v, lbs, ar, t, ks⟩ := p
  have hkl : ks.length ≤ 9223372036854775807 := hkl
  have hkk : ∀ x ∈ ks, PLim x := hkk
  have ih : ∀ x ∈ ks, ∀ (ls : List ByteArray) (g : Bool), PLim x → Ok P F.scope_walker_walk [wkV w b, x.enc, setV ls, .bool g] (i (e06 w x ls g)) := ih
  have hX0 : ndE w k ch v ar ls g = 0 → X = setV (addL ls (bindF k ch v)) := hX0
  rw [Pr.enc_mk] at hX hp ⊢
  have hX : Ok P F.scope_walker_node [wkV w b, prC k ch v lbs ar t ks, setV ls, .bool g] (.tup [X, i (ndE w k ch v ar ls g)]) := hX
  have hp : Ok P F.proctree_Prefix [prC k ch v lbs ar t ks] (.bool (pfx k)) := hp
  have he : e06 w (.mk k ch v lbs ar t ks) ls g = if ndE w k ch v ar ls g = 0 then e06s w ks (ls ++ bindF k ch v) (g || pfx k) else ndE w k ch v ar ls g := by simp only [e06]
  rw [he]
  generalize ndE w k ch v ar ls g = e0 at *
  have hcg : ∀ (x : Pr) (g' : Bool), e06 w x (addL ls (bindF k ch v)) g' = e06 w x (ls ++ bindF k ch v) g' := fun x g' => e06_congr (g := g') x fun y => by rw [mem_addL, List.mem_append]
  generalize hsc : ls ++ bindF k ch v = sc at *
  refine k_scope_walker_walk _ _ rfl (d_l _ (e_okc (okc_wkV w b)) fun _ => d_l _ (e_prC k ch v lbs ar t ks) fun _ => d_call hX (d_l X rfl fun _ => d_l (i e0) rfl fun _ => d_l _ (len_eq ks) fun _ => ?_))
  refine den_loop (fun m ys => ∃ (j : Nat) (e : Int), j + m = ks.length ∧ e = (if e0 = 0 then e06s w (ks.take j) sc (g || pfx k) else e0) ∧ ys = [i j, i e]) ks.length ⟨0, e0, by omega, by simp [e06s], rfl⟩ ?_
  rintro m _ ⟨j, e, hj, hee, rfl⟩
  refine d_l (.bool (decide ((j : Int) < (ks.length : Int)))) rfl fun _ => d_dec (p := (j : Int) < (ks.length : Int)) (fun h => ?_) fun h => d_ret ?_
  · have hjl : j < ks.length := by omega
    have hm := List.getElem_mem hjl
    refine d_l _ (e_idx (n := 12) (a := true) (mp_at (f := Pr.enc) hjl) (Pr.okc_enc _)) fun _ => d_l _ (e_okc (Pr.okc_enc _)) fun _ => d_l (.bool (!decide (e = 0))) rfl fun _ => d_ndec (fun hne => d_ret ?_) fun h0 => ?_
    · show i e = i _
      rw [hee]
      by_cases h00 : e0 = 0
      · rw [if_pos h00] at hee ⊢
        rw [if_pos h00]
        exact congrArg i (e06s_stop (by rw [← hee]; exact hne)).symm
      · rw [if_neg h00, if_neg h00]
    · have h00 : e0 = 0 := by
        by_cases h00 : e0 = 0
        · exact h00
        · rw [if_neg h00] at hee; omega
      rw [if_pos h00, h0] at hee
      rw [hX0 h00]
      have go : ∀ g', g' = (g || pfx k) → ∃ m' < m, ∃ (j' : Nat) (e' : Int), j' + m' = ks.length ∧ e' = (if e0 = 0 then e06s w (ks.take j') sc (g || pfx k) else e0) ∧ [i ((j : Int) + 1), i (e06 w ks[j] (addL ls (bindF k ch v)) g')] = [i (j' : Int), i e'] := fun g' hg' =>
        ⟨m - 1, by omega, j + 1, _, by omega, by rw [if_pos h00, e06s_snoc hjl hee.symm, hg', hcg], rfl⟩
      refine d_ite (fun hg => ?_) fun hg => ?_
      · exact d_call (ih _ hm _ true (hkk _ hm)) (d_l _ (e_inc (by omega)) fun _ => d_cont rfl (go true (by rw [hg]; rfl)))
      · exact d_call hp (d_call (ih _ hm _ (pfx k) (hkk _ hm)) (d_l _ (e_inc (by omega)) fun _ => d_cont rfl (go (pfx k) (by rw [hg]; rfl))))
  · show i e = i _
    rw [hee, List.take_of_length_le (by omega)]
end Go.Proofs.YtfmbddfenghnlaaGreatDoor.Tx

/- Contracts (Wk111, Wk16, Wk17, Wk18, Wk19, Wk20, Wk30, Wk33). -/
import Derived.Test.YtkpnmgohbipjjaaGreatDoorWk110
set_option linter.all false
/- Contracts: the program's graph: strip, build, Build. -/
namespace Go.Proofs.YtkpnmgohbipjjaaGreatDoor.Tx
open Go.Lf Go.Lf.S Go.Lf.Duo
set_option maxRecDepth 100000
/-! ### maps from names to references -/
abbrev Kv := ByteArray × Rf
def idxE : List Kv → ByteArray → Nat → Option Nat
 | [], _, _ => none
 | k :: r, nm, j => if nm = k.1 then some j else idxE r nm (j + 1)
def getE (l : List Kv) (nm : ByteArray) : Option Rf := (idxE l nm 0).bind fun j => (l[j]?).map (·.2)
def setE (l : List Kv) (nm : ByteArray) (r : Rf) : List Kv := match idxE l nm 0 with
 | some j => l.set j (nm, r)
 | none => l ++ [(nm, r)]
def mpE (l : List Kv) : PV := .mp (l.map fun k => .str k.1) (l.map fun k => k.2.enc)
theorem kf_eq (nm : ByteArray) : ∀ (l : List Kv) (j : Nat), PV.kfindGo false [.s] (.str nm) (l.map fun k => PV.str k.1) j = some (idxE l nm j)
 | [], j => rfl
 | k :: r, j => by
  have h : PV.keq false [.s] (.str nm) (.str k.1) = some (decide (nm = k.1)) := by
   by_cases e : nm = k.1 <;> simp [PV.keq, PV.okc, PV.cells, PV.isAg, PV.isCell, PV.sameK, PV.same1, e]
  simp only [List.map_cons, PV.kfindGo, h, idxE]
  by_cases e : nm = k.1
  ·simp [e]
  ·simp only [e, decide_false, if_false]; exact kf_eq nm r (j + 1)
theorem kfind_eq (nm : ByteArray) (l : List Kv) : PV.kfind false [.s] (.str nm) (l.map fun k => PV.str k.1) = some (idxE l nm 0) := by
 unfold PV.kfind
 rw [if_pos (show (PV.str nm).okc ([CK.s] : List CK).length false = true from rfl)]; exact kf_eq nm l 0
theorem idxE_some : ∀ (l : List Kv) (nm : ByteArray) (j q : Nat), idxE l nm j = some q → j ≤ q ∧ q - j < l.length ∧ ∃ r, l[q - j]? = some (nm, r)
 | [], _, _, _, h => by cases h
 | k :: l, nm, j, q, h => by
  unfold idxE at h
  split at h
  ·rename_i e
   cases h
   refine ⟨Nat.le_refl _, by simp, k.2, ?_⟩
   rw [Nat.sub_self, e]; rfl
  ·obtain ⟨h1, h2, r, h3⟩ := idxE_some l nm (j + 1) q h
   refine ⟨by omega, by simp; omega, r, ?_⟩
   rw [show q - j = (q - (j + 1)) + 1 by omega, List.getElem?_cons_succ]; exact h3
theorem ev_mget (l : List Kv) (nm : ByteArray) (q : Rf) (h : getE l nm = some q) : (Prim.mget false [.s] (.agg [i 0, i 0])).ev [mpE l, .str nm] = some q.enc := by
 unfold getE at h
 cases hj : idxE l nm 0 with
 | none => rw [hj] at h; cases h
 | some j =>
  rw [hj] at h
  simp only [Option.bind_some, Option.map_eq_some_iff] at h
  obtain ⟨k, hk, rfl⟩ := h
  show (match PV.kfind false [.s] (.str nm) (l.map fun k : Kv => PV.str k.1) with
   | some (some i) => (l.map fun k : Kv => k.2.enc)[i]?
   | some none => some _
   | none => none) = _
  rw [kfind_eq, hj]
  simp [hk]
theorem ev_mset (l : List Kv) (nm : ByteArray) (r : Rf) : (Prim.mset false [.s]).ev [mpE l, .str nm, r.enc] = some (mpE (setE l nm r)) := by
 show (match PV.kfind false [.s] (.str nm) (l.map fun k : Kv => PV.str k.1) with
   | some (some i) => some (PV.mp ((l.map fun k : Kv => PV.str k.1).set i (.str nm)) ((l.map fun k : Kv => k.2.enc).set i r.enc))
   | some none => some (PV.mp ((l.map fun k : Kv => PV.str k.1) ++ [PV.str nm]) ((l.map fun k : Kv => k.2.enc) ++ [r.enc]))
   | none => none) = _
 rw [kfind_eq]
 unfold setE mpE
 cases idxE l nm 0 with
 | none => simp
 | some j => simp [List.map_set]
theorem idxE_append (l m : List Kv) (nm : ByteArray) : ∀ j, idxE (l ++ m) nm j = match idxE l nm j with
  | some q => some q
  | none => idxE m nm (j + l.length) := by
 induction l with
 | nil => intro j; rfl
 | cons k l ih =>
  intro j
  simp only [List.cons_append, idxE]
  split
  ·rfl
  ·rw [ih (j + 1)]; simp only [List.length_cons]; rw [show j + 1 + l.length = j + (l.length + 1) by omega]
theorem idxE_set : ∀ (l : List Kv) (s nm : ByteArray) (r : Rf) (j q : Nat), idxE l s j = some q → idxE (l.set (q - j) (s, r)) nm j = idxE l nm j
 | [], _, _, _, _, _, h => by cases h
 | k :: l, s, nm, r, j, q, h => by
  unfold idxE at h
  split at h
  ·rename_i e
   cases h
   rw [Nat.sub_self, List.set_cons_zero]
   simp only [idxE, e]
  ·obtain ⟨h1, _, _⟩ := idxE_some l s (j + 1) q h
   rw [show q - j = (q - (j + 1)) + 1 by omega, List.set_cons_succ]
   simp only [idxE]
   split
   ·rfl
   ·exact idxE_set l s nm r (j + 1) q h
theorem get_set (l : List Kv) (s nm : ByteArray) (r : Rf) : getE (setE l s r) nm = if nm = s then some r else getE l nm := by
 unfold getE setE
 cases hj : idxE l s 0 with
 | none =>
  simp only
  rw [idxE_append]
  by_cases e : nm = s
  ·subst e
   rw [hj]; simp [idxE]
  ·cases hq : idxE l nm 0 with
   | none => simp [idxE, e]
   | some q =>
    have := (idxE_some l nm 0 q hq).2.1
    simp only [Option.bind_some, if_neg e]
    rw [List.getElem?_append_left (by omega)]
 | some j =>
  simp only
  have hs := idxE_set l s nm r 0 j hj
  rw [Nat.sub_zero] at hs
  rw [hs]
  have hjl := (idxE_some l s 0 j hj).2.1
  by_cases e : nm = s
  ·subst e
   rw [hj]; simp [List.getElem?_set_self (show j < l.length by omega)]
  ·cases hq : idxE l nm 0 with
   | none => simp [e]
   | some q =>
    obtain ⟨_, hql, r', hqr⟩ := idxE_some l nm 0 q hq
    obtain ⟨_, _, r'', hjr⟩ := idxE_some l s 0 j hj
    have hne : j ≠ q := fun h => by
     subst h
     rw [hjr] at hqr
     cases hqr; exact e rfl
    simp only [Option.bind_some, if_neg e]
    rw [List.getElem?_set_ne hne]
def EnvOk (l : List Kv) (ns : List ByteArray) (refs : List Rf) : Prop := ∀ nm q, lookLast ns refs nm = some q → getE l nm = some q
theorem lookLast_snoc : ∀ (ns : List ByteArray) (refs : List Rf) (x : ByteArray) (r : Rf) (nm : ByteArray), ns.length = refs.length → lookLast (ns ++ [x]) (refs ++ [r]) nm = if x = nm then some r else lookLast ns refs nm
 | [], [], x, r, nm, _ => by simp [lookLast]
 | [], _ :: _, _, _, _, h => by simp at h
 | _ :: _, [], _, _, _, h => by simp at h
 | n :: ns, q :: rs, x, r, nm, h => by
  have ih := lookLast_snoc ns rs x r nm (by simpa using h)
  simp only [List.cons_append, lookLast, ih]
  by_cases e : x = nm
  ·simp [e]
  ·simp [e]
theorem EnvOk.snoc {l : List Kv} {ns : List ByteArray} {refs : List Rf} (h : EnvOk l ns refs) (hl : ns.length = refs.length) (x : ByteArray) (r : Rf) : EnvOk (setE l x r) (ns ++ [x]) (refs ++ [r]) := by
 intro nm q hq
 rw [lookLast_snoc ns refs x r nm hl] at hq
 rw [get_set]
 by_cases e : x = nm
 ·rw [if_pos e] at hq; rw [if_pos e.symm]; exact hq
 ·rw [if_neg e] at hq; rw [if_neg (Ne.symm e)]; exact h nm q hq
/-! ### a type without the names ahead of it -/
inductive StripR : Ty → List ByteArray → Ty → Prop
 | done (t : Ty) (h : t.kind ≠ 8) : StripR t [] t
 | step (t k t' : Ty) (names : List ByteArray) (h : t.kind = 8) (hk : t.kids = [k]) (hs : StripR k names t') : StripR t (t.name :: names) t'
theorem strip_ex : ∀ (t : Ty) (ns : List ByteArray) (g : Nat), Wf t ns g → ∃ names t', StripR t names t' ∧ t'.kind ≠ 8 ∧ Wf t' (ns ++ names) g ∧ names.length + t'.sz ≤ t.sz := by
 intro t
 induction t using Ty.ind with
 | _ t ih =>
 intro ns g h
 by_cases h8 : t.kind = 8
 ·cases h with
  | mk _ _ _ h1 h9 hk8 hk =>
  have hl : t.kids.length = 1 := (h1.1.2.2.2.2.2.1 h8).1
  obtain ⟨k, hks⟩ : ∃ k, t.kids = [k] := by
   match hq : t.kids, hl with
   | [k], _ => exact ⟨k, rfl⟩
  have hkm : k ∈ t.kids := by rw [hks]; exact List.mem_cons_self
  obtain ⟨names, t', hs, hn8, hw, hz⟩ := ih k hkm (ns ++ [t.name]) g (hk8 h8 k hkm)
  refine ⟨t.name :: names, t', .step t k t' names h8 hks hs, hn8, by simpa using hw, ?_⟩
  have : k.sz < t.sz := by obtain ⟨a, b, c, d, e, f⟩ := t; exact Ty.sz_kid hkm
  simp; omega
 ·exact ⟨[], t, .done t h8, h8, by simpa using h, by simp⟩
theorem strip_ref {t t' : Ty} {names : List ByteArray} (h : StripR t names t') : ∀ (a : Int) (ns : List ByteArray) (refs : List Rf), refF t a ns refs = refF t' a ns refs := by
 induction h with
 | done t h => exact fun _ _ _ => rfl
 | step t k t' names h hk hs ih =>
  intro a ns refs
  obtain ⟨kd, p, nm, s, ls, ks⟩ := t
  have h : kd = 8 := h
  have hk : ks = [k] := hk
  rw [refF_8 h hk]; exact ih a ns refs
theorem ref_o {t : Ty} (h8 : t.kind ≠ 8) (h9 : t.kind ≠ 9) (a : Int) (ns : List ByteArray) (refs : List Rf) : refF t a ns refs = ⟨a, 0⟩ := by
 obtain ⟨kd, p, nm, s, ls, ks⟩ := t
 have h8 : kd ≠ 8 := h8
 have h9 : kd ≠ 9 := h9
 simp [refF, h8, h9]
theorem strip_nodes {t t' : Ty} {names : List ByteArray} (h : StripR t names t') (h8 : t'.kind ≠ 8) (h9 : t'.kind ≠ 9) : ∀ (a : Int) (ns : List ByteArray) (refs : List Rf), nodesF t a ns refs = nodesF t' a (ns ++ names) (refs ++ List.replicate names.length ⟨a, 0⟩) := by
 induction h with
 | done t h => intro a ns refs; simp
 | step t k t' names h hk hs ih =>
  intro a ns refs
  have hr := strip_ref (.step t k t' names h hk hs) a ns refs
  rw [ref_o h8 h9] at hr
  obtain ⟨kd, p, nm, s, ls, ks⟩ := t
  have h : kd = 8 := h
  have hk : ks = [k] := hk
  rw [nodesF_8 h hk, ih h8 h9, hr]
  simp [List.replicate_succ]; rfl
theorem strip_nodes9 {t t' : Ty} {names : List ByteArray} (h : StripR t names t') (h9 : t'.kind = 9) : ∀ (a : Int) (ns : List ByteArray) (refs : List Rf), nodesF t a ns refs = [] := by
 induction h with
 | done t h =>
  intro a ns refs
  obtain ⟨kd, p, nm, s, ls, ks⟩ := t
  exact nodesF_9 h9
 | step t k t' names h hk hs ih =>
  intro a ns refs
  obtain ⟨kd, p, nm, s, ls, ks⟩ := t
  have h : kd = 8 := h
  have hk : ks = [k] := hk
  rw [nodesF_8 h hk, ih h9]
theorem ty0 (t : Ty) : c 0 t.enc = i t.kind := by obtain ⟨a, b, c, d, e, f⟩ := t; rw [Ty.enc_mk]; rfl
theorem ty2 (t : Ty) : c 2 t.enc = .str t.name := by obtain ⟨a, b, c, d, e, f⟩ := t; rw [Ty.enc_mk]; rfl
theorem ty3 (t : Ty) : c 3 t.enc = i t.shift := by obtain ⟨a, b, c, d, e, f⟩ := t; rw [Ty.enc_mk]; rfl
theorem ty5 (t : Ty) : c 5 t.enc = .sl (t.kids.map Ty.enc) := by obtain ⟨a, b, c, d, e, f⟩ := t; rw [Ty.enc_mk]; rfl
theorem tyAt {ks : List Ty} {j : Nat} (h : j < ks.length) : (ks.map Ty.enc)[j]? = some (ks[j]).enc := by simp [h]
theorem ok_strip {t t' : Ty} {names : List ByteArray} (h : StripR t names t') (hl : names.length ≤ 549755813888) : Ok P F.graph_strip [t.enc] (.tup [t'.enc, .sl (names.map .str)]) := by
 refine k_graph_strip _ _ rfl (d_l _ (e_okc (Ty.okc_enc t)) fun _ => den_loop (fun m ys => ∃ (acc rest : List ByteArray) (x : Ty), acc ++ rest = names ∧ rest.length = m ∧ StripR x rest t' ∧ ys = [.sl (acc.map .str), x.enc]) names.length ⟨[], names, t, rfl, rfl, h, rfl⟩ ?_)
 clear h t
 rintro m _ ⟨acc, rest, x, rfl, rfl, hs, rfl⟩
 refine d_l (.bool (decide (x.kind = 8))) (by show (Prim.cmp .eql .i64).ev [c 0 x.enc, i 8] = _; rw [ty0]; rfl) fun _ => d_dec (p := x.kind = 8) (fun h8 => ?_) fun h8 => ?_
 ·cases hs with
  | done _ h => exact absurd h8 h
  | step _ k _ names h hk hs =>
   have e2 : (Prim.lst 1 false).ev [c 2 x.enc] = some (.sl [.str x.name]) := by rw [ty2]; rfl
   have e5 : (Prim.idx 6 true).ev [c 5 x.enc, i 0] = some k.enc := by rw [ty5, hk]; exact e_idx (k := 0) rfl (Ty.okc_enc _)
   refine d_l _ e2 fun _ => d_l (.sl (acc.map .str ++ [.str x.name])) (e_app (l := acc.map .str) (m := [.str x.name]) (fun y hy => by simp at hy; subst hy; rfl) (by simp at hl ⊢; omega) (by simp at hl ⊢; omega)) fun _ => d_l _ e5 fun _ => d_l _ (e_okc (Ty.okc_enc _)) fun _ => d_cont rfl ⟨names.length, by simp, acc ++ [x.name], names, k, by simp, rfl, hs, by simp⟩
 ·cases hs with
  | done _ h => exact d_l _ (e_okc (Ty.okc_enc _)) fun _ => d_ret (by simp)
  | step _ k _ names h hk hs => exact absurd h h8
theorem ok_cloneS (l : List ByteArray) (hl : l.length ≤ 549755813888) : Ok P F.slices_Clone_string_string [.sl (l.map .str)] (.sl (l.map .str)) :=
 k_slices_Clone_string_string _ _ rfl (d_nilq (fun h => d_ret (by rw [h])) (d_l (.sl []) rfl fun _ => d_l _ (e_app (l := []) (m := l.map .str) (all_map okc_str _) (by simp; omega) (by simp; omega)) fun _ => d_ret (by rw [List.nil_append])))
theorem belows_len (l : List Ty) (ns : List ByteArray) (g : Nat) (hw : ∀ x ∈ l, Wf x ns g) (a : Int) (ns' : List ByteArray) (refs : List Rf) : (belowsF l a ns' refs).length = gcs l := by
 induction l generalizing a with
 | nil => simp [belowsF, gcs]
 | cons x l ih =>
  simp only [belowsF, gcs, List.length_append]
  rw [len_nodes x ns g (hw x List.mem_cons_self), ih (fun y hy => hw y (List.mem_cons_of_mem _ hy))]
/-- the rest of build: the kids, and their references laid into the node -/
theorem kids_loop111 {K : PV → Prop} {hs : List (List PV → Prop)} {lv : Nat} (hlv : lv = hs.length) {ks : List Ty} {nd0 : List Nd} {k p : Int} {ls : List ByteArray} {ns : List ByteArray} {refs : List Rf} {kv : List Kv} (hk : ks.length ≤ 549755813888) (hb : nd0.length + 1 + Ty.szs ks ≤ 549755813888)
  (hw : ∀ x ∈ ks, Wf x ns ns.length)
  (ih : ∀ x ∈ ks, ∀ nd : List Nd, nd.length + x.sz ≤ 549755813888 → OkS P F.graph_builder_build sg_graph_builder_build [x.enc, .sl (nd.map Nd.enc), mpE kv] [(refF x nd.length ns refs).enc, .sl ((nd ++ nodesF x nd.length ns refs).map Nd.enc), mpE kv]) {R : PV → PV → PV}
  (hR : K (R (.sl ((nd0 ++ ⟨k, p, ls, nextsF ks (nd0.length + 1) ns refs⟩ :: belowsF ks (nd0.length + 1) ns refs).map Nd.enc)) (mpE kv))) :
  (T.loop [i 0, .sl [], .sl ((nd0 ++ [(⟨k, p, ls, []⟩ : Nd)]).map Nd.enc), mpE kv] fun y => .l (.cmp .lss .i64) [n y 0, i ((ks.map Ty.enc).length : Int)] fun x15 => .ite x15
   (.l (.idx 6 true) [.sl (ks.map Ty.enc), n y 0] fun x16 => .l (.okc 6 true) [x16] fun x17 => .calls F.graph_builder_build sg_graph_builder_build [x17, n y 2, n y 3] fun z18 => .l (.lst 2 true) [n z18 0] fun x19 => .l (.app 2 true 16) [n y 1, x19] fun x20 => .l (.arith .add .i64) [n y 0, i 1] fun x21 =>
    .cont lv [x21, x20, n z18 1, n z18 2])
   (.l (.idx 4 true) [n y 2, i (nd0.length : Int)] fun _ => .l (.updF 4 3 1 false) [n y 2, i (nd0.length : Int), n y 1] fun x17 => .l (.okcs [(1, false)]) [i (nd0.length : Int)] fun _ => .ret (R x17 (n y 3)))).den0 P K hs := by
 subst hlv
 refine den_rounds (fun j => [i j, .sl ((nextsF (ks.take j) (nd0.length + 1) ns refs).map Rf.enc), .sl ((nd0 ++ (⟨k, p, ls, []⟩ : Nd) :: belowsF (ks.take j) (nd0.length + 1) ns refs).map Nd.enc), mpE kv]) ks.length (by simp [nextsF, belowsF]) (fun j hj => ?_) ?_
 ·refine d_l (.bool (decide ((j : Int) < ((ks.map Ty.enc).length : Int)))) rfl fun _ => d_dec (p := (j : Int) < ((ks.map Ty.enc).length : Int)) (fun _ => ?_) fun h => absurd (show (j : Int) < ((ks.map Ty.enc).length : Int) by simp; omega) h
  have hbl := belows_len (ks.take j) ns ns.length (fun x hx => hw x (List.mem_of_mem_take hx)) (nd0.length + 1) ns refs
  have hlen : (nd0 ++ (⟨k, p, ls, []⟩ : Nd) :: belowsF (ks.take j) (nd0.length + 1) ns refs).length = nd0.length + 1 + gcs (ks.take j) := by
   simp only [List.length_append, List.length_cons, hbl]; omega
  have h1 := gcs_le (ks.take j)
  have h2 := szs_take ks j hj
  have h3 := szs_take_le ks (j + 1)
  have hc := ih ks[j] (List.getElem_mem hj) (nd0 ++ (⟨k, p, ls, []⟩ : Nd) :: belowsF (ks.take j) (nd0.length + 1) ns refs) (by rw [hlen]; omega)
  rw [hlen] at hc
  have e1 : ((nd0.length + 1 + gcs (ks.take j) : Nat) : Int) = ((nd0.length : Int) + 1) + gcs (ks.take j) := by omega
  rw [e1] at hc
  have hnl : (nextsF (ks.take j) (nd0.length + 1) ns refs).length = j := by rw [nextsF_len]; simp; omega
  refine d_l _ (e_idx (tyAt hj) (Ty.okc_enc _)) fun _ => d_l _ (e_okc (Ty.okc_enc _)) fun _ => d_calls rfl hc (d_l (.sl [(refF ks[j] ((nd0.length : Int) + 1 + gcs (ks.take j)) ns refs).enc]) (e_lst (fun x hx => by simp at hx; subst hx; exact Rf.okc_enc _)) fun _ => d_l (.sl ((nextsF (ks.take j) (nd0.length + 1) ns refs).map Rf.enc ++ [(refF ks[j] ((nd0.length : Int) + 1 + gcs (ks.take j)) ns refs).enc])) (e_app (l := (nextsF (ks.take j) (nd0.length + 1) ns refs).map Rf.enc) (fun x hx => by simp at hx; subst hx; exact Rf.okc_enc _) (by simp only [List.length_map, List.length_cons, List.length_nil, hnl]; omega) (by simp only [List.length_map, List.length_cons, List.length_nil, hnl]; omega)) fun _ => d_l _ (e_inc (by omega)) fun _ => d_cont List.getElem?_concat_length ?_)
  rw [nextsF_take ks j hj, belowsF_take ks j hj]
  simp
 ·refine d_l (.bool (decide ((ks.length : Int) < ((ks.map Ty.enc).length : Int)))) rfl fun _ => d_dec (p := (ks.length : Int) < ((ks.map Ty.enc).length : Int)) (fun h => ?_) fun h => ?_
  ·simp at h
  ·simp only [List.take_length]
   have hat : (nd0 ++ (⟨k, p, ls, []⟩ : Nd) :: belowsF ks (nd0.length + 1) ns refs)[nd0.length]? = some ⟨k, p, ls, []⟩ := by
    rw [List.getElem?_append_right (Nat.le_refl _), Nat.sub_self]; rfl
   have hat' : ((nd0 ++ (⟨k, p, ls, []⟩ : Nd) :: belowsF ks (nd0.length + 1) ns refs).map Nd.enc)[nd0.length]? = some (Nd.enc ⟨k, p, ls, []⟩) := by rw [List.getElem?_map, hat]; rfl
   have hlt : nd0.length < ((nd0 ++ (⟨k, p, ls, []⟩ : Nd) :: belowsF ks (nd0.length + 1) ns refs).map Nd.enc).length := by simp
   refine d_l _ (e_idx hat' (Nd.okc_enc _)) fun _ => d_l (.sl ((nd0 ++ ⟨k, p, ls, nextsF ks (nd0.length + 1) ns refs⟩ :: belowsF ks (nd0.length + 1) ns refs).map Nd.enc)) ?_ fun _ => d_l .nilI rfl fun _ => d_ret hR
   show (if (0 : Int) ≤ (nd0.length : Int) ∧ (nd0.length : Int) < _ ∧ 3 + 1 ≤ 4 ∧ _ then _ else none) = _
   rw [if_pos ⟨by omega, by exact_mod_cast hlt, by omega, rfl⟩]
   simp only [Int.toNat_natCast, hat']
   rw [if_pos (Nd.okc_enc (⟨k, p, ls, []⟩ : Nd))]
   refine congrArg some (congrArg PV.sl ?_)
   show ((nd0 ++ (⟨k, p, ls, []⟩ : Nd) :: belowsF ks (nd0.length + 1) ns refs).map Nd.enc).set nd0.length (Nd.enc ⟨k, p, ls, nextsF ks (nd0.length + 1) ns refs⟩) = _
   rw [← List.map_set]
   congr 1
   rw [List.set_append_right _ _ (Nat.le_refl _), Nat.sub_self, List.set_cons_zero]
theorem names_loop {K : PV → Prop} {at_ : Int} {names : List ByteArray} {kv : List Kv} {ns : List ByteArray} {refs : List Rf} (hE : EnvOk kv ns refs) (hl : ns.length = refs.length) (hn : names.length ≤ 549755813888) {k : PV → T PV}
  (hk : ∀ kv', EnvOk kv' (ns ++ names) (refs ++ List.replicate names.length ⟨at_, 0⟩) → (k (mpE kv')).den0 P K ([] ++ [fun _ => False])) :
  (T.loop [i 0, mpE kv] fun y15 => .l (.cmp .lss .i64) [n y15 0, i ((names.map PV.str).length : Int)] fun x16 => .ite x16
   (.l (.idx 1 false) [.sl (names.map .str), n y15 0] fun x17 => .l (.okcs [(1, false)]) [i at_] fun _ => .l (.mset false [.s]) [n y15 1, x17, .agg [i at_, i 0]] fun x19 => .l (.arith .add .i64) [n y15 0, i 1] fun x20 => .cont 0 [x20, x19])
   (k (n y15 1))).den0 P K [] := by
 have key : ∀ j, j ≤ names.length → ∃ kv', (names.take j).foldl (fun l s => setE l s ⟨at_, 0⟩) kv = kv' ∧ EnvOk kv' (ns ++ names.take j) (refs ++ List.replicate j ⟨at_, 0⟩) := by
  intro j
  induction j with
  | zero => intro _; exact ⟨_, rfl, by simpa using hE⟩
  | succ j ih =>
   intro hj
   obtain ⟨kv', h1, h2⟩ := ih (by omega)
   refine ⟨_, rfl, ?_⟩
   rw [List.take_succ_eq_append_getElem (by omega : j < names.length), List.foldl_append, h1, List.replicate_succ', ← List.append_assoc, ← List.append_assoc]
   exact h2.snoc (by simp [hl]; omega) _ _
 refine den_rounds (fun j => [i j, mpE ((names.take j).foldl (fun l s => setE l s ⟨at_, 0⟩) kv)]) names.length (by simp) (fun j hj => ?_) ?_
 ·refine d_l (.bool (decide ((j : Int) < ((names.map PV.str).length : Int)))) rfl fun _ => d_dec (p := (j : Int) < ((names.map PV.str).length : Int)) (fun _ => ?_) fun h => absurd (show (j : Int) < ((names.map PV.str).length : Int) by simp; omega) h
  have hix : (names.map PV.str)[j]? = some (.str names[j]) := by simp [hj]
  refine d_l _ (e_idx hix rfl) fun _ => d_l .nilI rfl fun _ => d_l _ (ev_mset _ names[j] ⟨at_, 0⟩) fun _ => d_l _ (e_inc (by omega)) fun _ => d_cont rfl ?_
  rw [List.take_succ_eq_append_getElem hj, List.foldl_append]; rfl
 ·refine d_l (.bool (decide ((names.length : Int) < ((names.map PV.str).length : Int)))) rfl fun _ => d_dec (p := (names.length : Int) < ((names.map PV.str).length : Int)) (fun h => ?_) fun h => ?_
  ·simp at h
  ·obtain ⟨kv', h1, h2⟩ := key names.length (Nat.le_refl _)
   rw [List.take_length] at h1 h2
   rw [List.take_length]
   subst h1
   exact hk _ h2
theorem okS_build : ∀ (q : Nat) (t : Ty), t.sz ≤ q → ∀ (ns : List ByteArray) (refs : List Rf) (g : Nat) (kv : List Kv) (nd : List Nd), Wf t ns g → g ≤ ns.length → refs.length = ns.length → RefsOk refs → EnvOk kv ns refs → ns.length + t.sz ≤ 549755813888 → nd.length + t.sz ≤ 549755813888 →
  OkS P F.graph_builder_build sg_graph_builder_build [t.enc, .sl (nd.map Nd.enc), mpE kv] [(refF t nd.length ns refs).enc, .sl ((nd ++ nodesF t nd.length ns refs).map Nd.enc), mpE kv] := by
 intro q
 induction q with
 | zero => intro t hq; obtain ⟨a, b, c, d, e, f⟩ := t; simp only [Ty.sz] at hq; omega
 | succ q ih =>
  intro t hq ns refs g kv nd hwf hg hrl hro hE hz1 hz2
  obtain ⟨names, t', hs, h8, hw, hz⟩ := strip_ex t ns g hwf
  have hst := ok_strip hs (by omega)
  have hrf := strip_ref hs nd.length ns refs
  refine m_graph_builder_build _ _ (d_l _ (e_okc (Ty.okc_enc t)) fun _ => d_call hst (d_l t'.enc rfl fun _ => d_l (.sl (names.map .str)) rfl fun _ => d_l _ (e_okc (Ty.okc_enc t')) fun _ => d_l (.bool (decide (t'.kind = 9))) (by show (Prim.cmp .eql .i64).ev [c 0 t'.enc, i 9] = _; rw [ty0]; rfl) fun _ => d_dec (p := t'.kind = 9) (fun h9 => ?_) fun h9 => ?_))
  ·have hw9 : ∃ j, j < g ∧ LastAt t'.name (ns ++ names) j := by cases hw with | mk _ _ _ _ h _ _ => exact h h9
   have hshift : 0 ≤ t'.shift ∧ t'.shift ≤ 1000000 := by
    cases hw with | mk _ _ _ h _ _ _ => exact ⟨h.1.2.1.2.2.1, h.1.2.1.2.2.2⟩
   obtain ⟨j, hj, hla1, hla2⟩ := hw9
   have hjn : j < ns.length := by omega
   rw [List.getElem?_append_left hjn] at hla1
   have hlk : lookLast ns refs t'.name = some (refs[j]'(by omega)) := look_at ns refs t'.name j hla1 (fun i hi hc => by
    have hil := (List.getElem?_eq_some_iff.1 hc).1
    exact hla2 i hi (by rw [List.getElem?_append_left hil]; exact hc)) (by omega)
   have hgt := hE _ _ hlk
   have hro' := hro (refs[j]'(by omega)) (List.getElem_mem _)
   have hmg : (Prim.mget false [.s] (.agg [i 0, i 0])).ev [mpE kv, c 2 t'.enc] = some (refs[j]'(by omega)).enc := by rw [ty2]; exact ev_mget kv _ _ hgt
   have hres : refF t nd.length ns refs = ⟨(refs[j]'(by omega)).node, (refs[j]'(by omega)).shift + t'.shift⟩ := by
    rw [hrf]
    obtain ⟨a, b, nm, d, e, f⟩ := t'
    exact refF_9 h9 hlk
   have hadd : (Prim.arith .add .i64).ev [c 1 (refs[j]'(by omega)).enc, c 3 t'.enc] = some (i ((refs[j]'(by omega)).shift + t'.shift)) := by
    rw [ty3]; exact e_add (by have := hro'.1; omega) (by have := hro'.2; omega)
   refine d_l _ hmg fun _ => d_l _ (e_okc (Rf.okc_enc _)) fun _ => d_l _ hadd fun _ => d_l _ rfl fun _ => d_ret ?_
   rw [hres, strip_nodes9 hs h9, List.append_nil]; rfl
  ·have hnf := strip_nodes hs h8 h9 nd.length ns refs
   rw [hrf, ref_o h8 h9, hnf]
   obtain ⟨k, p, nm, s, ls, ks⟩ := t'
   have h8 : ¬ k = 8 := h8
   have h9 : ¬ k = 9 := h9
   rw [nodesF_o h8 h9]
   have hkw : ∀ x ∈ ks, Wf x (ns ++ names) (ns ++ names).length := by cases hw with | mk _ _ _ _ _ _ h => exact h h8
   have hsz : (Ty.mk k p nm s ls ks).sz = Ty.szs ks + 1 := by simp only [Ty.sz]
   have hksl := szs_len ks
   have hlsl : ls.length ≤ 549755813888 := by
    cases hw with
    | mk _ _ _ h1 _ _ _ =>
     unfold Wf1 at h1
     have h1 := h1.1
     simp only [Ty.kind, Ty.prio, Ty.shift, Ty.kids, Ty.labels] at h1
     omega
   rw [Ty.enc_mk]
   have ihk : ∀ kv', EnvOk kv' (ns ++ names) (refs ++ List.replicate names.length ⟨nd.length, 0⟩) → ∀ x ∈ ks, ∀ nd' : List Nd, nd'.length + x.sz ≤ 549755813888 → OkS P F.graph_builder_build sg_graph_builder_build [x.enc, .sl (nd'.map Nd.enc), mpE kv'] [(refF x nd'.length (ns ++ names) (refs ++ List.replicate names.length ⟨nd.length, 0⟩)).enc, .sl ((nd' ++ nodesF x nd'.length (ns ++ names) (refs ++ List.replicate names.length ⟨nd.length, 0⟩)).map Nd.enc), mpE kv'] := fun kv' hE' x hx nd' hnd' => by
    have hxs := Ty.szs_mem hx
    refine ih x (by omega) (ns ++ names) (refs ++ List.replicate names.length ⟨nd.length, 0⟩) (ns ++ names).length kv' nd' (hkw x hx) (Nat.le_refl _) (by simp [hrl]) (fun q hq => ?_) hE' (by simp; omega) hnd'
    rcases List.mem_append.1 hq with hq | hq
    ·obtain ⟨a, b⟩ := hro q hq
     exact ⟨a, by simp; omega⟩
    ·obtain rfl := (List.mem_replicate.1 hq).2
     exact ⟨Int.le_refl _, by simp; omega⟩
   refine d_l (i ((nd.map Nd.enc).length : Int)) e_len fun _ => d_call (ok_cloneS ls hlsl) (d_l .nilI rfl fun _ => d_l (.sl [Nd.enc ⟨k, p, ls, []⟩]) rfl fun _ => d_l (.sl ((nd ++ [(⟨k, p, ls, []⟩ : Nd)]).map Nd.enc)) (by
    rw [List.map_append]; exact e_app (l := nd.map Nd.enc) (m := [Nd.enc ⟨k, p, ls, []⟩]) (fun x hx => by simp at hx; subst hx; exact Nd.okc_enc _) (by simp; omega) (by simp; omega)) fun _ => d_l (i ((names.map PV.str).length : Int)) e_len fun _ => d_l (.bool (decide (((names.map PV.str).length : Int) > 0))) rfl fun _ => ?_)
   rw [List.length_map (f := Nd.enc)]
   have hk1 : ks.length ≤ 549755813888 := by omega
   have hk2 : nd.length + 1 + Ty.szs ks ≤ 549755813888 := by omega
   refine d_dec (p := ((names.map PV.str).length : Int) > 0) (fun hn => ?_) fun hn => ?_
   ·refine d_calls rfl (okS_Clone_map _ _) (d_l (i ((names.map PV.str).length : Int)) e_len fun _ => ?_)
    refine names_loop (at_ := nd.length) (names := names) (kv := kv) (k := fun e => .l .len [.sl (ks.map Ty.enc)] fun x17 => .loop [i 0, .sl [], .sl ((nd ++ [(⟨k, p, ls, []⟩ : Nd)]).map Nd.enc), e] fun y => .l (.cmp .lss .i64) [n y 0, x17] fun x15 => .ite x15
     (.l (.idx 6 true) [.sl (ks.map Ty.enc), n y 0] fun x16 => .l (.okc 6 true) [x16] fun x17 => .calls F.graph_builder_build sg_graph_builder_build [x17, n y 2, n y 3] fun z18 => .l (.lst 2 true) [n z18 0] fun x19 => .l (.app 2 true 16) [n y 1, x19] fun x20 => .l (.arith .add .i64) [n y 0, i 1] fun x21 =>
      .cont 1 [x21, x20, n z18 1, n z18 2])
     (.l (.idx 4 true) [n y 2, i (nd.length : Int)] fun _ => .l (.updF 4 3 1 false) [n y 2, i (nd.length : Int), n y 1] fun x17 => .l (.okcs [(1, false)]) [i (nd.length : Int)] fun _ => .ret (.tup [.agg [i nd.length, i 0], x17, mpE kv]))) hE hrl.symm (by omega) (fun kv' hE' => ?_)
    refine d_l (i ((ks.map Ty.enc).length : Int)) e_len fun _ => ?_
    exact kids_loop111 (nd0 := nd) (ks := ks) (lv := 1) rfl hk1 hk2 hkw (ihk kv' hE') (R := fun a _ => .tup [.agg [i nd.length, i 0], a, mpE kv]) rfl
   ·have hnm : names = [] := List.eq_nil_of_length_eq_zero (by rw [List.length_map] at hn; omega)
    subst hnm
    refine d_l (i ((ks.map Ty.enc).length : Int)) e_len fun _ => ?_
    have hE' : EnvOk kv (ns ++ []) (refs ++ List.replicate ([] : List ByteArray).length ⟨nd.length, 0⟩) := by simpa using hE
    exact kids_loop111 (nd0 := nd) (ks := ks) (lv := 0) rfl hk1 hk2 hkw (ihk kv hE') (R := fun a b => .tup [.agg [i nd.length, i 0], a, b]) rfl
theorem ok_graph_Build (l : List Ty) (hwf : ∀ t ∈ l, Wf t [] 0) (hz : Ty.szs l ≤ 274877906944) : Ok P F.graph_Build [.sl (l.map Ty.enc)] (.tup [.agg [.sl ((belowsF l 0 [] []).map Nd.enc)], .sl ((nextsF l 0 [] []).map Rf.enc)]) := by
 have hll := szs_len l
 refine k_graph_Build _ _ rfl (d_l (i ((l.map Ty.enc).length : Int)) e_len fun _ => den_rounds (fun j => [i j, .sl ((nextsF (l.take j) 0 [] []).map Rf.enc), .sl ((belowsF (l.take j) 0 [] []).map Nd.enc)]) l.length (by simp [nextsF, belowsF]) (fun j hj => ?_) ?_)
 ·refine d_l (.bool (decide ((j : Int) < ((l.map Ty.enc).length : Int)))) rfl fun _ => d_dec (p := (j : Int) < ((l.map Ty.enc).length : Int)) (fun _ => ?_) fun h => absurd (show (j : Int) < ((l.map Ty.enc).length : Int) by simp; omega) h
  have hbl := belows_len (l.take j) [] 0 (fun x hx => hwf x (List.mem_of_mem_take hx)) 0 [] []
  have h1 := gcs_le (l.take j)
  have h2 := szs_take l j hj
  have h3 := szs_take_le l (j + 1)
  have hc := okS_build l[j].sz l[j] (Nat.le_refl _) [] [] 0 [] (belowsF (l.take j) 0 [] []) (hwf _ (List.getElem_mem hj)) (Nat.le_refl _) rfl (fun q hq => by cases hq) (fun nm q hq => by simp [lookLast] at hq) (by simp; omega) (by rw [hbl]; omega)
  rw [hbl] at hc
  have e0 : ((gcs (l.take j) : Nat) : Int) = 0 + (gcs (l.take j) : Int) := by omega
  rw [e0] at hc
  have hnl : (nextsF (l.take j) 0 [] []).length = j := by rw [nextsF_len]; simp; omega
  refine d_l _ (e_idx (tyAt hj) (Ty.okc_enc _)) fun _ => d_l _ (e_okc (Ty.okc_enc _)) fun _ => d_calls rfl hc (d_l (.sl [(refF l[j] (0 + gcs (l.take j)) [] []).enc]) (e_lst (fun x hx => by simp at hx; subst hx; exact Rf.okc_enc _)) fun _ => d_l (.sl ((nextsF (l.take j) 0 [] []).map Rf.enc ++ [(refF l[j] (0 + gcs (l.take j)) [] []).enc])) (e_app (l := (nextsF (l.take j) 0 [] []).map Rf.enc) (fun x hx => by simp at hx; subst hx; exact Rf.okc_enc _) (by simp only [List.length_map, List.length_cons, List.length_nil, hnl]; omega) (by simp only [List.length_map, List.length_cons, List.length_nil, hnl]; omega)) fun _ => d_l _ (e_inc (by omega)) fun _ => d_cont rfl ?_)
  rw [nextsF_take l j hj, belowsF_take l j hj]
  simp
 ·refine d_l (.bool (decide ((l.length : Int) < ((l.map Ty.enc).length : Int)))) rfl fun _ => d_dec (p := (l.length : Int) < ((l.map Ty.enc).length : Int)) (fun h => ?_) fun h => d_ret ?_
  ·simp at h
  ·rw [List.take_length]; rfl
end Go.Proofs.YtkpnmgohbipjjaaGreatDoor.Tx
/- Contract: a comparison decides the equality of two references (2). -/
namespace Go.Proofs.YtkpnmgohbipjjaaGreatDoor.Tx
open Go.Lf Go.Lf.S Go.Lf.Duo
set_option maxRecDepth 100000
end Go.Proofs.YtkpnmgohbipjjaaGreatDoor.Tx
/- Contracts: Equal, Alike. -/
namespace Go.Proofs.YtkpnmgohbipjjaaGreatDoor.Tx
open Go.Lf Go.Lf.S Go.Lf.Duo
set_option maxRecDepth 100000
end Go.Proofs.YtkpnmgohbipjjaaGreatDoor.Tx
/- Equality is transitive. -/
namespace Go.Proofs.YtkpnmgohbipjjaaGreatDoor.Tx
open Go.Lf Go.Lf.S Go.Lf.Duo
set_option maxRecDepth 100000
end Go.Proofs.YtkpnmgohbipjjaaGreatDoor.Tx
/- Equality is reflexive. -/
namespace Go.Proofs.YtkpnmgohbipjjaaGreatDoor.Tx
open Go.Lf Go.Lf.S Go.Lf.Duo
set_option maxRecDepth 100000
end Go.Proofs.YtkpnmgohbipjjaaGreatDoor.Tx
/- Equality is symmetric; equal is alike. -/
namespace Go.Proofs.YtkpnmgohbipjjaaGreatDoor.Tx
open Go.Lf Go.Lf.S Go.Lf.Duo
set_option maxRecDepth 100000
theorem NdOk.len_eq {n m : Int} {x y : Nd} (hx : NdOk 0 n [] x) (hy : NdOk 0 m [] y) (hk : x.kind = y.kind) (hl : x.labels.length = y.labels.length) : x.next.length = y.next.length := by
 have a1 := hx.k1; have a3 := hx.n3; have a5 := hx.n5; have a7 := hx.n7
 have b3 := hy.n3; have b5 := hy.n5; have b7 := hy.n7
 clear hx hy
 omega
theorem NdOk.lab {n : Int} {x : Nd} (hx : NdOk 0 n [] x) (h0 : 0 < x.labels.length) : x.next.length = x.labels.length := by
 have a1 := hx.k1; have a3 := hx.n3; have a5 := hx.n5; have a7 := hx.n7
 clear hx
 omega
end Go.Proofs.YtkpnmgohbipjjaaGreatDoor.Tx
/- Contracts: producers (references of a context, priorities), the least priority. -/
namespace Go.Proofs.YtkpnmgohbipjjaaGreatDoor.Tx
open Go.Lf Go.Lf.S Go.Lf.Duo
set_option maxRecDepth 100000
end Go.Proofs.YtkpnmgohbipjjaaGreatDoor.Tx
/- Contracts: ref02 Raise, put, Unfold: exactly. -/
namespace Go.Proofs.YtkpnmgohbipjjaaGreatDoor.Tx
open Go.Lf Go.Lf.S Go.Lf.Duo
set_option maxRecDepth 100000
mutual
/-- a type with its priorities raised -/
def raiseT (k : Int) : Ty → Ty
 | .mk kd p nm s ls ks => .mk kd (if 4 ≤ kd ∧ kd ≤ 7 then ad p k else p) nm s ls (raiseTs k ks)
def raiseTs (k : Int) : List Ty → List Ty
 | [] => []
 | t :: ts => raiseT k t :: raiseTs k ts
end
theorem raiseTs_eq (k : Int) : ∀ l : List Ty, raiseTs k l = l.map (raiseT k)
 | [] => rfl
 | t :: ts => by simp [raiseTs, raiseTs_eq k ts]
theorem raiseT_mk (k kd p : Int) (nm : ByteArray) (s : Int) (ls : List ByteArray) (ks : List Ty) : raiseT k (.mk kd p nm s ls ks) = .mk kd (if 4 ≤ kd ∧ kd ≤ 7 then ad p k else p) nm s ls (ks.map (raiseT k)) := by
 simp only [raiseT, raiseTs_eq]
mutual
/-- a type for a variable -/
def putT (x : ByteArray) (b : Ty) : Ty → Ty
 | .mk kd p nm s ls ks => if kd = 9 ∧ nm = x then raiseT s b else if kd = 8 ∧ nm = x then raiseT 0 (.mk kd p nm s ls ks) else .mk kd (if 4 ≤ kd ∧ kd ≤ 7 then ad p 0 else p) nm s ls (putTs x b ks)
def putTs (x : ByteArray) (b : Ty) : List Ty → List Ty
 | [] => []
 | t :: ts => putT x b t :: putTs x b ts
end
theorem putTs_eq (x : ByteArray) (b : Ty) : ∀ l : List Ty, putTs x b l = l.map (putT x b)
 | [] => by simp [putTs]
 | t :: ts => by simp [putTs, putTs_eq x b ts]
/-- lists of bounded lengths throughout -/
inductive Ln : Ty → Prop
 | mk (t : Ty) (h1 : t.labels.length ≤ 549755813888) (h2 : t.kids.length ≤ 549755813888) (h : ∀ k ∈ t.kids, Ln k) : Ln t
theorem Ln.raise {k : Int} : ∀ {t : Ty}, Ln t → Ln (raiseT k t) := by
 intro t
 induction t using Ty.ind with
 | _ t ih =>
 intro h
 cases h with
 | mk _ h1 h2 h =>
 obtain ⟨kd, p, nm, s, ls, ks⟩ := t
 rw [raiseT_mk]
 refine .mk _ h1 (by show (ks.map (raiseT k)).length ≤ _; rw [List.length_map]; exact h2) fun x hx => ?_
 obtain ⟨y, hy, rfl⟩ := List.mem_map.1 hx
 exact ih y hy (h y hy)
theorem Ln.put {x : ByteArray} {b : Ty} (hb : Ln b) : ∀ {t : Ty}, Ln t → Ln (putT x b t) := by
 intro t
 induction t using Ty.ind with
 | _ t ih =>
 intro h
 have h' := h
 cases h with
 | mk _ h1 h2 h =>
 obtain ⟨kd, p, nm, s, ls, ks⟩ := t
 unfold putT
 split
 ·exact hb.raise
 ·split
  ·exact h'.raise
  ·rw [putTs_eq]
   refine .mk _ h1 (by show (ks.map (putT x b)).length ≤ _; rw [List.length_map]; exact h2) fun y hy => ?_
   obtain ⟨z, hz, rfl⟩ := List.mem_map.1 hy
   exact ih z hz (h z hz)
theorem ty_at' {ks : List Ty} {j : Nat} (h : j < ks.length) : (ks.map Ty.enc)[j]? = some (ks[j]).enc := by simp [h]
/-- the round of Raise -/
theorem raise_loop {K : PV → Prop} {ks : List Ty} {k : Int} (hk : ks.length ≤ 549755813888) (ih : ∀ t ∈ ks, Ok P F.ref02_Raise [t.enc, i k] (raiseT k t).enc) {a p nm s lb : PV} {R : List PV → PV} (hR : K (R [i (ks.length : Int), a, p, nm, s, lb, .sl ((ks.map (raiseT k)).map Ty.enc)])) :
  (T.loop [i 0, a, p, nm, s, lb, .sl []] fun y => .l .len [.sl (ks.map Ty.enc)] fun x9 => .l (.cmp .lss .i64) [n y 0, x9] fun x10 => .ite x10
   (.l (.idx 6 true) [.sl (ks.map Ty.enc), n y 0] fun x11 => .call F.ref02_Raise [x11, i k] fun x12 => .l (.lst 6 true) [x12] fun x13 => .l (.app 6 true 88) [n y 6, x13] fun x14 => .l (.arith .add .i64) [n y 0, i 1] fun x15 =>
    .cont 0 [x15, n y 1, n y 2, n y 3, n y 4, n y 5, x14]) (.ret (R y))).den0 P K [] := by
 refine den_rounds (fun j => [i j, a, p, nm, s, lb, .sl (((ks.take j).map (raiseT k)).map Ty.enc)]) ks.length (by simp) (fun j hj => ?_) ?_
 ·refine d_l _ e_len fun _ => d_l _ rfl fun _ => d_dec (fun _ => ?_) fun h => absurd (show (j : Int) < ((ks.map Ty.enc).length : Int) by simp; omega) h
  refine d_l _ (e_idx (ty_at' hj) (Ty.okc_enc _)) fun _ => d_call (ih _ (List.getElem_mem hj)) (d_l _ (e_lst (fun x hx => by simp at hx; subst hx; exact Ty.okc_enc _)) fun _ => d_l _ (e_app (fun x hx => by simp at hx; subst hx; exact Ty.okc_enc _) (by simp; omega) (by simp; omega)) fun _ => d_l _ (e_inc (by omega)) fun _ => d_cont rfl ?_)
  rw [List.take_succ_eq_append_getElem hj, List.map_append, List.map_append]; rfl
 ·refine d_l _ e_len fun _ => d_l _ rfl fun _ => d_dec (fun h => ?_) fun h => d_ret ?_
  ·have h : (ks.length : Int) < ((ks.map Ty.enc).length : Int) := h
   simp at h
  ·rw [List.take_length]; exact hR
theorem ok_ref02_Raise : ∀ (t : Ty) (k : Int), Ln t → Ok P F.ref02_Raise [t.enc, i k] (raiseT k t).enc := by
 intro t
 induction t using Ty.ind with
 | _ t ih =>
 intro k h
 cases h with
 | mk _ h1 h2 h =>
 obtain ⟨kd, p, nm, s, ls, ks⟩ := t
 have h1 : ls.length ≤ 549755813888 := h1
 have h2 : ks.length ≤ 549755813888 := h2
 have hks : ∀ x ∈ ks, Ok P F.ref02_Raise [x.enc, i k] (raiseT k x).enc := fun x hx => ih x hx k (h x hx)
 rw [raiseT_mk, Ty.enc_mk, Ty.enc_mk]
 refine k_ref02_Raise _ _ rfl (d_l _ (by rfl) fun _ => d_l (.sl []) rfl fun _ => d_l (.sl (ls.map .str)) (by
  show (Prim.app 1 false 16).ev [.sl [], .sl (ls.map .str)] = _
  rw [e_app (all_map okc_str ls) (by simp; omega) (by simp; omega)]; rfl) fun _ => d_l .nilI rfl fun _ => d_l _ rfl fun _ => d_dec (fun h4 => d_l _ rfl fun _ => d_dec (fun h7 => ?_) fun h7 => ?_) fun h4 => ?_)
 ·rw [if_pos ⟨h4, h7⟩]
  exact d_l (i (ad p k)) rfl fun _ => d_l (i (ad p k)) rfl fun _ => raise_loop h2 hks (R := fun y => .agg [n y 1, n y 2, n y 3, n y 4, n y 5, n y 6]) rfl
 ·rw [if_neg (fun hc => h7 hc.2)]
  exact raise_loop h2 hks (R := fun y => .agg [n y 1, n y 2, n y 3, n y 4, n y 5, n y 6]) rfl
 ·rw [if_neg (fun hc => h4 hc.1)]
  exact raise_loop h2 hks (R := fun y => .agg [n y 1, n y 2, n y 3, n y 4, n y 5, n y 6]) rfl
def Ty.cellsOf (t : Ty) : List PV := [i t.kind, i t.prio, .str t.name, i t.shift, .sl (t.labels.map .str), .sl (t.kids.map Ty.enc)]
theorem Ty.enc_cells (t : Ty) : t.enc = .agg (Ty.cellsOf t) := by
 cases t; rw [Ty.enc_mk]; rfl
theorem ok_ref02_RaiseS (t : Ty) (k : Int) (h : Ln t) : OkS P F.ref02_Raise sg_ref02_Raise [t.enc, i k] (Ty.cellsOf (raiseT k t)) := by
 cases h with
 | mk _ h1 h2 h =>
 obtain ⟨kd, p, nm, s, ls, ks⟩ := t
 have h1 : ls.length ≤ 549755813888 := h1
 have h2 : ks.length ≤ 549755813888 := h2
 have hks : ∀ x ∈ ks, Ok P F.ref02_Raise [x.enc, i k] (raiseT k x).enc := fun x hx => ok_ref02_Raise x k (h x hx)
 rw [raiseT_mk, Ty.enc_mk]
 refine m_ref02_Raise _ _ (d_l _ (by rfl) fun _ => d_l (.sl []) rfl fun _ => d_l (.sl (ls.map .str)) (by
  show (Prim.app 1 false 16).ev [.sl [], .sl (ls.map .str)] = _
  rw [e_app (all_map okc_str ls) (by simp; omega) (by simp; omega)]; rfl) fun _ => d_l .nilI rfl fun _ => d_l _ rfl fun _ => d_dec (fun h4 => d_l _ rfl fun _ => d_dec (fun h7 => ?_) fun h7 => ?_) fun h4 => ?_)
 ·rw [if_pos ⟨h4, h7⟩]
  exact d_l (i (ad p k)) rfl fun _ => d_l (i (ad p k)) rfl fun _ => raise_loop h2 hks (R := fun y => .tup [n y 1, n y 2, n y 3, n y 4, n y 5, n y 6]) rfl
 ·rw [if_neg (fun hc => h7 hc.2)]
  exact raise_loop h2 hks (R := fun y => .tup [n y 1, n y 2, n y 3, n y 4, n y 5, n y 6]) rfl
 ·rw [if_neg (fun hc => h4 hc.1)]
  exact raise_loop h2 hks (R := fun y => .tup [n y 1, n y 2, n y 3, n y 4, n y 5, n y 6]) rfl
theorem e_updT {n : Nat} {a : Bool} {l : List PV} {k : Nat} {x : PV} (h : k < l.length) (hx : x.okc n a = true) : (Prim.upd n a).ev [.sl l, i (k : Int), x] = some (.sl (l.set k x)) := by
 show (if (0 : Int) ≤ (k : Int) ∧ (k : Int) < (l.length : Int) ∧ x.okc n a then some (PV.sl (l.set (k : Int).toNat x)) else none) = _
 rw [if_pos ⟨by omega, by omega, hx⟩, Int.toNat_natCast]
/-- what a type unfolds to -/
inductive Unf : Ty → Ty → Prop
 | done (t : Ty) (h : t.kind ≠ 8) : Unf t (raiseT 0 t)
 | step (t k u : Ty) (r : List Ty) (h : t.kind = 8) (hk : t.kids = k :: r) (hu : Unf (putT t.name t k) u) : Unf t u
end Go.Proofs.YtkpnmgohbipjjaaGreatDoor.Tx

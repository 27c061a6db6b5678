/- Contracts: the error of a type, exactly, of the program and of the reference. -/
import Derived.Test.YtfmbddfenghnlaaGreatDoorWk54
set_option linter.all false
namespace Go.Proofs.YtfmbddfenghnlaaGreatDoor.Tx
open Go.Lf Go.Lf.S Go.Lf.Duo
set_option maxRecDepth 100000

/-- bounds: the names, and whether there is an action between -/
def bv (ns : List ByteArray) (g : Nat) : List PV := ns.zipIdx.map fun p => .agg [.str p.1, .bool (decide (p.2 < g))]
theorem bv_len (ns : List ByteArray) (g : Nat) : (bv ns g).length = ns.length := by simp [bv]
theorem bv_at {ns : List ByteArray} {g q : Nat} (h : q < ns.length) : (bv ns g)[q]? = some (.agg [.str ns[q], .bool (decide (q < g))]) := by simp [bv, h]
theorem bv_okc (ns : List ByteArray) (g : Nat) : ∀ x ∈ bv ns g, x.okc 2 true = true := by
  intro x hx
  obtain ⟨p, _, rfl⟩ := List.mem_map.1 hx
  rfl
theorem bv_snoc {ns : List ByteArray} {g : Nat} {nm : ByteArray} (h : g ≤ ns.length) : bv ns g ++ [.agg [.str nm, .bool false]] = bv (ns ++ [nm]) g := by
  simp [bv, List.zipIdx_append]
  omega

def findV (ns : List ByteArray) (g : Nat) (nm : ByteArray) : PV := match lastI nm ns with
  | some q => .tup [.agg [.str nm, .bool (decide (q < g))], .bool true]
  | none => .tup [.agg [.str noB, .bool false], .bool false]
theorem ok_find (ns : List ByteArray) (g : Nat) (nm : ByteArray) (hl : ns.length ≤ 1099511627776) : Ok P F.typetree_find [.sl (bv ns g), .str nm] (findV ns g nm) := by
  refine k_typetree_find _ _ rfl ?_
  have hB : Ok P F.slices_Backward_typetree_bound_typetree_bound [.sl (bv ns g)] (.fn F.slices_Backward_typetree_bound_typetree_bound_1 [] [.box (.sl (bv ns g))]) :=
    k_slices_Backward_typetree_bound_typetree_bound _ _ rfl (d_l (.sl (bv ns g)) rfl fun _ => d_ret rfl)
  refine d_l (.str nm) rfl fun _ => d_call hB ?_
  have hbl := bv_len ns g
  refine d_iterG (itsV_Backward _ (bv_okc ns g) (by omega)) (fun y hy => ?_) (fun j zs => (∀ q, ns.length ≤ q + j → ns[q]? ≠ some nm) ∧ zs = []) ⟨fun q hq => by rw [List.getElem?_eq_none (by omega)]; simp, rfl⟩ ?_ ?_
  · obtain ⟨j, hj⟩ := List.mem_iff_getElem?.1 hy
    have h1 := (List.getElem?_eq_some_iff.1 hj).1
    rw [bk_len] at h1
    rw [bk_at _ _ _ h1] at hj
    cases hj; rfl
  · rintro j y hy _ ⟨hno, rfl⟩
    have h1 := (List.getElem?_eq_some_iff.1 hy).1
    rw [bk_len, hbl] at h1
    rw [bk_at _ _ _ (by omega), hbl] at hy
    cases hy
    have hlt : ns.length - 1 - j < ns.length := by omega
    have hg : (bv ns g).getD (ns.length - 1 - j) .nilI = .agg [.str ns[ns.length - 1 - j], .bool (decide (ns.length - 1 - j < g))] := by rw [List.getD_eq_getElem?_getD, bv_at hlt]; rfl
    rw [hg]
    by_cases he : ns[ns.length - 1 - j] = nm
    · refine .inr (d_l (.agg [.str ns[ns.length - 1 - j], .bool (decide (ns.length - 1 - j < g))]) rfl fun _ => d_l (.bool (decide (ns[ns.length - 1 - j] = nm))) rfl fun _ => d_dec (fun _ => d_l (.agg [.str ns[ns.length - 1 - j], .bool (decide (ns.length - 1 - j < g))]) rfl fun _ => d_ret ?_) fun h => absurd he h)
      have : lastI nm ns = some (ns.length - 1 - j) := lastI_is (by rw [List.getElem?_eq_getElem hlt, he]) fun q hq => hno q (by omega)
      simp only [findV, this, he]
    · refine .inl ⟨[], d_l (.agg [.str ns[ns.length - 1 - j], .bool (decide (ns.length - 1 - j < g))]) rfl fun _ => d_l (.bool (decide (ns[ns.length - 1 - j] = nm))) rfl fun _ => d_dec (fun h => absurd h he) fun _ => d_cont rfl rfl, fun q hq => ?_, rfl⟩
      by_cases e : ns.length ≤ q + j
      · exact hno q e
      · obtain rfl : q = ns.length - 1 - j := by omega
        rw [List.getElem?_eq_getElem hlt]; exact fun e => he (Option.some.inj e)
  · rintro zs ⟨hno, rfl⟩
    rw [bk_len, hbl] at hno
    have : lastI nm ns = none := lastI_not fun q => hno q (by omega)
    exact d_ret (by simp only [findV, this, noB])

theorem ok_Session (t : Ty) : Ok P F.typetree_Session [t.enc] (.bool (sesB t.kind)) := by
  obtain ⟨k, p, nm, s, ls, ks⟩ := t
  rw [Ty.enc_mk]
  refine k_typetree_Session _ _ rfl (d_l (.agg [.int .i64 k, .int .i64 p, .str nm, .int .i64 s, .sl (ls.map .str), .sl (ks.map Ty.enc)]) rfl fun _ => d_l (.bool (!decide (k = 1))) rfl fun _ => d_ndec (fun h => d_l (.bool (!decide (k = 2))) rfl fun _ => d_ret (congrArg PV.bool ?_)) fun h => d_ret (congrArg PV.bool ?_))
  · have : ¬ k = 1 := h; simp [Ty.kind, sesB, this]
  · have : k = 1 := h; simp [Ty.kind, sesB, this]

/-- the kids, one after the other -/
def kidsT (x0 L : PV) (lvl : Nat) : T PV :=
  .l .len [(c 5 x0)] fun x12 =>
  .loop [(i 0)] fun y13 =>
  .l (.cmp .lss .i64) [(n y13 0), x12] fun x14 =>
  .ite x14 (
   .l (.idx 6 true) [(c 5 x0), (n y13 0)] fun x15 =>
   .l (.okc 6 true) [x15] fun x16 =>
   .l (.cmp .eql .i64) [(n y13 0), (i 0)] fun x17 =>
   .ite x17 (
    .l (.cmp .eql .i64) [(c 0 x0), (i 4)] fun x18 =>
    .ite x18 (
     .l .bnot [(.bool true)] fun x19 =>
     .call F.typetree_check [x16, L, x19] fun x20 =>
     .l (.cmp .neq .i64) [x20, (i 0)] fun x21 =>
     .ite x21 (.ret x20) (
      .l (.arith .add .i64) [(n y13 0), (i 1)] fun x22 =>
      .cont lvl [x22])) (
     .l (.cmp .eql .i64) [(c 0 x0), (i 5)] fun x19 =>
     .l .bnot [x19] fun x20 =>
     .call F.typetree_check [x16, L, x20] fun x21 =>
     .l (.cmp .neq .i64) [x21, (i 0)] fun x22 =>
     .ite x22 (.ret x21) (
      .l (.arith .add .i64) [(n y13 0), (i 1)] fun x23 =>
      .cont lvl [x23]))) (
    .l .bnot [(.bool false)] fun x18 =>
    .call F.typetree_check [x16, L, x18] fun x19 =>
    .l (.cmp .neq .i64) [x19, (i 0)] fun x20 =>
    .ite x20 (.ret x19) (
     .l (.arith .add .i64) [(n y13 0), (i 1)] fun x21 =>
     .cont lvl [x21]))) (
   .ret (i 0))

theorem d_contL {K : PV → Prop} {hs : List (List PV → Prop)} {xs : List PV} {g : List PV → Prop} (h : g xs) : (T.cont hs.length xs).den0 P K (hs ++ [g]) := d_cont (by rw [List.getElem?_append_right (Nat.le_refl _)]; simp) h

theorem kids_loop {k : Int} {a b d e : PV} {ks : List Ty} {L : PV} {ns : List ByteArray} {g : Nat} {hs : List (List PV → Prop)} (hk : ks.length ≤ 1099511627776)
    (ih : ∀ t ∈ ks, ∀ ses : Bool, Ok P F.typetree_check [t.enc, L, .bool ses] (i (nodeE t ns g ses))) :
    (kidsT (.agg [i k, a, b, d, e, .sl (ks.map Ty.enc)]) L hs.length).den0 P (· = i (nodeEs ks (decide (4 ≤ k ∧ k ≤ 5)) ns g)) hs := by
  refine d_l (i (ks.length : Int)) (by rw [← List.length_map (f := Ty.enc)]; exact e_len) fun _ => ?_
  refine den_loop (fun m ys => ∃ j : Nat, j + m = ks.length ∧ nodeEs (ks.drop j) (if j = 0 then decide (4 ≤ k ∧ k ≤ 5) else false) ns g = nodeEs ks (decide (4 ≤ k ∧ k ≤ 5)) ns g ∧ ys = [i j]) ks.length ⟨0, by omega, by simp, rfl⟩ ?_
  rintro m _ ⟨j, hj, hE, rfl⟩
  refine d_l _ rfl fun _ => d_dec (fun h => ?_) fun h => ?_
  · have hlt : j < ks.length := by have h : (j : Int) < (ks.length : Int) := h; omega
    have hmem : ks[j] ∈ ks := List.getElem_mem hlt
    rw [nodeEs_drop hlt] at hE
    refine d_l _ (e_idx (ty_at0 hlt) (Ty.okc_enc _)) fun _ => d_l ks[j].enc (e_okc (Ty.okc_enc _)) fun _ => ?_
    have fin : ∀ ses : Bool, ses = (!(if j = 0 then decide (4 ≤ k ∧ k ≤ 5) else false)) → (T.call F.typetree_check [ks[j].enc, L, .bool ses] fun x20 =>
       .l (.cmp .neq .i64) [x20, (i 0)] fun x21 =>
       .ite x21 (.ret x20) (
        .l (.arith .add .i64) [i j, (i 1)] fun x22 =>
        .cont hs.length [x22])).den0 P (· = i (nodeEs ks (decide (4 ≤ k ∧ k ≤ 5)) ns g)) (hs ++ [fun zs => ∃ m', m' < m ∧ ∃ j : Nat, j + m' = ks.length ∧ nodeEs (ks.drop j) (if j = 0 then decide (4 ≤ k ∧ k ≤ 5) else false) ns g = nodeEs ks (decide (4 ≤ k ∧ k ≤ 5)) ns g ∧ zs = [i j]]) := by
      rintro ses rfl
      refine d_call (ih _ hmem _) (d_l _ rfl fun _ => d_ndec (fun h0 => d_ret ?_) fun h0 => d_l _ (e_inc (by omega)) fun _ => d_contL ⟨m - 1, by omega, j + 1, by omega, ?_, rfl⟩)
      · have h0 : ¬ nodeE ks[j] ns g (!(if j = 0 then decide (4 ≤ k ∧ k ≤ 5) else false)) = 0 := h0
        rw [if_pos h0] at hE
        rw [← hE]
      · have h0 : nodeE ks[j] ns g (!(if j = 0 then decide (4 ≤ k ∧ k ≤ 5) else false)) = 0 := h0
        rw [if_neg (fun e => e h0)] at hE
        rw [if_neg (by omega)]
        exact hE
    refine d_l _ rfl fun _ => d_dec (fun h0 => ?_) fun h0 => d_l (.bool true) rfl fun _ => fin true (by have h0 : ¬ (j : Int) = 0 := h0; rw [if_neg (by omega)]; rfl)
    have h0 : (j : Int) = 0 := h0
    refine d_l _ rfl fun _ => d_dec (fun h4 => d_l (.bool false) rfl fun _ => fin false (by have h4 : k = 4 := h4; rw [if_pos (by omega), decide_eq_true (by omega)]; rfl)) fun h4 => ?_
    have h4 : ¬ k = 4 := h4
    refine d_l (.bool (decide (k = 5))) rfl fun _ => d_l (.bool (!decide (k = 5))) rfl fun _ => fin _ ?_
    rw [if_pos (by omega)]
    congr 1
    exact decide_eq_decide.2 ⟨fun e => by omega, fun e => by omega⟩
  · have h : ¬ (j : Int) < (ks.length : Int) := h
    rw [List.drop_eq_nil_of_le (by omega), nodeEs_nil] at hE
    exact d_ret (by rw [← hE])

theorem ok_CloneS (l : List PV) (hok : ∀ x ∈ l, x.okc 2 true = true) (hl : l.length ≤ 1099511627776) : OkS P F.slices_Clone_typetree_bound_typetree_bound sg_slices_Clone_typetree_bound_typetree_bound [.sl l] [.sl l] := by
  refine m_slices_Clone_typetree_bound_typetree_bound _ _ ?_
  refine d_nilq (fun e => d_ret (by rw [e])) (d_l (.sl []) rfl fun _ => d_l _ (e_app hok (by simp; omega) (by simp; omega)) fun _ => d_ret rfl)

theorem nodeE_if {k p : Int} {nm : ByteArray} {s : Int} {ls : List ByteArray} {ks : List Ty} {ses : Bool} {A B : Int} (h : shapeP (.mk k p nm s ls ks)) (hs : ses = true → sesB k = true) : (if (pb (¬ shP k p nm s ls ks.length) || (ses && !sesB k)) = true then A else B) = B := by
  have h1 : pb (¬ shP k p nm s ls ks.length) = false := pb_false.2 fun e => e h
  rw [h1]
  cases ses with
  | false => rfl
  | true => rw [hs rfl]; rfl
theorem nodeE_3 {k p : Int} {nm : ByteArray} {s : Int} {ls : List ByteArray} {ks : List Ty} {ns : List ByteArray} {g : Nat} {ses : Bool} (h : ¬ shapeP (.mk k p nm s ls ks)) : nodeE (.mk k p nm s ls ks) ns g ses = 3 := by
  have h1 : pb (¬ shP k p nm s ls ks.length) = true := pb_iff.2 h
  simp only [nodeE, h1, Bool.true_or, if_true]
theorem nodeE_3s {k p : Int} {nm : ByteArray} {s : Int} {ls : List ByteArray} {ks : List Ty} {ns : List ByteArray} {g : Nat} {ses : Bool} (hs : ses = true) (h : sesB k = false) : nodeE (.mk k p nm s ls ks) ns g ses = 3 := by
  simp only [nodeE, hs, h]
  simp
theorem nodeE_9 {k p : Int} {nm : ByteArray} {s : Int} {ls : List ByteArray} {ks : List Ty} {ns : List ByteArray} {g : Nat} {ses : Bool} (h : shapeP (.mk k p nm s ls ks)) (hs : ses = true → sesB k = true) (h9 : k = 9) :
    nodeE (.mk k p nm s ls ks) ns g ses = match lastI nm ns with
      | some q => if q < g then 0 else 3
      | none => 4 := by
  simp only [nodeE]
  rw [nodeE_if h hs, if_pos h9]
  rfl
theorem nodeE_o {k p : Int} {nm : ByteArray} {s : Int} {ls : List ByteArray} {ks : List Ty} {ns : List ByteArray} {g : Nat} {ses : Bool} (h : shapeP (.mk k p nm s ls ks)) (hs : ses = true → sesB k = true) (h9 : ¬ k = 9) :
    nodeE (.mk k p nm s ls ks) ns g ses = nodeEs ks (decide (4 ≤ k ∧ k ≤ 5)) (if k = 8 then ns ++ [nm] else ns) (if k = 8 then g else ns.length) := by
  rw [nodeE, nodeE_if h hs, if_neg h9]

theorem ok_check : ∀ (t : Ty), Lim t → ∀ (ns : List ByteArray) (g : Nat) (ses : Bool), g ≤ ns.length → ns.length + t.sz ≤ 1099511627776 → Ok P F.typetree_check [t.enc, .sl (bv ns g), .bool ses] (i (nodeE t ns g ses)) := by
  intro t
  induction t using Ty.ind with
  | _ t ih =>
  intro hlim ns g ses hg hz
  have hb := okx_fields t hlim
  have hse := ok_Session t
  have hkl := szs_len t.kids
  cases hlim with
  | mk _ hn hl hll hkl' hkk =>
  obtain ⟨k, p, nm, s, ls, ks⟩ := t
  have hzk : ∀ x ∈ ks, x.sz < (Ty.mk k p nm s ls ks).sz := fun x hx => Ty.sz_kid hx
  simp only [Ty.kids] at ih hkl hkk
  have hks : ks.length ≤ 1099511627776 := by simp only [Ty.sz] at hz; omega
  have hns : ns.length ≤ 1099511627776 := by omega
  rw [Ty.enc_mk] at hb hse ⊢
  refine k_typetree_check _ _ rfl ?_
  refine d_l (.agg [.int .i64 k, .int .i64 p, .str nm, .int .i64 s, .sl (ls.map .str), .sl (ks.map Ty.enc)]) rfl fun _ => d_call hb (d_l _ rfl fun _ => d_ite (fun h => d_ret ?_) fun h => ?_)
  · have h : pb (shapeP (.mk k p nm s ls ks)) = false := by simpa using h
    rw [nodeE_3 (pb_false.1 h)]
  have hsh : shapeP (.mk k p nm s ls ks) := pb_iff.1 (by simpa using h)
  have hsh' := hsh
  simp only [shapeP, shP, Ty.kind, Ty.prio, Ty.shift, Ty.kids, Ty.labels, Ty.name] at hsh'
  refine d_ite (fun hs => d_call hse (d_l _ rfl fun _ => d_ite (fun h2 => d_ret ?_) fun h2 => ?_)) fun hs => ?_
  · rw [nodeE_3s hs (by simpa [Ty.kind] using h2)]
  all_goals
    have hs2 : ses = true → sesB k = true := by
      intro e
      first
        | exact (by simpa [Ty.kind] using h2)
        | exact (by rw [hs] at e; cases e)
    refine d_l _ rfl fun _ => d_dec (fun h9 => ?_) fun h9 => ?_
    · have h9 : k = 9 := h9
      have hk0 : ks = [] := List.eq_nil_of_length_eq_zero (by grind)
      rw [nodeE_9 hsh hs2 h9]
      refine d_call (ok_find ns g nm hns) ?_
      simp only [findV]
      cases hli : lastI nm ns with
      | none => exact d_l (.agg [.str noB, .bool false]) rfl fun _ => d_l (.bool false) rfl fun _ => d_l (.agg [.str noB, .bool false]) rfl fun _ => d_l (.bool true) rfl fun _ => d_true (d_ret rfl)
      | some q =>
        refine d_l (.agg [.str nm, .bool (decide (q < g))]) rfl fun _ => d_l (.bool true) rfl fun _ => d_l (.agg [.str nm, .bool (decide (q < g))]) rfl fun _ => d_l (.bool false) rfl fun _ => d_false (d_l (.bool (!decide (q < g))) rfl fun _ => d_ndec (fun h1 => d_ret (by simp only [if_neg h1])) fun h1 => ?_)
        have := kids_loop (k := k) (a := .int .i64 p) (b := .str nm) (d := .int .i64 s) (e := .sl (ls.map .str)) (ks := ks) (L := .sl (bv ns g)) (ns := ns) (g := g) (hs := []) hks (fun t ht => by rw [hk0] at ht; cases ht)
        have e : nodeEs ks (decide (4 ≤ k ∧ k ≤ 5)) ns g = 0 := by rw [hk0]; exact nodeEs_nil
        rw [e] at this
        simp only [if_pos h1]
        exact this
    · have h9 : ¬ k = 9 := h9
      rw [nodeE_o hsh hs2 h9]
      refine d_l _ rfl fun _ => d_dec (fun h8 => ?_) fun h8 => ?_
      · have h8 : k = 8 := h8
        rw [if_pos h8, if_pos h8]
        refine d_calls rfl (ok_CloneS _ (bv_okc ns g) (by rw [bv_len]; omega)) (d_l .nilI rfl fun _ => d_l (.sl [.agg [.str nm, .bool false]]) rfl fun _ => d_l _ (e_app (l := bv ns g) (fun x hx => by simp at hx; subst hx; rfl) (by simp [bv_len]; omega) (by simp [bv_len]; omega)) fun _ => ?_)
        rw [bv_snoc hg]
        exact kids_loop (hs := []) hks fun t ht ses => ih t ht (hkk t ht) (ns ++ [nm]) g ses (by simp; omega) (by have := hzk t ht; simp; omega)
      · have h8 : ¬ k = 8 := h8
        rw [if_neg h8, if_neg h8]
        refine d_calls rfl (ok_CloneS _ (bv_okc ns g) (by rw [bv_len]; omega)) (d_l (i (ns.length : Int)) (by rw [← bv_len ns g]; exact e_len) fun _ => ?_)
        refine den_loop (fun m ys => ∃ j : Nat, j + m = ns.length ∧ ys = [i j, .sl (bv (ns.take j) j ++ (bv ns g).drop j)]) ns.length ⟨0, by omega, by simp [bv]⟩ ?_
        rintro m _ ⟨j, hj, rfl⟩
        refine d_l _ rfl fun _ => d_dec (fun h => ?_) fun h => ?_
        · have hlt : j < ns.length := by have h : (j : Int) < (ns.length : Int) := h; omega
          have hj1 : (bv (ns.take j) j).length = j := by rw [bv_len, List.length_take]; omega
          have hat : (bv (ns.take j) j ++ (bv ns g).drop j)[j]? = some (.agg [.str ns[j], .bool (decide (j < g))]) := by
            rw [List.getElem?_append_right (by omega), hj1, List.getElem?_drop]
            simpa using bv_at hlt
          refine d_l _ (e_idx hat rfl) fun _ => d_l (.sl (bv (ns.take (j + 1)) (j + 1) ++ (bv ns g).drop (j + 1))) ?_ fun _ => d_l _ (e_inc (by omega)) fun _ => d_cont rfl ⟨m - 1, by omega, j + 1, by omega, rfl⟩
          show (if (0 : Int) ≤ (j : Int) ∧ (j : Int) < ((bv (ns.take j) j ++ (bv ns g).drop j).length : Int) ∧ 1 + 1 ≤ 2 ∧ (PV.bool true).okc 1 false = true then match (bv (ns.take j) j ++ (bv ns g).drop j)[(j : Int).toNat]? with
            | some e => if e.okc 2 true = true then some (PV.sl ((bv (ns.take j) j ++ (bv ns g).drop j).set (j : Int).toNat (.agg (e.cells.take 1 ++ (PV.bool true).cells ++ e.cells.drop (1 + 1))))) else none
            | none => none else none) = _
          rw [if_pos ⟨by omega, by rw [List.length_append, List.length_drop, hj1, bv_len]; omega, by omega, rfl⟩, Int.toNat_natCast, hat]
          show some (PV.sl ((bv (ns.take j) j ++ (bv ns g).drop j).set j (.agg [.str ns[j], .bool true]))) = _
          congr 2
          apply List.ext_getElem?
          intro q
          have hL1 : (bv (ns.take (j + 1)) (j + 1)).length = j + 1 := by rw [bv_len, List.length_take]; omega
          rw [List.getElem?_set]
          by_cases e : j = q
          · subst e
            rw [if_pos rfl, if_pos (by rw [List.length_append, List.length_drop, hj1, bv_len]; omega), List.getElem?_append_left (by omega), bv_at (by rw [List.length_take]; omega)]
            simp
          · rw [if_neg e]
            by_cases e2 : q < j
            · rw [List.getElem?_append_left (by omega), List.getElem?_append_left (by omega), bv_at (by rw [List.length_take]; omega), bv_at (by rw [List.length_take]; omega)]
              simp [e2, show q < j + 1 by omega]
            · rw [List.getElem?_append_right (by omega), List.getElem?_append_right (by omega), hj1, hL1, List.getElem?_drop, List.getElem?_drop]
              congr 1; omega
        · have hj2 : j = ns.length := by have h : ¬ (j : Int) < (ns.length : Int) := h; omega
          rw [hj2, List.take_length, List.drop_eq_nil_of_le (by rw [bv_len]; omega), List.append_nil]
          exact kids_loop (hs := [_]) hks fun t ht ses => ih t ht (hkk t ht) ns ns.length ses (Nat.le_refl _) (by have := hzk t ht; omega)
end Go.Proofs.YtfmbddfenghnlaaGreatDoor.Tx

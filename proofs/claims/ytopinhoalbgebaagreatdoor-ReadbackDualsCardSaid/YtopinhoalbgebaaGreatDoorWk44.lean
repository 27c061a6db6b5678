/- Contracts (Wk33, Wk34, Wk44). -/
import Derived.Test.YtopinhoalbgebaaGreatDoorWk11
import Derived.Test.YtopinhoalbgebaaGreatDoorWk30
set_option linter.all false
/- Contracts: ref02 Raise, put, Unfold: exactly. -/
namespace Go.Proofs.YtopinhoalbgebaaGreatDoor.Tx
open Go.Lf Go.Lf.S Go.Lf.Duo
set_option maxRecDepth 100000

mutual
/-- a type with its priorities raised -/
def raiseT (k : Int) : Ty → Ty
  | .mk kd p nm s ls ks => .mk kd (if 4 ≤ kd ∧ kd ≤ 7 then ad p k else p) nm s ls (raiseTs k ks)
def raiseTs (k : Int) : List Ty → List Ty
  | [] => []
  | t :: ts => raiseT k t :: raiseTs k ts
end
theorem raiseTs_eq (k : Int) : ∀ l : List Ty, raiseTs k l = l.map (raiseT k)
  | [] => rfl
  | t :: ts => by simp [raiseTs, raiseTs_eq k ts]
theorem raiseT_mk (k kd p : Int) (nm : ByteArray) (s : Int) (ls : List ByteArray) (ks : List Ty) : raiseT k (.mk kd p nm s ls ks) = .mk kd (if 4 ≤ kd ∧ kd ≤ 7 then ad p k else p) nm s ls (ks.map (raiseT k)) := by
  simp only [raiseT, raiseTs_eq]

mutual
/-- a type for a variable -/
def putT (x : ByteArray) (b : Ty) : Ty → Ty
  | .mk kd p nm s ls ks => if kd = 9 ∧ nm = x then raiseT s b else if kd = 8 ∧ nm = x then raiseT 0 (.mk kd p nm s ls ks) else .mk kd (if 4 ≤ kd ∧ kd ≤ 7 then ad p 0 else p) nm s ls (putTs x b ks)
def putTs (x : ByteArray) (b : Ty) : List Ty → List Ty
  | [] => []
  | t :: ts => putT x b t :: putTs x b ts
end
theorem putTs_eq (x : ByteArray) (b : Ty) : ∀ l : List Ty, putTs x b l = l.map (putT x b)
  | [] => by simp [putTs]
  | t :: ts => by simp [putTs, putTs_eq x b ts]

/-- lists of bounded lengths throughout -/
inductive Ln : Ty → Prop
  | mk (t : Ty) (h1 : t.labels.length ≤ 549755813888) (h2 : t.kids.length ≤ 549755813888) (h : ∀ k ∈ t.kids, Ln k) : Ln t

theorem Ln.raise {k : Int} : ∀ {t : Ty}, Ln t → Ln (raiseT k t) := by
  intro t
  induction t using Ty.ind with
  | _ t ih =>
  intro h
  cases h with
  | mk _ h1 h2 h =>
  obtain ⟨kd, p, nm, s, ls, ks⟩ := t
  rw [raiseT_mk]
  refine .mk _ h1 (by show (ks.map (raiseT k)).length ≤ _; rw [List.length_map]; exact h2) fun x hx => ?_
  obtain ⟨y, hy, rfl⟩ := List.mem_map.1 hx
  exact ih y hy (h y hy)
theorem Ln.put {x : ByteArray} {b : Ty} (hb : Ln b) : ∀ {t : Ty}, Ln t → Ln (putT x b t) := by
  intro t
  induction t using Ty.ind with
  | _ t ih =>
  intro h
  have h' := h
  cases h with
  | mk _ h1 h2 h =>
  obtain ⟨kd, p, nm, s, ls, ks⟩ := t
  unfold putT
  split
  · exact hb.raise
  · split
    · exact h'.raise
    · rw [putTs_eq]
      refine .mk _ h1 (by show (ks.map (putT x b)).length ≤ _; rw [List.length_map]; exact h2) fun y hy => ?_
      obtain ⟨z, hz, rfl⟩ := List.mem_map.1 hy
      exact ih z hz (h z hz)

theorem ty_at' {ks : List Ty} {j : Nat} (h : j < ks.length) : (ks.map Ty.enc)[j]? = some (ks[j]).enc := by simp [h]

/-- the round of Raise -/
theorem raise_loop {K : PV → Prop} {ks : List Ty} {k : Int} (hk : ks.length ≤ 549755813888) (ih : ∀ t ∈ ks, Ok P F.ref02_Raise [t.enc, i k] (raiseT k t).enc) {a p nm s lb : PV} {R : List PV → PV} (hR : K (R [i (ks.length : Int), a, p, nm, s, lb, .sl ((ks.map (raiseT k)).map Ty.enc)])) :
    (T.loop [i 0, a, p, nm, s, lb, .sl []] fun y => .l .len [.sl (ks.map Ty.enc)] fun x9 => .l (.cmp .lss .i64) [n y 0, x9] fun x10 => .ite x10
      (.l (.idx 6 true) [.sl (ks.map Ty.enc), n y 0] fun x11 => .call F.ref02_Raise [x11, i k] fun x12 => .l (.lst 6 true) [x12] fun x13 => .l (.app 6 true 88) [n y 6, x13] fun x14 => .l (.arith .add .i64) [n y 0, i 1] fun x15 =>
        .cont 0 [x15, n y 1, n y 2, n y 3, n y 4, n y 5, x14]) (.ret (R y))).den0 P K [] := by
  refine den_rounds (fun j => [i j, a, p, nm, s, lb, .sl (((ks.take j).map (raiseT k)).map Ty.enc)]) ks.length (by simp) (fun j hj => ?_) ?_
  · refine d_l _ e_len fun _ => d_l _ rfl fun _ => d_dec (fun _ => ?_) fun h => absurd (show (j : Int) < ((ks.map Ty.enc).length : Int) by simp; omega) h
    refine d_l _ (e_idx (ty_at' hj) (Ty.okc_enc _)) fun _ => d_call (ih _ (List.getElem_mem hj)) (d_l _ (e_lst (fun x hx => by simp at hx; subst hx; exact Ty.okc_enc _)) fun _ => d_l _ (e_app (fun x hx => by simp at hx; subst hx; exact Ty.okc_enc _) (by simp; omega) (by simp; omega)) fun _ => d_l _ (e_inc (by omega)) fun _ => d_cont rfl ?_)
    rw [List.take_succ_eq_append_getElem hj, List.map_append, List.map_append]; rfl
  · refine d_l _ e_len fun _ => d_l _ rfl fun _ => d_dec (fun h => ?_) fun h => d_ret ?_
    · have h : (ks.length : Int) < ((ks.map Ty.enc).length : Int) := h
      simp at h
    · rw [List.take_length]; exact hR

theorem ok_ref02_Raise : ∀ (t : Ty) (k : Int), Ln t → Ok P F.ref02_Raise [t.enc, i k] (raiseT k t).enc := by
  intro t
  induction t using Ty.ind with
  | _ t ih =>
  intro k h
  cases h with
  | mk _ h1 h2 h =>
  obtain ⟨kd, p, nm, s, ls, ks⟩ := t
  have h1 : ls.length ≤ 549755813888 := h1
  have h2 : ks.length ≤ 549755813888 := h2
  have hks : ∀ x ∈ ks, Ok P F.ref02_Raise [x.enc, i k] (raiseT k x).enc := fun x hx => ih x hx k (h x hx)
  rw [raiseT_mk, Ty.enc_mk, Ty.enc_mk]
  refine k_ref02_Raise _ _ rfl (d_l _ (by rfl) fun _ => d_l (.sl []) rfl fun _ => d_l (.sl (ls.map .str)) (by
    show (Prim.app 1 false 16).ev [.sl [], .sl (ls.map .str)] = _
    rw [e_app (all_map okc_str ls) (by simp; omega) (by simp; omega)]; rfl) fun _ => d_l .nilI rfl fun _ => d_l _ rfl fun _ => d_dec (fun h4 => d_l _ rfl fun _ => d_dec (fun h7 => ?_) fun h7 => ?_) fun h4 => ?_)
  · rw [if_pos ⟨h4, h7⟩]
    exact d_l (i (ad p k)) rfl fun _ => d_l (i (ad p k)) rfl fun _ => raise_loop h2 hks (R := fun y => .agg [n y 1, n y 2, n y 3, n y 4, n y 5, n y 6]) rfl
  · rw [if_neg (fun hc => h7 hc.2)]
    exact raise_loop h2 hks (R := fun y => .agg [n y 1, n y 2, n y 3, n y 4, n y 5, n y 6]) rfl
  · rw [if_neg (fun hc => h4 hc.1)]
    exact raise_loop h2 hks (R := fun y => .agg [n y 1, n y 2, n y 3, n y 4, n y 5, n y 6]) rfl

def Ty.cellsOf (t : Ty) : List PV := [i t.kind, i t.prio, .str t.name, i t.shift, .sl (t.labels.map .str), .sl (t.kids.map Ty.enc)]
theorem Ty.enc_cells (t : Ty) : t.enc = .agg (Ty.cellsOf t) := by
  cases t; rw [Ty.enc_mk]; rfl

theorem ok_ref02_RaiseS (t : Ty) (k : Int) (h : Ln t) : OkS P F.ref02_Raise sg_ref02_Raise [t.enc, i k] (Ty.cellsOf (raiseT k t)) := by
  cases h with
  | mk _ h1 h2 h =>
  obtain ⟨kd, p, nm, s, ls, ks⟩ := t
  have h1 : ls.length ≤ 549755813888 := h1
  have h2 : ks.length ≤ 549755813888 := h2
  have hks : ∀ x ∈ ks, Ok P F.ref02_Raise [x.enc, i k] (raiseT k x).enc := fun x hx => ok_ref02_Raise x k (h x hx)
  rw [raiseT_mk, Ty.enc_mk]
  refine m_ref02_Raise _ _ (d_l _ (by rfl) fun _ => d_l (.sl []) rfl fun _ => d_l (.sl (ls.map .str)) (by
    show (Prim.app 1 false 16).ev [.sl [], .sl (ls.map .str)] = _
    rw [e_app (all_map okc_str ls) (by simp; omega) (by simp; omega)]; rfl) fun _ => d_l .nilI rfl fun _ => d_l _ rfl fun _ => d_dec (fun h4 => d_l _ rfl fun _ => d_dec (fun h7 => ?_) fun h7 => ?_) fun h4 => ?_)
  · rw [if_pos ⟨h4, h7⟩]
    exact d_l (i (ad p k)) rfl fun _ => d_l (i (ad p k)) rfl fun _ => raise_loop h2 hks (R := fun y => .tup [n y 1, n y 2, n y 3, n y 4, n y 5, n y 6]) rfl
  · rw [if_neg (fun hc => h7 hc.2)]
    exact raise_loop h2 hks (R := fun y => .tup [n y 1, n y 2, n y 3, n y 4, n y 5, n y 6]) rfl
  · rw [if_neg (fun hc => h4 hc.1)]
    exact raise_loop h2 hks (R := fun y => .tup [n y 1, n y 2, n y 3, n y 4, n y 5, n y 6]) rfl

theorem e_updT {n : Nat} {a : Bool} {l : List PV} {k : Nat} {x : PV} (h : k < l.length) (hx : x.okc n a = true) : (Prim.upd n a).ev [.sl l, i (k : Int), x] = some (.sl (l.set k x)) := by
  show (if (0 : Int) ≤ (k : Int) ∧ (k : Int) < (l.length : Int) ∧ x.okc n a then some (PV.sl (l.set (k : Int).toNat x)) else none) = _
  rw [if_pos ⟨by omega, by omega, hx⟩, Int.toNat_natCast]

/-- the round of put -/
theorem put_loop {K : PV → Prop} {ks : List Ty} {x : ByteArray} {b : Ty} {R0 : Int} (hk : ks.length ≤ 549755813888) (ih : ∀ t ∈ ks, Ok P F.ref02_put [t.enc, .str x, b.enc] (putT x b t).enc) {R : List PV → PV} (hR : K (R [i (ks.length : Int), .sl ((ks.map (putT x b)).map Ty.enc)])) :
    (T.loop [i 0, .sl ((ks.map (raiseT R0)).map Ty.enc)] fun y => .l .len [.sl (ks.map Ty.enc)] fun x8 => .l (.cmp .lss .i64) [n y 0, x8] fun x9 => .ite x9
      (.l (.idx 6 true) [.sl (ks.map Ty.enc), n y 0] fun x10 => .call F.ref02_put [x10, .str x, b.enc] fun x11 => .l (.idx 6 true) [n y 1, n y 0] fun _ => .l (.upd 6 true) [n y 1, n y 0, x11] fun x13 => .l (.arith .add .i64) [n y 0, i 1] fun x14 =>
        .cont 0 [x14, x13]) (.ret (R y))).den0 P K [] := by
  refine den_rounds (fun j => [i j, .sl (((ks.take j).map (putT x b) ++ (ks.drop j).map (raiseT R0)).map Ty.enc)]) ks.length (by simp) (fun j hj => ?_) ?_
  · have hlen : j < ((ks.take j).map (putT x b) ++ (ks.drop j).map (raiseT R0)).length := by simp; omega
    refine d_l _ e_len fun _ => d_l _ rfl fun _ => d_dec (fun _ => ?_) fun h => absurd (show (j : Int) < ((ks.map Ty.enc).length : Int) by simp; omega) h
    refine d_l _ (e_idx (ty_at' hj) (Ty.okc_enc _)) fun _ => d_call (ih _ (List.getElem_mem hj)) (d_l _ (e_idx (ty_at' hlen) (Ty.okc_enc _)) fun _ => d_l _ (e_updT (by rw [List.length_map]; exact hlen) (Ty.okc_enc _)) fun _ => d_l _ (e_inc (by omega)) fun _ => d_cont rfl ?_)
    rw [← List.map_set]
    have : ((ks.take j).map (putT x b) ++ (ks.drop j).map (raiseT R0)).set j (putT x b ks[j]) = (ks.take (j + 1)).map (putT x b) ++ (ks.drop (j + 1)).map (raiseT R0) := by
      have hl : ((ks.take j).map (putT x b)).length = j := by simp; omega
      rw [List.set_append_right _ _ (by omega), hl, Nat.sub_self, List.drop_eq_getElem_cons hj, List.map_cons, List.set_cons_zero, List.take_succ_eq_append_getElem hj, List.map_append, List.append_assoc]
      rfl
    rw [this]
  · refine d_l _ e_len fun _ => d_l _ rfl fun _ => d_dec (fun h => ?_) fun h => d_ret ?_
    · have h : (ks.length : Int) < ((ks.map Ty.enc).length : Int) := h
      simp at h
    · rw [List.take_length, List.drop_length, List.map_nil, List.append_nil]; exact hR

theorem ok_ref02_put (x : ByteArray) (b : Ty) (hb : Ln b) : ∀ t : Ty, Ln t → Ok P F.ref02_put [t.enc, .str x, b.enc] (putT x b t).enc := by
  intro t
  induction t using Ty.ind with
  | _ t ih =>
  intro h
  have hR := ok_ref02_RaiseS t 0 h
  have hB := fun s => ok_ref02_RaiseS b s hb
  cases h with
  | mk _ h1 h2 h =>
  obtain ⟨kd, p, nm, s, ls, ks⟩ := t
  have h2 : ks.length ≤ 549755813888 := h2
  have hks : ∀ y ∈ ks, Ok P F.ref02_put [y.enc, .str x, b.enc] (putT x b y).enc := fun y hy => ih y hy (h y hy)
  rw [raiseT_mk, Ty.enc_mk] at hR
  have hfin : ¬ (kd = 9 ∧ nm = x) → ¬ (kd = 8 ∧ nm = x) → (putT x b (.mk kd p nm s ls ks)).enc = .agg [i kd, i (if 4 ≤ kd ∧ kd ≤ 7 then ad p 0 else p), .str nm, i s, .sl (ls.map .str), .sl ((ks.map (putT x b)).map Ty.enc)] := by
    intro c9 c8
    unfold putT
    rw [if_neg c9, if_neg c8, putTs_eq, Ty.enc_mk]
  have rest : ¬ (kd = 9 ∧ nm = x) → ∀ K : PV → Prop, K (putT x b (.mk kd p nm s ls ks)).enc → (T.calls F.ref02_Raise sg_ref02_Raise [.agg [i kd, i p, .str nm, i s, .sl (ls.map .str), .sl (ks.map Ty.enc)], i 0] fun z3 =>
     .l (.cmp .eql .i64) [i kd, i 8] fun x4 =>
     .ite x4 (
      .l (.scmp .eql) [.str nm, .str x] fun x5 =>
      .ite x5 (
       .ret (.agg [(n z3 0), (n z3 1), (n z3 2), (n z3 3), (n z3 4), (n z3 5)])) (
       .loop [(i 0), (n z3 5)] fun y6 =>
       .l .len [.sl (ks.map Ty.enc)] fun x7 =>
       .l (.cmp .lss .i64) [(n y6 0), x7] fun x8 =>
       .ite x8 (
        .l (.idx 6 true) [.sl (ks.map Ty.enc), (n y6 0)] fun x9 =>
        .call F.ref02_put [x9, .str x, b.enc] fun x10 =>
        .l (.idx 6 true) [(n y6 1), (n y6 0)] fun _ =>
        .l (.upd 6 true) [(n y6 1), (n y6 0), x10] fun x12 =>
        .l (.arith .add .i64) [(n y6 0), (i 1)] fun x13 =>
        .cont 0 [x13, x12]) (
        .ret (.agg [(n z3 0), (n z3 1), (n z3 2), (n z3 3), (n z3 4), (n y6 1)])))) (
      .loop [(i 0), (n z3 5)] fun y5 =>
      .l .len [.sl (ks.map Ty.enc)] fun x6 =>
      .l (.cmp .lss .i64) [(n y5 0), x6] fun x7 =>
      .ite x7 (
       .l (.idx 6 true) [.sl (ks.map Ty.enc), (n y5 0)] fun x8 =>
       .call F.ref02_put [x8, .str x, b.enc] fun x9 =>
       .l (.idx 6 true) [(n y5 1), (n y5 0)] fun _ =>
       .l (.upd 6 true) [(n y5 1), (n y5 0), x9] fun x11 =>
       .l (.arith .add .i64) [(n y5 0), (i 1)] fun x12 =>
       .cont 0 [x12, x11]) (
       .ret (.agg [(n z3 0), (n z3 1), (n z3 2), (n z3 3), (n z3 4), (n y5 1)])))).den0 P K [] := by
    intro c9 K hK
    refine d_calls rfl hR (d_l _ rfl fun _ => d_dec (fun h8 => d_l _ rfl fun _ => d_dec (fun hn => d_ret ?_) fun hn => ?_) fun h8 => ?_)
    · have h8 : kd = 8 := h8
      have hn : nm = x := hn
      have : (putT x b (.mk kd p nm s ls ks)).enc = (raiseT 0 (.mk kd p nm s ls ks)).enc := by
        unfold putT
        rw [if_neg c9, if_pos ⟨h8, hn⟩]
      rw [this, raiseT_mk, Ty.enc_mk] at hK
      exact hK
    · have hn : ¬ nm = x := hn
      rw [hfin c9 (fun hc => hn hc.2)] at hK
      exact put_loop h2 hks hK
    · have h8 : ¬ kd = 8 := h8
      rw [hfin c9 (fun hc => h8 hc.1)] at hK
      exact put_loop h2 hks hK
  refine k_ref02_put _ _ rfl ?_
  rw [Ty.enc_mk]
  refine d_l _ (by rfl) fun _ => d_l _ (e_okc (Ty.okc_enc b)) fun _ => d_l _ rfl fun _ => d_dec (fun h9 => d_l _ rfl fun _ => d_dec (fun hn => ?_) fun hn => ?_) fun h9 => ?_
  · refine d_calls rfl (hB s) (d_ret ?_)
    have h9 : kd = 9 := h9
    have hn : nm = x := hn
    have : putT x b (.mk kd p nm s ls ks) = raiseT s b := by
      unfold putT; rw [if_pos ⟨h9, hn⟩]
    rw [this, Ty.enc_cells]; rfl
  · have hn : ¬ nm = x := hn
    exact rest (fun hc => hn hc.2) _ rfl
  · have h9 : ¬ kd = 9 := h9
    exact rest (fun hc => h9 hc.1) _ rfl

/-- what a type unfolds to -/
inductive Unf : Ty → Ty → Prop
  | done (t : Ty) (h : t.kind ≠ 8) : Unf t (raiseT 0 t)
  | step (t k u : Ty) (r : List Ty) (h : t.kind = 8) (hk : t.kids = k :: r) (hu : Unf (putT t.name t k) u) : Unf t u

theorem ok_ref02_Unfold {t u : Ty} (h : Unf t u) (hl : Ln t) : Ok P F.ref02_Unfold [t.enc] u.enc := by
  induction h with
  | done t h =>
    have hr := ok_ref02_Raise t 0 hl
    obtain ⟨kd, p, nm, s, ls, ks⟩ := t
    have h : kd ≠ 8 := h
    have ho := Ty.okc_enc (raiseT 0 (.mk kd p nm s ls ks))
    rw [Ty.enc_mk] at hr ⊢
    exact k_ref02_Unfold _ _ rfl (d_l _ (by rfl) fun _ => d_l _ rfl fun _ => d_dec (fun h8 => absurd h8 h) fun _ => d_call hr (d_l _ (e_okc ho) fun _ => d_ret rfl))
  | step t k u r h hk hu ih =>
    cases hl with
    | mk _ h1 h2 hkl =>
    have hlt : Ln t := .mk t h1 h2 hkl
    have hkm : k ∈ t.kids := by rw [hk]; exact List.mem_cons_self
    have hp := ok_ref02_put t.name t hlt k (hkl k hkm)
    have hu' := ih (hlt.put (hkl k hkm))
    obtain ⟨kd, p, nm, s, ls, ks⟩ := t
    have h : kd = 8 := h
    have hk : ks = k :: r := hk
    subst hk
    rw [Ty.enc_mk] at hp ⊢
    exact k_ref02_Unfold _ _ rfl (d_l (.agg [i kd, i p, .str nm, i s, .sl (ls.map .str), .sl ((k :: r).map Ty.enc)]) rfl fun _ => d_l _ rfl fun _ => d_dec (fun _ => d_l _ (e_idx (k := 0) (ty_at' (ks := k :: r) (by simp)) (Ty.okc_enc _)) fun _ => d_call hp (d_call hu' (d_l _ (e_okc (Ty.okc_enc _)) fun _ => d_ret rfl))) fun h8 => absurd h h8)

end Go.Proofs.YtopinhoalbgebaaGreatDoor.Tx

/- Contracts: the kind and the priority that a type begins with: of the unfolded type, and in the graph. -/
namespace Go.Proofs.YtopinhoalbgebaaGreatDoor.Tx
open Go.Lf Go.Lf.S Go.Lf.Duo
set_option maxRecDepth 100000

mutual
/-- what a type begins with -/
def hd : Ty → Int × Int
  | .mk k p _ _ _ ks => if k = 8 then hds ks (k, p) else (k, p)
def hds : List Ty → Int × Int → Int × Int
  | [], d => d
  | t :: _, _ => hd t
end
theorem hd_8 {k p : Int} {nm : ByteArray} {s : Int} {ls : List ByteArray} {ks : List Ty} (h : k = 8) {x : Ty} (hk : ks = [x]) : hd (.mk k p nm s ls ks) = hd x := by
  subst hk; simp [hd, hds, h]
theorem hd_o {k p : Int} {nm : ByteArray} {s : Int} {ls : List ByteArray} {ks : List Ty} (h : k ≠ 8) : hd (.mk k p nm s ls ks) = (k, p) := by
  simp [hd, h]

/-- it begins with something, behind n recursive types -/
inductive Hd : Nat → Ty → Prop
  | done (t : Ty) (h8 : t.kind ≠ 8) (h9 : t.kind ≠ 9) (p0 : 0 ≤ t.prio) (p1 : t.prio ≤ 1000000) : Hd 0 t
  | step (n : Nat) (t k : Ty) (h : t.kind = 8) (hk : t.kids = [k]) (hh : Hd n k) : Hd (n + 1) t

theorem ad_0 {p : Int} (h0 : 0 ≤ p) (h1 : p ≤ 1000000) : ad p 0 = p := by
  unfold ad; rw [Int.add_zero]; exact wrap_in (by omega) (by omega)

theorem Hd.raise : ∀ {n : Nat} {t : Ty}, Hd n t → Hd n (raiseT 0 t) ∧ hd (raiseT 0 t) = hd t := by
  intro n t h
  induction h with
  | done t h8 h9 p0 p1 =>
    obtain ⟨k, p, nm, s, ls, ks⟩ := t
    have h8 : k ≠ 8 := h8
    have p0 : 0 ≤ p := p0
    have p1 : p ≤ 1000000 := p1
    have e : (if 4 ≤ k ∧ k ≤ 7 then ad p 0 else p) = p := by rw [ad_0 p0 p1]; simp
    rw [raiseT_mk, e, hd_o h8, hd_o h8]
    exact ⟨.done _ h8 h9 p0 p1, rfl⟩
  | step n t k h hk hh ih =>
    obtain ⟨kd, p, nm, s, ls, ks⟩ := t
    have hq : kd = 8 := h
    have hk : ks = [k] := hk
    subst hk
    rw [raiseT_mk, List.map_cons, List.map_nil, hd_8 hq rfl, hd_8 hq rfl]
    exact ⟨.step n _ (raiseT 0 k) hq rfl ih.1, ih.2⟩

theorem Hd.put {x : ByteArray} {b : Ty} : ∀ {n : Nat} {t : Ty}, Hd n t → Hd n (putT x b t) ∧ hd (putT x b t) = hd t := by
  intro n t h
  induction h with
  | done t h8 h9 p0 p1 =>
    obtain ⟨k, p, nm, s, ls, ks⟩ := t
    have h8 : k ≠ 8 := h8
    have h9 : k ≠ 9 := h9
    have p0 : 0 ≤ p := p0
    have p1 : p ≤ 1000000 := p1
    have e : (if 4 ≤ k ∧ k ≤ 7 then ad p 0 else p) = p := by rw [ad_0 p0 p1]; simp
    unfold putT
    rw [if_neg (fun hc => h9 hc.1), if_neg (fun hc => h8 hc.1), e, hd_o h8, hd_o h8]
    exact ⟨.done _ h8 h9 p0 p1, rfl⟩
  | step n t k h hk hh ih =>
    have hr := (Hd.step n t k h hk hh).raise
    obtain ⟨kd, p, nm, s, ls, ks⟩ := t
    have hq : kd = 8 := h
    have hk : ks = [k] := hk
    subst hk
    unfold putT
    rw [if_neg (fun hc => by have := hc.1; omega)]
    split
    · exact hr
    · rw [putTs_eq, List.map_cons, List.map_nil, hd_8 hq rfl, hd_8 hq rfl]
      exact ⟨.step n _ (putT x b k) hq rfl ih.1, ih.2⟩

theorem Hd.unf : ∀ {n : Nat} {t : Ty}, Hd n t → ∃ u, Unf t u ∧ (u.kind, u.prio) = hd t := by
  intro n
  induction n with
  | zero =>
    intro t h
    have hr := h.raise.2
    cases h with
    | done _ h8 h9 p0 p1 =>
      refine ⟨_, .done t h8, ?_⟩
      rw [← hr]
      obtain ⟨k, p, nm, s, ls, ks⟩ := t
      have h8 : k ≠ 8 := h8
      rw [raiseT_mk, hd_o h8]
      rfl
  | succ n ih =>
    intro t h
    cases h with
    | step _ _ k h hk hh =>
      obtain ⟨u, h1, h2⟩ := ih (hh.put (x := t.name) (b := t)).1
      refine ⟨u, .step t k u [] h hk h1, ?_⟩
      rw [h2, hh.put.2]
      obtain ⟨kd, p, nm, s, ls, ks⟩ := t
      have h : kd = 8 := h
      have hk : ks = [k] := hk
      rw [hd_8 h hk]

theorem Wf.hd : ∀ (t : Ty) (ns : List ByteArray), Wf t ns 0 → ∃ n, Hd n t := by
  intro t
  induction t using Ty.ind with
  | _ t ih =>
  intro ns h
  cases h with
  | mk _ _ _ h1 h9 h8 hk =>
  unfold Wf1 at h1
  have h1 := h1.1
  by_cases hk8 : t.kind = 8
  · have hl := (h1.2.2.2.2.2.1 hk8).1
    obtain ⟨x, hks⟩ := List.length_eq_one_iff.1 hl
    have hm : x ∈ t.kids := by rw [hks]; exact List.mem_cons_self
    obtain ⟨n, hn⟩ := ih _ hm (ns ++ [t.name]) (h8 hk8 _ hm)
    exact ⟨n + 1, .step n t _ hk8 hks hn⟩
  · have hk9 : t.kind ≠ 9 := fun h => by
      obtain ⟨j, hj, _⟩ := h9 h
      omega
    exact ⟨0, .done t hk8 hk9 h1.2.1.1 h1.2.1.2.1⟩

theorem Wf.ln : ∀ (t : Ty) (ns : List ByteArray) (g : Nat), Wf t ns g → t.sz ≤ 549755813888 → Ln t := by
  intro t
  induction t using Ty.ind with
  | _ t ih =>
  intro ns g h hz
  cases h with
  | mk _ _ _ h1 h9 h8 hk =>
  unfold Wf1 at h1
  have h1 := h1.1
  have hkl : t.kids.length ≤ t.sz := by
    obtain ⟨k, p, nm, s, ls, ks⟩ := t
    have := szs_len ks
    simp only [Ty.sz, Ty.kids]
    omega
  have hll : t.labels.length = 0 ∨ t.labels.length = t.kids.length := by
    clear h8 h9 hk ih
    omega
  refine .mk t (by omega) (by omega) fun k hkm => ?_
  have hs := Ty.sz_kid hkm
  by_cases hk8 : t.kind = 8
  · exact ih k hkm _ _ (h8 hk8 k hkm) (by omega)
  · exact ih k hkm _ _ (hk hk8 k hkm) (by omega)

/-! in the graph -/
end Go.Proofs.YtopinhoalbgebaaGreatDoor.Tx

/- A reference of a graph stands for a closed type. -/
namespace Go.Proofs.YtopinhoalbgebaaGreatDoor.Tx
open Go.Lf Go.Lf.S Go.Lf.Duo
set_option maxRecDepth 100000

theorem wr_add (a b : Int) : IntKind.i64.wrap (IntKind.i64.wrap a + b) = IntKind.i64.wrap (a + b) := by
  simp only [IntKind.wrap, IntKind.signed, IntKind.bits]
  simp
  omega
theorem ad_ad (a b k : Int) : ad (ad a b) k = ad a (b + k) := by
  unfold ad; rw [wr_add]; congr 1; omega
theorem ad_wr (a b : Int) : ad a (IntKind.i64.wrap b) = ad a b := by
  unfold ad; rw [Int.add_comm, wr_add, Int.add_comm]
theorem raise_raise (a b : Int) : ∀ t : Ty, raiseT a (raiseT b t) = raiseT (b + a) t := by
  intro t
  induction t using Ty.ind with
  | _ t ih =>
  obtain ⟨k, p, nm, s, ls, ks⟩ := t
  rw [raiseT_mk, raiseT_mk, raiseT_mk]
  congr 1
  · split
    · rw [ad_ad]
    · rfl
  · rw [List.map_map]
    exact List.map_congr_left fun x hx => ih x hx

/-- no variable of this name is free in it -/
inductive NF (x : ByteArray) : Ty → Prop
  | mk (t : Ty) (h9 : t.kind = 9 → t.name ≠ x) (h : ¬ (t.kind = 8 ∧ t.name = x) → ∀ k ∈ t.kids, NF x k) : NF x t
def Clo (t : Ty) : Prop := ∀ x, NF x t
theorem NF.raise {x : ByteArray} {k : Int} : ∀ {t : Ty}, NF x t → NF x (raiseT k t) := by
  intro t
  induction t using Ty.ind with
  | _ t ih =>
  intro h
  cases h with
  | mk _ h9 h =>
  obtain ⟨kd, p, nm, s, ls, ks⟩ := t
  rw [raiseT_mk]
  refine .mk _ h9 fun hn y hy => ?_
  obtain ⟨z, hz, rfl⟩ := List.mem_map.1 hy
  exact ih z hz (h hn z hz)
theorem Clo.raise {k : Int} {t : Ty} (h : Clo t) : Clo (raiseT k t) := fun x => (h x).raise
/-- nothing to be put -/
theorem put_nf {x : ByteArray} {b : Ty} : ∀ {t : Ty}, NF x t → putT x b t = raiseT 0 t := by
  intro t
  induction t using Ty.ind with
  | _ t ih =>
  intro h
  cases h with
  | mk _ h9 h =>
  obtain ⟨kd, p, nm, s, ls, ks⟩ := t
  unfold putT
  split
  · rename_i hc; exact absurd hc.2 (h9 hc.1)
  · split
    · rfl
    · rename_i hn
      rw [raiseT_mk, putTs_eq]
      congr 1
      exact List.map_congr_left fun y hy => ih y hy (h hn y hy)
theorem raise_put {x : ByteArray} {b : Ty} (k : Int) : ∀ t : Ty, putT x (raiseT k b) (raiseT k t) = raiseT k (putT x b t) := by
  intro t
  induction t using Ty.ind with
  | _ t ih =>
  obtain ⟨kd, p, nm, s, ls, ks⟩ := t
  rw [raiseT_mk]
  unfold putT
  split
  · rw [raise_raise, raise_raise]; congr 1; omega
  · split
    · rw [raise_raise, raiseT_mk, raiseT_mk, List.map_map]
      congr 1
      · split
        · unfold ad; rw [wr_add]; congr 1; omega
        · rfl
      · refine List.map_congr_left fun y _ => ?_
        show raiseT 0 (raiseT k y) = _
        rw [raise_raise]; congr 1; omega
    · rw [putTs_eq, putTs_eq, raiseT_mk, List.map_map, List.map_map]
      congr 1
      · split
        · unfold ad; rw [wr_add, wr_add]; congr 1; omega
        · rfl
      · exact List.map_congr_left fun y hy => ih y hy
theorem Unf.raise (k : Int) : ∀ {t u : Ty}, Unf t u → Unf (raiseT k t) (raiseT k u) := by
  intro t u h
  induction h with
  | done t h =>
    have e : raiseT k (raiseT 0 t) = raiseT 0 (raiseT k t) := by rw [raise_raise, raise_raise]; congr 1; omega
    rw [e]
    refine .done _ ?_
    obtain ⟨kd, p, nm, s, ls, ks⟩ := t
    rw [raiseT_mk]; exact h
  | step t q u r h hk hu ih =>
    rw [← raise_put] at ih
    obtain ⟨kd, p, nm, s, ls, ks⟩ := t
    have hk : ks = q :: r := hk
    subst hk
    refine .step _ (raiseT k q) _ (r.map (raiseT k)) ?_ ?_ ih
    · rw [raiseT_mk]; exact h
    · rw [raiseT_mk]; rfl
theorem unf_fun : ∀ {t u v : Ty}, Unf t u → Unf t v → u = v := by
  intro t u v h
  induction h with
  | done t h =>
    intro h2
    cases h2 with
    | done => rfl
    | step _ _ _ _ h' => exact absurd h' h
  | step t q u r h hk hu ih =>
    intro h2
    cases h2 with
    | done _ h' => exact absurd h h'
    | step _ q' _ r' h' hk' hu' =>
      rw [hk] at hk'
      cases hk'
      exact ih hu'

/-! closed types put for variables -/

def Env := ByteArray → Option Ty
def Env.del (δ : Env) (x : ByteArray) : Env := fun y => if y = x then none else δ y
def Env.upd (δ : Env) (x : ByteArray) (t : Ty) : Env := fun y => if y = x then some t else δ y
mutual
def sub (δ : Env) : Ty → Ty
  | .mk kd p nm s ls ks => if kd = 9 then (match δ nm with
      | some t => raiseT s t
      | none => .mk kd p nm s ls ks) else if kd = 8 then .mk kd p nm s ls (subs (δ.del nm) ks) else .mk kd p nm s ls (subs δ ks)
def subs (δ : Env) : List Ty → List Ty
  | [] => []
  | t :: ts => sub δ t :: subs δ ts
end
theorem subs_eq (δ : Env) : ∀ l : List Ty, subs δ l = l.map (sub δ)
  | [] => by simp [subs]
  | t :: ts => by simp [subs, subs_eq δ ts]
theorem sub_9 {δ : Env} {kd p : Int} {nm : ByteArray} {s : Int} {ls : List ByteArray} {ks : List Ty} (h : kd = 9) {t : Ty} (ht : δ nm = some t) : sub δ (.mk kd p nm s ls ks) = raiseT s t := by
  simp only [sub, if_pos h, ht]
theorem sub_8 {δ : Env} {kd p : Int} {nm : ByteArray} {s : Int} {ls : List ByteArray} {ks : List Ty} (h : kd = 8) : sub δ (.mk kd p nm s ls ks) = .mk kd p nm s ls (ks.map (sub (δ.del nm))) := by
  simp only [sub, subs_eq]
  rw [if_neg (by omega), if_pos h]
theorem sub_o {δ : Env} {kd p : Int} {nm : ByteArray} {s : Int} {ls : List ByteArray} {ks : List Ty} (h : ¬ kd = 8) (h9 : ¬ kd = 9) : sub δ (.mk kd p nm s ls ks) = .mk kd p nm s ls (ks.map (sub δ)) := by
  simp only [sub, subs_eq]
  rw [if_neg h9, if_neg h]

theorem wf_pr {t : Ty} {ns : List ByteArray} {g : Nat} (h : Wf t ns g) : (4 ≤ t.kind ∧ t.kind ≤ 7 → ad t.prio 0 = t.prio) ∧ (t.kind = 9 → t.kids = []) := by
  cases h with
  | mk _ _ _ h1 _ _ _ =>
  unfold Wf1 at h1
  exact ⟨fun _ => ad_0 h1.1.2.1.1 h1.1.2.1.2.1, fun h => List.eq_nil_of_length_eq_zero (h1.1.2.2.2.2.2.2 h).1⟩
theorem wf_kid8 {k p : Int} {nm : ByteArray} {s : Int} {ls : List ByteArray} {ks : List Ty} {ns : List ByteArray} {g : Nat} (h : Wf (.mk k p nm s ls ks) ns g) (h8 : k = 8) : ∃ x, ks = [x] ∧ Wf x (ns ++ [nm]) g := by
  cases h with
  | mk _ _ _ h1 _ h8' _ =>
  unfold Wf1 at h1
  obtain ⟨x, hx⟩ := List.length_eq_one_iff.1 (h1.1.2.2.2.2.2.1 h8).1
  have hx : ks = [x] := hx
  exact ⟨x, hx, h8' h8 x (by show x ∈ ks; rw [hx]; simp)⟩
theorem wf_kids {k p : Int} {nm : ByteArray} {s : Int} {ls : List ByteArray} {ks : List Ty} {ns : List ByteArray} {g : Nat} (h : Wf (.mk k p nm s ls ks) ns g) (h8 : ¬ k = 8) : ∀ x ∈ ks, Wf x ns ns.length := by
  cases h with
  | mk _ _ _ h1 _ _ hk => exact hk h8
theorem wf_var {k p : Int} {nm : ByteArray} {s : Int} {ls : List ByteArray} {ks : List Ty} {ns : List ByteArray} {g : Nat} (h : Wf (.mk k p nm s ls ks) ns g) (h9 : k = 9) : ∃ j, j < g ∧ LastAt nm ns j := by
  cases h with
  | mk _ _ _ h1 h9' _ _ => exact h9' h9

theorem raise0_sub {δ : Env} : ∀ {t : Ty} {ns : List ByteArray} {g : Nat}, Wf t ns g → raiseT 0 (sub δ t) = sub δ t := by
  intro t
  induction t using Ty.ind generalizing δ with
  | _ t ih =>
  intro ns g h
  obtain ⟨h1, h2⟩ := wf_pr h
  obtain ⟨kd, p, nm, s, ls, ks⟩ := t
  by_cases h9 : kd = 9
  · cases hd : δ nm with
    | some t => rw [sub_9 h9 hd, raise_raise]; congr 1; omega
    | none =>
      simp only [sub, if_pos h9, hd, raiseT_mk]
      rw [if_neg (by omega), show ks = [] from h2 h9]; rfl
  · by_cases h8 : kd = 8
    · obtain ⟨x, rfl, hx⟩ := wf_kid8 h h8
      rw [sub_8 h8, raiseT_mk, if_neg (by omega)]
      simp only [List.map_cons, List.map_nil]
      rw [ih x (by simp [Ty.kids]) hx]
    · have hk := wf_kids h h8
      rw [sub_o h8 h9, raiseT_mk, List.map_map]
      congr 1
      · split
        · rename_i hc; exact h1 hc
        · rfl
      · exact List.map_congr_left fun x hx => ih x hx (hk x hx)

/-- what is put last is put first -/
theorem put_sub {x : ByteArray} {B : Ty} : ∀ {t : Ty} {ns : List ByteArray} {g : Nat} {δ : Env}, Wf t ns g → (∀ y T, δ y = some T → y ≠ x → NF x T) → putT x B (sub (δ.del x) t) = sub (δ.upd x B) t := by
  intro t
  induction t using Ty.ind with
  | _ t ih =>
  intro ns g δ h hδ
  obtain ⟨h1, h2⟩ := wf_pr h
  have hr0 := @raise0_sub (δ.del x) t ns g h
  obtain ⟨kd, p, nm, s, ls, ks⟩ := t
  by_cases h9 : kd = 9
  · by_cases hx : nm = x
    · have hd : (δ.del x) nm = none := by simp [Env.del, hx]
      have hu : (δ.upd x B) nm = some B := by simp [Env.upd, hx]
      rw [sub_9 h9 hu]
      simp only [sub, if_pos h9, hd]
      simp only [putT]
      rw [if_pos ⟨h9, hx⟩]
    · have hd : (δ.del x) nm = δ nm := by simp [Env.del, hx]
      have hu : (δ.upd x B) nm = δ nm := by simp [Env.upd, hx]
      cases hd2 : δ nm with
      | some T =>
        rw [sub_9 h9 (hd.trans hd2), sub_9 h9 (hu.trans hd2), put_nf (hδ _ _ hd2 hx).raise, raise_raise]; congr 1; omega
      | none =>
        have e : ks = [] := h2 h9
        subst e
        simp only [sub, if_pos h9, hd, hu, hd2]
        simp only [putT]
        rw [if_neg (fun hc => hx hc.2), if_neg (fun hc => by omega), if_neg (by omega), putTs_eq]; rfl
  · by_cases h8 : kd = 8
    · obtain ⟨q, rfl, hq⟩ := wf_kid8 h h8
      rw [sub_8 h8] at hr0 ⊢
      rw [sub_8 h8]
      simp only [List.map_cons, List.map_nil] at hr0 ⊢
      by_cases hx : nm = x
      · have e1 : (δ.del x).del nm = (δ.upd x B).del nm := by
          funext y; simp only [Env.del, Env.upd]
          by_cases hy : y = nm
          · rw [if_pos hy, if_pos hy]
          · rw [if_neg hy, if_neg hy, if_neg (by rw [← hx]; exact hy), if_neg (by rw [← hx]; exact hy)]
        rw [← e1]
        simp only [putT]
        rw [if_neg (by omega), if_pos ⟨h8, hx⟩]
        exact hr0
      · have e1 : (δ.del x).del nm = (δ.del nm).del x := by
          funext y; simp only [Env.del]
          by_cases hy : y = nm <;> by_cases hy2 : y = x <;> simp [hy, hy2]
        have e2 : (δ.upd x B).del nm = (δ.del nm).upd x B := by
          funext y; simp only [Env.del, Env.upd]
          by_cases hy : y = nm
          · rw [if_pos hy, if_neg (by rw [hy]; exact hx), if_pos hy]
          · rw [if_neg hy, if_neg hy]
        rw [e1, e2]
        simp only [putT]
        rw [if_neg (by omega), if_neg (fun hc => hx hc.2), if_neg (by omega), putTs_eq]
        simp only [List.map_cons, List.map_nil]
        rw [ih q (by simp [Ty.kids]) hq]
        intro y T hy hne
        unfold Env.del at hy
        split at hy
        · cases hy
        · exact hδ y T hy hne
    · have hk := wf_kids h h8
      rw [sub_o h8 h9, sub_o h8 h9]
      simp only [putT]
      rw [if_neg (fun hc => h9 hc.1), if_neg (fun hc => h8 hc.1), putTs_eq, List.map_map]
      congr 1
      · split
        · rename_i hc; exact h1 hc
        · rfl
      · exact List.map_congr_left fun y hy => ih y hy (hk y hy) hδ

theorem nf_sub {x : ByteArray} : ∀ {t : Ty} {ns : List ByteArray} {g : Nat} {δ : Env}, Wf t ns g → (∀ y T, δ y = some T → NF x T) → (x ∈ ns → δ x ≠ none) → NF x (sub δ t) := by
  intro t
  induction t using Ty.ind with
  | _ t ih =>
  intro ns g δ h hδ hx
  obtain ⟨kd, p, nm, s, ls, ks⟩ := t
  by_cases h9 : kd = 9
  · obtain ⟨j, _, hj, _⟩ := wf_var h h9
    cases hd : δ nm with
    | some T => rw [sub_9 h9 hd]; exact (hδ _ _ hd).raise
    | none =>
      simp only [sub, if_pos h9, hd]
      refine .mk _ (fun _ e => ?_) fun _ k hk => ?_
      · have e : nm = x := e
        subst e
        exact hx (List.mem_of_getElem? hj) hd
      · rw [(wf_pr h).2 h9] at hk; cases hk
  · by_cases h8 : kd = 8
    · obtain ⟨q, rfl, hq⟩ := wf_kid8 h h8
      rw [sub_8 h8]
      refine .mk _ (fun e => absurd e h9) fun hn k hk => ?_
      simp only [Ty.kids, List.map_cons, List.map_nil, List.mem_singleton] at hk
      subst hk
      have hne : ¬ nm = x := fun e => hn ⟨h8, e⟩
      refine ih q (by simp [Ty.kids]) hq (fun y T hy => ?_) fun hm => ?_
      · unfold Env.del at hy
        split at hy
        · cases hy
        · exact hδ y T hy
      · unfold Env.del
        rw [if_neg (Ne.symm hne)]
        rcases List.mem_append.1 hm with hm | hm
        · exact hx hm
        · exact absurd (List.mem_singleton.1 hm).symm hne
    · have hk := wf_kids h h8
      rw [sub_o h8 h9]
      refine .mk _ (fun e => absurd e h9) fun _ k hkm => ?_
      obtain ⟨q, hq, rfl⟩ := List.mem_map.1 hkm
      exact ih q hq (hk q hq) hδ hx
end Go.Proofs.YtopinhoalbgebaaGreatDoor.Tx

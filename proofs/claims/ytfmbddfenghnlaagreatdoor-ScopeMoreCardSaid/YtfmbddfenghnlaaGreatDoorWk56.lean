/- Contracts: depth, sameness of types; lists compared and searched by a function. -/
import Derived.Test.YtfmbddfenghnlaaGreatDoorWk55
set_option linter.all false
namespace Go.Proofs.YtfmbddfenghnlaaGreatDoor.Tx
open Go.Lf Go.Lf.S Go.Lf.Duo
set_option maxRecDepth 100000

/-! a list searched by a function -/

def idxFT (m : Nat) (xs : List PV) : T PV :=
  .l .len [(n xs 0)] fun x0 =>
  .loop [(i 0)] fun y1 =>
  .l (.cmp .lss .i64) [(n y1 0), x0] fun x2 =>
  .ite x2 (
   .l (.idx m true) [(n xs 0), (n y1 0)] fun x3 =>
   .callv (n xs 1) [x3] fun x4 =>
   .ite x4 (
    .ret (n y1 0)) (
    .l (.arith .add .i64) [(n y1 0), (i 1)] fun x5 =>
    .cont 0 [x5])) (
   .ret (i (-1)))
def conFT (fi : Nat) (xs : List PV) : T PV :=
  .call fi [(n xs 0), (n xs 1)] fun x0 =>
  .l (.cmp .geq .i64) [x0, (i 0)] fun x1 =>
  .ret x1

theorem idxF_ok {α : Type} {enc : α → PV} {m fi : Nat} (hk : TxOk P fi 2 (idxFT m)) (henc : ∀ a, (enc a).okc m true = true) {g : Nat} {caps : List PV} {l : List α} (hl : l.length ≤ 9223372036854775807) {p : α → Bool}
    (hp : ∀ a ∈ l, Ok P g (enc a :: caps) (.bool (p a))) : ∃ r : Int, Ok P fi [.sl (l.map enc), .fn g [] caps] (i r) ∧ (0 ≤ r ↔ ∃ a ∈ l, p a = true) ∧ (0 ≤ r → ∃ h : r.toNat < l.length, p l[r.toNat] = true ∧ ∀ j (hj : j < l.length), j < r.toNat → p l[j] = false) ∧ (¬ 0 ≤ r → r = -1) := by
  have := tx_ex (K := fun x => ∃ r : Int, x = i r ∧ (0 ≤ r ↔ ∃ a ∈ l, p a = true) ∧ (0 ≤ r → ∃ h : r.toNat < l.length, p l[r.toNat] = true ∧ ∀ j (hj : j < l.length), j < r.toNat → p l[j] = false) ∧ (¬ 0 ≤ r → r = -1)) hk (xs := [.sl (l.map enc), .fn g [] caps]) rfl (by simp [idxFT, T.dt]) (by
    refine d_l (i (l.length : Int)) (by rw [← List.length_map (f := enc)]; exact e_len) fun _ => ?_
    refine den_loop (fun m ys => ∃ j : Nat, j + m = l.length ∧ (∀ k (hk : k < l.length), k < j → p l[k] = false) ∧ ys = [i j]) l.length ⟨0, by omega, fun k _ h => by omega, rfl⟩ ?_
    rintro m _ ⟨j, hj, hno, rfl⟩
    refine d_l _ rfl fun _ => d_dec (fun h => ?_) fun h => d_ret ⟨-1, rfl, ⟨fun e => by omega, fun ⟨a, ha, hpa⟩ => ?_⟩, (fun e => by omega), fun _ => rfl⟩
    · have hlt : j < l.length := by have h : (j : Int) < (l.length : Int) := h; omega
      have hat : (l.map enc)[j]? = some (enc l[j]) := by simp [hlt]
      refine d_l _ (e_idx hat (henc _)) fun _ => d_callv (fs := []) (hp _ (List.getElem_mem hlt)) (d_ite (fun hb => d_ret ⟨j, rfl, ⟨fun _ => ⟨_, List.getElem_mem hlt, hb⟩, fun _ => by omega⟩, fun _ => ⟨by simpa using hlt, by simpa using hb, fun k hk hk2 => hno k hk (by simpa using hk2)⟩, fun h => absurd (by omega) h⟩) fun hb => d_l _ (e_inc (by omega)) fun _ => d_cont rfl ⟨m - 1, by omega, j + 1, by omega, fun k hk h1 => ?_, rfl⟩)
      by_cases e : k = j
      · subst e; exact hb
      · exact hno k hk (by omega)
    · have h : ¬ (j : Int) < (l.length : Int) := h
      obtain ⟨k, hk, rfl⟩ := List.getElem_of_mem ha
      rw [hno k hk (by omega)] at hpa; cases hpa)
  obtain ⟨_, ⟨r, rfl, h1⟩, h⟩ := this
  exact ⟨r, h, h1⟩

theorem conF_ok {α : Type} {enc : α → PV} {m fi fc : Nat} (hk : TxOk P fi 2 (idxFT m)) (hc : TxOk P fc 2 (conFT fi)) (henc : ∀ a, (enc a).okc m true = true) {g : Nat} {caps : List PV} {l : List α} (hl : l.length ≤ 9223372036854775807) {p : α → Bool}
    (hp : ∀ a ∈ l, Ok P g (enc a :: caps) (.bool (p a))) : Ok P fc [.sl (l.map enc), .fn g [] caps] (.bool (l.any p)) := by
  obtain ⟨r, h1, h2, _⟩ := idxF_ok hk henc hl hp
  refine hc _ _ rfl (d_call h1 (d_l _ rfl fun _ => d_ret (congrArg PV.bool ?_)))
  rw [Bool.eq_iff_iff, List.any_eq_true, ← h2, decide_eq_true_iff]

/-! lists compared by a function -/

def eqFT (m : Nat) (xs : List PV) : T PV :=
  .l .len [(n xs 0)] fun x0 =>
  .l .len [(n xs 1)] fun x1 =>
  .l (.cmp .neq .i64) [x0, x1] fun x2 =>
  .ite x2 (
   .ret (.bool false)) (
   .l .len [(n xs 0)] fun x3 =>
   .loop [(i 0)] fun y4 =>
   .l (.cmp .lss .i64) [(n y4 0), x3] fun x5 =>
   .ite x5 (
    .l (.idx m true) [(n xs 0), (n y4 0)] fun x6 =>
    .l (.okc m true) [x6] fun x7 =>
    .l (.idx m true) [(n xs 1), (n y4 0)] fun x8 =>
    .l (.okc m true) [x8] fun x9 =>
    .callv (n xs 2) [x7, x9] fun x10 =>
    .l .bnot [x10] fun x11 =>
    .ite x11 (
     .ret (.bool false)) (
     .l (.arith .add .i64) [(n y4 0), (i 1)] fun x12 =>
     .cont 0 [x12])) (
    .ret (.bool true)))

theorem len_eq {α : Type} {f : α → PV} (l : List α) : Prim.len.ev [.sl (l.map f)] = some (i (l.length : Int)) := by
  rw [← List.length_map (f := f)]; exact e_len
theorem mp_at {α : Type} {f : α → PV} {l : List α} {j : Nat} (h : j < l.length) : (l.map f)[j]? = some (f l[j]) := by simp [h]
theorem list_eq_of {α : Type} {l r : List α} (hl : l.length = r.length) (h : ∀ j (h1 : j < l.length) (h2 : j < r.length), l[j] = r[j]) : l = r := List.ext_getElem hl fun j h1 h2 => h j h1 h2

theorem eqF_ok {α : Type} {enc : α → PV} {m fe : Nat} (hk : TxOk P fe 3 (eqFT m)) (henc : ∀ a, (enc a).okc m true = true) {g : Nat} {l r : List α} (hl : l.length ≤ 9223372036854775807)
    (hp : ∀ a ∈ l, ∀ b ∈ r, Ok P g [enc a, enc b] (.bool (pb (a = b)))) : Ok P fe [.sl (l.map enc), .sl (r.map enc), .fn g [] []] (.bool (pb (l = r))) := by
  refine tx_pb hk rfl (by simp [eqFT, T.dt]) ?_
  refine d_l _ (len_eq l) fun _ => d_l _ (len_eq r) fun _ => d_l _ rfl fun _ => d_ndec (fun h => d_ret (isB_f fun e => h (by rw [e]))) fun h => d_l _ (len_eq l) fun _ => ?_
  have h : (l.length : Int) = (r.length : Int) := h
  refine den_loop (fun m ys => ∃ j : Nat, j + m = l.length ∧ (∀ k (hk : k < l.length) (hk' : k < r.length), k < j → l[k] = r[k]) ∧ ys = [i j]) l.length ⟨0, by omega, fun k _ _ h => by omega, rfl⟩ ?_
  rintro m _ ⟨j, hj, hno, rfl⟩
  refine d_l _ rfl fun _ => d_dec (fun h1 => ?_) fun h1 => d_ret (isB_t (list_eq_of (by omega) fun k hk hk' => hno k hk hk' (by have h1 : ¬ (j : Int) < (l.length : Int) := h1; omega)))
  have hlt : j < l.length := by have h1 : (j : Int) < (l.length : Int) := h1; omega
  have hlt' : j < r.length := by omega
  refine d_l _ (e_idx (mp_at hlt) (henc _)) fun _ => d_l _ (e_okc (henc _)) fun _ => d_l _ (e_idx (mp_at hlt') (henc _)) fun _ => d_l _ (e_okc (henc _)) fun _ => d_callv (fs := []) (cs := []) (hp _ (List.getElem_mem hlt) _ (List.getElem_mem hlt')) (d_l _ rfl fun _ => d_ite (fun hb => d_ret (isB_f fun e => ?_)) fun hb => d_l _ (e_inc (by omega)) fun _ => d_cont rfl ⟨m - 1, by omega, j + 1, by omega, fun k hk hk' h1 => ?_, rfl⟩)
  · have hb : pb (l[j] = r[j]) = false := by simpa using hb
    subst e
    exact pb_false.1 hb rfl
  · have hb : pb (l[j] = r[j]) = true := by simpa using hb
    by_cases e : k = j
    · subst e; exact pb_iff.1 hb
    · exact hno k hk hk' (by omega)

/-- lists of texts alike -/
def eqST (xs : List PV) : T PV :=
  .l .len [(n xs 0)] fun x0 =>
  .l .len [(n xs 1)] fun x1 =>
  .l (.cmp .neq .i64) [x0, x1] fun x2 =>
  .ite x2 (
   .ret (.bool false)) (
   .l .len [(n xs 0)] fun x3 =>
   .loop [(i 0)] fun y4 =>
   .l (.cmp .lss .i64) [(n y4 0), x3] fun x5 =>
   .ite x5 (
    .l (.idx 1 false) [(n xs 0), (n y4 0)] fun x6 =>
    .l (.idx 1 false) [(n xs 1), (n y4 0)] fun x7 =>
    .l (.scmp .neq) [x6, x7] fun x8 =>
    .ite x8 (
     .ret (.bool false)) (
     .l (.arith .add .i64) [(n y4 0), (i 1)] fun x9 =>
     .cont 0 [x9])) (
    .ret (.bool true)))
theorem eqS_ok {fe : Nat} (hk : TxOk P fe 2 eqST) {l r : List ByteArray} (hl : l.length ≤ 9223372036854775807) : Ok P fe [.sl (l.map .str), .sl (r.map .str)] (.bool (pb (l = r))) := by
  refine tx_pb hk rfl (by simp [eqST, T.dt]) ?_
  refine d_l _ (len_eq l) fun _ => d_l _ (len_eq r) fun _ => d_l _ rfl fun _ => d_ndec (fun h => d_ret (isB_f fun e => h (by rw [e]))) fun h => d_l _ (len_eq l) fun _ => ?_
  have h : (l.length : Int) = (r.length : Int) := h
  refine den_loop (fun m ys => ∃ j : Nat, j + m = l.length ∧ (∀ k (hk : k < l.length) (hk' : k < r.length), k < j → l[k] = r[k]) ∧ ys = [i j]) l.length ⟨0, by omega, fun k _ _ h => by omega, rfl⟩ ?_
  rintro m _ ⟨j, hj, hno, rfl⟩
  refine d_l _ rfl fun _ => d_dec (fun h1 => ?_) fun h1 => d_ret (isB_t (list_eq_of (by omega) fun k hk hk' => hno k hk hk' (by have h1 : ¬ (j : Int) < (l.length : Int) := h1; omega)))
  have hlt : j < l.length := by have h1 : (j : Int) < (l.length : Int) := h1; omega
  have hlt' : j < r.length := by omega
  refine d_l _ (e_idx (mp_at hlt) rfl) fun _ => d_l _ (e_idx (mp_at hlt') rfl) fun _ => d_l _ rfl fun _ => d_ndec (fun hb => d_ret (isB_f fun e => ?_)) fun hb => d_l _ (e_inc (by omega)) fun _ => d_cont rfl ⟨m - 1, by omega, j + 1, by omega, fun k hk hk' h1 => ?_, rfl⟩
  · subst e; exact hb rfl
  · by_cases e : k = j
    · subst e; exact hb
    · exact hno k hk hk' (by omega)
theorem okx_ref02_texts {l r : List ByteArray} (hl : l.length ≤ 9223372036854775807) : Ok P F.ref02_texts [.sl (l.map .str), .sl (r.map .str)] (.bool (pb (l = r))) := by
  refine tx_pb k_ref02_texts rfl (by simp [t_ref02_texts, T.dt]) ?_
  refine d_l _ (len_eq l) fun _ => d_l _ (len_eq r) fun _ => d_l _ rfl fun _ => d_ndec (fun h => d_ret (isB_f fun e => h (by rw [e]))) fun h => ?_
  have h : (l.length : Int) = (r.length : Int) := h
  refine den_loop (fun m ys => ∃ j : Nat, j + m = l.length ∧ (∀ k (hk : k < l.length) (hk' : k < r.length), k < j → l[k] = r[k]) ∧ ys = [i j]) l.length ⟨0, by omega, fun k _ _ h => by omega, rfl⟩ ?_
  rintro m _ ⟨j, hj, hno, rfl⟩
  refine d_l _ (len_eq l) fun _ => d_l _ rfl fun _ => d_dec (fun h1 => ?_) fun h1 => d_ret (isB_t (list_eq_of (by omega) fun k hk hk' => hno k hk hk' (by have h1 : ¬ (j : Int) < (l.length : Int) := h1; omega)))
  have hlt : j < l.length := by have h1 : (j : Int) < (l.length : Int) := h1; omega
  have hlt' : j < r.length := by omega
  refine d_l _ (e_idx (mp_at hlt) rfl) fun _ => d_l _ (e_idx (mp_at hlt') rfl) fun _ => d_l _ rfl fun _ => d_ndec (fun hb => d_ret (isB_f fun e => ?_)) fun hb => d_l _ (e_inc (by omega)) fun _ => d_cont rfl ⟨m - 1, by omega, j + 1, by omega, fun k hk hk' h1 => ?_, rfl⟩
  · subst e; exact hb rfl
  · by_cases e : k = j
    · subst e; exact hb
    · exact hno k hk hk' (by omega)

/-! types -/

theorem kEqT : TxOk P F.slices_EqualFunc_api_Type_api_Type_api_Type_api_Type 3 (eqFT 6) := k_slices_EqualFunc_api_Type_api_Type_api_Type_api_Type
theorem kEqS : TxOk P F.slices_Equal_string_string 2 eqST := k_slices_Equal_string_string
theorem okx_typetree_Same : ∀ (a b : Ty), Lim a → Ok P F.typetree_Same [a.enc, b.enc] (.bool (pb (a = b))) := by
  intro a
  induction a using Ty.ind with
  | _ a ih =>
  intro b hlim
  cases hlim with
  | mk _ hn hl hll hkl hkk =>
  obtain ⟨k, p, nm, s, ls, ks⟩ := a
  obtain ⟨k', p', nm', s', ls', ks'⟩ := b
  have h1 : Ok P F.slices_EqualFunc_api_Type_api_Type_api_Type_api_Type [.sl (ks.map Ty.enc), .sl (ks'.map Ty.enc), .fn F.typetree_Same [] []] (.bool (pb (ks = ks'))) := eqF_ok kEqT Ty.okc_enc hkl fun x hx y hy => ih x hx y (hkk x hx)
  have h2 : Ok P F.slices_Equal_string_string [.sl (ls.map .str), .sl (ls'.map .str)] (.bool (pb (ls = ls'))) := eqS_ok kEqS hll
  rw [Ty.enc_mk, Ty.enc_mk]
  refine tx_pb k_typetree_Same rfl (by simp [t_typetree_Same, T.dt]) ?_
  refine d_l (.agg [.int .i64 k, .int .i64 p, .str nm, .int .i64 s, .sl (ls.map .str), .sl (ks.map Ty.enc)]) rfl fun _ => d_l (.agg [.int .i64 k', .int .i64 p', .str nm', .int .i64 s', .sl (ls'.map .str), .sl (ks'.map Ty.enc)]) rfl fun _ => ?_
  refine d_l _ rfl fun _ => d_dec (fun e1 => ?_) fun e1 => d_ret (isB_f fun e => e1 (by cases e; rfl))
  refine d_l _ rfl fun _ => d_dec (fun e2 => ?_) fun e2 => d_ret (isB_f fun e => e2 (by cases e; rfl))
  refine d_l _ rfl fun _ => d_dec (fun e3 => ?_) fun e3 => d_ret (isB_f fun e => e3 (by cases e; rfl))
  refine d_l _ rfl fun _ => d_dec (fun e4 => ?_) fun e4 => d_ret (isB_f fun e => e4 (by cases e; rfl))
  refine d_call h2 (d_ite (fun e5 => d_call h1 (d_ret (isB_p ?_))) fun e5 => d_ret (isB_f fun e => pb_false.1 e5 (by cases e; rfl)))
  have e1 : k = k' := e1
  have e2 : p = p' := e2
  have e3 : nm = nm' := e3
  have e4 : s = s' := e4
  have e5 := pb_iff.1 e5
  subst e1 e2 e3 e4 e5
  exact ⟨fun e => by rw [e], fun e => by cases e; rfl⟩

theorem okx_ref02_Same : ∀ (a b : Ty), Lim a → Ok P F.ref02_Same [a.enc, b.enc] (.bool (pb (a = b))) := by
  intro a
  induction a using Ty.ind with
  | _ a ih =>
  intro b hlim
  cases hlim with
  | mk _ hn hl hll hkl hkk =>
  obtain ⟨k, p, nm, s, ls, ks⟩ := a
  obtain ⟨k', p', nm', s', ls', ks'⟩ := b
  have hkl : ks.length ≤ 9223372036854775807 := hkl
  have h2 := okx_ref02_texts (l := ls) (r := ls') hll
  rw [Ty.enc_mk, Ty.enc_mk]
  refine tx_pb k_ref02_Same rfl (by simp [t_ref02_Same, T.dt]) ?_
  refine d_l (.agg [.int .i64 k, .int .i64 p, .str nm, .int .i64 s, .sl (ls.map .str), .sl (ks.map Ty.enc)]) rfl fun _ => d_l (.agg [.int .i64 k', .int .i64 p', .str nm', .int .i64 s', .sl (ls'.map .str), .sl (ks'.map Ty.enc)]) rfl fun _ => ?_
  refine d_l _ rfl fun _ => d_ndec (fun e1 => d_ret (isB_f fun e => e1 (by cases e; rfl))) fun e1 => ?_
  refine d_l _ rfl fun _ => d_ndec (fun e2 => d_ret (isB_f fun e => e2 (by cases e; rfl))) fun e2 => ?_
  refine d_l _ rfl fun _ => d_ndec (fun e3 => d_ret (isB_f fun e => e3 (by cases e; rfl))) fun e3 => ?_
  refine d_l _ rfl fun _ => d_ndec (fun e4 => d_ret (isB_f fun e => e4 (by cases e; rfl))) fun e4 => ?_
  refine d_call h2 (d_l _ rfl fun _ => d_ite (fun e5 => d_ret (isB_f fun e => pb_false.1 (by simpa using e5) (by cases e; rfl))) fun e5 => ?_)
  have e1 : k = k' := e1
  have e2 : p = p' := e2
  have e3 : nm = nm' := e3
  have e4 : s = s' := e4
  have e5 : ls = ls' := pb_iff.1 (by simpa using e5)
  subst e1 e2 e3 e4 e5
  refine d_l _ (len_eq ks) fun _ => d_l _ (len_eq ks') fun _ => d_l _ rfl fun _ => d_ndec (fun h => d_ret (isB_f fun e => h (by cases e; rfl))) fun h => ?_
  have h : (ks.length : Int) = (ks'.length : Int) := h
  refine den_loop (fun m ys => ∃ j : Nat, j + m = ks.length ∧ (∀ k (hk : k < ks.length) (hk' : k < ks'.length), k < j → ks[k] = ks'[k]) ∧ ys = [i j]) ks.length ⟨0, by omega, fun k _ _ h => by omega, rfl⟩ ?_
  rintro m _ ⟨j, hj, hno, rfl⟩
  refine d_l _ (len_eq ks) fun _ => d_l _ rfl fun _ => d_dec (fun h1 => ?_) fun h1 => d_ret (isB_t (by rw [list_eq_of (l := ks) (r := ks') (by omega) fun k hk hk' => hno k hk hk' (by have h1 : ¬ (j : Int) < (ks.length : Int) := h1; omega)]))
  have hlt : j < ks.length := by have h1 : (j : Int) < (ks.length : Int) := h1; omega
  have hlt' : j < ks'.length := by omega
  refine d_l _ (e_idx (mp_at hlt) (Ty.okc_enc _)) fun _ => d_l _ (e_idx (mp_at hlt') (Ty.okc_enc _)) fun _ => d_call (ih _ (List.getElem_mem hlt) _ (hkk _ (List.getElem_mem hlt))) (d_l _ rfl fun _ => d_ite (fun hb => d_ret (isB_f fun e => ?_)) fun hb => d_l _ (e_inc (by omega)) fun _ => d_cont rfl ⟨m - 1, by omega, j + 1, by omega, fun k hk hk' h1 => ?_, rfl⟩)
  · have hb : pb (ks[j] = ks'[j]) = false := by simpa using hb
    cases e
    exact pb_false.1 hb rfl
  · have hb : pb (ks[j] = ks'[j]) = true := by simpa using hb
    by_cases e : k = j
    · subst e; exact pb_iff.1 hb
    · exact hno k hk hk' (by omega)

theorem kIdxT : TxOk P F.slices_IndexFunc_api_Type_api_Type 2 (idxFT 6) := k_slices_IndexFunc_api_Type_api_Type
theorem kConT : TxOk P F.slices_ContainsFunc_api_Type_api_Type 2 (conFT F.slices_IndexFunc_api_Type_api_Type) := k_slices_ContainsFunc_api_Type_api_Type
theorem deps_le_iff (l : List Ty) (m : Nat) : deps l ≤ m ↔ ∀ t ∈ l, dep t ≤ m := by
  induction l with
  | nil => simp [deps]
  | cons x l ih =>
    simp only [deps, List.mem_cons, forall_eq_or_imp, ← ih]
    omega
theorem ok_typetree_shallow : ∀ (t : Ty) (m : Nat), Lim t → m ≤ 1099511627776 → Ok P F.typetree_shallow [t.enc, i (m : Int)] (.bool (decide (dep t ≤ m))) := by
  intro t
  induction t using Ty.ind with
  | _ t ih =>
  intro m hlim hm
  cases hlim with
  | mk _ hn hl hll hkl hkk =>
  obtain ⟨k, p, nm, s, ls, ks⟩ := t
  rw [Ty.enc_mk]
  refine k_typetree_shallow _ _ rfl (d_l (.agg [.int .i64 k, .int .i64 p, .str nm, .int .i64 s, .sl (ls.map .str), .sl (ks.map Ty.enc)]) rfl fun _ => d_l (i (m : Int)) rfl fun _ => d_l _ rfl fun _ => d_dec (fun h => ?_) fun h => d_ret ?_)
  · have h : 0 < (m : Int) := h
    have hs : ∀ x ∈ ks, Ok P F.typetree_shallow_1 (x.enc :: [.box (i (m : Int))]) (.bool (!decide (dep x ≤ m - 1))) := fun x hx => by
      refine k_typetree_shallow_1 _ _ rfl (d_l _ (e_okc (Ty.okc_enc x)) fun _ => d_l (i (m : Int)) rfl fun _ => d_l _ (e_sub (by omega) (by omega)) fun _ => d_call (r := .bool (decide (dep x ≤ m - 1))) ?_ (d_l _ rfl fun _ => d_ret rfl))
      have := ih x hx (m - 1) (hkk x hx) (by omega)
      rwa [show ((m - 1 : Nat) : Int) = (m : Int) - 1 by omega] at this
    refine d_call (conF_ok kIdxT kConT Ty.okc_enc hkl hs) (d_l _ rfl fun _ => d_ret (congrArg PV.bool ?_))
    have e : dep (Ty.mk k p nm s ls ks) = deps ks + 1 := by simp only [dep]
    have h1 := deps_le_iff ks (m - 1)
    rw [e, Bool.eq_iff_iff, decide_eq_true_iff, Bool.not_eq_true', List.any_eq_false]
    constructor
    · intro h2
      have := h1.2 fun t ht => by have := h2 t ht; simpa using this
      omega
    · intro h2 t ht
      have := h1.1 (by omega) t ht
      simpa using this
  · have h : ¬ 0 < (m : Int) := h
    rw [decide_eq_false (by simp only [dep]; omega)]
end Go.Proofs.YtfmbddfenghnlaaGreatDoor.Tx

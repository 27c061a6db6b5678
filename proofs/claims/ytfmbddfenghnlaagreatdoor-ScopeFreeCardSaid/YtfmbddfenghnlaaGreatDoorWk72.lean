/- The free names (3): the reference; the law ProctreeFree. -/
import Derived.Test.YtfmbddfenghnlaaGreatDoorWk71
import Derived.Test.YtfmbddfenghnlaaGreatDoorDAwake03
set_option linter.all false
namespace Go.Proofs.YtfmbddfenghnlaaGreatDoor.Tx
open Go.Lf Go.Lf.S Go.Lf.Duo
set_option maxRecDepth 100000

theorem okx_ref03_In (s : ByteArray) (ls : List ByteArray) (hl : ls.length ≤ 9223372036854775807) : Ok P F.ref03_In [.str s, .sl (ls.map .str)] (.bool (memB s ls)) := by
  rw [← memB_pb]
  refine tx_pb k_ref03_In rfl (by simp [t_ref03_In, T.dt]) ?_
  refine den_loop (fun m ys => ∃ j : Nat, j + m = ls.length ∧ (∀ a ∈ ls.take j, a ≠ s) ∧ ys = [i j]) ls.length ⟨0, by omega, by simp, rfl⟩ ?_
  rintro m _ ⟨j, hj, hno, rfl⟩
  refine d_l _ (len_eq ls) fun _ => d_l _ rfl fun _ => d_dec (p := (j : Int) < (ls.length : Int)) (fun h1 => ?_) fun h1 => d_ret (isB_f fun hm => ?_)
  · have hlt : j < ls.length := by omega
    refine d_l _ (e_idx (mp_at hlt) rfl) fun _ => d_l _ rfl fun _ => d_dec (p := ls[j] = s) (fun h => d_ret (isB_t (h ▸ List.getElem_mem hlt))) fun h => d_l _ (e_inc (by omega)) fun _ => d_cont rfl ⟨m - 1, by omega, j + 1, by omega, fun a ha => ?_, rfl⟩
    rw [List.take_succ, List.getElem?_eq_getElem hlt] at ha
    rcases List.mem_append.1 ha with ha | ha
    · exact hno a ha
    · have : a = ls[j] := by simpa using ha
      rw [this]; exact h
  · rw [List.take_of_length_le (by omega)] at hno
    exact hno s hm rfl

def ukT (x0 b fr : PV) : T PV :=
  .loop [(i 0), fr] fun y =>
  .l .len [(c 11 x0)] fun x18 =>
  .l (.cmp .lss .i64) [(n y 0), x18] fun x19 =>
  .ite x19 (
   .l (.idx 12 true) [(c 11 x0), (n y 0)] fun x20 =>
   .call F.ref03_uses [x20, b] fun x21 =>
   .l (.app 1 false 16) [(n y 1), x21] fun x22 =>
   .l (.arith .add .i64) [(n y 0), (i 1)] fun x23 =>
   .cont 2 [x23, x22]) (
   .ret (n y 1))
def ubT (x0 xb fr : PV) : T PV :=
  .l (.cmp .eql .i64) [(c 0 x0), (i 3)] fun x8 =>
  .ite x8 (
   .l (.lst 1 false) [] fun x9 =>
   .l (.app 1 false 16) [x9, xb] fun x10 =>
   .l (.lst 1 false) [(c 2 x0)] fun x11 =>
   .l (.app 1 false 16) [x10, x11] fun x12 =>
   .l (.cmp .eql .i64) [(c 0 x0), (i 6)] fun x13 =>
   .ite x13 (
    .l (.lst 1 false) [] fun x14 =>
    .l (.app 1 false 16) [x14, x12] fun x15 =>
    .l (.lst 1 false) [(c 1 x0), (c 2 x0)] fun x16 =>
    .l (.app 1 false 16) [x15, x16] fun x17 => ukT x0 x17 fr) (
    ukT x0 x12 fr)) (
   .l (.cmp .eql .i64) [(c 0 x0), (i 6)] fun x9 =>
   .ite x9 (
    .l (.lst 1 false) [] fun x10 =>
    .l (.app 1 false 16) [x10, xb] fun x11 =>
    .l (.lst 1 false) [(c 1 x0), (c 2 x0)] fun x12 =>
    .l (.app 1 false 16) [x11, x12] fun x13 => ukT x0 x13 fr) (
    ukT x0 xb fr))
def uoT (x0 xb out : PV) : T PV :=
  .loop [(i 0), (.sl [])] fun y5 =>
  .l .len [out] fun x6 =>
  .l (.cmp .lss .i64) [(n y5 0), x6] fun x7 =>
  .ite x7 (
   .l (.idx 1 false) [out, (n y5 0)] fun x8 =>
   .call F.ref03_In [x8, xb] fun x9 =>
   .l .bnot [x9] fun x10 =>
   .ite x10 (
    .l (.idx 1 false) [out, (n y5 0)] fun x11 =>
    .l (.lst 1 false) [x11] fun x12 =>
    .l (.app 1 false 16) [(n y5 1), x12] fun x13 =>
    .l (.arith .add .i64) [(n y5 0), (i 1)] fun x14 =>
    .cont 1 [x14, x13]) (
    .l (.arith .add .i64) [(n y5 0), (i 1)] fun x11 =>
    .cont 1 [x11, (n y5 1)])) (
   ubT x0 xb (n y5 1))
def uaT (x0 xb o : PV) : T PV :=
  .loop [(i 0), o] fun y2 =>
  .l .len [(c 4 x0)] fun x3 =>
  .l (.cmp .lss .i64) [(n y2 0), x3] fun x4 =>
  .ite x4 (
   .l (.idx 3 true) [(c 4 x0), (n y2 0)] fun x5 =>
   .l (.cmp .eql .i64) [(c 0 x5), (i 1)] fun x6 =>
   .ite x6 (
    .l (.idx 3 true) [(c 4 x0), (n y2 0)] fun x7 =>
    .l (.lst 1 false) [(c 1 x7)] fun x8 =>
    .l (.app 1 false 16) [(n y2 1), x8] fun x9 =>
    .l (.arith .add .i64) [(n y2 0), (i 1)] fun x10 =>
    .cont 0 [x10, x9]) (
    .l (.arith .add .i64) [(n y2 0), (i 1)] fun x7 =>
    .cont 0 [x7, (n y2 1)])) (
   uoT x0 xb (n y2 1))
def usT (xs : List PV) : T PV :=
  .l (.okc 12 true) [(n xs 0)] fun x0 =>
  .l (.cmp .geq .i64) [(c 0 x0), (i 2)] fun x1 =>
  .ite x1 (
   .l (.cmp .leq .i64) [(c 0 x0), (i 5)] fun x2 =>
   .ite x2 (
    .l (.lst 1 false) [(c 1 x0)] fun x3 =>
    .l (.app 1 false 16) [(.sl []), x3] fun x4 => uaT x0 (n xs 1) x4) (
    uaT x0 (n xs 1) (.sl []))) (
   uaT x0 (n xs 1) (.sl []))
theorem hUs : TxOk P F.ref03_uses 2 usT := k_ref03_uses

def UsOk (p : Pr) : Prop := ∀ b : List ByteArray, b.length + 2 * pdep p ≤ 1000000 → nU p ≤ 4398046511104 → Ok P F.ref03_uses [p.enc, .sl (b.map .str)] (.sl ((usF p b).map .str))

theorem e_appS {l m : List ByteArray} (h : l.length + m.length ≤ 8796093022208) : (Prim.app 1 false 16).ev [.sl (l.map .str), .sl (m.map .str)] = some (.sl ((l ++ m).map .str)) := by
  rw [List.map_append]
  exact e_app (all_map okc_str _) (by simp; omega) (by simp; omega)

section
variable {h0 h1 : List PV → Prop} {k : Int} {ch v : ByteArray} {ls : List ByteArray} {ar : List Vl} {t : Ty} {ks : List Pr}

theorem uk_ok (ih : ∀ x ∈ ks, UsOk x) (hkl : ks.length ≤ 9223372036854775807) (b o : List ByteArray) (hb : b.length + 2 * pdeps ks ≤ 1000000) (ho : o.length + nUs ks ≤ 4398046511104) {K : PV → Prop} (hK : K (.sl ((o ++ usFs ks b).map .str))) :
    (ukT (prE k ch v ls ar t ks) (.sl (b.map .str)) (.sl (o.map .str))).den0 P K [h0, h1] := by
  refine den_rounds (fun j => [i j, .sl ((o ++ usFs (ks.take j) b).map .str)]) ks.length (by simp [usFs]) (fun j hj => ?_) ?_
  · have hm : ks[j] ∈ ks := List.getElem_mem hj
    refine d_l _ (len_eq ks) fun _ => d_l _ rfl fun _ => d_dec (p := (j : Int) < (ks.length : Int)) (fun _ => ?_) fun h => absurd (show (j : Int) < (ks.length : Int) by omega) h
    have hl2 := usFs_len (ks.take j) b
    have hl3 := nUs_take ks j hj
    have hl4 := (pdeps_le_iff ks (pdeps ks)).1 (Nat.le_refl _) _ hm
    have hl5 := usF_len ks[j] b
    refine d_l _ (e_idx (mp_at hj) (Pr.okc_enc _)) fun _ => d_call (ih _ hm b (by omega) (by omega)) (d_l _ (e_appS (by rw [List.length_append]; omega)) fun _ => d_l _ (e_inc (by omega)) fun _ => d_cont rfl ?_)
    rw [usFs_take ks b j hj, List.append_assoc]
  · refine d_l _ (len_eq ks) fun _ => d_l _ rfl fun _ => d_dec (p := (ks.length : Int) < (ks.length : Int)) (fun h => absurd h (by omega)) fun _ => d_ret ?_
    simp only [List.take_length]
    exact hK

theorem ub_ok (ih : ∀ x ∈ ks, UsOk x) (hkl : ks.length ≤ 9223372036854775807) (b o : List ByteArray) (hb : b.length + 2 * (pdeps ks + 1) ≤ 1000000) (ho : o.length + nUs ks ≤ 4398046511104) {K : PV → Prop} (hK : K (.sl ((o ++ usFs ks (bnd k ch v b)).map .str))) :
    (ubT (prE k ch v ls ar t ks) (.sl (b.map .str)) (.sl (o.map .str))).den0 P K [h0, h1] := by
  refine d_l _ rfl fun _ => d_dec (p := k = 3) (fun h => ?_) fun h => ?_
  · rw [bnd, if_pos h] at hK
    refine d_l (.sl []) rfl fun _ => d_l (.sl (b.map .str)) (e_appS (l := []) (m := b) (by simp; omega)) fun _ => d_l (.sl [.str v]) rfl fun _ => d_l _ (e_appS (l := b) (m := [v]) (by simp; omega)) fun _ => d_l _ rfl fun _ => d_dec (p := k = 6) (fun h6 => by omega) fun _ => ?_
    exact uk_ok ih hkl (b ++ [v]) o (by simp; omega) ho hK
  · rw [bnd, if_neg h] at hK
    refine d_l _ rfl fun _ => d_dec (p := k = 6) (fun h => ?_) fun h => ?_
    · rw [if_pos h] at hK
      refine d_l (.sl []) rfl fun _ => d_l (.sl (b.map .str)) (e_appS (l := []) (m := b) (by simp; omega)) fun _ => d_l (.sl [.str ch, .str v]) rfl fun _ => d_l _ (e_appS (l := b) (m := [ch, v]) (by simp; omega)) fun _ => ?_
      exact uk_ok ih hkl (b ++ [ch, v]) o (by simp; omega) ho hK
    · rw [if_neg h] at hK
      exact uk_ok ih hkl b o (by omega) ho hK

theorem fltB_take (b l : List ByteArray) (j : Nat) (h : j < l.length) : fltB b (l.take (j + 1)) = fltB b (l.take j) ++ (if memB l[j] b then [] else [l[j]]) := by
  rw [List.take_succ, List.getElem?_eq_getElem h, fltB_app]
  congr 1
  cases hm : memB l[j] b <;> simp [fltB, hm]

theorem uo_ok (ih : ∀ x ∈ ks, UsOk x) (hkl : ks.length ≤ 9223372036854775807) (b o : List ByteArray) (hb : b.length + 2 * (pdeps ks + 1) ≤ 1000000) (ho : o.length + nUs ks ≤ 4398046511104) {K : PV → Prop} (hK : K (.sl ((fltB b o ++ usFs ks (bnd k ch v b)).map .str))) :
    (uoT (prE k ch v ls ar t ks) (.sl (b.map .str)) (.sl (o.map .str))).den0 P K [h0] := by
  have hlen : ∀ j, j ≤ o.length → (fltB b (o.take j)).length ≤ j := fun j hj => by
    have h2 := List.length_filter_le (fun s => !memB s b) (o.take j)
    rw [List.length_take] at h2
    have h3 : (fltB b (o.take j)).length ≤ min j o.length := h2
    omega
  refine den_rounds (fun j => [i j, .sl ((fltB b (o.take j)).map .str)]) o.length (by simp [fltB]) (fun j hj => ?_) ?_
  · have hl := hlen j (by omega)
    refine d_l _ (len_eq o) fun _ => d_l _ rfl fun _ => d_dec (p := (j : Int) < (o.length : Int)) (fun _ => ?_) fun h => absurd (show (j : Int) < (o.length : Int) by omega) h
    refine d_l _ (e_idx (mp_at hj) rfl) fun _ => d_call (okx_ref03_In o[j] b (by omega)) (d_l _ rfl fun _ => d_ite (fun h => ?_) fun h => ?_)
    · have h : memB o[j] b = false := by simpa using h
      refine d_l _ (e_idx (mp_at hj) rfl) fun _ => d_l (.sl [.str o[j]]) rfl fun _ => d_l _ (e_appS (l := fltB b (o.take j)) (m := [o[j]]) (by simp; omega)) fun _ => d_l _ (e_inc (by omega)) fun _ => d_cont rfl ?_
      rw [fltB_take b o j hj, h]; rfl
    · have h : memB o[j] b = true := by simpa using h
      refine d_l _ (e_inc (by omega)) fun _ => d_cont rfl ?_
      rw [fltB_take b o j hj, h]
      simp
  · refine d_l _ (len_eq o) fun _ => d_l _ rfl fun _ => d_dec (p := (o.length : Int) < (o.length : Int)) (fun h => absurd h (by omega)) fun _ => ?_
    have hl := hlen o.length (Nat.le_refl _)
    rw [List.take_length] at hl ⊢
    exact ub_ok ih hkl b _ hb (by omega) hK

theorem ua_ok (ih : ∀ x ∈ ks, UsOk x) (hkl : ks.length ≤ 9223372036854775807) (b o : List ByteArray) (hb : b.length + 2 * (pdeps ks + 1) ≤ 1000000) (ho : o.length + (ar.length + nUs ks) ≤ 4398046511104) {K : PV → Prop} (hK : K (.sl ((fltB b (o ++ aN ar) ++ usFs ks (bnd k ch v b)).map .str))) :
    (uaT (prE k ch v ls ar t ks) (.sl (b.map .str)) (.sl (o.map .str))).den0 P K [] := by
  have hlen : ∀ j, j ≤ ar.length → (o ++ aN (ar.take j)).length ≤ o.length + j := fun j hj => by
    have h3 := aN_take_len ar j hj
    rw [List.length_append]; omega
  refine den_rounds (fun j => [i j, .sl ((o ++ aN (ar.take j)).map .str)]) ar.length (by simp [aN]) (fun j hj => ?_) ?_
  · have hl := hlen j (by omega)
    refine d_l _ (len_eq ar) fun _ => d_l _ rfl fun _ => d_dec (p := (j : Int) < (ar.length : Int)) (fun _ => ?_) fun h => absurd (show (j : Int) < (ar.length : Int) by omega) h
    refine d_l _ (e_idx (mp_at hj) (Vl.okc_enc _)) fun _ => d_l (.bool (decide (ar[j].kind = 1))) rfl fun _ => d_dec (fun h1 => ?_) fun h1 => ?_
    · refine d_l _ (e_idx (mp_at hj) (Vl.okc_enc _)) fun _ => d_l (.sl [.str ar[j].name]) rfl fun _ => d_l _ (e_appS (l := o ++ aN (ar.take j)) (m := [ar[j].name]) (by simp at hl ⊢; omega)) fun _ => d_l _ (e_inc (by omega)) fun _ => d_cont rfl ?_
      rw [aN_take ar j hj, if_pos h1, List.append_assoc]
    · refine d_l _ (e_inc (by omega)) fun _ => d_cont rfl ?_
      rw [aN_take ar j hj, if_neg h1, List.append_nil]; rfl
  · refine d_l _ (len_eq ar) fun _ => d_l _ rfl fun _ => d_dec (p := (ar.length : Int) < (ar.length : Int)) (fun h => absurd h (by omega)) fun _ => ?_
    have hl := hlen ar.length (Nat.le_refl _)
    rw [List.take_length] at hl ⊢
    exact uo_ok ih hkl b _ hb (by omega) hK
end

theorem okx_ref03_uses : ∀ p : Pr, PLim p → UsOk p := by
  intro p
  induction p using Pr.ind with
  | _ p ih =>
  intro hlim b hb ho
  cases hlim with
  | mk _ hc hv hl hll ha hal ht hkl hkk =>
  obtain ⟨k, ch, v, ls, ar, t, ks⟩ := p
  have ih' : ∀ x ∈ ks, UsOk x := fun x hx => ih x hx (hkk x hx)
  have hal : ar.length ≤ 9223372036854775807 := hal
  have hkl : ks.length ≤ 9223372036854775807 := hkl
  simp only [pdep] at hb
  simp only [nU] at ho
  rw [Pr.enc_mk]
  have hE : usF (.mk k ch v ls ar t ks) b = fltB b (uN k ch ar) ++ usFs ks (bnd k ch v b) := by simp only [usF]; rfl
  rw [hE, uN]
  refine hUs _ _ rfl (d_l (prE k ch v ls ar t ks) rfl fun _ => d_l _ rfl fun _ => d_dec (p := 2 ≤ k) (fun h1 => d_l _ rfl fun _ => d_dec (p := k ≤ 5) (fun h2 => ?_) fun h2 => ?_) fun h1 => ?_)
  · rw [if_pos ⟨h1, h2⟩]
    exact d_l (.sl [.str ch]) rfl fun _ => d_l _ (e_appS (l := []) (m := [ch]) (by simp)) fun _ => ua_ok ih' hkl b [ch] (by omega) (by simp; omega) rfl
  · rw [if_neg fun e => h2 e.2]
    exact ua_ok ih' hkl b [] (by omega) (by simp; omega) rfl
  · rw [if_neg fun e => h1 e.1]
    exact ua_ok ih' hkl b [] (by omega) (by simp; omega) rfl

theorem addAll_take (l o : List ByteArray) (j : Nat) (h : j < l.length) : addAll o (l.take (j + 1)) = addS l[j] (addAll o (l.take j)) := by
  rw [List.take_succ, List.getElem?_eq_getElem h, addAll_app]; rfl
theorem ok_ref03_Free (p : Pr) (hlim : PLim p) (hd : pdep p ≤ 200000) (hn : nU p ≤ 4398046511104) : Ok P F.ref03_Free [p.enc] (.sl ((addAll [] (usF p [])).map .str)) := by
  have hu := okx_ref03_uses p hlim [] (by simp; omega) hn
  have hl0 := usF_len p []
  generalize usF p [] = l at hu hl0 ⊢
  refine k_ref03_Free _ _ rfl (d_l _ (e_okc (Pr.okc_enc p)) fun _ => d_call hu ?_)
  have hlen : ∀ j, j ≤ l.length → (addAll [] (l.take j)).length ≤ j := fun j hj => by
    have := addAll_len (l.take j) []
    rw [List.length_take] at this
    simp at this; omega
  refine den_rounds (fun j => [i j, .sl ((addAll [] (l.take j)).map .str)]) l.length (by simp [addAll]) (fun j hj => ?_) ?_
  · have hl := hlen j (by omega)
    refine d_l _ (len_eq l) fun _ => d_l _ rfl fun _ => d_dec (p := (j : Int) < (l.length : Int)) (fun _ => ?_) fun h => absurd (show (j : Int) < (l.length : Int) by omega) h
    refine d_l _ (e_idx (mp_at hj) rfl) fun _ => d_call (okx_ref03_In l[j] (addAll [] (l.take j)) (by omega)) (d_l _ rfl fun _ => d_ite (fun h => ?_) fun h => ?_)
    · have h : memB l[j] (addAll [] (l.take j)) = false := by simpa using h
      refine d_l _ (e_idx (mp_at hj) rfl) fun _ => d_l (.sl [.str l[j]]) rfl fun _ => d_l _ (e_appS (l := addAll [] (l.take j)) (m := [l[j]]) (by simp; omega)) fun _ => d_l _ (e_inc (by omega)) fun _ => d_cont rfl ?_
      rw [addAll_take l [] j hj, addS, h]; rfl
    · have h : memB l[j] (addAll [] (l.take j)) = true := by simpa using h
      refine d_l _ (e_inc (by omega)) fun _ => d_cont rfl ?_
      rw [addAll_take l [] j hj, addS, h]; rfl
  · refine d_l _ (len_eq l) fun _ => d_l _ rfl fun _ => d_dec (p := (l.length : Int) < (l.length : Int)) (fun h => absurd h (by omega)) fun _ => d_ret ?_
    simp only [List.take_length]; rfl

end Go.Proofs.YtfmbddfenghnlaaGreatDoor.Tx

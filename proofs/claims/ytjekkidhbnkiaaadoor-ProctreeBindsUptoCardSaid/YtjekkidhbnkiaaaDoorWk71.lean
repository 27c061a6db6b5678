/- The free names (2): Free walks, and adds what is not bound. -/
import Derived.Test.YtjekkidhbnkiaaaDoorWk70
set_option linter.all false
namespace Go.Proofs.YtjekkidhbnkiaaaDoor.Tx
open Go.Lf Go.Lf.S Go.Lf.Duo
set_option maxRecDepth 100000

theorem okS_use (s : ByteArray) (b o : List ByteArray) (hb : b.length ≤ 9223372036854775807) (ho : o.length + 1 ≤ 8796093022208) : OkS P F.proctree_Free_1 sg_proctree_Free_1 [.str s, .sl (b.map .str), .sl (o.map .str)] [.tup [], .sl ((addAll o (fltB b [s])).map .str)] := by
  refine m_proctree_Free_1 _ _ (d_call (okx_Contains_str b s hb) (d_l _ rfl fun _ => d_ite (fun h => ?_) fun h => ?_))
  · have h : memB s b = false := by rw [← memB_pb]; simpa using h
    rw [fltB_one h]
    refine d_call (okx_Contains_str o s (by omega)) (d_l _ rfl fun _ => d_ite (fun h2 => ?_) fun h2 => ?_)
    · have h2 : memB s o = false := by rw [← memB_pb]; simpa using h2
      have e : addAll o [s] = o ++ [s] := by simp [addAll, addS, h2]
      rw [e]
      refine d_l (.sl [.str s]) rfl fun _ => d_l _ (e_app (l := o.map .str) (m := [.str s]) (by intro x hx; rw [List.mem_singleton] at hx; subst hx; rfl) (by simp; omega) (by simp; omega)) fun _ => d_ret ?_
      rw [List.map_append]; rfl
    · have h2 : memB s o = true := by rw [← memB_pb]; simpa using h2
      have e : addAll o [s] = o := by simp [addAll, addS, h2]
      rw [e]; exact d_ret rfl
  · have h : memB s b = true := by rw [← memB_pb]; simpa using h
    rw [fltB_one_in h]; exact d_ret rfl

theorem okS_clone (b : List ByteArray) (hb : b.length ≤ 8796093022208) : OkS P F.slices_Clone_string_string sg_slices_Clone_string_string [.sl (b.map .str)] [.sl (b.map .str)] := by
  refine m_slices_Clone_string_string _ _ (d_nilq (fun h => d_ret ?_) (d_l (.sl []) rfl fun _ => d_l _ (e_app (l := []) (m := b.map .str) (all_map okc_str _) (by simp; omega) (by simp; omega)) fun _ => d_ret (by rw [List.nil_append])))
  rw [h]

def kidT (x0 b o : PV) : T PV :=
  .l .len [(c 11 x0)] fun x8 =>
  .loop [(i 0), o] fun y9 =>
  .l (.cmp .lss .i64) [(n y9 0), x8] fun x10 =>
  .ite x10 (
   .l (.idx 12 true) [(c 11 x0), (n y9 0)] fun x11 =>
   .l (.okc 12 true) [x11] fun x12 =>
   .calls F.proctree_Free_2 sg_proctree_Free_2 [x12, b, (n y9 1)] fun z13 =>
   .l (.arith .add .i64) [(n y9 0), (i 1)] fun x14 =>
   .cont 1 [x14, (n z13 1)]) (
   .ret (.tup [(.tup []), (n y9 1)]))
def tailT (x0 xb o : PV) : T PV :=
  .l (.cmp .eql .i64) [(c 0 x0), (i 3)] fun x6 =>
  .ite x6 (
   .calls F.slices_Clone_string_string sg_slices_Clone_string_string [xb] fun z7 =>
   .l (.lst 1 false) [(c 2 x0)] fun x8 =>
   .l (.app 1 false 16) [(n z7 0), x8] fun x9 => kidT x0 x9 o) (
   .l (.cmp .eql .i64) [(c 0 x0), (i 6)] fun x7 =>
   .ite x7 (
    .calls F.slices_Clone_string_string sg_slices_Clone_string_string [xb] fun z8 =>
    .l (.lst 1 false) [(c 1 x0), (c 2 x0)] fun x9 =>
    .l (.app 1 false 16) [(n z8 0), x9] fun x10 => kidT x0 x10 o) (
    kidT x0 xb o))
def argT (x0 xb o : PV) : T PV :=
  .l .len [(c 4 x0)] fun x3 =>
  .loop [(i 0), o] fun y4 =>
  .l (.cmp .lss .i64) [(n y4 0), x3] fun x5 =>
  .ite x5 (
   .l (.idx 3 true) [(c 4 x0), (n y4 0)] fun x6 =>
   .l (.okc 3 true) [x6] fun x7 =>
   .l (.cmp .eql .i64) [(c 0 x7), (i 1)] fun x8 =>
   .ite x8 (
    .calls F.proctree_Free_1 sg_proctree_Free_1 [(c 1 x7), xb, (n y4 1)] fun z9 =>
    .l (.arith .add .i64) [(n y4 0), (i 1)] fun x10 =>
    .cont 0 [x10, (n z9 1)]) (
    .l (.arith .add .i64) [(n y4 0), (i 1)] fun x9 =>
    .cont 0 [x9, (n y4 1)])) (
   tailT x0 xb (n y4 1))
def f2T (xs : List PV) : T PV :=
  .l (.okc 12 true) [(n xs 0)] fun x0 =>
  .call F.proctree_Prefix [x0] fun x1 =>
  .ite x1 (
   .calls F.proctree_Free_1 sg_proctree_Free_1 [(c 1 x0), (n xs 1), (n xs 2)] fun z2 => argT x0 (n xs 1) (n z2 1)) (
   argT x0 (n xs 1) (n xs 2))
theorem hF2 : TxOkS P F.proctree_Free_2 sg_proctree_Free_2 f2T := m_proctree_Free_2

def F2Ok (p : Pr) : Prop := ∀ b o : List ByteArray, b.length + 2 * pdep p ≤ 1000000 → o.length + nU p ≤ 4398046511104 → OkS P F.proctree_Free_2 sg_proctree_Free_2 [p.enc, .sl (b.map .str), .sl (o.map .str)] [.tup [], .sl ((addAll o (usF p b)).map .str)]

section
variable {h0 : List PV → Prop} {ys : List PV} {k kd p : Int} {ch v : ByteArray} {ls : List ByteArray} {ar : List Vl} {t : Ty} {ks : List Pr}
abbrev prE (k : Int) (ch v : ByteArray) (ls : List ByteArray) (ar : List Vl) (t : Ty) (ks : List Pr) : PV := .agg [i k, .str ch, .str v, .sl (ls.map .str), .sl (ar.map Vl.enc), i t.kind, i t.prio, .str t.name, i t.shift, .sl (t.labels.map .str), .sl (t.kids.map Ty.enc), .sl (ks.map Pr.enc)]

theorem kid_ok (ih : ∀ x ∈ ks, F2Ok x) (hkl : ks.length ≤ 9223372036854775807) (b o : List ByteArray) (hb : b.length + 2 * pdeps ks ≤ 1000000) (ho : o.length + nUs ks ≤ 4398046511104) {K : PV → Prop} (hK : K (.tup [.tup [], .sl ((addAll o (usFs ks b)).map .str)])) :
    (kidT (prE k ch v ls ar t ks) (.sl (b.map .str)) (.sl (o.map .str))).den0 P K [h0] := by
  refine d_l _ (len_eq ks) fun _ => ?_
  refine den_rounds (fun j => [i j, .sl ((addAll o (usFs (ks.take j) b)).map .str)]) ks.length (by simp [usFs, addAll]) (fun j hj => ?_) ?_
  · have hm : ks[j] ∈ ks := List.getElem_mem hj
    refine d_l _ rfl fun _ => d_dec (p := (j : Int) < (ks.length : Int)) (fun _ => ?_) fun h => absurd (show (j : Int) < (ks.length : Int) by omega) h
    have hl1 := addAll_len (usFs (ks.take j) b) o
    have hl2 := usFs_len (ks.take j) b
    have hl3 := nUs_take ks j hj
    have hl4 := (pdeps_le_iff ks (pdeps ks)).1 (Nat.le_refl _) _ hm
    refine d_l _ (e_idx (mp_at hj) (Pr.okc_enc _)) fun _ => d_l _ (e_okc (Pr.okc_enc _)) fun _ => d_calls rfl (ih _ hm b _ (by omega) (by omega)) (d_l _ (e_inc (by omega)) fun _ => d_cont rfl ?_)
    rw [usFs_take ks b j hj, addAll_app]; rfl
  · refine d_l _ rfl fun _ => d_dec (p := (ks.length : Int) < (ks.length : Int)) (fun h => absurd h (by omega)) fun _ => d_ret ?_
    simp only [List.take_length]
    exact hK

theorem tail_ok (ih : ∀ x ∈ ks, F2Ok x) (hkl : ks.length ≤ 9223372036854775807) (b o : List ByteArray) (hb : b.length + 2 * (pdeps ks + 1) ≤ 1000000) (ho : o.length + nUs ks ≤ 4398046511104) {K : PV → Prop} (hK : K (.tup [.tup [], .sl ((addAll o (usFs ks (bnd k ch v b))).map .str)])) :
    (tailT (prE k ch v ls ar t ks) (.sl (b.map .str)) (.sl (o.map .str))).den0 P K [h0] := by
  refine d_l _ rfl fun _ => d_dec (p := k = 3) (fun h => ?_) fun h => ?_
  · rw [bnd, if_pos h] at hK
    refine d_calls rfl (okS_clone b (by omega)) (d_l (.sl [.str v]) rfl fun _ => d_l (.sl ((b ++ [v]).map .str)) ?_ fun _ => kid_ok ih hkl (b ++ [v]) o (by simp; omega) ho hK)
    rw [List.map_append]
    exact e_app (l := b.map .str) (m := [.str v]) (by intro x hx; rw [List.mem_singleton] at hx; subst hx; rfl) (by simp; omega) (by simp; omega)
  · rw [bnd, if_neg h] at hK
    refine d_l _ rfl fun _ => d_dec (p := k = 6) (fun h => ?_) fun h => ?_
    · rw [if_pos h] at hK
      refine d_calls rfl (okS_clone b (by omega)) (d_l (.sl [.str ch, .str v]) rfl fun _ => d_l (.sl ((b ++ [ch, v]).map .str)) ?_ fun _ => kid_ok ih hkl (b ++ [ch, v]) o (by simp; omega) ho hK)
      rw [List.map_append]
      exact e_app (l := b.map .str) (m := [.str ch, .str v]) (by intro x hx; simp at hx; rcases hx with rfl | rfl <;> rfl) (by simp; omega) (by simp; omega)
    · rw [if_neg h] at hK
      exact kid_ok ih hkl b o (by omega) ho hK

theorem arg_ok (ih : ∀ x ∈ ks, F2Ok x) (hkl : ks.length ≤ 9223372036854775807) (b o : List ByteArray) (hb : b.length + 2 * (pdeps ks + 1) ≤ 1000000) (ho : o.length + (ar.length + nUs ks) ≤ 4398046511104) {K : PV → Prop} (hK : K (.tup [.tup [], .sl ((addAll (addAll o (fltB b (aN ar))) (usFs ks (bnd k ch v b))).map .str)])) :
    (argT (prE k ch v ls ar t ks) (.sl (b.map .str)) (.sl (o.map .str))).den0 P K [] := by
  refine d_l _ (len_eq ar) fun _ => ?_
  have hlen : ∀ j, j ≤ ar.length → (addAll o (fltB b (aN (ar.take j)))).length ≤ o.length + j := fun j hj => by
    have h1 := addAll_len (fltB b (aN (ar.take j))) o
    have h2 := List.length_filter_le (fun s => !memB s b) (aN (ar.take j))
    have h3 := aN_take_len ar j hj
    have h4 : (fltB b (aN (ar.take j))).length ≤ (aN (ar.take j)).length := h2
    omega
  refine den_rounds (fun j => [i j, .sl ((addAll o (fltB b (aN (ar.take j)))).map .str)]) ar.length (by simp [aN, fltB, addAll]) (fun j hj => ?_) ?_
  · have hl := hlen j (by omega)
    refine d_l _ rfl fun _ => d_dec (p := (j : Int) < (ar.length : Int)) (fun _ => ?_) fun h => absurd (show (j : Int) < (ar.length : Int) by omega) h
    refine d_l _ (e_idx (mp_at hj) (Vl.okc_enc _)) fun _ => d_l _ (e_okc (Vl.okc_enc _)) fun _ => d_l (.bool (decide (ar[j].kind = 1))) rfl fun _ => d_dec (fun h1 => ?_) fun h1 => ?_
    · refine d_calls rfl (okS_use ar[j].name b _ (by omega) (by omega)) (d_l _ (e_inc (by omega)) fun _ => d_cont rfl ?_)
      rw [aN_take ar j hj, if_pos h1, fltB_app, addAll_app]; rfl
    · refine d_l _ (e_inc (by omega)) fun _ => d_cont rfl ?_
      rw [aN_take ar j hj, if_neg h1, List.append_nil]; rfl
  · refine d_l _ rfl fun _ => d_dec (p := (ar.length : Int) < (ar.length : Int)) (fun h => absurd h (by omega)) fun _ => ?_
    have hl := hlen ar.length (Nat.le_refl _)
    rw [List.take_length] at hl ⊢
    exact tail_ok ih hkl b _ hb (by omega) hK
end

theorem ok_PrefixF (p : Pr) : Ok P F.proctree_Prefix [p.enc] (.bool (decide (2 ≤ p.kind ∧ p.kind ≤ 5))) := by
  obtain ⟨k, ch, v, ls, ar, t, ks⟩ := p
  rw [Pr.enc_mk]
  refine k_proctree_Prefix _ _ rfl (d_l (.agg [i k, .str ch, .str v, .sl (ls.map .str), .sl (ar.map Vl.enc), i t.kind, i t.prio, .str t.name, i t.shift, .sl (t.labels.map .str), .sl (t.kids.map Ty.enc), .sl (ks.map Pr.enc)]) rfl fun _ => d_l _ rfl fun _ => d_dec (fun h => d_l _ rfl fun _ => d_ret (congrArg PV.bool ?_)) fun h => d_ret (congrArg PV.bool ?_))
  · have h : 2 ≤ k := h; simp [Pr.kind, h]
  · have h : ¬ 2 ≤ k := h; simp [Pr.kind, h]


theorem okS_Free_2 : ∀ p : Pr, PLim p → F2Ok p := by
  intro p
  induction p using Pr.ind with
  | _ p ih =>
  intro hlim b o hb ho
  cases hlim with
  | mk _ hc hv hl hll ha hal ht hkl hkk =>
  obtain ⟨k, ch, v, ls, ar, t, ks⟩ := p
  have ih' : ∀ x ∈ ks, F2Ok x := fun x hx => ih x hx (hkk x hx)
  have hal : ar.length ≤ 9223372036854775807 := hal
  have hkl : ks.length ≤ 9223372036854775807 := hkl
  have hPx := ok_PrefixF (.mk k ch v ls ar t ks)
  simp only [pdep] at hb
  simp only [nU] at ho
  rw [Pr.enc_mk] at hPx ⊢
  have hE : usF (.mk k ch v ls ar t ks) b = fltB b (uN k ch ar) ++ usFs ks (bnd k ch v b) := by simp only [usF]; rfl
  rw [hE, uN, fltB_app, addAll_app, addAll_app]
  refine hF2 _ _ (d_l (prE k ch v ls ar t ks) rfl fun _ => d_call hPx (d_dec (p := 2 ≤ k ∧ k ≤ 5) (fun h => ?_) fun h => ?_))
  · rw [if_pos h]
    have hl1 := addAll_len (fltB b [ch]) o
    have hl2 : (fltB b [ch]).length ≤ 1 := List.length_filter_le (fun s => !memB s b) [ch]
    exact d_calls rfl (okS_use ch b o (by omega) (by omega)) (arg_ok ih' hkl b _ (by omega) (by omega) rfl)
  · rw [if_neg h]
    exact arg_ok ih' hkl b o (by omega) (by omega) rfl

theorem ok_proctree_Free (p : Pr) (hlim : PLim p) (hd : pdep p ≤ 200000) (hn : nU p ≤ 4398046511104) : Ok P F.proctree_Free [p.enc] (.sl ((addAll [] (usF p [])).map .str)) :=
  k_proctree_Free _ _ rfl (d_l _ (e_okc (Pr.okc_enc p)) fun _ => d_calls rfl (okS_Free_2 p hlim [] [] (by simp; omega) (by simp; omega)) (d_ret rfl))
end Go.Proofs.YtjekkidhbnkiaaaDoor.Tx

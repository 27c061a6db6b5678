/- A verified reading of Go code into a small language (no conditions: a library for the claim's own proof): part B. -/
import Derived.Test.YtbfjpjllaibooaaGreatLfA
import Derived.Laws.Pointers
import Derived.Laws.Small
import Derived.Laws.MakeOwn
import Derived.Laws.OwnMore
import Derived.Great.BuildSlice
import Derived.MapKept
set_option linter.all false
/- '==' over flat types compares all cells. -/
namespace Go.Lf
variable [Mk] [Gl]
open Go.RowKit
section
variable {P : Program} {F : Nat → Nat → Prop} {w : World}
/-- a value of a type out of its cells -/
def ofCells (P : Program) (t : Nat) (c : Array Value) : Value := if (tagS P t).getD false then .agg c else c.getD 0 undef
theorem sameK_append : ∀ {k1 k2 : List CK} {xs ys us vs : List PV} {r : Bool}, xs.length = k1.length → ys.length = k1.length → PV.sameK (k1 ++ k2) (xs ++ us) (ys ++ vs) = some r →
  (PV.sameK k1 xs ys = some true ∧ PV.sameK k2 us vs = some r) ∨ (PV.sameK k1 xs ys = some false ∧ r = false)
 | [], _, xs, ys, _, _, _, h1, h2, h => by
  have e1 : xs = [] := List.eq_nil_of_length_eq_zero h1
  have e2 : ys = [] := List.eq_nil_of_length_eq_zero h2
  subst e1; subst e2
  exact .inl ⟨rfl, h⟩
 | k :: k1, k2, [], _, _, _, _, h1, _, _ => by simp at h1
 | k :: k1, k2, _ :: _, [], _, _, _, _, h2, _ => by simp at h2
 | k :: k1, k2, x :: xs, y :: ys, us, vs, r, h1, h2, h => by
  simp only [List.cons_append, PV.sameK] at h ⊢
  cases e : PV.same1 k x y with
  | none => rw [e] at h; cases h
  | some b =>
   rw [e] at h
   cases b with
   | true => exact sameK_append (by simpa using h1) (by simpa using h2) h
   | false => simp at h; exact .inr ⟨rfl, h⟩
theorem equalIn_scalar {t d : Nat} {x y : Value} {u v : PV} {r : Bool} {k : CK}
  (ht : P.underlying t = some (match k with | .i k => .int k | .b => .bool | .s => .string))
  (hx : Rep F w x u) (hy : Rep F w y v) (h : PV.same1 k u v = some r) : (Op.equalIn (d + 1) t x y).run P w = .ok r w := by
 cases k with
 | i k =>
  cases u <;> cases v <;> simp [PV.same1] at h
  obtain ⟨⟨rfl, rfl⟩, rfl⟩ := h
  rename_i n1 n2
  cases hx; cases hy
  rw [run_equalIn_int w d t _ _ _ _ ht]
  rfl
 | b =>
  cases u <;> cases v <;> simp [PV.same1] at h
  subst h
  cases hx; cases hy
  rw [run_equalIn_bool' w d t _ _ ht]
 | s =>
  cases u <;> cases v <;> simp [PV.same1] at h
  subst h
  cases hx; cases hy
  rw [run_equalIn_string w d t _ _ ht, bytes_beq]
theorem flatK_sz {n t : Nat} {ks : List CK} (h : flatK P n t = some ks) : tsz P t = some ks.length ∧ ∃ g, tagS P t = some g := by
 cases n with
 | zero => simp [flatK] at h
 | succ n =>
  unfold flatK at h
  split at h
  ·rename_i h1 h2; simp at h; subst h; exact ⟨h2, _, by simp [tagS, h1]; rfl⟩
  ·rename_i h1 h2; simp at h; subst h; exact ⟨h2, _, by simp [tagS, h1]; rfl⟩
  ·rename_i h1 h2; simp at h; subst h; exact ⟨h2, _, by simp [tagS, h1]; rfl⟩
  ·rename_i h1 h2
   split at h
   ·simp only [Option.bind_eq_some_iff] at h
    obtain ⟨l, _, h⟩ := h
    split at h
    ·rename_i hl; simp at h hl; subst h; rw [hl]; exact ⟨h2, _, by simp [tagS, h1]; rfl⟩
    ·cases h
   ·cases h
  ·rename_i h1 h2
   simp only [Option.bind_eq_some_iff] at h
   obtain ⟨l, _, h⟩ := h
   split at h
   ·rename_i hl
    simp only [Bool.and_eq_true, beq_iff_eq] at hl
    simp at h; subst h
    refine ⟨?_, _, by simp [tagS, h1]; rfl⟩
    rw [h2, hl.2]; simp [List.length_flatten]
   ·cases h
  ·cases h
theorem run_part {t off m : Nat} {g : Bool} {xs : Array Value} (hs : tsz P t = some m) (hg : tagS P t = some g) (hm : off + m ≤ xs.size) (h1 : g = false → m = 1) :
  (part t xs off).run P w = .ok (ofCells P t (xs.extract off (off + m))) w := by
 unfold part
 cases g with
 | true => simp [run_isAgg hg, run_sizeOf' hs, ofCells, hg]
 | false =>
  have hm1 := h1 rfl
  subst hm1
  have hlt : off < xs.size := by omega
  have e : (xs.extract off (off + 1))[0]? = some xs[off] := by rw [Array.getElem?_extract]; simp [hlt]; omega
  simp [run_isAgg hg, ofCells, hg, hlt, e]
theorem flatK_one {n t : Nat} {ks : List CK} (h : flatK P n t = some ks) (hg : tagS P t = some false) : ks.length = 1 := by
 cases n with
 | zero => simp [flatK] at h
 | succ n =>
  unfold flatK at h
  split at h
  ·simp at h; subst h; rfl
  ·simp at h; subst h; rfl
  ·simp at h; subst h; rfl
  ·rename_i h1 h2; simp [tagS, h1] at hg
  ·rename_i h1 h2; simp [tagS, h1] at hg
  ·cases h
/-- the cells of an aggregate and what they read as -/
def RepC (F : Nat → Nat → Prop) (w : World) (xs : Array Value) (us : List PV) : Prop := xs.size = us.length ∧ ∀ (i : Nat) (x : Value) (u : PV), xs[i]? = some x → us[i]? = some u → Rep F w x u
theorem RepC.part {xs : Array Value} {us : List PV} (h : RepC F w xs us) (off m : Nat) (hm : off + m ≤ xs.size) : RepC F w (xs.extract off (off + m)) ((us.drop off).take m) := by
 refine ⟨by have := h.1; simp; omega, fun i x u hx hu => ?_⟩
 simp only [Array.getElem?_extract] at hx
 split at hx
 ·rw [List.getElem?_take] at hu
  split at hu
  ·rw [List.getElem?_drop] at hu; exact h.2 _ x u hx hu
  ·cases hu
 ·cases hx
theorem eqFields_flat {n d : Nat} (ih : ∀ (t : Nat) (ks : List CK) (xs ys : Array Value) (us vs : List PV) (r : Bool), flatK P n t = some ks → xs.size = ks.length → ys.size = ks.length →
   RepC F w xs us → RepC F w ys vs → PV.sameK ks us vs = some r → (Op.equalIn d t (ofCells P t xs) (ofCells P t ys)).run P w = .ok r w) (xs ys : Array Value) (us vs : List PV) (hx : RepC F w xs us) (hy : RepC F w ys vs) :
  ∀ (fs : List Field) (off : Nat) (ks : List CK) (r : Bool), flatF (flatK P n) fs off = some ks → xs.size = off + ks.length → ys.size = off + ks.length → PV.sameK ks (us.drop off) (vs.drop off) = some r →
   (Op.eqFields d xs ys fs).run P w = .ok r w
 | [], off, ks, r, hf, h1, h2, hs => by
  simp [flatF] at hf; subst hf
  have e1 : us.drop off = [] := by have := hx.1; simp at h1; simp; omega
  have e2 : vs.drop off = [] := by have := hy.1; simp at h2; simp; omega
  rw [e1, e2] at hs; simp [PV.sameK] at hs; subst hs
  simp [Op.eqFields]
 | f :: fs, off, ks, r, hf, h1, h2, hs => by
  simp only [flatF] at hf
  split at hf
  ·rename_i hc
   simp only [Bool.and_eq_true, bne_iff_ne, beq_iff_eq] at hc
   simp only [Option.bind_eq_some_iff, Option.map_eq_some_iff] at hf
   obtain ⟨k1, hk1, k2, hk2, rfl⟩ := hf
   obtain ⟨z1, g, z2⟩ := flatK_sz hk1
   simp only [List.length_append] at h1 h2
   have o1 : g = false → k1.length = 1 := fun e => flatK_one hk1 (e ▸ z2)
   have p1 := run_part (w := w) (xs := xs) (off := off) z1 z2 (by omega) o1
   have p2 := run_part (w := w) (xs := ys) (off := off) z1 z2 (by omega) o1
   have hu : us.drop off = (us.drop off).take k1.length ++ us.drop (off + k1.length) := by rw [← List.drop_drop, List.take_append_drop]
   have hv : vs.drop off = (vs.drop off).take k1.length ++ vs.drop (off + k1.length) := by rw [← List.drop_drop, List.take_append_drop]
   rw [hu, hv] at hs
   have l1 : ((us.drop off).take k1.length).length = k1.length := by have := hx.1; simp; omega
   have l2 : ((vs.drop off).take k1.length).length = k1.length := by have := hy.1; simp; omega
   have key := fun r' hr' => ih f.type k1 (xs.extract off (off + k1.length)) (ys.extract off (off + k1.length)) _ _ r' hk1 (by simp; omega) (by simp; omega) (hx.part off k1.length (by omega)) (hy.part off k1.length (by omega)) hr'
   simp only [Op.eqFields, hc.1, ne_eq, not_false_eq_true, if_true, Sem.run_bind, hc.2, p1, p2, Result.andThen_ok]
   rcases sameK_append l1 l2 hs with ⟨e1, e2⟩ | ⟨e1, rfl⟩
   ·rw [key true e1]
    simp only [Result.andThen_ok, Bool.not_true, Bool.false_eq_true, if_false]
    exact eqFields_flat ih xs ys us vs hx hy fs (off + k1.length) k2 r hk2 (by omega) (by omega) e2
   ·rw [key false e1]; simp
  ·cases hf
theorem arr_loop {n d et m : Nat} {k1 : List CK} (hk : flatK P n et = some k1) (hm : tsz P et = some m) (ih : ∀ (t : Nat) (ks : List CK) (xs ys : Array Value) (us vs : List PV) (r : Bool), flatK P n t = some ks → xs.size = ks.length → ys.size = ks.length →
   RepC F w xs us → RepC F w ys vs → PV.sameK ks us vs = some r → (Op.equalIn d t (ofCells P t xs) (ofCells P t ys)).run P w = .ok r w) (xs ys : Array Value) (us vs : List PV) (hx : RepC F w xs us) (hy : RepC F w ys vs) :
  ∀ (c i : Nat) (r : Bool), xs.size = (i + c) * m → ys.size = (i + c) * m → PV.sameK (List.replicate c k1).flatten (us.drop (i * m)) (vs.drop (i * m)) = some r →
   ((List.range' i c).foldr (fun j (k : Sem Bool) => do
    let a ← part et xs (j * m)
    let b ← part et ys (j * m)
    let q ← Op.equalIn d et a b
    if (!q) = true then pure false else k) (pure true)).run P w = .ok r w
 | 0, i, r, h1, h2, hs => by
  have e1 : us.drop (i * m) = [] := by have := hx.1; simp at h1; simp; omega
  have e2 : vs.drop (i * m) = [] := by have := hy.1; simp at h2; simp; omega
  rw [e1, e2] at hs; simp [PV.sameK] at hs; subst hs
  simp
 | c + 1, i, r, h1, h2, hs => by
  obtain ⟨z1, g, z2⟩ := flatK_sz hk
  have hmk : m = k1.length := by rw [hm] at z1; simpa using z1
  subst hmk
  have o1 : g = false → k1.length = 1 := fun e => flatK_one hk (e ▸ z2)
  have hle : i * k1.length + k1.length ≤ (i + (c + 1)) * k1.length := by rw [← Nat.succ_mul]; exact Nat.mul_le_mul_right _ (by omega)
  have p1 := run_part (w := w) (xs := xs) (off := i * k1.length) z1 z2 (by omega) o1
  have p2 := run_part (w := w) (xs := ys) (off := i * k1.length) z1 z2 (by omega) o1
  rw [List.replicate_succ, List.flatten_cons] at hs
  have hu : us.drop (i * k1.length) = (us.drop (i * k1.length)).take k1.length ++ us.drop ((i + 1) * k1.length) := by rw [Nat.succ_mul, ← List.drop_drop, List.take_append_drop]
  have hv : vs.drop (i * k1.length) = (vs.drop (i * k1.length)).take k1.length ++ vs.drop ((i + 1) * k1.length) := by rw [Nat.succ_mul, ← List.drop_drop, List.take_append_drop]
  rw [hu, hv] at hs
  have l1 : ((us.drop (i * k1.length)).take k1.length).length = k1.length := by have := hx.1; simp; omega
  have l2 : ((vs.drop (i * k1.length)).take k1.length).length = k1.length := by have := hy.1; simp; omega
  have key := fun r' hr' => ih et k1 (xs.extract (i * k1.length) (i * k1.length + k1.length)) (ys.extract (i * k1.length) (i * k1.length + k1.length)) _ _ r' hk (by simp; omega) (by simp; omega)
   (hx.part (i * k1.length) k1.length (by omega)) (hy.part (i * k1.length) k1.length (by omega)) hr'
  simp only [List.range'_succ, List.foldr_cons, Sem.run_bind, p1, p2, Result.andThen_ok]
  rcases sameK_append l1 l2 hs with ⟨e1, e2⟩ | ⟨e1, rfl⟩
  ·rw [key true e1]
   simp only [Result.andThen_ok, Bool.not_true, Bool.false_eq_true, if_false]
   exact arr_loop hk hm ih xs ys us vs hx hy c (i + 1) r (by rw [h1]; congr 1; omega) (by rw [h2]; congr 1; omega) e2
  ·rw [key false e1]; simp
theorem forIn_foldr {et m d : Nat} (xs ys : Array Value) (l : List Nat) (w : World) :
  ((do
   let r ← forIn l ((none, ()) : Option Bool × Unit) fun i _ => do
    if !(← Op.equalIn d et (← part et xs (i * m)) (← part et ys (i * m))) then pure (ForInStep.done (some false, ())) else pure (ForInStep.yield (none, ()))
   match r.fst with
   | some a => pure a
   | none => pure true : Sem Bool)).run P w =
  (l.foldr (fun j (k : Sem Bool) => do
    let a ← part et xs (j * m)
    let b ← part et ys (j * m)
    let q ← Op.equalIn d et a b
    if (!q) = true then pure false else k) (pure true)).run P w := by
 induction l generalizing w with
 | nil => simp
 | cons i l ih =>
  simp only [List.forIn_cons, List.foldr_cons, Sem.run_bind]
  generalize (part et xs (i * m)).run P w = r1
  cases r1 with
  | halt x w1 => simp [Result.andThen]
  | ok a w1 =>
   simp only [Result.andThen_ok]
   generalize (part et ys (i * m)).run P w1 = r2
   cases r2 with
   | halt x w2 => simp [Result.andThen]
   | ok b w2 =>
    simp only [Result.andThen_ok]
    generalize (Op.equalIn d et a b).run P w2 = r3
    cases r3 with
    | halt x w3 => simp [Result.andThen]
    | ok q w3 =>
     cases q with
     | true =>
      have := ih w3
      simp only [Sem.run_bind] at this
      simpa using this
     | false => simp
theorem equalIn_flat : ∀ (n d t : Nat) (ks : List CK) (xs ys : Array Value) (us vs : List PV) (r : Bool), n ≤ d → flatK P n t = some ks → xs.size = ks.length → ys.size = ks.length →
   RepC F w xs us → RepC F w ys vs → PV.sameK ks us vs = some r → (Op.equalIn d t (ofCells P t xs) (ofCells P t ys)).run P w = .ok r w
 | 0, _, _, _, _, _, _, _, _, _, h, _, _, _, _, _ => by simp [flatK] at h
 | n + 1, d, t, ks, xs, ys, us, vs, r, hd, h, h1, h2, hx, hy, hs => by
  obtain ⟨d, rfl⟩ : ∃ e, d = e + 1 := ⟨d - 1, by omega⟩
  have ih := fun t ks xs ys us vs r => equalIn_flat n d t ks xs ys us vs r (by omega)
  have scal : ∀ k : CK, P.underlying t = some (match k with | .i k => .int k | .b => .bool | .s => .string) → ks = [k] → tagS P t = some false →
    (Op.equalIn (d + 1) t (ofCells P t xs) (ofCells P t ys)).run P w = .ok r w := by
   rintro k hu rfl hg
   have hx1 := hx.1; have hy1 := hy.1
   simp only [List.length_singleton] at h1 h2
   obtain ⟨u, rfl⟩ : ∃ u, us = [u] := List.length_eq_one_iff.1 (by omega)
   obtain ⟨v, rfl⟩ : ∃ v, vs = [v] := List.length_eq_one_iff.1 (by omega)
   have hx0 : xs[0]? = some (xs[0]'(by omega)) := by simp [h1]
   have hy0 : ys[0]? = some (ys[0]'(by omega)) := by simp [h2]
   have e : PV.same1 k u v = some r := by
    simp only [PV.sameK] at hs
    cases e : PV.same1 k u v with
    | none => rw [e] at hs; cases hs
    | some b => rw [e] at hs; cases b <;> simpa using hs
   have := equalIn_scalar (P := P) (d := d) hu (hx.2 0 _ u hx0 rfl) (hy.2 0 _ v hy0 rfl) e
   simpa [ofCells, hg, h1, h2] using this
  unfold flatK at h
  split at h
  ·rename_i k hu _; simp at h; exact scal (.i k) hu h.symm (by simp [tagS, hu])
  ·rename_i hu _; simp at h; exact scal .b hu h.symm (by simp [tagS, hu])
  ·rename_i hu _; simp at h; exact scal .s hu h.symm (by simp [tagS, hu])
  ·rename_i fs m hu hm
   split at h
   ·rename_i hst
    simp only [Option.bind_eq_some_iff] at h
    obtain ⟨l, hl, h⟩ := h
    split at h
    ·simp at h; subst h
     have hg : tagS P t = some true := by simp [tagS, hu]
     have hf : P.fieldsOf t = fs := by simp [Program.fieldsOf, hu]
     simp only [ofCells, hg, Option.getD_some, if_true]
     rw [run_equalIn_struct w d t xs ys (by rw [hf]; exact hu) (by simpa using hst), hf]
     exact eqFields_flat ih xs ys us vs hx hy fs.toList 0 l r hl (by omega) (by omega) (by simpa using hs)
    ·cases h
   ·cases h
  ·rename_i k et m hu hm
   simp only [Option.bind_eq_some_iff] at h
   obtain ⟨l, hl, h⟩ := h
   split at h
   ·rename_i hc
    simp only [Bool.and_eq_true, beq_iff_eq] at hc
    simp at h; subst h
    have hg : tagS P t = some true := by simp [tagS, hu]
    have hlen : ((List.replicate k l).flatten).length = k * l.length := by simp [List.length_flatten]
    simp only [ofCells, hg, Option.getD_some, if_true]
    have key := arr_loop hl hc.1 ih xs ys us vs hx hy k 0 r (by rw [h1, hlen]; simp) (by rw [h2, hlen]; simp) (by simpa using hs)
    simp only [Op.equalIn, Sem.run_bind, run_underlying hu, run_sizeOf' hc.1, Result.andThen_ok]
    have := forIn_foldr (P := P) (et := et) (m := l.length) (d := d) xs ys (List.range' 0 k) w
    rw [key] at this
    simp [Std.Legacy.Range.forIn_eq_forIn_range', Std.Legacy.Range.size]
    simp at this
    revert this
    generalize Sem.run P (forIn (List.range' 0 k) ((none, ()) : Option Bool × Unit) _) w = X
    intro this
    cases X with
    | halt x w' => exact this
    | ok a w' =>
     obtain ⟨q, u⟩ := a
     cases q <;> exact this
   ·cases h
  ·cases h
end
end Go.Lf
/- Each operation does what its reading says: values. -/
namespace Go.Lf
variable [Mk] [Gl]
open Go.RowKit
section
variable {ro : Option Nat} {P : Program} {H : Hint} {S : Fx} {F0 : Nat → Nat → Prop} {w0 : World} {F : Nat → Nat → Prop} {ρ : Nat → Value} {w : World} {a : Act} {s c : St PV}
 {Q : Exit → Act → World → Prop} {o : Oper} {δ : Dl PV} {cmd : Cmd PV}
/-- a primitive's value -/
theorem sound_putE (h : In P S F0 w0 F ρ w a s c o) {v : Value} {z : PV} (hr : (execOp a.eval o).run P w = .ok (.value v) w) (hv : Rep F w v z) : o.wpr ro P a w (Post S F0 w0 a (s.ap o.dst (putE z))) Q :=
 sound_val h hr rfl (repS_putE hv)
theorem rep_int {v : Value} {k : IntKind} {n : Int} (h : Rep F w v (.int k n)) : v = .int k n := by cases h; rfl
theorem rep_bool {v : Value} {b : Bool} (h : Rep F w v (.bool b)) : v = .bool b := by cases h; rfl
theorem rep_str {v : Value} {b : ByteArray} (h : Rep F w v (.str b)) : v = .string b := by cases h; rfl
theorem rep_agg {v : Value} {l : List PV} (h : Rep F w v (.agg l)) : ∃ cs, v = .agg cs ∧ RepC F w cs l := by
 cases h with
 | agg cs xs hl hc hh => exact ⟨cs, rfl, hl, hh⟩
theorem sound_dlBin (h : In P S F0 w0 F ρ w a s c o) {op : BinOp} {t ty : Nat} {x y : Operand} (hop : o.op = .binOp op t x y ty) {u v : SV PV} (hu : opv pvAlg c x = some u) (hv : opv pvAlg c y = some v)
    (hd : dlBin pvAlg P c op t u v = some cmd) (hg : cmd.gives P δ) : o.wpr ro P a w (Post S F0 w0 a (s.ap o.dst δ)) Q := by
  have key : ∀ {u v : SV PV}, opv pvAlg c x = some u → opv pvAlg c y = some v → dlBin.bin pvAlg P c op t u v = some cmd → o.wpr ro P a w (Post S F0 w0 a (s.ap o.dst δ)) Q := by
    intro u v hu hv hd
    simp only [dlBin.bin, Option.bind_eq_bind, Option.bind_eq_some_iff] at hd
    obtain ⟨p, hp, q, hq, hd⟩ := hd
    have hx : Rep F w (a.eval x) p := asE_rep h.rc.ob (h.opv hu) hp
    have hy : Rep F w (a.eval y) q := asE_rep h.rc.ob (h.opv hv) hq
    split at hd
    · rename_i k ht
      have cmpc : (∃ z, (Prim.cmp op k).ev [p, q] = some z ∧ δ = putE z) → o.wpr ro P a w (Post S F0 w0 a (s.ap o.dst δ)) Q := by
        rintro ⟨z, hz, rfl⟩
        obtain ⟨m, n, r, he, hr, rfl⟩ := ev_cmp hz
        simp at he; obtain ⟨rfl, rfl⟩ := he
        refine sound_putE h (v := .bool r) (exec_bin hop ?_ ?_) (.bool r)
        · rw [rep_int hx]; exact eqGuard_plain ⟨by simp, by simp⟩
        · rw [rep_int hx, rep_int hy]; exact binOp_cmp hr
      have arc : (∃ z, (Prim.arith op k).ev [p, q] = some z ∧ δ = putE z) → o.wpr ro P a w (Post S F0 w0 a (s.ap o.dst δ)) Q := by
        rintro ⟨z, hz, rfl⟩
        obtain ⟨k2, m, n, r, he, hk, hr, rfl⟩ := ev_arith hz
        simp at he; obtain ⟨rfl, rfl⟩ := he
        refine sound_putE h (v := .int k r) (exec_bin hop ?_ ?_) (.int k r)
        · rw [rep_int hx]; exact eqGuard_plain ⟨by simp, by simp⟩
        · rw [rep_int hx, rep_int hy]; exact binOp_int hk hr
      split at hd <;> simp at hd <;> subst hd <;> first
        | exact cmpc hg
        | exact arc hg
    · rename_i ht
      split at hd
      · simp at hd; subst hd
        obtain ⟨z, hz, rfl⟩ := hg
        obtain ⟨m, n, he, hle, rfl⟩ := ev_cat hz
        simp at he; obtain ⟨rfl, rfl⟩ := he
        refine sound_putE h (v := .string (m ++ n)) (exec_bin hop ?_ ?_) (.str _)
        · rw [rep_str hx]; exact eqGuard_plain ⟨by simp, by simp⟩
        · rw [rep_str hx, rep_str hy]; exact binOp_cat hle
      · simp at hd; subst hd
        obtain ⟨z, hz, rfl⟩ := hg
        obtain ⟨m, n, r, he, hr, rfl⟩ := ev_scmp hz
        simp at he; obtain ⟨rfl, rfl⟩ := he
        refine sound_putE h (v := .bool r) (exec_bin hop ?_ ?_) (.bool _)
        · rw [rep_str hx]; exact eqGuard_plain ⟨by simp, by simp⟩
        · rw [rep_str hx, rep_str hy]; exact binOp_scmp hr
    · rename_i ht
      simp at hd; subst hd
      obtain ⟨z, hz, rfl⟩ := hg
      obtain ⟨m, n, r, he, hr, rfl⟩ := ev_bcmp hz
      simp at he; obtain ⟨rfl, rfl⟩ := he
      refine sound_putE h (v := .bool r) (exec_bin hop ?_ ?_) (.bool _)
      · rw [rep_bool hx]; exact eqGuard_plain ⟨by simp, by simp⟩
      · rw [rep_bool hx, rep_bool hy]; exact binOp_bcmp ht hr
    all_goals first
      | (cases hd; done)
      | (rename_i ht
         simp only [Option.bind_eq_some_iff] at hd
         obtain ⟨n, hn, ks, hk, hd⟩ := hd
         split at hd
         · rename_i hcond
           simp only [Bool.and_eq_true, beq_iff_eq] at hcond
           simp at hd; subst hd
           obtain ⟨z, hz, rfl⟩ := hg
           obtain ⟨l, m, r, he, h1, h2, hr, hzz⟩ := ev_acmp hz
           clear hz
           simp at he; obtain ⟨rfl, rfl⟩ := he
           obtain ⟨xs, hxe, hxr⟩ := rep_agg hx
           obtain ⟨ys, hye, hyr⟩ := rep_agg hy
           have hgt : tagS P t = some true := by simp [tagS, ht]
           have heq := equalIn_flat (P := P) 8 10000 t ks xs ys l m r (by omega) hk (by rw [hxr.1]; omega) (by rw [hyr.1]; omega) hxr hyr hr
           simp only [ofCells, hgt, Option.getD_some, if_true] at heq
           have hguard : (eqGuard op t x y (a.eval x) (a.eval y)).run P w = .ok () w := by
             rw [hxe, hye]; exact run_eqGuard_agg w op t x y xs ys hcond.2
           rcases hzz with ⟨rfl, rfl⟩ | ⟨rfl, rfl⟩
           · refine sound_putE h (v := .bool r) (exec_bin hop hguard ?_) (.bool _)
             rw [hxe, hye, run_eql_struct, heq]; rfl
           · refine sound_putE h (v := .bool (!r)) (exec_bin hop hguard ?_) (.bool _)
             rw [hxe, hye, run_neq_struct, heq]; rfl
         · cases hd)
  unfold dlBin at hd
  split at hd
  · simp only [Option.bind_eq_some_iff, Option.map_eq_some_iff] at hd
    obtain ⟨_, _, z, _, hd⟩ := hd
    subst hd; exact hg.elim
  · simp only [Option.bind_eq_some_iff, Option.map_eq_some_iff] at hd
    obtain ⟨_, _, z, _, hd⟩ := hd
    subst hd; exact hg.elim
  · exact key hu hv hd
/-- a pointer held against nil -/
theorem tpt_un {t : Nat} (h : tpt P t = true) : P.underlying t = some (.pointer (P.pointee t)) := by
 unfold tpt at h
 unfold Program.pointee
 split at h
 ·rename_i e he; rw [he]
 ·cases h
theorem isNilP_eq {y : Operand} (h : isNilP y = true) : y = .const (.pointer none) := by
 unfold isNilP at h
 split at h
 ·rfl
 ·cases h
theorem sound_pn (h : In P S F0 w0 F ρ w a s c o) {op : BinOp} {t ty : Nat} {x y : Operand} (hop : o.op = .binOp op t x y ty) (hn : isNilP y = true) {u : SV PV} (hu : opv pvAlg c x = some u)
  (hd : dlPn P op t u = some cmd) (hg : cmd.gives P δ) : o.wpr ro P a w (Post S F0 w0 a (s.ap o.dst δ)) Q := by
 have hy : a.eval y = .pointer none := by rw [isNilP_eq hn]; rfl
 unfold dlPn at hd
 split at hd
 ·rename_i hc
  have ht := tpt_un hc
  have hx := h.opv hu
  split at hd
  ·simp at hd; subst hd; simp only [Cmd.gives] at hg; subst hg
   obtain ⟨b, _, hv⟩ := hx
   refine sound_val h (exec_bin hop (by rw [hv]; exact eqGuard_plain ⟨by simp, by simp⟩) (by rw [hv, hy]; exact run_eql_pointer_nil w t _ ht)) rfl ?_
   intro sv hs; simp only [Option.some.injEq] at hs; subst hs; exact (rfl : _ = _)
  ·simp at hd; subst hd; simp only [Cmd.gives] at hg; subst hg
   obtain ⟨b, _, hv⟩ := hx
   refine sound_val h (exec_bin hop (by rw [hv]; exact eqGuard_plain ⟨by simp, by simp⟩) (by rw [hv, hy]; exact run_neq_pointer_nil w t _ ht)) rfl ?_
   intro sv hs; simp only [Option.some.injEq] at hs; subst hs; exact (rfl : _ = _)
  ·simp at hd; subst hd
   obtain ⟨z, hz, rfl⟩ := hg
   have hx : Rep F w (a.eval x) _ := hx
   rcases ev_pnil hz with ⟨he, rfl⟩ | ⟨q, he, rfl⟩
   ·simp at he; subst he
    have hv : a.eval x = .pointer none := by
     generalize a.eval x = V at hx
     cases hx; rfl
    exact sound_putE h (exec_bin hop (by rw [hv]; exact eqGuard_plain ⟨by simp, by simp⟩) (by rw [hv, hy]; exact run_eql_pointer_nil w t _ ht)) (.bool _)
   ·simp at he; subst he
    obtain ⟨q, hv⟩ : ∃ q, a.eval x = .pointer (some q) := by
     generalize a.eval x = V at hx
     cases hx; exact ⟨_, rfl⟩
    exact sound_putE h (exec_bin hop (by rw [hv]; exact eqGuard_plain ⟨by simp, by simp⟩) (by rw [hv, hy]; exact run_eql_pointer_nil w t _ ht)) (.bool _)
  ·simp at hd; subst hd
   obtain ⟨z, hz, rfl⟩ := hg
   have hx : Rep F w (a.eval x) _ := hx
   rcases ev_pnil hz with ⟨he, rfl⟩ | ⟨q, he, rfl⟩
   ·simp at he; subst he
    have hv : a.eval x = .pointer none := by
     generalize a.eval x = V at hx
     cases hx; rfl
    exact sound_putE h (exec_bin hop (by rw [hv]; exact eqGuard_plain ⟨by simp, by simp⟩) (by rw [hv, hy]; exact run_neq_pointer_nil w t _ ht)) (.bool _)
   ·simp at he; subst he
    obtain ⟨q, hv⟩ : ∃ q, a.eval x = .pointer (some q) := by
     generalize a.eval x = V at hx
     cases hx; exact ⟨_, rfl⟩
    exact sound_putE h (exec_bin hop (by rw [hv]; exact eqGuard_plain ⟨by simp, by simp⟩) (by rw [hv, hy]; exact run_neq_pointer_nil w t _ ht)) (.bool _)
  ·cases hd
 ·cases hd
/-- a slice held against nil -/
theorem sound_nilq (h : In P S F0 w0 F ρ w a s c o) {op : BinOp} {t ty : Nat} {x y : Operand} (hop : o.op = .binOp op t x y ty) {u v : SV PV} (hu : opv pvAlg c x = some u) (hv : opv pvAlg c y = some v)
    {yl : PV} {l : List PV} (hyl : yl.unm = .sl l) {pos : Bool} (hd : dlBin pvAlg P c op t u v = some (.nilq yl pos)) :
    o.wpr ro P a w (fun a' w' => ∃ b : Bool, (b = pos → l = []) ∧ Post S F0 w0 a (s.ap o.dst { dst := some (.at (.kb b)) }) a' w') Q := by
  have main : ∀ (e : Nat), tel P t = some e → asE pvAlg c u = some yl → v = .at .nils → ((op = .eql ∧ pos = true) ∨ (op = .neq ∧ pos = false)) →
      o.wpr ro P a w (fun a' w' => ∃ b : Bool, (b = pos → l = []) ∧ Post S F0 w0 a (s.ap o.dst { dst := some (.at (.kb b)) }) a' w') Q := by
    rintro e he hz rfl hp
    have ht := tel_un he
    have hy : a.eval y = .slice none 0 0 := h.opv hv
    have hr : Rep F w (a.eval x) yl := asE_rep h.rc.ob (h.opv hu) hz
    have : ∃ ad n cp, a.eval x = .slice ad n cp ∧ (ad = none → l = []) := by
      generalize a.eval x = V at hr
      rcases rep_unm hr hyl with ⟨p, rfl, rfl⟩ | ⟨b, o, cap, n, g, rfl, _⟩
      · exact ⟨p, 0, 0, rfl, fun _ => rfl⟩
      · exact ⟨some ⟨b, o, none⟩, _, cap, rfl, fun h => by cases h⟩
    obtain ⟨ad, n, cp, hx, hn⟩ := this
    have heq := run_equal_slice_nil w t e ad n cp ht
    have hb : (binOp op t (a.eval x) (a.eval y)).run P w = .ok (.bool (if ad.isNone then pos else !pos)) w := by
      rw [hx, hy]
      rcases hp with ⟨rfl, rfl⟩ | ⟨rfl, rfl⟩
      · simp only [binOp]
        cases ad <;> simp [heq]
      · simp only [binOp]
        cases ad <;> simp [heq]
    refine wp_value (exec_bin hop ?_ hb) ⟨if ad.isNone then pos else !pos, fun hpos => ?_, post_val h.r h.dst rfl ?_⟩
    · rw [hx]; exact eqGuard_plain ⟨by simp, by simp⟩
    · cases ad with
      | none => exact hn rfl
      | some p => simp at hpos
    · intro sv hs; simp only [Option.some.injEq] at hs; subst hs; exact (rfl : _ = _)
  unfold dlBin at hd
  split at hd
  · simp only [Option.bind_eq_some_iff, Option.map_eq_some_iff] at hd
    obtain ⟨e, he, z, hz, hd⟩ := hd
    simp at hd; obtain ⟨rfl, rfl⟩ := hd
    exact main e he hz rfl (.inl ⟨rfl, rfl⟩)
  · simp only [Option.bind_eq_some_iff, Option.map_eq_some_iff] at hd
    obtain ⟨e, he, z, hz, hd⟩ := hd
    simp at hd; obtain ⟨rfl, rfl⟩ := hd
    exact main e he hz rfl (.inr ⟨rfl, rfl⟩)
  · exfalso
    simp only [dlBin.bin, Option.bind_eq_bind, Option.bind_eq_some_iff] at hd
    obtain ⟨p, _, q, _, hd⟩ := hd
    split at hd <;> try (simp at hd; done)
    all_goals first
      | (split at hd <;> simp at hd; done)
      | (simp only [Option.bind_eq_some_iff] at hd
         obtain ⟨n, _, ks, _, hd⟩ := hd
         split at hd <;> simp at hd)
theorem sound_un (h : In P S F0 w0 F ρ w a s c o) {op : UnOp} {t : Nat} {x : Operand} (hop : o.op = .unOp op t x) {u : PV} (hu : ((opv pvAlg c x).bind (asE pvAlg c)) = some u)
  (hd : dlUn P op t u = some cmd) (hg : cmd.gives P δ) : o.wpr ro P a w (Post S F0 w0 a (s.ap o.dst δ)) Q := by
 have hx := h.asE hu
 unfold dlUn at hd
 cases op with
 | not =>
  simp at hd; subst hd
  obtain ⟨z, hz, rfl⟩ := hg
  obtain ⟨b, he, rfl⟩ := ev_bnot hz
  simp at he; subst he
  refine sound_putE h (v := .bool (!b)) ?_ (.bool _)
  simp [execOp, hop, rep_bool hx, Op.unary]
 | neg =>
  simp only [Option.bind_eq_bind, Option.bind_eq_some_iff] at hd
  obtain ⟨k, _, hd⟩ := hd
  simp at hd; subst hd
  obtain ⟨z, hz, rfl⟩ := hg
  obtain ⟨n, he, rfl⟩ := ev_neg hz
  simp at he; subst he
  refine sound_putE h (v := .int k (k.wrap (0 - n))) ?_ (.int _ _)
  simp [execOp, hop, rep_int hx, Op.unary, Op.intArith]
 | _ => simp at hd
theorem sound_convert (h : In P S F0 w0 F ρ w a s c o) {src dst : Nat} {x : Operand} (hop : o.op = .convert src dst x) {u : SV PV} (hu : opv pvAlg c x = some u)
  (hd : dlConv pvAlg P c src dst u = some cmd) (hg : cmd.gives P δ) : o.wpr ro P a w (Post S F0 w0 a (s.ap o.dst δ)) Q := by
 unfold dlConv at hd
 split at hd
 ·rename_i k0 k h1 h2
  simp only [Option.bind_eq_bind, Option.bind_eq_some_iff] at hd
  obtain ⟨z, hz, hd⟩ := hd
  simp at hd; subst hd
  obtain ⟨y, hy, rfl⟩ := hg
  obtain ⟨k', n, he, rfl⟩ := ev_conv hy
  simp at he; subst he
  have hx := rep_int (asE_rep h.rc.ob (h.opv hu) hz)
  refine sound_putE h (v := .int k (k.wrap n)) ?_ (.int _ _)
  simp [execOp, hop, hx, convert, run_underlying h1, run_underlying h2, Conv.intToInt]
 ·rename_i h1 h2
  simp only [Option.map_eq_some_iff] at hd
  obtain ⟨z, hz, hd⟩ := hd
  subst hd
  obtain ⟨y, hy, rfl⟩ := hg
  obtain ⟨b, he, rfl⟩ := ev_sid hy
  simp at he; subst he
  have hx := rep_str (asE_rep h.rc.ob (h.opv hu) hz)
  refine sound_putE h (v := .string b) ?_ (.str _)
  simp [execOp, hop, hx, convert, run_underlying h1, run_underlying h2]
 ·cases hd
end
end Go.Lf
/- Each operation does what its reading says: parts, addresses, closures. -/
namespace Go.Lf
variable [Mk] [Gl]
open Go.RowKit
section
variable {ro : Option Nat} {P : Program} {H : Hint} {S : Fx} {F0 : Nat → Nat → Prop} {w0 : World} {F : Nat → Nat → Prop} {ρ : Nat → Value} {w : World} {a : Act} {s c : St PV}
 {Q : Exit → Act → World → Prop} {o : Oper} {δ : Dl PV} {cmd : Cmd PV}
theorem addr_add (b o n : Nat) : (⟨b, o, none⟩ : Addr).add n = ⟨b, o + n, none⟩ := Addr.add_mid b o n
/-! ### fields -/
theorem exec_fieldAddr {t : Nat} {x : Operand} {f : Nat} (hop : o.op = .fieldAddr t x f) {fs : Array Field} (hu : P.underlying t = some (.struct fs)) {fd : Field} (hf : fs[f]? = some fd) {n : Nat} (hn : tsz P fd.type = some n) (h0 : n ≠ 0)
  {b off : Nat} (hx : a.eval x = .pointer (some ⟨b, off, none⟩)) : (execOp a.eval o).run P w = .ok (.value (.pointer (some ⟨b, off + fd.offset, none⟩))) w := by
 simp [execOp, hop, Instr.fieldAt, run_underlying hu, hf, hx, Instr.sureAddr, fieldPlace, run_sizeOf' hn, h0, addr_add]
theorem sound_dlFieldAddr (h : In P S F0 w0 F ρ w a s c o) {t : Nat} {x : Operand} {f : Nat} (hop : o.op = .fieldAddr t x f) {p : A PV} (hv : opv pvAlg c x = some (.at p))
  (hd : dlFieldAddr P c t p f = some cmd) (hg : cmd.gives P δ) : o.wpr ro P a w (Post S F0 w0 a (s.ap o.dst δ)) Q := by
 have hp : RepA F ρ w (a.eval x) p := h.opv hv
 unfold dlFieldAddr at hd
 split at hd
 ·rename_i fs hu
  simp only [Option.bind_eq_bind, Option.bind_eq_some_iff] at hd
  obtain ⟨fd, hf, n, hn, hd⟩ := hd
  split at hd
  ·cases hd
  ·rename_i h0
   have h0' : n ≠ 0 := by simpa using h0
   split at hd
   ·rename_i u off
    simp at hd; subst hd; simp only [Cmd.gives] at hg; subst hg
    obtain ⟨b, h1, h2⟩ := hp
    exact sound_val h (exec_fieldAddr hop hu hf hn h0' h2) rfl (repS_put ⟨b, h1, rfl⟩)
   ·rename_i y m ag off
    simp at hd; subst hd; simp only [Cmd.gives] at hg; subst hg
    obtain ⟨hk, b, u, h1, h2⟩ := hp
    exact sound_val h (exec_fieldAddr hop hu hf hn h0' h1) rfl (repS_put ⟨hk, b, u, by rw [Nat.add_assoc], h2⟩)
   ·rename_i u i sz off
    simp at hd; subst hd; simp only [Cmd.gives] at hg; subst hg
    obtain ⟨g, len, cap, k, j, h1, h2, h3, h4, h5⟩ := hp
    exact sound_val h (exec_fieldAddr hop hu hf hn h0' h5) rfl (repS_put ⟨g, len, cap, k, j, h1, h2, h3, h4, by rw [Nat.add_assoc]⟩)
   ·rename_i y
    simp only [Option.bind_eq_some_iff] at hd
    obtain ⟨m, hm, hd⟩ := hd
    simp at hd; subst hd
    obtain ⟨z, hz, rfl⟩ := hg
    obtain ⟨he, hok⟩ := ev_unbox hz
    simp at he; subst he
    have hr : Rep F w (a.eval x) (.box z) := hp
    have : ∃ b base, a.eval x = .pointer (some ⟨b, base, none⟩) := by
     generalize a.eval x = v at hr
     cases hr with
     | box b o x g => exact ⟨b, o, rfl⟩
    obtain ⟨b, base, hb⟩ := this
    rw [hb] at hr
    exact sound_val h (exec_fieldAddr hop hu hf hn h0' hb) rfl (repS_put ⟨hok, b, base, rfl, hr⟩)
   ·cases hd
 ·cases hd
theorem sound_dlField (h : In P S F0 w0 F ρ w a s c o) {t : Nat} {x : Operand} {f : Nat} (hop : o.op = .field t x f) {v : SV PV} (hv : opv pvAlg c x = some v)
  (hd : dlField pvAlg P c t v f = some cmd) (hg : cmd.gives P δ) : o.wpr ro P a w (Post S F0 w0 a (s.ap o.dst δ)) Q := by
 have hp : RepS F ρ w (a.eval x) v := h.opv hv
 unfold dlField at hd
 split at hd
 ·rename_i fs hu
  simp only [Option.bind_eq_bind, Option.bind_eq_some_iff] at hd
  obtain ⟨fd, hf, m, hm, n, hn, g, hgt, hd⟩ := hd
  have fin : ∀ {cells : Array Value} {fz : Bool} {cs : Cs PV} {u : SV PV}, a.eval x = .agg cells → cells.size = n → RepCs F ρ w fz n true cells cs → loadCs pvAlg n true cs m g fd.offset = some u →
    ∃ v, (execOp a.eval o).run P w = .ok (.value v) w ∧ RepS F ρ w v u := by
   intro cells fz cs u hx hsz hcs hl
   obtain ⟨h1, h2⟩ := loadCs_rep hsz hcs hl
   have run : ∀ v, (part fd.type cells fd.offset).run P w = .ok v w → (execOp a.eval o).run P w = .ok (.value v) w := fun v hv => by
    simp [execOp, hop, Instr.field, run_underlying hu, hf, hx, asAgg, hv]
   cases g with
   | true =>
    refine ⟨_, run (.agg (cells.extract fd.offset (fd.offset + m))) ?_, (h1 rfl).2⟩
    simp [part, run_isAgg hgt, run_sizeOf' hm]
   | false =>
    obtain ⟨_, u', hu', hr⟩ := h2 rfl
    refine ⟨u', run u' ?_, hr⟩
    simp [part, run_isAgg hgt, hu']
  cases v with
  | agg l =>
   simp only at hd
   split at hd
   ·rename_i hlen
    simp only [Option.map_eq_some_iff] at hd
    obtain ⟨u, hl, rfl⟩ := hd
    simp only [Cmd.gives] at hg; subst hg
    obtain ⟨cells, h1, h2, h3⟩ := hp
    have hlen' : l.length = n := by simpa using hlen
    obtain ⟨v, hr, hv⟩ := fin (fz := false) (cs := .pts l) h1 (by omega) ⟨rfl, hlen', h3⟩ hl
    exact sound_val h hr rfl (repS_put hv)
   ·cases hd
  | «at» p =>
   cases p with
   | dat y =>
    simp only [Option.bind_eq_some_iff] at hd
    obtain ⟨u, hl, hd⟩ := hd
    simp at hd; subst hd
    obtain ⟨z, hz, rfl⟩ := hg
    obtain ⟨he, hok⟩ := ev_okc hz
    simp at he; subst he
    have hr : Rep F w (a.eval x) y := hp
    have hag := cells_of_agg (okc_cells hok).2
    have : ∃ cells, a.eval x = .agg cells := by
     rw [hag] at hr
     generalize a.eval x = v at hr
     cases hr with
     | agg cs xs _ _ _ => exact ⟨cs, rfl⟩
    obtain ⟨cells, hcx⟩ := this
    obtain ⟨c1, c2⟩ := hr.cells
    rw [hcx] at c1 c2
    have hsz : cells.size = n := by have := (okc_cells hok).1; simp [Value.cells] at c1; omega
    obtain ⟨v, hrun, hv⟩ := fin (fz := false) (cs := .wh y) hcx hsz ⟨hok, okc_all hok, fun i u y h1 h2 => c2 i u y h1 h2⟩ hl
    exact sound_val h hrun rfl (fun sv hs => by simp only [hl, Option.some.injEq] at hs; subst hs; exact hv)
   | _ => simp at hd
 ·cases hd
end
end Go.Lf
/- Each operation does what its reading says: indices, slices, tuples, functions. -/
namespace Go.Lf
variable [Mk] [Gl]
open Go.RowKit
section
variable {ro : Option Nat} {P : Program} {H : Hint} {S : Fx} {F0 : Nat → Nat → Prop} {w0 : World} {F : Nat → Nat → Prop} {ρ : Nat → Value} {w : World} {a : Act} {s c : St PV}
 {Q : Exit → Act → World → Prop} {o : Oper} {δ : Dl PV} {cmd : Cmd PV}
theorem exec_indexAddr {t e sz : Nat} {x i : Operand} (hop : o.op = .indexAddr t x i) (ht : tel P t = some e) (hs : tsz P e = some sz) {b off len cap : Nat} {k : IntKind} {n : Int}
  (hx : a.eval x = .slice (some ⟨b, off, none⟩) len cap) (hi : a.eval i = .int k n) (h0 : 0 ≤ n) (h1 : n < len) :
  (execOp a.eval o).run P w = .ok (.value (.pointer (some ⟨b, off + n.toNat * sz, none⟩))) w := by
 have hu := tel_un ht
 simp [execOp, hop, Instr.indexAt, run_underlying hu, hx, hi, asIntOf, h0, h1, run_sizeOf' hs, addr_add]
/-- an element of a slice that reads as data -/
theorem rep_elem {v : Value} {yl : PV} {l : List PV} (hr : Rep F w v yl) (hyl : yl.unm = .sl l) {i : Nat} {z : PV} (hz : l[i]? = some z) {sz : Nat} {ag : Bool} (hok : z.okc sz ag = true) :
  ∃ b off cap, v = .slice (some ⟨b, off, none⟩) l.length cap ∧ i < l.length ∧ Rep F w (.pointer (some ⟨b, off + i * sz, none⟩)) (.box z) := by
 rcases rep_unm hr hyl with ⟨p, rfl, rfl⟩ | ⟨b, o, cap, n, g, rfl, hcap, hm, hn, hc, hg, hrr⟩
 ·simp at hz
 ·
  have hlt : i < l.length := by
   rcases Nat.lt_or_ge i l.length with h | h
   ·exact h
   ·rw [List.getElem?_eq_none h] at hz; cases hz
  have hnz : n = sz := by rw [← hn z (List.mem_of_getElem? hz)]; exact (okc_cells hok).1
  subst hnz
  exact ⟨b, o, cap, rfl, hlt, .box b (o + i * n) z (fun j => g i j) (hc z (List.mem_of_getElem? hz)) (fun j y hj => hg i z j y hz hj) fun j y hj => hrr i z j y hz hj⟩
theorem tarr_un {t k e : Nat} (h : tarr P t = some (k, e)) : P.underlying t = some (.array k e) := by
 unfold tarr at h
 split at h
 ·rename_i h2; simp at h; obtain ⟨rfl, rfl⟩ := h; exact h2
 ·cases h
theorem exec_indexArr {t k e sz : Nat} {x i : Operand} (hop : o.op = .indexAddr t x i) (ht : tarr P t = some (k, e)) (hs : tsz P e = some sz) {b off : Nat} {q : IntKind} {n : Int}
  (hx : a.eval x = .pointer (some ⟨b, off, none⟩)) (hi : a.eval i = .int q n) (h0 : 0 ≤ n) (h1 : n < k) :
  (execOp a.eval o).run P w = .ok (.value (.pointer (some ⟨b, off + n.toNat * sz, none⟩))) w := by
 have hu := tarr_un ht
 simp [execOp, hop, Instr.indexAt, run_underlying hu, hx, hi, Instr.sureAddr, asIntOf, h0, h1, run_sizeOf' hs, addr_add]
theorem sound_dlIndexArr (h : In P S F0 w0 F ρ w a s c o) {t k e : Nat} {x i : Operand} (hop : o.op = .indexAddr t x i) (ht : tarr P t = some (k, e)) {u j : SV PV} (hu : opv pvAlg c x = some u) (hj : opv pvAlg c i = some j)
  (hd : dlIndexArr pvAlg P c k e u j = some cmd) (hg : cmd.gives P δ) : o.wpr ro P a w (Post S F0 w0 a (s.ap o.dst δ)) Q := by
 have hp : RepS F ρ w (a.eval x) u := h.opv hu
 simp only [dlIndexArr, Option.bind_eq_bind, Option.bind_eq_some_iff] at hd
 obtain ⟨sz, hsz, q, hq, hd⟩ := hd
 have hi : Rep F w (a.eval i) q := asE_rep h.rc.ob (h.opv hj) hq
 split at hd
 ·rename_i p n off
  split at hd
  ·rename_i hc
   simp only [Bool.and_eq_true, beq_iff_eq] at hc
   obtain ⟨rfl, rfl⟩ := hc
   simp at hd; subst hd
   obtain ⟨z, hz, rfl⟩ := hg
   obtain ⟨l, qk, i', hee, h0, h1, hl, hok, hcells⟩ := ev_aidx hz
   simp at hee; obtain ⟨rfl, rfl⟩ := hee
   obtain ⟨hk, b, base, hv, hb⟩ := hp
   rw [Nat.add_zero] at hv
   refine sound_val h (exec_indexArr hop ht hsz hv (rep_int hi) h0 h1) rfl (repS_put ⟨hok, b, base + i'.toNat * sz, rfl, ?_⟩)
   cases hb with
   | box _ _ _ g hc hgc hr =>
    refine .box b (base + i'.toNat * sz) z (fun j => g (i'.toNat * sz + j)) (okc_all hok) (fun j y hj => ?_) fun j y hj => hr _ _ (hcells j y hj)
    rw [Nat.add_assoc]
    exact hgc _ _ (hcells j y hj)
  ·cases hd
 ·cases hd
theorem sound_dlIndexOwn (h : In P S F0 w0 F ρ w a s c o) {t k e : Nat} {x i : Operand} (hop : o.op = .indexAddr t x i) (ht : tarr P t = some (k, e)) {u off : Nat} {j : SV PV} (hu : opv pvAlg c x = some (.at (.ptr u off))) (hj : opv pvAlg c i = some j)
  (hd : dlIndexOwn pvAlg P c k e (cixOf i) u off j = some cmd) (hg : cmd.gives P δ) : o.wpr ro P a w (Post S F0 w0 a (s.ap o.dst δ)) Q := by
 obtain ⟨b, hρ, hx⟩ : RepP ρ (a.eval x) u off := h.opv hu
 unfold dlIndexOwn at hd
 split at hd
 ·rename_i fz n cs hgo
  split at hd
  ·rename_i hcond
   simp only [Bool.and_eq_true, beq_iff_eq] at hcond
   obtain ⟨⟨rfl, rfl⟩, hsz, _⟩ := hcond
   split at hd
   ·rename_i ci hci
    split at hd
    ·rename_i hlt
     simp at hd; subst hd
     simp only [Cmd.gives] at hg; subst hg
     have hlt' : ci < n := by simpa [Nat.blt_eq] using hlt
     unfold cixOf at hci
     split at hci
     ·rename_i q m
      split at hci
      ·rename_i h0
       simp at hci; subst hci
       refine sound_val h (exec_indexArr hop ht hsz hx (q := q) (n := m) rfl h0 (by omega)) rfl (repS_put ⟨b, hρ, by simp⟩)
      ·cases hci
     ·cases hci
    ·cases hd
   ·simp only [Option.bind_eq_some_iff, Option.map_eq_some_iff] at hd
    obtain ⟨q, hq, y, hy, rfl⟩ := hd
    obtain ⟨z, hz, rfl⟩ := hg
    obtain ⟨l, k, m, he, hj0, hj1, hlen, hok, hcells⟩ := ev_aidx hz
    simp at he; obtain ⟨rfl, rfl⟩ := he
    have hi : Rep F w (a.eval i) (.int k m) := asE_rep h.rc.ob (h.opv hj) hq
    refine sound_val h (exec_indexArr hop ht hsz hx (rep_int hi) hj0 (by omega)) rfl (repS_put ⟨b, k, m, hρ, rfl, hj0, by simp⟩)
  ·cases hd
 ·cases hd
theorem sound_dlIndexAddr (h : In P S F0 w0 F ρ w a s c o) {t : Nat} {x i : Operand} (hop : o.op = .indexAddr t x i) {u j : SV PV} (hu : opv pvAlg c x = some u) (hj : opv pvAlg c i = some j)
  (hd' : dlIndexAddr pvAlg P c t (cixOf i) u j = some cmd) (hg : cmd.gives P δ) : o.wpr ro P a w (Post S F0 w0 a (s.ap o.dst δ)) Q := by
 cases ht : tarr P t with
 | some p =>
  cases u with
  | agg l => exact sound_dlIndexArr h hop ht hu hj (by unfold dlIndexAddr at hd'; rw [ht] at hd'; exact hd') hg
  | «at» q =>
   cases q with
   | ptr u off => exact sound_dlIndexOwn h hop ht hu hj (by unfold dlIndexAddr at hd'; rw [ht] at hd'; exact hd') hg
   | _ => exact sound_dlIndexArr h hop ht hu hj (by unfold dlIndexAddr at hd'; rw [ht] at hd'; exact hd') hg
 | none =>
 have hd : dlIndexAddr.dlIndexSl pvAlg P c t u j = some cmd := by
  unfold dlIndexAddr at hd'
  rw [ht] at hd'
  exact hd'
 have hp : RepS F ρ w (a.eval x) u := h.opv hu
 simp only [dlIndexAddr.dlIndexSl, Option.bind_eq_bind, Option.bind_eq_some_iff] at hd
 obtain ⟨e, he, sz, hsz, q, hq, hd⟩ := hd
 have hi : Rep F w (a.eval i) q := asE_rep h.rc.ob (h.opv hj) hq
 -- a frozen content: the element's place
 have froz : ∀ {p : PV}, Rep F w (a.eval x) p → (∃ z, (Prim.idx sz (tag P e)).ev [p, q] = some z ∧ δ = put (.at (.bptr z sz (tag P e) 0))) → o.wpr ro P a w (Post S F0 w0 a (s.ap o.dst δ)) Q := by
  rintro p hr ⟨z, hz, rfl⟩
  obtain ⟨yl, l, k, n, hee, hyl, h0, hl, hok⟩ := ev_idx hz
  simp at hee; obtain ⟨rfl, rfl⟩ := hee
  obtain ⟨b, off, cap, hx, hlt, hb⟩ := rep_elem hr hyl hl hok
  refine sound_val h (exec_indexAddr hop he hsz hx (rep_int hi) h0 (by omega)) rfl (repS_put ⟨hok, b, off + n.toNat * sz, rfl, hb⟩)
 split at hd
 ·rename_i u'
  split at hd
  ·rename_i ty sz' ag' p hgo
   split at hd
   ·simp at hd; subst hd
    exact froz (by rw [hp.1]; exact rep_arr (h.rc.ob.rep _ _ hgo)) hg
   ·cases hd
  ·rename_i ty sz' ag' p hgo
   split at hd
   ·rename_i hcond
    simp only [Bool.and_eq_true, beq_iff_eq] at hcond
    obtain ⟨rfl, rfl⟩ := hcond
    simp at hd; subst hd
    obtain ⟨z, hz, rfl⟩ := hg
    obtain ⟨yl, l, k, n, hee, hyl, h0, hl, hok⟩ := ev_idx hz
    simp at hee; obtain ⟨rfl, rfl⟩ := hee
    have hlt : n.toNat < l.length := by
     rcases Nat.lt_or_ge n.toNat l.length with h | h
     ·exact h
     ·rw [List.getElem?_eq_none h] at hl; cases hl
    obtain ⟨es, hes, _, _, ⟨h6, h7⟩ | ⟨g, cap, cur, h6, _⟩⟩ := h.rc.ob.rep _ _ hgo
    ·subst hes; obtain rfl : l = es := (PV.sl.inj hyl).symm; subst h7; simp at hlt
    ·subst hes; obtain rfl : l = es := (PV.sl.inj hyl).symm
     have hx : a.eval x = .slice (some ⟨g, 0, none⟩) l.length cap := by rw [hp.1]; exact h6
     refine sound_val h (exec_indexAddr hop he hsz hx (rep_int hi) h0 (by omega)) rfl (repS_put ⟨g, l.length, cap, k, n, h6, rfl, h0, by omega, by rw [Nat.zero_add, Nat.add_zero]⟩)
   ·cases hd
  ·cases hd
 ·simp only [Option.bind_eq_some_iff] at hd
  obtain ⟨p, hpp, hd⟩ := hd
  simp at hd; subst hd
  exact froz (asE_rep h.rc.ob hp hpp) hg
theorem sound_index (h : In P S F0 w0 F ρ w a s c o) {t : Nat} {x i : Operand} (hop : o.op = .index t x i) {u j : PV} (hu : ((opv pvAlg c x).bind (asE pvAlg c)) = some u) (hj : ((opv pvAlg c i).bind (asE pvAlg c)) = some j)
  (ht : P.underlying t = some .string) {z : PV} (hz : Prim.sidx.ev [u, j] = some z) : o.wpr ro P a w (Post S F0 w0 a (s.ap o.dst (putE z))) Q := by
 obtain ⟨b, k, n, e, he, h0, hb, rfl⟩ := ev_sidx hz
 simp at he; obtain ⟨rfl, rfl⟩ := he
 have hx := rep_str (h.asE hu)
 have hi := rep_int (h.asE hj)
 refine sound_putE h (v := .int .u8 e.toNat) ?_ (.int _ _)
 simp [execOp, hop, Instr.index, hi, hx, asIntOf, run_underlying ht, h0, hb]
theorem sound_extract (h : In P S F0 w0 F ρ w a s c o) {t : Operand} {i : Nat} (hop : o.op = .extract t i) {x : PV} (hx : opv pvAlg c t = some (.at (.dat x))) {z : PV} (hz : (Prim.tc i).ev [x] = some z) :
  o.wpr ro P a w (Post S F0 w0 a (s.ap o.dst (putE z))) Q := by
 obtain ⟨l, he, hl⟩ := ev_tc hz
 simp at he; subst he
 have hr : Rep F w (a.eval t) (.tup l) := h.opv hx
 generalize hv : a.eval t = v at hr
 cases hr with
 | tup cs xs hlen hh =>
  have hlt : i < cs.size := by
   rw [hlen]
   rcases Nat.lt_or_ge i l.length with h | h
   ·exact h
   ·rw [List.getElem?_eq_none h] at hl; cases hl
  have hc : cs[i]? = some cs[i] := by simp [hlt]
  refine sound_putE h (v := cs[i]) ?_ (hh i _ z hc hl)
  simp [execOp, hop, Instr.extract, hv, hc]
/-! ### slices of slices and strings -/
theorem rep_slice {v : Value} {l : List PV} (hr : Rep F w v (.sl l)) : ∃ ad cap, v = .slice ad l.length cap ∧ l.length ≤ cap := by
 cases hr with
 | sl0 p => exact ⟨p, 0, rfl, Nat.le_refl _⟩
 | sl b o cap n xs g hcap => exact ⟨_, cap, rfl, hcap⟩
/-- a part of a slice that reads as data; 'm = lo' keeps the address -/
theorem rep_sub {v : Value} {l : List PV} (hr : Rep F w v (.sl l)) {ad : Option Addr} {cap : Nat} (hv : v = .slice ad l.length cap) {sz lo hi : Nat} (hsz : l ≠ [] → ∀ x ∈ l, x.cells.length = sz) (h1 : lo ≤ hi) (h2 : hi ≤ l.length) :
  Rep F w (.slice (if cap = lo then ad else ad.map (·.add (lo * sz))) (hi - lo) (cap - lo)) (.sl ((l.take hi).drop lo)) := by
 have hlen : ((l.take hi).drop lo).length = hi - lo := by simp; omega
 cases hr with
 | sl0 p =>
  simp at hv h2
  obtain ⟨rfl, rfl⟩ := hv
  subst h2
  have : lo = 0 := by omega
  subst this
  exact .sl0 p
 | sl b o cap' n xs g hcap hm hn hc hg hh hgn =>
  simp at hv
  obtain ⟨rfl, rfl⟩ := hv
  rw [← hlen]
  have get : ∀ {i : Nat} {x : PV}, ((l.take hi).drop lo)[i]? = some x → l[lo + i]? = some x := fun {i x} hi' => by
   rw [List.getElem?_drop, List.getElem?_take] at hi'
   split at hi'
   ·exact hi'
   ·cases hi'
  by_cases hcl : cap' = lo
  ·have hemp : (l.take hi).drop lo = [] := List.eq_nil_of_length_eq_zero (by omega)
   rw [if_pos hcl, hemp]
   exact .sl b o (cap' - lo) n [] g (Nat.zero_le _) (by omega) (by simp) (by simp) (fun i x j y h => by simp at h) (fun i x j y h => by simp at h) ⟨hgn.1, fun _ i x j y h => by simp at h⟩
  ·rw [if_neg hcl]
   simp only [Option.map_some, addr_add]
   by_cases hne : l = []
   ·subst hne
    simp only [List.take_nil, List.drop_nil]
    exact .sl b _ (cap' - lo) n [] g (Nat.zero_le _) (by omega) (by simp) (by simp) (fun i x j y h => by simp at h) (fun i x j y h => by simp at h) ⟨hgn.1, fun _ i x j y h => by simp at h⟩
   have hnz : n = sz := by
    obtain ⟨x, hx⟩ := List.exists_mem_of_ne_nil l hne
    rw [← hn x hx, hsz hne x hx]
   subst hnz
   have mem : ∀ x ∈ (l.take hi).drop lo, x ∈ l := fun x hx => List.mem_of_mem_take (List.mem_of_mem_drop hx)
   refine .sl b (o + lo * n) (cap' - lo) n _ (fun i j => g (lo + i) j) (by rw [hlen]; omega) (by omega) (fun x hx => hn x (mem x hx)) (fun x hx => hc x (mem x hx)) (fun i x j y hx hy => ?_) (fun i x j y hx hy => hh (lo + i) x j y (get hx) hy) ⟨hgn.1, fun h0 i x j y hx hy => by
    have := hgn.2 h0 (lo + i) x j y (get hx) hy
    rw [Nat.add_mul] at this
    rw [show o + lo * n + i * n + j = o + (lo * n + i * n) + j by omega]
    exact this⟩
   have := hg (lo + i) x j y (get hx) hy
   rw [Nat.add_mul] at this
   rw [show o + lo * n + i * n + j = o + (lo * n + i * n) + j by omega]
   exact this
theorem run_sliceB {isSl : Bool} {len cap : Nat} {lo hi : Option Value} {l h : Nat} (h1 : (match hi with | some v => ∃ k, v = .int k (h : Int) | none => h = len)) (h2 : (match lo with | some v => ∃ k, v = .int k (l : Int) | none => l = 0))
  (h3 : l ≤ h) (h4 : h ≤ len) (h5 : len ≤ cap) : (Instr.sliceBounds isSl len cap lo hi none).run P w = .ok (l, h, cap) w := by
 have sb : ∀ (k : IntKind) (n y : Nat) (code : BoundsCode), n ≤ y → (Instr.sliceBound (.int k (n : Int)) y code).run P w = .ok n w := by
  intro k n y code hn
  unfold Instr.sliceBound asIntOf
  simp only [Sem.run_bind, Sem.run_pure, Result.andThen_ok]
  rw [Sem.run_ite, if_pos ⟨by omega, by omega⟩]
  simp
 unfold Instr.sliceBounds
 cases hi with
 | none =>
  simp only at h1; subst h1
  cases lo with
  | none => simp only at h2; subst h2; simp
  | some v => obtain ⟨k, rfl⟩ := h2; simp [sb k l h _ h3]
 | some u =>
  obtain ⟨k, rfl⟩ := h1
  cases lo with
  | none => simp only at h2; subst h2; simp [sb k h cap _ (by omega)]
  | some v => obtain ⟨k', rfl⟩ := h2; simp [sb k h cap _ (by omega), sb k' l h _ h3]
theorem exec_slice {t e sz : Nat} {x : Operand} {lo hi : Option Operand} (hop : o.op = .slice t x lo hi none) (ht : P.underlying t = some (.slice e)) (hs : tsz P e = some sz) {ad : Option Addr} {len cap l h : Nat}
  (hx : a.eval x = .slice ad len cap) (hb : (Instr.sliceBounds true len cap (lo.map a.eval) (hi.map a.eval) none).run P w = .ok (l, h, cap) w) :
  (execOp a.eval o).run P w = .ok (.value (.slice (if cap = l then ad else ad.map (·.add (l * sz))) (h - l) (cap - l))) w := by
 simp [execOp, hop, Instr.sliceAt, Instr.slice, run_underlying ht, hx, hb, run_sizeOf' hs]
theorem exec_sliceS {t : Nat} {x : Operand} {lo hi : Option Operand} (hop : o.op = .slice t x lo hi none) (ht : P.underlying t = some .string) {sb : ByteArray} {l h c : Nat}
  (hx : a.eval x = .string sb) (hb : (Instr.sliceBounds false sb.size sb.size (lo.map a.eval) (hi.map a.eval) none).run P w = .ok (l, h, c) w) :
  (execOp a.eval o).run P w = .ok (.value (.string (sb.extract l h))) w := by
 simp [execOp, hop, Instr.sliceAt, Instr.slice, run_underlying ht, hx, hb]
theorem sound_dlArrSl (h : In P S F0 w0 F ρ w a s c o) {t k e : Nat} {x : Operand} (hop : o.op = .slice t x none none none) (ht : P.underlying t = some (.array k e)) {v : SV PV} (hv : opv pvAlg c x = some v)
  (hd : dlArrSl P k e v = some cmd) (hg : cmd.gives P δ) : o.wpr ro P a w (Post S F0 w0 a (s.ap o.dst δ)) Q := by
 simp only [dlArrSl, Option.bind_eq_bind, Option.bind_eq_some_iff] at hd
 obtain ⟨sz, hsz, hd⟩ := hd
 split at hd
 rotate_left
 ·cases hd
 rename_i y n off
 split at hd
 rotate_left
 ·cases hd
 rename_i hc
 simp only [Bool.and_eq_true, beq_iff_eq, decide_eq_true_eq] at hc
 obtain ⟨⟨⟨⟨rfl, rfl⟩, rfl⟩, hk0⟩, hk⟩ := hc
 cases hd
 obtain ⟨z, hz, rfl⟩ := hg
 obtain ⟨hok, b, o', hva, hrep⟩ : RepA F ρ w (a.eval x) (.bptr y n true 0) := h.opv hv
 have hz' : ∃ l, y = .agg l ∧ l.length = n ∧ (∀ u ∈ l, u.isCell = true) ∧ Mk.n = 0 ∧ z = .sl l := by
  unfold Prim.ev at hz
  split at hz <;> try (simp_all; done)
 obtain ⟨l, rfl, hl, hcl, hM, rfl⟩ := hz'
 have one : ∀ u ∈ l, u.cells = [u] := fun u hu => by
  have := hcl u hu
  cases u <;> simp_all [PV.isCell, PV.cells]
 have hk0' : 0 < n := by
  cases n with
  | zero => cases hk0
  | succ n => omega
 refine sound_putE h (v := .slice (some ⟨b, o', none⟩) n n) ?_ ?_
 ·simp [execOp, hop, Instr.sliceAt, run_underlying ht, hva, Instr.sureAddr, run_sliceB (P := P) (w := w) (isSl := false) (len := n) (cap := n) (lo := none) (hi := none) (l := 0) (h := n) rfl rfl (by omega) (by omega) (by omega), run_sizeOf' hsz, Nat.ne_of_gt hk0']
  rfl
 ·cases hrep with
  | box _ _ _ g hc hg hh =>
   have := Rep.sl (F := F) (w := w) b o' n 1 l (fun i _ => g i) (by omega) (by simp only [maxLen]; omega) (fun u hu => by rw [one u hu]; rfl) (fun u hu y hy => by rw [one u hu] at hy; obtain rfl := List.mem_singleton.1 hy; exact hcl _ hu)
    (fun i u j y hu hy => by
     rw [one u (List.mem_of_getElem? hu)] at hy
     cases j with
     | succ j => simp at hy
     | zero => simp at hy; subst hy; simpa using hg i u hu)
    (fun i u j y hu hy => by
     rw [one u (List.mem_of_getElem? hu)] at hy
     cases j with
     | succ j => simp at hy
     | zero => simp at hy; subst hy; exact hh i u hu)
   have := this ⟨by omega, fun h => by omega⟩
   rwa [hl] at this
theorem sound_dlSlice (h : In P S F0 w0 F ρ w a s c o) {t : Nat} {x : Operand} {lo hi mx : Option Operand} (hop : o.op = .slice t x lo hi mx) {v : SV PV} (hv : opv pvAlg c x = some v)
  (hd : dlSlice pvAlg P c t v lo hi mx = some cmd) (hg : cmd.gives P δ) : o.wpr ro P a w (Post S F0 w0 a (s.ap o.dst δ)) Q := by
 simp only [dlSlice, Option.bind_eq_bind, Option.bind_eq_some_iff] at hd
 obtain ⟨u, hu, str, hstr, hd⟩ := hd
 have hx : Rep F w (a.eval x) u := asE_rep h.rc.ob (h.opv hv) hu
 -- of a slice
 have slc : ∀ {n : Nat} {g : Bool} {l : List PV} {i j : Nat}, str = some (n, g) → u = .sl l → l.all (·.okc n g) = true → mx = none →
   (match hi with | some q => ∃ k, a.eval q = .int k (j : Int) | none => j = l.length) → (match lo with | some q => ∃ k, a.eval q = .int k (i : Int) | none => i = 0) → i ≤ j → j ≤ l.length →
   δ = putE (.sl ((l.take j).drop i)) → o.wpr ro P a w (Post S F0 w0 a (s.ap o.dst δ)) Q := by
  rintro n g l i j rfl rfl hall rfl hj hi' hij hjl rfl
  unfold slcTy at hstr
  split at hstr
  ·simp at hstr
  ·rename_i e ht
   simp only [Option.map_eq_some_iff] at hstr
   obtain ⟨n', hn, he⟩ := hstr
   simp at he; obtain ⟨rfl, rfl⟩ := he
   obtain ⟨ad, cap, hxv, hcap⟩ := rep_slice hx
   refine sound_putE h (exec_slice hop ht hn hxv (run_sliceB (h := j) (l := i) ?_ ?_ hij hjl hcap)) (rep_sub hx hxv (fun _ y hy => ?_) hij hjl)
   ·cases hi <;> simpa using hj
   ·cases lo <;> simpa using hi'
   ·simp only [List.all_eq_true] at hall
    exact (okc_cells (hall y hy)).1
  ·cases hstr
 have sls : ∀ {b : ByteArray} {i j : Nat}, str = none → u = .str b → mx = none →
   (match hi with | some q => ∃ k, a.eval q = .int k (j : Int) | none => j = b.size) → (match lo with | some q => ∃ k, a.eval q = .int k (i : Int) | none => i = 0) → i ≤ j → j ≤ b.size →
   δ = putE (.str (b.extract i j)) → o.wpr ro P a w (Post S F0 w0 a (s.ap o.dst δ)) Q := by
  rintro b i j rfl rfl rfl hj hi' hij hjl rfl
  unfold slcTy at hstr
  split at hstr
  ·rename_i ht
   refine sound_putE h (exec_sliceS hop ht (rep_str hx) (run_sliceB (h := j) (l := i) ?_ ?_ hij hjl (Nat.le_refl _))) (.str _)
   ·cases hi <;> simpa using hj
   ·cases lo <;> simpa using hi'
  ·simp only [Option.map_eq_some_iff] at hstr
   obtain ⟨_, _, he⟩ := hstr
   simp at he
  ·cases hstr
 have nn : ∀ {q : Operand} {k : IntKind} {n : Int}, Rep F w (a.eval q) (.int k n) → 0 ≤ n → ∃ k, a.eval q = .int k (n.toNat : Int) := fun hq h0 => ⟨_, by rw [rep_int hq, Int.toNat_of_nonneg h0]⟩
 split at hd
 ·rename_i l h'
  simp only [Option.bind_eq_some_iff] at hd
  obtain ⟨p, hp, q, hq, hd⟩ := hd
  simp at hd; subst hd
  obtain ⟨z, hz, rfl⟩ := hg
  have hl := h.asE (x := l) (by simpa [Option.bind_eq_some_iff] using hp)
  have hh := h.asE (x := h') (by simpa [Option.bind_eq_some_iff] using hq)
  cases str with
  | none =>
   obtain ⟨b, k, i, k', j, he, h0, h1, h2, rfl⟩ := ev_ssl hz
   simp at he; obtain ⟨rfl, rfl, rfl⟩ := he
   exact sls rfl rfl rfl (nn hh (by omega)) (nn hl h0) (by omega) (by omega) rfl
  | some pr =>
   obtain ⟨n, g⟩ := pr
   obtain ⟨ls, k, i, k', j, he, h0, h1, h2, hall, rfl⟩ := ev_slc hz
   simp at he; obtain ⟨rfl, rfl, rfl⟩ := he
   exact slc rfl rfl hall rfl (nn hh (by omega)) (nn hl h0) (by omega) (by omega) rfl
 ·rename_i l
  simp only [Option.bind_eq_some_iff] at hd
  obtain ⟨p, hp, hd⟩ := hd
  simp at hd; subst hd
  obtain ⟨z, hz, rfl⟩ := hg
  have hl := h.asE (x := l) (by simpa [Option.bind_eq_some_iff] using hp)
  cases str with
  | none =>
   obtain ⟨b, k, i, he, h0, h1, rfl⟩ := ev_sslF hz
   simp at he; obtain ⟨rfl, rfl⟩ := he
   exact sls rfl rfl rfl rfl (nn hl h0) (by omega) (by omega) rfl
  | some pr =>
   obtain ⟨n, g⟩ := pr
   obtain ⟨ls, k, i, he, h0, h1, hall, rfl⟩ := ev_slcF hz
   simp at he; obtain ⟨rfl, rfl⟩ := he
   exact slc (j := ls.length) rfl rfl hall rfl rfl (nn hl h0) (by omega) (by omega) (by simp)
 ·rename_i h'
  simp only [Option.bind_eq_some_iff] at hd
  obtain ⟨q, hq, hd⟩ := hd
  simp at hd; subst hd
  obtain ⟨z, hz, rfl⟩ := hg
  have hh := h.asE (x := h') (by simpa [Option.bind_eq_some_iff] using hq)
  cases str with
  | none =>
   obtain ⟨b, k, i, he, h0, h1, rfl⟩ := ev_sslT hz
   simp at he; obtain ⟨rfl, rfl⟩ := he
   exact sls rfl rfl rfl (nn hh h0) rfl (by omega) (by omega) rfl
  | some pr =>
   obtain ⟨n, g⟩ := pr
   obtain ⟨ls, k, i, he, h0, h1, hall, rfl⟩ := ev_slcT hz
   simp at he; obtain ⟨rfl, rfl⟩ := he
   exact slc (i := 0) rfl rfl hall rfl (nn hh h0) rfl (by omega) (by omega) (by simp)
 ·cases hd
/-! ### functions as values, checks for nil -/
theorem sound_makeFunc (h : In P S F0 w0 F ρ w a s c o) {f : Nat} {first captured : Array Operand} (hop : o.op = .makeFunc (.func f) first captured) {xs ys : List PV}
  (hxs : (first.toList.mapM fun o => (opv pvAlg c o).bind (asE pvAlg c)) = some xs) (hys : (captured.toList.mapM fun o => (opv pvAlg c o).bind (asE pvAlg c)) = some ys) :
  o.wpr ro P a w (Post S F0 w0 a (s.ap o.dst (putE (.fn f xs ys)))) Q := by
 have reps : ∀ {os : Array Operand} {l : List PV}, (os.toList.mapM fun o => (opv pvAlg c o).bind (asE pvAlg c)) = some l → Reps F w (os.map a.eval) l := by
  intro os l hl
  obtain ⟨h1, h2⟩ := mapM_some hl
  refine ⟨by simpa using h1.symm, fun i v x hv hx => ?_⟩
  rw [Array.getElem?_map] at hv
  simp only [Option.map_eq_some_iff] at hv
  obtain ⟨q, hq, rfl⟩ := hv
  exact h.asE (h2 i q x (by simpa using hq) hx)
 refine sound_putE h (v := .func (.func f) (first.map a.eval) (captured.map a.eval)) (by simp [execOp, hop, Instr.makeFunc]) ?_
 exact .fn f _ _ xs ys (reps hxs).1 (reps hys).1 (reps hxs).2 (reps hys).2
theorem sound_makeClo (h : In P S F0 w0 F ρ w a s c o) {f : Nat} {first captured : Array Operand} (hop : o.op = .makeFunc (.func f) first captured) {xs ys : List (Nat × Nat)}
  (hxs : (first.toList.mapM fun o => (opv pvAlg c o).bind ptrOf) = some xs) (hys : (captured.toList.mapM fun o => (opv pvAlg c o).bind ptrOf) = some ys) :
  o.wpr ro P a w (Post S F0 w0 a (s.ap o.dst (put (.at (.clo f xs ys))))) Q := by
 have reps : ∀ {os : Array Operand} {l : List (Nat × Nat)}, (os.toList.mapM fun o => (opv pvAlg c o).bind ptrOf) = some l → RepPs ρ (os.map a.eval) l := by
  intro os l hl
  obtain ⟨h1, h2⟩ := mapM_some hl
  refine ⟨by simpa using h1.symm, fun i v x hv hx => ?_⟩
  rw [Array.getElem?_map] at hv
  simp only [Option.map_eq_some_iff] at hv
  obtain ⟨q, hq, rfl⟩ := hv
  have := h2 i q x (by simpa using hq) hx
  simp only [Option.bind_eq_some_iff] at this
  obtain ⟨sv, hs, hp⟩ := this
  unfold ptrOf at hp
  split at hp
  ·simp at hp; subst hp; exact h.opv hs
  ·cases hp
 exact sound_val h (v := .func (.func f) (first.map a.eval) (captured.map a.eval)) (by simp [execOp, hop, Instr.makeFunc]) rfl (repS_put ⟨_, _, rfl, reps hxs, reps hys⟩)
theorem sound_nilCheck (h : In P S F0 w0 F ρ w a s c o) {x : Operand} (hop : o.op = .nilCheck x) {v : SV PV} (hv : opv pvAlg c x = some v)
  (hd : dlNil v = some cmd) (hg : cmd.gives P δ) : o.wpr ro P a w (Post S F0 w0 a (s.ap o.dst δ)) Q := by
 unfold dlNil at hd
 have hp := h.opv hv
 have run : ∀ {v : Value}, a.eval x = v → ((∃ ad, v = .pointer (some ad)) ∨ ∃ f p q, v = .func (.func f) p q) → (execOp a.eval o).run P w = .ok (.value v) w := by
  rintro v hx (⟨ad, rfl⟩ | ⟨f, p, q, rfl⟩) <;> simp [execOp, hop, hx]
 split at hd
 ·simp at hd; subst hd; simp only [Cmd.gives] at hg; subst hg
  obtain ⟨b, h1, h2⟩ := hp
  exact sound_val h (run h2 (.inl ⟨_, rfl⟩)) rfl (repS_put ⟨b, h1, rfl⟩)
 ·simp at hd; subst hd; simp only [Cmd.gives] at hg; subst hg
  obtain ⟨hk, b, u, h1, h2⟩ := hp
  exact sound_val h (run h1 (.inl ⟨_, rfl⟩)) rfl (repS_put ⟨hk, b, u, rfl, h2⟩)
 ·rename_i y
  simp at hd; subst hd
  obtain ⟨z, hz, rfl⟩ := hg
  obtain ⟨he, hz'⟩ := ev_notnil hz
  simp at he; subst he
  have hr : Rep F w (a.eval x) y := hp
  refine sound_putE h (run rfl ?_) hr
  generalize a.eval x = V at hr
  rcases hz' with ⟨f, p, q, rfl⟩ | ⟨u, rfl⟩
  ·cases hr; exact .inr ⟨_, _, _, rfl⟩
  ·cases hr; exact .inl ⟨_, rfl⟩
 ·simp at hd; subst hd; simp only [Cmd.gives] at hg; subst hg
  obtain ⟨va, vc, h1, h2, h3⟩ := hp
  exact sound_val h (run h1 (.inr ⟨_, _, _, rfl⟩)) rfl (repS_put ⟨va, vc, rfl, h2, h3⟩)
 ·cases hd
theorem sound_dlSlice' (h : In P S F0 w0 F ρ w a s c o) {t : Nat} {x : Operand} {lo hi mx : Option Operand} (hop : o.op = .slice t x lo hi mx) {v : SV PV} (hv : opv pvAlg c x = some v)
  (hd : dlSlice' pvAlg P c t v lo hi mx = some cmd) (hg : cmd.gives P δ) : o.wpr ro P a w (Post S F0 w0 a (s.ap o.dst δ)) Q := by
 unfold dlSlice' at hd
 split at hd
 ·rename_i p hp
  obtain ⟨k, e⟩ := p
  refine sound_dlArrSl h hop ?_ hv hd hg
  unfold tarr at hp
  split at hp
  ·rename_i n e' he; cases hp; exact he
  ·cases hp
 ·exact sound_dlSlice h hop hv hd hg
end
end Go.Lf
/- Each operation does what its reading says: stores, new arrays, appends. -/
namespace Go.Lf
variable [Mk] [Gl]
open Go.RowKit
section
variable {ro : Option Nat} {P : Program} {H : Hint} {S : Fx} {F0 : Nat → Nat → Prop} {w0 : World} {F : Nat → Nat → Prop} {ρ : Nat → Value} {w : World} {a : Act} {s c : St PV}
 {Q : Exit → Act → World → Prop} {o : Oper} {δ : Dl PV} {cmd : Cmd PV}
theorem kp_setRow (w : World) (b : Nat) (c : Array Value) : Kp (fun k => k = b) w (w.setRow b c) :=
 ⟨rfl, rfl, rfl, by simp, fun k _ hk => setRow_other w b k c hk⟩
theorem same_setRow {b : Nat} {c : Array Value} (hF : ∀ j, ¬ F b j) : ∀ b' j, F b' j → Same w (w.setRow b c) b' j := fun b' j hf =>
 Same.of_block (setRow_other w b b' c (fun e => hF j (e ▸ hf))) j
theorem exec_store {t : Nat} {x y : Operand} (hop : o.op = .store t x y) {w' : World} (h : (Instr.storeAt t (a.eval x) (a.eval y)).run P w = .ok () w') : (execOp a.eval o).run P w = .ok .skip w' := by
 simp [execOp, hop, h]
/-- a store into a variable -/
theorem sound_storeP (h : In P S F0 w0 F ρ w a s c o) {t m : Nat} {mag : Bool} {x y : Operand} (hop : o.op = .store t x y) (hm : tsz P t = some m) {u off : Nat} (hx : opv pvAlg c x = some (.at (.ptr u off)))
  {v : SV PV} (hy : opv pvAlg c y = some v) (hd : ∀ p, v = .at (.dat p) → p.okc m mag = true) {n : Nat} {ag : Bool} {cs cs' : Cs PV} (hgo : c.go u = some (.cells false n ag cs))
  (hs : storeCs pvAlg n ag cs m mag off v = some cs') : o.wpr ro P a w (Post S F0 w0 a (s.ap o.dst { dst := none, obs := [(u, some (.cells false n ag cs'))] })) Q := by
 obtain ⟨b, h1, h2⟩ := h.opv hx
 obtain ⟨b', cells, ty, g1, g2, g3, g4, g5⟩ := h.rc.ob.rep u _ hgo
 rw [h1] at g1; simp at g1; subst g1
 obtain ⟨hle, hsz, hone, hcs⟩ := storeCs_rep g3 g4 (h.opv hy) hd hs
 have hnF : ∀ j, ¬ F b j := fun j hj => by have := (g5 j).1 hj; simp at this
 have hrun := run_store_block (P := P) (t := t) g2 hm hsz hone (by omega : off + m ≤ cells.size)
 refine wp_skip' (exec_store hop (by rw [h2]; exact hrun)) (post_upd (o := u) (b := .cells false n ag cs) (k0 := b) h.r h.dst (h.sub.2 _ _ hgo) rfl rfl (by rw [h1]; rfl) (kp_setRow w b _) (same_setRow hnF) ?_)
 refine ⟨b, _, ty, h1, setRow_cells g2, ?_, hcs.mono (fun _ _ h => h) (same_setRow hnF) (fun _ _ _ _ _ _ => rfl), g5⟩
 simp; omega
theorem sound_store (h : In P S F0 w0 F ρ w a s c o) {t m : Nat} {x y : Operand} (hop : o.op = .store t x y) (hm : tsz P t = some m) {p : A PV} (hx : opv pvAlg c x = some (.at p))
  {v : SV PV} (hy : opv pvAlg c y = some v) (hd : guardPut m (tag P t) v (fun v => storeAtP pvAlg c p m (tag P t) v) = some cmd) (hg : cmd.gives P δ) : o.wpr ro P a w (Post S F0 w0 a (s.ap o.dst δ)) Q := by
 have go : ∀ {δ' : Dl PV}, storeAtP pvAlg c p m (tag P t) v = some δ' → (∀ q, v = .at (.dat q) → q.okc m (tag P t) = true) → o.wpr ro P a w (Post S F0 w0 a (s.ap o.dst δ')) Q := by
  intro δ' hst hok
  unfold storeAtP at hst
  split at hst
  ·rename_i u off
   split at hst
   ·rename_i n ag cs hgo
    simp only [Option.map_eq_some_iff] at hst
    obtain ⟨cs', hcs, rfl⟩ := hst
    exact sound_storeP h hop hm hx hy hok hgo hcs
   ·cases hst
  ·cases hst
 unfold guardPut at hd
 split at hd
 ·rename_i q
  simp only [Option.bind_eq_some_iff] at hd
  obtain ⟨δ', hst, hd⟩ := hd
  simp at hd; subst hd
  obtain ⟨z, hz, rfl⟩ := hg
  obtain ⟨he, hok⟩ := ev_okc hz
  simp at he; subst he
  simp only [hst, Option.getD_some]
  exact go hst fun q' e => by simp at e; subst e; exact hok
 ·rename_i hnd
  simp only [Option.map_eq_some_iff] at hd
  obtain ⟨δ', hst, rfl⟩ := hd
  simp only [Cmd.gives] at hg; subst hg
  exact go hst fun q e => absurd e (hnd q)
/-- the cells of an element of which a part is put anew -/
theorem part_get {e q : List PV} {off m j : Nat} {z : PV} (he : off + m ≤ e.length) (hq : q.length = m) (h : (e.take off ++ q ++ e.drop (off + m))[j]? = some z) : (off ≤ j ∧ j < off + m ∧ q[j - off]? = some z) ∨ ((j < off ∨ off + m ≤ j) ∧ e[j]? = some z) := by
 have l1 : (e.take off).length = off := by simp; omega
 by_cases h1 : j < off
 ·rw [List.append_assoc, List.getElem?_append_left (by omega), List.getElem?_take, if_pos h1] at h
  exact .inr ⟨.inl h1, h⟩
 ·by_cases h2 : j < off + m
  ·rw [List.append_assoc, List.getElem?_append_right (by omega), l1, List.getElem?_append_left (by omega)] at h
   exact .inl ⟨by omega, h2, h⟩
  ·rw [List.getElem?_append_right (by simp; omega)] at h
   have l2 : (e.take off ++ q).length = off + m := by simp; omega
   rw [l2, List.getElem?_drop, show off + m + (j - (off + m)) = j by omega] at h
   exact .inr ⟨.inr (by omega), h⟩
/-- a store into an element of a variable that is an array -/
theorem sound_storeA (h : In P S F0 w0 F ρ w a s c o) {t m : Nat} {x y : Operand} (hop : o.op = .store t x y) (hm : tsz P t = some m) {u : Nat} {i : PV} (hx : opv pvAlg c x = some (.at (.aptr u i)))
  {v : SV PV} (hy : opv pvAlg c y = some v) (hd : dlStoreA pvAlg c u i m (tag P t) v = some cmd) (hg : cmd.gives P δ) : o.wpr ro P a w (Post S F0 w0 a (s.ap o.dst δ)) Q := by
 unfold dlStoreA at hd
 split at hd
 ·rename_i n cs hgo
  split at hd
  ·rename_i hcond
   simp only [Bool.and_eq_true, beq_iff_eq] at hcond
   obtain ⟨rfl, hag⟩ := hcond
   simp only [Option.bind_eq_some_iff, Option.map_eq_some_iff] at hd
   obtain ⟨q, hq, p, hp, rfl⟩ := hd
   obtain ⟨z, hz, rfl⟩ := hg
   obtain ⟨l, k, j, q', he, h0, hlt, hokl, hokq, rfl⟩ := ev_aupd hz
   simp at he; obtain ⟨rfl, rfl, rfl⟩ := he
   obtain ⟨b, k', j', e1, e2, e3, e4⟩ := h.opv hx
   simp at e2; obtain ⟨rfl, rfl⟩ := e2
   have hv : Rep F w (a.eval y) q := asE_rep h.rc.ob (h.opv hy) hq
   obtain ⟨b', cells, ty, g1, g2, g3, g4, g5⟩ := h.rc.ob.rep u _ hgo
   rw [e1] at g1; simp at g1; subst g1
   obtain ⟨w1, w2, w3⟩ := wholeCs_rep h.rc.ob g3 g4 hp
   have hnF : ∀ j, ¬ F b j := fun j hj => by have := (g5 j).1 hj; simp at this
   have hqc := cells_of_one (okc_cells hokq).2
   have hqcell : q.isCell = true := okc_all hokq q (by rw [hqc]; simp)
   have hone := oneCell_of_rep hv hqcell
   have hvc := cells_of_oneV hone
   have hln : l.length = n := (okc_cells hokl).1
   have hjn : j.toNat < n := by omega
   have hrun := run_store_block (P := P) (t := t) (off := j.toNat) g2 hm (v := a.eval y) (by rw [hvc]; rfl) (fun u hu => by rw [hvc] at hu; simp at hu; subst hu; exact hone) (by omega)
   refine wp_skip' (exec_store hop (by rw [e4]; exact hrun)) (post_upd (o := u) (b := .cells false n true cs) (k0 := b) h.r h.dst (h.sub.2 _ _ hgo) rfl rfl (by rw [e1]; rfl) (kp_setRow w b _) (same_setRow hnF) ?_)
   have hcell : ∀ y ∈ l.set j.toNat q, y.isCell = true := fun y hy => by
    rcases List.mem_or_eq_of_mem_set hy with h | h
    ·exact okc_all hokl y h
    ·subst h; exact hqcell
   refine ⟨b, _, ty, e1, setRow_cells g2, ?_, ⟨?_, hcell, fun i u yy hu hy => ?_⟩, g5⟩
   ·rw [hvc]; simp; omega
   ·show (((l.set j.toNat q).length == n && true == true) && (l.set j.toNat q).all PV.isCell) = true
    simp only [List.length_set, Bool.and_eq_true, beq_iff_eq, List.all_eq_true]
    exact ⟨⟨hln, trivial⟩, hcell⟩
   ·have hct : cells.toList.length = n := by simpa using g3
    have l1 : (cells.toList.take j.toNat).length = j.toNat := by simp; omega
    simp only [PV.cells] at hy
    rw [List.getElem?_set] at hy
    rw [List.getElem?_toArray, hvc] at hu
    by_cases hji : j.toNat = i
    ·subst hji
     rw [if_pos rfl, if_pos (by omega)] at hy
     simp at hy; subst hy
     rw [List.append_assoc, List.getElem?_append_right (by omega), l1] at hu
     simp at hu; subst hu
     exact hv.mono (fun _ _ h => h) (same_setRow hnF)
    ·rw [if_neg hji] at hy
     refine (w3 i u yy ?_ hy).mono (fun _ _ h => h) (same_setRow hnF)
     rw [List.append_assoc] at hu
     by_cases hil : i < j.toNat
     ·rw [List.getElem?_append_left (by omega), List.getElem?_take, if_pos hil] at hu
      simpa using hu
     ·rw [List.getElem?_append_right (by omega), l1, List.getElem?_append_right (by simp; omega), List.getElem?_drop] at hu
      have e1 : (#[a.eval y] : Array Value).toList.length = 1 := rfl
      rw [e1, show j.toNat + 1 + (i - j.toNat - 1) = i by omega] at hu
      simpa using hu
  ·cases hd
 ·cases hd
/-- a store into an element of an array of the call's own -/
theorem sound_storeE (h : In P S F0 w0 F ρ w a s c o) {t m : Nat} {x y : Operand} (hop : o.op = .store t x y) (hm : tsz P t = some m) {u sz off : Nat} {i : PV} (hx : opv pvAlg c x = some (.at (.eptr u i sz off)))
  {v : SV PV} (hy : opv pvAlg c y = some v) (hd : dlStoreE pvAlg c u i sz off m (tag P t) v = some cmd) (hg : cmd.gives P δ) : o.wpr ro P a w (Post S F0 w0 a (s.ap o.dst δ)) Q := by
 unfold dlStoreE at hd
 split at hd
 ·rename_i ty sz' ag p hgo
  simp only [Option.bind_eq_bind, Option.bind_eq_some_iff] at hd
  obtain ⟨q, hq, hd⟩ := hd
  split at hd
  ·rename_i hcond
   simp only [Bool.and_eq_true, beq_iff_eq] at hcond
   obtain ⟨⟨⟨rfl, rfl⟩, rfl⟩, hag⟩ := hcond
   simp at hd; subst hd
   obtain ⟨z, hz, rfl⟩ := hg
   obtain ⟨l, k, n, q', he, h0, hlt, hok, rfl⟩ := ev_upd hz
   simp at he; obtain ⟨rfl, rfl, rfl⟩ := he
   obtain ⟨g, len, cap, k', n', e1, e2, e3, e4, e5⟩ := h.opv hx
   simp at e2; obtain ⟨rfl, rfl⟩ := e2
   have hv : Rep F w (a.eval y) q := asE_rep h.rc.ob (h.opv hy) hq
   obtain ⟨c1, c2⟩ := hv.cells
   have hlen := (okc_cells hok).1
   obtain ⟨es, hes, hpos, hall, ⟨h6, h7⟩ | ⟨g', cap', cur, h6, h7, h8, h9, h10, h11, h12, hgn⟩⟩ := h.rc.ob.rep _ _ hgo
   ·rw [e1] at h6; simp at h6
   ·simp at hes; subst hes
    rw [e1] at h6; simp at h6; obtain ⟨rfl, rfl, rfl⟩ := h6
    have hnF : ∀ j, ¬ F g j := fun j hj => by have := (h12 j).1 hj; simp at this
    have hnl : n.toNat < l.length := by omega
    have hle : n.toNat * m + m ≤ cap * m := by rw [← Nat.succ_mul]; exact Nat.mul_le_mul_right _ (by omega)
    have hvsz : (a.eval y).cells.size = m := by omega
    have hone : ∀ u ∈ (a.eval y).cells.toList, u.oneCell' = true := fun u hu => by
     obtain ⟨i, hi⟩ := mem_get_arr hu
     have hil : i < q.cells.length := by rw [← c1]; exact (Array.getElem?_eq_some_iff.1 hi).1
     exact oneCell_of_rep (c2 i u q.cells[i] hi (by simp [hil])) (okc_all hok _ (List.getElem_mem _))
    have hrun := run_store_block (P := P) (t := t) (off := n.toNat * m) h7 hm hvsz hone (by omega)
    refine wp_skip' (exec_store hop (by rw [e5]; exact hrun)) (post_upd (o := u) (b := .arr false ty m ag (.sl l)) (k0 := g) h.r h.dst (h.sub.2 _ _ hgo) rfl rfl (by rw [e1]; rfl) (kp_setRow w g _) (same_setRow hnF) ?_)
    refine ⟨l.set n.toNat q, rfl, hpos, fun e he => ?_, .inr ⟨g, cap, _, by rw [e1]; simp, setRow_cells h7, by simpa using h8, h9, ?_, fun i e j z hi hj => ?_, fun j => by simpa using h12 j, hgn⟩⟩
    ·rcases List.mem_or_eq_of_mem_set he with h | h
     ·exact hall e h
     ·subst h; exact ⟨hok, okc_all hok⟩
    ·simp; omega
    ·have hct : cur.toList.length = cap * m := by simpa using h10
     have hvt : (a.eval y).cells.toList.length = m := by simpa using hvsz
     have l1 : (cur.toList.take (n.toNat * m)).length = n.toNat * m := by simp; omega
     have hjm : j < m := by
      have : e.cells.length = m := by
       rcases List.mem_or_eq_of_mem_set (List.mem_of_getElem? hi) with h | h
       ·exact (okc_cells (hall e h).1).1
       ·subst h; exact hlen
      rw [← this]
      rcases Nat.lt_or_ge j e.cells.length with h | h
      ·exact h
      ·rw [List.getElem?_eq_none h] at hj; cases hj
     rw [List.getElem?_set] at hi
     rw [List.getElem?_toArray]
     by_cases hin : n.toNat = i
     ·subst hin
      simp only [if_true, hnl] at hi
      simp at hi; subst hi
      rw [List.append_assoc, List.getElem?_append_right (by omega), l1, List.getElem?_append_left (by omega)]
      rw [show n.toNat * m + j - n.toNat * m = j by omega]
      obtain ⟨uc, huc⟩ : ∃ uc, (a.eval y).cells[j]? = some uc := ⟨(a.eval y).cells[j]'(by omega), by simp [hvsz, hjm]⟩
      exact ⟨uc, by simpa using huc, (c2 j uc z huc hj).mono (fun _ _ h => h) (same_setRow hnF)⟩
     ·rw [if_neg hin] at hi
      obtain ⟨uc, huc, hr⟩ := h11 i e j z hi hj
      refine ⟨uc, ?_, hr.mono (fun _ _ h => h) (same_setRow hnF)⟩
      by_cases hil : i < n.toNat
      ·have : i * m + j < n.toNat * m := by
        have : i * m + m ≤ n.toNat * m := by rw [← Nat.succ_mul]; exact Nat.mul_le_mul_right _ hil
        omega
       rw [List.append_assoc, List.getElem?_append_left (by omega), List.getElem?_take, if_pos this]
       simpa using huc
      ·have : n.toNat * m + m ≤ i * m + j := by
        have : (n.toNat + 1) * m ≤ i * m := Nat.mul_le_mul_right _ (by omega)
        rw [Nat.succ_mul] at this
        omega
       rw [List.getElem?_append_right (by simp; omega)]
       have l2 : (cur.toList.take (n.toNat * m) ++ (a.eval y).cells.toList).length = n.toNat * m + m := by simp; omega
       rw [l2, List.getElem?_drop, show n.toNat * m + m + (i * m + j - (n.toNat * m + m)) = i * m + j by omega]
       simpa using huc
  ·split at hd
   ·rename_i hcond
    simp only [Bool.and_eq_true, beq_iff_eq] at hcond
    obtain ⟨rfl, hag⟩ := hcond
    simp at hd; subst hd
    obtain ⟨z, hz, rfl⟩ := hg
    obtain ⟨l, k, n, q', e0, he, h0, hlt, hof, hok, hle0, hoke, rfl⟩ := ev_updF hz
    simp at he; obtain ⟨rfl, rfl, rfl⟩ := he
    obtain ⟨g, len, cap, k', n', e1, e2, e3, e4, e5⟩ := h.opv hx
    simp at e2; obtain ⟨rfl, rfl⟩ := e2
    have hv : Rep F w (a.eval y) q := asE_rep h.rc.ob (h.opv hy) hq
    obtain ⟨c1, c2⟩ := hv.cells
    have hlen := (okc_cells hok).1
    have hlene := (okc_cells hoke).1
    obtain ⟨es, hes, hpos, hall, ⟨h6, h7⟩ | ⟨g', cap', cur, h6, h7, h8, h9, h10, h11, h12, hgn⟩⟩ := h.rc.ob.rep _ _ hgo
    ·rw [e1] at h6; simp at h6
    ·simp at hes; subst hes
     rw [e1] at h6; simp at h6; obtain ⟨rfl, rfl, rfl⟩ := h6
     have hnF : ∀ j, ¬ F g j := fun j hj => by have := (h12 j).1 hj; simp at this
     have hnl : n.toNat < l.length := by omega
     have hle : n.toNat * sz' + sz' ≤ cap * sz' := by rw [← Nat.succ_mul]; exact Nat.mul_le_mul_right _ (by omega)
     have hvsz : (a.eval y).cells.size = m := by omega
     have hone : ∀ u ∈ (a.eval y).cells.toList, u.oneCell' = true := fun u hu => by
      obtain ⟨i, hi⟩ := mem_get_arr hu
      have hil : i < q.cells.length := by rw [← c1]; exact (Array.getElem?_eq_some_iff.1 hi).1
      exact oneCell_of_rep (c2 i u q.cells[i] hi (by simp [hil])) (okc_all hok _ (List.getElem_mem _))
     have hrun := run_store_block (P := P) (t := t) (off := n.toNat * sz' + off) h7 hm hvsz hone (by omega)
     refine wp_skip' (exec_store hop (by rw [e5]; exact hrun)) (post_upd (o := u) (b := .arr false ty sz' ag (.sl l)) (k0 := g) h.r h.dst (h.sub.2 _ _ hgo) rfl rfl (by rw [e1]; rfl) (kp_setRow w g _) (same_setRow hnF) ?_)
     have hnew : (PV.agg (e0.cells.take off ++ q.cells ++ e0.cells.drop (off + m))).okc sz' ag = true ∧ ∀ y ∈ (PV.agg (e0.cells.take off ++ q.cells ++ e0.cells.drop (off + m))).cells, y.isCell = true := by
      have hc : ∀ y ∈ e0.cells.take off ++ q.cells ++ e0.cells.drop (off + m), y.isCell = true := fun y hy => by
       rcases List.mem_append.1 hy with hy | hy
       ·rcases List.mem_append.1 hy with hy | hy
        ·exact okc_all hoke _ (List.mem_of_mem_take hy)
        ·exact okc_all hok _ hy
       ·exact okc_all hoke _ (List.mem_of_mem_drop hy)
      refine ⟨?_, hc⟩
      have hll : (e0.cells.take off ++ q.cells ++ e0.cells.drop (off + m)).length = sz' := by rw [List.length_append, List.length_append, List.length_take, List.length_drop]; omega
      simp only [PV.okc, Bool.and_eq_true, beq_iff_eq, List.all_eq_true]
      exact ⟨⟨hll, hag.symm⟩, hc⟩
     refine ⟨l.set n.toNat (.agg (e0.cells.take off ++ q.cells ++ e0.cells.drop (off + m))), rfl, hpos, fun e he => ?_, .inr ⟨g, cap, _, by rw [e1]; simp, setRow_cells h7, by simpa using h8, h9, ?_, fun i e j z hi hj => ?_, fun j => by simpa using h12 j, hgn⟩⟩
     ·rcases List.mem_or_eq_of_mem_set he with h | h
      ·exact hall e h
      ·subst h; exact hnew
     ·simp; omega
     ·have hct : cur.toList.length = cap * sz' := by simpa using h10
      have hvt : (a.eval y).cells.toList.length = m := by simpa using hvsz
      have l1 : (cur.toList.take (n.toNat * sz' + off)).length = n.toNat * sz' + off := by simp; omega
      have hjm : j < sz' := by
       have : e.cells.length = sz' := by
        rcases List.mem_or_eq_of_mem_set (List.mem_of_getElem? hi) with h | h
        ·exact (okc_cells (hall e h).1).1
        ·subst h; exact (okc_cells hnew.1).1
       rw [← this]
       rcases Nat.lt_or_ge j e.cells.length with h | h
       ·exact h
       ·rw [List.getElem?_eq_none h] at hj; cases hj
      -- a cell outside of what was put
      have out : ∀ x : Nat, (x < n.toNat * sz' + off ∨ n.toNat * sz' + off + m ≤ x) → ∀ uc, cur[x]? = some uc → (cur.toList.take (n.toNat * sz' + off) ++ (a.eval y).cells.toList ++ cur.toList.drop (n.toNat * sz' + off + m))[x]? = some uc := by
       intro x hx uc huc
       rcases hx with hx | hx
       ·rw [List.append_assoc, List.getElem?_append_left (by omega), List.getElem?_take, if_pos hx]
        simpa using huc
       ·rw [List.getElem?_append_right (by simp; omega)]
        have l2 : (cur.toList.take (n.toNat * sz' + off) ++ (a.eval y).cells.toList).length = n.toNat * sz' + off + m := by simp; omega
        rw [l2, List.getElem?_drop, show n.toNat * sz' + off + m + (x - (n.toNat * sz' + off + m)) = x by omega]
        simpa using huc
      rw [List.getElem?_set] at hi
      rw [List.getElem?_toArray]
      by_cases hin : n.toNat = i
      ·subst hin
       simp only [if_true, hnl] at hi
       have hi := Option.some.inj hi; subst hi
       rcases part_get (e := e0.cells) (off := off) (m := m) (by omega) hlen hj with ⟨p1, p2, p3⟩ | ⟨p1, p2⟩
       ·rw [List.append_assoc, List.getElem?_append_right (by omega), l1, List.getElem?_append_left (by omega)]
        rw [show n.toNat * sz' + j - (n.toNat * sz' + off) = j - off by omega]
        obtain ⟨uc, huc⟩ : ∃ uc, (a.eval y).cells[j - off]? = some uc := ⟨(a.eval y).cells[j - off]'(by omega), by rw [Array.getElem?_eq_getElem]⟩
        exact ⟨uc, by simpa using huc, (c2 (j - off) uc z huc p3).mono (fun _ _ h => h) (same_setRow hnF)⟩
       ·obtain ⟨uc, huc, hr⟩ := h11 n.toNat e0 j z hle0 p2
        exact ⟨uc, out _ (by omega) uc huc, hr.mono (fun _ _ h => h) (same_setRow hnF)⟩
      ·rw [if_neg hin] at hi
       obtain ⟨uc, huc, hr⟩ := h11 i e j z hi hj
       refine ⟨uc, out _ ?_ uc huc, hr.mono (fun _ _ h => h) (same_setRow hnF)⟩
       by_cases hil : i < n.toNat
       ·have : i * sz' + sz' ≤ n.toNat * sz' := by rw [← Nat.succ_mul]; exact Nat.mul_le_mul_right _ hil
        omega
       ·have : (n.toNat + 1) * sz' ≤ i * sz' := Nat.mul_le_mul_right _ (by omega)
        rw [Nat.succ_mul] at this
        omega
   ·cases hd
 ·cases hd
end
end Go.Lf
/- Each operation does what its reading says: lengths, appends, new arrays. -/
namespace Go.Lf
variable [Mk] [Gl]
open Go.RowKit
section
variable {P : Program} {H : Hint} {S : Fx} {F0 : Nat → Nat → Prop} {w0 : World} {F F' : Nat → Nat → Prop} {ρ : Nat → Value} {w w' : World} {a : Act} {s c : St PV}
 {Q : Exit → Act → World → Prop} {o : Oper} {δ : Dl PV} {cmd : Cmd PV}
/-! ### rows of cells -/
structure Row (F : Nat → Nat → Prop) (w : World) (us : List Value) (es : List PV) (sz : Nat) : Prop where
 len : us.length = es.length * sz
 rep : ∀ (i : Nat) (y : PV) (j : Nat) (z : PV), es[i]? = some y → y.cells[j]? = some z → ∃ u, us[i * sz + j]? = some u ∧ Rep F w u z
variable {us vs : List Value} {es fs : List PV} {sz : Nat}
def Elems (es : List PV) (sz : Nat) : Prop := ∀ y ∈ es, y.cells.length = sz ∧ ∀ z ∈ y.cells, z.isCell = true
theorem Row.mono (h : Row F w us es sz) (hF : ∀ b o, F b o → F' b o) (hw : ∀ b o, F b o → Same w w' b o) : Row F' w' us es sz :=
 ⟨h.len, fun i y j z h1 h2 => by obtain ⟨u, hu, hr⟩ := h.rep i y j z h1 h2; exact ⟨u, hu, hr.mono hF hw⟩⟩
theorem row_place {es : List PV} {sz k : Nat} (he : Elems es sz) (h0 : 0 < sz) (hk : k < es.length * sz) : ∃ y z, es[k / sz]? = some y ∧ y.cells[k % sz]? = some z := by
 have h1 : k / sz < es.length := Nat.div_lt_of_lt_mul (by rw [Nat.mul_comm]; exact hk)
 have hm := he es[k / sz] (List.getElem_mem _)
 have h2 : k % sz < es[k / sz].cells.length := by rw [hm.1]; exact Nat.mod_lt _ h0
 exact ⟨es[k / sz], es[k / sz].cells[k % sz], by simp [h1], by simp [h2]⟩
theorem Row.at (h : Row F w us es sz) (he : Elems es sz) (h0 : 0 < sz) {k : Nat} {u : Value} (hk : us[k]? = some u) : ∃ z, z.isCell = true ∧ Rep F w u z := by
 have hlt : k < es.length * sz := by rw [← h.len]; exact (List.getElem?_eq_some_iff.1 hk).1
 obtain ⟨y, z, hy, hz⟩ := row_place he h0 hlt
 obtain ⟨u', hu, hr⟩ := h.rep _ y _ z hy hz
 rw [Nat.div_add_mod'] at hu
 rw [hu] at hk; simp at hk; subst hk
 exact ⟨z, (he y (List.mem_of_getElem? hy)).2 z (List.mem_of_getElem? hz), hr⟩
theorem Row.one (h : Row F w us es sz) (he : Elems es sz) (h0 : 0 < sz) : ∀ u ∈ us, u.oneCell' = true := by
 intro u hu
 obtain ⟨k, hk, rfl⟩ := List.getElem_of_mem hu
 obtain ⟨z, hz, hr⟩ := h.at he h0 (k := k) (u := us[k]) (by simp [hk])
 exact oneCell_of_rep hr hz
theorem Row.append (h1 : Row F w us es sz) (h2 : Row F w vs fs sz) (he : Elems es sz) (hf : Elems fs sz) : Row F w (us ++ vs) (es ++ fs) sz := by
 refine ⟨by simp [h1.len, h2.len, Nat.add_mul], fun i y j z hi hj => ?_⟩
 by_cases hlt : i < es.length
 ·rw [List.getElem?_append_left hlt] at hi
  obtain ⟨u, hu, hr⟩ := h1.rep i y j z hi hj
  exact ⟨u, by rw [List.getElem?_append_left (List.getElem?_eq_some_iff.1 hu).1]; exact hu, hr⟩
 ·rw [List.getElem?_append_right (by omega)] at hi
  obtain ⟨u, hu, hr⟩ := h2.rep _ y j z hi hj
  have hle : es.length * sz ≤ i * sz := Nat.mul_le_mul_right _ (by omega)
  refine ⟨u, ?_, hr⟩
  rw [List.getElem?_append_right (by rw [h1.len]; omega), h1.len]
  rw [Nat.sub_mul] at hu
  rw [show i * sz + j - es.length * sz = i * sz - es.length * sz + j by omega]
  exact hu
theorem elems_of_ok {es : List PV} {sz : Nat} {ag : Bool} (h : es.all (·.okc sz ag) = true) : Elems es sz := by
 intro y hy
 have := List.all_eq_true.1 h y hy
 exact ⟨(okc_cells this).1, okc_all this⟩
/-- the cells behind a slice -/
theorem RepL.row {v : Value} {es : List PV} {sz : Nat} (h : RepL F w v es sz) (h0 : 0 < sz) : ((∃ p : Option Addr, v = .slice p 0 0) ∧ es = []) ∨
  ∃ b o cap us, v = .slice (some ⟨b, o, none⟩) es.length cap ∧ es.length ≤ cap ∧ cap ≤ maxLen ∧ Row F w us es sz ∧ ∀ (j : Nat) (u : Value), us[j]? = some u → w.cell? ⟨b, o + j, none⟩ = some u := by
 rcases h.cells with h1 | ⟨b, o, cap, h1, h2, h3, h4⟩
 ·exact .inl h1
 ·refine .inr ⟨b, o, cap, (List.range (es.length * sz)).map fun k => (w.cell? ⟨b, o + k, none⟩).getD undef, h1, h2, h3, ⟨by simp, fun i y j z hi hj => ?_⟩, fun j u hu => ?_⟩
  ·obtain ⟨u, hu, hr⟩ := h4 i y j z hi hj
   have hjl : j < sz := by rw [← (h.one y (List.mem_of_getElem? hi)).1]; exact (List.getElem?_eq_some_iff.1 hj).1
   have hil : i < es.length := (List.getElem?_eq_some_iff.1 hi).1
   have : i * sz + j < es.length * sz := by
    have : (i + 1) * sz ≤ es.length * sz := Nat.mul_le_mul_right _ hil
    rw [Nat.succ_mul] at this; omega
   refine ⟨u, ?_, hr⟩
   rw [List.getElem?_map, List.getElem?_range this]
   simp only [Option.map_some]
   rw [← Nat.add_assoc, hu]; rfl
  ·obtain ⟨hj, rfl⟩ := range_map_get _ _ _ _ hu
   obtain ⟨y, z, hy, hz⟩ := row_place h.one h0 hj
   obtain ⟨u', hu', _⟩ := h4 _ y _ z hy hz
   rw [show o + j / sz * sz + j % sz = o + j by rw [Nat.add_assoc, Nat.div_add_mod']] at hu'
   rw [hu']; rfl
/-- an array object by its row -/
theorem repO_arr {d ty sz g cap : Nat} {fz ag : Bool} {es : List PV} {cur : Array Value} {ρ : Nat → Value} (h0 : 0 < sz) (hok : es.all (·.okc sz ag) = true) (hρ : ρ d = .slice (some ⟨g, 0, none⟩) es.length cap)
  (hb : w.heap[g]? = some (.cells cur ty (0, 0))) (h1 : es.length ≤ cap) (h2 : cap ≤ maxLen) (h3 : cur.size = cap * sz) (hr : Row F w (cur.toList.take (es.length * sz)) es sz)
  (hF : ∀ j, F g j ↔ (fz = true ∧ j < es.length * sz)) (hgn : Mk.n ≤ g) : RepO F ρ w d (.arr fz ty sz ag (.sl es)) := by
 refine ⟨es, rfl, h0, fun y hy => ⟨List.all_eq_true.1 hok y hy, okc_all (List.all_eq_true.1 hok y hy)⟩, .inr ⟨g, cap, cur, hρ, hb, h1, h2, h3, fun i y j z hi hj => ?_, hF, hgn⟩⟩
 obtain ⟨u, hu, hr⟩ := hr.rep i y j z hi hj
 refine ⟨u, ?_, hr⟩
 rw [List.getElem?_take] at hu
 split at hu
 ·simpa using hu
 ·cases hu
/-- an object's handle goes over to another name; its block may have been written -/
theorem post_turn {o d : Nat} (h : R S F0 w0 F ρ a.tmps w s.gt s.go) {dst : Option Nat} (hd : ∀ d, dst = some d → d < a.tmps.size) (hal : d ∉ S.al) {δ : Dl PV} {b b' : Ob PV} (hold : s.go o = some b)
  (ho : δ.obs = [(o, none), (d, some b')]) (hborn : δ.born = [d])
  {v hd' : Value} {w' : World} {F' : Nat → Nat → Prop} (hkp : Kp (fun k => hb (ρ o) = some k) w w') (hF : ∀ b o, F b o → F' b o) (hS : ∀ b o, F b o → Same w w' b o)
  (hF1 : ∀ b u, F' b u → F b u ∨ w.heap.size ≤ b ∨ hb (ρ o) = some b) (hF2 : ∀ b o, F' b o → b < w'.heap.size)
  (hnew : ∀ k, hb hd' = some k → w.heap.size ≤ k ∨ hb (ρ o) = some k) (hnt : NotTup hd')
  (hb' : RepO F' (fun u => if u = d then hd' else ρ u) w' d b') (hv : ∀ sv, δ.dst = some sv → RepS F' (fun u => if u = d then hd' else ρ u) w' v sv) : Post S F0 w0 a (s.ap dst δ) (a.put dst v) w' := by
 refine ⟨put_defers, put_size, F', fun u => if u = d then hd' else ρ u, h.step (fun k => hb (ρ o) = some k) (fun u => u = d) (fun u => u = d ∨ u = o) hkp (fun k _ hk => h.mine o b hold k (.inl hk)) hF hS hF1 hF2
  (fun u hu => by simp [hu]) (fun u hu e => hal (e ▸ hu)) (fun t sv ht => ?_) (fun u c hu => ?_) (fun u c hu hN hU k hk hx => ?_) (fun u c hu hU k hk => ?_) fun u u' c c' hu hu' hU hU' hne => ?_⟩
 ·rw [put_get hd]
  rcases ap_gt ht with ⟨h1, h2⟩ | ⟨h1, h2, h3⟩
  ·subst h1; exact .inr ⟨v, by simp, hv sv h2⟩
  ·exact .inl ⟨h2, by simp [h1], fun u hu e => h3 d (by simp [hborn]) (e ▸ hu)⟩
 ·rcases ap_go hu with h1 | ⟨h0, h1, h3⟩
  ·rw [ho, look_cons] at h1
   by_cases he : o = u
   ·simp [he] at h1
   ·simp only [he, if_false, look_cons] at h1
    by_cases hd : d = u
    ·subst hd; simp at h1; subst h1; exact .inr ⟨.inl rfl, hb'⟩
    ·simp [hd, look] at h1
  ·rw [ho] at h0
   simp at h0
   exact .inl ⟨h1, h0.2, fun e => e.elim h0.2 h0.1, fun x hx e => h3 d (by simp [hborn]) (e ▸ hx)⟩
 ·exact h.ob.sep u o c b hu hold (fun e => hU (.inr e)) k hk (.inl hx)
 ·have hud : u = d := by
   rcases hU with h1 | h1
   ·exact h1
   ·subst h1
    rcases ap_go hu with h1 | ⟨h0, _⟩
    ·rw [ho, look_cons] at h1; simp at h1
    ·rw [ho] at h0; simp at h0
  subst hud; simp at hk; exact hnew k ((HB_iff hnt).1 hk)
 ·have key : ∀ u c, (s.ap dst δ).go u = some c → u = d ∨ u = o → u = d := by
   intro u c hu hU
   rcases hU with h1 | h1
   ·exact h1
   ·subst h1
    rcases ap_go hu with h1 | ⟨h0, _⟩
    ·rw [ho, look_cons] at h1; simp at h1
    ·rw [ho] at h0; simp at h0
  exact absurd ((key u c hu hU).trans (key u' c' hu' hU').symm) hne
theorem exec_builtin {b : Builtin} {cl : Call} (hop : o.op = .call cl) (hb : cl.callee = .builtin b) {l : List Operand} (ha : cl.args.toList = l) {ts : List Nat} (ht : cl.argTypes.toList = ts) :
  ∃ cs, (execOp a.eval o).run P w = (builtin b ts.toArray o.type cs (l.map a.eval).toArray).run P w := by
 obtain ⟨cc, ca, ct⟩ := cl
 simp only at hb ha ht; subst hb
 have e1 : ca = l.toArray := by rw [← ha]
 have e2 : ct = ts.toArray := by rw [← ht]
 subst e1; subst e2
 exact ⟨l.toArray.map fun | .const _ => true | _ => false, by simp [execOp, hop, resolve, invoke]; rfl⟩
end
end Go.Lf
/- Each operation does what its reading says: lengths, appends, new arrays (2). -/
namespace Go.Lf
variable [Mk] [Gl]
open Go.RowKit
section
variable {ro : Option Nat} {P : Program} {H : Hint} {S : Fx} {F0 : Nat → Nat → Prop} {w0 : World} {F F' : Nat → Nat → Prop} {ρ : Nat → Value} {w w' : World} {a : Act} {s c : St PV}
 {Q : Exit → Act → World → Prop} {o : Oper} {δ : Dl PV} {cmd : Cmd PV}
/-! ### maps -/
def MapOf (F : Nat → Nat → Prop) (w : World) (v : Value) (ks vs : List PV) : Prop := (v = .map none ∧ ks = [] ∧ vs = []) ∨
 ∃ r es clock, v = .map (some r) ∧ w.heap[r]? = some (.map es clock) ∧ es.size = ks.length ∧ es.size = vs.length ∧
  (∀ (i : Nat) (e : MapEntry) (y : PV), es[i]? = some e → ks[i]? = some y → Rep F w e.key y) ∧ (∀ (i : Nat) (e : MapEntry) (y : PV), es[i]? = some e → vs[i]? = some y → Rep F w e.val y)
theorem mapOf_rep {v : Value} {ks vs : List PV} (h : Rep F w v (.mp ks vs)) : MapOf F w v ks vs := by
 cases h with
 | mp r cl es _ _ hb hF hk hv h1 h2 => exact .inr ⟨r, es, cl, rfl, hb, hk, hv, h1, h2⟩
theorem mapOf_obj {o : Nat} {fz : Bool} {x : PV} (h : RepO F ρ w o (.map fz x)) : ∃ ks vs, x = .mp ks vs ∧ MapOf F w (ρ o) ks vs := by
 obtain ⟨r, es, cl, ks, vs, h1, rfl, h3, h4, h5, h6, h7, _⟩ := h
 exact ⟨ks, vs, rfl, .inr ⟨r, es, cl, h1, h3, h4, h5, h6, h7⟩⟩
theorem run_getMap {r : Nat} {es : Array MapEntry} {clock : Nat} (hb : w.heap[r]? = some (.map es clock)) : (getObj r).run P w = .ok (.map es clock) w := by
 simp [getObj, Sem.run, hb]
/-! ### lengths -/
theorem lenArg (h : In P S F0 w0 F ρ w a s c o) {x : Operand} {v : PV} (hv : ((opv pvAlg c x).bind (asLM pvAlg c)) = some v) : Rep F w (a.eval x) v ∨ (∃ es sz, v = .sl es ∧ RepL F w (a.eval x) es sz) ∨ ∃ ks vs, v = .mp ks vs ∧ MapOf F w (a.eval x) ks vs := by
 simp only [Option.bind_eq_some_iff] at hv
 obtain ⟨sv, h1, h2⟩ := hv
 have hr := h.opv h1
 unfold asLM at h2
 split at h2
 ·rename_i u
  split at h2
  ·rename_i hg
   simp at h2; subst h2
   obtain ⟨ks, vs, rfl, hm⟩ := mapOf_obj (h.rc.ob.rep _ _ hg)
   rw [show a.eval x = ρ u from hr.1]
   exact .inr (.inr ⟨ks, vs, rfl, hm⟩)
  ·cases h2
 ·exact (asL_rep h.rc.ob hr h2).imp id .inl
theorem lenVal {v : Value} {yl : PV} {l : List PV} (hyl : yl.unm = .sl l) (h : Rep F w v yl ∨ (∃ es sz, yl = .sl es ∧ RepL F w v es sz) ∨ ∃ ks vs, yl = .mp ks vs ∧ MapOf F w v ks vs) :
  ∃ ad cap, v = .slice ad l.length cap ∧ l.length ≤ maxLen := by
 rcases h with h | ⟨es, sz, he, h⟩ | ⟨_, _, he, _⟩
 ·rcases rep_unm h hyl with ⟨p, rfl, rfl⟩ | ⟨b, o, cap, n, g, rfl, hcap, hm, _⟩
  ·exact ⟨p, 0, rfl, Nat.zero_le _⟩
  ·exact ⟨_, _, rfl, by omega⟩
 ·subst he; obtain rfl : l = es := (PV.sl.inj hyl).symm
  rcases h.cells with ⟨⟨p, h1⟩, h2⟩ | ⟨b, o, cap, h1, h2, h3, _⟩
  ·subst h2; exact ⟨_, _, h1, Nat.zero_le _⟩
  ·exact ⟨_, _, h1, by omega⟩
 ·subst he; cases hyl
theorem sound_dlLen (h : In P S F0 w0 F ρ w a s c o) {cl : Call} (hop : o.op = .call cl) (hb : cl.callee = .builtin .len) {x : Operand} {t : Nat} (ha : cl.args.toList = [x]) (ht : cl.argTypes.toList = [t])
  (hd : dlLen pvAlg P c t x = some cmd) (hg : cmd.gives P δ) : o.wpr ro P a w (Post S F0 w0 a (s.ap o.dst δ)) Q := by
 obtain ⟨cs, hr⟩ := exec_builtin (P := P) (a := a) (w := w) hop hb ha ht
 simp only [dlLen, Option.bind_eq_bind, Option.bind_eq_some_iff] at hd
 obtain ⟨v, hv, hd⟩ := hd
 have hx := lenArg (x := x) (v := v) h (Option.bind_eq_some_iff.2 hv)
 split at hd
 ·rename_i hu
  simp at hd; subst hd
  obtain ⟨y, hy, rfl⟩ := hg
  obtain ⟨z, hz, rfl⟩ := ev_slen hy
  simp at hz; subst hz
  rcases hx with hx | ⟨_, _, he, _⟩ | ⟨_, _, he, _⟩
  ·refine sound_putE h (v := .int .i64 z.size) ?_ (.int _ _)
   rw [hr]
   simp [builtin, Builtin.len_, rep_str hx, run_underlying hu, goInt]
  ·cases he
  ·cases he
 ·rename_i e hu
  simp at hd; subst hd
  obtain ⟨y, hy, rfl⟩ := hg
  obtain ⟨yl, l, hl, hyl, rfl⟩ := ev_len hy
  simp at hl; subst hl
  obtain ⟨ad, cap, hv, _⟩ := lenVal hyl hx
  refine sound_putE h (v := .int .i64 l.length) ?_ (.int _ _)
  rw [hr]
  simp [builtin, Builtin.len_, hv, run_underlying hu, goInt]
 ·rename_i e hu
  simp at hd; subst hd
  obtain ⟨y, hy, rfl⟩ := hg
  obtain ⟨ks, vs, hl, rfl⟩ := ev_mlen hy
  simp at hl; subst hl
  have hm : MapOf F w (a.eval x) ks vs := by
   rcases hx with hx | ⟨_, _, he, _⟩ | ⟨_, _, he, hm⟩
   ·exact mapOf_rep hx
   ·cases he
   ·simp at he; obtain ⟨rfl, rfl⟩ := he; exact hm
  refine sound_putE h (v := .int .i64 ks.length) ?_ (.int _ _)
  rw [hr]
  rcases hm with ⟨hm, rfl, rfl⟩ | ⟨r, es, clk, hm, hb, hk, _⟩
  ·simp [builtin, Builtin.len_, hm, run_underlying hu, goInt]
  ·simp [builtin, Builtin.len_, hm, run_underlying hu, goInt, run_getMap hb, hk]
 ·cases hd
theorem sound_mm (h : In P S F0 w0 F ρ w a s c o) {cl : Call} (hop : o.op = .call cl) {b : Builtin} {p : IntKind → Prim} (hb : cl.callee = .builtin b) (hbp : (b = .min ∧ p = .mn) ∨ (b = .max ∧ p = .mx)) {x y : Operand} {t : Nat} {ts : List Nat} (ha : cl.args.toList = [x, y]) (ht : cl.argTypes.toList = t :: ts)
  (hd : dlMm pvAlg P c t p x y = some cmd) (hg : cmd.gives P δ) : o.wpr ro P a w (Post S F0 w0 a (s.ap o.dst δ)) Q := by
 obtain ⟨cs, hr⟩ := exec_builtin (P := P) (a := a) (w := w) hop hb ha ht
 simp only [dlMm, Option.bind_eq_bind, Option.bind_eq_some_iff] at hd
 obtain ⟨u, hu, v, hv, k, hk, hd⟩ := hd
 simp at hd; subst hd
 have h1 := h.asE (x := x) (y := u) (Option.bind_eq_some_iff.2 hu)
 have h2 := h.asE (x := y) (y := v) (Option.bind_eq_some_iff.2 hv)
 obtain ⟨z, hz, rfl⟩ := hg
 rcases hbp with ⟨rfl, rfl⟩ | ⟨rfl, rfl⟩
 ·obtain ⟨m, n, hx, rfl⟩ := ev_mn hz
  simp at hx; obtain ⟨rfl, rfl⟩ := hx
  refine sound_putE h (v := .int k (if n < m then n else m)) ?_ (.int _ _)
  rw [hr]
  simp [builtin, Builtin.min_, Builtin.min2, rep_int h1, rep_int h2]
 ·obtain ⟨m, n, hx, rfl⟩ := ev_mx hz
  simp at hx; obtain ⟨rfl, rfl⟩ := hx
  refine sound_putE h (v := .int k (if n > m then n else m)) ?_ (.int _ _)
  rw [hr]
  simp [builtin, Builtin.max_, Builtin.max2, rep_int h1, rep_int h2]
end
end Go.Lf
/- Each operation does what its reading says: appends, new arrays. -/
namespace Go.Lf
variable [Mk] [Gl]
open Go.RowKit
section
variable {P : Program} {H : Hint} {S : Fx} {F0 : Nat → Nat → Prop} {w0 : World} {F F' : Nat → Nat → Prop} {ρ : Nat → Value} {w w' : World} {a : Act} {s c : St PV}
 {Q : Exit → Act → World → Prop} {o : Oper} {δ : Dl PV} {cmd : Cmd PV}
/-! ### the runs -/
/-- an append onto the nil slice -/
theorem run_app_nil {t e ty sz bytes : Nat} {z : List PV} {x : Value} {ms : List PV} (ht : P.underlying t = some (.slice e)) (hs : tsz P e = some sz) (hby : tby P e = some bytes)
  (hz : zeroCells P e = some z) (hzl : z.length = sz) (h0 : 0 < sz) (hx : RepL F w x ms sz) (hbytes : ms.length * bytes ≤ roomB) (h63 : ms.length ≤ maxLen) :
  (ms = [] ∧ (Builtin.append_ #[t, t] ty #[.slice none 0 0, x]).run P w = .ok (.slice none 0 0) w) ∨
  ∃ cap cur w', (Builtin.append_ #[t, t] ty #[.slice none 0 0, x]).run P w = .ok (.slice (some ⟨w.heap.size, 0, none⟩) ms.length cap) w' ∧ w' = w.drew.alloc (.cells cur e) ∧
   ms.length ≤ cap ∧ cap ≤ maxLen ∧ cur.size = cap * sz ∧ Row F w (cur.toList.take (ms.length * sz)) ms sz := by
 obtain ⟨i, hi, hsz⟩ := tsz_info hs
 obtain ⟨i', hi', hbb⟩ := tby_info hby
 rw [hi] at hi'; simp at hi'; subst hi'
 obtain ⟨i', zv, hi', hzv, hzs, _⟩ := zeroCells_spec hz
 rw [hi] at hi'; simp at hi'; subst hi'
 subst hsz; subst hbb
 have hrb : roomB = 140737488355328 := rfl
 rcases hx.row h0 with ⟨⟨p, rfl⟩, rfl⟩ | ⟨b, off, c, us, rfl, hc1, hc2, hrow, hcell⟩
 ·refine .inl ⟨rfl, ?_⟩
  cases p <;> simp [Builtin.append_, run_underlying ht, sizeOf, typeInfo, hi, Builtin.lenOf, Builtin.firstCells, loadCells, loadCellsFrom, storeCells]
 ·by_cases hm : ms = []
  ·subst hm
   refine .inl ⟨rfl, ?_⟩
   simp [Builtin.append_, run_underlying ht, sizeOf, typeInfo, hi, Builtin.lenOf, Builtin.firstCells, loadCells, loadCellsFrom]
  ·have hpos : 0 < ms.length := List.length_pos_iff.2 hm
   refine .inr ⟨_, _, _, run_append_nil (P := P) w t ty e i zv ht hi hzv ⟨b, off, none⟩ ms.length c us hrow.len (fun j u hu => by rw [Addr.add_mid]; exact hcell j u hu) hpos (by simp only [maxLen] at h63; omega) (by omega), rfl,
    grownCap_ge w _ _ _, grownCap_le_maxLen w _ _ _ h63, ?_, ?_⟩
   ·have := grownCap_ge w ms.length 0 e
    simp only [Array.size_append, List.size_toArray, size_zeroCells, hrow.len, hzs, hzl, ← Nat.add_mul]
    congr 1; omega
   ·simp only [Array.toList_append]
    rw [← hrow.len, List.take_left]
    exact hrow
/-- an append onto an array of the call's own -/
theorem run_app_own {t e ty sz bytes g cap : Nat} {z : List PV} {x : Value} {es ms : List PV} {cur : Array Value} (ht : P.underlying t = some (.slice e)) (hs : tsz P e = some sz) (hby : tby P e = some bytes)
  (hz : zeroCells P e = some z) (hzl : z.length = sz) (h0 : 0 < sz) (hx : RepL F w x ms sz) (hbytes : (es.length + ms.length) * bytes ≤ roomB) (h63 : es.length + ms.length ≤ maxLen)
  (hb : w.heap[g]? = some (.cells cur e (0, 0))) (h1 : es.length ≤ cap) (h2 : cap ≤ maxLen) (h3 : cur.size = cap * sz) (hr : Row F w (cur.toList.take (es.length * sz)) es sz) (hes : Elems es sz) :
  (∃ cur', (Builtin.append_ #[t, t] ty #[.slice (some ⟨g, 0, none⟩) es.length cap, x]).run P w = .ok (.slice (some ⟨g, 0, none⟩) (es.length + ms.length) cap) (w.setRow g cur') ∧ es.length + ms.length ≤ cap ∧
   cur'.size = cap * sz ∧ (∀ j, j < es.length * sz → cur'[j]? = cur[j]?) ∧ Row F w (cur'.toList.take ((es ++ ms).length * sz)) (es ++ ms) sz) ∨
  ∃ cap' cur' w', (Builtin.append_ #[t, t] ty #[.slice (some ⟨g, 0, none⟩) es.length cap, x]).run P w = .ok (.slice (some ⟨w.heap.size, 0, none⟩) (es.length + ms.length) cap') w' ∧ w' = w.drew.alloc (.cells cur' e) ∧
   es.length + ms.length ≤ cap' ∧ cap' ≤ maxLen ∧ cur'.size = cap' * sz ∧ Row F w (cur'.toList.take ((es ++ ms).length * sz)) (es ++ ms) sz := by
 obtain ⟨i, hi, hsz⟩ := tsz_info hs
 obtain ⟨i', hi', hbb⟩ := tby_info hby
 rw [hi] at hi'; simp at hi'; subst hi'
 obtain ⟨i', zv, hi', hzv, hzs, _⟩ := zeroCells_spec hz
 rw [hi] at hi'; simp at hi'; subst hi'
 subst hsz; subst hbb
 have hrb : roomB = 140737488355328 := rfl
 have same : w.setRow g cur = w := by
  have : (w.setRow g cur).heap = w.heap := by
   apply Array.ext_getElem?
   intro k
   by_cases hk : k = g
   ·subst hk; rw [setRow_heap w k cur cur e (0, 0) hb, hb]
   ·exact setRow_other w g k cur hk
  exact congrArg (fun h => { w with heap := h }) this
 rcases hx.row h0 with ⟨⟨p, rfl⟩, rfl⟩ | ⟨b, off, c, us, rfl, hc1, hc2, hrow, hcell⟩
 ·refine .inl ⟨cur, ?_, by simpa using h1, h3, fun _ _ => rfl, by simpa using hr⟩
  rw [same]
  cases p <;> simp [Builtin.append_, run_underlying ht, sizeOf, typeInfo, hi, Builtin.lenOf, Builtin.firstCells, loadCells, loadCellsFrom, storeCells, h1]
 ·have hlen : (es.length + ms.length) * i.size = es.length * i.size + ms.length * i.size := Nat.add_mul _ _ _
  have happ := hr.append hrow hes hx.one
  by_cases hroom : es.length + ms.length ≤ cap
  ·have hfit : es.length * i.size + us.length ≤ cur.size := by rw [hrow.len, h3, ← Nat.add_mul]; exact Nat.mul_le_mul_right _ hroom
   refine .inl ⟨_, run_append_room (P := P) w t ty e i ht hi g es.length cap cur hb ⟨b, off, none⟩ ms.length c us hrow.len (fun j u hu => by rw [Addr.add_mid]; exact hcell j u hu) (hrow.one hx.one h0) hroom hfit, hroom, ?_, fun j hj => ?_, ?_⟩
   ·simp only [List.size_toArray, List.length_append, List.length_take, List.length_drop, Array.length_toList]
    omega
   ·rw [List.getElem?_toArray, List.append_assoc, List.getElem?_append_left (by simp; omega), List.getElem?_take, if_pos hj]
    simp
   ·simp only [List.length_append]
    have : (cur.toList.take (es.length * i.size) ++ us).length = (es.length + ms.length) * i.size := by rw [List.length_append, hr.len, hrow.len, Nat.add_mul]
    rw [← this, List.take_left]
    exact happ
  ·refine .inr ⟨_, _, _, run_append_grow (P := P) w t ty e i zv ht hi hzv ⟨g, 0, none⟩ es.length cap (cur.toList.take (es.length * i.size)) hr.len (fun j u hu => ?_) ⟨b, off, none⟩ ms.length c us hrow.len
    (fun j u hu => by rw [Addr.add_mid]; exact hcell j u hu) (by omega) (by simp only [maxLen] at h63; omega) (growslice_fits (by omega) (by omega)), rfl, grownCap_ge w _ _ _, grownCap_le_maxLen w _ _ _ h63, ?_, ?_⟩
   ·rw [Addr.add_mid]
    rw [List.getElem?_take] at hu
    split at hu
    ·rw [Nat.zero_add, cell_of_row w g _ cur e (0, 0) hb]; simpa using hu
    ·cases hu
   ·have := grownCap_ge w (es.length + ms.length) cap e
    simp only [Array.size_append, List.size_toArray, size_zeroCells, hr.len, hrow.len, hzs, hzl, ← Nat.add_mul]
    congr 1; omega
   ·simp only [Array.toList_append]
    have : (cur.toList.take (es.length * i.size) ++ us).length = (es ++ ms).length * i.size := by rw [List.length_append, hr.len, hrow.len, List.length_append, Nat.add_mul]
    rw [← this, List.take_left]
    exact happ
end
end Go.Lf
/- Each operation does what its reading says: appends, new arrays (states). -/
namespace Go.Lf
variable [Mk] [Gl]
open Go.RowKit
section
variable {ro : Option Nat} {P : Program} {H : Hint} {S : Fx} {F0 : Nat → Nat → Prop} {w0 : World} {F F' : Nat → Nat → Prop} {ρ : Nat → Value} {w w' : World} {a : Act} {s c : St PV}
 {Q : Exit → Act → World → Prop} {o : Oper} {δ : Dl PV} {cmd : Cmd PV}
theorem Kp.weak {X Y : Nat → Prop} (h : Kp X w w') (hx : ∀ k, X k → Y k) : Kp Y w w' := ⟨h.os, h.tape, h.output, h.size, fun k hk hn => h.block k hk fun hx' => hn (hx k hx')⟩
/-- a new array under a name, in the world's next block -/
theorem sound_newArr (h : In P S F0 w0 F ρ w a s c o) {d : Nat} (hdf : d ∉ S.al) {e sz cap len : Nat} {fz ag : Bool} {es : List PV} {cur : Array Value} {n : Nat} (hlen : len = es.length)
  (hr : (execOp a.eval o).run P w = .ok (.value (.slice (some ⟨w.heap.size, 0, none⟩) len cap)) (World.alloc { w with drawn := n } (.cells cur e))) (h0 : 0 < sz) (hok : es.all (·.okc sz ag) = true)
  (h1 : es.length ≤ cap) (h2 : cap ≤ maxLen) (h3 : cur.size = cap * sz) (hrow : Row F w (cur.toList.take (es.length * sz)) es sz)
  (hδ : δ = { dst := some (.at (.own d)), obs := [(d, some (.arr fz e sz ag (.sl es)))], born := [d] }) : o.wpr ro P a w (Post S F0 w0 a (s.ap o.dst δ)) Q := by
 subst hδ; subst hlen
 have hnew : (World.alloc { w with drawn := n } (.cells cur e)).heap[w.heap.size]? = some (.cells cur e (0, 0)) := heap_alloc_new { w with drawn := n } _
 have hkp : Kp (fun _ => False) w (World.alloc { w with drawn := n } (.cells cur e)) := ⟨rfl, rfl, rfl, by simp, (heapNew { w with drawn := n } _).block⟩
 refine wp_value hr (post_new (o := d) (b' := .arr fz e sz ag (.sl es)) (F' := fun b j => F b j ∨ (b = w.heap.size ∧ fz = true ∧ j < es.length * sz)) (hd' := .slice (some ⟨w.heap.size, 0, none⟩) es.length cap) h.r h.dst hdf rfl rfl hkp
  (fun _ _ h => .inl h) (fun b u hf => hf.imp id fun h => by omega) (fun b u hf => ?_) (fun k hk => ?_) trivial (repO_arr (g := w.heap.size) (cap := cap) (cur := cur) h0 hok (by simp) hnew h1 h2 h3 ?_ (fun j => ?_) h.mkn) fun sv hs => ?_)
 ·rcases hf with hf | hf
  ·have := h.r.f2 b u hf; simp; omega
  ·simp; omega
 ·simp [hb] at hk; omega
 ·exact hrow.mono (fun _ _ h => .inl h) fun b u hf => Same.of_block (hkp.block b (h.r.f2 b u hf) fun h => h) u
 ·constructor
  ·rintro (hf | hf)
   ·exact absurd (h.r.f2 _ _ hf) (by omega)
   ·exact hf.2
  ·exact fun hf => .inr ⟨rfl, hf⟩
 ·simp at hs; subst hs
  exact ⟨by simp, rfl⟩
/-- the same, where another name's array is given up -/
theorem sound_turnArr (h : In P S F0 w0 F ρ w a s c o) {d : Nat} (hdf : d ∉ S.al) {u e sz cap len : Nat} {fz ag : Bool} {es : List PV} {cur : Array Value} {n : Nat} {b : Ob PV} (hold : s.go u = some b) (hlen : len = es.length)
  (hr : (execOp a.eval o).run P w = .ok (.value (.slice (some ⟨w.heap.size, 0, none⟩) len cap)) (World.alloc { w with drawn := n } (.cells cur e))) (h0 : 0 < sz) (hok : es.all (·.okc sz ag) = true)
  (h1 : es.length ≤ cap) (h2 : cap ≤ maxLen) (h3 : cur.size = cap * sz) (hrow : Row F w (cur.toList.take (es.length * sz)) es sz)
  (hδ : δ = { dst := some (.at (.own d)), obs := [(u, none), (d, some (.arr fz e sz ag (.sl es)))], born := [d] }) : o.wpr ro P a w (Post S F0 w0 a (s.ap o.dst δ)) Q := by
 subst hδ; subst hlen
 have hnew : (World.alloc { w with drawn := n } (.cells cur e)).heap[w.heap.size]? = some (.cells cur e (0, 0)) := heap_alloc_new { w with drawn := n } _
 have hkp : Kp (fun _ => False) w (World.alloc { w with drawn := n } (.cells cur e)) := ⟨rfl, rfl, rfl, by simp, (heapNew { w with drawn := n } _).block⟩
 have hsm : ∀ b o, F b o → Same w (World.alloc { w with drawn := n } (.cells cur e)) b o := fun b u hf => Same.of_block (hkp.block b (h.r.f2 b u hf) fun h => h) u
 refine wp_value hr (post_turn (o := u) (d := d) (b' := .arr fz e sz ag (.sl es)) (F' := fun b j => F b j ∨ (b = w.heap.size ∧ fz = true ∧ j < es.length * sz)) (hd' := .slice (some ⟨w.heap.size, 0, none⟩) es.length cap) h.r h.dst hdf hold rfl rfl (hkp.weak fun _ h => h.elim)
  (fun _ _ h => .inl h) hsm (fun b u hf => hf.imp id fun h => .inl (by omega)) (fun b u hf => ?_) (fun k hk => ?_) trivial (repO_arr (g := w.heap.size) (cap := cap) (cur := cur) h0 hok (by simp) hnew h1 h2 h3 ?_ (fun j => ?_) h.mkn) fun sv hs => ?_)
 ·rcases hf with hf | hf
  ·have := h.r.f2 b u hf; simp; omega
  ·simp; omega
 ·simp [hb] at hk; exact .inl (by omega)
 ·exact hrow.mono (fun _ _ h => .inl h) hsm
 ·constructor
  ·rintro (hf | hf)
   ·exact absurd (h.r.f2 _ _ hf) (by omega)
   ·exact hf.2
  ·exact fun hf => .inr ⟨rfl, hf⟩
 ·simp at hs; subst hs
  exact ⟨by simp, rfl⟩
/-- the array grows where it stands -/
theorem sound_growArr (h : In P S F0 w0 F ρ w a s c o) {d : Nat} (hdf : d ∉ S.al) {u g e sz cap len : Nat} {fz ag : Bool} {es ms : List PV} {cur cur' : Array Value} (hold : s.go u = some (.arr fz e sz ag (.sl es))) (hlen : len = (es ++ ms).length)
  (hρ : ρ u = .slice (some ⟨g, 0, none⟩) es.length cap) (hbk : w.heap[g]? = some (.cells cur e (0, 0))) (hF : ∀ j, F g j ↔ (fz = true ∧ j < es.length * sz)) (hgn : Mk.n ≤ g)
  (hr : (execOp a.eval o).run P w = .ok (.value (.slice (some ⟨g, 0, none⟩) len cap)) (w.setRow g cur')) (h0 : 0 < sz) (hok : (es ++ ms).all (·.okc sz ag) = true)
  (h1 : (es ++ ms).length ≤ cap) (h2 : cap ≤ maxLen) (h3 : cur'.size = cap * sz) (hsame : ∀ j, j < es.length * sz → cur'[j]? = cur[j]?) (hrow : Row F w (cur'.toList.take ((es ++ ms).length * sz)) (es ++ ms) sz)
  (hδ : δ = { dst := some (.at (.own d)), obs := [(u, none), (d, some (.arr fz e sz ag (.sl (es ++ ms))))], born := [d] }) : o.wpr ro P a w (Post S F0 w0 a (s.ap o.dst δ)) Q := by
 subst hδ; subst hlen
 have hg : g < w.heap.size := (Array.getElem?_eq_some_iff.1 hbk).1
 have hbu : Lf.hb (ρ u) = some g := by rw [hρ]; rfl
 have hsm : ∀ b o, F b o → Same w (w.setRow g cur') b o := fun b j hf => by
  by_cases he : b = g
  ·subst he
   refine ⟨?_, fun es' cl hm => by rw [hbk] at hm; simp at hm, fun cs t fr hm => ?_⟩
   rotate_left
   ·rw [hbk] at hm
    cases hm
    refine ⟨cur', e, setRow_cells hbk, ?_⟩
    obtain ⟨es2, _, _, _, hcase⟩ := h.r.ob.rep u _ hold
    rcases hcase with ⟨hn, _⟩ | ⟨g2, cap2, cur2, q1, q2, _, _, q3, _⟩
    ·rw [hρ] at hn; cases hn
    ·rw [hρ] at q1
     simp only [Value.slice.injEq, Option.some.injEq, Addr.mk.injEq, and_true, true_and] at q1
     obtain ⟨qa, qb, qc⟩ := q1
     subst qa; subst qc
     rw [hbk] at q2
     cases q2
     rw [h3, q3]
   rw [cell_of_row _ b j cur' e (0, 0) (setRow_cells hbk), cell_of_row w b j cur e (0, 0) hbk]
   exact hsame j ((hF j).1 hf).2
  ·exact Same.of_block (setRow_other w g b cur' he) j
 have hle : es.length * sz ≤ (es ++ ms).length * sz := Nat.mul_le_mul_right _ (by simp)
 refine wp_value hr (post_turn (o := u) (d := d) (b' := .arr fz e sz ag (.sl (es ++ ms))) (F' := fun b j => F b j ∨ (b = g ∧ fz = true ∧ j < (es ++ ms).length * sz)) (hd' := .slice (some ⟨g, 0, none⟩) (es ++ ms).length cap) h.r h.dst hdf hold rfl rfl
  ((kp_setRow w g cur').weak fun k hk => by rw [hbu, hk]) (fun _ _ h => .inl h) hsm (fun b u hf => hf.imp id fun h => .inr (by rw [hbu, h.1])) (fun b u hf => ?_) (fun k hk => ?_) trivial
  (repO_arr (g := g) (cap := cap) (cur := cur') h0 hok (by simp) (setRow_cells hbk) h1 h2 h3 ?_ (fun j => ?_) hgn) fun sv hs => ?_)
 ·rcases hf with hf | hf
  ·have := h.r.f2 b u hf; simp; omega
  ·simp; omega
 ·simp [Lf.hb] at hk; exact .inr (by rw [hbu, hk])
 ·exact hrow.mono (fun _ _ h => .inl h) hsm
 ·constructor
  ·rintro (hf | hf)
   ·have := (hF j).1 hf; exact ⟨this.1, by omega⟩
   ·exact hf.2
  ·exact fun hf => .inr ⟨rfl, hf⟩
 ·simp at hs; subst hs
  exact ⟨by simp, rfl⟩
theorem asL_repL (h : In P S F0 w0 F ρ w a s c o) {y : Operand} {v : SV PV} {ym : PV} {ms : List PV} {sz : Nat} {ag : Bool} (hv : opv pvAlg c y = some v) (hl : asL pvAlg c v = some ym) (hym : ym.unm = .sl ms) (hok : ms.all (·.okc sz ag) = true) : RepL F w (a.eval y) ms sz := by
 have he := elems_of_ok hok
 rcases asL_rep h.rc.ob (h.opv hv) hl with h1 | ⟨es, sz', h1, h2⟩
 ·exact repL_of_rep h1 hym fun y hy => (he y hy).1
 ·subst h1; obtain rfl : ms = es := (PV.sl.inj hym).symm
  exact ⟨by
   rcases h2.cells with h3 | ⟨b, o, cap, h3, h4, h5, h6⟩
   ·exact .inl h3
   ·refine .inr ⟨b, o, cap, h3, h4, h5, fun i y j z hi hj => ?_⟩
    have : sz = sz' := by rw [← (he y (List.mem_of_getElem? hi)).1, (h2.one y (List.mem_of_getElem? hi)).1]
    subst this
    exact h6 i y j z hi hj, he⟩
theorem sound_append (h : In P S F0 w0 F ρ w a s c o) {cl : Call} (hop : o.op = .call cl) (hb : cl.callee = .builtin .append) {x y : Operand} {t : Nat} (ha : cl.args.toList = [x, y]) (ht : cl.argTypes.toList = [t, t])
  {u v : SV PV} (hu : opv pvAlg c x = some u) (hv : opv pvAlg c y = some v) (hd : dlAppend pvAlg P H c (o.dst.getD 0) t u v = some cmd) (hg : cmd.gives P δ) :
  o.wpr ro P a w (Post S F0 w0 a (s.ap o.dst δ)) Q := by
 obtain ⟨cs, hr⟩ := exec_builtin (P := P) (a := a) (w := w) hop hb ha ht
 simp only [dlAppend, Option.bind_eq_bind, Option.bind_eq_some_iff] at hd
 obtain ⟨e, he, sz, hsz, bytes, hby, m, hm, z, hz, hd⟩ := hd
 have htu := tel_un he
 have hux := h.opv hu
 have ex : ∀ v' w', (Builtin.append_ #[t, t] o.type #[a.eval x, a.eval y]).run P w = .ok v' w' → (execOp a.eval o).run P w = .ok (.value v') w' := fun v' w' e => by rw [hr]; simp [builtin, e]
 split at hd
 ·rename_i hc
  simp only [Bool.and_eq_true, beq_iff_eq, Nat.blt_eq] at hc
  obtain ⟨hzl, h0⟩ := hc
  split at hd
  ·rename_i u
   split at hd
   ·rename_i fz ty sz' ag' ux hgo
    split at hd
    ·rename_i hc
     simp only [Bool.and_eq_true, beq_iff_eq] at hc
     obtain ⟨⟨rfl, rfl⟩, rfl⟩ := hc
     simp at hd; subst hd
     obtain ⟨q, hq, rfl⟩ := hg
     obtain ⟨es, ym, ms, hxs, hym, hms, hbytes, h63, rfl⟩ := ev_app hq
     simp at hxs; obtain ⟨rfl, rfl⟩ := hxs
     have hy := asL_repL h hv hm hym hms
     have hxe : a.eval x = ρ u := hux.1
     have hobs := h.sub.2 _ _ hgo
     obtain ⟨es', he1, _, hok1, hcase⟩ := h.rc.ob.rep u _ hgo
     simp at he1; subst he1
     have hesok : es.all (·.okc sz' (tag P ty)) = true := List.all_eq_true.2 fun y hy => (hok1 y hy).1
     have hall : (es ++ ms).all (·.okc sz' (tag P ty)) = true := by rw [List.all_append, hesok, hms]; rfl
     rcases hcase with ⟨hρ, rfl⟩ | ⟨g, cap, cur, hρ, hbk, h1, h2, h3, h4, h5, hgn⟩
     ·rw [hρ] at hxe
      rcases run_app_nil (ty := o.type) htu hsz hby hz hzl h0 hy (by simpa using hbytes) (by simpa using h63) with ⟨rfl, hrun⟩ | ⟨cap, cur, w', hrun, rfl, h1, h2, h3, h4⟩
      ·refine wp_value (v := .slice none 0 0) (w' := w) ?_ (post_turn (o := u) (d := o.dst.getD 0) (F' := F) (hd' := .slice none 0 0) h.r h.dst h.fr hobs rfl rfl (Kp.refl _ _) (fun _ _ h => h) (fun _ _ _ => Same.refl _ _ _) (fun _ _ h => .inl h) h.r.f2 (fun k hk => by simp [Lf.hb] at hk) trivial
        (b' := .arr fz ty sz' (tag P ty) (.sl ([] ++ []))) ⟨[], rfl, h0, by simp, .inl ⟨by simp, rfl⟩⟩ fun sv hs => ?_)
       ·exact ex _ _ (by rw [hxe]; exact hrun)
       ·simp at hs; subst hs; exact ⟨by simp, rfl⟩
      ·exact sound_turnArr (es := [] ++ ms) (len := ms.length) (n := w.drawn + 1) h h.fr hobs (by simp) (ex _ _ (by rw [hxe]; exact hrun)) h0 (by simpa using hall) (by simpa using h1) h2 h3 (by simpa using h4) rfl
     ·rw [hρ] at hxe
      have hlt : (cur.toList.take (es.length * sz')).length = es.length * sz' := by
       have := Nat.mul_le_mul_right sz' h1
       have hct : cur.toList.length = cap * sz' := by simpa using h3
       rw [List.length_take, hct]; omega
      have hrow : Row F w (cur.toList.take (es.length * sz')) es sz' := ⟨hlt, fun i y j z hi hj => by
       obtain ⟨v, hv, hr⟩ := h4 i y j z hi hj
       refine ⟨v, ?_, hr⟩
       have hj' : j < y.cells.length := (List.getElem?_eq_some_iff.1 hj).1
       rw [(okc_cells (hok1 y (List.mem_of_getElem? hi)).1).1] at hj'
       have hi' : i < es.length := (List.getElem?_eq_some_iff.1 hi).1
       have := Nat.mul_le_mul_right sz' (show i + 1 ≤ es.length from hi')
       rw [Nat.succ_mul] at this
       rw [List.getElem?_take, if_pos (by omega)]
       simpa using hv⟩
      rcases run_app_own (ty := o.type) htu hsz hby hz hzl h0 hy hbytes h63 hbk h1 h2 h3 hrow (elems_of_ok hesok) with ⟨cur', hrun, h6, h7, h8, h9⟩ | ⟨cap', cur', w', hrun, rfl, h6, h7, h8, h9⟩
      ·exact sound_growArr (len := es.length + ms.length) h h.fr hobs (by simp) hρ hbk h5 hgn (ex _ _ (by rw [hxe]; exact hrun)) h0 hall (by simpa using h6) h2 h7 h8 h9 rfl
      ·exact sound_turnArr (es := es ++ ms) (len := es.length + ms.length) (n := w.drawn + 1) h h.fr hobs (by simp) (ex _ _ (by rw [hxe]; exact hrun)) h0 hall (by simpa using h6) h7 h8 h9 rfl
    ·cases hd
   ·cases hd
  ·simp only [Option.some.injEq] at hd; subst hd
   obtain ⟨q, hq, rfl⟩ := hg
   obtain ⟨es, ym, ms, hxs, hym, hms, hbytes, h63, rfl⟩ := ev_app hq
   simp [pvAlg] at hxs; obtain ⟨rfl, rfl⟩ := hxs
   have hy := asL_repL h hv hm hym hms
   have hxe : a.eval x = .slice none 0 0 := hux
   rcases run_app_nil (ty := o.type) htu hsz hby hz hzl h0 hy (by simpa using hbytes) (by simpa using h63) with ⟨rfl, hrun⟩ | ⟨cap, cur, w', hrun, rfl, h1, h2, h3, h4⟩
   ·refine wp_value (v := .slice none 0 0) (w' := w) ?_ (post_new (o := o.dst.getD 0) (b' := .arr (!H.wr.contains (o.dst.getD 0)) e sz (tag P e) (.sl ([] ++ []))) (F' := F) (hd' := .slice none 0 0) h.r h.dst h.fr rfl rfl (Kp.refl _ _) (fun _ _ h => h) (fun _ _ h => .inl h) h.r.f2 (fun k hk => by simp [Lf.hb] at hk) trivial ⟨[], rfl, h0, by simp, .inl ⟨by simp, rfl⟩⟩ fun sv hs => ?_)
    ·exact ex _ _ (by rw [hxe]; exact hrun)
    ·simp at hs; subst hs; exact ⟨by simp, rfl⟩
   ·refine sound_newArr (es := [] ++ ms) (len := ms.length) (n := w.drawn + 1) h h.fr (by simp) (ex _ _ (by rw [hxe]; exact hrun)) h0 (by simpa using hms) (by simpa using h1) h2 h3 (by simpa using h4) rfl
  ·cases hd
 ·cases hd
/-- an array of the call's own, cut short -/
theorem sound_sliceO (h : In P S F0 w0 F ρ w a s c o) {t u : Nat} {x q : Operand} (hop : o.op = .slice t x none (some q) none) (hx : opv pvAlg c x = some (.at (.own u)))
  (hd : dlSliceO pvAlg P c (o.dst.getD 0) t u q = some cmd) (hg : cmd.gives P δ) : o.wpr ro P a w (Post S F0 w0 a (s.ap o.dst δ)) Q := by
 unfold dlSliceO at hd
 split at hd
 ·rename_i ty sz ag p hgo
  simp only [Option.bind_eq_some_iff] at hd
  obtain ⟨e, he, k, ⟨kv, hkv, hk⟩, hd⟩ := hd
  split at hd
  ·rename_i hc
   simp only [Bool.and_eq_true, beq_iff_eq] at hc
   obtain ⟨⟨rfl, hsz⟩, rfl⟩ := hc
   simp at hd; subst hd
   obtain ⟨z, hz, rfl⟩ := hg
   obtain ⟨ls, kk, m, hee, h0, h1, hall, rfl⟩ := ev_slcT hz
   simp at hee; obtain ⟨rfl, rfl⟩ := hee
   have hi : Rep F w (a.eval q) (.int kk m) := asE_rep h.rc.ob (h.opv hkv) hk
   have hxe : a.eval x = ρ u := (h.opv hx).1
   have hobs := h.sub.2 _ _ hgo
   obtain ⟨es, hes, hpos, hok, hcase⟩ := h.rc.ob.rep u _ hgo
   simp at hes; subst hes
   have hq : ∃ k, a.eval q = .int k (m.toNat : Int) := ⟨_, by rw [rep_int hi, Int.toNat_of_nonneg h0]⟩
   have hml : m.toNat ≤ ls.length := by omega
   have htu : P.underlying t = some (.slice e) := tel_un he
   have hst : slcTy P t = some (some (sz, tag P e)) := by unfold slcTy; rw [htu]; simp [hsz]
   rcases hcase with ⟨hρ, rfl⟩ | ⟨g, cap, cur, hρ, hbk, e1, e2, e3, e4, e5, hgn⟩
   ·have hm0 : m.toNat = 0 := by simpa using hml
    rw [hρ] at hxe
    refine wp_value (v := .slice none 0 0) (w' := w) ?_ (post_turn (o := u) (d := o.dst.getD 0) (F' := F) (hd' := .slice none 0 0) h.r h.dst h.fr hobs rfl rfl (Kp.refl _ _) (fun _ _ h => h) (fun _ _ _ => Same.refl _ _ _) (fun _ _ h => .inl h) h.r.f2 (fun k hk => by simp [Lf.hb] at hk) trivial
     (b' := .arr false e sz (tag P e) (.sl (([] : List PV).take m.toNat))) ⟨[], by simp, hpos, by simp, .inl ⟨by simp, rfl⟩⟩ fun sv hs => ?_)
    ·have := exec_slice (w := w) hop htu hsz hxe (run_sliceB (h := m.toNat) (l := 0) (by simpa using hq) (by simp) (Nat.zero_le _) (by omega) (Nat.zero_le _))
     simpa [hm0] using this
    ·simp at hs; subst hs; exact ⟨by simp, rfl⟩
   ·rw [hρ] at hxe
    have hrun := exec_slice (w := w) hop htu hsz hxe (run_sliceB (h := m.toNat) (l := 0) (by simpa using hq) (by simp) (Nat.zero_le _) hml e1)
    have htl : (ls.take m.toNat).length = m.toNat := by simp; omega
    refine wp_value (v := .slice (some ⟨g, 0, none⟩) m.toNat cap) (w' := w) ?_ (post_turn (o := u) (d := o.dst.getD 0) (F' := F) (hd' := .slice (some ⟨g, 0, none⟩) m.toNat cap) h.r h.dst h.fr hobs rfl rfl (Kp.refl _ _) (fun _ _ h => h) (fun _ _ _ => Same.refl _ _ _) (fun _ _ h => .inl h) h.r.f2 (fun k hk => .inr (by rw [hρ]; exact hk)) trivial
     (b' := .arr false e sz (tag P e) (.sl (ls.take m.toNat))) ⟨ls.take m.toNat, rfl, hpos, fun y hy => hok y (List.mem_of_mem_take hy), .inr ⟨g, cap, cur, by simp [htl], hbk, by rw [htl]; omega, e2, e3, fun i y j z hi hj => ?_, fun j => ⟨fun hf => ?_, fun hf => by cases hf.1⟩, hgn⟩⟩ fun sv hs => ?_)
    ·have e0 : (if cap = 0 then (some ⟨g, 0, none⟩ : Option Addr) else (some ⟨g, 0, none⟩ : Option Addr).map (·.add (0 * sz))) = some ⟨g, 0, none⟩ := by
      split
      ·rfl
      ·simp [Addr.add]
     rw [e0] at hrun
     simpa using hrun
    ·rw [List.getElem?_take] at hi
     split at hi
     ·exact e4 i y j z hi hj
     ·cases hi
    ·have := (e5 j).1 hf
     cases this.1
    ·simp at hs; subst hs; exact ⟨by simp, rfl⟩
  ·cases hd
 ·cases hd
theorem sound_dlSl (h : In P S F0 w0 F ρ w a s c o) {t : Nat} {x : Operand} {lo hi mx : Option Operand} (hop : o.op = .slice t x lo hi mx) {v : SV PV} (hv : opv pvAlg c x = some v)
  (hd : dlSl pvAlg P c (o.dst.getD 0) t v lo hi mx = some cmd) (hg : cmd.gives P δ) : o.wpr ro P a w (Post S F0 w0 a (s.ap o.dst δ)) Q := by
 unfold dlSl at hd
 split at hd
 ·split at hd
  ·exact sound_sliceO h hop hv hd hg
  ·exact sound_dlSlice' h hop hv hd hg
 ·exact sound_dlSlice' h hop hv hd hg
end
end Go.Lf
/- Each operation does what its reading says: new arrays, maps, structs. -/
namespace Go.Lf
variable [Mk] [Gl]
open Go.RowKit
section
variable {ro : Option Nat} {P : Program} {H : Hint} {S : Fx} {F0 : Nat → Nat → Prop} {w0 : World} {F F' : Nat → Nat → Prop} {ρ : Nat → Value} {w w' : World} {a : Act} {s c : St PV}
 {Q : Exit → Act → World → Prop} {o : Oper} {δ : Dl PV} {cmd : Cmd PV}
theorem sound_makeSlice (h : In P S F0 w0 F ρ w a s c o) {d : Nat} (hdf : d ∉ S.al) {t e i bytes : Nat} (hop : o.op = .makeSlice t (.tmp i) (.tmp i)) (he : tel P t = some e) (hsz : tsz P e = some 1) (hby : tby P e = some bytes)
  {u z y : PV} (hu : ((opv pvAlg c (.tmp i)).bind (asE pvAlg c)) = some u) (hz : zeroCells P e = some [z]) {fz : Bool} (hq : (Prim.rep 1 false bytes z).ev [u] = some y) :
  o.wpr ro P a w (Post S F0 w0 a (s.ap o.dst { dst := some (.at (.own d)), obs := [(d, some (.arr fz e 1 false y))], born := [d] })) Q := by
 obtain ⟨ti, hti, hs1⟩ := tsz_info hsz
 obtain ⟨ti', hti', hb1⟩ := tby_info hby
 rw [hti] at hti'; simp at hti'; subst hti'
 obtain ⟨ti', zv, hti', hzv, hzs, hzc⟩ := zeroCells_spec hz
 rw [hti] at hti'; simp at hti'; subst hti'
 obtain ⟨k, n, hx, hn, hbn, hml, hok, rfl⟩ := ev_rep hq
 simp at hx; subst hx
 have hv := rep_int (h.asE hu)
 have hrb : roomB = 140737488355328 := rfl
 have hmv : maxLen = 9223372036854775807 := rfl
 obtain ⟨m, rfl⟩ : ∃ m : Nat, n = m := ⟨n.toNat, by omega⟩
 simp only [Int.toNat_natCast] at hbn ⊢
 have hbb : (ti.bytes : Int) * (m : Int) ≤ 281474976710656 := by
  have : ((m * ti.bytes : Nat) : Int) ≤ 281474976710656 := by rw [hb1]; omega
  rw [Nat.mul_comm] at this
  rwa [Int.natCast_mul] at this
 have hrun := run_make (P := P) w t e ti zv (tel_un he) hti hzv k k m m (by omega) (Int.le_refl _) hbb (by omega)
 simp only [Int.toNat_natCast, hs1, Nat.mul_one] at hrun
 have hz0 : zv.cells[0]? = some (zv.cells[0]'(by rw [hzs]; simp)) := by simp [hzs]
 refine sound_newArr (es := List.replicate m z) (len := m) (n := w.drawn) h hdf (by simp) (cap := m) (cur := madeCells zv.cells m) ?_ (by omega) ?_ (by simp) (by omega) (by simp [size_madeCells]) ⟨by simp [size_madeCells], fun i y j x hi hj => ?_⟩ rfl
 ·simp [execOp, hop, hv, hrun]
 ·simp [List.all_eq_true, hok]
 ·rw [List.getElem?_replicate] at hi
  split at hi
  ·rename_i him
   simp at hi; subst hi
   rw [cells_of_one (okc_cells hok).2] at hj
   have hj0 : j = 0 := by
    have := (List.getElem?_eq_some_iff.1 hj).1
    simp at this; exact this
   subst hj0
   simp at hj; subst hj
   refine ⟨zv.cells[0]'(by rw [hzs]; simp), ?_, cstV_rep (hzc 0 _ z hz0 rfl)⟩
   simp only [List.length_replicate, Nat.mul_one, Nat.add_zero, List.getElem?_take, him, if_true]
   simp [madeCells, hzs, Nat.mod_one, him]
  ·cases hi
theorem zip_parts : ∀ (l : List (Nat × Operand)) (k : Nat) (f : Operand → Value), l.map (·.1) = List.range' k l.length → (l.map fun p => (p.1, f p.2)) = ((l.map fun p => f p.2).zipIdx k).map fun x => (x.2, x.1)
 | [], _, _, _ => rfl
 | p :: l, k, f, h => by
  simp only [List.map_cons, List.length_cons, List.range'_succ, List.cons.injEq] at h
  simp only [List.map_cons, List.zipIdx_cons, List.cons.injEq]
  exact ⟨by rw [h.1], zip_parts l (k + 1) f h.2⟩
theorem sound_buildSlice (h : In P S F0 w0 F ρ w a s c o) {d : Nat} (hdf : d ∉ S.al) {t e n sz : Nat} {parts : Array (Nat × Operand)} (hop : o.op = .buildSlice t n parts) (he : tel P t = some e) (hsz : tsz P e = some sz)
  {vs z : List PV} {y : PV} (hvs : (parts.toList.mapM fun p => (opv pvAlg c p.2).bind (asE pvAlg c)) = some vs) (hz : zeroCells P e = some z) (hzl : z.length = sz) (hr : parts.toList.map (·.1) = List.range n)
  (hn : n * sz ≤ 16777216) (h0 : 0 < sz) {fz ag : Bool} (hq : (Prim.lst sz ag).ev vs = some y) :
  o.wpr ro P a w (Post S F0 w0 a (s.ap o.dst { dst := some (.at (.own d)), obs := [(d, some (.arr fz e sz ag y))], born := [d] })) Q := by
 obtain ⟨ti, hti, hs1⟩ := tsz_info hsz
 obtain ⟨ti', zv, hti', hzv, hzs, hzc⟩ := zeroCells_spec hz
 rw [hti] at hti'; simp at hti'; subst hti'
 obtain ⟨hok, rfl⟩ := ev_lst hq
 obtain ⟨h1, h2⟩ := mapM_some hvs
 have hpl : parts.toList.length = n := by rw [← List.length_map (f := (·.1)), hr]; simp
 have he' := elems_of_ok hok
 have rep : ∀ (i : Nat) (p : Nat × Operand) (x : PV), parts.toList[i]? = some p → vs[i]? = some x → Rep F w (a.eval p.2) x := fun i p x hp hx => h.asE (h2 i p x hp hx)
 have csz : ∀ v ∈ parts.toList.map fun p => a.eval p.2, v.cells.size = sz := by
  intro v hv
  obtain ⟨p, hp, rfl⟩ := List.mem_map.1 hv
  obtain ⟨i, hi, rfl⟩ := List.getElem_of_mem hp
  have hx : vs[i]? = some (vs[i]'(by omega)) := by simp [h1, hi]
  have := (rep i _ _ (List.getElem?_eq_getElem hi) hx).cells.1
  rw [this, (he' _ (List.mem_of_getElem? hx)).1]
 have hfill : Instr.fill (fun i => some (i * ti.size, ti.size)) ((Array.range (n * ti.size)).map (zv.cells[· % zv.cells.size]!)) (parts.map fun (i, x) => (i, a.eval x)).toList = some ((parts.toList.map fun p => a.eval p.2).flatMap fun v => v.cells.toList).toArray := by
  have e1 : (parts.map fun (i, x) => (i, a.eval x)).toList = ((parts.toList.map fun p => a.eval p.2).zipIdx 0).map fun x => (x.2, x.1) := by
   rw [Array.toList_map]
   refine zip_parts parts.toList 0 a.eval ?_
   rw [hr, hpl, List.range_eq_range']
  rw [e1, hs1]
  exact Great.fill_whole h0 _ _ csz (by simp; rw [← Array.length_toList, hpl])
 have hrun : (Instr.buildSlice t n (parts.map fun (i, x) => (i, a.eval x))).run P w = .ok (.slice (some ⟨w.heap.size, 0, none⟩) n n) (w.alloc (.cells ((parts.toList.map fun p => a.eval p.2).flatMap fun v => v.cells.toList).toArray e)) := by
  by_cases hn0 : n = 0
  ·subst hn0
   have : parts.toList = [] := List.eq_nil_of_length_eq_zero hpl
   have : parts = #[] := by simpa using this
   subst this
   have e0 : (Instr.buildSlice t 0 #[]).run P w = .ok (.slice (some ⟨w.heap.size, 0, none⟩) 0 0) (w.alloc (.cells #[] e)) := by
    simp [Instr.buildSlice, run_underlying (tel_un he), sizeOf, typeInfo, hti, Instr.fill, newRow]
    rw [show (Array.range 0) = #[] from by simp]; simp
   simpa using e0
  ·refine run_buildSlice w t e n _ _ ti zv (tel_un he) hti hzv (by rw [hs1]; omega) ?_ hfill
   rw [hs1]
   intro hc
   rcases Nat.mul_eq_zero.1 hc with h3 | h3 <;> omega
 have hmv : maxLen = 9223372036854775807 := rfl
 have hns : n ≤ n * sz := Nat.le_mul_of_pos_right _ h0
 have hvl : vs.length = n := by rw [h1, hpl]
 have hfl : ((parts.toList.map fun p => a.eval p.2).flatMap fun v => v.cells.toList).length = n * sz := by
  have : ∀ l : List Value, (∀ v ∈ l, v.cells.size = sz) → (l.flatMap fun v => v.cells.toList).length = l.length * sz := by
   intro l hl
   induction l with
   | nil => simp
   | cons x l ih =>
    simp only [List.flatMap_cons, List.length_append, Array.length_toList, List.length_cons, Nat.succ_mul]
    rw [ih fun v hv => hl v (List.mem_cons_of_mem _ hv), hl x List.mem_cons_self]; omega
  rw [this _ csz]; simp; rw [← Array.length_toList, hpl]
 refine sound_newArr (es := vs) (len := n) (n := w.drawn) h hdf hvl.symm (cap := n) (cur := ((parts.toList.map fun p => a.eval p.2).flatMap fun v => v.cells.toList).toArray) ?_ h0 hok (by omega) (by omega) (by simpa using hfl) ⟨by simp only [List.length_take]; rw [hfl, hvl]; omega, fun i y j x hi hj => ?_⟩ rfl
 ·simp [execOp, hop, hrun]
 ·have hil : i < n := by rw [← hvl]; exact (List.getElem?_eq_some_iff.1 hi).1
  have hjl : j < sz := by rw [← (he' y (List.mem_of_getElem? hi)).1]; exact (List.getElem?_eq_some_iff.1 hj).1
  have hlt : i * sz + j < n * sz := by
   have : (i + 1) * sz ≤ n * sz := Nat.mul_le_mul_right _ hil
   rw [Nat.succ_mul] at this; omega
  have hp : parts.toList[i]? = some (parts.toList[i]'(by omega)) := List.getElem?_eq_getElem (by omega)
  obtain ⟨hc1, hc2⟩ := (rep i _ y hp hi).cells
  have hcj : (a.eval (parts.toList[i]'(by omega)).2).cells[j]? = some ((a.eval (parts.toList[i]'(by omega)).2).cells[j]'(by rw [hc1, (he' y (List.mem_of_getElem? hi)).1]; exact hjl)) := by
   simp [hc1, (he' y (List.mem_of_getElem? hi)).1, hjl]
  refine ⟨_, ?_, hc2 j _ x hcj hj⟩
  rw [List.getElem?_take, if_pos (by rw [hvl]; exact hlt)]
  have hfg := Great.flat_get h0 (parts.toList.map fun p => a.eval p.2) csz (i * sz + j)
  rw [hfg]
  have d1 : (i * sz + j) / sz = i := by rw [Nat.mul_comm, Nat.mul_add_div h0, Nat.div_eq_of_lt hjl, Nat.add_zero]
  have d2 : (i * sz + j) % sz = j := by rw [Nat.mul_comm, Nat.mul_add_mod, Nat.mod_eq_of_lt hjl]
  rw [d1, d2, List.getElem?_map, hp]
  exact hcj
theorem sound_makeMap (h : In P S F0 w0 F ρ w a s c o) {t d : Nat} (hdf : d ∉ S.al) (hop : o.op = .makeMap t none) :
  o.wpr ro P a w (Post S F0 w0 a (s.ap o.dst { dst := some (.at (.mref d)), obs := [(d, some (.map false (pvAlg.cst (.mp [] []))))], born := [d] })) Q := by
 refine wp_value (v := .map (some w.heap.size)) (w' := w.alloc (.map #[] 0)) ?_ (post_new (o := d) (b' := .map false (.mp [] [])) (F' := F) (hd' := .map (some w.heap.size)) h.r h.dst hdf rfl rfl (heapNew w _) (fun _ _ h => h) (fun _ _ h => .inl h)
  (fun b u hf => by have := h.r.f2 b u hf; simp; omega) (fun k hk => by simp [Lf.hb] at hk; omega) trivial ⟨w.heap.size, #[], 0, [], [], by simp, rfl, heap_alloc_new w _, rfl, rfl, by simp, by simp, fun j => ⟨fun hf => ?_, fun hf => by simp at hf⟩⟩ fun sv hs => ?_)
 ·simp [execOp, hop, Instr.makeMap, newObj]
  rfl
 ·exact absurd (h.r.f2 _ _ hf) (by omega)
 ·simp at hs; subst hs; exact ⟨by simp, rfl⟩
end
end Go.Lf
/- Each operation does what its reading says: structs and arrays that are built. -/
namespace Go.Lf
variable [Mk] [Gl]
open Go.RowKit
section
variable {ro : Option Nat} {P : Program} {H : Hint} {S : Fx} {F0 : Nat → Nat → Prop} {w0 : World} {F F' : Nat → Nat → Prop} {ρ : Nat → Value} {w w' : World} {a : Act} {s c : St PV}
 {Q : Exit → Act → World → Prop} {o : Oper} {δ : Dl PV} {cmd : Cmd PV}
def AtRow (F : Nat → Nat → Prop) (ρ : Nat → Value) (w : World) (cells : Array Value) (l : List (A PV)) : Prop :=
 cells.size = l.length ∧ ∀ (i : Nat) (u : Value) (x : A PV), cells[i]? = some u → l[i]? = some x → RepA F ρ w u x ∧ u.oneCell' = true
theorem atRow_put {cells cells' : Array Value} {acc l : List (A PV)} {v : Array Value} {off m : Nat} (h : AtRow F ρ w cells acc) (hv : AtRow F ρ w v l) (hm : v.size = m) (ho : off + m ≤ acc.length)
  (h1 : cells'.size = cells.size) (h2 : ∀ k, cells'[k]? = if off ≤ k ∧ k < off + m ∧ k < cells.size then v.toList[k - off]? else cells[k]?) : AtRow F ρ w cells' (acc.take off ++ l ++ acc.drop (off + m)) := by
 have hlm : l.length = m := by rw [← hv.1, hm]
 have htl : (acc.take off).length = off := by simp; omega
 refine ⟨by rw [h1, h.1]; simp [hlm]; omega, fun k u x hu hx => ?_⟩
 rw [h2] at hu
 rw [List.append_assoc] at hx
 by_cases hk : k < off
 ·rw [if_neg (by omega)] at hu
  rw [List.getElem?_append_left (by omega), List.getElem?_take, if_pos hk] at hx
  exact h.2 k u x hu hx
 ·rw [List.getElem?_append_right (by omega), htl] at hx
  by_cases hk2 : k < off + m
  ·rw [if_pos ⟨by omega, hk2, by rw [h.1]; omega⟩] at hu
   rw [List.getElem?_append_left (by omega)] at hx
   exact hv.2 _ u x (by simpa using hu) hx
  ·rw [if_neg (by omega)] at hu
   rw [List.getElem?_append_right (by omega), hlm, List.getElem?_drop] at hx
   exact h.2 k u x hu (by rw [← hx]; congr 1; omega)
theorem svCells_dat {m : Nat} {g : Bool} {x : PV} {l : List (A PV)} (h : svCells pvAlg m g (.at (.dat x)) = some l) : g = false → m = 1 := by
 intro hg; subst hg
 simp only [svCells] at h
 by_cases hm : m = 1
 ·exact hm
 ·simp [hm] at h
theorem fill_rep (hgl : GlOk F w) (ht : ∀ t sv, c.gt t = some sv → ∃ v, a.tmps[t]? = some v ∧ RepS F ρ w v sv) {t : Nat} {place : Nat → Option (Nat × Nat)} (hpl : ∀ i off m g, partAt' P t i = some (off, m, g) → place i = some (off, m)) :
  ∀ (ps : List (Nat × Operand)) (acc l : List (A PV)) (cells : Array Value), AtRow F ρ w cells acc → buildGo pvAlg P c t ps acc = some l →
   (∀ p ∈ ps, ∀ off m g x, partAt' P t p.1 = some (off, m, g) → opv pvAlg c p.2 = some (.at (.dat x)) → (g = false → m = 1) → x.okc m g = true) →
   ∃ cells', Instr.fill place cells (ps.map fun p => (p.1, a.eval p.2)) = some cells' ∧ AtRow F ρ w cells' l
 | [], acc, l, cells, h, hb, _ => by simp [buildGo] at hb; subst hb; exact ⟨cells, rfl, h⟩
 | p :: ps, acc, l, cells, h, hb, hd => by
  unfold buildGo at hb
  split at hb
  ·rename_i off m g v hp hv
   split at hb
   ·rename_i l' hl'
    split at hb
    ·rename_i hc
     simp only [Bool.and_eq_true, decide_eq_true_eq, beq_iff_eq] at hc
     have hr := opv_rep (a := a) hgl ht hv
     obtain ⟨s1, s2, _, s4⟩ := svCells_rep hr (fun x hx => hd p List.mem_cons_self off m g x hp (by rw [hv, hx]) (svCells_dat (by rw [← hx]; exact hl'))) hl'
     obtain ⟨g1, g2⟩ := Great.foldl_set off (a.eval p.2).cells.toList 0 cells
     have hrow := atRow_put (cells' := (((a.eval p.2).cells.toList.zipIdx 0).foldl (fun cs (x : Value × Nat) => cs.setIfInBounds (off + x.2) x.1) cells)) h (v := (a.eval p.2).cells) (l := l') (off := off) (m := m) ⟨by omega, s4⟩ s1 hc.1 g1 fun k => by
      rw [g2 k]
      simp only [Nat.add_zero, Array.length_toList, s1]
     obtain ⟨cells', hf, hrow'⟩ := fill_rep hgl ht hpl ps _ l _ hrow hb fun q hq => hd q (List.mem_cons_of_mem _ hq)
     refine ⟨cells', ?_, hrow'⟩
     simp only [List.map_cons]
     unfold Instr.fill
     simp only [hpl _ _ _ _ hp, s1]
     rw [if_neg (by rw [h.1]; simp; omega)]
     rw [← hf]
     congr 1
     rw [← Array.foldl_toList, Array.toList_zipIdx]
    ·cases hb
   ·cases hb
  ·cases hb
theorem okcs_mem {qs : List ((Nat × Bool) × PV)} {z : PV} (h : (Prim.okcs (qs.map (·.1))).ev (qs.map (·.2)) = some z) : ∀ q ∈ qs, q.2.okc q.1.1 q.1.2 = true := by
 obtain ⟨_, h2⟩ := ev_okcs h
 rw [List.zip_map', List.all_map, List.all_eq_true] at h2
 intro q hq
 exact h2 q hq
theorem cstV_cell {v : Value} {x : PV} (h : cstV v = some x) : x.isCell = true := by
 unfold cstV at h
 split at h <;> simp at h <;> subst h <;> rfl
theorem opv_const_cell {v : Value} {x : PV} (h : opv pvAlg c (.const v) = some (.at (.dat x))) : x.isCell = true := by
 have h0 : cstS pvAlg v = some (.at (.dat x)) := h
 unfold cstS at h0
 split at h0
 ·simp at h0
 ·simp at h0
 ·simp only [Option.map_eq_some_iff] at h0
  obtain ⟨l, _, h1⟩ := h0
  cases h1
 ·simp only [Option.map_eq_some_iff] at h0
  obtain ⟨x', hx, he⟩ := h0
  simp [pvAlg] at he; subst he
  exact cstV_cell hx
theorem okc_cell {x : PV} (h : x.isCell = true) : x.okc 1 false = true := by
 cases x <;> simp_all [PV.okc, PV.isCell, PV.cells, PV.isAg]
theorem buildAsk_mem {t : Nat} : ∀ (ps : List (Nat × Operand)), (∀ q ∈ buildAsk pvAlg P c t ps, q.2.okc q.1.1 q.1.2 = true) →
  ∀ p ∈ ps, ∀ off m g x, partAt' P t p.1 = some (off, m, g) → opv pvAlg c p.2 = some (.at (.dat x)) → (g = false → m = 1) → x.okc m g = true
 | [], _, p, hp, _, _, _, _, _, _, _ => by simp at hp
 | q :: ps, h, p, hp, off, m, g, x, h1, h2, h3 => by
  unfold buildAsk at h
  rcases List.mem_cons.1 hp with rfl | hp'
  ·split at h
   ·rename_i e1 e2 e3
    rw [e1] at h1; simp at h1; obtain ⟨_, rfl, rfl⟩ := h1
    rw [h3 rfl]
    rw [e3] at h2
    exact okc_cell (opv_const_cell h2)
   ·rename_i e1 e2 _
    rw [e1] at h1; simp at h1; obtain ⟨_, rfl, rfl⟩ := h1
    rw [e2] at h2; simp at h2; subst h2
    exact h _ List.mem_cons_self
   ·rename_i n1 n2
    first
     | exact absurd h2 (n1 _ _ _ _ h1)
     | exact absurd h2 (n2 _ _ _ _ h1)
  ·refine buildAsk_mem ps (fun q' hq' => ?_) p hp' off m g x h1 h2 h3
   split at h
   ·exact h q' hq'
   ·exact h q' (List.mem_cons_of_mem _ hq')
   ·exact h q' hq'
theorem mapM_get {fs : List Field} {places : List (Nat × Nat)} (h : fs.mapM (fun f => (P.info? f.type).map fun i => (f.offset, i.size)) = some places) {i : Nat} {f : Field} (hf : fs[i]? = some f) {m : Nat} (hm : tsz P f.type = some m) :
  places[i]? = some (f.offset, m) := by
 obtain ⟨h1, h2⟩ := mapM_some h
 have hi : i < fs.length := (List.getElem?_eq_some_iff.1 hf).1
 have hp : places[i]? = some (places[i]'(by omega)) := List.getElem?_eq_getElem (by omega)
 have := h2 i f _ hf hp
 obtain ⟨ti, hti, hs⟩ := tsz_info hm
 rw [hti] at this; simp at this
 rw [hp, ← this, hs]
theorem sound_dlBuild (h : In P S F0 w0 F ρ w a s c o) {t : Nat} {parts : Array (Nat × Operand)} (hop : o.op = .build t parts) (hd : dlBuild pvAlg P c t parts.toList = some cmd) (hg : cmd.gives P δ) :
  o.wpr ro P a w (Post S F0 w0 a (s.ap o.dst δ)) Q := by
 unfold dlBuild at hd
 split at hd
 ·rename_i htag
  simp only [Bool.and_eq_true] at htag
  obtain ⟨htag, hszd⟩ := htag
  simp only [Option.bind_eq_some_iff, Option.map_eq_some_iff] at hd
  obtain ⟨z, hz, l, hl, hd⟩ := hd
  have hask : (∀ q ∈ buildAsk pvAlg P c t parts.toList, q.2.okc q.1.1 q.1.2 = true) ∧ δ = { dst := some (.agg l) } := by
   split at hd
   ·rename_i he
    subst hd
    rw [he]
    exact ⟨by simp, hg⟩
   ·rename_i qs _
    subst hd
    obtain ⟨y, hy, rfl⟩ := hg
    exact ⟨okcs_mem hy, rfl⟩
  obtain ⟨hask, rfl⟩ := hask
  obtain ⟨ti, zv, hti, hzv, hzs, hzc⟩ := zeroCells_spec hz
  have h0 : AtRow F ρ w zv.cells (z.map (zA pvAlg)) := ⟨by simp [hzs], fun i u x hu hx => by
   simp only [List.getElem?_map, Option.map_eq_some_iff] at hx
   obtain ⟨y, hy, rfl⟩ := hx
   exact zA_rep (hzc i u y hu hy)⟩
  have fin : ∀ (place : Nat → Option (Nat × Nat)), (∀ i off m g, partAt' P t i = some (off, m, g) → place i = some (off, m)) →
    (∀ cells, Instr.fill place zv.cells (parts.toList.map fun p => (p.1, a.eval p.2)) = some cells → P.built t (parts.map fun (i, x) => (i, a.eval x)).toList = some cells) →
    o.wpr ro P a w (Post S F0 w0 a (s.ap o.dst { dst := some (.agg l) })) Q := by
   intro place hpl hbuilt
   obtain ⟨cells', hf, hrow⟩ := fill_rep (h.gl.mono h.r.kp.size h.r.f0 h.r.f3) h.rc.tm hpl parts.toList _ l _ h0 hl (buildAsk_mem _ hask)
   have hrun := run_build (P := P) w t _ cells' (hbuilt cells' hf)
   refine sound_val h (v := .agg cells') ?_ rfl fun sv hs => ?_
   ·simp [execOp, hop, hrun]
   ·simp at hs; subst hs
    exact ⟨cells', rfl, hrow.1, hrow.2⟩
  have epl : (parts.map fun (i, x) => (i, a.eval x)).toList = parts.toList.map fun p => (p.1, a.eval p.2) := by simp
  unfold tag at htag
  split at htag
  ·rename_i fs hu
   cases hp : fs.toList.mapM (fun f => (P.info? f.type).map fun i => (f.offset, i.size)) with
   | none => simp [sized, hu, hp] at hszd
   | some places =>
    refine fin (places.toArray[·]?) (fun i off m g hpa => ?_) fun cells hc => ?_
    ·simp only [partAt', hu, Option.bind_eq_some_iff, Option.map_eq_some_iff] at hpa
     obtain ⟨f, hf, m', hm, he⟩ := hpa
     simp at he; obtain ⟨rfl, rfl, _⟩ := he
     simp only [List.getElem?_toArray]
     exact mapM_get hp (by simpa using hf) hm
    ·simp only [Program.built, hti, hu, hzv, hp, epl]
     exact hc
  ·rename_i n e hu
   cases hs : P.info? e with
   | none => simp [sized, hu, hs] at hszd
   | some ie =>
    refine fin (fun i => some (i * ie.size, ie.size)) (fun i off m g hpa => ?_) fun cells hc => ?_
    ·simp only [partAt', hu] at hpa
     split at hpa
     ·simp only [tsz, hs, Option.map_some, Option.some.injEq, Prod.mk.injEq] at hpa
      obtain ⟨rfl, rfl, _⟩ := hpa
      rfl
     ·cases hpa
    ·simp only [Program.built, hti, hu, hzv, hs, epl]
     exact hc
  ·cases htag
 ·cases hd
end
end Go.Lf
/- Each operation does what its reading says: maps. -/
namespace Go.Lf
variable [Mk] [Gl]
open Go.RowKit
section
variable {P : Program} {F : Nat → Nat → Prop} {w : World}
theorem checkKey_flat (em : Bool) : ∀ (n d t : Nat) (ks : List CK) (xs : Array Value), n ≤ d → flatK P n t = some ks → xs.size = ks.length → (Instr.checkKey em d t (ofCells P t xs)).run P w = .ok () w
 | 0, _, _, _, _, _, h, _ => by simp [flatK] at h
 | n + 1, d, t, ks, xs, hd, h, h1 => by
  obtain ⟨d, rfl⟩ : ∃ e, d = e + 1 := ⟨d - 1, by omega⟩
  have ih := fun t ks xs => checkKey_flat em n d t ks xs (by omega)
  have h0 := h
  unfold flatK at h
  split at h
  ·rename_i k hu _; simp [Instr.checkKey, run_underlying hu]
  ·rename_i hu _; simp [Instr.checkKey, run_underlying hu]
  ·rename_i hu _; simp [Instr.checkKey, run_underlying hu]
  ·rename_i fs m hu hm
   split at h
   ·simp only [Option.bind_eq_some_iff] at h
    obtain ⟨l, hl, h⟩ := h
    split at h
    ·simp at h; subst h
     have hg : tagS P t = some true := by simp [tagS, hu]
     simp only [ofCells, hg, Option.getD_some, if_true]
     rw [Instr.checkKey]
     simp only [Sem.run_bind, run_underlying hu, Result.andThen_ok]
     rw [← Array.forIn_toList]
     have go : ∀ (fs : List Field) (off : Nat) (k2 : List CK), flatF (flatK P n) fs off = some k2 → xs.size = off + k2.length →
       (forIn fs PUnit.unit fun f _ => (if f.name ≠ "_" then do Instr.checkKey em d f.type (← part f.type xs f.offset); pure (ForInStep.yield PUnit.unit) else pure (ForInStep.yield PUnit.unit) : Sem (ForInStep PUnit))).run P w = .ok PUnit.unit w := by
      intro fs
      induction fs with
      | nil => intro off k2 _ _; simp
      | cons f fs ihf =>
       intro off k2 hf hs
       simp only [flatF] at hf
       split at hf
       ·rename_i hc
        simp only [Bool.and_eq_true, bne_iff_ne, beq_iff_eq] at hc
        simp only [Option.bind_eq_some_iff, Option.map_eq_some_iff] at hf
        obtain ⟨k1, hk1, k3, hk2, rfl⟩ := hf
        obtain ⟨z1, g, z2⟩ := flatK_sz hk1
        simp only [List.length_append] at hs
        have o1 : g = false → k1.length = 1 := fun e => flatK_one hk1 (e ▸ z2)
        have p1 := run_part (w := w) (xs := xs) (off := off) z1 z2 (by omega) o1
        have p2 := ih f.type k1 (xs.extract off (off + k1.length)) hk1 (by simp; omega)
        simp only [List.forIn_cons, Sem.run_bind, hc.1, ne_eq, not_false_eq_true, if_true, Result.andThen_ok, hc.2, p1, p2, Sem.run_pure]
        exact ihf (off + k1.length) k3 hk2 (by omega)
       ·cases hf
     have := go fs.toList 0 l hl (by omega)
     revert this
     generalize fs.toList = L
     intro this
     exact (congrArg (fun r : Result PUnit => r.andThen fun _ w' => (pure () : Sem Unit).run P w') this).trans (by simp)
    ·cases h
   ·cases h
  ·rename_i k et m hu hm
   simp only [Option.bind_eq_some_iff] at h
   obtain ⟨l, hl, h⟩ := h
   split at h
   ·rename_i hc
    simp only [Bool.and_eq_true, beq_iff_eq] at hc
    simp at h; subst h
    have hg : tagS P t = some true := by simp [tagS, hu]
    have hlen : ((List.replicate k l).flatten).length = k * l.length := by simp [List.length_flatten]
    simp only [ofCells, hg, Option.getD_some, if_true]
    rw [Instr.checkKey]
    simp only [Sem.run_bind, run_underlying hu, Result.andThen_ok]
    simp only [Std.Legacy.Range.forIn_eq_forIn_range', Std.Legacy.Range.size, Nat.sub_zero, Nat.add_one_sub_one, Nat.div_one]
    obtain ⟨z1, g, z2⟩ := flatK_sz hl
    have o1 : g = false → l.length = 1 := fun e => flatK_one hl (e ▸ z2)
    have each : ∀ i ∈ List.range' 0 k, i < k := by simp
    generalize List.range' 0 k = L at each
    induction L with
    | nil => simp
    | cons i L ihl =>
     have hi := each i List.mem_cons_self
     have hle : i * l.length + l.length ≤ xs.size := by
      rw [h1, hlen]
      have := Nat.mul_le_mul_right l.length (show i + 1 ≤ k from hi)
      rw [Nat.succ_mul] at this; exact this
     have p1 := run_part (w := w) (xs := xs) (off := i * l.length) z1 z2 hle o1
     have p2 := ih et l (xs.extract (i * l.length) (i * l.length + l.length)) hl (by simp; omega)
     simp only [List.forIn_cons, Sem.run_bind, run_sizeOf' hc.1, Result.andThen_ok, p1, p2, Sem.run_pure]
     exact ihl fun j hj => each j (List.mem_cons_of_mem _ hj)
   ·cases h
  ·cases h
theorem tagS_tag {t : Nat} {g : Bool} (h : tagS P t = some g) : g = tag P t := by
 unfold tagS at h; unfold tag
 simp only [Option.map_eq_some_iff] at h
 obtain ⟨d, hd, rfl⟩ := h
 rw [hd]
 cases d <;> rfl
/-- a key that reads as one of the type's kinds -/
theorem key_form {kt : Nat} {kk : List CK} (hk : flatK P 8 kt = some kk) {v : Value} {x : PV} (hx : Rep F w v x) (h : x.okc kk.length (tag P kt) = true) :
  v = ofCells P kt v.cells ∧ v.cells.size = kk.length ∧ RepC F w v.cells x.cells := by
 obtain ⟨h1, h2⟩ := hx.cells
 obtain ⟨z1, g, z2⟩ := flatK_sz hk
 have hgt := tagS_tag z2
 subst hgt
 have hc := okc_cells h
 refine ⟨?_, by rw [h1, hc.1], h1, h2⟩
 unfold ofCells
 simp only [z2, Option.getD_some]
 by_cases ht : tag P kt = true
 ·rw [if_pos ht]
  have := cells_of_agg (by rw [hc.2, ht] : x.isAg = true)
  rw [this] at hx
  obtain ⟨cs, rfl, _⟩ := rep_agg hx
  rfl
 ·rw [if_neg ht]
  have hcs := cells_of_one (by rw [hc.2]; simpa using ht)
  have : v.oneCell' = true := oneCell_of_rep hx (okc_all h x (by rw [hcs]; simp))
  rw [cells_of_oneV this]; rfl
theorem keq_okc {ag : Bool} {kk : List CK} {x y : PV} {b : Bool} (h : PV.keq ag kk x y = some b) : x.okc kk.length ag = true ∧ y.okc kk.length ag = true ∧ PV.sameK kk x.cells y.cells = some b := by
 unfold PV.keq at h
 split at h
 ·rename_i hc; exact ⟨hc.1, hc.2, h⟩
 ·cases h
theorem equal_key {kt : Nat} {kk : List CK} (hk : flatK P 8 kt = some kk) {u v : Value} {x y : PV} {b : Bool} (hx : Rep F w u x) (hy : Rep F w v y) (h : PV.keq (tag P kt) kk x y = some b) : (Op.equal kt u v).run P w = .ok b w := by
 obtain ⟨h1, h2, h3⟩ := keq_okc h
 obtain ⟨a1, a2, a3⟩ := key_form hk hx h1
 obtain ⟨b1, b2, b3⟩ := key_form hk hy h2
 rw [a1, b1]
 exact equalIn_flat 8 Op.maxDepth kt kk _ _ _ _ b (by decide) hk a2 b2 a3 b3 h3
theorem beq_bytes (x y : ByteArray) : (x == y) = decide (x = y) := by
 have e : (x == y) = (x.data == y.data) := rfl
 rw [e, Bool.eq_iff_iff]
 simp only [beq_iff_eq, decide_eq_true_eq]
 exact ⟨fun h => ByteArray.ext h, fun h => by rw [h]⟩
def ckT : CK → TypeDesc
 | .i k => .int k
 | .b => .bool
 | .s => .string
theorem same1_now {k : CK} {u v : Value} {x y : PV} {b b' : Bool} (hx : Rep F w u x) (hy : Rep F w v y) (h : PV.same1 k x y = some b)
  (hn : Instr.sameNow (ckT k) u v = some b') : b' = b := by
 cases k with
 | i k =>
  cases x <;> cases y <;> simp [PV.same1] at h
  obtain ⟨⟨rfl, rfl⟩, rfl⟩ := h
  cases hx; cases hy
  simp [ckT, Instr.sameNow] at hn
  rw [← hn]; rfl
 | b =>
  cases x <;> cases y <;> simp [PV.same1] at h
  subst h
  cases hx; cases hy
  simp [ckT, Instr.sameNow] at hn
  exact hn.symm
 | s =>
  cases x <;> cases y <;> simp [PV.same1] at h
  subst h
  cases hx; cases hy
  simp only [ckT, Instr.sameNow, Option.some.injEq] at hn
  rw [← hn]
  exact beq_bytes _ _
theorem sameBits_cell {k : CK} {u v : Value} {x y : PV} (hx : Rep F w u x) (hy : Rep F w v y) (h : PV.same1 k x y = some true) (n : Nat) : Instr.sameBits n v u = true := by
 cases k with
 | i k =>
  cases x <;> cases y <;> simp [PV.same1] at h
  obtain ⟨⟨rfl, rfl⟩, rfl⟩ := h
  cases hx; cases hy
  simp [Instr.sameBits]
 | b =>
  cases x <;> cases y <;> simp [PV.same1] at h
  subst h
  cases hx; cases hy
  simp [Instr.sameBits]
 | s =>
  cases x <;> cases y <;> simp [PV.same1] at h
  subst h
  cases hx; cases hy
  simp [Instr.sameBits, beq_bytes]
theorem sameK_each : ∀ (kk : List CK) (us vs : List PV), PV.sameK kk us vs = some true → us.length = kk.length ∧ vs.length = kk.length ∧ ∀ (i : Nat) (x y : PV), us[i]? = some x → vs[i]? = some y → ∃ k, PV.same1 k x y = some true
 | [], [], [], _ => ⟨rfl, rfl, fun i x y h => by simp at h⟩
 | [], [], _ :: _, h => by simp [PV.sameK] at h
 | [], _ :: _, _, h => by simp [PV.sameK] at h
 | _ :: _, [], _, h => by simp [PV.sameK] at h
 | _ :: _, _ :: _, [], h => by simp [PV.sameK] at h
 | k :: kk, x :: us, y :: vs, h => by
  simp only [PV.sameK] at h
  split at h
  ·obtain ⟨h1, h2, h3⟩ := sameK_each kk us vs h
   refine ⟨by simp [h1], by simp [h2], fun i x' y' hx hy => ?_⟩
   cases i with
   | zero => simp at hx hy; subst hx; subst hy; exact ⟨k, ‹_›⟩
   | succ i => exact h3 i x' y' (by simpa using hx) (by simpa using hy)
  ·cases h
  ·cases h
/-- the key that was there has the new key's bits -/
theorem keyStays {ag : Bool} {kk : List CK} {u v : Value} {x y : PV} (hx : Rep F w u x) (hy : Rep F w v y) (h : PV.keq ag kk x y = some true) : (Instr.keyThatStays v u).run P w = .ok u w := by
 obtain ⟨h1, h2, h3⟩ := keq_okc h
 obtain ⟨s1, s2, s3⟩ := sameK_each _ _ _ h3
 have hb : Instr.sameBits 10000 v u = true := by
  cases ag with
  | false =>
   have c1 := cells_of_one (okc_cells h1).2
   have c2 := cells_of_one (okc_cells h2).2
   obtain ⟨k, hk⟩ := s3 0 x y (by rw [c1]; rfl) (by rw [c2]; rfl)
   exact sameBits_cell hx hy hk _
  | true =>
   rw [cells_of_agg (okc_cells h1).2] at hx
   rw [cells_of_agg (okc_cells h2).2] at hy
   obtain ⟨cs, rfl, r1⟩ := rep_agg hx
   obtain ⟨ds, rfl, r2⟩ := rep_agg hy
   simp only [Instr.sameBits, Bool.and_eq_true, beq_iff_eq, List.all_eq_true]
   refine ⟨by rw [r1.1, r2.1, s1, s2], fun p hp => ?_⟩
   obtain ⟨i, hi, rfl⟩ := List.getElem_of_mem hp
   simp only [List.getElem_zip]
   simp only [List.length_zip, Array.length_toList] at hi
   have hc : cs[i]? = some (cs[i]'(by omega)) := Array.getElem?_eq_getElem (by omega)
   have hd : ds[i]? = some (ds[i]'(by omega)) := Array.getElem?_eq_getElem (by omega)
   have hxc : x.cells[i]? = some (x.cells[i]'(by rw [← r1.1]; omega)) := List.getElem?_eq_getElem _
   have hyc : y.cells[i]? = some (y.cells[i]'(by rw [← r2.1]; omega)) := List.getElem?_eq_getElem _
   obtain ⟨k, hk⟩ := s3 i _ _ hxc hyc
   have := sameBits_cell (r1.2 i _ _ hc hxc) (r2.2 i _ _ hd hyc) hk 9999
   simpa using this
 simp [Instr.keyThatStays, hb]
theorem kfindGo_lt {ag : Bool} {kk : List CK} {k : PV} : ∀ (ks : List PV) (i j : Nat), PV.kfindGo ag kk k ks i = some (some j) → i ≤ j ∧ ∃ x, ks[j - i]? = some x ∧ PV.keq ag kk k x = some true
 | [], i, j, h => by simp [PV.kfindGo] at h
 | x :: ks, i, j, h => by
  simp only [PV.kfindGo] at h
  split at h
  ·simp at h; subst h; exact ⟨Nat.le_refl _, x, by simp, ‹_›⟩
  ·obtain ⟨h1, y, h2, h3⟩ := kfindGo_lt ks (i + 1) j h
   refine ⟨by omega, y, ?_, h3⟩
   rw [show j - i = (j - (i + 1)) + 1 by omega]
   simpa using h2
  ·cases h
def found (es : List MapEntry) (i : Nat) (r : Option Nat) : Option (Nat × Value) := r.bind fun j => (es[j - i]?).map fun e => (j, e.val)
theorem found_cons {e : MapEntry} {es : List MapEntry} {i : Nat} {r : Option Nat} (hr : ∀ j, r = some j → i + 1 ≤ j) : found (e :: es) i r = found es (i + 1) r := by
 cases r with
 | none => rfl
 | some j =>
  have := hr j rfl
  simp only [found, Option.bind_some]
  rw [show j - i = (j - (i + 1)) + 1 by omega]
  simp
theorem findAsking_rep {kt : Nat} {kk : List CK} (hk : flatK P 8 kt = some kk) {v : Value} {k : PV} (hv : Rep F w v k) : ∀ (es : List MapEntry) (ks : List PV) (i : Nat) (r : Option Nat), es.length = ks.length →
  (∀ (i : Nat) (e : MapEntry) (y : PV), es[i]? = some e → ks[i]? = some y → Rep F w e.key y) → PV.kfindGo (tag P kt) kk k ks i = some r → (Instr.findAsking kt v es i).run P w = .ok (found es i r) w
 | [], [], i, r, _, _, h => by simp [PV.kfindGo] at h; subst h; simp [Instr.findAsking, found]
 | [], _ :: _, _, _, h, _, _ => by simp at h
 | _ :: _, [], _, _, h, _, _ => by simp at h
 | e :: es, x :: ks, i, r, hl, hr, h => by
  have hx := hr 0 e x rfl rfl
  simp only [PV.kfindGo] at h
  unfold Instr.findAsking
  simp only [Sem.run_bind]
  split at h
  ·rename_i he
   simp at h; subst h
   rw [equal_key hk hv hx he]
   simp [found]
  ·rename_i he
   rw [equal_key hk hv hx he]
   simp only [Result.andThen_ok, Bool.false_eq_true, if_false]
   rw [findAsking_rep hk hv es ks (i + 1) r (by simpa using hl) (fun j e' y h1 h2 => hr (j + 1) e' y (by simpa using h1) (by simpa using h2)) h]
   rw [found_cons]
   intro j hj; subst hj
   exact (kfindGo_lt ks (i + 1) j h).1
  ·cases h
theorem sameNow_keq {kt : Nat} {kk : List CK} (hk : flatK P 8 kt = some kk) {d : TypeDesc} (hd : P.underlying kt = some d) {u v : Value} {x y : PV} {b b' : Bool} (hx : Rep F w u x) (hy : Rep F w v y)
  (h : PV.keq (tag P kt) kk x y = some b) (hn : Instr.sameNow d u v = some b') : b' = b := by
 obtain ⟨h1, h2, h3⟩ := keq_okc h
 have one : ∀ (c : CK), kk = [c] → tag P kt = false → d = ckT c → b' = b := by
  rintro c rfl ht rfl
  have c1 := cells_of_one (by rw [(okc_cells h1).2, ht] : x.isAg = false)
  have c2 := cells_of_one (by rw [(okc_cells h2).2, ht] : y.isAg = false)
  rw [c1, c2] at h3
  have : PV.same1 c x y = some b := by
   simp only [PV.sameK] at h3
   cases e : PV.same1 c x y with
   | none => rw [e] at h3; cases h3
   | some q => rw [e] at h3; cases q <;> simpa using h3
  exact same1_now hx hy this hn
 have hk0 := hk
 unfold flatK at hk
 split at hk
 ·rename_i k hu _; simp at hk; exact one (.i k) hk.symm (by simp [tag, hu]) (by rw [hd] at hu; simpa [ckT] using hu)
 ·rename_i hu _; simp at hk; exact one .b hk.symm (by simp [tag, hu]) (by rw [hd] at hu; simpa [ckT] using hu)
 ·rename_i hu _; simp at hk; exact one .s hk.symm (by simp [tag, hu]) (by rw [hd] at hu; simpa [ckT] using hu)
 ·rename_i fs m hu _; rw [hd] at hu; simp at hu; subst hu; simp [Instr.sameNow] at hn
 ·rename_i fs m _ hu _; rw [hd] at hu; simp at hu; subst hu; simp [Instr.sameNow] at hn
 ·cases hk
theorem findNow_rep {kt : Nat} {kk : List CK} (hk : flatK P 8 kt = some kk) {d : TypeDesc} (hd : P.underlying kt = some d) {v : Value} {k : PV} (hv : Rep F w v k) : ∀ (es : List MapEntry) (ks : List PV) (i : Nat) (r : Option Nat) (q : Option (Nat × Value)), es.length = ks.length →
  (∀ (i : Nat) (e : MapEntry) (y : PV), es[i]? = some e → ks[i]? = some y → Rep F w e.key y) → PV.kfindGo (tag P kt) kk k ks i = some r → Instr.findNow d v es i = some q → q = found es i r
 | [], [], i, r, q, _, _, h, hq => by simp [PV.kfindGo] at h; subst h; simp [Instr.findNow] at hq; simp [found, hq]
 | [], _ :: _, _, _, _, h, _, _, _ => by simp at h
 | _ :: _, [], _, _, _, h, _, _, _ => by simp at h
 | e :: es, x :: ks, i, r, q, hl, hr, h, hq => by
  have hx := hr 0 e x rfl rfl
  simp only [PV.kfindGo] at h
  unfold Instr.findNow at hq
  split at hq
  ·rename_i hn
   split at h
   ·rename_i he; simp at h hq; subst h; subst hq; simp [found]
   ·rename_i he; have := sameNow_keq hk hd hv hx he hn; cases this
   ·cases h
  ·rename_i hn
   split at h
   ·rename_i he; have := sameNow_keq hk hd hv hx he hn; cases this
   ·rw [found_cons]
    ·exact findNow_rep hk hd hv es ks (i + 1) r q (by simpa using hl) (fun j e' y h1 h2 => hr (j + 1) e' y (by simpa using h1) (by simpa using h2)) h hq
    ·intro j hj; subst hj
     exact (kfindGo_lt ks (i + 1) j h).1
   ·cases h
  ·cases hq
theorem findKey_rep {kt : Nat} {kk : List CK} (hk : flatK P 8 kt = some kk) {v : Value} {k : PV} (hv : Rep F w v k) {es : List MapEntry} {ks : List PV} {r : Option Nat} (hl : es.length = ks.length)
  (hr : ∀ (i : Nat) (e : MapEntry) (y : PV), es[i]? = some e → ks[i]? = some y → Rep F w e.key y) (h : PV.kfind (tag P kt) kk k ks = some r) : (Instr.findKey kt v es).run P w = .ok (found es 0 r) w := by
 unfold PV.kfind at h
 split at h
 ·obtain ⟨_, g, hg⟩ := flatK_sz hk
  obtain ⟨d, hd⟩ : ∃ d, P.underlying kt = some d := by
   simp only [tagS, Option.map_eq_some_iff] at hg
   obtain ⟨d, hd, _⟩ := hg
   exact ⟨d, hd⟩
  unfold Instr.findKey
  simp only [Sem.run_bind, run_underlying hd, Result.andThen_ok]
  split
  ·rename_i q hq
   rw [findNow_rep hk hd hv es ks 0 r q hl hr h hq]; simp
  ·exact findAsking_rep hk hv es ks 0 r hl hr h
 ·cases h
theorem checkKey_rep {kt : Nat} {kk : List CK} (hk : flatK P 8 kt = some kk) {v : Value} {k : PV} (hv : Rep F w v k) {ks : List PV} {r : Option Nat} (h : PV.kfind (tag P kt) kk k ks = some r) (em : Bool) : (Instr.checkKey em 10000 kt v).run P w = .ok () w := by
 unfold PV.kfind at h
 split at h
 ·rename_i hc
  obtain ⟨a1, a2, _⟩ := key_form hk hv hc
  rw [a1]
  exact checkKey_flat em 8 10000 kt kk _ (by decide) hk a2
 ·cases h
end
end Go.Lf
/- Each operation does what its reading says: map operations, boxes. -/
namespace Go.Lf
variable [Mk] [Gl]
open Go.RowKit
section
variable {ro : Option Nat} {P : Program} {H : Hint} {S : Fx} {F0 : Nat → Nat → Prop} {w0 : World} {F F' : Nat → Nat → Prop} {ρ : Nat → Value} {w w' : World} {a : Act} {s c : St PV}
 {Q : Exit → Act → World → Prop} {o : Oper} {δ : Dl PV} {cmd : Cmd PV}
theorem tmap_un {t : Nat} {e : Nat × Nat} (h : tmap P t = some e) : P.underlying t = some (.map e.1 e.2) := by
 unfold tmap at h
 split at h
 ·rename_i h2; simp at h; subst h; exact h2
 ·cases h
theorem zeroP_rep {t : Nat} {z : PV} (h : zeroP P t = some z) : ∃ v, (∀ w, (zeroValue t).run P w = .ok v w) ∧ ∀ F w, Rep F w v z := by
 simp only [zeroP, Option.bind_eq_some_iff] at h
 obtain ⟨i, hi, zv, hz, h⟩ := h
 refine ⟨zv, fun w => by simp [zeroValue, typeInfo, hi, hz], fun F w => ?_⟩
 split at h
 ·rename_i cs
  simp only [Option.map_eq_some_iff] at h
  obtain ⟨l, hl, rfl⟩ := h
  obtain ⟨h1, h2⟩ := mapM_some hl
  refine .agg cs l (by simpa using h1.symm) (fun x hx => ?_) fun i u x hu hx => cstV_rep (h2 i u x (by simpa using hu) hx)
  obtain ⟨i, hi', rfl⟩ := List.getElem_of_mem hx
  have hlt : i < cs.toList.length := by omega
  exact cstV_cell (h2 i cs.toList[i] l[i] (List.getElem?_eq_getElem hlt) (List.getElem?_eq_getElem hi'))
 ·exact cstV_rep h
theorem asM_rep (h : In P S F0 w0 F ρ w a s c o) {x : Operand} {u : SV PV} {y : PV} (hu : opv pvAlg c x = some u) (hy : asM pvAlg c u = some y) : Rep F w (a.eval x) y ∨ ∃ ks vs, y = .mp ks vs ∧ MapOf F w (a.eval x) ks vs := by
 have hr := h.opv hu
 unfold asM at hy
 split at hy
 ·rename_i u
  split at hy
  ·rename_i hg
   simp at hy; subst hy
   obtain ⟨ks, vs, rfl, hm⟩ := mapOf_obj (h.rc.ob.rep _ _ hg)
   rw [show a.eval x = ρ u from hr.1]
   exact .inr ⟨ks, vs, rfl, hm⟩
  ·cases hy
 ·exact .inl (asE_rep h.rc.ob hr hy)
theorem asM_map (h : In P S F0 w0 F ρ w a s c o) {x : Operand} {u : SV PV} {ks vs : List PV} (hu : opv pvAlg c x = some u) (hy : asM pvAlg c u = some (.mp ks vs)) : MapOf F w (a.eval x) ks vs := by
 rcases asM_rep h hu hy with h1 | ⟨_, _, he, hm⟩
 ·exact mapOf_rep h1
 ·simp at he; obtain ⟨rfl, rfl⟩ := he; exact hm
/-- a lookup: what is found, or the zero -/
theorem run_lookup {t : Nat} {e : Nat × Nat} {kk : List CK} (ht : tmap P t = some e) (hk : flatK P 8 e.1 = some kk) {v m : Value} {k z : PV} {ks vs : List PV} (hz : zeroP P e.2 = some z) (hv : Rep F w v k) (hm : MapOf F w m ks vs)
  {r : Option Nat} (hf : PV.kfind (tag P e.1) kk k ks = some r) (two : Bool) :
  ∃ u y, (Instr.lookup t m v two).run P w = .ok (if two then .tuple #[u, .bool r.isSome] else u) w ∧ Rep F w u y ∧ (∀ i, r = some i → vs[i]? = some y) ∧ (r = none → y = z) := by
 obtain ⟨zv, hzr, hzrep⟩ := zeroP_rep hz
 have hck := fun em => checkKey_rep hk hv hf em
 rcases hm with ⟨rfl, rfl, rfl⟩ | ⟨q, es, clk, rfl, hb, h1, h2, h3, h4⟩
 ·have hr := findKey_rep (es := []) hk hv rfl (by simp) hf
  have : r = none := by
   unfold PV.kfind at hf
   split at hf
   ·simp [PV.kfindGo] at hf; exact hf.symm
   ·cases hf
  subst this
  refine ⟨zv, z, ?_, hzrep F w, by simp, fun _ => rfl⟩
  unfold Instr.lookup
  simp [run_underlying (tmap_un ht), hck, hr, found, hzr]
 ·have hr := findKey_rep (es := es.toList) hk hv (by simpa using h1) (fun i e y he hy => h3 i e y (by simpa using he) hy) hf
  cases r with
  | none =>
   refine ⟨zv, z, ?_, hzrep F w, by simp, fun _ => rfl⟩
   unfold Instr.lookup
   simp [run_underlying (tmap_un ht), hck, hr, found, hzr, run_getMap hb]
  | some i =>
   have hlt : i < ks.length := by
    unfold PV.kfind at hf
    split at hf
    ·obtain ⟨_, x, hx, _⟩ := kfindGo_lt ks 0 i hf
     exact (List.getElem?_eq_some_iff.1 hx).1
    ·cases hf
   have hei : es[i]? = some (es[i]'(by omega)) := Array.getElem?_eq_getElem (by omega)
   have hvi : vs[i]? = some (vs[i]'(by omega)) := List.getElem?_eq_getElem (by omega)
   refine ⟨(es[i]'(by omega)).val, vs[i]'(by omega), ?_, h4 i _ _ hei hvi, fun j hj => by simp at hj; subst hj; exact hvi, by simp⟩
   unfold Instr.lookup
   simp [run_underlying (tmap_un ht), hck, hr, found, hei, run_getMap hb]
theorem sound_lookup (h : In P S F0 w0 F ρ w a s c o) {t : Nat} {x k : Operand} {two : Bool} (hop : o.op = .lookup t x k two) {u v : SV PV} (hu : opv pvAlg c x = some u) (hv : opv pvAlg c k = some v)
  (hd : dlLookup pvAlg P c t u v two = some cmd) (hg : cmd.gives P δ) : o.wpr ro P a w (Post S F0 w0 a (s.ap o.dst δ)) Q := by
 simp only [dlLookup, Option.bind_eq_bind, Option.bind_eq_some_iff] at hd
 obtain ⟨e, he, z, hz, kk, hk, m, hm, kx, hkx, hd⟩ := hd
 simp only [Option.some.injEq] at hd; subst hd
 have hkr := asE_rep h.rc.ob (h.opv hv) hkx
 obtain ⟨y, hy, rfl⟩ := hg
 cases two with
 | false =>
  simp only [Bool.false_eq_true, if_false] at hy
  obtain ⟨ks, vs, k', hxs, hcase⟩ := ev_mget hy
  simp at hxs; obtain ⟨rfl, rfl⟩ := hxs
  have hmo := asM_map h hu hm
  rcases hcase with ⟨i, hf, hvi⟩ | ⟨hf, rfl⟩
  ·obtain ⟨uv, y', hr, hrep, h1, _⟩ := run_lookup he hk hz hkr hmo hf false
   rw [h1 i rfl] at hvi; simp at hvi; subst hvi
   refine sound_putE h (v := uv) ?_ hrep
   simp [execOp, hop, hr]
  ·obtain ⟨uv, y', hr, hrep, _, h1⟩ := run_lookup he hk hz hkr hmo hf false
   rw [h1 rfl] at hrep
   refine sound_putE h (v := uv) ?_ hrep
   simp [execOp, hop, hr]
 | true =>
  simp only [if_true] at hy
  have tup : ∀ {uv : Value} {y : PV} {b : Bool}, Rep F w uv y → Rep F w (.tuple #[uv, .bool b]) (.tup [y, .bool b]) := fun {uv y b} hr => .tup _ _ rfl fun i c x hc hx => by
   match i with
   | 0 => simp at hc hx; subst hc; subst hx; exact hr
   | 1 => simp at hc hx; subst hc; subst hx; exact .bool b
   | n + 2 => simp at hc
  obtain ⟨ks, vs, k', hxs, hcase⟩ := ev_mget2 hy
  simp at hxs; obtain ⟨rfl, rfl⟩ := hxs
  have hmo := asM_map h hu hm
  rcases hcase with ⟨i, v', hf, hvi, rfl⟩ | ⟨hf, rfl⟩
  ·obtain ⟨uv, y', hr, hrep, h1, _⟩ := run_lookup he hk hz hkr hmo hf true
   rw [h1 i rfl] at hvi; simp at hvi; subst hvi
   refine sound_putE h (v := .tuple #[uv, .bool true]) ?_ (tup hrep)
   simp [execOp, hop, hr]
  ·obtain ⟨uv, y', hr, hrep, _, h1⟩ := run_lookup he hk hz hkr hmo hf true
   rw [h1 rfl] at hrep
   refine sound_putE h (v := .tuple #[uv, .bool false]) ?_ (tup hrep)
   simp [execOp, hop, hr]
end
end Go.Lf
/- Each operation does what its reading says: maps that are written, boxes. -/
namespace Go.Lf
variable [Mk] [Gl]
open Go.RowKit
section
variable {ro : Option Nat} {P : Program} {H : Hint} {S : Fx} {F0 : Nat → Nat → Prop} {w0 : World} {F F' : Nat → Nat → Prop} {ρ : Nat → Value} {w w' : World} {a : Act} {s c : St PV}
 {Q : Exit → Act → World → Prop} {o : Oper} {δ : Dl PV} {cmd : Cmd PV}
/-- behind a map that was written -/
theorem post_map (h : In P S F0 w0 F ρ w a s c o) {u r clk clk' : Nat} {es es' : Array MapEntry} {ks vs ks' vs' : List PV} (hgo : s.go u = some (.map false (.mp ks vs))) (hρ : ρ u = .map (some r))
  (hb : w.heap[r]? = some (.map es clk)) (hF : ∀ j, ¬ F r j) (h1 : es'.size = ks'.length) (h2 : es'.size = vs'.length)
  (h3 : ∀ (i : Nat) (e : MapEntry) (y : PV), es'[i]? = some e → ks'[i]? = some y → Rep F w e.key y) (h4 : ∀ (i : Nat) (e : MapEntry) (y : PV), es'[i]? = some e → vs'[i]? = some y → Rep F w e.val y)
  (hδ : δ = { dst := none, obs := [(u, some (.map false (.mp ks' vs')))] }) (v : Value) : Post S F0 w0 a (s.ap o.dst δ) (a.put o.dst v) { w with heap := w.heap.setIfInBounds r (.map es' clk') } := by
 subst hδ
 have hlt : r < w.heap.size := (Array.getElem?_eq_some_iff.1 hb).1
 have hS : ∀ b j, F b j → Same w { w with heap := w.heap.setIfInBounds r (.map es' clk') } b j := fun b j hf => by
  refine Same.of_block ?_ j
  have : r ≠ b := fun e => hF j (e ▸ hf)
  simp [Array.getElem?_setIfInBounds, this]
 refine post_upd h.r h.dst (o := u) (b' := .map false (.mp ks' vs')) (k0 := r) hgo rfl rfl (by rw [hρ]; rfl) ⟨rfl, rfl, rfl, by simp, fun k _ hk => ?_⟩ hS ⟨r, es', clk', ks', vs', hρ, rfl, ?_, h1, h2, ?_, ?_, fun j => ⟨fun hf => absurd hf (hF j), fun hf => by simp at hf⟩⟩
 ·have : r ≠ k := fun e => hk e.symm
  simp [Array.getElem?_setIfInBounds, this]
 ·simp [hlt]
 ·exact fun i e y he hy => (h3 i e y he hy).mono (fun _ _ h => h) hS
 ·exact fun i e y he hy => (h4 i e y he hy).mono (fun _ _ h => h) hS
theorem mapFacts (h : In P S F0 w0 F ρ w a s c o) {u : Nat} {x : PV} (hgo : c.go u = some (.map false x)) : ∃ ks vs r es clk, x = .mp ks vs ∧ s.go u = some (.map false (.mp ks vs)) ∧ ρ u = .map (some r) ∧ w.heap[r]? = some (.map es clk) ∧ (∀ j, ¬ F r j) ∧
  es.size = ks.length ∧ es.size = vs.length ∧ (∀ (i : Nat) (e : MapEntry) (y : PV), es[i]? = some e → ks[i]? = some y → Rep F w e.key y) ∧ (∀ (i : Nat) (e : MapEntry) (y : PV), es[i]? = some e → vs[i]? = some y → Rep F w e.val y) := by
 obtain ⟨r, es, clk, ks, vs, h1, rfl, h3, h4, h5, h6, h7, h8⟩ := h.rc.ob.rep u _ hgo
 exact ⟨ks, vs, r, es, clk, rfl, h.sub.2 _ _ hgo, h1, h3, fun j hf => by simpa using (h8 j).1 hf, h4, h5, h6, h7⟩
theorem sound_mapUpdate (h : In P S F0 w0 F ρ w a s c o) {t : Nat} {m k x : Operand} (hop : o.op = .mapUpdate t m k x ∨ o.op = .insert t m k x) {u kv xv : SV PV} (hu : opv pvAlg c m = some u) (hkv : opv pvAlg c k = some kv) (hxv : opv pvAlg c x = some xv)
  (hd : dlMapUpdate pvAlg P c t u kv xv = some cmd) (hg : cmd.gives P δ) : o.wpr ro P a w (Post S F0 w0 a (s.ap o.dst δ)) Q := by
 simp only [dlMapUpdate, Option.bind_eq_bind, Option.bind_eq_some_iff] at hd
 obtain ⟨e, he, kk, hk, ky, hky, xy, hxy, hd⟩ := hd
 have hkr := asE_rep h.rc.ob (h.opv hkv) hky
 have hxr := asE_rep h.rc.ob (h.opv hxv) hxy
 have hrun : ∀ w', (Instr.mapUpdate t (a.eval m) (a.eval k) (a.eval x)).run P w = .ok () w' → (execOp a.eval o).run P w = .ok .skip w' := fun w' hr => by
  rcases hop with hop | hop <;> simp [execOp, hop, hr]
 split at hd
 ·rename_i ob
  split at hd
  ·rename_i z hgo
   simp at hd; subst hd
   obtain ⟨y, hy, rfl⟩ := hg
   obtain ⟨ks, vs, r, es, clk, rfl, hgs, hρ, hb, hF, h1, h2, h3, h4⟩ := mapFacts h hgo
   have hm : a.eval m = .map (some r) := by rw [← hρ]; exact (h.opv hu).1
   obtain ⟨ks', vs', k', v', hxs, hcase⟩ := ev_mset hy
   simp at hxs; obtain ⟨⟨rfl, rfl⟩, rfl, rfl⟩ := hxs
   rcases hcase with ⟨i, hf, rfl⟩ | ⟨hf, rfl⟩
   ·have hck := checkKey_rep hk hkr hf false
    have hr := findKey_rep (es := es.toList) hk hkr (by simpa using h1) (fun i e y he hy => h3 i e y (by simpa using he) hy) hf
    obtain ⟨hlt, x0, hx0, heq⟩ : i < ks.length ∧ ∃ x0, ks[i]? = some x0 ∧ PV.keq (tag P e.1) kk ky x0 = some true := by
     unfold PV.kfind at hf
     split at hf
     ·obtain ⟨_, x, hx, hq⟩ := kfindGo_lt ks 0 i hf
      exact ⟨(List.getElem?_eq_some_iff.1 hx).1, x, hx, hq⟩
     ·cases hf
    have hei : es[i]? = some (es[i]'(by omega)) := Array.getElem?_eq_getElem (by omega)
    have hst := keyStays (P := P) hkr (h3 i _ _ hei hx0) heq
    refine wp_skip' (hrun _ ?_) (post_map h hgs hρ hb hF (es' := es.modify i fun e => { e with key := a.eval k, val := a.eval x }) (clk' := clk) (by simp [h1]) (by simp [h2]) (fun j e y he hy => ?_) (fun j e y he hy => ?_) rfl _)
    ·unfold Instr.mapUpdate
     simp [hm, run_underlying (tmap_un he), run_getMap hb, hck, hr, found, hei, hst]
     exact MapKept.run_setObj_map _ hb
    ·rw [Array.getElem?_modify] at he
     rw [List.getElem?_set] at hy
     by_cases hij : i = j
     ·subst hij
      simp [hlt] at hy he
      obtain ⟨_, _, rfl⟩ := he
      subst hy; exact hkr
     ·rw [if_neg hij] at he hy
      exact h3 j e y he hy
    ·rw [Array.getElem?_modify] at he
     rw [List.getElem?_set] at hy
     by_cases hij : i = j
     ·subst hij
      have : i < vs.length := by omega
      simp [this] at hy he
      obtain ⟨_, _, rfl⟩ := he
      subst hy; exact hxr
     ·rw [if_neg hij] at he hy
      exact h4 j e y he hy
   ·have hck := checkKey_rep hk hkr hf false
    have hr := findKey_rep (es := es.toList) hk hkr (by simpa using h1) (fun i e y he hy => h3 i e y (by simpa using he) hy) hf
    refine wp_skip' (hrun _ ?_) (post_map h hgs hρ hb hF (es' := es.push { key := a.eval k, val := a.eval x, born := clk }) (clk' := clk + 1) (by simp [h1]) (by simp [h2]) (fun j e y he hy => ?_) (fun j e y he hy => ?_) rfl _)
    ·unfold Instr.mapUpdate
     simp [hm, run_underlying (tmap_un he), run_getMap hb, hck, hr, found]
     exact MapKept.run_setObj_map _ hb
    ·rw [Array.getElem?_push] at he
     by_cases hj : j = es.size
     ·subst hj
      simp at he; subst he
      rw [List.getElem?_append_right (by omega)] at hy
      simp [h1] at hy; subst hy; exact hkr
     ·rw [if_neg hj] at he
      have : j < es.size := (Array.getElem?_eq_some_iff.1 he).1
      rw [List.getElem?_append_left (by omega)] at hy
      exact h3 j e y he hy
    ·rw [Array.getElem?_push] at he
     by_cases hj : j = es.size
     ·subst hj
      simp at he; subst he
      rw [List.getElem?_append_right (by omega)] at hy
      simp [h2] at hy; subst hy; exact hxr
     ·rw [if_neg hj] at he
      have : j < es.size := (Array.getElem?_eq_some_iff.1 he).1
      rw [List.getElem?_append_left (by omega)] at hy
      exact h4 j e y he hy
  ·cases hd
 ·cases hd
theorem erase_get {α : Type} (l : List α) (i j : Nat) : (l.eraseIdx i)[j]? = if j < i then l[j]? else l[j + 1]? := by
 rw [List.getElem?_eraseIdx]
theorem sound_delete (h : In P S F0 w0 F ρ w a s c o) {cl : Call} (hop : o.op = .call cl) (hb : cl.callee = .builtin .delete) {x y : Operand} {t : Nat} {ts : List Nat} (ha : cl.args.toList = [x, y]) (ht : cl.argTypes.toList = t :: ts)
  (hd : dlDelete pvAlg P c t x y = some cmd) (hg : cmd.gives P δ) : o.wpr ro P a w (Post S F0 w0 a (s.ap o.dst δ)) Q := by
 obtain ⟨cs, hr⟩ := exec_builtin (P := P) (a := a) (w := w) hop hb ha ht
 simp only [dlDelete, Option.bind_eq_bind, Option.bind_eq_some_iff] at hd
 obtain ⟨e, he, kk, hk, u, hu, ky, hky, hd⟩ := hd
 have hkr := h.asE (x := y) (y := ky) (Option.bind_eq_some_iff.2 hky)
 split at hd
 ·rename_i ob
  split at hd
  ·rename_i z hgo
   simp at hd; subst hd
   obtain ⟨y', hy, rfl⟩ := hg
   obtain ⟨ks, vs, r, es, clk, rfl, hgs, hρ, hbk, hF, h1, h2, h3, h4⟩ := mapFacts h hgo
   have hm : a.eval x = .map (some r) := by rw [← hρ]; exact (h.opv hu).1
   obtain ⟨ks', vs', k', hxs, hcase⟩ := ev_mdel hy
   simp at hxs; obtain ⟨⟨rfl, rfl⟩, rfl⟩ := hxs
   rcases hcase with ⟨i, hf, rfl⟩ | ⟨hf, rfl⟩
   ·have hck := fun em => checkKey_rep (P := P) hk hkr hf em
    have hfr := findKey_rep (es := es.toList) hk hkr (by simpa using h1) (fun i e y he hy => h3 i e y (by simpa using he) hy) hf
    have hlt : i < ks.length := by
     unfold PV.kfind at hf
     split at hf
     ·obtain ⟨_, x, hx, hq⟩ := kfindGo_lt ks 0 i hf
      exact (List.getElem?_eq_some_iff.1 hx).1
     ·cases hf
    have hei : es[i]? = some (es[i]'(by omega)) := Array.getElem?_eq_getElem (by omega)
    have hes : (es.eraseIdxIfInBounds i).toList = es.toList.eraseIdx i := by simp [Array.eraseIdxIfInBounds, show i < es.size by omega]
    have hget : ∀ j, (es.eraseIdxIfInBounds i)[j]? = if j < i then es[j]? else es[j + 1]? := fun j => by
     rw [← Array.getElem?_toList, hes, erase_get]; simp
    have hsz : (es.eraseIdxIfInBounds i).size = es.size - 1 := by rw [← Array.length_toList, hes, List.length_eraseIdx]; simp [show i < es.size by omega]
    refine wp_value (v := .tuple #[]) (w' := { w with heap := w.heap.setIfInBounds r (.map (es.eraseIdxIfInBounds i) clk) }) ?_ (post_map h hgs hρ hbk hF (es' := es.eraseIdxIfInBounds i) (clk' := clk) ?_ ?_ (fun j e y he hy => ?_) (fun j e y he hy => ?_) rfl _)
    ·rw [hr]
     simp [builtin, Builtin.delete_, hm, run_underlying (tmap_un he), run_getMap hbk, hck, hfr, found, hei, MapKept.run_setObj_map _ hbk]
    ·rw [hsz, List.length_eraseIdx, if_pos hlt, h1]
    ·rw [hsz, List.length_eraseIdx, if_pos (by omega), h2]
    ·rw [hget] at he
     rw [erase_get] at hy
     split at he <;> rename_i hji
     ·rw [if_pos hji] at hy; exact h3 _ e y he hy
     ·rw [if_neg hji] at hy; exact h3 _ e y he hy
    ·rw [hget] at he
     rw [erase_get] at hy
     split at he <;> rename_i hji
     ·rw [if_pos hji] at hy; exact h4 _ e y he hy
     ·rw [if_neg hji] at hy; exact h4 _ e y he hy
   ·have hck := fun em => checkKey_rep (P := P) hk hkr hf em
    have hfr := findKey_rep (es := es.toList) hk hkr (by simpa using h1) (fun i e y he hy => h3 i e y (by simpa using he) hy) hf
    refine wp_value (v := .tuple #[]) (w' := { w with heap := w.heap.setIfInBounds r (.map es clk) }) ?_ (post_map h hgs hρ hbk hF (es' := es) (clk' := clk) h1 h2 h3 h4 rfl _)
    rw [hr]
    simp [builtin, Builtin.delete_, hm, run_underlying (tmap_un he), run_getMap hbk, hck, hfr, found, MapKept.run_setObj_map _ hbk]
  ·cases hd
 ·cases hd
end
end Go.Lf
/- Calls with memory: what a form says of the state that it is bound to. -/
namespace Go.Lf
variable [Mk] [Gl]
open Go.RowKit
section
variable {P : Program} {H : Hint} {S : Fx} {F0 : Nat → Nat → Prop} {w0 : World} {F F' : Nat → Nat → Prop} {ρ ρ' ρs : Nat → Value} {w w' : World} {a : Act} {s c : St PV}
 {Q : Exit → Act → World → Prop} {o : Oper} {δ : Dl PV} {cmd : Cmd PV}
/-- a binding that knows at least as much -/
def BLe (b b' : Bind PV) : Prop := (∀ o u, lookE b.ids o = some u → lookE b'.ids o = some u) ∧ ∀ i x, lookE b.lv i = some x → lookE b'.lv i = some x
theorem BLe.refl (b : Bind PV) : BLe b b := ⟨fun _ _ h => h, fun _ _ h => h⟩
theorem BLe.trans {a b c : Bind PV} (h : BLe a b) (k : BLe b c) : BLe a c := ⟨fun o u hu => k.1 o u (h.1 o u hu), fun i x hx => k.2 i x (h.2 i x hx)⟩
theorem lookE_cons {β : Type} (k : Nat) (v : β) (r : List (Nat × β)) (t : Nat) : lookE ((k, v) :: r) t = if k = t then some v else lookE r t := by
 simp only [lookE]
 by_cases h : k = t
 ·simp [h]
 ·have : Nat.beq k t = false := by
   cases hb : Nat.beq k t with
   | false => rfl
   | true => exact absurd (Nat.eq_of_beq_eq_true hb) h
  simp [this, h]
theorem bind_id {b b' : Bind PV} {o u : Nat} (h : b.id o u = some b') : BLe b b' ∧ lookE b'.ids o = some u := by
 unfold Bind.id at h
 split at h
 ·rename_i v hv
  split at h
  ·rename_i he
   have := Nat.eq_of_beq_eq_true he
   simp at h; subst h; subst this
   exact ⟨.refl _, hv⟩
  ·cases h
 ·rename_i hn
  simp at h; subst h
  refine ⟨⟨fun o' u' h' => ?_, fun _ _ h => h⟩, ?_⟩
  ·rw [lookE_cons]
   split
   ·rename_i e; subst e; rw [hn] at h'; cases h'
   ·exact h'
  ·rw [lookE_cons, if_pos rfl]
theorem bind_leaf {b b' : Bind PV} {i : Nat} {x : PV} (h : b.leaf i x = some b') : BLe b b' ∧ lookE b'.lv i = some x := by
 unfold Bind.leaf at h
 split at h
 ·cases h
 ·rename_i hn
  simp at h; subst h
  refine ⟨⟨fun _ _ h => h, fun i' x' h' => ?_⟩, ?_⟩
  ·rw [lookE_cons]
   split
   ·rename_i e; subst e; rw [hn] at h'; cases h'
   ·exact h'
  ·rw [lookE_cons, if_pos rfl]
/-- the whole binding, and what is read with it -/
structure Full (bf : Bind PV) (xs : List PV) (ρ ρs : Nat → Value) : Prop where
 lv : ∀ i x, lookE bf.lv i = some x → instL xs i = x
 id : ∀ o u, lookE bf.ids o = some u → ρs o = ρ u
theorem bind_ps : ∀ {p q : List (Nat × Nat)} {b b' : Bind PV}, b.ps p q = some b' → BLe b b' ∧ ∀ bf xs ρs, BLe b' bf → Full bf xs ρ ρs → ∀ vs, RepPs ρ vs q → RepPs ρs vs p
 | [], [], b, b', h => by
  simp only [Bind.ps, Option.some.injEq] at h; subst h
  exact ⟨.refl _, fun bf xs ρs _ _ vs hv => ⟨hv.1, fun i v p h1 h2 => by simp at h2⟩⟩
 | p :: ps, q :: qs, b, b', h => by
  simp only [Bind.ps] at h
  split at h
  ·rename_i he
   have he := Nat.eq_of_beq_eq_true he
   simp only [Option.bind_eq_some_iff] at h
   obtain ⟨b1, h1, h2⟩ := h
   obtain ⟨e1, e2⟩ := bind_id h1
   obtain ⟨e3, e4⟩ := bind_ps h2
   refine ⟨e1.trans e3, fun bf xs ρs hle hf vs hv => ?_⟩
   have hid : ρs p.1 = ρ q.1 := hf.id _ _ (hle.1 _ _ (e3.1 _ _ e2))
   have hsz := hv.1
   simp only [List.length_cons] at hsz
   have htail : RepPs ρ (vs.extract 1 vs.size) qs := ⟨by simp; omega, fun j u t hj ht => by
    rw [Array.getElem?_extract] at hj
    split at hj
    ·exact hv.2 (j + 1) u t (by rw [Nat.add_comm]; exact hj) (by simpa using ht)
    ·cases hj⟩
   have hps := (e4 bf xs ρs hle hf _ htail).1
   simp only [Array.size_extract] at hps
   refine ⟨by simp only [List.length_cons]; omega, fun i v r hi hr => ?_⟩
   cases i with
   | zero =>
    simp at hr; subst hr
    obtain ⟨bk, g1, g2⟩ := hv.2 0 v q hi (by simp)
    exact ⟨bk, by rw [hid]; exact g1, by rw [he]; exact g2⟩
   | succ i =>
    refine (e4 bf xs ρs hle hf _ htail).2 i v r ?_ (by simpa using hr)
    rw [Array.getElem?_extract, if_pos, Nat.add_comm]
    ·exact hi
    ·have := (Array.getElem?_eq_some_iff.1 hi).1
     omega
  ·cases h
 | [], _ :: _, _, _, h => by cases h
 | _ :: _, [], _, _, h => by cases h
theorem bind_a (ho : ObsR F ρ w c.go) {p : A Nat} {q : A PV} {b b' : Bind PV} (h : Bind.a pvAlg c b p q = some b') :
  BLe b b' ∧ ∀ bf xs ρs, BLe b' bf → Full bf xs ρ ρs → ∀ v, RepA F ρ w v q → RepA F ρs w v (p.map (instL xs) id) := by
 unfold Bind.a at h
 split at h
 ·simp only [Option.bind_eq_some_iff] at h
  obtain ⟨x, hx, h⟩ := h
  obtain ⟨e1, e2⟩ := bind_leaf h
  refine ⟨e1, fun bf xs ρs hle hf v hv => ?_⟩
  show Rep F w v (instL xs _)
  rw [hf.lv _ _ (hle.2 _ _ e2)]
  exact asA_rep ho hv hx
 ·simp only [Option.some.injEq] at h; subst h
  exact ⟨.refl _, fun _ _ _ _ _ v hv => hv⟩
 ·split at h
  ·rename_i he
   have he := Nat.eq_of_beq_eq_true he
   obtain ⟨e1, e2⟩ := bind_id h
   refine ⟨e1, fun bf xs ρs hle hf v hv => ?_⟩
   obtain ⟨bk, g1, g2⟩ := hv
   exact ⟨bk, by rw [id, hf.id _ _ (hle.1 _ _ e2)]; exact g1, by rw [he]; exact g2⟩
  ·cases h
 ·obtain ⟨e1, e2⟩ := bind_id h
  exact ⟨e1, fun bf xs ρs hle hf v hv => ⟨by rw [id, hf.id _ _ (hle.1 _ _ e2)]; exact hv.1, hv.2⟩⟩
 ·obtain ⟨e1, e2⟩ := bind_id h
  exact ⟨e1, fun bf xs ρs hle hf v hv => ⟨by rw [id, hf.id _ _ (hle.1 _ _ e2)]; exact hv.1, hv.2⟩⟩
 ·split at h
  ·rename_i he
   have he := Nat.eq_of_beq_eq_true he
   subst he
   simp only [Option.bind_eq_some_iff] at h
   obtain ⟨b1, h1, h2⟩ := h
   obtain ⟨e1, e2⟩ := bind_ps (ρ := ρ) h1
   obtain ⟨e3, e4⟩ := bind_ps (ρ := ρ) h2
   refine ⟨e1.trans e3, fun bf xs ρs hle hf v hv => ?_⟩
   obtain ⟨va, vc, rfl, g1, g2⟩ := hv
   refine ⟨va, vc, rfl, ?_, ?_⟩
   ·simpa using e2 bf xs ρs (e3.trans hle) hf va g1
   ·simpa using e4 bf xs ρs hle hf vc g2
  ·cases h
 ·cases h
theorem bind_as (ho : ObsR F ρ w c.go) : ∀ {p : List (A Nat)} {q : List (A PV)} {b b' : Bind PV}, Bind.as pvAlg c b p q = some b' →
  BLe b b' ∧ p.length = q.length ∧ ∀ bf xs ρs, BLe b' bf → Full bf xs ρ ρs → ∀ (i : Nat) (y : A Nat) (z : A PV) v, p[i]? = some y → q[i]? = some z → RepA F ρ w v z → RepA F ρs w v (y.map (instL xs) id)
 | [], [], b, b', h => by
  simp only [Bind.as, Option.some.injEq] at h; subst h
  exact ⟨.refl _, rfl, fun _ _ _ _ _ i y z v hy => by simp at hy⟩
 | p :: ps, q :: qs, b, b', h => by
  simp only [Bind.as, Option.bind_eq_some_iff] at h
  obtain ⟨b1, h1, h2⟩ := h
  obtain ⟨e1, e2⟩ := bind_a ho h1
  obtain ⟨e3, e4, e5⟩ := bind_as ho h2
  refine ⟨e1.trans e3, by simp [e4], fun bf xs ρs hle hf i y z v hy hz hv => ?_⟩
  cases i with
  | zero => simp at hy hz; subst hy; subst hz; exact e2 bf xs ρs (e3.trans hle) hf v hv
  | succ i => simp at hy hz; exact e5 bf xs ρs hle hf i y z v hy hz hv
 | [], _ :: _, _, _, h => by cases h
 | _ :: _, [], _, _, h => by cases h
theorem bind_sv (ho : ObsR F ρ w c.go) {p : SV Nat} {q : SV PV} {b b' : Bind PV} (h : Bind.sv pvAlg c b p q = some b') :
  BLe b b' ∧ ∀ bf xs ρs, BLe b' bf → Full bf xs ρ ρs → ∀ v, RepS F ρ w v q → RepS F ρs w v (p.map (instL xs) id) := by
 unfold Bind.sv at h
 split at h
 ·simp only [Option.bind_eq_some_iff] at h
  obtain ⟨x, hx, h⟩ := h
  obtain ⟨e1, e2⟩ := bind_leaf h
  refine ⟨e1, fun bf xs ρs hle hf v hv => ?_⟩
  show Rep F w v (instL xs _)
  rw [hf.lv _ _ (hle.2 _ _ e2)]
  exact asE_rep ho hv hx
 ·obtain ⟨e1, e2⟩ := bind_a ho h
  exact ⟨e1, fun bf xs ρs hle hf v hv => e2 bf xs ρs hle hf v hv⟩
 ·obtain ⟨e1, e2, e3⟩ := bind_as ho h
  refine ⟨e1, fun bf xs ρs hle hf v hv => ?_⟩
  obtain ⟨cs, g1, g2, g3⟩ := hv
  refine ⟨cs, g1, by simp only [List.length_map]; omega, fun i c x hc hx => ?_⟩
  simp only [List.getElem?_map, Option.map_eq_some_iff] at hx
  obtain ⟨y, hy, rfl⟩ := hx
  have hlt := (List.getElem?_eq_some_iff.1 hy).1
  have hz := List.getElem?_eq_getElem (i := i) (l := _) (h := e2 ▸ hlt)
  obtain ⟨r1, r2⟩ := g3 i c _ hc hz
  exact ⟨e3 bf xs ρs hle hf i y _ c hy hz r1, r2⟩
 ·cases h
theorem bind_svs (ho : ObsR F ρ w c.go) : ∀ {p : List (SV Nat)} {q : List (SV PV)} {b b' : Bind PV}, Bind.svs pvAlg c b p q = some b' →
  BLe b b' ∧ p.length = q.length ∧ ∀ bf xs ρs, BLe b' bf → Full bf xs ρ ρs → ∀ (i : Nat) (y : SV Nat) (z : SV PV) v, p[i]? = some y → q[i]? = some z → RepS F ρ w v z → RepS F ρs w v (y.map (instL xs) id)
 | [], [], b, b', h => by
  simp only [Bind.svs, Option.some.injEq] at h; subst h
  exact ⟨.refl _, rfl, fun _ _ _ _ _ i y z v hy => by simp at hy⟩
 | p :: ps, q :: qs, b, b', h => by
  simp only [Bind.svs, Option.bind_eq_some_iff] at h
  obtain ⟨b1, h1, h2⟩ := h
  obtain ⟨e1, e2⟩ := bind_sv ho h1
  obtain ⟨e3, e4, e5⟩ := bind_svs ho h2
  refine ⟨e1.trans e3, by simp [e4], fun bf xs ρs hle hf i y z v hy hz hv => ?_⟩
  cases i with
  | zero => simp at hy hz; subst hy; subst hz; exact e2 bf xs ρs (e3.trans hle) hf v hv
  | succ i => simp at hy hz; exact e5 bf xs ρs hle hf i y z v hy hz hv
 | [], _ :: _, _, _, h => by cases h
 | _ :: _, [], _, _, h => by cases h
theorem bind_ob (ho : ObsR F ρ w c.go) {p : Ob Nat} {q : Ob PV} {b b' : Bind PV} (h : Bind.ob pvAlg c b p q = some b') :
  BLe b b' ∧ ∀ bf xs ρs, BLe b' bf → Full bf xs ρ ρs → ∀ o u, ρs o = ρ u → RepO F ρ w u q → RepO F ρs w o (p.map' (instL xs) id) := by
 unfold Bind.ob at h
 split at h
 ·split at h
  ·rename_i hc
   simp only [Bool.and_eq_true, beq_iff_eq] at hc
   obtain ⟨rfl, rfl⟩ := hc
   obtain ⟨e1, e2, e3⟩ := bind_as ho h
   refine ⟨e1, fun bf xs ρs hle hf o u hid hr => ?_⟩
   obtain ⟨bk, cl, ty, g1, g2, g3, g4, g5⟩ := hr
   obtain ⟨x1, x2⟩ := explode_rep g3 g4
   refine ⟨bk, cl, ty, by rw [hid]; exact g1, g2, g3, ⟨rfl, by simp; omega, fun i v y hv hy => ?_⟩, g5⟩
   simp only [List.getElem?_map, Option.map_eq_some_iff] at hy
   obtain ⟨y0, hy0, rfl⟩ := hy
   have hlt := (List.getElem?_eq_some_iff.1 hy0).1
   have hz : (explode pvAlg _ _ _)[i]? = some _ := List.getElem?_eq_getElem (l := explode pvAlg _ _ _) (i := i) (by rw [← e2]; exact hlt)
   obtain ⟨r1, r2⟩ := x2 i v _ hv hz
   exact ⟨e3 bf xs ρs hle hf i y0 _ v hy0 hz r1, r2⟩
  ·cases h
 ·split at h
  ·rename_i hc
   simp only [Bool.and_eq_true, beq_iff_eq] at hc
   obtain ⟨⟨⟨rfl, rfl⟩, rfl⟩, rfl⟩ := hc
   obtain ⟨e1, e2⟩ := bind_leaf h
   refine ⟨e1, fun bf xs ρs hle hf o u hid hr => ?_⟩
   obtain ⟨es, g1, g2, g3, g4⟩ := hr
   refine ⟨es, by rw [hf.lv _ _ (hle.2 _ _ e2)]; exact g1, g2, g3, ?_⟩
   rw [hid]; exact g4
  ·cases h
 ·obtain ⟨e1, e2⟩ := bind_leaf h
  refine ⟨e1, fun bf xs ρs hle hf o u hid hr => ?_⟩
  obtain ⟨r, es, cl, ks, vs, g1, g2, g3⟩ := hr
  exact ⟨r, es, cl, ks, vs, by rw [hid]; exact g1, by rw [hf.lv _ _ (hle.2 _ _ e2)]; exact g2, g3⟩
 ·cases h
theorem bind_obs (ho : ObsR F ρ w c.go) : ∀ {l : List (Nat × Ob Nat)} {b b' : Bind PV}, b.obs pvAlg c l = some b' →
  BLe b b' ∧ ∀ bf xs ρs, BLe b' bf → Full bf xs ρ ρs → ∀ o p, (o, p) ∈ l → ∃ u q, lookE bf.ids o = some u ∧ c.go u = some q ∧ RepO F ρs w o (p.map' (instL xs) id)
 | [], b, b', h => by
  simp only [Bind.obs, Option.some.injEq] at h; subst h
  exact ⟨.refl _, fun _ _ _ _ _ o p hp => by cases hp⟩
 | (o, p) :: l, b, b', h => by
  unfold Bind.obs at h
  split at h
  ·rename_i u hu
   split at h
   ·rename_i q hq
    simp only [Option.bind_eq_some_iff] at h
    obtain ⟨b1, h1, h2⟩ := h
    obtain ⟨e1, e2⟩ := bind_ob ho h1
    obtain ⟨e3, e4⟩ := bind_obs ho h2
    refine ⟨e1.trans e3, fun bf xs ρs hle hf o' p' hp => ?_⟩
    rcases List.mem_cons.1 hp with he | hp
    ·cases he
     have hid := hle.1 _ _ (e3.1 _ _ (e1.1 _ _ hu))
     exact ⟨u, q, hid, hq, e2 bf xs ρs (e3.trans hle) hf o u (hf.id _ _ hid) (ho.rep u q hq)⟩
    ·exact e4 bf xs ρs hle hf o' p' hp
   ·cases h
  ·cases h
/-! renaming -/
theorem RepA.ren {p : A Nat} {f : Nat → PV} {m : Nat → Nat} {v : Value} (h : RepA F ρ w v (p.map f id)) (hm : ∀ o ∈ aRefs p, ρ' (m o) = ρ o) : RepA F ρ' w v (p.map f m) := by
 cases p with
 | ptr o off => obtain ⟨b, h1, h2⟩ := h; exact ⟨b, by rw [hm o (by simp [aRefs])]; exact h1, h2⟩
 | own o => exact ⟨by rw [hm o (by simp [aRefs])]; exact h.1, h.2⟩
 | eptr o i sz off =>
  obtain ⟨g, len, cap, k, n, h1, h2⟩ := h
  exact ⟨g, len, cap, k, n, by rw [hm o (by simp [aRefs])]; exact h1, h2⟩
 | aptr o i =>
  obtain ⟨b, k, n, h1, h2⟩ := h
  exact ⟨b, k, n, by rw [hm o (by simp [aRefs])]; exact h1, h2⟩
 | mref o => exact ⟨by rw [hm o (by simp [aRefs])]; exact h.1, h.2⟩
 | clo g x y =>
  obtain ⟨va, vc, h1, h2, h3⟩ := h
  have key : ∀ (l : List (Nat × Nat)) (vs : Array Value), (∀ q ∈ l, ρ' (m q.1) = ρ q.1) → RepPs ρ vs (l.map fun q => (id q.1, q.2)) → RepPs ρ' vs (l.map fun q => (m q.1, q.2)) := by
   intro l vs hl hr
   refine ⟨by simpa using hr.1, fun i u q hu hq => ?_⟩
   simp only [List.getElem?_map, Option.map_eq_some_iff] at hq
   obtain ⟨q0, hq0, rfl⟩ := hq
   obtain ⟨b, g1, g2⟩ := hr.2 i u (q0.1, q0.2) hu (by simp [hq0])
   exact ⟨b, by rw [hl q0 (List.mem_of_getElem? hq0)]; exact g1, g2⟩
  exact ⟨va, vc, h1, key x va (fun q hq => hm _ (by simp [aRefs]; exact .inl ⟨_, hq⟩)) h2, key y vc (fun q hq => hm _ (by simp [aRefs]; exact .inr ⟨_, hq⟩)) h3⟩
 | _ => exact h
theorem RepS.ren {p : SV Nat} {f : Nat → PV} {m : Nat → Nat} {v : Value} (h : RepS F ρ w v (p.map f id)) (hm : ∀ o ∈ svRefs p, ρ' (m o) = ρ o) : RepS F ρ' w v (p.map f m) := by
 cases p with
 | «at» x => exact RepA.ren h hm
 | agg l =>
  obtain ⟨cs, h1, h2, h3⟩ := h
  refine ⟨cs, h1, by simpa using h2, fun i u x hu hx => ?_⟩
  simp only [List.getElem?_map, Option.map_eq_some_iff] at hx
  obtain ⟨x0, hx0, rfl⟩ := hx
  obtain ⟨r1, r2⟩ := h3 i u (x0.map f id) hu (by simp [hx0])
  exact ⟨r1.ren fun o ho => hm o (List.mem_flatMap.2 ⟨x0, List.mem_of_getElem? hx0, ho⟩), r2⟩
theorem RepO.ren {p : Ob Nat} {f : Nat → PV} {m : Nat → Nat} {o : Nat} (h : RepO F ρ w o (p.map' f id)) (ho : ρ' (m o) = ρ o) (hm : ∀ o ∈ obRefsA p, ρ' (m o) = ρ o) : RepO F ρ' w (m o) (p.map' f m) := by
 cases p with
 | cells fz n ag cs =>
  obtain ⟨b, c, ty, h1, h2, h3, h4, h5⟩ := h
  refine ⟨b, c, ty, by rw [ho]; exact h1, h2, h3, ?_, h5⟩
  cases cs with
  | wh x => exact h4
  | pts l =>
   refine ⟨h4.1, by simpa using h4.2.1, fun i u x hu hx => ?_⟩
   simp only [List.getElem?_map, Option.map_eq_some_iff] at hx
   obtain ⟨x0, hx0, rfl⟩ := hx
   obtain ⟨r1, r2⟩ := h4.2.2 i u (x0.map f id) hu (by simp [hx0])
   exact ⟨r1.ren fun o ho => hm o (List.mem_flatMap.2 ⟨x0, List.mem_of_getElem? hx0, ho⟩), r2⟩
 | arr fz ty sz ag x =>
  obtain ⟨es, h1, h2, h3, h4⟩ := h
  refine ⟨es, h1, h2, h3, ?_⟩
  rw [ho]; exact h4
 | map fz x =>
  obtain ⟨r, es, cl, ks, vs, h1, h2⟩ := h
  exact ⟨r, es, cl, ks, vs, by rw [ho]; exact h1, h2⟩
 | ext x =>
  obtain ⟨bs, h1, h2⟩ := h
  exact ⟨bs, by rw [ho]; exact h1, h2⟩
end
end Go.Lf
/- Calls with memory are sound. -/
namespace Go.Lf
variable [Mk] [Gl]
open Go.RowKit
section
variable {ro : Option Nat} {P : Program} {H : Hint} {S : Fx} {F0 : Nat → Nat → Prop} {w0 : World} {F F' : Nat → Nat → Prop} {ρ ρ' ρs : Nat → Value} {w w' : World} {a : Act} {s c : St PV}
 {Q : Exit → Act → World → Prop} {o : Oper} {δ : Dl PV} {cmd : Cmd PV}
theorem seqL_nd : ∀ {l : List Nat}, seqL l = true → l.Nodup
 | [], _ => List.nodup_nil
 | x :: l, h => by
  simp only [seqL, Bool.and_eq_true, Bool.not_eq_true', List.any_eq_false] at h
  refine List.nodup_cons.2 ⟨fun hm => ?_, seqL_nd h.2⟩
  have := h.1 x hm
  simp at this
theorem mem_of_has {l : List Nat} {x : Nat} (h : has l x = true) : x ∈ l := by
 simp only [has, List.any_eq_true] at h
 obtain ⟨y, hy, e⟩ := h
 have := Nat.eq_of_beq_eq_true e
 subst this; exact hy
theorem has_of_mem {l : List Nat} {x : Nat} (h : x ∈ l) : has l x = true := by
 simp only [has, List.any_eq_true]
 exact ⟨x, h, by simp⟩
theorem lookE_mem' {β : Type} : ∀ {l : List (Nat × β)} {t : Nat}, t ∈ l.map (·.1) → ∃ v, lookE l t = some v
 | [], _, h => by cases h
 | (k, v) :: l, t, h => by
  rw [lookE_cons]
  split
  ·exact ⟨v, rfl⟩
  ·rename_i hne
   refine lookE_mem' (l := l) ?_
   rcases List.mem_cons.1 h with e | e
   ·exact absurd e.symm hne
   ·exact e
/-- two keys with one value -/
theorem nodup_val {l : List (Nat × Nat)} (h : (l.map (·.2)).Nodup) {a b : Nat × Nat} (ha : a ∈ l) (hb : b ∈ l) (e : a.2 = b.2) : a = b := by
 induction l with
 | nil => cases ha
 | cons x l ih =>
  simp only [List.map_cons, List.nodup_cons] at h
  rcases List.mem_cons.1 ha with e1 | ha
  ·rcases List.mem_cons.1 hb with e2 | hb
   ·rw [e1, e2]
   ·exact absurd (List.mem_map.2 ⟨_, hb, by rw [← e, e1]⟩) h.1
  ·rcases List.mem_cons.1 hb with e2 | hb
   ·exact absurd (List.mem_map.2 ⟨_, ha, by rw [e, e2]⟩) h.1
   ·exact ih h.2 ha hb
theorem nodup_map_inj {l : List Nat} {f : Nat → Nat} (h : (l.map f).Nodup) {x y : Nat} (hx : x ∈ l) (hy : y ∈ l) (e : f x = f y) : x = y := by
 induction l with
 | nil => cases hx
 | cons z l ih =>
  simp only [List.map_cons, List.nodup_cons] at h
  rcases List.mem_cons.1 hx with e1 | hx
  ·rcases List.mem_cons.1 hy with e2 | hy
   ·rw [e1, e2]
   ·exact absurd (List.mem_map.2 ⟨_, hy, by rw [← e, e1]⟩) h.1
  ·rcases List.mem_cons.1 hy with e2 | hy
   ·exact absurd (List.mem_map.2 ⟨_, hx, by rw [e, e2]⟩) h.1
   ·exact ih h.2 hx hy
theorem lookO_some {l : List (Nat × Ob PV)} {o : Nat} {b : Ob PV} (h : lookO l o = some b) : (o, b) ∈ l := by
 have := look_some _ _ _ h
 simp only [List.mem_map] at this
 obtain ⟨p, hp, e⟩ := this
 simp at e; obtain ⟨rfl, rfl⟩ := e
 exact hp
theorem look_of {β : Type} : ∀ {l : List (Nat × Option β)} {t : Nat} {v : Option β}, (l.map (·.1)).Nodup → (t, v) ∈ l → look l t = v
 | (k, u) :: l, t, v, hn, h => by
  simp only [List.map_cons, List.nodup_cons] at hn
  rw [look_cons]
  rcases List.mem_cons.1 h with e | e
  ·cases e; simp
  ·have : k ≠ t := fun he => hn.1 (List.mem_map.2 ⟨_, e, he.symm⟩)
   rw [if_neg this]
   exact look_of hn.2 e
theorem lookO_of {l : List (Nat × Ob PV)} {o : Nat} {b : Ob PV} (hn : (l.map (·.1)).Nodup) (h : (o, b) ∈ l) : lookO l o = some b := by
 refine look_of (l := l.map fun p => (p.1, some p.2)) (by rw [List.map_map]; exact hn) ?_
 exact List.mem_map.2 ⟨_, h, rfl⟩
/-- a call with memory, its form bound to what is there -/
theorem sound_sig (h : In P S F0 w0 F ρ w a s c o) {d : Nat} {sg : Sig} {args : List (SV PV)} {mk : List PV → (List PV → Dl PV) → Cmd PV} {g : Nat} {vs : Array Value}
  (hd : dlSig pvAlg c d sg args mk = some cmd) (hvs : vs.size = args.length) (hargs : ∀ (i : Nat) (v : Value) (x : SV PV), vs[i]? = some v → args[i]? = some x → RepS F ρ w v x) :
  ∃ xs k, cmd = mk xs k ∧ ∀ ys, OkS P g sg xs ys → δ = k ys → (execOp a.eval o).run P w = .ok (.enter g vs) w → o.wpr ro P a w (Post S F0 w0 a (s.ap o.dst δ)) Q := by
 simp only [dlSig, Option.bind_eq_bind, Option.bind_eq_some_iff] at hd
 obtain ⟨b1, hb1, b, hb2, xs, hxs, hd⟩ := hd
 split at hd
 ·rename_i hcond
  simp only [Bool.and_eq_true] at hcond
  obtain ⟨⟨⟨⟨⟨c1, c2⟩, ⟨c3, c4⟩, c5⟩, c6⟩, c7, c8⟩, c9⟩ := hcond
  simp only [Option.some.injEq] at hd
  subst hd
  refine ⟨xs, _, rfl, fun ys hok hδ hrun => ?_⟩
  subst hδ
  have n1 := seqL_nd c1
  have n2 := seqL_nd c2
  have n3 := seqL_nd c3
  have n4 := seqL_nd c4
  have n5 := seqL_nd c5
  have ho := h.rc.ob
  obtain ⟨l1, l2, l3⟩ := bind_svs ho hb1
  obtain ⟨l4, l5⟩ := bind_obs ho hb2
  let ρs : Nat → Value := fun o => match lookE b.ids o with
   | some u => ρ u
   | none => undef
  have hfull : Full b xs ρ ρs := by
   refine ⟨fun i x hi => ?_, fun o u hu => by simp only [ρs, hu]⟩
   obtain ⟨m1, m2⟩ := mapM_some hxs
   have hlen : i < b.lv.length := by
    -- all of 0 .. n-1 are bound, and there are n leaves
    have hmem : ∀ j, j < b.lv.length → j ∈ b.lv.map (·.1) := by
     intro j hj
     have hx' : xs[j]? = some (xs[j]'(by simp at m1; omega)) := List.getElem?_eq_getElem _
     have := m2 j j _ (by simp [hj]) hx'
     exact List.mem_map.2 ⟨_, lookE_in _ _ _ this, rfl⟩
    have hi' : i ∈ b.lv.map (·.1) := List.mem_map.2 ⟨_, lookE_in _ _ _ hi, rfl⟩
    rcases Nat.lt_or_ge i b.lv.length with hlt | hge
    ·exact hlt
    ·exfalso
     have hsub : (i :: List.range b.lv.length).Nodup := List.nodup_cons.2 ⟨by simp; omega, List.nodup_range⟩
     have := hsub.length_le_of_subset (l₂ := b.lv.map (·.1)) (fun j hj => by
      rcases List.mem_cons.1 hj with rfl | hj
      ·exact hi'
      ·exact hmem j (by simpa using hj))
     simp at this
     omega
   have hx' : xs[i]? = some (xs[i]'(by simp at m1; omega)) := List.getElem?_eq_getElem _
   have := m2 i i _ (by simp [hlen]) hx'
   rw [hi] at this
   simp only [instL, List.getD_eq_getElem?_getD, hx', Option.getD_some]
   exact (Option.some.inj this).symm
  have hbound : ∀ o p, (o, p) ∈ sg.obs → ∃ u q, lookE b.ids o = some u ∧ c.go u = some q ∧ s.go u = some q ∧ ρs o = ρ u ∧ RepO F ρs w o (p.map' (instL xs) id) := by
   intro o p hp
   obtain ⟨u, q, g1, g2, g3⟩ := l5 b xs ρs (BLe.refl _) hfull o p hp
   exact ⟨u, q, g1, g2, h.sub.2 u q g2, hfull.id o u g1, g3⟩
  have hobs : ObsR F ρs w (lookO (sg.obsI xs)) := by
   have mem : ∀ o b', lookO (sg.obsI xs) o = some b' → ∃ p, (o, p) ∈ sg.obs ∧ b' = p.map' (instL xs) id := by
    intro o b' hb'
    have := lookO_some hb'
    simp only [Sig.obsI, List.mem_map] at this
    obtain ⟨q, hq, e⟩ := this
    simp at e; obtain ⟨rfl, rfl⟩ := e
    exact ⟨q.2, hq, rfl⟩
   refine ⟨fun o b' hb' => ?_, fun o o' b1 b2 h1 h2 hne k hk hk' => ?_⟩
   ·obtain ⟨p, hp, rfl⟩ := mem o b' hb'
    obtain ⟨_, _, _, _, _, _, g⟩ := hbound o p hp
    exact g
   ·obtain ⟨p1, hp1, rfl⟩ := mem o b1 h1
    obtain ⟨p2, hp2, rfl⟩ := mem o' b2 h2
    obtain ⟨u1, q1, e1, _, e3, e4, _⟩ := hbound o p1 hp1
    obtain ⟨u2, q2, f1, _, f3, f4, _⟩ := hbound o' p2 hp2
    have hu : u1 ≠ u2 := fun e => hne (by
     have := nodup_val n2 (lookE_in _ _ _ e1) (lookE_in _ _ _ f1) e
     simpa using congrArg Prod.fst this)
    rw [e4] at hk; rw [f4] at hk'
    exact h.r.ob.sep u1 u2 q1 q2 e3 f3 hu k hk hk'
  refine wpr_upon hrun (fun _ e => by cases e) ⟨(fun h => by cases h), callsIn_fd ((hok.2 F w vs ρs h.r.f2 (h.gl.mono h.r.kp.size h.r.f0 h.r.f3) (by rw [hvs, ← l2]) (fun i v x hv hx => ?_) hobs).mono fun e w' hh => ?_)⟩
  ·simp only [Sig.argsI, List.getElem?_map, Option.map_eq_some_iff] at hx
   obtain ⟨y, hy, rfl⟩ := hx
   have hi : i < args.length := by rw [← l2]; exact (List.getElem?_eq_some_iff.1 hy).1
   have hz : args[i]? = some (args[i]'hi) := List.getElem?_eq_getElem hi
   exact l3 b xs ρs l4 hfull i y _ v hy hz (hargs i v _ hv hz)
  ·obtain ⟨v, F', ρ', rfl, hkp, hFS, hF1, hF2, hres, hrobs, hmine, hkeep⟩ := hh
   let rk := sg.robs.map (·.1)
   let nm := b.name d
   let ρ2 : Nat → Value := fun u => match rk.find? (fun o => Nat.beq (nm o) u) with
    | some o => ρ' o
    | none => ρ u
   have key : ∀ o ∈ rk, ρ2 (nm o) = ρ' o := by
    intro o ho
    simp only [ρ2]
    cases hf : rk.find? (fun o' => Nat.beq (nm o') (nm o)) with
    | none =>
     have := List.find?_eq_none.1 hf o ho
     simp at this
    | some o' =>
     have h1 := List.find?_some hf
     have h2 := List.mem_of_find?_eq_some hf
     have h3 : nm o' = nm o := by simpa using h1
     rw [nodup_map_inj n5 h2 ho h3]
   have off : ∀ u, u ∉ rk.map nm → ρ2 u = ρ u := by
    intro u hu
    simp only [ρ2]
    cases hf : rk.find? (fun o' => Nat.beq (nm o') u) with
    | none => rfl
    | some o' =>
     have h1 := List.find?_some hf
     have h2 := List.mem_of_find?_eq_some hf
     exact absurd (List.mem_map.2 ⟨o', h2, by simpa using h1⟩) hu
   have hname : ∀ o u, lookE b.ids o = some u → nm o = u := fun o u hu => by simp [nm, Bind.name, hu]
   have hidk : ∀ o u, lookE b.ids o = some u → o ∈ sg.obs.map (·.1) := fun o u hu => mem_of_has (List.all_eq_true.1 c6 (o, u) (lookE_in _ _ _ hu))
   have hN : ∀ u, u ∉ ((rk.filter fun o => !has (b.ids.map (·.1)) o).map nm) → ρ2 u = ρ u := by
    intro u hu
    by_cases hm : u ∈ rk.map nm
    ·obtain ⟨o, ho, rfl⟩ := List.mem_map.1 hm
     have hin : o ∈ b.ids.map (·.1) := by
      cases hb : has (b.ids.map (·.1)) o with
      | true => exact mem_of_has hb
      | false => exact absurd (List.mem_map.2 ⟨o, List.mem_filter.2 ⟨ho, by simp [hb]⟩, rfl⟩) hu
     obtain ⟨u0, hu0⟩ := lookE_mem' hin
     rw [key o ho, hname o u0 hu0, hkeep o (hidk o u0 hu0) ho]
     exact hfull.id o u0 hu0
    ·exact off u hm
   have hXin : ∀ k, blocksOf ρs (sg.obsI xs) k → ∃ o u q, lookE b.ids o = some u ∧ s.go u = some q ∧ HB (ρ u) k := by
    rintro k ⟨p, hp, hk⟩
    simp only [Sig.obsI, List.mem_map] at hp
    obtain ⟨p0, hp0, rfl⟩ := hp
    obtain ⟨u, q, e1, _, e3, e4, _⟩ := hbound p0.1 p0.2 hp0
    exact ⟨p0.1, u, q, e1, e3, by rw [← e4]; exact hk⟩
   have hrk : ∀ o ∈ rk, ∃ p, (o, p) ∈ sg.robs ∧ lookO (sg.robsI ys) o = some (p.map' (instL ys) id) := by
    intro o ho
    obtain ⟨p, hp, rfl⟩ := List.mem_map.1 ho
    refine ⟨p.2, hp, lookO_of (by rw [Sig.robsI, List.map_map]; exact n4) ?_⟩
    exact List.mem_map.2 ⟨p, hp, rfl⟩
   have hobk : ∀ u b', (s.ap o.dst { dst := some (sg.res.map (pvAlg.nth ys) nm), obs := (sg.robs.map fun p => (nm p.1, some (p.2.map' (pvAlg.nth ys) nm))) ++ b.ids.map (fun p => (p.2, none)), born := (rk.filter fun o => !has (b.ids.map (·.1)) o).map nm }).go u = some b' →
     (u ∉ rk.map nm ∧ u ∉ b.ids.map (·.2) ∧ s.go u = some b' ∧ ∀ x ∈ (rk.filter fun o => !has (b.ids.map (·.1)) o).map nm, x ∉ obRefs b') ∨ ∃ o p, (o, p) ∈ sg.robs ∧ u = nm o ∧ b' = p.map' (pvAlg.nth ys) nm := by
    intro u b' hu
    have hk1 : (sg.robs.map fun p => (nm p.1, some (p.2.map' (pvAlg.nth ys) nm))).map (·.1) = rk.map nm := by simp [rk, List.map_map, Function.comp_def]
    have hk2 : (b.ids.map fun p => (p.2, (none : Option (Ob PV)))).map (·.1) = b.ids.map (·.2) := by simp [List.map_map, Function.comp_def]
    rcases ap_go hu with h1 | ⟨h0, h1, h3⟩
    ·rw [look_append] at h1
     split at h1
     ·right
      have := look_some _ _ _ h1
      obtain ⟨p, hp, e⟩ := List.mem_map.1 this
      simp at e; obtain ⟨rfl, rfl⟩ := e
      exact ⟨p.1, p.2, hp, rfl, rfl⟩
     ·have := look_some _ _ _ h1
      obtain ⟨p, hp, e⟩ := List.mem_map.1 this
      simp at e
    ·rw [List.map_append, hk1, hk2] at h0
     exact .inl ⟨fun hm => h0 (List.mem_append.2 (.inl hm)), fun hm => h0 (List.mem_append.2 (.inr hm)), h1, h3⟩
   let go1 : Nat → Option (Ob PV) := fun u => if u ∈ b.ids.map (·.2) then none else s.go u
   have hr1 : R S F0 w0 F ρ a.tmps w s.gt go1 := h.r.sub (fun _ _ h => h) fun u q hu => by
    simp only [go1] at hu
    split at hu
    ·cases hu
    ·exact hu
   have hgo1 : ∀ u q, go1 u = some q → u ∉ b.ids.map (·.2) ∧ s.go u = some q := fun u q hu => by
    simp only [go1] at hu
    split at hu
    ·cases hu
    ·exact ⟨‹_›, hu⟩
   refine ⟨put_defers, put_size, F', ρ2, hr1.step (blocksOf ρs (sg.obsI xs)) (fun u => u ∈ (rk.filter fun o => !has (b.ids.map (·.1)) o).map nm) (fun u => u ∈ rk.map nm) hkp (fun k _ hk => ?_) (fun b o hf => (hFS b o hf).1) (fun b o hf => (hFS b o hf).2) hF1 hF2 hN (fun o ho hm => ?_)
    (fun t sv ht => ?_) (fun u b' hu => ?_) (fun u b' hu _ hU k hk hx => ?_) (fun u b' hu hU k hk => ?_) (fun u u' b1 b2 hu hu' hU hU' hne k hk hk' => ?_)⟩
   ·obtain ⟨o, u, q, _, h2, h3⟩ := hXin k hk
    exact h.r.mine u q h2 k h3
   ·have := List.all_eq_true.1 c9 o hm
    simp only [Bool.not_eq_true'] at this
    rw [h.al] at this
    have h1 := has_of_mem ho
    rw [h1] at this; cases this
   ·rw [put_get h.dst]
    rcases ap_gt ht with ⟨h1, h2⟩ | ⟨h1, h2, h3⟩
    ·refine .inr ⟨v, by simp [h1], ?_⟩
     simp at h2; subst h2
     refine RepS.ren (ρ := ρ') hres fun o ho => key o ?_
     exact mem_of_has (List.all_eq_true.1 c7 o ho)
    ·exact .inl ⟨h2, by simp [h1], fun x hx hm => h3 x hm hx⟩
   ·rcases hobk u b' hu with ⟨h1, h2, h3, h4⟩ | ⟨o, p, hp, rfl, rfl⟩
    ·refine .inl ⟨by simp only [go1]; rw [if_neg h2]; exact h3, fun hm => h1 ?_, h1, fun x hx hm => h4 x hm hx⟩
     obtain ⟨o, ho, rfl⟩ := List.mem_map.1 hm
     exact List.mem_map.2 ⟨o, (List.mem_filter.1 ho).1, rfl⟩
    ·have ho : o ∈ rk := List.mem_map.2 ⟨_, hp, rfl⟩
     refine .inr ⟨List.mem_map.2 ⟨o, ho, rfl⟩, ?_⟩
     have hlk : lookO (sg.robsI ys) o = some (p.map' (instL ys) id) := lookO_of (by rw [Sig.robsI, List.map_map]; exact n4) (List.mem_map.2 ⟨_, hp, rfl⟩)
     refine RepO.ren (ρ := ρ') (hrobs.rep o _ hlk) (key o ho) fun x hx => key x ?_
     exact mem_of_has (List.all_eq_true.1 (List.all_eq_true.1 c8 _ hp) x hx)
   ·obtain ⟨h1, h2⟩ := hgo1 u b' hu
    obtain ⟨o, u', q, e1, e2, e3⟩ := hXin k hx
    have hne : u ≠ u' := fun e => h1 (e ▸ List.mem_map.2 ⟨_, lookE_in _ _ _ e1, rfl⟩)
    exact h.r.ob.sep u u' b' q h2 e2 hne k hk e3
   ·obtain ⟨o, ho, rfl⟩ := List.mem_map.1 hU
    obtain ⟨p, _, hlk⟩ := hrk o ho
    rw [key o ho] at hk
    exact hmine o _ hlk k hk
   ·obtain ⟨o, ho, rfl⟩ := List.mem_map.1 hU
    obtain ⟨o', ho', rfl⟩ := List.mem_map.1 hU'
    obtain ⟨p, _, hlk⟩ := hrk o ho
    obtain ⟨p', _, hlk'⟩ := hrk o' ho'
    rw [key o ho] at hk
    rw [key o' ho'] at hk'
    exact hrobs.sep o o' _ _ hlk hlk' (fun e => hne (by rw [e])) k hk hk'
 ·cases hd
end
end Go.Lf

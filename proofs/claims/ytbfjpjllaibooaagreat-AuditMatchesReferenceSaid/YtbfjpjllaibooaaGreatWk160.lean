/- The reference of the package audit: what is reached, in rounds. -/
import Derived.Test.YtbfjpjllaibooaaGreatWk141
set_option linter.all false
namespace Go.Proofs.YtbfjpjllaibooaaGreat.Tx
open Go.Lf Go.Lf.S Go.Lf.Duo
set_option maxRecDepth 100000

theorem d_collZ {f : Int → ByteArray → ByteArray → List ByteArray} (hf : ∀ k a b, (f k a b).length ≤ 2) {g : Nat} {ks : List Pr} {L0 : List ByteArray} {K : PV → Prop} (ih : ∀ x ∈ ks, Ok P g [x.enc] (.sl ((coll f x).map .str)))
    (hb : L0.length + 2 * Pr.szs ks ≤ 8796093022208) (hK : K (.sl ((L0 ++ colls f ks).map .str))) :
    (T.loop [(i 0), .sl (L0.map .str)] fun y => .l .len [.sl (ks.map Pr.enc)] fun x5 => .l (.cmp .lss .i64) [(n y 0), x5] fun x6 => .ite x6
      (.l (.idx 12 true) [.sl (ks.map Pr.enc), (n y 0)] fun x7 => .call g [x7] fun x8 => .l (.app 1 false 16) [(n y 1), x8] fun x9 => .l (.arith .add .i64) [(n y 0), (i 1)] fun x10 => .cont 0 [x10, x9])
      (.ret (n y 1))).den0 P K [] := by
  have hlen := pr_len ks
  refine den_rounds (fun j => [i j, .sl ((L0 ++ colls f (ks.take j)).map .str)]) ks.length (by simp [colls]) (fun j hj => ?_) ?_
  · have hc := colls_len hf (ks.take j)
    have hs2 := pszs_take ks j hj
    have hs3 := pszs_take_le ks (j + 1)
    have hc1 := coll_len hf ks[j]
    refine d_l _ (len_eq ks) fun _ => d_l (.bool (decide ((j : Int) < (ks.length : Int)))) rfl fun _ => d_dec (p := (j : Int) < (ks.length : Int)) (fun _ => ?_) fun h => absurd h (by omega)
    rw [colls_take f ks j hj, ← List.append_assoc]
    exact d_l _ (e_idx (n := 12) (a := true) (mp_at (f := Pr.enc) hj) (Pr.okc_enc _)) fun _ => d_call (ih _ (List.getElem_mem hj)) (d_l _ (app_str (by simp; omega)) fun _ => d_l _ (e_inc (by omega)) fun _ => d_cont rfl (by simp))
  · refine d_l _ (len_eq ks) fun _ => d_l (.bool (decide ((ks.length : Int) < (ks.length : Int)))) rfl fun _ => d_dec (p := (ks.length : Int) < (ks.length : Int)) (fun h => absurd h (by omega)) fun h => d_ret ?_
    rw [List.take_of_length_le (Nat.le_refl _)]
    exact hK
abbrev prZ (k : Int) (ch v : ByteArray) (ls : List ByteArray) (ar : List Vl) (t : Ty) (ks : List Pr) : PV :=
  .agg [i k, .str ch, .str v, .sl (ls.map .str), .sl (ar.map Vl.enc), i t.kind, i t.prio, .str t.name, i t.shift, .sl (t.labels.map .str), .sl (t.kids.map Ty.enc), .sl (ks.map Pr.enc)]
theorem ok_CallsZ : ∀ p : Pr, p.sz ≤ 1099511627776 → Ok P F.ref06_Calls [p.enc] (.sl ((coll callF p).map .str)) := by
  intro p
  induction p using Pr.ind with
  | _ p ih =>
  intro hz
  obtain ⟨k, ch, v, ls, ar, t, ks⟩ := p
  simp only [Pr.sz] at hz
  have ih : ∀ x ∈ ks, Ok P F.ref06_Calls [x.enc] (.sl ((coll callF x).map .str)) := fun x hx => ih x hx (by have := Pr.szs_mem hx; omega)
  rw [Pr.enc_mk]
  refine k_ref06_Calls _ _ rfl (d_l (prZ k ch v ls ar t ks) rfl fun _ => d_l (.bool (decide (k = 8))) rfl fun _ => d_dec (p := k = 8) (fun h => d_l (.sl [.str ch]) rfl fun _ => d_l _ (app_str (l := []) (m := [ch]) (by simp)) fun _ => d_collZ call_le (L0 := [ch]) ih (by simp; omega) ?_) fun h => d_collZ call_le (L0 := []) ih (by simp; omega) ?_)
  · simp only [coll, callF, if_pos h]
  · simp only [coll, callF, if_neg h]

/-! rounds -/

def accB : List Bool → List Df → List ByteArray
  | b :: bs, d :: ds => (if b then coll callF d.body else []) ++ accB bs ds
  | _, _ => []
theorem accB_take : ∀ (b : List Bool) (ds : List Df) (j : Nat) (hb : j < b.length) (hd : j < ds.length), accB (b.take (j + 1)) (ds.take (j + 1)) = accB (b.take j) (ds.take j) ++ (if b[j] then coll callF ds[j].body else [])
  | x :: b, d :: ds, 0, _, _ => by simp [accB]
  | x :: b, d :: ds, j + 1, hb, hd => by
    have := accB_take b ds j (by simpa using hb) (by simpa using hd)
    simp only [List.take_succ_cons, accB, this, List.append_assoc, List.getElem_cons_succ]
theorem mem_accB {x : ByteArray} : ∀ {b : List Bool} {ds : List Df}, x ∈ accB b ds ↔ ∃ (j : Nat) (d : Df), b[j]? = some true ∧ ds[j]? = some d ∧ x ∈ coll callF d.body
  | [], ds => by simp [accB]
  | b :: bs, [] => by simp [accB]
  | b :: bs, d :: ds => by
    simp only [accB, List.mem_append, mem_accB (b := bs) (ds := ds)]
    constructor
    · rintro (h | ⟨j, d', h1, h2, h3⟩)
      · cases b with
        | false => simp at h
        | true => exact ⟨0, d, rfl, rfl, by simpa using h⟩
      · exact ⟨j + 1, d', by simpa using h1, by simpa using h2, h3⟩
    · rintro ⟨j, d', h1, h2, h3⟩
      cases j with
      | zero => simp at h1 h2; subst h1; subst h2; exact .inl (by simpa using h3)
      | succ j => exact .inr ⟨j, d', by simpa using h1, by simpa using h2, h3⟩
theorem accB_len {c : Nat} : ∀ {b : List Bool} {ds : List Df}, (∀ d ∈ ds, d.body.sz ≤ c) → (accB b ds).length ≤ ds.length * (2 * c)
  | [], ds, _ => by simp [accB]
  | b :: bs, [], _ => by simp [accB]
  | b :: bs, d :: ds, h => by
    have h1 := coll_len call_le d.body
    have h2 := h d List.mem_cons_self
    have h3 := accB_len (b := bs) (ds := ds) fun x hx => h x (List.mem_cons_of_mem _ hx)
    have h4 : (ds.length + 1) * (2 * c) = ds.length * (2 * c) + 2 * c := Nat.succ_mul _ _
    simp only [accB, List.length_append, List.length_cons]
    rw [h4]
    cases b <;> simp <;> omega
noncomputable def rndL (ds : List Df) (A : List ByteArray) (b : List Bool) : List Bool := (b.zip ds).map fun q => q.1 || pb (q.2.name ∈ A)
noncomputable def rnd (ds : List Df) (l0 : List ByteArray) (b : List Bool) : List Bool := rndL ds (l0 ++ accB b ds) b
noncomputable def itR (ds : List Df) (l0 : List ByteArray) : Nat → List Bool
  | 0 => List.replicate ds.length false
  | r + 1 => rnd ds l0 (itR ds l0 r)
theorem rndL_len {ds : List Df} {A : List ByteArray} {b : List Bool} (h : b.length = ds.length) : (rndL ds A b).length = ds.length := by simp [rndL, h]
theorem itR_len {ds : List Df} {l0 : List ByteArray} : ∀ r, (itR ds l0 r).length = ds.length
  | 0 => by simp [itR]
  | r + 1 => rndL_len (itR_len r)
theorem rndL_at {ds : List Df} {A : List ByteArray} {b : List Bool} {j : Nat} (hb : j < b.length) (hd : j < ds.length) (h : j < (rndL ds A b).length) : (rndL ds A b)[j] = (b[j] || pb (ds[j].name ∈ A)) := by
  simp [rndL]

theorem rnd_at {ds : List Df} {l0 : List ByteArray} {b : List Bool} {j : Nat} (hb : j < b.length) (hd : j < ds.length) : (rnd ds l0 b)[j]? = some (b[j] || pb (ds[j].name ∈ l0 ++ accB b ds)) := by
  have h : j < (rndL ds (l0 ++ accB b ds) b).length := by simp [rndL]; omega
  have := rndL_at (A := l0 ++ accB b ds) hb hd h
  unfold rnd
  rw [List.getElem?_eq_getElem h, this]

/-! the rounds come to an end -/

def cntT (b : List Bool) : Nat := (b.filter id).length
theorem cntT_le (b : List Bool) : cntT b ≤ b.length := List.length_filter_le _ _
theorem cnt_grow : ∀ {b c : List Bool}, b.length = c.length → (∀ j : Nat, b[j]? = some true → c[j]? = some true) → cntT b ≤ cntT c ∧ (b ≠ c → cntT b < cntT c)
  | [], [], _, _ => ⟨Nat.le_refl _, fun h => absurd rfl h⟩
  | x :: b, y :: c, hl, h => by
    have ih := cnt_grow (b := b) (c := c) (by simpa using hl) fun j hj => by simpa using h (j + 1) (by simpa using hj)
    have h0 := h 0
    unfold cntT at ih ⊢
    cases x <;> cases y
    · simp only [List.filter_cons, id, Bool.false_eq_true, if_false]
      exact ⟨ih.1, fun hn => ih.2 fun e => hn (by rw [e])⟩
    · simp only [List.filter_cons, id, Bool.false_eq_true, if_false, if_true, List.length_cons]
      exact ⟨by omega, fun _ => by omega⟩
    · simp at h0
    · simp only [List.filter_cons, id, if_true, List.length_cons]
      exact ⟨by omega, fun hn => by have := ih.2 fun e => hn (by rw [e]); omega⟩
theorem rnd_mono {ds : List Df} {l0 : List ByteArray} {b : List Bool} (h : b.length = ds.length) (j : Nat) (hj : b[j]? = some true) : (rnd ds l0 b)[j]? = some true := by
  obtain ⟨h1, h2⟩ := List.getElem?_eq_some_iff.1 hj
  rw [rnd_at h1 (by omega), h2]; rfl
theorem itR_fix (ds : List Df) (l0 : List ByteArray) : rnd ds l0 (itR ds l0 (ds.length + 1)) = itR ds l0 (ds.length + 1) := by
  have key : ∀ r, (∃ q, q < r ∧ rnd ds l0 (itR ds l0 q) = itR ds l0 q) ∨ r ≤ cntT (itR ds l0 r) := by
    intro r
    induction r with
    | zero => exact .inr (Nat.zero_le _)
    | succ r ih =>
      rcases ih with ⟨q, h1, h2⟩ | h
      · exact .inl ⟨q, by omega, h2⟩
      · by_cases e : rnd ds l0 (itR ds l0 r) = itR ds l0 r
        · exact .inl ⟨r, by omega, e⟩
        · right
          have hl := itR_len (ds := ds) (l0 := l0) r
          have := (cnt_grow (b := itR ds l0 r) (c := rnd ds l0 (itR ds l0 r)) (by rw [hl]; unfold rnd; rw [rndL_len hl]) (rnd_mono hl)).2 (Ne.symm e)
          show r + 1 ≤ cntT (rnd ds l0 (itR ds l0 r))
          omega
  have stay : ∀ q, rnd ds l0 (itR ds l0 q) = itR ds l0 q → ∀ k, itR ds l0 (q + k) = itR ds l0 q := by
    intro q hq k
    induction k with
    | zero => rfl
    | succ k ih => show rnd ds l0 (itR ds l0 (q + k)) = _; rw [ih, hq]
  rcases key (ds.length + 1) with ⟨q, h1, h2⟩ | h
  · have := stay q h2 (ds.length + 1 - q)
    rw [show q + (ds.length + 1 - q) = ds.length + 1 by omega] at this
    rw [this, h2]
  · have := cntT_le (itR ds l0 (ds.length + 1))
    rw [itR_len] at this
    omega

theorem it_rc {p : Pg} (hn : p.defs.Pairwise (fun a b => a.name ≠ b.name)) (l0 : List ByteArray) : itR p.defs l0 (p.defs.length + 1) = p.defs.map fun d => pb (Rc (gP p) l0 d.name) := by
  have sound : ∀ r (j : Nat) (d : Df), (itR p.defs l0 r)[j]? = some true → p.defs[j]? = some d → Rc (gP p) l0 d.name := by
    intro r
    induction r with
    | zero =>
      intro j d h _
      simp only [itR, List.getElem?_replicate] at h
      split at h <;> cases h
    | succ r ih =>
      intro j d h hd
      obtain ⟨hjd, rfl⟩ := List.getElem?_eq_some_iff.1 hd
      have hl := itR_len (ds := p.defs) (l0 := l0) r
      have h2 : (rnd p.defs l0 (itR p.defs l0 r))[j]? = some true := h
      rw [rnd_at (by omega) hjd] at h2
      have h2 := Option.some.inj h2
      rw [Bool.or_eq_true] at h2
      rcases h2 with h3 | h3
      · exact ih j _ (by rw [List.getElem?_eq_getElem (by omega), h3]) hd
      · have h3 := pb_iff.1 h3
        rcases List.mem_append.1 h3 with h4 | h4
        · exact .base h4
        · obtain ⟨k, d', k1, k2, k3⟩ := mem_accB.1 h4
          have := ih k d' k1 k2
          rw [← gP_def hn (List.mem_of_getElem? k2)] at k3
          exact .step this k3
  have hfix := itR_fix p.defs l0
  have hlen := itR_len (ds := p.defs) (l0 := l0) (p.defs.length + 1)
  have snd := sound (p.defs.length + 1)
  generalize itR p.defs l0 (p.defs.length + 1) = b at *
  have full : ∀ x, Rc (gP p) l0 x → ∀ (j : Nat) (d : Df), p.defs[j]? = some d → d.name = x → b[j]? = some true := by
    intro x hx
    have into : ∀ x, x ∈ l0 ++ accB b p.defs → ∀ (j : Nat) (d : Df), p.defs[j]? = some d → d.name = x → b[j]? = some true := by
      intro x hx j d hd e
      obtain ⟨hjd, rfl⟩ := List.getElem?_eq_some_iff.1 hd
      have := rnd_at (l0 := l0) (b := b) (by omega) hjd
      rw [hfix, e, pb_iff.2 hx, Bool.or_true] at this
      exact this
    induction hx with
    | base h => exact into _ (List.mem_append.2 (.inl h))
    | step h hy ih =>
      obtain ⟨d', hd', e'⟩ := gP_some hy
      obtain ⟨k, hk, rfl⟩ := List.getElem_of_mem hd'
      have hb := ih k _ (List.getElem?_eq_getElem hk) e'
      rw [← e', gP_def hn (List.getElem_mem hk)] at hy
      exact into _ (List.mem_append.2 (.inr (mem_accB.2 ⟨k, _, hb, List.getElem?_eq_getElem hk, hy⟩)))
  apply List.ext_getElem
  · rw [hlen, List.length_map]
  · intro j h1 h2
    rw [List.getElem_map]
    have hjd : j < p.defs.length := by omega
    rw [Bool.eq_iff_iff, pb_iff]
    exact ⟨fun h => snd j _ (by rw [List.getElem?_eq_getElem h1, h]) (List.getElem?_eq_getElem hjd), fun h => by
      have := full _ h j _ (List.getElem?_eq_getElem hjd) rfl
      rw [List.getElem?_eq_getElem h1] at this
      exact Option.some.inj this⟩

theorem e_updZ {n : Nat} {a : Bool} {l : List PV} {k : Nat} {x : PV} (h : k < l.length) (hx : x.okc n a = true) : (Prim.upd n a).ev [.sl l, i (k : Int), x] = some (.sl (l.set k x)) := by
  show (if 0 ≤ (k : Int) ∧ (k : Int) < (l.length : Int) ∧ x.okc n a then some (PV.sl (l.set (k : Int).toNat x)) else none) = _
  rw [if_pos ⟨by omega, by omega, hx⟩, Int.toNat_natCast]

theorem ok_fromR (p : Pg) {m : Nat} (hm : m ≤ 20000) (hs : PgS p m) (l0 : List ByteArray) (hl0 : l0.length ≤ 1000000) : Ok P F.ref27_from [p.enc, .sl (l0.map .str)] (.sl ((itR p.defs l0 (p.defs.length + 1)).map .bool)) := by
  have hdl := hs.len
  have a0 : (Prim.app 1 false 16).ev [.sl [], .sl (l0.map .str)] = some (.sl (l0.map .str)) := by
    have := app_str (l := []) (m := l0) (by simp; omega)
    simpa using this
  have acl : ∀ (b : List Bool) (j : Nat), (accB b (p.defs.take j)).length ≤ 800000 := fun b j => by
    have h1 := accB_len (b := b) (c := m) (ds := p.defs.take j) fun d hd => (hs.body d (List.mem_of_mem_take hd)).1
    have h2 : (p.defs.take j).length * (2 * m) ≤ 20 * 40000 := Nat.mul_le_mul (by simp; omega) (by omega)
    omega
  refine k_ref27_from _ _ rfl (d_l _ (e_okc (Pg.okc_enc p)) fun _ => d_l _ (len_eq p.defs) fun _ => d_l (.sl ((itR p.defs l0 0).map .bool)) ?_ fun _ => ?_)
  · show (if 0 ≤ (p.defs.length : Int) ∧ (p.defs.length : Int).toNat * 1 ≤ roomB ∧ (p.defs.length : Int) ≤ maxLen ∧ (PV.bool false).okc 1 false then some (PV.sl (List.replicate (p.defs.length : Int).toNat (.bool false))) else none) = _
    rw [if_pos ⟨by omega, by unfold roomB; omega, by unfold maxLen; omega, rfl⟩, Int.toNat_natCast]
    simp [itR]
  refine den_loop (fun m' ys => ∃ r : Nat, r + m' = p.defs.length + 1 ∧ ys = [i r, .sl ((itR p.defs l0 r).map .bool)]) (p.defs.length + 1) ⟨0, by omega, rfl⟩ ?_
  rintro m' _ ⟨r, hr, rfl⟩
  have hbl := itR_len (ds := p.defs) (l0 := l0) r
  refine d_l _ (len_eq p.defs) fun _ => d_l (.bool (decide ((r : Int) ≤ (p.defs.length : Int)))) rfl fun _ => d_dec (p := (r : Int) ≤ (p.defs.length : Int)) (fun h => ?_) fun h => d_ret ?_
  · have hrn : itR p.defs l0 (r + 1) = rndL p.defs (l0 ++ accB (itR p.defs l0 r) p.defs) (itR p.defs l0 r) := rfl
    have nxt : ∃ m'' < m', ∃ r' : Nat, r' + m'' = p.defs.length + 1 ∧ [i ((r + 1 : Nat) : Int), PV.sl ((itR p.defs l0 (r + 1)).map .bool)] = [i (r' : Int), .sl ((itR p.defs l0 r').map .bool)] := ⟨m' - 1, by omega, r + 1, by omega, rfl⟩
    rw [hrn] at nxt
    generalize itR p.defs l0 r = b at *
    refine d_l (.sl []) rfl fun _ => d_l _ a0 fun _ => ?_
    refine den_loop (fun m2 ys => ∃ j : Nat, j + m2 = p.defs.length ∧ ys = [i j, .sl ((l0 ++ accB (b.take j) (p.defs.take j)).map .str)]) p.defs.length ⟨0, by omega, by simp [accB]⟩ ?_
    rintro m2 _ ⟨j, hj, rfl⟩
    refine d_l _ (len_eq p.defs) fun _ => d_l (.bool (decide ((j : Int) < (p.defs.length : Int)))) rfl fun _ => d_dec (p := (j : Int) < (p.defs.length : Int)) (fun h2 => ?_) fun h2 => ?_
    · have hjd : j < p.defs.length := by omega
      have hjb : j < b.length := by omega
      have hib := e_idx (n := 1) (a := false) (mp_at (f := PV.bool) hjb) rfl
      have hsn := accB_take b p.defs j hjb hjd
      refine d_l _ hib fun _ => d_l _ hib fun _ => d_ite (fun hb => ?_) fun hb => ?_
      · rw [if_pos hb] at hsn
        have hbz := (hs.body _ (List.getElem_mem hjd)).1
        have hc := ok_CallsZ p.defs[j].body (by omega)
        rw [← sb_bodyA p.defs[j]] at hc
        have hcl := coll_len call_le p.defs[j].body
        have hal := acl (b.take j) j
        refine d_l _ (e_idx (n := 14) (a := true) (mp_at (f := Df.enc) hjd) (Df.okc_enc _)) fun _ => d_call hc (d_l _ (app_str (by simp; omega)) fun _ => d_l _ (e_inc (by omega)) fun _ => d_cont rfl ⟨m2 - 1, by omega, j + 1, by omega, ?_⟩)
        rw [hsn, List.append_assoc]
      · rw [if_neg (by rw [hb]; simp), List.append_nil] at hsn
        refine d_l _ (e_inc (by omega)) fun _ => d_cont rfl ⟨m2 - 1, by omega, j + 1, by omega, ?_⟩
        rw [hsn]; rfl
    · have etb : b.take j = b := List.take_of_length_le (by omega)
      have etd : p.defs.take j = p.defs := List.take_of_length_le (by omega)
      rw [etb, etd]
      have hal := acl b p.defs.length
      rw [List.take_length] at hal
      generalize hA : l0 ++ accB b p.defs = A at *
      have hAl : A.length ≤ 1800000 := by rw [← hA]; simp; omega
      have hrl := rndL_len (A := A) hbl
      clear h2 etb etd hj
      refine den_loop (fun m3 ys => ∃ k : Nat, k + m3 = p.defs.length ∧ ys = [i k, .sl (((rndL p.defs A b).take k ++ b.drop k).map .bool)]) p.defs.length ⟨0, by omega, by simp⟩ ?_
      rintro m3 _ ⟨k, hk, rfl⟩
      refine d_l _ (len_eq p.defs) fun _ => d_l (.bool (decide ((k : Int) < (p.defs.length : Int)))) rfl fun _ => d_dec (p := (k : Int) < (p.defs.length : Int)) (fun h2 => ?_) fun h2 => ?_
      · have hkd : k < p.defs.length := by omega
        have hkb : k < b.length := by omega
        have hkr : k < (rndL p.defs A b).length := by omega
        have hlt : ((rndL p.defs A b).take k).length = k := by simp; omega
        have hcl : k < ((rndL p.defs A b).take k ++ b.drop k).length := by simp; omega
        have hget : ((rndL p.defs A b).take k ++ b.drop k)[k] = b[k] := by
          rw [List.getElem_append_right (by omega)]
          simp [hlt]
        have hset : ∀ v, v = (rndL p.defs A b)[k] → ((rndL p.defs A b).take k ++ b.drop k).set k v = (rndL p.defs A b).take (k + 1) ++ b.drop (k + 1) := by
          rintro v rfl
          rw [List.set_append_right _ _ (by omega), hlt, Nat.sub_self, List.drop_eq_getElem_cons hkb, List.set_cons_zero, List.take_succ_eq_append_getElem hkr, List.append_assoc]
          rfl
        have hat := rndL_at (A := A) hkb hkd hkr
        have hib := e_idx (n := 1) (a := false) (mp_at (f := PV.bool) hcl) rfl
        rw [hget] at hib
        refine d_l _ hib fun _ => d_l _ hib fun _ => d_ite (fun hb => ?_) fun hb => ?_
        · refine d_l _ hib fun _ => d_l (.sl (((rndL p.defs A b).take (k + 1) ++ b.drop (k + 1)).map .bool)) ?_ fun _ => d_l _ (e_inc (by omega)) fun _ => d_cont rfl ⟨m3 - 1, by omega, k + 1, by omega, rfl⟩
          rw [← hset true (by rw [hat, hb]; rfl), List.map_set]
          exact e_updZ (by simpa using hcl) rfl
        · refine d_l _ (e_idx (n := 14) (a := true) (mp_at (f := Df.enc) hkd) (Df.okc_enc _)) fun _ => d_call (ok_In06 p.defs[k].name A (by omega)) (d_l _ hib fun _ => d_l (.sl (((rndL p.defs A b).take (k + 1) ++ b.drop (k + 1)).map .bool)) ?_ fun _ => d_l _ (e_inc (by omega)) fun _ => d_cont rfl ⟨m3 - 1, by omega, k + 1, by omega, rfl⟩)
          rw [← hset (pb (p.defs[k].name ∈ A)) (by rw [hat, hb]; rfl), List.map_set]
          exact e_updZ (by simpa using hcl) rfl
      · rw [List.take_of_length_le (by omega), List.drop_of_length_le (by omega), List.append_nil]
        exact d_l _ (e_inc (by omega)) fun _ => d_cont rfl nxt
  · have : r = p.defs.length + 1 := by omega
    subst this; rfl

/-- what is reached from a list -/
theorem ok_from27 (p : Pg) {m : Nat} (hm : m ≤ 20000) (hs : PgS p m) (hn : p.defs.Pairwise (fun a b => a.name ≠ b.name)) (l0 : List ByteArray) (hl0 : l0.length ≤ 1000000) :
    Ok P F.ref27_from [p.enc, .sl (l0.map .str)] (.sl (p.defs.map fun d => .bool (pb (Rc (gP p) l0 d.name)))) := by
  have := ok_fromR p hm hs l0 hl0
  rw [it_rc hn, List.map_map] at this
  exact this

/-- names by a test -/
theorem d_names {p : Pg} {m : Nat} (hs : PgS p m) {q : Df → Bool} {S : List PV} (hS : S = p.defs.map fun d => .bool (q d)) {yes : Bool} : (T.loop [(i 0), (.sl [])] fun y3 =>
    .l .len [(c 0 p.enc)] fun x4 => .l (.cmp .lss .i64) [(n y3 0), x4] fun x5 => .ite x5
      (.l (.idx 1 false) [.sl S, (n y3 0)] fun x6 => .l (.bcmp .eql) [x6, .bool yes] fun x7 => .ite x7
        (.l (.idx 14 true) [(c 0 p.enc), (n y3 0)] fun x8 => .l (.lst 1 false) [(c 0 x8)] fun x9 => .l (.app 1 false 16) [(n y3 1), x9] fun x10 => .l (.arith .add .i64) [(n y3 0), (i 1)] fun x11 => .cont 0 [x11, x10])
        (.l (.arith .add .i64) [(n y3 0), (i 1)] fun x8 => .cont 0 [x8, (n y3 1)]))
      (.ret (n y3 1))).den0 P (fun x => x = .sl (((p.defs.filter fun d => q d == yes).map Df.name).map .str)) [] := by
  have hdl := hs.len
  refine den_rounds (fun j => [i j, .sl ((((p.defs.take j).filter fun d => q d == yes).map Df.name).map .str)]) p.defs.length rfl (fun j hj => ?_) ?_
  · have htk : p.defs.take (j + 1) = p.defs.take j ++ [p.defs[j]] := List.take_succ_eq_append_getElem hj
    have hfl : ((p.defs.take j).filter fun d => q d == yes).length ≤ 1000000 := by
      have := List.length_filter_le (fun d => q d == yes) (p.defs.take j)
      rw [List.length_take] at this
      omega
    have hib : (Prim.idx 1 false).ev [.sl S, i (j : Int)] = some (.bool (q p.defs[j])) := by rw [hS]; exact e_idx (mp_at (f := fun d : Df => PV.bool (q d)) hj) rfl
    refine d_l _ (len_eq p.defs) fun _ => d_l (.bool (decide ((j : Int) < (p.defs.length : Int)))) rfl fun _ => d_dec (p := (j : Int) < (p.defs.length : Int)) (fun h => ?_) fun h => absurd (show (j : Int) < (p.defs.length : Int) by omega) h
    refine d_l _ hib fun _ => d_l (.bool (q p.defs[j] == yes)) rfl fun _ => d_ite (fun h1 => ?_) fun h1 => ?_
    · refine d_l _ (e_idx (n := 14) (a := true) (mp_at (f := Df.enc) hj) (Df.okc_enc _)) fun _ => d_l (.sl [.str p.defs[j].name]) rfl fun _ => d_l _ (app_str (m := [p.defs[j].name]) (by simp; omega)) fun _ => d_l _ (e_inc (by omega)) fun _ => d_cont rfl ?_
      rw [htk, List.filter_append, List.filter_cons, h1]
      simp
    · refine d_l _ (e_inc (by omega)) fun _ => d_cont rfl ?_
      rw [htk, List.filter_append, List.filter_cons, h1]
      simp
  · refine d_l _ (len_eq p.defs) fun _ => d_l (.bool (decide ((p.defs.length : Int) < (p.defs.length : Int)))) rfl fun _ => d_dec (p := (p.defs.length : Int) < (p.defs.length : Int)) (fun h => by omega) fun _ => d_ret ?_
    rw [List.take_length]; rfl
theorem ok_ReachedR (p : Pg) {m : Nat} (hm : m ≤ 20000) (hs : PgS p m) (hn : p.defs.Pairwise (fun a b => a.name ≠ b.name)) (yes : Bool) :
    Ok P F.ref27_Reached [p.enc, .bool yes] (.sl (((p.defs.filter fun d => pb (Rc (gP p) (coll callF p.main) d.name) == yes).map Df.name).map .str)) := by
  have hz := hs.main.1
  have hc := ok_CallsZ p.main (by omega)
  have hcl := coll_len call_le p.main
  rw [← sb_mainA p] at hc
  exact k_ref27_Reached _ _ rfl (d_l _ (e_okc (Pg.okc_enc p)) fun _ => d_call hc (d_call (ok_from27 p hm hs hn _ (by omega)) (d_names hs (q := fun d => pb (Rc (gP p) (coll callF p.main) d.name)) rfl)))
theorem ok_Reached_t (p : Pg) {m : Nat} (hm : m ≤ 20000) (hs : PgS p m) (hn : p.defs.Pairwise (fun a b => a.name ≠ b.name)) : Ok P F.ref27_Reached [p.enc, .bool true] (.sl ((reN p).map .str)) := by
  have := ok_ReachedR p hm hs hn true
  unfold reN
  rwa [show (fun d : Df => pb (Rc (gP p) (coll callF p.main) d.name) == true) = fun d => pb (Rc (gP p) (coll callF p.main) d.name) from by funext d; simp] at this
theorem ok_Reached_f (p : Pg) {m : Nat} (hm : m ≤ 20000) (hs : PgS p m) (hn : p.defs.Pairwise (fun a b => a.name ≠ b.name)) : Ok P F.ref27_Reached [p.enc, .bool false] (.sl ((unN p).map .str)) := by
  have := ok_ReachedR p hm hs hn false
  unfold unN
  rwa [show (fun d : Df => pb (Rc (gP p) (coll callF p.main) d.name) == false) = fun d => !pb (Rc (gP p) (coll callF p.main) d.name) from by funext d; simp] at this

theorem ok_LoopsR (p : Pg) {m : Nat} (hm : m ≤ 20000) (hs : PgS p m) (hn : p.defs.Pairwise (fun a b => a.name ≠ b.name)) : Ok P F.ref27_Loops [p.enc] (.sl ((loN p).map .str)) := by
  have hdl := hs.len
  refine k_ref27_Loops _ _ rfl (d_l _ (e_okc (Pg.okc_enc p)) fun _ => ?_)
  unfold loN
  refine den_rounds (fun j => [i j, .sl ((((p.defs.take j).filter fun d => pb (Rc (gP p) (coll callF d.body) d.name)).map Df.name).map .str)]) p.defs.length rfl (fun j hj => ?_) ?_
  · have htk : p.defs.take (j + 1) = p.defs.take j ++ [p.defs[j]] := List.take_succ_eq_append_getElem hj
    have hfl : ((p.defs.take j).filter fun d => pb (Rc (gP p) (coll callF d.body) d.name)).length ≤ 1000000 := by
      have := List.length_filter_le (fun d => pb (Rc (gP p) (coll callF d.body) d.name)) (p.defs.take j)
      rw [List.length_take] at this
      omega
    have hbz := (hs.body _ (List.getElem_mem hj)).1
    have hc := ok_CallsZ p.defs[j].body (by omega)
    rw [← sb_bodyA p.defs[j]] at hc
    have hcl := coll_len call_le p.defs[j].body
    have hf := ok_from27 p hm hs hn (coll callF p.defs[j].body) (by omega)
    have hix := e_idx (n := 14) (a := true) (mp_at (f := Df.enc) hj) (Df.okc_enc _)
    refine d_l _ (len_eq p.defs) fun _ => d_l (.bool (decide ((j : Int) < (p.defs.length : Int)))) rfl fun _ => d_dec (p := (j : Int) < (p.defs.length : Int)) (fun h => ?_) fun h => absurd (show (j : Int) < (p.defs.length : Int) by omega) h
    refine d_l _ hix fun _ => d_call hc (d_call hf (d_l _ (e_idx (mp_at (f := fun d : Df => PV.bool (pb (Rc (gP p) (coll callF p.defs[j].body) d.name))) hj) rfl) fun _ => d_ite (fun h1 => ?_) fun h1 => ?_))
    · refine d_l _ hix fun _ => d_l (.sl [.str p.defs[j].name]) rfl fun _ => d_l _ (app_str (m := [p.defs[j].name]) (by simp; omega)) fun _ => d_l _ (e_inc (by omega)) fun _ => d_cont rfl ?_
      rw [htk, List.filter_append, List.filter_cons, h1]
      simp
    · refine d_l _ (e_inc (by omega)) fun _ => d_cont rfl ?_
      rw [htk, List.filter_append, List.filter_cons, h1]
      simp
  · refine d_l _ (len_eq p.defs) fun _ => d_l (.bool (decide ((p.defs.length : Int) < (p.defs.length : Int)))) rfl fun _ => d_dec (p := (p.defs.length : Int) < (p.defs.length : Int)) (fun h => by omega) fun _ => d_ret ?_
    rw [List.take_length]; rfl

theorem enc_prunZ (p : Pg) : (prunP p).enc = .agg [.sl ((prunP p).defs.map Df.enc), c 0 (sb 1 12 p.enc), c 1 (sb 1 12 p.enc), c 2 (sb 1 12 p.enc), c 3 (sb 1 12 p.enc), c 4 (sb 1 12 p.enc), c 5 (sb 1 12 p.enc), c 6 (sb 1 12 p.enc), c 7 (sb 1 12 p.enc), c 8 (sb 1 12 p.enc), c 9 (sb 1 12 p.enc), c 10 (sb 1 12 p.enc), c 11 (sb 1 12 p.enc)] := by
  rw [sb_mainA]
  obtain ⟨ds, m⟩ := p
  cases m; simp only [prunP, Pg.enc, Pr.enc_mk]; rfl
theorem app_dfZ {l m : List Df} (h : l.length + m.length ≤ 500000000) : (Prim.app 14 true 240).ev [.sl (l.map Df.enc), .sl (m.map Df.enc)] = some (.sl ((l ++ m).map Df.enc)) := by
  rw [e_app (all_map Df.okc_enc m) (by simp; omega) (by simp; omega), List.map_append]
theorem ok_PruneR (p : Pg) {m : Nat} (hm : m ≤ 20000) (hs : PgS p m) (hn : p.defs.Pairwise (fun a b => a.name ≠ b.name)) : Ok P F.ref27_Prune [p.enc] (prunP p).enc := by
  have hdl := hs.len
  have hrl : (reN p).length ≤ 20 := by
    unfold reN
    rw [List.length_map]
    exact Nat.le_trans (List.length_filter_le _ _) hdl
  refine k_ref27_Prune _ _ rfl (d_l _ (e_okc (Pg.okc_enc p)) fun _ => d_l .nilI (by show (Prim.okcs [(12, true)]).ev [sb 1 12 p.enc] = _; rw [sb_mainA]; simp [Prim.ev, Pr.okc_enc]) fun _ => d_call (ok_Reached_t p hm hs hn) ?_)
  rw [enc_prunZ]
  refine den_rounds (fun j => [i j, .sl (((p.defs.take j).filter fun d => pb (d.name ∈ reN p)).map Df.enc), c 0 (sb 1 12 p.enc), c 1 (sb 1 12 p.enc), c 2 (sb 1 12 p.enc), c 3 (sb 1 12 p.enc), c 4 (sb 1 12 p.enc), c 5 (sb 1 12 p.enc), c 6 (sb 1 12 p.enc), c 7 (sb 1 12 p.enc), c 8 (sb 1 12 p.enc), c 9 (sb 1 12 p.enc), c 10 (sb 1 12 p.enc), c 11 (sb 1 12 p.enc)]) p.defs.length rfl (fun j hj => ?_) ?_
  · have htk : p.defs.take (j + 1) = p.defs.take j ++ [p.defs[j]] := List.take_succ_eq_append_getElem hj
    have hfl : ((p.defs.take j).filter fun d => pb (d.name ∈ reN p)).length ≤ 1000000 := by
      have := List.length_filter_le (fun d => pb (d.name ∈ reN p)) (p.defs.take j)
      rw [List.length_take] at this
      omega
    have hix := e_idx (n := 14) (a := true) (mp_at (f := Df.enc) hj) (Df.okc_enc _)
    refine d_l _ (len_eq p.defs) fun _ => d_l (.bool (decide ((j : Int) < (p.defs.length : Int)))) rfl fun _ => d_dec (p := (j : Int) < (p.defs.length : Int)) (fun h => ?_) fun h => absurd (show (j : Int) < (p.defs.length : Int) by omega) h
    refine d_l _ hix fun _ => d_call (ok_In06 p.defs[j].name (reN p) (by omega)) (d_ite (fun h1 => ?_) fun h1 => ?_)
    · refine d_l _ hix fun _ => d_l (.sl [p.defs[j].enc]) (e_lst (by intro x hx; simp at hx; subst hx; exact Df.okc_enc _)) fun _ => d_l _ (app_dfZ (m := [p.defs[j]]) (by simp; omega)) fun _ => d_l _ (e_inc (by omega)) fun _ => d_cont rfl ?_
      rw [htk, List.filter_append, List.filter_cons, h1]
      simp
    · refine d_l _ (e_inc (by omega)) fun _ => d_cont rfl ?_
      rw [htk, List.filter_append, List.filter_cons, h1]
      simp
  · refine d_l _ (len_eq p.defs) fun _ => d_l (.bool (decide ((p.defs.length : Int) < (p.defs.length : Int)))) rfl fun _ => d_dec (p := (p.defs.length : Int) < (p.defs.length : Int)) (fun h => by omega) fun _ => d_ret ?_
    rw [List.take_length]; rfl
end Go.Proofs.YtbfjpjllaibooaaGreat.Tx

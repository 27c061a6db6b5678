/- Contracts: law 13's own functions, the reference's Split and Find. -/
import Derived.Test.YtlemfbmaineigaaWk35
set_option linter.all false
namespace Go.Proofs.Ytlemfbmaineigaa.Tx
open Go.Lf Go.Lf.S Go.Lf.Duo
set_option maxRecDepth 100000

def inAr (names : List ByteArray) (e : Et) : Bool := !(prT e.t).isSome || memB e.name names
def inBr (names : List ByteArray) (e : Et) : Bool := !(prT e.t).isSome || !memB e.name names

theorem take_filter {α : Type} (p : α → Bool) {l : List α} {j : Nat} (h : j < l.length) : (l.take (j + 1)).filter p = (l.take j).filter p ++ (if p l[j] then [l[j]] else []) := by
  rw [List.take_succ_eq_append_getElem h, List.filter_append]
  congr 1
  cases hp : p l[j] <;> simp [hp]
theorem filter_take_le {α : Type} (p : α → Bool) (l : List α) (j : Nat) : ((l.take j).filter p).length ≤ j := Nat.le_trans (List.length_filter_le _ _) (List.length_take_le _ _)

theorem ok_ref13_Split (c : List Et) (names : List ByteArray) (hl : c.length ≤ 549755813888) (hn : names.length ≤ 549755813888) (ht : ∀ e ∈ c, Ok2 e.t) :
    Ok P F.ref13_Split [.sl (c.map Et.enc), .sl (names.map .str)] (.tup [.sl ((c.filter (inAr names)).map Et.enc), .sl ((c.filter (inBr names)).map Et.enc)]) := by
  refine k_ref13_Split _ _ rfl ?_
  refine den_rounds (fun j => [i j, .sl (((c.take j).filter (inBr names)).map Et.enc), .sl (((c.take j).filter (inAr names)).map Et.enc)]) c.length rfl (fun j hj => ?_) ?_
  · have hA := take_filter (inAr names) hj
    have hB := take_filter (inBr names) hj
    have hAl := filter_take_le (inAr names) c j
    have hBl := filter_take_le (inBr names) c j
    have hlv := ok_ref13_IsLive (ht _ (List.getElem_mem hj))
    have hin := ok_ref03_In c[j].name names hn
    refine d_l _ e_len fun _ => d_l _ rfl fun _ => d_dec (fun _ => ?_) fun h => absurd (show (j : Int) < ((c.map Et.enc).length : Int) by simp; omega) h
    have hx : (Prim.idx 7 true).ev [.sl (c.map Et.enc), i (j : Int)] = some c[j].enc := e_idx (et_at hj) (Et.okc_enc _)
    have h1 : (Prim.lst 7 true).ev [c[j].enc] = some (.sl [c[j].enc]) := e_lst (by intro x hx; simp at hx; subst hx; exact Et.okc_enc _)
    have hapA : (Prim.app 7 true 104).ev [.sl (((c.take j).filter (inAr names)).map Et.enc), .sl [c[j].enc]] = some (.sl (((c.take j).filter (inAr names)).map Et.enc ++ [c[j].enc])) :=
      e_app (by intro x hx; simp at hx; subst hx; exact Et.okc_enc _) (by simp; omega) (by simp; omega)
    have hapB : (Prim.app 7 true 104).ev [.sl (((c.take j).filter (inBr names)).map Et.enc), .sl [c[j].enc]] = some (.sl (((c.take j).filter (inBr names)).map Et.enc ++ [c[j].enc])) :=
      e_app (by intro x hx; simp at hx; subst hx; exact Et.okc_enc _) (by simp; omega) (by simp; omega)
    refine d_l _ hx fun _ => d_call (r := .bool (prT c[j].t).isSome) (by rw [Et.sub]; exact hlv) (d_l _ hx fun _ => d_call hin (d_l (.bool !(prT c[j].t).isSome) rfl fun _ => ?_))
    cases hlive : (prT c[j].t).isSome with
    | false =>
      have eA : inAr names c[j] = true := by simp [inAr, hlive]
      have eB : inBr names c[j] = true := by simp [inBr, hlive]
      rw [eA, if_pos rfl] at hA; rw [eB, if_pos rfl] at hB
      refine d_true (d_l _ hx fun _ => d_l _ h1 fun _ => d_l _ hapA fun _ => d_l (.bool true) rfl fun _ => d_true (d_l _ hx fun _ => d_l _ h1 fun _ => d_l _ hapB fun _ => d_l _ (e_inc (by omega)) fun _ => d_cont rfl ?_))
      rw [hA, hB, List.map_append, List.map_append]; rfl
    | true =>
      cases hm : memB c[j].name names with
      | true =>
        have eA : inAr names c[j] = true := by simp [inAr, hm]
        have eB : inBr names c[j] = false := by simp [inBr, hlive, hm]
        rw [eA, if_pos rfl] at hA; rw [eB, if_neg (by simp), List.append_nil] at hB
        refine d_false (d_true (d_l _ hx fun _ => d_l _ h1 fun _ => d_l _ hapA fun _ => d_l (.bool false) rfl fun _ => d_false (d_l (.bool false) rfl fun _ => d_false (d_l _ (e_inc (by omega)) fun _ => d_cont rfl ?_))))
        rw [hA, hB, List.map_append]; rfl
      | false =>
        have eA : inAr names c[j] = false := by simp [inAr, hlive, hm]
        have eB : inBr names c[j] = true := by simp [inBr, hm]
        rw [eA, if_neg (by simp), List.append_nil] at hA; rw [eB, if_pos rfl] at hB
        refine d_false (d_false (d_l (.bool false) rfl fun _ => d_false (d_l (.bool true) rfl fun _ => d_true (d_l _ hx fun _ => d_l _ h1 fun _ => d_l _ hapB fun _ => d_l _ (e_inc (by omega)) fun _ => d_cont rfl ?_))))
        rw [hA, hB, List.map_append]; rfl
  · refine d_l _ e_len fun _ => d_l _ rfl fun _ => d_dec (fun h => ?_) fun h => d_ret ?_
    · have h : (c.length : Int) < ((c.map Et.enc).length : Int) := h
      simp at h
    · rw [List.take_length]; rfl

/-- the type of a name -/
def findT : List Et → ByteArray → Option Ty
  | [], _ => none
  | e :: es, s => if e.name = s then some e.t else findT es s
def fndT (o : Option Ty) : PV := match o with | some t => .tup [t.enc, .bool true] | none => .tup [.agg [i 0, i 0, .str ⟨#[]⟩, i 0, .sl [], .sl []], .bool false]

theorem ok_ref13_Find (c : List Et) (s : ByteArray) (hl : c.length ≤ 549755813888) : Ok P F.ref13_Find [.sl (c.map Et.enc), .str s] (fndT (findT c s)) := by
  refine k_ref13_Find _ _ rfl ?_
  refine den_loop (fun m ys => ∃ j : Nat, j + m = c.length ∧ findT c s = findT (c.drop j) s ∧ ys = [i j]) c.length ⟨0, by omega, rfl, rfl⟩ ?_
  rintro m _ ⟨j, hj, hm, rfl⟩
  refine d_l _ e_len fun _ => d_l _ rfl fun _ => d_dec (fun h => ?_) fun h => ?_
  · have h : (j : Int) < ((c.map Et.enc).length : Int) := h
    have hlt : j < c.length := by simp at h; omega
    rw [List.drop_eq_getElem_cons hlt, findT] at hm
    refine d_l _ (e_idx (et_at hlt) (Et.okc_enc _)) fun _ => d_l (.bool (decide (c[j].name = s))) rfl fun _ => d_dec (fun he => ?_) fun he => ?_
    · rw [if_pos he] at hm
      refine d_l _ (e_idx (et_at hlt) (Et.okc_enc _)) fun _ => d_l c[j].t.enc (by rw [Et.sub]; exact e_okc (Ty.okc_enc _)) fun _ => d_ret ?_
      rw [hm]; rfl
    · rw [if_neg he] at hm
      exact d_l _ (e_inc (by omega)) fun _ => d_cont rfl ⟨m - 1, by omega, j + 1, by omega, hm, rfl⟩
  · have h : ¬ (j : Int) < ((c.map Et.enc).length : Int) := h
    simp at h
    rw [List.drop_eq_nil_of_le h] at hm
    refine d_ret ?_
    rw [hm]; rfl

theorem ok_law13_inside (es : List En) (k : Nat) (hl : es.length ≤ 549755813888) (h : ∀ e ∈ es, 0 ≤ e.r.node ∧ e.r.node < k) : Ok P F.law13_inside [.sl (es.map En.enc), i (k : Int)] (.bool true) := by
  refine k_law13_inside _ _ rfl ?_
  refine den_rounds (fun j => [i j]) es.length rfl (fun j hj => ?_) ?_
  · obtain ⟨h1, h2⟩ := h _ (List.getElem_mem hj)
    refine d_l _ e_len fun _ => d_l _ rfl fun _ => d_dec (fun _ => ?_) fun h => absurd (show (j : Int) < ((es.map En.enc).length : Int) by simp; omega) h
    refine d_l _ (e_idx (en_at hj) (En.okc_enc _)) fun _ => d_l (.bool (decide (es[j].r.node < 0))) rfl fun _ => d_dec (fun hc => by omega) fun _ => d_l _ (e_idx (en_at hj) (En.okc_enc _)) fun _ => d_l (.bool (decide (es[j].r.node ≥ (k : Int)))) rfl fun _ => d_dec (fun hc => by omega) fun _ => d_l _ (e_inc (by omega)) fun _ => d_cont rfl rfl
  · refine d_l _ e_len fun _ => d_l _ rfl fun _ => d_dec (fun h => ?_) fun h => d_ret rfl
    have h : (es.length : Int) < ((es.map En.enc).length : Int) := h
    simp at h

theorem st_ne' (s t : ByteArray) (h : s = t) : (Prim.scmp .neq).ev [.str s, .str t] = some (.bool false) := by
  subst h
  show some (PV.bool (!decide (s = s))) = _
  simp
theorem rf_ne' (r : Rf) : (Prim.acmp .neq [.i .i64, .i .i64]).ev [r.enc, r.enc] = some (.bool false) := by
  simp [Prim.ev, Rf.enc, PV.sameK, PV.same1]

theorem ok_law13_same (l : List En) (w : List Et) (all : List En) (hl : l.length ≤ 549755813888) (ha : all.length ≤ 549755813888) (hlen : l.length = w.length)
    (h : ∀ j (h1 : j < l.length) (h2 : j < w.length), l[j].name = w[j].name ∧ findE all w[j].name = some l[j].r) : Ok P F.law13_same [.sl (l.map En.enc), .sl (w.map Et.enc), .sl (all.map En.enc)] (.bool true) := by
  refine k_law13_same _ _ rfl (d_l (i (l.length : Int)) (by rw [← List.length_map (f := En.enc)]; exact e_len) fun _ => d_l (i (l.length : Int)) (by rw [hlen, ← List.length_map (f := Et.enc)]; exact e_len) fun _ => d_l _ rfl fun _ => d_ndec (fun h => absurd rfl h) fun _ => ?_)
  refine den_rounds (fun j => [i j]) l.length rfl (fun j hj => ?_) ?_
  · have hw : j < w.length := by omega
    obtain ⟨h1, h2⟩ := h j hj hw
    have hf := ok_law13_find all w[j].name ha
    rw [h2] at hf
    refine d_l _ e_len fun _ => d_l _ rfl fun _ => d_dec (fun _ => ?_) fun h => absurd (show (j : Int) < ((l.map En.enc).length : Int) by simp; omega) h
    refine d_l _ (e_idx (et_at hw) (Et.okc_enc _)) fun _ => d_call hf (d_l l[j].r.enc rfl fun _ => d_l (.bool true) rfl fun _ => d_l _ (e_okc (Rf.okc_enc _)) fun _ => d_l _ (e_idx (en_at hj) (En.okc_enc _)) fun _ => d_l _ (e_idx (et_at hw) (Et.okc_enc _)) fun _ => d_l (.bool false) (st_ne' _ _ h1) fun _ => d_false (d_l (.bool false) rfl fun _ => d_false (d_l _ (e_idx (en_at hj) (En.okc_enc _)) fun _ => d_l (.bool false) (rf_ne' _) fun _ => d_false (d_l _ (e_inc (by omega)) fun _ => d_cont rfl rfl))))
  · refine d_l _ e_len fun _ => d_l _ rfl fun _ => d_dec (fun h => ?_) fun h => d_ret rfl
    have h : (l.length : Int) < ((l.map En.enc).length : Int) := h
    simp at h

/-- names and references -/
def bld : List Et → List Rf → List En
  | e :: c, r :: rs => ⟨e.name, r⟩ :: bld c rs
  | _, _ => []
theorem bld_len : ∀ {c : List Et} {rs : List Rf}, rs.length = c.length → (bld c rs).length = c.length
  | [], [], _ => rfl
  | [], _ :: _, h => by simp at h
  | _ :: _, [], h => by simp at h
  | e :: c, r :: rs, h => by simp [bld, bld_len (c := c) (rs := rs) (by simpa using h)]
theorem bld_at : ∀ {c : List Et} {rs : List Rf} {j : Nat} (h1 : j < c.length) (h2 : j < rs.length) (h : j < (bld c rs).length), (bld c rs)[j] = ⟨c[j].name, rs[j]⟩
  | [], _, _, h, _, _ => by simp at h
  | _ :: _, [], _, _, h, _ => by simp at h
  | e :: c, r :: rs, 0, _, _, _ => rfl
  | e :: c, r :: rs, j + 1, h1, h2, h => by simp only [bld, List.getElem_cons_succ]; exact bld_at (by simpa using h1) (by simpa using h2) _

theorem ok_law13_build (c : List Et) {ds : List Nd} {rs : List Rf} (hl : c.length ≤ 549755813888) (hr : rs.length = c.length)
    (hG : Ok P F.law08_Graph [.sl ((c.map Et.t).map Ty.enc)] (.tup [.agg [.sl (ds.map Nd.enc)], .sl (rs.map Rf.enc)])) : Ok P F.law13_build [.sl (c.map Et.enc)] (.tup [.agg [.sl (ds.map Nd.enc)], .sl ((bld c rs).map En.enc)]) := by
  refine k_law13_build _ _ rfl ?_
  refine den_rounds (fun j => [i j, .sl (((c.take j).map Et.t).map Ty.enc)]) c.length rfl (fun j hj => ?_) ?_
  · refine d_l _ e_len fun _ => d_l _ rfl fun _ => d_dec (fun _ => ?_) fun h => absurd (show (j : Int) < ((c.map Et.enc).length : Int) by simp; omega) h
    refine d_l _ (e_idx (et_at hj) (Et.okc_enc _)) fun _ => d_l (.sl [c[j].t.enc]) (by rw [Et.sub]; exact e_lst (by intro x hx; simp at hx; subst hx; exact Ty.okc_enc _)) fun _ => d_l _ (e_app (by intro x hx; simp at hx; subst hx; exact Ty.okc_enc _) (by simp; omega) (by simp; omega)) fun _ => d_l _ (e_inc (by omega)) fun _ => d_cont rfl ?_
    rw [List.take_succ_eq_append_getElem hj, List.map_append, List.map_append]; rfl
  · refine d_l _ e_len fun _ => d_l _ rfl fun _ => d_dec (fun h => ?_) fun h => ?_
    · have h : (c.length : Int) < ((c.map Et.enc).length : Int) := h
      simp at h
    · rw [List.take_length]
      refine d_call hG (d_l (.agg [.sl (ds.map Nd.enc)]) rfl fun _ => d_l _ rfl fun _ => d_l (.agg [.sl (ds.map Nd.enc)]) rfl fun _ => ?_)
      have hbl := bld_len hr
      refine den_rounds (fun j => [i j, .sl (((bld c rs).take j).map En.enc)]) c.length rfl (fun j hj => ?_) ?_
      · have hjr : j < rs.length := by omega
        have hjb : j < (bld c rs).length := by omega
        have hb := bld_at hj hjr hjb
        refine d_l _ e_len fun _ => d_l _ rfl fun _ => d_dec (fun _ => ?_) fun h => absurd (show (j : Int) < ((c.map Et.enc).length : Int) by simp; omega) h
        refine d_l _ (e_idx (et_at hj) (Et.okc_enc _)) fun _ => d_l _ (e_idx (rf_at hjr) (Rf.okc_enc _)) fun _ => d_l .nilI rfl fun _ => d_l (.sl [(⟨c[j].name, rs[j]⟩ : En).enc]) rfl fun _ => d_l _ (e_app (by intro x hx; simp at hx; subst hx; rfl) (by simp; omega) (by simp; omega)) fun _ => d_l _ (e_inc (by omega)) fun _ => d_cont rfl ?_
        rw [List.take_succ_eq_append_getElem hjb, List.map_append, hb]; rfl
      · refine d_l _ e_len fun _ => d_l _ rfl fun _ => d_dec (fun h => ?_) fun h => d_l (.agg [.sl (ds.map Nd.enc)]) rfl fun _ => d_ret ?_
        · have h : (c.length : Int) < ((c.map Et.enc).length : Int) := h
          simp at h
        · rw [show c.length = (bld c rs).length from hbl.symm, List.take_length]; rfl

/-- a right context -/
def Rgt (c : List Et) : Prop := (∀ p q (hp : p < c.length) (hq : q < c.length), p < q → c[p].name ≠ c[q].name) ∧ c.length ≤ 12 ∧ ∀ e ∈ c, e.t.sz ≤ 60 ∧ Wf e.t [] 0

theorem ok_law13_right (c : List Et) (hl : c.length ≤ 1400000000000) (hlim : ∀ e ∈ c, Lim e.t) : ∃ b, Ok P F.law13_right [.sl (c.map Et.enc)] (.bool b) ∧ (b = true → Rgt c) := by
  have := tx_ex (K := fun x => ∃ b, x = .bool b ∧ (b = true → Rgt c)) k_law13_right (xs := [.sl (c.map Et.enc)]) rfl (by simp [t_law13_right, T.dt]) (by
    refine den_loop (fun m ys => ∃ j : Nat, j + m = c.length ∧ (∀ p q (hp : p < c.length) (hq : q < c.length), p < q → q < j → c[p].name ≠ c[q].name) ∧ ys = [i j, .sl (((c.take j).map Et.t).map Ty.enc)]) c.length ⟨0, by omega, (fun p q _ _ _ h => by omega), rfl⟩ ?_
    rintro m _ ⟨j, hj, hno, rfl⟩
    refine d_l _ e_len fun _ => d_l _ rfl fun _ => d_dec (fun h => ?_) fun h => ?_
    · have h : (j : Int) < ((c.map Et.enc).length : Int) := h
      have hlt : j < c.length := by simp at h; omega
      refine den_loop (fun m' ys => ∃ k : Nat, k + m' = j ∧ (∀ p (hp : p < c.length), p < k → c[p].name ≠ c[j].name) ∧ ys = [i k]) j ⟨0, by omega, (fun p _ h => by omega), rfl⟩ ?_
      rintro m' _ ⟨k, hk, hnk, rfl⟩
      refine d_l _ rfl fun _ => d_dec (fun h => ?_) fun h => ?_
      · have h : (k : Int) < (j : Int) := h
        have hkl : k < c.length := by omega
        refine d_l _ (e_idx (et_at hkl) (Et.okc_enc _)) fun _ => d_l _ (e_idx (et_at hlt) (Et.okc_enc _)) fun _ => d_l (.bool (decide (c[k].name = c[j].name))) rfl fun _ => d_dec (fun _ => d_ret ⟨false, rfl, fun h => by cases h⟩) fun he => d_l _ (e_inc (by omega)) fun _ => d_cont rfl ⟨m' - 1, by omega, k + 1, by omega, fun p hp hpk => ?_, rfl⟩
        by_cases hpk' : p = k
        · subst hpk'; exact he
        · exact hnk p hp (by omega)
      · have h : ¬ (k : Int) < (j : Int) := h
        refine d_l _ (e_idx (et_at hlt) (Et.okc_enc _)) fun _ => d_l (.sl [c[j].t.enc]) (by rw [Et.sub]; exact e_lst (by intro x hx; simp at hx; subst hx; exact Ty.okc_enc _)) fun _ => d_l _ (e_app (by intro x hx; simp at hx; subst hx; exact Ty.okc_enc _) (by simp; omega) (by simp; omega)) fun _ => d_l _ (e_inc (by omega)) fun _ => d_cont rfl ⟨m - 1, by omega, j + 1, by omega, fun p q hp hq hpq hqj => ?_, ?_⟩
        · by_cases hqe : q = j
          · subst hqe; exact hnk p hp (by omega)
          · exact hno p q hp hq hpq (by omega)
        · rw [List.take_succ_eq_append_getElem hlt, List.map_append, List.map_append]; rfl
    · have h : ¬ (j : Int) < ((c.map Et.enc).length : Int) := h
      simp at h
      obtain ⟨b, hb, hbb⟩ := ok_ref07_Few ((c.take j).map Et.t) (by simp; omega) (fun t ht => by
        obtain ⟨e, he, rfl⟩ := List.mem_map.1 ht
        exact hlim e (List.mem_of_mem_take he)) 12 60 (by omega) (by omega)
      refine d_call hb (d_ret ⟨b, rfl, fun hbt => ?_⟩)
      obtain ⟨h1, h2⟩ := hbb hbt
      rw [List.take_of_length_le h] at h1 h2
      refine ⟨fun p q hp hq hpq => hno p q hp hq hpq (by omega), by simp at h1; omega, fun e he => ?_⟩
      obtain ⟨h3, h4⟩ := h2 e.t (List.mem_map.2 ⟨e, he, rfl⟩)
      exact ⟨by omega, h4⟩)
  obtain ⟨_, ⟨b, rfl, hb⟩, h⟩ := this
  exact ⟨b, h, hb⟩

end Go.Proofs.Ytlemfbmaineigaa.Tx

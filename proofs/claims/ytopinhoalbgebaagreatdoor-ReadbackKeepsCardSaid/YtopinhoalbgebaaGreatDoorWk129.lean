/- Contracts (Wk126, Wk127, Wk128, Wk129). -/
import Derived.Test.YtopinhoalbgebaaGreatDoorWk122
import Derived.Lib.Strings
import Derived.Test.YtopinhoalbgebaaGreatDoorWk44
set_option linter.all false
/- The reference's equality (1): lists of labels in order. -/
namespace Go.Proofs.YtopinhoalbgebaaGreatDoor.Tx
open Go.Lf Go.Lf.S Go.Lf.Duo
set_option maxRecDepth 100000

theorem bytes_lt : ∀ (x y : List UInt8), Op.bytesLess x y = decide (x < y)
  | [], [] => by simp [Op.bytesLess]
  | _ :: _, [] => by simp [Op.bytesLess]
  | [], _ :: _ => by simp [Op.bytesLess]
  | a :: x, b :: y => by
    rw [Op.bytesLess, bytes_lt x y]
    simp only [List.cons_lt_cons_iff]
    by_cases h1 : a < b <;> by_cases h2 : a = b <;> by_cases h3 : x < y <;> simp [h1, h2, h3]
def bl (x y : ByteArray) : Bool := Op.bytesLess x.toList y.toList
theorem bl_iff {x y : ByteArray} : bl x y = true ↔ x.toList < y.toList := by unfold bl; rw [bytes_lt, decide_eq_true_iff]
theorem bl_asymm {x y : ByteArray} (h : bl x y = true) : bl y x = false := by
  cases e : bl y x with
  | false => rfl
  | true => exact absurd (List.lt_trans (bl_iff.1 h) (bl_iff.1 e)) (List.lt_irrefl _)
theorem bl_trans {x y z : ByteArray} (h : bl x y = true) (h2 : bl y z = true) : bl x z = true := bl_iff.2 (List.lt_trans (bl_iff.1 h) (bl_iff.1 h2))
theorem bl_total {x y : ByteArray} (h : bl x y = false) (h2 : bl y x = false) : x = y := by
  have e : x.toList = y.toList := by
    have a : ¬ x.toList < y.toList := fun c => by rw [bl_iff.2 c] at h; cases h
    have b : ¬ y.toList < x.toList := fun c => by rw [bl_iff.2 c] at h2; cases h2
    exact List.le_antisymm (List.not_lt.1 b) (List.not_lt.1 a)
  rw [Lib.toList_data, Lib.toList_data] at e
  exact ByteArray.ext (Array.toList_inj.1 e)

def Srt (m : Nat) (o : List ByteArray) : Prop := ∀ (p q : Nat) x y, p < m → p < q → o[p]? = some x → o[q]? = some y → bl y x = false
def Shuf (o l : List ByteArray) : Prop := ∃ σ τ : Nat → Nat, (∀ x, σ (τ x) = x ∧ τ (σ x) = x) ∧ ∀ x : Nat, o[x]? = l[σ x]?
theorem Shuf.mem {o l : List ByteArray} (h : Shuf o l) (s : ByteArray) : s ∈ o ↔ s ∈ l := by
  obtain ⟨σ, τ, h1, h2⟩ := h
  rw [List.mem_iff_getElem?, List.mem_iff_getElem?]
  constructor
  · rintro ⟨x, hx⟩
    exact ⟨σ x, by rw [← h2]; exact hx⟩
  · rintro ⟨x, hx⟩
    exact ⟨τ x, by rw [h2, (h1 x).1]; exact hx⟩
theorem Shuf.nodup {o l : List ByteArray} (h : Shuf o l) (hn : l.Nodup) : o.Nodup := by
  obtain ⟨σ, τ, h1, h2⟩ := h
  rw [List.Nodup, List.pairwise_iff_getElem]
  intro i j hi hj hij hee
  have he : o[i]? = o[j]? := by rw [List.getElem?_eq_getElem hi, List.getElem?_eq_getElem hj, hee]
  rw [h2, h2] at he
  have hjl : σ j < l.length := by
    have : o[j]? ≠ none := by rw [List.getElem?_eq_getElem hj]; simp
    rw [h2] at this
    rcases Nat.lt_or_ge (σ j) l.length with h | h
    · exact h
    · exact absurd (List.getElem?_eq_none h) this
  have hil : σ i < l.length := by
    rcases Nat.lt_or_ge (σ i) l.length with h | h
    · exact h
    · rw [List.getElem?_eq_none h, List.getElem?_eq_getElem hjl] at he; cases he
  rw [List.getElem?_eq_getElem hil, List.getElem?_eq_getElem hjl] at he
  have : σ i = σ j := nodup_at hn (List.getElem?_eq_getElem hil) (by rw [List.getElem?_eq_getElem hjl, Option.some.inj he])
  have : τ (σ i) = τ (σ j) := by rw [this]
  rw [(h1 i).2, (h1 j).2] at this
  omega
theorem sorted_eq {l m o1 o2 : List ByteArray} (hl : l.Nodup) (hm : m.Nodup) (h1 : Shuf o1 l) (s1 : Srt o1.length o1) (h2 : Shuf o2 m) (s2 : Srt o2.length o2) : o1 = o2 ↔ ∀ s, s ∈ l ↔ s ∈ m := by
  constructor
  · intro e s
    rw [← h1.mem, ← h2.mem, e]
  · intro h
    have pw : ∀ {o : List ByteArray}, Srt o.length o → o.Pairwise fun a b => bl b a = false := fun {o} hs => by
      rw [List.pairwise_iff_getElem]
      intro i j hi hj hij
      exact hs i j _ _ hi hij (List.getElem?_eq_getElem hi) (List.getElem?_eq_getElem hj)
    refine List.Perm.eq_of_pairwise (le := fun a b => bl b a = false) (fun a b _ _ g1 g2 => bl_total g2 g1) (pw s1) (pw s2) ?_
    rw [List.perm_ext_iff_of_nodup (h1.nodup hl) (h2.nodup hm)]
    intro s
    rw [h1.mem, h2.mem]; exact h s

theorem swap_at {α : Type} {o : List α} {a k : Nat} (ha : a < o.length) (hk : k < o.length) (hak : a ≠ k) (x : Nat) : ((o.set a o[k]).set k o[a])[x]? = o[if x = k then a else if x = a then k else x]? := by
  by_cases e : x = k
  · subst e
    rw [if_pos rfl, List.getElem?_set_self (by simpa using hk), List.getElem?_eq_getElem ha]
  · rw [if_neg e, List.getElem?_set_ne (by omega)]
    by_cases e2 : x = a
    · subst e2
      rw [if_pos rfl, List.getElem?_set_self ha, List.getElem?_eq_getElem hk]
    · rw [if_neg e2, List.getElem?_set_ne (by omega)]

theorem ok_Sorted (l : List ByteArray) (hl : l.length ≤ 549755813888) : ∃ o, Ok P F.ref08_Sorted [.sl (l.map .str)] (.sl (o.map .str)) ∧ o.length = l.length ∧ Shuf o l ∧ Srt o.length o := by
  have := tx_ex (K := fun x => ∃ o, x = .sl (o.map .str) ∧ o.length = l.length ∧ Shuf o l ∧ Srt o.length o) k_ref08_Sorted (xs := [.sl (l.map .str)]) rfl (by simp [t_ref08_Sorted, T.dt]) (by
    refine d_l (.sl []) rfl fun _ => d_l (.sl (l.map .str)) (by
      show (Prim.app 1 false 16).ev [.sl [], .sl (l.map .str)] = _
      rw [e_app (all_map okc_str l) (by simp; omega) (by simp; omega)]; rfl) fun _ => ?_
    refine den_loop (fun m' ys => ∃ (a : Nat) (o : List ByteArray), a + m' = l.length ∧ o.length = l.length ∧ Shuf o l ∧ Srt a o ∧ ys = [i a, .sl (o.map .str)]) l.length ⟨0, l, by omega, rfl, ⟨id, id, fun x => ⟨rfl, rfl⟩, fun x => rfl⟩, fun p q x y h => by omega, rfl⟩ ?_
    rintro m' _ ⟨a, o, ha, ho, hsh, hsr, rfl⟩
    refine d_l _ (len_str o) fun _ => d_l (.bool (decide ((a : Int) < (o.length : Int)))) rfl fun _ => d_dec (p := (a : Int) < (o.length : Int)) (fun h => ?_) fun h => d_ret ⟨o, rfl, ho, hsh, by rw [show o.length = a by omega]; exact hsr⟩
    have hal : a < l.length := by omega
    refine d_l _ (e_inc (by omega)) fun _ => ?_
    refine den_loop (fun m2 ys => ∃ (k : Nat) (o : List ByteArray), k + m2 = l.length ∧ a < k ∧ o.length = l.length ∧ Shuf o l ∧ Srt a o ∧ (∀ (q : Nat) x y, a < q → q < k → o[a]? = some x → o[q]? = some y → bl y x = false) ∧ ys = [i k, .sl (o.map .str)]) (l.length - (a + 1)) ⟨a + 1, o, by omega, by omega, ho, hsh, hsr, (fun q x y h1 h2 => by omega), rfl⟩ ?_
    clear hsh hsr ho h
    rintro m2 _ ⟨k, o, hk, hak, ho, hsh, hsr, hin, rfl⟩
    refine d_l _ (len_str o) fun _ => d_l (.bool (decide ((k : Int) < (o.length : Int)))) rfl fun _ => d_dec (p := (k : Int) < (o.length : Int)) (fun h => ?_) fun h => ?_
    · have hko : k < o.length := by omega
      have hao : a < o.length := by omega
      have ek := e_idx (n := 1) (a := false) (str_at hko) rfl
      have ea := e_idx (n := 1) (a := false) (str_at hao) rfl
      refine d_l _ ek fun _ => d_l _ ek fun _ => d_l _ ea fun _ => d_l _ ea fun _ => d_l (.bool (bl o[k] o[a])) rfl fun _ => d_ite (fun hb => ?_) fun hb => ?_
      · have u1 : (Prim.upd 1 false).ev [.sl (o.map .str), i (a : Int), .str o[k]] = some (.sl ((o.set a o[k]).map .str)) := by rw [e_updT (by simpa using hao) rfl, List.map_set]
        have u2 : (Prim.upd 1 false).ev [.sl ((o.set a o[k]).map .str), i (k : Int), .str o[a]] = some (.sl (((o.set a o[k]).set k o[a]).map .str)) := by
          rw [e_updT (by simpa using hko) rfl]
          simp only [List.map_set]
        have hks : k < (o.set a o[k]).length := by simpa using hko
        have ek2 := e_idx (n := 1) (a := false) (str_at hks) rfl
        refine d_l _ ek fun _ => d_l _ ek fun _ => d_l _ ea fun _ => d_l _ ea fun _ => d_l _ ea fun _ => d_l _ u1 fun _ => d_l _ ek2 fun _ => d_l _ u2 fun _ => d_l _ (e_inc (by omega)) fun _ => d_cont rfl ?_
        have hget := swap_at hao hko (by omega : a ≠ k)
        have oa : o[a]? = some o[a] := List.getElem?_eq_getElem hao
        have ok' : o[k]? = some o[k] := List.getElem?_eq_getElem hko
        have hol : ((o.set a o[k]).set k o[a]).length = l.length := by simpa using ho
        generalize o[k] = vk at *
        generalize o[a] = va at *
        generalize (o.set a vk).set k va = o' at *
        refine ⟨m2 - 1, by omega, k + 1, o', by omega, by omega, hol, ?_, ?_, ?_, rfl⟩
        · obtain ⟨σ, τ, g1, g2⟩ := hsh
          refine ⟨fun x => σ (if x = k then a else if x = a then k else x), fun x => (if τ x = k then a else if τ x = a then k else τ x), fun x => ⟨?_, ?_⟩, fun x => by rw [hget, g2]⟩
          · have : (if (if τ x = k then a else if τ x = a then k else τ x) = k then a else if (if τ x = k then a else if τ x = a then k else τ x) = a then k else (if τ x = k then a else if τ x = a then k else τ x)) = τ x := by
              split <;> (try split) <;> (try split) <;> omega
            show σ (if (if τ x = k then a else if τ x = a then k else τ x) = k then a else if (if τ x = k then a else if τ x = a then k else τ x) = a then k else (if τ x = k then a else if τ x = a then k else τ x)) = x
            rw [this]; exact (g1 x).1
          · have e := (g1 (if x = k then a else if x = a then k else x)).2
            simp only [e]
            split <;> (try split) <;> (try split) <;> omega
        · intro p q x y hp hpq hx hy
          rw [hget] at hx hy
          rw [if_neg (by omega), if_neg (by omega)] at hx
          by_cases e : q = k
          · rw [if_pos e] at hy
            exact hsr p a x y hp hp hx hy
          · rw [if_neg e] at hy
            by_cases e2 : q = a
            · rw [if_pos e2] at hy
              exact hsr p k x y hp (by omega) hx hy
            · rw [if_neg e2] at hy
              exact hsr p q x y hp hpq hx hy
        · intro q x y hq hqk hx hy
          rw [hget] at hx hy
          rw [if_neg (by omega), if_pos rfl, ok'] at hx
          cases hx
          by_cases e : q = k
          · rw [if_pos e, oa] at hy
            cases hy
            exact bl_asymm hb
          · rw [if_neg e, if_neg (by omega)] at hy
            have := hin q va y hq (by omega) oa hy
            cases c : bl y vk with
            | false => rfl
            | true => rw [bl_trans c hb] at this; cases this
      · refine d_l _ (e_inc (by omega)) fun _ => d_cont rfl ⟨m2 - 1, by omega, k + 1, o, by omega, by omega, ho, hsh, hsr, fun q x y hq hqk hx hy => ?_, rfl⟩
        by_cases e : q = k
        · subst e
          rw [List.getElem?_eq_getElem hao] at hx
          rw [List.getElem?_eq_getElem hko] at hy
          cases hx; cases hy
          exact hb
        · exact hin q x y hq (by omega) hx hy
    · refine d_l _ (e_inc (by omega)) fun _ => d_cont rfl ⟨m' - 1, by omega, a + 1, o, by omega, ho, hsh, fun p q x y hp hpq hx hy => ?_, rfl⟩
      by_cases e : p = a
      · subst e
        have := (List.getElem?_eq_some_iff.1 hy).1
        exact hin q x y hpq (by omega) hx hy
      · exact hsr p q x y (by omega) hpq hx hy)
  obtain ⟨_, ⟨o, rfl, h1, h2, h3⟩, h⟩ := this
  exact ⟨o, h, h1, h2, h3⟩

end Go.Proofs.YtopinhoalbgebaaGreatDoor.Tx

/- The reference's equality (2): what compare computes. -/
namespace Go.Proofs.YtopinhoalbgebaaGreatDoor.Tx
open Go.Lf Go.Lf.S Go.Lf.Duo
set_option maxRecDepth 100000

def ELoc (x y : Ty) : Prop := x.kind = y.kind ∧ x.prio = y.prio ∧ ∀ s, s ∈ x.labels ↔ s ∈ y.labels
def ERaw (x y : Ty) (w : Ty × Ty) : Prop := (x.labels = [] ∧ ∃ j : Nat, x.kids[j]? = some w.1 ∧ y.kids[j]? = some w.2) ∨ (x.labels ≠ [] ∧ ∃ s, LRaw x y s w)
/-- equal as trees -/
def EqP (p : Ty × Ty) : Prop := ∃ R : Ty × Ty → Prop, R p ∧ ∀ q, R q → ELoc (unfT q.1) (unfT q.2) ∧ ∀ w, ERaw (unfT q.1) (unfT q.2) w → R w
theorem EqP.step {p : Ty × Ty} (h : EqP p) : ELoc (unfT p.1) (unfT p.2) ∧ ∀ w, ERaw (unfT p.1) (unfT p.2) w → EqP w := by
  obtain ⟨R, h1, h2⟩ := h
  obtain ⟨h3, h4⟩ := h2 p h1
  exact ⟨h3, fun w hw => ⟨R, h4 w hw, h2⟩⟩

theorem ERaw.cl {L : List Ty} {M : Nat} {x y : Ty} (hx : ∀ k ∈ x.kids, CL L M k) (hy : ∀ k ∈ y.kids, CL L M k) {r : Ty × Ty} (h : ERaw x y r) : CL L M r.1 ∧ CL L M r.2 := by
  rcases h with ⟨_, j, e1, e2⟩ | ⟨_, s, i, j, _, _, e1, e2⟩
  · exact ⟨hx _ (List.mem_of_getElem? e1), hy _ (List.mem_of_getElem? e2)⟩
  · exact ⟨hx _ (List.mem_of_getElem? e1), hy _ (List.mem_of_getElem? e2)⟩

noncomputable def lx (p : Ty × Ty) : Ty × Ty := lw (unfT p.1, unfT p.2)
noncomputable def nu (a : Ty) : Ty := raiseT (-pz (unfT a)) (unfT a)
theorem raise_lit2 {M : Nat} {u : Ty} (h : Shp M u) (ha : act u.kind = false) (k : Int) : raiseT k u = u := by
  have h1 := h.k1
  simp only [act, decide_eq_false_iff_not] at ha
  have h3 := h.k3 (by omega)
  obtain ⟨kd, p, nm, s, ls, ks⟩ := u
  simp only [Ty.kind, Ty.kids] at h1 ha h3
  rw [raiseT_mk, if_neg ha, h3.1]; rfl
theorem unf_unf {T : Ty} (h : ∃ u, Unf T u) : unfT (unfT T) = unfT T := by
  obtain ⟨u, h⟩ := h
  rw [unfT_eq h, unfT_eq (unf_self h)]

theorem lx_nu {L : List Ty} {M : Nat} {a b : Ty} (ca : CL L M a) (cb : CL L M b) (σ τ : Int) (h : ELoc (unfT (raiseT σ a)) (unfT (raiseT τ b))) : lx (raiseT σ a, raiseT τ b) = (nu a, nu b) := by
  have ua : ∃ u, Unf a u := ⟨_, ca.unf.1⟩
  have ub : ∃ u, Unf b u := ⟨_, cb.unf.1⟩
  have sa := ca.unf.2.1
  have sb := cb.unf.2.1
  have uua : ∃ u, Unf (unfT a) u := ⟨_, unf_self ca.unf.1⟩
  rw [unfT_raise _ ua, unfT_raise _ ub] at h
  obtain ⟨h1, h2, _⟩ := h
  rw [raise_kind, raise_kind] at h1
  simp only [lx, lw, unfT_raise _ ua, unfT_raise _ ub, unfT_raise _ uua, unf_unf ua]
  unfold nu
  by_cases ha : act (unfT a).kind = true
  · have hb : act (unfT b).kind = true := by rw [← h1]; exact ha
    rw [raise_prio _ _ ha, raise_prio _ _ hb] at h2
    rw [pz_act ha, pz_act hb, pz_act (by rw [raise_kind]; exact ha), raise_prio _ _ ha, raise_raise, raise_raise]
    refine Prod.ext (raise_congr ?_ _) (raise_congr ?_ _)
    · rw [wrap_eq]
      have := wrap_mod ((unfT a).prio + σ)
      unfold ad; omega
    · rw [wrap_eq]
      unfold ad at h2 ⊢
      have g1 := wrap_mod ((unfT a).prio + σ)
      have g2 := wrap_mod ((unfT b).prio + τ)
      omega
  · have ha : act (unfT a).kind = false := by simpa using ha
    have hb : act (unfT b).kind = false := by rw [← h1]; exact ha
    simp only [raise_lit2 sa ha, raise_lit2 sb hb]
theorem ELoc.raise {x y : Ty} (h : ELoc x y) (k : Int) : ELoc (raiseT k x) (raiseT k y) := by
  obtain ⟨h1, h2, h3⟩ := h
  refine ⟨by rw [raise_kind, raise_kind]; exact h1, ?_, by rw [raise_labels, raise_labels]; exact h3⟩
  by_cases ha : act x.kind = true
  · rw [raise_prio _ _ ha, raise_prio _ _ (by rw [← h1]; exact ha), h2]
  · have e : ∀ t : Ty, act t.kind = false → (raiseT k t).prio = t.prio := fun t ht => by
      obtain ⟨kd, p, nm, s, ls, ks⟩ := t
      have ht : decide (4 ≤ kd ∧ kd ≤ 7) = false := ht
      rw [raiseT_mk, if_neg (of_decide_eq_false ht)]; rfl
    have ha : act x.kind = false := by simpa using ha
    rw [e x ha, e y (by rw [← h1]; exact ha)]; exact h2

def Don (l : List (Ty × Ty)) (p : Ty × Ty) : Prop := ELoc (unfT p.1) (unfT p.2) ∧ lx p ∈ l
def ClP (L : List Ty) (M : Nat) (l : List (Ty × Ty)) (q : Ty × Ty) : Prop := ∃ A B, CL L M A ∧ CL L M B ∧ q = lx (A, B) ∧ ∀ w, ERaw (unfT A) (unfT B) w → Don l w
theorem Don.mono {l l' : List (Ty × Ty)} (h : ∀ q ∈ l, q ∈ l') {p : Ty × Ty} (hd : Don l p) : Don l' p := ⟨hd.1, h _ hd.2⟩
theorem ClP.mono {L : List Ty} {M : Nat} {l l' : List (Ty × Ty)} (h : ∀ q ∈ l, q ∈ l') {p : Ty × Ty} (hd : ClP L M l p) : ClP L M l' p := by
  obtain ⟨A, B, h1, h2, h3, h4⟩ := hd
  exact ⟨A, B, h1, h2, h3, fun w hw => (h4 w hw).mono h⟩

theorem Don.raise {L : List Ty} {M : Nat} {l : List (Ty × Ty)} {A B : Ty} (hA : CL L M A) (hB : CL L M B) (k : Int) (h : Don l (A, B)) : Don l (raiseT k A, raiseT k B) := by
  obtain ⟨h1, h2⟩ := h
  have uA : ∃ u, Unf A u := ⟨_, hA.unf.1⟩
  have uB : ∃ u, Unf B u := ⟨_, hB.unf.1⟩
  have e : ELoc (unfT (raiseT k A)) (unfT (raiseT k B)) := by rw [unfT_raise k uA, unfT_raise k uB]; exact h1.raise k
  refine ⟨e, ?_⟩
  obtain ⟨σ, a, la, rfl, ca⟩ := hA.base
  obtain ⟨τ, b, lb, rfl, cb⟩ := hB.base
  rw [lx_nu ca cb σ τ h1] at h2
  rw [raise_raise, raise_raise] at e ⊢
  rw [lx_nu ca cb _ _ e]; exact h2

end Go.Proofs.YtopinhoalbgebaaGreatDoor.Tx

/- The reference's equality (3): it is that of the references that stand for the types. The law: offsets. -/
namespace Go.Proofs.YtopinhoalbgebaaGreatDoor.Tx
open Go.Lf Go.Lf.S Go.Lf.Duo
set_option maxRecDepth 100000

structure RtE (ds : List Nd) (a s : Int) (u : Ty) (x : Nd) : Prop where
  a0 : 0 ≤ a
  hx : ds[a.toNat]? = some x
  k : x.kind = u.kind
  p : act x.kind = true → ad x.prio s = u.prio
  l : x.labels = u.labels
  nl : x.next.length = u.kids.length
  dn : ∀ (j : Nat) (v : Rf) k, x.next[j]? = some v → u.kids[j]? = some k → RT ds ⟨v.node, ad v.shift s⟩ k
theorem RT.se {ds : List Nd} {a s : Int} {A : Ty} (h : RT ds ⟨a, s⟩ A) : ∃ x, RtE ds a s (unfT A) x := by
  obtain ⟨h0, u, d, h1, h2, h3, h4, h5, h6, h7⟩ := h.step
  rw [unfT_eq h1]
  exact ⟨d, h0, h2, h3, h4, h5, h6, h7⟩
theorem RtE.prN {ds : List Nd} {a s : Int} {u : Ty} {x : Nd} (h : RtE ds a s u x) : prN x s = pz u := by
  unfold Tx.prN pz
  rw [h.k]
  cases ha : act u.kind with
  | false => rfl
  | true => simp only [if_true]; exact h.p (by rw [h.k]; exact ha)

theorem same_set {l m : List ByteArray} (hl : l.Nodup) (hm : m.Nodup) (h : ∀ s, s ∈ l ↔ s ∈ m) : l.length = m.length := by
  have a := nodup_leU hl fun s hs => (h s).1 hs
  have b := nodup_leU hm fun s hs => (h s).2 hs
  omega
theorem set_same {l m : List ByteArray} (hl : l.Nodup) (hlen : l.length = m.length) (h : ∀ s ∈ l, s ∈ m) (s : ByteArray) : s ∈ l ↔ s ∈ m := by
  refine ⟨h s, fun hs => ?_⟩
  by_cases e : s ∈ l
  · exact e
  · have := nodup_leU (l := s :: l) (U := m) (by rw [List.nodup_cons]; exact ⟨e, hl⟩) fun x hx => by
      rcases List.mem_cons.1 hx with rfl | hx
      · exact hs
      · exact h x hx
    simp only [List.length_cons] at this
    omega

theorem eqP_eqv {L : List Ty} {M : Nat} {ds : List Nd} {a b s t : Int} {A B : Ty} (hA : CL L M A) (hB : CL L M B) (ra : RT ds ⟨a, s⟩ A) (rb : RT ds ⟨b, t⟩ B) : EqP (A, B) ↔ Eqv ds false (keyOf false a b s t) := by
  constructor
  · intro h
    refine eqv_of_pred (fun k => ∃ a b s t A B, RT ds ⟨a, s⟩ A ∧ RT ds ⟨b, t⟩ B ∧ CL L M A ∧ CL L M B ∧ EqP (A, B) ∧ k = keyOf false a b s t) ?_ ?_ ⟨a, b, s, t, A, B, ra, rb, hA, hB, h, rfl⟩
    · rintro k ⟨a, b, s, t, A, B, ra, rb, _, _, _, rfl⟩
      refine ⟨ra.step.1, rb.step.1, ?_⟩
      simp only [keyOf, Bool.false_eq_true, if_false]
      rw [wrap_eq]
      exact wrap_mod _
    · clear h ra rb hA hB
      rintro k ⟨a, b, s, t, A, B, ra, rb, hA, hB, h, rfl⟩
      obtain ⟨x, hx⟩ := ra.se
      obtain ⟨y, hy⟩ := rb.se
      obtain ⟨⟨e1, e2, e3⟩, hst⟩ := h.step
      have sA := hA.unf
      have sB := hB.unf
      simp only at e1 e2 e3 hst
      obtain ⟨hal, hxe⟩ := List.getElem?_eq_some_iff.1 hx.hx
      obtain ⟨hbl, hye⟩ := List.getElem?_eq_some_iff.1 hy.hx
      have ha0 := hx.a0
      have hb0 := hy.a0
      have hke : keyOf false a b s t = keyOf false (a.toNat : Int) (b.toNat : Int) s t := by rw [Int.toNat_of_nonneg ha0, Int.toNat_of_nonneg hb0]
      have hlen := same_set sA.2.1.nd sB.2.1.nd e3
      have hpz : pz (unfT A) = pz (unfT B) := by unfold pz; rw [e1, e2]
      refine ⟨?_, fun j hj => ?_⟩
      · rw [hke, loc_key hal hbl, hxe, hye]
        simp only [hx.k, hy.k, e1, hx.l, hy.l, hlen, hx.prN, hy.prN, hpz, decide_true, Bool.or_true, Bool.and_true]
      · have hj : j < x.next.length := by
          unfold arity at hj
          rw [show ds[(keyOf false a b s t).a.toNat]? = some x from hx.hx] at hj; exact hj
        have hjk : j < (unfT A).kids.length := by have := hx.nl; omega
        have hu := List.getElem?_eq_getElem hj
        have hk := List.getElem?_eq_getElem hjk
        have rt1 := hx.dn j _ _ hu hk
        have fin : ∀ (q : Nat) v k', y.next[q]? = some v → (unfT B).kids[q]? = some k' → Sel x y j q → ERaw (unfT A) (unfT B) ((unfT A).kids[j], k') → ∃ k'', Nx ds false (keyOf false a b s t) j k'' ∧ ∃ a b s t A B, RT ds ⟨a, s⟩ A ∧ RT ds ⟨b, t⟩ B ∧ CL L M A ∧ CL L M B ∧ EqP (A, B) ∧ k'' = keyOf false a b s t := by
          intro q v k' hv hk' hs hraw
          refine ⟨_, ⟨x, y, hx.hx, hy.hx, _, v, q, hu, hv, hs, rfl⟩, _, _, _, _, _, _, rt1, hy.dn q v k' hv hk', sA.2.2 _ (List.mem_of_getElem? hk), sB.2.2 _ (List.mem_of_getElem? hk'), hst _ hraw, ?_⟩
          exact (key_next false x.next[j] v a b s t).symm
        by_cases hl0 : (unfT A).labels = []
        · have hyl : (unfT B).kids.length = (unfT A).kids.length := by
            have k1 := sA.2.1.k1
            have a3 := sA.2.1.k3; have a5 := sA.2.1.k5; have a7 := sA.2.1.k7
            have b5 := sB.2.1.k5; have b7 := sB.2.1.k7
            have z : (unfT A).labels.length = 0 := by rw [hl0]; rfl
            by_cases c3 : (unfT A).kind ≤ 3
            · have := (a3 c3).1; rw [this] at hjk; simp at hjk
            · by_cases c5 : (unfT A).kind ≤ 5
              · have := (a5 ⟨by omega, c5⟩).1
                have := (b5 ⟨by omega, by omega⟩).1
                omega
              · have := a7 ⟨by omega, k1.2⟩
                omega
          have hjb : j < (unfT B).kids.length := by omega
          have hjy : j < y.next.length := by have := hy.nl; omega
          refine fin j _ _ (List.getElem?_eq_getElem hjy) (List.getElem?_eq_getElem hjb) ?_ (.inl ⟨hl0, j, hk, List.getElem?_eq_getElem hjb⟩)
          unfold Sel
          rw [if_neg (by rw [hx.l, hl0]; simp)]
        · have k1 := sA.2.1.k1
          have hk67 : 6 ≤ (unfT A).kind ∧ (unfT A).kind ≤ 7 := by
            refine ⟨?_, k1.2⟩
            by_cases c3 : (unfT A).kind ≤ 3
            · exact absurd (sA.2.1.k3 c3).2.1 hl0
            · by_cases c5 : (unfT A).kind ≤ 5
              · exact absurd (sA.2.1.k5 ⟨by omega, c5⟩).2 hl0
              · omega
          have a7 := sA.2.1.k7 hk67
          have b7 := sB.2.1.k7 (by rw [← e1]; exact hk67)
          have hjl : j < (unfT A).labels.length := by omega
          have hlt := List.getElem?_eq_getElem hjl
          obtain ⟨q, hq, hqs⟩ := List.getElem_of_mem ((e3 _).1 (List.getElem_mem hjl))
          have hq' : (unfT B).labels[q]? = some (unfT A).labels[j] := by rw [List.getElem?_eq_getElem hq, hqs]
          have hqb : q < (unfT B).kids.length := by omega
          have hqy : q < y.next.length := by have := hy.nl; omega
          refine fin q _ _ (List.getElem?_eq_getElem hqy) (List.getElem?_eq_getElem hqb) ?_ (.inr ⟨hl0, _, j, q, hlt, hq', hk, List.getElem?_eq_getElem hqb⟩)
          unfold Sel
          rw [if_pos (by rw [hx.l]; omega)]
          refine ⟨_, by rw [hx.l]; exact hlt, by rw [hy.l]; exact hq', fun p hp hc => ?_⟩
          rw [hy.l] at hc
          have := nodup_at sB.2.1.nd hc hq'
          omega
  · intro h
    refine ⟨fun q => ∃ a b s t, CL L M q.1 ∧ CL L M q.2 ∧ RT ds ⟨a, s⟩ q.1 ∧ RT ds ⟨b, t⟩ q.2 ∧ Eqv ds false (keyOf false a b s t), ⟨a, b, s, t, hA, hB, ra, rb, h⟩, ?_⟩
    clear h ra rb hA hB
    rintro ⟨A, B⟩ ⟨a, b, s, t, hA, hB, ra, rb, K, hK, hk⟩
    simp only at hA hB ra rb
    obtain ⟨x, hx⟩ := ra.se
    obtain ⟨y, hy⟩ := rb.se
    have sA := hA.unf
    have sB := hB.unf
    obtain ⟨hal, hxe⟩ := List.getElem?_eq_some_iff.1 hx.hx
    obtain ⟨hbl, hye⟩ := List.getElem?_eq_some_iff.1 hy.hx
    have ha0 := hx.a0
    have hb0 := hy.a0
    obtain ⟨hloc, hnx⟩ := hK _ hk
    have hke : keyOf false a b s t = keyOf false (a.toNat : Int) (b.toNat : Int) s t := by rw [Int.toNat_of_nonneg ha0, Int.toNat_of_nonneg hb0]
    rw [hke, loc_key hal hbl, hxe, hye, hx.prN, hy.prN, hx.k, hy.k, hx.l, hy.l] at hloc
    simp only [Bool.false_or, Bool.and_eq_true, decide_eq_true_eq] at hloc
    obtain ⟨⟨e1, elen⟩, epz⟩ := hloc
    have har : arity ds (keyOf false a b s t) = (unfT A).kids.length := by
      unfold arity
      rw [show ds[(keyOf false a b s t).a.toNat]? = some x from hx.hx, ← hx.nl]
    rw [har] at hnx
    -- what a rest gives
    have nx : ∀ j, j < (unfT A).kids.length → ∃ (q : Nat) (u v : Rf), x.next[j]? = some u ∧ y.next[q]? = some v ∧ Sel x y j q ∧ Eqv ds false (keyOf false u.node v.node (ad u.shift s) (ad v.shift t)) := fun j hj => by
      obtain ⟨k', ⟨x', y', g1, g2, u, v, q, g3, g4, g5, rfl⟩, hm⟩ := hnx j hj
      have g1 : ds[a.toNat]? = some x' := g1
      have g2 : ds[b.toNat]? = some y' := g2
      rw [hx.hx] at g1; cases g1
      rw [hy.hx] at g2; cases g2
      exact ⟨q, u, v, g3, g4, g5, K, hK, by rw [key_next false u v a b s t]; exact hm⟩
    have hk67 : (unfT A).labels ≠ [] → (unfT A).kids.length = (unfT A).labels.length := fun hl0 => by
      have k1 := sA.2.1.k1
      refine sA.2.1.k7 ⟨?_, k1.2⟩
      by_cases c3 : (unfT A).kind ≤ 3
      · exact absurd (sA.2.1.k3 c3).2.1 hl0
      · by_cases c5 : (unfT A).kind ≤ 5
        · exact absurd (sA.2.1.k5 ⟨by omega, c5⟩).2 hl0
        · omega
    have hset : ∀ st, st ∈ (unfT A).labels ↔ st ∈ (unfT B).labels := set_same sA.2.1.nd elen fun st hst => by
      obtain ⟨j, hj, rfl⟩ := List.getElem_of_mem hst
      have hne : (unfT A).labels ≠ [] := fun e => by have hj' := hj; rw [e] at hj'; simp at hj'
      obtain ⟨q, u, v, g3, g4, g5, _⟩ := nx j (by rw [hk67 hne]; exact hj)
      unfold Sel at g5
      rw [if_pos (by rw [hx.l]; omega)] at g5
      obtain ⟨s', f1, f2, _⟩ := g5
      rw [hx.l, List.getElem?_eq_getElem hj] at f1
      cases f1
      rw [hy.l] at f2
      exact List.mem_of_getElem? f2
    have epr : (unfT A).prio = (unfT B).prio := by
      by_cases ha : act (unfT A).kind = true
      · rw [pz_act ha, pz_act (by rw [← e1]; exact ha)] at epz; exact epz
      · have hk3 : (unfT A).kind ≤ 3 := by
          simp only [act, decide_eq_true_eq] at ha
          have := sA.2.1.k1
          omega
        rw [(sA.2.1.k3 hk3).2.2, (sB.2.1.k3 (by omega)).2.2]
    refine ⟨⟨e1, epr, hset⟩, fun w hw => ?_⟩
    have hcl := hw.cl sA.2.2 sB.2.2
    rcases hw with ⟨g0, j, f1, f2⟩ | ⟨g0, st, i0, j0, f1, f2, f3, f4⟩
    · have g0 : (unfT A).labels = [] := g0
      obtain ⟨q, u, v, g3, g4, g5, g6⟩ := nx j (List.getElem?_eq_some_iff.1 f1).1
      unfold Sel at g5
      rw [if_neg (by rw [hx.l, g0]; simp)] at g5
      subst g5
      exact ⟨_, _, _, _, hcl.1, hcl.2, hx.dn q u _ g3 f1, hy.dn q v _ g4 f2, g6⟩
    · obtain ⟨q, u, v, g3, g4, g5, g6⟩ := nx i0 (List.getElem?_eq_some_iff.1 f3).1
      have hil : i0 < (unfT A).labels.length := (List.getElem?_eq_some_iff.1 f1).1
      unfold Sel at g5
      rw [if_pos (by rw [hx.l]; omega)] at g5
      obtain ⟨s', h1, h2, _⟩ := g5
      rw [hx.l] at h1
      rw [hy.l] at h2
      have f1 : (unfT A).labels[i0]? = some st := f1
      rw [f1] at h1; cases h1
      obtain rfl := nodup_at sB.2.1.nd h2 f2
      exact ⟨_, _, _, _, hcl.1, hcl.2, hx.dn i0 u _ g3 f3, hy.dn q v _ g4 f4, g6⟩

/-! offsets -/
def pv (o : Option Int) : Int := o.getD 0
theorem eqRf {ds : List Nd} (hg : GrOk' ds) {r r' : Rf} (h0 : 0 ≤ r.node) (h1 : r.node < ds.length) (h0' : 0 ≤ r'.node) (h1' : r'.node < ds.length) :
    ∃ b, Ok P F.equal_Equal [.agg [.sl (ds.map Nd.enc)], r.enc, r'.enc] (.bool b) ∧ (b = true ↔ Eqv ds false (keyOf false r.node r'.node r.shift r'.shift)) := by
  have := ok_equal_Equal hg (a := r.node.toNat) (b := r'.node.toNat) (by omega) (by omega) r.shift r'.shift
  rw [Int.toNat_of_nonneg h0, Int.toNat_of_nonneg h0'] at this
  exact this
theorem ok_Offset {ds : List Nd} (hg : GrOk' ds) {r r' : Rf} (h0 : 0 ≤ r.node) (h1 : r.node < ds.length) (h0' : 0 ≤ r'.node) (h1' : r'.node < ds.length) {d : Int} (hd : d = IntKind.i64.wrap (pv (pr ds r') - pv (pr ds r))) :
    ∃ b, Ok P F.equal_Offset [.agg [.sl (ds.map Nd.enc)], r.enc, r'.enc] (.tup [i (if b then d else 0), .bool b]) ∧ (b = true ↔ Eqv ds false (keyOf false r.node r'.node (ad r.shift d) r'.shift)) := by
  have g : ∀ r : Rf, InG ds r → ∃ (z : Int) (b' : Bool), Ok P F.head_Prio [.agg [.sl (ds.map Nd.enc)], r.enc] (.tup [i z, .bool b']) ∧ z = pv (pr ds r) := fun r h => by
    have h := ok_head_Prio' h
    cases e : pr ds r with
    | none => rw [e] at h; exact ⟨0, false, h, rfl⟩
    | some p => rw [e] at h; exact ⟨p, true, h, rfl⟩
  obtain ⟨z1, b1, p1, f1⟩ := g r ⟨h0, h1⟩
  obtain ⟨z2, b2, p2, f2⟩ := g r' ⟨h0', h1'⟩
  have hr : Ok P F.head_Raise [r.enc, i d] (⟨r.node, ad r.shift d⟩ : Rf).enc := ok_head_Raise r.node r.shift d
  obtain ⟨b, ob, cb⟩ := eqRf hg (r := ⟨r.node, ad r.shift d⟩) (r' := r') h0 h1 h0' h1'
  refine ⟨b, ?_, cb⟩
  have hoff : Ok P F.equal_offset [i d, .bool b] (.tup [i (if b then d else 0), .bool b]) := by
    refine k_equal_offset _ _ rfl ?_
    cases b with
    | true => exact d_l (.bool false) rfl fun _ => d_false (d_ret rfl)
    | false => exact d_l (.bool true) rfl fun _ => d_true (d_ret rfl)
  rw [← f1, ← f2] at hd
  have hs : (Prim.arith .sub .i64).ev [i z2, i z1] = some (i d) := by rw [hd]; rfl
  exact k_equal_Offset _ _ rfl (d_l (.agg [.sl (ds.map Nd.enc)]) rfl fun _ => d_l r.enc rfl fun _ => d_l r'.enc rfl fun _ => d_call p1 (d_l (i z1) rfl fun _ => d_l (.bool b1) rfl fun _ => d_call p2 (d_l (i z2) rfl fun _ => d_l (.bool b2) rfl fun _ => d_l _ hs fun _ => d_l _ hs fun _ => d_call hr (d_call ob (d_call hoff (d_l (i (if b then d else 0)) rfl fun _ => d_l (.bool b) rfl fun _ => d_ret rfl))))))

theorem pv_rt {ds : List Nd} {a s : Int} {A : Ty} (h : RT ds ⟨a, s⟩ A) : pv (pr ds ⟨a, s⟩) = pz (unfT A) := by
  obtain ⟨x, hx⟩ := h.se
  rw [← hx.prN]
  unfold pv pr Tx.prN
  rw [show ds[(⟨a, s⟩ : Rf).node.toNat]? = some x from hx.hx]
  simp only
  split <;> rfl
end Go.Proofs.YtopinhoalbgebaaGreatDoor.Tx

/- The law: offsets. -/
namespace Go.Proofs.YtopinhoalbgebaaGreatDoor.Tx
open Go.Lf Go.Lf.S Go.Lf.Duo
set_option maxRecDepth 100000

theorem cl_topE {L : List Ty} {M : Nat} {t : Ty} (h : Wf t [] 0) (hz : t.sz ≤ M) (hL : ∀ x ∈ occL [] [] t, x ∈ L) : CL L M t := by
  have hp : Pl (nodesF t 0 [] []) 0 (nodesF t 0 [] []) := ⟨Int.le_refl _, fun q hq => by
    show (nodesF t 0 [] [])[(0 : Int).toNat + q]? = _
    rw [show (0 : Int).toNat + q = q by simp]
    exact List.getElem?_eq_getElem hq⟩
  have e : lkT [] [] = noE := by funext y; rfl
  exact ⟨_, _, 0, t, 0, [], [], [], 0, .top t 0 h hp hL (Wf.lm t [] 0 _ h hz), rfl, by rw [raise0_sub h, e, sub_id]⟩

end Go.Proofs.YtopinhoalbgebaaGreatDoor.Tx

/- The reference's equality (1): lists of labels in order. -/
import Derived.Test.YtopinhoalbgebaaGreatDoorWk122
import Derived.Lib.Strings
set_option linter.all false
namespace Go.Proofs.YtopinhoalbgebaaGreatDoor.Tx
open Go.Lf Go.Lf.S Go.Lf.Duo
set_option maxRecDepth 100000

theorem bytes_lt : ∀ (x y : List UInt8), Op.bytesLess x y = decide (x < y)
  | [], [] => by simp [Op.bytesLess]
  | _ :: _, [] => by simp [Op.bytesLess]
  | [], _ :: _ => by simp [Op.bytesLess]
  | a :: x, b :: y => by
    rw [Op.bytesLess, bytes_lt x y]
    simp only [List.cons_lt_cons_iff]
    by_cases h1 : a < b <;> by_cases h2 : a = b <;> by_cases h3 : x < y <;> simp [h1, h2, h3]
def bl (x y : ByteArray) : Bool := Op.bytesLess x.toList y.toList
theorem bl_iff {x y : ByteArray} : bl x y = true ↔ x.toList < y.toList := by unfold bl; rw [bytes_lt, decide_eq_true_iff]
theorem bl_asymm {x y : ByteArray} (h : bl x y = true) : bl y x = false := by
  cases e : bl y x with
  | false => rfl
  | true => exact absurd (List.lt_trans (bl_iff.1 h) (bl_iff.1 e)) (List.lt_irrefl _)
theorem bl_trans {x y z : ByteArray} (h : bl x y = true) (h2 : bl y z = true) : bl x z = true := bl_iff.2 (List.lt_trans (bl_iff.1 h) (bl_iff.1 h2))
theorem bl_total {x y : ByteArray} (h : bl x y = false) (h2 : bl y x = false) : x = y := by
  have e : x.toList = y.toList := by
    have a : ¬ x.toList < y.toList := fun c => by rw [bl_iff.2 c] at h; cases h
    have b : ¬ y.toList < x.toList := fun c => by rw [bl_iff.2 c] at h2; cases h2
    exact List.le_antisymm (List.not_lt.1 b) (List.not_lt.1 a)
  rw [Lib.toList_data, Lib.toList_data] at e
  exact ByteArray.ext (Array.toList_inj.1 e)

def Srt (m : Nat) (o : List ByteArray) : Prop := ∀ (p q : Nat) x y, p < m → p < q → o[p]? = some x → o[q]? = some y → bl y x = false
def Shuf (o l : List ByteArray) : Prop := ∃ σ τ : Nat → Nat, (∀ x, σ (τ x) = x ∧ τ (σ x) = x) ∧ ∀ x : Nat, o[x]? = l[σ x]?
theorem Shuf.mem {o l : List ByteArray} (h : Shuf o l) (s : ByteArray) : s ∈ o ↔ s ∈ l := by
  obtain ⟨σ, τ, h1, h2⟩ := h
  rw [List.mem_iff_getElem?, List.mem_iff_getElem?]
  constructor
  · rintro ⟨x, hx⟩
    exact ⟨σ x, by rw [← h2]; exact hx⟩
  · rintro ⟨x, hx⟩
    exact ⟨τ x, by rw [h2, (h1 x).1]; exact hx⟩
theorem Shuf.nodup {o l : List ByteArray} (h : Shuf o l) (hn : l.Nodup) : o.Nodup := by
  obtain ⟨σ, τ, h1, h2⟩ := h
  rw [List.Nodup, List.pairwise_iff_getElem]
  intro i j hi hj hij hee
  have he : o[i]? = o[j]? := by rw [List.getElem?_eq_getElem hi, List.getElem?_eq_getElem hj, hee]
  rw [h2, h2] at he
  have hjl : σ j < l.length := by
    have : o[j]? ≠ none := by rw [List.getElem?_eq_getElem hj]; simp
    rw [h2] at this
    rcases Nat.lt_or_ge (σ j) l.length with h | h
    · exact h
    · exact absurd (List.getElem?_eq_none h) this
  have hil : σ i < l.length := by
    rcases Nat.lt_or_ge (σ i) l.length with h | h
    · exact h
    · rw [List.getElem?_eq_none h, List.getElem?_eq_getElem hjl] at he; cases he
  rw [List.getElem?_eq_getElem hil, List.getElem?_eq_getElem hjl] at he
  have : σ i = σ j := nodup_at hn (List.getElem?_eq_getElem hil) (by rw [List.getElem?_eq_getElem hjl, Option.some.inj he])
  have : τ (σ i) = τ (σ j) := by rw [this]
  rw [(h1 i).2, (h1 j).2] at this
  omega
theorem sorted_eq {l m o1 o2 : List ByteArray} (hl : l.Nodup) (hm : m.Nodup) (h1 : Shuf o1 l) (s1 : Srt o1.length o1) (h2 : Shuf o2 m) (s2 : Srt o2.length o2) : o1 = o2 ↔ ∀ s, s ∈ l ↔ s ∈ m := by
  constructor
  · intro e s
    rw [← h1.mem, ← h2.mem, e]
  · intro h
    have pw : ∀ {o : List ByteArray}, Srt o.length o → o.Pairwise fun a b => bl b a = false := fun {o} hs => by
      rw [List.pairwise_iff_getElem]
      intro i j hi hj hij
      exact hs i j _ _ hi hij (List.getElem?_eq_getElem hi) (List.getElem?_eq_getElem hj)
    refine List.Perm.eq_of_pairwise (le := fun a b => bl b a = false) (fun a b _ _ g1 g2 => bl_total g2 g1) (pw s1) (pw s2) ?_
    rw [List.perm_ext_iff_of_nodup (h1.nodup hl) (h2.nodup hm)]
    intro s
    rw [h1.mem, h2.mem]; exact h s

theorem swap_at {α : Type} {o : List α} {a k : Nat} (ha : a < o.length) (hk : k < o.length) (hak : a ≠ k) (x : Nat) : ((o.set a o[k]).set k o[a])[x]? = o[if x = k then a else if x = a then k else x]? := by
  by_cases e : x = k
  · subst e
    rw [if_pos rfl, List.getElem?_set_self (by simpa using hk), List.getElem?_eq_getElem ha]
  · rw [if_neg e, List.getElem?_set_ne (by omega)]
    by_cases e2 : x = a
    · subst e2
      rw [if_pos rfl, List.getElem?_set_self ha, List.getElem?_eq_getElem hk]
    · rw [if_neg e2, List.getElem?_set_ne (by omega)]

theorem ok_Sorted (l : List ByteArray) (hl : l.length ≤ 549755813888) : ∃ o, Ok P F.ref08_Sorted [.sl (l.map .str)] (.sl (o.map .str)) ∧ o.length = l.length ∧ Shuf o l ∧ Srt o.length o := by
  have := tx_ex (K := fun x => ∃ o, x = .sl (o.map .str) ∧ o.length = l.length ∧ Shuf o l ∧ Srt o.length o) k_ref08_Sorted (xs := [.sl (l.map .str)]) rfl (by simp [t_ref08_Sorted, T.dt]) (by
    refine d_l (.sl []) rfl fun _ => d_l (.sl (l.map .str)) (by
      show (Prim.app 1 false 16).ev [.sl [], .sl (l.map .str)] = _
      rw [e_app (all_map okc_str l) (by simp; omega) (by simp; omega)]; rfl) fun _ => ?_
    refine den_loop (fun m' ys => ∃ (a : Nat) (o : List ByteArray), a + m' = l.length ∧ o.length = l.length ∧ Shuf o l ∧ Srt a o ∧ ys = [i a, .sl (o.map .str)]) l.length ⟨0, l, by omega, rfl, ⟨id, id, fun x => ⟨rfl, rfl⟩, fun x => rfl⟩, fun p q x y h => by omega, rfl⟩ ?_
    rintro m' _ ⟨a, o, ha, ho, hsh, hsr, rfl⟩
    refine d_l _ (len_str o) fun _ => d_l (.bool (decide ((a : Int) < (o.length : Int)))) rfl fun _ => d_dec (p := (a : Int) < (o.length : Int)) (fun h => ?_) fun h => d_ret ⟨o, rfl, ho, hsh, by rw [show o.length = a by omega]; exact hsr⟩
    have hal : a < l.length := by omega
    refine d_l _ (e_inc (by omega)) fun _ => ?_
    refine den_loop (fun m2 ys => ∃ (k : Nat) (o : List ByteArray), k + m2 = l.length ∧ a < k ∧ o.length = l.length ∧ Shuf o l ∧ Srt a o ∧ (∀ (q : Nat) x y, a < q → q < k → o[a]? = some x → o[q]? = some y → bl y x = false) ∧ ys = [i k, .sl (o.map .str)]) (l.length - (a + 1)) ⟨a + 1, o, by omega, by omega, ho, hsh, hsr, (fun q x y h1 h2 => by omega), rfl⟩ ?_
    clear hsh hsr ho h
    rintro m2 _ ⟨k, o, hk, hak, ho, hsh, hsr, hin, rfl⟩
    refine d_l _ (len_str o) fun _ => d_l (.bool (decide ((k : Int) < (o.length : Int)))) rfl fun _ => d_dec (p := (k : Int) < (o.length : Int)) (fun h => ?_) fun h => ?_
    · have hko : k < o.length := by omega
      have hao : a < o.length := by omega
      have ek := e_idx (n := 1) (a := false) (str_at hko) rfl
      have ea := e_idx (n := 1) (a := false) (str_at hao) rfl
      refine d_l _ ek fun _ => d_l _ ek fun _ => d_l _ ea fun _ => d_l _ ea fun _ => d_l (.bool (bl o[k] o[a])) rfl fun _ => d_ite (fun hb => ?_) fun hb => ?_
      · have u1 : (Prim.upd 1 false).ev [.sl (o.map .str), i (a : Int), .str o[k]] = some (.sl ((o.set a o[k]).map .str)) := by rw [e_updT (by simpa using hao) rfl, List.map_set]
        have u2 : (Prim.upd 1 false).ev [.sl ((o.set a o[k]).map .str), i (k : Int), .str o[a]] = some (.sl (((o.set a o[k]).set k o[a]).map .str)) := by
          rw [e_updT (by simpa using hko) rfl]
          simp only [List.map_set]
        have hks : k < (o.set a o[k]).length := by simpa using hko
        have ek2 := e_idx (n := 1) (a := false) (str_at hks) rfl
        refine d_l _ ek fun _ => d_l _ ek fun _ => d_l _ ea fun _ => d_l _ ea fun _ => d_l _ ea fun _ => d_l _ u1 fun _ => d_l _ ek2 fun _ => d_l _ u2 fun _ => d_l _ (e_inc (by omega)) fun _ => d_cont rfl ?_
        have hget := swap_at hao hko (by omega : a ≠ k)
        have oa : o[a]? = some o[a] := List.getElem?_eq_getElem hao
        have ok' : o[k]? = some o[k] := List.getElem?_eq_getElem hko
        have hol : ((o.set a o[k]).set k o[a]).length = l.length := by simpa using ho
        generalize o[k] = vk at *
        generalize o[a] = va at *
        generalize (o.set a vk).set k va = o' at *
        refine ⟨m2 - 1, by omega, k + 1, o', by omega, by omega, hol, ?_, ?_, ?_, rfl⟩
        · obtain ⟨σ, τ, g1, g2⟩ := hsh
          refine ⟨fun x => σ (if x = k then a else if x = a then k else x), fun x => (if τ x = k then a else if τ x = a then k else τ x), fun x => ⟨?_, ?_⟩, fun x => by rw [hget, g2]⟩
          · have : (if (if τ x = k then a else if τ x = a then k else τ x) = k then a else if (if τ x = k then a else if τ x = a then k else τ x) = a then k else (if τ x = k then a else if τ x = a then k else τ x)) = τ x := by
              split <;> (try split) <;> (try split) <;> omega
            show σ (if (if τ x = k then a else if τ x = a then k else τ x) = k then a else if (if τ x = k then a else if τ x = a then k else τ x) = a then k else (if τ x = k then a else if τ x = a then k else τ x)) = x
            rw [this]; exact (g1 x).1
          · have e := (g1 (if x = k then a else if x = a then k else x)).2
            simp only [e]
            split <;> (try split) <;> (try split) <;> omega
        · intro p q x y hp hpq hx hy
          rw [hget] at hx hy
          rw [if_neg (by omega), if_neg (by omega)] at hx
          by_cases e : q = k
          · rw [if_pos e] at hy
            exact hsr p a x y hp hp hx hy
          · rw [if_neg e] at hy
            by_cases e2 : q = a
            · rw [if_pos e2] at hy
              exact hsr p k x y hp (by omega) hx hy
            · rw [if_neg e2] at hy
              exact hsr p q x y hp hpq hx hy
        · intro q x y hq hqk hx hy
          rw [hget] at hx hy
          rw [if_neg (by omega), if_pos rfl, ok'] at hx
          cases hx
          by_cases e : q = k
          · rw [if_pos e, oa] at hy
            cases hy
            exact bl_asymm hb
          · rw [if_neg e, if_neg (by omega)] at hy
            have := hin q va y hq (by omega) oa hy
            cases c : bl y vk with
            | false => rfl
            | true => rw [bl_trans c hb] at this; cases this
      · refine d_l _ (e_inc (by omega)) fun _ => d_cont rfl ⟨m2 - 1, by omega, k + 1, o, by omega, by omega, ho, hsh, hsr, fun q x y hq hqk hx hy => ?_, rfl⟩
        by_cases e : q = k
        · subst e
          rw [List.getElem?_eq_getElem hao] at hx
          rw [List.getElem?_eq_getElem hko] at hy
          cases hx; cases hy
          exact hb
        · exact hin q x y hq (by omega) hx hy
    · refine d_l _ (e_inc (by omega)) fun _ => d_cont rfl ⟨m' - 1, by omega, a + 1, o, by omega, ho, hsh, fun p q x y hp hpq hx hy => ?_, rfl⟩
      by_cases e : p = a
      · subst e
        have := (List.getElem?_eq_some_iff.1 hy).1
        exact hin q x y hpq (by omega) hx hy
      · exact hsr p q x y (by omega) hpq hx hy)
  obtain ⟨_, ⟨o, rfl, h1, h2, h3⟩, h⟩ := this
  exact ⟨o, h, h1, h2, h3⟩

end Go.Proofs.YtopinhoalbgebaaGreatDoor.Tx

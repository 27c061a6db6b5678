/- Right programs have short lists; Right of the reference; the law: pruning twice. -/
import Derived.Test.YtbfjpjllaibooaaGreatWk139
import Derived.Test.YtbfjpjllaibooaaGreatDAwake27
set_option linter.all false
namespace Go.Proofs.YtbfjpjllaibooaaGreat.Tx
open Go.Lf Go.Lf.S Go.Lf.Duo
set_option maxRecDepth 100000

theorem nodeEs_all : ∀ {l : List Ty} {pay : Bool} {ns : List ByteArray} {g : Nat}, nodeEs l pay ns g = 0 → ∀ t ∈ l, ∃ b, nodeE t ns g b = 0
  | [], _, _, _, _, t, h => by cases h
  | x :: r, pay, ns, g, h, t, ht => by
    rw [nodeEs_cons] at h
    by_cases e : nodeE x ns g (!pay) ≠ 0
    · rw [if_pos e] at h; exact absurd h e
    · rw [if_neg e] at h
      rcases List.mem_cons.1 ht with rfl | ht
      · exact ⟨_, Classical.not_not.1 e⟩
      · exact nodeEs_all h t ht
theorem tln_node : ∀ (t : Ty) (ns : List ByteArray) (g : Nat) (b : Bool), t.sz ≤ 549755813888 → nodeE t ns g b = 0 → TLn t := by
  intro t
  induction t using Ty.ind with
  | _ t ih =>
  intro ns g b hz h
  obtain ⟨k, p, nm, s, ls, ks⟩ := t
  have ih : ∀ x ∈ ks, ∀ (ns : List ByteArray) (g : Nat) (b : Bool), x.sz ≤ 549755813888 → nodeE x ns g b = 0 → TLn x := ih
  have hkz : ks.length ≤ 549755813888 := by
    have := szs_len ks
    simp only [Ty.sz] at hz
    omega
  have hkx : ∀ x ∈ ks, x.sz ≤ 549755813888 := fun x hx => by have := Ty.sz_kid (t := .mk k p nm s ls ks) (k := x) hx; omega
  simp only [nodeE] at h
  split at h
  · cases h
  · rename_i hc
    simp only [Bool.or_eq_true, not_or, pb_iff, Classical.not_not] at hc
    have hs := hc.1
    have hll : ls.length = 0 ∨ ls.length = ks.length := by
      unfold shP at hs
      rcases hs with hs | hs | hs | hs | hs | hs | hs | hs | hs
      · exact .inl hs.2.2.2.2.1
      · exact .inl hs.2.2.2.2.1
      · exact .inl hs.2.2.2.2.1
      · exact .inl hs.2.2.2.2.1
      · exact .inl hs.2.2.2.2.1
      · exact .inr hs.2.2.2.2.2.2.symm
      · exact .inr hs.2.2.2.2.2.2.symm
      · exact .inl hs.2.2.2.2.1
      · exact .inl hs.2.2.2.2.1
    refine .mk _ (by show ls.length ≤ _; omega) hkz fun x hx => ?_
    have hx : x ∈ ks := hx
    split at h
    · rename_i h9
      have : ks.length = 0 := by
        unfold shP at hs
        rcases hs with hs | hs | hs | hs | hs | hs | hs | hs | hs <;> omega
      rw [List.eq_nil_of_length_eq_zero this] at hx; cases hx
    · obtain ⟨b', hb'⟩ := nodeEs_all h x hx
      exact ih x hx _ _ _ (hkx x hx) hb'
theorem tln_right {t : Ty} (h : rightE t = 0) : TLn t := by
  unfold rightE at h
  split at h
  · cases h
  · rename_i hc
    exact tln_node t _ _ _ (by omega) h

theorem pln_of {p : Pg} (hpar : ∀ d ∈ p.defs, d.params.length ≤ 20) : ∀ (x : Pr) (sc : List ByteArray) (g : Bool), x.sz ≤ 1000000 → NodesP x → N06 p x sc g → PLn x := by
  intro x
  induction x using Pr.ind with
  | _ x ih =>
  intro sc g hz hn h
  obtain ⟨⟨hv, hb⟩, hk⟩ := nodesP_iff.1 hn
  obtain ⟨k, ch, v, ls, ar, t, ks⟩ := x
  have ih : ∀ y ∈ ks, ∀ (sc : List ByteArray) (g : Bool), y.sz ≤ 1000000 → NodesP y → N06 p y sc g → PLn y := ih
  simp only [N06, N06s_iff] at h
  have hkl : ks.length ≤ 1000000 := by
    have := pr_len ks
    simp only [Pr.sz] at hz
    omega
  have hz0 : TLn zeroTy := .mk _ (by simp [zeroTy, Ty.labels]) (by simp [zeroTy, Ty.kids]) fun y hy => by simp [zeroTy, Ty.kids] at hy
  have hkk : ∀ y ∈ ks, PLn y := fun y hy => ih y hy _ _ (by have := Pr.sz_kid (p := .mk k ch v ls ar t ks) (k := y) hy; omega) (hk y hy) (h.2.2.2.2 y hy)
  have fin : ls.length ≤ 1000000 → ar.length ≤ 1000000 → TLn t → PLn (.mk k ch v ls ar t ks) := fun a b c => .mk _ (by show ls.length ≤ _; omega) (by show ar.length ≤ _; omega) (by show ks.length ≤ _; omega) c hkk
  unfold bodP at hb
  simp only [Pr.kind, Pr.chan, Pr.var, Pr.args, Pr.labels, Pr.kids, Pr.t] at hb
  rcases hb with hb | hb | hb | hb | hb | hb | hb | hb
  · obtain ⟨_, _, _, a, b, _, c⟩ := hb; exact fin (by omega) (by omega) (c ▸ hz0)
  · obtain ⟨_, _, _, a, b, _, c⟩ := hb; exact fin (by omega) (by omega) (c ▸ hz0)
  · obtain ⟨_, _, _, a, b, _, c⟩ := hb; exact fin (by omega) (by omega) (c ▸ hz0)
  · obtain ⟨_, _, _, a, b, _, _, c⟩ := hb; exact fin (by omega) (by omega) (c ▸ hz0)
  · obtain ⟨_, _, _, a, _, _, b, c⟩ := hb; exact fin (by omega) (by omega) (c ▸ hz0)
  · obtain ⟨_, _, _, _, a, b, _, c, _⟩ := hb; exact fin (by omega) (by omega) (tln_right c)
  · obtain ⟨_, _, _, _, a, b, _, c⟩ := hb; exact fin (by omega) (by omega) (c ▸ hz0)
  · obtain ⟨h8, _, _, b, _, c⟩ := hb
    obtain ⟨⟨d, hd, hl⟩, _⟩ := h.2.2.2.1 h8
    have := hpar d (List.mem_of_find?_eq_some hd)
    exact fin (by omega) (by omega) (c ▸ hz0)
theorem pright_0 {x : Pr} (h : prightE x = 0) : NodesP x := by
  unfold prightE at h
  split at h
  · cases h
  · split at h
    · rename_i h2; exact pb_iff.1 h2
    · cases h
theorem gln_of {p : Pg} {m : Nat} (hm : m ≤ 20000) (hs : PgS p m) (h : RP p) : GLn p := by
  obtain ⟨e1, e2, e3, e4⟩ := progE_iff.1 h.1
  have hpar := fun d hd => (hs.par d hd).1
  refine ⟨fun d hd => ⟨by have := hpar d hd; omega, fun e he => tln_right ((e4 d hd).2 e he).2, pln_of hpar _ _ _ (by have := (hs.body d hd).1; omega) (pright_0 (firstE_iff.1 e2 d hd)) (h.2.2.1 d hd)⟩, pln_of hpar _ _ _ (by have := hs.main.1; omega) (pright_0 e3) h.2.2.2⟩
theorem pb_of27 {p : Pg} {m : Nat} (hm : m ≤ 20000) (hs : PgS p m) : PB p := ⟨by have := hs.len; omega, fun d hd => by have := (hs.body d hd).1; omega, by have := hs.main.1; omega⟩
end Go.Proofs.YtbfjpjllaibooaaGreat.Tx

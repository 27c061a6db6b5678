/- The package audit: what is called, directly or not. -/
import Derived.Test.YtfmbddfenghnlaaGreatDoorWk131
set_option linter.all false
namespace Go.Proofs.YtfmbddfenghnlaaGreatDoor.Tx
open Go.Lf Go.Lf.S Go.Lf.Duo
set_option maxRecDepth 100000

/-- a map from names to lists of names -/
def mpC (K : List ByteArray) (V : List (List ByteArray)) : PV := .mp (K.map .str) (V.map fun l : List ByteArray => PV.sl (l.map PV.str))
def gk (K : List ByteArray) (V : List (List ByteArray)) (s : ByteArray) : List ByteArray := match idxS s K 0 with
  | some j => (V[j]?).getD []
  | none => []
theorem e_mgetC {K : List ByteArray} {V : List (List ByteArray)} (h : K.length = V.length) {s : ByteArray} : (Prim.mget false [.s] (.sl [])).ev [mpC K V, .str s] = some (.sl ((gk K V s).map .str)) := by
  show (match PV.kfind false [.s] (.str s) (K.map .str) with
    | some (some i) => (V.map fun l : List ByteArray => PV.sl (l.map PV.str))[i]?
    | some none => some (.sl [])
    | none => none) = _
  rw [kfind_str]
  unfold gk
  cases e : idxS s K 0 with
  | none => rfl
  | some j =>
    obtain ⟨_, h2, _⟩ := idxS_some e
    have := (List.getElem?_eq_some_iff.1 h2).1
    have hj : j < V.length := by omega
    simp only [List.getElem?_map, List.getElem?_eq_getElem hj, Option.map_some, Option.getD_some]
def updC (K : List ByteArray) (V : List (List ByteArray)) (s : ByteArray) (l : List ByteArray) : List ByteArray × List (List ByteArray) := match idxS s K 0 with
  | some j => (K, V.set j l)
  | none => (K ++ [s], V ++ [l])
theorem e_msetC {K : List ByteArray} {V : List (List ByteArray)} {s : ByteArray} {l : List ByteArray} : (Prim.mset false [.s]).ev [mpC K V, .str s, .sl (l.map .str)] = some (mpC (updC K V s l).1 (updC K V s l).2) := by
  show (match PV.kfind false [.s] (.str s) (K.map .str) with
    | some (some i) => some (PV.mp ((K.map PV.str).set i (.str s)) ((V.map fun l : List ByteArray => PV.sl (l.map PV.str)).set i (.sl (l.map .str))))
    | some none => some (PV.mp (K.map PV.str ++ [PV.str s]) ((V.map fun l : List ByteArray => PV.sl (l.map PV.str)) ++ [PV.sl (l.map .str)]))
    | none => none) = _
  rw [kfind_str]
  unfold updC
  cases e : idxS s K 0 with
  | none => simp [mpC]
  | some j =>
    obtain ⟨_, h2, _⟩ := idxS_some e
    have h2 : K[j]? = some s := h2
    simp only [mpC]
    rw [set_same (by simp [h2]), List.map_set]
theorem updC_len {K : List ByteArray} {V : List (List ByteArray)} {s : ByteArray} {l : List ByteArray} (h : K.length = V.length) : (updC K V s l).1.length = (updC K V s l).2.length := by
  unfold updC; split <;> simp [h]
theorem idxS_snoc {s t : ByteArray} : ∀ {ls : List ByteArray} {n : Nat}, idxS t (ls ++ [s]) n = match idxS t ls n with
    | some j => some j
    | none => if t = s then some (n + ls.length) else none
  | [], n => by simp [idxS]
  | x :: r, n => by
    simp only [List.cons_append, idxS]
    by_cases e : t = x
    · simp [e]
    · simp only [if_neg e]
      rw [idxS_snoc]
      cases idxS t r (n + 1) with
      | some j => rfl
      | none => simp only [List.length_cons]; split <;> (try rfl); congr 1; omega
theorem gk_upd {K : List ByteArray} {V : List (List ByteArray)} {s : ByteArray} {l : List ByteArray} (h : K.length = V.length) (t : ByteArray) : gk (updC K V s l).1 (updC K V s l).2 t = if t = s then l else gk K V t := by
  unfold updC
  cases e : idxS s K 0 with
  | some j =>
    obtain ⟨_, h2, h3⟩ := idxS_some e
    have hj := (List.getElem?_eq_some_iff.1 h2).1
    by_cases c : t = s
    · subst c
      simp only [gk, e, if_true]
      rw [List.getElem?_set_self (by omega)]; rfl
    · simp only [gk, if_neg c]
      cases e2 : idxS t K 0 with
      | none => rfl
      | some k =>
        obtain ⟨_, g2, _⟩ := idxS_some e2
        have : k ≠ j := fun h => by
          subst h
          have h2 : K[k]? = some s := h2
          have g2 : K[k]? = some t := g2
          rw [g2] at h2; exact c (Option.some.inj h2)
        simp only
        rw [List.getElem?_set_ne (by omega)]
  | none =>
    simp only [gk, idxS_snoc]
    by_cases c : t = s
    · subst c
      simp only [e, if_true]
      rw [List.getElem?_append_right (by omega)]
      simp [h]
    · cases e2 : idxS t K 0 with
      | none => simp only [if_neg c]
      | some k =>
        obtain ⟨_, g2, _⟩ := idxS_some e2
        have hk := (List.getElem?_eq_some_iff.1 g2).1
        simp only [if_neg c]
        rw [List.getElem?_append_left (by omega)]

/-- reached by calls -/
inductive Rc (g : ByteArray → List ByteArray) (l : List ByteArray) : ByteArray → Prop
  | base {x : ByteArray} (h : x ∈ l) : Rc g l x
  | step {x y : ByteArray} (h : Rc g l x) (hy : y ∈ g x) : Rc g l y
theorem Rc.sub {g : ByteArray → List ByteArray} {l : List ByteArray} {s x : ByteArray} (hs : Rc g l s) (h : Rc g (g s) x) : Rc g l x := by
  induction h with
  | base h => exact .step hs h
  | step h hy ih => exact .step ih hy

theorem nodup_leV {α : Type} : ∀ {l U : List α}, l.Nodup → (∀ x ∈ l, x ∈ U) → l.length ≤ U.length
  | [], _, _, _ => by simp
  | a :: l, U, hn, h => by
    obtain ⟨s, t, rfl⟩ := List.append_of_mem (h a List.mem_cons_self)
    rw [List.nodup_cons] at hn
    have := nodup_leV (l := l) (U := s ++ t) hn.2 fun x hx => by
      have := h x (List.mem_cons_of_mem _ hx)
      simp only [List.mem_append, List.mem_cons] at this ⊢
      rcases this with h | rfl | h
      · exact .inl h
      · exact absurd hx hn.1
      · exact .inr h
    simp only [List.length_append, List.length_cons] at this ⊢
    omega

theorem tx_exS27 {f : Nat} {sg : Sig} {t : List PV → T PV} (h : TxOkS P f sg t) {K : List PV → Prop} {xs : List PV} (hd : (t xs).dt) (hden : (t xs).den0 P (fun r => ∃ ys, r = .tup ys ∧ K ys) []) : ∃ ys, K ys ∧ OkS P f sg xs ys := by
  obtain ⟨r, ⟨ys, rfl, hk⟩, h1⟩ := den_ex (t xs) hd [] (fun _ => []) (fun _ => rfl) (fun j g ys h => by simp at h) hden
  exact ⟨ys, hk, h xs ys h1⟩


end Go.Proofs.YtfmbddfenghnlaaGreatDoor.Tx

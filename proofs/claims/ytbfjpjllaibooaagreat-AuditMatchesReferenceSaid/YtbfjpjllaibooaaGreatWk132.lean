/- The package audit: what is called, directly or not. -/
import Derived.Test.YtbfjpjllaibooaaGreatWk131
set_option linter.all false
namespace Go.Proofs.YtbfjpjllaibooaaGreat.Tx
open Go.Lf Go.Lf.S Go.Lf.Duo
set_option maxRecDepth 100000

/-- a map from names to lists of names -/
def mpC (K : List ByteArray) (V : List (List ByteArray)) : PV := .mp (K.map .str) (V.map fun l : List ByteArray => PV.sl (l.map PV.str))
def gk (K : List ByteArray) (V : List (List ByteArray)) (s : ByteArray) : List ByteArray := match idxS s K 0 with
  | some j => (V[j]?).getD []
  | none => []
theorem e_mgetC {K : List ByteArray} {V : List (List ByteArray)} (h : K.length = V.length) {s : ByteArray} : (Prim.mget false [.s] (.sl [])).ev [mpC K V, .str s] = some (.sl ((gk K V s).map .str)) := by
  show (match PV.kfind false [.s] (.str s) (K.map .str) with
    | some (some i) => (V.map fun l : List ByteArray => PV.sl (l.map PV.str))[i]?
    | some none => some (.sl [])
    | none => none) = _
  rw [kfind_str]
  unfold gk
  cases e : idxS s K 0 with
  | none => rfl
  | some j =>
    obtain ⟨_, h2, _⟩ := idxS_some e
    have := (List.getElem?_eq_some_iff.1 h2).1
    have hj : j < V.length := by omega
    simp only [List.getElem?_map, List.getElem?_eq_getElem hj, Option.map_some, Option.getD_some]
def updC (K : List ByteArray) (V : List (List ByteArray)) (s : ByteArray) (l : List ByteArray) : List ByteArray × List (List ByteArray) := match idxS s K 0 with
  | some j => (K, V.set j l)
  | none => (K ++ [s], V ++ [l])
theorem e_msetC {K : List ByteArray} {V : List (List ByteArray)} {s : ByteArray} {l : List ByteArray} : (Prim.mset false [.s]).ev [mpC K V, .str s, .sl (l.map .str)] = some (mpC (updC K V s l).1 (updC K V s l).2) := by
  show (match PV.kfind false [.s] (.str s) (K.map .str) with
    | some (some i) => some (PV.mp ((K.map PV.str).set i (.str s)) ((V.map fun l : List ByteArray => PV.sl (l.map PV.str)).set i (.sl (l.map .str))))
    | some none => some (PV.mp (K.map PV.str ++ [PV.str s]) ((V.map fun l : List ByteArray => PV.sl (l.map PV.str)) ++ [PV.sl (l.map .str)]))
    | none => none) = _
  rw [kfind_str]
  unfold updC
  cases e : idxS s K 0 with
  | none => simp [mpC]
  | some j =>
    obtain ⟨_, h2, _⟩ := idxS_some e
    have h2 : K[j]? = some s := h2
    simp only [mpC]
    rw [set_same (by simp [h2]), List.map_set]
theorem updC_len {K : List ByteArray} {V : List (List ByteArray)} {s : ByteArray} {l : List ByteArray} (h : K.length = V.length) : (updC K V s l).1.length = (updC K V s l).2.length := by
  unfold updC; split <;> simp [h]
theorem idxS_snoc {s t : ByteArray} : ∀ {ls : List ByteArray} {n : Nat}, idxS t (ls ++ [s]) n = match idxS t ls n with
    | some j => some j
    | none => if t = s then some (n + ls.length) else none
  | [], n => by simp [idxS]
  | x :: r, n => by
    simp only [List.cons_append, idxS]
    by_cases e : t = x
    · simp [e]
    · simp only [if_neg e]
      rw [idxS_snoc]
      cases idxS t r (n + 1) with
      | some j => rfl
      | none => simp only [List.length_cons]; split <;> (try rfl); congr 1; omega
theorem gk_upd {K : List ByteArray} {V : List (List ByteArray)} {s : ByteArray} {l : List ByteArray} (h : K.length = V.length) (t : ByteArray) : gk (updC K V s l).1 (updC K V s l).2 t = if t = s then l else gk K V t := by
  unfold updC
  cases e : idxS s K 0 with
  | some j =>
    obtain ⟨_, h2, h3⟩ := idxS_some e
    have hj := (List.getElem?_eq_some_iff.1 h2).1
    by_cases c : t = s
    · subst c
      simp only [gk, e, if_true]
      rw [List.getElem?_set_self (by omega)]; rfl
    · simp only [gk, if_neg c]
      cases e2 : idxS t K 0 with
      | none => rfl
      | some k =>
        obtain ⟨_, g2, _⟩ := idxS_some e2
        have : k ≠ j := fun h => by
          subst h
          have h2 : K[k]? = some s := h2
          have g2 : K[k]? = some t := g2
          rw [g2] at h2; exact c (Option.some.inj h2)
        simp only
        rw [List.getElem?_set_ne (by omega)]
  | none =>
    simp only [gk, idxS_snoc]
    by_cases c : t = s
    · subst c
      simp only [e, if_true]
      rw [List.getElem?_append_right (by omega)]
      simp [h]
    · cases e2 : idxS t K 0 with
      | none => simp only [if_neg c]
      | some k =>
        obtain ⟨_, g2, _⟩ := idxS_some e2
        have hk := (List.getElem?_eq_some_iff.1 g2).1
        simp only [if_neg c]
        rw [List.getElem?_append_left (by omega)]

/-- reached by calls -/
inductive Rc (g : ByteArray → List ByteArray) (l : List ByteArray) : ByteArray → Prop
  | base {x : ByteArray} (h : x ∈ l) : Rc g l x
  | step {x y : ByteArray} (h : Rc g l x) (hy : y ∈ g x) : Rc g l y
theorem Rc.sub {g : ByteArray → List ByteArray} {l : List ByteArray} {s x : ByteArray} (hs : Rc g l s) (h : Rc g (g s) x) : Rc g l x := by
  induction h with
  | base h => exact .step hs h
  | step h hy ih => exact .step ih hy

theorem nodup_leV {α : Type} : ∀ {l U : List α}, l.Nodup → (∀ x ∈ l, x ∈ U) → l.length ≤ U.length
  | [], _, _, _ => by simp
  | a :: l, U, hn, h => by
    obtain ⟨s, t, rfl⟩ := List.append_of_mem (h a List.mem_cons_self)
    rw [List.nodup_cons] at hn
    have := nodup_leV (l := l) (U := s ++ t) hn.2 fun x hx => by
      have := h x (List.mem_cons_of_mem _ hx)
      simp only [List.mem_append, List.mem_cons] at this ⊢
      rcases this with h | rfl | h
      · exact .inl h
      · exact absurd hx hn.1
      · exact .inr h
    simp only [List.length_append, List.length_cons] at this ⊢
    omega

theorem tx_exS27 {f : Nat} {sg : Sig} {t : List PV → T PV} (h : TxOkS P f sg t) {K : List PV → Prop} {xs : List PV} (hd : (t xs).dt) (hden : (t xs).den0 P (fun r => ∃ ys, r = .tup ys ∧ K ys) []) : ∃ ys, K ys ∧ OkS P f sg xs ys := by
  obtain ⟨r, ⟨ys, rfl, hk⟩, h1⟩ := den_ex (t xs) hd [] (fun _ => []) (fun _ => rfl) (fun j g ys h => by simp at h) hden
  exact ⟨ys, hk, h xs ys h1⟩


theorem ok_visit {K : List ByteArray} {V : List (List ByteArray)} (hKV : K.length = V.length) {U : List ByteArray} (hb : ∀ s, (gk K V s).length ≤ 549755813888) (hU : ∀ s, ∀ x ∈ gk K V s, x ∈ U) :
    ∀ (m : Nat) (l S : List ByteArray), l.length ≤ 549755813888 → (∀ x ∈ l, x ∈ U) → S.Nodup → (∀ x ∈ S, x ∈ U) → U.length ≤ m + S.length →
    ∃ S', OkS P F.audit_closure_1 sg_audit_closure_1 [.sl (l.map .str), setV S, mpC K V] [.tup [], setV S', mpC K V] ∧ S'.Nodup ∧ (∀ x ∈ S', x ∈ U) ∧ (∀ x ∈ S, x ∈ S') ∧ (∀ x ∈ l, x ∈ S') ∧
      ∀ x ∈ S', x ∉ S → (∀ y ∈ gk K V x, y ∈ S') ∧ Rc (gk K V) l x := by
  intro m
  induction m using Nat.strongRecOn with
  | _ m ih =>
  intro l S hl hlU hn hSU hm
  have := tx_exS27 m_audit_closure_1 (K := fun ys => ∃ S', S'.Nodup ∧ (∀ x ∈ S', x ∈ U) ∧ (∀ x ∈ S, x ∈ S') ∧ (∀ x ∈ l, x ∈ S') ∧ (∀ x ∈ S', x ∉ S → (∀ y ∈ gk K V x, y ∈ S') ∧ Rc (gk K V) l x) ∧ ys = [.tup [], setV S', mpC K V])
    (xs := [.sl (l.map .str), setV S, mpC K V]) (by simp [u_audit_closure_1, T.dt]) (by
    refine d_l _ (len_eq l) fun _ => ?_
    refine den_loop (fun m' ys => ∃ (j : Nat) (S2 : List ByteArray), j + m' = l.length ∧ S2.Nodup ∧ (∀ x ∈ S2, x ∈ U) ∧ (∀ x ∈ S, x ∈ S2) ∧ (∀ x ∈ l.take j, x ∈ S2) ∧ (∀ x ∈ S2, x ∉ S → (∀ y ∈ gk K V x, y ∈ S2) ∧ Rc (gk K V) l x) ∧ ys = [i j, setV S2, mpC K V]) l.length
      ⟨0, S, by omega, hn, hSU, fun _ h => h, by simp, fun x h1 h2 => absurd h1 h2, rfl⟩ ?_
    rintro m' _ ⟨j, S2, hj, n2, u2, s2, t2, c2, rfl⟩
    refine d_l (.bool (decide ((j : Int) < (l.length : Int)))) rfl fun _ => d_dec (p := (j : Int) < (l.length : Int)) (fun h => ?_) fun h => d_ret ⟨_, rfl, S2, n2, u2, s2, ?_, c2, rfl⟩
    · have hjl : j < l.length := by omega
      have htk : l.take (j + 1) = l.take j ++ [l[j]] := List.take_succ_eq_append_getElem hjl
      have hsl : l[j] ∈ l := List.getElem_mem hjl
      have hix := e_idx (n := 1) (a := false) (mp_at (f := PV.str) hjl) rfl
      generalize l[j] = s at *
      refine d_l _ hix fun _ => d_l _ e_mgetS fun _ => d_l (.bool (!pb (s ∈ S2))) rfl fun _ => d_ite (fun hs => ?_) fun hs => ?_
      · have hno : s ∉ S2 := pb_false.1 (by simpa using hs)
        have e3 : addS s S2 = S2 ++ [s] := addS_new hno
        have n3 : (addS s S2).Nodup := by
          rw [e3, List.nodup_append]
          exact ⟨n2, by simp, fun a ha b hb e => by simp at hb; subst hb; subst e; exact hno ha⟩
        have u3 : ∀ x ∈ addS s S2, x ∈ U := fun x hx => (mem_addS.1 hx).elim (u2 x) fun e => e ▸ hlU s hsl
        have l3 := nodup_leV n3 u3
        have ls2 := nodup_leV hn s2
        have el : (addS s S2).length = S2.length + 1 := by rw [e3]; simp
        obtain ⟨S4, o4, n4, u4, s4, t4, c4⟩ := ih (m - 1) (by omega) (gk K V s) (addS s S2) (hb s) (hU s) n3 u3 (by omega)
        refine d_l _ e_msetS fun _ => d_l _ (e_mgetC hKV) fun _ => d_calls rfl o4 (d_l _ (e_inc (by omega)) fun _ => d_cont rfl ⟨m' - 1, by omega, j + 1, S4, by omega, n4, u4, fun x hx => s4 x (mem_addS.2 (.inl (s2 x hx))), fun x hx => ?_, fun x hx hxS => ?_, rfl⟩)
        · rw [htk] at hx
          rcases List.mem_append.1 hx with hx | hx
          · exact s4 x (mem_addS.2 (.inl (t2 x hx)))
          · obtain rfl := List.mem_singleton.1 hx
            exact s4 x (mem_addS.2 (.inr rfl))
        · by_cases h2 : x ∈ S2
          · obtain ⟨g1, g2⟩ := c2 x h2 hxS
            exact ⟨fun y hy => s4 y (mem_addS.2 (.inl (g1 y hy))), g2⟩
          · by_cases e : x = s
            · subst e
              exact ⟨t4, .base hsl⟩
            · obtain ⟨g1, g2⟩ := c4 x hx fun h => (mem_addS.1 h).elim h2 e
              exact ⟨g1, Rc.sub (.base hsl) g2⟩
      · have hin : s ∈ S2 := pb_iff.1 (by simpa using hs)
        refine d_l _ (e_inc (by omega)) fun _ => d_cont rfl ⟨m' - 1, by omega, j + 1, S2, by omega, n2, u2, s2, fun x hx => ?_, c2, rfl⟩
        rw [htk] at hx
        rcases List.mem_append.1 hx with hx | hx
        · exact t2 x hx
        · obtain rfl := List.mem_singleton.1 hx
          exact hin
    · have e : l.take j = l := List.take_of_length_le (by omega)
      rw [e] at t2; exact t2)
  obtain ⟨_, ⟨S', h1, h2, h3, h4, h5, rfl⟩, h⟩ := this
  exact ⟨S', h, h1, h2, h3, h4, h5⟩
end Go.Proofs.YtbfjpjllaibooaaGreat.Tx

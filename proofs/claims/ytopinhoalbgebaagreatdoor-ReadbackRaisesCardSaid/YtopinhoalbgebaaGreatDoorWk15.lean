/- Contract: a comparison decides the equality of two references. -/
import Derived.Test.YtopinhoalbgebaaGreatDoorWk14
set_option linter.all false
namespace Go.Proofs.YtopinhoalbgebaaGreatDoor.Tx
open Go.Lf Go.Lf.S Go.Lf.Duo
set_option maxRecDepth 100000

theorem tx_exS {f : Nat} {sg : Sig} {t : List PV → T PV} (h : TxOkS P f sg t) {K : List PV → Prop} {xs : List PV} (hd : (t xs).dt) (hden : (t xs).den0 P (fun r => ∃ ys, r = .tup ys ∧ K ys) []) : ∃ ys, K ys ∧ OkS P f sg xs ys := by
  obtain ⟨r, ⟨ys, rfl, hk⟩, h1⟩ := den_ex (t xs) hd [] (fun _ => []) (fun _ => rfl) (fun j g ys h => by simp at h) hden
  exact ⟨ys, hk, h xs ys h1⟩

theorem NdOk.node' {n : Int} {d : Nd} (h : NdOk 0 n [] d) : ∀ r ∈ d.next, 0 ≤ r.node ∧ r.node < n := by
  intro r hr
  obtain ⟨a, b⟩ := h.nx r hr
  rcases a with ⟨q, hq, _⟩ | ⟨a1, a2⟩
  · cases hq
  · exact ⟨a1, a2⟩
def GrOk' (ds : List Nd) : Prop := ds.length ≤ 274877906944 ∧ ∀ d ∈ ds, NdOk 0 ds.length [] d

def ref (a s : Int) : PV := .agg [i a, i s]
def SameOk (ds : List Nd) (free : Bool) (f : Nat) (cs : List PV) : Prop :=
  ∀ (a b : Nat) (ha : a < ds.length) (hb : b < ds.length) (s t : Int), Ok P f ([] ++ [ref a s, ref b t] ++ cs) (.bool (free || decide (prN ds[a] s = prN ds[b] t)))

def InR (free : Bool) (k : Key) : Prop := (free = true → k.d = 0) ∧ IntKind.i64.wrap k.d = k.d
theorem wrap_wrap (x : Int) : IntKind.i64.wrap (IntKind.i64.wrap x) = IntKind.i64.wrap x := by
  rw [wrap_eq]; exact wrap_mod x
theorem inR_key (free : Bool) (a b s t : Int) : InR free (keyOf free a b s t) := by
  refine ⟨fun h => by simp [keyOf, h], ?_⟩
  cases free
  · exact wrap_wrap _
  · rfl

structure Res (ds : List Nd) (free : Bool) (L : List Key) (k : Key) (r : Bool) (L' : List Key) : Prop where
  sub : ∀ q ∈ L, q ∈ L'
  loc : ∀ q ∈ L', locB ds free q = true ∧ InR free q
  yes : r = true → k ∈ L' ∧ ∀ q ∈ L', q ∉ L → ∀ j, j < arity ds q → ∃ q', Nx ds free q j q' ∧ q' ∈ L'
  no : r = false → ¬ Eqv ds free k

theorem loc_key {ds : List Nd} {free : Bool} {a b : Nat} (ha : a < ds.length) (hb : b < ds.length) (s t : Int) :
    locB ds free (keyOf free a b s t) = (decide (ds[a].kind = ds[b].kind) && decide (ds[a].labels.length = ds[b].labels.length) && (free || decide (prN ds[a] s = prN ds[b] t))) := by
  simp only [locB, keyOf, Int.toNat_natCast, List.getElem?_eq_getElem ha, List.getElem?_eq_getElem hb]
  by_cases h : ds[a].kind = ds[b].kind
  · cases free
    · simp only [Bool.false_or, Bool.false_eq_true, if_false]
      congr 1
      exact decide_eq_decide.2 (pr_iff h s t).symm
    · simp
  · simp [h]
theorem eqv_loc {ds : List Nd} {free : Bool} {k : Key} (h : Eqv ds free k) : locB ds free k = true := by
  obtain ⟨L, hc, hk⟩ := h
  exact (hc k hk).1

theorem same_pair {ds : List Nd} {free : Bool} {q k : Key} (hq : locB ds free q = true ∧ InR free q) (hk : locB ds free k = true ∧ InR free k) (ha : q.a = k.a) (hb : q.b = k.b) {x : Nd} (hx : ds[k.a.toNat]? = some x) (hact : act x.kind = true) : q = k := by
  have hd : q.d = k.d := by
    cases free with
    | true => rw [hq.2.1 rfl, hk.2.1 rfl]
    | false =>
      obtain ⟨hq, _, hq2⟩ := hq
      obtain ⟨hk, _, hk2⟩ := hk
      simp only [locB, ha, hb, hx] at hq hk
      cases hy : ds[k.b.toNat]? with
      | none => rw [hy] at hk; cases hk
      | some y =>
        rw [hy] at hq hk
        simp only [Bool.false_or, Bool.and_eq_true, decide_eq_true_eq] at hq hk
        have h1 := hq.2 hact
        have h2 := hk.2 hact
        have h3 : ad x.prio q.d = ad x.prio k.d := h1.trans h2.symm
        simp only [ad, wrap_eq] at h3
        rw [← hq2, ← hk2, wrap_eq]
        omega
  obtain ⟨a, b, d⟩ := q
  obtain ⟨a', b', d'⟩ := k
  simp only at ha hb hd
  subst ha; subst hb; subst hd; rfl

/-- the key behind a rest, as the code finds it -/
theorem key_next (free : Bool) (u v : Rf) (a b s t : Int) : keyOf free u.node v.node (ad u.shift s) (ad v.shift t) = ⟨u.node, v.node, if free then 0 else IntKind.i64.wrap (u.shift - v.shift + (keyOf free a b s t).d)⟩ := by
  cases free
  · simp only [keyOf, Bool.false_eq_true, if_false, Key.mk.injEq, true_and]
    rw [wrap_eq]
    have h1 := wrap_mod (u.shift + s)
    have h2 := wrap_mod (v.shift + t)
    have h3 := wrap_mod (s - t)
    unfold ad
    omega
  · simp [keyOf]

theorem sel_fun {x y : Nd} {j q q' : Nat} (h : Sel x y j q) (h' : Sel x y j q') : q = q' := by
  unfold Sel at h h'
  split at h
  · rename_i h0
    rw [if_pos h0] at h'
    obtain ⟨s, h1, h2, h3⟩ := h
    obtain ⟨s', h1', h2', h3'⟩ := h'
    rw [h1] at h1'; cases h1'
    rcases Nat.lt_trichotomy q q' with hl | hl | hl
    · exact absurd h2 (h3' q hl)
    · exact hl
    · exact absurd h2' (h3 q' hl)
  · rename_i h0
    rw [if_neg h0] at h'
    rw [h, h']

end Go.Proofs.YtopinhoalbgebaaGreatDoor.Tx

/- Contracts (Wk12, Wk13, Wk14, Wk15, Wk16, Wk17, Wk18, Wk19, Wk20, Wb, Wk80, Wk81, Wk30). -/
import Derived.Test.YtopinhoalbgebaaGreatDoorWk11
set_option linter.all false
/- Contracts: the keys and the map of a comparison. -/
namespace Go.Proofs.YtopinhoalbgebaaGreatDoor.Tx
open Go.Lf Go.Lf.S Go.Lf.Duo
set_option maxRecDepth 100000

/-- a pair of nodes, and the difference of their shifts -/
structure Key where
  a : Int
  b : Int
  d : Int
  deriving DecidableEq
def Key.enc (k : Key) : PV := .agg [i k.a, i k.b, i k.d]
abbrev kk3 : List CK := [.i .i64, .i .i64, .i .i64]
def mpOf (L : List Key) : PV := .mp (L.map Key.enc) (L.map fun _ => .bool true)

theorem keq_key (x y : Key) : PV.keq true kk3 x.enc y.enc = some (decide (x = y)) := by
  obtain ⟨a, b, c⟩ := x
  obtain ⟨a', b', c'⟩ := y
  simp only [PV.keq, Key.enc, PV.okc, PV.cells, PV.isAg, PV.isCell, kk3, PV.sameK, PV.same1, i]
  by_cases h1 : a = a' <;> by_cases h2 : b = b' <;> by_cases h3 : c = c' <;> simp [h1, h2, h3, PV.isCell]

theorem kfindGo_key (k : Key) : ∀ (L : List Key) (j : Nat), ∃ r, PV.kfindGo true kk3 k.enc (L.map Key.enc) j = some r ∧ (k ∈ L → ∃ q, r = some (j + q) ∧ L[q]? = some k) ∧ (k ∉ L → r = none)
  | [], j => ⟨none, rfl, (fun h => by cases h), fun _ => rfl⟩
  | x :: L, j => by
    obtain ⟨r, h1, h2, h3⟩ := kfindGo_key k L (j + 1)
    simp only [List.map_cons, PV.kfindGo, keq_key]
    by_cases he : k = x
    · subst he
      simp only [decide_true]
      exact ⟨_, rfl, fun _ => ⟨0, by simp, by simp⟩, fun h => absurd List.mem_cons_self h⟩
    · simp only [he, decide_false]
      refine ⟨r, h1, fun h => ?_, fun h => h3 fun hm => h (List.mem_cons_of_mem _ hm)⟩
      rcases List.mem_cons.1 h with e | e
      · exact absurd e he
      · obtain ⟨q, hq, hl⟩ := h2 e
        exact ⟨q + 1, by rw [hq]; congr 1; omega, by simpa using hl⟩

theorem e_mget (L : List Key) (k : Key) : (Prim.mget true kk3 (.bool false)).ev [mpOf L, k.enc] = some (.bool (decide (k ∈ L))) := by
  obtain ⟨r, h1, h2, h3⟩ := kfindGo_key k L 0
  have hf : PV.kfind true kk3 k.enc (L.map Key.enc) = some r := h1
  show (match PV.kfind true kk3 k.enc (L.map Key.enc) with
    | some (some i) => (L.map fun _ => PV.bool true)[i]?
    | some none => some (PV.bool false)
    | none => none) = _
  rw [hf]
  by_cases hm : k ∈ L
  · obtain ⟨q, rfl, hl⟩ := h2 hm
    have hq : q < L.length := (List.getElem?_eq_some_iff.1 hl).1
    simp [hm, hq]
  · rw [h3 hm]; simp [hm]

theorem e_mset (L : List Key) (k : Key) (hk : k ∉ L) : (Prim.mset true kk3).ev [mpOf L, k.enc, .bool true] = some (mpOf (L ++ [k])) := by
  obtain ⟨r, h1, h2, h3⟩ := kfindGo_key k L 0
  have hf : PV.kfind true kk3 k.enc (L.map Key.enc) = some r := h1
  show (match PV.kfind true kk3 k.enc (L.map Key.enc) with
    | some (some i) => some (PV.mp ((L.map Key.enc).set i k.enc) ((L.map fun _ => PV.bool true).set i (PV.bool true)))
    | some none => some (PV.mp (L.map Key.enc ++ [k.enc]) ((L.map fun _ => PV.bool true) ++ [PV.bool true]))
    | none => none) = _
  rw [hf, h3 hk]
  simp [mpOf]

/-- the key of two references -/
def keyOf (free : Bool) (a b s t : Int) : Key := ⟨a, b, if free then 0 else IntKind.i64.wrap (s - t)⟩
theorem ok_key (g m f : PV) (free : Bool) (a b s t : Int) (h4 : (PV.agg [g, m, f, .bool free]).okc 4 true = true) :
    Ok P F.equal_comparison_key [.box (.agg [g, m, f, .bool free]), .agg [i a, i s], .agg [i b, i t]] (keyOf free a b s t).enc := by
  refine k_equal_comparison_key _ _ rfl (d_l (.agg [i a, i s]) rfl fun _ => d_l (.agg [i b, i t]) rfl fun _ => d_l (.box (.agg [g, m, f, .bool free])) rfl fun _ => d_l (.agg [g, m, f, .bool free]) ?_ fun _ => d_ite (fun h => d_l _ rfl fun _ => d_ret ?_) fun h => d_l _ rfl fun _ => d_l _ rfl fun _ => d_ret ?_)
  · show (if _ then _ else _) = _
    rw [if_pos h4]
  · subst h; rfl
  · subst h; rfl
theorem key_gnd (k : Key) : Prim.gnd.ev [k.enc] = some k.enc := rfl

end Go.Proofs.YtopinhoalbgebaaGreatDoor.Tx

/- Contracts: how a comparison compares priorities. -/
namespace Go.Proofs.YtopinhoalbgebaaGreatDoor.Tx
open Go.Lf Go.Lf.S Go.Lf.Duo
set_option maxRecDepth 100000

theorem wrap_eq (x y : Int) : IntKind.i64.wrap x = IntKind.i64.wrap y ↔ (x - y) % 18446744073709551616 = 0 := by
  simp only [IntKind.wrap, IntKind.signed, IntKind.bits]
  simp
  omega
theorem wrap_mod (x : Int) : (IntKind.i64.wrap x - x) % 18446744073709551616 = 0 := by
  simp only [IntKind.wrap, IntKind.signed, IntKind.bits]
  simp
  omega

/-- the priority of a node's reference, or 0 -/
def prN (d : Nd) (s : Int) : Int := if act d.kind then ad d.prio s else 0

theorem ok_equal_Equal_1 (ds : List Nd) (a b : Nat) (ha : a < ds.length) (hb : b < ds.length) (s t : Int) :
    Ok P F.equal_Equal_1 [.agg [i (a : Int), i s], .agg [i (b : Int), i t], .box (.agg [.sl (ds.map Nd.enc)])] (.bool (decide (prN ds[a] s = prN ds[b] t))) := by
  have get : ∀ (d : Nd) (s : Int) (x : PV), x = (if act d.kind then PV.tup [i (ad d.prio s), .bool true] else .tup [i 0, .bool false]) → (Prim.tc 0).ev [x] = some (i (prN d s)) ∧ (Prim.tc 1).ev [x] = some (.bool (act d.kind)) := by
    intro d s x hx
    subst hx
    cases h : act d.kind
    · simp [prN, h]; exact ⟨rfl, rfl⟩
    · simp [prN, h]; exact ⟨rfl, rfl⟩
  obtain ⟨a1, a2⟩ := get ds[a] s _ rfl
  obtain ⟨b1, b2⟩ := get ds[b] t _ rfl
  exact k_equal_Equal_1 _ _ rfl (d_l (.agg [i (a : Int), i s]) rfl fun _ => d_l (.agg [i (b : Int), i t]) rfl fun _ => d_l (.agg [.sl (ds.map Nd.enc)]) rfl fun _ => d_call (ok_head_Prio ds a ha s) (d_l _ a1 fun _ => d_l _ a2 fun _ => d_l (.agg [.sl (ds.map Nd.enc)]) rfl fun _ => d_call (ok_head_Prio ds b hb t) (d_l _ b1 fun _ => d_l _ b2 fun _ => d_l _ rfl fun _ => d_ret rfl)))

/-- priorities alike: it depends on the difference of the shifts alone -/
theorem pr_iff {x y : Nd} (hk : x.kind = y.kind) (s t : Int) : prN x s = prN y t ↔ (act x.kind = true → ad x.prio (IntKind.i64.wrap (s - t)) = ad y.prio 0) := by
  unfold prN
  rw [← hk]
  cases h : act x.kind
  · simp
  · simp only [if_true, true_implies, ad, wrap_eq]
    have := wrap_mod (s - t)
    omega

/-- what the nodes of a key must have in common -/
def locB (ds : List Nd) (free : Bool) (k : Key) : Bool := match ds[k.a.toNat]?, ds[k.b.toNat]? with
  | some x, some y => decide (x.kind = y.kind) && decide (x.labels.length = y.labels.length) && (free || decide (act x.kind = true → ad x.prio k.d = ad y.prio 0))
  | _, _ => false

end Go.Proofs.YtopinhoalbgebaaGreatDoor.Tx

/- Closed lists of keys; how many pairs are left. -/
namespace Go.Proofs.YtopinhoalbgebaaGreatDoor.Tx
open Go.Lf Go.Lf.S Go.Lf.Duo
set_option maxRecDepth 100000

/-- the rest of y that belongs to a rest of x -/
def Sel (x y : Nd) (j q : Nat) : Prop := if 0 < x.labels.length then ∃ s, x.labels[j]? = some s ∧ y.labels[q]? = some s ∧ ∀ p, p < q → y.labels[p]? ≠ some s else q = j
/-- the key behind the rest j -/
def Nx (ds : List Nd) (free : Bool) (k : Key) (j : Nat) (k' : Key) : Prop :=
  ∃ x y, ds[k.a.toNat]? = some x ∧ ds[k.b.toNat]? = some y ∧ ∃ (u v : Rf) (q : Nat), x.next[j]? = some u ∧ y.next[q]? = some v ∧ Sel x y j q ∧
    k' = ⟨u.node, v.node, if free then 0 else IntKind.i64.wrap (u.shift - v.shift + k.d)⟩
/-- how many rests a key has -/
def arity (ds : List Nd) (k : Key) : Nat := match ds[k.a.toNat]? with
  | some x => x.next.length
  | none => 0
/-- a key is sound in a list -/
def KOk (ds : List Nd) (free : Bool) (L : List Key) (k : Key) : Prop := locB ds free k = true ∧ ∀ j, j < arity ds k → ∃ k', Nx ds free k j k' ∧ k' ∈ L
def Cl (ds : List Nd) (free : Bool) (L : List Key) : Prop := ∀ k ∈ L, KOk ds free L k
/-- the pair is equal: a closed list has it -/
def Eqv (ds : List Nd) (free : Bool) (k : Key) : Prop := ∃ L, Cl ds free L ∧ k ∈ L

/-- the pairs that no key has -/
def left (n : Nat) (L : List Key) : List (Nat × Nat) := ((List.range n).flatMap fun a => (List.range n).map fun b => (a, b)).filter fun p => !L.any fun k => decide (k.a = p.1 ∧ k.b = p.2)

theorem left_mem {n : Nat} {L : List Key} {a b : Nat} : (a, b) ∈ left n L ↔ (a < n ∧ b < n) ∧ ∀ k ∈ L, ¬ (k.a = a ∧ k.b = b) := by
  simp only [left, List.mem_filter, List.mem_flatMap, List.mem_range, List.mem_map, Bool.not_eq_true', List.any_eq_false, decide_eq_true_eq]
  constructor
  · rintro ⟨⟨a', ha, b', hb, he⟩, h⟩
    cases he
    exact ⟨⟨ha, hb⟩, h⟩
  · rintro ⟨⟨ha, hb⟩, h⟩
    exact ⟨⟨a, ha, b, hb, rfl⟩, h⟩

theorem left_mono {n : Nat} {L L' : List Key} (h : ∀ k ∈ L, k ∈ L') : (left n L').length ≤ (left n L).length := by
  have : left n L' = (left n L).filter fun p => !L'.any fun k => decide (k.a = p.1 ∧ k.b = p.2) := by
    unfold left
    rw [List.filter_filter]
    apply List.filter_congr
    intro p _
    cases hL' : L'.any fun k => decide (k.a = p.1 ∧ k.b = p.2)
    · have : (L.any fun k => decide (k.a = p.1 ∧ k.b = p.2)) = false := by
        rw [List.any_eq_false] at hL' ⊢
        exact fun k hk => hL' k (h k hk)
      rw [this]; rfl
    · simp
  rw [this]
  exact List.length_filter_le _ _

theorem left_lt {n : Nat} {L : List Key} {k : Key} {a b : Nat} (hm : (a, b) ∈ left n L) (ha : k.a = a) (hb : k.b = b) : (left n (L ++ [k])).length < (left n L).length := by
  have e : left n (L ++ [k]) = (left n L).filter fun p => !decide (k.a = p.1 ∧ k.b = p.2) := by
    unfold left
    rw [List.filter_filter]
    apply List.filter_congr
    intro p _
    simp [Bool.and_comm]
  rw [e]
  have h1 := List.length_filter_lt_length_iff_exists (l := left n L) (p := fun p => !decide (k.a = p.1 ∧ k.b = p.2))
  exact h1.2 ⟨(a, b), hm, by simp [ha, hb]⟩

end Go.Proofs.YtopinhoalbgebaaGreatDoor.Tx

/- Contract: a comparison decides the equality of two references. -/
namespace Go.Proofs.YtopinhoalbgebaaGreatDoor.Tx
open Go.Lf Go.Lf.S Go.Lf.Duo
set_option maxRecDepth 100000

theorem tx_exS {f : Nat} {sg : Sig} {t : List PV → T PV} (h : TxOkS P f sg t) {K : List PV → Prop} {xs : List PV} (hd : (t xs).dt) (hden : (t xs).den0 P (fun r => ∃ ys, r = .tup ys ∧ K ys) []) : ∃ ys, K ys ∧ OkS P f sg xs ys := by
  obtain ⟨r, ⟨ys, rfl, hk⟩, h1⟩ := den_ex (t xs) hd [] (fun _ => []) (fun _ => rfl) (fun j g ys h => by simp at h) hden
  exact ⟨ys, hk, h xs ys h1⟩

theorem NdOk.node' {n : Int} {d : Nd} (h : NdOk 0 n [] d) : ∀ r ∈ d.next, 0 ≤ r.node ∧ r.node < n := by
  intro r hr
  obtain ⟨a, b⟩ := h.nx r hr
  rcases a with ⟨q, hq, _⟩ | ⟨a1, a2⟩
  · cases hq
  · exact ⟨a1, a2⟩
def GrOk' (ds : List Nd) : Prop := ds.length ≤ 274877906944 ∧ ∀ d ∈ ds, NdOk 0 ds.length [] d

def ref (a s : Int) : PV := .agg [i a, i s]
def SameOk (ds : List Nd) (free : Bool) (f : Nat) (cs : List PV) : Prop :=
  ∀ (a b : Nat) (ha : a < ds.length) (hb : b < ds.length) (s t : Int), Ok P f ([] ++ [ref a s, ref b t] ++ cs) (.bool (free || decide (prN ds[a] s = prN ds[b] t)))

def InR (free : Bool) (k : Key) : Prop := (free = true → k.d = 0) ∧ IntKind.i64.wrap k.d = k.d
theorem wrap_wrap (x : Int) : IntKind.i64.wrap (IntKind.i64.wrap x) = IntKind.i64.wrap x := by
  rw [wrap_eq]; exact wrap_mod x
theorem inR_key (free : Bool) (a b s t : Int) : InR free (keyOf free a b s t) := by
  refine ⟨fun h => by simp [keyOf, h], ?_⟩
  cases free
  · exact wrap_wrap _
  · rfl

structure Res (ds : List Nd) (free : Bool) (L : List Key) (k : Key) (r : Bool) (L' : List Key) : Prop where
  sub : ∀ q ∈ L, q ∈ L'
  loc : ∀ q ∈ L', locB ds free q = true ∧ InR free q
  yes : r = true → k ∈ L' ∧ ∀ q ∈ L', q ∉ L → ∀ j, j < arity ds q → ∃ q', Nx ds free q j q' ∧ q' ∈ L'
  no : r = false → ¬ Eqv ds free k

theorem loc_key {ds : List Nd} {free : Bool} {a b : Nat} (ha : a < ds.length) (hb : b < ds.length) (s t : Int) :
    locB ds free (keyOf free a b s t) = (decide (ds[a].kind = ds[b].kind) && decide (ds[a].labels.length = ds[b].labels.length) && (free || decide (prN ds[a] s = prN ds[b] t))) := by
  simp only [locB, keyOf, Int.toNat_natCast, List.getElem?_eq_getElem ha, List.getElem?_eq_getElem hb]
  by_cases h : ds[a].kind = ds[b].kind
  · cases free
    · simp only [Bool.false_or, Bool.false_eq_true, if_false]
      congr 1
      exact decide_eq_decide.2 (pr_iff h s t).symm
    · simp
  · simp [h]
theorem eqv_loc {ds : List Nd} {free : Bool} {k : Key} (h : Eqv ds free k) : locB ds free k = true := by
  obtain ⟨L, hc, hk⟩ := h
  exact (hc k hk).1

theorem same_pair {ds : List Nd} {free : Bool} {q k : Key} (hq : locB ds free q = true ∧ InR free q) (hk : locB ds free k = true ∧ InR free k) (ha : q.a = k.a) (hb : q.b = k.b) {x : Nd} (hx : ds[k.a.toNat]? = some x) (hact : act x.kind = true) : q = k := by
  have hd : q.d = k.d := by
    cases free with
    | true => rw [hq.2.1 rfl, hk.2.1 rfl]
    | false =>
      obtain ⟨hq, _, hq2⟩ := hq
      obtain ⟨hk, _, hk2⟩ := hk
      simp only [locB, ha, hb, hx] at hq hk
      cases hy : ds[k.b.toNat]? with
      | none => rw [hy] at hk; cases hk
      | some y =>
        rw [hy] at hq hk
        simp only [Bool.false_or, Bool.and_eq_true, decide_eq_true_eq] at hq hk
        have h1 := hq.2 hact
        have h2 := hk.2 hact
        have h3 : ad x.prio q.d = ad x.prio k.d := h1.trans h2.symm
        simp only [ad, wrap_eq] at h3
        rw [← hq2, ← hk2, wrap_eq]
        omega
  obtain ⟨a, b, d⟩ := q
  obtain ⟨a', b', d'⟩ := k
  simp only at ha hb hd
  subst ha; subst hb; subst hd; rfl

/-- the key behind a rest, as the code finds it -/
theorem key_next (free : Bool) (u v : Rf) (a b s t : Int) : keyOf free u.node v.node (ad u.shift s) (ad v.shift t) = ⟨u.node, v.node, if free then 0 else IntKind.i64.wrap (u.shift - v.shift + (keyOf free a b s t).d)⟩ := by
  cases free
  · simp only [keyOf, Bool.false_eq_true, if_false, Key.mk.injEq, true_and]
    rw [wrap_eq]
    have h1 := wrap_mod (u.shift + s)
    have h2 := wrap_mod (v.shift + t)
    have h3 := wrap_mod (s - t)
    unfold ad
    omega
  · simp [keyOf]

theorem sel_fun {x y : Nd} {j q q' : Nat} (h : Sel x y j q) (h' : Sel x y j q') : q = q' := by
  unfold Sel at h h'
  split at h
  · rename_i h0
    rw [if_pos h0] at h'
    obtain ⟨s, h1, h2, h3⟩ := h
    obtain ⟨s', h1', h2', h3'⟩ := h'
    rw [h1] at h1'; cases h1'
    rcases Nat.lt_trichotomy q q' with hl | hl | hl
    · exact absurd h2 (h3' q hl)
    · exact hl
    · exact absurd h2' (h3 q' hl)
  · rename_i h0
    rw [if_neg h0] at h'
    rw [h, h']

end Go.Proofs.YtopinhoalbgebaaGreatDoor.Tx

/- Contract: a comparison decides the equality of two references (2). -/
namespace Go.Proofs.YtopinhoalbgebaaGreatDoor.Tx
open Go.Lf Go.Lf.S Go.Lf.Duo
set_option maxRecDepth 100000

theorem ok_comparison_equal {ds : List Nd} {free : Bool} {f : Nat} {cs : List PV} (hg : GrOk' ds) (hs : SameOk ds free f cs) : ∀ (fuel : Nat) (L : List Key), (∀ q ∈ L, locB ds free q = true ∧ InR free q) → (left ds.length L).length ≤ fuel →
    ∀ (a b : Nat), a < ds.length → b < ds.length → ∀ (s t : Int), ∃ r L', Res ds free L (keyOf free a b s t) r L' ∧
      OkS P F.equal_comparison_equal sg_equal_comparison_equal [ref a s, ref b t, .sl (ds.map Nd.enc), .fn f [] cs, .bool free, mpOf L] [.bool r, .sl (ds.map Nd.enc), .fn f [] cs, .bool free, mpOf L'] := by
  intro fuel
  induction fuel using Nat.strongRecOn with
  | _ fuel ih =>
  intro L hL hfuel a b ha hb s t
  have hna := hg.2 _ (List.getElem_mem ha)
  have hnb := hg.2 _ (List.getElem_mem hb)
  have hla := hna.len
  have hlb := hnb.len
  have hla2 : ds[a].next.length ≤ 549755813888 := hla.2
  have bad : locB ds free (keyOf free a b s t) = false → Res ds free L (keyOf free a b s t) false L := fun h => ⟨fun _ h => h, hL, (fun h => by cases h), fun _ he => by rw [eqv_loc he] at h; cases h⟩
  have hloc := loc_key (free := free) ha hb s t
  have h4 : (PV.agg [.sl (ds.map Nd.enc), mpOf L, .fn f [] cs, .bool free]).okc 4 true = true := rfl
  have := tx_exS m_equal_comparison_equal (K := fun ys => ∃ r L', Res ds free L (keyOf free a b s t) r L' ∧ ys = [.bool r, .sl (ds.map Nd.enc), .fn f [] cs, .bool free, mpOf L'])
    (xs := [ref a s, ref b t, .sl (ds.map Nd.enc), .fn f [] cs, .bool free, mpOf L]) (by simp [u_equal_comparison_equal, T.dt]) (by
    refine d_l (ref a s) rfl fun _ => d_l (ref b t) rfl fun _ => d_l _ (e_idx (nd_at ha) (Nd.okc_enc _)) fun _ => d_l _ (e_idx (nd_at hb) (Nd.okc_enc _)) fun _ => d_l _ (e_okc (Nd.okc_enc _)) fun _ => d_l _ (e_okc (Nd.okc_enc _)) fun _ => ?_
    refine d_l _ rfl fun _ => d_ndec (fun hk => d_ret ⟨_, rfl, false, L, bad ?_, rfl⟩) fun hk => ?_
    · have hk : ¬ ds[a].kind = ds[b].kind := hk
      rw [hloc]; simp [hk]
    have hk : ds[a].kind = ds[b].kind := hk
    refine d_l _ e_len fun _ => d_l _ e_len fun _ => d_l _ rfl fun _ => d_ndec (fun hl => d_ret ⟨_, rfl, false, L, bad ?_, rfl⟩) fun hl => ?_
    · have hl : ¬ ((ds[a].labels.map PV.str).length : Int) = ((ds[b].labels.map PV.str).length : Int) := hl
      rw [List.length_map, List.length_map] at hl
      have hl : ¬ ds[a].labels.length = ds[b].labels.length := fun h => hl (by rw [h])
      rw [hloc]; simp [hl]
    have hl : ((ds[a].labels.map PV.str).length : Int) = ((ds[b].labels.map PV.str).length : Int) := hl
    rw [List.length_map, List.length_map] at hl
    have hl : ds[a].labels.length = ds[b].labels.length := Int.ofNat.inj hl
    refine d_callv (hs a b ha hb s t) (d_l _ rfl fun _ => d_ite (fun h => d_ret ⟨_, rfl, false, L, bad ?_, rfl⟩) fun h => ?_)
    · have h : (free || decide (prN ds[a] s = prN ds[b] t)) = false := by revert h; cases (free || decide (prN ds[a] s = prN ds[b] t)) <;> simp
      rw [hloc, h]; simp
    have h : (free || decide (prN ds[a] s = prN ds[b] t)) = true := by revert h; cases (free || decide (prN ds[a] s = prN ds[b] t)) <;> simp
    have hlocT : locB ds free (keyOf free a b s t) = true := by rw [hloc, h]; simp [hk, hl]
    refine d_call (ok_key _ (mpOf L) _ free a b s t h4) (d_l _ (key_gnd _) fun _ => d_l _ (e_mget L _) fun _ => d_dec (fun hm => d_ret ⟨_, rfl, true, L, ⟨fun _ h => h, hL, fun _ => ⟨hm, fun q h1 h2 => absurd h1 h2⟩, (fun h => by cases h)⟩, rfl⟩) fun hm => ?_)
    refine d_call (ok_key _ (mpOf L) _ free a b s t h4) (d_l _ (key_gnd _) fun _ => d_l _ (e_mset L _ hm) fun _ => d_l (i (ds[a].next.length : Int)) (by rw [← List.length_map (f := Rf.enc)]; exact e_len) fun _ => ?_)
    have har : arity ds (keyOf free a b s t) = ds[a].next.length := by simp [arity, keyOf, List.getElem?_eq_getElem ha]
    have hda : ds[(keyOf free a b s t).a.toNat]? = some ds[a] := by simp [keyOf, List.getElem?_eq_getElem ha]
    have hdb : ds[(keyOf free a b s t).b.toNat]? = some ds[b] := by simp [keyOf, List.getElem?_eq_getElem hb]
    have hlocK : locB ds free (keyOf free a b s t) = true ∧ InR free (keyOf free a b s t) := ⟨hlocT, inR_key _ _ _ _ _⟩
    refine den_loop (fun m ys => ∃ (j : Nat) (M : List Key), j + m = ds[a].next.length ∧ (∀ q ∈ L ++ [keyOf free a b s t], q ∈ M) ∧ (∀ q ∈ M, locB ds free q = true ∧ InR free q) ∧
      (∀ q ∈ M, q ∉ L → q ≠ keyOf free a b s t → ∀ j, j < arity ds q → ∃ q', Nx ds free q j q' ∧ q' ∈ M) ∧ (∀ j', j' < j → ∃ q', Nx ds free (keyOf free a b s t) j' q' ∧ q' ∈ M) ∧
      ys = [i j, .sl (ds.map Nd.enc), mpOf M, .fn f [] cs, .bool free]) ds[a].next.length ⟨0, L ++ [keyOf free a b s t], by omega, fun _ h => h, fun q hq => ?_, fun q hq h1 h2 => ?_, (fun j' h => by omega), rfl⟩ ?_
    · rcases List.mem_append.1 hq with hq | hq
      · exact hL q hq
      · obtain rfl : q = keyOf free a b s t := by simpa using hq
        exact hlocK
    · rcases List.mem_append.1 hq with hq | hq
      · exact absurd hq h1
      · exact absurd (by simpa using hq) h2
    rintro m _ ⟨j, M, hj, hM1, hM2, hM3, hM4, rfl⟩
    refine d_l _ rfl fun _ => d_dec (fun h => ?_) fun h => d_ret ⟨_, rfl, true, M, ⟨fun q hq => hM1 q (List.mem_append.2 (.inl hq)), hM2, fun _ => ⟨hM1 _ (by simp), fun q hq hqL j' hj' => ?_⟩, (fun h => by cases h)⟩, rfl⟩
    · have hjlt : j < ds[a].next.length := by
        have h : (j : Int) < (ds[a].next.length : Int) := h
        omega
      have hact : act ds[a].kind = true := by
        have h1 := hna.k1; have h3 := hna.n3
        simp only [act, decide_eq_true_eq]
        clear hna hnb
        omega
      have hleft : (left ds.length M).length < fuel := by
        have h1 : (left ds.length M).length ≤ (left ds.length (L ++ [keyOf free a b s t])).length := left_mono hM1
        have h2 : (left ds.length (L ++ [keyOf free a b s t])).length < (left ds.length L).length := left_lt (left_mem.2 ⟨⟨ha, hb⟩, fun q hq hab => hm (by rw [← same_pair (hL q hq) hlocK hab.1 hab.2 hda hact]; exact hq)⟩) rfl rfl
        omega
      have hu := hna.node' _ (List.getElem_mem hjlt)
      -- the step for a rest q of b
      have go : ∀ (q : Nat) (hq : q < ds[b].next.length), Sel ds[a] ds[b] j q → ∃ r M', OkS P F.equal_comparison_equal sg_equal_comparison_equal [ref ds[a].next[j].node (ad ds[a].next[j].shift s), ref ds[b].next[q].node (ad ds[b].next[q].shift t), .sl (ds.map Nd.enc), .fn f [] cs, .bool free, mpOf M] [.bool r, .sl (ds.map Nd.enc), .fn f [] cs, .bool free, mpOf M'] ∧
          (r = false → Res ds free L (keyOf free a b s t) false M') ∧ (r = true → (∀ q ∈ L ++ [keyOf free a b s t], q ∈ M') ∧ (∀ q ∈ M', locB ds free q = true ∧ InR free q) ∧
            (∀ q ∈ M', q ∉ L → q ≠ keyOf free a b s t → ∀ j, j < arity ds q → ∃ q', Nx ds free q j q' ∧ q' ∈ M') ∧ (∀ j', j' < j + 1 → ∃ q', Nx ds free (keyOf free a b s t) j' q' ∧ q' ∈ M')) := by
        intro q hq hsel
        have hv := hnb.node' _ (List.getElem_mem hq)
        obtain ⟨r, M', hR, hok⟩ := ih _ hleft M hM2 (Nat.le_refl _) ds[a].next[j].node.toNat ds[b].next[q].node.toNat (by omega) (by omega) (ad ds[a].next[j].shift s) (ad ds[b].next[q].shift t)
        rw [show ((ds[a].next[j].node.toNat : Nat) : Int) = ds[a].next[j].node by omega, show ((ds[b].next[q].node.toNat : Nat) : Int) = ds[b].next[q].node by omega] at hR hok
        have hnx : Nx ds free (keyOf free a b s t) j (keyOf free ds[a].next[j].node ds[b].next[q].node (ad ds[a].next[j].shift s) (ad ds[b].next[q].shift t)) :=
          ⟨ds[a], ds[b], hda, hdb, ds[a].next[j], ds[b].next[q], q, List.getElem?_eq_getElem hjlt, List.getElem?_eq_getElem hq, hsel, key_next free _ _ a b s t⟩
        refine ⟨r, M', hok, fun hr => ⟨fun q hq => hR.sub q (hM1 q (List.mem_append.2 (.inl hq))), hR.loc, (fun h => by cases h), fun _ he => ?_⟩, fun hr => ⟨fun q hq => hR.sub q (hM1 q hq), hR.loc, fun p hp hpL hpk j' hj' => ?_, fun j' hj' => ?_⟩⟩
        · refine hR.no hr ?_
          obtain ⟨N, hN, hkN⟩ := he
          obtain ⟨k', ⟨x, y, hx, hy, u, v, q', hu', hv', hsel', rfl⟩, hk'⟩ := (hN _ hkN).2 j (by rw [har]; exact hjlt)
          rw [hda] at hx; cases hx
          rw [hdb] at hy; cases hy
          rw [List.getElem?_eq_getElem hjlt] at hu'; cases hu'
          have := sel_fun hsel' hsel
          subst this
          rw [List.getElem?_eq_getElem hq] at hv'; cases hv'
          rw [← key_next free _ _ a b s t] at hk'
          exact ⟨N, hN, hk'⟩
        · by_cases hpM : p ∈ M
          · obtain ⟨q', h1, h2⟩ := hM3 p hpM hpL hpk j' hj'
            exact ⟨q', h1, hR.sub q' h2⟩
          · exact (hR.yes hr).2 p hp hpM j' hj'
        · by_cases he : j' = j
          · subst he
            exact ⟨_, hnx, (hR.yes hr).1⟩
          · obtain ⟨q', h1, h2⟩ := hM4 j' (by omega)
            exact ⟨q', h1, hR.sub q' h2⟩
      refine d_l _ e_len fun _ => d_l _ rfl fun _ => d_dec (fun h0 => ?_) fun h0 => ?_
      · have h0 : (0 : Int) < ((ds[a].labels.map PV.str).length : Int) := h0
        rw [List.length_map] at h0
        have h0 : 0 < ds[a].labels.length := by omega
        have hxa : ds[a].next.length = ds[a].labels.length ∧ ds[b].next.length = ds[b].labels.length := by
          have a1 := hna.k1; have a3 := hna.n3; have a5 := hna.n5; have a7 := hna.n7
          have b7 := hnb.n7
          clear hna hnb
          omega
        have hjl : j < ds[a].labels.length := by omega
        obtain ⟨r, hix, hat⟩ := ok_slices_Index_string_string ds[b].labels ds[a].labels[j] hlb.1
        refine d_l _ (e_idx (str_at hjl) rfl) fun _ => d_call hix (d_call (ok_head_Next ds a ha s j hjlt) (d_l (ref ds[a].next[j].node (ad ds[a].next[j].shift s)) rfl fun _ => d_l (.bool true) rfl fun _ => d_l (ref ds[a].next[j].node (ad ds[a].next[j].shift s)) rfl fun _ => ?_))
        rcases hat with ⟨rfl, hno⟩ | ⟨q, rfl, hq, hfirst⟩
        · refine d_call (ok_head_Next_no ds b hb t (-1) (.inl (by omega))) (d_l (ref 0 0) rfl fun _ => d_l (.bool false) rfl fun _ => d_l (ref 0 0) rfl fun _ => d_l _ rfl fun _ => d_true (d_ret ⟨_, rfl, false, M, ⟨fun q hq => hM1 q (List.mem_append.2 (.inl hq)), hM2, (fun h => by cases h), fun _ he => ?_⟩, rfl⟩))
          obtain ⟨N, hN, hkN⟩ := he
          obtain ⟨k', ⟨x, y, hx, hy, u, v, q', hu', hv', hsel', rfl⟩, hk'⟩ := (hN _ hkN).2 j (by rw [har]; exact hjlt)
          rw [hda] at hx; cases hx
          rw [hdb] at hy; cases hy
          unfold Sel at hsel'
          rw [if_pos h0] at hsel'
          obtain ⟨z, z1, z2, _⟩ := hsel'
          rw [List.getElem?_eq_getElem hjl] at z1; cases z1
          exact hno (List.mem_of_getElem? z2)
        · have hql : q < ds[b].labels.length := (List.getElem?_eq_some_iff.1 hq).1
          have hqn : q < ds[b].next.length := by omega
          obtain ⟨r, M', hok, hf, ht⟩ := go q hqn (by unfold Sel; rw [if_pos h0]; exact ⟨_, List.getElem?_eq_getElem hjl, hq, hfirst⟩)
          refine d_call (ok_head_Next ds b hb t q hqn) (d_l (ref ds[b].next[q].node (ad ds[b].next[q].shift t)) rfl fun _ => d_l (.bool true) rfl fun _ => d_l (ref ds[b].next[q].node (ad ds[b].next[q].shift t)) rfl fun _ => d_l _ rfl fun _ => d_false (d_calls rfl hok (d_l (.bool (!r)) rfl fun _ => d_ite (fun h => d_ret ⟨_, rfl, false, M', hf (by simpa using h), rfl⟩) fun h => d_l _ (e_inc (by omega)) fun _ => d_cont rfl ?_)))
          obtain ⟨t1, t2, t3, t4⟩ := ht (by simpa using h)
          exact ⟨m - 1, by omega, j + 1, M', by omega, t1, t2, t3, t4, rfl⟩
      · have h0 : ¬ (0 : Int) < ((ds[a].labels.map PV.str).length : Int) := h0
        rw [List.length_map] at h0
        have h0 : ¬ 0 < ds[a].labels.length := by omega
        have hqn : j < ds[b].next.length := by
          have a1 := hna.k1; have a3 := hna.n3; have a5 := hna.n5; have a7 := hna.n7
          have b3 := hnb.n3; have b5 := hnb.n5
          clear hna hnb
          omega
        obtain ⟨r, M', hok, hf, ht⟩ := go j hqn (by unfold Sel; rw [if_neg h0])
        refine d_call (ok_head_Next ds a ha s j hjlt) (d_l (ref ds[a].next[j].node (ad ds[a].next[j].shift s)) rfl fun _ => d_l (.bool true) rfl fun _ => d_l (ref ds[a].next[j].node (ad ds[a].next[j].shift s)) rfl fun _ => ?_)
        refine d_call (ok_head_Next ds b hb t j hqn) (d_l (ref ds[b].next[j].node (ad ds[b].next[j].shift t)) rfl fun _ => d_l (.bool true) rfl fun _ => d_l (ref ds[b].next[j].node (ad ds[b].next[j].shift t)) rfl fun _ => d_l _ rfl fun _ => d_false (d_calls rfl hok (d_l (.bool (!r)) rfl fun _ => d_ite (fun h => d_ret ⟨_, rfl, false, M', hf (by simpa using h), rfl⟩) fun h => d_l _ (e_inc (by omega)) fun _ => d_cont rfl ?_)))
        obtain ⟨t1, t2, t3, t4⟩ := ht (by simpa using h)
        exact ⟨m - 1, by omega, j + 1, M', by omega, t1, t2, t3, t4, rfl⟩
    · have h : ¬ (j : Int) < (ds[a].next.length : Int) := h
      by_cases he : q = keyOf free a b s t
      · subst he
        rw [har] at hj'
        exact hM4 j' (by omega)
      · exact hM3 q hq hqL he j' hj')
  obtain ⟨_, ⟨r, L', hR, rfl⟩, h⟩ := this
  exact ⟨r, L', hR, h⟩

end Go.Proofs.YtopinhoalbgebaaGreatDoor.Tx

/- Contracts: Equal, Alike. -/
namespace Go.Proofs.YtopinhoalbgebaaGreatDoor.Tx
open Go.Lf Go.Lf.S Go.Lf.Duo
set_option maxRecDepth 100000

theorem res_iff {ds : List Nd} {free : Bool} {k : Key} {r : Bool} {L : List Key} (h : Res ds free [] k r L) : r = true ↔ Eqv ds free k := by
  cases r with
  | true => exact ⟨fun _ => ⟨L, fun q hq => ⟨(h.loc q hq).1, (h.yes rfl).2 q hq (by simp)⟩, (h.yes rfl).1⟩, fun _ => rfl⟩
  | false => exact ⟨(fun h => by cases h), fun he => absurd he (h.no rfl)⟩

theorem same_Equal (ds : List Nd) : SameOk ds false F.equal_Equal_1 [.box (.agg [.sl (ds.map Nd.enc)])] := fun a b ha hb s t => ok_equal_Equal_1 ds a b ha hb s t
theorem ok_equal_Equal {ds : List Nd} (hg : GrOk' ds) {a b : Nat} (ha : a < ds.length) (hb : b < ds.length) (s t : Int) :
    ∃ r, Ok P F.equal_Equal [.agg [.sl (ds.map Nd.enc)], ref a s, ref b t] (.bool r) ∧ (r = true ↔ Eqv ds false (keyOf false a b s t)) := by
  obtain ⟨r, L', hR, hok⟩ := ok_comparison_equal hg (same_Equal ds) _ [] (fun q hq => by cases hq) (Nat.le_refl _) a b ha hb s t
  exact ⟨r, k_equal_Equal _ _ rfl (d_l (.agg [.sl (ds.map Nd.enc)]) rfl fun _ => d_l (ref a s) rfl fun _ => d_l (ref b t) rfl fun _ => d_l _ rfl fun _ => d_calls rfl hok (d_ret rfl)), res_iff hR⟩
end Go.Proofs.YtopinhoalbgebaaGreatDoor.Tx

/- Equality is transitive. -/
namespace Go.Proofs.YtopinhoalbgebaaGreatDoor.Tx
open Go.Lf Go.Lf.S Go.Lf.Duo
set_option maxRecDepth 100000

end Go.Proofs.YtopinhoalbgebaaGreatDoor.Tx

/- Equality is reflexive. -/
namespace Go.Proofs.YtopinhoalbgebaaGreatDoor.Tx
open Go.Lf Go.Lf.S Go.Lf.Duo
set_option maxRecDepth 100000

theorem eqv_refl {ds : List Nd} (hg : GrOk' ds) (free : Bool) {a : Nat} (ha : a < ds.length) : Eqv ds free ⟨a, a, 0⟩ := by
  refine ⟨(List.range ds.length).map fun c : Nat => ⟨(c : Int), (c : Int), 0⟩, fun k hk => ?_, List.mem_map.2 ⟨a, List.mem_range.2 ha, rfl⟩⟩
  obtain ⟨c, hc, rfl⟩ := List.mem_map.1 hk
  have hc : c < ds.length := List.mem_range.1 hc
  have hgc : ds[((c : Nat) : Int).toNat]? = some ds[c] := by simp [hc]
  have hn := hg.2 _ (List.getElem_mem hc)
  refine ⟨by unfold locB; simp only [hgc]; simp, fun j hj => ?_⟩
  have hj : j < ds[c].next.length := by simpa [arity, hc] using hj
  have hnode := hn.node' _ (List.getElem_mem hj)
  refine ⟨⟨ds[c].next[j].node, ds[c].next[j].node, 0⟩, ⟨ds[c], ds[c], hgc, hgc, ds[c].next[j], ds[c].next[j], j, List.getElem?_eq_getElem hj, List.getElem?_eq_getElem hj, ?_, ?_⟩, List.mem_map.2 ⟨ds[c].next[j].node.toNat, List.mem_range.2 (by omega), ?_⟩⟩
  · unfold Sel
    split
    · rename_i h0
      have hjl : j < ds[c].labels.length := by
        have a1 := hn.k1; have a3 := hn.n3; have a5 := hn.n5; have a7 := hn.n7
        clear hn
        omega
      refine ⟨ds[c].labels[j], List.getElem?_eq_getElem hjl, List.getElem?_eq_getElem hjl, fun p hp he => ?_⟩
      have hpl : p < ds[c].labels.length := by omega
      rw [List.getElem?_eq_getElem hpl] at he
      have := (List.pairwise_iff_getElem.1 hn.nd) p j hpl hjl hp
      exact this (Option.some.inj he)
    · rfl
  · cases free
    · simp only [Bool.false_eq_true, if_false, Key.mk.injEq, true_and]
      rw [show ds[c].next[j].shift - ds[c].next[j].shift + 0 = 0 by omega]
      rfl
    · rfl
  · have : ((ds[c].next[j].node.toNat : Nat) : Int) = ds[c].next[j].node := by omega
    simp only [this]

end Go.Proofs.YtopinhoalbgebaaGreatDoor.Tx

/- Equality is symmetric; equal is alike. -/
namespace Go.Proofs.YtopinhoalbgebaaGreatDoor.Tx
open Go.Lf Go.Lf.S Go.Lf.Duo
set_option maxRecDepth 100000

theorem NdOk.lab {n : Int} {x : Nd} (hx : NdOk 0 n [] x) (h0 : 0 < x.labels.length) : x.next.length = x.labels.length := by
  have a1 := hx.k1; have a3 := hx.n3; have a5 := hx.n5; have a7 := hx.n7
  clear hx
  omega
theorem nodup_at {l : List ByteArray} (h : l.Nodup) {s : ByteArray} {i j : Nat} (hi : l[i]? = some s) (hj : l[j]? = some s) : i = j := by
  obtain ⟨h1, e1⟩ := List.getElem?_eq_some_iff.1 hi
  obtain ⟨h2, e2⟩ := List.getElem?_eq_some_iff.1 hj
  rcases Nat.lt_trichotomy i j with hl | hl | hl
  · exact absurd (e1.trans e2.symm) ((List.pairwise_iff_getElem.1 h) i j h1 h2 hl)
  · exact hl
  · exact absurd (e2.trans e1.symm) ((List.pairwise_iff_getElem.1 h) j i h2 h1 hl)

end Go.Proofs.YtopinhoalbgebaaGreatDoor.Tx

/- Contracts: the graphs of a short list of small types (no dual). -/
namespace Go.Proofs.YtopinhoalbgebaaGreatDoor.Tx
open Go.Lf Go.Lf.S Go.Lf.Duo
set_option maxRecDepth 100000

theorem szs_bound' (m : Nat) : ∀ l : List Ty, (∀ t ∈ l, t.sz ≤ m) → Ty.szs l ≤ l.length * m
  | [], _ => by simp [Ty.szs]
  | t :: l, h => by
    have h1 := h t List.mem_cons_self
    have h2 := szs_bound' m l fun x hx => h x (List.mem_cons_of_mem _ hx)
    simp only [Ty.szs, List.length_cons, Nat.add_mul, Nat.one_mul]
    omega

theorem built' (l : List Ty) (a m : Nat) (hl : (l.length : Int) ≤ a) (ham : a * m ≤ 274877906944) (hs : ∀ t ∈ l, (t.sz : Int) ≤ m ∧ Wf t [] 0) :
    ∃ (ds : List Nd) (rs : List Rf), Ok P F.ref07_Build [.sl (l.map Ty.enc)] (.tup [.sl (ds.map Nd.enc), .sl (rs.map Rf.enc)]) ∧
      Ok P F.law08_Graph [.sl (l.map Ty.enc)] (.tup [.agg [.sl (ds.map Nd.enc)], .sl (rs.map Rf.enc)]) ∧ (ds.length ≤ 274877906944 ∧ ∀ d ∈ ds, NdOk 0 ds.length [] d) ∧ rs.length = l.length ∧
      (∀ (j : Nat) (r : Rf), rs[j]? = some r → 0 ≤ r.node ∧ r.node < ds.length ∧ 0 < ds.length) ∧ ds = belowsF l 0 [] [] ∧ rs = nextsF l 0 [] [] := by
  have hz : Ty.szs l ≤ l.length * m := szs_bound' m l fun t ht => by have := (hs t ht).1; omega
  have hz2 : l.length * m ≤ a * m := Nat.mul_le_mul_right _ (by omega)
  have hll := szs_len l
  have hgl := gcs_le l
  obtain ⟨ds, rs, hB, hd, hr, hds, hrs, hdf, hrf⟩ := ok_ref07_Build l (fun t ht => (hs t ht).2) (by omega)
  refine ⟨ds, rs, hB, ok_law08_Graph l hB (fun d hd' => (hds d hd').len) (by omega) (by omega), ⟨by omega, ?_⟩, hr, fun j r hj => ?_, hdf, hrf⟩
  · rw [hd]; exact hds
  · obtain ⟨h1, h2, _, _, h3⟩ := hrs j r hj
    omega

/-! lists of numbers -/
end Go.Proofs.YtopinhoalbgebaaGreatDoor.Tx

/- Subtyping of nodes: what a pair needs, closed sets of pairs; reflexive, transitive; both ways it is equality. -/
namespace Go.Proofs.YtopinhoalbgebaaGreatDoor.Tx
open Go.Lf Go.Lf.S Go.Lf.Duo
set_option maxRecDepth 100000

def kSt (u v : Rf) (d : Int) : Key := ⟨u.node, v.node, IntKind.i64.wrap (u.shift - v.shift + d)⟩
def kSw (u v : Rf) (d : Int) : Key := ⟨v.node, u.node, IntKind.i64.wrap (v.shift - u.shift - d)⟩
/-- a pair of rests that must be related -/
def NdNeed (x y : Nd) (d : Int) (k' : Key) : Prop :=
  (x.kind = 4 ∧ ∃ u v, x.next[0]? = some u ∧ y.next[0]? = some v ∧ k' = kSw u v d) ∨
  (x.kind = 4 ∧ ∃ u v, x.next[1]? = some u ∧ y.next[1]? = some v ∧ k' = kSt u v d) ∨
  (x.kind = 5 ∧ ∃ (j : Nat) (u v : Rf), j < 2 ∧ x.next[j]? = some u ∧ y.next[j]? = some v ∧ k' = kSt u v d) ∨
  ((x.kind = 6 ∨ x.kind = 7) ∧ ∃ (i j : Nat) (u v : Rf) (s : ByteArray), x.labels[i]? = some s ∧ y.labels[j]? = some s ∧ x.next[i]? = some u ∧ y.next[j]? = some v ∧ k' = kSt u v d)
/-- what the nodes of a pair have in common -/
def NdLoc (x y : Nd) (d : Int) : Prop := x.kind = y.kind ∧ (act x.kind = true → ad x.prio d = ad y.prio 0) ∧ (x.kind = 6 → ∀ s ∈ y.labels, s ∈ x.labels) ∧ (x.kind = 7 → ∀ s ∈ x.labels, s ∈ y.labels)
def SOk (ds : List Nd) (R : Key → Prop) (k : Key) : Prop := 0 ≤ k.a ∧ 0 ≤ k.b ∧ ∃ x y, ds[k.a.toNat]? = some x ∧ ds[k.b.toNat]? = some y ∧ NdLoc x y k.d ∧ ∀ k', NdNeed x y k.d k' → R k'
def SubE (ds : List Nd) (k : Key) : Prop := ∃ R : Key → Prop, R k ∧ ∀ q, R q → SOk ds R q
theorem SubE.ok {ds : List Nd} {k : Key} (h : SubE ds k) : SOk ds (SubE ds) k := by
  obtain ⟨R, h1, h2⟩ := h
  obtain ⟨a0, b0, x, y, hx, hy, hl, hn⟩ := h2 k h1
  exact ⟨a0, b0, x, y, hx, hy, hl, fun k' hk => ⟨R, hn k' hk, h2⟩⟩

end Go.Proofs.YtopinhoalbgebaaGreatDoor.Tx

/- Subtyping both ways is equality. -/
namespace Go.Proofs.YtopinhoalbgebaaGreatDoor.Tx
open Go.Lf Go.Lf.S Go.Lf.Duo
set_option maxRecDepth 100000

theorem eqv_of_pred {ds : List Nd} (R : Key → Prop) (hd : ∀ k, R k → 0 ≤ k.a ∧ 0 ≤ k.b ∧ IntKind.i64.wrap k.d = k.d) (hR : ∀ k, R k → locB ds false k = true ∧ ∀ j, j < arity ds k → ∃ k', Nx ds false k j k' ∧ R k') {k : Key} (h : R k) : Eqv ds false k := by
  classical
  obtain ⟨D, hD⟩ : ∃ D : List Int, ∀ x : Int, IntKind.i64.wrap x ∈ D := by
    refine ⟨(List.range 18446744073709551616).map fun n : Nat => (n : Int) - 9223372036854775808, fun x => List.mem_map.2 ?_⟩
    have hw : -9223372036854775808 ≤ IntKind.i64.wrap x ∧ IntKind.i64.wrap x ≤ 9223372036854775807 := by
      simp only [IntKind.wrap, IntKind.signed, IntKind.bits]; simp; omega
    exact ⟨(IntKind.i64.wrap x + 9223372036854775808).toNat, List.mem_range.2 (by omega), by omega⟩
  let L : List Key := ((List.range ds.length).flatMap fun p : Nat => (List.range ds.length).flatMap fun q : Nat => D.map fun d => (⟨(p : Int), (q : Int), d⟩ : Key)).filter fun k => decide (R k)
  have mem : ∀ k, R k → k ∈ L := by
    intro k hk
    obtain ⟨h0, h1, h2⟩ := hd k hk
    have hl := (hR k hk).1
    have hal : k.a.toNat < ds.length ∧ k.b.toNat < ds.length := by
      unfold locB at hl
      split at hl
      · rename_i x y hx hy
        exact ⟨(List.getElem?_eq_some_iff.1 hx).1, (List.getElem?_eq_some_iff.1 hy).1⟩
      · cases hl
    simp only [L, List.mem_filter, List.mem_flatMap, List.mem_map, List.mem_range, decide_eq_true_eq]
    refine ⟨⟨k.a.toNat, hal.1, k.b.toNat, hal.2, k.d, ?_, ?_⟩, hk⟩
    · rw [← h2]; exact hD _
    · rw [Int.toNat_of_nonneg h0, Int.toNat_of_nonneg h1]
  refine ⟨L, fun k hk => ?_, mem _ h⟩
  simp only [L, List.mem_filter, decide_eq_true_eq] at hk
  obtain ⟨h1, h2⟩ := hR k hk.2
  refine ⟨h1, fun j hj => ?_⟩
  obtain ⟨k', h3, h4⟩ := h2 j hj
  exact ⟨k', h3, mem k' h4⟩

end Go.Proofs.YtopinhoalbgebaaGreatDoor.Tx

/- Contracts: producers (references of a context, priorities), the least priority. -/
namespace Go.Proofs.YtopinhoalbgebaaGreatDoor.Tx
open Go.Lf Go.Lf.S Go.Lf.Duo
set_option maxRecDepth 100000

/-- the priority of a reference -/
def pr (ds : List Nd) (r : Rf) : Option Int := match ds[r.node.toNat]? with
  | some d => if act d.kind then some (ad d.prio r.shift) else none
  | none => none
def InG (ds : List Nd) (r : Rf) : Prop := 0 ≤ r.node ∧ r.node < ds.length

theorem ok_head_Prio' {ds : List Nd} {r : Rf} (h : InG ds r) : Ok P F.head_Prio [.agg [.sl (ds.map Nd.enc)], r.enc] (match pr ds r with | some p => .tup [i p, .bool true] | none => .tup [i 0, .bool false]) := by
  obtain ⟨h1, h2⟩ := h
  have hn : r.node = ((r.node.toNat : Nat) : Int) := by omega
  have ha : r.node.toNat < ds.length := by omega
  have := ok_head_Prio ds r.node.toNat ha r.shift
  rw [← hn] at this
  unfold pr
  rw [List.getElem?_eq_getElem ha]
  cases hx : act ds[r.node.toNat].kind
  · rw [hx] at this; simp only [hx]; exact this
  · rw [hx] at this; simp only [hx]; exact this

end Go.Proofs.YtopinhoalbgebaaGreatDoor.Tx

/- Contracts (Wk15, Wk16, Wk17, Wk18, Wk19, Wk20, Wb, Wk80, Wk81, Wk30, Wk33). -/
import Derived.Test.YtopinhoalbgebaaGreatDoorWk14
set_option linter.all false
/- Contract: a comparison decides the equality of two references. -/
namespace Go.Proofs.YtopinhoalbgebaaGreatDoor.Tx
open Go.Lf Go.Lf.S Go.Lf.Duo
set_option maxRecDepth 100000

theorem tx_exS {f : Nat} {sg : Sig} {t : List PV → T PV} (h : TxOkS P f sg t) {K : List PV → Prop} {xs : List PV} (hd : (t xs).dt) (hden : (t xs).den0 P (fun r => ∃ ys, r = .tup ys ∧ K ys) []) : ∃ ys, K ys ∧ OkS P f sg xs ys := by
  obtain ⟨r, ⟨ys, rfl, hk⟩, h1⟩ := den_ex (t xs) hd [] (fun _ => []) (fun _ => rfl) (fun j g ys h => by simp at h) hden
  exact ⟨ys, hk, h xs ys h1⟩

theorem NdOk.node' {n : Int} {d : Nd} (h : NdOk 0 n [] d) : ∀ r ∈ d.next, 0 ≤ r.node ∧ r.node < n := by
  intro r hr
  obtain ⟨a, b⟩ := h.nx r hr
  rcases a with ⟨q, hq, _⟩ | ⟨a1, a2⟩
  · cases hq
  · exact ⟨a1, a2⟩
def GrOk' (ds : List Nd) : Prop := ds.length ≤ 274877906944 ∧ ∀ d ∈ ds, NdOk 0 ds.length [] d

def ref (a s : Int) : PV := .agg [i a, i s]
def SameOk (ds : List Nd) (free : Bool) (f : Nat) (cs : List PV) : Prop :=
  ∀ (a b : Nat) (ha : a < ds.length) (hb : b < ds.length) (s t : Int), Ok P f ([] ++ [ref a s, ref b t] ++ cs) (.bool (free || decide (prN ds[a] s = prN ds[b] t)))

def InR (free : Bool) (k : Key) : Prop := (free = true → k.d = 0) ∧ IntKind.i64.wrap k.d = k.d
theorem wrap_wrap (x : Int) : IntKind.i64.wrap (IntKind.i64.wrap x) = IntKind.i64.wrap x := by
  rw [wrap_eq]; exact wrap_mod x
theorem inR_key (free : Bool) (a b s t : Int) : InR free (keyOf free a b s t) := by
  refine ⟨fun h => by simp [keyOf, h], ?_⟩
  cases free
  · exact wrap_wrap _
  · rfl

structure Res (ds : List Nd) (free : Bool) (L : List Key) (k : Key) (r : Bool) (L' : List Key) : Prop where
  sub : ∀ q ∈ L, q ∈ L'
  loc : ∀ q ∈ L', locB ds free q = true ∧ InR free q
  yes : r = true → k ∈ L' ∧ ∀ q ∈ L', q ∉ L → ∀ j, j < arity ds q → ∃ q', Nx ds free q j q' ∧ q' ∈ L'
  no : r = false → ¬ Eqv ds free k

theorem loc_key {ds : List Nd} {free : Bool} {a b : Nat} (ha : a < ds.length) (hb : b < ds.length) (s t : Int) :
    locB ds free (keyOf free a b s t) = (decide (ds[a].kind = ds[b].kind) && decide (ds[a].labels.length = ds[b].labels.length) && (free || decide (prN ds[a] s = prN ds[b] t))) := by
  simp only [locB, keyOf, Int.toNat_natCast, List.getElem?_eq_getElem ha, List.getElem?_eq_getElem hb]
  by_cases h : ds[a].kind = ds[b].kind
  · cases free
    · simp only [Bool.false_or, Bool.false_eq_true, if_false]
      congr 1
      exact decide_eq_decide.2 (pr_iff h s t).symm
    · simp
  · simp [h]
theorem eqv_loc {ds : List Nd} {free : Bool} {k : Key} (h : Eqv ds free k) : locB ds free k = true := by
  obtain ⟨L, hc, hk⟩ := h
  exact (hc k hk).1

theorem same_pair {ds : List Nd} {free : Bool} {q k : Key} (hq : locB ds free q = true ∧ InR free q) (hk : locB ds free k = true ∧ InR free k) (ha : q.a = k.a) (hb : q.b = k.b) {x : Nd} (hx : ds[k.a.toNat]? = some x) (hact : act x.kind = true) : q = k := by
  have hd : q.d = k.d := by
    cases free with
    | true => rw [hq.2.1 rfl, hk.2.1 rfl]
    | false =>
      obtain ⟨hq, _, hq2⟩ := hq
      obtain ⟨hk, _, hk2⟩ := hk
      simp only [locB, ha, hb, hx] at hq hk
      cases hy : ds[k.b.toNat]? with
      | none => rw [hy] at hk; cases hk
      | some y =>
        rw [hy] at hq hk
        simp only [Bool.false_or, Bool.and_eq_true, decide_eq_true_eq] at hq hk
        have h1 := hq.2 hact
        have h2 := hk.2 hact
        have h3 : ad x.prio q.d = ad x.prio k.d := h1.trans h2.symm
        simp only [ad, wrap_eq] at h3
        rw [← hq2, ← hk2, wrap_eq]
        omega
  obtain ⟨a, b, d⟩ := q
  obtain ⟨a', b', d'⟩ := k
  simp only at ha hb hd
  subst ha; subst hb; subst hd; rfl

/-- the key behind a rest, as the code finds it -/
theorem key_next (free : Bool) (u v : Rf) (a b s t : Int) : keyOf free u.node v.node (ad u.shift s) (ad v.shift t) = ⟨u.node, v.node, if free then 0 else IntKind.i64.wrap (u.shift - v.shift + (keyOf free a b s t).d)⟩ := by
  cases free
  · simp only [keyOf, Bool.false_eq_true, if_false, Key.mk.injEq, true_and]
    rw [wrap_eq]
    have h1 := wrap_mod (u.shift + s)
    have h2 := wrap_mod (v.shift + t)
    have h3 := wrap_mod (s - t)
    unfold ad
    omega
  · simp [keyOf]

theorem sel_fun {x y : Nd} {j q q' : Nat} (h : Sel x y j q) (h' : Sel x y j q') : q = q' := by
  unfold Sel at h h'
  split at h
  · rename_i h0
    rw [if_pos h0] at h'
    obtain ⟨s, h1, h2, h3⟩ := h
    obtain ⟨s', h1', h2', h3'⟩ := h'
    rw [h1] at h1'; cases h1'
    rcases Nat.lt_trichotomy q q' with hl | hl | hl
    · exact absurd h2 (h3' q hl)
    · exact hl
    · exact absurd h2' (h3 q' hl)
  · rename_i h0
    rw [if_neg h0] at h'
    rw [h, h']

end Go.Proofs.YtopinhoalbgebaaGreatDoor.Tx

/- Contract: a comparison decides the equality of two references (2). -/
namespace Go.Proofs.YtopinhoalbgebaaGreatDoor.Tx
open Go.Lf Go.Lf.S Go.Lf.Duo
set_option maxRecDepth 100000

theorem ok_comparison_equal {ds : List Nd} {free : Bool} {f : Nat} {cs : List PV} (hg : GrOk' ds) (hs : SameOk ds free f cs) : ∀ (fuel : Nat) (L : List Key), (∀ q ∈ L, locB ds free q = true ∧ InR free q) → (left ds.length L).length ≤ fuel →
    ∀ (a b : Nat), a < ds.length → b < ds.length → ∀ (s t : Int), ∃ r L', Res ds free L (keyOf free a b s t) r L' ∧
      OkS P F.equal_comparison_equal sg_equal_comparison_equal [ref a s, ref b t, .sl (ds.map Nd.enc), .fn f [] cs, .bool free, mpOf L] [.bool r, .sl (ds.map Nd.enc), .fn f [] cs, .bool free, mpOf L'] := by
  intro fuel
  induction fuel using Nat.strongRecOn with
  | _ fuel ih =>
  intro L hL hfuel a b ha hb s t
  have hna := hg.2 _ (List.getElem_mem ha)
  have hnb := hg.2 _ (List.getElem_mem hb)
  have hla := hna.len
  have hlb := hnb.len
  have hla2 : ds[a].next.length ≤ 549755813888 := hla.2
  have bad : locB ds free (keyOf free a b s t) = false → Res ds free L (keyOf free a b s t) false L := fun h => ⟨fun _ h => h, hL, (fun h => by cases h), fun _ he => by rw [eqv_loc he] at h; cases h⟩
  have hloc := loc_key (free := free) ha hb s t
  have h4 : (PV.agg [.sl (ds.map Nd.enc), mpOf L, .fn f [] cs, .bool free]).okc 4 true = true := rfl
  have := tx_exS m_equal_comparison_equal (K := fun ys => ∃ r L', Res ds free L (keyOf free a b s t) r L' ∧ ys = [.bool r, .sl (ds.map Nd.enc), .fn f [] cs, .bool free, mpOf L'])
    (xs := [ref a s, ref b t, .sl (ds.map Nd.enc), .fn f [] cs, .bool free, mpOf L]) (by simp [u_equal_comparison_equal, T.dt]) (by
    refine d_l (ref a s) rfl fun _ => d_l (ref b t) rfl fun _ => d_l _ (e_idx (nd_at ha) (Nd.okc_enc _)) fun _ => d_l _ (e_idx (nd_at hb) (Nd.okc_enc _)) fun _ => d_l _ (e_okc (Nd.okc_enc _)) fun _ => d_l _ (e_okc (Nd.okc_enc _)) fun _ => ?_
    refine d_l _ rfl fun _ => d_ndec (fun hk => d_ret ⟨_, rfl, false, L, bad ?_, rfl⟩) fun hk => ?_
    · have hk : ¬ ds[a].kind = ds[b].kind := hk
      rw [hloc]; simp [hk]
    have hk : ds[a].kind = ds[b].kind := hk
    refine d_l _ e_len fun _ => d_l _ e_len fun _ => d_l _ rfl fun _ => d_ndec (fun hl => d_ret ⟨_, rfl, false, L, bad ?_, rfl⟩) fun hl => ?_
    · have hl : ¬ ((ds[a].labels.map PV.str).length : Int) = ((ds[b].labels.map PV.str).length : Int) := hl
      rw [List.length_map, List.length_map] at hl
      have hl : ¬ ds[a].labels.length = ds[b].labels.length := fun h => hl (by rw [h])
      rw [hloc]; simp [hl]
    have hl : ((ds[a].labels.map PV.str).length : Int) = ((ds[b].labels.map PV.str).length : Int) := hl
    rw [List.length_map, List.length_map] at hl
    have hl : ds[a].labels.length = ds[b].labels.length := Int.ofNat.inj hl
    refine d_callv (hs a b ha hb s t) (d_l _ rfl fun _ => d_ite (fun h => d_ret ⟨_, rfl, false, L, bad ?_, rfl⟩) fun h => ?_)
    · have h : (free || decide (prN ds[a] s = prN ds[b] t)) = false := by revert h; cases (free || decide (prN ds[a] s = prN ds[b] t)) <;> simp
      rw [hloc, h]; simp
    have h : (free || decide (prN ds[a] s = prN ds[b] t)) = true := by revert h; cases (free || decide (prN ds[a] s = prN ds[b] t)) <;> simp
    have hlocT : locB ds free (keyOf free a b s t) = true := by rw [hloc, h]; simp [hk, hl]
    refine d_call (ok_key _ (mpOf L) _ free a b s t h4) (d_l _ (key_gnd _) fun _ => d_l _ (e_mget L _) fun _ => d_dec (fun hm => d_ret ⟨_, rfl, true, L, ⟨fun _ h => h, hL, fun _ => ⟨hm, fun q h1 h2 => absurd h1 h2⟩, (fun h => by cases h)⟩, rfl⟩) fun hm => ?_)
    refine d_call (ok_key _ (mpOf L) _ free a b s t h4) (d_l _ (key_gnd _) fun _ => d_l _ (e_mset L _ hm) fun _ => d_l (i (ds[a].next.length : Int)) (by rw [← List.length_map (f := Rf.enc)]; exact e_len) fun _ => ?_)
    have har : arity ds (keyOf free a b s t) = ds[a].next.length := by simp [arity, keyOf, List.getElem?_eq_getElem ha]
    have hda : ds[(keyOf free a b s t).a.toNat]? = some ds[a] := by simp [keyOf, List.getElem?_eq_getElem ha]
    have hdb : ds[(keyOf free a b s t).b.toNat]? = some ds[b] := by simp [keyOf, List.getElem?_eq_getElem hb]
    have hlocK : locB ds free (keyOf free a b s t) = true ∧ InR free (keyOf free a b s t) := ⟨hlocT, inR_key _ _ _ _ _⟩
    refine den_loop (fun m ys => ∃ (j : Nat) (M : List Key), j + m = ds[a].next.length ∧ (∀ q ∈ L ++ [keyOf free a b s t], q ∈ M) ∧ (∀ q ∈ M, locB ds free q = true ∧ InR free q) ∧
      (∀ q ∈ M, q ∉ L → q ≠ keyOf free a b s t → ∀ j, j < arity ds q → ∃ q', Nx ds free q j q' ∧ q' ∈ M) ∧ (∀ j', j' < j → ∃ q', Nx ds free (keyOf free a b s t) j' q' ∧ q' ∈ M) ∧
      ys = [i j, .sl (ds.map Nd.enc), mpOf M, .fn f [] cs, .bool free]) ds[a].next.length ⟨0, L ++ [keyOf free a b s t], by omega, fun _ h => h, fun q hq => ?_, fun q hq h1 h2 => ?_, (fun j' h => by omega), rfl⟩ ?_
    · rcases List.mem_append.1 hq with hq | hq
      · exact hL q hq
      · obtain rfl : q = keyOf free a b s t := by simpa using hq
        exact hlocK
    · rcases List.mem_append.1 hq with hq | hq
      · exact absurd hq h1
      · exact absurd (by simpa using hq) h2
    rintro m _ ⟨j, M, hj, hM1, hM2, hM3, hM4, rfl⟩
    refine d_l _ rfl fun _ => d_dec (fun h => ?_) fun h => d_ret ⟨_, rfl, true, M, ⟨fun q hq => hM1 q (List.mem_append.2 (.inl hq)), hM2, fun _ => ⟨hM1 _ (by simp), fun q hq hqL j' hj' => ?_⟩, (fun h => by cases h)⟩, rfl⟩
    · have hjlt : j < ds[a].next.length := by
        have h : (j : Int) < (ds[a].next.length : Int) := h
        omega
      have hact : act ds[a].kind = true := by
        have h1 := hna.k1; have h3 := hna.n3
        simp only [act, decide_eq_true_eq]
        clear hna hnb
        omega
      have hleft : (left ds.length M).length < fuel := by
        have h1 : (left ds.length M).length ≤ (left ds.length (L ++ [keyOf free a b s t])).length := left_mono hM1
        have h2 : (left ds.length (L ++ [keyOf free a b s t])).length < (left ds.length L).length := left_lt (left_mem.2 ⟨⟨ha, hb⟩, fun q hq hab => hm (by rw [← same_pair (hL q hq) hlocK hab.1 hab.2 hda hact]; exact hq)⟩) rfl rfl
        omega
      have hu := hna.node' _ (List.getElem_mem hjlt)
      -- the step for a rest q of b
      have go : ∀ (q : Nat) (hq : q < ds[b].next.length), Sel ds[a] ds[b] j q → ∃ r M', OkS P F.equal_comparison_equal sg_equal_comparison_equal [ref ds[a].next[j].node (ad ds[a].next[j].shift s), ref ds[b].next[q].node (ad ds[b].next[q].shift t), .sl (ds.map Nd.enc), .fn f [] cs, .bool free, mpOf M] [.bool r, .sl (ds.map Nd.enc), .fn f [] cs, .bool free, mpOf M'] ∧
          (r = false → Res ds free L (keyOf free a b s t) false M') ∧ (r = true → (∀ q ∈ L ++ [keyOf free a b s t], q ∈ M') ∧ (∀ q ∈ M', locB ds free q = true ∧ InR free q) ∧
            (∀ q ∈ M', q ∉ L → q ≠ keyOf free a b s t → ∀ j, j < arity ds q → ∃ q', Nx ds free q j q' ∧ q' ∈ M') ∧ (∀ j', j' < j + 1 → ∃ q', Nx ds free (keyOf free a b s t) j' q' ∧ q' ∈ M')) := by
        intro q hq hsel
        have hv := hnb.node' _ (List.getElem_mem hq)
        obtain ⟨r, M', hR, hok⟩ := ih _ hleft M hM2 (Nat.le_refl _) ds[a].next[j].node.toNat ds[b].next[q].node.toNat (by omega) (by omega) (ad ds[a].next[j].shift s) (ad ds[b].next[q].shift t)
        rw [show ((ds[a].next[j].node.toNat : Nat) : Int) = ds[a].next[j].node by omega, show ((ds[b].next[q].node.toNat : Nat) : Int) = ds[b].next[q].node by omega] at hR hok
        have hnx : Nx ds free (keyOf free a b s t) j (keyOf free ds[a].next[j].node ds[b].next[q].node (ad ds[a].next[j].shift s) (ad ds[b].next[q].shift t)) :=
          ⟨ds[a], ds[b], hda, hdb, ds[a].next[j], ds[b].next[q], q, List.getElem?_eq_getElem hjlt, List.getElem?_eq_getElem hq, hsel, key_next free _ _ a b s t⟩
        refine ⟨r, M', hok, fun hr => ⟨fun q hq => hR.sub q (hM1 q (List.mem_append.2 (.inl hq))), hR.loc, (fun h => by cases h), fun _ he => ?_⟩, fun hr => ⟨fun q hq => hR.sub q (hM1 q hq), hR.loc, fun p hp hpL hpk j' hj' => ?_, fun j' hj' => ?_⟩⟩
        · refine hR.no hr ?_
          obtain ⟨N, hN, hkN⟩ := he
          obtain ⟨k', ⟨x, y, hx, hy, u, v, q', hu', hv', hsel', rfl⟩, hk'⟩ := (hN _ hkN).2 j (by rw [har]; exact hjlt)
          rw [hda] at hx; cases hx
          rw [hdb] at hy; cases hy
          rw [List.getElem?_eq_getElem hjlt] at hu'; cases hu'
          have := sel_fun hsel' hsel
          subst this
          rw [List.getElem?_eq_getElem hq] at hv'; cases hv'
          rw [← key_next free _ _ a b s t] at hk'
          exact ⟨N, hN, hk'⟩
        · by_cases hpM : p ∈ M
          · obtain ⟨q', h1, h2⟩ := hM3 p hpM hpL hpk j' hj'
            exact ⟨q', h1, hR.sub q' h2⟩
          · exact (hR.yes hr).2 p hp hpM j' hj'
        · by_cases he : j' = j
          · subst he
            exact ⟨_, hnx, (hR.yes hr).1⟩
          · obtain ⟨q', h1, h2⟩ := hM4 j' (by omega)
            exact ⟨q', h1, hR.sub q' h2⟩
      refine d_l _ e_len fun _ => d_l _ rfl fun _ => d_dec (fun h0 => ?_) fun h0 => ?_
      · have h0 : (0 : Int) < ((ds[a].labels.map PV.str).length : Int) := h0
        rw [List.length_map] at h0
        have h0 : 0 < ds[a].labels.length := by omega
        have hxa : ds[a].next.length = ds[a].labels.length ∧ ds[b].next.length = ds[b].labels.length := by
          have a1 := hna.k1; have a3 := hna.n3; have a5 := hna.n5; have a7 := hna.n7
          have b7 := hnb.n7
          clear hna hnb
          omega
        have hjl : j < ds[a].labels.length := by omega
        obtain ⟨r, hix, hat⟩ := ok_slices_Index_string_string ds[b].labels ds[a].labels[j] hlb.1
        refine d_l _ (e_idx (str_at hjl) rfl) fun _ => d_call hix (d_call (ok_head_Next ds a ha s j hjlt) (d_l (ref ds[a].next[j].node (ad ds[a].next[j].shift s)) rfl fun _ => d_l (.bool true) rfl fun _ => d_l (ref ds[a].next[j].node (ad ds[a].next[j].shift s)) rfl fun _ => ?_))
        rcases hat with ⟨rfl, hno⟩ | ⟨q, rfl, hq, hfirst⟩
        · refine d_call (ok_head_Next_no ds b hb t (-1) (.inl (by omega))) (d_l (ref 0 0) rfl fun _ => d_l (.bool false) rfl fun _ => d_l (ref 0 0) rfl fun _ => d_l _ rfl fun _ => d_true (d_ret ⟨_, rfl, false, M, ⟨fun q hq => hM1 q (List.mem_append.2 (.inl hq)), hM2, (fun h => by cases h), fun _ he => ?_⟩, rfl⟩))
          obtain ⟨N, hN, hkN⟩ := he
          obtain ⟨k', ⟨x, y, hx, hy, u, v, q', hu', hv', hsel', rfl⟩, hk'⟩ := (hN _ hkN).2 j (by rw [har]; exact hjlt)
          rw [hda] at hx; cases hx
          rw [hdb] at hy; cases hy
          unfold Sel at hsel'
          rw [if_pos h0] at hsel'
          obtain ⟨z, z1, z2, _⟩ := hsel'
          rw [List.getElem?_eq_getElem hjl] at z1; cases z1
          exact hno (List.mem_of_getElem? z2)
        · have hql : q < ds[b].labels.length := (List.getElem?_eq_some_iff.1 hq).1
          have hqn : q < ds[b].next.length := by omega
          obtain ⟨r, M', hok, hf, ht⟩ := go q hqn (by unfold Sel; rw [if_pos h0]; exact ⟨_, List.getElem?_eq_getElem hjl, hq, hfirst⟩)
          refine d_call (ok_head_Next ds b hb t q hqn) (d_l (ref ds[b].next[q].node (ad ds[b].next[q].shift t)) rfl fun _ => d_l (.bool true) rfl fun _ => d_l (ref ds[b].next[q].node (ad ds[b].next[q].shift t)) rfl fun _ => d_l _ rfl fun _ => d_false (d_calls rfl hok (d_l (.bool (!r)) rfl fun _ => d_ite (fun h => d_ret ⟨_, rfl, false, M', hf (by simpa using h), rfl⟩) fun h => d_l _ (e_inc (by omega)) fun _ => d_cont rfl ?_)))
          obtain ⟨t1, t2, t3, t4⟩ := ht (by simpa using h)
          exact ⟨m - 1, by omega, j + 1, M', by omega, t1, t2, t3, t4, rfl⟩
      · have h0 : ¬ (0 : Int) < ((ds[a].labels.map PV.str).length : Int) := h0
        rw [List.length_map] at h0
        have h0 : ¬ 0 < ds[a].labels.length := by omega
        have hqn : j < ds[b].next.length := by
          have a1 := hna.k1; have a3 := hna.n3; have a5 := hna.n5; have a7 := hna.n7
          have b3 := hnb.n3; have b5 := hnb.n5
          clear hna hnb
          omega
        obtain ⟨r, M', hok, hf, ht⟩ := go j hqn (by unfold Sel; rw [if_neg h0])
        refine d_call (ok_head_Next ds a ha s j hjlt) (d_l (ref ds[a].next[j].node (ad ds[a].next[j].shift s)) rfl fun _ => d_l (.bool true) rfl fun _ => d_l (ref ds[a].next[j].node (ad ds[a].next[j].shift s)) rfl fun _ => ?_)
        refine d_call (ok_head_Next ds b hb t j hqn) (d_l (ref ds[b].next[j].node (ad ds[b].next[j].shift t)) rfl fun _ => d_l (.bool true) rfl fun _ => d_l (ref ds[b].next[j].node (ad ds[b].next[j].shift t)) rfl fun _ => d_l _ rfl fun _ => d_false (d_calls rfl hok (d_l (.bool (!r)) rfl fun _ => d_ite (fun h => d_ret ⟨_, rfl, false, M', hf (by simpa using h), rfl⟩) fun h => d_l _ (e_inc (by omega)) fun _ => d_cont rfl ?_)))
        obtain ⟨t1, t2, t3, t4⟩ := ht (by simpa using h)
        exact ⟨m - 1, by omega, j + 1, M', by omega, t1, t2, t3, t4, rfl⟩
    · have h : ¬ (j : Int) < (ds[a].next.length : Int) := h
      by_cases he : q = keyOf free a b s t
      · subst he
        rw [har] at hj'
        exact hM4 j' (by omega)
      · exact hM3 q hq hqL he j' hj')
  obtain ⟨_, ⟨r, L', hR, rfl⟩, h⟩ := this
  exact ⟨r, L', hR, h⟩

end Go.Proofs.YtopinhoalbgebaaGreatDoor.Tx

/- Contracts: Equal, Alike. -/
namespace Go.Proofs.YtopinhoalbgebaaGreatDoor.Tx
open Go.Lf Go.Lf.S Go.Lf.Duo
set_option maxRecDepth 100000

theorem res_iff {ds : List Nd} {free : Bool} {k : Key} {r : Bool} {L : List Key} (h : Res ds free [] k r L) : r = true ↔ Eqv ds free k := by
  cases r with
  | true => exact ⟨fun _ => ⟨L, fun q hq => ⟨(h.loc q hq).1, (h.yes rfl).2 q hq (by simp)⟩, (h.yes rfl).1⟩, fun _ => rfl⟩
  | false => exact ⟨(fun h => by cases h), fun he => absurd he (h.no rfl)⟩

theorem same_Equal (ds : List Nd) : SameOk ds false F.equal_Equal_1 [.box (.agg [.sl (ds.map Nd.enc)])] := fun a b ha hb s t => ok_equal_Equal_1 ds a b ha hb s t
theorem ok_equal_Equal {ds : List Nd} (hg : GrOk' ds) {a b : Nat} (ha : a < ds.length) (hb : b < ds.length) (s t : Int) :
    ∃ r, Ok P F.equal_Equal [.agg [.sl (ds.map Nd.enc)], ref a s, ref b t] (.bool r) ∧ (r = true ↔ Eqv ds false (keyOf false a b s t)) := by
  obtain ⟨r, L', hR, hok⟩ := ok_comparison_equal hg (same_Equal ds) _ [] (fun q hq => by cases hq) (Nat.le_refl _) a b ha hb s t
  exact ⟨r, k_equal_Equal _ _ rfl (d_l (.agg [.sl (ds.map Nd.enc)]) rfl fun _ => d_l (ref a s) rfl fun _ => d_l (ref b t) rfl fun _ => d_l _ rfl fun _ => d_calls rfl hok (d_ret rfl)), res_iff hR⟩
end Go.Proofs.YtopinhoalbgebaaGreatDoor.Tx

/- Equality is transitive. -/
namespace Go.Proofs.YtopinhoalbgebaaGreatDoor.Tx
open Go.Lf Go.Lf.S Go.Lf.Duo
set_option maxRecDepth 100000

end Go.Proofs.YtopinhoalbgebaaGreatDoor.Tx

/- Equality is reflexive. -/
namespace Go.Proofs.YtopinhoalbgebaaGreatDoor.Tx
open Go.Lf Go.Lf.S Go.Lf.Duo
set_option maxRecDepth 100000

end Go.Proofs.YtopinhoalbgebaaGreatDoor.Tx

/- Equality is symmetric; equal is alike. -/
namespace Go.Proofs.YtopinhoalbgebaaGreatDoor.Tx
open Go.Lf Go.Lf.S Go.Lf.Duo
set_option maxRecDepth 100000

theorem NdOk.lab {n : Int} {x : Nd} (hx : NdOk 0 n [] x) (h0 : 0 < x.labels.length) : x.next.length = x.labels.length := by
  have a1 := hx.k1; have a3 := hx.n3; have a5 := hx.n5; have a7 := hx.n7
  clear hx
  omega
theorem nodup_at {l : List ByteArray} (h : l.Nodup) {s : ByteArray} {i j : Nat} (hi : l[i]? = some s) (hj : l[j]? = some s) : i = j := by
  obtain ⟨h1, e1⟩ := List.getElem?_eq_some_iff.1 hi
  obtain ⟨h2, e2⟩ := List.getElem?_eq_some_iff.1 hj
  rcases Nat.lt_trichotomy i j with hl | hl | hl
  · exact absurd (e1.trans e2.symm) ((List.pairwise_iff_getElem.1 h) i j h1 h2 hl)
  · exact hl
  · exact absurd (e2.trans e1.symm) ((List.pairwise_iff_getElem.1 h) j i h2 h1 hl)

end Go.Proofs.YtopinhoalbgebaaGreatDoor.Tx

/- Contracts: the graphs of a short list of small types (no dual). -/
namespace Go.Proofs.YtopinhoalbgebaaGreatDoor.Tx
open Go.Lf Go.Lf.S Go.Lf.Duo
set_option maxRecDepth 100000

theorem szs_bound' (m : Nat) : ∀ l : List Ty, (∀ t ∈ l, t.sz ≤ m) → Ty.szs l ≤ l.length * m
  | [], _ => by simp [Ty.szs]
  | t :: l, h => by
    have h1 := h t List.mem_cons_self
    have h2 := szs_bound' m l fun x hx => h x (List.mem_cons_of_mem _ hx)
    simp only [Ty.szs, List.length_cons, Nat.add_mul, Nat.one_mul]
    omega

theorem built' (l : List Ty) (a m : Nat) (hl : (l.length : Int) ≤ a) (ham : a * m ≤ 274877906944) (hs : ∀ t ∈ l, (t.sz : Int) ≤ m ∧ Wf t [] 0) :
    ∃ (ds : List Nd) (rs : List Rf), Ok P F.ref07_Build [.sl (l.map Ty.enc)] (.tup [.sl (ds.map Nd.enc), .sl (rs.map Rf.enc)]) ∧
      Ok P F.law08_Graph [.sl (l.map Ty.enc)] (.tup [.agg [.sl (ds.map Nd.enc)], .sl (rs.map Rf.enc)]) ∧ (ds.length ≤ 274877906944 ∧ ∀ d ∈ ds, NdOk 0 ds.length [] d) ∧ rs.length = l.length ∧
      (∀ (j : Nat) (r : Rf), rs[j]? = some r → 0 ≤ r.node ∧ r.node < ds.length ∧ 0 < ds.length) ∧ ds = belowsF l 0 [] [] ∧ rs = nextsF l 0 [] [] := by
  have hz : Ty.szs l ≤ l.length * m := szs_bound' m l fun t ht => by have := (hs t ht).1; omega
  have hz2 : l.length * m ≤ a * m := Nat.mul_le_mul_right _ (by omega)
  have hll := szs_len l
  have hgl := gcs_le l
  obtain ⟨ds, rs, hB, hd, hr, hds, hrs, hdf, hrf⟩ := ok_ref07_Build l (fun t ht => (hs t ht).2) (by omega)
  refine ⟨ds, rs, hB, ok_law08_Graph l hB (fun d hd' => (hds d hd').len) (by omega) (by omega), ⟨by omega, ?_⟩, hr, fun j r hj => ?_, hdf, hrf⟩
  · rw [hd]; exact hds
  · obtain ⟨h1, h2, _, _, h3⟩ := hrs j r hj
    omega

/-! lists of numbers -/
end Go.Proofs.YtopinhoalbgebaaGreatDoor.Tx

/- Subtyping of nodes: what a pair needs, closed sets of pairs; reflexive, transitive; both ways it is equality. -/
namespace Go.Proofs.YtopinhoalbgebaaGreatDoor.Tx
open Go.Lf Go.Lf.S Go.Lf.Duo
set_option maxRecDepth 100000

def kSt (u v : Rf) (d : Int) : Key := ⟨u.node, v.node, IntKind.i64.wrap (u.shift - v.shift + d)⟩
def kSw (u v : Rf) (d : Int) : Key := ⟨v.node, u.node, IntKind.i64.wrap (v.shift - u.shift - d)⟩
/-- a pair of rests that must be related -/
def NdNeed (x y : Nd) (d : Int) (k' : Key) : Prop :=
  (x.kind = 4 ∧ ∃ u v, x.next[0]? = some u ∧ y.next[0]? = some v ∧ k' = kSw u v d) ∨
  (x.kind = 4 ∧ ∃ u v, x.next[1]? = some u ∧ y.next[1]? = some v ∧ k' = kSt u v d) ∨
  (x.kind = 5 ∧ ∃ (j : Nat) (u v : Rf), j < 2 ∧ x.next[j]? = some u ∧ y.next[j]? = some v ∧ k' = kSt u v d) ∨
  ((x.kind = 6 ∨ x.kind = 7) ∧ ∃ (i j : Nat) (u v : Rf) (s : ByteArray), x.labels[i]? = some s ∧ y.labels[j]? = some s ∧ x.next[i]? = some u ∧ y.next[j]? = some v ∧ k' = kSt u v d)
/-- what the nodes of a pair have in common -/
def NdLoc (x y : Nd) (d : Int) : Prop := x.kind = y.kind ∧ (act x.kind = true → ad x.prio d = ad y.prio 0) ∧ (x.kind = 6 → ∀ s ∈ y.labels, s ∈ x.labels) ∧ (x.kind = 7 → ∀ s ∈ x.labels, s ∈ y.labels)
def SOk (ds : List Nd) (R : Key → Prop) (k : Key) : Prop := 0 ≤ k.a ∧ 0 ≤ k.b ∧ ∃ x y, ds[k.a.toNat]? = some x ∧ ds[k.b.toNat]? = some y ∧ NdLoc x y k.d ∧ ∀ k', NdNeed x y k.d k' → R k'
def SubE (ds : List Nd) (k : Key) : Prop := ∃ R : Key → Prop, R k ∧ ∀ q, R q → SOk ds R q
theorem SubE.ok {ds : List Nd} {k : Key} (h : SubE ds k) : SOk ds (SubE ds) k := by
  obtain ⟨R, h1, h2⟩ := h
  obtain ⟨a0, b0, x, y, hx, hy, hl, hn⟩ := h2 k h1
  exact ⟨a0, b0, x, y, hx, hy, hl, fun k' hk => ⟨R, hn k' hk, h2⟩⟩

end Go.Proofs.YtopinhoalbgebaaGreatDoor.Tx

/- Subtyping both ways is equality. -/
namespace Go.Proofs.YtopinhoalbgebaaGreatDoor.Tx
open Go.Lf Go.Lf.S Go.Lf.Duo
set_option maxRecDepth 100000

theorem eqv_of_pred {ds : List Nd} (R : Key → Prop) (hd : ∀ k, R k → 0 ≤ k.a ∧ 0 ≤ k.b ∧ IntKind.i64.wrap k.d = k.d) (hR : ∀ k, R k → locB ds false k = true ∧ ∀ j, j < arity ds k → ∃ k', Nx ds false k j k' ∧ R k') {k : Key} (h : R k) : Eqv ds false k := by
  classical
  obtain ⟨D, hD⟩ : ∃ D : List Int, ∀ x : Int, IntKind.i64.wrap x ∈ D := by
    refine ⟨(List.range 18446744073709551616).map fun n : Nat => (n : Int) - 9223372036854775808, fun x => List.mem_map.2 ?_⟩
    have hw : -9223372036854775808 ≤ IntKind.i64.wrap x ∧ IntKind.i64.wrap x ≤ 9223372036854775807 := by
      simp only [IntKind.wrap, IntKind.signed, IntKind.bits]; simp; omega
    exact ⟨(IntKind.i64.wrap x + 9223372036854775808).toNat, List.mem_range.2 (by omega), by omega⟩
  let L : List Key := ((List.range ds.length).flatMap fun p : Nat => (List.range ds.length).flatMap fun q : Nat => D.map fun d => (⟨(p : Int), (q : Int), d⟩ : Key)).filter fun k => decide (R k)
  have mem : ∀ k, R k → k ∈ L := by
    intro k hk
    obtain ⟨h0, h1, h2⟩ := hd k hk
    have hl := (hR k hk).1
    have hal : k.a.toNat < ds.length ∧ k.b.toNat < ds.length := by
      unfold locB at hl
      split at hl
      · rename_i x y hx hy
        exact ⟨(List.getElem?_eq_some_iff.1 hx).1, (List.getElem?_eq_some_iff.1 hy).1⟩
      · cases hl
    simp only [L, List.mem_filter, List.mem_flatMap, List.mem_map, List.mem_range, decide_eq_true_eq]
    refine ⟨⟨k.a.toNat, hal.1, k.b.toNat, hal.2, k.d, ?_, ?_⟩, hk⟩
    · rw [← h2]; exact hD _
    · rw [Int.toNat_of_nonneg h0, Int.toNat_of_nonneg h1]
  refine ⟨L, fun k hk => ?_, mem _ h⟩
  simp only [L, List.mem_filter, decide_eq_true_eq] at hk
  obtain ⟨h1, h2⟩ := hR k hk.2
  refine ⟨h1, fun j hj => ?_⟩
  obtain ⟨k', h3, h4⟩ := h2 j hj
  exact ⟨k', h3, mem k' h4⟩

end Go.Proofs.YtopinhoalbgebaaGreatDoor.Tx

/- Contracts: producers (references of a context, priorities), the least priority. -/
namespace Go.Proofs.YtopinhoalbgebaaGreatDoor.Tx
open Go.Lf Go.Lf.S Go.Lf.Duo
set_option maxRecDepth 100000

/-- the priority of a reference -/
def pr (ds : List Nd) (r : Rf) : Option Int := match ds[r.node.toNat]? with
  | some d => if act d.kind then some (ad d.prio r.shift) else none
  | none => none
def InG (ds : List Nd) (r : Rf) : Prop := 0 ≤ r.node ∧ r.node < ds.length

theorem ok_head_Prio' {ds : List Nd} {r : Rf} (h : InG ds r) : Ok P F.head_Prio [.agg [.sl (ds.map Nd.enc)], r.enc] (match pr ds r with | some p => .tup [i p, .bool true] | none => .tup [i 0, .bool false]) := by
  obtain ⟨h1, h2⟩ := h
  have hn : r.node = ((r.node.toNat : Nat) : Int) := by omega
  have ha : r.node.toNat < ds.length := by omega
  have := ok_head_Prio ds r.node.toNat ha r.shift
  rw [← hn] at this
  unfold pr
  rw [List.getElem?_eq_getElem ha]
  cases hx : act ds[r.node.toNat].kind
  · rw [hx] at this; simp only [hx]; exact this
  · rw [hx] at this; simp only [hx]; exact this

end Go.Proofs.YtopinhoalbgebaaGreatDoor.Tx

/- Contracts: ref02 Raise, put, Unfold: exactly. -/
namespace Go.Proofs.YtopinhoalbgebaaGreatDoor.Tx
open Go.Lf Go.Lf.S Go.Lf.Duo
set_option maxRecDepth 100000

mutual
/-- a type with its priorities raised -/
def raiseT (k : Int) : Ty → Ty
  | .mk kd p nm s ls ks => .mk kd (if 4 ≤ kd ∧ kd ≤ 7 then ad p k else p) nm s ls (raiseTs k ks)
def raiseTs (k : Int) : List Ty → List Ty
  | [] => []
  | t :: ts => raiseT k t :: raiseTs k ts
end
theorem raiseTs_eq (k : Int) : ∀ l : List Ty, raiseTs k l = l.map (raiseT k)
  | [] => rfl
  | t :: ts => by simp [raiseTs, raiseTs_eq k ts]
theorem raiseT_mk (k kd p : Int) (nm : ByteArray) (s : Int) (ls : List ByteArray) (ks : List Ty) : raiseT k (.mk kd p nm s ls ks) = .mk kd (if 4 ≤ kd ∧ kd ≤ 7 then ad p k else p) nm s ls (ks.map (raiseT k)) := by
  simp only [raiseT, raiseTs_eq]

mutual
/-- a type for a variable -/
def putT (x : ByteArray) (b : Ty) : Ty → Ty
  | .mk kd p nm s ls ks => if kd = 9 ∧ nm = x then raiseT s b else if kd = 8 ∧ nm = x then raiseT 0 (.mk kd p nm s ls ks) else .mk kd (if 4 ≤ kd ∧ kd ≤ 7 then ad p 0 else p) nm s ls (putTs x b ks)
def putTs (x : ByteArray) (b : Ty) : List Ty → List Ty
  | [] => []
  | t :: ts => putT x b t :: putTs x b ts
end
theorem putTs_eq (x : ByteArray) (b : Ty) : ∀ l : List Ty, putTs x b l = l.map (putT x b)
  | [] => by simp [putTs]
  | t :: ts => by simp [putTs, putTs_eq x b ts]

/-- lists of bounded lengths throughout -/
inductive Ln : Ty → Prop
  | mk (t : Ty) (h1 : t.labels.length ≤ 549755813888) (h2 : t.kids.length ≤ 549755813888) (h : ∀ k ∈ t.kids, Ln k) : Ln t

theorem Ln.raise {k : Int} : ∀ {t : Ty}, Ln t → Ln (raiseT k t) := by
  intro t
  induction t using Ty.ind with
  | _ t ih =>
  intro h
  cases h with
  | mk _ h1 h2 h =>
  obtain ⟨kd, p, nm, s, ls, ks⟩ := t
  rw [raiseT_mk]
  refine .mk _ h1 (by show (ks.map (raiseT k)).length ≤ _; rw [List.length_map]; exact h2) fun x hx => ?_
  obtain ⟨y, hy, rfl⟩ := List.mem_map.1 hx
  exact ih y hy (h y hy)
theorem Ln.put {x : ByteArray} {b : Ty} (hb : Ln b) : ∀ {t : Ty}, Ln t → Ln (putT x b t) := by
  intro t
  induction t using Ty.ind with
  | _ t ih =>
  intro h
  have h' := h
  cases h with
  | mk _ h1 h2 h =>
  obtain ⟨kd, p, nm, s, ls, ks⟩ := t
  unfold putT
  split
  · exact hb.raise
  · split
    · exact h'.raise
    · rw [putTs_eq]
      refine .mk _ h1 (by show (ks.map (putT x b)).length ≤ _; rw [List.length_map]; exact h2) fun y hy => ?_
      obtain ⟨z, hz, rfl⟩ := List.mem_map.1 hy
      exact ih z hz (h z hz)

theorem ty_at' {ks : List Ty} {j : Nat} (h : j < ks.length) : (ks.map Ty.enc)[j]? = some (ks[j]).enc := by simp [h]

/-- the round of Raise -/
theorem raise_loop {K : PV → Prop} {ks : List Ty} {k : Int} (hk : ks.length ≤ 549755813888) (ih : ∀ t ∈ ks, Ok P F.ref02_Raise [t.enc, i k] (raiseT k t).enc) {a p nm s lb : PV} {R : List PV → PV} (hR : K (R [i (ks.length : Int), a, p, nm, s, lb, .sl ((ks.map (raiseT k)).map Ty.enc)])) :
    (T.loop [i 0, a, p, nm, s, lb, .sl []] fun y => .l .len [.sl (ks.map Ty.enc)] fun x9 => .l (.cmp .lss .i64) [n y 0, x9] fun x10 => .ite x10
      (.l (.idx 6 true) [.sl (ks.map Ty.enc), n y 0] fun x11 => .call F.ref02_Raise [x11, i k] fun x12 => .l (.lst 6 true) [x12] fun x13 => .l (.app 6 true 88) [n y 6, x13] fun x14 => .l (.arith .add .i64) [n y 0, i 1] fun x15 =>
        .cont 0 [x15, n y 1, n y 2, n y 3, n y 4, n y 5, x14]) (.ret (R y))).den0 P K [] := by
  refine den_rounds (fun j => [i j, a, p, nm, s, lb, .sl (((ks.take j).map (raiseT k)).map Ty.enc)]) ks.length (by simp) (fun j hj => ?_) ?_
  · refine d_l _ e_len fun _ => d_l _ rfl fun _ => d_dec (fun _ => ?_) fun h => absurd (show (j : Int) < ((ks.map Ty.enc).length : Int) by simp; omega) h
    refine d_l _ (e_idx (ty_at' hj) (Ty.okc_enc _)) fun _ => d_call (ih _ (List.getElem_mem hj)) (d_l _ (e_lst (fun x hx => by simp at hx; subst hx; exact Ty.okc_enc _)) fun _ => d_l _ (e_app (fun x hx => by simp at hx; subst hx; exact Ty.okc_enc _) (by simp; omega) (by simp; omega)) fun _ => d_l _ (e_inc (by omega)) fun _ => d_cont rfl ?_)
    rw [List.take_succ_eq_append_getElem hj, List.map_append, List.map_append]; rfl
  · refine d_l _ e_len fun _ => d_l _ rfl fun _ => d_dec (fun h => ?_) fun h => d_ret ?_
    · have h : (ks.length : Int) < ((ks.map Ty.enc).length : Int) := h
      simp at h
    · rw [List.take_length]; exact hR

theorem ok_ref02_Raise : ∀ (t : Ty) (k : Int), Ln t → Ok P F.ref02_Raise [t.enc, i k] (raiseT k t).enc := by
  intro t
  induction t using Ty.ind with
  | _ t ih =>
  intro k h
  cases h with
  | mk _ h1 h2 h =>
  obtain ⟨kd, p, nm, s, ls, ks⟩ := t
  have h1 : ls.length ≤ 549755813888 := h1
  have h2 : ks.length ≤ 549755813888 := h2
  have hks : ∀ x ∈ ks, Ok P F.ref02_Raise [x.enc, i k] (raiseT k x).enc := fun x hx => ih x hx k (h x hx)
  rw [raiseT_mk, Ty.enc_mk, Ty.enc_mk]
  refine k_ref02_Raise _ _ rfl (d_l _ (by rfl) fun _ => d_l (.sl []) rfl fun _ => d_l (.sl (ls.map .str)) (by
    show (Prim.app 1 false 16).ev [.sl [], .sl (ls.map .str)] = _
    rw [e_app (all_map okc_str ls) (by simp; omega) (by simp; omega)]; rfl) fun _ => d_l .nilI rfl fun _ => d_l _ rfl fun _ => d_dec (fun h4 => d_l _ rfl fun _ => d_dec (fun h7 => ?_) fun h7 => ?_) fun h4 => ?_)
  · rw [if_pos ⟨h4, h7⟩]
    exact d_l (i (ad p k)) rfl fun _ => d_l (i (ad p k)) rfl fun _ => raise_loop h2 hks (R := fun y => .agg [n y 1, n y 2, n y 3, n y 4, n y 5, n y 6]) rfl
  · rw [if_neg (fun hc => h7 hc.2)]
    exact raise_loop h2 hks (R := fun y => .agg [n y 1, n y 2, n y 3, n y 4, n y 5, n y 6]) rfl
  · rw [if_neg (fun hc => h4 hc.1)]
    exact raise_loop h2 hks (R := fun y => .agg [n y 1, n y 2, n y 3, n y 4, n y 5, n y 6]) rfl

def Ty.cellsOf (t : Ty) : List PV := [i t.kind, i t.prio, .str t.name, i t.shift, .sl (t.labels.map .str), .sl (t.kids.map Ty.enc)]
theorem Ty.enc_cells (t : Ty) : t.enc = .agg (Ty.cellsOf t) := by
  cases t; rw [Ty.enc_mk]; rfl

theorem ok_ref02_RaiseS (t : Ty) (k : Int) (h : Ln t) : OkS P F.ref02_Raise sg_ref02_Raise [t.enc, i k] (Ty.cellsOf (raiseT k t)) := by
  cases h with
  | mk _ h1 h2 h =>
  obtain ⟨kd, p, nm, s, ls, ks⟩ := t
  have h1 : ls.length ≤ 549755813888 := h1
  have h2 : ks.length ≤ 549755813888 := h2
  have hks : ∀ x ∈ ks, Ok P F.ref02_Raise [x.enc, i k] (raiseT k x).enc := fun x hx => ok_ref02_Raise x k (h x hx)
  rw [raiseT_mk, Ty.enc_mk]
  refine m_ref02_Raise _ _ (d_l _ (by rfl) fun _ => d_l (.sl []) rfl fun _ => d_l (.sl (ls.map .str)) (by
    show (Prim.app 1 false 16).ev [.sl [], .sl (ls.map .str)] = _
    rw [e_app (all_map okc_str ls) (by simp; omega) (by simp; omega)]; rfl) fun _ => d_l .nilI rfl fun _ => d_l _ rfl fun _ => d_dec (fun h4 => d_l _ rfl fun _ => d_dec (fun h7 => ?_) fun h7 => ?_) fun h4 => ?_)
  · rw [if_pos ⟨h4, h7⟩]
    exact d_l (i (ad p k)) rfl fun _ => d_l (i (ad p k)) rfl fun _ => raise_loop h2 hks (R := fun y => .tup [n y 1, n y 2, n y 3, n y 4, n y 5, n y 6]) rfl
  · rw [if_neg (fun hc => h7 hc.2)]
    exact raise_loop h2 hks (R := fun y => .tup [n y 1, n y 2, n y 3, n y 4, n y 5, n y 6]) rfl
  · rw [if_neg (fun hc => h4 hc.1)]
    exact raise_loop h2 hks (R := fun y => .tup [n y 1, n y 2, n y 3, n y 4, n y 5, n y 6]) rfl

theorem e_updT {n : Nat} {a : Bool} {l : List PV} {k : Nat} {x : PV} (h : k < l.length) (hx : x.okc n a = true) : (Prim.upd n a).ev [.sl l, i (k : Int), x] = some (.sl (l.set k x)) := by
  show (if (0 : Int) ≤ (k : Int) ∧ (k : Int) < (l.length : Int) ∧ x.okc n a then some (PV.sl (l.set (k : Int).toNat x)) else none) = _
  rw [if_pos ⟨by omega, by omega, hx⟩, Int.toNat_natCast]

/-- the round of put -/
theorem put_loop {K : PV → Prop} {ks : List Ty} {x : ByteArray} {b : Ty} {R0 : Int} (hk : ks.length ≤ 549755813888) (ih : ∀ t ∈ ks, Ok P F.ref02_put [t.enc, .str x, b.enc] (putT x b t).enc) {R : List PV → PV} (hR : K (R [i (ks.length : Int), .sl ((ks.map (putT x b)).map Ty.enc)])) :
    (T.loop [i 0, .sl ((ks.map (raiseT R0)).map Ty.enc)] fun y => .l .len [.sl (ks.map Ty.enc)] fun x8 => .l (.cmp .lss .i64) [n y 0, x8] fun x9 => .ite x9
      (.l (.idx 6 true) [.sl (ks.map Ty.enc), n y 0] fun x10 => .call F.ref02_put [x10, .str x, b.enc] fun x11 => .l (.idx 6 true) [n y 1, n y 0] fun _ => .l (.upd 6 true) [n y 1, n y 0, x11] fun x13 => .l (.arith .add .i64) [n y 0, i 1] fun x14 =>
        .cont 0 [x14, x13]) (.ret (R y))).den0 P K [] := by
  refine den_rounds (fun j => [i j, .sl (((ks.take j).map (putT x b) ++ (ks.drop j).map (raiseT R0)).map Ty.enc)]) ks.length (by simp) (fun j hj => ?_) ?_
  · have hlen : j < ((ks.take j).map (putT x b) ++ (ks.drop j).map (raiseT R0)).length := by simp; omega
    refine d_l _ e_len fun _ => d_l _ rfl fun _ => d_dec (fun _ => ?_) fun h => absurd (show (j : Int) < ((ks.map Ty.enc).length : Int) by simp; omega) h
    refine d_l _ (e_idx (ty_at' hj) (Ty.okc_enc _)) fun _ => d_call (ih _ (List.getElem_mem hj)) (d_l _ (e_idx (ty_at' hlen) (Ty.okc_enc _)) fun _ => d_l _ (e_updT (by rw [List.length_map]; exact hlen) (Ty.okc_enc _)) fun _ => d_l _ (e_inc (by omega)) fun _ => d_cont rfl ?_)
    rw [← List.map_set]
    have : ((ks.take j).map (putT x b) ++ (ks.drop j).map (raiseT R0)).set j (putT x b ks[j]) = (ks.take (j + 1)).map (putT x b) ++ (ks.drop (j + 1)).map (raiseT R0) := by
      have hl : ((ks.take j).map (putT x b)).length = j := by simp; omega
      rw [List.set_append_right _ _ (by omega), hl, Nat.sub_self, List.drop_eq_getElem_cons hj, List.map_cons, List.set_cons_zero, List.take_succ_eq_append_getElem hj, List.map_append, List.append_assoc]
      rfl
    rw [this]
  · refine d_l _ e_len fun _ => d_l _ rfl fun _ => d_dec (fun h => ?_) fun h => d_ret ?_
    · have h : (ks.length : Int) < ((ks.map Ty.enc).length : Int) := h
      simp at h
    · rw [List.take_length, List.drop_length, List.map_nil, List.append_nil]; exact hR

theorem ok_ref02_put (x : ByteArray) (b : Ty) (hb : Ln b) : ∀ t : Ty, Ln t → Ok P F.ref02_put [t.enc, .str x, b.enc] (putT x b t).enc := by
  intro t
  induction t using Ty.ind with
  | _ t ih =>
  intro h
  have hR := ok_ref02_RaiseS t 0 h
  have hB := fun s => ok_ref02_RaiseS b s hb
  cases h with
  | mk _ h1 h2 h =>
  obtain ⟨kd, p, nm, s, ls, ks⟩ := t
  have h2 : ks.length ≤ 549755813888 := h2
  have hks : ∀ y ∈ ks, Ok P F.ref02_put [y.enc, .str x, b.enc] (putT x b y).enc := fun y hy => ih y hy (h y hy)
  rw [raiseT_mk, Ty.enc_mk] at hR
  have hfin : ¬ (kd = 9 ∧ nm = x) → ¬ (kd = 8 ∧ nm = x) → (putT x b (.mk kd p nm s ls ks)).enc = .agg [i kd, i (if 4 ≤ kd ∧ kd ≤ 7 then ad p 0 else p), .str nm, i s, .sl (ls.map .str), .sl ((ks.map (putT x b)).map Ty.enc)] := by
    intro c9 c8
    unfold putT
    rw [if_neg c9, if_neg c8, putTs_eq, Ty.enc_mk]
  have rest : ¬ (kd = 9 ∧ nm = x) → ∀ K : PV → Prop, K (putT x b (.mk kd p nm s ls ks)).enc → (T.calls F.ref02_Raise sg_ref02_Raise [.agg [i kd, i p, .str nm, i s, .sl (ls.map .str), .sl (ks.map Ty.enc)], i 0] fun z3 =>
     .l (.cmp .eql .i64) [i kd, i 8] fun x4 =>
     .ite x4 (
      .l (.scmp .eql) [.str nm, .str x] fun x5 =>
      .ite x5 (
       .ret (.agg [(n z3 0), (n z3 1), (n z3 2), (n z3 3), (n z3 4), (n z3 5)])) (
       .loop [(i 0), (n z3 5)] fun y6 =>
       .l .len [.sl (ks.map Ty.enc)] fun x7 =>
       .l (.cmp .lss .i64) [(n y6 0), x7] fun x8 =>
       .ite x8 (
        .l (.idx 6 true) [.sl (ks.map Ty.enc), (n y6 0)] fun x9 =>
        .call F.ref02_put [x9, .str x, b.enc] fun x10 =>
        .l (.idx 6 true) [(n y6 1), (n y6 0)] fun _ =>
        .l (.upd 6 true) [(n y6 1), (n y6 0), x10] fun x12 =>
        .l (.arith .add .i64) [(n y6 0), (i 1)] fun x13 =>
        .cont 0 [x13, x12]) (
        .ret (.agg [(n z3 0), (n z3 1), (n z3 2), (n z3 3), (n z3 4), (n y6 1)])))) (
      .loop [(i 0), (n z3 5)] fun y5 =>
      .l .len [.sl (ks.map Ty.enc)] fun x6 =>
      .l (.cmp .lss .i64) [(n y5 0), x6] fun x7 =>
      .ite x7 (
       .l (.idx 6 true) [.sl (ks.map Ty.enc), (n y5 0)] fun x8 =>
       .call F.ref02_put [x8, .str x, b.enc] fun x9 =>
       .l (.idx 6 true) [(n y5 1), (n y5 0)] fun _ =>
       .l (.upd 6 true) [(n y5 1), (n y5 0), x9] fun x11 =>
       .l (.arith .add .i64) [(n y5 0), (i 1)] fun x12 =>
       .cont 0 [x12, x11]) (
       .ret (.agg [(n z3 0), (n z3 1), (n z3 2), (n z3 3), (n z3 4), (n y5 1)])))).den0 P K [] := by
    intro c9 K hK
    refine d_calls rfl hR (d_l _ rfl fun _ => d_dec (fun h8 => d_l _ rfl fun _ => d_dec (fun hn => d_ret ?_) fun hn => ?_) fun h8 => ?_)
    · have h8 : kd = 8 := h8
      have hn : nm = x := hn
      have : (putT x b (.mk kd p nm s ls ks)).enc = (raiseT 0 (.mk kd p nm s ls ks)).enc := by
        unfold putT
        rw [if_neg c9, if_pos ⟨h8, hn⟩]
      rw [this, raiseT_mk, Ty.enc_mk] at hK
      exact hK
    · have hn : ¬ nm = x := hn
      rw [hfin c9 (fun hc => hn hc.2)] at hK
      exact put_loop h2 hks hK
    · have h8 : ¬ kd = 8 := h8
      rw [hfin c9 (fun hc => h8 hc.1)] at hK
      exact put_loop h2 hks hK
  refine k_ref02_put _ _ rfl ?_
  rw [Ty.enc_mk]
  refine d_l _ (by rfl) fun _ => d_l _ (e_okc (Ty.okc_enc b)) fun _ => d_l _ rfl fun _ => d_dec (fun h9 => d_l _ rfl fun _ => d_dec (fun hn => ?_) fun hn => ?_) fun h9 => ?_
  · refine d_calls rfl (hB s) (d_ret ?_)
    have h9 : kd = 9 := h9
    have hn : nm = x := hn
    have : putT x b (.mk kd p nm s ls ks) = raiseT s b := by
      unfold putT; rw [if_pos ⟨h9, hn⟩]
    rw [this, Ty.enc_cells]; rfl
  · have hn : ¬ nm = x := hn
    exact rest (fun hc => hn hc.2) _ rfl
  · have h9 : ¬ kd = 9 := h9
    exact rest (fun hc => h9 hc.1) _ rfl

/-- what a type unfolds to -/
inductive Unf : Ty → Ty → Prop
  | done (t : Ty) (h : t.kind ≠ 8) : Unf t (raiseT 0 t)
  | step (t k u : Ty) (r : List Ty) (h : t.kind = 8) (hk : t.kids = k :: r) (hu : Unf (putT t.name t k) u) : Unf t u

theorem ok_ref02_Unfold {t u : Ty} (h : Unf t u) (hl : Ln t) : Ok P F.ref02_Unfold [t.enc] u.enc := by
  induction h with
  | done t h =>
    have hr := ok_ref02_Raise t 0 hl
    obtain ⟨kd, p, nm, s, ls, ks⟩ := t
    have h : kd ≠ 8 := h
    have ho := Ty.okc_enc (raiseT 0 (.mk kd p nm s ls ks))
    rw [Ty.enc_mk] at hr ⊢
    exact k_ref02_Unfold _ _ rfl (d_l _ (by rfl) fun _ => d_l _ rfl fun _ => d_dec (fun h8 => absurd h8 h) fun _ => d_call hr (d_l _ (e_okc ho) fun _ => d_ret rfl))
  | step t k u r h hk hu ih =>
    cases hl with
    | mk _ h1 h2 hkl =>
    have hlt : Ln t := .mk t h1 h2 hkl
    have hkm : k ∈ t.kids := by rw [hk]; exact List.mem_cons_self
    have hp := ok_ref02_put t.name t hlt k (hkl k hkm)
    have hu' := ih (hlt.put (hkl k hkm))
    obtain ⟨kd, p, nm, s, ls, ks⟩ := t
    have h : kd = 8 := h
    have hk : ks = k :: r := hk
    subst hk
    rw [Ty.enc_mk] at hp ⊢
    exact k_ref02_Unfold _ _ rfl (d_l (.agg [i kd, i p, .str nm, i s, .sl (ls.map .str), .sl ((k :: r).map Ty.enc)]) rfl fun _ => d_l _ rfl fun _ => d_dec (fun _ => d_l _ (e_idx (k := 0) (ty_at' (ks := k :: r) (by simp)) (Ty.okc_enc _)) fun _ => d_call hp (d_call hu' (d_l _ (e_okc (Ty.okc_enc _)) fun _ => d_ret rfl))) fun h8 => absurd h h8)

end Go.Proofs.YtopinhoalbgebaaGreatDoor.Tx

/- Contracts (Wk16, Wk17, Wk18, Wk19, Wk20, Wb, Wk80, Wk81, Wk30, Wk33, Wk34, Wk44). -/
import Derived.Test.YtopinhoalbgebaaGreatDoorWk15
set_option linter.all false
/- Contract: a comparison decides the equality of two references (2). -/
namespace Go.Proofs.YtopinhoalbgebaaGreatDoor.Tx
open Go.Lf Go.Lf.S Go.Lf.Duo
set_option maxRecDepth 100000

theorem ok_comparison_equal {ds : List Nd} {free : Bool} {f : Nat} {cs : List PV} (hg : GrOk' ds) (hs : SameOk ds free f cs) : ∀ (fuel : Nat) (L : List Key), (∀ q ∈ L, locB ds free q = true ∧ InR free q) → (left ds.length L).length ≤ fuel →
    ∀ (a b : Nat), a < ds.length → b < ds.length → ∀ (s t : Int), ∃ r L', Res ds free L (keyOf free a b s t) r L' ∧
      OkS P F.equal_comparison_equal sg_equal_comparison_equal [ref a s, ref b t, .sl (ds.map Nd.enc), .fn f [] cs, .bool free, mpOf L] [.bool r, .sl (ds.map Nd.enc), .fn f [] cs, .bool free, mpOf L'] := by
  intro fuel
  induction fuel using Nat.strongRecOn with
  | _ fuel ih =>
  intro L hL hfuel a b ha hb s t
  have hna := hg.2 _ (List.getElem_mem ha)
  have hnb := hg.2 _ (List.getElem_mem hb)
  have hla := hna.len
  have hlb := hnb.len
  have hla2 : ds[a].next.length ≤ 549755813888 := hla.2
  have bad : locB ds free (keyOf free a b s t) = false → Res ds free L (keyOf free a b s t) false L := fun h => ⟨fun _ h => h, hL, (fun h => by cases h), fun _ he => by rw [eqv_loc he] at h; cases h⟩
  have hloc := loc_key (free := free) ha hb s t
  have h4 : (PV.agg [.sl (ds.map Nd.enc), mpOf L, .fn f [] cs, .bool free]).okc 4 true = true := rfl
  have := tx_exS m_equal_comparison_equal (K := fun ys => ∃ r L', Res ds free L (keyOf free a b s t) r L' ∧ ys = [.bool r, .sl (ds.map Nd.enc), .fn f [] cs, .bool free, mpOf L'])
    (xs := [ref a s, ref b t, .sl (ds.map Nd.enc), .fn f [] cs, .bool free, mpOf L]) (by simp [u_equal_comparison_equal, T.dt]) (by
    refine d_l (ref a s) rfl fun _ => d_l (ref b t) rfl fun _ => d_l _ (e_idx (nd_at ha) (Nd.okc_enc _)) fun _ => d_l _ (e_idx (nd_at hb) (Nd.okc_enc _)) fun _ => d_l _ (e_okc (Nd.okc_enc _)) fun _ => d_l _ (e_okc (Nd.okc_enc _)) fun _ => ?_
    refine d_l _ rfl fun _ => d_ndec (fun hk => d_ret ⟨_, rfl, false, L, bad ?_, rfl⟩) fun hk => ?_
    · have hk : ¬ ds[a].kind = ds[b].kind := hk
      rw [hloc]; simp [hk]
    have hk : ds[a].kind = ds[b].kind := hk
    refine d_l _ e_len fun _ => d_l _ e_len fun _ => d_l _ rfl fun _ => d_ndec (fun hl => d_ret ⟨_, rfl, false, L, bad ?_, rfl⟩) fun hl => ?_
    · have hl : ¬ ((ds[a].labels.map PV.str).length : Int) = ((ds[b].labels.map PV.str).length : Int) := hl
      rw [List.length_map, List.length_map] at hl
      have hl : ¬ ds[a].labels.length = ds[b].labels.length := fun h => hl (by rw [h])
      rw [hloc]; simp [hl]
    have hl : ((ds[a].labels.map PV.str).length : Int) = ((ds[b].labels.map PV.str).length : Int) := hl
    rw [List.length_map, List.length_map] at hl
    have hl : ds[a].labels.length = ds[b].labels.length := Int.ofNat.inj hl
    refine d_callv (hs a b ha hb s t) (d_l _ rfl fun _ => d_ite (fun h => d_ret ⟨_, rfl, false, L, bad ?_, rfl⟩) fun h => ?_)
    · have h : (free || decide (prN ds[a] s = prN ds[b] t)) = false := by revert h; cases (free || decide (prN ds[a] s = prN ds[b] t)) <;> simp
      rw [hloc, h]; simp
    have h : (free || decide (prN ds[a] s = prN ds[b] t)) = true := by revert h; cases (free || decide (prN ds[a] s = prN ds[b] t)) <;> simp
    have hlocT : locB ds free (keyOf free a b s t) = true := by rw [hloc, h]; simp [hk, hl]
    refine d_call (ok_key _ (mpOf L) _ free a b s t h4) (d_l _ (key_gnd _) fun _ => d_l _ (e_mget L _) fun _ => d_dec (fun hm => d_ret ⟨_, rfl, true, L, ⟨fun _ h => h, hL, fun _ => ⟨hm, fun q h1 h2 => absurd h1 h2⟩, (fun h => by cases h)⟩, rfl⟩) fun hm => ?_)
    refine d_call (ok_key _ (mpOf L) _ free a b s t h4) (d_l _ (key_gnd _) fun _ => d_l _ (e_mset L _ hm) fun _ => d_l (i (ds[a].next.length : Int)) (by rw [← List.length_map (f := Rf.enc)]; exact e_len) fun _ => ?_)
    have har : arity ds (keyOf free a b s t) = ds[a].next.length := by simp [arity, keyOf, List.getElem?_eq_getElem ha]
    have hda : ds[(keyOf free a b s t).a.toNat]? = some ds[a] := by simp [keyOf, List.getElem?_eq_getElem ha]
    have hdb : ds[(keyOf free a b s t).b.toNat]? = some ds[b] := by simp [keyOf, List.getElem?_eq_getElem hb]
    have hlocK : locB ds free (keyOf free a b s t) = true ∧ InR free (keyOf free a b s t) := ⟨hlocT, inR_key _ _ _ _ _⟩
    refine den_loop (fun m ys => ∃ (j : Nat) (M : List Key), j + m = ds[a].next.length ∧ (∀ q ∈ L ++ [keyOf free a b s t], q ∈ M) ∧ (∀ q ∈ M, locB ds free q = true ∧ InR free q) ∧
      (∀ q ∈ M, q ∉ L → q ≠ keyOf free a b s t → ∀ j, j < arity ds q → ∃ q', Nx ds free q j q' ∧ q' ∈ M) ∧ (∀ j', j' < j → ∃ q', Nx ds free (keyOf free a b s t) j' q' ∧ q' ∈ M) ∧
      ys = [i j, .sl (ds.map Nd.enc), mpOf M, .fn f [] cs, .bool free]) ds[a].next.length ⟨0, L ++ [keyOf free a b s t], by omega, fun _ h => h, fun q hq => ?_, fun q hq h1 h2 => ?_, (fun j' h => by omega), rfl⟩ ?_
    · rcases List.mem_append.1 hq with hq | hq
      · exact hL q hq
      · obtain rfl : q = keyOf free a b s t := by simpa using hq
        exact hlocK
    · rcases List.mem_append.1 hq with hq | hq
      · exact absurd hq h1
      · exact absurd (by simpa using hq) h2
    rintro m _ ⟨j, M, hj, hM1, hM2, hM3, hM4, rfl⟩
    refine d_l _ rfl fun _ => d_dec (fun h => ?_) fun h => d_ret ⟨_, rfl, true, M, ⟨fun q hq => hM1 q (List.mem_append.2 (.inl hq)), hM2, fun _ => ⟨hM1 _ (by simp), fun q hq hqL j' hj' => ?_⟩, (fun h => by cases h)⟩, rfl⟩
    · have hjlt : j < ds[a].next.length := by
        have h : (j : Int) < (ds[a].next.length : Int) := h
        omega
      have hact : act ds[a].kind = true := by
        have h1 := hna.k1; have h3 := hna.n3
        simp only [act, decide_eq_true_eq]
        clear hna hnb
        omega
      have hleft : (left ds.length M).length < fuel := by
        have h1 : (left ds.length M).length ≤ (left ds.length (L ++ [keyOf free a b s t])).length := left_mono hM1
        have h2 : (left ds.length (L ++ [keyOf free a b s t])).length < (left ds.length L).length := left_lt (left_mem.2 ⟨⟨ha, hb⟩, fun q hq hab => hm (by rw [← same_pair (hL q hq) hlocK hab.1 hab.2 hda hact]; exact hq)⟩) rfl rfl
        omega
      have hu := hna.node' _ (List.getElem_mem hjlt)
      -- the step for a rest q of b
      have go : ∀ (q : Nat) (hq : q < ds[b].next.length), Sel ds[a] ds[b] j q → ∃ r M', OkS P F.equal_comparison_equal sg_equal_comparison_equal [ref ds[a].next[j].node (ad ds[a].next[j].shift s), ref ds[b].next[q].node (ad ds[b].next[q].shift t), .sl (ds.map Nd.enc), .fn f [] cs, .bool free, mpOf M] [.bool r, .sl (ds.map Nd.enc), .fn f [] cs, .bool free, mpOf M'] ∧
          (r = false → Res ds free L (keyOf free a b s t) false M') ∧ (r = true → (∀ q ∈ L ++ [keyOf free a b s t], q ∈ M') ∧ (∀ q ∈ M', locB ds free q = true ∧ InR free q) ∧
            (∀ q ∈ M', q ∉ L → q ≠ keyOf free a b s t → ∀ j, j < arity ds q → ∃ q', Nx ds free q j q' ∧ q' ∈ M') ∧ (∀ j', j' < j + 1 → ∃ q', Nx ds free (keyOf free a b s t) j' q' ∧ q' ∈ M')) := by
        intro q hq hsel
        have hv := hnb.node' _ (List.getElem_mem hq)
        obtain ⟨r, M', hR, hok⟩ := ih _ hleft M hM2 (Nat.le_refl _) ds[a].next[j].node.toNat ds[b].next[q].node.toNat (by omega) (by omega) (ad ds[a].next[j].shift s) (ad ds[b].next[q].shift t)
        rw [show ((ds[a].next[j].node.toNat : Nat) : Int) = ds[a].next[j].node by omega, show ((ds[b].next[q].node.toNat : Nat) : Int) = ds[b].next[q].node by omega] at hR hok
        have hnx : Nx ds free (keyOf free a b s t) j (keyOf free ds[a].next[j].node ds[b].next[q].node (ad ds[a].next[j].shift s) (ad ds[b].next[q].shift t)) :=
          ⟨ds[a], ds[b], hda, hdb, ds[a].next[j], ds[b].next[q], q, List.getElem?_eq_getElem hjlt, List.getElem?_eq_getElem hq, hsel, key_next free _ _ a b s t⟩
        refine ⟨r, M', hok, fun hr => ⟨fun q hq => hR.sub q (hM1 q (List.mem_append.2 (.inl hq))), hR.loc, (fun h => by cases h), fun _ he => ?_⟩, fun hr => ⟨fun q hq => hR.sub q (hM1 q hq), hR.loc, fun p hp hpL hpk j' hj' => ?_, fun j' hj' => ?_⟩⟩
        · refine hR.no hr ?_
          obtain ⟨N, hN, hkN⟩ := he
          obtain ⟨k', ⟨x, y, hx, hy, u, v, q', hu', hv', hsel', rfl⟩, hk'⟩ := (hN _ hkN).2 j (by rw [har]; exact hjlt)
          rw [hda] at hx; cases hx
          rw [hdb] at hy; cases hy
          rw [List.getElem?_eq_getElem hjlt] at hu'; cases hu'
          have := sel_fun hsel' hsel
          subst this
          rw [List.getElem?_eq_getElem hq] at hv'; cases hv'
          rw [← key_next free _ _ a b s t] at hk'
          exact ⟨N, hN, hk'⟩
        · by_cases hpM : p ∈ M
          · obtain ⟨q', h1, h2⟩ := hM3 p hpM hpL hpk j' hj'
            exact ⟨q', h1, hR.sub q' h2⟩
          · exact (hR.yes hr).2 p hp hpM j' hj'
        · by_cases he : j' = j
          · subst he
            exact ⟨_, hnx, (hR.yes hr).1⟩
          · obtain ⟨q', h1, h2⟩ := hM4 j' (by omega)
            exact ⟨q', h1, hR.sub q' h2⟩
      refine d_l _ e_len fun _ => d_l _ rfl fun _ => d_dec (fun h0 => ?_) fun h0 => ?_
      · have h0 : (0 : Int) < ((ds[a].labels.map PV.str).length : Int) := h0
        rw [List.length_map] at h0
        have h0 : 0 < ds[a].labels.length := by omega
        have hxa : ds[a].next.length = ds[a].labels.length ∧ ds[b].next.length = ds[b].labels.length := by
          have a1 := hna.k1; have a3 := hna.n3; have a5 := hna.n5; have a7 := hna.n7
          have b7 := hnb.n7
          clear hna hnb
          omega
        have hjl : j < ds[a].labels.length := by omega
        obtain ⟨r, hix, hat⟩ := ok_slices_Index_string_string ds[b].labels ds[a].labels[j] hlb.1
        refine d_l _ (e_idx (str_at hjl) rfl) fun _ => d_call hix (d_call (ok_head_Next ds a ha s j hjlt) (d_l (ref ds[a].next[j].node (ad ds[a].next[j].shift s)) rfl fun _ => d_l (.bool true) rfl fun _ => d_l (ref ds[a].next[j].node (ad ds[a].next[j].shift s)) rfl fun _ => ?_))
        rcases hat with ⟨rfl, hno⟩ | ⟨q, rfl, hq, hfirst⟩
        · refine d_call (ok_head_Next_no ds b hb t (-1) (.inl (by omega))) (d_l (ref 0 0) rfl fun _ => d_l (.bool false) rfl fun _ => d_l (ref 0 0) rfl fun _ => d_l _ rfl fun _ => d_true (d_ret ⟨_, rfl, false, M, ⟨fun q hq => hM1 q (List.mem_append.2 (.inl hq)), hM2, (fun h => by cases h), fun _ he => ?_⟩, rfl⟩))
          obtain ⟨N, hN, hkN⟩ := he
          obtain ⟨k', ⟨x, y, hx, hy, u, v, q', hu', hv', hsel', rfl⟩, hk'⟩ := (hN _ hkN).2 j (by rw [har]; exact hjlt)
          rw [hda] at hx; cases hx
          rw [hdb] at hy; cases hy
          unfold Sel at hsel'
          rw [if_pos h0] at hsel'
          obtain ⟨z, z1, z2, _⟩ := hsel'
          rw [List.getElem?_eq_getElem hjl] at z1; cases z1
          exact hno (List.mem_of_getElem? z2)
        · have hql : q < ds[b].labels.length := (List.getElem?_eq_some_iff.1 hq).1
          have hqn : q < ds[b].next.length := by omega
          obtain ⟨r, M', hok, hf, ht⟩ := go q hqn (by unfold Sel; rw [if_pos h0]; exact ⟨_, List.getElem?_eq_getElem hjl, hq, hfirst⟩)
          refine d_call (ok_head_Next ds b hb t q hqn) (d_l (ref ds[b].next[q].node (ad ds[b].next[q].shift t)) rfl fun _ => d_l (.bool true) rfl fun _ => d_l (ref ds[b].next[q].node (ad ds[b].next[q].shift t)) rfl fun _ => d_l _ rfl fun _ => d_false (d_calls rfl hok (d_l (.bool (!r)) rfl fun _ => d_ite (fun h => d_ret ⟨_, rfl, false, M', hf (by simpa using h), rfl⟩) fun h => d_l _ (e_inc (by omega)) fun _ => d_cont rfl ?_)))
          obtain ⟨t1, t2, t3, t4⟩ := ht (by simpa using h)
          exact ⟨m - 1, by omega, j + 1, M', by omega, t1, t2, t3, t4, rfl⟩
      · have h0 : ¬ (0 : Int) < ((ds[a].labels.map PV.str).length : Int) := h0
        rw [List.length_map] at h0
        have h0 : ¬ 0 < ds[a].labels.length := by omega
        have hqn : j < ds[b].next.length := by
          have a1 := hna.k1; have a3 := hna.n3; have a5 := hna.n5; have a7 := hna.n7
          have b3 := hnb.n3; have b5 := hnb.n5
          clear hna hnb
          omega
        obtain ⟨r, M', hok, hf, ht⟩ := go j hqn (by unfold Sel; rw [if_neg h0])
        refine d_call (ok_head_Next ds a ha s j hjlt) (d_l (ref ds[a].next[j].node (ad ds[a].next[j].shift s)) rfl fun _ => d_l (.bool true) rfl fun _ => d_l (ref ds[a].next[j].node (ad ds[a].next[j].shift s)) rfl fun _ => ?_)
        refine d_call (ok_head_Next ds b hb t j hqn) (d_l (ref ds[b].next[j].node (ad ds[b].next[j].shift t)) rfl fun _ => d_l (.bool true) rfl fun _ => d_l (ref ds[b].next[j].node (ad ds[b].next[j].shift t)) rfl fun _ => d_l _ rfl fun _ => d_false (d_calls rfl hok (d_l (.bool (!r)) rfl fun _ => d_ite (fun h => d_ret ⟨_, rfl, false, M', hf (by simpa using h), rfl⟩) fun h => d_l _ (e_inc (by omega)) fun _ => d_cont rfl ?_)))
        obtain ⟨t1, t2, t3, t4⟩ := ht (by simpa using h)
        exact ⟨m - 1, by omega, j + 1, M', by omega, t1, t2, t3, t4, rfl⟩
    · have h : ¬ (j : Int) < (ds[a].next.length : Int) := h
      by_cases he : q = keyOf free a b s t
      · subst he
        rw [har] at hj'
        exact hM4 j' (by omega)
      · exact hM3 q hq hqL he j' hj')
  obtain ⟨_, ⟨r, L', hR, rfl⟩, h⟩ := this
  exact ⟨r, L', hR, h⟩

end Go.Proofs.YtopinhoalbgebaaGreatDoor.Tx

/- Contracts: Equal, Alike. -/
namespace Go.Proofs.YtopinhoalbgebaaGreatDoor.Tx
open Go.Lf Go.Lf.S Go.Lf.Duo
set_option maxRecDepth 100000

theorem res_iff {ds : List Nd} {free : Bool} {k : Key} {r : Bool} {L : List Key} (h : Res ds free [] k r L) : r = true ↔ Eqv ds free k := by
  cases r with
  | true => exact ⟨fun _ => ⟨L, fun q hq => ⟨(h.loc q hq).1, (h.yes rfl).2 q hq (by simp)⟩, (h.yes rfl).1⟩, fun _ => rfl⟩
  | false => exact ⟨(fun h => by cases h), fun he => absurd he (h.no rfl)⟩

theorem same_Equal (ds : List Nd) : SameOk ds false F.equal_Equal_1 [.box (.agg [.sl (ds.map Nd.enc)])] := fun a b ha hb s t => ok_equal_Equal_1 ds a b ha hb s t
theorem ok_equal_Equal {ds : List Nd} (hg : GrOk' ds) {a b : Nat} (ha : a < ds.length) (hb : b < ds.length) (s t : Int) :
    ∃ r, Ok P F.equal_Equal [.agg [.sl (ds.map Nd.enc)], ref a s, ref b t] (.bool r) ∧ (r = true ↔ Eqv ds false (keyOf false a b s t)) := by
  obtain ⟨r, L', hR, hok⟩ := ok_comparison_equal hg (same_Equal ds) _ [] (fun q hq => by cases hq) (Nat.le_refl _) a b ha hb s t
  exact ⟨r, k_equal_Equal _ _ rfl (d_l (.agg [.sl (ds.map Nd.enc)]) rfl fun _ => d_l (ref a s) rfl fun _ => d_l (ref b t) rfl fun _ => d_l _ rfl fun _ => d_calls rfl hok (d_ret rfl)), res_iff hR⟩
end Go.Proofs.YtopinhoalbgebaaGreatDoor.Tx

/- Equality is transitive. -/
namespace Go.Proofs.YtopinhoalbgebaaGreatDoor.Tx
open Go.Lf Go.Lf.S Go.Lf.Duo
set_option maxRecDepth 100000

end Go.Proofs.YtopinhoalbgebaaGreatDoor.Tx

/- Equality is reflexive. -/
namespace Go.Proofs.YtopinhoalbgebaaGreatDoor.Tx
open Go.Lf Go.Lf.S Go.Lf.Duo
set_option maxRecDepth 100000

end Go.Proofs.YtopinhoalbgebaaGreatDoor.Tx

/- Equality is symmetric; equal is alike. -/
namespace Go.Proofs.YtopinhoalbgebaaGreatDoor.Tx
open Go.Lf Go.Lf.S Go.Lf.Duo
set_option maxRecDepth 100000

theorem NdOk.len_eq {n m : Int} {x y : Nd} (hx : NdOk 0 n [] x) (hy : NdOk 0 m [] y) (hk : x.kind = y.kind) (hl : x.labels.length = y.labels.length) : x.next.length = y.next.length := by
  have a1 := hx.k1; have a3 := hx.n3; have a5 := hx.n5; have a7 := hx.n7
  have b3 := hy.n3; have b5 := hy.n5; have b7 := hy.n7
  clear hx hy
  omega
theorem NdOk.lab {n : Int} {x : Nd} (hx : NdOk 0 n [] x) (h0 : 0 < x.labels.length) : x.next.length = x.labels.length := by
  have a1 := hx.k1; have a3 := hx.n3; have a5 := hx.n5; have a7 := hx.n7
  clear hx
  omega
theorem nodup_at {l : List ByteArray} (h : l.Nodup) {s : ByteArray} {i j : Nat} (hi : l[i]? = some s) (hj : l[j]? = some s) : i = j := by
  obtain ⟨h1, e1⟩ := List.getElem?_eq_some_iff.1 hi
  obtain ⟨h2, e2⟩ := List.getElem?_eq_some_iff.1 hj
  rcases Nat.lt_trichotomy i j with hl | hl | hl
  · exact absurd (e1.trans e2.symm) ((List.pairwise_iff_getElem.1 h) i j h1 h2 hl)
  · exact hl
  · exact absurd (e2.trans e1.symm) ((List.pairwise_iff_getElem.1 h) j i h2 h1 hl)

end Go.Proofs.YtopinhoalbgebaaGreatDoor.Tx

/- Contracts: the graphs of a short list of small types (no dual). -/
namespace Go.Proofs.YtopinhoalbgebaaGreatDoor.Tx
open Go.Lf Go.Lf.S Go.Lf.Duo
set_option maxRecDepth 100000

theorem szs_bound' (m : Nat) : ∀ l : List Ty, (∀ t ∈ l, t.sz ≤ m) → Ty.szs l ≤ l.length * m
  | [], _ => by simp [Ty.szs]
  | t :: l, h => by
    have h1 := h t List.mem_cons_self
    have h2 := szs_bound' m l fun x hx => h x (List.mem_cons_of_mem _ hx)
    simp only [Ty.szs, List.length_cons, Nat.add_mul, Nat.one_mul]
    omega

theorem built' (l : List Ty) (a m : Nat) (hl : (l.length : Int) ≤ a) (ham : a * m ≤ 274877906944) (hs : ∀ t ∈ l, (t.sz : Int) ≤ m ∧ Wf t [] 0) :
    ∃ (ds : List Nd) (rs : List Rf), Ok P F.ref07_Build [.sl (l.map Ty.enc)] (.tup [.sl (ds.map Nd.enc), .sl (rs.map Rf.enc)]) ∧
      Ok P F.law08_Graph [.sl (l.map Ty.enc)] (.tup [.agg [.sl (ds.map Nd.enc)], .sl (rs.map Rf.enc)]) ∧ (ds.length ≤ 274877906944 ∧ ∀ d ∈ ds, NdOk 0 ds.length [] d) ∧ rs.length = l.length ∧
      (∀ (j : Nat) (r : Rf), rs[j]? = some r → 0 ≤ r.node ∧ r.node < ds.length ∧ 0 < ds.length) ∧ ds = belowsF l 0 [] [] ∧ rs = nextsF l 0 [] [] := by
  have hz : Ty.szs l ≤ l.length * m := szs_bound' m l fun t ht => by have := (hs t ht).1; omega
  have hz2 : l.length * m ≤ a * m := Nat.mul_le_mul_right _ (by omega)
  have hll := szs_len l
  have hgl := gcs_le l
  obtain ⟨ds, rs, hB, hd, hr, hds, hrs, hdf, hrf⟩ := ok_ref07_Build l (fun t ht => (hs t ht).2) (by omega)
  refine ⟨ds, rs, hB, ok_law08_Graph l hB (fun d hd' => (hds d hd').len) (by omega) (by omega), ⟨by omega, ?_⟩, hr, fun j r hj => ?_, hdf, hrf⟩
  · rw [hd]; exact hds
  · obtain ⟨h1, h2, _, _, h3⟩ := hrs j r hj
    omega

/-! lists of numbers -/
end Go.Proofs.YtopinhoalbgebaaGreatDoor.Tx

/- Subtyping of nodes: what a pair needs, closed sets of pairs; reflexive, transitive; both ways it is equality. -/
namespace Go.Proofs.YtopinhoalbgebaaGreatDoor.Tx
open Go.Lf Go.Lf.S Go.Lf.Duo
set_option maxRecDepth 100000

def kSt (u v : Rf) (d : Int) : Key := ⟨u.node, v.node, IntKind.i64.wrap (u.shift - v.shift + d)⟩
def kSw (u v : Rf) (d : Int) : Key := ⟨v.node, u.node, IntKind.i64.wrap (v.shift - u.shift - d)⟩
/-- a pair of rests that must be related -/
def NdNeed (x y : Nd) (d : Int) (k' : Key) : Prop :=
  (x.kind = 4 ∧ ∃ u v, x.next[0]? = some u ∧ y.next[0]? = some v ∧ k' = kSw u v d) ∨
  (x.kind = 4 ∧ ∃ u v, x.next[1]? = some u ∧ y.next[1]? = some v ∧ k' = kSt u v d) ∨
  (x.kind = 5 ∧ ∃ (j : Nat) (u v : Rf), j < 2 ∧ x.next[j]? = some u ∧ y.next[j]? = some v ∧ k' = kSt u v d) ∨
  ((x.kind = 6 ∨ x.kind = 7) ∧ ∃ (i j : Nat) (u v : Rf) (s : ByteArray), x.labels[i]? = some s ∧ y.labels[j]? = some s ∧ x.next[i]? = some u ∧ y.next[j]? = some v ∧ k' = kSt u v d)
/-- what the nodes of a pair have in common -/
def NdLoc (x y : Nd) (d : Int) : Prop := x.kind = y.kind ∧ (act x.kind = true → ad x.prio d = ad y.prio 0) ∧ (x.kind = 6 → ∀ s ∈ y.labels, s ∈ x.labels) ∧ (x.kind = 7 → ∀ s ∈ x.labels, s ∈ y.labels)
def SOk (ds : List Nd) (R : Key → Prop) (k : Key) : Prop := 0 ≤ k.a ∧ 0 ≤ k.b ∧ ∃ x y, ds[k.a.toNat]? = some x ∧ ds[k.b.toNat]? = some y ∧ NdLoc x y k.d ∧ ∀ k', NdNeed x y k.d k' → R k'
def SubE (ds : List Nd) (k : Key) : Prop := ∃ R : Key → Prop, R k ∧ ∀ q, R q → SOk ds R q
theorem SubE.ok {ds : List Nd} {k : Key} (h : SubE ds k) : SOk ds (SubE ds) k := by
  obtain ⟨R, h1, h2⟩ := h
  obtain ⟨a0, b0, x, y, hx, hy, hl, hn⟩ := h2 k h1
  exact ⟨a0, b0, x, y, hx, hy, hl, fun k' hk => ⟨R, hn k' hk, h2⟩⟩

end Go.Proofs.YtopinhoalbgebaaGreatDoor.Tx

/- Subtyping both ways is equality. -/
namespace Go.Proofs.YtopinhoalbgebaaGreatDoor.Tx
open Go.Lf Go.Lf.S Go.Lf.Duo
set_option maxRecDepth 100000

theorem eqv_of_pred {ds : List Nd} (R : Key → Prop) (hd : ∀ k, R k → 0 ≤ k.a ∧ 0 ≤ k.b ∧ IntKind.i64.wrap k.d = k.d) (hR : ∀ k, R k → locB ds false k = true ∧ ∀ j, j < arity ds k → ∃ k', Nx ds false k j k' ∧ R k') {k : Key} (h : R k) : Eqv ds false k := by
  classical
  obtain ⟨D, hD⟩ : ∃ D : List Int, ∀ x : Int, IntKind.i64.wrap x ∈ D := by
    refine ⟨(List.range 18446744073709551616).map fun n : Nat => (n : Int) - 9223372036854775808, fun x => List.mem_map.2 ?_⟩
    have hw : -9223372036854775808 ≤ IntKind.i64.wrap x ∧ IntKind.i64.wrap x ≤ 9223372036854775807 := by
      simp only [IntKind.wrap, IntKind.signed, IntKind.bits]; simp; omega
    exact ⟨(IntKind.i64.wrap x + 9223372036854775808).toNat, List.mem_range.2 (by omega), by omega⟩
  let L : List Key := ((List.range ds.length).flatMap fun p : Nat => (List.range ds.length).flatMap fun q : Nat => D.map fun d => (⟨(p : Int), (q : Int), d⟩ : Key)).filter fun k => decide (R k)
  have mem : ∀ k, R k → k ∈ L := by
    intro k hk
    obtain ⟨h0, h1, h2⟩ := hd k hk
    have hl := (hR k hk).1
    have hal : k.a.toNat < ds.length ∧ k.b.toNat < ds.length := by
      unfold locB at hl
      split at hl
      · rename_i x y hx hy
        exact ⟨(List.getElem?_eq_some_iff.1 hx).1, (List.getElem?_eq_some_iff.1 hy).1⟩
      · cases hl
    simp only [L, List.mem_filter, List.mem_flatMap, List.mem_map, List.mem_range, decide_eq_true_eq]
    refine ⟨⟨k.a.toNat, hal.1, k.b.toNat, hal.2, k.d, ?_, ?_⟩, hk⟩
    · rw [← h2]; exact hD _
    · rw [Int.toNat_of_nonneg h0, Int.toNat_of_nonneg h1]
  refine ⟨L, fun k hk => ?_, mem _ h⟩
  simp only [L, List.mem_filter, decide_eq_true_eq] at hk
  obtain ⟨h1, h2⟩ := hR k hk.2
  refine ⟨h1, fun j hj => ?_⟩
  obtain ⟨k', h3, h4⟩ := h2 j hj
  exact ⟨k', h3, mem k' h4⟩

end Go.Proofs.YtopinhoalbgebaaGreatDoor.Tx

/- Contracts: producers (references of a context, priorities), the least priority. -/
namespace Go.Proofs.YtopinhoalbgebaaGreatDoor.Tx
open Go.Lf Go.Lf.S Go.Lf.Duo
set_option maxRecDepth 100000

/-- the priority of a reference -/
def pr (ds : List Nd) (r : Rf) : Option Int := match ds[r.node.toNat]? with
  | some d => if act d.kind then some (ad d.prio r.shift) else none
  | none => none
def InG (ds : List Nd) (r : Rf) : Prop := 0 ≤ r.node ∧ r.node < ds.length

theorem ok_head_Prio' {ds : List Nd} {r : Rf} (h : InG ds r) : Ok P F.head_Prio [.agg [.sl (ds.map Nd.enc)], r.enc] (match pr ds r with | some p => .tup [i p, .bool true] | none => .tup [i 0, .bool false]) := by
  obtain ⟨h1, h2⟩ := h
  have hn : r.node = ((r.node.toNat : Nat) : Int) := by omega
  have ha : r.node.toNat < ds.length := by omega
  have := ok_head_Prio ds r.node.toNat ha r.shift
  rw [← hn] at this
  unfold pr
  rw [List.getElem?_eq_getElem ha]
  cases hx : act ds[r.node.toNat].kind
  · rw [hx] at this; simp only [hx]; exact this
  · rw [hx] at this; simp only [hx]; exact this

end Go.Proofs.YtopinhoalbgebaaGreatDoor.Tx

/- Contracts: ref02 Raise, put, Unfold: exactly. -/
namespace Go.Proofs.YtopinhoalbgebaaGreatDoor.Tx
open Go.Lf Go.Lf.S Go.Lf.Duo
set_option maxRecDepth 100000

mutual
/-- a type with its priorities raised -/
def raiseT (k : Int) : Ty → Ty
  | .mk kd p nm s ls ks => .mk kd (if 4 ≤ kd ∧ kd ≤ 7 then ad p k else p) nm s ls (raiseTs k ks)
def raiseTs (k : Int) : List Ty → List Ty
  | [] => []
  | t :: ts => raiseT k t :: raiseTs k ts
end
theorem raiseTs_eq (k : Int) : ∀ l : List Ty, raiseTs k l = l.map (raiseT k)
  | [] => rfl
  | t :: ts => by simp [raiseTs, raiseTs_eq k ts]
theorem raiseT_mk (k kd p : Int) (nm : ByteArray) (s : Int) (ls : List ByteArray) (ks : List Ty) : raiseT k (.mk kd p nm s ls ks) = .mk kd (if 4 ≤ kd ∧ kd ≤ 7 then ad p k else p) nm s ls (ks.map (raiseT k)) := by
  simp only [raiseT, raiseTs_eq]

mutual
/-- a type for a variable -/
def putT (x : ByteArray) (b : Ty) : Ty → Ty
  | .mk kd p nm s ls ks => if kd = 9 ∧ nm = x then raiseT s b else if kd = 8 ∧ nm = x then raiseT 0 (.mk kd p nm s ls ks) else .mk kd (if 4 ≤ kd ∧ kd ≤ 7 then ad p 0 else p) nm s ls (putTs x b ks)
def putTs (x : ByteArray) (b : Ty) : List Ty → List Ty
  | [] => []
  | t :: ts => putT x b t :: putTs x b ts
end
theorem putTs_eq (x : ByteArray) (b : Ty) : ∀ l : List Ty, putTs x b l = l.map (putT x b)
  | [] => by simp [putTs]
  | t :: ts => by simp [putTs, putTs_eq x b ts]

/-- lists of bounded lengths throughout -/
inductive Ln : Ty → Prop
  | mk (t : Ty) (h1 : t.labels.length ≤ 549755813888) (h2 : t.kids.length ≤ 549755813888) (h : ∀ k ∈ t.kids, Ln k) : Ln t

theorem Ln.raise {k : Int} : ∀ {t : Ty}, Ln t → Ln (raiseT k t) := by
  intro t
  induction t using Ty.ind with
  | _ t ih =>
  intro h
  cases h with
  | mk _ h1 h2 h =>
  obtain ⟨kd, p, nm, s, ls, ks⟩ := t
  rw [raiseT_mk]
  refine .mk _ h1 (by show (ks.map (raiseT k)).length ≤ _; rw [List.length_map]; exact h2) fun x hx => ?_
  obtain ⟨y, hy, rfl⟩ := List.mem_map.1 hx
  exact ih y hy (h y hy)
theorem Ln.put {x : ByteArray} {b : Ty} (hb : Ln b) : ∀ {t : Ty}, Ln t → Ln (putT x b t) := by
  intro t
  induction t using Ty.ind with
  | _ t ih =>
  intro h
  have h' := h
  cases h with
  | mk _ h1 h2 h =>
  obtain ⟨kd, p, nm, s, ls, ks⟩ := t
  unfold putT
  split
  · exact hb.raise
  · split
    · exact h'.raise
    · rw [putTs_eq]
      refine .mk _ h1 (by show (ks.map (putT x b)).length ≤ _; rw [List.length_map]; exact h2) fun y hy => ?_
      obtain ⟨z, hz, rfl⟩ := List.mem_map.1 hy
      exact ih z hz (h z hz)

theorem ty_at' {ks : List Ty} {j : Nat} (h : j < ks.length) : (ks.map Ty.enc)[j]? = some (ks[j]).enc := by simp [h]

def Ty.cellsOf (t : Ty) : List PV := [i t.kind, i t.prio, .str t.name, i t.shift, .sl (t.labels.map .str), .sl (t.kids.map Ty.enc)]
theorem e_updT {n : Nat} {a : Bool} {l : List PV} {k : Nat} {x : PV} (h : k < l.length) (hx : x.okc n a = true) : (Prim.upd n a).ev [.sl l, i (k : Int), x] = some (.sl (l.set k x)) := by
  show (if (0 : Int) ≤ (k : Int) ∧ (k : Int) < (l.length : Int) ∧ x.okc n a then some (PV.sl (l.set (k : Int).toNat x)) else none) = _
  rw [if_pos ⟨by omega, by omega, hx⟩, Int.toNat_natCast]

/-- what a type unfolds to -/
inductive Unf : Ty → Ty → Prop
  | done (t : Ty) (h : t.kind ≠ 8) : Unf t (raiseT 0 t)
  | step (t k u : Ty) (r : List Ty) (h : t.kind = 8) (hk : t.kids = k :: r) (hu : Unf (putT t.name t k) u) : Unf t u

end Go.Proofs.YtopinhoalbgebaaGreatDoor.Tx

/- Contracts: the kind and the priority that a type begins with: of the unfolded type, and in the graph. -/
namespace Go.Proofs.YtopinhoalbgebaaGreatDoor.Tx
open Go.Lf Go.Lf.S Go.Lf.Duo
set_option maxRecDepth 100000

mutual
/-- what a type begins with -/
def hd : Ty → Int × Int
  | .mk k p _ _ _ ks => if k = 8 then hds ks (k, p) else (k, p)
def hds : List Ty → Int × Int → Int × Int
  | [], d => d
  | t :: _, _ => hd t
end
theorem hd_8 {k p : Int} {nm : ByteArray} {s : Int} {ls : List ByteArray} {ks : List Ty} (h : k = 8) {x : Ty} (hk : ks = [x]) : hd (.mk k p nm s ls ks) = hd x := by
  subst hk; simp [hd, hds, h]
theorem hd_o {k p : Int} {nm : ByteArray} {s : Int} {ls : List ByteArray} {ks : List Ty} (h : k ≠ 8) : hd (.mk k p nm s ls ks) = (k, p) := by
  simp [hd, h]

/-- it begins with something, behind n recursive types -/
inductive Hd : Nat → Ty → Prop
  | done (t : Ty) (h8 : t.kind ≠ 8) (h9 : t.kind ≠ 9) (p0 : 0 ≤ t.prio) (p1 : t.prio ≤ 1000000) : Hd 0 t
  | step (n : Nat) (t k : Ty) (h : t.kind = 8) (hk : t.kids = [k]) (hh : Hd n k) : Hd (n + 1) t

theorem ad_0 {p : Int} (h0 : 0 ≤ p) (h1 : p ≤ 1000000) : ad p 0 = p := by
  unfold ad; rw [Int.add_zero]; exact wrap_in (by omega) (by omega)

theorem Hd.raise : ∀ {n : Nat} {t : Ty}, Hd n t → Hd n (raiseT 0 t) ∧ hd (raiseT 0 t) = hd t := by
  intro n t h
  induction h with
  | done t h8 h9 p0 p1 =>
    obtain ⟨k, p, nm, s, ls, ks⟩ := t
    have h8 : k ≠ 8 := h8
    have p0 : 0 ≤ p := p0
    have p1 : p ≤ 1000000 := p1
    have e : (if 4 ≤ k ∧ k ≤ 7 then ad p 0 else p) = p := by rw [ad_0 p0 p1]; simp
    rw [raiseT_mk, e, hd_o h8, hd_o h8]
    exact ⟨.done _ h8 h9 p0 p1, rfl⟩
  | step n t k h hk hh ih =>
    obtain ⟨kd, p, nm, s, ls, ks⟩ := t
    have hq : kd = 8 := h
    have hk : ks = [k] := hk
    subst hk
    rw [raiseT_mk, List.map_cons, List.map_nil, hd_8 hq rfl, hd_8 hq rfl]
    exact ⟨.step n _ (raiseT 0 k) hq rfl ih.1, ih.2⟩

theorem Hd.put {x : ByteArray} {b : Ty} : ∀ {n : Nat} {t : Ty}, Hd n t → Hd n (putT x b t) ∧ hd (putT x b t) = hd t := by
  intro n t h
  induction h with
  | done t h8 h9 p0 p1 =>
    obtain ⟨k, p, nm, s, ls, ks⟩ := t
    have h8 : k ≠ 8 := h8
    have h9 : k ≠ 9 := h9
    have p0 : 0 ≤ p := p0
    have p1 : p ≤ 1000000 := p1
    have e : (if 4 ≤ k ∧ k ≤ 7 then ad p 0 else p) = p := by rw [ad_0 p0 p1]; simp
    unfold putT
    rw [if_neg (fun hc => h9 hc.1), if_neg (fun hc => h8 hc.1), e, hd_o h8, hd_o h8]
    exact ⟨.done _ h8 h9 p0 p1, rfl⟩
  | step n t k h hk hh ih =>
    have hr := (Hd.step n t k h hk hh).raise
    obtain ⟨kd, p, nm, s, ls, ks⟩ := t
    have hq : kd = 8 := h
    have hk : ks = [k] := hk
    subst hk
    unfold putT
    rw [if_neg (fun hc => by have := hc.1; omega)]
    split
    · exact hr
    · rw [putTs_eq, List.map_cons, List.map_nil, hd_8 hq rfl, hd_8 hq rfl]
      exact ⟨.step n _ (putT x b k) hq rfl ih.1, ih.2⟩

theorem Hd.unf : ∀ {n : Nat} {t : Ty}, Hd n t → ∃ u, Unf t u ∧ (u.kind, u.prio) = hd t := by
  intro n
  induction n with
  | zero =>
    intro t h
    have hr := h.raise.2
    cases h with
    | done _ h8 h9 p0 p1 =>
      refine ⟨_, .done t h8, ?_⟩
      rw [← hr]
      obtain ⟨k, p, nm, s, ls, ks⟩ := t
      have h8 : k ≠ 8 := h8
      rw [raiseT_mk, hd_o h8]
      rfl
  | succ n ih =>
    intro t h
    cases h with
    | step _ _ k h hk hh =>
      obtain ⟨u, h1, h2⟩ := ih (hh.put (x := t.name) (b := t)).1
      refine ⟨u, .step t k u [] h hk h1, ?_⟩
      rw [h2, hh.put.2]
      obtain ⟨kd, p, nm, s, ls, ks⟩ := t
      have h : kd = 8 := h
      have hk : ks = [k] := hk
      rw [hd_8 h hk]

theorem Wf.hd : ∀ (t : Ty) (ns : List ByteArray), Wf t ns 0 → ∃ n, Hd n t := by
  intro t
  induction t using Ty.ind with
  | _ t ih =>
  intro ns h
  cases h with
  | mk _ _ _ h1 h9 h8 hk =>
  unfold Wf1 at h1
  have h1 := h1.1
  by_cases hk8 : t.kind = 8
  · have hl := (h1.2.2.2.2.2.1 hk8).1
    obtain ⟨x, hks⟩ := List.length_eq_one_iff.1 hl
    have hm : x ∈ t.kids := by rw [hks]; exact List.mem_cons_self
    obtain ⟨n, hn⟩ := ih _ hm (ns ++ [t.name]) (h8 hk8 _ hm)
    exact ⟨n + 1, .step n t _ hk8 hks hn⟩
  · have hk9 : t.kind ≠ 9 := fun h => by
      obtain ⟨j, hj, _⟩ := h9 h
      omega
    exact ⟨0, .done t hk8 hk9 h1.2.1.1 h1.2.1.2.1⟩

theorem Wf.ln : ∀ (t : Ty) (ns : List ByteArray) (g : Nat), Wf t ns g → t.sz ≤ 549755813888 → Ln t := by
  intro t
  induction t using Ty.ind with
  | _ t ih =>
  intro ns g h hz
  cases h with
  | mk _ _ _ h1 h9 h8 hk =>
  unfold Wf1 at h1
  have h1 := h1.1
  have hkl : t.kids.length ≤ t.sz := by
    obtain ⟨k, p, nm, s, ls, ks⟩ := t
    have := szs_len ks
    simp only [Ty.sz, Ty.kids]
    omega
  have hll : t.labels.length = 0 ∨ t.labels.length = t.kids.length := by
    clear h8 h9 hk ih
    omega
  refine .mk t (by omega) (by omega) fun k hkm => ?_
  have hs := Ty.sz_kid hkm
  by_cases hk8 : t.kind = 8
  · exact ih k hkm _ _ (h8 hk8 k hkm) (by omega)
  · exact ih k hkm _ _ (hk hk8 k hkm) (by omega)

/-! in the graph -/
end Go.Proofs.YtopinhoalbgebaaGreatDoor.Tx

/- A reference of a graph stands for a closed type. -/
namespace Go.Proofs.YtopinhoalbgebaaGreatDoor.Tx
open Go.Lf Go.Lf.S Go.Lf.Duo
set_option maxRecDepth 100000

theorem wr_add (a b : Int) : IntKind.i64.wrap (IntKind.i64.wrap a + b) = IntKind.i64.wrap (a + b) := by
  simp only [IntKind.wrap, IntKind.signed, IntKind.bits]
  simp
  omega
theorem ad_ad (a b k : Int) : ad (ad a b) k = ad a (b + k) := by
  unfold ad; rw [wr_add]; congr 1; omega
theorem ad_wr (a b : Int) : ad a (IntKind.i64.wrap b) = ad a b := by
  unfold ad; rw [Int.add_comm, wr_add, Int.add_comm]
theorem raise_raise (a b : Int) : ∀ t : Ty, raiseT a (raiseT b t) = raiseT (b + a) t := by
  intro t
  induction t using Ty.ind with
  | _ t ih =>
  obtain ⟨k, p, nm, s, ls, ks⟩ := t
  rw [raiseT_mk, raiseT_mk, raiseT_mk]
  congr 1
  · split
    · rw [ad_ad]
    · rfl
  · rw [List.map_map]
    exact List.map_congr_left fun x hx => ih x hx

/-- no variable of this name is free in it -/
inductive NF (x : ByteArray) : Ty → Prop
  | mk (t : Ty) (h9 : t.kind = 9 → t.name ≠ x) (h : ¬ (t.kind = 8 ∧ t.name = x) → ∀ k ∈ t.kids, NF x k) : NF x t
def Clo (t : Ty) : Prop := ∀ x, NF x t
theorem NF.raise {x : ByteArray} {k : Int} : ∀ {t : Ty}, NF x t → NF x (raiseT k t) := by
  intro t
  induction t using Ty.ind with
  | _ t ih =>
  intro h
  cases h with
  | mk _ h9 h =>
  obtain ⟨kd, p, nm, s, ls, ks⟩ := t
  rw [raiseT_mk]
  refine .mk _ h9 fun hn y hy => ?_
  obtain ⟨z, hz, rfl⟩ := List.mem_map.1 hy
  exact ih z hz (h hn z hz)
theorem Clo.raise {k : Int} {t : Ty} (h : Clo t) : Clo (raiseT k t) := fun x => (h x).raise
/-- nothing to be put -/
theorem put_nf {x : ByteArray} {b : Ty} : ∀ {t : Ty}, NF x t → putT x b t = raiseT 0 t := by
  intro t
  induction t using Ty.ind with
  | _ t ih =>
  intro h
  cases h with
  | mk _ h9 h =>
  obtain ⟨kd, p, nm, s, ls, ks⟩ := t
  unfold putT
  split
  · rename_i hc; exact absurd hc.2 (h9 hc.1)
  · split
    · rfl
    · rename_i hn
      rw [raiseT_mk, putTs_eq]
      congr 1
      exact List.map_congr_left fun y hy => ih y hy (h hn y hy)
theorem raise_put {x : ByteArray} {b : Ty} (k : Int) : ∀ t : Ty, putT x (raiseT k b) (raiseT k t) = raiseT k (putT x b t) := by
  intro t
  induction t using Ty.ind with
  | _ t ih =>
  obtain ⟨kd, p, nm, s, ls, ks⟩ := t
  rw [raiseT_mk]
  unfold putT
  split
  · rw [raise_raise, raise_raise]; congr 1; omega
  · split
    · rw [raise_raise, raiseT_mk, raiseT_mk, List.map_map]
      congr 1
      · split
        · unfold ad; rw [wr_add]; congr 1; omega
        · rfl
      · refine List.map_congr_left fun y _ => ?_
        show raiseT 0 (raiseT k y) = _
        rw [raise_raise]; congr 1; omega
    · rw [putTs_eq, putTs_eq, raiseT_mk, List.map_map, List.map_map]
      congr 1
      · split
        · unfold ad; rw [wr_add, wr_add]; congr 1; omega
        · rfl
      · exact List.map_congr_left fun y hy => ih y hy
theorem Unf.raise (k : Int) : ∀ {t u : Ty}, Unf t u → Unf (raiseT k t) (raiseT k u) := by
  intro t u h
  induction h with
  | done t h =>
    have e : raiseT k (raiseT 0 t) = raiseT 0 (raiseT k t) := by rw [raise_raise, raise_raise]; congr 1; omega
    rw [e]
    refine .done _ ?_
    obtain ⟨kd, p, nm, s, ls, ks⟩ := t
    rw [raiseT_mk]; exact h
  | step t q u r h hk hu ih =>
    rw [← raise_put] at ih
    obtain ⟨kd, p, nm, s, ls, ks⟩ := t
    have hk : ks = q :: r := hk
    subst hk
    refine .step _ (raiseT k q) _ (r.map (raiseT k)) ?_ ?_ ih
    · rw [raiseT_mk]; exact h
    · rw [raiseT_mk]; rfl
theorem unf_fun : ∀ {t u v : Ty}, Unf t u → Unf t v → u = v := by
  intro t u v h
  induction h with
  | done t h =>
    intro h2
    cases h2 with
    | done => rfl
    | step _ _ _ _ h' => exact absurd h' h
  | step t q u r h hk hu ih =>
    intro h2
    cases h2 with
    | done _ h' => exact absurd h h'
    | step _ q' _ r' h' hk' hu' =>
      rw [hk] at hk'
      cases hk'
      exact ih hu'

/-! closed types put for variables -/

def Env := ByteArray → Option Ty
def Env.del (δ : Env) (x : ByteArray) : Env := fun y => if y = x then none else δ y
def Env.upd (δ : Env) (x : ByteArray) (t : Ty) : Env := fun y => if y = x then some t else δ y
mutual
def sub (δ : Env) : Ty → Ty
  | .mk kd p nm s ls ks => if kd = 9 then (match δ nm with
      | some t => raiseT s t
      | none => .mk kd p nm s ls ks) else if kd = 8 then .mk kd p nm s ls (subs (δ.del nm) ks) else .mk kd p nm s ls (subs δ ks)
def subs (δ : Env) : List Ty → List Ty
  | [] => []
  | t :: ts => sub δ t :: subs δ ts
end
theorem subs_eq (δ : Env) : ∀ l : List Ty, subs δ l = l.map (sub δ)
  | [] => by simp [subs]
  | t :: ts => by simp [subs, subs_eq δ ts]
theorem sub_9 {δ : Env} {kd p : Int} {nm : ByteArray} {s : Int} {ls : List ByteArray} {ks : List Ty} (h : kd = 9) {t : Ty} (ht : δ nm = some t) : sub δ (.mk kd p nm s ls ks) = raiseT s t := by
  simp only [sub, if_pos h, ht]
theorem sub_8 {δ : Env} {kd p : Int} {nm : ByteArray} {s : Int} {ls : List ByteArray} {ks : List Ty} (h : kd = 8) : sub δ (.mk kd p nm s ls ks) = .mk kd p nm s ls (ks.map (sub (δ.del nm))) := by
  simp only [sub, subs_eq]
  rw [if_neg (by omega), if_pos h]
theorem sub_o {δ : Env} {kd p : Int} {nm : ByteArray} {s : Int} {ls : List ByteArray} {ks : List Ty} (h : ¬ kd = 8) (h9 : ¬ kd = 9) : sub δ (.mk kd p nm s ls ks) = .mk kd p nm s ls (ks.map (sub δ)) := by
  simp only [sub, subs_eq]
  rw [if_neg h9, if_neg h]

theorem wf_pr {t : Ty} {ns : List ByteArray} {g : Nat} (h : Wf t ns g) : (4 ≤ t.kind ∧ t.kind ≤ 7 → ad t.prio 0 = t.prio) ∧ (t.kind = 9 → t.kids = []) := by
  cases h with
  | mk _ _ _ h1 _ _ _ =>
  unfold Wf1 at h1
  exact ⟨fun _ => ad_0 h1.1.2.1.1 h1.1.2.1.2.1, fun h => List.eq_nil_of_length_eq_zero (h1.1.2.2.2.2.2.2 h).1⟩
theorem wf_kid8 {k p : Int} {nm : ByteArray} {s : Int} {ls : List ByteArray} {ks : List Ty} {ns : List ByteArray} {g : Nat} (h : Wf (.mk k p nm s ls ks) ns g) (h8 : k = 8) : ∃ x, ks = [x] ∧ Wf x (ns ++ [nm]) g := by
  cases h with
  | mk _ _ _ h1 _ h8' _ =>
  unfold Wf1 at h1
  obtain ⟨x, hx⟩ := List.length_eq_one_iff.1 (h1.1.2.2.2.2.2.1 h8).1
  have hx : ks = [x] := hx
  exact ⟨x, hx, h8' h8 x (by show x ∈ ks; rw [hx]; simp)⟩
theorem wf_kids {k p : Int} {nm : ByteArray} {s : Int} {ls : List ByteArray} {ks : List Ty} {ns : List ByteArray} {g : Nat} (h : Wf (.mk k p nm s ls ks) ns g) (h8 : ¬ k = 8) : ∀ x ∈ ks, Wf x ns ns.length := by
  cases h with
  | mk _ _ _ h1 _ _ hk => exact hk h8
theorem wf_var {k p : Int} {nm : ByteArray} {s : Int} {ls : List ByteArray} {ks : List Ty} {ns : List ByteArray} {g : Nat} (h : Wf (.mk k p nm s ls ks) ns g) (h9 : k = 9) : ∃ j, j < g ∧ LastAt nm ns j := by
  cases h with
  | mk _ _ _ h1 h9' _ _ => exact h9' h9

theorem raise0_sub {δ : Env} : ∀ {t : Ty} {ns : List ByteArray} {g : Nat}, Wf t ns g → raiseT 0 (sub δ t) = sub δ t := by
  intro t
  induction t using Ty.ind generalizing δ with
  | _ t ih =>
  intro ns g h
  obtain ⟨h1, h2⟩ := wf_pr h
  obtain ⟨kd, p, nm, s, ls, ks⟩ := t
  by_cases h9 : kd = 9
  · cases hd : δ nm with
    | some t => rw [sub_9 h9 hd, raise_raise]; congr 1; omega
    | none =>
      simp only [sub, if_pos h9, hd, raiseT_mk]
      rw [if_neg (by omega), show ks = [] from h2 h9]; rfl
  · by_cases h8 : kd = 8
    · obtain ⟨x, rfl, hx⟩ := wf_kid8 h h8
      rw [sub_8 h8, raiseT_mk, if_neg (by omega)]
      simp only [List.map_cons, List.map_nil]
      rw [ih x (by simp [Ty.kids]) hx]
    · have hk := wf_kids h h8
      rw [sub_o h8 h9, raiseT_mk, List.map_map]
      congr 1
      · split
        · rename_i hc; exact h1 hc
        · rfl
      · exact List.map_congr_left fun x hx => ih x hx (hk x hx)

/-- what is put last is put first -/
theorem put_sub {x : ByteArray} {B : Ty} : ∀ {t : Ty} {ns : List ByteArray} {g : Nat} {δ : Env}, Wf t ns g → (∀ y T, δ y = some T → y ≠ x → NF x T) → putT x B (sub (δ.del x) t) = sub (δ.upd x B) t := by
  intro t
  induction t using Ty.ind with
  | _ t ih =>
  intro ns g δ h hδ
  obtain ⟨h1, h2⟩ := wf_pr h
  have hr0 := @raise0_sub (δ.del x) t ns g h
  obtain ⟨kd, p, nm, s, ls, ks⟩ := t
  by_cases h9 : kd = 9
  · by_cases hx : nm = x
    · have hd : (δ.del x) nm = none := by simp [Env.del, hx]
      have hu : (δ.upd x B) nm = some B := by simp [Env.upd, hx]
      rw [sub_9 h9 hu]
      simp only [sub, if_pos h9, hd]
      simp only [putT]
      rw [if_pos ⟨h9, hx⟩]
    · have hd : (δ.del x) nm = δ nm := by simp [Env.del, hx]
      have hu : (δ.upd x B) nm = δ nm := by simp [Env.upd, hx]
      cases hd2 : δ nm with
      | some T =>
        rw [sub_9 h9 (hd.trans hd2), sub_9 h9 (hu.trans hd2), put_nf (hδ _ _ hd2 hx).raise, raise_raise]; congr 1; omega
      | none =>
        have e : ks = [] := h2 h9
        subst e
        simp only [sub, if_pos h9, hd, hu, hd2]
        simp only [putT]
        rw [if_neg (fun hc => hx hc.2), if_neg (fun hc => by omega), if_neg (by omega), putTs_eq]; rfl
  · by_cases h8 : kd = 8
    · obtain ⟨q, rfl, hq⟩ := wf_kid8 h h8
      rw [sub_8 h8] at hr0 ⊢
      rw [sub_8 h8]
      simp only [List.map_cons, List.map_nil] at hr0 ⊢
      by_cases hx : nm = x
      · have e1 : (δ.del x).del nm = (δ.upd x B).del nm := by
          funext y; simp only [Env.del, Env.upd]
          by_cases hy : y = nm
          · rw [if_pos hy, if_pos hy]
          · rw [if_neg hy, if_neg hy, if_neg (by rw [← hx]; exact hy), if_neg (by rw [← hx]; exact hy)]
        rw [← e1]
        simp only [putT]
        rw [if_neg (by omega), if_pos ⟨h8, hx⟩]
        exact hr0
      · have e1 : (δ.del x).del nm = (δ.del nm).del x := by
          funext y; simp only [Env.del]
          by_cases hy : y = nm <;> by_cases hy2 : y = x <;> simp [hy, hy2]
        have e2 : (δ.upd x B).del nm = (δ.del nm).upd x B := by
          funext y; simp only [Env.del, Env.upd]
          by_cases hy : y = nm
          · rw [if_pos hy, if_neg (by rw [hy]; exact hx), if_pos hy]
          · rw [if_neg hy, if_neg hy]
        rw [e1, e2]
        simp only [putT]
        rw [if_neg (by omega), if_neg (fun hc => hx hc.2), if_neg (by omega), putTs_eq]
        simp only [List.map_cons, List.map_nil]
        rw [ih q (by simp [Ty.kids]) hq]
        intro y T hy hne
        unfold Env.del at hy
        split at hy
        · cases hy
        · exact hδ y T hy hne
    · have hk := wf_kids h h8
      rw [sub_o h8 h9, sub_o h8 h9]
      simp only [putT]
      rw [if_neg (fun hc => h9 hc.1), if_neg (fun hc => h8 hc.1), putTs_eq, List.map_map]
      congr 1
      · split
        · rename_i hc; exact h1 hc
        · rfl
      · exact List.map_congr_left fun y hy => ih y hy (hk y hy) hδ

theorem nf_sub {x : ByteArray} : ∀ {t : Ty} {ns : List ByteArray} {g : Nat} {δ : Env}, Wf t ns g → (∀ y T, δ y = some T → NF x T) → (x ∈ ns → δ x ≠ none) → NF x (sub δ t) := by
  intro t
  induction t using Ty.ind with
  | _ t ih =>
  intro ns g δ h hδ hx
  obtain ⟨kd, p, nm, s, ls, ks⟩ := t
  by_cases h9 : kd = 9
  · obtain ⟨j, _, hj, _⟩ := wf_var h h9
    cases hd : δ nm with
    | some T => rw [sub_9 h9 hd]; exact (hδ _ _ hd).raise
    | none =>
      simp only [sub, if_pos h9, hd]
      refine .mk _ (fun _ e => ?_) fun _ k hk => ?_
      · have e : nm = x := e
        subst e
        exact hx (List.mem_of_getElem? hj) hd
      · rw [(wf_pr h).2 h9] at hk; cases hk
  · by_cases h8 : kd = 8
    · obtain ⟨q, rfl, hq⟩ := wf_kid8 h h8
      rw [sub_8 h8]
      refine .mk _ (fun e => absurd e h9) fun hn k hk => ?_
      simp only [Ty.kids, List.map_cons, List.map_nil, List.mem_singleton] at hk
      subst hk
      have hne : ¬ nm = x := fun e => hn ⟨h8, e⟩
      refine ih q (by simp [Ty.kids]) hq (fun y T hy => ?_) fun hm => ?_
      · unfold Env.del at hy
        split at hy
        · cases hy
        · exact hδ y T hy
      · unfold Env.del
        rw [if_neg (Ne.symm hne)]
        rcases List.mem_append.1 hm with hm | hm
        · exact hx hm
        · exact absurd (List.mem_singleton.1 hm).symm hne
    · have hk := wf_kids h h8
      rw [sub_o h8 h9]
      refine .mk _ (fun e => absurd e h9) fun _ k hkm => ?_
      obtain ⟨q, hq, rfl⟩ := List.mem_map.1 hkm
      exact ih q hq (hk q hq) hδ hx
end Go.Proofs.YtopinhoalbgebaaGreatDoor.Tx

/- Contract: a comparison decides the equality of two references (2). -/
import Derived.Test.YtopinhoalbgebaaGreatDoorWk15
set_option linter.all false
namespace Go.Proofs.YtopinhoalbgebaaGreatDoor.Tx
open Go.Lf Go.Lf.S Go.Lf.Duo
set_option maxRecDepth 100000

theorem ok_comparison_equal {ds : List Nd} {free : Bool} {f : Nat} {cs : List PV} (hg : GrOk' ds) (hs : SameOk ds free f cs) : ∀ (fuel : Nat) (L : List Key), (∀ q ∈ L, locB ds free q = true ∧ InR free q) → (left ds.length L).length ≤ fuel →
    ∀ (a b : Nat), a < ds.length → b < ds.length → ∀ (s t : Int), ∃ r L', Res ds free L (keyOf free a b s t) r L' ∧
      OkS P F.equal_comparison_equal sg_equal_comparison_equal [ref a s, ref b t, .sl (ds.map Nd.enc), .fn f [] cs, .bool free, mpOf L] [.bool r, .sl (ds.map Nd.enc), .fn f [] cs, .bool free, mpOf L'] := by
  intro fuel
  induction fuel using Nat.strongRecOn with
  | _ fuel ih =>
  intro L hL hfuel a b ha hb s t
  have hna := hg.2 _ (List.getElem_mem ha)
  have hnb := hg.2 _ (List.getElem_mem hb)
  have hla := hna.len
  have hlb := hnb.len
  have hla2 : ds[a].next.length ≤ 549755813888 := hla.2
  have bad : locB ds free (keyOf free a b s t) = false → Res ds free L (keyOf free a b s t) false L := fun h => ⟨fun _ h => h, hL, (fun h => by cases h), fun _ he => by rw [eqv_loc he] at h; cases h⟩
  have hloc := loc_key (free := free) ha hb s t
  have h4 : (PV.agg [.sl (ds.map Nd.enc), mpOf L, .fn f [] cs, .bool free]).okc 4 true = true := rfl
  have := tx_exS m_equal_comparison_equal (K := fun ys => ∃ r L', Res ds free L (keyOf free a b s t) r L' ∧ ys = [.bool r, .sl (ds.map Nd.enc), .fn f [] cs, .bool free, mpOf L'])
    (xs := [ref a s, ref b t, .sl (ds.map Nd.enc), .fn f [] cs, .bool free, mpOf L]) (by simp [u_equal_comparison_equal, T.dt]) (by
    refine d_l (ref a s) rfl fun _ => d_l (ref b t) rfl fun _ => d_l _ (e_idx (nd_at ha) (Nd.okc_enc _)) fun _ => d_l _ (e_idx (nd_at hb) (Nd.okc_enc _)) fun _ => d_l _ (e_okc (Nd.okc_enc _)) fun _ => d_l _ (e_okc (Nd.okc_enc _)) fun _ => ?_
    refine d_l _ rfl fun _ => d_ndec (fun hk => d_ret ⟨_, rfl, false, L, bad ?_, rfl⟩) fun hk => ?_
    · have hk : ¬ ds[a].kind = ds[b].kind := hk
      rw [hloc]; simp [hk]
    have hk : ds[a].kind = ds[b].kind := hk
    refine d_l _ e_len fun _ => d_l _ e_len fun _ => d_l _ rfl fun _ => d_ndec (fun hl => d_ret ⟨_, rfl, false, L, bad ?_, rfl⟩) fun hl => ?_
    · have hl : ¬ ((ds[a].labels.map PV.str).length : Int) = ((ds[b].labels.map PV.str).length : Int) := hl
      rw [List.length_map, List.length_map] at hl
      have hl : ¬ ds[a].labels.length = ds[b].labels.length := fun h => hl (by rw [h])
      rw [hloc]; simp [hl]
    have hl : ((ds[a].labels.map PV.str).length : Int) = ((ds[b].labels.map PV.str).length : Int) := hl
    rw [List.length_map, List.length_map] at hl
    have hl : ds[a].labels.length = ds[b].labels.length := Int.ofNat.inj hl
    refine d_callv (hs a b ha hb s t) (d_l _ rfl fun _ => d_ite (fun h => d_ret ⟨_, rfl, false, L, bad ?_, rfl⟩) fun h => ?_)
    · have h : (free || decide (prN ds[a] s = prN ds[b] t)) = false := by revert h; cases (free || decide (prN ds[a] s = prN ds[b] t)) <;> simp
      rw [hloc, h]; simp
    have h : (free || decide (prN ds[a] s = prN ds[b] t)) = true := by revert h; cases (free || decide (prN ds[a] s = prN ds[b] t)) <;> simp
    have hlocT : locB ds free (keyOf free a b s t) = true := by rw [hloc, h]; simp [hk, hl]
    refine d_call (ok_key _ (mpOf L) _ free a b s t h4) (d_l _ (key_gnd _) fun _ => d_l _ (e_mget L _) fun _ => d_dec (fun hm => d_ret ⟨_, rfl, true, L, ⟨fun _ h => h, hL, fun _ => ⟨hm, fun q h1 h2 => absurd h1 h2⟩, (fun h => by cases h)⟩, rfl⟩) fun hm => ?_)
    refine d_call (ok_key _ (mpOf L) _ free a b s t h4) (d_l _ (key_gnd _) fun _ => d_l _ (e_mset L _ hm) fun _ => d_l (i (ds[a].next.length : Int)) (by rw [← List.length_map (f := Rf.enc)]; exact e_len) fun _ => ?_)
    have har : arity ds (keyOf free a b s t) = ds[a].next.length := by simp [arity, keyOf, List.getElem?_eq_getElem ha]
    have hda : ds[(keyOf free a b s t).a.toNat]? = some ds[a] := by simp [keyOf, List.getElem?_eq_getElem ha]
    have hdb : ds[(keyOf free a b s t).b.toNat]? = some ds[b] := by simp [keyOf, List.getElem?_eq_getElem hb]
    have hlocK : locB ds free (keyOf free a b s t) = true ∧ InR free (keyOf free a b s t) := ⟨hlocT, inR_key _ _ _ _ _⟩
    refine den_loop (fun m ys => ∃ (j : Nat) (M : List Key), j + m = ds[a].next.length ∧ (∀ q ∈ L ++ [keyOf free a b s t], q ∈ M) ∧ (∀ q ∈ M, locB ds free q = true ∧ InR free q) ∧
      (∀ q ∈ M, q ∉ L → q ≠ keyOf free a b s t → ∀ j, j < arity ds q → ∃ q', Nx ds free q j q' ∧ q' ∈ M) ∧ (∀ j', j' < j → ∃ q', Nx ds free (keyOf free a b s t) j' q' ∧ q' ∈ M) ∧
      ys = [i j, .sl (ds.map Nd.enc), mpOf M, .fn f [] cs, .bool free]) ds[a].next.length ⟨0, L ++ [keyOf free a b s t], by omega, fun _ h => h, fun q hq => ?_, fun q hq h1 h2 => ?_, (fun j' h => by omega), rfl⟩ ?_
    · rcases List.mem_append.1 hq with hq | hq
      · exact hL q hq
      · obtain rfl : q = keyOf free a b s t := by simpa using hq
        exact hlocK
    · rcases List.mem_append.1 hq with hq | hq
      · exact absurd hq h1
      · exact absurd (by simpa using hq) h2
    rintro m _ ⟨j, M, hj, hM1, hM2, hM3, hM4, rfl⟩
    refine d_l _ rfl fun _ => d_dec (fun h => ?_) fun h => d_ret ⟨_, rfl, true, M, ⟨fun q hq => hM1 q (List.mem_append.2 (.inl hq)), hM2, fun _ => ⟨hM1 _ (by simp), fun q hq hqL j' hj' => ?_⟩, (fun h => by cases h)⟩, rfl⟩
    · have hjlt : j < ds[a].next.length := by
        have h : (j : Int) < (ds[a].next.length : Int) := h
        omega
      have hact : act ds[a].kind = true := by
        have h1 := hna.k1; have h3 := hna.n3
        simp only [act, decide_eq_true_eq]
        clear hna hnb
        omega
      have hleft : (left ds.length M).length < fuel := by
        have h1 : (left ds.length M).length ≤ (left ds.length (L ++ [keyOf free a b s t])).length := left_mono hM1
        have h2 : (left ds.length (L ++ [keyOf free a b s t])).length < (left ds.length L).length := left_lt (left_mem.2 ⟨⟨ha, hb⟩, fun q hq hab => hm (by rw [← same_pair (hL q hq) hlocK hab.1 hab.2 hda hact]; exact hq)⟩) rfl rfl
        omega
      have hu := hna.node' _ (List.getElem_mem hjlt)
      -- the step for a rest q of b
      have go : ∀ (q : Nat) (hq : q < ds[b].next.length), Sel ds[a] ds[b] j q → ∃ r M', OkS P F.equal_comparison_equal sg_equal_comparison_equal [ref ds[a].next[j].node (ad ds[a].next[j].shift s), ref ds[b].next[q].node (ad ds[b].next[q].shift t), .sl (ds.map Nd.enc), .fn f [] cs, .bool free, mpOf M] [.bool r, .sl (ds.map Nd.enc), .fn f [] cs, .bool free, mpOf M'] ∧
          (r = false → Res ds free L (keyOf free a b s t) false M') ∧ (r = true → (∀ q ∈ L ++ [keyOf free a b s t], q ∈ M') ∧ (∀ q ∈ M', locB ds free q = true ∧ InR free q) ∧
            (∀ q ∈ M', q ∉ L → q ≠ keyOf free a b s t → ∀ j, j < arity ds q → ∃ q', Nx ds free q j q' ∧ q' ∈ M') ∧ (∀ j', j' < j + 1 → ∃ q', Nx ds free (keyOf free a b s t) j' q' ∧ q' ∈ M')) := by
        intro q hq hsel
        have hv := hnb.node' _ (List.getElem_mem hq)
        obtain ⟨r, M', hR, hok⟩ := ih _ hleft M hM2 (Nat.le_refl _) ds[a].next[j].node.toNat ds[b].next[q].node.toNat (by omega) (by omega) (ad ds[a].next[j].shift s) (ad ds[b].next[q].shift t)
        rw [show ((ds[a].next[j].node.toNat : Nat) : Int) = ds[a].next[j].node by omega, show ((ds[b].next[q].node.toNat : Nat) : Int) = ds[b].next[q].node by omega] at hR hok
        have hnx : Nx ds free (keyOf free a b s t) j (keyOf free ds[a].next[j].node ds[b].next[q].node (ad ds[a].next[j].shift s) (ad ds[b].next[q].shift t)) :=
          ⟨ds[a], ds[b], hda, hdb, ds[a].next[j], ds[b].next[q], q, List.getElem?_eq_getElem hjlt, List.getElem?_eq_getElem hq, hsel, key_next free _ _ a b s t⟩
        refine ⟨r, M', hok, fun hr => ⟨fun q hq => hR.sub q (hM1 q (List.mem_append.2 (.inl hq))), hR.loc, (fun h => by cases h), fun _ he => ?_⟩, fun hr => ⟨fun q hq => hR.sub q (hM1 q hq), hR.loc, fun p hp hpL hpk j' hj' => ?_, fun j' hj' => ?_⟩⟩
        · refine hR.no hr ?_
          obtain ⟨N, hN, hkN⟩ := he
          obtain ⟨k', ⟨x, y, hx, hy, u, v, q', hu', hv', hsel', rfl⟩, hk'⟩ := (hN _ hkN).2 j (by rw [har]; exact hjlt)
          rw [hda] at hx; cases hx
          rw [hdb] at hy; cases hy
          rw [List.getElem?_eq_getElem hjlt] at hu'; cases hu'
          have := sel_fun hsel' hsel
          subst this
          rw [List.getElem?_eq_getElem hq] at hv'; cases hv'
          rw [← key_next free _ _ a b s t] at hk'
          exact ⟨N, hN, hk'⟩
        · by_cases hpM : p ∈ M
          · obtain ⟨q', h1, h2⟩ := hM3 p hpM hpL hpk j' hj'
            exact ⟨q', h1, hR.sub q' h2⟩
          · exact (hR.yes hr).2 p hp hpM j' hj'
        · by_cases he : j' = j
          · subst he
            exact ⟨_, hnx, (hR.yes hr).1⟩
          · obtain ⟨q', h1, h2⟩ := hM4 j' (by omega)
            exact ⟨q', h1, hR.sub q' h2⟩
      refine d_l _ e_len fun _ => d_l _ rfl fun _ => d_dec (fun h0 => ?_) fun h0 => ?_
      · have h0 : (0 : Int) < ((ds[a].labels.map PV.str).length : Int) := h0
        rw [List.length_map] at h0
        have h0 : 0 < ds[a].labels.length := by omega
        have hxa : ds[a].next.length = ds[a].labels.length ∧ ds[b].next.length = ds[b].labels.length := by
          have a1 := hna.k1; have a3 := hna.n3; have a5 := hna.n5; have a7 := hna.n7
          have b7 := hnb.n7
          clear hna hnb
          omega
        have hjl : j < ds[a].labels.length := by omega
        obtain ⟨r, hix, hat⟩ := ok_slices_Index_string_string ds[b].labels ds[a].labels[j] hlb.1
        refine d_l _ (e_idx (str_at hjl) rfl) fun _ => d_call hix (d_call (ok_head_Next ds a ha s j hjlt) (d_l (ref ds[a].next[j].node (ad ds[a].next[j].shift s)) rfl fun _ => d_l (.bool true) rfl fun _ => d_l (ref ds[a].next[j].node (ad ds[a].next[j].shift s)) rfl fun _ => ?_))
        rcases hat with ⟨rfl, hno⟩ | ⟨q, rfl, hq, hfirst⟩
        · refine d_call (ok_head_Next_no ds b hb t (-1) (.inl (by omega))) (d_l (ref 0 0) rfl fun _ => d_l (.bool false) rfl fun _ => d_l (ref 0 0) rfl fun _ => d_l _ rfl fun _ => d_true (d_ret ⟨_, rfl, false, M, ⟨fun q hq => hM1 q (List.mem_append.2 (.inl hq)), hM2, (fun h => by cases h), fun _ he => ?_⟩, rfl⟩))
          obtain ⟨N, hN, hkN⟩ := he
          obtain ⟨k', ⟨x, y, hx, hy, u, v, q', hu', hv', hsel', rfl⟩, hk'⟩ := (hN _ hkN).2 j (by rw [har]; exact hjlt)
          rw [hda] at hx; cases hx
          rw [hdb] at hy; cases hy
          unfold Sel at hsel'
          rw [if_pos h0] at hsel'
          obtain ⟨z, z1, z2, _⟩ := hsel'
          rw [List.getElem?_eq_getElem hjl] at z1; cases z1
          exact hno (List.mem_of_getElem? z2)
        · have hql : q < ds[b].labels.length := (List.getElem?_eq_some_iff.1 hq).1
          have hqn : q < ds[b].next.length := by omega
          obtain ⟨r, M', hok, hf, ht⟩ := go q hqn (by unfold Sel; rw [if_pos h0]; exact ⟨_, List.getElem?_eq_getElem hjl, hq, hfirst⟩)
          refine d_call (ok_head_Next ds b hb t q hqn) (d_l (ref ds[b].next[q].node (ad ds[b].next[q].shift t)) rfl fun _ => d_l (.bool true) rfl fun _ => d_l (ref ds[b].next[q].node (ad ds[b].next[q].shift t)) rfl fun _ => d_l _ rfl fun _ => d_false (d_calls rfl hok (d_l (.bool (!r)) rfl fun _ => d_ite (fun h => d_ret ⟨_, rfl, false, M', hf (by simpa using h), rfl⟩) fun h => d_l _ (e_inc (by omega)) fun _ => d_cont rfl ?_)))
          obtain ⟨t1, t2, t3, t4⟩ := ht (by simpa using h)
          exact ⟨m - 1, by omega, j + 1, M', by omega, t1, t2, t3, t4, rfl⟩
      · have h0 : ¬ (0 : Int) < ((ds[a].labels.map PV.str).length : Int) := h0
        rw [List.length_map] at h0
        have h0 : ¬ 0 < ds[a].labels.length := by omega
        have hqn : j < ds[b].next.length := by
          have a1 := hna.k1; have a3 := hna.n3; have a5 := hna.n5; have a7 := hna.n7
          have b3 := hnb.n3; have b5 := hnb.n5
          clear hna hnb
          omega
        obtain ⟨r, M', hok, hf, ht⟩ := go j hqn (by unfold Sel; rw [if_neg h0])
        refine d_call (ok_head_Next ds a ha s j hjlt) (d_l (ref ds[a].next[j].node (ad ds[a].next[j].shift s)) rfl fun _ => d_l (.bool true) rfl fun _ => d_l (ref ds[a].next[j].node (ad ds[a].next[j].shift s)) rfl fun _ => ?_)
        refine d_call (ok_head_Next ds b hb t j hqn) (d_l (ref ds[b].next[j].node (ad ds[b].next[j].shift t)) rfl fun _ => d_l (.bool true) rfl fun _ => d_l (ref ds[b].next[j].node (ad ds[b].next[j].shift t)) rfl fun _ => d_l _ rfl fun _ => d_false (d_calls rfl hok (d_l (.bool (!r)) rfl fun _ => d_ite (fun h => d_ret ⟨_, rfl, false, M', hf (by simpa using h), rfl⟩) fun h => d_l _ (e_inc (by omega)) fun _ => d_cont rfl ?_)))
        obtain ⟨t1, t2, t3, t4⟩ := ht (by simpa using h)
        exact ⟨m - 1, by omega, j + 1, M', by omega, t1, t2, t3, t4, rfl⟩
    · have h : ¬ (j : Int) < (ds[a].next.length : Int) := h
      by_cases he : q = keyOf free a b s t
      · subst he
        rw [har] at hj'
        exact hM4 j' (by omega)
      · exact hM3 q hq hqL he j' hj')
  obtain ⟨_, ⟨r, L', hR, rfl⟩, h⟩ := this
  exact ⟨r, L', hR, h⟩

end Go.Proofs.YtopinhoalbgebaaGreatDoor.Tx

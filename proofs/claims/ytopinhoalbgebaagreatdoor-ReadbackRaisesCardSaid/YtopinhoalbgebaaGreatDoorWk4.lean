/- Contracts: right types, small ones. -/
import Derived.Test.YtopinhoalbgebaaGreatDoorWk3
set_option linter.all false
namespace Go.Proofs.YtopinhoalbgebaaGreatDoor.Tx
open Go.Lf Go.Lf.S Go.Lf.Duo
set_option maxRecDepth 100000

theorem ty_at {ks : List Ty} {j : Nat} (h : j < ks.length) : (ks.map Ty.enc)[j]? = some (ks[j]).enc := by simp [h]

theorem ok_ref02_node : ∀ (t : Ty), Lim t → ∀ (ns : List ByteArray) (g : Nat) (ses : Bool), ns.length + t.sz ≤ 1099511627776 →
    ∃ e : Int, Ok P F.ref02_node [t.enc, .sl (ns.map .str), i g, .bool ses] (i e) ∧ (e = 0 → Wf t ns g) := by
  intro t
  induction t using Ty.ind with
  | _ t ih =>
  intro hlim ns g ses hz
  obtain ⟨b, hb, hwf⟩ := ok_ref02_shape t hlim
  have hse := ok_ref02_Session t
  cases hlim with
  | mk _ hn hl hll hkl hkk =>
  obtain ⟨k, p, nm, s, ls, ks⟩ := t
  have hkl : ks.length ≤ 9223372036854775807 := hkl
  have hzk : ∀ x ∈ ks, x.sz < (Ty.mk k p nm s ls ks).sz := fun x hx => Ty.sz_kid hx
  have hns : ns.length ≤ 1099511627776 := by omega
  rw [Ty.enc_mk] at hb hse ⊢
  have := tx_ex (K := fun x => ∃ e : Int, x = i e ∧ (e = 0 → Wf (.mk k p nm s ls ks) ns g)) k_ref02_node (xs := [.agg [.int .i64 k, .int .i64 p, .str nm, .int .i64 s, .sl (ls.map .str), .sl (ks.map Ty.enc)], .sl (ns.map .str), i g, .bool ses]) rfl (by simp [t_ref02_node, T.dt]) (by
    refine d_l _ (by rfl) fun _ => d_call hb (d_l _ rfl fun _ => d_ite (fun _ => d_ret ⟨3, rfl, fun h => by cases h⟩) fun hbt => ?_)
    have hw1 := hwf (by simpa using hbt)
    have hw1' := hw1
    unfold Wf1 at hw1'
    have hw1' := hw1'.1
    simp only [Ty.kind, Ty.prio, Ty.shift, Ty.kids, Ty.labels] at hw1'
    -- the three ways behind
    have nm9 : k = 9 → (∃ j, j < g ∧ LastAt nm ns j) → Wf (.mk k p nm s ls ks) ns g := fun h9 hm => .mk _ _ _ hw1 (fun _ => hm) (fun h8 => by simp only [Ty.kind] at h8; omega) (fun _ x hx => by
      have : ks = [] := List.eq_nil_of_length_eq_zero (by omega)
      simp [Ty.kids, this] at hx)
    refine d_ite (fun _ => d_call hse (d_l _ rfl fun _ => d_ite (fun _ => d_ret ⟨3, rfl, fun h => by cases h⟩) fun _ => ?_)) fun _ => ?_
    all_goals
      refine d_l _ rfl fun _ => d_dec (fun h9 => ?_) fun h9 => ?_
      · have h9 : k = 9 := h9
        refine d_l _ e_len fun _ => d_l _ (e_sub (by simp; omega) (by simp; omega)) fun _ => ?_
        refine den_loop (fun m ys => ∃ q : Int, q + 1 = m ∧ q < ns.length ∧ (∀ x : Nat, q < x → ns[x]? ≠ some nm) ∧ ys = [i q]) ns.length ⟨ns.length - 1, by omega, by omega, fun x hx => by rw [List.getElem?_eq_none (by omega)]; simp, by simp⟩ ?_
        rintro m _ ⟨q, hq1, hq2, hq3, rfl⟩
        refine d_l _ rfl fun _ => d_dec (fun h => ?_) fun h => d_ret ⟨4, rfl, fun h => by cases h⟩
        have h : (0 : Int) ≤ q := h
        obtain ⟨j, rfl⟩ : ∃ j : Nat, q = j := ⟨q.toNat, by omega⟩
        have hlt : j < ns.length := by omega
        refine d_l _ (e_idx (str_at hlt) rfl) fun _ => d_l _ rfl fun _ => d_dec (fun he => ?_) fun he => ?_
        · have he : ns[j] = nm := he
          refine d_l _ rfl fun _ => d_dec (fun hg => d_ret ⟨0, rfl, fun _ => nm9 h9 ⟨j, ?_, by rw [List.getElem?_eq_getElem hlt, he], fun x hx => hq3 x (by omega)⟩⟩) fun _ => d_ret ⟨3, rfl, fun h => by cases h⟩
          have hg : (j : Int) < (g : Int) := hg
          omega
        · refine d_l _ (e_sub (by omega) (by omega)) fun _ => d_cont rfl ⟨m - 1, by omega, (j : Int) - 1, by omega, by omega, fun x hx => ?_, rfl⟩
          by_cases hxj : x = j
          · subst hxj; rw [List.getElem?_eq_getElem hlt]; intro e; exact he (Option.some.inj e)
          · exact hq3 x (by omega)
      · have h9 : ¬ k = 9 := h9
        refine d_l _ rfl fun _ => d_dec (fun h8 => ?_) fun h8 => ?_
        · have h8 : k = 8 := h8
          have hk1 : ks.length = 1 := (hw1'.2.2.2.2.2.1 h8).1
          have hm0 : ks[0] ∈ ks := List.getElem_mem (by omega)
          obtain ⟨e, he, hew⟩ := ih ks[0] hm0 (hkk _ hm0) (ns ++ [nm]) g true (by have := hzk _ hm0; simp; omega)
          refine d_l _ (e_idx (k := 0) (ty_at (by omega)) (Ty.okc_enc _)) fun _ => d_l _ rfl fun _ => d_l _ (e_app (all_map okc_str _) (by simp; omega) (by simp; omega)) fun _ => d_l _ rfl fun _ => d_l _ (e_app (fun x hx => by simp at hx; subst hx; rfl) (by simp; omega) (by simp; omega)) fun _ => ?_
          rw [List.map_append] at he
          refine d_call he (d_ret ⟨e, rfl, fun h0 => .mk _ _ _ hw1 (fun h => by simp only [Ty.kind] at h; omega) (fun _ x hx => ?_) (fun h => absurd h8 h)⟩)
          have : ks = [ks[0]] := by
            match ks, hk1 with
            | [x], _ => rfl
          simp only [Ty.kids] at hx
          rw [this] at hx
          obtain rfl : x = ks[0] := by simpa using hx
          exact hew h0
        · have h8 : ¬ k = 8 := h8
          refine den_loop (fun m ys => ∃ j : Nat, j + m = ks.length ∧ (∀ x ∈ ks.take j, Wf x ns ns.length) ∧ ys = [i j]) ks.length ⟨0, by omega, by simp, rfl⟩ ?_
          rintro m _ ⟨j, hj, hdone, rfl⟩
          refine d_l _ e_len fun _ => d_l _ rfl fun _ => d_dec (fun h => ?_) fun h => d_ret ⟨0, rfl, fun _ => .mk _ _ _ hw1 (fun h => absurd h h9) (fun h => absurd h h8) (fun _ x hx => ?_)⟩
          · have h : (j : Int) < ((ks.map Ty.enc).length : Int) := h
            have hlt : j < ks.length := by simp at h; omega
            have hmem : ks[j] ∈ ks := List.getElem_mem hlt
            have nxt : Wf ks[j] ns ns.length → ∀ x ∈ ks.take (j + 1), Wf x ns ns.length := fun hw x hx => by
              rw [List.take_succ_eq_append_getElem hlt] at hx
              rcases List.mem_append.1 hx with hx | hx
              · exact hdone x hx
              · obtain rfl : x = ks[j] := by simpa using hx
                exact hw
            refine d_l _ (e_idx (ty_at hlt) (Ty.okc_enc _)) fun _ => d_l (i (ns.length : Int)) (by rw [← List.length_map (f := PV.str)]; exact e_len) fun _ => d_l _ rfl fun _ => d_dec (fun _ => ?_) fun _ => ?_
            · obtain ⟨e, he, hew⟩ := ih ks[j] hmem (hkk _ hmem) ns ns.length true (by have := hzk _ hmem; omega)
              exact d_call he (d_l _ rfl fun _ => d_ndec (fun h0 => d_ret ⟨e, rfl, fun h => absurd h h0⟩) fun h0 => d_l _ (e_inc (by omega)) fun _ => d_cont rfl ⟨m - 1, by omega, j + 1, by omega, nxt (hew h0), rfl⟩)
            · refine d_l _ rfl fun _ => ?_
              obtain ⟨e, he, hew⟩ := ih ks[j] hmem (hkk _ hmem) ns ns.length (decide (5 < k)) (by have := hzk _ hmem; omega)
              exact d_call he (d_l _ rfl fun _ => d_ndec (fun h0 => d_ret ⟨e, rfl, fun h => absurd h h0⟩) fun h0 => d_l _ (e_inc (by omega)) fun _ => d_cont rfl ⟨m - 1, by omega, j + 1, by omega, nxt (hew h0), rfl⟩)
          · have h : ¬ (j : Int) < ((ks.map Ty.enc).length : Int) := h
            have : ks.take j = ks := List.take_of_length_le (by simp at h; omega)
            rw [this] at hdone
            exact hdone x hx)
  obtain ⟨_, ⟨e, rfl, he⟩, h⟩ := this
  exact ⟨e, h, he⟩

theorem ok_ref02_Right (t : Ty) (hlim : Lim t) (hz : t.sz ≤ 549755813888) : ∃ e : Int, Ok P F.ref02_Right [t.enc] (i e) ∧ (e = 0 → Wf t [] 0) := by
  have hd := ok_ref02_Depth t (by omega)
  have hs := ok_ref02_Size t (by omega)
  obtain ⟨e, he, hew⟩ := ok_ref02_node t hlim [] 0 false (by simp; omega)
  have hk := Ty.okc_enc t
  have := tx_ex (K := fun x => ∃ e : Int, x = i e ∧ (e = 0 → Wf t [] 0)) k_ref02_Right (xs := [t.enc]) rfl (by simp [t_ref02_Right, T.dt]) (by
    exact d_l _ (e_okc hk) fun _ => d_call hd (d_l _ rfl fun _ => d_dec (fun _ => d_ret ⟨2, rfl, fun h => by cases h⟩) fun _ => d_call hs (d_l _ rfl fun _ => d_dec (fun _ => d_ret ⟨2, rfl, fun h => by cases h⟩) fun _ => d_call he (d_ret ⟨e, rfl, hew⟩))))
  obtain ⟨_, ⟨e, rfl, he⟩, h⟩ := this
  exact ⟨e, h, he⟩

theorem ok_ref02_Few (t : Ty) (hlim : Lim t) (m : Int) (h0 : 0 ≤ m) (h1 : m ≤ 549755813888) : ∃ b, Ok P F.ref02_Few [t.enc, i m] (.bool b) ∧ (b = true → (t.sz : Int) ≤ m) := by
  have hc := ok_ref02_count t m hlim h0 (by omega)
  have hk := Ty.okc_enc t
  obtain ⟨c1, c2, c3⟩ := cnt_spec t m h0
  have := tx_ex (K := fun x => ∃ b, x = .bool b ∧ (b = true → (t.sz : Int) ≤ m)) k_ref02_Few (xs := [t.enc, i m]) rfl (by simp [t_ref02_Few, T.dt]) (by
    refine d_l _ (e_okc hk) fun _ => d_call hc (d_l _ rfl fun _ => d_dec (fun h => ?_) fun _ => d_ret ⟨false, rfl, fun h => by cases h⟩)
    have h : (0 : Int) ≤ cnt t m := h
    have := c3 h
    exact d_call (ok_ref02_Depth t (by omega)) (d_l _ rfl fun _ => d_ret ⟨_, rfl, fun _ => by omega⟩))
  obtain ⟨_, ⟨b, rfl, hb⟩, h⟩ := this
  exact ⟨b, h, hb⟩

theorem ok_ref02_Small (t : Ty) (hlim : Lim t) (m : Int) (h0 : 0 ≤ m) (h1 : m ≤ 549755813888) : ∃ b, Ok P F.ref02_Small [t.enc, i m] (.bool b) ∧ (b = true → (t.sz : Int) ≤ m ∧ Wf t [] 0) := by
  obtain ⟨b, hf, hb⟩ := ok_ref02_Few t hlim m h0 h1
  have hk := Ty.okc_enc t
  have := tx_ex (K := fun x => ∃ b, x = .bool b ∧ (b = true → (t.sz : Int) ≤ m ∧ Wf t [] 0)) k_ref02_Small (xs := [t.enc, i m]) rfl (by simp [t_ref02_Small, T.dt]) (by
    refine d_l _ (e_okc hk) fun _ => d_call hf (d_ite (fun h => ?_) fun _ => d_ret ⟨false, rfl, fun h => by cases h⟩)
    have hz := hb h
    obtain ⟨e, he, hew⟩ := ok_ref02_Right t hlim (by omega)
    exact d_call he (d_l _ rfl fun _ => d_ret ⟨_, rfl, fun h => ⟨hz, hew (of_decide_eq_true h)⟩⟩))
  obtain ⟨_, ⟨b, rfl, hb⟩, h⟩ := this
  exact ⟨b, h, hb⟩

end Go.Proofs.YtopinhoalbgebaaGreatDoor.Tx

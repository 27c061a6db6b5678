/- The law: the reached nodes are those of the reference. -/
import Derived.Test.YtodomlcjppdgfaaWk116
set_option linter.all false
namespace Go.Proofs.Ytodomlcjppdgfaa.Tx
open Go.Lf Go.Lf.S Go.Lf.Duo
set_option maxRecDepth 100000

/-! ### rows of truth values -/

def Le (A B : List Bool) : Prop := ∀ n : Nat, A[n]? = some true → B[n]? = some true
theorem Le.refl (A : List Bool) : Le A A := fun _ h => h
theorem Le.trans {A B C : List Bool} (h : Le A B) (k : Le B C) : Le A C := fun n hn => k n (h n hn)
theorem le_set (A : List Bool) (v : Nat) : Le A (A.set v true) := fun n h => by
  rw [List.getElem?_set]
  split
  · rename_i e
    subst e
    rw [if_pos (List.getElem?_eq_some_iff.1 h).1]
  · exact h
theorem set_true {A : List Bool} {v n : Nat} (h : (A.set v true)[n]? = some true) : A[n]? = some true ∨ n = v := by
  rw [List.getElem?_set] at h
  split at h
  · rename_i e; exact .inr e.symm
  · exact .inl h
theorem le_count : ∀ (A B : List Bool), A.length = B.length → Le A B → A.count true ≤ B.count true ∧ (B.count true ≤ A.count true → Le B A)
  | [], [], _, _ => ⟨Nat.le_refl _, fun _ => Le.refl _⟩
  | [], _ :: _, h, _ => by simp at h
  | _ :: _, [], h, _ => by simp at h
  | a :: A, b :: B, h, hl => by
    have hl' : Le A B := fun n hn => by
      have := hl (n + 1) (by simpa using hn)
      simpa using this
    obtain ⟨h1, h2⟩ := le_count A B (by simpa using h) hl'
    have h0 : a = true → b = true := fun e => by
      have := hl 0 (by simp [e])
      simpa using this
    cases a <;> cases b
    · simp only [List.count_cons]
      refine ⟨by simpa using h1, fun hc n hn => ?_⟩
      have := h2 (by simpa using hc)
      cases n with
      | zero => simp at hn
      | succ n => have := this n (by simpa using hn); simpa using this
    · simp only [List.count_cons]
      refine ⟨by simp; omega, fun hc => ?_⟩
      simp at hc; omega
    · exact absurd (h0 rfl) (by decide)
    · simp only [List.count_cons]
      refine ⟨by simpa using h1, fun hc n hn => ?_⟩
      have := h2 (by simpa using hc)
      cases n with
      | zero => simp
      | succ n => have := this n (by simpa using hn); simpa using this

structure Snd (ds : List Nd) (a : Nat) (B : List Bool) : Prop where
  len : B.length = ds.length
  at0 : B[a]? = some true
  rch : ∀ n : Nat, B[n]? = some true → Rch ds a n
def Cld (ds : List Nd) (B : List Bool) : Prop := ∀ (n : Nat) (d : Nd) (v : Rf), B[n]? = some true → ds[n]? = some d → v ∈ d.next → B[v.node.toNat]? = some true
theorem Snd.all {ds : List Nd} {a : Nat} {B : List Bool} (h : Snd ds a B) (hc : Cld ds B) {n : Nat} (hr : Rch ds a n) : B[n]? = some true := by
  induction hr with
  | base => exact h.at0
  | step h hd hv ih => exact hc _ _ _ ih hd hv
theorem Snd.set {ds : List Nd} {a v : Nat} {B : List Bool} (h : Snd ds a B) (hv : Rch ds a v) : Snd ds a (B.set v true) :=
  ⟨by simp [h.len], le_set B v a h.at0, fun n hn => by
    rcases set_true hn with hn | rfl
    · exact h.rch n hn
    · exact hv⟩

theorem bool_at {B : List Bool} {j : Nat} (h : j < B.length) : (B.map PV.bool)[j]? = some (.bool B[j]) := by simp [h]

theorem ok_ref07_Reach {ds : List Nd} (hg : Gr8 ds) (hll : ds.length ≤ 1000000) (hnx : ∀ d ∈ ds, d.next.length ≤ 549755813888) (a : Nat) (ha : a < ds.length) :
    ∃ B : List Bool, Ok P F.ref07_Reach [.sl (ds.map Nd.enc), i (a : Int)] (.sl (B.map .bool)) ∧ B.length = ds.length ∧ ∀ n : Nat, B[n]? = some true ↔ Rch ds a n := by
  have := tx_ex (K := fun x => ∃ B : List Bool, x = .sl (B.map .bool) ∧ B.length = ds.length ∧ ∀ n : Nat, B[n]? = some true ↔ Rch ds a n) k_ref07_Reach (xs := [.sl (ds.map Nd.enc), i (a : Int)]) rfl (by simp [t_ref07_Reach, T.dt]) (by
    have hlen : Prim.len.ev [.sl (ds.map Nd.enc)] = some (i (ds.length : Int)) := by rw [e_len]; simp
    have hrep : (Prim.rep 1 false 1 (.bool false)).ev [i (ds.length : Int)] = some (.sl ((List.replicate ds.length false).map .bool)) := by
      show (if 0 ≤ (ds.length : Int) ∧ (ds.length : Int).toNat * 1 ≤ roomB ∧ (ds.length : Int) ≤ maxLen ∧ (PV.bool false).okc 1 false then some (PV.sl (List.replicate (ds.length : Int).toNat (.bool false))) else none) = _
      have hm : (1000001 : Int) ≤ maxLen := by decide
      rw [if_pos ⟨by omega, by unfold roomB; omega, by omega, rfl⟩, Int.toNat_natCast, List.map_replicate]
    have hra : a < (List.replicate ds.length false).length := by simpa using ha
    have up : ∀ (B : List Bool) (v : Nat), v < B.length → (Prim.upd 1 false).ev [.sl (B.map .bool), i (v : Int), .bool true] = some (.sl ((B.set v true).map .bool)) := fun B v hv => by
      rw [e_updT (by simpa using hv) rfl, List.map_set]
    refine d_l _ hlen fun _ => d_l _ hrep fun _ => d_l _ (e_idx (bool_at hra) rfl) fun _ => d_l _ (up _ a hra) fun _ => ?_
    have hS0 : Snd ds a ((List.replicate ds.length false).set a true) := ⟨by simp, by rw [List.getElem?_set_self hra], fun n hn => by
      rcases set_true hn with hn | rfl
      · rw [List.getElem?_replicate] at hn
        split at hn
        · cases hn
        · cases hn
      · exact .base⟩
    have hc0 : 1 ≤ ((List.replicate ds.length false).set a true).count true := by
      refine List.one_le_count_iff.2 ?_
      exact List.mem_of_getElem? hS0.at0
    refine den_loop (fun m ys => ∃ (r : Nat) (B : List Bool), r + m = ds.length ∧ Snd ds a B ∧ (Cld ds B ∨ r + 1 ≤ B.count true) ∧ ys = [i r, .sl (B.map .bool)]) ds.length ⟨0, _, by omega, hS0, .inr (by omega), rfl⟩ ?_
    rintro m _ ⟨r, B0, hr, hS, hC, rfl⟩
    refine d_l _ hlen fun _ => d_l (.bool (decide ((r : Int) < (ds.length : Int)))) rfl fun _ => d_dec (p := (r : Int) < (ds.length : Int)) (fun h => ?_) fun h => ?_
    · refine den_loop (fun m' ys => ∃ (q : Nat) (B : List Bool), q + m' = ds.length ∧ Snd ds a B ∧ Le B0 B ∧ (∀ n : Nat, n < q → B0[n]? = some true → ∀ (d : Nd) (v : Rf), ds[n]? = some d → v ∈ d.next → B[v.node.toNat]? = some true) ∧ ys = [i q, .sl (B.map .bool)]) ds.length ⟨0, B0, by omega, hS, Le.refl _, (fun n h => by omega), rfl⟩ ?_
      rintro m' _ ⟨q, B, hq, hSB, hLe, hpr, rfl⟩
      refine d_l _ hlen fun _ => d_l (.bool (decide ((q : Int) < (ds.length : Int)))) rfl fun _ => d_dec (p := (q : Int) < (ds.length : Int)) (fun h => ?_) fun h => ?_
      · have hql : q < ds.length := by omega
        have hnd := e_idx (n := 4) (a := true) (ndAt hql) (Nd.okc_enc _)
        have hdq : ds[q]? = some ds[q] := List.getElem?_eq_getElem hql
        have hdn := hnx _ (List.getElem_mem hql)
        generalize ds[q] = d at *
        have hnl : Prim.len.ev [c 3 d.enc] = some (i (d.next.length : Int)) := by
          show Prim.len.ev [.sl (d.next.map Rf.enc)] = _
          rw [e_len]; simp
        refine den_loop (fun m2 ys => ∃ (k : Nat) (B' : List Bool), k + m2 = d.next.length ∧ Snd ds a B' ∧ Le B B' ∧ (∀ v ∈ d.next.take k, B'[v.node.toNat]? = some true) ∧ ys = [i k, .sl (B'.map .bool)]) d.next.length ⟨0, B, by omega, hSB, Le.refl _, by simp, rfl⟩ ?_
        rintro m2 _ ⟨k, B', hk, hSB', hLe', hdone, rfl⟩
        have hqb : q < B'.length := by rw [hSB'.len]; exact hql
        have nextq : (∀ v ∈ d.next, B0[q]? = some true → B'[v.node.toNat]? = some true) → ∃ m3, m3 < m' ∧ ∃ (q' : Nat) (B2 : List Bool), q' + m3 = ds.length ∧ Snd ds a B2 ∧ Le B0 B2 ∧ (∀ n : Nat, n < q' → B0[n]? = some true → ∀ (d : Nd) (v : Rf), ds[n]? = some d → v ∈ d.next → B2[v.node.toNat]? = some true) ∧ [i ((q + 1 : Nat) : Int), PV.sl (B'.map .bool)] = [i q', .sl (B2.map .bool)] := fun hall => by
          refine ⟨m' - 1, by omega, q + 1, B', by omega, hSB', hLe.trans hLe', fun n hn hB n' v hd hv => ?_, rfl⟩
          by_cases e : n = q
          · subst e
            rw [hdq] at hd; cases hd
            exact hall v hv hB
          · exact hLe' _ (hpr n (by omega) hB n' v hd hv)
        refine d_l _ hnd fun _ => d_l _ hnl fun _ => d_l (.bool (decide ((k : Int) < (d.next.length : Int)))) rfl fun _ => d_dec (p := (k : Int) < (d.next.length : Int)) (fun h => ?_) fun h => ?_
        · have hkl : k < d.next.length := by omega
          have hix := e_idx (n := 1) (a := false) (bool_at hqb) rfl
          refine d_l _ hix fun _ => d_l _ hix fun _ => d_ite (fun hb => ?_) fun hb => ?_
          · have hvm := List.getElem_mem hkl
            have hvb := hg.2 d (List.mem_of_getElem? hdq) _ hvm
            have hrix : (Prim.idx 2 true).ev [c 3 d.enc, i (k : Int)] = some d.next[k].enc := e_idx (n := 2) (a := true) (rfAt hkl) (Rf.okc_enc _)
            have htk : d.next.take (k + 1) = d.next.take k ++ [d.next[k]] := List.take_succ_eq_append_getElem hkl
            have hBq : B'[q]? = some true := by rw [List.getElem?_eq_getElem hqb, hb]
            have hrv : Rch ds a d.next[k].node.toNat := .step (hSB'.rch q hBq) hdq hvm
            generalize d.next[k] = v at *
            obtain ⟨vn, hvn⟩ : ∃ vn : Nat, v.node = vn := ⟨v.node.toNat, by omega⟩
            rw [hvn] at hvb
            rw [hvn, Int.toNat_natCast] at hrv
            have hvl : vn < B'.length := by rw [hSB'.len]; omega
            have hc : c 0 v.enc = i (vn : Int) := by show i v.node = _; rw [hvn]
            have hix2 : (Prim.idx 1 false).ev [.sl (B'.map .bool), c 0 v.enc] = some (.bool B'[vn]) := by rw [hc]; exact e_idx (bool_at hvl) rfl
            have hup : (Prim.upd 1 false).ev [.sl (B'.map .bool), c 0 v.enc, .bool true] = some (.sl ((B'.set vn true).map .bool)) := by rw [hc]; exact up B' vn hvl
            refine d_l _ hnd fun _ => d_l _ hrix fun _ => d_l _ hix2 fun _ => d_l _ hup fun _ => d_l _ (e_inc (by omega)) fun _ => d_cont rfl ⟨m2 - 1, by omega, k + 1, _, by omega, hSB'.set hrv, hLe'.trans (le_set _ _), fun x hx => ?_, rfl⟩
            rw [htk] at hx
            rcases List.mem_append.1 hx with hx | hx
            · exact le_set _ _ _ (hdone x hx)
            · simp at hx; subst hx
              rw [hvn, Int.toNat_natCast, List.getElem?_set_self hvl]
          · refine d_l _ (e_inc (by omega)) fun _ => d_cont rfl (nextq fun v hv hB => ?_)
            have := hLe' _ (hLe _ hB)
            rw [List.getElem?_eq_getElem hqb, hb] at this
            cases this
        · have htk : d.next.take k = d.next := List.take_of_length_le (by omega)
          rw [htk] at hdone
          exact d_l _ (e_inc (by omega)) fun _ => d_cont rfl (nextq fun v hv _ => hdone v hv)
      · have hqe : q = ds.length := by omega
        have hcl : Le B B0 → Cld ds B := fun hle n d v hn hd hv => by
          have hnl : n < ds.length := (List.getElem?_eq_some_iff.1 hd).1
          exact hpr n (by omega) (hle n hn) d v hd hv
        refine d_l _ (e_inc (by omega)) fun _ => d_cont rfl ⟨m - 1, by omega, r + 1, B, by omega, hSB, ?_, rfl⟩
        rcases hC with hC | hC
        · refine .inl (hcl fun n hn => hS.all hC (hSB.rch n hn))
        · obtain ⟨c1, c2⟩ := le_count B0 B (by rw [hS.len, hSB.len]) hLe
          by_cases hlt : B.count true ≤ B0.count true
          · exact .inl (hcl (c2 hlt))
          · exact .inr (by omega)
    · have hC : Cld ds B0 := by
        rcases hC with hC | hC
        · exact hC
        · have := List.count_le_length (a := true) (l := B0)
          rw [hS.len] at this; omega
      exact d_ret ⟨B0, rfl, hS.len, fun n => ⟨hS.rch n, fun h => hS.all hC h⟩⟩)
  obtain ⟨_, ⟨B, rfl, h1, h2⟩, h⟩ := this
  exact ⟨B, h, h1, h2⟩

/-- how many are below, and what stands there -/
theorem asc_count : ∀ (zs : List Nat), zs.Pairwise (· < ·) → ∀ j, (j ∈ zs → zs[(zs.filter fun z => decide (z < j)).length]? = some j ∧ (zs.filter fun z => decide (z < j + 1)).length = (zs.filter fun z => decide (z < j)).length + 1) ∧ (j ∉ zs → (zs.filter fun z => decide (z < j + 1)).length = (zs.filter fun z => decide (z < j)).length)
  | [], _, j => ⟨(fun h => by cases h), fun _ => rfl⟩
  | z :: zs, h, j => by
    rw [List.pairwise_cons] at h
    obtain ⟨i1, i2⟩ := asc_count zs h.2 j
    have big : ∀ q, (∀ x ∈ zs, q ≤ x) → (zs.filter fun z => decide (z < q)) = [] := fun q hq => by
      rw [List.filter_eq_nil_iff]
      intro x hx
      have := hq x hx
      simp; omega
    by_cases e1 : z < j
    · have f1 : (decide (z < j)) = true := decide_eq_true e1
      have f2 : (decide (z < j + 1)) = true := decide_eq_true (by omega)
      simp only [List.filter_cons, f1, f2, if_true, List.length_cons]
      refine ⟨fun hm => ?_, fun hm => ?_⟩
      · rcases List.mem_cons.1 hm with rfl | hm
        · omega
        · obtain ⟨a, b⟩ := i1 hm
          exact ⟨by rw [List.getElem?_cons_succ]; exact a, by omega⟩
      · rw [i2 fun h => hm (List.mem_cons_of_mem _ h)]
    · have f1 : (decide (z < j)) = false := decide_eq_false e1
      by_cases e2 : z = j
      · subst e2
        have f2 : (decide (z < z + 1)) = true := decide_eq_true (by omega)
        rw [List.filter_cons, List.filter_cons, f1, f2]
        simp only [if_true, Bool.false_eq_true, if_false]
        rw [big z fun x hx => by have := h.1 x hx; omega, big (z + 1) fun x hx => by have := h.1 x hx; omega]
        exact ⟨fun _ => ⟨rfl, rfl⟩, fun hm => absurd List.mem_cons_self hm⟩
      · have f2 : (decide (z < j + 1)) = false := decide_eq_false (by omega)
        rw [List.filter_cons, List.filter_cons, f1, f2]
        simp only [Bool.false_eq_true, if_false]
        rw [big j fun x hx => by have := h.1 x hx; omega, big (j + 1) fun x hx => by have := h.1 x hx; omega]
        refine ⟨fun hm => ?_, fun _ => rfl⟩
        rcases List.mem_cons.1 hm with rfl | hm
        · exact absurd rfl e2
        · have := h.1 j hm; omega
theorem asc_all {zs : List Nat} {L : Nat} (h : ∀ z ∈ zs, z < L) : (zs.filter fun z => decide (z < L)).length = zs.length := by
  rw [List.filter_eq_self.2 fun z hz => decide_eq_true (h z hz)]
theorem asc_zero (zs : List Nat) : (zs.filter fun z => decide (z < 0)).length = 0 := by
  rw [List.filter_eq_nil_iff.2 fun z _ => by simp]; rfl

theorem ok_law07_GraphReaches (aw : Ok P F.law07_awake [] (.bool true)) (l : List Ty) (k : Int) (k0 : 0 ≤ k) (k1 : k ≤ 255) (hll : l.length ≤ 9223372036854775807) (hlim : ∀ t ∈ l, Lim t) : Ok P F.law07_GraphReaches [.sl (l.map Ty.enc), .int .u8 k] (.bool true) := by
  obtain ⟨b, hf, hw⟩ := ok_ref07_Few l hll hlim 5 60 (by omega) (by omega)
  have hlenl : Prim.len.ev [.sl (l.map Ty.enc)] = some (i (l.length : Int)) := by rw [e_len]; simp
  refine k_law07_GraphReaches _ _ rfl (d_call aw (d_l (.bool false) rfl fun _ => d_false (d_call hf (d_l (.bool !b) rfl fun _ => d_ite (fun _ => d_call aw (d_ret rfl)) fun h1 => d_l _ hlenl fun _ => d_l (.bool (decide ((l.length : Int) = 0))) rfl fun _ => d_dec (p := (l.length : Int) = 0) (fun _ => d_call aw (d_ret rfl)) fun hl0 => ?_))))
  obtain ⟨hl10, hwf⟩ := hw (by simpa using h1)
  have hz' : Ty.szs l ≤ l.length * 60 := szs_bound' 60 l fun t ht => by have := (hwf t ht).1; omega
  have hz : Ty.szs l ≤ 274877906944 := by omega
  obtain ⟨ds, rs, hB, hdl, hrl, hdk, hrk, hds, hrs⟩ := ok_ref07_Build l (fun t ht => (hwf t ht).2) hz
  have hG := ok_graph_Build l (fun t ht => (hwf t ht).2) hz
  rw [← hds, ← hrs] at hG
  have hgl := gcs_le l
  have hdl5 : ds.length ≤ 300 := by omega
  have hnx : ∀ d ∈ ds, d.next.length ≤ 549755813888 := fun d hd => by
    have := hdk d hd
    have n3 := this.n3; have n5 := this.n5; have n7 := this.n7; have k1 := this.k1; have ll := this.ll
    clear this
    omega
  have hS := ok_same ds (by omega) fun d hd => ⟨(hdk d hd).ll, hnx d hd⟩
  have hgr : Gr8 ds := ⟨by omega, fun d hd r hr => by
    obtain ⟨a, _⟩ := (hdk d hd).nx r hr
    rcases a with ⟨q, hq, _⟩ | ⟨a1, a2⟩
    · cases hq
    · exact ⟨a1, by omega⟩⟩
  have hpos : 0 < ds.length := by
    have h0 : 0 < rs.length := by omega
    have := (hrk 0 rs[0] (List.getElem?_eq_getElem h0)).2.2.2.2
    omega
  obtain ⟨kn, rfl⟩ : ∃ kn : Nat, k = kn := ⟨k.toNat, by omega⟩
  have ham : kn % ds.length < ds.length := Nat.mod_lt _ hpos
  have hcv : (Prim.conv .i64).ev [.int .u8 (kn : Int)] = some (i (kn : Int)) := by
    show some (PV.int .i64 (IntKind.i64.wrap (kn : Int))) = _
    rw [wrap_in (by omega) (by omega)]
  have hlen : Prim.len.ev [.sl (ds.map Nd.enc)] = some (i (ds.length : Int)) := by rw [e_len]; simp
  obtain ⟨B, hBo, hBl, hBr⟩ := ok_ref07_Reach hgr (by omega) hnx (kn % ds.length) ham
  obtain ⟨zs, hZo, hZp, hZm⟩ := ok_Reach hgr (by omega) hnx (kn % ds.length) ham kn
  have hzlt : ∀ z ∈ zs, z < B.length := fun z hz => by rw [hBl]; exact Rch.lt hgr ham ((hZm z).1 hz)
  refine d_call hG (d_l (.agg [.sl (ds.map Nd.enc)]) rfl fun _ => d_l (.sl (rs.map Rf.enc)) rfl fun _ => d_l (.agg [.sl (ds.map Nd.enc)]) rfl fun _ => d_call hB (d_l (.sl (ds.map Nd.enc)) rfl fun _ => d_l (.sl (rs.map Rf.enc)) rfl fun _ => d_call hS (d_l (.bool false) rfl fun _ => d_false (d_l _ hcv fun _ => d_l _ hlen fun _ => d_l _ (e_rem hpos) fun _ => d_call hBo (d_l _ hcv fun _ => d_l .nilI rfl fun _ => d_call hZo ?_)))))
  have hlB : Prim.len.ev [.sl (B.map PV.bool)] = some (i (B.length : Int)) := by rw [e_len]; simp
  have hlZ : Prim.len.ev [.sl (zs.map ni)] = some (i (zs.length : Int)) := by rw [e_len]; simp
  refine den_rounds (fun j => [i j, i ((zs.filter fun z => decide (z < j)).length : Int)]) B.length (by rw [asc_zero]; rfl) (fun j hj => ?_) ?_
  · obtain ⟨c1, c2⟩ := asc_count zs hZp j
    refine d_l _ hlB fun _ => d_l (.bool (decide ((j : Int) < (B.length : Int)))) rfl fun _ => d_dec (p := (j : Int) < (B.length : Int)) (fun _ => ?_) fun h => by omega
    refine d_l _ (e_idx (bool_at hj) rfl) fun _ => d_ite (fun hb => ?_) fun hb => ?_
    · obtain ⟨c3, c4⟩ := c1 ((hZm j).2 ((hBr j).1 (by rw [List.getElem?_eq_getElem hj, hb])))
      obtain ⟨hcl, hce⟩ := List.getElem?_eq_some_iff.1 c3
      have hzl : zs.length ≤ 300 := by
        have := nodup_len_le zs B.length (by rw [List.nodup_iff_pairwise_ne]; exact hZp.imp fun h => by omega) hzlt
        omega
      refine d_l _ hlZ fun _ => d_l (.bool (decide ((zs.length : Int) ≤ ((zs.filter fun z => decide (z < j)).length : Int)))) rfl fun _ => d_dec (p := (zs.length : Int) ≤ ((zs.filter fun z => decide (z < j)).length : Int)) (fun h => by omega) fun _ => ?_
      have hz0 : (Prim.idx 1 false).ev [.sl (zs.map ni), i ((zs.filter fun z => decide (z < j)).length : Int)] = some (ni j) := by rw [e_idx (ni_at hcl) rfl, hce]
      refine d_l (ni j) hz0 fun _ => d_l _ (neq_refl (j : Int)) fun _ => d_false (d_l _ (e_inc (by omega)) fun _ => d_l _ (e_inc (by omega)) fun _ => d_cont rfl ?_)
      rw [c4]
    · refine d_l _ (e_inc (by omega)) fun _ => d_cont rfl ?_
      rw [c2 fun hm => by
        have := (hBr j).2 ((hZm j).1 hm)
        rw [List.getElem?_eq_getElem hj, hb] at this
        cases this]
      rfl
  · refine d_l _ hlB fun _ => d_l (.bool (decide ((B.length : Int) < (B.length : Int)))) rfl fun _ => d_dec (p := (B.length : Int) < (B.length : Int)) (fun h => by omega) fun _ => d_l _ hlZ fun _ => ?_
    rw [asc_all hzlt]
    refine d_l (.bool true) ?_ fun _ => d_ret rfl
    show some (PV.bool (decide ((zs.length : Int) = (zs.length : Int)))) = _
    simp
end Go.Proofs.Ytodomlcjppdgfaa.Tx

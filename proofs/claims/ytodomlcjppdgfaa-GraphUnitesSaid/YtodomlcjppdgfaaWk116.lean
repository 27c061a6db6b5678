/- Contracts: the set of small numbers; what the program's graph reaches. -/
import Derived.Test.YtodomlcjppdgfaaWk114
import Derived.Test.YtodomlcjppdgfaaWk115
set_option linter.all false
namespace Go.Proofs.Ytodomlcjppdgfaa.Tx
open Go.Lf Go.Lf.S Go.Lf.Duo
set_option maxRecDepth 100000

def u64 (w : Nat) : PV := .int .u64 (w : Int)
theorem wrapU {x : Nat} (h : x < 18446744073709551616) : IntKind.u64.wrap (x : Int) = x := by
  simp only [IntKind.wrap, IntKind.signed, IntKind.bits]; simp; omega
theorem e_quo {n k : Nat} (hk : 0 < k) (hn : n < 4611686018427387904) : (Prim.arith .quo .i64).ev [i (n : Int), i (k : Int)] = some (i ((n / k : Nat) : Int)) := by
  have h1 : ((n : Int).tdiv (k : Int)) = ((n / k : Nat) : Int) := rfl
  have h2 : n / k ≤ n := Nat.div_le_self n k
  show ((if (k : Int) = 0 then none else some (IntKind.i64.wrap ((n : Int).tdiv (k : Int)))).map (PV.int .i64)) = _
  have h3 : IntKind.i64.wrap ((n / k : Nat) : Int) = ((n / k : Nat) : Int) := by
    generalize n / k = q at h2 ⊢
    exact wrap_in (by omega) (by omega)
  rw [if_neg (by omega), h1, h3]; rfl
theorem e_rem {n k : Nat} (hk : 0 < k) : (Prim.arith .rem .i64).ev [i (n : Int), i (k : Int)] = some (i ((n % k : Nat) : Int)) := by
  have h1 : ((n : Int).tmod (k : Int)) = ((n % k : Nat) : Int) := rfl
  show ((if (k : Int) = 0 then none else some ((n : Int).tmod (k : Int))).map (PV.int .i64)) = _
  rw [if_neg (by omega), h1]; rfl
theorem two_lt {b : Nat} (h : b < 64) : 2 ^ b < 18446744073709551616 := by
  have : 2 ^ b < 2 ^ 64 := Nat.pow_lt_pow_right (by omega) h
  simpa using this
theorem e_shl {b : Nat} (h : b < 64) : (Prim.arith .shl .u64).ev [.int .u64 1, i (b : Int)] = some (u64 (2 ^ b)) := by
  have h1 : min ((b : Int).toNat) IntKind.u64.bits = b := by
    show min ((b : Int).toNat) 64 = b
    omega
  show ((if (b : Int) < 0 then none else some (IntKind.u64.wrap (1 * 2 ^ (min ((b : Int).toNat) IntKind.u64.bits)))).map (PV.int .u64)) = _
  rw [if_neg (by omega), h1, Int.one_mul]
  have : ((2 : Int) ^ b) = ((2 ^ b : Nat) : Int) := by simp
  rw [this, wrapU (two_lt h)]; rfl
theorem e_or {x y : Nat} (hx : x < 18446744073709551616) (hy : y < 18446744073709551616) : (Prim.arith .or .u64).ev [u64 x, u64 y] = some (u64 (x ||| y)) := by
  have h1 : (BitVec.ofInt 64 (x : Int) ||| BitVec.ofInt 64 (y : Int)).toNat = x ||| y := by
    rw [BitVec.toNat_or]
    have e : ∀ z : Nat, z < 18446744073709551616 → (BitVec.ofInt 64 (z : Int)).toNat = z := fun z hz => by
      simp; omega
    rw [e x hx, e y hy]
  have h2 : x ||| y < 18446744073709551616 := by
    have := Nat.or_lt_two_pow (n := 64) (by simpa using hx) (by simpa using hy)
    simpa using this
  show (some (IntKind.u64.wrap (((BitVec.ofInt 64 (x : Int) ||| BitVec.ofInt 64 (y : Int)).toNat : Nat) : Int))).map (PV.int .u64) = _
  rw [h1, wrapU h2]; rfl
theorem or_eq {w b : Nat} : w = w ||| 2 ^ b ↔ w.testBit b = true := by
  constructor
  · intro h
    rw [h, Nat.testBit_or, Nat.testBit_two_pow_self, Bool.or_true]
  · intro h
    apply Nat.eq_of_testBit_eq
    intro j
    rw [Nat.testBit_or, Nat.testBit_two_pow]
    by_cases e : b = j
    · subst e; rw [h]; rfl
    · simp [e]

theorem u64_at {W : List Nat} {j : Nat} (h : j < W.length) : (W.map u64)[j]? = some (u64 W[j]) := by simp [h]
theorem okS_add (W : List Nat) (n : Nat) (hW : ∀ w ∈ W, w < 18446744073709551616) (hn : n / 64 < W.length) (hb : n < 4611686018427387904) :
    OkS P F.graph_set_add sg_graph_set_add [i (n : Int), .sl (W.map u64)] [.bool (!(W[n / 64]).testBit (n % 64)), .sl ((W.set (n / 64) (W[n / 64] ||| 2 ^ (n % 64))).map u64)] := by
  have hq := e_quo (n := n) (k := 64) (by omega) hb
  have hr := e_rem (n := n) (k := 64) (by omega)
  have hw := hW _ (List.getElem_mem hn)
  have hix := e_idx (n := 1) (a := false) (u64_at hn) rfl
  have hup : (Prim.upd 1 false).ev [.sl (W.map u64), i ((n / 64 : Nat) : Int), u64 (W[n / 64] ||| 2 ^ (n % 64))] = some (.sl ((W.set (n / 64) (W[n / 64] ||| 2 ^ (n % 64))).map u64)) := by
    rw [e_updT (by simpa using hn) rfl, List.map_set]
  have hn' : n / 64 < (W.set (n / 64) (W[n / 64] ||| 2 ^ (n % 64))).length := by simpa using hn
  have hix' := e_idx (n := 1) (a := false) (u64_at hn') rfl
  rw [List.getElem_set_self] at hix'
  have h64 : n % 64 < 64 := Nat.mod_lt _ (by omega)
  have hor := e_or hw (two_lt h64)
  refine m_graph_set_add _ _ (d_l _ hq fun _ => d_l _ hix fun _ => d_l _ hix fun _ => d_l _ hq fun _ => d_l _ hix fun _ => d_l _ hix fun _ => d_l _ hr fun _ => d_l _ (e_shl h64) fun _ => d_l _ hor fun _ => d_l _ hix fun _ => d_l _ hup fun _ => d_l _ hq fun _ => d_l _ hix' fun _ => d_l _ hix' fun _ => d_l (.bool (!decide (((W[n / 64] : Nat) : Int) = ((W[n / 64] ||| 2 ^ (n % 64) : Nat) : Int)))) rfl fun _ => d_ret ?_)
  have : decide (((W[n / 64] : Nat) : Int) = ((W[n / 64] ||| 2 ^ (n % 64) : Nat) : Int)) = (W[n / 64]).testBit (n % 64) := by
    rw [Bool.eq_iff_iff, decide_eq_true_iff]
    constructor
    · intro h; exact or_eq.1 (by exact_mod_cast h)
    · intro h; exact_mod_cast or_eq.2 h
  rw [this]

/-- the words stand for the set -/
structure Bits (W : List Nat) (S : List Nat) (L : Nat) : Prop where
  len : W.length = L / 64 + 1
  lt : ∀ w ∈ W, w < 18446744073709551616
  bit : ∀ n (h : n < L), (W[n / 64]'(by rw [len]; omega)).testBit (n % 64) = decide (n ∈ S)
theorem Bits.nil (L : Nat) : Bits (List.replicate (L / 64 + 1) 0) [] L :=
  ⟨by simp, fun w hw => by obtain rfl := (List.mem_replicate.1 hw).2; omega, fun n h => by simp⟩
theorem Bits.add {W S : List Nat} {L n : Nat} (h : Bits W S L) (hn : n < L) (hnl : n / 64 < W.length) : Bits (W.set (n / 64) (W[n / 64] ||| 2 ^ (n % 64))) (S ++ [n]) L := by
  refine ⟨by simp [h.len], fun w hw => ?_, fun m hm => ?_⟩
  · rcases List.mem_or_eq_of_mem_set hw with hw | rfl
    · exact h.lt w hw
    · have h1 := h.lt _ (List.getElem_mem hnl)
      have h2 := two_lt (b := n % 64) (Nat.mod_lt _ (by omega))
      have := Nat.or_lt_two_pow (n := 64) (by simpa using h1) (by simpa using h2)
      simpa using this
  · have hbm := h.bit m hm
    rw [List.getElem_set]
    have hmem : decide (m ∈ S ++ [n]) = (decide (m ∈ S) || decide (m = n)) := by
      rw [Bool.eq_iff_iff]; simp
    rw [hmem]
    split
    · rename_i e
      rw [Nat.testBit_or, Nat.testBit_two_pow]
      have e1 : (W[n / 64]).testBit (m % 64) = decide (m ∈ S) := by
        rw [← hbm]; congr 2
      rw [e1]
      congr 1
      rw [Bool.eq_iff_iff, decide_eq_true_iff, decide_eq_true_iff]
      omega
    · rename_i e
      rw [hbm]
      have : m ≠ n := fun h => e (by rw [h])
      simp [this]
/-- what is there already is laid again -/
theorem Bits.again {W S : List Nat} {L n : Nat} (h : Bits W S L) (hn : n < L) (hnl : n / 64 < W.length) (hm : n ∈ S) : Bits (W.set (n / 64) (W[n / 64] ||| 2 ^ (n % 64))) S L := by
  have h1 := h.bit n hn
  rw [decide_eq_true hm] at h1
  have h2 := or_eq.2 h1
  rw [← h2, List.set_getElem_self]
  exact h

/-! ### what is reached -/

inductive Rch (ds : List Nd) (a : Nat) : Nat → Prop
  | base : Rch ds a a
  | step {m : Nat} {d : Nd} {v : Rf} (h : Rch ds a m) (hd : ds[m]? = some d) (hv : v ∈ d.next) : Rch ds a v.node.toNat
theorem Rch.lt {ds : List Nd} (hg : Gr8 ds) {a m : Nat} (ha : a < ds.length) (h : Rch ds a m) : m < ds.length := by
  cases h with
  | base => exact ha
  | step h hd hv => have := hg.2 _ (List.mem_of_getElem? hd) _ hv; omega

theorem nodup_len_le : ∀ (l : List Nat) (L : Nat), l.Nodup → (∀ x ∈ l, x < L) → l.length ≤ L := by
  intro l L
  induction L generalizing l with
  | zero =>
    intro _ h
    cases l with
    | nil => simp
    | cons x l => have := h x List.mem_cons_self; omega
  | succ L ih =>
    intro hn h
    have h1 := ih (l.erase L) (hn.erase L) fun x hx => by
      have hxl := List.mem_of_mem_erase hx
      have hne : x ≠ L := fun e => by
        subst e
        exact (List.Nodup.not_mem_erase hn) hx
      have := h x hxl
      omega
    by_cases hm : L ∈ l
    · have := List.length_erase_of_mem hm
      have : 0 < l.length := List.length_pos_of_mem hm
      omega
    · rw [List.erase_of_not_mem hm] at h1; omega

def ni (n : Nat) : PV := i (n : Int)
theorem ni_at {l : List Nat} {j : Nat} (h : j < l.length) : (l.map ni)[j]? = some (ni l[j]) := by simp [h]

theorem ok_Reach {ds : List Nd} (hg : Gr8 ds) (hll : ds.length ≤ 1000000) (hnx : ∀ d ∈ ds, d.next.length ≤ 549755813888) (a : Nat) (ha : a < ds.length) (s : Int) :
    ∃ zs : List Nat, Ok P F.graph_Reach [.agg [.sl (ds.map Nd.enc)], (⟨a, s⟩ : Rf).enc] (.sl (zs.map ni)) ∧ zs.Pairwise (· < ·) ∧ ∀ n, n ∈ zs ↔ Rch ds a n := by
  have := tx_ex (K := fun x => ∃ zs : List Nat, x = .sl (zs.map ni) ∧ zs.Pairwise (· < ·) ∧ ∀ n, n ∈ zs ↔ Rch ds a n) k_graph_Reach (xs := [.agg [.sl (ds.map Nd.enc)], (⟨a, s⟩ : Rf).enc]) rfl (by simp [t_graph_Reach, T.dt]) (by
    have hlen : Prim.len.ev [.sl (ds.map Nd.enc)] = some (i (ds.length : Int)) := by rw [e_len]; simp
    have hrep : (Prim.rep 1 false 8 (.int .u64 0)).ev [i ((ds.length / 64 + 1 : Nat) : Int)] = some (.sl ((List.replicate (ds.length / 64 + 1) 0).map u64)) := by
      show (if 0 ≤ ((ds.length / 64 + 1 : Nat) : Int) ∧ ((ds.length / 64 + 1 : Nat) : Int).toNat * 8 ≤ roomB ∧ ((ds.length / 64 + 1 : Nat) : Int) ≤ maxLen ∧ (PV.int .u64 0).okc 1 false then some (PV.sl (List.replicate ((ds.length / 64 + 1 : Nat) : Int).toNat (.int .u64 0))) else none) = _
      have hm : (1000001 : Int) ≤ maxLen := by decide
      rw [if_pos ⟨by omega, by unfold roomB; omega, by omega, rfl⟩, Int.toNat_natCast, List.map_replicate]; rfl
    have hB0 := Bits.nil ds.length
    have hq0 : a / 64 < (List.replicate (ds.length / 64 + 1) 0).length := by simp; omega
    refine d_l (.agg [.sl (ds.map Nd.enc)]) rfl fun _ => d_l _ (e_okc (Rf.okc_enc _)) fun _ => d_l _ hlen fun _ => d_l _ (e_quo (n := ds.length) (k := 64) (by omega) (by omega)) fun _ => d_l _ (e_inc (by omega)) fun _ => d_l _ hrep fun _ => d_calls rfl (okS_add _ a hB0.lt hq0 (by omega)) (d_l (.sl ([a].map ni)) rfl fun _ => ?_)
    have hB1 := hB0.add ha hq0
    rw [List.nil_append] at hB1
    refine den_loop (fun m ys => ∃ (j : Nat) (out W : List Nat), j + m = ds.length ∧ j ≤ out.length ∧ out.Nodup ∧ a ∈ out ∧ (∀ x ∈ out, x < ds.length ∧ Rch ds a x) ∧ Bits W out ds.length ∧ (∀ q (hq : q < out.length), q < j → ∀ d v, ds[out[q]]? = some d → v ∈ d.next → v.node.toNat ∈ out) ∧ ys = [i j, .sl (out.map ni), .sl (W.map u64)]) ds.length
      ⟨0, [a], _, by omega, by simp, by simp, by simp, (fun x hx => by simp at hx; subst hx; exact ⟨ha, .base⟩), hB1, (fun q _ h => by omega), rfl⟩ ?_
    rintro m _ ⟨j, out, W, hj, hjo, hnd, haO, hin, hB, hcl, rfl⟩
    have hol := nodup_len_le out ds.length hnd fun x hx => (hin x hx).1
    have hlo : Prim.len.ev [.sl (out.map ni)] = some (i (out.length : Int)) := by rw [e_len]; simp
    refine d_l _ hlo fun _ => d_l (.bool (decide ((j : Int) < (out.length : Int)))) rfl fun _ => d_dec (p := (j : Int) < (out.length : Int)) (fun h => ?_) fun h => ?_
    · have hjl : j < out.length := by omega
      obtain ⟨hxl, hxr⟩ := hin _ (List.getElem_mem hjl)
      have hnd4 := e_idx (n := 4) (a := true) (ndAt hxl) (Nd.okc_enc _)
      have hdx : ds[out[j]]? = some ds[out[j]] := List.getElem?_eq_getElem hxl
      have hdn := hnx _ (List.getElem_mem hxl)
      refine d_l _ (e_idx (ni_at hjl) rfl) fun _ => d_l _ (e_idx (ni_at hjl) rfl) fun _ => d_l _ hnd4 fun _ => ?_
      generalize ds[out[j]] = d at *
      have hnl : Prim.len.ev [c 3 d.enc] = some (i (d.next.length : Int)) := by
        show Prim.len.ev [.sl (d.next.map Rf.enc)] = _
        rw [e_len]; simp
      refine d_l _ hnl fun _ => ?_
      refine den_loop (fun m' ys => ∃ (q : Nat) (out' W' : List Nat), q + m' = d.next.length ∧ out <+: out' ∧ out'.Nodup ∧ (∀ x ∈ out', x < ds.length ∧ Rch ds a x) ∧ Bits W' out' ds.length ∧ (∀ v ∈ d.next.take q, v.node.toNat ∈ out') ∧ ys = [i q, .sl (out'.map ni), .sl (W'.map u64)]) d.next.length
        ⟨0, out, W, by omega, List.prefix_rfl, hnd, hin, hB, by simp, rfl⟩ ?_
      rintro m' _ ⟨q, out', W', hq, hpre, hnd', hin', hB', hdone, rfl⟩
      have hol' := nodup_len_le out' ds.length hnd' fun x hx => (hin' x hx).1
      refine d_l (.bool (decide ((q : Int) < (d.next.length : Int)))) rfl fun _ => d_dec (p := (q : Int) < (d.next.length : Int)) (fun h => ?_) fun h => ?_
      · have hql : q < d.next.length := by omega
        have hvm := List.getElem_mem hql
        have hvb := hg.2 d (List.mem_of_getElem? hdx) _ hvm
        have hrix : (Prim.idx 2 true).ev [c 3 d.enc, i (q : Int)] = some d.next[q].enc := e_idx (n := 2) (a := true) (rfAt hql) (Rf.okc_enc _)
        have htk : d.next.take (q + 1) = d.next.take q ++ [d.next[q]] := List.take_succ_eq_append_getElem hql
        have hrv : Rch ds a d.next[q].node.toNat := .step hxr hdx hvm
        generalize d.next[q] = v at *
        obtain ⟨vn, hvn⟩ : ∃ vn : Nat, v.node = vn := ⟨v.node.toNat, by omega⟩
        rw [hvn] at hvb
        rw [hvn, Int.toNat_natCast] at hrv
        have hvl : vn < ds.length := by omega
        have hwl : vn / 64 < W'.length := by rw [hB'.len]; omega
        have hadd := okS_add W' vn hB'.lt hwl (by omega)
        have hadd : OkS P F.graph_set_add sg_graph_set_add [c 0 v.enc, .sl (W'.map u64)] [.bool (!(W'[vn / 64]).testBit (vn % 64)), .sl ((W'.set (vn / 64) (W'[vn / 64] ||| 2 ^ (vn % 64))).map u64)] := by
          have e : c 0 v.enc = i (vn : Int) := by rw [← hvn]; rfl
          rw [e]; exact hadd
        rw [hB'.bit vn hvl] at hadd
        refine d_l _ hrix fun _ => d_l _ (e_okc (Rf.okc_enc v)) fun _ => d_calls rfl hadd (d_ndec (p := vn ∈ out') (fun hne => ?_) fun he => ?_)
        · have hap : (Prim.app 1 false 8).ev [.sl (out'.map ni), .sl [c 0 v.enc]] = some (.sl ((out' ++ [vn]).map ni)) := by
            have e : c 0 v.enc = ni vn := by show i v.node = _; rw [hvn]; rfl
            rw [e, e_app (l := out'.map ni) (m := [ni vn]) (fun x hx => by simp at hx; subst hx; rfl) (by simp; omega) (by simp; omega), List.map_append]; rfl
          refine d_l (.sl [c 0 v.enc]) rfl fun _ => d_l _ hap fun _ => d_l _ (e_inc (by omega)) fun _ => d_cont rfl ⟨m' - 1, by omega, q + 1, out' ++ [vn], _, by omega, hpre.trans (List.prefix_append _ _), ?_, ?_, hB'.add hvl hwl, ?_, rfl⟩
          · rw [List.nodup_append]
            exact ⟨hnd', by simp, fun x hx y hy => by simp at hy; subst hy; exact fun e => hne (e ▸ hx)⟩
          · intro x hx
            rcases List.mem_append.1 hx with hx | hx
            · exact hin' x hx
            · simp at hx; subst hx; exact ⟨hvl, hrv⟩
          · intro x hx
            rw [htk] at hx
            rcases List.mem_append.1 hx with hx | hx
            · exact List.mem_append_left _ (hdone x hx)
            · simp at hx; subst hx
              rw [hvn, Int.toNat_natCast]; simp
        · refine d_l _ (e_inc (by omega)) fun _ => d_cont rfl ⟨m' - 1, by omega, q + 1, out', _, by omega, hpre, hnd', hin', hB'.again hvl hwl he, ?_, rfl⟩
          intro x hx
          rw [htk] at hx
          rcases List.mem_append.1 hx with hx | hx
          · exact hdone x hx
          · simp at hx; subst hx
            rw [hvn, Int.toNat_natCast]; exact he
      · have htk : d.next.take q = d.next := List.take_of_length_le (by omega)
        rw [htk] at hdone
        obtain ⟨ext, rfl⟩ := hpre
        refine d_l _ (e_inc (by omega)) fun _ => d_cont rfl ⟨m - 1, by omega, j + 1, out ++ ext, W', by omega, by simp; omega, hnd', List.mem_append_left _ haO, hin', hB', fun q' hq' hlt d' v hd' hv => ?_, rfl⟩
        by_cases e : q' = j
        · subst e
          rw [List.getElem_append_left hjl, hdx] at hd'
          cases hd'
          exact hdone v hv
        · have hq2 : q' < out.length := by omega
          rw [List.getElem_append_left hq2] at hd'
          exact List.mem_append_left _ (hcl q' hq2 (by omega) d' v hd' hv)
    · have hjo' : j = out.length := by omega
      have hne : out.map (fun n : Nat => (n : Int)) ≠ [] := by
        intro e
        rw [List.map_eq_nil_iff] at e
        rw [e] at haO; cases haO
      have hS := okS_Sort (out.map fun n : Nat => (n : Int)) hne (by simp; omega)
      have e1 : (out.map fun n : Nat => (n : Int)).map Go.Lf.S.i = out.map ni := by rw [List.map_map]; rfl
      rw [e1] at hS
      have hperm : ((out.map fun n : Nat => (n : Int)).mergeSort fun x y => decide (x ≤ y)).Perm (out.map fun n : Nat => (n : Int)) := List.mergeSort_perm _ _
      have hsort : ((out.map fun n : Nat => (n : Int)).mergeSort fun x y => decide (x ≤ y)).Pairwise fun x y => decide (x ≤ y) = true := List.pairwise_mergeSort (fun a b c h1 h2 => by simp at *; omega) (fun a b => by simp; omega) _
      generalize ((out.map fun n : Nat => (n : Int)).mergeSort fun x y => decide (x ≤ y)) = ms at *
      have hmem : ∀ x ∈ ms, ∃ n : Nat, x = n ∧ n ∈ out := fun x hx => by
        obtain ⟨n, hn, rfl⟩ := List.mem_map.1 (hperm.mem_iff.1 hx)
        exact ⟨n, rfl, hn⟩
      have hms : ms = (ms.map Int.toNat).map fun n : Nat => (n : Int) := by
        rw [List.map_map]
        conv => lhs; rw [← List.map_id ms]
        refine List.map_congr_left fun x hx => ?_
        obtain ⟨n, rfl, _⟩ := hmem x hx
        simp
      have hmi : ms.map Go.Lf.S.i = (ms.map Int.toNat).map ni := by
        conv => lhs; rw [hms]
        rw [List.map_map]; rfl
      have hndm : ms.Nodup := hperm.nodup_iff.2 (by
        rw [List.nodup_iff_pairwise_ne, List.pairwise_map]
        exact (List.nodup_iff_pairwise_ne.1 hnd).imp fun h e => h (by exact_mod_cast e))
      have hall : ∀ x, Rch ds a x → x ∈ out := fun x hx => by
        induction hx with
        | base => exact haO
        | step h hd hv ih =>
          obtain ⟨q, hq, he⟩ := List.getElem_of_mem ih
          exact hcl q hq (by omega) _ _ (by rw [he]; exact hd) hv
      refine d_calls rfl hS (d_ret ⟨ms.map Int.toNat, by rw [← hmi]; rfl, ?_, fun n => ?_⟩)
      · rw [List.pairwise_map]
        have h3 := (List.nodup_iff_pairwise_ne.1 hndm).and hsort
        refine h3.imp_of_mem fun {x y} hx hy hxy => ?_
        obtain ⟨n, rfl, _⟩ := hmem x hx
        obtain ⟨n', rfl, _⟩ := hmem y hy
        have := hxy.1
        have h2 := of_decide_eq_true hxy.2
        simp only [Int.toNat_natCast]
        omega
      · rw [List.mem_map]
        constructor
        · rintro ⟨x, hx, rfl⟩
          obtain ⟨n, rfl, hn⟩ := hmem x hx
          exact (hin _ hn).2
        · intro h
          exact ⟨(n : Int), hperm.mem_iff.2 (List.mem_map.2 ⟨n, hall n h, rfl⟩), by simp⟩)
  obtain ⟨_, ⟨zs, rfl, h1, h2⟩, h⟩ := this
  exact ⟨zs, h, h1, h2⟩
end Go.Proofs.Ytodomlcjppdgfaa.Tx

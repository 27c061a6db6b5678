/- Contracts (Wk200, Wk201, Wk202). -/
import Derived.Test.YtkpnmgohbipjjaaGreatDoorWk33
import Derived.Test.YtkpnmgohbipjjaaGreatDoorWk110
import Derived.Test.YtkpnmgohbipjjaaGreatDoorWk45
import Derived.Test.YtkpnmgohbipjjaaGreatDoorWk7
import Derived.Shelf.Slices.CompactI
import Derived.Shelf.Spec.SlicesGrow
import Derived.Laws.AppendOwn
set_option linter.all false
/- The events that follow a type: of the program, on its graph. -/
namespace Go.Proofs.YtkpnmgohbipjjaaGreatDoor.Tx
open Go.Lf Go.Lf.S Go.Lf.Duo
set_option maxRecDepth 100000
structure Evt where
 plus : Bool
 lab : ByteArray
 k : Int
 v : Int
def Evt.enc (e : Evt) : PV := .agg [i 0, .bool e.plus, .str e.lab, i e.k, .str ⟨#[]⟩, i e.v]
theorem Evt.okc_enc (e : Evt) : e.enc.okc 6 true = true := rfl
/-- the chosen label's place -/
def chs (c : Int) (n : Nat) : Nat := ((Int.tmod (Int.tmod c n + n) n)).toNat
theorem chs_lt {c : Int} {n : Nat} (h : 0 < n) : chs c n < n ∧ (Int.tmod (Int.tmod c n + n) n) = chs c n := by
 have h1 : -(n : Int) < Int.tmod c n := Int.lt_tmod_of_pos c (by omega)
 have h2 : (0 : Int) ≤ Int.tmod c n + n := by omega
 have h3 : 0 ≤ Int.tmod (Int.tmod c n + n) n := Int.tmod_nonneg _ h2
 have h4 : Int.tmod (Int.tmod c n + n) n < n := Int.tmod_lt_of_pos _ (by omega)
 unfold chs
 omega
/-- a reference behind a node -/
def nxR (d : Nd) (s : Int) (j : Nat) : Rf := match d.next[j]? with
 | some v => ⟨v.node, ad v.shift s⟩
 | none => ⟨0, 0⟩
def vlE (ds : List Nd) (d : Nd) (s : Int) : Int × Int := match ds[(nxR d s 0).node.toNat]? with
 | some x => if x.kind = 1 then (2, 0) else (3, 1)
 | none => (3, 1)
def evS (ds : List Nd) (c : Int) (r : Rf) : Option (Evt × Rf) := match ds[r.node.toNat]? with
 | none => none
 | some d => if d.kind = 3 then none else
  if 0 < d.labels.length then some (⟨decide (d.kind = 4) || decide (d.kind = 6), d.labels.getD (chs c d.labels.length) ⟨#[]⟩, 0, 0⟩, nxR d r.shift (chs c d.labels.length))
  else some (⟨decide (d.kind = 4) || decide (d.kind = 6), ⟨#[]⟩, (vlE ds d r.shift).1, (vlE ds d r.shift).2⟩, nxR d r.shift 1)
/-- the first events -/
def trc (ds : List Nd) (c : Int) : Nat → Rf → List Evt
 | 0, _ => []
 | k + 1, r => match evS ds c r with
  | none => []
  | some (e, r') => e :: trc ds c k r'
theorem trc_len (ds : List Nd) (c : Int) : ∀ (k : Nat) (r : Rf), (trc ds c k r).length ≤ k
 | 0, _ => Nat.le_refl _
 | k + 1, r => by
  simp only [trc]
  split
  ·simp
  ·have := trc_len ds c k
   simp only [List.length_cons]
   have := trc_len ds c k ‹_›
   omega
theorem nxR_in {ds : List Nd} (hg : GrOk' ds) (h0 : 0 < ds.length) {d : Nd} (hd : d ∈ ds) (s : Int) (j : Nat) : 0 ≤ (nxR d s j).node ∧ (nxR d s j).node < ds.length := by
 unfold nxR
 split
 ·rename_i v hv
  rcases ((hg.2 d hd).nx v (List.mem_of_getElem? hv)).1 with ⟨q, hq, _⟩ | h
  ·cases hq
  ·exact h
 ·exact ⟨Int.le_refl _, by show (0 : Int) < _; omega⟩
theorem evS_in {ds : List Nd} (hg : GrOk' ds) {c : Int} {r r' : Rf} {e : Evt} (h : evS ds c r = some (e, r')) : 0 ≤ r'.node ∧ r'.node < ds.length := by
 unfold evS at h
 split at h
 ·cases h
 ·rename_i d hd
  obtain ⟨hl, rfl⟩ := List.getElem?_eq_some_iff.1 hd
  split at h
  ·cases h
  ·split at h
   ·cases h; exact nxR_in hg (by omega) (List.getElem_mem hl) _ _
   ·cases h; exact nxR_in hg (by omega) (List.getElem_mem hl) _ _
theorem ok_nx {ds : List Nd} (a : Nat) (ha : a < ds.length) (s : Int) (j : Nat) : ∃ b, Ok P F.head_Next [.agg [.sl (ds.map Nd.enc)], .agg [i (a : Int), i s], i (j : Int)] (.tup [(nxR ds[a] s j).enc, .bool b]) := by
 by_cases hj : j < ds[a].next.length
 ·have := ok_head_Next ds a ha s j hj
  refine ⟨true, ?_⟩
  rw [nxR, List.getElem?_eq_getElem hj]
  exact this
 ·have := ok_head_Next_no ds a ha s (j : Int) (.inr (by omega))
  refine ⟨false, ?_⟩
  rw [nxR, List.getElem?_eq_none (by omega)]
  exact this
theorem ok_kd (ds : List Nd) (a : Nat) (ha : a < ds.length) (s : Int) : Ok P F.head_Kind [.agg [.sl (ds.map Nd.enc)], .agg [i (a : Int), i s]] (i ds[a].kind) :=
 k_head_Kind _ _ rfl (d_l (.agg [.sl (ds.map Nd.enc)]) rfl fun _ => d_l (.agg [i (a : Int), i s]) rfl fun _ => d_l _ (e_idx (nd_at ha) (Nd.okc_enc _)) fun _ => d_ret rfl)
theorem ok_chosen {ds : List Nd} (c : Int) (hc : -9223372036854775808 ≤ c ∧ c ≤ 9223372036854775807) (a : Nat) (ha : a < ds.length) (s : Int) (h0 : 0 < ds[a].labels.length) (hl : ds[a].labels.length ≤ 549755813888) :
  Ok P F.witness_maker_chosen [.agg [.sl (ds.map Nd.enc), i c], .agg [i (a : Int), i s]] (i (chs c ds[a].labels.length : Int)) := by
 obtain ⟨q1, q2⟩ := chs_lt (c := c) h0
 have h1 : -(ds[a].labels.length : Int) < Int.tmod c ds[a].labels.length := Int.lt_tmod_of_pos c (by omega)
 have h2 : Int.tmod c ds[a].labels.length < ds[a].labels.length := Int.tmod_lt_of_pos c (by omega)
 have hne : ¬ ((ds[a].labels.length : Nat) : Int) = 0 := by omega
 have rem : ∀ x : Int, (Prim.arith .rem .i64).ev [i x, i ((ds[a].labels.length : Nat) : Int)] = some (i (Int.tmod x ds[a].labels.length)) := fun x => by
  show (if ((ds[a].labels.length : Nat) : Int) = 0 then none else some (Int.tmod x ds[a].labels.length)).map (PV.int .i64) = _
  rw [if_neg hne]; rfl
 have hlen : Prim.len.ev [Go.Lf.S.c 2 ds[a].enc] = some (i ((ds[a].labels.length : Nat) : Int)) := by
  show Prim.len.ev [.sl (ds[a].labels.map .str)] = _
  rw [e_len]; simp
 refine k_witness_maker_chosen _ _ rfl (d_l (.agg [.sl (ds.map Nd.enc), i c]) rfl fun _ => d_l (.agg [i (a : Int), i s]) rfl fun _ => d_l _ (e_idx (nd_at ha) (Nd.okc_enc _)) fun _ => d_l _ hlen fun _ => d_l _ (rem c) fun _ => d_l _ (e_add (by omega) (by omega)) fun _ => d_l _ (rem _) fun _ => d_ret (by rw [q2]))
theorem ok_value {ds : List Nd} (hg : GrOk' ds) (c : Int) (a : Nat) (ha : a < ds.length) (s : Int) :
  Ok P F.witness_maker_value [.agg [.sl (ds.map Nd.enc), i c], .agg [i (a : Int), i s]] (.agg [i (vlE ds ds[a] s).1, .str ⟨#[]⟩, i (vlE ds ds[a] s).2]) := by
 obtain ⟨b, hn⟩ := ok_nx a ha s 0
 obtain ⟨n1, n2⟩ := nxR_in hg (by omega) (List.getElem_mem ha) s 0
 have hz : (nxR ds[a] s 0).node.toNat < ds.length := by omega
 have hk := ok_kd ds (nxR ds[a] s 0).node.toNat hz (nxR ds[a] s 0).shift
 rw [Int.toNat_of_nonneg n1] at hk
 refine k_witness_maker_value _ _ rfl (d_l (.agg [.sl (ds.map Nd.enc), i c]) rfl fun _ => d_l (.agg [i (a : Int), i s]) rfl fun _ => d_call hn (d_l (nxR ds[a] s 0).enc rfl fun _ => d_l (.bool b) rfl fun _ => d_l _ (e_okc (Rf.okc_enc _)) fun _ => d_call hk (d_l (.bool (decide (ds[(nxR ds[a] s 0).node.toNat].kind = 1))) rfl fun _ => d_dec (fun h => d_ret ?_) fun h => d_ret ?_)))
 ·unfold vlE; rw [List.getElem?_eq_getElem hz]; simp only [h, if_true]
 ·unfold vlE; rw [List.getElem?_eq_getElem hz]; simp only [if_neg h]
/-- the closure gives the events -/
theorem its_events {ds : List Nd} (hg : GrOk' ds) (c : Int) (hc : -9223372036854775808 ≤ c ∧ c ≤ 9223372036854775807) (r : Rf) (hr : 0 ≤ r.node ∧ r.node < ds.length) (k : Nat) (fin : Bool) (hf : fin = true ↔ (trc ds c k r).length < k) :
  ItsS P F.witness_maker_events_1 sg_witness_maker_events_1 [.sl (ds.map Nd.enc), i c, i r.node, i r.shift] fin ((trc ds c k r).map fun e => [e.enc]) := by
 intro X hX x0 x' hrun
 refine y_witness_maker_events_1 X hX _ _ _ _ ?_
 letI : Gl := { l := gl.l, x := X }
 refine den_loop (fun m ys => ∃ (k : Nat) (r : Rf) (st : PV), k ≤ m ∧ (0 ≤ r.node ∧ r.node < ds.length) ∧ (fin = true ↔ (trc ds c k r).length < k) ∧ X.runsF fin ((trc ds c k r).map fun e => [e.enc]) st = some x' ∧ ys = [i r.node, i r.shift, st]) k ⟨k, r, x0, Nat.le_refl _, hr, hf, hrun, rfl⟩ ?_
 clear hr hf hrun x0
 rintro m _ ⟨k, r, st, hkm, hr, hf, hrun, rfl⟩
 obtain ⟨a, ha⟩ : ∃ a : Nat, r.node = a := ⟨r.node.toNat, by omega⟩
 have hal : a < ds.length := by omega
 have hat : r.node.toNat = a := by omega
 have hd := hg.2 _ (List.getElem_mem hal)
 have hkd := ok_kd ds a hal r.shift
 rw [← ha] at hkd
 refine d_call (r := i ds[a].kind) hkd (d_l (.bool (decide (ds[a].kind = 3))) rfl fun _ => d_dec (fun h3 => ?_) fun h3 => ?_)
 ·-- the end
  have he : evS ds c r = none := by
   unfold evS; rw [hat, List.getElem?_eq_getElem hal]; simp only [h3, if_true]
  have ht : trc ds c k r = [] := by
   cases k with
   | zero => rfl
   | succ k => simp only [trc, he]
  rw [ht] at hrun
  refine d_ret ?_
  have : fin = true ∧ st = x' := by
   simp only [List.map_nil, Xt.runsF] at hrun
   cases fin with
   | true => exact ⟨rfl, by simpa using hrun⟩
   | false => simp at hrun
  rw [this.2]; rfl
 ·-- an event
  obtain ⟨pl, hpl⟩ : ∃ pl, pl = (decide (ds[a].kind = 4) || decide (ds[a].kind = 6)) := ⟨_, rfl⟩
  have hk0 : 0 < k := by
   cases k with
   | zero =>
    simp only [trc, List.map_nil, Xt.runsF] at hrun
    have : fin = false := by
     cases hfv : fin with
     | false => rfl
     | true => have := hf.1 hfv; simp [trc] at this
    rw [this] at hrun; simp at hrun
   | succ k => omega
  obtain ⟨k, rfl⟩ : ∃ k', k = k' + 1 := ⟨k - 1, by omega⟩
  -- what is left, behind an event
  have go : ∀ (e : Evt) (r' : Rf), evS ds c r = some (e, r') → (0 ≤ r'.node ∧ r'.node < ds.length) ∧ ∃ b s1, X.step st [e.enc] = some (b, s1) ∧ (b = false → s1 = x') ∧
    (b = true → ∃ m', m' < m ∧ ∃ (k : Nat) (r : Rf) (st : PV), k ≤ m' ∧ (0 ≤ r.node ∧ r.node < ds.length) ∧ (fin = true ↔ (trc ds c k r).length < k) ∧ X.runsF fin ((trc ds c k r).map fun e => [e.enc]) st = some x' ∧ [i r'.node, i r'.shift, s1] = [i r.node, i r.shift, st]) := by
   intro e r' he
   have hin := evS_in hg he
   have ht : trc ds c (k + 1) r = e :: trc ds c k r' := by simp only [trc, he]
   rw [ht] at hrun hf
   obtain ⟨b, s1, h1, h2, h3⟩ := runsF_step hrun
   exact ⟨hin, b, s1, h1, h3, fun hb => ⟨m - 1, by omega, k, r', s1, by omega, hin, by simpa using hf, h2 hb, rfl⟩⟩
  have hlen : Prim.len.ev [Go.Lf.S.c 2 ds[a].enc] = some (i ((ds[a].labels.length : Nat) : Int)) := by
   show Prim.len.ev [.sl (ds[a].labels.map .str)] = _
   rw [e_len]; simp
  have hidx : (Prim.idx 4 true).ev [.sl (ds.map Nd.enc), i r.node] = some ds[a].enc := by
   rw [ha]; exact e_idx (nd_at hal) (Nd.okc_enc _)
  -- the two kinds of events
  have labs : 0 < ds[a].labels.length → evS ds c r = some (⟨pl, ds[a].labels.getD (chs c ds[a].labels.length) ⟨#[]⟩, 0, 0⟩, nxR ds[a] r.shift (chs c ds[a].labels.length)) := fun h => by
   unfold evS; rw [hat, List.getElem?_eq_getElem hal]; simp only [h3, if_false, h, if_true, hpl]
  have vals : ¬ 0 < ds[a].labels.length → evS ds c r = some (⟨pl, ⟨#[]⟩, (vlE ds ds[a] r.shift).1, (vlE ds ds[a] r.shift).2⟩, nxR ds[a] r.shift 1) := fun h => by
   unfold evS; rw [hat, List.getElem?_eq_getElem hal]; simp only [h3, if_false, h, hpl]
  have tail : (T.l (.idx 4 true) [.sl (ds.map Nd.enc), i r.node] fun x4 => .l .len [Go.Lf.S.c 2 x4] fun x5 => .l (.cmp .gtr .i64) [x5, i 0] fun x6 => .ite x6
    (.call F.witness_maker_chosen [.agg [.sl (ds.map Nd.enc), i c], .agg [i r.node, i r.shift]] fun x7 => .l (.idx 4 true) [.sl (ds.map Nd.enc), i r.node] fun x8 => .l (.idx 1 false) [Go.Lf.S.c 2 x8, x7] fun x9 => .l (.okc 1 false) [x9] fun x10 =>
     .call F.head_Next [.agg [.sl (ds.map Nd.enc)], .agg [i r.node, i r.shift], x7] fun x11 => .l (.tc 0) [x11] fun x12 => .l (.tc 1) [x11] fun x13 => .l (.okc 2 true) [x12] fun x14 =>
     .yld [.agg [i 0, .bool pl, x10, i 0, .str ⟨#[]⟩, i 0]] st fun x15 s15 => .l .bnot [x15] fun x16 => .ite x16 (.ret (.tup [.tup [], s15])) (.cont 0 [Go.Lf.S.c 0 x14, Go.Lf.S.c 1 x14, s15]))
    (.call F.witness_maker_value [.agg [.sl (ds.map Nd.enc), i c], .agg [i r.node, i r.shift]] fun x7 => .l (.okc 3 true) [x7] fun x8 => .call F.head_Next [.agg [.sl (ds.map Nd.enc)], .agg [i r.node, i r.shift], i 1] fun x9 =>
     .l (.tc 0) [x9] fun x10 => .l (.tc 1) [x9] fun x11 => .l (.okc 2 true) [x10] fun x12 => .yld [.agg [i 0, .bool pl, .str ⟨#[]⟩, Go.Lf.S.c 0 x8, Go.Lf.S.c 1 x8, Go.Lf.S.c 2 x8]] st fun x13 s13 => .l .bnot [x13] fun x14 => .ite x14 (.ret (.tup [.tup [], s13])) (.cont 0 [Go.Lf.S.c 0 x12, Go.Lf.S.c 1 x12, s13])) : T PV).den0 P
    (fun x => x = .tup [.tup [], x']) ([] ++ [fun zs => ∃ m', m' < m ∧ ∃ (k : Nat) (r : Rf) (st : PV), k ≤ m' ∧ (0 ≤ r.node ∧ r.node < ds.length) ∧ (fin = true ↔ (trc ds c k r).length < k) ∧ X.runsF fin ((trc ds c k r).map fun e => [e.enc]) st = some x' ∧ zs = [i r.node, i r.shift, st]]) := by
   refine d_l _ hidx fun _ => d_l _ hlen fun _ => d_l (.bool (decide (0 < ((ds[a].labels.length : Nat) : Int)))) rfl fun _ => d_dec (fun h => ?_) fun h => ?_
   ·have h : 0 < ds[a].labels.length := by omega
    obtain ⟨q1, _⟩ := chs_lt (c := c) h
    have hch := ok_chosen c hc a hal r.shift h hd.ll
    obtain ⟨b0, hnx⟩ := ok_nx a hal r.shift (chs c ds[a].labels.length)
    rw [← ha] at hch hnx
    obtain ⟨_, b, s1, e1, e2, e3⟩ := go _ _ (labs h)
    have hg2 : ds[a].labels.getD (chs c ds[a].labels.length) ⟨#[]⟩ = ds[a].labels[chs c ds[a].labels.length] := by
     rw [List.getD_eq_getElem?_getD, List.getElem?_eq_getElem q1]; rfl
    rw [hg2] at e1
    refine d_call hch (d_l _ hidx fun _ => d_l (.str ds[a].labels[chs c ds[a].labels.length]) (e_idx (str_at q1) rfl) fun _ => d_l _ rfl fun _ => d_call hnx (d_l (nxR ds[a] r.shift (chs c ds[a].labels.length)).enc rfl fun _ => d_l (.bool b0) rfl fun _ => d_l _ (e_okc (Rf.okc_enc _)) fun _ => d_yld e1 (d_l (.bool !b) rfl fun _ => d_ite (fun hb => ?_) fun hb => ?_)))
    ·exact d_ret (by rw [e2 (by simpa using hb)])
    ·exact d_cont rfl (e3 (by simpa using hb))
   ·have h : ¬ 0 < ds[a].labels.length := by omega
    have hv := ok_value hg c a hal r.shift
    obtain ⟨b0, hnx⟩ := ok_nx a hal r.shift 1
    rw [← ha] at hv hnx
    obtain ⟨_, b, s1, e1, e2, e3⟩ := go _ _ (vals h)
    refine d_call hv (d_l (.agg [i (vlE ds ds[a] r.shift).1, .str ⟨#[]⟩, i (vlE ds ds[a] r.shift).2]) rfl fun _ => d_call hnx (d_l (nxR ds[a] r.shift 1).enc rfl fun _ => d_l (.bool b0) rfl fun _ => d_l _ (e_okc (Rf.okc_enc _)) fun _ => d_yld e1 (d_l (.bool !b) rfl fun _ => d_ite (fun hb => ?_) fun hb => ?_)))
    ·exact d_ret (by rw [e2 (by simpa using hb)])
    ·exact d_cont rfl (e3 (by simpa using hb))
  refine d_l (.bool (decide (ds[a].kind = 4))) rfl fun _ => d_dec (fun h4 => ?_) fun h4 => ?_
  ·have : pl = true := by rw [hpl, decide_eq_true h4]; rfl
   rw [this] at tail
   exact tail
  ·have : pl = decide (ds[a].kind = 6) := by rw [hpl, decide_eq_false h4]; rfl
   refine d_l (.bool (decide (ds[a].kind = 6))) rfl fun _ => d_l _ rfl fun _ => ?_
   rw [← this]
   exact tail
end Go.Proofs.YtkpnmgohbipjjaaGreatDoor.Tx
/- Simple types; traces of the program; the law of prefixes. -/
namespace Go.Proofs.YtkpnmgohbipjjaaGreatDoor.Tx
open Go.Lf Go.Lf.S Go.Lf.Duo
set_option maxRecDepth 100000
def ssB (k : Int) : Bool := decide (k ≠ 1 ∧ k ≠ 2)
mutual
/-- payloads are numbers or booleans -/
def plB : Ty → Bool
 | .mk k _ _ _ _ ks => plBs (decide (k = 4 ∨ k = 5)) ks
def plBs (pay : Bool) : List Ty → Bool
 | [] => true
 | t :: ts => (if pay then !ssB t.kind else plB t) && plBs false ts
end
theorem plBs_cons (pay : Bool) (t : Ty) (ts : List Ty) : plBs pay (t :: ts) = ((if pay then !ssB t.kind else plB t) && plBs false ts) := by simp only [plBs]
theorem tyAt26 {ks : List Ty} {j : Nat} (h : j < ks.length) : (ks.map Ty.enc)[j]? = some (ks[j]).enc := by simp [h]
theorem lenTy (ks : List Ty) : Prim.len.ev [.sl (ks.map Ty.enc)] = some (i (ks.length : Int)) := by rw [e_len]; simp
theorem ok_plain26 : ∀ t : Ty, Lim t → Ok P F.ref26_plain [t.enc] (.bool (plB t)) := by
 intro t
 induction t using Ty.ind with
 | _ t ih =>
 intro hlim
 cases hlim with
 | mk _ hn hl hll hk hkk =>
 obtain ⟨k, p, nm, s, ls, ks⟩ := t
 have hks : ks.length ≤ maxLen := hk
 have hmx : maxLen ≤ 9223372036854775807 := by decide
 have hpl : plB (.mk k p nm s ls ks) = plBs (decide (k = 4 ∨ k = 5)) ks := by simp only [plB]
 rw [hpl, Ty.enc_mk]
 refine k_ref26_plain _ _ rfl (d_l (.agg [.int .i64 k, .int .i64 p, .str nm, .int .i64 s, .sl (ls.map .str), .sl (ks.map Ty.enc)]) rfl fun _ => ?_)
 refine den_loop (fun m ys => ∃ j : Nat, j + m = ks.length ∧ plBs (if j = 0 then decide (k = 4 ∨ k = 5) else false) (ks.drop j) = plBs (decide (k = 4 ∨ k = 5)) ks ∧ ys = [i j]) ks.length ⟨0, by omega, by simp, rfl⟩ ?_
 rintro m _ ⟨j, hj, hE, rfl⟩
 refine d_l _ (lenTy ks) fun _ => d_l (.bool (decide ((j : Int) < (ks.length : Int)))) rfl fun _ => d_dec (fun h => ?_) fun h => d_ret ?_
 ·have hlt : j < ks.length := by omega
  have hmem : ks[j] ∈ ks := List.getElem_mem hlt
  rw [List.drop_eq_getElem_cons hlt, plBs_cons] at hE
  have ihj := ih ks[j] hmem (hkk _ hmem)
  have hS := ok_ref02_Session ks[j]
  have nxt : (if (if j = 0 then decide (k = 4 ∨ k = 5) else false) then !ssB ks[j].kind else plB ks[j]) = true → plBs (if j + 1 = 0 then decide (k = 4 ∨ k = 5) else false) (ks.drop (j + 1)) = plBs (decide (k = 4 ∨ k = 5)) ks := fun hc => by
   rw [hc, Bool.true_and] at hE
   rw [if_neg (by omega)]; exact hE
  have stop : (if (if j = 0 then decide (k = 4 ∨ k = 5) else false) then !ssB ks[j].kind else plB ks[j]) = false → PV.bool false = .bool (plBs (decide (k = 4 ∨ k = 5)) ks) := fun hc => by
   rw [hc, Bool.false_and] at hE
   rw [← hE]
  have sub : (if j = 0 then decide (k = 4 ∨ k = 5) else false) = false → (T.l (.idx 6 true) [.sl (ks.map Ty.enc), i (j : Int)] fun x5 => .call F.ref26_plain [x5] fun x6 => .l .bnot [x6] fun x7 => .ite x7 (.ret (.bool false)) (.l (.arith .add .i64) [i (j : Int), i 1] fun x8 => .cont 0 [x8]) : T PV).den0 P
    (fun x => x = .bool (plBs (decide (k = 4 ∨ k = 5)) ks)) ([] ++ [fun zs => ∃ m', m' < m ∧ ∃ j : Nat, j + m' = ks.length ∧ plBs (if j = 0 then decide (k = 4 ∨ k = 5) else false) (ks.drop j) = plBs (decide (k = 4 ∨ k = 5)) ks ∧ zs = [i j]]) := fun hp => by
   rw [hp] at nxt stop
   refine d_l _ (e_idx (tyAt26 hlt) (Ty.okc_enc _)) fun _ => d_call ihj (d_l (.bool !(plB ks[j])) rfl fun _ => d_ite (fun hc => d_ret ?_) fun hc => d_l _ (e_inc (by omega)) fun _ => d_cont rfl ⟨m - 1, by omega, j + 1, by omega, ?_, rfl⟩)
   ·exact stop (by simpa using hc)
   ·exact nxt (by simpa using hc)
  refine d_l (.bool (decide ((j : Int) = 0))) rfl fun _ => d_dec (fun h0 => ?_) fun h0 => sub (by rw [if_neg (by omega)])
  have h0 : j = 0 := by omega
  subst h0
  have pay : (k = 4 ∨ k = 5) → (T.l (.idx 6 true) [.sl (ks.map Ty.enc), i 0] fun x6 => .call F.ref02_Session [x6] fun x7 => .ite x7 (.ret (.bool false)) (.l (.arith .add .i64) [i ((0 : Nat) : Int), i 1] fun x8 => .cont 0 [x8]) : T PV).den0 P
    (fun x => x = .bool (plBs (decide (k = 4 ∨ k = 5)) ks)) ([] ++ [fun zs => ∃ m', m' < m ∧ ∃ j : Nat, j + m' = ks.length ∧ plBs (if j = 0 then decide (k = 4 ∨ k = 5) else false) (ks.drop j) = plBs (decide (k = 4 ∨ k = 5)) ks ∧ zs = [i j]]) := fun hk => by
   rw [if_pos rfl, decide_eq_true hk] at nxt stop
   refine d_l ks[0].enc (e_idx (k := 0) (tyAt26 hlt) (Ty.okc_enc _)) fun _ => d_call hS (d_ite (fun hc => d_ret ?_) fun hc => d_l _ (e_inc (by omega)) fun _ => d_cont rfl ⟨m - 1, by omega, 0 + 1, by omega, ?_, rfl⟩)
   ·rw [decide_eq_true hk]
    exact stop (by have hc : ssB ks[0].kind = true := hc; simp [hc])
   ·rw [decide_eq_true hk]
    exact nxt (by have hc : ssB ks[0].kind = false := hc; simp [hc])
  refine d_l (.bool (decide (k = 4))) rfl fun _ => d_dec (fun h4 => pay (.inl h4)) fun h4 => d_l (.bool (decide (k = 5))) rfl fun _ => d_dec (fun h5 => pay (.inr h5)) fun h5 => sub (by rw [if_pos rfl]; exact decide_eq_false (by omega))
 ·rw [List.drop_eq_nil_of_le (by omega)] at hE
  rw [← hE]; simp [plBs]
/-- the graph of one type, its reference -/
theorem one_g {t : Ty} (hw : Wf t [] 0) (hz : t.sz ≤ 1000000) : GrOk' (belowsF [t] 0 [] []) ∧ nextsF [t] 0 [] [] = [⟨0, 0⟩] ∧ RT (belowsF [t] 0 [] []) ⟨0, 0⟩ t ∧ 0 < (belowsF [t] 0 [] []).length := by
 obtain ⟨ds, rs, _, hd0, hrl, hds, hrs, hdf, hrf⟩ := ok_ref07_Build [t] (by
  intro x hx
  obtain rfl := List.mem_singleton.1 hx
  exact hw) (by simp only [Ty.szs]; omega)
 have hgl := gcs_le [t]
 have hgr : GrOk' ds := ⟨by simp only [Ty.szs] at hgl; omega, by rw [hd0]; exact hds⟩
 have hpl : Pl ds 0 (belowsF [t] 0 [] []) := ⟨Int.le_refl _, fun k hk => by
  rw [← hdf] at hk
  simp only [← hdf]
  rw [show (0 : Int).toNat + k = k by simp]
  exact List.getElem?_eq_getElem hk⟩
 have hln : ∀ x ∈ [t], ∀ q, (nodesF x q [] []).length = gc x := fun x hx q => len_nodes x [] 0 (by obtain rfl := List.mem_singleton.1 hx; exact hw) q [] []
 have p0 := Pl.kid hpl hln 0 (by simp)
 have q0 := nextsF_at (ks := [t]) (a := 0) (ns := []) (R := []) 0 (by simp)
 obtain ⟨R0, f0⟩ := rt_top (t := t) hw p0
 have hr0 : rs = [⟨0, 0⟩] := by
  rw [← hrf] at q0
  have e : rs = [rs[0]'(by simp at hrl; omega)] := by
   match rs, hrl with
   | [r], _ => rfl
  rw [List.getElem?_eq_getElem (by simp at hrl; omega)] at q0
  rw [e, Option.some.inj q0]
  simpa [gcs] using f0
 rw [← hdf, ← hrf]
 have hR : RT ds ⟨0, 0⟩ t := by
  have : (⟨0, 0⟩ : Rf) = refF t 0 [] [] := by
   rw [← hrf, hr0] at q0
   have := Option.some.inj q0
   simpa [gcs] using this
  rw [this]
  simpa [gcs] using R0
 refine ⟨hgr, hr0, hR, ?_⟩
 obtain ⟨_, u, d, _, h2, _⟩ := hR.step
 exact Nat.lt_of_le_of_lt (Nat.zero_le _) (List.getElem?_eq_some_iff.1 h2).1
theorem dk_67w (k : Int) : (dk k = 6 ↔ k = 7) ∧ (dk k = 7 ↔ k = 6) ∧ (dk k = 4 ↔ k = 5) ∧ (dk k = 5 ↔ k = 4) := by
 unfold dk; refine ⟨?_, ?_, ?_, ?_⟩ <;> (split <;> (try split) <;> (try split) <;> (try split) <;> omega)
theorem clOk {ds : List Nd} (hg : GrOk' ds) (hl : ds.length ≤ 137438953472) : GrOk' (closeD ds) := by
 refine ⟨by rw [closeD_len]; omega, fun d hd => ?_⟩
 rw [closeD_len]
 simp only [closeD, List.mem_append, List.mem_map] at hd
 rcases hd with hd | ⟨e, he, rfl⟩
 ·exact (hg.2 d hd).weak (fun q hq => by cases hq) (Int.le_refl _) (by omega)
 ·have h := hg.2 e he
  have hk := h.k1; have h3 := h.n3; have h5 := h.n5; have h7 := h.n7; have hx := h.nx
  obtain ⟨g1, g2, g3, g4⟩ := dk_67w e.kind
  have hlen : (dualN ds.length e).next.length = e.next.length := by simp [dualN]
  have kk : (dualN ds.length e).kind = dk e.kind := rfl
  have ll : (dualN ds.length e).labels = e.labels := rfl
  have hdk : (e.kind ≤ 3 → dk e.kind = e.kind) ∧ 1 ≤ dk e.kind ∧ dk e.kind ≤ 7 := by
   unfold dk; split <;> (try split) <;> (try split) <;> (try split) <;> omega
  refine ⟨by rw [kk]; omega, h.p, ?_, ?_, ?_, h.ll, h.nd, fun r hr => ?_⟩
  ·rw [kk, hlen, ll]; omega
  ·rw [kk, hlen, ll]; omega
  ·rw [kk, hlen, ll]; omega
  ·obtain ⟨j, hj⟩ := List.getElem?_of_mem hr
   simp only [dualN, List.getElem?_mapIdx, Option.map_eq_some_iff] at hj
   obtain ⟨w, hw, rfl⟩ := hj
   have hwm := List.mem_of_getElem? hw
   have hin := h.node' w hwm
   obtain ⟨_, s1, s2⟩ := hx w hwm
   unfold dualR
   split
   ·exact ⟨.inr ⟨by show 0 ≤ w.node + _; omega, by show w.node + _ < _; omega⟩, s1, s2⟩
   ·exact ⟨.inr ⟨hin.1, by omega⟩, s1, s2⟩
/-- the closed graph of a type -/
def cg (t : Ty) : List Nd := closeD (belowsF [t] 0 [] [])
theorem ok_build26 {t : Ty} (hw : Wf t [] 0) (hz : t.sz ≤ 1000) : Ok P F.witness_build [t.enc] (.tup [.agg [.sl ((cg t).map Nd.enc)], (⟨0, 0⟩ : Rf).enc]) := by
 obtain ⟨g1, g2, g3, g4⟩ := one_g hw (by omega)
 have hB := ok_graph_Build [t] (fun x hx => by obtain rfl := List.mem_singleton.1 hx; exact hw) (by simp [Ty.szs]; omega)
 rw [g2] at hB
 have hC := ok_dual_Close (belowsF [t] 0 [] []) (GrOk.close g1)
 exact k_witness_build _ _ rfl (d_l _ (e_okc (Ty.okc_enc t)) fun _ => d_l (.sl ([t].map Ty.enc)) (e_lst fun x hx => by simp at hx; subst hx; exact Ty.okc_enc _) fun _ => d_call hB (d_l (.agg [.sl ((belowsF [t] 0 [] []).map Nd.enc)]) rfl fun _ => d_l (.sl [(⟨0, 0⟩ : Rf).enc]) rfl fun _ => d_l (.agg [.sl ((belowsF [t] 0 [] []).map Nd.enc)]) rfl fun _ => d_call hC (d_l (⟨0, 0⟩ : Rf).enc rfl fun _ => d_l (.agg [.sl ((cg t).map Nd.enc)]) rfl fun _ => d_l (⟨0, 0⟩ : Rf).enc rfl fun _ => d_ret rfl)))
theorem evt_at {l : List Evt} {j : Nat} (h : j < l.length) : (l.map Evt.enc)[j]? = some (l[j]).enc := by simp [h]
theorem evt_len (l : List Evt) : Prim.len.ev [.sl (l.map Evt.enc)] = some (i (l.length : Int)) := by rw [e_len]; simp
theorem ok_Trace {t : Ty} (hw : Wf t [] 0) (hz : t.sz ≤ 1000) (c : Int) (hc : -9223372036854775808 ≤ c ∧ c ≤ 9223372036854775807) (k : Nat) (hk : k ≤ 1000000) : Ok P F.witness_Trace [t.enc, i c, i (k : Int)] (.sl ((trc (cg t) c k ⟨0, 0⟩).map Evt.enc)) := by
 obtain ⟨g1, _, _, g4⟩ := one_g hw (by omega)
 have hlb : (belowsF [t] 0 [] []).length ≤ 137438953472 := by
  have := gcs_le [t]
  have hb := belows_len [t] [] 0 (fun x hx => by obtain rfl := List.mem_singleton.1 hx; exact hw) 0 [] []
  simp only [Ty.szs] at this
  omega
 have hg : GrOk' (cg t) := clOk g1 hlb
 have hcl : 0 < (cg t).length := by rw [cg, closeD_len]; omega
 have hB := ok_build26 hw hz
 generalize cg t = ds at *
 refine k_witness_Trace _ _ rfl (d_l _ (e_okc (Ty.okc_enc t)) fun _ => d_l _ rfl fun _ => d_call hB (d_l (.agg [.sl (ds.map Nd.enc)]) rfl fun _ => d_l (⟨0, 0⟩ : Rf).enc rfl fun _ => d_l (.agg [.sl (ds.map Nd.enc)]) rfl fun _ => d_l (⟨0, 0⟩ : Rf).enc rfl fun _ => d_l (.bool (decide ((k : Int) ≤ 0))) rfl fun _ => d_dec (fun h => d_ret ?_) fun h => ?_))
 ·have h : k = 0 := by omega
  subst h; rfl
 have hk0 : 0 < k := by omega
 have hE : OkS P F.witness_maker_events sg_witness_maker_events [.agg [.sl (ds.map Nd.enc), i c], (⟨0, 0⟩ : Rf).enc] [.sl (ds.map Nd.enc), i c, i 0, i 0] :=
  m_witness_maker_events _ _ (d_l (.agg [.sl (ds.map Nd.enc), i c]) rfl fun _ => d_l (⟨0, 0⟩ : Rf).enc rfl fun _ => d_ret rfl)
 have hI := its_events hg c hc ⟨0, 0⟩ ⟨Int.le_refl _, by show (0 : Int) < _; omega⟩ k (decide ((trc ds c k ⟨0, 0⟩).length < k)) decide_eq_true_iff
 have hle := trc_len ds c k ⟨0, 0⟩
 generalize trc ds c k ⟨0, 0⟩ = es at *
 refine d_l _ rfl fun _ => d_calls rfl hE (d_iterS hI (fun y hy => by
  obtain ⟨e, _, rfl⟩ := List.mem_map.1 hy; rfl) (fun j zs => zs = [.sl ((es.take j).map Evt.enc)] ∧ j ≤ es.length ∧ (es.length = k → j < k)) ⟨by simp, by omega, fun _ => hk0⟩ (fun j y hy zs hz => ?_) fun zs hz => ?_)
 ·obtain ⟨rfl, hj, hjk⟩ := hz
  rw [List.getElem?_map, Option.map_eq_some_iff] at hy
  obtain ⟨e, he, rfl⟩ := hy
  obtain ⟨hlt, rfl⟩ := List.getElem?_eq_some_iff.1 he
  have happ : (Prim.app 6 true 64).ev [.sl ((es.take j).map Evt.enc), .sl [es[j].enc]] = some (.sl ((es.take (j + 1)).map Evt.enc)) := by
   rw [List.take_succ_eq_append_getElem hlt, List.map_append]
   exact e_app (l := (es.take j).map Evt.enc) (m := [es[j].enc]) (fun x hx => by simp at hx; subst hx; exact Evt.okc_enc _) (by simp; omega) (by simp; omega)
  have hlen : Prim.len.ev [.sl ((es.take (j + 1)).map Evt.enc)] = some (i ((j + 1 : Nat) : Int)) := by
   rw [e_len]; simp; omega
  by_cases hs : j + 1 = k
  ·refine .inr (d_l _ (e_okc (Evt.okc_enc _)) fun _ => d_l (.sl [es[j].enc]) (e_lst fun x hx => by simp at hx; subst hx; exact Evt.okc_enc _) fun _ => d_l _ happ fun _ => d_l _ hlen fun _ => d_l (.bool (decide (((j + 1 : Nat) : Int) = (k : Int)))) rfl fun _ => d_dec (fun _ => d_ret ?_) fun h => absurd (by omega) h)
   rw [List.take_of_length_le (by omega)]
  ·refine .inl ⟨[.sl ((es.take (j + 1)).map Evt.enc)], d_l _ (e_okc (Evt.okc_enc _)) fun _ => d_l (.sl [es[j].enc]) (e_lst fun x hx => by simp at hx; subst hx; exact Evt.okc_enc _) fun _ => d_l _ happ fun _ => d_l _ hlen fun _ => d_l (.bool (decide (((j + 1 : Nat) : Int) = (k : Int)))) rfl fun _ => d_dec (fun h => absurd h (by omega)) fun _ => d_cont rfl rfl, rfl, by omega, fun h => by omega⟩
 ·obtain ⟨rfl, _, hjk⟩ := hz
  rw [List.length_map] at hjk ⊢
  refine ⟨decide_eq_true ?_, d_ret ?_⟩
  ·by_cases he : es.length = k
   ·have := hjk he; omega
   ·omega
  ·show PV.sl ((es.take es.length).map Evt.enc) = _
   rw [List.take_length]
theorem evt_same (e : Evt) : (Prim.acmp .neq [.i .i64, .b, .s, .i .i64, .s, .i .i64]).ev [e.enc, e.enc] = some (.bool false) := by
 have h : PV.sameK [.i .i64, .b, .s, .i .i64, .s, .i .i64] [i 0, .bool e.plus, .str e.lab, i e.k, .str ⟨#[]⟩, i e.v] [i 0, .bool e.plus, .str e.lab, i e.k, .str ⟨#[]⟩, i e.v] = some true := by simp [PV.sameK, PV.same1]
 show (if [i 0, PV.bool e.plus, .str e.lab, i e.k, .str ⟨#[]⟩, i e.v].length = 6 ∧ [i 0, PV.bool e.plus, .str e.lab, i e.k, .str ⟨#[]⟩, i e.v].length = 6 then (PV.sameK [.i .i64, .b, .s, .i .i64, .s, .i .i64] [i 0, .bool e.plus, .str e.lab, i e.k, .str ⟨#[]⟩, i e.v] [i 0, .bool e.plus, .str e.lab, i e.k, .str ⟨#[]⟩, i e.v]).map (fun b => PV.bool (!b)) else none) = _
 rw [if_pos ⟨rfl, rfl⟩, h]; rfl
end Go.Proofs.YtkpnmgohbipjjaaGreatDoor.Tx
/- slices.Compact of whole numbers and slices.Grow, by the kit's contracts, as calls with memory (numbers of this seat). -/
namespace Go.Proofs.YtkpnmgohbipjjaaGreatDoor.Tx
open Go.Lf Go.Lf.S Go.Lf.Duo Go.RowKit
set_option maxRecDepth 100000
def compILays_ren : Go.Shelf.Ren := ⟨fun | 20 => 29 | n => n, fun | 22 => 73 | 3 => 3 | 4 => 4 | 0 => 0 | n => n, fun | n => n⟩
theorem compILays : Lays2.n20 Tryz.prog compILays_ren where
 mixed := by kernel_rfl
 f20 := Tryz.func29.trans (congrArg some (by kernel_rfl))
 t0 := Tryz.underlying0
 a0 := Tryz.isAgg0
 z0 := Tryz.sizeOf0
 v0 := Tryz.zeroValue0
 t3 := Tryz.underlying3
 a3 := Tryz.isAgg3
 z3 := Tryz.sizeOf3
 v3 := Tryz.zeroValue3
 t4 := Tryz.underlying4
 a4 := Tryz.isAgg4
 z4 := Tryz.sizeOf4
 v4 := Tryz.zeroValue4
 t22 := Tryz.underlying73
 a22 := Tryz.isAgg73
 z22 := Tryz.sizeOf73
 v22 := Tryz.zeroValue73
 i3 := by kernel_rfl
def growLays_ren : Go.Shelf.Ren := ⟨fun | 4 => 62 | n => n, fun | 22 => 73 | 25 => 3 | 3 => 3 | 4 => 4 | 9 => 9 | 20 => 20 | 0 => 0 | n => n, fun | n => n⟩
theorem growLays : Lays8.n4 Tryz.prog growLays_ren where
 mixed := by kernel_rfl
 f4 := ⟨"slices.Grow[[]int,int]", by decide, Tryz.func62.trans (congrArg some (by kernel_rfl))⟩
 t0 := Tryz.underlying0
 a0 := Tryz.isAgg0
 z0 := Tryz.sizeOf0
 v0 := Tryz.zeroValue0
 t3 := Tryz.underlying3
 a3 := Tryz.isAgg3
 z3 := Tryz.sizeOf3
 v3 := Tryz.zeroValue3
 t4 := Tryz.underlying4
 a4 := Tryz.isAgg4
 z4 := Tryz.sizeOf4
 v4 := Tryz.zeroValue4
 t9 := Tryz.underlying9
 a9 := Tryz.isAgg9
 z9 := Tryz.sizeOf9
 v9 := Tryz.zeroValue9
 t20 := Tryz.underlying20
 a20 := Tryz.isAgg20
 z20 := Tryz.sizeOf20
 v20 := Tryz.zeroValue20
 t22 := Tryz.underlying73
 a22 := Tryz.isAgg73
 z22 := Tryz.sizeOf73
 v22 := Tryz.zeroValue73
theorem walk_CompI (blk cap : Nat) (zs : List Int) (w : World) (hH : Go.Sort.Holds (Value.int .i64) w blk 0 zs.toArray) (hsz : zs.length ≤ 9223372036854775807) (hcap : zs.length ≤ cap) :
  Calls P F.slices_Compact_int_int #[.slice (some ⟨blk, 0, none⟩) zs.length cap] w fun e w' =>
   e = .returned (.slice (some ⟨blk, 0, none⟩) (Lib.compact zs).length cap) ∧ ∃ q, w' = Go.Sort.putRow (Value.int .i64) (Go.Sort.ahead w q) blk 0 (Lib.compact zs ++ List.replicate (zs.length - (Lib.compact zs).length) 0).toArray :=
 Any.slices_Compact_int compILays blk 0 cap zs w hH hsz hcap
theorem walk_CompIE (a : Option Addr) (cap : Nat) (w : World) :
  Calls P F.slices_Compact_int_int #[.slice a 0 cap] w fun e w' => e = .returned (.slice a 0 cap) ∧ w' = w :=
 Any.slices_Compact_int_empty compILays a cap w
theorem rep_int26 {F : Nat → Nat → Prop} {w : World} {v : Value} {z : Int} (h : Rep F w v (Go.Lf.S.i z)) : v = .int .i64 z := by
 cases h; rfl
/-- what stands in the row of an own array of texts -/
theorem row_str26 {F : Nat → Nat → Prop} {w : World} {g : Nat} {cur : Array Value} {ty : Nat} {zs : List Int} (hb : w.heap[g]? = some (.cells cur ty (0, 0)))
  (hcell : ∀ (i : Nat) (y : PV) (j : Nat) (z : PV), (zs.map Go.Lf.S.i)[i]? = some y → y.cells[j]? = some z → ∃ u, cur[i * 1 + j]? = some u ∧ Rep F w u z) :
  (∀ j (hj : j < zs.length), cur[j]? = some (Value.int .i64 zs[j])) ∧ Go.Sort.Holds (Value.int .i64) w g 0 zs.toArray := by
 have hcur : ∀ j (hj : j < zs.length), cur[j]? = some (Value.int .i64 zs[j]) := fun j hj => by
  obtain ⟨u, hu, hr⟩ := hcell j (Go.Lf.S.i zs[j]) 0 (Go.Lf.S.i zs[j]) (by simp [hj]) rfl
  rw [show j * 1 + 0 = j by omega] at hu
  rw [hu, rep_int26 hr]
 refine ⟨hcur, fun j hj => ?_⟩
 have hj : j < zs.length := by simpa using hj
 refine ⟨?_, ?_⟩
 ·simp only [World.cell?, hb]
  rw [if_neg (by simp), Nat.zero_add, hcur j hj]
  simp [hj]
 ·simp [World.frozen?, hb]
theorem one_arg26 {F : Nat → Nat → Prop} {ρ : Nat → Value} {w : World} {vv : Array Value} {v : Value} (hs : vv.size = 1) (h : ∀ (i : Nat) (u : Value) (a : SV PV), vv[i]? = some u → [SV.at (A.own 9000)][i]? = some a → RepS F ρ w u a) (hρ : ρ 9000 = v) : vv = #[v] := by
 have h0 : vv[0]? = some (vv[0]'(by omega)) := Array.getElem?_eq_getElem (by omega)
 have := (h 0 _ (.at (.own 9000)) h0 rfl).1
 rw [hρ] at this
 apply Array.ext (by simpa using hs)
 intro i hi1 hi2
 have : i = 0 := by simp at hi2; omega
 subst this
 simpa using this
/-- the own array of texts after its row was written anew -/
theorem repO_row26 {F : Nat → Nat → Prop} {ρ : Nat → Value} {w' : World} {o g cap : Nat} {cur cur' : Array Value} {ms : List Int} {L : Nat} (hρ : ρ o = .slice (some ⟨g, 0, none⟩) ms.length cap) (hb : w'.heap[g]? = some (.cells cur' 3 (0, 0))) (hlc : ms.length ≤ cap) (hcm : cap ≤ maxLen) (hcs : cur'.size = cap * 1)
  (hget : ∀ q (hq : q < ms.length), cur'[q]? = some (Value.int .i64 ms[q])) (hFn : ∀ j, ¬ F g j) : RepO F ρ w' o (.arr false 3 1 false (.sl (ms.map Go.Lf.S.i))) := by
 refine ⟨ms.map Go.Lf.S.i, rfl, by decide, fun y hy => ?_, .inr ⟨g, cap, cur', ?_, hb, ?_, hcm, hcs, fun q y j z hy hz => ?_, fun j => ⟨fun h => absurd h (hFn j), fun h => absurd h.1 (by decide)⟩⟩⟩
 ·obtain ⟨a, _, rfl⟩ := List.mem_map.1 hy
  exact ⟨rfl, fun z hz => by
   have : z = Go.Lf.S.i a := by simpa [PV.cells, Go.Lf.S.i] using hz
   subst this; rfl⟩
 ·rw [hρ, List.length_map]
 ·rw [List.length_map]; exact hlc
 ·rw [List.getElem?_map, Option.map_eq_some_iff] at hy
  obtain ⟨a, ha, rfl⟩ := hy
  have hj : j = 0 := by
   cases j with
   | zero => rfl
   | succ j => simp [PV.cells, Go.Lf.S.i] at hz
  subst hj
  have hz : z = Go.Lf.S.i a := by simpa [PV.cells, Go.Lf.S.i, eq_comm] using hz
  subst hz
  obtain ⟨hq, hqa⟩ := List.getElem?_eq_some_iff.1 ha
  refine ⟨Value.int .i64 a, ?_, .int _ _⟩
  rw [show q * 1 + 0 = q by omega, hget q hq, hqa]
theorem comp_le26 {zs : List Int} : (Lib.compact zs).length ≤ zs.length := by
 unfold Lib.compact Lib.compactUpTo
 rw [List.length_map]
 have := List.length_filter_le (Lib.keeps zs.toArray) (List.range zs.length)
 simpa using this
theorem okS_CompI (zs : List Int) (hlen : zs.length ≤ 549755813888) : OkS P F.slices_Compact_int_int sg_slices_Compact_int_int [.sl (zs.map Go.Lf.S.i)] [.sl ((Lib.compact zs).map Go.Lf.S.i)] := by
 have hent : Enters P F.slices_Compact_int_int := by
  obtain ⟨c, hc⟩ : ∃ c, Tryz.f29.body = some c := ⟨_, rfl⟩
  exact Go.Lf.enters_of (f := 29) Tryz.func29 hc (by decide)
 refine ⟨hent, fun F w vv ρ hF hgl hsz hargs hobs => ?_⟩
 obtain ⟨es, he, _, hok, hcase⟩ := hobs.rep 9000 (.arr false 3 1 false (.sl (zs.map Go.Lf.S.i))) rfl
 obtain rfl : es = zs.map Go.Lf.S.i := (PV.sl.inj he).symm
 have look1 : ∀ (ms : List Int) o ob, lookO (sg_slices_Compact_int_int.robsI [.sl (ms.map Go.Lf.S.i)]) o = some ob → o = 9002 ∧ ob = .arr false 3 1 false (.sl (ms.map Go.Lf.S.i)) := fun ms o ob ho => by
  have ho : Go.Lf.look [(9002, some (Ob.arr false 3 1 false (PV.sl (ms.map Go.Lf.S.i))))] o = some ob := ho
  simp only [Go.Lf.look] at ho
  split at ho
  ·rename_i hq
   exact ⟨(Nat.eq_of_beq_eq_true hq).symm, (Option.some.inj ho).symm⟩
  ·cases ho
 rcases hcase with ⟨hρ, hn⟩ | ⟨g, cap, cur, hρ, hb, hlc, hcm, hcs, hcell, hFg⟩
 ·-- nothing there
  obtain rfl : zs = [] := List.map_eq_nil_iff.1 hn
  obtain rfl := one_arg26 hsz hargs hρ
  refine (walk_CompIE none 0 w).mono ?_
  rintro e w' ⟨rfl, hw⟩
  subst w'
  refine ⟨_, F, fun o => if o = 9002 then .slice none 0 0 else ρ o, rfl, ⟨rfl, rfl, rfl, Nat.le_refl _, fun k hk _ => rfl⟩, fun b o h => ⟨h, Same.refl _ _ _⟩, fun b o h => .inl h, hF, ⟨rfl, rfl⟩, ⟨?_, ?_⟩, ?_, ?_⟩
  ·intro o ob ho
   obtain ⟨rfl, rfl⟩ := look1 [] o ob ho
   exact ⟨[], rfl, by decide, (fun y hy => by cases hy), .inl ⟨rfl, rfl⟩⟩
  ·intro o o' ob ob' ho ho' hne
   exact absurd ((look1 [] o ob ho).1.trans (look1 [] o' ob' ho').1.symm) hne
  ·intro o ob ho k hk
   obtain ⟨rfl, rfl⟩ := look1 [] o ob ho
   exact absurd hk (HB_none (by rfl) (fun bs e => by simp [encB] at e) k)
  ·intro o ho ho2
   have e1 : o = 9000 := by simpa [sg_slices_Compact_int_int] using ho
   have e2 : o = 9002 := by simpa [sg_slices_Compact_int_int] using ho2
   omega
 have hFn : ∀ j, ¬ F g j := fun j h => by have := (hFg j).1 h; exact absurd this.1 (by decide)
 rw [List.length_map] at hρ hlc
 obtain rfl := one_arg26 hsz hargs hρ
 have hlt : g < w.heap.size := (Array.getElem?_eq_some_iff.1 hb).1
 obtain ⟨hcur, hH⟩ := row_str26 hb hcell
 have hcl := comp_le26 (zs := zs)
 refine (walk_CompI g cap zs w hH (by omega) hlc).mono ?_
 rintro e w' ⟨rfl, m, rfl⟩
 generalize hms : Lib.compact zs = ms at *
 generalize hrow : (ms ++ List.replicate (zs.length - ms.length) 0) = row
 have hrl : row.length = zs.length := by rw [← hrow]; simp; omega
 have hheap : ∀ k, k < w.heap.size → k ≠ g → (Go.Sort.putRow (Value.int .i64) (Go.Sort.ahead w m) g 0 row.toArray).heap[k]? = w.heap[k]? := fun k hk hne => by
  simp only [Go.Sort.putRow, Go.Sort.mapBlock, Go.Sort.ahead]
  rw [Array.getElem?_modify, if_neg (Ne.symm hne)]
 have hheapg : (Go.Sort.putRow (Value.int .i64) (Go.Sort.ahead w m) g 0 row.toArray).heap[g]? = some (.cells (Go.Sort.putCells (Value.int .i64) 0 row.toArray cur) 3 (0, 0)) := by
  simp only [Go.Sort.putRow, Go.Sort.mapBlock, Go.Sort.ahead]
  rw [Array.getElem?_modify, if_pos rfl, hb]
  rfl
 have hsize : w.heap.size ≤ (Go.Sort.putRow (Value.int .i64) (Go.Sort.ahead w m) g 0 row.toArray).heap.size := by
  simp [Go.Sort.putRow, Go.Sort.mapBlock, Go.Sort.ahead]
 have hsame : ∀ b o, F b o → Same w (Go.Sort.putRow (Value.int .i64) (Go.Sort.ahead w m) g 0 row.toArray) b o := fun b o h => by
  have hne : b ≠ g := fun e => by subst e; exact hFn o h
  exact Same.of_block (hheap b (hF b o h) hne) o
 have hin : blocksOf ρ (sg_slices_Compact_int_int.obsI [.sl (zs.map Go.Lf.S.i)]) g :=
  ⟨(9000, .arr false 3 1 false (.sl (zs.map Go.Lf.S.i))), by simp [Sig.obsI, sg_slices_Compact_int_int, Ob.map', instL], by rw [hρ]; exact (HB_hb (k0 := g) rfl).2 rfl⟩
 have hblk : ∀ k, ¬ blocksOf ρ (sg_slices_Compact_int_int.obsI [.sl (zs.map Go.Lf.S.i)]) k → k ≠ g := fun k hk e => by
  subst e; exact hk hin
 refine ⟨_, F, fun o => if o = 9002 then .slice (some ⟨g, 0, none⟩) ms.length cap else ρ o, rfl, ⟨rfl, rfl, rfl, hsize, fun k hk hn => hheap k hk (hblk k hn)⟩, fun b o h => ⟨h, hsame b o h⟩, fun b o h => .inl h, fun b o h => by have := hF b o h; omega, ⟨rfl, rfl⟩, ⟨?_, ?_⟩, ?_, ?_⟩
 ·intro o ob ho
  obtain ⟨rfl, rfl⟩ := look1 ms o ob ho
  refine repO_row26 (L := 0) (cur := cur) (by simp) hheapg (by omega) hcm (by simp [Go.Sort.putCells, hcs]) (fun q hq => ?_) hFn
  have hcq := hcur q (by omega)
  have hqr : row[q]? = some ms[q] := by rw [← hrow, List.getElem?_append_left hq]; simp [hq]
  obtain ⟨hqr1, hqr2⟩ := List.getElem?_eq_some_iff.1 hqr
  simp only [Go.Sort.putCells, Array.getElem?_mapIdx]
  rw [hcq]
  simp [hqr1, hqr2]
 ·intro o o' ob ob' ho ho' hne
  exact absurd ((look1 ms o ob ho).1.trans (look1 ms o' ob' ho').1.symm) hne
 ·intro o ob ho k hk
  obtain ⟨rfl, rfl⟩ := look1 ms o ob ho
  simp only [if_true] at hk
  have := (HB_hb (k0 := g) rfl).1 hk
  subst this
  exact .inr hin
 ·intro o ho ho2
  have e1 : o = 9000 := by simpa [sg_slices_Compact_int_int] using ho
  have e2 : o = 9002 := by simpa [sg_slices_Compact_int_int] using ho2
  omega
end Go.Proofs.YtkpnmgohbipjjaaGreatDoor.Tx

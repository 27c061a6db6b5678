/- Contracts (Wk135, Wk63, Wk210, Wk211, Wk4, Wk5, Wk6, Wk7, Wk11, Wk33). -/
import Derived.Test.YtbfjpjllaibooaaGreatWk134
import Derived.Below
import Derived.Extends
import Derived.Test.YtbfjpjllaibooaaGreatWk56
set_option linter.all false
/- The package audit: Prune, exactly. -/
namespace Go.Proofs.YtbfjpjllaibooaaGreat.Tx
open Go.Lf Go.Lf.S Go.Lf.Duo
set_option maxRecDepth 100000
theorem ok_Contains27 (l : List ByteArray) (s : ByteArray) (hl : l.length ≤ 549755813888) : Ok P F.slices_Contains_string_string [.sl (l.map .str), .str s] (.bool (pb (s ∈ l))) := by
 have : ∃ r : Int, Ok P F.slices_Index_string_string [.sl (l.map .str), .str s] (i r) ∧ (0 ≤ r ↔ s ∈ l) := by
  have := tx_ex (K := fun x => ∃ r : Int, x = i r ∧ (0 ≤ r ↔ s ∈ l)) k_slices_Index_string_string (xs := [.sl (l.map .str), .str s]) rfl (by simp [t_slices_Index_string_string, T.dt]) (by
   refine d_l _ (len_eq l) fun _ => ?_
   refine den_loop (fun m' ys => ∃ j : Nat, j + m' = l.length ∧ s ∉ l.take j ∧ ys = [i j]) l.length ⟨0, by omega, by simp, rfl⟩ ?_
   rintro m' _ ⟨j, hj, hno, rfl⟩
   refine d_l (.bool (decide ((j : Int) < (l.length : Int)))) rfl fun _ => d_dec (p := (j : Int) < (l.length : Int)) (fun h => ?_) fun h => d_ret ⟨-1, rfl, ?_⟩
   ·have hjl : j < l.length := by omega
    refine d_l _ (e_idx (mp_at (f := PV.str) hjl) rfl) fun _ => d_l (.bool (decide (s = l[j]))) rfl fun _ => d_dec (p := s = l[j]) (fun e => d_ret ⟨j, rfl, ⟨fun _ => e ▸ List.getElem_mem hjl, fun _ => by omega⟩⟩) fun e => d_l _ (e_inc (by omega)) fun _ => d_cont rfl ⟨m' - 1, by omega, j + 1, by omega, fun hc => ?_, rfl⟩
    rw [List.take_succ_eq_append_getElem hjl] at hc
    rcases List.mem_append.1 hc with hc | hc
    ·exact hno hc
    ·exact e (List.mem_singleton.1 hc)
   ·rw [List.take_of_length_le (by omega)] at hno
    exact ⟨fun h => by omega, fun h => absurd h hno⟩)
  obtain ⟨_, ⟨r, rfl, hr⟩, h⟩ := this
  exact ⟨r, h, hr⟩
 obtain ⟨r, hr, hm⟩ := this
 refine k_slices_Contains_string_string _ _ rfl (d_call hr (d_l (.bool (decide (0 ≤ r))) rfl fun _ => d_ret ?_))
 rw [← pb_congr hm]
 unfold pb
 congr
noncomputable def prunP (p : Pg) : Pg := ⟨p.defs.filter fun d => pb (d.name ∈ reN p), p.main⟩
end Go.Proofs.YtbfjpjllaibooaaGreat.Tx
/- Contracts: sameness of processes and programs, sizes of programs. -/
namespace Go.Proofs.YtbfjpjllaibooaaGreat.Tx
open Go.Lf Go.Lf.S Go.Lf.Duo
set_option maxRecDepth 100000
theorem vl_eq {v w : Vl} : v = w ↔ v.kind = w.kind ∧ v.name = w.name ∧ v.n = w.n := by
 obtain ⟨a, b, c⟩ := v
 obtain ⟨a', b', c'⟩ := w
 constructor
 ·intro e; cases e; exact ⟨rfl, rfl, rfl⟩
 ·rintro ⟨h1, h2, h3⟩
  simp only at h1 h2 h3
  subst h1 h2 h3; rfl
theorem e_vneq (v w : Vl) : (Prim.acmp .neq [.i .i64, .s, .i .i64]).ev [v.enc, w.enc] = some (.bool (!pb (v = w))) := by
 have h : PV.sameK [.i .i64, .s, .i .i64] [i v.kind, .str v.name, i v.n] [i w.kind, .str w.name, i w.n] = some (pb (v = w)) := by
  by_cases h1 : v.kind = w.kind
  ·by_cases h2 : v.name = w.name
   ·by_cases h3 : v.n = w.n
    ·rw [pb_iff.2 (vl_eq.2 ⟨h1, h2, h3⟩)]
     simp [PV.sameK, PV.same1, h1, h2, h3]
    ·rw [pb_false.2 fun e => h3 (vl_eq.1 e).2.2]
     simp [PV.sameK, PV.same1, h1, h2, h3]
   ·rw [pb_false.2 fun e => h2 (vl_eq.1 e).2.1]
    simp [PV.sameK, PV.same1, h1, h2]
  ·rw [pb_false.2 fun e => h1 (vl_eq.1 e).1]
   simp [PV.sameK, PV.same1, h1]
 show (if [i v.kind, PV.str v.name, i v.n].length = 3 ∧ [i w.kind, PV.str w.name, i w.n].length = 3 then (PV.sameK [.i .i64, .s, .i .i64] [i v.kind, .str v.name, i v.n] [i w.kind, .str w.name, i w.n]).map (fun b => PV.bool (!b)) else none) = _
 rw [if_pos ⟨rfl, rfl⟩, h]; rfl
theorem pr_eq {k k' : Int} {c c' v v' : ByteArray} {ls ls' : List ByteArray} {ar ar' : List Vl} {t t' : Ty} {ks ks' : List Pr} : (Pr.mk k c v ls ar t ks = Pr.mk k' c' v' ls' ar' t' ks') ↔ k = k' ∧ c = c' ∧ v = v' ∧ ls = ls' ∧ ar = ar' ∧ t = t' ∧ ks = ks' := by
 constructor
 ·intro e; cases e; exact ⟨rfl, rfl, rfl, rfl, rfl, rfl, rfl⟩
 ·rintro ⟨rfl, rfl, rfl, rfl, rfl, rfl, rfl⟩; rfl
theorem okx_ref03_Texts {l r : List ByteArray} (hl : l.length ≤ 9223372036854775807) : Ok P F.ref03_Texts [.sl (l.map .str), .sl (r.map .str)] (.bool (pb (l = r))) := by
 refine tx_pb k_ref03_Texts rfl (by simp [t_ref03_Texts, T.dt]) ?_
 refine d_l _ (len_eq l) fun _ => d_l _ (len_eq r) fun _ => d_l _ rfl fun _ => d_ndec (fun h => d_ret (isB_f fun e => h (by rw [e]))) fun h => ?_
 have h : (l.length : Int) = (r.length : Int) := h
 refine den_loop (fun m ys => ∃ j : Nat, j + m = l.length ∧ (∀ k (hk : k < l.length) (hk' : k < r.length), k < j → l[k] = r[k]) ∧ ys = [i j]) l.length ⟨0, by omega, fun k _ _ h => by omega, rfl⟩ ?_
 rintro m _ ⟨j, hj, hno, rfl⟩
 refine d_l _ (len_eq l) fun _ => d_l _ rfl fun _ => d_dec (fun h1 => ?_) fun h1 => d_ret (isB_t (list_eq_of (by omega) fun k hk hk' => hno k hk hk' (by have h1 : ¬ (j : Int) < (l.length : Int) := h1; omega)))
 have hlt : j < l.length := by have h1 : (j : Int) < (l.length : Int) := h1; omega
 have hlt' : j < r.length := by omega
 refine d_l _ (e_idx (mp_at hlt) rfl) fun _ => d_l _ (e_idx (mp_at hlt') rfl) fun _ => d_l _ rfl fun _ => d_ndec (fun hb => d_ret (isB_f fun e => ?_)) fun hb => d_l _ (e_inc (by omega)) fun _ => d_cont rfl ⟨m - 1, by omega, j + 1, by omega, fun k hk hk' h1 => ?_, rfl⟩
 ·subst e; exact hb rfl
 ·by_cases e : k = j
  ·subst e; exact hb
  ·exact hno k hk hk' (by omega)
theorem okx_ref03_Same : ∀ (a b : Pr), PLim a → Ok P F.ref03_Same [a.enc, b.enc] (.bool (pb (a = b))) := by
 intro a
 induction a using Pr.ind with
 | _ a ih =>
 intro b hlim
 cases hlim with
 | mk _ _ _ _ hll _ hal ht hkl hkk =>
 obtain ⟨k, c, v, ls, ar, t, ks⟩ := a
 obtain ⟨k', c', v', ls', ar', t', ks'⟩ := b
 have hkl : ks.length ≤ 9223372036854775807 := hkl
 have hal : ar.length ≤ 9223372036854775807 := hal
 have h2 := okx_ref03_Texts (l := ls) (r := ls') hll
 have h4 := okx_ref02_Same t t' ht
 rw [Ty.enc_cs, Ty.enc_cs] at h4
 rw [Pr.enc_mk, Pr.enc_mk]
 refine tx_pb k_ref03_Same rfl (by simp [t_ref03_Same, T.dt]) ?_
 refine d_l (.agg [i k, .str c, .str v, .sl (ls.map .str), .sl (ar.map Vl.enc), i t.kind, i t.prio, .str t.name, i t.shift, .sl (t.labels.map .str), .sl (t.kids.map Ty.enc), .sl (ks.map Pr.enc)]) rfl fun _ => d_l (.agg [i k', .str c', .str v', .sl (ls'.map .str), .sl (ar'.map Vl.enc), i t'.kind, i t'.prio, .str t'.name, i t'.shift, .sl (t'.labels.map .str), .sl (t'.kids.map Ty.enc), .sl (ks'.map Pr.enc)]) rfl fun _ => ?_
 rw [pr_eq]
 refine d_l _ rfl fun _ => d_ndec (fun e1 => d_ret (isB_f fun e => e1 e.1)) fun e1 => ?_
 refine d_l _ rfl fun _ => d_ndec (fun e2 => d_ret (isB_f fun e => e2 e.2.1)) fun e2 => ?_
 refine d_l _ rfl fun _ => d_ndec (fun e3 => d_ret (isB_f fun e => e3 e.2.2.1)) fun e3 => ?_
 refine d_call h2 (d_l _ rfl fun _ => d_ite (fun e4 => d_ret (isB_f fun e => pb_false.1 (by simpa using e4) e.2.2.2.1)) fun e4 => ?_)
 refine d_l _ (len_eq ar) fun _ => d_l _ (len_eq ar') fun _ => d_l _ rfl fun _ => d_ndec (fun e5 => d_ret (isB_f fun e => e5 (by rw [e.2.2.2.2.1]))) fun e5 => ?_
 refine d_call h4 (d_l _ rfl fun _ => d_ite (fun e6 => d_ret (isB_f fun e => pb_false.1 (by simpa using e6) e.2.2.2.2.2.1)) fun e6 => ?_)
 refine d_l _ (len_eq ks) fun _ => d_l _ (len_eq ks') fun _ => d_l _ rfl fun _ => d_ndec (fun e7 => d_ret (isB_f fun e => e7 (by rw [e.2.2.2.2.2.2]))) fun e7 => ?_
 have e4 : ls = ls' := pb_iff.1 (by simpa using e4)
 have e5 : (ar.length : Int) = (ar'.length : Int) := e5
 have e6 : t = t' := pb_iff.1 (by simpa using e6)
 have e7 : (ks.length : Int) = (ks'.length : Int) := e7
 refine den_loop (fun m ys => ∃ j : Nat, j + m = ar.length ∧ (∀ k (hk : k < ar.length) (hk' : k < ar'.length), k < j → ar[k] = ar'[k]) ∧ ys = [i j]) ar.length ⟨0, by omega, fun k _ _ h => by omega, rfl⟩ ?_
 rintro m _ ⟨j, hj, hno, rfl⟩
 refine d_l _ (len_eq ar) fun _ => d_l _ rfl fun _ => d_dec (fun h1 => ?_) fun h1 => ?_
 ·have hlt : j < ar.length := by have h1 : (j : Int) < (ar.length : Int) := h1; omega
  have hlt' : j < ar'.length := by omega
  refine d_l _ (e_idx (mp_at hlt) (Vl.okc_enc _)) fun _ => d_l _ (e_idx (mp_at hlt') (Vl.okc_enc _)) fun _ => d_l _ (e_vneq _ _) fun _ => d_ite (fun hb => d_ret (isB_f fun e => ?_)) fun hb => d_l _ (e_inc (by omega)) fun _ => d_cont rfl ⟨m - 1, by omega, j + 1, by omega, fun k hk hk' h1 => ?_, rfl⟩
  ·have hb : pb (ar[j] = ar'[j]) = false := by simpa using hb
   exact pb_false.1 hb (by simp only [e.2.2.2.2.1])
  ·have hb : pb (ar[j] = ar'[j]) = true := by simpa using hb
   by_cases e : k = j
   ·subst e; exact pb_iff.1 hb
   ·exact hno k hk hk' (by omega)
 ·have ha : ar = ar' := list_eq_of (by omega) fun k hk hk' => hno k hk hk' (by have h1 : ¬ (j : Int) < (ar.length : Int) := h1; omega)
  refine den_loop (fun m ys => ∃ j : Nat, j + m = ks.length ∧ (∀ k (hk : k < ks.length) (hk' : k < ks'.length), k < j → ks[k] = ks'[k]) ∧ ys = [i j]) ks.length ⟨0, by omega, fun k _ _ h => by omega, rfl⟩ ?_
  rintro m _ ⟨j, hj, hno, rfl⟩
  refine d_l _ (len_eq ks) fun _ => d_l _ rfl fun _ => d_dec (fun h1 => ?_) fun h1 => d_ret (isB_t ⟨e1, e2, e3, e4, ha, e6, list_eq_of (by omega) fun k hk hk' => hno k hk hk' (by have h1 : ¬ (j : Int) < (ks.length : Int) := h1; omega)⟩)
  have hlt : j < ks.length := by have h1 : (j : Int) < (ks.length : Int) := h1; omega
  have hlt' : j < ks'.length := by omega
  refine d_l _ (e_idx (mp_at hlt) (Pr.okc_enc _)) fun _ => d_l _ (e_idx (mp_at hlt') (Pr.okc_enc _)) fun _ => d_call (ih _ (List.getElem_mem hlt) _ (hkk _ (List.getElem_mem hlt))) (d_l _ rfl fun _ => d_ite (fun hb => d_ret (isB_f fun e => ?_)) fun hb => d_l _ (e_inc (by omega)) fun _ => d_cont rfl ⟨m - 1, by omega, j + 1, by omega, fun k hk hk' h1 => ?_, rfl⟩)
  ·have hb : pb (ks[j] = ks'[j]) = false := by simpa using hb
   exact pb_false.1 hb (by simp only [e.2.2.2.2.2.2])
  ·have hb : pb (ks[j] = ks'[j]) = true := by simpa using hb
   by_cases e : k = j
   ·subst e; exact pb_iff.1 hb
   ·exact hno k hk hk' (by omega)
end Go.Proofs.YtbfjpjllaibooaaGreat.Tx
/- Copies lie in new memory: contracts with arguments of which it is not said where they lie. -/
namespace Go.Proofs.YtbfjpjllaibooaaGreat.Tx
open Go.Lf Go.Lf.S Go.Lf.Duo
set_option maxRecDepth 100000
mutual
def Ty.menc : Ty → PV
 | .mk k p nm s ls ks => .agg [i k, i p, .str nm, i s, .msl (ls.map .str), .msl (Ty.mencs ks)]
def Ty.mencs : List Ty → List PV
 | [] => []
 | k :: ks => Ty.menc k :: Ty.mencs ks
end
theorem Ty.mencs_eq : ∀ l : List Ty, Ty.mencs l = l.map Ty.menc
 | [] => by simp [Ty.mencs]
 | k :: ks => by simp [Ty.mencs, Ty.mencs_eq ks]
theorem Ty.menc_mk (k p : Int) (nm : ByteArray) (s : Int) (ls : List ByteArray) (ks : List Ty) : Ty.menc (.mk k p nm s ls ks) = .agg [i k, i p, .str nm, i s, .msl (ls.map .str), .msl (ks.map Ty.menc)] := by
 simp only [Ty.menc, Ty.mencs_eq]
theorem Ty.okc_menc (t : Ty) : (Ty.menc t).okc 6 true = true := by
 cases t; simp [Ty.menc_mk, PV.okc, PV.cells, PV.isAg, PV.isCell]
mutual
def Pr.menc : Pr → PV
 | .mk k ch v ls ar t ks => .agg [i k, .str ch, .str v, .msl (ls.map .str), .msl (ar.map Vl.enc), i t.kind, i t.prio, .str t.name, i t.shift, .msl (t.labels.map .str), .msl (t.kids.map Ty.menc), .msl (Pr.mencs ks)]
def Pr.mencs : List Pr → List PV
 | [] => []
 | k :: ks => Pr.menc k :: Pr.mencs ks
end
theorem Pr.mencs_eq : ∀ l : List Pr, Pr.mencs l = l.map Pr.menc
 | [] => by simp [Pr.mencs]
 | k :: ks => by simp [Pr.mencs, Pr.mencs_eq ks]
theorem Pr.menc_mk (k : Int) (ch v : ByteArray) (ls : List ByteArray) (ar : List Vl) (t : Ty) (ks : List Pr) :
  Pr.menc (.mk k ch v ls ar t ks) = .agg [i k, .str ch, .str v, .msl (ls.map .str), .msl (ar.map Vl.enc), i t.kind, i t.prio, .str t.name, i t.shift, .msl (t.labels.map .str), .msl (t.kids.map Ty.menc), .msl (ks.map Pr.menc)] := by
 simp only [Pr.menc, Pr.mencs_eq]
theorem Pr.okc_menc (p : Pr) : (Pr.menc p).okc 12 true = true := by
 cases p; simp [Pr.menc_mk, PV.okc, PV.cells, PV.isAg, PV.isCell]
/-- lists of bounded lengths throughout -/
inductive TLm : Ty → Prop
 | mk (t : Ty) (h1 : t.labels.length ≤ 549755813888) (h2 : t.kids.length ≤ 549755813888) (h : ∀ k ∈ t.kids, TLm k) : TLm t
inductive PLm : Pr → Prop
 | mk (p : Pr) (h1 : p.labels.length ≤ 549755813888) (h2 : p.args.length ≤ 549755813888) (h3 : p.kids.length ≤ 549755813888) (ht : TLm p.t) (h : ∀ k ∈ p.kids, PLm k) : PLm p
section
variable [Mk]
theorem m_len {l : List PV} : Prim.len.ev [.msl l] = some (i (l.length : Int)) := rfl
theorem m_lenm {α : Type} (f : α → PV) (l : List α) : Prim.len.ev [.msl (l.map f)] = some (i (l.length : Int)) := by rw [m_len, List.length_map]
theorem m_idx {n : Nat} {a : Bool} {l : List PV} {k : Nat} {x : PV} (h : l[k]? = some x) (hk : x.okc n a = true) : (Prim.idx n a).ev [.msl l, i (k : Int)] = some x := e_idx (l := l) h hk
theorem m_app {n : Nat} {a : Bool} {b : Nat} {l m : List PV} (hk : ∀ x ∈ m, x.okc n a = true) (h1 : (l.length + m.length) * b ≤ 140737488355328) (h2 : l.length + m.length ≤ 9223372036854775807) : (Prim.app n a b).ev [.sl l, .msl m] = some (.sl (l ++ m)) := e_app (l := l) (m := m) hk h1 h2
theorem m_nilq {K : PV → Prop} {hs : List (List PV → Prop)} {l : List PV} {a b : T PV} (ha : l = [] → a.den0 P K hs) (hb : b.den0 P K hs) : (T.nilq (.msl l) a b).den0 P K hs := ⟨l, rfl, ha, hb⟩
theorem ok_cloneSM (l : List ByteArray) (hl : l.length ≤ 549755813888) : Ok P F.slices_Clone_string_string [.msl (l.map .str)] (.sl (l.map .str)) :=
 k_slices_Clone_string_string _ _ rfl (m_nilq (fun h => d_ret (by rw [h])) (d_l (.sl []) rfl fun _ => d_l _ (m_app (l := []) (m := l.map .str) (all_map okc_str _) (by simp; omega) (by simp; omega)) fun _ => d_ret (by rw [List.nil_append])))
theorem ok_cloneVM (l : List Vl) (hl : l.length ≤ 549755813888) : Ok P F.slices_Clone_api_Value_api_Value [.msl (l.map Vl.enc)] (.sl (l.map Vl.enc)) :=
 k_slices_Clone_api_Value_api_Value _ _ rfl (m_nilq (fun h => d_ret (by rw [h])) (d_l (.sl []) rfl fun _ => d_l _ (m_app (l := []) (m := l.map Vl.enc) (all_map Vl.okc_enc _) (by simp; omega) (by simp; omega)) fun _ => d_ret (by rw [List.nil_append])))
theorem ok_mappedM (kd p : Int) (nm : ByteArray) (s : Int) (ls : List ByteArray) (ks : List Ty) (h1 : ls.length ≤ 549755813888) (h2 : ks.length ≤ 549755813888) (hf : ∀ k ∈ ks, Ok P F.typetree_Copy [Ty.menc k] k.enc) :
  Ok P F.typetree_mapped [Ty.menc (Ty.mk kd p nm s ls ks), .fn F.typetree_Copy [] []] (Ty.mk kd p nm s ls ks).enc := by
 rw [Ty.enc_mk, Ty.menc_mk]
 refine k_typetree_mapped _ _ rfl (d_l (.agg [i kd, i p, .str nm, i s, .msl (ls.map .str), .msl (ks.map Ty.menc)]) (by rfl) fun _ => d_call (ok_cloneSM ls h1) (d_l (.sl (ls.map .str)) rfl fun _ => d_l (i (ks.length : Int)) (m_lenm _ _) fun _ => ?_))
 refine den_rounds (fun j => [i j, .sl ((ks.take j).map Ty.enc)]) ks.length (by simp) (fun j hj => ?_) ?_
 ·refine d_l (.bool (decide ((j : Int) < (ks.length : Int)))) rfl fun _ => d_dec (fun _ => ?_) fun h => absurd (show (j : Int) < (ks.length : Int) by omega) h
  refine d_l _ (m_idx (mp_at (f := Ty.menc) hj) (Ty.okc_menc _)) fun _ => d_l _ (e_okc (Ty.okc_menc _)) fun _ => d_callv (hf _ (List.getElem_mem hj)) (d_l (.sl [ks[j].enc]) (e_lst (fun x hx => by simp at hx; subst hx; exact Ty.okc_enc _)) fun _ => d_l (.sl ((ks.take j).map Ty.enc ++ [ks[j].enc])) (e_app (l := (ks.take j).map Ty.enc) (m := [ks[j].enc]) (fun x hx => by simp at hx; subst hx; exact Ty.okc_enc _) (by simp; omega) (by simp; omega)) fun _ => d_l _ (e_inc (by omega)) fun _ => d_cont rfl ?_)
  rw [List.take_succ_eq_append_getElem hj, List.map_append]; rfl
 ·refine d_l (.bool (decide ((ks.length : Int) < (ks.length : Int)))) rfl fun _ => d_dec (fun h => ?_) fun h => d_ret ?_
  ·omega
  ·rw [List.take_length]; rfl
theorem ok_tCopyM : ∀ t : Ty, TLm t → Ok P F.typetree_Copy [Ty.menc t] t.enc := by
 intro t
 induction t using Ty.ind with
 | _ t ih =>
 intro h
 cases h with
 | mk _ h1 h2 h =>
 have hm : Ok P F.typetree_mapped [Ty.menc t, .fn F.typetree_Copy [] []] t.enc := by
  obtain ⟨kd, p, nm, s, ls, ks⟩ := t
  exact ok_mappedM kd p nm s ls ks h1 h2 fun k hk => ih k hk (h k hk)
 exact k_typetree_Copy _ _ rfl (d_l _ (e_okc (Ty.okc_menc t)) fun _ => d_call hm (d_l _ (e_okc (Ty.okc_enc t)) fun _ => d_ret rfl))
theorem sb_ptM (k : Int) (ch v : ByteArray) (ls ar : List PV) (t : Ty) (ks : List PV) : sb 5 6 (.agg [i k, .str ch, .str v, .msl ls, .msl ar, i t.kind, i t.prio, .str t.name, i t.shift, .msl (t.labels.map .str), .msl (t.kids.map Ty.menc), .msl ks]) = Ty.menc t := by
 cases t; rw [Ty.menc_mk]; rfl
theorem ok_pCopyM : ∀ p : Pr, PLm p → Ok P F.proctree_Copy [Pr.menc p] p.enc := by
 intro p
 induction p using Pr.ind with
 | _ p ih =>
 intro h
 cases h with
 | mk _ h1 h2 h3 ht h =>
 obtain ⟨k, ch, v, ls, ar, t, ks⟩ := p
 have h1 : ls.length ≤ 549755813888 := h1
 have h2 : ar.length ≤ 549755813888 := h2
 have h3 : ks.length ≤ 549755813888 := h3
 have hT := ok_tCopyM t ht
 have ih : ∀ x ∈ ks, Ok P F.proctree_Copy [Pr.menc x] x.enc := fun x hx => ih x hx (h x hx)
 rw [Pr.enc_mk, Pr.menc_mk]
 rw [← sb_ptM k ch v (ls.map .str) (ar.map Vl.enc) t (ks.map Pr.menc)] at hT
 refine k_proctree_Copy _ _ rfl (d_l (.agg [i k, .str ch, .str v, .msl (ls.map .str), .msl (ar.map Vl.enc), i t.kind, i t.prio, .str t.name, i t.shift, .msl (t.labels.map .str), .msl (t.kids.map Ty.menc), .msl (ks.map Pr.menc)]) rfl fun _ => d_call (ok_cloneSM ls h1) (d_call (ok_cloneVM ar h2) (d_call hT (d_l (.sl (ls.map .str)) rfl fun _ => d_l (.sl (ar.map Vl.enc)) rfl fun _ => d_l t.enc (e_okc (Ty.okc_enc t)) fun _ => d_l (i (ks.length : Int)) (m_lenm _ _) fun _ => ?_))))
 refine den_rounds (fun j => [i j, .sl ((ks.take j).map Pr.enc)]) ks.length (by simp) (fun j hj => ?_) ?_
 ·refine d_l (.bool (decide ((j : Int) < (ks.length : Int)))) rfl fun _ => d_dec (p := (j : Int) < (ks.length : Int)) (fun h => ?_) fun h => absurd (show (j : Int) < (ks.length : Int) by omega) h
  refine d_l _ (m_idx (mp_at (f := Pr.menc) hj) (Pr.okc_menc _)) fun _ => d_l _ (e_okc (Pr.okc_menc _)) fun _ => d_call (ih _ (List.getElem_mem hj)) (d_l (.sl [ks[j].enc]) (e_lst fun x hx => by simp at hx; subst hx; exact Pr.okc_enc _) fun _ => d_l (.sl ((ks.take j).map Pr.enc ++ [ks[j].enc])) (e_app (l := (ks.take j).map Pr.enc) (m := [ks[j].enc]) (fun x hx => by simp at hx; subst hx; exact Pr.okc_enc _) (by simp; omega) (by simp; omega)) fun _ => d_l _ (e_inc (by omega)) fun _ => d_cont rfl ?_)
  rw [List.take_succ_eq_append_getElem hj, List.map_append]; rfl
 ·refine d_l (.bool (decide ((ks.length : Int) < (ks.length : Int)))) rfl fun _ => d_dec (p := (ks.length : Int) < (ks.length : Int)) (fun h => by omega) fun _ => d_ret ?_
  rw [List.take_length]
  cases t; rw [Ty.enc_mk]; rfl
end
end Go.Proofs.YtbfjpjllaibooaaGreat.Tx
/- Memory that a process lies in: what keeps its form when numbers and texts in it are written anew. -/
namespace Go.Proofs.YtbfjpjllaibooaaGreat.Tx
open Go.Lf Go.Lf.S Go.Lf.Duo Go.RowKit
set_option maxRecDepth 100000
/-- what a cell holds is the same, or another number of the kind, or another text -/
def Sim (u u' : Value) : Prop := u' = u ∨ (∃ k m m', u = .int k m ∧ u' = .int k m') ∨ ∃ s s', u = .string s ∧ u' = .string s'
theorem Sim.trans {a b c : Value} (h : Sim a b) (k : Sim b c) : Sim a c := by
 rcases h with rfl | ⟨x, m, m', rfl, rfl⟩ | ⟨s, s', rfl, rfl⟩
 ·exact k
 ·rcases k with rfl | ⟨x, m, m'', h, rfl⟩ | ⟨s, s', h, rfl⟩
  ·exact .inr (.inl ⟨_, _, _, rfl, rfl⟩)
  ·cases h; exact .inr (.inl ⟨_, _, _, rfl, rfl⟩)
  ·cases h
 ·rcases k with rfl | ⟨x, m, m'', h, rfl⟩ | ⟨s, s', h, rfl⟩
  ·exact .inr (.inr ⟨_, _, rfl, rfl⟩)
  ·cases h
  ·cases h; exact .inr (.inr ⟨_, _, rfl, rfl⟩)
/-- only blocks from n on have changed, and each cell keeps its kind -/
structure Tw (n : Nat) (w w' : World) : Prop where
 below : Below n w w'
 cell : ∀ (a : Addr) u, w.cell? a = some u → ∃ u', w'.cell? a = some u' ∧ Sim u u' ∧ w'.frozen? a = w.frozen? a
theorem Tw.refl (n : Nat) (w : World) : Tw n w w := ⟨Below.refl n w, fun _ u h => ⟨u, h, .inl rfl, rfl⟩⟩
theorem Tw.trans {n : Nat} {a b c : World} (h : Tw n a b) (k : Tw n b c) : Tw n a c := ⟨h.below.trans k.below, fun x u hu => by
 obtain ⟨u1, h1, h2, h3⟩ := h.cell x u hu
 obtain ⟨u2, h4, h5, h6⟩ := k.cell x u1 h1
 exact ⟨u2, h4, h2.trans h5, h6.trans h3⟩⟩
theorem Tw.set {n : Nat} {w w' : World} (h : Tw n w w') {a : Addr} (hn : n ≤ a.block) {u v : Value} (hc : w'.cell? a = some u) (hs : Sim u v) : Tw n w (w'.setCell a v) :=
 h.trans ⟨(Below.refl n w').setCell hn v, fun x y hy => by
  by_cases e : x = a
  ·subst e
   rw [hc] at hy; cases hy
   exact ⟨v, World.cell?_setCell_same _ _ _ hc, hs, World.frozen?_setCell _ _ _ _⟩
  ·exact ⟨y, (World.cell?_setCell_other _ _ _ _ (fun h => e h.symm)).trans hy, .inl rfl, World.frozen?_setCell _ _ _ _⟩⟩
theorem cell_lt {w : World} {a : Addr} {u : Value} (h : w.cell? a = some u) : a.block < w.heap.size := by
 unfold World.cell? at h
 split at h
 ·rename_i hb; exact (Array.getElem?_eq_some_iff.1 hb).1
 ·cases h
theorem Tw.alloc {n : Nat} {w w' : World} (h : Tw n w w') (hn : n ≤ w'.heap.size) (o : Obj) : Tw n w (w'.alloc o) :=
 h.trans ⟨(Below.refl n w').alloc hn o, fun x y hy => by
  have hb := Below.heap_alloc w' o x.block (cell_lt hy)
  exact ⟨y, (World.cell?_of_block (w := w') hb).trans hy, .inl rfl, World.frozen?_of_block (w := w') hb⟩⟩
theorem Tw.sl {n : Nat} {w w' : World} (h : Tw n w w') {a : Addr} {p : Option Addr} {l c : Nat} (hc : w.cell? a = some (.slice p l c)) : w'.cell? a = some (.slice p l c) := by
 obtain ⟨u, h1, h2, _⟩ := h.cell a _ hc
 rcases h2 with rfl | ⟨_, _, _, e, _⟩ | ⟨_, _, e, _⟩
 ·exact h1
 ·cases e
 ·cases e
theorem Tw.int {n : Nat} {w w' : World} (h : Tw n w w') {a : Addr} {k : IntKind} (hc : ∃ m, w.cell? a = some (.int k m)) : ∃ m, w'.cell? a = some (.int k m) := by
 obtain ⟨m, hc⟩ := hc
 obtain ⟨u, h1, h2, _⟩ := h.cell a _ hc
 rcases h2 with rfl | ⟨_, _, _, e, rfl⟩ | ⟨_, _, e, _⟩
 ·exact ⟨_, h1⟩
 ·cases e; exact ⟨_, h1⟩
 ·cases e
theorem Tw.str {n : Nat} {w w' : World} (h : Tw n w w') {a : Addr} (hc : ∃ s, w.cell? a = some (.string s)) : ∃ s, w'.cell? a = some (.string s) := by
 obtain ⟨m, hc⟩ := hc
 obtain ⟨u, h1, h2, _⟩ := h.cell a _ hc
 rcases h2 with rfl | ⟨_, _, _, e, rfl⟩ | ⟨_, _, e, rfl⟩
 ·exact ⟨_, h1⟩
 ·cases e
 ·exact ⟨_, h1⟩
theorem Tw.fz {n : Nat} {w w' : World} (h : Tw n w w') {a : Addr} {u : Value} (hc : w.cell? a = some u) (hf : w.frozen? a = false) : w'.frozen? a = false := by
 obtain ⟨_, _, _, h3⟩ := h.cell a _ hc
 rw [h3, hf]
/-- the cells of a process whose lists lie in blocks from n on -/
inductive PSh (n : Nat) (w : World) : (Nat → Option Value) → Pr → Prop
 | mk (cs : Nat → Option Value) (p : Pr) (al aa at_ ak : Option Addr) (cl ca ct ck : Nat) (h3 : cs 3 = some (.slice al p.labels.length cl)) (h4 : cs 4 = some (.slice aa p.args.length ca)) (h10 : cs 10 = some (.slice at_ p.t.kids.length ct)) (h11 : cs 11 = some (.slice ak p.kids.length ck))
   (hm : (p.labels.length ≤ 9223372036854775807 ∧ p.args.length ≤ 9223372036854775807) ∧ p.t.kids.length ≤ 9223372036854775807 ∧ p.kids.length ≤ 9223372036854775807)
   (hl : ∀ k, k < p.labels.length → ∃ b o, al = some ⟨b, o, none⟩ ∧ n ≤ b ∧ (∃ s, w.cell? ⟨b, o + k, none⟩ = some (.string s)) ∧ w.frozen? ⟨b, o + k, none⟩ = false)
   (ha : ∀ k, k < p.args.length → ∃ b o, aa = some ⟨b, o, none⟩ ∧ n ≤ b ∧ (∃ m, w.cell? ⟨b, o + k * 3 + 2, none⟩ = some (.int .i64 m)) ∧ w.frozen? ⟨b, o + k * 3 + 2, none⟩ = false)
   (ht : ∀ k, k < p.t.kids.length → ∃ b o, at_ = some ⟨b, o, none⟩ ∧ n ≤ b ∧ (∃ m, w.cell? ⟨b, o + k * 6, none⟩ = some (.int .i64 m)) ∧ w.frozen? ⟨b, o + k * 6, none⟩ = false)
   (hk : ∀ k, k < p.kids.length → ∃ b o, ak = some ⟨b, o, none⟩ ∧ n ≤ b ∧ (∀ j, j < 12 → ∃ u, w.cell? ⟨b, o + k * 12 + j, none⟩ = some u ∧ u.oneCell' = true) ∧ (∃ m, w.cell? ⟨b, o + k * 12, none⟩ = some (.int .i64 m)) ∧ w.frozen? ⟨b, o + k * 12, none⟩ = false)
   (hr : ∀ k (h : k < p.kids.length) b o, ak = some ⟨b, o, none⟩ → PSh n w (fun j => w.cell? ⟨b, o + k * 12 + j, none⟩) p.kids[k]) : PSh n w cs p
theorem Sim.one {u u' : Value} (h : Sim u u') (h1 : u.oneCell' = true) : u'.oneCell' = true := by
 rcases h with rfl | ⟨_, _, _, _, rfl⟩ | ⟨_, _, _, rfl⟩
 ·exact h1
 ·rfl
 ·rfl
theorem PSh.tw {n : Nat} {w w' : World} (h : Tw n w w') {cs cs' : Nat → Option Value} {p : Pr} (hp : PSh n w cs p) (hcs : ∀ j v, j < 12 → cs j = some v → ∃ v', cs' j = some v' ∧ Sim v v') : PSh n w' cs' p := by
 induction hp generalizing cs' with
 | mk cs p al aa at_ ak cl ca ct ck h3 h4 h10 h11 hm hl ha ht hk hr ih =>
  have sl : ∀ j (a : Option Addr) l c, j < 12 → cs j = some (.slice a l c) → cs' j = some (.slice a l c) := fun j a l c hj e => by
   obtain ⟨v', h1, h2⟩ := hcs j _ hj e
   rcases h2 with rfl | ⟨_, _, _, e, _⟩ | ⟨_, _, e, _⟩
   ·exact h1
   ·cases e
   ·cases e
  refine .mk cs' p al aa at_ ak cl ca ct ck (sl _ _ _ _ (by decide) h3) (sl _ _ _ _ (by decide) h4) (sl _ _ _ _ (by decide) h10) (sl _ _ _ _ (by decide) h11) hm (fun k hk => ?_) (fun k hk => ?_) (fun k hk => ?_) (fun k hkk => ?_) fun k hkk b o e => ih k hkk b o e fun j v _ hv => ?_
  ·obtain ⟨b, o, e, h1, ⟨s, h2⟩, h3⟩ := hl k hk
   exact ⟨b, o, e, h1, h.str ⟨s, h2⟩, h.fz h2 h3⟩
  ·obtain ⟨b, o, e, h1, ⟨s, h2⟩, h3⟩ := ha k hk
   exact ⟨b, o, e, h1, h.int ⟨s, h2⟩, h.fz h2 h3⟩
  ·obtain ⟨b, o, e, h1, ⟨s, h2⟩, h3⟩ := ht k hk
   exact ⟨b, o, e, h1, h.int ⟨s, h2⟩, h.fz h2 h3⟩
  ·obtain ⟨b, o, e, h1, h4, ⟨s, h2⟩, h3⟩ := hk k hkk
   refine ⟨b, o, e, h1, fun j hj => ?_, h.int ⟨s, h2⟩, h.fz h2 h3⟩
   obtain ⟨u, h5, h6⟩ := h4 j hj
   obtain ⟨u', h7, h8, _⟩ := h.cell _ _ h5
   exact ⟨u', h7, h8.one h6⟩
  ·obtain ⟨u', h1, h2, _⟩ := h.cell _ _ hv
   exact ⟨u', h1, h2⟩
theorem cell_new (w : World) (cs : Array Value) (t j : Nat) (v : Value) (h : cs[j]? = some v) : (w.alloc (.cells cs t)).cell? ⟨w.heap.size, j, none⟩ = some v := by
 simp only [World.cell?, World.alloc, Array.getElem?_push_size]
 simpa using h
theorem Tw.one12 {n : Nat} {w w' : World} (h : Tw n w w') {b o : Nat} (hall : ∀ j, j < 12 → ∃ u, w.cell? ⟨b, o + j, none⟩ = some u ∧ u.oneCell' = true) (j : Nat) (hj : j < 12) : ∃ u, w'.cell? ⟨b, o + j, none⟩ = some u ∧ u.oneCell' = true := by
 obtain ⟨u, h1, h2⟩ := hall j hj
 obtain ⟨u', h3, h4, _⟩ := h.cell _ _ h1
 exact ⟨u', h3, h4.one h2⟩
section
variable [Mk] {Fr : Nat → Nat → Prop} {w : World}
/-- behind a slice that lies in new memory -/
theorem sl_inv {v : Value} {l : List PV} (h : Rep Fr w v (.sl l)) : ∃ a c, v = .slice a l.length c ∧ l.length ≤ 9223372036854775807 ∧ ∀ k x, l[k]? = some x → ∃ b o, a = some ⟨b, o, none⟩ ∧ Mk.n ≤ b ∧
  ∀ j y, x.cells[j]? = some y → ∃ u, w.cell? ⟨b, o + k * x.cells.length + j, none⟩ = some u ∧ Rep Fr w u y ∧ (0 < Mk.n → w.frozen? ⟨b, o + k * x.cells.length + j, none⟩ = false) := by
 cases h with
 | sl0 p => exact ⟨p, 0, rfl, Nat.zero_le _, fun k x hx => by simp at hx⟩
 | sl b o cap nn xs g hcap hm hn hc hg hr hk =>
  refine ⟨some ⟨b, o, none⟩, cap, rfl, Nat.le_trans hcap hm, fun k x hx => ⟨b, o, rfl, hk.1, fun j y hy => ?_⟩⟩
  rw [hn x (List.mem_of_getElem? hx)]
  exact ⟨_, (hg k x j y hx hy).2, hr k x j y hx hy, fun h0 => hk.2 h0 k x j y hx hy⟩
theorem int_inv {v : Value} {k : IntKind} {m : Int} (h : Rep Fr w v (.int k m)) : v = .int k m := by cases h; rfl
theorem str_inv {v : Value} {s : ByteArray} (h : Rep Fr w v (.str s)) : v = .string s := by cases h; rfl
/-- what reads as a process, whose lists lie in new memory -/
theorem psh_of (h0 : 0 < Mk.n) : ∀ (p : Pr) (cs : Nat → Option Value), (∀ j y, p.enc.cells[j]? = some y → ∃ u, cs j = some u ∧ Rep Fr w u y) → PSh Mk.n w cs p := by
 intro p
 induction p using Pr.ind with
 | _ p ih =>
 intro cs hcs
 obtain ⟨k, ch, v, ls, ar, t, ks⟩ := p
 have ih : ∀ x ∈ ks, ∀ (cs : Nat → Option Value), (∀ j y, x.enc.cells[j]? = some y → ∃ u, cs j = some u ∧ Rep Fr w u y) → PSh Mk.n w cs x := ih
 rw [Pr.enc_mk] at hcs
 obtain ⟨u3, e3, r3⟩ := hcs 3 (.sl (ls.map .str)) rfl
 obtain ⟨u4, e4, r4⟩ := hcs 4 (.sl (ar.map Vl.enc)) rfl
 obtain ⟨u10, e10, r10⟩ := hcs 10 (.sl (t.kids.map Ty.enc)) rfl
 obtain ⟨u11, e11, r11⟩ := hcs 11 (.sl (ks.map Pr.enc)) rfl
 obtain ⟨a3, c3, rfl, m3, f3⟩ := sl_inv r3
 obtain ⟨a4, c4, rfl, m4, f4⟩ := sl_inv r4
 obtain ⟨a10, c10, rfl, m10, f10⟩ := sl_inv r10
 obtain ⟨a11, c11, rfl, m11, f11⟩ := sl_inv r11
 rw [List.length_map] at e3 e4 e10 e11 m3 m4 m10 m11
 refine .mk cs _ a3 a4 a10 a11 c3 c4 c10 c11 e3 e4 e10 e11 ⟨⟨m3, m4⟩, m10, m11⟩ (fun k hk => ?_) (fun k hk => ?_) (fun k hk => ?_) (fun k hk => ?_) fun k hk b o e => ?_
 ·have hk : k < ls.length := hk
  obtain ⟨b, o, e, hn, g⟩ := f3 k (.str ls[k]) (by simp [hk])
  obtain ⟨u, h1, h2, h3⟩ := g 0 (.str ls[k]) rfl
  have e1 : o + k * (PV.str ls[k]).cells.length + 0 = o + k := by show o + k * 1 + 0 = o + k; omega
  rw [e1] at h1 h3
  rw [str_inv h2] at h1
  exact ⟨b, o, e, hn, ⟨_, h1⟩, h3 h0⟩
 ·have hk : k < ar.length := hk
  obtain ⟨b, o, e, hn, g⟩ := f4 k ar[k].enc (by simp [hk])
  obtain ⟨u, h1, h2, h3⟩ := g 2 (i ar[k].n) rfl
  have e1 : o + k * (ar[k].enc).cells.length + 2 = o + k * 3 + 2 := rfl
  rw [e1] at h1 h3
  rw [int_inv h2] at h1
  exact ⟨b, o, e, hn, ⟨_, h1⟩, h3 h0⟩
 ·have hk : k < t.kids.length := hk
  obtain ⟨b, o, e, hn, g⟩ := f10 k (t.kids[k]).enc (by simp [hk])
  have hc6 : (t.kids[k]).enc.cells.length = 6 := (okc_cells (Ty.okc_enc _)).1
  obtain ⟨u, h1, h2, h3⟩ := g 0 (i (t.kids[k]).kind) (by cases t.kids[k]; rw [Ty.enc_mk]; rfl)
  rw [hc6, Nat.add_zero] at h1 h3
  rw [int_inv h2] at h1
  exact ⟨b, o, e, hn, ⟨_, h1⟩, h3 h0⟩
 ·have hk : k < ks.length := hk
  obtain ⟨b, o, e, hn, g⟩ := f11 k ks[k].enc (by simp [hk])
  have hc12 : ks[k].enc.cells.length = 12 := (okc_cells (Pr.okc_enc _)).1
  obtain ⟨u, h1, h2, h3⟩ := g 0 (i ks[k].kind) (by cases ks[k]; rw [Pr.enc_mk]; rfl)
  rw [hc12] at g
  rw [hc12, Nat.add_zero] at h1 h3
  rw [int_inv h2] at h1
  refine ⟨b, o, e, hn, fun j hj => ?_, ⟨_, h1⟩, h3 h0⟩
  obtain ⟨u, h1, h2, _⟩ := g j (ks[k].enc.cells[j]'(by omega)) (List.getElem?_eq_getElem _)
  exact ⟨u, h1, oneCell_of_rep h2 (okc_all (Pr.okc_enc ks[k]) _ (List.getElem_mem _))⟩
 ·have hk : k < ks.length := hk
  obtain ⟨b', o', e', hn, g⟩ := f11 k ks[k].enc (by simp [hk])
  rw [e] at e'; cases e'
  have hc12 : ks[k].enc.cells.length = 12 := (okc_cells (Pr.okc_enc _)).1
  rw [hc12] at g
  refine ih ks[k] (List.getElem_mem hk) _ fun j y hy => ?_
  obtain ⟨u, h1, h2, _⟩ := g j y hy
  exact ⟨u, h1, h2⟩
end
end Go.Proofs.YtbfjpjllaibooaaGreat.Tx
/- Contracts: right types, small ones. -/
namespace Go.Proofs.YtbfjpjllaibooaaGreat.Tx
open Go.Lf Go.Lf.S Go.Lf.Duo
set_option maxRecDepth 100000
end Go.Proofs.YtbfjpjllaibooaaGreat.Tx
/- Contracts: the reference's graph. -/
namespace Go.Proofs.YtbfjpjllaibooaaGreat.Tx
open Go.Lf Go.Lf.S Go.Lf.Duo
set_option maxRecDepth 100000
end Go.Proofs.YtbfjpjllaibooaaGreat.Tx
/- Contracts: the reference's graph (2). -/
namespace Go.Proofs.YtbfjpjllaibooaaGreat.Tx
open Go.Lf Go.Lf.S Go.Lf.Duo
set_option maxRecDepth 100000
structure NdOk (lo hi : Int) (refs : List Rf) (d : Nd) : Prop where
 k1 : 1 ≤ d.kind ∧ d.kind ≤ 7
 p : 0 ≤ d.prio ∧ d.prio ≤ 1000000
 n3 : d.kind ≤ 3 → d.next.length = 0 ∧ d.labels.length = 0
 n5 : 4 ≤ d.kind ∧ d.kind ≤ 5 → d.next.length = 2 ∧ d.labels.length = 0
 n7 : 6 ≤ d.kind ∧ d.kind ≤ 7 → d.next.length = d.labels.length ∧ 0 < d.labels.length
 ll : d.labels.length ≤ 549755813888
 nd : d.labels.Nodup
 nx : ∀ r ∈ d.next, ((∃ q ∈ refs, r.node = q.node) ∨ (lo ≤ r.node ∧ r.node < hi)) ∧ 0 ≤ r.shift ∧ r.shift ≤ 2305843009213693952
theorem NdOk.weak {lo hi lo' hi' : Int} {refs refs' : List Rf} {d : Nd} (h : NdOk lo hi refs d) (hr : ∀ q ∈ refs, (∃ q' ∈ refs', q.node = q'.node) ∨ (lo' ≤ q.node ∧ q.node < hi')) (h1 : lo' ≤ lo) (h2 : hi ≤ hi') : NdOk lo' hi' refs' d := by
 refine ⟨h.k1, h.p, h.n3, h.n5, h.n7, h.ll, h.nd, fun r hr' => ?_⟩
 obtain ⟨a, b⟩ := h.nx r hr'
 refine ⟨?_, b⟩
 rcases a with ⟨q, hq, e⟩ | ⟨e1, e2⟩
 ·rcases hr q hq with ⟨q', hq', e'⟩ | ⟨e1, e2⟩
  ·exact .inl ⟨q', hq', e.trans e'⟩
  ·exact .inr ⟨by omega, by omega⟩
 ·exact .inr ⟨by omega, by omega⟩
end Go.Proofs.YtbfjpjllaibooaaGreat.Tx
/- Contracts: graphs of lists of types; closed graphs. -/
namespace Go.Proofs.YtbfjpjllaibooaaGreat.Tx
open Go.Lf Go.Lf.S Go.Lf.Duo
set_option maxRecDepth 100000
/-- sizes of a node's lists -/
def NdLen (d : Nd) : Prop := d.labels.length ≤ 549755813888 ∧ d.next.length ≤ 549755813888
theorem NdOk.len {lo hi : Int} {refs : List Rf} {d : Nd} (h : NdOk lo hi refs d) : NdLen d := by
 refine ⟨h.ll, ?_⟩
 have h1 := h.k1; have h2 := h.n3; have h3 := h.n5; have h4 := h.n7; have h5 := h.ll
 omega
end Go.Proofs.YtbfjpjllaibooaaGreat.Tx
/- Contracts: the package head (without the ranges over functions), slices.Index. -/
namespace Go.Proofs.YtbfjpjllaibooaaGreat.Tx
open Go.Lf Go.Lf.S Go.Lf.Duo
set_option maxRecDepth 100000
/-- a sum as the machine has it -/
def ad (a b : Int) : Int := IntKind.i64.wrap (a + b)
end Go.Proofs.YtbfjpjllaibooaaGreat.Tx
/- Contracts: ref02 Raise, put, Unfold: exactly. -/
namespace Go.Proofs.YtbfjpjllaibooaaGreat.Tx
open Go.Lf Go.Lf.S Go.Lf.Duo
set_option maxRecDepth 100000
mutual
/-- a type with its priorities raised -/
def raiseT (k : Int) : Ty → Ty
 | .mk kd p nm s ls ks => .mk kd (if 4 ≤ kd ∧ kd ≤ 7 then ad p k else p) nm s ls (raiseTs k ks)
def raiseTs (k : Int) : List Ty → List Ty
 | [] => []
 | t :: ts => raiseT k t :: raiseTs k ts
end
theorem raiseTs_eq (k : Int) : ∀ l : List Ty, raiseTs k l = l.map (raiseT k)
 | [] => rfl
 | t :: ts => by simp [raiseTs, raiseTs_eq k ts]
theorem raiseT_mk (k kd p : Int) (nm : ByteArray) (s : Int) (ls : List ByteArray) (ks : List Ty) : raiseT k (.mk kd p nm s ls ks) = .mk kd (if 4 ≤ kd ∧ kd ≤ 7 then ad p k else p) nm s ls (ks.map (raiseT k)) := by
 simp only [raiseT, raiseTs_eq]
/-- lists of bounded lengths throughout -/
inductive Ln : Ty → Prop
 | mk (t : Ty) (h1 : t.labels.length ≤ 549755813888) (h2 : t.kids.length ≤ 549755813888) (h : ∀ k ∈ t.kids, Ln k) : Ln t
theorem ty_at' {ks : List Ty} {j : Nat} (h : j < ks.length) : (ks.map Ty.enc)[j]? = some (ks[j]).enc := by simp [h]
/-- the round of Raise -/
theorem raise_loop {K : PV → Prop} {ks : List Ty} {k : Int} (hk : ks.length ≤ 549755813888) (ih : ∀ t ∈ ks, Ok P F.ref02_Raise [t.enc, i k] (raiseT k t).enc) {a p nm s lb : PV} {R : List PV → PV} (hR : K (R [i (ks.length : Int), a, p, nm, s, lb, .sl ((ks.map (raiseT k)).map Ty.enc)])) :
  (T.loop [i 0, a, p, nm, s, lb, .sl []] fun y => .l .len [.sl (ks.map Ty.enc)] fun x9 => .l (.cmp .lss .i64) [n y 0, x9] fun x10 => .ite x10
   (.l (.idx 6 true) [.sl (ks.map Ty.enc), n y 0] fun x11 => .call F.ref02_Raise [x11, i k] fun x12 => .l (.lst 6 true) [x12] fun x13 => .l (.app 6 true 88) [n y 6, x13] fun x14 => .l (.arith .add .i64) [n y 0, i 1] fun x15 =>
    .cont 0 [x15, n y 1, n y 2, n y 3, n y 4, n y 5, x14]) (.ret (R y))).den0 P K [] := by
 refine den_rounds (fun j => [i j, a, p, nm, s, lb, .sl (((ks.take j).map (raiseT k)).map Ty.enc)]) ks.length (by simp) (fun j hj => ?_) ?_
 ·refine d_l _ e_len fun _ => d_l _ rfl fun _ => d_dec (fun _ => ?_) fun h => absurd (show (j : Int) < ((ks.map Ty.enc).length : Int) by simp; omega) h
  refine d_l _ (e_idx (ty_at' hj) (Ty.okc_enc _)) fun _ => d_call (ih _ (List.getElem_mem hj)) (d_l _ (e_lst (fun x hx => by simp at hx; subst hx; exact Ty.okc_enc _)) fun _ => d_l _ (e_app (fun x hx => by simp at hx; subst hx; exact Ty.okc_enc _) (by simp; omega) (by simp; omega)) fun _ => d_l _ (e_inc (by omega)) fun _ => d_cont rfl ?_)
  rw [List.take_succ_eq_append_getElem hj, List.map_append, List.map_append]; rfl
 ·refine d_l _ e_len fun _ => d_l _ rfl fun _ => d_dec (fun h => ?_) fun h => d_ret ?_
  ·have h : (ks.length : Int) < ((ks.map Ty.enc).length : Int) := h
   simp at h
  ·rw [List.take_length]; exact hR
theorem ok_ref02_Raise : ∀ (t : Ty) (k : Int), Ln t → Ok P F.ref02_Raise [t.enc, i k] (raiseT k t).enc := by
 intro t
 induction t using Ty.ind with
 | _ t ih =>
 intro k h
 cases h with
 | mk _ h1 h2 h =>
 obtain ⟨kd, p, nm, s, ls, ks⟩ := t
 have h1 : ls.length ≤ 549755813888 := h1
 have h2 : ks.length ≤ 549755813888 := h2
 have hks : ∀ x ∈ ks, Ok P F.ref02_Raise [x.enc, i k] (raiseT k x).enc := fun x hx => ih x hx k (h x hx)
 rw [raiseT_mk, Ty.enc_mk, Ty.enc_mk]
 refine k_ref02_Raise _ _ rfl (d_l _ (by rfl) fun _ => d_l (.sl []) rfl fun _ => d_l (.sl (ls.map .str)) (by
  show (Prim.app 1 false 16).ev [.sl [], .sl (ls.map .str)] = _
  rw [e_app (all_map okc_str ls) (by simp; omega) (by simp; omega)]; rfl) fun _ => d_l .nilI rfl fun _ => d_l _ rfl fun _ => d_dec (fun h4 => d_l _ rfl fun _ => d_dec (fun h7 => ?_) fun h7 => ?_) fun h4 => ?_)
 ·rw [if_pos ⟨h4, h7⟩]
  exact d_l (i (ad p k)) rfl fun _ => d_l (i (ad p k)) rfl fun _ => raise_loop h2 hks (R := fun y => .agg [n y 1, n y 2, n y 3, n y 4, n y 5, n y 6]) rfl
 ·rw [if_neg (fun hc => h7 hc.2)]
  exact raise_loop h2 hks (R := fun y => .agg [n y 1, n y 2, n y 3, n y 4, n y 5, n y 6]) rfl
 ·rw [if_neg (fun hc => h4 hc.1)]
  exact raise_loop h2 hks (R := fun y => .agg [n y 1, n y 2, n y 3, n y 4, n y 5, n y 6]) rfl
end Go.Proofs.YtbfjpjllaibooaaGreat.Tx

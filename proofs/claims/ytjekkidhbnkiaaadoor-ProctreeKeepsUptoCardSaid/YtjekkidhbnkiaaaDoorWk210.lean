/- Copies lie in new memory: contracts with arguments of which it is not said where they lie. -/
import Derived.Test.YtjekkidhbnkiaaaDoorWk63
set_option linter.all false
namespace Go.Proofs.YtjekkidhbnkiaaaDoor.Tx
open Go.Lf Go.Lf.S Go.Lf.Duo
set_option maxRecDepth 100000
mutual
def Ty.menc : Ty → PV
 | .mk k p nm s ls ks => .agg [i k, i p, .str nm, i s, .msl (ls.map .str), .msl (Ty.mencs ks)]
def Ty.mencs : List Ty → List PV
 | [] => []
 | k :: ks => Ty.menc k :: Ty.mencs ks
end
theorem Ty.mencs_eq : ∀ l : List Ty, Ty.mencs l = l.map Ty.menc
 | [] => by simp [Ty.mencs]
 | k :: ks => by simp [Ty.mencs, Ty.mencs_eq ks]
theorem Ty.menc_mk (k p : Int) (nm : ByteArray) (s : Int) (ls : List ByteArray) (ks : List Ty) : Ty.menc (.mk k p nm s ls ks) = .agg [i k, i p, .str nm, i s, .msl (ls.map .str), .msl (ks.map Ty.menc)] := by
 simp only [Ty.menc, Ty.mencs_eq]
theorem Ty.okc_menc (t : Ty) : (Ty.menc t).okc 6 true = true := by
 cases t; simp [Ty.menc_mk, PV.okc, PV.cells, PV.isAg, PV.isCell]
mutual
def Pr.menc : Pr → PV
 | .mk k ch v ls ar t ks => .agg [i k, .str ch, .str v, .msl (ls.map .str), .msl (ar.map Vl.enc), i t.kind, i t.prio, .str t.name, i t.shift, .msl (t.labels.map .str), .msl (t.kids.map Ty.menc), .msl (Pr.mencs ks)]
def Pr.mencs : List Pr → List PV
 | [] => []
 | k :: ks => Pr.menc k :: Pr.mencs ks
end
theorem Pr.mencs_eq : ∀ l : List Pr, Pr.mencs l = l.map Pr.menc
 | [] => by simp [Pr.mencs]
 | k :: ks => by simp [Pr.mencs, Pr.mencs_eq ks]
theorem Pr.menc_mk (k : Int) (ch v : ByteArray) (ls : List ByteArray) (ar : List Vl) (t : Ty) (ks : List Pr) :
  Pr.menc (.mk k ch v ls ar t ks) = .agg [i k, .str ch, .str v, .msl (ls.map .str), .msl (ar.map Vl.enc), i t.kind, i t.prio, .str t.name, i t.shift, .msl (t.labels.map .str), .msl (t.kids.map Ty.menc), .msl (ks.map Pr.menc)] := by
 simp only [Pr.menc, Pr.mencs_eq]
theorem Pr.okc_menc (p : Pr) : (Pr.menc p).okc 12 true = true := by
 cases p; simp [Pr.menc_mk, PV.okc, PV.cells, PV.isAg, PV.isCell]
/-- lists of bounded lengths throughout -/
inductive TLm : Ty → Prop
 | mk (t : Ty) (h1 : t.labels.length ≤ 549755813888) (h2 : t.kids.length ≤ 549755813888) (h : ∀ k ∈ t.kids, TLm k) : TLm t
inductive PLm : Pr → Prop
 | mk (p : Pr) (h1 : p.labels.length ≤ 549755813888) (h2 : p.args.length ≤ 549755813888) (h3 : p.kids.length ≤ 549755813888) (ht : TLm p.t) (h : ∀ k ∈ p.kids, PLm k) : PLm p
section
variable [Mk]
theorem m_len {l : List PV} : Prim.len.ev [.msl l] = some (i (l.length : Int)) := rfl
theorem m_lenm {α : Type} (f : α → PV) (l : List α) : Prim.len.ev [.msl (l.map f)] = some (i (l.length : Int)) := by rw [m_len, List.length_map]
theorem m_idx {n : Nat} {a : Bool} {l : List PV} {k : Nat} {x : PV} (h : l[k]? = some x) (hk : x.okc n a = true) : (Prim.idx n a).ev [.msl l, i (k : Int)] = some x := e_idx (l := l) h hk
theorem m_app {n : Nat} {a : Bool} {b : Nat} {l m : List PV} (hk : ∀ x ∈ m, x.okc n a = true) (h1 : (l.length + m.length) * b ≤ 140737488355328) (h2 : l.length + m.length ≤ 9223372036854775807) : (Prim.app n a b).ev [.sl l, .msl m] = some (.sl (l ++ m)) := e_app (l := l) (m := m) hk h1 h2
theorem m_nilq {K : PV → Prop} {hs : List (List PV → Prop)} {l : List PV} {a b : T PV} (ha : l = [] → a.den0 P K hs) (hb : b.den0 P K hs) : (T.nilq (.msl l) a b).den0 P K hs := ⟨l, rfl, ha, hb⟩
theorem ok_cloneSM (l : List ByteArray) (hl : l.length ≤ 549755813888) : Ok P F.slices_Clone_string_string [.msl (l.map .str)] (.sl (l.map .str)) :=
 k_slices_Clone_string_string _ _ rfl (m_nilq (fun h => d_ret (by rw [h])) (d_l (.sl []) rfl fun _ => d_l _ (m_app (l := []) (m := l.map .str) (all_map okc_str _) (by simp; omega) (by simp; omega)) fun _ => d_ret (by rw [List.nil_append])))
theorem ok_cloneVM (l : List Vl) (hl : l.length ≤ 549755813888) : Ok P F.slices_Clone_api_Value_api_Value [.msl (l.map Vl.enc)] (.sl (l.map Vl.enc)) :=
 k_slices_Clone_api_Value_api_Value _ _ rfl (m_nilq (fun h => d_ret (by rw [h])) (d_l (.sl []) rfl fun _ => d_l _ (m_app (l := []) (m := l.map Vl.enc) (all_map Vl.okc_enc _) (by simp; omega) (by simp; omega)) fun _ => d_ret (by rw [List.nil_append])))
theorem ok_mappedM (kd p : Int) (nm : ByteArray) (s : Int) (ls : List ByteArray) (ks : List Ty) (h1 : ls.length ≤ 549755813888) (h2 : ks.length ≤ 549755813888) (hf : ∀ k ∈ ks, Ok P F.typetree_Copy [Ty.menc k] k.enc) :
  Ok P F.typetree_mapped [Ty.menc (Ty.mk kd p nm s ls ks), .fn F.typetree_Copy [] []] (Ty.mk kd p nm s ls ks).enc := by
 rw [Ty.enc_mk, Ty.menc_mk]
 refine k_typetree_mapped _ _ rfl (d_l (.agg [i kd, i p, .str nm, i s, .msl (ls.map .str), .msl (ks.map Ty.menc)]) (by rfl) fun _ => d_call (ok_cloneSM ls h1) (d_l (.sl (ls.map .str)) rfl fun _ => d_l (i (ks.length : Int)) (m_lenm _ _) fun _ => ?_))
 refine den_rounds (fun j => [i j, .sl ((ks.take j).map Ty.enc)]) ks.length (by simp) (fun j hj => ?_) ?_
 ·refine d_l (.bool (decide ((j : Int) < (ks.length : Int)))) rfl fun _ => d_dec (fun _ => ?_) fun h => absurd (show (j : Int) < (ks.length : Int) by omega) h
  refine d_l _ (m_idx (mp_at (f := Ty.menc) hj) (Ty.okc_menc _)) fun _ => d_l _ (e_okc (Ty.okc_menc _)) fun _ => d_callv (hf _ (List.getElem_mem hj)) (d_l (.sl [ks[j].enc]) (e_lst (fun x hx => by simp at hx; subst hx; exact Ty.okc_enc _)) fun _ => d_l (.sl ((ks.take j).map Ty.enc ++ [ks[j].enc])) (e_app (l := (ks.take j).map Ty.enc) (m := [ks[j].enc]) (fun x hx => by simp at hx; subst hx; exact Ty.okc_enc _) (by simp; omega) (by simp; omega)) fun _ => d_l _ (e_inc (by omega)) fun _ => d_cont rfl ?_)
  rw [List.take_succ_eq_append_getElem hj, List.map_append]; rfl
 ·refine d_l (.bool (decide ((ks.length : Int) < (ks.length : Int)))) rfl fun _ => d_dec (fun h => ?_) fun h => d_ret ?_
  ·omega
  ·rw [List.take_length]; rfl
theorem ok_tCopyM : ∀ t : Ty, TLm t → Ok P F.typetree_Copy [Ty.menc t] t.enc := by
 intro t
 induction t using Ty.ind with
 | _ t ih =>
 intro h
 cases h with
 | mk _ h1 h2 h =>
 have hm : Ok P F.typetree_mapped [Ty.menc t, .fn F.typetree_Copy [] []] t.enc := by
  obtain ⟨kd, p, nm, s, ls, ks⟩ := t
  exact ok_mappedM kd p nm s ls ks h1 h2 fun k hk => ih k hk (h k hk)
 exact k_typetree_Copy _ _ rfl (d_l _ (e_okc (Ty.okc_menc t)) fun _ => d_call hm (d_l _ (e_okc (Ty.okc_enc t)) fun _ => d_ret rfl))
theorem sb_ptM (k : Int) (ch v : ByteArray) (ls ar : List PV) (t : Ty) (ks : List PV) : sb 5 6 (.agg [i k, .str ch, .str v, .msl ls, .msl ar, i t.kind, i t.prio, .str t.name, i t.shift, .msl (t.labels.map .str), .msl (t.kids.map Ty.menc), .msl ks]) = Ty.menc t := by
 cases t; rw [Ty.menc_mk]; rfl
theorem ok_pCopyM : ∀ p : Pr, PLm p → Ok P F.proctree_Copy [Pr.menc p] p.enc := by
 intro p
 induction p using Pr.ind with
 | _ p ih =>
 intro h
 cases h with
 | mk _ h1 h2 h3 ht h =>
 obtain ⟨k, ch, v, ls, ar, t, ks⟩ := p
 have h1 : ls.length ≤ 549755813888 := h1
 have h2 : ar.length ≤ 549755813888 := h2
 have h3 : ks.length ≤ 549755813888 := h3
 have hT := ok_tCopyM t ht
 have ih : ∀ x ∈ ks, Ok P F.proctree_Copy [Pr.menc x] x.enc := fun x hx => ih x hx (h x hx)
 rw [Pr.enc_mk, Pr.menc_mk]
 rw [← sb_ptM k ch v (ls.map .str) (ar.map Vl.enc) t (ks.map Pr.menc)] at hT
 refine k_proctree_Copy _ _ rfl (d_l (.agg [i k, .str ch, .str v, .msl (ls.map .str), .msl (ar.map Vl.enc), i t.kind, i t.prio, .str t.name, i t.shift, .msl (t.labels.map .str), .msl (t.kids.map Ty.menc), .msl (ks.map Pr.menc)]) rfl fun _ => d_call (ok_cloneSM ls h1) (d_call (ok_cloneVM ar h2) (d_call hT (d_l (.sl (ls.map .str)) rfl fun _ => d_l (.sl (ar.map Vl.enc)) rfl fun _ => d_l t.enc (e_okc (Ty.okc_enc t)) fun _ => d_l (i (ks.length : Int)) (m_lenm _ _) fun _ => ?_))))
 refine den_rounds (fun j => [i j, .sl ((ks.take j).map Pr.enc)]) ks.length (by simp) (fun j hj => ?_) ?_
 ·refine d_l (.bool (decide ((j : Int) < (ks.length : Int)))) rfl fun _ => d_dec (p := (j : Int) < (ks.length : Int)) (fun h => ?_) fun h => absurd (show (j : Int) < (ks.length : Int) by omega) h
  refine d_l _ (m_idx (mp_at (f := Pr.menc) hj) (Pr.okc_menc _)) fun _ => d_l _ (e_okc (Pr.okc_menc _)) fun _ => d_call (ih _ (List.getElem_mem hj)) (d_l (.sl [ks[j].enc]) (e_lst fun x hx => by simp at hx; subst hx; exact Pr.okc_enc _) fun _ => d_l (.sl ((ks.take j).map Pr.enc ++ [ks[j].enc])) (e_app (l := (ks.take j).map Pr.enc) (m := [ks[j].enc]) (fun x hx => by simp at hx; subst hx; exact Pr.okc_enc _) (by simp; omega) (by simp; omega)) fun _ => d_l _ (e_inc (by omega)) fun _ => d_cont rfl ?_)
  rw [List.take_succ_eq_append_getElem hj, List.map_append]; rfl
 ·refine d_l (.bool (decide ((ks.length : Int) < (ks.length : Int)))) rfl fun _ => d_dec (p := (ks.length : Int) < (ks.length : Int)) (fun h => by omega) fun _ => d_ret ?_
  rw [List.take_length]
  cases t; rw [Ty.enc_mk]; rfl
end
end Go.Proofs.YtjekkidhbnkiaaaDoor.Tx

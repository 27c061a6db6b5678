/- The package audit: copies, Prune, exactly. -/
import Derived.Test.YtbfjpjllaibooaaGreatWk133
set_option linter.all false
namespace Go.Proofs.YtbfjpjllaibooaaGreat.Tx
open Go.Lf Go.Lf.S Go.Lf.Duo
set_option maxRecDepth 100000

/-- lists of bounded lengths throughout -/
inductive TLn : Ty → Prop
  | mk (t : Ty) (h1 : t.labels.length ≤ 549755813888) (h2 : t.kids.length ≤ 549755813888) (h : ∀ k ∈ t.kids, TLn k) : TLn t
inductive PLn : Pr → Prop
  | mk (p : Pr) (h1 : p.labels.length ≤ 549755813888) (h2 : p.args.length ≤ 549755813888) (h3 : p.kids.length ≤ 549755813888) (ht : TLn p.t) (h : ∀ k ∈ p.kids, PLn k) : PLn p
structure DLn (d : Df) : Prop where
  len : d.params.length ≤ 549755813888
  ps : ∀ e ∈ d.params, TLn e.t
  body : PLn d.body
structure GLn (p : Pg) : Prop where
  defs : ∀ d ∈ p.defs, DLn d
  main : PLn p.main

theorem ok_cloneS34 (l : List ByteArray) (hl : l.length ≤ 549755813888) : Ok P F.slices_Clone_string_string [.sl (l.map .str)] (.sl (l.map .str)) :=
  k_slices_Clone_string_string _ _ rfl (d_nilq (fun h => d_ret (by rw [h])) (d_l (.sl []) rfl fun _ => d_l _ (e_app (l := []) (m := l.map .str) (all_map okc_str _) (by simp; omega) (by simp; omega)) fun _ => d_ret (by rw [List.nil_append])))

theorem ok_mapped34 (kd p : Int) (nm : ByteArray) (s : Int) (ls : List ByteArray) (ks : List Ty) (g : Nat) (fs cs : List PV) (F' : Ty → Ty) (h1 : ls.length ≤ 549755813888) (h2 : ks.length ≤ 549755813888) (hf : ∀ k ∈ ks, Ok P g (fs ++ [k.enc] ++ cs) (F' k).enc) :
    Ok P F.typetree_mapped [(Ty.mk kd p nm s ls ks).enc, .fn g fs cs] (Ty.mk kd p nm s ls (ks.map F')).enc := by
  rw [Ty.enc_mk, Ty.enc_mk]
  refine k_typetree_mapped _ _ rfl (d_l (.agg [i kd, i p, .str nm, i s, .sl (ls.map .str), .sl (ks.map Ty.enc)]) (by rfl) fun _ => d_call (ok_cloneS34 ls h1) (d_l (.sl (ls.map .str)) rfl fun _ => d_l (i ((ks.map Ty.enc).length : Int)) e_len fun _ => ?_))
  refine den_rounds (fun j => [i j, .sl (((ks.take j).map F').map Ty.enc)]) ks.length (by simp) (fun j hj => ?_) ?_
  · refine d_l (.bool (decide ((j : Int) < ((ks.map Ty.enc).length : Int)))) rfl fun _ => d_dec (fun _ => ?_) fun h => absurd (show (j : Int) < ((ks.map Ty.enc).length : Int) by simp; omega) h
    refine d_l _ (e_idx (mp_at (f := Ty.enc) hj) (Ty.okc_enc _)) fun _ => d_l _ (e_okc (Ty.okc_enc _)) fun _ => d_callv (hf _ (List.getElem_mem hj)) (d_l (.sl [(F' ks[j]).enc]) (e_lst (fun x hx => by simp at hx; subst hx; exact Ty.okc_enc _)) fun _ => d_l (.sl (((ks.take j).map F').map Ty.enc ++ [(F' ks[j]).enc])) (e_app (l := ((ks.take j).map F').map Ty.enc) (m := [(F' ks[j]).enc]) (fun x hx => by simp at hx; subst hx; exact Ty.okc_enc _) (by simp; omega) (by simp; omega)) fun _ => d_l _ (e_inc (by omega)) fun _ => d_cont rfl ?_)
    rw [List.take_succ_eq_append_getElem hj, List.map_append, List.map_append]; rfl
  · refine d_l (.bool (decide ((ks.length : Int) < ((ks.map Ty.enc).length : Int)))) rfl fun _ => d_dec (fun h => ?_) fun h => d_ret ?_
    · simp at h
    · rw [List.take_length]; rfl

theorem ok_tCopy34 : ∀ t : Ty, TLn t → Ok P F.typetree_Copy [t.enc] t.enc := by
  intro t
  induction t using Ty.ind with
  | _ t ih =>
  intro h
  cases h with
  | mk _ h1 h2 h =>
  have hm : Ok P F.typetree_mapped [t.enc, .fn F.typetree_Copy [] []] t.enc := by
    obtain ⟨kd, p, nm, s, ls, ks⟩ := t
    have := ok_mapped34 kd p nm s ls ks F.typetree_Copy [] [] id h1 h2 fun k hk => ih k hk (h k hk)
    rwa [List.map_id] at this
  exact k_typetree_Copy _ _ rfl (d_l _ (e_okc (Ty.okc_enc t)) fun _ => d_call hm (d_l _ (e_okc (Ty.okc_enc t)) fun _ => d_ret rfl))


theorem ok_cloneV34 (l : List Vl) (hl : l.length ≤ 549755813888) : Ok P F.slices_Clone_api_Value_api_Value [.sl (l.map Vl.enc)] (.sl (l.map Vl.enc)) :=
  k_slices_Clone_api_Value_api_Value _ _ rfl (d_nilq (fun h => d_ret (by rw [h])) (d_l (.sl []) rfl fun _ => d_l _ (e_app (l := []) (m := l.map Vl.enc) (all_map Vl.okc_enc _) (by simp; omega) (by simp; omega)) fun _ => d_ret (by rw [List.nil_append])))
theorem sb_ptA (k : Int) (ch v : ByteArray) (ls : List ByteArray) (ar : List Vl) (t : Ty) (ks : List Pr) : sb 5 6 (.agg [i k, .str ch, .str v, .sl (ls.map .str), .sl (ar.map Vl.enc), i t.kind, i t.prio, .str t.name, i t.shift, .sl (t.labels.map .str), .sl (t.kids.map Ty.enc), .sl (ks.map Pr.enc)]) = t.enc := by
  cases t; rw [Ty.enc_mk]; rfl
theorem ok_pCopy34 : ∀ p : Pr, PLn p → Ok P F.proctree_Copy [p.enc] p.enc := by
  intro p
  induction p using Pr.ind with
  | _ p ih =>
  intro h
  cases h with
  | mk _ h1 h2 h3 ht h =>
  obtain ⟨k, ch, v, ls, ar, t, ks⟩ := p
  have h1 : ls.length ≤ 549755813888 := h1
  have h2 : ar.length ≤ 549755813888 := h2
  have h3 : ks.length ≤ 549755813888 := h3
  have hT := ok_tCopy34 t ht
  have ih : ∀ x ∈ ks, Ok P F.proctree_Copy [x.enc] x.enc := fun x hx => ih x hx (h x hx)
  rw [Pr.enc_mk]
  rw [← sb_ptA k ch v ls ar t ks] at hT
  refine k_proctree_Copy _ _ rfl (d_l (.agg [i k, .str ch, .str v, .sl (ls.map .str), .sl (ar.map Vl.enc), i t.kind, i t.prio, .str t.name, i t.shift, .sl (t.labels.map .str), .sl (t.kids.map Ty.enc), .sl (ks.map Pr.enc)]) rfl fun _ => d_call (ok_cloneS34 ls h1) (d_call (ok_cloneV34 ar h2) (d_call hT (d_l (.sl (ls.map .str)) rfl fun _ => d_l (.sl (ar.map Vl.enc)) rfl fun _ => d_l t.enc (by rw [sb_ptA]; exact e_okc (Ty.okc_enc t)) fun _ => d_l _ (len_eq ks) fun _ => ?_))))
  refine den_rounds (fun j => [i j, .sl ((ks.take j).map Pr.enc)]) ks.length (by simp) (fun j hj => ?_) ?_
  · refine d_l (.bool (decide ((j : Int) < (ks.length : Int)))) rfl fun _ => d_dec (p := (j : Int) < (ks.length : Int)) (fun h => ?_) fun h => absurd (show (j : Int) < (ks.length : Int) by omega) h
    refine d_l _ (e_idx (mp_at (f := Pr.enc) hj) (Pr.okc_enc _)) fun _ => d_l _ (e_okc (Pr.okc_enc _)) fun _ => d_call (ih _ (List.getElem_mem hj)) (d_l (.sl [ks[j].enc]) (e_lst fun x hx => by simp at hx; subst hx; exact Pr.okc_enc _) fun _ => d_l (.sl ((ks.take j).map Pr.enc ++ [ks[j].enc])) (e_app (l := (ks.take j).map Pr.enc) (m := [ks[j].enc]) (fun x hx => by simp at hx; subst hx; exact Pr.okc_enc _) (by simp; omega) (by simp; omega)) fun _ => d_l _ (e_inc (by omega)) fun _ => d_cont rfl ?_)
    rw [List.take_succ_eq_append_getElem hj, List.map_append]; rfl
  · refine d_l (.bool (decide ((ks.length : Int) < (ks.length : Int)))) rfl fun _ => d_dec (p := (ks.length : Int) < (ks.length : Int)) (fun h => by omega) fun _ => d_ret ?_
    rw [List.take_length]
    cases t; rw [Ty.enc_mk]; rfl
end Go.Proofs.YtbfjpjllaibooaaGreat.Tx

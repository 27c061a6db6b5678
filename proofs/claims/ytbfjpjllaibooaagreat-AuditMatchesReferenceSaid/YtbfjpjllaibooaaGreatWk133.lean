/- The package audit: Reached, Unused, Loops, exactly. -/
import Derived.Test.YtbfjpjllaibooaaGreatWk132
set_option linter.all false
namespace Go.Proofs.YtbfjpjllaibooaaGreat.Tx
open Go.Lf Go.Lf.S Go.Lf.Duo
set_option maxRecDepth 100000

structure PB (p : Pg) : Prop where
  dl : p.defs.length ≤ 1000000
  body : ∀ d ∈ p.defs, d.body.sz ≤ 1000000
  main : p.main.sz ≤ 1000000

theorem sb_bodyA (d : Df) : sb 2 12 d.enc = d.body.enc := by
  obtain ⟨nm, ps, ⟨k, ch, v, ls, ar, t, ks⟩⟩ := d
  simp only [Df.enc, Pr.enc_mk]; rfl
theorem sb_mainA (p : Pg) : sb 1 12 p.enc = p.main.enc := by
  obtain ⟨ds, ⟨k, ch, v, ls, ar, t, ks⟩⟩ := p
  simp only [Pg.enc, Pr.enc_mk]; rfl
/-- who calls whom -/
def kvOf (ds : List Df) : List ByteArray × List (List ByteArray) := ds.foldl (fun kv d => updC kv.1 kv.2 d.name (coll callF d.body)) ([], [])
theorem kvOf_take {ds : List Df} {j : Nat} (h : j < ds.length) : kvOf (ds.take (j + 1)) = updC (kvOf (ds.take j)).1 (kvOf (ds.take j)).2 ds[j].name (coll callF ds[j].body) := by
  unfold kvOf
  rw [List.take_succ_eq_append_getElem h, List.foldl_append]; rfl
theorem kvOf_ok (ds : List Df) : ∀ j, j ≤ ds.length → (kvOf (ds.take j)).1.length = (kvOf (ds.take j)).2.length ∧ ∀ s, gk (kvOf (ds.take j)).1 (kvOf (ds.take j)).2 s = [] ∨ ∃ d ∈ ds, d.name = s ∧ gk (kvOf (ds.take j)).1 (kvOf (ds.take j)).2 s = coll callF d.body := by
  intro j
  induction j with
  | zero => intro _; exact ⟨rfl, fun s => .inl rfl⟩
  | succ j ih =>
    intro h
    obtain ⟨h1, h2⟩ := ih (by omega)
    rw [kvOf_take (by omega : j < ds.length)]
    refine ⟨updC_len h1, fun s => ?_⟩
    rw [gk_upd h1]
    by_cases e : s = ds[j].name
    · rw [if_pos e]
      exact .inr ⟨ds[j], List.getElem_mem _, e.symm, rfl⟩
    · rw [if_neg e]; exact h2 s
def gP (p : Pg) : ByteArray → List ByteArray := gk (kvOf p.defs).1 (kvOf p.defs).2

theorem ok_closure (p : Pg) (hb : PB p) (l : List ByteArray) (hl : l.length ≤ 549755813888) : ∃ S, Ok P F.audit_closure [p.enc, .sl (l.map .str)] (setV S) ∧ ∀ x, x ∈ S ↔ Rc (gP p) l x := by
  obtain ⟨hlen, hg⟩ := kvOf_ok p.defs p.defs.length (Nat.le_refl _)
  rw [List.take_length] at hlen hg
  have hgl : ∀ s, (gk (kvOf p.defs).1 (kvOf p.defs).2 s).length ≤ 549755813888 := fun s => by
    rcases hg s with h | ⟨d, hd, _, h⟩
    · rw [h]; simp
    · rw [h]
      have := coll_len call_le d.body
      have := hb.body d hd
      omega
  obtain ⟨S, hv, _, _, _, h3, h4⟩ := ok_visit hlen (U := l ++ p.defs.flatMap fun d => coll callF d.body) hgl (fun s x hx => by
    rcases hg s with h | ⟨d, hd, _, h⟩
    · rw [h] at hx; cases hx
    · rw [h] at hx
      exact List.mem_append_right _ (List.mem_flatMap.2 ⟨d, hd, hx⟩)) _ l [] hl (fun x hx => List.mem_append_left _ hx) (by simp) (by simp) (Nat.le_add_right _ _)
  refine ⟨S, ?_, fun x => ⟨fun hx => (h4 x hx (by simp)).2, fun hx => ?_⟩⟩
  · refine k_audit_closure _ _ rfl (d_l _ (e_okc (Pg.okc_enc p)) fun _ => d_l _ (len_eq p.defs) fun _ => ?_)
    refine den_rounds (fun j => [i j, mpC (kvOf (p.defs.take j)).1 (kvOf (p.defs.take j)).2]) p.defs.length rfl (fun j hj => ?_) ?_
    · have hd := hb.body _ (List.getElem_mem hj)
      have hc := ok_scope_Calls p.defs[j].body (by omega)
      rw [← sb_bodyA p.defs[j]] at hc
      have hdl := hb.dl
      refine d_l (.bool (decide ((j : Int) < (p.defs.length : Int)))) rfl fun _ => d_dec (p := (j : Int) < (p.defs.length : Int)) (fun h => ?_) fun h => absurd (show (j : Int) < (p.defs.length : Int) by omega) h
      refine d_l _ (e_idx (mp_at (f := Df.enc) hj) (Df.okc_enc _)) fun _ => d_l _ (e_okc (Df.okc_enc _)) fun _ => d_call hc (d_l _ e_msetC fun _ => d_l _ (e_inc (by omega)) fun _ => d_cont rfl ?_)
      rw [kvOf_take hj]
    · refine d_l (.bool (decide ((p.defs.length : Int) < (p.defs.length : Int)))) rfl fun _ => d_dec (p := (p.defs.length : Int) < (p.defs.length : Int)) (fun h => by omega) fun _ => ?_
      rw [List.take_length]
      exact d_calls rfl hv (d_ret rfl)
  · induction hx with
    | base h => exact h3 _ h
    | step h hy ih => exact (h4 _ ih (by simp)).1 _ hy

theorem ok_named (p : Pg) (hb : PB p) {g : Nat} {caps : List PV} {q : Df → Bool} (hq : ∀ d ∈ p.defs, Ok P g (d.enc :: caps) (.bool (q d))) : Ok P F.audit_named [p.enc, .fn g [] caps] (.sl (((p.defs.filter q).map Df.name).map .str)) := by
  have hdl := hb.dl
  refine k_audit_named _ _ rfl (d_l _ (e_okc (Pg.okc_enc p)) fun _ => d_l _ (len_eq p.defs) fun _ => ?_)
  refine den_rounds (fun j => [i j, .sl ((((p.defs.take j).filter q).map Df.name).map .str)]) p.defs.length rfl (fun j hj => ?_) ?_
  · have hc := hq _ (List.getElem_mem hj)
    have htk : p.defs.take (j + 1) = p.defs.take j ++ [p.defs[j]] := List.take_succ_eq_append_getElem hj
    have hfl : ((p.defs.take j).filter q).length ≤ 1000000 := by
      have := List.length_filter_le q (p.defs.take j)
      rw [List.length_take] at this
      omega
    refine d_l (.bool (decide ((j : Int) < (p.defs.length : Int)))) rfl fun _ => d_dec (p := (j : Int) < (p.defs.length : Int)) (fun h => ?_) fun h => absurd (show (j : Int) < (p.defs.length : Int) by omega) h
    refine d_l _ (e_idx (mp_at (f := Df.enc) hj) (Df.okc_enc _)) fun _ => d_l _ (e_okc (Df.okc_enc _)) fun _ => d_callv (fs := []) (xs := [p.defs[j].enc]) (cs := caps) hc (d_ite (fun h1 => ?_) fun h1 => ?_)
    · refine d_l (.sl [.str p.defs[j].name]) rfl fun _ => d_l _ (app_str (m := [p.defs[j].name]) (by simp; omega)) fun _ => d_l _ (e_inc (by omega)) fun _ => d_cont rfl ?_
      rw [htk, List.filter_append, List.filter_cons, h1]
      simp
    · refine d_l _ (e_inc (by omega)) fun _ => d_cont rfl ?_
      rw [htk, List.filter_append, List.filter_cons, h1]
      simp
  · refine d_l (.bool (decide ((p.defs.length : Int) < (p.defs.length : Int)))) rfl fun _ => d_dec (p := (p.defs.length : Int) < (p.defs.length : Int)) (fun h => by omega) fun _ => d_ret ?_
    rw [List.take_length]; rfl

/-- the names of the definitions that are reached, that are not, that reach themselves -/
noncomputable def reN (p : Pg) : List ByteArray := (p.defs.filter fun d => pb (Rc (gP p) (coll callF p.main) d.name)).map Df.name
noncomputable def unN (p : Pg) : List ByteArray := (p.defs.filter fun d => !pb (Rc (gP p) (coll callF p.main) d.name)).map Df.name
noncomputable def loN (p : Pg) : List ByteArray := (p.defs.filter fun d => pb (Rc (gP p) (coll callF d.body) d.name)).map Df.name

theorem ok_Reached27 (p : Pg) (hb : PB p) : Ok P F.audit_Reached [p.enc] (.sl ((reN p).map .str)) := by
  have hc := ok_scope_Calls p.main (by have := hb.main; omega)
  have hcl := coll_len call_le p.main
  have hm := hb.main
  obtain ⟨S, hS, hm⟩ := ok_closure p hb (coll callF p.main) (by omega)
  rw [← sb_mainA p] at hc
  have hn := ok_named p hb (g := F.audit_Reached_1) (caps := [.box (setV S)]) (q := fun d => pb (Rc (gP p) (coll callF p.main) d.name)) fun d hd => by
    rw [← pb_congr (hm d.name)]
    exact k_audit_Reached_1 _ _ rfl (d_l _ (e_okc (Df.okc_enc d)) fun _ => d_l (setV S) rfl fun _ => d_l _ e_mgetS fun _ => d_ret rfl)
  exact k_audit_Reached _ _ rfl (d_l _ (e_okc (Pg.okc_enc p)) fun _ => d_call hc (d_call hS (d_l (setV S) rfl fun _ => d_call hn (d_ret rfl))))
theorem ok_Unused27 (p : Pg) (hb : PB p) : Ok P F.audit_Unused [p.enc] (.sl ((unN p).map .str)) := by
  have hc := ok_scope_Calls p.main (by have := hb.main; omega)
  have hcl := coll_len call_le p.main
  have hm := hb.main
  obtain ⟨S, hS, hm⟩ := ok_closure p hb (coll callF p.main) (by omega)
  rw [← sb_mainA p] at hc
  have hn := ok_named p hb (g := F.audit_Unused_1) (caps := [.box (setV S)]) (q := fun d => !pb (Rc (gP p) (coll callF p.main) d.name)) fun d hd => by
    rw [← pb_congr (hm d.name)]
    exact k_audit_Unused_1 _ _ rfl (d_l _ (e_okc (Df.okc_enc d)) fun _ => d_l (setV S) rfl fun _ => d_l _ e_mgetS fun _ => d_l (.bool (!pb (d.name ∈ S))) rfl fun _ => d_ret rfl)
  exact k_audit_Unused _ _ rfl (d_l _ (e_okc (Pg.okc_enc p)) fun _ => d_call hc (d_call hS (d_l (setV S) rfl fun _ => d_call hn (d_ret rfl))))
theorem ok_Loops27 (p : Pg) (hb : PB p) : Ok P F.audit_Loops [p.enc] (.sl ((loN p).map .str)) := by
  have hn := ok_named p hb (g := F.audit_Loops_1) (caps := [.box p.enc]) (q := fun d => pb (Rc (gP p) (coll callF d.body) d.name)) fun d hd => by
    have hz := hb.body d hd
    have hc := ok_scope_Calls d.body (by omega)
    have hcl := coll_len call_le d.body
    obtain ⟨S, hS, hm⟩ := ok_closure p hb (coll callF d.body) (by omega)
    rw [← sb_bodyA d] at hc
    rw [← pb_congr (hm d.name)]
    exact k_audit_Loops_1 _ _ rfl (d_l _ (e_okc (Df.okc_enc d)) fun _ => d_l p.enc (by show (if _ then _ else _) = _; rw [if_pos (Pg.okc_enc p)]) fun _ => d_call hc (d_call hS (d_l _ e_mgetS fun _ => d_ret rfl)))
  exact k_audit_Loops _ _ rfl (d_l _ (e_okc (Pg.okc_enc p)) fun _ => d_call hn (d_ret rfl))
end Go.Proofs.YtbfjpjllaibooaaGreat.Tx

/- Contracts (Wk140, Wk218, Wk217, Wk141). -/
import Derived.Test.YtbfjpjllaibooaaGreatWk139
import Derived.Test.YtbfjpjllaibooaaGreatDAwake27
import Derived.Test.YtbfjpjllaibooaaGreatWk136
import Derived.Test.YtbfjpjllaibooaaGreatWk33
import Derived.WalkKit
import Derived.BigCall
import Derived.Lib.Hide
set_option linter.all false
/- Right programs have short lists; Right of the reference; the law: pruning twice. -/
namespace Go.Proofs.YtbfjpjllaibooaaGreat.Tx
open Go.Lf Go.Lf.S Go.Lf.Duo
set_option maxRecDepth 100000
theorem nodeEs_all : ∀ {l : List Ty} {pay : Bool} {ns : List ByteArray} {g : Nat}, nodeEs l pay ns g = 0 → ∀ t ∈ l, ∃ b, nodeE t ns g b = 0
 | [], _, _, _, _, t, h => by cases h
 | x :: r, pay, ns, g, h, t, ht => by
  rw [nodeEs_cons] at h
  by_cases e : nodeE x ns g (!pay) ≠ 0
  ·rw [if_pos e] at h; exact absurd h e
  ·rw [if_neg e] at h
   rcases List.mem_cons.1 ht with rfl | ht
   ·exact ⟨_, Classical.not_not.1 e⟩
   ·exact nodeEs_all h t ht
theorem tln_node : ∀ (t : Ty) (ns : List ByteArray) (g : Nat) (b : Bool), t.sz ≤ 549755813888 → nodeE t ns g b = 0 → TLn t := by
 intro t
 induction t using Ty.ind with
 | _ t ih =>
 intro ns g b hz h
 obtain ⟨k, p, nm, s, ls, ks⟩ := t
 have ih : ∀ x ∈ ks, ∀ (ns : List ByteArray) (g : Nat) (b : Bool), x.sz ≤ 549755813888 → nodeE x ns g b = 0 → TLn x := ih
 have hkz : ks.length ≤ 549755813888 := by
  have := szs_len ks
  simp only [Ty.sz] at hz
  omega
 have hkx : ∀ x ∈ ks, x.sz ≤ 549755813888 := fun x hx => by have := Ty.sz_kid (t := .mk k p nm s ls ks) (k := x) hx; omega
 simp only [nodeE] at h
 split at h
 ·cases h
 ·rename_i hc
  simp only [Bool.or_eq_true, not_or, pb_iff, Classical.not_not] at hc
  have hs := hc.1
  have hll : ls.length = 0 ∨ ls.length = ks.length := by
   unfold shP at hs
   rcases hs with hs | hs | hs | hs | hs | hs | hs | hs | hs
   ·exact .inl hs.2.2.2.2.1
   ·exact .inl hs.2.2.2.2.1
   ·exact .inl hs.2.2.2.2.1
   ·exact .inl hs.2.2.2.2.1
   ·exact .inl hs.2.2.2.2.1
   ·exact .inr hs.2.2.2.2.2.2.symm
   ·exact .inr hs.2.2.2.2.2.2.symm
   ·exact .inl hs.2.2.2.2.1
   ·exact .inl hs.2.2.2.2.1
  refine .mk _ (by show ls.length ≤ _; omega) hkz fun x hx => ?_
  have hx : x ∈ ks := hx
  split at h
  ·rename_i h9
   have : ks.length = 0 := by
    unfold shP at hs
    rcases hs with hs | hs | hs | hs | hs | hs | hs | hs | hs <;> omega
   rw [List.eq_nil_of_length_eq_zero this] at hx; cases hx
  ·obtain ⟨b', hb'⟩ := nodeEs_all h x hx
   exact ih x hx _ _ _ (hkx x hx) hb'
theorem tln_right {t : Ty} (h : rightE t = 0) : TLn t := by
 unfold rightE at h
 split at h
 ·cases h
 ·rename_i hc
  exact tln_node t _ _ _ (by omega) h
theorem pln_of {p : Pg} (hpar : ∀ d ∈ p.defs, d.params.length ≤ 20) : ∀ (x : Pr) (sc : List ByteArray) (g : Bool), x.sz ≤ 1000000 → NodesP x → N06 p x sc g → PLn x := by
 intro x
 induction x using Pr.ind with
 | _ x ih =>
 intro sc g hz hn h
 obtain ⟨⟨hv, hb⟩, hk⟩ := nodesP_iff.1 hn
 obtain ⟨k, ch, v, ls, ar, t, ks⟩ := x
 have ih : ∀ y ∈ ks, ∀ (sc : List ByteArray) (g : Bool), y.sz ≤ 1000000 → NodesP y → N06 p y sc g → PLn y := ih
 simp only [N06, N06s_iff] at h
 have hkl : ks.length ≤ 1000000 := by
  have := pr_len ks
  simp only [Pr.sz] at hz
  omega
 have hz0 : TLn zeroTy := .mk _ (by simp [zeroTy, Ty.labels]) (by simp [zeroTy, Ty.kids]) fun y hy => by simp [zeroTy, Ty.kids] at hy
 have hkk : ∀ y ∈ ks, PLn y := fun y hy => ih y hy _ _ (by have := Pr.sz_kid (p := .mk k ch v ls ar t ks) (k := y) hy; omega) (hk y hy) (h.2.2.2.2 y hy)
 have fin : ls.length ≤ 1000000 → ar.length ≤ 1000000 → TLn t → PLn (.mk k ch v ls ar t ks) := fun a b c => .mk _ (by show ls.length ≤ _; omega) (by show ar.length ≤ _; omega) (by show ks.length ≤ _; omega) c hkk
 unfold bodP at hb
 simp only [Pr.kind, Pr.chan, Pr.var, Pr.args, Pr.labels, Pr.kids, Pr.t] at hb
 rcases hb with hb | hb | hb | hb | hb | hb | hb | hb
 ·obtain ⟨_, _, _, a, b, _, c⟩ := hb; exact fin (by omega) (by omega) (c ▸ hz0)
 ·obtain ⟨_, _, _, a, b, _, c⟩ := hb; exact fin (by omega) (by omega) (c ▸ hz0)
 ·obtain ⟨_, _, _, a, b, _, c⟩ := hb; exact fin (by omega) (by omega) (c ▸ hz0)
 ·obtain ⟨_, _, _, a, b, _, _, c⟩ := hb; exact fin (by omega) (by omega) (c ▸ hz0)
 ·obtain ⟨_, _, _, a, _, _, b, c⟩ := hb; exact fin (by omega) (by omega) (c ▸ hz0)
 ·obtain ⟨_, _, _, _, a, b, _, c, _⟩ := hb; exact fin (by omega) (by omega) (tln_right c)
 ·obtain ⟨_, _, _, _, a, b, _, c⟩ := hb; exact fin (by omega) (by omega) (c ▸ hz0)
 ·obtain ⟨h8, _, _, b, _, c⟩ := hb
  obtain ⟨⟨d, hd, hl⟩, _⟩ := h.2.2.2.1 h8
  have := hpar d (List.mem_of_find?_eq_some hd)
  exact fin (by omega) (by omega) (c ▸ hz0)
theorem pright_0 {x : Pr} (h : prightE x = 0) : NodesP x := by
 unfold prightE at h
 split at h
 ·cases h
 ·split at h
  ·rename_i h2; exact pb_iff.1 h2
  ·cases h
theorem gln_of {p : Pg} {m : Nat} (hm : m ≤ 20000) (hs : PgS p m) (h : RP p) : GLn p := by
 obtain ⟨e1, e2, e3, e4⟩ := progE_iff.1 h.1
 have hpar := fun d hd => (hs.par d hd).1
 refine ⟨fun d hd => ⟨by have := hpar d hd; omega, fun e he => tln_right ((e4 d hd).2 e he).2, pln_of hpar _ _ _ (by have := (hs.body d hd).1; omega) (pright_0 (firstE_iff.1 e2 d hd)) (h.2.2.1 d hd)⟩, pln_of hpar _ _ _ (by have := hs.main.1; omega) (pright_0 e3) h.2.2.2⟩
theorem pb_of27 {p : Pg} {m : Nat} (hm : m ≤ 20000) (hs : PgS p m) : PB p := ⟨by have := hs.len; omega, fun d hd => by have := (hs.body d hd).1; omega, by have := hs.main.1; omega⟩
end Go.Proofs.YtbfjpjllaibooaaGreat.Tx
/- The reference's copy of a program; memory that a program lies in. -/
namespace Go.Proofs.YtbfjpjllaibooaaGreat.Tx
open Go.Lf Go.Lf.S Go.Lf.Duo Go.RowKit
set_option maxRecDepth 100000
theorem c1_df (d : Df) : c 1 d.enc = .sl (d.params.map Et.enc) := rfl
theorem okcs_df (d : Df) : (Prim.okcs [(1, false), (12, true)]).ev [c 0 d.enc, d.body.enc] = some .nilI := by
 show (if [((1 : Nat), false), (12, true)].length = [c 0 d.enc, d.body.enc].length ∧ ([((1 : Nat), false), (12, true)].zip [c 0 d.enc, d.body.enc]).all (fun p => p.2.okc p.1.1 p.1.2) then some PV.nilI else none) = _
 rw [if_pos ⟨rfl, by simp only [List.zip_cons_cons, List.zip_nil_right, List.all_cons, List.all_nil, Bool.and_true, Bool.and_eq_true]; exact ⟨rfl, Pr.okc_enc _⟩⟩]
theorem ok_rCopy27 (p : Pg) (hdl : p.defs.length ≤ 549755813888) (hm : PBd 549755813888 p.main) (hd : ∀ d ∈ p.defs, d.params.length ≤ 549755813888 ∧ PBd 549755813888 d.body) : Ok P F.ref27_Copy [p.enc] p.enc := by
 have hM : Ok P F.ref03_Copy [sb 1 12 p.enc] p.main.enc := by rw [sb_mainA]; exact ok_rCopy3 p.main hm
 have hok := e_okc (Pg.okc_enc p)
 have hc0 := c0_pg p
 obtain ⟨ds, m⟩ := p
 have hm12 : (Prim.okcs [(12, true)]).ev [m.enc] = some .nilI := by
  show (if [((12 : Nat), true)].length = [m.enc].length ∧ ([((12 : Nat), true)].zip [m.enc]).all (fun p => p.2.okc p.1.1 p.1.2) then some PV.nilI else none) = _
  rw [if_pos ⟨rfl, by simp only [List.zip_cons_cons, List.zip_nil_right, List.all_cons, List.all_nil, Bool.and_true]; exact Pr.okc_enc _⟩]
 have hM : Ok P F.ref03_Copy [sb 1 12 (Pg.mk ds m).enc] m.enc := hM
 refine k_ref27_Copy _ _ rfl (d_l _ hok fun _ => d_call hM (d_l _ hm12 fun _ => ?_))
 obtain ⟨k, ch, v, ls, ar, t, ks⟩ := m
 simp only [Pr.enc_mk] at hM ⊢
 refine den_rounds (fun j => [i j, .sl ((ds.take j).map Df.enc), i k, .str ch, .str v, .sl (ls.map .str), .sl (ar.map Vl.enc), i t.kind, i t.prio, .str t.name, i t.shift, .sl (t.labels.map .str), .sl (t.kids.map Ty.enc), .sl (ks.map Pr.enc)]) ds.length rfl (fun j hj => ?_) ?_
 ·obtain ⟨hp, hb⟩ := hd _ (List.getElem_mem hj)
  have hB : Ok P F.ref03_Copy [sb 2 12 ds[j].enc] ds[j].body.enc := by rw [sb_bodyA]; exact ok_rCopy3 ds[j].body hb
  have hix := e_idx (n := 14) (a := true) (mp_at (f := Df.enc) hj) (Df.okc_enc _)
  refine d_l _ (len_eq ds) fun _ => d_l (.bool (decide ((j : Int) < (ds.length : Int)))) rfl fun _ => d_dec (p := (j : Int) < (ds.length : Int)) (fun h => ?_) fun h => absurd (show (j : Int) < (ds.length : Int) by omega) h
  refine d_l _ hix fun _ => d_l _ hix fun _ => d_call hB (d_l _ (okcs_df ds[j]) fun _ => d_l _ hix fun _ => d_l (.sl (ds[j].params.map Et.enc)) (by rw [c1_df]; exact e_app (l := []) (m := ds[j].params.map Et.enc) (all_map Et.okc_enc _) (by simp; omega) (by simp; omega)) fun _ => ?_)
  have he : PV.agg [c 0 ds[j].enc, .sl (ds[j].params.map Et.enc), c 0 ds[j].body.enc, c 1 ds[j].body.enc, c 2 ds[j].body.enc, c 3 ds[j].body.enc, c 4 ds[j].body.enc, c 5 ds[j].body.enc, c 6 ds[j].body.enc, c 7 ds[j].body.enc, c 8 ds[j].body.enc, c 9 ds[j].body.enc, c 10 ds[j].body.enc, c 11 ds[j].body.enc] = ds[j].enc := by
   generalize ds[j] = d
   obtain ⟨nm, ps, ⟨a1, a2, a3, a4, a5, a6, a7⟩⟩ := d
   simp only [Df.enc, Pr.enc_mk]; rfl
  refine d_l (.sl [ds[j].enc]) (by rw [he]; exact e_lst fun x hx => by simp at hx; subst hx; exact Df.okc_enc _) fun _ => d_l (.sl ((ds.take j).map Df.enc ++ [ds[j].enc])) (e_app (l := (ds.take j).map Df.enc) (m := [ds[j].enc]) (fun x hx => by simp at hx; subst hx; exact Df.okc_enc _) (by simp; have : ds.length ≤ 549755813888 := hdl; omega) (by simp; have : ds.length ≤ 549755813888 := hdl; omega)) fun _ => d_l _ (e_inc (by have : ds.length ≤ 549755813888 := hdl; omega)) fun _ => d_cont rfl ?_
  rw [List.take_succ_eq_append_getElem hj, List.map_append]; rfl
 ·refine d_l _ (len_eq ds) fun _ => d_l (.bool (decide ((ds.length : Int) < (ds.length : Int)))) rfl fun _ => d_dec (p := (ds.length : Int) < (ds.length : Int)) (fun h => by omega) fun _ => d_ret ?_
  rw [List.take_length]
  simp only [Pg.enc, Pr.enc_mk]; rfl
/-- the cells of a definition, of a program, whose lists lie in blocks from n on -/
structure DSh (n : Nat) (w : World) (cs : Nat → Option Value) (d : Df) : Prop where
 ps : ∃ a cp, cs 1 = some (.slice a d.params.length cp) ∧ d.params.length ≤ 9223372036854775807 ∧ ∀ k, k < d.params.length → ∃ b o, a = some ⟨b, o, none⟩ ∧ n ≤ b ∧ (∃ s, w.cell? ⟨b, o + k * 7, none⟩ = some (.string s)) ∧ w.frozen? ⟨b, o + k * 7, none⟩ = false
 cells : ∀ j, j < 12 → ∃ u, cs (2 + j) = some u ∧ u.oneCell' = true
 body : PSh n w (fun j => cs (2 + j)) d.body
structure GSh (n : Nat) (w : World) (cs : Nat → Option Value) (p : Pg) : Prop where
 ds : ∃ a cp, cs 0 = some (.slice a p.defs.length cp) ∧ p.defs.length ≤ 9223372036854775807 ∧ ∀ k (h : k < p.defs.length), ∃ b o, a = some ⟨b, o, none⟩ ∧ n ≤ b ∧ DSh n w (fun j => w.cell? ⟨b, o + k * 14 + j, none⟩) p.defs[k]
 main : PSh n w (fun j => cs (1 + j)) p.main
theorem sim_sl {cs cs' : Nat → Option Value} {j : Nat} (h : ∀ v, cs j = some v → ∃ v', cs' j = some v' ∧ Sim v v') {a : Option Addr} {l c : Nat} (e : cs j = some (.slice a l c)) : cs' j = some (.slice a l c) := by
 obtain ⟨v', h1, h2⟩ := h _ e
 rcases h2 with rfl | ⟨_, _, _, e, _⟩ | ⟨_, _, e, _⟩
 ·exact h1
 ·cases e
 ·cases e
theorem DSh.tw {n : Nat} {w w' : World} (h : Tw n w w') {cs cs' : Nat → Option Value} {d : Df} (hd : DSh n w cs d) (hcs : ∀ j v, j < 14 → cs j = some v → ∃ v', cs' j = some v' ∧ Sim v v') : DSh n w' cs' d := by
 obtain ⟨⟨a, cp, h1, h2, h3⟩, hc, hb⟩ := hd
 refine ⟨⟨a, cp, sim_sl (fun v => hcs 1 v (by omega)) h1, h2, fun k hk => ?_⟩, fun j hj => ?_, hb.tw h fun j v hj hv => hcs (2 + j) v (by omega) hv⟩
 ·obtain ⟨b, o, e, hn, ⟨s, hs⟩, hf⟩ := h3 k hk
  exact ⟨b, o, e, hn, h.str ⟨s, hs⟩, h.fz hs hf⟩
 ·obtain ⟨u, h4, h5⟩ := hc j hj
  obtain ⟨u', h6, h7⟩ := hcs (2 + j) u (by omega) h4
  exact ⟨u', h6, h7.one h5⟩
theorem GSh.tw {n : Nat} {w w' : World} (h : Tw n w w') {cs cs' : Nat → Option Value} {p : Pg} (hp : GSh n w cs p) (hcs : ∀ j v, j < 13 → cs j = some v → ∃ v', cs' j = some v' ∧ Sim v v') : GSh n w' cs' p := by
 obtain ⟨⟨a, cp, h1, h2, h3⟩, hm⟩ := hp
 refine ⟨⟨a, cp, sim_sl (fun v => hcs 0 v (by omega)) h1, h2, fun k hk => ?_⟩, hm.tw h fun j v hj hv => hcs (1 + j) v (by omega) hv⟩
 obtain ⟨b, o, e, hn, hd⟩ := h3 k hk
 refine ⟨b, o, e, hn, hd.tw h fun j v _ hv => ?_⟩
 obtain ⟨u', g1, g2, _⟩ := h.cell _ _ hv
 exact ⟨u', g1, g2⟩
section
variable [Mk] {Fr : Nat → Nat → Prop} {w : World}
theorem dsh_of (h0 : 0 < Mk.n) (d : Df) (cs : Nat → Option Value) (hcs : ∀ j y, d.enc.cells[j]? = some y → ∃ u, cs j = some u ∧ Rep Fr w u y) : DSh Mk.n w cs d := by
 have hb : ∀ (j : Nat) (y : PV), d.body.enc.cells[j]? = some y → d.enc.cells[2 + j]? = some y := fun j y h => by
  show (PV.str d.name :: PV.sl (d.params.map Et.enc) :: d.body.enc.cells)[2 + j]? = some y
  rw [show 2 + j = j + 1 + 1 by omega]; exact h
 have hc12 : d.body.enc.cells.length = 12 := (okc_cells (Pr.okc_enc _)).1
 obtain ⟨u1, e1, r1⟩ := hcs 1 (.sl (d.params.map Et.enc)) rfl
 obtain ⟨a, cp, rfl, hm, f⟩ := sl_inv r1
 rw [List.length_map] at e1 hm
 refine ⟨⟨a, cp, e1, hm, fun k hk => ?_⟩, fun j hj => ?_, psh_of h0 d.body _ fun j y hy => hcs (2 + j) y (hb j y hy)⟩
 ·obtain ⟨b, o, e, hn, g⟩ := f k d.params[k].enc (by simp [hk])
  have hc7 : d.params[k].enc.cells.length = 7 := (okc_cells (Et.okc_enc _)).1
  obtain ⟨u, h1, h2, h3⟩ := g 0 (.str d.params[k].name) (by generalize d.params[k] = e; rfl)
  rw [hc7, Nat.add_zero] at h1 h3
  rw [str_inv h2] at h1
  exact ⟨b, o, e, hn, ⟨_, h1⟩, h3 h0⟩
 ·obtain ⟨u, h1, h2⟩ := hcs (2 + j) _ (hb j (d.body.enc.cells[j]'(by omega)) (List.getElem?_eq_getElem _))
  exact ⟨u, h1, oneCell_of_rep h2 (okc_all (Pr.okc_enc d.body) _ (List.getElem_mem _))⟩
theorem gsh_of (h0 : 0 < Mk.n) (p : Pg) (cs : Nat → Option Value) (hcs : ∀ j y, p.enc.cells[j]? = some y → ∃ u, cs j = some u ∧ Rep Fr w u y) : GSh Mk.n w cs p := by
 obtain ⟨u0, e0, r0⟩ := hcs 0 (.sl (p.defs.map Df.enc)) rfl
 obtain ⟨a, cp, rfl, hm, f⟩ := sl_inv r0
 rw [List.length_map] at e0 hm
 refine ⟨⟨a, cp, e0, hm, fun k hk => ?_⟩, psh_of h0 p.main _ fun j y hy => hcs (1 + j) y ?_⟩
 ·obtain ⟨b, o, e, hn, g⟩ := f k p.defs[k].enc (by simp [hk])
  have hc14 : p.defs[k].enc.cells.length = 14 := (okc_cells (Df.okc_enc _)).1
  rw [hc14] at g
  refine ⟨b, o, e, hn, dsh_of (Fr := Fr) h0 _ _ fun j y hy => ?_⟩
  obtain ⟨u, h1, h2, _⟩ := g j y hy
  exact ⟨u, h1, h2⟩
 ·show (PV.sl (p.defs.map Df.enc) :: p.main.enc.cells)[1 + j]? = some y
  rw [show 1 + j = j + 1 by omega]; exact hy
theorem agg13 {F1 : Nat → Nat → Prop} {v : Value} {p : Pg} (h : Rep F1 w v p.enc) : ∃ c0 c1 c2 c3 c4 c5 c6 c7 c8 c9 c10 c11 c12 : Value, v = .agg #[c0, c1, c2, c3, c4, c5, c6, c7, c8, c9, c10, c11, c12] ∧
  ((c0.oneCell' = true ∧ c1.oneCell' = true ∧ c2.oneCell' = true ∧ c3.oneCell' = true ∧ c4.oneCell' = true ∧ c5.oneCell' = true) ∧ c6.oneCell' = true ∧ c7.oneCell' = true ∧ c8.oneCell' = true ∧ c9.oneCell' = true ∧ c10.oneCell' = true ∧ c11.oneCell' = true ∧ c12.oneCell' = true) := by
 have hl12 : p.enc.cells.length = 13 := (okc_cells (Pg.okc_enc p)).1
 have hall := okc_all (Pg.okc_enc p)
 have : ∃ cs, v = .agg cs ∧ cs.size = 13 := by
  cases h with
  | agg cs xs hl _ _ => exact ⟨cs, rfl, by rw [hl]; exact hl12⟩
 obtain ⟨cs, rfl, hs⟩ := this
 have one : ∀ (j : Nat) (u : Value), j < 13 → cs[j]? = some u → u.oneCell' = true := fun j u hj hu => by
  obtain ⟨u', h1, h2⟩ := agg_cells h j (p.enc.cells[j]'(by omega)) (List.getElem?_eq_getElem _)
  rw [hu] at h1; cases h1
  exact oneCell_of_rep h2 (hall _ (List.getElem_mem _))
 obtain ⟨l⟩ := cs
 match l, hs with
 | [c0, c1, c2, c3, c4, c5, c6, c7, c8, c9, c10, c11, c12], _ =>
  exact ⟨c0, c1, c2, c3, c4, c5, c6, c7, c8, c9, c10, c11, c12, rfl, ⟨one 0 _ (by omega) rfl, one 1 _ (by omega) rfl, one 2 _ (by omega) rfl, one 3 _ (by omega) rfl, one 4 _ (by omega) rfl, one 5 _ (by omega) rfl⟩, one 6 _ (by omega) rfl, one 7 _ (by omega) rfl, one 8 _ (by omega) rfl, one 9 _ (by omega) rfl, one 10 _ (by omega) rfl, one 11 _ (by omega) rfl, one 12 _ (by omega) rfl⟩
end
/-- the pruned program lies in memory of its own -/
theorem prune_call (p : Pg) (hb : PB p) (hg : GLn p) {F1 : Nat → Nat → Prop} {w : World} {v : Value} (hF : ∀ b o, F1 b o → b < w.heap.size) (hgl : GlOk F1 w) (hr : Rep F1 w v p.enc) (hw : 0 < w.heap.size) :
  Calls P F.audit_Prune #[v] w fun e w' => ∃ v' F2, e = .returned v' ∧ Aft F1 w F2 w' ∧ Rep F2 w' v' (prunP p).enc ∧ ∀ cs, v' = .agg cs → GSh w.heap.size w' (fun j => cs[j]?) (prunP p) := by
 have h := @ok_PruneM ⟨w.heap.size⟩ p hb hg
 have hm : @Rep ⟨w.heap.size⟩ F1 w v (mrk p.enc) := rep_mrk _ hr (pln_pg p)
 refine (h.2 F1 w #[v] hF (glok_to mk0 ⟨w.heap.size⟩ hgl (Nat.le_refl _)) (@reps1 ⟨w.heap.size⟩ _ _ _ _ hm)).mono ?_
 rintro e w' ⟨v', F2, rfl, hbl, h1, _, h3, h4⟩
 have hs : ∀ b o, F1 b o → Same w w' b o := fun b o hf => Same.of_block (hbl.block b (hF b o hf)) o
 refine ⟨v', F2, rfl, ⟨hbl, h3, hgl.mono hbl.size h1 hs, fun u x hu => hu.mono h1 hs⟩, rep_weak _ h4, ?_⟩
 rintro cs rfl
 exact @gsh_of ⟨w.heap.size⟩ F2 w' hw (prunP p) _ (@agg_cells ⟨w.heap.size⟩ _ _ _ _ h4)
end Go.Proofs.YtbfjpjllaibooaaGreat.Tx
/- The function spoil of law 27, by the kit's walk. -/
namespace Go.Proofs.YtbfjpjllaibooaaGreat.Tx
open Go.Lf Go.Lf.S Go.Lf.Duo Go.RowKit
set_option maxRecDepth 100000
set_option maxHeartbeats 4000000 in
theorem spoil_walk (n : Nat) (hn0 : 0 < n) : ∀ (p : Pr) (w : World) (c0 c1 c2 c3 c4 c5 c6 c7 c8 c9 c10 c11 : Value), n ≤ w.heap.size → PSh n w (fun j => #[c0, c1, c2, c3, c4, c5, c6, c7, c8, c9, c10, c11][j]?) p →
  Calls P 20 #[.agg #[c0, c1, c2, c3, c4, c5, c6, c7, c8, c9, c10, c11]] w fun e w' => e = .returned (.tuple #[]) ∧ Tw n w w' := by
 intro p
 induction p using Pr.ind with
 | _ p ih =>
 intro w c0 c1 c2 c3 c4 c5 c6 c7 c8 c9 c10 c11 hnw hp
 cases hp with
 | mk _ _ al aa at_ ak cl ca ct ck h3 h4 h10 h11 hm hl ha ht hk hr =>
 obtain rfl : c3 = .slice al p.labels.length cl := by simpa using h3
 obtain rfl : c4 = .slice aa p.args.length ca := by simpa using h4
 obtain rfl : c10 = .slice at_ p.t.kids.length ct := by simpa using h10
 obtain rfl : c11 = .slice ak p.kids.length ck := by simpa using h11
 clear h3 h4 h10 h11
 have HL := Go.Lib.hid hl
 have HA := Go.Lib.hid ha
 have HT := Go.Lib.hid ht
 have HK := Go.Lib.hid hk
 have HR := Go.Lib.hid hr
 have HI := Go.Lib.hid ih
 clear hl ha ht hk hr ih
 go_enter Tryz.func20, Tryz.ntmps20
 go_wp2
 have q3 : (w.alloc (.cells #[c0, c1, c2, .slice al p.labels.length cl, .slice aa p.args.length ca, c5, c6, c7, c8, c9, .slice at_ p.t.kids.length ct, .slice ak p.kids.length ck] 30)).cell? ⟨w.heap.size, 3, none⟩ = some (.slice al p.labels.length cl) := cell_new _ _ _ _ _ rfl
 have q4 : (w.alloc (.cells #[c0, c1, c2, .slice al p.labels.length cl, .slice aa p.args.length ca, c5, c6, c7, c8, c9, .slice at_ p.t.kids.length ct, .slice ak p.kids.length ck] 30)).cell? ⟨w.heap.size, 4, none⟩ = some (.slice aa p.args.length ca) := cell_new _ _ _ _ _ rfl
 have q10 : (w.alloc (.cells #[c0, c1, c2, .slice al p.labels.length cl, .slice aa p.args.length ca, c5, c6, c7, c8, c9, .slice at_ p.t.kids.length ct, .slice ak p.kids.length ck] 30)).cell? ⟨w.heap.size, 10, none⟩ = some (.slice at_ p.t.kids.length ct) := cell_new _ _ _ _ _ rfl
 have q11 : (w.alloc (.cells #[c0, c1, c2, .slice al p.labels.length cl, .slice aa p.args.length ca, c5, c6, c7, c8, c9, .slice at_ p.t.kids.length ct, .slice ak p.kids.length ck] 30)).cell? ⟨w.heap.size, 11, none⟩ = some (.slice ak p.kids.length ck) := cell_new _ _ _ _ _ rfl
 have hW := (Tw.refl n w).alloc hnw (.cells #[c0, c1, c2, .slice al p.labels.length cl, .slice aa p.args.length ca, c5, c6, c7, c8, c9, .slice at_ p.t.kids.length ct, .slice ak p.kids.length ck] 30)
 generalize w.alloc (.cells #[c0, c1, c2, .slice al p.labels.length cl, .slice aa p.args.length ca, c5, c6, c7, c8, c9, .slice at_ p.t.kids.length ct, .slice ak p.kids.length ck] 30) = W at *
 have Q3 := Go.Lib.hid q3
 have Q4 := Go.Lib.hid q4
 have Q10 := Go.Lib.hid q10
 have Q11 := Go.Lib.hid q11
 have HW := Go.Lib.hid hW
 clear q3 q4 q10 q11 hW
 obtain ⟨⟨m3, m4⟩, m10, m11⟩ := hm
 go_loopw [2] (fun i wr => ∃ k : Nat, k ≤ p.args.length ∧ i = .int .i64 k ∧ Tw n W wr) (fun i _ => p.args.length - (intOf i).toNat)
 case atStart => exact ⟨0, Nat.zero_le _, rfl, Tw.refl _ _⟩
 case round =>
  obtain ⟨k, hk, rfl, htw⟩ := hrel
  have e4 := htw.sl Q4.out
  by_cases hlt : k < p.args.length
  ·obtain ⟨b, o, rfl, hnb, hs, hf⟩ := HA.out k hlt
   obtain ⟨s, es⟩ := htw.int (HW.out.int hs)
   obtain ⟨s0, hs0⟩ := hs
   have ef := htw.fz (HW.out.cell _ _ hs0).choose_spec.1 (HW.out.fz hs0 hf)
   have HTW := Go.Lib.hid htw
   have HES := Go.Lib.hid es
   clear hs0 hf htw
   go_wp2
   go_roundw
   case rel => exact ⟨k + 1, by omega, by first | rfl | simp, HTW.out.set hnb HES.out (.inr (.inl ⟨_, _, _, rfl, rfl⟩))⟩
   case measure => simp [intOf]; omega
  ·have HTW := Go.Lib.hid htw
   clear htw hk
   go_wp2
   go_loopw [3] (fun i wr => ∃ k : Nat, k ≤ p.labels.length ∧ i = .int .i64 k ∧ Tw n W wr) (fun i _ => p.labels.length - (intOf i).toNat)
   case atStart => exact ⟨0, Nat.zero_le _, rfl, HTW.out⟩
   case round =>
    clear HTW e4
    obtain ⟨k2, hk2, rfl, htw⟩ := hrel
    have e3 := htw.sl Q3.out
    by_cases hlt2 : k2 < p.labels.length
    ·obtain ⟨b, o, rfl, hnb, hs, hf⟩ := HL.out k2 hlt2
     obtain ⟨s, es⟩ := htw.str (HW.out.str hs)
     obtain ⟨s0, hs0⟩ := hs
     have ef := htw.fz (HW.out.cell _ _ hs0).choose_spec.1 (HW.out.fz hs0 hf)
     have HTW := Go.Lib.hid htw
     have HES := Go.Lib.hid es
     clear hs0 hf htw
     go_wp2
     go_roundw
     case rel => exact ⟨k2 + 1, by omega, by first | rfl | simp, HTW.out.set hnb HES.out (.inr (.inr ⟨_, _, rfl, rfl⟩))⟩
     case measure => simp [intOf]; omega
    ·have HTW := Go.Lib.hid htw
     clear htw hk2
     go_wp2
     go_loopw [4] (fun i wr => ∃ k : Nat, k ≤ p.kids.length ∧ i = .int .i64 k ∧ Tw n W wr) (fun i _ => p.kids.length - (intOf i).toNat)
     case atStart => exact ⟨0, Nat.zero_le _, rfl, HTW.out⟩
     case round =>
      clear HTW e3
      obtain ⟨k4, hk4, rfl, htw⟩ := hrel
      have e11 := htw.sl Q11.out
      by_cases hlt4 : k4 < p.kids.length
      ·obtain ⟨b, o, rfl, hnb, hall, hs, hf⟩ := HK.out k4 hlt4
       have hall := fun j hj => (HW.out.trans htw).one12 hall j hj
       obtain ⟨u0, g0, o0⟩ := hall 0 (by decide)
       obtain ⟨u1, g1, o1⟩ := hall 1 (by decide)
       obtain ⟨u2, g2, o2⟩ := hall 2 (by decide)
       obtain ⟨u3, g3, o3⟩ := hall 3 (by decide)
       obtain ⟨u4, g4, o4⟩ := hall 4 (by decide)
       obtain ⟨u5, g5, o5⟩ := hall 5 (by decide)
       obtain ⟨u6, g6, o6⟩ := hall 6 (by decide)
       obtain ⟨u7, g7, o7⟩ := hall 7 (by decide)
       obtain ⟨u8, g8, o8⟩ := hall 8 (by decide)
       obtain ⟨u9, g9, o9⟩ := hall 9 (by decide)
       obtain ⟨u10, g10, o10⟩ := hall 10 (by decide)
       obtain ⟨u11, g11, o11⟩ := hall 11 (by decide)
       have hnr : n ≤ wr.heap.size := Nat.le_trans hnw (HW.out.trans htw).below.size
       have hsh : PSh n wr (fun j => #[u0, u1, u2, u3, u4, u5, u6, u7, u8, u9, u10, u11][j]?) p.kids[k4] := (HR.out k4 hlt4 b o rfl).tw (HW.out.trans htw) fun j v hj hv => by
        obtain ⟨v', hv', hsim, _⟩ := (HW.out.trans htw).cell _ _ hv
        refine ⟨v', ?_, hsim⟩
        rw [← hv']
        rcases (show j = 0 ∨ j = 1 ∨ j = 2 ∨ j = 3 ∨ j = 4 ∨ j = 5 ∨ j = 6 ∨ j = 7 ∨ j = 8 ∨ j = 9 ∨ j = 10 ∨ j = 11 by omega) with rfl | rfl | rfl | rfl | rfl | rfl | rfl | rfl | rfl | rfl | rfl | rfl
        ·exact g0.symm
        ·exact g1.symm
        ·exact g2.symm
        ·exact g3.symm
        ·exact g4.symm
        ·exact g5.symm
        ·exact g6.symm
        ·exact g7.symm
        ·exact g8.symm
        ·exact g9.symm
        ·exact g10.symm
        ·exact g11.symm
       have HC := Go.Lib.hid (HI.out p.kids[k4] (List.getElem_mem _) wr u0 u1 u2 u3 u4 u5 u6 u7 u8 u9 u10 u11 hnr hsh)
       rw [Nat.add_zero] at g0
       have HTW := Go.Lib.hid htw
       have HS := Go.Lib.hid hs
       have HF := Go.Lib.hid hf
       clear hs hf htw hall hsh hnr
       go_wp2
       refine HC.out.mono ?_
       rintro e w2 ⟨rfl, htw2⟩
       clear g0 g1 g2 g3 g4 g5 g6 g7 g8 g9 g10 g11 o0 o1 o2 o3 o4 o5 o6 o7 o8 o9 o10 o11 e11 HC
       have HTW2 := Go.Lib.hid (HTW.out.trans htw2)
       have e11 := HTW2.out.sl Q11.out
       obtain ⟨s, es⟩ := HTW2.out.int (HW.out.int HS.out)
       have ef : w2.frozen? ⟨b, o + k4 * 12, none⟩ = false := by
        obtain ⟨s0, hs0⟩ := HS.out
        exact HTW2.out.fz (HW.out.cell _ _ hs0).choose_spec.1 (HW.out.fz hs0 HF.out)
       have HES := Go.Lib.hid es
       clear htw2
       go_wp2
       go_roundw
       case rel => exact ⟨k4 + 1, by omega, by first | rfl | simp, HTW2.out.set hnb HES.out (.inr (.inl ⟨_, _, _, rfl, rfl⟩))⟩
       case measure => simp [intOf]; omega
      ·have HTW := Go.Lib.hid htw
       clear htw hk4
       go_wp2
       refine bodyPost_end (results_none rfl _ _ _) rfl ?_
       exact ⟨rfl, HW.out.trans HTW.out⟩
end Go.Proofs.YtbfjpjllaibooaaGreat.Tx
/- Right of the reference, there and back; the law: pruning twice is pruning once. -/
namespace Go.Proofs.YtbfjpjllaibooaaGreat.Tx
open Go.Lf Go.Lf.S Go.Lf.Duo
set_option maxRecDepth 100000
/-- the looks at sizes that said yes -/
def LtP (p : Pg) (m : Nat) : Prop := Ok P F.ref03_Few [p.main.enc, i (m : Int)] (.bool true) ∧ ∀ d ∈ p.defs, Ok P F.ref03_Few [d.body.enc, i (m : Int)] (.bool true) ∧ ∀ e ∈ d.params, Ok P F.ref02_Few [e.t.enc, i 300] (.bool true)
theorem ok_Little2 (p : Pg) (h : GLim p) (m : Nat) (hm : m ≤ 20000) : ∃ b, Ok P F.ref03_Little [p.enc, i (m : Int)] (.bool b) ∧ (b = true → PgS p m ∧ LtP p m) := by
 obtain ⟨bm, km, km2⟩ := ok_ref03_Few p.main h.main m (by omega) (by omega)
 have km0 := km
 rw [← sb_main p] at km
 have := tx_ex (K := fun x => ∃ b, x = .bool b ∧ (b = true → PgS p m ∧ LtP p m)) k_ref03_Little (xs := [p.enc, i (m : Int)]) rfl (by simp [t_ref03_Little, T.dt]) (by
  refine d_l p.enc (e_okc (Pg.okc_enc p)) fun _ => d_l _ (len_eq p.defs) fun _ => d_l _ rfl fun _ => d_dec (fun _ => d_ret ⟨false, rfl, fun e => by cases e⟩) fun hl => ?_
  have hl : ¬ (20 : Int) < (p.defs.length : Int) := hl
  refine d_call km (d_l (.bool !bm) rfl fun _ => d_ite (fun _ => d_ret ⟨false, rfl, fun e => by cases e⟩) fun hbm => ?_)
  obtain ⟨m1, m2, m3⟩ := km2 (by simpa using hbm)
  have km1 : Ok P F.ref03_Few [p.main.enc, i (m : Int)] (.bool true) := by
   have : bm = true := by simpa using hbm
   rw [← this]; exact km0
  refine den_loop (fun mm ys => ∃ j : Nat, j + mm = p.defs.length ∧ (∀ d ∈ p.defs.take j, (d.body.sz ≤ m ∧ pdep d.body ≤ 150 ∧ TB 300 d.body) ∧ d.params.length ≤ 20 ∧ (∀ e ∈ d.params, e.t.sz ≤ 300) ∧ Ok P F.ref03_Few [d.body.enc, i (m : Int)] (.bool true) ∧ ∀ e ∈ d.params, Ok P F.ref02_Few [e.t.enc, i 300] (.bool true)) ∧ ys = [i j]) p.defs.length ⟨0, by omega, by simp, rfl⟩ ?_
  rintro mm _ ⟨j, hj, hdone, rfl⟩
  refine d_l _ (len_eq p.defs) fun _ => d_l _ rfl fun _ => d_dec (fun h1 => ?_) fun h1 => d_ret ⟨true, rfl, fun _ => ?_⟩
  rotate_left
  ·have h1 : ¬ (j : Int) < (p.defs.length : Int) := h1
   rw [List.take_of_length_le (by omega)] at hdone
   exact ⟨⟨by omega, ⟨by omega, m2, m3⟩, fun d hd => (hdone d hd).1, fun d hd => ⟨(hdone d hd).2.1, (hdone d hd).2.2.1⟩⟩, km1, fun d hd => (hdone d hd).2.2.2⟩
  have hlt : j < p.defs.length := by have h1 : (j : Int) < (p.defs.length : Int) := h1; omega
  have hD := h.defs _ (List.getElem_mem hlt)
  obtain ⟨bd, kd, kd2⟩ := ok_ref03_Few p.defs[j].body hD.body m (by omega) (by omega)
  have kd0 := kd
  rw [← sb_body p.defs[j]] at kd
  have hpl : p.defs[j].params.length ≤ 9223372036854775807 := hD.len
  refine d_l _ (e_idx (mp_at hlt) (Df.okc_enc _)) fun _ => d_call kd (d_l (.bool !bd) rfl fun _ => d_ite (fun _ => d_ret ⟨false, rfl, fun e => by cases e⟩) fun hbd => ?_)
  obtain ⟨d1, d2, d3⟩ := kd2 (by simpa using hbd)
  have kd1 : Ok P F.ref03_Few [p.defs[j].body.enc, i (m : Int)] (.bool true) := by
   have : bd = true := by simpa using hbd
   rw [← this]; exact kd0
  refine d_l _ (e_idx (mp_at hlt) (Df.okc_enc _)) fun _ => d_l _ (len_eq p.defs[j].params) fun _ => d_l _ rfl fun _ => d_dec (fun _ => d_ret ⟨false, rfl, fun e => by cases e⟩) fun hp => ?_
  have hp : ¬ (20 : Int) < (p.defs[j].params.length : Int) := hp
  refine den_loop (fun mm' ys => ∃ q : Nat, q + mm' = p.defs[j].params.length ∧ (∀ e ∈ p.defs[j].params.take q, e.t.sz ≤ 300 ∧ Ok P F.ref02_Few [e.t.enc, i 300] (.bool true)) ∧ ys = [i q]) p.defs[j].params.length ⟨0, by omega, by simp, rfl⟩ ?_
  rintro mm' _ ⟨q, hq, hqd, rfl⟩
  refine d_l _ (e_idx (mp_at hlt) (Df.okc_enc _)) fun _ => d_l _ (len_eq p.defs[j].params) fun _ => d_l _ rfl fun _ => d_dec (fun h2 => ?_) fun h2 => d_l _ (e_inc (by omega)) fun _ => d_cont rfl ⟨mm - 1, by omega, j + 1, by omega, fun d hd => ?_, rfl⟩
  ·have hqt : q < p.defs[j].params.length := by have h2 : (q : Int) < (p.defs[j].params.length : Int) := h2; omega
   obtain ⟨be, ke, ke2⟩ := okx_ref02_Few p.defs[j].params[q].t (hD.params _ (List.getElem_mem hqt)).t 300 (by omega) (by omega)
   have ke0 := ke
   rw [← sb_t p.defs[j].params[q]] at ke
   refine d_l _ (e_idx (mp_at hlt) (Df.okc_enc _)) fun _ => d_l _ (e_idx (mp_at hqt) (Et.okc_enc _)) fun _ => d_call ke (d_l (.bool !be) rfl fun _ => d_ite (fun _ => d_ret ⟨false, rfl, fun e => by cases e⟩) fun hbe => d_l _ (e_inc (by omega)) fun _ => d_cont rfl ⟨mm' - 1, by omega, q + 1, by omega, fun e he => ?_, rfl⟩)
   have e1 := (ke2 (by simpa using hbe)).1
   have ke1 : Ok P F.ref02_Few [p.defs[j].params[q].t.enc, i 300] (.bool true) := by
    have : be = true := by simpa using hbe
    rw [← this]; exact ke0
   rw [← List.take_append_getElem hqt] at he
   rcases List.mem_append.1 he with he | he
   ·exact hqd e he
   ·rw [List.mem_singleton.1 he]; exact ⟨by omega, ke1⟩
  ·have h2 : ¬ (q : Int) < (p.defs[j].params.length : Int) := h2
   rw [List.take_of_length_le (by omega)] at hqd
   rw [← List.take_append_getElem hlt] at hd
   rcases List.mem_append.1 hd with hd | hd
   ·exact hdone d hd
   ·rw [List.mem_singleton.1 hd]; exact ⟨⟨by omega, d2, d3⟩, by omega, fun e he => (hqd e he).1, kd1, fun e he => (hqd e he).2⟩)
 obtain ⟨_, ⟨b, rfl, hb⟩, h⟩ := this
 exact ⟨b, h, hb⟩
theorem ok_Right27 (p : Pg) (hl : GLim p) (m : Nat) (hm : m ≤ 20000) : ∃ b, Ok P F.ref06_Right [p.enc, i (m : Int)] (.bool b) ∧ (b = true → PgS p m ∧ LtP p m ∧ RP p) := by
 obtain ⟨b, hb, hb2⟩ := ok_Little2 p hl m hm
 cases b with
 | false => exact ⟨false, k_ref06_Right _ _ rfl (d_l _ (e_okc (Pg.okc_enc p)) fun _ => d_call hb (d_l (.bool true) rfl fun _ => d_true (d_ret rfl))), fun h => by cases h⟩
 | true =>
  obtain ⟨h1, h2⟩ := hb2 rfl
  obtain ⟨e, a, hc, hr⟩ := ok_Check06 p hl hm h1
  exact ⟨decide (e = 0), k_ref06_Right _ _ rfl (d_l _ (e_okc (Pg.okc_enc p)) fun _ => d_call hb (d_l (.bool false) rfl fun _ => d_false (d_call hc (d_l (i e) rfl fun _ => d_l (i a) rfl fun _ => d_l (.bool (decide (e = 0))) rfl fun _ => d_ret rfl)))), fun h => ⟨h1, h2, hr.1 (of_decide_eq_true h)⟩⟩
end Go.Proofs.YtbfjpjllaibooaaGreat.Tx

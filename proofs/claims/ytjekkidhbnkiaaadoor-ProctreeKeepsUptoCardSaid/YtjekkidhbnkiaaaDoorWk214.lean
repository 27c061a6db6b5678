/- From marks to none and back; calls by their contracts in a walk. -/
import Derived.Test.YtjekkidhbnkiaaaDoorWk213
set_option linter.all false
namespace Go.Proofs.YtjekkidhbnkiaaaDoor.Tx
open Go.Lf Go.Lf.S Go.Lf.Duo Go.RowKit
set_option maxRecDepth 100000
section
variable {Fr : Nat → Nat → Prop} {w : World}
/-- what is said of new memory is forgotten -/
theorem rep_weak (M : Mk) {v : Value} {x : PV} (h : @Rep M Fr w v x) : @Rep mk0 Fr w v x := by
 induction h with
 | int k n => exact @Rep.int mk0 _ _ k n
 | bool b => exact @Rep.bool mk0 _ _ b
 | str s => exact @Rep.str mk0 _ _ s
 | nilI => exact @Rep.nilI mk0 _ _
 | nilF => exact @Rep.nilF mk0 _ _
 | nilP => exact @Rep.nilP mk0 _ _
 | agg cs xs hl hc _ ih => exact @Rep.agg mk0 _ _ cs xs hl hc ih
 | tup cs xs hl _ ih => exact @Rep.tup mk0 _ _ cs xs hl ih
 | sl0 p => exact @Rep.sl0 mk0 _ _ p
 | sl b o cap n xs g hcap hm hn hc hg _ hk ih => exact @Rep.sl mk0 _ _ b o cap n xs g hcap hm hn hc hg ih ⟨Nat.zero_le _, fun h => absurd h (Nat.lt_irrefl 0)⟩
 | msl0 p => exact @Rep.msl0 mk0 _ _ p
 | msl b o cap n xs g hcap hm hn hc hg _ ih => exact @Rep.msl mk0 _ _ b o cap n xs g hcap hm hn hc hg ih
 | fn f a c xs ys ha hc _ _ i1 i2 => exact @Rep.fn mk0 _ _ f a c xs ys ha hc i1 i2
 | box b o x g hc hg _ ih => exact @Rep.box mk0 _ _ b o x g hc hg ih
 | ifc t v x _ ih => exact @Rep.ifc mk0 _ _ t v x ih
 | nilM => exact @Rep.nilM mk0 _ _
 | mp r clock es ks vs hb hF' hk hv _ _ i1 i2 => exact @Rep.mp mk0 _ _ r clock es ks vs hb hF' hk hv i1 i2
mutual
/-- slices of which it is not said where they lie, throughout -/
def mrk : PV → PV
 | .agg l => .agg (mrks l)
 | .sl l => .msl (mrks l)
 | x => x
def mrks : List PV → List PV
 | [] => []
 | x :: l => mrk x :: mrks l
end
theorem mrks_eq : ∀ l : List PV, mrks l = l.map mrk
 | [] => rfl
 | x :: l => by simp [mrks, mrks_eq l]
mutual
/-- numbers, texts, aggregates, slices -/
def pln : PV → Bool
 | .agg l => plns l
 | .sl l => plns l
 | .int _ _ => true
 | .bool _ => true
 | .str _ => true
 | _ => false
def plns : List PV → Bool
 | [] => true
 | x :: l => pln x && plns l
end
theorem plns_mem : ∀ {l : List PV}, plns l = true → ∀ x ∈ l, pln x = true
 | [], _, _, h => by cases h
 | y :: l, h, x, hx => by
  simp only [plns, Bool.and_eq_true] at h
  rcases List.mem_cons.1 hx with rfl | hx
  ·exact h.1
  ·exact plns_mem h.2 x hx
theorem plns_of : ∀ {l : List PV}, (∀ x ∈ l, pln x = true) → plns l = true
 | [], _ => rfl
 | y :: l, h => by
  simp only [plns, Bool.and_eq_true]
  exact ⟨h y List.mem_cons_self, plns_of fun x hx => h x (List.mem_cons_of_mem _ hx)⟩
theorem mrk_cells (x : PV) : (mrk x).cells = x.cells.map mrk := by
 cases x <;> simp [mrk, PV.cells, mrks_eq]
theorem mrk_cell {x : PV} (h : x.isCell = true) : (mrk x).isCell = true := by
 cases x <;> simp_all [mrk, PV.isCell]
theorem pln_cells {x : PV} (h : pln x = true) : ∀ y ∈ x.cells, pln y = true := by
 cases x <;> simp_all [PV.cells, pln]
 exact plns_mem h
theorem rep_mrk (M : Mk) {v : Value} {x : PV} (h : @Rep mk0 Fr w v x) : pln x = true → @Rep M Fr w v (mrk x) := by
 induction h with
 | int k n => exact fun _ => @Rep.int M _ _ k n
 | bool b => exact fun _ => @Rep.bool M _ _ b
 | str s => exact fun _ => @Rep.str M _ _ s
 | agg cs xs hl hc _ ih =>
  intro hp
  simp only [pln] at hp
  simp only [mrk, mrks_eq]
  refine @Rep.agg M _ _ cs _ (by rw [List.length_map]; exact hl) (fun x hx => ?_) fun i c x h1 h2 => ?_
  ·obtain ⟨y, hy, rfl⟩ := List.mem_map.1 hx
   exact mrk_cell (hc y hy)
  ·rw [List.getElem?_map, Option.map_eq_some_iff] at h2
   obtain ⟨y, hy, rfl⟩ := h2
   exact ih i c y h1 hy (plns_mem hp y (List.mem_of_getElem? hy))
 | sl0 p => exact fun _ => @Rep.msl0 M _ _ p
 | sl b o cap n xs g hcap hm hn hc hg _ hk ih =>
  intro hp
  simp only [pln] at hp
  simp only [mrk, mrks_eq]
  have at_ : ∀ (i : Nat) (x : PV) (j : Nat) (y : PV), (xs.map mrk)[i]? = some x → x.cells[j]? = some y → ∃ x' y', xs[i]? = some x' ∧ x'.cells[j]? = some y' ∧ y = mrk y' := fun i x j y h1 h2 => by
   rw [List.getElem?_map, Option.map_eq_some_iff] at h1
   obtain ⟨x', hx', rfl⟩ := h1
   rw [mrk_cells, List.getElem?_map, Option.map_eq_some_iff] at h2
   obtain ⟨y', hy', rfl⟩ := h2
   exact ⟨x', y', hx', hy', rfl⟩
  have := @Rep.msl M Fr w b o cap n (xs.map mrk) g (by rw [List.length_map]; exact hcap) hm (fun x hx => by
    obtain ⟨y, hy, rfl⟩ := List.mem_map.1 hx
    rw [mrk_cells, List.length_map]; exact hn y hy) (fun x hx y hy => by
    obtain ⟨x', hx', rfl⟩ := List.mem_map.1 hx
    rw [mrk_cells] at hy
    obtain ⟨y', hy', rfl⟩ := List.mem_map.1 hy
    exact mrk_cell (hc x' hx' y' hy')) (fun i x j y h1 h2 => by
    obtain ⟨x', y', e1, e2, rfl⟩ := at_ i x j y h1 h2
    exact hg i x' j y' e1 e2) fun i x j y h1 h2 => by
    obtain ⟨x', y', e1, e2, rfl⟩ := at_ i x j y h1 h2
    exact ih i x' j y' e1 e2 (pln_cells (plns_mem hp x' (List.mem_of_getElem? e1)) y' (List.mem_of_getElem? e2))
  rwa [List.length_map] at this
 | nilI | nilF | nilP | nilM => intro hp; cases hp
 | tup | msl0 | msl | fn | box | ifc | mp => intro hp; cases hp
theorem pln_str (l : List ByteArray) : plns (l.map .str) = true := plns_of fun x hx => by obtain ⟨y, _, rfl⟩ := List.mem_map.1 hx; rfl
theorem mrk_str (l : List ByteArray) : mrks (l.map .str) = l.map .str := by
 rw [mrks_eq, List.map_map]; rfl
theorem pln_ty : ∀ t : Ty, pln t.enc = true := by
 intro t
 induction t using Ty.ind with
 | _ t ih =>
 obtain ⟨kd, p, nm, s, ls, ks⟩ := t
 rw [Ty.enc_mk]
 simp only [pln, plns, pln_str, Bool.true_and, Bool.and_true]
 exact plns_of fun x hx => by obtain ⟨y, hy, rfl⟩ := List.mem_map.1 hx; exact ih y hy
theorem mrk_ty : ∀ t : Ty, mrk t.enc = Ty.menc t := by
 intro t
 induction t using Ty.ind with
 | _ t ih =>
 obtain ⟨kd, p, nm, s, ls, ks⟩ := t
 rw [Ty.enc_mk, Ty.menc_mk]
 have h1 : mrks (ks.map Ty.enc) = ks.map Ty.menc := by rw [mrks_eq, List.map_map]; exact List.map_congr_left fun x hx => ih x hx
 simp only [mrk, mrks, mrk_str, h1]
theorem mrk_vl (l : List Vl) : mrks (l.map Vl.enc) = l.map Vl.enc := by
 rw [mrks_eq, List.map_map]; rfl
theorem pln_vl (l : List Vl) : plns (l.map Vl.enc) = true := plns_of fun x hx => by obtain ⟨y, _, rfl⟩ := List.mem_map.1 hx; rfl
theorem pln_pr : ∀ p : Pr, pln p.enc = true := by
 intro p
 induction p using Pr.ind with
 | _ p ih =>
 obtain ⟨k, ch, v, ls, ar, t, ks⟩ := p
 rw [Pr.enc_mk]
 have h1 : plns (t.kids.map Ty.enc) = true := plns_of fun x hx => by obtain ⟨y, hy, rfl⟩ := List.mem_map.1 hx; exact pln_ty y
 have h2 : plns (ks.map Pr.enc) = true := plns_of fun x hx => by obtain ⟨y, hy, rfl⟩ := List.mem_map.1 hx; exact ih y hy
 simp only [pln, plns, pln_str, pln_vl, h1, h2, Bool.true_and, Bool.and_true]
theorem mrk_pr : ∀ p : Pr, mrk p.enc = Pr.menc p := by
 intro p
 induction p using Pr.ind with
 | _ p ih =>
 obtain ⟨k, ch, v, ls, ar, t, ks⟩ := p
 have h1 : mrks (t.kids.map Ty.enc) = t.kids.map Ty.menc := by rw [mrks_eq, List.map_map]; exact List.map_congr_left fun x _ => mrk_ty x
 have h2 : mrks (ks.map Pr.enc) = ks.map Pr.menc := by rw [mrks_eq, List.map_map]; exact List.map_congr_left fun x hx => ih x hx
 rw [Pr.enc_mk, Pr.menc_mk]
 simp only [mrk, mrks, mrk_str, mrk_vl, h1, h2]
def scB : PV → Bool
 | .int _ _ => true
 | .bool _ => true
 | .str _ => true
 | _ => false
theorem rep_sc (M N : Mk) {v : Value} {x : PV} (h : @Rep M Fr w v x) (hs : scB x = true) : @Rep N Fr w v x := by
 cases h <;> simp only [scB, Bool.false_eq_true] at hs
 ·exact @Rep.int N _ _ _ _
 ·exact @Rep.bool N _ _ _
 ·exact @Rep.str N _ _ _
theorem rep_box (M N : Mk) {v : Value} {x : PV} (h : @Rep M Fr w v (.box x)) (hs : ∀ y ∈ x.cells, scB y = true) : @Rep N Fr w v (.box x) := by
 cases h with
 | box b o _ g hc hg h => exact @Rep.box N _ _ b o x g hc hg fun j y hy => rep_sc M N (h j y hy) (hs y (List.mem_of_getElem? hy))
theorem gl_sc : (gl.l.all fun e => e.2.1.cells.all scB) = true := by kernel_rfl
theorem glok_to (M N : Mk) (h : @GlOk M gl Fr w) (hn : N.n ≤ w.heap.size) : @GlOk N gl Fr w := ⟨hn, fun e he => by
 obtain ⟨h1, h2, h3⟩ := h.2 e he
 exact ⟨h1, rep_box M N h2 (List.all_eq_true.1 (List.all_eq_true.1 gl_sc e he)), h3⟩⟩
end
/-- behind a call that made memory only -/
structure Aft (F1 : Nat → Nat → Prop) (w : World) (F2 : Nat → Nat → Prop) (w' : World) : Prop where
 below : Below w.heap.size w w'
 lt : ∀ b o, F2 b o → b < w'.heap.size
 gl : GlOk F2 w'
 rep : ∀ u x, Rep F1 w u x → Rep F2 w' u x
theorem ok_call {f : Nat} {xs : List PV} {r : PV} (h : Ok P f xs r) {F1 : Nat → Nat → Prop} {w : World} {vs : Array Value} (hF : ∀ b o, F1 b o → b < w.heap.size) (hgl : GlOk F1 w) (hvs : Reps F1 w vs xs) :
  Calls P f vs w fun e w' => ∃ v F2, e = .returned v ∧ Rep F2 w' v r ∧ Aft F1 w F2 w' := by
 refine (h.2 F1 w vs hF hgl hvs).mono ?_
 rintro e w' ⟨v, F2, rfl, hb, h1, _, h3, h4⟩
 have hs : ∀ b o, F1 b o → Same w w' b o := fun b o hf => Same.of_block (hb.block b (hF b o hf)) o
 exact ⟨v, F2, rfl, h4, hb, h3, hgl.mono hb.size h1 hs, fun u x hu => hu.mono h1 hs⟩
theorem call_bool {f : Nat} {xs : List PV} {b : Bool} (h : Ok P f xs (.bool b)) {F1 : Nat → Nat → Prop} {w : World} {vs : Array Value} (hF : ∀ b o, F1 b o → b < w.heap.size) (hgl : GlOk F1 w) (hvs : Reps F1 w vs xs) :
  Calls P f vs w fun e w' => e = .returned (.bool b) ∧ ∃ F2, Aft F1 w F2 w' := by
 refine (ok_call h hF hgl hvs).mono ?_
 rintro e w' ⟨v, F2, rfl, hr, ha⟩
 cases hr
 exact ⟨rfl, F2, ha⟩
theorem agg12 [Mk] {F1 : Nat → Nat → Prop} {w : World} {v : Value} {p : Pr} (h : Rep F1 w v p.enc) : ∃ c0 c1 c2 c3 c4 c5 c6 c7 c8 c9 c10 c11 : Value, v = .agg #[c0, c1, c2, c3, c4, c5, c6, c7, c8, c9, c10, c11] ∧
  ((c0.oneCell' = true ∧ c1.oneCell' = true ∧ c2.oneCell' = true ∧ c3.oneCell' = true ∧ c4.oneCell' = true ∧ c5.oneCell' = true) ∧ c6.oneCell' = true ∧ c7.oneCell' = true ∧ c8.oneCell' = true ∧ c9.oneCell' = true ∧ c10.oneCell' = true ∧ c11.oneCell' = true) := by
 obtain ⟨k, ch, vr, ls, ar, t, ks⟩ := p
 rw [Pr.enc_mk] at h
 cases h with
 | agg cs _ hl hc hr =>
  obtain ⟨l⟩ := cs
  have one : ∀ (j : Nat) (c : Value) (x : PV), (⟨l⟩ : Array Value)[j]? = some c → [i k, .str ch, .str vr, .sl (ls.map .str), .sl (ar.map Vl.enc), i t.kind, i t.prio, .str t.name, i t.shift, .sl (t.labels.map .str), .sl (t.kids.map Ty.enc), .sl (ks.map Pr.enc)][j]? = some x → c.oneCell' = true :=
   fun j c x h1 h2 => oneCell_of_rep (hr j c x h1 h2) (hc x (List.mem_of_getElem? h2))
  match l, hl with
  | [c0, c1, c2, c3, c4, c5, c6, c7, c8, c9, c10, c11], _ =>
   exact ⟨c0, c1, c2, c3, c4, c5, c6, c7, c8, c9, c10, c11, rfl, ⟨one 0 _ _ rfl rfl, one 1 _ _ rfl rfl, one 2 _ _ rfl rfl, one 3 _ _ rfl rfl, one 4 _ _ rfl rfl, one 5 _ _ rfl rfl⟩, one 6 _ _ rfl rfl, one 7 _ _ rfl rfl, one 8 _ _ rfl rfl, one 9 _ _ rfl rfl, one 10 _ _ rfl rfl, one 11 _ _ rfl rfl⟩
theorem Aft.alloc {F1 F2 : Nat → Nat → Prop} {w w' : World} (h : Aft F1 w F2 w') (o : Obj) : Aft F1 w F2 (w'.alloc o) := by
 have hs : ∀ b q, F2 b q → Same w' (w'.alloc o) b q := fun b q hf => Same.of_block (Below.heap_alloc w' o b (h.lt b q hf)) q
 exact ⟨h.below.alloc h.below.size o, fun b q hf => by have := h.lt b q hf; simp; omega, h.gl.mono (by simp) (fun _ _ h => h) hs, fun u x hu => (h.rep u x hu).mono (fun _ _ h => h) hs⟩
theorem Aft.trans {F1 F2 F3 : Nat → Nat → Prop} {a b c : World} (h : Aft F1 a F2 b) (k : Aft F2 b F3 c) : Aft F1 a F3 c :=
 ⟨h.below.trans (k.below.mono h.below.size), k.lt, k.gl, fun u x hu => k.rep u x (h.rep u x hu)⟩
theorem Aft.refl {F1 : Nat → Nat → Prop} {w : World} (hF : ∀ b o, F1 b o → b < w.heap.size) (hgl : GlOk F1 w) : Aft F1 w F1 w := ⟨Below.refl _ _, hF, hgl, fun _ _ h => h⟩
/-- the cells of a box that was there -/
theorem Aft.cell {F1 F2 : Nat → Nat → Prop} {w w' : World} (h : Aft F1 w F2 w') {b o : Nat} {v : Value} (hc : w.cell? ⟨b, o, none⟩ = some v) : w'.cell? ⟨b, o, none⟩ = some v :=
 (World.cell?_of_block (w := w) (a := ⟨b, o, none⟩) (h.below.block b (cell_lt hc))).trans hc
theorem Below.tw {n : Nat} {w w' : World} (h : Below w.heap.size w w') (hn : n ≤ w.heap.size) : Tw n w w' := ⟨h.mono hn, fun a u hu => by
 have hb := h.block a.block (cell_lt hu)
 exact ⟨u, (World.cell?_of_block (w := w) hb).trans hu, .inl rfl, World.frozen?_of_block (w := w) hb⟩⟩
theorem reps1 [Mk] {F1 : Nat → Nat → Prop} {w : World} {v : Value} {x : PV} (h : Rep F1 w v x) : Reps F1 w #[v] [x] := ⟨rfl, fun i u y h1 h2 => by
 match i with
 | 0 => simp at h1 h2; subst h1; subst h2; exact h
 | i + 1 => simp at h2⟩
theorem reps2 [Mk] {F1 : Nat → Nat → Prop} {w : World} {v v' : Value} {x x' : PV} (h : Rep F1 w v x) (h' : Rep F1 w v' x') : Reps F1 w #[v, v'] [x, x'] := ⟨rfl, fun i u y h1 h2 => by
 match i with
 | 0 => simp at h1 h2; subst h1; subst h2; exact h
 | 1 => simp at h1 h2; subst h1; subst h2; exact h'
 | i + 2 => simp at h2⟩
theorem agg_cells [Mk] {F1 : Nat → Nat → Prop} {w : World} {cs : Array Value} {x : PV} (h : Rep F1 w (.agg cs) x) : ∀ (j : Nat) (y : PV), x.cells[j]? = some y → ∃ u, cs[j]? = some u ∧ Rep F1 w u y := by
 cases h with
 | agg _ xs hl hc hr =>
  intro j y hy
  have hy : xs[j]? = some y := hy
  have hj : j < cs.size := by rw [hl]; exact (List.getElem?_eq_some_iff.1 hy).1
  exact ⟨cs[j], Array.getElem?_eq_getElem hj, hr j _ y (Array.getElem?_eq_getElem hj) hy⟩
/-- a copy lies in memory of its own -/
theorem copy_call (p : Pr) (hb : PLm p) {F1 : Nat → Nat → Prop} {w : World} {v : Value} (hF : ∀ b o, F1 b o → b < w.heap.size) (hgl : GlOk F1 w) (hr : Rep F1 w v p.enc) (hw : 0 < w.heap.size) :
  Calls P F.proctree_Copy #[v] w fun e w' => ∃ v' F2, e = .returned v' ∧ Aft F1 w F2 w' ∧ Rep F2 w' v' p.enc ∧ ∀ cs, v' = .agg cs → PSh w.heap.size w' (fun j => cs[j]?) p := by
 have h := @ok_pCopyM ⟨w.heap.size⟩ p hb
 have hm : @Rep ⟨w.heap.size⟩ F1 w v (Pr.menc p) := by rw [← mrk_pr]; exact rep_mrk _ hr (pln_pr p)
 refine (h.2 F1 w #[v] hF (glok_to mk0 ⟨w.heap.size⟩ hgl (Nat.le_refl _)) (@reps1 ⟨w.heap.size⟩ _ _ _ _ hm)).mono ?_
 rintro e w' ⟨v', F2, rfl, hbl, h1, _, h3, h4⟩
 have hs : ∀ b o, F1 b o → Same w w' b o := fun b o hf => Same.of_block (hbl.block b (hF b o hf)) o
 refine ⟨v', F2, rfl, ⟨hbl, h3, hgl.mono hbl.size h1 hs, fun u x hu => hu.mono h1 hs⟩, rep_weak _ h4, ?_⟩
 rintro cs rfl
 exact @psh_of ⟨w.heap.size⟩ F2 w' hw p _ (@agg_cells ⟨w.heap.size⟩ _ _ _ _ h4)
end Go.Proofs.YtjekkidhbnkiaaaDoor.Tx

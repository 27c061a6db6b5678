/- Memory that a process lies in: what keeps its form when numbers and texts in it are written anew. -/
import Derived.Test.YtjekkidhbnkiaaaDoorWk210
import Derived.Below
import Derived.Extends
set_option linter.all false
namespace Go.Proofs.YtjekkidhbnkiaaaDoor.Tx
open Go.Lf Go.Lf.S Go.Lf.Duo Go.RowKit
set_option maxRecDepth 100000
/-- what a cell holds is the same, or another number of the kind, or another text -/
def Sim (u u' : Value) : Prop := u' = u ∨ (∃ k m m', u = .int k m ∧ u' = .int k m') ∨ ∃ s s', u = .string s ∧ u' = .string s'
theorem Sim.trans {a b c : Value} (h : Sim a b) (k : Sim b c) : Sim a c := by
 rcases h with rfl | ⟨x, m, m', rfl, rfl⟩ | ⟨s, s', rfl, rfl⟩
 ·exact k
 ·rcases k with rfl | ⟨x, m, m'', h, rfl⟩ | ⟨s, s', h, rfl⟩
  ·exact .inr (.inl ⟨_, _, _, rfl, rfl⟩)
  ·cases h; exact .inr (.inl ⟨_, _, _, rfl, rfl⟩)
  ·cases h
 ·rcases k with rfl | ⟨x, m, m'', h, rfl⟩ | ⟨s, s', h, rfl⟩
  ·exact .inr (.inr ⟨_, _, rfl, rfl⟩)
  ·cases h
  ·cases h; exact .inr (.inr ⟨_, _, rfl, rfl⟩)
/-- only blocks from n on have changed, and each cell keeps its kind -/
structure Tw (n : Nat) (w w' : World) : Prop where
 below : Below n w w'
 cell : ∀ (a : Addr) u, w.cell? a = some u → ∃ u', w'.cell? a = some u' ∧ Sim u u' ∧ w'.frozen? a = w.frozen? a
theorem Tw.refl (n : Nat) (w : World) : Tw n w w := ⟨Below.refl n w, fun _ u h => ⟨u, h, .inl rfl, rfl⟩⟩
theorem Tw.trans {n : Nat} {a b c : World} (h : Tw n a b) (k : Tw n b c) : Tw n a c := ⟨h.below.trans k.below, fun x u hu => by
 obtain ⟨u1, h1, h2, h3⟩ := h.cell x u hu
 obtain ⟨u2, h4, h5, h6⟩ := k.cell x u1 h1
 exact ⟨u2, h4, h2.trans h5, h6.trans h3⟩⟩
theorem Tw.set {n : Nat} {w w' : World} (h : Tw n w w') {a : Addr} (hn : n ≤ a.block) {u v : Value} (hc : w'.cell? a = some u) (hs : Sim u v) : Tw n w (w'.setCell a v) :=
 h.trans ⟨(Below.refl n w').setCell hn v, fun x y hy => by
  by_cases e : x = a
  ·subst e
   rw [hc] at hy; cases hy
   exact ⟨v, World.cell?_setCell_same _ _ _ hc, hs, World.frozen?_setCell _ _ _ _⟩
  ·exact ⟨y, (World.cell?_setCell_other _ _ _ _ (fun h => e h.symm)).trans hy, .inl rfl, World.frozen?_setCell _ _ _ _⟩⟩
theorem cell_lt {w : World} {a : Addr} {u : Value} (h : w.cell? a = some u) : a.block < w.heap.size := by
 unfold World.cell? at h
 split at h
 ·rename_i hb; exact (Array.getElem?_eq_some_iff.1 hb).1
 ·cases h
theorem Tw.alloc {n : Nat} {w w' : World} (h : Tw n w w') (hn : n ≤ w'.heap.size) (o : Obj) : Tw n w (w'.alloc o) :=
 h.trans ⟨(Below.refl n w').alloc hn o, fun x y hy => by
  have hb := Below.heap_alloc w' o x.block (cell_lt hy)
  exact ⟨y, (World.cell?_of_block (w := w') hb).trans hy, .inl rfl, World.frozen?_of_block (w := w') hb⟩⟩
theorem Tw.sl {n : Nat} {w w' : World} (h : Tw n w w') {a : Addr} {p : Option Addr} {l c : Nat} (hc : w.cell? a = some (.slice p l c)) : w'.cell? a = some (.slice p l c) := by
 obtain ⟨u, h1, h2, _⟩ := h.cell a _ hc
 rcases h2 with rfl | ⟨_, _, _, e, _⟩ | ⟨_, _, e, _⟩
 ·exact h1
 ·cases e
 ·cases e
theorem Tw.int {n : Nat} {w w' : World} (h : Tw n w w') {a : Addr} {k : IntKind} (hc : ∃ m, w.cell? a = some (.int k m)) : ∃ m, w'.cell? a = some (.int k m) := by
 obtain ⟨m, hc⟩ := hc
 obtain ⟨u, h1, h2, _⟩ := h.cell a _ hc
 rcases h2 with rfl | ⟨_, _, _, e, rfl⟩ | ⟨_, _, e, _⟩
 ·exact ⟨_, h1⟩
 ·cases e; exact ⟨_, h1⟩
 ·cases e
theorem Tw.str {n : Nat} {w w' : World} (h : Tw n w w') {a : Addr} (hc : ∃ s, w.cell? a = some (.string s)) : ∃ s, w'.cell? a = some (.string s) := by
 obtain ⟨m, hc⟩ := hc
 obtain ⟨u, h1, h2, _⟩ := h.cell a _ hc
 rcases h2 with rfl | ⟨_, _, _, e, rfl⟩ | ⟨_, _, e, rfl⟩
 ·exact ⟨_, h1⟩
 ·cases e
 ·exact ⟨_, h1⟩
theorem Tw.fz {n : Nat} {w w' : World} (h : Tw n w w') {a : Addr} {u : Value} (hc : w.cell? a = some u) (hf : w.frozen? a = false) : w'.frozen? a = false := by
 obtain ⟨_, _, _, h3⟩ := h.cell a _ hc
 rw [h3, hf]
/-- the cells of a process whose lists lie in blocks from n on -/
inductive PSh (n : Nat) (w : World) : (Nat → Option Value) → Pr → Prop
 | mk (cs : Nat → Option Value) (p : Pr) (al aa at_ ak : Option Addr) (cl ca ct ck : Nat) (h3 : cs 3 = some (.slice al p.labels.length cl)) (h4 : cs 4 = some (.slice aa p.args.length ca)) (h10 : cs 10 = some (.slice at_ p.t.kids.length ct)) (h11 : cs 11 = some (.slice ak p.kids.length ck))
   (hm : (p.labels.length ≤ 9223372036854775807 ∧ p.args.length ≤ 9223372036854775807) ∧ p.t.kids.length ≤ 9223372036854775807 ∧ p.kids.length ≤ 9223372036854775807)
   (hl : ∀ k, k < p.labels.length → ∃ b o, al = some ⟨b, o, none⟩ ∧ n ≤ b ∧ (∃ s, w.cell? ⟨b, o + k, none⟩ = some (.string s)) ∧ w.frozen? ⟨b, o + k, none⟩ = false)
   (ha : ∀ k, k < p.args.length → ∃ b o, aa = some ⟨b, o, none⟩ ∧ n ≤ b ∧ (∃ m, w.cell? ⟨b, o + k * 3 + 2, none⟩ = some (.int .i64 m)) ∧ w.frozen? ⟨b, o + k * 3 + 2, none⟩ = false)
   (ht : ∀ k, k < p.t.kids.length → ∃ b o, at_ = some ⟨b, o, none⟩ ∧ n ≤ b ∧ (∃ m, w.cell? ⟨b, o + k * 6, none⟩ = some (.int .i64 m)) ∧ w.frozen? ⟨b, o + k * 6, none⟩ = false)
   (hk : ∀ k, k < p.kids.length → ∃ b o, ak = some ⟨b, o, none⟩ ∧ n ≤ b ∧ (∀ j, j < 12 → ∃ u, w.cell? ⟨b, o + k * 12 + j, none⟩ = some u ∧ u.oneCell' = true) ∧ (∃ m, w.cell? ⟨b, o + k * 12, none⟩ = some (.int .i64 m)) ∧ w.frozen? ⟨b, o + k * 12, none⟩ = false)
   (hr : ∀ k (h : k < p.kids.length) b o, ak = some ⟨b, o, none⟩ → PSh n w (fun j => w.cell? ⟨b, o + k * 12 + j, none⟩) p.kids[k]) : PSh n w cs p
theorem Sim.one {u u' : Value} (h : Sim u u') (h1 : u.oneCell' = true) : u'.oneCell' = true := by
 rcases h with rfl | ⟨_, _, _, _, rfl⟩ | ⟨_, _, _, rfl⟩
 ·exact h1
 ·rfl
 ·rfl
theorem PSh.tw {n : Nat} {w w' : World} (h : Tw n w w') {cs cs' : Nat → Option Value} {p : Pr} (hp : PSh n w cs p) (hcs : ∀ j v, j < 12 → cs j = some v → ∃ v', cs' j = some v' ∧ Sim v v') : PSh n w' cs' p := by
 induction hp generalizing cs' with
 | mk cs p al aa at_ ak cl ca ct ck h3 h4 h10 h11 hm hl ha ht hk hr ih =>
  have sl : ∀ j (a : Option Addr) l c, j < 12 → cs j = some (.slice a l c) → cs' j = some (.slice a l c) := fun j a l c hj e => by
   obtain ⟨v', h1, h2⟩ := hcs j _ hj e
   rcases h2 with rfl | ⟨_, _, _, e, _⟩ | ⟨_, _, e, _⟩
   ·exact h1
   ·cases e
   ·cases e
  refine .mk cs' p al aa at_ ak cl ca ct ck (sl _ _ _ _ (by decide) h3) (sl _ _ _ _ (by decide) h4) (sl _ _ _ _ (by decide) h10) (sl _ _ _ _ (by decide) h11) hm (fun k hk => ?_) (fun k hk => ?_) (fun k hk => ?_) (fun k hkk => ?_) fun k hkk b o e => ih k hkk b o e fun j v _ hv => ?_
  ·obtain ⟨b, o, e, h1, ⟨s, h2⟩, h3⟩ := hl k hk
   exact ⟨b, o, e, h1, h.str ⟨s, h2⟩, h.fz h2 h3⟩
  ·obtain ⟨b, o, e, h1, ⟨s, h2⟩, h3⟩ := ha k hk
   exact ⟨b, o, e, h1, h.int ⟨s, h2⟩, h.fz h2 h3⟩
  ·obtain ⟨b, o, e, h1, ⟨s, h2⟩, h3⟩ := ht k hk
   exact ⟨b, o, e, h1, h.int ⟨s, h2⟩, h.fz h2 h3⟩
  ·obtain ⟨b, o, e, h1, h4, ⟨s, h2⟩, h3⟩ := hk k hkk
   refine ⟨b, o, e, h1, fun j hj => ?_, h.int ⟨s, h2⟩, h.fz h2 h3⟩
   obtain ⟨u, h5, h6⟩ := h4 j hj
   obtain ⟨u', h7, h8, _⟩ := h.cell _ _ h5
   exact ⟨u', h7, h8.one h6⟩
  ·obtain ⟨u', h1, h2, _⟩ := h.cell _ _ hv
   exact ⟨u', h1, h2⟩
section
variable [Mk] {Fr : Nat → Nat → Prop} {w : World}
/-- behind a slice that lies in new memory -/
theorem sl_inv {v : Value} {l : List PV} (h : Rep Fr w v (.sl l)) : ∃ a c, v = .slice a l.length c ∧ l.length ≤ 9223372036854775807 ∧ ∀ k x, l[k]? = some x → ∃ b o, a = some ⟨b, o, none⟩ ∧ Mk.n ≤ b ∧
  ∀ j y, x.cells[j]? = some y → ∃ u, w.cell? ⟨b, o + k * x.cells.length + j, none⟩ = some u ∧ Rep Fr w u y ∧ (0 < Mk.n → w.frozen? ⟨b, o + k * x.cells.length + j, none⟩ = false) := by
 cases h with
 | sl0 p => exact ⟨p, 0, rfl, Nat.zero_le _, fun k x hx => by simp at hx⟩
 | sl b o cap nn xs g hcap hm hn hc hg hr hk =>
  refine ⟨some ⟨b, o, none⟩, cap, rfl, Nat.le_trans hcap hm, fun k x hx => ⟨b, o, rfl, hk.1, fun j y hy => ?_⟩⟩
  rw [hn x (List.mem_of_getElem? hx)]
  exact ⟨_, (hg k x j y hx hy).2, hr k x j y hx hy, fun h0 => hk.2 h0 k x j y hx hy⟩
theorem int_inv {v : Value} {k : IntKind} {m : Int} (h : Rep Fr w v (.int k m)) : v = .int k m := by cases h; rfl
theorem str_inv {v : Value} {s : ByteArray} (h : Rep Fr w v (.str s)) : v = .string s := by cases h; rfl
/-- what reads as a process, whose lists lie in new memory -/
theorem psh_of (h0 : 0 < Mk.n) : ∀ (p : Pr) (cs : Nat → Option Value), (∀ j y, p.enc.cells[j]? = some y → ∃ u, cs j = some u ∧ Rep Fr w u y) → PSh Mk.n w cs p := by
 intro p
 induction p using Pr.ind with
 | _ p ih =>
 intro cs hcs
 obtain ⟨k, ch, v, ls, ar, t, ks⟩ := p
 have ih : ∀ x ∈ ks, ∀ (cs : Nat → Option Value), (∀ j y, x.enc.cells[j]? = some y → ∃ u, cs j = some u ∧ Rep Fr w u y) → PSh Mk.n w cs x := ih
 rw [Pr.enc_mk] at hcs
 obtain ⟨u3, e3, r3⟩ := hcs 3 (.sl (ls.map .str)) rfl
 obtain ⟨u4, e4, r4⟩ := hcs 4 (.sl (ar.map Vl.enc)) rfl
 obtain ⟨u10, e10, r10⟩ := hcs 10 (.sl (t.kids.map Ty.enc)) rfl
 obtain ⟨u11, e11, r11⟩ := hcs 11 (.sl (ks.map Pr.enc)) rfl
 obtain ⟨a3, c3, rfl, m3, f3⟩ := sl_inv r3
 obtain ⟨a4, c4, rfl, m4, f4⟩ := sl_inv r4
 obtain ⟨a10, c10, rfl, m10, f10⟩ := sl_inv r10
 obtain ⟨a11, c11, rfl, m11, f11⟩ := sl_inv r11
 rw [List.length_map] at e3 e4 e10 e11 m3 m4 m10 m11
 refine .mk cs _ a3 a4 a10 a11 c3 c4 c10 c11 e3 e4 e10 e11 ⟨⟨m3, m4⟩, m10, m11⟩ (fun k hk => ?_) (fun k hk => ?_) (fun k hk => ?_) (fun k hk => ?_) fun k hk b o e => ?_
 ·have hk : k < ls.length := hk
  obtain ⟨b, o, e, hn, g⟩ := f3 k (.str ls[k]) (by simp [hk])
  obtain ⟨u, h1, h2, h3⟩ := g 0 (.str ls[k]) rfl
  have e1 : o + k * (PV.str ls[k]).cells.length + 0 = o + k := by show o + k * 1 + 0 = o + k; omega
  rw [e1] at h1 h3
  rw [str_inv h2] at h1
  exact ⟨b, o, e, hn, ⟨_, h1⟩, h3 h0⟩
 ·have hk : k < ar.length := hk
  obtain ⟨b, o, e, hn, g⟩ := f4 k ar[k].enc (by simp [hk])
  obtain ⟨u, h1, h2, h3⟩ := g 2 (i ar[k].n) rfl
  have e1 : o + k * (ar[k].enc).cells.length + 2 = o + k * 3 + 2 := rfl
  rw [e1] at h1 h3
  rw [int_inv h2] at h1
  exact ⟨b, o, e, hn, ⟨_, h1⟩, h3 h0⟩
 ·have hk : k < t.kids.length := hk
  obtain ⟨b, o, e, hn, g⟩ := f10 k (t.kids[k]).enc (by simp [hk])
  have hc6 : (t.kids[k]).enc.cells.length = 6 := (okc_cells (Ty.okc_enc _)).1
  obtain ⟨u, h1, h2, h3⟩ := g 0 (i (t.kids[k]).kind) (by cases t.kids[k]; rw [Ty.enc_mk]; rfl)
  rw [hc6, Nat.add_zero] at h1 h3
  rw [int_inv h2] at h1
  exact ⟨b, o, e, hn, ⟨_, h1⟩, h3 h0⟩
 ·have hk : k < ks.length := hk
  obtain ⟨b, o, e, hn, g⟩ := f11 k ks[k].enc (by simp [hk])
  have hc12 : ks[k].enc.cells.length = 12 := (okc_cells (Pr.okc_enc _)).1
  obtain ⟨u, h1, h2, h3⟩ := g 0 (i ks[k].kind) (by cases ks[k]; rw [Pr.enc_mk]; rfl)
  rw [hc12] at g
  rw [hc12, Nat.add_zero] at h1 h3
  rw [int_inv h2] at h1
  refine ⟨b, o, e, hn, fun j hj => ?_, ⟨_, h1⟩, h3 h0⟩
  obtain ⟨u, h1, h2, _⟩ := g j (ks[k].enc.cells[j]'(by omega)) (List.getElem?_eq_getElem _)
  exact ⟨u, h1, oneCell_of_rep h2 (okc_all (Pr.okc_enc ks[k]) _ (List.getElem_mem _))⟩
 ·have hk : k < ks.length := hk
  obtain ⟨b', o', e', hn, g⟩ := f11 k ks[k].enc (by simp [hk])
  rw [e] at e'; cases e'
  have hc12 : ks[k].enc.cells.length = 12 := (okc_cells (Pr.okc_enc _)).1
  rw [hc12] at g
  refine ih ks[k] (List.getElem_mem hk) _ fun j y hy => ?_
  obtain ⟨u, h1, h2, _⟩ := g j y hy
  exact ⟨u, h1, h2⟩
end
end Go.Proofs.YtjekkidhbnkiaaaDoor.Tx

/- Contracts (Wk213, Wk214, Wk216, Wk136). -/
import Derived.Test.YtbfjpjllaibooaaGreatWk33
import Derived.Test.YtbfjpjllaibooaaGreatWk134
set_option linter.all false
/- Bounds of what comes in; the reference's copy of a process; marks. -/
namespace Go.Proofs.YtbfjpjllaibooaaGreat.Tx
open Go.Lf Go.Lf.S Go.Lf.Duo
set_option maxRecDepth 100000
/-- numbers of the machine, and lists of bounded lengths, throughout -/
inductive Bd (m : Nat) : PV → Prop
 | int (k : IntKind) (n : Int) (h : k = .i64 → -9223372036854775808 ≤ n ∧ n ≤ 9223372036854775807) : Bd m (.int k n)
 | bool (b : Bool) : Bd m (.bool b)
 | str (s : ByteArray) : Bd m (.str s)
 | sl (l : List PV) (hl : l.length ≤ m) (h : ∀ x ∈ l, Bd m x) : Bd m (.sl l)
 | agg (l : List PV) (h : ∀ x ∈ l, Bd m x) : Bd m (.agg l)
theorem Bd.cells {m : Nat} {x : PV} (h : Bd m x) : ∀ y ∈ x.cells, Bd m y := by
 cases h with
 | agg l h => exact h
 | int k n h => intro y hy; obtain rfl := List.mem_singleton.1 hy; exact .int k n h
 | bool b => intro y hy; obtain rfl := List.mem_singleton.1 hy; exact .bool b
 | str s => intro y hy; obtain rfl := List.mem_singleton.1 hy; exact .str s
 | sl l hl h => intro y hy; obtain rfl := List.mem_singleton.1 hy; exact .sl l hl h
theorem sum_mem3 : ∀ {l : List Nat} {x : Nat}, x ∈ l → x ≤ l.sum
 | [], _, h => by cases h
 | y :: l, x, h => by
  rw [List.sum_cons]
  rcases List.mem_cons.1 h with rfl | h
  ·omega
  ·have := sum_mem3 h; omega
theorem len_sum3 : ∀ {l : List Nat}, (∀ x ∈ l, 1 ≤ x) → l.length ≤ l.sum
 | [], _ => by simp
 | y :: l, h => by
  rw [List.sum_cons, List.length_cons]
  have := len_sum3 fun x hx => h x (List.mem_cons_of_mem _ hx)
  have := h y List.mem_cons_self
  omega
theorem hasT_pos3 {Q : Program} {t : Nat} {x : PV} {m : Nat} (h : HasT Q t x m) : 1 ≤ m := by
 cases h <;> omega
theorem bd_of {Q : Program} {t : Nat} {x : PV} {m : Nat} (h : HasT Q t x m) : ∀ M, m ≤ M → Bd M x := by
 induction h with
 | int t k n m ht hw hm => exact fun M _ => .int k n fun e => by subst e; simp only [Lit.wf, Bool.and_eq_true, decide_eq_true_eq] at hw; exact hw
 | bool t b m ht hm => exact fun M _ => .bool b
 | str t s m ht hw hm => exact fun M _ => .str s
 | sl t e l ms m ht hl hms hh hm ih =>
  intro M hM
  have h1 : ∀ x ∈ ms, 1 ≤ x := fun x hx => by
   obtain ⟨j, hj, rfl⟩ := List.getElem_of_mem hx
   exact hasT_pos3 (hh j (l[j]'(by omega)) ms[j] (List.getElem?_eq_getElem (by omega)) (List.getElem?_eq_getElem hj))
  have := len_sum3 h1
  refine .sl l (by omega) fun x hx => ?_
  obtain ⟨j, hj, rfl⟩ := List.getElem_of_mem hx
  have hs := sum_mem3 (l := ms) (x := ms[j]'(by omega)) (List.getElem_mem _)
  exact ih j l[j] (ms[j]'(by omega)) (List.getElem?_eq_getElem hj) (List.getElem?_eq_getElem (by omega)) M (by omega)
 | agg t fs xs ms m ht hl hms hh hm ih =>
  intro M hM
  refine .agg _ fun y hy => ?_
  obtain ⟨x, hx, hy⟩ := List.mem_flatMap.1 hy
  obtain ⟨j, hj, rfl⟩ := List.getElem_of_mem hx
  have hs := sum_mem3 (l := ms) (x := ms[j]'(by omega)) (List.getElem_mem _)
  exact (ih j (fs[j]'(by omega)) xs[j] (ms[j]'(by omega)) (Array.getElem?_eq_getElem (by omega)) (List.getElem?_eq_getElem hj) (List.getElem?_eq_getElem (by omega)) M (by omega)).cells y hy
theorem Bd.sl_inv {m : Nat} {l : List PV} (h : Bd m (.sl l)) : l.length ≤ m ∧ ∀ x ∈ l, Bd m x := by cases h; exact ⟨‹_›, ‹_›⟩
theorem Bd.agg_inv {m : Nat} {l : List PV} (h : Bd m (.agg l)) : ∀ x ∈ l, Bd m x := by cases h; assumption
theorem Bd.int_inv {m : Nat} {n : Int} (h : Bd m (i n)) : IntKind.i64.wrap n = n := by
 cases h with
 | int _ _ h =>
  have := h rfl
  exact wrap_in (by omega) (by omega)
inductive TBd (m : Nat) : Ty → Prop
 | mk (t : Ty) (hp : IntKind.i64.wrap t.prio = t.prio) (h1 : t.labels.length ≤ m) (h2 : t.kids.length ≤ m) (h : ∀ k ∈ t.kids, TBd m k) : TBd m t
inductive PBd (m : Nat) : Pr → Prop
 | mk (p : Pr) (h1 : p.labels.length ≤ m) (h2 : p.args.length ≤ m) (h3 : p.kids.length ≤ m) (ht : TBd m p.t) (h : ∀ k ∈ p.kids, PBd m k) : PBd m p
theorem tbd_of {m : Nat} : ∀ (t : Ty), Bd m t.enc → TBd m t := by
 intro t
 induction t using Ty.ind with
 | _ t ih =>
 intro h
 obtain ⟨kd, p, nm, s, ls, ks⟩ := t
 rw [Ty.enc_mk] at h
 have h := h.agg_inv
 have h1 := (h (i p) (by simp)).int_inv
 have h4 := (h (.sl (ls.map .str)) (by simp)).sl_inv
 have h5 := (h (.sl (ks.map Ty.enc)) (by simp)).sl_inv
 rw [List.length_map] at h4 h5
 exact .mk _ h1 h4.1 h5.1 fun k hk => ih k hk (h5.2 _ (List.mem_map_of_mem hk))
theorem pbd_of {m : Nat} : ∀ (p : Pr), Bd m p.enc → PBd m p := by
 intro p
 induction p using Pr.ind with
 | _ p ih =>
 intro h
 obtain ⟨k, ch, v, ls, ar, t, ks⟩ := p
 rw [Pr.enc_mk] at h
 have h := h.agg_inv
 have h3 := (h (.sl (ls.map .str)) (by simp)).sl_inv
 have h4 := (h (.sl (ar.map Vl.enc)) (by simp)).sl_inv
 have h11 := (h (.sl (ks.map Pr.enc)) (by simp)).sl_inv
 have ht : Bd m t.enc := by
  rw [Ty.enc_cs]
  refine .agg _ fun x hx => h x ?_
  simp only [Ty.cs, List.mem_cons, List.not_mem_nil, or_false] at hx
  rcases hx with rfl | rfl | rfl | rfl | rfl | rfl <;> simp
 rw [List.length_map] at h3 h4 h11
 exact .mk _ h3.1 h4.1 h11.1 (tbd_of t ht) fun x hx => ih x hx (h11.2 _ (List.mem_map_of_mem hx))
theorem TBd.ln {m : Nat} (hm : m ≤ 549755813888) : ∀ {t : Ty}, TBd m t → Ln t := by
 intro t
 induction t using Ty.ind with
 | _ t ih =>
 intro h
 cases h with
 | mk _ hp h1 h2 h => exact .mk t (by omega) (by omega) fun k hk => ih k hk (h k hk)
theorem TBd.raise0 {m : Nat} : ∀ {t : Ty}, TBd m t → raiseT 0 t = t := by
 intro t
 induction t using Ty.ind with
 | _ t ih =>
 intro h
 cases h with
 | mk _ hp h1 h2 h =>
 obtain ⟨kd, p, nm, s, ls, ks⟩ := t
 have hp : IntKind.i64.wrap p = p := hp
 rw [raiseT_mk]
 congr 1
 ·split
  ·unfold ad; rw [Int.add_zero]; exact hp
  ·rfl
 ·conv => rhs; rw [← List.map_id ks]
  exact List.map_congr_left fun x hx => ih x hx (h x hx)
theorem TBd.mono {m m' : Nat} (hm : m ≤ m') : ∀ {t : Ty}, TBd m t → TBd m' t := by
 intro t
 induction t using Ty.ind with
 | _ t ih =>
 intro h
 cases h with
 | mk _ hp h1 h2 h => exact .mk t hp (by omega) (by omega) fun k hk => ih k hk (h k hk)
theorem PBd.mono {m m' : Nat} (hm : m ≤ m') : ∀ {p : Pr}, PBd m p → PBd m' p := by
 intro p
 induction p using Pr.ind with
 | _ p ih =>
 intro h
 cases h with
 | mk _ h1 h2 h3 ht h => exact .mk p (by omega) (by omega) (by omega) (ht.mono hm) fun k hk => ih k hk (h k hk)
theorem TBd.cut {m : Nat} : ∀ {t : Ty}, TBd m t → TLm t → TBd 549755813888 t := by
 intro t
 induction t using Ty.ind with
 | _ t ih =>
 intro h hl
 cases h with
 | mk _ hp h1 h2 h =>
 cases hl with
 | mk _ g1 g2 g => exact .mk t hp g1 g2 fun k hk => ih k hk (h k hk) (g k hk)
theorem PBd.cut {m : Nat} : ∀ {p : Pr}, PBd m p → PLm p → PBd 549755813888 p := by
 intro p
 induction p using Pr.ind with
 | _ p ih =>
 intro h hl
 cases h with
 | mk _ h1 h2 h3 ht h =>
 cases hl with
 | mk _ g1 g2 g3 gt g => exact .mk p g1 g2 g3 (ht.cut gt) fun k hk => ih k hk (h k hk) (g k hk)
theorem sb_pt3 (k : Int) (ch v : ByteArray) (ls : List ByteArray) (ar : List Vl) (t : Ty) (ks : List Pr) : sb 5 6 (.agg [i k, .str ch, .str v, .sl (ls.map .str), .sl (ar.map Vl.enc), i t.kind, i t.prio, .str t.name, i t.shift, .sl (t.labels.map .str), .sl (t.kids.map Ty.enc), .sl (ks.map Pr.enc)]) = t.enc := by
 cases t; rw [Ty.enc_mk]; rfl
theorem ok_rCopy3 : ∀ p : Pr, PBd 549755813888 p → Ok P F.ref03_Copy [p.enc] p.enc := by
 intro p
 induction p using Pr.ind with
 | _ p ih =>
 intro h
 cases h with
 | mk _ h1 h2 h3 ht h =>
 obtain ⟨k, ch, v, ls, ar, t, ks⟩ := p
 have h1 : ls.length ≤ 549755813888 := h1
 have h2 : ar.length ≤ 549755813888 := h2
 have h3 : ks.length ≤ 549755813888 := h3
 have ht : TBd 549755813888 t := ht
 have hT := ok_ref02_Raise t 0 (ht.ln (by omega))
 rw [ht.raise0] at hT
 have ih : ∀ x ∈ ks, Ok P F.ref03_Copy [x.enc] x.enc := fun x hx => ih x hx (h x hx)
 rw [Pr.enc_mk]
 rw [← sb_pt3 k ch v ls ar t ks] at hT
 refine k_ref03_Copy _ _ rfl (d_l (.agg [i k, .str ch, .str v, .sl (ls.map .str), .sl (ar.map Vl.enc), i t.kind, i t.prio, .str t.name, i t.shift, .sl (t.labels.map .str), .sl (t.kids.map Ty.enc), .sl (ks.map Pr.enc)]) rfl fun _ => d_l (.agg [i k, .str ch, .str v, .sl (ls.map .str), .sl (ar.map Vl.enc), i t.kind, i t.prio, .str t.name, i t.shift, .sl (t.labels.map .str), .sl (t.kids.map Ty.enc), .sl (ks.map Pr.enc)]) rfl fun _ =>
  d_l (.sl []) rfl fun _ => d_l (.sl (ls.map .str)) (e_app (l := []) (m := ls.map .str) (all_map okc_str _) (by simp; omega) (by simp; omega)) fun _ => d_l (.sl []) rfl fun _ => d_l (.sl (ar.map Vl.enc)) (e_app (l := []) (m := ar.map Vl.enc) (all_map Vl.okc_enc _) (by simp; omega) (by simp; omega)) fun _ => d_call hT (d_l t.enc (by rw [sb_pt3]; exact e_okc (Ty.okc_enc t)) fun _ => ?_))
 refine den_rounds (fun j => [i j, i k, .str ch, .str v, .sl (ls.map .str), .sl (ar.map Vl.enc), i t.kind, i t.prio, .str t.name, i t.shift, .sl (t.labels.map .str), .sl (t.kids.map Ty.enc), .sl ((ks.take j).map Pr.enc)]) ks.length (by cases t; rw [Ty.enc_mk]; rfl) (fun j hj => ?_) ?_
 ·refine d_l _ (len_eq ks) fun _ => d_l (.bool (decide ((j : Int) < (ks.length : Int)))) rfl fun _ => d_dec (p := (j : Int) < (ks.length : Int)) (fun h => ?_) fun h => absurd (show (j : Int) < (ks.length : Int) by omega) h
  refine d_l _ (e_idx (mp_at (f := Pr.enc) hj) (Pr.okc_enc _)) fun _ => d_call (ih _ (List.getElem_mem hj)) (d_l (.sl [ks[j].enc]) (e_lst fun x hx => by simp at hx; subst hx; exact Pr.okc_enc _) fun _ => d_l (.sl ((ks.take j).map Pr.enc ++ [ks[j].enc])) (e_app (l := (ks.take j).map Pr.enc) (m := [ks[j].enc]) (fun x hx => by simp at hx; subst hx; exact Pr.okc_enc _) (by simp; omega) (by simp; omega)) fun _ => d_l _ (e_inc (by omega)) fun _ => d_cont rfl ?_)
  rw [List.take_succ_eq_append_getElem hj, List.map_append]; rfl
 ·refine d_l _ (len_eq ks) fun _ => d_l (.bool (decide ((ks.length : Int) < (ks.length : Int)))) rfl fun _ => d_dec (p := (ks.length : Int) < (ks.length : Int)) (fun h => by omega) fun _ => d_ret ?_
  rw [List.take_length]; rfl
end Go.Proofs.YtbfjpjllaibooaaGreat.Tx
/- From marks to none and back; calls by their contracts in a walk. -/
namespace Go.Proofs.YtbfjpjllaibooaaGreat.Tx
open Go.Lf Go.Lf.S Go.Lf.Duo Go.RowKit
set_option maxRecDepth 100000
section
variable {Fr : Nat → Nat → Prop} {w : World}
/-- what is said of new memory is forgotten -/
theorem rep_weak (M : Mk) {v : Value} {x : PV} (h : @Rep M Fr w v x) : @Rep mk0 Fr w v x := by
 induction h with
 | int k n => exact @Rep.int mk0 _ _ k n
 | bool b => exact @Rep.bool mk0 _ _ b
 | str s => exact @Rep.str mk0 _ _ s
 | nilI => exact @Rep.nilI mk0 _ _
 | nilF => exact @Rep.nilF mk0 _ _
 | nilP => exact @Rep.nilP mk0 _ _
 | agg cs xs hl hc _ ih => exact @Rep.agg mk0 _ _ cs xs hl hc ih
 | tup cs xs hl _ ih => exact @Rep.tup mk0 _ _ cs xs hl ih
 | sl0 p => exact @Rep.sl0 mk0 _ _ p
 | sl b o cap n xs g hcap hm hn hc hg _ hk ih => exact @Rep.sl mk0 _ _ b o cap n xs g hcap hm hn hc hg ih ⟨Nat.zero_le _, fun h => absurd h (Nat.lt_irrefl 0)⟩
 | msl0 p => exact @Rep.msl0 mk0 _ _ p
 | msl b o cap n xs g hcap hm hn hc hg _ ih => exact @Rep.msl mk0 _ _ b o cap n xs g hcap hm hn hc hg ih
 | fn f a c xs ys ha hc _ _ i1 i2 => exact @Rep.fn mk0 _ _ f a c xs ys ha hc i1 i2
 | box b o x g hc hg _ ih => exact @Rep.box mk0 _ _ b o x g hc hg ih
 | ifc t v x _ ih => exact @Rep.ifc mk0 _ _ t v x ih
 | nilM => exact @Rep.nilM mk0 _ _
 | mp r clock es ks vs hb hF' hk hv _ _ i1 i2 => exact @Rep.mp mk0 _ _ r clock es ks vs hb hF' hk hv i1 i2
mutual
/-- slices of which it is not said where they lie, throughout -/
def mrk : PV → PV
 | .agg l => .agg (mrks l)
 | .sl l => .msl (mrks l)
 | x => x
def mrks : List PV → List PV
 | [] => []
 | x :: l => mrk x :: mrks l
end
theorem mrks_eq : ∀ l : List PV, mrks l = l.map mrk
 | [] => rfl
 | x :: l => by simp [mrks, mrks_eq l]
mutual
/-- numbers, texts, aggregates, slices -/
def pln : PV → Bool
 | .agg l => plns l
 | .sl l => plns l
 | .int _ _ => true
 | .bool _ => true
 | .str _ => true
 | _ => false
def plns : List PV → Bool
 | [] => true
 | x :: l => pln x && plns l
end
theorem plns_mem : ∀ {l : List PV}, plns l = true → ∀ x ∈ l, pln x = true
 | [], _, _, h => by cases h
 | y :: l, h, x, hx => by
  simp only [plns, Bool.and_eq_true] at h
  rcases List.mem_cons.1 hx with rfl | hx
  ·exact h.1
  ·exact plns_mem h.2 x hx
theorem plns_of : ∀ {l : List PV}, (∀ x ∈ l, pln x = true) → plns l = true
 | [], _ => rfl
 | y :: l, h => by
  simp only [plns, Bool.and_eq_true]
  exact ⟨h y List.mem_cons_self, plns_of fun x hx => h x (List.mem_cons_of_mem _ hx)⟩
theorem mrk_cells (x : PV) : (mrk x).cells = x.cells.map mrk := by
 cases x <;> simp [mrk, PV.cells, mrks_eq]
theorem mrk_cell {x : PV} (h : x.isCell = true) : (mrk x).isCell = true := by
 cases x <;> simp_all [mrk, PV.isCell]
theorem pln_cells {x : PV} (h : pln x = true) : ∀ y ∈ x.cells, pln y = true := by
 cases x <;> simp_all [PV.cells, pln]
 exact plns_mem h
theorem rep_mrk (M : Mk) {v : Value} {x : PV} (h : @Rep mk0 Fr w v x) : pln x = true → @Rep M Fr w v (mrk x) := by
 induction h with
 | int k n => exact fun _ => @Rep.int M _ _ k n
 | bool b => exact fun _ => @Rep.bool M _ _ b
 | str s => exact fun _ => @Rep.str M _ _ s
 | agg cs xs hl hc _ ih =>
  intro hp
  simp only [pln] at hp
  simp only [mrk, mrks_eq]
  refine @Rep.agg M _ _ cs _ (by rw [List.length_map]; exact hl) (fun x hx => ?_) fun i c x h1 h2 => ?_
  ·obtain ⟨y, hy, rfl⟩ := List.mem_map.1 hx
   exact mrk_cell (hc y hy)
  ·rw [List.getElem?_map, Option.map_eq_some_iff] at h2
   obtain ⟨y, hy, rfl⟩ := h2
   exact ih i c y h1 hy (plns_mem hp y (List.mem_of_getElem? hy))
 | sl0 p => exact fun _ => @Rep.msl0 M _ _ p
 | sl b o cap n xs g hcap hm hn hc hg _ hk ih =>
  intro hp
  simp only [pln] at hp
  simp only [mrk, mrks_eq]
  have at_ : ∀ (i : Nat) (x : PV) (j : Nat) (y : PV), (xs.map mrk)[i]? = some x → x.cells[j]? = some y → ∃ x' y', xs[i]? = some x' ∧ x'.cells[j]? = some y' ∧ y = mrk y' := fun i x j y h1 h2 => by
   rw [List.getElem?_map, Option.map_eq_some_iff] at h1
   obtain ⟨x', hx', rfl⟩ := h1
   rw [mrk_cells, List.getElem?_map, Option.map_eq_some_iff] at h2
   obtain ⟨y', hy', rfl⟩ := h2
   exact ⟨x', y', hx', hy', rfl⟩
  have := @Rep.msl M Fr w b o cap n (xs.map mrk) g (by rw [List.length_map]; exact hcap) hm (fun x hx => by
    obtain ⟨y, hy, rfl⟩ := List.mem_map.1 hx
    rw [mrk_cells, List.length_map]; exact hn y hy) (fun x hx y hy => by
    obtain ⟨x', hx', rfl⟩ := List.mem_map.1 hx
    rw [mrk_cells] at hy
    obtain ⟨y', hy', rfl⟩ := List.mem_map.1 hy
    exact mrk_cell (hc x' hx' y' hy')) (fun i x j y h1 h2 => by
    obtain ⟨x', y', e1, e2, rfl⟩ := at_ i x j y h1 h2
    exact hg i x' j y' e1 e2) fun i x j y h1 h2 => by
    obtain ⟨x', y', e1, e2, rfl⟩ := at_ i x j y h1 h2
    exact ih i x' j y' e1 e2 (pln_cells (plns_mem hp x' (List.mem_of_getElem? e1)) y' (List.mem_of_getElem? e2))
  rwa [List.length_map] at this
 | nilI | nilF | nilP | nilM => intro hp; cases hp
 | tup | msl0 | msl | fn | box | ifc | mp => intro hp; cases hp
theorem pln_str (l : List ByteArray) : plns (l.map .str) = true := plns_of fun x hx => by obtain ⟨y, _, rfl⟩ := List.mem_map.1 hx; rfl
theorem mrk_str (l : List ByteArray) : mrks (l.map .str) = l.map .str := by
 rw [mrks_eq, List.map_map]; rfl
theorem pln_ty : ∀ t : Ty, pln t.enc = true := by
 intro t
 induction t using Ty.ind with
 | _ t ih =>
 obtain ⟨kd, p, nm, s, ls, ks⟩ := t
 rw [Ty.enc_mk]
 simp only [pln, plns, pln_str, Bool.true_and, Bool.and_true]
 exact plns_of fun x hx => by obtain ⟨y, hy, rfl⟩ := List.mem_map.1 hx; exact ih y hy
theorem mrk_ty : ∀ t : Ty, mrk t.enc = Ty.menc t := by
 intro t
 induction t using Ty.ind with
 | _ t ih =>
 obtain ⟨kd, p, nm, s, ls, ks⟩ := t
 rw [Ty.enc_mk, Ty.menc_mk]
 have h1 : mrks (ks.map Ty.enc) = ks.map Ty.menc := by rw [mrks_eq, List.map_map]; exact List.map_congr_left fun x hx => ih x hx
 simp only [mrk, mrks, mrk_str, h1]
theorem mrk_vl (l : List Vl) : mrks (l.map Vl.enc) = l.map Vl.enc := by
 rw [mrks_eq, List.map_map]; rfl
theorem pln_vl (l : List Vl) : plns (l.map Vl.enc) = true := plns_of fun x hx => by obtain ⟨y, _, rfl⟩ := List.mem_map.1 hx; rfl
theorem pln_pr : ∀ p : Pr, pln p.enc = true := by
 intro p
 induction p using Pr.ind with
 | _ p ih =>
 obtain ⟨k, ch, v, ls, ar, t, ks⟩ := p
 rw [Pr.enc_mk]
 have h1 : plns (t.kids.map Ty.enc) = true := plns_of fun x hx => by obtain ⟨y, hy, rfl⟩ := List.mem_map.1 hx; exact pln_ty y
 have h2 : plns (ks.map Pr.enc) = true := plns_of fun x hx => by obtain ⟨y, hy, rfl⟩ := List.mem_map.1 hx; exact ih y hy
 simp only [pln, plns, pln_str, pln_vl, h1, h2, Bool.true_and, Bool.and_true]
theorem mrk_pr : ∀ p : Pr, mrk p.enc = Pr.menc p := by
 intro p
 induction p using Pr.ind with
 | _ p ih =>
 obtain ⟨k, ch, v, ls, ar, t, ks⟩ := p
 have h1 : mrks (t.kids.map Ty.enc) = t.kids.map Ty.menc := by rw [mrks_eq, List.map_map]; exact List.map_congr_left fun x _ => mrk_ty x
 have h2 : mrks (ks.map Pr.enc) = ks.map Pr.menc := by rw [mrks_eq, List.map_map]; exact List.map_congr_left fun x hx => ih x hx
 rw [Pr.enc_mk, Pr.menc_mk]
 simp only [mrk, mrks, mrk_str, mrk_vl, h1, h2]
def scB : PV → Bool
 | .int _ _ => true
 | .bool _ => true
 | .str _ => true
 | _ => false
theorem rep_sc (M N : Mk) {v : Value} {x : PV} (h : @Rep M Fr w v x) (hs : scB x = true) : @Rep N Fr w v x := by
 cases h <;> simp only [scB, Bool.false_eq_true] at hs
 ·exact @Rep.int N _ _ _ _
 ·exact @Rep.bool N _ _ _
 ·exact @Rep.str N _ _ _
theorem rep_box (M N : Mk) {v : Value} {x : PV} (h : @Rep M Fr w v (.box x)) (hs : ∀ y ∈ x.cells, scB y = true) : @Rep N Fr w v (.box x) := by
 cases h with
 | box b o _ g hc hg h => exact @Rep.box N _ _ b o x g hc hg fun j y hy => rep_sc M N (h j y hy) (hs y (List.mem_of_getElem? hy))
theorem gl_sc : (gl.l.all fun e => e.2.1.cells.all scB) = true := by kernel_rfl
theorem glok_to (M N : Mk) (h : @GlOk M gl Fr w) (hn : N.n ≤ w.heap.size) : @GlOk N gl Fr w := ⟨hn, fun e he => by
 obtain ⟨h1, h2, h3⟩ := h.2 e he
 exact ⟨h1, rep_box M N h2 (List.all_eq_true.1 (List.all_eq_true.1 gl_sc e he)), h3⟩⟩
end
/-- behind a call that made memory only -/
structure Aft (F1 : Nat → Nat → Prop) (w : World) (F2 : Nat → Nat → Prop) (w' : World) : Prop where
 below : Below w.heap.size w w'
 lt : ∀ b o, F2 b o → b < w'.heap.size
 gl : GlOk F2 w'
 rep : ∀ u x, Rep F1 w u x → Rep F2 w' u x
theorem ok_call {f : Nat} {xs : List PV} {r : PV} (h : Ok P f xs r) {F1 : Nat → Nat → Prop} {w : World} {vs : Array Value} (hF : ∀ b o, F1 b o → b < w.heap.size) (hgl : GlOk F1 w) (hvs : Reps F1 w vs xs) :
  Calls P f vs w fun e w' => ∃ v F2, e = .returned v ∧ Rep F2 w' v r ∧ Aft F1 w F2 w' := by
 refine (h.2 F1 w vs hF hgl hvs).mono ?_
 rintro e w' ⟨v, F2, rfl, hb, h1, _, h3, h4⟩
 have hs : ∀ b o, F1 b o → Same w w' b o := fun b o hf => Same.of_block (hb.block b (hF b o hf)) o
 exact ⟨v, F2, rfl, h4, hb, h3, hgl.mono hb.size h1 hs, fun u x hu => hu.mono h1 hs⟩
theorem call_bool {f : Nat} {xs : List PV} {b : Bool} (h : Ok P f xs (.bool b)) {F1 : Nat → Nat → Prop} {w : World} {vs : Array Value} (hF : ∀ b o, F1 b o → b < w.heap.size) (hgl : GlOk F1 w) (hvs : Reps F1 w vs xs) :
  Calls P f vs w fun e w' => e = .returned (.bool b) ∧ ∃ F2, Aft F1 w F2 w' := by
 refine (ok_call h hF hgl hvs).mono ?_
 rintro e w' ⟨v, F2, rfl, hr, ha⟩
 cases hr
 exact ⟨rfl, F2, ha⟩
theorem Aft.alloc {F1 F2 : Nat → Nat → Prop} {w w' : World} (h : Aft F1 w F2 w') (o : Obj) : Aft F1 w F2 (w'.alloc o) := by
 have hs : ∀ b q, F2 b q → Same w' (w'.alloc o) b q := fun b q hf => Same.of_block (Below.heap_alloc w' o b (h.lt b q hf)) q
 exact ⟨h.below.alloc h.below.size o, fun b q hf => by have := h.lt b q hf; simp; omega, h.gl.mono (by simp) (fun _ _ h => h) hs, fun u x hu => (h.rep u x hu).mono (fun _ _ h => h) hs⟩
theorem Aft.trans {F1 F2 F3 : Nat → Nat → Prop} {a b c : World} (h : Aft F1 a F2 b) (k : Aft F2 b F3 c) : Aft F1 a F3 c :=
 ⟨h.below.trans (k.below.mono h.below.size), k.lt, k.gl, fun u x hu => k.rep u x (h.rep u x hu)⟩
theorem Aft.refl {F1 : Nat → Nat → Prop} {w : World} (hF : ∀ b o, F1 b o → b < w.heap.size) (hgl : GlOk F1 w) : Aft F1 w F1 w := ⟨Below.refl _ _, hF, hgl, fun _ _ h => h⟩
/-- the cells of a box that was there -/
theorem Aft.cell {F1 F2 : Nat → Nat → Prop} {w w' : World} (h : Aft F1 w F2 w') {b o : Nat} {v : Value} (hc : w.cell? ⟨b, o, none⟩ = some v) : w'.cell? ⟨b, o, none⟩ = some v :=
 (World.cell?_of_block (w := w) (a := ⟨b, o, none⟩) (h.below.block b (cell_lt hc))).trans hc
theorem Below.tw {n : Nat} {w w' : World} (h : Below w.heap.size w w') (hn : n ≤ w.heap.size) : Tw n w w' := ⟨h.mono hn, fun a u hu => by
 have hb := h.block a.block (cell_lt hu)
 exact ⟨u, (World.cell?_of_block (w := w) hb).trans hu, .inl rfl, World.frozen?_of_block (w := w) hb⟩⟩
theorem reps1 [Mk] {F1 : Nat → Nat → Prop} {w : World} {v : Value} {x : PV} (h : Rep F1 w v x) : Reps F1 w #[v] [x] := ⟨rfl, fun i u y h1 h2 => by
 match i with
 | 0 => simp at h1 h2; subst h1; subst h2; exact h
 | i + 1 => simp at h2⟩
theorem reps2 [Mk] {F1 : Nat → Nat → Prop} {w : World} {v v' : Value} {x x' : PV} (h : Rep F1 w v x) (h' : Rep F1 w v' x') : Reps F1 w #[v, v'] [x, x'] := ⟨rfl, fun i u y h1 h2 => by
 match i with
 | 0 => simp at h1 h2; subst h1; subst h2; exact h
 | 1 => simp at h1 h2; subst h1; subst h2; exact h'
 | i + 2 => simp at h2⟩
theorem agg_cells [Mk] {F1 : Nat → Nat → Prop} {w : World} {cs : Array Value} {x : PV} (h : Rep F1 w (.agg cs) x) : ∀ (j : Nat) (y : PV), x.cells[j]? = some y → ∃ u, cs[j]? = some u ∧ Rep F1 w u y := by
 cases h with
 | agg _ xs hl hc hr =>
  intro j y hy
  have hy : xs[j]? = some y := hy
  have hj : j < cs.size := by rw [hl]; exact (List.getElem?_eq_some_iff.1 hy).1
  exact ⟨cs[j], Array.getElem?_eq_getElem hj, hr j _ y (Array.getElem?_eq_getElem hj) hy⟩
/-- the cells of a box -/
def Bx (w : World) (b : Nat) (cs : Array Value) : Prop := ∀ (j : Nat) (v : Value), cs[j]? = some v → w.cell? ⟨b, j, none⟩ = some v
theorem box_new (w : World) (cs : Array Value) (t : Nat) : Bx (w.alloc (.cells cs t)) w.heap.size cs := fun j v h => cell_new w cs t j v h
theorem Bx.aft {F1 F2 : Nat → Nat → Prop} {w w' : World} {b : Nat} {cs : Array Value} (h : Bx w b cs) (k : Aft F1 w F2 w') : Bx w' b cs := fun j v hj => k.cell (h j v hj)
theorem Bx.all {w : World} {b : Nat} {c0 c1 c2 c3 c4 c5 c6 c7 c8 c9 c10 c11 : Value} (h : Bx w b #[c0, c1, c2, c3, c4, c5, c6, c7, c8, c9, c10, c11]) :
  w.cell? ⟨b, 0, none⟩ = some c0 ∧ w.cell? ⟨b, 1, none⟩ = some c1 ∧ w.cell? ⟨b, 2, none⟩ = some c2 ∧ w.cell? ⟨b, 3, none⟩ = some c3 ∧ w.cell? ⟨b, 4, none⟩ = some c4 ∧ w.cell? ⟨b, 5, none⟩ = some c5 ∧ w.cell? ⟨b, 6, none⟩ = some c6 ∧ w.cell? ⟨b, 7, none⟩ = some c7 ∧ w.cell? ⟨b, 8, none⟩ = some c8 ∧ w.cell? ⟨b, 9, none⟩ = some c9 ∧ w.cell? ⟨b, 10, none⟩ = some c10 ∧ w.cell? ⟨b, 11, none⟩ = some c11 :=
 ⟨h 0 _ rfl, h 1 _ rfl, h 2 _ rfl, h 3 _ rfl, h 4 _ rfl, h 5 _ rfl, h 6 _ rfl, h 7 _ rfl, h 8 _ rfl, h 9 _ rfl, h 10 _ rfl, h 11 _ rfl⟩
theorem Bx.below {n : Nat} {w w' : World} {b : Nat} {cs : Array Value} (h : Bx w b cs) (k : Below n w w') (hn : w.heap.size ≤ n) : Bx w' b cs := fun j v hj => by
 have hc := h j v hj
 exact (World.cell?_of_block (w := w) (a := ⟨b, j, none⟩) (k.block b (Nat.lt_of_lt_of_le (cell_lt hc) hn))).trans hc
/-- a store into the block that was made last -/
theorem run_store1 {Q : Program} (W : World) (cs : Array Value) (t j : Nat) (v : Value) (hj : j < cs.size) (hv : v.oneCell' = true) : Sem.run Q (store ⟨W.heap.size, j, none⟩ v) (W.alloc (.cells cs t)) = .ok () (W.alloc (.cells (cs.setIfInBounds j v) t)) := by
 have h1 : (W.alloc (.cells cs t)).cell? ⟨W.heap.size, j, none⟩ = some cs[j] := cell_new W cs t j _ (Array.getElem?_eq_getElem hj)
 have hn : (W.alloc (.cells cs t)).heap[W.heap.size]? = some (.cells cs t (0, 0)) := heap_alloc_new W _
 have h2 : (W.alloc (.cells cs t)).frozen? ⟨W.heap.size, j, none⟩ = false := by
  simp only [World.frozen?, hn]
  simp
 have h3 : (W.alloc (.cells cs t)).setCell ⟨W.heap.size, j, none⟩ v = W.alloc (.cells (cs.setIfInBounds j v) t) := by
  have : ((W.alloc (.cells cs t)).setCell ⟨W.heap.size, j, none⟩ v).heap = (W.alloc (.cells (cs.setIfInBounds j v) t)).heap := by
   apply Array.ext_getElem?
   intro i
   by_cases e : i = W.heap.size
   ·subst e
    rw [heap_alloc_new]
    simp only [World.setCell, Array.getElem?_modify, if_true, hn]
    rfl
   ·by_cases hlt : i < W.heap.size
    ·rw [Below.heap_setCell _ _ _ _ e, Below.heap_alloc _ _ _ hlt, Below.heap_alloc _ _ _ hlt]
    ·rw [Array.getElem?_eq_none, Array.getElem?_eq_none]
     ·simp; omega
     ·simp [World.setCell]; omega
  show World.mk _ _ _ _ _ = World.mk _ _ _ _ _
  congr 1
 rw [run_store Q _ _ v .plain hv]
 simp only [stored, h1, h2, h3]
 rfl
end Go.Proofs.YtbfjpjllaibooaaGreat.Tx
/- The pruned program lies in memory of its own: contracts with arguments of which it is not said where they lie. -/
namespace Go.Proofs.YtbfjpjllaibooaaGreat.Tx
open Go.Lf Go.Lf.S Go.Lf.Duo
set_option maxRecDepth 100000
section
variable {Fr : Nat → Nat → Prop} {w : World}
/-- marks are forgotten -/
theorem rep_unmrk (M : Mk) : ∀ {v : Value} {y : PV}, @Rep M Fr w v y → ∀ x, pln x = true → y = mrk x → @Rep mk0 Fr w v x := by
 intro v y h
 induction h with
 | int k n => intro x hp e; cases x <;> simp_all [mrk, pln]; exact @Rep.int mk0 _ _ _ _
 | bool b => intro x hp e; cases x <;> simp_all [mrk, pln]; exact @Rep.bool mk0 _ _ _
 | str s => intro x hp e; cases x <;> simp_all [mrk, pln]; exact @Rep.str mk0 _ _ _
 | agg cs xs hl hc _ ih =>
  intro x hp e
  cases x <;> simp only [mrk, PV.agg.injEq, reduceCtorEq] at e
  rename_i l
  simp only [pln] at hp
  rw [mrks_eq] at e; subst e
  refine @Rep.agg mk0 _ _ cs l (by rw [hl, List.length_map]) (fun x hx => ?_) fun i c x h1 h2 => ih i c (mrk x) h1 (by rw [List.getElem?_map, h2]; rfl) x (plns_mem hp x (List.mem_of_getElem? h2)) rfl
  have := hc (mrk x) (List.mem_map_of_mem hx)
  cases x <;> simp_all [mrk, PV.isCell]
 | msl0 p =>
  intro x hp e
  cases x <;> simp only [mrk, PV.msl.injEq, reduceCtorEq] at e
  ·rename_i l
   rw [mrks_eq] at e
   obtain rfl : l = [] := List.map_eq_nil_iff.1 e.symm
   exact @Rep.sl0 mk0 _ _ p
  ·simp [pln] at hp
 | msl b o cap n xs g hcap hm hn hc hg _ ih =>
  intro x hp e
  cases x <;> simp only [mrk, PV.msl.injEq, reduceCtorEq] at e
  ·rename_i l
   simp only [pln] at hp
   rw [mrks_eq] at e; subst e
   have e1 : ∀ (i : Nat) (x : PV), l[i]? = some x → (l.map mrk)[i]? = some (mrk x) := fun i x h => by rw [List.getElem?_map, h]; rfl
   have e2 : ∀ (x : PV) (j : Nat) (y : PV), x.cells[j]? = some y → (mrk x).cells[j]? = some (mrk y) := fun x j y h => by rw [mrk_cells, List.getElem?_map, h]; rfl
   have := @Rep.sl mk0 Fr w b o cap n l g (by rw [List.length_map] at hcap; exact hcap) hm (fun x hx => by have := hn (mrk x) (List.mem_map_of_mem hx); rwa [mrk_cells, List.length_map] at this) (fun x hx y hy => by
     have := hc (mrk x) (List.mem_map_of_mem hx) (mrk y) (by rw [mrk_cells]; exact List.mem_map_of_mem hy)
     cases y <;> simp_all [mrk, PV.isCell]) (fun i x j y h1 h2 => hg i (mrk x) j (mrk y) (e1 i x h1) (e2 x j y h2)) (fun i x j y h1 h2 => ih i (mrk x) j (mrk y) (e1 i x h1) (e2 x j y h2) y (pln_cells (plns_mem hp x (List.mem_of_getElem? h1)) y (List.mem_of_getElem? h2)) rfl)
    ⟨Nat.zero_le _, fun h => absurd h (Nat.lt_irrefl 0)⟩
   rwa [List.length_map]
  ·simp [pln] at hp
 | sl0 | sl | tup | fn | box | ifc | mp | nilI | nilF | nilP | nilM => intro x hp e; cases x <;> simp_all [mrk, pln]
end
/-- a contract that says nothing of where its data lie, told so -/
theorem ok_lift (M : Mk) {f : Nat} {xs : List PV} {r : PV} (h : @Ok mk0 gl P f xs r) (hx : ∀ x ∈ xs, pln x = true) (hr : pln r = true) : @Ok M gl P f (xs.map mrk) (mrk r) := by
 refine ⟨h.1, fun F1 w vs hF hgl hvs => ?_⟩
 have hM := hgl.1
 refine (h.2 F1 w vs hF (glok_to M mk0 hgl (Nat.zero_le _)) ⟨by rw [hvs.1, List.length_map], fun j v x h1 h2 => rep_unmrk M (hvs.2 j v (mrk x) h1 (by rw [List.getElem?_map, h2]; rfl)) x (hx x (List.mem_of_getElem? h2)) rfl⟩).mono ?_
 rintro e w' ⟨v, F2, rfl, hb, h1, h2, h3, h4⟩
 exact ⟨v, F2, rfl, hb, h1, h2, h3, rep_mrk M h4 hr⟩
theorem TLn.tm : ∀ {t : Ty}, TLn t → TLm t := by
 intro t
 induction t using Ty.ind with
 | _ t ih =>
 intro h
 cases h with
 | mk _ h1 h2 h => exact .mk t h1 h2 fun k hk => ih k hk (h k hk)
theorem PLn.pm : ∀ {p : Pr}, PLn p → PLm p := by
 intro p
 induction p using Pr.ind with
 | _ p ih =>
 intro h
 cases h with
 | mk _ h1 h2 h3 ht h => exact .mk p h1 h2 h3 ht.tm fun k hk => ih k hk (h k hk)
/-- a parameter, a definition, of which it is not said where they lie -/
abbrev eM (e : Et) : PV := mrk e.enc
abbrev dM (d : Df) : PV := mrk d.enc
theorem mrk_et (e : Et) : mrk e.enc = .agg (.str e.name :: (Ty.menc e.t).cells) := by
 obtain ⟨s, ⟨a, b, c, d, f, g⟩⟩ := e
 have h1 : mrks (g.map Ty.enc) = g.map Ty.menc := by rw [mrks_eq, List.map_map]; exact List.map_congr_left fun x _ => mrk_ty x
 simp only [Et.enc, Ty.enc_mk, Ty.menc_mk, PV.cells, mrk, mrks, mrk_str, h1]
theorem pln_et (e : Et) : pln e.enc = true := by
 obtain ⟨s, ⟨a, b, c, d, f, g⟩⟩ := e
 have h1 : plns (g.map Ty.enc) = true := plns_of fun x hx => by obtain ⟨y, _, rfl⟩ := List.mem_map.1 hx; exact pln_ty y
 simp only [Et.enc, Ty.enc_mk, PV.cells, pln, plns, pln_str, h1, Bool.true_and, Bool.and_true]
theorem okc_met (e : Et) : (mrk e.enc).okc 7 true = true := by
 obtain ⟨s, ⟨a, b, c, d, f, g⟩⟩ := e
 rw [mrk_et]; simp [Ty.menc_mk, PV.okc, PV.cells, PV.isAg, PV.isCell]
theorem mrk_df (d : Df) : mrk d.enc = .agg (.str d.name :: .msl (d.params.map eM) :: (Pr.menc d.body).cells) := by
 obtain ⟨s, ps, b⟩ := d
 have hb := mrk_pr b
 obtain ⟨k, ch, v, ls, ar, t, ks⟩ := b
 rw [Pr.enc_mk] at hb
 simp only [Df.enc, Pr.enc_mk, PV.cells]
 simp only [mrk, mrks] at hb ⊢
 rw [← hb]
 simp only [PV.cells]
 congr 3
 rw [mrks_eq, List.map_map]; rfl
theorem pln_df (d : Df) : pln d.enc = true := by
 obtain ⟨s, ps, b⟩ := d
 have hb := pln_pr b
 have h1 : plns (ps.map Et.enc) = true := plns_of fun x hx => by obtain ⟨y, _, rfl⟩ := List.mem_map.1 hx; exact pln_et y
 obtain ⟨k, ch, v, ls, ar, t, ks⟩ := b
 rw [Pr.enc_mk] at hb
 simp only [Df.enc, Pr.enc_mk, PV.cells]
 simp only [pln, plns, h1, Bool.true_and] at hb ⊢
 exact hb
theorem okc_mdf (d : Df) : (mrk d.enc).okc 14 true = true := by
 obtain ⟨s, ps, b⟩ := d
 rw [mrk_df]
 cases b; simp [Pr.menc_mk, PV.okc, PV.cells, PV.isAg, PV.isCell]
theorem mrk_pg (p : Pg) : mrk p.enc = .agg (.msl (p.defs.map dM) :: (Pr.menc p.main).cells) := by
 obtain ⟨ds, b⟩ := p
 have hb := mrk_pr b
 obtain ⟨k, ch, v, ls, ar, t, ks⟩ := b
 rw [Pr.enc_mk] at hb
 simp only [Pg.enc, Pr.enc_mk, PV.cells]
 simp only [mrk, mrks] at hb ⊢
 rw [← hb]
 simp only [PV.cells]
 congr 2
 rw [mrks_eq, List.map_map]; rfl
theorem pln_pg (p : Pg) : pln p.enc = true := by
 obtain ⟨ds, b⟩ := p
 have hb := pln_pr b
 have h1 : plns (ds.map Df.enc) = true := plns_of fun x hx => by obtain ⟨y, _, rfl⟩ := List.mem_map.1 hx; exact pln_df y
 obtain ⟨k, ch, v, ls, ar, t, ks⟩ := b
 rw [Pr.enc_mk] at hb
 simp only [Pg.enc, Pr.enc_mk, PV.cells]
 simp only [pln, plns, h1, Bool.true_and] at hb ⊢
 exact hb
section
variable [Mk]
theorem okS_clonePM (ps : List Et) (h : ps.length ≤ 549755813888) : OkS P F.slices_Clone_api_Param_api_Param sg_slices_Clone_api_Param_api_Param [.msl (ps.map eM)] [.sl (ps.map eM)] :=
 m_slices_Clone_api_Param_api_Param _ _ (m_nilq (fun h => d_ret (by rw [h])) (d_l (.sl []) rfl fun _ => d_l _ (m_app (l := []) (m := ps.map eM) (all_map okc_met _) (by simp; omega) (by simp; omega)) fun _ => d_ret (by rw [List.nil_append])))
theorem sb_metA (e : Et) : sb 1 6 (mrk e.enc) = Ty.menc e.t := by
 rw [mrk_et]
 obtain ⟨s, ⟨a, b, c, d, f, g⟩⟩ := e
 simp only [Ty.menc_mk]; rfl
/-- some parameters are copied, the others not yet -/
def half (ps : List Et) (j : Nat) : List PV := (ps.take j).map Et.enc ++ (ps.drop j).map eM
theorem half_len (ps : List Et) (j : Nat) (h : j ≤ ps.length) : (half ps j).length = ps.length := by simp [half]; omega
theorem half_at (ps : List Et) (j : Nat) (h : j < ps.length) : (half ps j)[j]? = some (mrk ps[j].enc) := by
 unfold half
 rw [List.getElem?_append_right (by simp; omega)]
 simp [List.length_take, Nat.min_eq_left (Nat.le_of_lt h), List.getElem?_drop, h]
theorem half_set (ps : List Et) (j : Nat) (h : j < ps.length) : (half ps j).set j ps[j].enc = half ps (j + 1) := by
 unfold half
 have hl : ((ps.take j).map Et.enc).length = j := by simp; omega
 rw [List.set_append, if_neg (by omega), hl, Nat.sub_self, List.drop_eq_getElem_cons h, List.map_cons, List.set_cons_zero, List.take_succ_eq_append_getElem h, List.map_append]
 simp
theorem upd_half (ps : List Et) (j : Nat) (h : j < ps.length) : (Prim.updF 7 1 6 true).ev [.sl (half ps j), i (j : Int), ps[j].t.enc] = some (.sl (half ps (j + 1))) := by
 have hx := half_at ps j h
 show (if (0 : Int) ≤ (j : Int) ∧ (j : Int) < ((half ps j).length : Int) ∧ 1 + 6 ≤ 7 ∧ (ps[j].t.enc).okc 6 true then match (half ps j)[(j : Int).toNat]? with
   | some e => if e.okc 7 true then some (PV.sl ((half ps j).set (j : Int).toNat (.agg (e.cells.take 1 ++ (ps[j].t.enc).cells ++ e.cells.drop (1 + 6))))) else none
   | none => none else none) = _
 rw [if_pos ⟨by omega, by rw [half_len ps j (by omega)]; omega, by omega, Ty.okc_enc _⟩, Int.toNat_natCast, hx]
 simp only [okc_met, if_true]
 have e : PV.agg ((mrk ps[j].enc).cells.take 1 ++ (ps[j].t.enc).cells ++ (mrk ps[j].enc).cells.drop (1 + 6)) = ps[j].enc := by
  rw [mrk_et]
  generalize ps[j] = e
  obtain ⟨s, ⟨a, b, c, d, f, g⟩⟩ := e
  simp only [Et.enc, Ty.enc_mk, Ty.menc_mk]; rfl
 rw [e, half_set ps j h]
theorem ok_copiedM (d : Df) (h : DLn d) : Ok P F.audit_copied [mrk d.enc] d.enc := by
 have hb := ok_pCopyM d.body h.body.pm
 have hps := h.ps
 have hl := h.len
 rw [mrk_df]
 obtain ⟨nm, ps, ⟨k, ch, v, ls, ar, t, ks⟩⟩ := d
 have hl : ps.length ≤ 549755813888 := hl
 simp only [Pr.enc_mk, Pr.menc_mk] at hb
 simp only [Df.enc, Pr.enc_mk, Pr.menc_mk, PV.cells]
 refine k_audit_copied _ _ rfl (d_l (.agg [.str nm, .msl (ps.map eM), i k, .str ch, .str v, .msl (ls.map .str), .msl (ar.map Vl.enc), i t.kind, i t.prio, .str t.name, i t.shift, .msl (t.labels.map .str), .msl (t.kids.map Ty.menc), .msl (ks.map Pr.menc)]) rfl fun _ => d_calls rfl (okS_clonePM ps hl) (d_l _ (by show Prim.len.ev [.sl (ps.map eM)] = some (i (ps.length : Int)); rw [e_len, List.length_map]) fun _ => ?_))
 refine den_rounds (fun j => [i j, .sl (half ps j)]) ps.length (by simp [half]) (fun j hj => ?_) ?_
 ·have hc := ok_tCopyM ps[j].t (hps _ (List.getElem_mem hj)).tm
  rw [← sb_metA] at hc
  have hix := e_idx (n := 7) (a := true) (half_at ps j hj) (okc_met _)
  refine d_l (.bool (decide ((j : Int) < (ps.length : Int)))) rfl fun _ => d_dec (p := (j : Int) < (ps.length : Int)) (fun h => ?_) fun h => absurd (show (j : Int) < (ps.length : Int) by omega) h
  exact d_l _ hix fun _ => d_l _ hix fun _ => d_l _ (e_okc (okc_met _)) fun _ => d_call hc (d_l _ hix fun _ => d_l _ (upd_half ps j hj) fun _ => d_l _ (e_inc (by omega)) fun _ => d_cont rfl rfl)
 ·refine d_l (.bool (decide ((ps.length : Int) < (ps.length : Int)))) rfl fun _ => d_dec (p := (ps.length : Int) < (ps.length : Int)) (fun h => by omega) fun _ => ?_
  have hh : half ps ps.length = ps.map Et.enc := by simp [half]
  rw [hh]
  exact d_call hb (d_l _ rfl fun _ => d_ret rfl)
end
theorem ok_PruneM [M : Mk] (p : Pg) (hb : PB p) (hg : GLn p) : Ok P F.audit_Prune [mrk p.enc] (prunP p).enc := by
 have hm := ok_pCopyM p.main hg.main.pm
 have hR := ok_lift M (ok_Reached27 p hb) (by simp [pln_pg]) (by simp only [pln]; exact pln_str _)
 have hdl := hb.dl
 have hds := hg.defs
 have hrl : (reN p).length ≤ 549755813888 := by
  unfold reN
  rw [List.length_map]
  have := List.length_filter_le (fun d : Df => pb (Rc (gP p) (coll callF p.main) d.name)) p.defs
  omega
 have hC := fun s => ok_lift M (ok_Contains27 (reN p) s hrl) (by simp only [List.mem_cons, List.not_mem_nil, or_false]; rintro x (rfl | rfl) <;> simp only [pln]; exact pln_str _) rfl
 simp only [List.map_cons, List.map_nil, mrk, mrk_str] at hR hC
 rw [mrk_pg] at hR ⊢
 unfold prunP
 generalize reN p = R at *
 obtain ⟨ds, ⟨k, ch, v, ls, ar, t, ks⟩⟩ := p
 simp only [Pg.enc, Pr.enc_mk, Pr.menc_mk, PV.cells] at hm hR ⊢
 refine k_audit_Prune _ _ rfl (d_l (.agg [.msl (ds.map dM), i k, .str ch, .str v, .msl (ls.map .str), .msl (ar.map Vl.enc), i t.kind, i t.prio, .str t.name, i t.shift, .msl (t.labels.map .str), .msl (t.kids.map Ty.menc), .msl (ks.map Pr.menc)]) rfl fun _ => d_call hm (d_l _ rfl fun _ => d_call hR (d_l (i (ds.length : Int)) (m_lenm _ _) fun _ => ?_)))
 refine den_rounds (fun j => [i j, .sl (((ds.take j).filter fun d => pb (d.name ∈ R)).map Df.enc), i k, .str ch, .str v, .sl (ls.map .str), .sl (ar.map Vl.enc), i t.kind, i t.prio, .str t.name, i t.shift, .sl (t.labels.map .str), .sl (t.kids.map Ty.enc), .sl (ks.map Pr.enc)]) ds.length rfl (fun j hj => ?_) ?_
 ·have htk : ds.take (j + 1) = ds.take j ++ [ds[j]] := List.take_succ_eq_append_getElem hj
  have hcp := ok_copiedM ds[j] (hds _ (List.getElem_mem hj))
  have hfl : ((ds.take j).filter fun d => pb (d.name ∈ R)).length ≤ 1000000 := by
   have := List.length_filter_le (fun d : Df => pb (d.name ∈ R)) (ds.take j)
   rw [List.length_take] at this
   have hdl : ds.length ≤ 1000000 := hdl
   omega
  have hdl : ds.length ≤ 1000000 := hdl
  have hnm : c 0 (mrk ds[j].enc) = .str ds[j].name := by rw [mrk_df]; rfl
  refine d_l (.bool (decide ((j : Int) < (ds.length : Int)))) rfl fun _ => d_dec (p := (j : Int) < (ds.length : Int)) (fun h => ?_) fun h => absurd (show (j : Int) < (ds.length : Int) by omega) h
  refine d_l _ (m_idx (mp_at (f := dM) hj) (okc_mdf _)) fun _ => d_l _ (e_okc (okc_mdf _)) fun _ => d_call (by rw [hnm]; exact hC ds[j].name) (d_ite (fun h1 => ?_) fun h1 => ?_)
  ·refine d_call hcp (d_l (.sl [ds[j].enc]) (e_lst fun x hx => by simp at hx; subst hx; exact Df.okc_enc _) fun _ => d_l (.sl (((ds.take j).filter fun d => pb (d.name ∈ R)).map Df.enc ++ [ds[j].enc])) (e_app (m := [ds[j].enc]) (fun x hx => by simp at hx; subst hx; exact Df.okc_enc _) (by simp; omega) (by simp; omega)) fun _ => d_l _ (e_inc (by omega)) fun _ => d_cont rfl ?_)
   rw [htk, List.filter_append, List.filter_cons, h1, List.map_append]
   rfl
  ·refine d_l _ (e_inc (by omega)) fun _ => d_cont rfl ?_
   rw [htk, List.filter_append, List.filter_cons, h1]
   simp
 ·refine d_l (.bool (decide ((ds.length : Int) < (ds.length : Int)))) rfl fun _ => d_dec (p := (ds.length : Int) < (ds.length : Int)) (fun h => by omega) fun _ => d_ret ?_
  rw [List.take_length]; rfl
end Go.Proofs.YtbfjpjllaibooaaGreat.Tx
/- The reference of the package scope: one node and what is below it, exactly. -/
namespace Go.Proofs.YtbfjpjllaibooaaGreat.Tx
open Go.Lf Go.Lf.S Go.Lf.Duo
set_option maxRecDepth 100000
/-! the text, its repeated tails named -/
def n6kids (w k ks g inner : PV) : T PV :=
 .loop [(i 0)] fun y => .l .len [ks] fun x30 => .l (.cmp .lss .i64) [(n y 0), x30] fun x31 => .ite x31
  (.l (.idx 12 true) [ks, (n y 0)] fun x32 => .ite g
   (.call F.ref06_node [w, x32, inner, (.bool true)] fun x33 => .l (.cmp .neq .i64) [x33, (i 0)] fun x34 => .ite x34 (.ret x33) (.l (.arith .add .i64) [(n y 0), (i 1)] fun x35 => .cont 2 [x35]))
   (.l (.cmp .geq .i64) [k, (i 2)] fun x33 => .ite x33
    (.l (.cmp .leq .i64) [k, (i 5)] fun x34 => .call F.ref06_node [w, x32, inner, x34] fun x35 => .l (.cmp .neq .i64) [x35, (i 0)] fun x36 => .ite x36 (.ret x35) (.l (.arith .add .i64) [(n y 0), (i 1)] fun x37 => .cont 2 [x37]))
    (.call F.ref06_node [w, x32, inner, (.bool false)] fun x34 => .l (.cmp .neq .i64) [x34, (i 0)] fun x35 => .ite x35 (.ret x34) (.l (.arith .add .i64) [(n y 0), (i 1)] fun x36 => .cont 2 [x36]))))
  (.ret (i 0))
def n6call (w k ch ar ks g inner : PV) : T PV :=
 .l (.cmp .eql .i64) [k, (i 8)] fun x21 => .ite x21
  (.call F.ref06_Find [w, ch] fun x22 => .l (.cmp .lss .i64) [x22, (i 0)] fun x23 => .ite x23 (.ret (i 4))
   (.l (.idx 14 true) [(c 0 w), x22] fun x24 => .l .len [(c 1 x24)] fun x25 => .l .len [ar] fun x26 => .l (.cmp .neq .i64) [x25, x26] fun x27 => .ite x27 (.ret (i 6))
    (.l .bnot [g] fun x28 => .ite x28 (.ret (i 7)) (n6kids w k ks g inner))))
  (n6kids w k ks g inner)
def n6chk (w k ch ar ks g sc inner : PV) : T PV :=
 .l .len [sc] fun x17 => .loop [x17] fun y18 => .l .len [inner] fun x19 => .l (.cmp .lss .i64) [(n y18 0), x19] fun x20 => .ite x20
  (.l (.idx 1 false) [inner, (n y18 0)] fun x21 => .call F.ref03_In [x21, sc] fun x22 => .ite x22 (.ret (i 5)) (.l (.arith .add .i64) [(n y18 0), (i 1)] fun x23 => .cont 1 [x23]))
  (n6call w k ch ar ks g inner)
def n6inn (w k ch v ar ks g sc : PV) : T PV :=
 .l (.lst 1 false) [] fun x9 => .l (.app 1 false 16) [x9, sc] fun x10 => .l (.cmp .eql .i64) [k, (i 3)] fun x11 => .ite x11
  (.l (.lst 1 false) [v] fun x12 => .l (.app 1 false 16) [x10, x12] fun x13 => .l (.cmp .eql .i64) [k, (i 6)] fun x14 => .ite x14
   (.l (.lst 1 false) [ch, v] fun x15 => .l (.app 1 false 16) [x13, x15] fun x16 => n6chk w k ch ar ks g sc x16)
   (n6chk w k ch ar ks g sc x13))
  (.l (.cmp .eql .i64) [k, (i 6)] fun x12 => .ite x12
   (.l (.lst 1 false) [ch, v] fun x13 => .l (.app 1 false 16) [x10, x13] fun x14 => n6chk w k ch ar ks g sc x14)
   (n6chk w k ch ar ks g sc x10))
def n6args (w k ch v ar ks g sc : PV) : T PV :=
 .loop [(i 0)] fun y6 => .l .len [ar] fun x7 => .l (.cmp .lss .i64) [(n y6 0), x7] fun x8 => .ite x8
  (.l (.idx 3 true) [ar, (n y6 0)] fun x9 => .l (.cmp .eql .i64) [(c 0 x9), (i 1)] fun x10 => .ite x10
   (.l (.idx 3 true) [ar, (n y6 0)] fun x11 => .call F.ref03_In [(c 1 x11), sc] fun x12 => .l .bnot [x12] fun x13 => .ite x13 (.ret (i 4)) (.l (.arith .add .i64) [(n y6 0), (i 1)] fun x14 => .cont 0 [x14]))
   (.l (.arith .add .i64) [(n y6 0), (i 1)] fun x11 => .cont 0 [x11]))
  (n6inn w k ch v ar ks g sc)
def n6T (xs : List PV) : T PV :=
 .l (.okc 13 true) [(n xs 0)] fun x0 => .l (.okc 12 true) [(n xs 1)] fun x1 => .l (.cmp .geq .i64) [(c 0 x1), (i 2)] fun x2 => .ite x2
  (.l (.cmp .leq .i64) [(c 0 x1), (i 5)] fun x3 => .ite x3
   (.call F.ref03_In [(c 1 x1), (n xs 2)] fun x4 => .l .bnot [x4] fun x5 => .ite x5 (.ret (i 4)) (n6args x0 (c 0 x1) (c 1 x1) (c 2 x1) (c 4 x1) (c 11 x1) (n xs 3) (n xs 2)))
   (n6args x0 (c 0 x1) (c 1 x1) (c 2 x1) (c 4 x1) (c 11 x1) (n xs 3) (n xs 2)))
  (n6args x0 (c 0 x1) (c 1 x1) (c 2 x1) (c 4 x1) (c 11 x1) (n xs 3) (n xs 2))
theorem hN6 : TxOk P F.ref06_node 4 n6T := k_ref06_node
end Go.Proofs.YtbfjpjllaibooaaGreat.Tx

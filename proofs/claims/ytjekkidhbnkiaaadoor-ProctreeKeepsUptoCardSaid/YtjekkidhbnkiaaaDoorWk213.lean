/- Bounds of what comes in; the reference's copy of a process; marks. -/
import Derived.Test.YtjekkidhbnkiaaaDoorWk212
import Derived.Test.YtjekkidhbnkiaaaDoorWk33
set_option linter.all false
namespace Go.Proofs.YtjekkidhbnkiaaaDoor.Tx
open Go.Lf Go.Lf.S Go.Lf.Duo
set_option maxRecDepth 100000
/-- numbers of the machine, and lists of bounded lengths, throughout -/
inductive Bd (m : Nat) : PV → Prop
 | int (k : IntKind) (n : Int) (h : k = .i64 → -9223372036854775808 ≤ n ∧ n ≤ 9223372036854775807) : Bd m (.int k n)
 | bool (b : Bool) : Bd m (.bool b)
 | str (s : ByteArray) : Bd m (.str s)
 | sl (l : List PV) (hl : l.length ≤ m) (h : ∀ x ∈ l, Bd m x) : Bd m (.sl l)
 | agg (l : List PV) (h : ∀ x ∈ l, Bd m x) : Bd m (.agg l)
theorem Bd.cells {m : Nat} {x : PV} (h : Bd m x) : ∀ y ∈ x.cells, Bd m y := by
 cases h with
 | agg l h => exact h
 | int k n h => intro y hy; obtain rfl := List.mem_singleton.1 hy; exact .int k n h
 | bool b => intro y hy; obtain rfl := List.mem_singleton.1 hy; exact .bool b
 | str s => intro y hy; obtain rfl := List.mem_singleton.1 hy; exact .str s
 | sl l hl h => intro y hy; obtain rfl := List.mem_singleton.1 hy; exact .sl l hl h
theorem sum_mem3 : ∀ {l : List Nat} {x : Nat}, x ∈ l → x ≤ l.sum
 | [], _, h => by cases h
 | y :: l, x, h => by
  rw [List.sum_cons]
  rcases List.mem_cons.1 h with rfl | h
  ·omega
  ·have := sum_mem3 h; omega
theorem len_sum3 : ∀ {l : List Nat}, (∀ x ∈ l, 1 ≤ x) → l.length ≤ l.sum
 | [], _ => by simp
 | y :: l, h => by
  rw [List.sum_cons, List.length_cons]
  have := len_sum3 fun x hx => h x (List.mem_cons_of_mem _ hx)
  have := h y List.mem_cons_self
  omega
theorem hasT_pos3 {Q : Program} {t : Nat} {x : PV} {m : Nat} (h : HasT Q t x m) : 1 ≤ m := by
 cases h <;> omega
theorem bd_of {Q : Program} {t : Nat} {x : PV} {m : Nat} (h : HasT Q t x m) : ∀ M, m ≤ M → Bd M x := by
 induction h with
 | int t k n m ht hw hm => exact fun M _ => .int k n fun e => by subst e; simp only [Lit.wf, Bool.and_eq_true, decide_eq_true_eq] at hw; exact hw
 | bool t b m ht hm => exact fun M _ => .bool b
 | str t s m ht hw hm => exact fun M _ => .str s
 | sl t e l ms m ht hl hms hh hm ih =>
  intro M hM
  have h1 : ∀ x ∈ ms, 1 ≤ x := fun x hx => by
   obtain ⟨j, hj, rfl⟩ := List.getElem_of_mem hx
   exact hasT_pos3 (hh j (l[j]'(by omega)) ms[j] (List.getElem?_eq_getElem (by omega)) (List.getElem?_eq_getElem hj))
  have := len_sum3 h1
  refine .sl l (by omega) fun x hx => ?_
  obtain ⟨j, hj, rfl⟩ := List.getElem_of_mem hx
  have hs := sum_mem3 (l := ms) (x := ms[j]'(by omega)) (List.getElem_mem _)
  exact ih j l[j] (ms[j]'(by omega)) (List.getElem?_eq_getElem hj) (List.getElem?_eq_getElem (by omega)) M (by omega)
 | agg t fs xs ms m ht hl hms hh hm ih =>
  intro M hM
  refine .agg _ fun y hy => ?_
  obtain ⟨x, hx, hy⟩ := List.mem_flatMap.1 hy
  obtain ⟨j, hj, rfl⟩ := List.getElem_of_mem hx
  have hs := sum_mem3 (l := ms) (x := ms[j]'(by omega)) (List.getElem_mem _)
  exact (ih j (fs[j]'(by omega)) xs[j] (ms[j]'(by omega)) (Array.getElem?_eq_getElem (by omega)) (List.getElem?_eq_getElem hj) (List.getElem?_eq_getElem (by omega)) M (by omega)).cells y hy
theorem Bd.sl_inv {m : Nat} {l : List PV} (h : Bd m (.sl l)) : l.length ≤ m ∧ ∀ x ∈ l, Bd m x := by cases h; exact ⟨‹_›, ‹_›⟩
theorem Bd.agg_inv {m : Nat} {l : List PV} (h : Bd m (.agg l)) : ∀ x ∈ l, Bd m x := by cases h; assumption
theorem Bd.int_inv {m : Nat} {n : Int} (h : Bd m (i n)) : IntKind.i64.wrap n = n := by
 cases h with
 | int _ _ h =>
  have := h rfl
  exact wrap_in (by omega) (by omega)
inductive TBd (m : Nat) : Ty → Prop
 | mk (t : Ty) (hp : IntKind.i64.wrap t.prio = t.prio) (h1 : t.labels.length ≤ m) (h2 : t.kids.length ≤ m) (h : ∀ k ∈ t.kids, TBd m k) : TBd m t
inductive PBd (m : Nat) : Pr → Prop
 | mk (p : Pr) (h1 : p.labels.length ≤ m) (h2 : p.args.length ≤ m) (h3 : p.kids.length ≤ m) (ht : TBd m p.t) (h : ∀ k ∈ p.kids, PBd m k) : PBd m p
theorem tbd_of {m : Nat} : ∀ (t : Ty), Bd m t.enc → TBd m t := by
 intro t
 induction t using Ty.ind with
 | _ t ih =>
 intro h
 obtain ⟨kd, p, nm, s, ls, ks⟩ := t
 rw [Ty.enc_mk] at h
 have h := h.agg_inv
 have h1 := (h (i p) (by simp)).int_inv
 have h4 := (h (.sl (ls.map .str)) (by simp)).sl_inv
 have h5 := (h (.sl (ks.map Ty.enc)) (by simp)).sl_inv
 rw [List.length_map] at h4 h5
 exact .mk _ h1 h4.1 h5.1 fun k hk => ih k hk (h5.2 _ (List.mem_map_of_mem hk))
theorem pbd_of {m : Nat} : ∀ (p : Pr), Bd m p.enc → PBd m p := by
 intro p
 induction p using Pr.ind with
 | _ p ih =>
 intro h
 obtain ⟨k, ch, v, ls, ar, t, ks⟩ := p
 rw [Pr.enc_mk] at h
 have h := h.agg_inv
 have h3 := (h (.sl (ls.map .str)) (by simp)).sl_inv
 have h4 := (h (.sl (ar.map Vl.enc)) (by simp)).sl_inv
 have h11 := (h (.sl (ks.map Pr.enc)) (by simp)).sl_inv
 have ht : Bd m t.enc := by
  rw [Ty.enc_cs]
  refine .agg _ fun x hx => h x ?_
  simp only [Ty.cs, List.mem_cons, List.not_mem_nil, or_false] at hx
  rcases hx with rfl | rfl | rfl | rfl | rfl | rfl <;> simp
 rw [List.length_map] at h3 h4 h11
 exact .mk _ h3.1 h4.1 h11.1 (tbd_of t ht) fun x hx => ih x hx (h11.2 _ (List.mem_map_of_mem hx))
theorem TBd.lm {m : Nat} (hm : m ≤ 549755813888) : ∀ {t : Ty}, TBd m t → TLm t := by
 intro t
 induction t using Ty.ind with
 | _ t ih =>
 intro h
 cases h with
 | mk _ hp h1 h2 h => exact .mk t (by omega) (by omega) fun k hk => ih k hk (h k hk)
theorem TBd.ln {m : Nat} (hm : m ≤ 549755813888) : ∀ {t : Ty}, TBd m t → Ln t := by
 intro t
 induction t using Ty.ind with
 | _ t ih =>
 intro h
 cases h with
 | mk _ hp h1 h2 h => exact .mk t (by omega) (by omega) fun k hk => ih k hk (h k hk)
theorem PBd.lm {m : Nat} (hm : m ≤ 549755813888) : ∀ {p : Pr}, PBd m p → PLm p := by
 intro p
 induction p using Pr.ind with
 | _ p ih =>
 intro h
 cases h with
 | mk _ h1 h2 h3 ht h => exact .mk p (by omega) (by omega) (by omega) (ht.lm hm) fun k hk => ih k hk (h k hk)
theorem TBd.raise0 {m : Nat} : ∀ {t : Ty}, TBd m t → raiseT 0 t = t := by
 intro t
 induction t using Ty.ind with
 | _ t ih =>
 intro h
 cases h with
 | mk _ hp h1 h2 h =>
 obtain ⟨kd, p, nm, s, ls, ks⟩ := t
 have hp : IntKind.i64.wrap p = p := hp
 rw [raiseT_mk]
 congr 1
 ·split
  ·unfold ad; rw [Int.add_zero]; exact hp
  ·rfl
 ·conv => rhs; rw [← List.map_id ks]
  exact List.map_congr_left fun x hx => ih x hx (h x hx)
theorem sb_pt3 (k : Int) (ch v : ByteArray) (ls : List ByteArray) (ar : List Vl) (t : Ty) (ks : List Pr) : sb 5 6 (.agg [i k, .str ch, .str v, .sl (ls.map .str), .sl (ar.map Vl.enc), i t.kind, i t.prio, .str t.name, i t.shift, .sl (t.labels.map .str), .sl (t.kids.map Ty.enc), .sl (ks.map Pr.enc)]) = t.enc := by
 cases t; rw [Ty.enc_mk]; rfl
theorem ok_rCopy3 : ∀ p : Pr, PBd 1048576 p → Ok P F.ref03_Copy [p.enc] p.enc := by
 intro p
 induction p using Pr.ind with
 | _ p ih =>
 intro h
 cases h with
 | mk _ h1 h2 h3 ht h =>
 obtain ⟨k, ch, v, ls, ar, t, ks⟩ := p
 have h1 : ls.length ≤ 1048576 := h1
 have h2 : ar.length ≤ 1048576 := h2
 have h3 : ks.length ≤ 1048576 := h3
 have ht : TBd 1048576 t := ht
 have hT := ok_ref02_Raise t 0 (ht.ln (by omega))
 rw [ht.raise0] at hT
 have ih : ∀ x ∈ ks, Ok P F.ref03_Copy [x.enc] x.enc := fun x hx => ih x hx (h x hx)
 rw [Pr.enc_mk]
 rw [← sb_pt3 k ch v ls ar t ks] at hT
 refine k_ref03_Copy _ _ rfl (d_l (.agg [i k, .str ch, .str v, .sl (ls.map .str), .sl (ar.map Vl.enc), i t.kind, i t.prio, .str t.name, i t.shift, .sl (t.labels.map .str), .sl (t.kids.map Ty.enc), .sl (ks.map Pr.enc)]) rfl fun _ => d_l (.agg [i k, .str ch, .str v, .sl (ls.map .str), .sl (ar.map Vl.enc), i t.kind, i t.prio, .str t.name, i t.shift, .sl (t.labels.map .str), .sl (t.kids.map Ty.enc), .sl (ks.map Pr.enc)]) rfl fun _ =>
  d_l (.sl []) rfl fun _ => d_l (.sl (ls.map .str)) (e_app (l := []) (m := ls.map .str) (all_map okc_str _) (by simp; omega) (by simp; omega)) fun _ => d_l (.sl []) rfl fun _ => d_l (.sl (ar.map Vl.enc)) (e_app (l := []) (m := ar.map Vl.enc) (all_map Vl.okc_enc _) (by simp; omega) (by simp; omega)) fun _ => d_call hT (d_l t.enc (by rw [sb_pt3]; exact e_okc (Ty.okc_enc t)) fun _ => ?_))
 refine den_rounds (fun j => [i j, i k, .str ch, .str v, .sl (ls.map .str), .sl (ar.map Vl.enc), i t.kind, i t.prio, .str t.name, i t.shift, .sl (t.labels.map .str), .sl (t.kids.map Ty.enc), .sl ((ks.take j).map Pr.enc)]) ks.length (by cases t; rw [Ty.enc_mk]; rfl) (fun j hj => ?_) ?_
 ·refine d_l _ (len_eq ks) fun _ => d_l (.bool (decide ((j : Int) < (ks.length : Int)))) rfl fun _ => d_dec (p := (j : Int) < (ks.length : Int)) (fun h => ?_) fun h => absurd (show (j : Int) < (ks.length : Int) by omega) h
  refine d_l _ (e_idx (mp_at (f := Pr.enc) hj) (Pr.okc_enc _)) fun _ => d_call (ih _ (List.getElem_mem hj)) (d_l (.sl [ks[j].enc]) (e_lst fun x hx => by simp at hx; subst hx; exact Pr.okc_enc _) fun _ => d_l (.sl ((ks.take j).map Pr.enc ++ [ks[j].enc])) (e_app (l := (ks.take j).map Pr.enc) (m := [ks[j].enc]) (fun x hx => by simp at hx; subst hx; exact Pr.okc_enc _) (by simp; omega) (by simp; omega)) fun _ => d_l _ (e_inc (by omega)) fun _ => d_cont rfl ?_)
  rw [List.take_succ_eq_append_getElem hj, List.map_append]; rfl
 ·refine d_l _ (len_eq ks) fun _ => d_l (.bool (decide ((ks.length : Int) < (ks.length : Int)))) rfl fun _ => d_dec (p := (ks.length : Int) < (ks.length : Int)) (fun h => by omega) fun _ => d_ret ?_
  rw [List.take_length]; rfl
end Go.Proofs.YtjekkidhbnkiaaaDoor.Tx

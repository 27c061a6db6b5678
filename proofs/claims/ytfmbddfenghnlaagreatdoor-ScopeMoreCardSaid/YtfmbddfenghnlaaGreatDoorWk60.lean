/- Contracts: a condition for all nodes of a process, with a number that is carried along; sizes, depths. -/
import Derived.Test.YtfmbddfenghnlaaGreatDoorWk57
import Derived.Test.YtfmbddfenghnlaaGreatDoorLfD
set_option linter.all false
namespace Go.Proofs.YtfmbddfenghnlaaGreatDoor.Tx
open Go.Lf Go.Lf.S Go.Lf.Duo
set_option maxRecDepth 100000

theorem pr_len (l : List Pr) : l.length ≤ Pr.szs l := by
  induction l with
  | nil => simp
  | cons x l ih => simp only [List.length_cons, Pr.szs]; have : 1 ≤ Pr.sz x := by { cases x; simp [Pr.sz] }; omega

section
variable (stp : Pr → Int → Bool × Int)
mutual
/-- all nodes, as long as the step says so; and what is carried -/
def allF : Pr → Int → Bool × Int
  | .mk k c v ls ar t ks, n => if (stp (.mk k c v ls ar t ks) n).1 then (!(anyF ks (stp (.mk k c v ls ar t ks) n).2).1, (anyF ks (stp (.mk k c v ls ar t ks) n).2).2) else (false, (stp (.mk k c v ls ar t ks) n).2)
def anyF : List Pr → Int → Bool × Int
  | [], n => (false, n)
  | p :: r, n => if (allF p n).1 then anyF r (allF p n).2 else (true, (allF p n).2)
end
end

def gAll (K : Nat) (sgK : Sig) (con : Nat) (sgC : Sig) (xs : List PV) : T PV :=
  .l (.okc 12 true) [(n xs 0)] fun x0 =>
  .calls K sgK [x0, (n xs 1)] fun z1 =>
  .ite (n z1 0) (
   .calls con sgC [(c 11 x0), (n z1 1)] fun z2 =>
   .l .bnot [(n z2 0)] fun x3 =>
   .ret (.tup [x3, (n z2 1)])) (
   .ret (.tup [(.bool false), (n z1 1)]))
def gCon (idx : Nat) (sgC : Sig) (xs : List PV) : T PV :=
  .calls idx sgC [(n xs 0), (n xs 1)] fun z0 =>
  .l (.cmp .geq .i64) [(n z0 0), (i 0)] fun x1 =>
  .ret (.tup [x1, (n z0 1)])
def gA1 (A : Nat) (sgA : Sig) (xs : List PV) : T PV :=
  .l (.okc 12 true) [(n xs 0)] fun x0 =>
  .calls A sgA [x0, (n xs 1)] fun z1 =>
  .l .bnot [(n z1 0)] fun x2 =>
  .ret (.tup [x2, (n z1 1)])
def gIdx (a1 : Nat) (sg1 : Sig) (xs : List PV) : T PV :=
  .l .len [(n xs 0)] fun x0 =>
  .loop [(i 0), (n xs 1)] fun y1 =>
  .l (.cmp .lss .i64) [(n y1 0), x0] fun x2 =>
  .ite x2 (
   .l (.idx 12 true) [(n xs 0), (n y1 0)] fun x3 =>
   .calls a1 sg1 [x3, (n y1 1)] fun z4 =>
   .ite (n z4 0) (
    .ret (.tup [(n y1 0), (n z4 1)])) (
    .l (.arith .add .i64) [(n y1 0), (i 1)] fun x5 =>
    .cont 0 [x5, (n z4 1)])) (
   .ret (.tup [(i (-1)), (n y1 1)]))

/-- where it stops: the place of the first one that fails -/
theorem any_trace (stp : Pr → Int → Bool × Int) (ks : List Pr) (m : Int) : ∃ r : Int, decide (0 ≤ r) = (anyF stp ks m).1 ∧ ∃ st : Nat → Int, ∃ q : Nat, q ≤ ks.length ∧ st 0 = m ∧ (∀ j (hj : j < ks.length), j < q → (allF stp ks[j] (st j)).1 = true ∧ st (j + 1) = (allF stp ks[j] (st j)).2) ∧
    ((q = ks.length ∧ r = -1 ∧ (anyF stp ks m).2 = st q) ∨ (∃ hq : q < ks.length, r = q ∧ (allF stp ks[q] (st q)).1 = false ∧ (anyF stp ks m).2 = (allF stp ks[q] (st q)).2)) := by
  induction ks generalizing m with
  | nil => exact ⟨-1, rfl, fun _ => m, 0, Nat.le_refl _, rfl, (fun j hj => absurd hj (Nat.not_lt_zero j)), .inl ⟨rfl, rfl, rfl⟩⟩
  | cons x l ihl =>
    cases hx : (allF stp x m).1 with
    | false =>
      refine ⟨0, by simp [anyF, hx], fun _ => m, 0, Nat.zero_le _, rfl, (fun j hj h => absurd h (Nat.not_lt_zero j)), .inr ⟨by simp, rfl, by simpa using hx, by simp [anyF, hx]⟩⟩
    | true =>
      obtain ⟨r, h1, st, q, hq, h0, hst, hor⟩ := ihl (allF stp x m).2
      refine ⟨if r = -1 then -1 else r + 1, ?_, fun j => if j = 0 then m else st (j - 1), q + 1, by simp; omega, rfl, fun j hj hjq => ?_, ?_⟩
      · have e : (anyF stp (x :: l) m).1 = (anyF stp l (allF stp x m).2).1 := by simp [anyF, hx]
        rw [e, ← h1]
        rcases hor with ⟨_, hr, _⟩ | ⟨_, hr, _⟩
        · rw [if_pos hr, hr]
        · rw [if_neg (by omega)]; exact decide_eq_decide.2 ⟨fun _ => by omega, fun _ => by omega⟩
      · cases j with
        | zero => exact ⟨by simpa using hx, by simp [h0]⟩
        | succ j =>
          have := hst j (by simpa using hj) (by omega)
          simpa using this
      · have e : (anyF stp (x :: l) m).2 = (anyF stp l (allF stp x m).2).2 := by simp [anyF, hx]
        rcases hor with ⟨hq', hr, h2⟩ | ⟨hq', hr, h2, h3⟩
        · exact .inl ⟨by simp [hq'], by rw [if_pos hr], by rw [e, h2]; simp⟩
        · exact .inr ⟨by simpa using hq', by rw [if_neg (by omega), hr]; simp, by simpa using h2, by rw [e, h3]; simp⟩

theorem all_ok {K A con idx a1 : Nat} {sgK sgA sgC sg1 : Sig} (hA : TxOkS P A sgA (gAll K sgK con sgC)) (hC : TxOkS P con sgC (gCon idx sgC)) (hI : TxOkS P idx sgC (gIdx a1 sg1)) (h1 : TxOkS P a1 sg1 (gA1 A sgA))
    (nK : sgK.nout = 2) (nA : sgA.nout = 2) (nC : sgC.nout = 2) (n1 : sg1.nout = 2) {stp : Pr → Int → Bool × Int} {Q : Pr → Prop} {B D : Int} (hD : 0 ≤ D)
    (hQ : ∀ p, Q p → ∀ k ∈ p.kids, Q k) (hK : ∀ p n, Q p → -B ≤ n → n ≤ B → OkS P K sgK [p.enc, i n] [.bool (stp p n).1, i (stp p n).2] ∧ n - D ≤ (stp p n).2 ∧ (stp p n).2 ≤ n + D) :
    ∀ (p : Pr) (n : Int), Q p → p.sz ≤ 1099511627776 → -B ≤ n - D * p.sz → n + D * p.sz ≤ B → OkS P A sgA [p.enc, i n] [.bool (allF stp p n).1, i (allF stp p n).2] ∧ n - D * p.sz ≤ (allF stp p n).2 ∧ (allF stp p n).2 ≤ n + D * p.sz := by
  intro p
  induction p using Pr.ind with
  | _ p ih =>
  intro nn hq hz hlo hhi
  have hqk := hQ p hq
  have hm1 : 0 ≤ D * (p.sz : Int) := Int.mul_nonneg hD (Int.natCast_nonneg _)
  obtain ⟨k1, k2, k3⟩ := hK p nn hq (by omega) (by omega)
  have hkl := pr_len p.kids
  -- the kids from j on
  have kids : ∀ (l : List Pr) (m : Int), (∀ x ∈ l, x ∈ p.kids) → -B ≤ m - D * (Pr.szs l : Int) → m + D * (Pr.szs l : Int) ≤ B → m - D * (Pr.szs l : Int) ≤ (anyF stp l m).2 ∧ (anyF stp l m).2 ≤ m + D * (Pr.szs l : Int) := by
    intro l
    induction l with
    | nil => intro m _ _ _; simp [anyF, Pr.szs]
    | cons x l ihl =>
      intro m hx h1 h2
      simp only [Pr.szs] at h1 h2 ⊢
      have hxm := hx x List.mem_cons_self
      have hxs := Pr.szs_mem hxm
      have e1 : D * ((x.sz + Pr.szs l : Nat) : Int) = D * (x.sz : Int) + D * (Pr.szs l : Int) := by rw [Int.natCast_add, Int.mul_add]
      rw [e1] at h1 h2
      have p1 : 0 ≤ D * (x.sz : Int) := Int.mul_nonneg hD (Int.natCast_nonneg _)
      have p2 : 0 ≤ D * (Pr.szs l : Int) := Int.mul_nonneg hD (Int.natCast_nonneg _)
      have hzx : x.sz ≤ 1099511627776 := by have := Pr.sz_kid hxm; omega
      obtain ⟨_, b1, b2⟩ := ih x hxm m (hqk x hxm) hzx (by omega) (by omega)
      rw [e1]
      unfold anyF
      split
      · have := ihl (allF stp x m).2 (fun y hy => hx y (List.mem_cons_of_mem _ hy)) (by omega) (by omega)
        omega
      · show m - _ ≤ (allF stp x m).2 ∧ (allF stp x m).2 ≤ _
        omega
  obtain ⟨k, ch, v, ls, ar, t, ks⟩ := p
  simp only [Pr.kids] at ih hqk hkl kids
  have esz : D * ((Pr.mk k ch v ls ar t ks).sz : Int) = D * (Pr.szs ks : Int) + D := by
    have : ((Pr.mk k ch v ls ar t ks).sz : Int) = (Pr.szs ks : Int) + 1 := by simp only [Pr.sz]; omega
    rw [this, Int.mul_add, Int.mul_one]
  simp only [esz] at hlo hhi ⊢
  have hzs : Pr.szs ks < 1099511627776 := by simp only [Pr.sz] at hz; omega
  have a1ok : ∀ x ∈ ks, ∀ m : Int, -B ≤ m - D * (x.sz : Int) → m + D * (x.sz : Int) ≤ B → OkS P a1 sg1 [x.enc, i m] [.bool (!(allF stp x m).1), i (allF stp x m).2] := by
    intro x hx m h2 h3
    have hxs := Pr.szs_mem hx
    obtain ⟨g1, _⟩ := ih x hx m (hqk x hx) (by omega) h2 h3
    exact h1 _ _ (d_l x.enc (e_okc (Pr.okc_enc x)) fun _ => d_calls (by rw [nA]; rfl) g1 (d_l _ rfl fun _ => d_ret rfl))
  have idxok : ∀ m : Int, -B ≤ m - D * (Pr.szs ks : Int) → m + D * (Pr.szs ks : Int) ≤ B → ∃ r : Int, OkS P idx sgC [.sl (ks.map Pr.enc), i m] [i r, i (anyF stp ks m).2] ∧ decide (0 ≤ r) = (anyF stp ks m).1 := by
    intro m h2 h3
    -- the answer: the place of the first one that fails
    have ex := any_trace stp ks m
    obtain ⟨r, hr, st, q, hql, h0, hst, hor⟩ := ex
    have bnd : ∀ j, j ≤ q → m - D * (Pr.szs (ks.take j) : Int) ≤ st j ∧ st j ≤ m + D * (Pr.szs (ks.take j) : Int) := by
      intro j
      induction j with
      | zero => intro _; rw [h0]; simp [Pr.szs]
      | succ j ihj =>
        intro hjq
        have hj : j < ks.length := by omega
        obtain ⟨b1, b2⟩ := ihj (by omega)
        have tk : ∀ (l : List Pr) (j : Nat) (h : j < l.length), Pr.szs (l.take (j + 1)) = Pr.szs (l.take j) + l[j].sz := by
          intro l
          induction l with
          | nil => intro j h; simp at h
          | cons x l ih => intro j h; cases j with
            | zero => simp [Pr.szs]
            | succ j => simp only [List.take_succ_cons, Pr.szs, List.getElem_cons_succ]; rw [ih j (by simpa using h)]; omega
        have tl : ∀ (l : List Pr) (j : Nat), Pr.szs (l.take j) ≤ Pr.szs l := by
          intro l
          induction l with
          | nil => intro j; simp
          | cons x l ih => intro j; cases j with
            | zero => simp [Pr.szs]
            | succ j => simp only [List.take_succ_cons, Pr.szs]; have := ih j; omega
        have hx := List.getElem_mem hj
        have hxs := Pr.szs_mem hx
        have t1 := tk ks j hj
        have t2 := tl ks (j + 1)
        have e1 : D * (Pr.szs (ks.take (j + 1)) : Int) = D * (Pr.szs (ks.take j) : Int) + D * (ks[j].sz : Int) := by rw [t1, Int.natCast_add, Int.mul_add]
        have e2 : D * (Pr.szs (ks.take (j + 1)) : Int) ≤ D * (Pr.szs ks : Int) := Int.mul_le_mul_of_nonneg_left (by omega) hD
        obtain ⟨_, c1, c2⟩ := ih ks[j] hx (st j) (hqk _ hx) (by omega) (by omega) (by omega)
        rw [(hst j hj (by omega)).2, e1]
        omega
    have bnd2 : ∀ j (hj : j < ks.length), j ≤ q → -B ≤ st j - D * (ks[j].sz : Int) ∧ st j + D * (ks[j].sz : Int) ≤ B := by
      intro j hj hjq
      obtain ⟨b1, b2⟩ := bnd j hjq
      have tk : ∀ (l : List Pr) (j : Nat) (h : j < l.length), Pr.szs (l.take j) + l[j].sz ≤ Pr.szs l := by
        intro l
        induction l with
        | nil => intro j h; simp at h
        | cons x l ih => intro j h; cases j with
          | zero => simp [Pr.szs]
          | succ j => simp only [List.take_succ_cons, Pr.szs, List.getElem_cons_succ]; have := ih j (by simpa using h); omega
      have t1 := tk ks j hj
      have e1 : D * ((Pr.szs (ks.take j) + ks[j].sz : Nat) : Int) ≤ D * (Pr.szs ks : Int) := Int.mul_le_mul_of_nonneg_left (by omega) hD
      rw [Int.natCast_add, Int.mul_add] at e1
      omega
    refine ⟨r, hI _ _ ?_, hr⟩
    refine d_l _ (len_eq ks) fun _ => ?_
    refine den_loop (fun mm ys => ∃ j : Nat, j + mm = ks.length ∧ j ≤ q ∧ ys = [i j, i (st j)]) ks.length ⟨0, by omega, Nat.zero_le _, by rw [h0]; rfl⟩ ?_
    rintro mm _ ⟨j, hj, hjq, rfl⟩
    refine d_l _ rfl fun _ => d_dec (fun h => ?_) fun h => d_ret ?_
    · have hlt : j < ks.length := by have h : (j : Int) < (ks.length : Int) := h; omega
      have hx := List.getElem_mem hlt
      obtain ⟨b1, b2⟩ := bnd2 j hlt hjq
      refine d_l _ (e_idx (mp_at hlt) (Pr.okc_enc _)) fun _ => d_calls (by rw [n1]; rfl) (a1ok _ hx (st j) b1 b2) ?_
      by_cases hjq2 : j < q
      · obtain ⟨s1, s2⟩ := hst j hlt hjq2
        show T.den0 P _ (.ite (.bool (!(allF stp ks[j] (st j)).1)) _ _) _
        rw [s1]
        exact d_false (d_l _ (e_inc (by omega)) fun _ => d_cont rfl ⟨mm - 1, by omega, j + 1, by omega, by omega, by rw [s2]; rfl⟩)
      · obtain rfl : j = q := by omega
        rcases hor with ⟨hq', _⟩ | ⟨_, hr', s1, s2⟩
        · omega
        · show T.den0 P _ (.ite (.bool (!(allF stp ks[j] (st j)).1)) _ _) _
          rw [s1]
          exact d_true (d_ret (by rw [hr', s2]; rfl))
    · have h : ¬ (j : Int) < (ks.length : Int) := h
      obtain rfl : j = q := by omega
      rcases hor with ⟨_, hr', s2⟩ | ⟨hq', _⟩
      · rw [hr', s2]; rfl
      · omega
  have conok : ∀ m : Int, -B ≤ m - D * (Pr.szs ks : Int) → m + D * (Pr.szs ks : Int) ≤ B → OkS P con sgC [.sl (ks.map Pr.enc), i m] [.bool (anyF stp ks m).1, i (anyF stp ks m).2] := by
    intro m h2 h3
    obtain ⟨r, g1, g2⟩ := idxok m h2 h3
    exact hC _ _ (d_calls (by rw [nC]; rfl) g1 (d_l _ rfl fun _ => d_ret (by rw [← g2]; rfl)))
  have ea : allF stp (.mk k ch v ls ar t ks) nn = if (stp (.mk k ch v ls ar t ks) nn).1 then (!(anyF stp ks (stp (.mk k ch v ls ar t ks) nn).2).1, (anyF stp ks (stp (.mk k ch v ls ar t ks) nn).2).2) else (false, (stp (.mk k ch v ls ar t ks) nn).2) := by rw [allF]
  have p2 : 0 ≤ D * (Pr.szs ks : Int) := Int.mul_nonneg hD (Int.natCast_nonneg _)
  have hkb := kids ks (stp (.mk k ch v ls ar t ks) nn).2 (fun _ h => h) (by omega) (by omega)
  refine ⟨?_, ?_⟩
  · rw [Pr.enc_mk] at k1 ⊢
    refine hA _ _ (d_l (.agg [i k, .str ch, .str v, .sl (ls.map .str), .sl (ar.map Vl.enc), i t.kind, i t.prio, .str t.name, i t.shift, .sl (t.labels.map .str), .sl (t.kids.map Ty.enc), .sl (ks.map Pr.enc)]) rfl fun _ => d_calls (by rw [nK]; rfl) k1 ?_)
    rw [ea]
    generalize stp (.mk k ch v ls ar t ks) nn = q at *
    obtain ⟨b, m⟩ := q
    cases b with
    | true => exact d_true (d_calls (by rw [nC]; rfl) (conok m (by simp only at k2; omega) (by simp only at k3; omega)) (d_l _ rfl fun _ => d_ret rfl))
    | false => exact d_false (d_ret rfl)
  · rw [ea]
    split
    · simp only; omega
    · simp only; omega
end Go.Proofs.YtfmbddfenghnlaaGreatDoor.Tx

/- The reference of the package scope: one node and what is below it, exactly (2). -/
import Derived.Test.YtbfjpjllaibooaaGreatWk136
set_option linter.all false
namespace Go.Proofs.YtbfjpjllaibooaaGreat.Tx
open Go.Lf Go.Lf.S Go.Lf.Duo
set_option maxRecDepth 100000
def pfx (k : Int) : Bool := decide (2 ≤ k) && decide (k ≤ 5)
def innE (k : Int) (ch v : ByteArray) (sc : List ByteArray) : List ByteArray := if k = 3 then sc ++ [v] else if k = 6 then sc ++ [ch, v] else sc
def fstD (ds : List Df) (s : ByteArray) : Option Df := ds.find? fun d => decide (d.name = s)
mutual
def N06 (w : Pg) : Pr → List ByteArray → Bool → Prop
 | .mk k ch v _ ar _ ks, sc, g => (pfx k = true → ch ∈ sc) ∧ (∀ a ∈ ar, a.kind = 1 → a.name ∈ sc) ∧ (∀ (j : Nat) x, sc.length ≤ j → (innE k ch v sc)[j]? = some x → x ∉ sc) ∧
   (k = 8 → (∃ d, fstD w.defs ch = some d ∧ d.params.length = ar.length) ∧ g = true) ∧ N06s w ks (innE k ch v sc) (g || pfx k)
def N06s (w : Pg) : List Pr → List ByteArray → Bool → Prop
 | [], _, _ => True
 | p :: r, sc, g => N06 w p sc g ∧ N06s w r sc g
end
theorem N06s_iff {w : Pg} {sc : List ByteArray} {g : Bool} : ∀ {l : List Pr}, N06s w l sc g ↔ ∀ x ∈ l, N06 w x sc g
 | [] => by simp [N06s]
 | p :: r => by simp [N06s, N06s_iff (l := r)]
theorem ok_In06 (s : ByteArray) (l : List ByteArray) (hl : l.length ≤ 549755813888) : Ok P F.ref03_In [.str s, .sl (l.map .str)] (.bool (pb (s ∈ l))) := by
 refine k_ref03_In _ _ rfl ?_
 refine den_loop (fun m' ys => ∃ j : Nat, j + m' = l.length ∧ s ∉ l.take j ∧ ys = [i j]) l.length ⟨0, by omega, by simp, rfl⟩ ?_
 rintro m' _ ⟨j, hj, hno, rfl⟩
 refine d_l _ (len_eq l) fun _ => d_l (.bool (decide ((j : Int) < (l.length : Int)))) rfl fun _ => d_dec (p := (j : Int) < (l.length : Int)) (fun h => ?_) fun h => d_ret ?_
 ·have hjl : j < l.length := by omega
  refine d_l _ (e_idx (mp_at (f := PV.str) hjl) rfl) fun _ => d_l (.bool (decide (l[j] = s))) rfl fun _ => d_dec (p := l[j] = s) (fun e => d_ret ?_) fun e => d_l _ (e_inc (by omega)) fun _ => d_cont rfl ⟨m' - 1, by omega, j + 1, by omega, fun hc => ?_, rfl⟩
  ·rw [pb_iff.2 (e ▸ List.getElem_mem hjl)]
  ·rw [List.take_succ_eq_append_getElem hjl] at hc
   rcases List.mem_append.1 hc with hc | hc
   ·exact hno hc
   ·exact e (List.mem_singleton.1 hc).symm
 ·rw [List.take_of_length_le (by omega)] at hno
  rw [pb_false.2 hno]
theorem ok_Find06 (w : Pg) (s : ByteArray) (hl : w.defs.length ≤ 1000000) : ∃ r : Int, Ok P F.ref06_Find [w.enc, .str s] (i r) ∧
  ((r < 0 ∧ fstD w.defs s = none) ∨ ∃ (j : Nat) (d : Df), r = j ∧ w.defs[j]? = some d ∧ d.name = s ∧ fstD w.defs s = some d ∧ ∀ q d', q < j → w.defs[q]? = some d' → d'.name ≠ s) := by
 have := tx_ex (K := fun x => ∃ r : Int, x = i r ∧ ((r < 0 ∧ fstD w.defs s = none) ∨ ∃ (j : Nat) (d : Df), r = j ∧ w.defs[j]? = some d ∧ d.name = s ∧ fstD w.defs s = some d ∧ ∀ q d', q < j → w.defs[q]? = some d' → d'.name ≠ s)) k_ref06_Find (xs := [w.enc, .str s]) rfl (by simp [t_ref06_Find, T.dt]) (by
  refine d_l _ (e_okc (Pg.okc_enc w)) fun _ => ?_
  refine den_loop (fun m' ys => ∃ j : Nat, j + m' = w.defs.length ∧ (∀ d ∈ w.defs.take j, d.name ≠ s) ∧ ys = [i j]) w.defs.length ⟨0, by omega, by simp, rfl⟩ ?_
  rintro m' _ ⟨j, hj, hno, rfl⟩
  refine d_l _ (len_eq w.defs) fun _ => d_l (.bool (decide ((j : Int) < (w.defs.length : Int)))) rfl fun _ => d_dec (p := (j : Int) < (w.defs.length : Int)) (fun h => ?_) fun h => d_ret ⟨-1, rfl, .inl ⟨by omega, ?_⟩⟩
  ·have hjl : j < w.defs.length := by omega
   refine d_l _ (e_idx (mp_at (f := Df.enc) hjl) (Df.okc_enc _)) fun _ => d_l (.bool (decide (w.defs[j].name = s))) rfl fun _ => d_dec (p := w.defs[j].name = s) (fun e => d_ret ⟨j, rfl, .inr ⟨j, w.defs[j], rfl, List.getElem?_eq_getElem hjl, e, ?_, ?_⟩⟩) fun e => d_l _ (e_inc (by omega)) fun _ => d_cont rfl ⟨m' - 1, by omega, j + 1, by omega, fun d hd => ?_, rfl⟩
   ·unfold fstD
    rw [List.find?_eq_some_iff_getElem]
    refine ⟨by simpa using e, j, hjl, rfl, fun q hq => ?_⟩
    have := hno w.defs[q] (List.mem_take_iff_getElem.2 ⟨q, by omega, rfl⟩)
    simpa using this
   ·intro q d' hq hd
    have hql := (List.getElem?_eq_some_iff.1 hd).1
    exact hno d' (List.mem_take_iff_getElem.2 ⟨q, by omega, (List.getElem?_eq_some_iff.1 hd).2⟩)
   ·rw [List.take_succ_eq_append_getElem hjl] at hd
    rcases List.mem_append.1 hd with hd | hd
    ·exact hno d hd
    ·obtain rfl := List.mem_singleton.1 hd; exact e
  ·rw [List.take_of_length_le (by omega)] at hno
   unfold fstD
   rw [List.find?_eq_none]
   exact fun d hd => by simpa using hno d hd)
 obtain ⟨_, ⟨r, rfl, hr⟩, h⟩ := this
 exact ⟨r, h, hr⟩
theorem d_kids {w : Pg} {k : Int} {ks : List Pr} {g : Bool} {inner : List ByteArray} {K : PV → Prop} {h0 h1 : List PV → Prop} (hl : ks.length ≤ 9223372036854775807)
  (ih : ∀ x ∈ ks, ∀ g', ∃ e : Int, Ok P F.ref06_node [w.enc, x.enc, .sl (inner.map .str), .bool g'] (i e) ∧ (e = 0 ↔ N06 w x inner g'))
  (hN : ∀ e : Int, e ≠ 0 → (¬ ∀ x ∈ ks, N06 w x inner (g || pfx k)) → K (i e)) (hY : (∀ x ∈ ks, N06 w x inner (g || pfx k)) → K (i 0)) :
  (n6kids w.enc (i k) (.sl (ks.map Pr.enc)) (.bool g) (.sl (inner.map .str))).den0 P K [h0, h1] := by
 unfold n6kids
 refine den_loop (fun m' ys => ∃ j : Nat, j + m' = ks.length ∧ (∀ x ∈ ks.take j, N06 w x inner (g || pfx k)) ∧ ys = [i j]) ks.length ⟨0, by omega, by simp, rfl⟩ ?_
 rintro m' _ ⟨j, hj, hd, rfl⟩
 refine d_l _ (len_eq ks) fun _ => d_l (.bool (decide ((j : Int) < (ks.length : Int)))) rfl fun _ => d_dec (p := (j : Int) < (ks.length : Int)) (fun h => ?_) fun h => d_ret (hY (by rw [List.take_of_length_le (by omega)] at hd; exact hd))
 have hjl : j < ks.length := by omega
 have hm := List.getElem_mem hjl
 have fin : ∀ (e : Int), (e = 0 ↔ N06 w ks[j] inner (g || pfx k)) → (¬ e = 0 → K (i e)) ∧ (e = 0 → ∃ m'' < m', ∃ j' : Nat, j' + m'' = ks.length ∧ (∀ x ∈ ks.take j', N06 w x inner (g || pfx k)) ∧ [i ((j + 1 : Nat) : Int)] = [i j']) := fun e he => by
  refine ⟨fun h => hN e h fun hc => h (he.2 (hc _ hm)), fun h => ⟨m' - 1, by omega, j + 1, by omega, fun x hx => ?_, rfl⟩⟩
  rw [List.take_succ_eq_append_getElem hjl] at hx
  rcases List.mem_append.1 hx with hx | hx
  ·exact hd x hx
  ·obtain rfl := List.mem_singleton.1 hx; exact he.1 h
 have hix := e_idx (n := 12) (a := true) (mp_at (f := Pr.enc) hjl) (Pr.okc_enc _)
 refine d_l _ hix fun _ => d_ite (fun hg => ?_) fun hg => ?_
 ·obtain ⟨e, he, hi⟩ := ih _ hm true
  obtain ⟨f1, f2⟩ := fin e (by rw [hg]; exact hi)
  exact d_call he (d_l (.bool (!decide (e = 0))) rfl fun _ => d_ndec (fun h => d_ret (f1 h)) fun h => d_l _ (e_inc (by omega)) fun _ => d_cont rfl (f2 h))
 ·refine d_l (.bool (decide (2 ≤ k))) rfl fun _ => d_dec (p := 2 ≤ k) (fun h2 => ?_) fun h2 => ?_
  ·obtain ⟨e, he, hi⟩ := ih _ hm (decide (k ≤ 5))
   obtain ⟨f1, f2⟩ := fin e (by
    have : (g || pfx k) = decide (k ≤ 5) := by unfold pfx; simp [hg, h2]
    rw [this]; exact hi)
   exact d_l (.bool (decide (k ≤ 5))) rfl fun _ => d_call he (d_l (.bool (!decide (e = 0))) rfl fun _ => d_ndec (fun h => d_ret (f1 h)) fun h => d_l _ (e_inc (by omega)) fun _ => d_cont rfl (f2 h))
  ·obtain ⟨e, he, hi⟩ := ih _ hm false
   obtain ⟨f1, f2⟩ := fin e (by
    have : (g || pfx k) = false := by unfold pfx; simp [hg, h2]
    rw [this]; exact hi)
   exact d_call he (d_l (.bool (!decide (e = 0))) rfl fun _ => d_ndec (fun h => d_ret (f1 h)) fun h => d_l _ (e_inc (by omega)) fun _ => d_cont rfl (f2 h))
theorem ok_N06 (w : Pg) (hw : w.defs.length ≤ 1000000) : ∀ (p : Pr) (sc : List ByteArray) (g : Bool), PLim p → sc.length + 2 * p.sz ≤ 1000000000 → ∃ e : Int, Ok P F.ref06_node [w.enc, p.enc, .sl (sc.map .str), .bool g] (i e) ∧ (e = 0 ↔ N06 w p sc g) := by
 intro p
 induction p using Pr.ind with
 | _ p ih =>
 intro sc g hlim hz
 cases hlim with
 | mk _ _ _ _ _ _ hal _ hkl hkk =>
 obtain ⟨k, ch, v, ls, ar, t, ks⟩ := p
 simp only [Pr.sz] at hz
 have hal : ar.length ≤ 9223372036854775807 := hal
 have hkl : ks.length ≤ 9223372036854775807 := hkl
 have hkk : ∀ x ∈ ks, PLim x := hkk
 have hil : (innE k ch v sc).length ≤ sc.length + 2 := by unfold innE; split <;> (try split) <;> simp
 have ih : ∀ x ∈ ks, ∀ g', ∃ e : Int, Ok P F.ref06_node [w.enc, x.enc, .sl ((innE k ch v sc).map .str), .bool g'] (i e) ∧ (e = 0 ↔ N06 w x (innE k ch v sc) g') := fun x hx g' => ih x hx _ g' (hkk x hx) (by have := Pr.szs_mem hx; omega)
 have hnd : N06 w (.mk k ch v ls ar t ks) sc g ↔ (pfx k = true → ch ∈ sc) ∧ (∀ a ∈ ar, a.kind = 1 → a.name ∈ sc) ∧ (∀ (j : Nat) x, sc.length ≤ j → (innE k ch v sc)[j]? = some x → x ∉ sc) ∧ (k = 8 → (∃ d, fstD w.defs ch = some d ∧ d.params.length = ar.length) ∧ g = true) ∧ ∀ x ∈ ks, N06 w x (innE k ch v sc) (g || pfx k) := by
  rw [← N06s_iff]; simp only [N06]
 have hIn : ∀ s, Ok P F.ref03_In [.str s, .sl (sc.map .str)] (.bool (pb (s ∈ sc))) := fun s => ok_In06 s sc (by omega)
 have := tx_ex (K := fun x => ∃ e : Int, x = i e ∧ (e = 0 ↔ N06 w (.mk k ch v ls ar t ks) sc g)) hN6 (xs := [w.enc, (Pr.mk k ch v ls ar t ks).enc, .sl (sc.map .str), .bool g]) rfl (by simp [n6T, n6args, n6inn, n6chk, n6call, n6kids, T.dt]) (by
  rw [hnd]
  generalize hin : innE k ch v sc = inner at *
  -- the kids
  have sK : (pfx k = true → ch ∈ sc) → (∀ a ∈ ar, a.kind = 1 → a.name ∈ sc) → (∀ (j : Nat) x, sc.length ≤ j → inner[j]? = some x → x ∉ sc) → (k = 8 → (∃ d, fstD w.defs ch = some d ∧ d.params.length = ar.length) ∧ g = true) → ∀ h0 h1, (n6kids w.enc (i k) (.sl (ks.map Pr.enc)) (.bool g) (.sl (inner.map .str))).den0 P (fun x => ∃ e : Int, x = i e ∧ (e = 0 ↔ (pfx k = true → ch ∈ sc) ∧ (∀ a ∈ ar, a.kind = 1 → a.name ∈ sc) ∧ (∀ (j : Nat) x, sc.length ≤ j → inner[j]? = some x → x ∉ sc) ∧ (k = 8 → (∃ d, fstD w.defs ch = some d ∧ d.params.length = ar.length) ∧ g = true) ∧ ∀ x ∈ ks, N06 w x inner (g || pfx k))) [h0, h1] := fun c1 c2 c3 c4 h0 h1 =>
   d_kids hkl ih (fun e he hn => ⟨e, rfl, fun h => absurd h he, fun h => absurd h.2.2.2.2 hn⟩) fun hy => ⟨0, rfl, fun _ => ⟨c1, c2, c3, c4, hy⟩, fun _ => rfl⟩
  have no : ∀ {e : Int} {q : Prop}, e ≠ 0 → ¬ q → ∃ e' : Int, i e = i e' ∧ (e' = 0 ↔ q) := fun {e q} he hq => ⟨e, rfl, fun h => absurd h he, fun h => absurd h hq⟩
  have sC : (pfx k = true → ch ∈ sc) → (∀ a ∈ ar, a.kind = 1 → a.name ∈ sc) → ∀ h0, (n6chk w.enc (i k) (.str ch) (.sl (ar.map Vl.enc)) (.sl (ks.map Pr.enc)) (.bool g) (.sl (sc.map .str)) (.sl (inner.map .str))).den0 P (fun x => ∃ e : Int, x = i e ∧ (e = 0 ↔ (pfx k = true → ch ∈ sc) ∧ (∀ a ∈ ar, a.kind = 1 → a.name ∈ sc) ∧ (∀ (j : Nat) x, sc.length ≤ j → inner[j]? = some x → x ∉ sc) ∧ (k = 8 → (∃ d, fstD w.defs ch = some d ∧ d.params.length = ar.length) ∧ g = true) ∧ ∀ x ∈ ks, N06 w x inner (g || pfx k))) [h0] := fun c1 c2 h0 => by
   unfold n6chk
   refine d_l _ (len_eq sc) fun _ => den_loop (fun m' ys => ∃ j : Nat, j + m' = sc.length + inner.length + 1 ∧ sc.length ≤ j ∧ (∀ (q : Nat) x, q < j → sc.length ≤ q → inner[q]? = some x → x ∉ sc) ∧ ys = [i j]) (inner.length + 1) ⟨sc.length, by omega, Nat.le_refl _, fun q x h1 h2 => by omega, rfl⟩ ?_
   rintro m' _ ⟨j, hj, hjs, hno, rfl⟩
   refine d_l _ (len_eq inner) fun _ => d_l (.bool (decide ((j : Int) < (inner.length : Int)))) rfl fun _ => d_dec (p := (j : Int) < (inner.length : Int)) (fun h => ?_) fun h => ?_
   ·have hjl : j < inner.length := by omega
    have hjx : inner[j]? = some inner[j] := List.getElem?_eq_getElem hjl
    refine d_l _ (e_idx (mp_at (f := PV.str) hjl) rfl) fun _ => d_call (hIn _) (d_ite (fun hb => d_ret (no (by omega) fun hc => hc.2.2.1 j _ hjs hjx (pb_iff.1 hb))) fun hb => d_l _ (e_inc (by omega)) fun _ => d_cont rfl ⟨m' - 1, by omega, j + 1, by omega, by omega, fun q x h1 h2 h3 => ?_, rfl⟩)
    by_cases e : q = j
    ·subst e; rw [hjx] at h3; cases h3; exact pb_false.1 hb
    ·exact hno q x (by omega) h2 h3
   ·have c3 : ∀ (q : Nat) x, sc.length ≤ q → inner[q]? = some x → x ∉ sc := fun q x h1 h2 => hno q x (by have := (List.getElem?_eq_some_iff.1 h2).1; omega) h1 h2
    unfold n6call
    refine d_l (.bool (decide (k = 8))) rfl fun _ => d_dec (p := k = 8) (fun h8 => ?_) fun h8 => sK c1 c2 c3 (fun h => absurd h h8) _ _
    obtain ⟨r, hr, hc⟩ := ok_Find06 w ch hw
    rcases hc with ⟨hr0, hn⟩ | ⟨q, d, rfl, hd, hdn, hf, _⟩
    ·exact d_call hr (d_l (.bool (decide (r < 0))) rfl fun _ => d_dec (p := r < 0) (fun _ => d_ret (no (by omega) fun hc => by
      obtain ⟨d, hd, _⟩ := (hc.2.2.2.1 h8).1
      rw [hn] at hd; cases hd)) fun h => absurd hr0 h)
    ·have hde : (w.defs.map Df.enc)[q]? = some d.enc := by simp [hd]
     refine d_call hr (d_l (.bool (decide ((q : Int) < 0))) rfl fun _ => d_dec (p := (q : Int) < 0) (fun h => by omega) fun _ => d_l _ (e_idx hde (Df.okc_enc d)) fun _ => d_l _ (len_eq d.params) fun _ => d_l _ (len_eq ar) fun _ => d_l (.bool (!decide ((d.params.length : Int) = (ar.length : Int)))) rfl fun _ => d_ndec (fun h => d_ret (no (by omega) fun hc => ?_)) fun h => d_l (.bool (!g)) rfl fun _ => d_ite (fun hg => d_ret (no (by omega) fun hc => ?_)) fun hg => sK c1 c2 c3 (fun _ => ⟨⟨d, hf, by omega⟩, by simpa using hg⟩) _ _)
     ·obtain ⟨d', hd', hl⟩ := (hc.2.2.2.1 h8).1
      rw [hf] at hd'; cases hd'
      omega
     ·have := (hc.2.2.2.1 h8).2
      rw [this] at hg; cases hg
  have sA : (pfx k = true → ch ∈ sc) → (n6args w.enc (i k) (.str ch) (.str v) (.sl (ar.map Vl.enc)) (.sl (ks.map Pr.enc)) (.bool g) (.sl (sc.map .str))).den0 P (fun x => ∃ e : Int, x = i e ∧ (e = 0 ↔ (pfx k = true → ch ∈ sc) ∧ (∀ a ∈ ar, a.kind = 1 → a.name ∈ sc) ∧ (∀ (j : Nat) x, sc.length ≤ j → inner[j]? = some x → x ∉ sc) ∧ (k = 8 → (∃ d, fstD w.defs ch = some d ∧ d.params.length = ar.length) ∧ g = true) ∧ ∀ x ∈ ks, N06 w x inner (g || pfx k))) [] := fun c1 => by
   unfold n6args
   refine den_loop (fun m' ys => ∃ j : Nat, j + m' = ar.length ∧ (∀ a ∈ ar.take j, a.kind = 1 → a.name ∈ sc) ∧ ys = [i j]) ar.length ⟨0, by omega, by simp, rfl⟩ ?_
   rintro m' _ ⟨j, hj, hdn, rfl⟩
   refine d_l _ (len_eq ar) fun _ => d_l (.bool (decide ((j : Int) < (ar.length : Int)))) rfl fun _ => d_dec (p := (j : Int) < (ar.length : Int)) (fun h => ?_) fun h => ?_
   ·have hjl : j < ar.length := by omega
    have hm := List.getElem_mem hjl
    have hix := e_idx (n := 3) (a := true) (mp_at (f := Vl.enc) hjl) (Vl.okc_enc _)
    have nxt : (ar[j].kind = 1 → ar[j].name ∈ sc) → ∀ a ∈ ar.take (j + 1), a.kind = 1 → a.name ∈ sc := fun h a ha => by
     rw [List.take_succ_eq_append_getElem hjl] at ha
     rcases List.mem_append.1 ha with ha | ha
     ·exact hdn a ha
     ·obtain rfl := List.mem_singleton.1 ha; exact h
    refine d_l _ hix fun _ => d_l (.bool (decide (ar[j].kind = 1))) rfl fun _ => d_dec (p := ar[j].kind = 1) (fun h1 => ?_) fun h1 => d_l _ (e_inc (by omega)) fun _ => d_cont rfl ⟨m' - 1, by omega, j + 1, by omega, nxt fun h => absurd h h1, rfl⟩
    refine d_l _ hix fun _ => d_call (hIn ar[j].name) (d_l (.bool (!pb (ar[j].name ∈ sc))) rfl fun _ => d_ite (fun hb => d_ret (no (by omega) fun hc => ?_)) fun hb => d_l _ (e_inc (by omega)) fun _ => d_cont rfl ⟨m' - 1, by omega, j + 1, by omega, nxt fun _ => pb_iff.1 (by simpa using hb), rfl⟩)
    rw [pb_iff.2 (hc.2.1 _ hm h1)] at hb; cases hb
   ·have c2 : ∀ a ∈ ar, a.kind = 1 → a.name ∈ sc := by rw [List.take_of_length_le (by omega)] at hdn; exact hdn
    have a0 : (Prim.app 1 false 16).ev [.sl [], .sl (sc.map .str)] = some (.sl (sc.map .str)) := by
     have := app_str (l := []) (m := sc) (by simp; omega)
     simpa using this
    unfold n6inn
    refine d_l (.sl []) rfl fun _ => d_l _ a0 fun _ => d_l (.bool (decide (k = 3))) rfl fun _ => d_dec (p := k = 3) (fun h3 => ?_) fun h3 => ?_
    ·refine d_l (.sl [.str v]) rfl fun _ => d_l _ (app_str (m := [v]) (by simp; omega)) fun _ => d_l (.bool (decide (k = 6))) rfl fun _ => d_dec (p := k = 6) (fun h6 => by omega) fun h6 => ?_
     have e : inner = sc ++ [v] := by rw [← hin]; unfold innE; rw [if_pos h3]
     rw [← e]
     exact sC c1 c2 _
    ·refine d_l (.bool (decide (k = 6))) rfl fun _ => d_dec (p := k = 6) (fun h6 => ?_) fun h6 => ?_
     ·refine d_l (.sl [.str ch, .str v]) rfl fun _ => d_l _ (app_str (m := [ch, v]) (by simp; omega)) fun _ => ?_
      have e : inner = sc ++ [ch, v] := by rw [← hin]; unfold innE; rw [if_neg h3, if_pos h6]
      rw [← e]
      exact sC c1 c2 _
     ·have e : inner = sc := by rw [← hin]; unfold innE; rw [if_neg h3, if_neg h6]
      have := sC c1 c2
      rw [e] at this ⊢
      exact this _
  rw [Pr.enc_mk]
  refine d_l _ (e_okc (Pg.okc_enc w)) fun _ => d_l (.agg [i k, .str ch, .str v, .sl (ls.map .str), .sl (ar.map Vl.enc), i t.kind, i t.prio, .str t.name, i t.shift, .sl (t.labels.map .str), .sl (t.kids.map Ty.enc), .sl (ks.map Pr.enc)]) rfl fun _ => d_l (.bool (decide (2 ≤ k))) rfl fun _ => d_dec (p := 2 ≤ k) (fun h2 => ?_) fun h2 => sA fun h => by unfold pfx at h; simp [h2] at h
  refine d_l (.bool (decide (k ≤ 5))) rfl fun _ => d_dec (p := k ≤ 5) (fun h5 => ?_) fun h5 => sA fun h => by unfold pfx at h; simp [h5] at h
  refine d_call (hIn ch) (d_l (.bool (!pb (ch ∈ sc))) rfl fun _ => d_ite (fun hb => d_ret (no (by omega) fun hc => ?_)) fun hb => sA fun _ => pb_iff.1 (by simpa using hb))
  have := hc.1 (by unfold pfx; simp [h2, h5])
  rw [pb_iff.2 this] at hb; cases hb)
 obtain ⟨_, ⟨e, rfl, he⟩, h⟩ := this
 exact ⟨e, h, he⟩
end Go.Proofs.YtbfjpjllaibooaaGreat.Tx

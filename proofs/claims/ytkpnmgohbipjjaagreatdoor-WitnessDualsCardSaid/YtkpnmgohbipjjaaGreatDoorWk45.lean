/- Contracts (Wk34, Wk44, Wk45). -/
import Derived.Test.YtkpnmgohbipjjaaGreatDoorWk33
import Derived.Test.YtkpnmgohbipjjaaGreatDoorWk110
set_option linter.all false
/- Contracts: the kind and the priority that a type begins with: of the unfolded type, and in the graph. -/
namespace Go.Proofs.YtkpnmgohbipjjaaGreatDoor.Tx
open Go.Lf Go.Lf.S Go.Lf.Duo
set_option maxRecDepth 100000
mutual
/-- what a type begins with -/
def hd : Ty → Int × Int
 | .mk k p _ _ _ ks => if k = 8 then hds ks (k, p) else (k, p)
def hds : List Ty → Int × Int → Int × Int
 | [], d => d
 | t :: _, _ => hd t
end
theorem hd_8 {k p : Int} {nm : ByteArray} {s : Int} {ls : List ByteArray} {ks : List Ty} (h : k = 8) {x : Ty} (hk : ks = [x]) : hd (.mk k p nm s ls ks) = hd x := by
 subst hk; simp [hd, hds, h]
theorem hd_o {k p : Int} {nm : ByteArray} {s : Int} {ls : List ByteArray} {ks : List Ty} (h : k ≠ 8) : hd (.mk k p nm s ls ks) = (k, p) := by
 simp [hd, h]
/-- it begins with something, behind n recursive types -/
inductive Hd : Nat → Ty → Prop
 | done (t : Ty) (h8 : t.kind ≠ 8) (h9 : t.kind ≠ 9) (p0 : 0 ≤ t.prio) (p1 : t.prio ≤ 1000000) : Hd 0 t
 | step (n : Nat) (t k : Ty) (h : t.kind = 8) (hk : t.kids = [k]) (hh : Hd n k) : Hd (n + 1) t
theorem ad_0 {p : Int} (h0 : 0 ≤ p) (h1 : p ≤ 1000000) : ad p 0 = p := by
 unfold ad; rw [Int.add_zero]; exact wrap_in (by omega) (by omega)
theorem Hd.raise : ∀ {n : Nat} {t : Ty}, Hd n t → Hd n (raiseT 0 t) ∧ hd (raiseT 0 t) = hd t := by
 intro n t h
 induction h with
 | done t h8 h9 p0 p1 =>
  obtain ⟨k, p, nm, s, ls, ks⟩ := t
  have h8 : k ≠ 8 := h8
  have p0 : 0 ≤ p := p0
  have p1 : p ≤ 1000000 := p1
  have e : (if 4 ≤ k ∧ k ≤ 7 then ad p 0 else p) = p := by rw [ad_0 p0 p1]; simp
  rw [raiseT_mk, e, hd_o h8, hd_o h8]
  exact ⟨.done _ h8 h9 p0 p1, rfl⟩
 | step n t k h hk hh ih =>
  obtain ⟨kd, p, nm, s, ls, ks⟩ := t
  have hq : kd = 8 := h
  have hk : ks = [k] := hk
  subst hk
  rw [raiseT_mk, List.map_cons, List.map_nil, hd_8 hq rfl, hd_8 hq rfl]
  exact ⟨.step n _ (raiseT 0 k) hq rfl ih.1, ih.2⟩
theorem Hd.put {x : ByteArray} {b : Ty} : ∀ {n : Nat} {t : Ty}, Hd n t → Hd n (putT x b t) ∧ hd (putT x b t) = hd t := by
 intro n t h
 induction h with
 | done t h8 h9 p0 p1 =>
  obtain ⟨k, p, nm, s, ls, ks⟩ := t
  have h8 : k ≠ 8 := h8
  have h9 : k ≠ 9 := h9
  have p0 : 0 ≤ p := p0
  have p1 : p ≤ 1000000 := p1
  have e : (if 4 ≤ k ∧ k ≤ 7 then ad p 0 else p) = p := by rw [ad_0 p0 p1]; simp
  unfold putT
  rw [if_neg (fun hc => h9 hc.1), if_neg (fun hc => h8 hc.1), e, hd_o h8, hd_o h8]
  exact ⟨.done _ h8 h9 p0 p1, rfl⟩
 | step n t k h hk hh ih =>
  have hr := (Hd.step n t k h hk hh).raise
  obtain ⟨kd, p, nm, s, ls, ks⟩ := t
  have hq : kd = 8 := h
  have hk : ks = [k] := hk
  subst hk
  unfold putT
  rw [if_neg (fun hc => by have := hc.1; omega)]
  split
  ·exact hr
  ·rw [putTs_eq, List.map_cons, List.map_nil, hd_8 hq rfl, hd_8 hq rfl]
   exact ⟨.step n _ (putT x b k) hq rfl ih.1, ih.2⟩
theorem Hd.unf : ∀ {n : Nat} {t : Ty}, Hd n t → ∃ u, Unf t u ∧ (u.kind, u.prio) = hd t := by
 intro n
 induction n with
 | zero =>
  intro t h
  have hr := h.raise.2
  cases h with
  | done _ h8 h9 p0 p1 =>
   refine ⟨_, .done t h8, ?_⟩
   rw [← hr]
   obtain ⟨k, p, nm, s, ls, ks⟩ := t
   have h8 : k ≠ 8 := h8
   rw [raiseT_mk, hd_o h8]
   rfl
 | succ n ih =>
  intro t h
  cases h with
  | step _ _ k h hk hh =>
   obtain ⟨u, h1, h2⟩ := ih (hh.put (x := t.name) (b := t)).1
   refine ⟨u, .step t k u [] h hk h1, ?_⟩
   rw [h2, hh.put.2]
   obtain ⟨kd, p, nm, s, ls, ks⟩ := t
   have h : kd = 8 := h
   have hk : ks = [k] := hk
   rw [hd_8 h hk]
theorem Wf.hd : ∀ (t : Ty) (ns : List ByteArray), Wf t ns 0 → ∃ n, Hd n t := by
 intro t
 induction t using Ty.ind with
 | _ t ih =>
 intro ns h
 cases h with
 | mk _ _ _ h1 h9 h8 hk =>
 unfold Wf1 at h1
 have h1 := h1.1
 by_cases hk8 : t.kind = 8
 ·have hl := (h1.2.2.2.2.2.1 hk8).1
  obtain ⟨x, hks⟩ := List.length_eq_one_iff.1 hl
  have hm : x ∈ t.kids := by rw [hks]; exact List.mem_cons_self
  obtain ⟨n, hn⟩ := ih _ hm (ns ++ [t.name]) (h8 hk8 _ hm)
  exact ⟨n + 1, .step n t _ hk8 hks hn⟩
 ·have hk9 : t.kind ≠ 9 := fun h => by
   obtain ⟨j, hj, _⟩ := h9 h
   omega
  exact ⟨0, .done t hk8 hk9 h1.2.1.1 h1.2.1.2.1⟩
theorem Wf.ln : ∀ (t : Ty) (ns : List ByteArray) (g : Nat), Wf t ns g → t.sz ≤ 549755813888 → Ln t := by
 intro t
 induction t using Ty.ind with
 | _ t ih =>
 intro ns g h hz
 cases h with
 | mk _ _ _ h1 h9 h8 hk =>
 unfold Wf1 at h1
 have h1 := h1.1
 have hkl : t.kids.length ≤ t.sz := by
  obtain ⟨k, p, nm, s, ls, ks⟩ := t
  have := szs_len ks
  simp only [Ty.sz, Ty.kids]
  omega
 have hll : t.labels.length = 0 ∨ t.labels.length = t.kids.length := by
  clear h8 h9 hk ih
  omega
 refine .mk t (by omega) (by omega) fun k hkm => ?_
 have hs := Ty.sz_kid hkm
 by_cases hk8 : t.kind = 8
 ·exact ih k hkm _ _ (h8 hk8 k hkm) (by omega)
 ·exact ih k hkm _ _ (hk hk8 k hkm) (by omega)
/-! in the graph -/
end Go.Proofs.YtkpnmgohbipjjaaGreatDoor.Tx
/- A reference of a graph stands for a closed type. -/
namespace Go.Proofs.YtkpnmgohbipjjaaGreatDoor.Tx
open Go.Lf Go.Lf.S Go.Lf.Duo
set_option maxRecDepth 100000
theorem wr_add (a b : Int) : IntKind.i64.wrap (IntKind.i64.wrap a + b) = IntKind.i64.wrap (a + b) := by
 simp only [IntKind.wrap, IntKind.signed, IntKind.bits]
 simp
 omega
theorem ad_ad (a b k : Int) : ad (ad a b) k = ad a (b + k) := by
 unfold ad; rw [wr_add]; congr 1; omega
theorem ad_wr (a b : Int) : ad a (IntKind.i64.wrap b) = ad a b := by
 unfold ad; rw [Int.add_comm, wr_add, Int.add_comm]
theorem raise_raise (a b : Int) : ∀ t : Ty, raiseT a (raiseT b t) = raiseT (b + a) t := by
 intro t
 induction t using Ty.ind with
 | _ t ih =>
 obtain ⟨k, p, nm, s, ls, ks⟩ := t
 rw [raiseT_mk, raiseT_mk, raiseT_mk]
 congr 1
 ·split
  ·rw [ad_ad]
  ·rfl
 ·rw [List.map_map]
  exact List.map_congr_left fun x hx => ih x hx
/-- no variable of this name is free in it -/
inductive NF (x : ByteArray) : Ty → Prop
 | mk (t : Ty) (h9 : t.kind = 9 → t.name ≠ x) (h : ¬ (t.kind = 8 ∧ t.name = x) → ∀ k ∈ t.kids, NF x k) : NF x t
def Clo (t : Ty) : Prop := ∀ x, NF x t
theorem NF.raise {x : ByteArray} {k : Int} : ∀ {t : Ty}, NF x t → NF x (raiseT k t) := by
 intro t
 induction t using Ty.ind with
 | _ t ih =>
 intro h
 cases h with
 | mk _ h9 h =>
 obtain ⟨kd, p, nm, s, ls, ks⟩ := t
 rw [raiseT_mk]
 refine .mk _ h9 fun hn y hy => ?_
 obtain ⟨z, hz, rfl⟩ := List.mem_map.1 hy
 exact ih z hz (h hn z hz)
theorem Clo.raise {k : Int} {t : Ty} (h : Clo t) : Clo (raiseT k t) := fun x => (h x).raise
/-- nothing to be put -/
theorem put_nf {x : ByteArray} {b : Ty} : ∀ {t : Ty}, NF x t → putT x b t = raiseT 0 t := by
 intro t
 induction t using Ty.ind with
 | _ t ih =>
 intro h
 cases h with
 | mk _ h9 h =>
 obtain ⟨kd, p, nm, s, ls, ks⟩ := t
 unfold putT
 split
 ·rename_i hc; exact absurd hc.2 (h9 hc.1)
 ·split
  ·rfl
  ·rename_i hn
   rw [raiseT_mk, putTs_eq]
   congr 1
   exact List.map_congr_left fun y hy => ih y hy (h hn y hy)
theorem raise_put {x : ByteArray} {b : Ty} (k : Int) : ∀ t : Ty, putT x (raiseT k b) (raiseT k t) = raiseT k (putT x b t) := by
 intro t
 induction t using Ty.ind with
 | _ t ih =>
 obtain ⟨kd, p, nm, s, ls, ks⟩ := t
 rw [raiseT_mk]
 unfold putT
 split
 ·rw [raise_raise, raise_raise]; congr 1; omega
 ·split
  ·rw [raise_raise, raiseT_mk, raiseT_mk, List.map_map]
   congr 1
   ·split
    ·unfold ad; rw [wr_add]; congr 1; omega
    ·rfl
   ·refine List.map_congr_left fun y _ => ?_
    show raiseT 0 (raiseT k y) = _
    rw [raise_raise]; congr 1; omega
  ·rw [putTs_eq, putTs_eq, raiseT_mk, List.map_map, List.map_map]
   congr 1
   ·split
    ·unfold ad; rw [wr_add, wr_add]; congr 1; omega
    ·rfl
   ·exact List.map_congr_left fun y hy => ih y hy
theorem Unf.raise (k : Int) : ∀ {t u : Ty}, Unf t u → Unf (raiseT k t) (raiseT k u) := by
 intro t u h
 induction h with
 | done t h =>
  have e : raiseT k (raiseT 0 t) = raiseT 0 (raiseT k t) := by rw [raise_raise, raise_raise]; congr 1; omega
  rw [e]
  refine .done _ ?_
  obtain ⟨kd, p, nm, s, ls, ks⟩ := t
  rw [raiseT_mk]; exact h
 | step t q u r h hk hu ih =>
  rw [← raise_put] at ih
  obtain ⟨kd, p, nm, s, ls, ks⟩ := t
  have hk : ks = q :: r := hk
  subst hk
  refine .step _ (raiseT k q) _ (r.map (raiseT k)) ?_ ?_ ih
  ·rw [raiseT_mk]; exact h
  ·rw [raiseT_mk]; rfl
theorem unf_fun : ∀ {t u v : Ty}, Unf t u → Unf t v → u = v := by
 intro t u v h
 induction h with
 | done t h =>
  intro h2
  cases h2 with
  | done => rfl
  | step _ _ _ _ h' => exact absurd h' h
 | step t q u r h hk hu ih =>
  intro h2
  cases h2 with
  | done _ h' => exact absurd h h'
  | step _ q' _ r' h' hk' hu' =>
   rw [hk] at hk'
   cases hk'
   exact ih hu'
/-! closed types put for variables -/
def Env := ByteArray → Option Ty
def Env.del (δ : Env) (x : ByteArray) : Env := fun y => if y = x then none else δ y
def Env.upd (δ : Env) (x : ByteArray) (t : Ty) : Env := fun y => if y = x then some t else δ y
mutual
def sub (δ : Env) : Ty → Ty
 | .mk kd p nm s ls ks => if kd = 9 then (match δ nm with
   | some t => raiseT s t
   | none => .mk kd p nm s ls ks) else if kd = 8 then .mk kd p nm s ls (subs (δ.del nm) ks) else .mk kd p nm s ls (subs δ ks)
def subs (δ : Env) : List Ty → List Ty
 | [] => []
 | t :: ts => sub δ t :: subs δ ts
end
theorem subs_eq (δ : Env) : ∀ l : List Ty, subs δ l = l.map (sub δ)
 | [] => by simp [subs]
 | t :: ts => by simp [subs, subs_eq δ ts]
theorem sub_9 {δ : Env} {kd p : Int} {nm : ByteArray} {s : Int} {ls : List ByteArray} {ks : List Ty} (h : kd = 9) {t : Ty} (ht : δ nm = some t) : sub δ (.mk kd p nm s ls ks) = raiseT s t := by
 simp only [sub, if_pos h, ht]
theorem sub_8 {δ : Env} {kd p : Int} {nm : ByteArray} {s : Int} {ls : List ByteArray} {ks : List Ty} (h : kd = 8) : sub δ (.mk kd p nm s ls ks) = .mk kd p nm s ls (ks.map (sub (δ.del nm))) := by
 simp only [sub, subs_eq]
 rw [if_neg (by omega), if_pos h]
theorem sub_o {δ : Env} {kd p : Int} {nm : ByteArray} {s : Int} {ls : List ByteArray} {ks : List Ty} (h : ¬ kd = 8) (h9 : ¬ kd = 9) : sub δ (.mk kd p nm s ls ks) = .mk kd p nm s ls (ks.map (sub δ)) := by
 simp only [sub, subs_eq]
 rw [if_neg h9, if_neg h]
theorem wf_pr {t : Ty} {ns : List ByteArray} {g : Nat} (h : Wf t ns g) : (4 ≤ t.kind ∧ t.kind ≤ 7 → ad t.prio 0 = t.prio) ∧ (t.kind = 9 → t.kids = []) := by
 cases h with
 | mk _ _ _ h1 _ _ _ =>
 unfold Wf1 at h1
 exact ⟨fun _ => ad_0 h1.1.2.1.1 h1.1.2.1.2.1, fun h => List.eq_nil_of_length_eq_zero (h1.1.2.2.2.2.2.2 h).1⟩
theorem wf_kid8 {k p : Int} {nm : ByteArray} {s : Int} {ls : List ByteArray} {ks : List Ty} {ns : List ByteArray} {g : Nat} (h : Wf (.mk k p nm s ls ks) ns g) (h8 : k = 8) : ∃ x, ks = [x] ∧ Wf x (ns ++ [nm]) g := by
 cases h with
 | mk _ _ _ h1 _ h8' _ =>
 unfold Wf1 at h1
 obtain ⟨x, hx⟩ := List.length_eq_one_iff.1 (h1.1.2.2.2.2.2.1 h8).1
 have hx : ks = [x] := hx
 exact ⟨x, hx, h8' h8 x (by show x ∈ ks; rw [hx]; simp)⟩
theorem wf_kids {k p : Int} {nm : ByteArray} {s : Int} {ls : List ByteArray} {ks : List Ty} {ns : List ByteArray} {g : Nat} (h : Wf (.mk k p nm s ls ks) ns g) (h8 : ¬ k = 8) : ∀ x ∈ ks, Wf x ns ns.length := by
 cases h with
 | mk _ _ _ h1 _ _ hk => exact hk h8
theorem wf_var {k p : Int} {nm : ByteArray} {s : Int} {ls : List ByteArray} {ks : List Ty} {ns : List ByteArray} {g : Nat} (h : Wf (.mk k p nm s ls ks) ns g) (h9 : k = 9) : ∃ j, j < g ∧ LastAt nm ns j := by
 cases h with
 | mk _ _ _ h1 h9' _ _ => exact h9' h9
theorem raise0_sub {δ : Env} : ∀ {t : Ty} {ns : List ByteArray} {g : Nat}, Wf t ns g → raiseT 0 (sub δ t) = sub δ t := by
 intro t
 induction t using Ty.ind generalizing δ with
 | _ t ih =>
 intro ns g h
 obtain ⟨h1, h2⟩ := wf_pr h
 obtain ⟨kd, p, nm, s, ls, ks⟩ := t
 by_cases h9 : kd = 9
 ·cases hd : δ nm with
  | some t => rw [sub_9 h9 hd, raise_raise]; congr 1; omega
  | none =>
   simp only [sub, if_pos h9, hd, raiseT_mk]
   rw [if_neg (by omega), show ks = [] from h2 h9]; rfl
 ·by_cases h8 : kd = 8
  ·obtain ⟨x, rfl, hx⟩ := wf_kid8 h h8
   rw [sub_8 h8, raiseT_mk, if_neg (by omega)]
   simp only [List.map_cons, List.map_nil]
   rw [ih x (by simp [Ty.kids]) hx]
  ·have hk := wf_kids h h8
   rw [sub_o h8 h9, raiseT_mk, List.map_map]
   congr 1
   ·split
    ·rename_i hc; exact h1 hc
    ·rfl
   ·exact List.map_congr_left fun x hx => ih x hx (hk x hx)
/-- what is put last is put first -/
theorem put_sub {x : ByteArray} {B : Ty} : ∀ {t : Ty} {ns : List ByteArray} {g : Nat} {δ : Env}, Wf t ns g → (∀ y T, δ y = some T → y ≠ x → NF x T) → putT x B (sub (δ.del x) t) = sub (δ.upd x B) t := by
 intro t
 induction t using Ty.ind with
 | _ t ih =>
 intro ns g δ h hδ
 obtain ⟨h1, h2⟩ := wf_pr h
 have hr0 := @raise0_sub (δ.del x) t ns g h
 obtain ⟨kd, p, nm, s, ls, ks⟩ := t
 by_cases h9 : kd = 9
 ·by_cases hx : nm = x
  ·have hd : (δ.del x) nm = none := by simp [Env.del, hx]
   have hu : (δ.upd x B) nm = some B := by simp [Env.upd, hx]
   rw [sub_9 h9 hu]
   simp only [sub, if_pos h9, hd]
   simp only [putT]
   rw [if_pos ⟨h9, hx⟩]
  ·have hd : (δ.del x) nm = δ nm := by simp [Env.del, hx]
   have hu : (δ.upd x B) nm = δ nm := by simp [Env.upd, hx]
   cases hd2 : δ nm with
   | some T =>
    rw [sub_9 h9 (hd.trans hd2), sub_9 h9 (hu.trans hd2), put_nf (hδ _ _ hd2 hx).raise, raise_raise]; congr 1; omega
   | none =>
    have e : ks = [] := h2 h9
    subst e
    simp only [sub, if_pos h9, hd, hu, hd2]
    simp only [putT]
    rw [if_neg (fun hc => hx hc.2), if_neg (fun hc => by omega), if_neg (by omega), putTs_eq]; rfl
 ·by_cases h8 : kd = 8
  ·obtain ⟨q, rfl, hq⟩ := wf_kid8 h h8
   rw [sub_8 h8] at hr0 ⊢
   rw [sub_8 h8]
   simp only [List.map_cons, List.map_nil] at hr0 ⊢
   by_cases hx : nm = x
   ·have e1 : (δ.del x).del nm = (δ.upd x B).del nm := by
     funext y; simp only [Env.del, Env.upd]
     by_cases hy : y = nm
     ·rw [if_pos hy, if_pos hy]
     ·rw [if_neg hy, if_neg hy, if_neg (by rw [← hx]; exact hy), if_neg (by rw [← hx]; exact hy)]
    rw [← e1]
    simp only [putT]
    rw [if_neg (by omega), if_pos ⟨h8, hx⟩]
    exact hr0
   ·have e1 : (δ.del x).del nm = (δ.del nm).del x := by
     funext y; simp only [Env.del]
     by_cases hy : y = nm <;> by_cases hy2 : y = x <;> simp [hy, hy2]
    have e2 : (δ.upd x B).del nm = (δ.del nm).upd x B := by
     funext y; simp only [Env.del, Env.upd]
     by_cases hy : y = nm
     ·rw [if_pos hy, if_neg (by rw [hy]; exact hx), if_pos hy]
     ·rw [if_neg hy, if_neg hy]
    rw [e1, e2]
    simp only [putT]
    rw [if_neg (by omega), if_neg (fun hc => hx hc.2), if_neg (by omega), putTs_eq]
    simp only [List.map_cons, List.map_nil]
    rw [ih q (by simp [Ty.kids]) hq]
    intro y T hy hne
    unfold Env.del at hy
    split at hy
    ·cases hy
    ·exact hδ y T hy hne
  ·have hk := wf_kids h h8
   rw [sub_o h8 h9, sub_o h8 h9]
   simp only [putT]
   rw [if_neg (fun hc => h9 hc.1), if_neg (fun hc => h8 hc.1), putTs_eq, List.map_map]
   congr 1
   ·split
    ·rename_i hc; exact h1 hc
    ·rfl
   ·exact List.map_congr_left fun y hy => ih y hy (hk y hy) hδ
theorem nf_sub {x : ByteArray} : ∀ {t : Ty} {ns : List ByteArray} {g : Nat} {δ : Env}, Wf t ns g → (∀ y T, δ y = some T → NF x T) → (x ∈ ns → δ x ≠ none) → NF x (sub δ t) := by
 intro t
 induction t using Ty.ind with
 | _ t ih =>
 intro ns g δ h hδ hx
 obtain ⟨kd, p, nm, s, ls, ks⟩ := t
 by_cases h9 : kd = 9
 ·obtain ⟨j, _, hj, _⟩ := wf_var h h9
  cases hd : δ nm with
  | some T => rw [sub_9 h9 hd]; exact (hδ _ _ hd).raise
  | none =>
   simp only [sub, if_pos h9, hd]
   refine .mk _ (fun _ e => ?_) fun _ k hk => ?_
   ·have e : nm = x := e
    subst e
    exact hx (List.mem_of_getElem? hj) hd
   ·rw [(wf_pr h).2 h9] at hk; cases hk
 ·by_cases h8 : kd = 8
  ·obtain ⟨q, rfl, hq⟩ := wf_kid8 h h8
   rw [sub_8 h8]
   refine .mk _ (fun e => absurd e h9) fun hn k hk => ?_
   simp only [Ty.kids, List.map_cons, List.map_nil, List.mem_singleton] at hk
   subst hk
   have hne : ¬ nm = x := fun e => hn ⟨h8, e⟩
   refine ih q (by simp [Ty.kids]) hq (fun y T hy => ?_) fun hm => ?_
   ·unfold Env.del at hy
    split at hy
    ·cases hy
    ·exact hδ y T hy
   ·unfold Env.del
    rw [if_neg (Ne.symm hne)]
    rcases List.mem_append.1 hm with hm | hm
    ·exact hx hm
    ·exact absurd (List.mem_singleton.1 hm).symm hne
  ·have hk := wf_kids h h8
   rw [sub_o h8 h9]
   refine .mk _ (fun e => absurd e h9) fun _ k hkm => ?_
   obtain ⟨q, hq, rfl⟩ := List.mem_map.1 hkm
   exact ih q hq (hk q hq) hδ hx
end Go.Proofs.YtkpnmgohbipjjaaGreatDoor.Tx
/- A reference of a graph stands for a closed type (2): the graphs of types. -/
namespace Go.Proofs.YtkpnmgohbipjjaaGreatDoor.Tx
open Go.Lf Go.Lf.S Go.Lf.Duo
set_option maxRecDepth 100000
/-- one step -/
def Stp (ds : List Nd) (R : Rf → Ty → Prop) (r : Rf) (T : Ty) : Prop :=
 0 ≤ r.node ∧ ∃ u d, Unf T u ∧ ds[r.node.toNat]? = some d ∧ d.kind = u.kind ∧ (act d.kind = true → ad d.prio r.shift = u.prio) ∧ d.labels = u.labels ∧ d.next.length = u.kids.length ∧
  ∀ (j : Nat) (v : Rf) (k : Ty), d.next[j]? = some v → u.kids[j]? = some k → R ⟨v.node, ad v.shift r.shift⟩ k
/-- the reference stands for the type -/
def RT (ds : List Nd) (r : Rf) (T : Ty) : Prop := ∃ R : Rf → Ty → Prop, R r T ∧ ∀ r T, R r T → Stp ds R r T
theorem Stp.mono {ds : List Nd} {R R' : Rf → Ty → Prop} {r : Rf} {T : Ty} (h : Stp ds R r T) (hR : ∀ r T, R r T → R' r T) : Stp ds R' r T := by
 obtain ⟨h0, u, d, h1, h2, h3, h4, h5, h6, h7⟩ := h
 exact ⟨h0, u, d, h1, h2, h3, h4, h5, h6, fun j v k hv hk => hR _ _ (h7 j v k hv hk)⟩
theorem RT.step {ds : List Nd} {r : Rf} {T : Ty} (h : RT ds r T) : Stp ds (RT ds) r T := by
 obtain ⟨R, h1, h2⟩ := h
 exact (h2 r T h1).mono fun r T h => ⟨R, h, h2⟩
theorem ad_sh (a b k : Int) : ad a (ad b k) = ad (ad a b) k := by
 rw [ad_ad]; unfold ad; rw [Int.add_comm a, wr_add, Int.add_comm (b + k)]
theorem raise_kind (k : Int) (t : Ty) : (raiseT k t).kind = t.kind := by obtain ⟨a, b, c, d, e, f⟩ := t; rw [raiseT_mk]; rfl
theorem raise_labels (k : Int) (t : Ty) : (raiseT k t).labels = t.labels := by obtain ⟨a, b, c, d, e, f⟩ := t; rw [raiseT_mk]; rfl
theorem raise_kids (k : Int) (t : Ty) : (raiseT k t).kids = t.kids.map (raiseT k) := by obtain ⟨a, b, c, d, e, f⟩ := t; rw [raiseT_mk]; rfl
theorem raise_prio (k : Int) (t : Ty) (h : act t.kind = true) : (raiseT k t).prio = ad t.prio k := by
 obtain ⟨a, b, c, d, e, f⟩ := t
 have h : 4 ≤ a ∧ a ≤ 7 := of_decide_eq_true h
 rw [raiseT_mk, if_pos h]; rfl
theorem RT.raise {ds : List Nd} {n s : Int} {T : Ty} (k : Int) (h : RT ds ⟨n, s⟩ T) : RT ds ⟨n, ad s k⟩ (raiseT k T) := by
 refine ⟨fun r T => ∃ s T0, r.shift = ad s k ∧ T = raiseT k T0 ∧ RT ds ⟨r.node, s⟩ T0, ⟨s, T, rfl, rfl, h⟩, ?_⟩
 rintro ⟨n, sh⟩ _ ⟨s, T0, rfl, rfl, hr⟩
 obtain ⟨h0, u, d, h1, h2, h3, h4, h5, h6, h7⟩ := hr.step
 refine ⟨h0, raiseT k u, d, h1.raise k, h2, by rw [raise_kind]; exact h3, fun ha => ?_, by rw [raise_labels]; exact h5, by rw [raise_kids, List.length_map]; exact h6, fun j v q hv hq => ?_⟩
 ·rw [raise_prio k u (by rw [← h3]; exact ha), ← h4 ha]
  exact ad_sh _ _ _
 ·rw [raise_kids, List.getElem?_map] at hq
  obtain ⟨q0, hq0, rfl⟩ := Option.map_eq_some_iff.1 hq
  exact ⟨ad v.shift s, q0, ad_sh _ _ _, rfl, h7 j v q0 hv hq0⟩
theorem unf_done {t u : Ty} (h : Unf t u) : u.kind ≠ 8 ∧ raiseT 0 u = u := by
 induction h with
 | done t h => exact ⟨by rw [raise_kind]; exact h, by rw [raise_raise]; congr 1⟩
 | step t k u r h hk hu ih => exact ih
theorem unf_self {t u : Ty} (h : Unf t u) : Unf u u := by
 obtain ⟨h1, h2⟩ := unf_done h
 have := Unf.done u h1
 rwa [h2] at this
theorem RT.unf {ds : List Nd} {r : Rf} {T u : Ty} (h : RT ds r T) (hu : Unf T u) : RT ds r u := by
 obtain ⟨h0, u', d, h1, h2, h3, h4, h5, h6, h7⟩ := h.step
 obtain rfl := unf_fun hu h1
 have hs : Stp ds (RT ds) r u := ⟨h0, u, d, unf_self h1, h2, h3, h4, h5, h6, h7⟩
 refine ⟨fun r' T' => RT ds r' T' ∨ (r' = r ∧ T' = u), .inr ⟨rfl, rfl⟩, ?_⟩
 rintro r' T' (h | ⟨rfl, rfl⟩)
 ·exact h.step.mono fun _ _ h => .inl h
 ·exact hs.mono fun _ _ h => .inl h
/-! the occurrences of a graph's types -/
/-- the type of the last one of a name -/
def lkT : List ByteArray → List Ty → Env
 | n :: ns, t :: ts, nm => match lkT ns ts nm with
  | some q => some q
  | none => if n = nm then some t else none
 | _, _, _ => none
theorem lkT_snoc (x : ByteArray) (T : Ty) : ∀ (ns : List ByteArray) (Ts : List Ty), ns.length = Ts.length → lkT (ns ++ [x]) (Ts ++ [T]) = (lkT ns Ts).upd x T
 | [], [], _ => by
  funext y
  simp only [List.nil_append, lkT, Env.upd]
  by_cases h : y = x
  ·rw [if_pos h, if_pos h.symm]
  ·rw [if_neg h, if_neg (Ne.symm h)]
 | n :: ns, t :: ts, h => by
  have ih := lkT_snoc x T ns ts (by simpa using h)
  funext y
  simp only [List.cons_append, lkT, ih, Env.upd]
  by_cases h : y = x
  ·simp [h]
  ·simp [h]
 | [], _ :: _, h => by simp at h
 | _ :: _, [], h => by simp at h
theorem lkT_mem : ∀ (ns : List ByteArray) (Ts : List Ty) (y : ByteArray) (T : Ty), lkT ns Ts y = some T → T ∈ Ts
 | [], _, _, _, h => by simp [lkT] at h
 | n :: ns, [], _, _, h => by simp [lkT] at h
 | n :: ns, t :: ts, y, T, h => by
  simp only [lkT] at h
  split at h
  ·rename_i q hq; cases h; exact List.mem_cons_of_mem _ (lkT_mem ns ts y _ hq)
  ·split at h
   ·cases h; exact List.mem_cons_self
   ·cases h
theorem lkT_none : ∀ (ns : List ByteArray) (Ts : List Ty) (y : ByteArray), ns.length = Ts.length → lkT ns Ts y = none → y ∉ ns
 | [], _, _, _, _ => by simp
 | n :: ns, [], _, h, _ => by simp at h
 | n :: ns, t :: ts, y, hl, h => by
  simp only [lkT] at h
  split at h
  ·cases h
  ·rename_i hq
   split at h
   ·cases h
   ·rename_i hn
    have := lkT_none ns ts y (by simpa using hl) hq
    simp [this, Ne.symm hn]
theorem lkT_at : ∀ (ns : List ByteArray) (Ts : List Ty) (y : ByteArray) (j : Nat), ns[j]? = some y → (∀ i : Nat, j < i → ns[i]? ≠ some y) → (h : j < Ts.length) → lkT ns Ts y = some Ts[j]
 | [], _, _, _, h, _, _ => by simp at h
 | n :: ns, [], _, _, _, _, h => by simp at h
 | n :: ns, t :: ts, y, 0, h, hl, _ => by
  simp at h
  have : lkT ns ts y = none := by
   cases hq : lkT ns ts y with
   | none => rfl
   | some T =>
    have : ∀ (ns : List ByteArray) (ts : List Ty) (T : Ty), lkT ns ts y = some T → y ∈ ns := by
     intro ns
     induction ns with
     | nil => intro ts T h; simp [lkT] at h
     | cons n ns ih =>
      intro ts T h
      cases ts with
      | nil => simp [lkT] at h
      | cons t ts =>
       simp only [lkT] at h
       split at h
       ·rename_i q hq; exact List.mem_cons_of_mem _ (ih _ _ hq)
       ·split at h
        ·rename_i he; simp [he]
        ·cases h
    obtain ⟨k, hk⟩ := List.mem_iff_getElem?.1 (this ns ts T hq)
    exact absurd (by simpa using hk) (hl (k + 1) (by omega))
  rw [lkT, this]
  simp [h]
 | n :: ns, t :: ts, y, j + 1, h, hl, hj => by
  rw [lkT, lkT_at ns ts y j (by simpa using h) (fun i hi => by simpa using hl (i + 1) (by omega)) (by simpa using hj)]
  simp
def noE : Env := fun _ => none
theorem sub_id : ∀ t : Ty, sub noE t = t := by
 intro t
 induction t using Ty.ind with
 | _ t ih =>
 obtain ⟨kd, p, nm, s, ls, ks⟩ := t
 have hm : ks.map (sub noE) = ks := by
  conv => rhs; rw [← List.map_id ks]
  exact List.map_congr_left fun x hx => ih x hx
 by_cases h9 : kd = 9
 ·simp only [sub, if_pos h9, noE]
 ·by_cases h8 : kd = 8
  ·have e : Env.del noE nm = noE := by funext y; simp [Env.del, noE]
   rw [sub_8 h8, e, hm]
  ·rw [sub_o h8 h9, hm]
/-- lists of bounded lengths throughout, by any number -/
inductive Lm (m : Nat) : Ty → Prop
 | mk (t : Ty) (h1 : t.labels.length ≤ m) (h2 : t.kids.length ≤ m) (h : ∀ k ∈ t.kids, Lm m k) : Lm m t
theorem Lm.raise {m : Nat} {k : Int} : ∀ {t : Ty}, Lm m t → Lm m (raiseT k t) := by
 intro t
 induction t using Ty.ind with
 | _ t ih =>
 intro h
 cases h with
 | mk _ h1 h2 h =>
 obtain ⟨kd, p, nm, s, ls, ks⟩ := t
 rw [raiseT_mk]
 refine .mk _ h1 (by show (ks.map (raiseT k)).length ≤ _; rw [List.length_map]; exact h2) fun x hx => ?_
 obtain ⟨y, hy, rfl⟩ := List.mem_map.1 hx
 exact ih y hy (h y hy)
theorem Lm.sub {m : Nat} : ∀ {t : Ty} {δ : Env}, (∀ y T, δ y = some T → Lm m T) → Lm m t → Lm m (sub δ t) := by
 intro t
 induction t using Ty.ind with
 | _ t ih =>
 intro δ hδ h
 have h0 := h
 cases h with
 | mk _ h1 h2 h =>
 obtain ⟨kd, p, nm, s, ls, ks⟩ := t
 by_cases h9 : kd = 9
 ·cases hd : δ nm with
  | some T => rw [sub_9 h9 hd]; exact (hδ _ _ hd).raise
  | none =>
   have e : Tx.sub δ (.mk kd p nm s ls ks) = .mk kd p nm s ls ks := by simp only [Tx.sub, if_pos h9, hd]
   rw [e]; exact h0
 ·by_cases h8 : kd = 8
  ·rw [sub_8 h8]
   refine .mk _ h1 (by show (ks.map _).length ≤ _; rw [List.length_map]; exact h2) fun x hx => ?_
   obtain ⟨y, hy, rfl⟩ := List.mem_map.1 hx
   refine ih y hy (fun z T hz => ?_) (h y hy)
   unfold Env.del at hz
   split at hz
   ·cases hz
   ·exact hδ z T hz
  ·rw [sub_o h8 h9]
   refine .mk _ h1 (by show (ks.map _).length ≤ _; rw [List.length_map]; exact h2) fun x hx => ?_
   obtain ⟨y, hy, rfl⟩ := List.mem_map.1 hx
   exact ih y hy hδ (h y hy)
theorem Lm.ln {m : Nat} (hm : m ≤ 549755813888) : ∀ {t : Ty}, Lm m t → Ln t := by
 intro t
 induction t using Ty.ind with
 | _ t ih =>
 intro h
 cases h with
 | mk _ h1 h2 h => exact .mk _ (by omega) (by omega) fun k hk => ih k hk (h k hk)
theorem Wf.lm : ∀ (t : Ty) (ns : List ByteArray) (g m : Nat), Wf t ns g → t.sz ≤ m → Lm m t := by
 intro t
 induction t using Ty.ind with
 | _ t ih =>
 intro ns g m h hz
 cases h with
 | mk _ _ _ h1 h9 h8 hk =>
 unfold Wf1 at h1
 have h1 := h1.1
 have hkl : t.kids.length ≤ t.sz := by
  obtain ⟨k, p, nm, s, ls, ks⟩ := t
  have := szs_len ks
  simp only [Ty.sz, Ty.kids]
  omega
 have hll : t.labels.length = 0 ∨ t.labels.length = t.kids.length := by
  clear h8 h9 hk ih
  omega
 refine .mk t (by omega) (by omega) fun k hkm => ?_
 have hs := Ty.sz_kid hkm
 by_cases hk8 : t.kind = 8
 ·exact ih k hkm _ _ _ (h8 hk8 k hkm) (by omega)
 ·exact ih k hkm _ _ _ (hk hk8 k hkm) (by omega)
/-- the shape of an unfolded right type -/
structure Shp (m : Nat) (u : Ty) : Prop where
 k1 : 1 ≤ u.kind ∧ u.kind ≤ 7
 k3 : u.kind ≤ 3 → u.kids = [] ∧ u.labels = [] ∧ u.prio = 0
 k5 : 4 ≤ u.kind ∧ u.kind ≤ 5 → u.kids.length = 2 ∧ u.labels = []
 k7 : 6 ≤ u.kind ∧ u.kind ≤ 7 → u.kids.length = u.labels.length
 nd : u.labels.Nodup
 lm : Lm m u
mutual
/-- the closed types of a type's occurrences -/
def occL (ns : List ByteArray) (Ts : List Ty) : Ty → List Ty
 | .mk k p nm s ls ks => sub (lkT ns Ts) (.mk k p nm s ls ks) :: (if k = 8 then occLs (ns ++ [nm]) (Ts ++ [sub (lkT ns Ts) (.mk k p nm s ls ks)]) ks else occLs ns Ts ks)
def occLs (ns : List ByteArray) (Ts : List Ty) : List Ty → List Ty
 | [] => []
 | t :: ts => occL ns Ts t ++ occLs ns Ts ts
end
inductive Occ (ds : List Nd) (L : List Ty) (M : Nat) : Ty → Int → List ByteArray → List Rf → List Ty → Nat → Prop
 | top (t : Ty) (a : Int) (h : Wf t [] 0) (hp : Pl ds a (nodesF t a [] [])) (hL : ∀ x ∈ occL [] [] t, x ∈ L) (hM : Lm M t) : Occ ds L M t a [] [] [] 0
 | down (k p : Int) (nm : ByteArray) (s : Int) (ls : List ByteArray) (x : Ty) (a : Int) (ns : List ByteArray) (refs : List Rf) (Ts : List Ty) (g : Nat) (h8 : k = 8) (h : Occ ds L M (.mk k p nm s ls [x]) a ns refs Ts g) :
   Occ ds L M x a (ns ++ [nm]) (refs ++ [refF (.mk k p nm s ls [x]) a ns refs]) (Ts ++ [sub (lkT ns Ts) (.mk k p nm s ls [x])]) g
 | kid (k p : Int) (nm : ByteArray) (s : Int) (ls : List ByteArray) (ks : List Ty) (a : Int) (ns : List ByteArray) (refs : List Rf) (Ts : List Ty) (g : Nat) (h8 : ¬ k = 8) (h9 : ¬ k = 9) (h : Occ ds L M (.mk k p nm s ls ks) a ns refs Ts g) (j : Nat) (hj : j < ks.length) :
   Occ ds L M ks[j] (a + 1 + gcs (ks.take j)) ns refs Ts ns.length
/-- what holds of an occurrence -/
structure OccI (ds : List Nd) (L : List Ty) (M : Nat) (t : Ty) (a : Int) (ns : List ByteArray) (refs : List Rf) (Ts : List Ty) (g : Nat) : Prop where
 wf : Wf t ns g
 gle : g ≤ ns.length
 l1 : refs.length = ns.length
 l2 : Ts.length = ns.length
 pl : Pl ds a (nodesF t a ns refs)
 clo : ∀ T ∈ Ts, Clo T
 ent : ∀ (i : Nat) (h1 : i < refs.length) (h2 : i < Ts.length), ∃ t' a' ns' refs' Ts' g', Occ ds L M t' a' ns' refs' Ts' g' ∧ refs[i] = refF t' a' ns' refs' ∧ Ts[i] = sub (lkT ns' Ts') t' ∧ ((i < g ∨ ∃ n, Hd n t) → ∃ m, Hd m t')
 lm : Lm M t
 lts : ∀ T ∈ Ts, Lm M T
theorem wf_hd0 {k p : Int} {nm : ByteArray} {s : Int} {ls : List ByteArray} {ks : List Ty} {ns : List ByteArray} {g : Nat} (h : Wf (.mk k p nm s ls ks) ns g) (h8 : ¬ k = 8) (h9 : ¬ k = 9) : Hd 0 (.mk k p nm s ls ks) := by
 cases h with
 | mk _ _ _ h1 _ _ _ =>
 unfold Wf1 at h1
 exact .done _ h8 h9 h1.1.2.1.1 h1.1.2.1.2.1
theorem Occ.i {ds : List Nd} {L : List Ty} {M : Nat} {t : Ty} {a : Int} {ns : List ByteArray} {refs : List Rf} {Ts : List Ty} {g : Nat} (h : Occ ds L M t a ns refs Ts g) : OccI ds L M t a ns refs Ts g := by
 induction h with
 | top t a h hp hL hM => exact ⟨h, Nat.le_refl _, rfl, rfl, hp, (fun _ h => by cases h), (fun i h1 => by simp at h1), hM, fun _ h => by cases h⟩
 | down k p nm s ls x a ns refs Ts g h8 h ih =>
  obtain ⟨x', hx', hw⟩ := wf_kid8 ih.wf h8
  cases hx'
  refine ⟨hw, by have := ih.gle; simp; omega, by simp [ih.l1], by simp [ih.l2], ?_, fun T hT => ?_, fun i h1 h2 => ?_, (by cases ih.lm with | mk _ _ _ h => exact h x (by simp [Ty.kids])), fun T hT => ?_⟩
  ·have := ih.pl
   rwa [nodesF_8 h8 rfl] at this
  ·rcases List.mem_append.1 hT with hT | hT
   ·exact ih.clo T hT
   ·obtain rfl := List.mem_singleton.1 hT
    refine fun y => nf_sub ih.wf (fun z T hz => ih.clo T (lkT_mem _ _ _ _ hz) y) fun hy hn => lkT_none _ _ _ ih.l2.symm hn hy
  ·by_cases hi : i < refs.length
   ·have hi2 : i < Ts.length := by have := ih.l1; have := ih.l2; omega
    obtain ⟨t', a', ns', refs', Ts', g', e1, e2, e3, e4⟩ := ih.ent i hi hi2
    refine ⟨t', a', ns', refs', Ts', g', e1, by rw [List.getElem_append_left hi]; exact e2, by rw [List.getElem_append_left hi2]; exact e3, fun hc => e4 (hc.imp id fun ⟨n, hn⟩ => ⟨n + 1, .step n _ x h8 rfl hn⟩)⟩
   ·have hl1 := ih.l1
    have hl2 := ih.l2
    have hi3 : i = refs.length := by simp at h1; omega
    subst hi3
    refine ⟨_, a, ns, refs, Ts, g, h, by simp, ?_, fun hc => ?_⟩
    ·rw [List.getElem_append_right (by omega)]; simp
    ·rcases hc with hc | ⟨n, hn⟩
     ·have := ih.gle; omega
     ·exact ⟨n + 1, .step n _ x h8 rfl hn⟩
  ·rcases List.mem_append.1 hT with hT | hT
   ·exact ih.lts T hT
   ·obtain rfl := List.mem_singleton.1 hT
    exact Lm.sub (fun y T hy => ih.lts T (lkT_mem _ _ _ _ hy)) ih.lm
 | kid k p nm s ls ks a ns refs Ts g h8 h9 h j hj ih =>
  have hk := wf_kids ih.wf h8
  have hpl := ih.pl
  rw [nodesF_o h8 h9] at hpl
  have hpl2 := Pl.right (l := [⟨k, p, ls, nextsF ks (a + 1) ns refs⟩]) (n := 1) rfl hpl
  refine ⟨hk _ (List.getElem_mem hj), Nat.le_refl _, ih.l1, ih.l2, Pl.kid hpl2 (fun x hx a => len_nodes x ns ns.length (hk x hx) a ns refs) j hj, ih.clo, fun i h1 h2 => ?_, (by cases ih.lm with | mk _ _ _ h => exact h _ (List.getElem_mem hj)), ih.lts⟩
  obtain ⟨t', a', ns', refs', Ts', g', e1, e2, e3, e4⟩ := ih.ent i h1 h2
  exact ⟨t', a', ns', refs', Ts', g', e1, e2, e3, fun _ => e4 (.inr ⟨0, wf_hd0 ih.wf h8 h9⟩)⟩
theorem look_ext {ns e e' : List ByteArray} {refs r : List Rf} {y : ByteArray} {j : Nat} (h : LastAt y (ns ++ e ++ e') j) (hj : j < ns.length) (hl : refs.length = ns.length) : lookLast (ns ++ e) (refs ++ r) y = some (refs[j]'(by omega)) := by
 obtain ⟨h1, h2⟩ := h
 rw [List.append_assoc, List.getElem?_append_left hj] at h1
 rw [look_at (ns ++ e) (refs ++ r) y j (by rw [List.getElem?_append_left hj]; exact h1) (fun i hi => ?_) (by simp; omega)]
 ·congr 1; rw [List.getElem_append_left (by omega)]
 ·intro hc
  have := (List.getElem?_eq_some_iff.1 hc).1
  exact h2 i hi (by rw [List.getElem?_append_left this]; exact hc)
theorem refF_ext : ∀ (x : Ty) (a : Int) (ns e ext : List ByteArray) (refs r : List Rf) (g : Nat), Wf x (ns ++ e ++ ext) g → g ≤ ns.length → refs.length = ns.length → refF x a (ns ++ e) (refs ++ r) = refF x a ns refs := by
 intro x
 induction x using Ty.ind with
 | _ x ih =>
 intro a ns e ext refs r g h hg hl
 obtain ⟨k, p, nm, s, ls, ks⟩ := x
 by_cases h9 : k = 9
 ·obtain ⟨j, hj, hla⟩ := wf_var h h9
  have h1 := look_ext (r := r) hla (by omega) hl
  have h2 := look_ext (e := []) (e' := e ++ ext) (r := []) (by simpa using hla) (by omega) hl
  simp only [List.append_nil] at h2
  rw [refF_9 h9 h1, refF_9 h9 h2]
 ·by_cases h8 : k = 8
  ·obtain ⟨q, rfl, hq⟩ := wf_kid8 h h8
   rw [refF_8 h8 rfl, refF_8 h8 rfl]
   exact ih q (by simp [Ty.kids]) a ns e (ext ++ [nm]) refs r g (by simpa using hq) hg hl
  ·rw [refF_o h8 h9, refF_o h8 h9]
/-- occurrences and what they stand for, raised -/
def OccR (ds : List Nd) (L : List Ty) (M : Nat) (r : Rf) (T : Ty) : Prop := ∃ σ t a ns refs Ts g, Occ ds L M t a ns refs Ts g ∧ r = ⟨(refF t a ns refs).node, ad (refF t a ns refs).shift σ⟩ ∧ T = raiseT σ (sub (lkT ns Ts) t)
/-- one step, with the shape -/
def Stp1 (ds : List Nd) (M : Nat) (R : Rf → Ty → Prop) (r : Rf) (T : Ty) : Prop :=
 0 ≤ r.node ∧ ∃ u d, Unf T u ∧ Shp M u ∧ ds[r.node.toNat]? = some d ∧ d.kind = u.kind ∧ (act d.kind = true → ad d.prio r.shift = u.prio) ∧ d.labels = u.labels ∧ d.next.length = u.kids.length ∧
  ∀ (j : Nat) (v : Rf) (k : Ty), d.next[j]? = some v → u.kids[j]? = some k → R ⟨v.node, ad v.shift r.shift⟩ k
theorem Stp1.stp {ds : List Nd} {M : Nat} {R : Rf → Ty → Prop} {r : Rf} {T : Ty} (h : Stp1 ds M R r T) : Stp ds R r T := by
 obtain ⟨h0, u, d, h1, _, h2⟩ := h
 exact ⟨h0, u, d, h1, h2⟩
theorem occ_rec {ds : List Nd} {L : List Ty} {M : Nat} {k p : Int} {nm : ByteArray} {s : Int} {ls : List ByteArray} {x : Ty} {a : Int} {ns : List ByteArray} {refs : List Rf} {Ts : List Ty} {g : Nat} {σ : Int} (h8 : k = 8) (h : Occ ds L M (.mk k p nm s ls [x]) a ns refs Ts g)
  (hs : Stp1 ds M (OccR ds L M) ⟨(refF x a (ns ++ [nm]) (refs ++ [refF (.mk k p nm s ls [x]) a ns refs])).node, ad (refF x a (ns ++ [nm]) (refs ++ [refF (.mk k p nm s ls [x]) a ns refs])).shift σ⟩ (raiseT σ (sub (lkT (ns ++ [nm]) (Ts ++ [sub (lkT ns Ts) (.mk k p nm s ls [x])])) x))) :
  Stp1 ds M (OccR ds L M) ⟨(refF (.mk k p nm s ls [x]) a ns refs).node, ad (refF (.mk k p nm s ls [x]) a ns refs).shift σ⟩ (raiseT σ (sub (lkT ns Ts) (.mk k p nm s ls [x]))) := by
 have hi := h.i
 obtain ⟨x', hx', hw⟩ := wf_kid8 hi.wf h8
 cases hx'
 rw [refF_ext x a ns [nm] [] refs _ g (by simpa using hw) hi.gle hi.l1, lkT_snoc _ _ _ _ hi.l2.symm, ← put_sub hw (fun y T hy _ => hi.clo T (lkT_mem _ _ _ _ hy) nm), ← raise_put] at hs
 rw [refF_8 h8 rfl]
 obtain ⟨h0, u, d, h1, h2⟩ := hs
 refine ⟨h0, u, d, ?_, h2⟩
 have e : raiseT σ (sub (lkT ns Ts) (.mk k p nm s ls [x])) = .mk k p nm s ls [raiseT σ (sub ((lkT ns Ts).del nm) x)] := by
  rw [sub_8 h8, raiseT_mk, if_neg (by omega)]; rfl
 refine .step _ (raiseT σ (sub ((lkT ns Ts).del nm) x)) u [] (by rw [e]; exact h8) (by rw [e]; rfl) ?_
 have en : (raiseT σ (sub (lkT ns Ts) (.mk k p nm s ls [x]))).name = nm := by rw [e]; rfl
 rw [en]; exact h1
theorem occ_node {ds : List Nd} {L : List Ty} {M : Nat} {k p : Int} {nm : ByteArray} {s : Int} {ls : List ByteArray} {ks : List Ty} {a : Int} {ns : List ByteArray} {refs : List Rf} {Ts : List Ty} {g : Nat} {σ : Int} (h8 : ¬ k = 8) (h9 : ¬ k = 9) (h : Occ ds L M (.mk k p nm s ls ks) a ns refs Ts g) :
  Stp1 ds M (OccR ds L M) ⟨(refF (.mk k p nm s ls ks) a ns refs).node, ad (refF (.mk k p nm s ls ks) a ns refs).shift σ⟩ (raiseT σ (sub (lkT ns Ts) (.mk k p nm s ls ks))) := by
 have hi := h.i
 have hpl := hi.pl
 rw [nodesF_o h8 h9] at hpl
 have hat := hpl.2 0 (by simp)
 simp only [Nat.add_zero, List.getElem_cons_zero] at hat
 rw [refF_o h8 h9]
 have e : raiseT σ (sub (lkT ns Ts) (.mk k p nm s ls ks)) = .mk k (if 4 ≤ k ∧ k ≤ 7 then ad p σ else p) nm s ls ((ks.map (sub (lkT ns Ts))).map (raiseT σ)) := by rw [sub_o h8 h9, raiseT_mk]
 have hu : Unf (raiseT σ (sub (lkT ns Ts) (.mk k p nm s ls ks))) (raiseT σ (sub (lkT ns Ts) (.mk k p nm s ls ks))) := by
  have := Unf.done (raiseT σ (sub (lkT ns Ts) (.mk k p nm s ls ks))) (by rw [e]; exact h8)
  rw [raise_raise] at this
  simpa using this
 refine ⟨hpl.1, _, _, hu, ?_, hat, by rw [e]; rfl, fun ha => ?_, by rw [e]; rfl, by rw [e]; simp [Ty.kids, nextsF_len], fun j v q hv hq => ?_⟩
 ·have hs := (Lm.sub (δ := lkT ns Ts) (fun y T hy => hi.lts T (lkT_mem _ _ _ _ hy)) hi.lm).raise (k := σ)
  rw [e] at hs ⊢
  have hw := hi.wf
  cases hw with
  | mk _ _ _ h1 w1 w2 w3 =>
  clear w1 w2 w3
  unfold Wf1 at h1
  simp only [Ty.kind, Ty.prio, Ty.shift, Ty.kids, Ty.labels] at h1
  obtain ⟨⟨g1, _, g3, g5, g7, _, _⟩, g8⟩ := h1
  refine ⟨⟨g1.1, by show k ≤ 7; clear g3 g5 g7; omega⟩, fun h => ?_, fun h => ?_, fun h => ?_, g8, hs⟩
  ·have g := g3 h
   have e1 := List.eq_nil_of_length_eq_zero g.1
   have e2 := g.2.1
   have e3 := g.2.2
   have h : k ≤ 3 := h
   exact ⟨by simp [Ty.kids, e1], List.eq_nil_of_length_eq_zero e2, by simp only [Ty.prio]; rw [if_neg (by omega)]; exact e3⟩
  ·obtain ⟨e1, e2⟩ := g5 h
   exact ⟨by simp [Ty.kids, e1], List.eq_nil_of_length_eq_zero e2⟩
  ·simp only [Ty.kids, Ty.labels, List.length_map]; exact (g7 h).1
 ·have ha : 4 ≤ k ∧ k ≤ 7 := of_decide_eq_true ha
  rw [e]
  show ad p (ad 0 σ) = (if 4 ≤ k ∧ k ≤ 7 then ad p σ else p)
  rw [if_pos ha]
  unfold ad; rw [Int.add_comm p, wr_add]; congr 1; omega
 ·rw [e] at hq
  simp only [Ty.kids, List.getElem?_map, Option.map_eq_some_iff] at hq
  obtain ⟨q1, ⟨q0, hq0, rfl⟩, rfl⟩ := hq
  obtain ⟨hj, rfl⟩ := List.getElem?_eq_some_iff.1 hq0
  have hv : (nextsF ks (a + 1) ns refs)[j]? = some v := hv
  rw [nextsF_at j hj] at hv
  cases hv
  refine ⟨σ, ks[j], _, ns, refs, Ts, ns.length, .kid k p nm s ls ks a ns refs Ts g h8 h9 h j hj, ?_, rfl⟩
  have : ad 0 σ = IntKind.i64.wrap σ := by unfold ad; congr 1; omega
  rw [this, ad_wr]
theorem occ_hd {ds : List Nd} {L : List Ty} {M : Nat} : ∀ (n : Nat) {t : Ty} {a : Int} {ns : List ByteArray} {refs : List Rf} {Ts : List Ty} {g : Nat} {σ : Int}, Hd n t → Occ ds L M t a ns refs Ts g →
  Stp1 ds M (OccR ds L M) ⟨(refF t a ns refs).node, ad (refF t a ns refs).shift σ⟩ (raiseT σ (sub (lkT ns Ts) t)) := by
 intro n
 induction n with
 | zero =>
  intro t a ns refs Ts g σ hh h
  obtain ⟨k, p, nm, s, ls, ks⟩ := t
  cases hh with
  | done _ h8 h9 _ _ => exact occ_node h8 h9 h
 | succ n ih =>
  intro t a ns refs Ts g σ hh h
  obtain ⟨k, p, nm, s, ls, ks⟩ := t
  cases hh with
  | step _ _ x h8 hk hh =>
   have hk : ks = [x] := hk
   subst hk
   exact occ_rec h8 h (ih hh (.down k p nm s ls x a ns refs Ts g h8 h))
theorem occ_step {ds : List Nd} {L : List Ty} {M : Nat} : ∀ (t : Ty) {a : Int} {ns : List ByteArray} {refs : List Rf} {Ts : List Ty} {g : Nat} {σ : Int}, Occ ds L M t a ns refs Ts g →
  Stp1 ds M (OccR ds L M) ⟨(refF t a ns refs).node, ad (refF t a ns refs).shift σ⟩ (raiseT σ (sub (lkT ns Ts) t)) := by
 intro t
 induction t using Ty.ind with
 | _ t ih =>
 intro a ns refs Ts g σ h
 have hi := h.i
 obtain ⟨k, p, nm, s, ls, ks⟩ := t
 by_cases h9 : k = 9
 ·obtain ⟨j, hj, hla⟩ := wf_var hi.wf h9
  have hjn : j < ns.length := Nat.lt_of_lt_of_le hj hi.gle
  have hl1 := hi.l1
  have hl2 := hi.l2
  have h1 := look_ext (e := []) (e' := []) (refs := refs) (r := []) (by simpa using hla) hjn hl1
  simp only [List.append_nil] at h1
  have h2 := lkT_at ns Ts nm j hla.1 hla.2 (by omega)
  obtain ⟨t', a', ns', refs', Ts', g', e1, e2, e3, e4⟩ := hi.ent j (by omega) (by omega)
  obtain ⟨m, hm⟩ := e4 (.inl hj)
  rw [refF_9 h9 h1, sub_9 h9 h2, raise_raise, e2, e3]
  have e : ad ((refF t' a' ns' refs').shift + s) σ = ad (refF t' a' ns' refs').shift (s + σ) := by unfold ad; congr 1; omega
  rw [e]
  exact occ_hd m hm e1
 ·by_cases h8 : k = 8
  ·obtain ⟨x, rfl, hw⟩ := wf_kid8 hi.wf h8
   exact occ_rec h8 h (ih x (by simp [Ty.kids]) (.down k p nm s ls x a ns refs Ts g h8 h))
  ·exact occ_node h8 h9 h
theorem rt_occ {ds : List Nd} {L : List Ty} {M : Nat} {r : Rf} {T : Ty} (h : OccR ds L M r T) : RT ds r T := by
 refine ⟨OccR ds L M, h, ?_⟩
 rintro r T ⟨σ, t, a, ns, refs, Ts, g, ho, rfl, rfl⟩
 exact (occ_step t ho).stp
/-- a right type's reference stands for it -/
theorem rt_top {ds : List Nd} {t : Ty} {a : Int} (h : Wf t [] 0) (hp : Pl ds a (nodesF t a [] [])) : RT ds (refF t a [] []) t ∧ (refF t a [] []) = ⟨a, 0⟩ := by
 obtain ⟨n, hn⟩ := Wf.hd t [] h
 have hr : ∀ {n : Nat} {t : Ty}, Hd n t → refF t a [] [] = ⟨a, 0⟩ := by
  intro n t h
  induction h with
  | done t h8 h9 _ _ => obtain ⟨k, p, nm, s, ls, ks⟩ := t; exact refF_o h8 h9
  | step n t k h hk hh ih =>
   obtain ⟨kd, p, nm, s, ls, ks⟩ := t
   have h : kd = 8 := h
   have hk : ks = [k] := hk
   rw [refF_8 h hk]; exact ih
 have e : lkT [] [] = noE := by funext y; rfl
 refine ⟨rt_occ ⟨0, t, a, [], [], [], 0, .top t a h hp (L := occL [] [] t) (M := t.sz) (fun _ h => h) (Wf.lm t [] 0 _ h (Nat.le_refl _)), ?_, ?_⟩, hr hn⟩
 ·rw [hr hn]; rfl
 ·rw [raise0_sub h, e, sub_id]
end Go.Proofs.YtkpnmgohbipjjaaGreatDoor.Tx

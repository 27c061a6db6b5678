/- A reference of a graph stands for a closed type. -/
import Derived.Test.YtopinhoalbgebaaGreatDoorWk34
import Derived.Test.YtopinhoalbgebaaGreatDoorWk40
set_option linter.all false
namespace Go.Proofs.YtopinhoalbgebaaGreatDoor.Tx
open Go.Lf Go.Lf.S Go.Lf.Duo
set_option maxRecDepth 100000

theorem wr_add (a b : Int) : IntKind.i64.wrap (IntKind.i64.wrap a + b) = IntKind.i64.wrap (a + b) := by
  simp only [IntKind.wrap, IntKind.signed, IntKind.bits]
  simp
  omega
theorem ad_ad (a b k : Int) : ad (ad a b) k = ad a (b + k) := by
  unfold ad; rw [wr_add]; congr 1; omega
theorem ad_wr (a b : Int) : ad a (IntKind.i64.wrap b) = ad a b := by
  unfold ad; rw [Int.add_comm, wr_add, Int.add_comm]
theorem raise_raise (a b : Int) : ∀ t : Ty, raiseT a (raiseT b t) = raiseT (b + a) t := by
  intro t
  induction t using Ty.ind with
  | _ t ih =>
  obtain ⟨k, p, nm, s, ls, ks⟩ := t
  rw [raiseT_mk, raiseT_mk, raiseT_mk]
  congr 1
  · split
    · rw [ad_ad]
    · rfl
  · rw [List.map_map]
    exact List.map_congr_left fun x hx => ih x hx

/-- no variable of this name is free in it -/
inductive NF (x : ByteArray) : Ty → Prop
  | mk (t : Ty) (h9 : t.kind = 9 → t.name ≠ x) (h : ¬ (t.kind = 8 ∧ t.name = x) → ∀ k ∈ t.kids, NF x k) : NF x t
def Clo (t : Ty) : Prop := ∀ x, NF x t
theorem NF.raise {x : ByteArray} {k : Int} : ∀ {t : Ty}, NF x t → NF x (raiseT k t) := by
  intro t
  induction t using Ty.ind with
  | _ t ih =>
  intro h
  cases h with
  | mk _ h9 h =>
  obtain ⟨kd, p, nm, s, ls, ks⟩ := t
  rw [raiseT_mk]
  refine .mk _ h9 fun hn y hy => ?_
  obtain ⟨z, hz, rfl⟩ := List.mem_map.1 hy
  exact ih z hz (h hn z hz)
theorem Clo.raise {k : Int} {t : Ty} (h : Clo t) : Clo (raiseT k t) := fun x => (h x).raise
/-- nothing to be put -/
theorem put_nf {x : ByteArray} {b : Ty} : ∀ {t : Ty}, NF x t → putT x b t = raiseT 0 t := by
  intro t
  induction t using Ty.ind with
  | _ t ih =>
  intro h
  cases h with
  | mk _ h9 h =>
  obtain ⟨kd, p, nm, s, ls, ks⟩ := t
  unfold putT
  split
  · rename_i hc; exact absurd hc.2 (h9 hc.1)
  · split
    · rfl
    · rename_i hn
      rw [raiseT_mk, putTs_eq]
      congr 1
      exact List.map_congr_left fun y hy => ih y hy (h hn y hy)
theorem raise_put {x : ByteArray} {b : Ty} (k : Int) : ∀ t : Ty, putT x (raiseT k b) (raiseT k t) = raiseT k (putT x b t) := by
  intro t
  induction t using Ty.ind with
  | _ t ih =>
  obtain ⟨kd, p, nm, s, ls, ks⟩ := t
  rw [raiseT_mk]
  unfold putT
  split
  · rw [raise_raise, raise_raise]; congr 1; omega
  · split
    · rw [raise_raise, raiseT_mk, raiseT_mk, List.map_map]
      congr 1
      · split
        · unfold ad; rw [wr_add]; congr 1; omega
        · rfl
      · refine List.map_congr_left fun y _ => ?_
        show raiseT 0 (raiseT k y) = _
        rw [raise_raise]; congr 1; omega
    · rw [putTs_eq, putTs_eq, raiseT_mk, List.map_map, List.map_map]
      congr 1
      · split
        · unfold ad; rw [wr_add, wr_add]; congr 1; omega
        · rfl
      · exact List.map_congr_left fun y hy => ih y hy
theorem Unf.raise (k : Int) : ∀ {t u : Ty}, Unf t u → Unf (raiseT k t) (raiseT k u) := by
  intro t u h
  induction h with
  | done t h =>
    have e : raiseT k (raiseT 0 t) = raiseT 0 (raiseT k t) := by rw [raise_raise, raise_raise]; congr 1; omega
    rw [e]
    refine .done _ ?_
    obtain ⟨kd, p, nm, s, ls, ks⟩ := t
    rw [raiseT_mk]; exact h
  | step t q u r h hk hu ih =>
    rw [← raise_put] at ih
    obtain ⟨kd, p, nm, s, ls, ks⟩ := t
    have hk : ks = q :: r := hk
    subst hk
    refine .step _ (raiseT k q) _ (r.map (raiseT k)) ?_ ?_ ih
    · rw [raiseT_mk]; exact h
    · rw [raiseT_mk]; rfl
theorem unf_fun : ∀ {t u v : Ty}, Unf t u → Unf t v → u = v := by
  intro t u v h
  induction h with
  | done t h =>
    intro h2
    cases h2 with
    | done => rfl
    | step _ _ _ _ h' => exact absurd h' h
  | step t q u r h hk hu ih =>
    intro h2
    cases h2 with
    | done _ h' => exact absurd h h'
    | step _ q' _ r' h' hk' hu' =>
      rw [hk] at hk'
      cases hk'
      exact ih hu'

/-! closed types put for variables -/

def Env := ByteArray → Option Ty
def Env.del (δ : Env) (x : ByteArray) : Env := fun y => if y = x then none else δ y
def Env.upd (δ : Env) (x : ByteArray) (t : Ty) : Env := fun y => if y = x then some t else δ y
mutual
def sub (δ : Env) : Ty → Ty
  | .mk kd p nm s ls ks => if kd = 9 then (match δ nm with
      | some t => raiseT s t
      | none => .mk kd p nm s ls ks) else if kd = 8 then .mk kd p nm s ls (subs (δ.del nm) ks) else .mk kd p nm s ls (subs δ ks)
def subs (δ : Env) : List Ty → List Ty
  | [] => []
  | t :: ts => sub δ t :: subs δ ts
end
theorem subs_eq (δ : Env) : ∀ l : List Ty, subs δ l = l.map (sub δ)
  | [] => by simp [subs]
  | t :: ts => by simp [subs, subs_eq δ ts]
theorem sub_9 {δ : Env} {kd p : Int} {nm : ByteArray} {s : Int} {ls : List ByteArray} {ks : List Ty} (h : kd = 9) {t : Ty} (ht : δ nm = some t) : sub δ (.mk kd p nm s ls ks) = raiseT s t := by
  simp only [sub, if_pos h, ht]
theorem sub_8 {δ : Env} {kd p : Int} {nm : ByteArray} {s : Int} {ls : List ByteArray} {ks : List Ty} (h : kd = 8) : sub δ (.mk kd p nm s ls ks) = .mk kd p nm s ls (ks.map (sub (δ.del nm))) := by
  simp only [sub, subs_eq]
  rw [if_neg (by omega), if_pos h]
theorem sub_o {δ : Env} {kd p : Int} {nm : ByteArray} {s : Int} {ls : List ByteArray} {ks : List Ty} (h : ¬ kd = 8) (h9 : ¬ kd = 9) : sub δ (.mk kd p nm s ls ks) = .mk kd p nm s ls (ks.map (sub δ)) := by
  simp only [sub, subs_eq]
  rw [if_neg h9, if_neg h]

theorem wf_pr {t : Ty} {ns : List ByteArray} {g : Nat} (h : Wf t ns g) : (4 ≤ t.kind ∧ t.kind ≤ 7 → ad t.prio 0 = t.prio) ∧ (t.kind = 9 → t.kids = []) := by
  cases h with
  | mk _ _ _ h1 _ _ _ =>
  unfold Wf1 at h1
  exact ⟨fun _ => ad_0 h1.1.2.1.1 h1.1.2.1.2.1, fun h => List.eq_nil_of_length_eq_zero (h1.1.2.2.2.2.2.2 h).1⟩
theorem wf_kid8 {k p : Int} {nm : ByteArray} {s : Int} {ls : List ByteArray} {ks : List Ty} {ns : List ByteArray} {g : Nat} (h : Wf (.mk k p nm s ls ks) ns g) (h8 : k = 8) : ∃ x, ks = [x] ∧ Wf x (ns ++ [nm]) g := by
  cases h with
  | mk _ _ _ h1 _ h8' _ =>
  unfold Wf1 at h1
  obtain ⟨x, hx⟩ := List.length_eq_one_iff.1 (h1.1.2.2.2.2.2.1 h8).1
  have hx : ks = [x] := hx
  exact ⟨x, hx, h8' h8 x (by show x ∈ ks; rw [hx]; simp)⟩
theorem wf_kids {k p : Int} {nm : ByteArray} {s : Int} {ls : List ByteArray} {ks : List Ty} {ns : List ByteArray} {g : Nat} (h : Wf (.mk k p nm s ls ks) ns g) (h8 : ¬ k = 8) : ∀ x ∈ ks, Wf x ns ns.length := by
  cases h with
  | mk _ _ _ h1 _ _ hk => exact hk h8
theorem wf_var {k p : Int} {nm : ByteArray} {s : Int} {ls : List ByteArray} {ks : List Ty} {ns : List ByteArray} {g : Nat} (h : Wf (.mk k p nm s ls ks) ns g) (h9 : k = 9) : ∃ j, j < g ∧ LastAt nm ns j := by
  cases h with
  | mk _ _ _ h1 h9' _ _ => exact h9' h9

theorem raise0_sub {δ : Env} : ∀ {t : Ty} {ns : List ByteArray} {g : Nat}, Wf t ns g → raiseT 0 (sub δ t) = sub δ t := by
  intro t
  induction t using Ty.ind generalizing δ with
  | _ t ih =>
  intro ns g h
  obtain ⟨h1, h2⟩ := wf_pr h
  obtain ⟨kd, p, nm, s, ls, ks⟩ := t
  by_cases h9 : kd = 9
  · cases hd : δ nm with
    | some t => rw [sub_9 h9 hd, raise_raise]; congr 1; omega
    | none =>
      simp only [sub, if_pos h9, hd, raiseT_mk]
      rw [if_neg (by omega), show ks = [] from h2 h9]; rfl
  · by_cases h8 : kd = 8
    · obtain ⟨x, rfl, hx⟩ := wf_kid8 h h8
      rw [sub_8 h8, raiseT_mk, if_neg (by omega)]
      simp only [List.map_cons, List.map_nil]
      rw [ih x (by simp [Ty.kids]) hx]
    · have hk := wf_kids h h8
      rw [sub_o h8 h9, raiseT_mk, List.map_map]
      congr 1
      · split
        · rename_i hc; exact h1 hc
        · rfl
      · exact List.map_congr_left fun x hx => ih x hx (hk x hx)

/-- what is put last is put first -/
theorem put_sub {x : ByteArray} {B : Ty} : ∀ {t : Ty} {ns : List ByteArray} {g : Nat} {δ : Env}, Wf t ns g → (∀ y T, δ y = some T → y ≠ x → NF x T) → putT x B (sub (δ.del x) t) = sub (δ.upd x B) t := by
  intro t
  induction t using Ty.ind with
  | _ t ih =>
  intro ns g δ h hδ
  obtain ⟨h1, h2⟩ := wf_pr h
  have hr0 := @raise0_sub (δ.del x) t ns g h
  obtain ⟨kd, p, nm, s, ls, ks⟩ := t
  by_cases h9 : kd = 9
  · by_cases hx : nm = x
    · have hd : (δ.del x) nm = none := by simp [Env.del, hx]
      have hu : (δ.upd x B) nm = some B := by simp [Env.upd, hx]
      rw [sub_9 h9 hu]
      simp only [sub, if_pos h9, hd]
      simp only [putT]
      rw [if_pos ⟨h9, hx⟩]
    · have hd : (δ.del x) nm = δ nm := by simp [Env.del, hx]
      have hu : (δ.upd x B) nm = δ nm := by simp [Env.upd, hx]
      cases hd2 : δ nm with
      | some T =>
        rw [sub_9 h9 (hd.trans hd2), sub_9 h9 (hu.trans hd2), put_nf (hδ _ _ hd2 hx).raise, raise_raise]; congr 1; omega
      | none =>
        have e : ks = [] := h2 h9
        subst e
        simp only [sub, if_pos h9, hd, hu, hd2]
        simp only [putT]
        rw [if_neg (fun hc => hx hc.2), if_neg (fun hc => by omega), if_neg (by omega), putTs_eq]; rfl
  · by_cases h8 : kd = 8
    · obtain ⟨q, rfl, hq⟩ := wf_kid8 h h8
      rw [sub_8 h8] at hr0 ⊢
      rw [sub_8 h8]
      simp only [List.map_cons, List.map_nil] at hr0 ⊢
      by_cases hx : nm = x
      · have e1 : (δ.del x).del nm = (δ.upd x B).del nm := by
          funext y; simp only [Env.del, Env.upd]
          by_cases hy : y = nm
          · rw [if_pos hy, if_pos hy]
          · rw [if_neg hy, if_neg hy, if_neg (by rw [← hx]; exact hy), if_neg (by rw [← hx]; exact hy)]
        rw [← e1]
        simp only [putT]
        rw [if_neg (by omega), if_pos ⟨h8, hx⟩]
        exact hr0
      · have e1 : (δ.del x).del nm = (δ.del nm).del x := by
          funext y; simp only [Env.del]
          by_cases hy : y = nm <;> by_cases hy2 : y = x <;> simp [hy, hy2]
        have e2 : (δ.upd x B).del nm = (δ.del nm).upd x B := by
          funext y; simp only [Env.del, Env.upd]
          by_cases hy : y = nm
          · rw [if_pos hy, if_neg (by rw [hy]; exact hx), if_pos hy]
          · rw [if_neg hy, if_neg hy]
        rw [e1, e2]
        simp only [putT]
        rw [if_neg (by omega), if_neg (fun hc => hx hc.2), if_neg (by omega), putTs_eq]
        simp only [List.map_cons, List.map_nil]
        rw [ih q (by simp [Ty.kids]) hq]
        intro y T hy hne
        unfold Env.del at hy
        split at hy
        · cases hy
        · exact hδ y T hy hne
    · have hk := wf_kids h h8
      rw [sub_o h8 h9, sub_o h8 h9]
      simp only [putT]
      rw [if_neg (fun hc => h9 hc.1), if_neg (fun hc => h8 hc.1), putTs_eq, List.map_map]
      congr 1
      · split
        · rename_i hc; exact h1 hc
        · rfl
      · exact List.map_congr_left fun y hy => ih y hy (hk y hy) hδ

theorem nf_sub {x : ByteArray} : ∀ {t : Ty} {ns : List ByteArray} {g : Nat} {δ : Env}, Wf t ns g → (∀ y T, δ y = some T → NF x T) → (x ∈ ns → δ x ≠ none) → NF x (sub δ t) := by
  intro t
  induction t using Ty.ind with
  | _ t ih =>
  intro ns g δ h hδ hx
  obtain ⟨kd, p, nm, s, ls, ks⟩ := t
  by_cases h9 : kd = 9
  · obtain ⟨j, _, hj, _⟩ := wf_var h h9
    cases hd : δ nm with
    | some T => rw [sub_9 h9 hd]; exact (hδ _ _ hd).raise
    | none =>
      simp only [sub, if_pos h9, hd]
      refine .mk _ (fun _ e => ?_) fun _ k hk => ?_
      · have e : nm = x := e
        subst e
        exact hx (List.mem_of_getElem? hj) hd
      · rw [(wf_pr h).2 h9] at hk; cases hk
  · by_cases h8 : kd = 8
    · obtain ⟨q, rfl, hq⟩ := wf_kid8 h h8
      rw [sub_8 h8]
      refine .mk _ (fun e => absurd e h9) fun hn k hk => ?_
      simp only [Ty.kids, List.map_cons, List.map_nil, List.mem_singleton] at hk
      subst hk
      have hne : ¬ nm = x := fun e => hn ⟨h8, e⟩
      refine ih q (by simp [Ty.kids]) hq (fun y T hy => ?_) fun hm => ?_
      · unfold Env.del at hy
        split at hy
        · cases hy
        · exact hδ y T hy
      · unfold Env.del
        rw [if_neg (Ne.symm hne)]
        rcases List.mem_append.1 hm with hm | hm
        · exact hx hm
        · exact absurd (List.mem_singleton.1 hm).symm hne
    · have hk := wf_kids h h8
      rw [sub_o h8 h9]
      refine .mk _ (fun e => absurd e h9) fun _ k hkm => ?_
      obtain ⟨q, hq, rfl⟩ := List.mem_map.1 hkm
      exact ih q hq (hk q hq) hδ hx
end Go.Proofs.YtopinhoalbgebaaGreatDoor.Tx

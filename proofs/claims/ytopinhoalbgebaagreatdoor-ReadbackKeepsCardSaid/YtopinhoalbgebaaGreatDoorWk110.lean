/- Contracts (Wk45, Wk110). -/
import Derived.Test.YtopinhoalbgebaaGreatDoorWk44
import Derived.Test.YtopinhoalbgebaaGreatDoorWk15
import Derived.Laws.Externs
import Derived.MapKept
import Derived.WalkKit
set_option linter.all false
/- A reference of a graph stands for a closed type (2): the graphs of types. -/
namespace Go.Proofs.YtopinhoalbgebaaGreatDoor.Tx
open Go.Lf Go.Lf.S Go.Lf.Duo
set_option maxRecDepth 100000

/-- one step -/
def Stp (ds : List Nd) (R : Rf → Ty → Prop) (r : Rf) (T : Ty) : Prop :=
  0 ≤ r.node ∧ ∃ u d, Unf T u ∧ ds[r.node.toNat]? = some d ∧ d.kind = u.kind ∧ (act d.kind = true → ad d.prio r.shift = u.prio) ∧ d.labels = u.labels ∧ d.next.length = u.kids.length ∧
    ∀ (j : Nat) (v : Rf) (k : Ty), d.next[j]? = some v → u.kids[j]? = some k → R ⟨v.node, ad v.shift r.shift⟩ k
/-- the reference stands for the type -/
def RT (ds : List Nd) (r : Rf) (T : Ty) : Prop := ∃ R : Rf → Ty → Prop, R r T ∧ ∀ r T, R r T → Stp ds R r T
theorem Stp.mono {ds : List Nd} {R R' : Rf → Ty → Prop} {r : Rf} {T : Ty} (h : Stp ds R r T) (hR : ∀ r T, R r T → R' r T) : Stp ds R' r T := by
  obtain ⟨h0, u, d, h1, h2, h3, h4, h5, h6, h7⟩ := h
  exact ⟨h0, u, d, h1, h2, h3, h4, h5, h6, fun j v k hv hk => hR _ _ (h7 j v k hv hk)⟩
theorem RT.step {ds : List Nd} {r : Rf} {T : Ty} (h : RT ds r T) : Stp ds (RT ds) r T := by
  obtain ⟨R, h1, h2⟩ := h
  exact (h2 r T h1).mono fun r T h => ⟨R, h, h2⟩

theorem ad_sh (a b k : Int) : ad a (ad b k) = ad (ad a b) k := by
  rw [ad_ad]; unfold ad; rw [Int.add_comm a, wr_add, Int.add_comm (b + k)]
theorem raise_kind (k : Int) (t : Ty) : (raiseT k t).kind = t.kind := by obtain ⟨a, b, c, d, e, f⟩ := t; rw [raiseT_mk]; rfl
theorem raise_labels (k : Int) (t : Ty) : (raiseT k t).labels = t.labels := by obtain ⟨a, b, c, d, e, f⟩ := t; rw [raiseT_mk]; rfl
theorem raise_kids (k : Int) (t : Ty) : (raiseT k t).kids = t.kids.map (raiseT k) := by obtain ⟨a, b, c, d, e, f⟩ := t; rw [raiseT_mk]; rfl
theorem raise_prio (k : Int) (t : Ty) (h : act t.kind = true) : (raiseT k t).prio = ad t.prio k := by
  obtain ⟨a, b, c, d, e, f⟩ := t
  have h : 4 ≤ a ∧ a ≤ 7 := of_decide_eq_true h
  rw [raiseT_mk, if_pos h]; rfl

theorem RT.raise {ds : List Nd} {n s : Int} {T : Ty} (k : Int) (h : RT ds ⟨n, s⟩ T) : RT ds ⟨n, ad s k⟩ (raiseT k T) := by
  refine ⟨fun r T => ∃ s T0, r.shift = ad s k ∧ T = raiseT k T0 ∧ RT ds ⟨r.node, s⟩ T0, ⟨s, T, rfl, rfl, h⟩, ?_⟩
  rintro ⟨n, sh⟩ _ ⟨s, T0, rfl, rfl, hr⟩
  obtain ⟨h0, u, d, h1, h2, h3, h4, h5, h6, h7⟩ := hr.step
  refine ⟨h0, raiseT k u, d, h1.raise k, h2, by rw [raise_kind]; exact h3, fun ha => ?_, by rw [raise_labels]; exact h5, by rw [raise_kids, List.length_map]; exact h6, fun j v q hv hq => ?_⟩
  · rw [raise_prio k u (by rw [← h3]; exact ha), ← h4 ha]
    exact ad_sh _ _ _
  · rw [raise_kids, List.getElem?_map] at hq
    obtain ⟨q0, hq0, rfl⟩ := Option.map_eq_some_iff.1 hq
    exact ⟨ad v.shift s, q0, ad_sh _ _ _, rfl, h7 j v q0 hv hq0⟩

theorem unf_done {t u : Ty} (h : Unf t u) : u.kind ≠ 8 ∧ raiseT 0 u = u := by
  induction h with
  | done t h => exact ⟨by rw [raise_kind]; exact h, by rw [raise_raise]; congr 1⟩
  | step t k u r h hk hu ih => exact ih
theorem unf_self {t u : Ty} (h : Unf t u) : Unf u u := by
  obtain ⟨h1, h2⟩ := unf_done h
  have := Unf.done u h1
  rwa [h2] at this
theorem RT.unf {ds : List Nd} {r : Rf} {T u : Ty} (h : RT ds r T) (hu : Unf T u) : RT ds r u := by
  obtain ⟨h0, u', d, h1, h2, h3, h4, h5, h6, h7⟩ := h.step
  obtain rfl := unf_fun hu h1
  have hs : Stp ds (RT ds) r u := ⟨h0, u, d, unf_self h1, h2, h3, h4, h5, h6, h7⟩
  refine ⟨fun r' T' => RT ds r' T' ∨ (r' = r ∧ T' = u), .inr ⟨rfl, rfl⟩, ?_⟩
  rintro r' T' (h | ⟨rfl, rfl⟩)
  · exact h.step.mono fun _ _ h => .inl h
  · exact hs.mono fun _ _ h => .inl h

/-! the occurrences of a graph's types -/

/-- the type of the last one of a name -/
def lkT : List ByteArray → List Ty → Env
  | n :: ns, t :: ts, nm => match lkT ns ts nm with
    | some q => some q
    | none => if n = nm then some t else none
  | _, _, _ => none
theorem lkT_snoc (x : ByteArray) (T : Ty) : ∀ (ns : List ByteArray) (Ts : List Ty), ns.length = Ts.length → lkT (ns ++ [x]) (Ts ++ [T]) = (lkT ns Ts).upd x T
  | [], [], _ => by
    funext y
    simp only [List.nil_append, lkT, Env.upd]
    by_cases h : y = x
    · rw [if_pos h, if_pos h.symm]
    · rw [if_neg h, if_neg (Ne.symm h)]
  | n :: ns, t :: ts, h => by
    have ih := lkT_snoc x T ns ts (by simpa using h)
    funext y
    simp only [List.cons_append, lkT, ih, Env.upd]
    by_cases h : y = x
    · simp [h]
    · simp [h]
  | [], _ :: _, h => by simp at h
  | _ :: _, [], h => by simp at h
theorem lkT_mem : ∀ (ns : List ByteArray) (Ts : List Ty) (y : ByteArray) (T : Ty), lkT ns Ts y = some T → T ∈ Ts
  | [], _, _, _, h => by simp [lkT] at h
  | n :: ns, [], _, _, h => by simp [lkT] at h
  | n :: ns, t :: ts, y, T, h => by
    simp only [lkT] at h
    split at h
    · rename_i q hq; cases h; exact List.mem_cons_of_mem _ (lkT_mem ns ts y _ hq)
    · split at h
      · cases h; exact List.mem_cons_self
      · cases h
theorem lkT_none : ∀ (ns : List ByteArray) (Ts : List Ty) (y : ByteArray), ns.length = Ts.length → lkT ns Ts y = none → y ∉ ns
  | [], _, _, _, _ => by simp
  | n :: ns, [], _, h, _ => by simp at h
  | n :: ns, t :: ts, y, hl, h => by
    simp only [lkT] at h
    split at h
    · cases h
    · rename_i hq
      split at h
      · cases h
      · rename_i hn
        have := lkT_none ns ts y (by simpa using hl) hq
        simp [this, Ne.symm hn]
theorem lkT_at : ∀ (ns : List ByteArray) (Ts : List Ty) (y : ByteArray) (j : Nat), ns[j]? = some y → (∀ i : Nat, j < i → ns[i]? ≠ some y) → (h : j < Ts.length) → lkT ns Ts y = some Ts[j]
  | [], _, _, _, h, _, _ => by simp at h
  | n :: ns, [], _, _, _, _, h => by simp at h
  | n :: ns, t :: ts, y, 0, h, hl, _ => by
    simp at h
    have : lkT ns ts y = none := by
      cases hq : lkT ns ts y with
      | none => rfl
      | some T =>
        have : ∀ (ns : List ByteArray) (ts : List Ty) (T : Ty), lkT ns ts y = some T → y ∈ ns := by
          intro ns
          induction ns with
          | nil => intro ts T h; simp [lkT] at h
          | cons n ns ih =>
            intro ts T h
            cases ts with
            | nil => simp [lkT] at h
            | cons t ts =>
              simp only [lkT] at h
              split at h
              · rename_i q hq; exact List.mem_cons_of_mem _ (ih _ _ hq)
              · split at h
                · rename_i he; simp [he]
                · cases h
        obtain ⟨k, hk⟩ := List.mem_iff_getElem?.1 (this ns ts T hq)
        exact absurd (by simpa using hk) (hl (k + 1) (by omega))
    rw [lkT, this]
    simp [h]
  | n :: ns, t :: ts, y, j + 1, h, hl, hj => by
    rw [lkT, lkT_at ns ts y j (by simpa using h) (fun i hi => by simpa using hl (i + 1) (by omega)) (by simpa using hj)]
    simp

def noE : Env := fun _ => none
theorem sub_id : ∀ t : Ty, sub noE t = t := by
  intro t
  induction t using Ty.ind with
  | _ t ih =>
  obtain ⟨kd, p, nm, s, ls, ks⟩ := t
  have hm : ks.map (sub noE) = ks := by
    conv => rhs; rw [← List.map_id ks]
    exact List.map_congr_left fun x hx => ih x hx
  by_cases h9 : kd = 9
  · simp only [sub, if_pos h9, noE]
  · by_cases h8 : kd = 8
    · have e : Env.del noE nm = noE := by funext y; simp [Env.del, noE]
      rw [sub_8 h8, e, hm]
    · rw [sub_o h8 h9, hm]

/-- lists of bounded lengths throughout, by any number -/
inductive Lm (m : Nat) : Ty → Prop
  | mk (t : Ty) (h1 : t.labels.length ≤ m) (h2 : t.kids.length ≤ m) (h : ∀ k ∈ t.kids, Lm m k) : Lm m t
theorem Lm.raise {m : Nat} {k : Int} : ∀ {t : Ty}, Lm m t → Lm m (raiseT k t) := by
  intro t
  induction t using Ty.ind with
  | _ t ih =>
  intro h
  cases h with
  | mk _ h1 h2 h =>
  obtain ⟨kd, p, nm, s, ls, ks⟩ := t
  rw [raiseT_mk]
  refine .mk _ h1 (by show (ks.map (raiseT k)).length ≤ _; rw [List.length_map]; exact h2) fun x hx => ?_
  obtain ⟨y, hy, rfl⟩ := List.mem_map.1 hx
  exact ih y hy (h y hy)
theorem Lm.sub {m : Nat} : ∀ {t : Ty} {δ : Env}, (∀ y T, δ y = some T → Lm m T) → Lm m t → Lm m (sub δ t) := by
  intro t
  induction t using Ty.ind with
  | _ t ih =>
  intro δ hδ h
  have h0 := h
  cases h with
  | mk _ h1 h2 h =>
  obtain ⟨kd, p, nm, s, ls, ks⟩ := t
  by_cases h9 : kd = 9
  · cases hd : δ nm with
    | some T => rw [sub_9 h9 hd]; exact (hδ _ _ hd).raise
    | none =>
      have e : Tx.sub δ (.mk kd p nm s ls ks) = .mk kd p nm s ls ks := by simp only [Tx.sub, if_pos h9, hd]
      rw [e]; exact h0
  · by_cases h8 : kd = 8
    · rw [sub_8 h8]
      refine .mk _ h1 (by show (ks.map _).length ≤ _; rw [List.length_map]; exact h2) fun x hx => ?_
      obtain ⟨y, hy, rfl⟩ := List.mem_map.1 hx
      refine ih y hy (fun z T hz => ?_) (h y hy)
      unfold Env.del at hz
      split at hz
      · cases hz
      · exact hδ z T hz
    · rw [sub_o h8 h9]
      refine .mk _ h1 (by show (ks.map _).length ≤ _; rw [List.length_map]; exact h2) fun x hx => ?_
      obtain ⟨y, hy, rfl⟩ := List.mem_map.1 hx
      exact ih y hy hδ (h y hy)
theorem Lm.ln {m : Nat} (hm : m ≤ 549755813888) : ∀ {t : Ty}, Lm m t → Ln t := by
  intro t
  induction t using Ty.ind with
  | _ t ih =>
  intro h
  cases h with
  | mk _ h1 h2 h => exact .mk _ (by omega) (by omega) fun k hk => ih k hk (h k hk)
theorem Wf.lm : ∀ (t : Ty) (ns : List ByteArray) (g m : Nat), Wf t ns g → t.sz ≤ m → Lm m t := by
  intro t
  induction t using Ty.ind with
  | _ t ih =>
  intro ns g m h hz
  cases h with
  | mk _ _ _ h1 h9 h8 hk =>
  unfold Wf1 at h1
  have h1 := h1.1
  have hkl : t.kids.length ≤ t.sz := by
    obtain ⟨k, p, nm, s, ls, ks⟩ := t
    have := szs_len ks
    simp only [Ty.sz, Ty.kids]
    omega
  have hll : t.labels.length = 0 ∨ t.labels.length = t.kids.length := by
    clear h8 h9 hk ih
    omega
  refine .mk t (by omega) (by omega) fun k hkm => ?_
  have hs := Ty.sz_kid hkm
  by_cases hk8 : t.kind = 8
  · exact ih k hkm _ _ _ (h8 hk8 k hkm) (by omega)
  · exact ih k hkm _ _ _ (hk hk8 k hkm) (by omega)

/-- the shape of an unfolded right type -/
structure Shp (m : Nat) (u : Ty) : Prop where
  k1 : 1 ≤ u.kind ∧ u.kind ≤ 7
  k3 : u.kind ≤ 3 → u.kids = [] ∧ u.labels = [] ∧ u.prio = 0
  k5 : 4 ≤ u.kind ∧ u.kind ≤ 5 → u.kids.length = 2 ∧ u.labels = []
  k7 : 6 ≤ u.kind ∧ u.kind ≤ 7 → u.kids.length = u.labels.length
  nd : u.labels.Nodup
  lm : Lm m u

mutual
/-- the closed types of a type's occurrences -/
def occL (ns : List ByteArray) (Ts : List Ty) : Ty → List Ty
  | .mk k p nm s ls ks => sub (lkT ns Ts) (.mk k p nm s ls ks) :: (if k = 8 then occLs (ns ++ [nm]) (Ts ++ [sub (lkT ns Ts) (.mk k p nm s ls ks)]) ks else occLs ns Ts ks)
def occLs (ns : List ByteArray) (Ts : List Ty) : List Ty → List Ty
  | [] => []
  | t :: ts => occL ns Ts t ++ occLs ns Ts ts
end

theorem occLs_mem {ns : List ByteArray} {Ts : List Ty} {x y : Ty} : ∀ {ks : List Ty}, x ∈ ks → y ∈ occL ns Ts x → y ∈ occLs ns Ts ks
  | k :: ks, h, hy => by
    simp only [occLs, List.mem_append]
    rcases List.mem_cons.1 h with rfl | h
    · exact .inl hy
    · exact .inr (occLs_mem h hy)
mutual
theorem occL_len (ns : List ByteArray) (Ts : List Ty) : ∀ t : Ty, (occL ns Ts t).length = t.sz
  | .mk k p nm s ls ks => by
    simp only [occL, Ty.sz, List.length_cons]
    split
    · rw [occLs_len _ _ ks]
    · rw [occLs_len _ _ ks]
theorem occLs_len (ns : List ByteArray) (Ts : List Ty) : ∀ ks : List Ty, (occLs ns Ts ks).length = Ty.szs ks
  | [] => by simp [occLs, Ty.szs]
  | t :: ts => by simp only [occLs, List.length_append, Ty.szs]; rw [occL_len _ _ t, occLs_len _ _ ts]
end
theorem occL_self (ns : List ByteArray) (Ts : List Ty) (t : Ty) : sub (lkT ns Ts) t ∈ occL ns Ts t := by
  obtain ⟨k, p, nm, s, ls, ks⟩ := t
  simp [occL]

inductive Occ (ds : List Nd) (L : List Ty) (M : Nat) : Ty → Int → List ByteArray → List Rf → List Ty → Nat → Prop
  | top (t : Ty) (a : Int) (h : Wf t [] 0) (hp : Pl ds a (nodesF t a [] [])) (hL : ∀ x ∈ occL [] [] t, x ∈ L) (hM : Lm M t) : Occ ds L M t a [] [] [] 0
  | down (k p : Int) (nm : ByteArray) (s : Int) (ls : List ByteArray) (x : Ty) (a : Int) (ns : List ByteArray) (refs : List Rf) (Ts : List Ty) (g : Nat) (h8 : k = 8) (h : Occ ds L M (.mk k p nm s ls [x]) a ns refs Ts g) :
      Occ ds L M x a (ns ++ [nm]) (refs ++ [refF (.mk k p nm s ls [x]) a ns refs]) (Ts ++ [sub (lkT ns Ts) (.mk k p nm s ls [x])]) g
  | kid (k p : Int) (nm : ByteArray) (s : Int) (ls : List ByteArray) (ks : List Ty) (a : Int) (ns : List ByteArray) (refs : List Rf) (Ts : List Ty) (g : Nat) (h8 : ¬ k = 8) (h9 : ¬ k = 9) (h : Occ ds L M (.mk k p nm s ls ks) a ns refs Ts g) (j : Nat) (hj : j < ks.length) :
      Occ ds L M ks[j] (a + 1 + gcs (ks.take j)) ns refs Ts ns.length

/-- what holds of an occurrence -/
structure OccI (ds : List Nd) (L : List Ty) (M : Nat) (t : Ty) (a : Int) (ns : List ByteArray) (refs : List Rf) (Ts : List Ty) (g : Nat) : Prop where
  wf : Wf t ns g
  gle : g ≤ ns.length
  l1 : refs.length = ns.length
  l2 : Ts.length = ns.length
  pl : Pl ds a (nodesF t a ns refs)
  clo : ∀ T ∈ Ts, Clo T
  ent : ∀ (i : Nat) (h1 : i < refs.length) (h2 : i < Ts.length), ∃ t' a' ns' refs' Ts' g', Occ ds L M t' a' ns' refs' Ts' g' ∧ refs[i] = refF t' a' ns' refs' ∧ Ts[i] = sub (lkT ns' Ts') t' ∧ ((i < g ∨ ∃ n, Hd n t) → ∃ m, Hd m t')
  lm : Lm M t
  lts : ∀ T ∈ Ts, Lm M T

theorem wf_hd0 {k p : Int} {nm : ByteArray} {s : Int} {ls : List ByteArray} {ks : List Ty} {ns : List ByteArray} {g : Nat} (h : Wf (.mk k p nm s ls ks) ns g) (h8 : ¬ k = 8) (h9 : ¬ k = 9) : Hd 0 (.mk k p nm s ls ks) := by
  cases h with
  | mk _ _ _ h1 _ _ _ =>
  unfold Wf1 at h1
  exact .done _ h8 h9 h1.1.2.1.1 h1.1.2.1.2.1

theorem Occ.i {ds : List Nd} {L : List Ty} {M : Nat} {t : Ty} {a : Int} {ns : List ByteArray} {refs : List Rf} {Ts : List Ty} {g : Nat} (h : Occ ds L M t a ns refs Ts g) : OccI ds L M t a ns refs Ts g := by
  induction h with
  | top t a h hp hL hM => exact ⟨h, Nat.le_refl _, rfl, rfl, hp, (fun _ h => by cases h), (fun i h1 => by simp at h1), hM, fun _ h => by cases h⟩
  | down k p nm s ls x a ns refs Ts g h8 h ih =>
    obtain ⟨x', hx', hw⟩ := wf_kid8 ih.wf h8
    cases hx'
    refine ⟨hw, by have := ih.gle; simp; omega, by simp [ih.l1], by simp [ih.l2], ?_, fun T hT => ?_, fun i h1 h2 => ?_, (by cases ih.lm with | mk _ _ _ h => exact h x (by simp [Ty.kids])), fun T hT => ?_⟩
    · have := ih.pl
      rwa [nodesF_8 h8 rfl] at this
    · rcases List.mem_append.1 hT with hT | hT
      · exact ih.clo T hT
      · obtain rfl := List.mem_singleton.1 hT
        refine fun y => nf_sub ih.wf (fun z T hz => ih.clo T (lkT_mem _ _ _ _ hz) y) fun hy hn => lkT_none _ _ _ ih.l2.symm hn hy
    · by_cases hi : i < refs.length
      · have hi2 : i < Ts.length := by have := ih.l1; have := ih.l2; omega
        obtain ⟨t', a', ns', refs', Ts', g', e1, e2, e3, e4⟩ := ih.ent i hi hi2
        refine ⟨t', a', ns', refs', Ts', g', e1, by rw [List.getElem_append_left hi]; exact e2, by rw [List.getElem_append_left hi2]; exact e3, fun hc => e4 (hc.imp id fun ⟨n, hn⟩ => ⟨n + 1, .step n _ x h8 rfl hn⟩)⟩
      · have hl1 := ih.l1
        have hl2 := ih.l2
        have hi3 : i = refs.length := by simp at h1; omega
        subst hi3
        refine ⟨_, a, ns, refs, Ts, g, h, by simp, ?_, fun hc => ?_⟩
        · rw [List.getElem_append_right (by omega)]; simp
        · rcases hc with hc | ⟨n, hn⟩
          · have := ih.gle; omega
          · exact ⟨n + 1, .step n _ x h8 rfl hn⟩
    · rcases List.mem_append.1 hT with hT | hT
      · exact ih.lts T hT
      · obtain rfl := List.mem_singleton.1 hT
        exact Lm.sub (fun y T hy => ih.lts T (lkT_mem _ _ _ _ hy)) ih.lm
  | kid k p nm s ls ks a ns refs Ts g h8 h9 h j hj ih =>
    have hk := wf_kids ih.wf h8
    have hpl := ih.pl
    rw [nodesF_o h8 h9] at hpl
    have hpl2 := Pl.right (l := [⟨k, p, ls, nextsF ks (a + 1) ns refs⟩]) (n := 1) rfl hpl
    refine ⟨hk _ (List.getElem_mem hj), Nat.le_refl _, ih.l1, ih.l2, Pl.kid hpl2 (fun x hx a => len_nodes x ns ns.length (hk x hx) a ns refs) j hj, ih.clo, fun i h1 h2 => ?_, (by cases ih.lm with | mk _ _ _ h => exact h _ (List.getElem_mem hj)), ih.lts⟩
    obtain ⟨t', a', ns', refs', Ts', g', e1, e2, e3, e4⟩ := ih.ent i h1 h2
    exact ⟨t', a', ns', refs', Ts', g', e1, e2, e3, fun _ => e4 (.inr ⟨0, wf_hd0 ih.wf h8 h9⟩)⟩

theorem look_ext {ns e e' : List ByteArray} {refs r : List Rf} {y : ByteArray} {j : Nat} (h : LastAt y (ns ++ e ++ e') j) (hj : j < ns.length) (hl : refs.length = ns.length) : lookLast (ns ++ e) (refs ++ r) y = some (refs[j]'(by omega)) := by
  obtain ⟨h1, h2⟩ := h
  rw [List.append_assoc, List.getElem?_append_left hj] at h1
  rw [look_at (ns ++ e) (refs ++ r) y j (by rw [List.getElem?_append_left hj]; exact h1) (fun i hi => ?_) (by simp; omega)]
  · congr 1; rw [List.getElem_append_left (by omega)]
  · intro hc
    have := (List.getElem?_eq_some_iff.1 hc).1
    exact h2 i hi (by rw [List.getElem?_append_left this]; exact hc)
theorem refF_ext : ∀ (x : Ty) (a : Int) (ns e ext : List ByteArray) (refs r : List Rf) (g : Nat), Wf x (ns ++ e ++ ext) g → g ≤ ns.length → refs.length = ns.length → refF x a (ns ++ e) (refs ++ r) = refF x a ns refs := by
  intro x
  induction x using Ty.ind with
  | _ x ih =>
  intro a ns e ext refs r g h hg hl
  obtain ⟨k, p, nm, s, ls, ks⟩ := x
  by_cases h9 : k = 9
  · obtain ⟨j, hj, hla⟩ := wf_var h h9
    have h1 := look_ext (r := r) hla (by omega) hl
    have h2 := look_ext (e := []) (e' := e ++ ext) (r := []) (by simpa using hla) (by omega) hl
    simp only [List.append_nil] at h2
    rw [refF_9 h9 h1, refF_9 h9 h2]
  · by_cases h8 : k = 8
    · obtain ⟨q, rfl, hq⟩ := wf_kid8 h h8
      rw [refF_8 h8 rfl, refF_8 h8 rfl]
      exact ih q (by simp [Ty.kids]) a ns e (ext ++ [nm]) refs r g (by simpa using hq) hg hl
    · rw [refF_o h8 h9, refF_o h8 h9]

/-- occurrences and what they stand for, raised -/
def OccR (ds : List Nd) (L : List Ty) (M : Nat) (r : Rf) (T : Ty) : Prop := ∃ σ t a ns refs Ts g, Occ ds L M t a ns refs Ts g ∧ r = ⟨(refF t a ns refs).node, ad (refF t a ns refs).shift σ⟩ ∧ T = raiseT σ (sub (lkT ns Ts) t)

/-- one step, with the shape -/
def Stp1 (ds : List Nd) (M : Nat) (R : Rf → Ty → Prop) (r : Rf) (T : Ty) : Prop :=
  0 ≤ r.node ∧ ∃ u d, Unf T u ∧ Shp M u ∧ ds[r.node.toNat]? = some d ∧ d.kind = u.kind ∧ (act d.kind = true → ad d.prio r.shift = u.prio) ∧ d.labels = u.labels ∧ d.next.length = u.kids.length ∧
    ∀ (j : Nat) (v : Rf) (k : Ty), d.next[j]? = some v → u.kids[j]? = some k → R ⟨v.node, ad v.shift r.shift⟩ k
theorem Stp1.stp {ds : List Nd} {M : Nat} {R : Rf → Ty → Prop} {r : Rf} {T : Ty} (h : Stp1 ds M R r T) : Stp ds R r T := by
  obtain ⟨h0, u, d, h1, _, h2⟩ := h
  exact ⟨h0, u, d, h1, h2⟩

theorem occ_rec {ds : List Nd} {L : List Ty} {M : Nat} {k p : Int} {nm : ByteArray} {s : Int} {ls : List ByteArray} {x : Ty} {a : Int} {ns : List ByteArray} {refs : List Rf} {Ts : List Ty} {g : Nat} {σ : Int} (h8 : k = 8) (h : Occ ds L M (.mk k p nm s ls [x]) a ns refs Ts g)
    (hs : Stp1 ds M (OccR ds L M) ⟨(refF x a (ns ++ [nm]) (refs ++ [refF (.mk k p nm s ls [x]) a ns refs])).node, ad (refF x a (ns ++ [nm]) (refs ++ [refF (.mk k p nm s ls [x]) a ns refs])).shift σ⟩ (raiseT σ (sub (lkT (ns ++ [nm]) (Ts ++ [sub (lkT ns Ts) (.mk k p nm s ls [x])])) x))) :
    Stp1 ds M (OccR ds L M) ⟨(refF (.mk k p nm s ls [x]) a ns refs).node, ad (refF (.mk k p nm s ls [x]) a ns refs).shift σ⟩ (raiseT σ (sub (lkT ns Ts) (.mk k p nm s ls [x]))) := by
  have hi := h.i
  obtain ⟨x', hx', hw⟩ := wf_kid8 hi.wf h8
  cases hx'
  rw [refF_ext x a ns [nm] [] refs _ g (by simpa using hw) hi.gle hi.l1, lkT_snoc _ _ _ _ hi.l2.symm, ← put_sub hw (fun y T hy _ => hi.clo T (lkT_mem _ _ _ _ hy) nm), ← raise_put] at hs
  rw [refF_8 h8 rfl]
  obtain ⟨h0, u, d, h1, h2⟩ := hs
  refine ⟨h0, u, d, ?_, h2⟩
  have e : raiseT σ (sub (lkT ns Ts) (.mk k p nm s ls [x])) = .mk k p nm s ls [raiseT σ (sub ((lkT ns Ts).del nm) x)] := by
    rw [sub_8 h8, raiseT_mk, if_neg (by omega)]; rfl
  refine .step _ (raiseT σ (sub ((lkT ns Ts).del nm) x)) u [] (by rw [e]; exact h8) (by rw [e]; rfl) ?_
  have en : (raiseT σ (sub (lkT ns Ts) (.mk k p nm s ls [x]))).name = nm := by rw [e]; rfl
  rw [en]; exact h1

theorem occ_node {ds : List Nd} {L : List Ty} {M : Nat} {k p : Int} {nm : ByteArray} {s : Int} {ls : List ByteArray} {ks : List Ty} {a : Int} {ns : List ByteArray} {refs : List Rf} {Ts : List Ty} {g : Nat} {σ : Int} (h8 : ¬ k = 8) (h9 : ¬ k = 9) (h : Occ ds L M (.mk k p nm s ls ks) a ns refs Ts g) :
    Stp1 ds M (OccR ds L M) ⟨(refF (.mk k p nm s ls ks) a ns refs).node, ad (refF (.mk k p nm s ls ks) a ns refs).shift σ⟩ (raiseT σ (sub (lkT ns Ts) (.mk k p nm s ls ks))) := by
  have hi := h.i
  have hpl := hi.pl
  rw [nodesF_o h8 h9] at hpl
  have hat := hpl.2 0 (by simp)
  simp only [Nat.add_zero, List.getElem_cons_zero] at hat
  rw [refF_o h8 h9]
  have e : raiseT σ (sub (lkT ns Ts) (.mk k p nm s ls ks)) = .mk k (if 4 ≤ k ∧ k ≤ 7 then ad p σ else p) nm s ls ((ks.map (sub (lkT ns Ts))).map (raiseT σ)) := by rw [sub_o h8 h9, raiseT_mk]
  have hu : Unf (raiseT σ (sub (lkT ns Ts) (.mk k p nm s ls ks))) (raiseT σ (sub (lkT ns Ts) (.mk k p nm s ls ks))) := by
    have := Unf.done (raiseT σ (sub (lkT ns Ts) (.mk k p nm s ls ks))) (by rw [e]; exact h8)
    rw [raise_raise] at this
    simpa using this
  refine ⟨hpl.1, _, _, hu, ?_, hat, by rw [e]; rfl, fun ha => ?_, by rw [e]; rfl, by rw [e]; simp [Ty.kids, nextsF_len], fun j v q hv hq => ?_⟩
  · have hs := (Lm.sub (δ := lkT ns Ts) (fun y T hy => hi.lts T (lkT_mem _ _ _ _ hy)) hi.lm).raise (k := σ)
    rw [e] at hs ⊢
    have hw := hi.wf
    cases hw with
    | mk _ _ _ h1 w1 w2 w3 =>
    clear w1 w2 w3
    unfold Wf1 at h1
    simp only [Ty.kind, Ty.prio, Ty.shift, Ty.kids, Ty.labels] at h1
    obtain ⟨⟨g1, _, g3, g5, g7, _, _⟩, g8⟩ := h1
    refine ⟨⟨g1.1, by show k ≤ 7; clear g3 g5 g7; omega⟩, fun h => ?_, fun h => ?_, fun h => ?_, g8, hs⟩
    · have g := g3 h
      have e1 := List.eq_nil_of_length_eq_zero g.1
      have e2 := g.2.1
      have e3 := g.2.2
      have h : k ≤ 3 := h
      exact ⟨by simp [Ty.kids, e1], List.eq_nil_of_length_eq_zero e2, by simp only [Ty.prio]; rw [if_neg (by omega)]; exact e3⟩
    · obtain ⟨e1, e2⟩ := g5 h
      exact ⟨by simp [Ty.kids, e1], List.eq_nil_of_length_eq_zero e2⟩
    · simp only [Ty.kids, Ty.labels, List.length_map]; exact (g7 h).1
  · have ha : 4 ≤ k ∧ k ≤ 7 := of_decide_eq_true ha
    rw [e]
    show ad p (ad 0 σ) = (if 4 ≤ k ∧ k ≤ 7 then ad p σ else p)
    rw [if_pos ha]
    unfold ad; rw [Int.add_comm p, wr_add]; congr 1; omega
  · rw [e] at hq
    simp only [Ty.kids, List.getElem?_map, Option.map_eq_some_iff] at hq
    obtain ⟨q1, ⟨q0, hq0, rfl⟩, rfl⟩ := hq
    obtain ⟨hj, rfl⟩ := List.getElem?_eq_some_iff.1 hq0
    have hv : (nextsF ks (a + 1) ns refs)[j]? = some v := hv
    rw [nextsF_at j hj] at hv
    cases hv
    refine ⟨σ, ks[j], _, ns, refs, Ts, ns.length, .kid k p nm s ls ks a ns refs Ts g h8 h9 h j hj, ?_, rfl⟩
    have : ad 0 σ = IntKind.i64.wrap σ := by unfold ad; congr 1; omega
    rw [this, ad_wr]

theorem occ_hd {ds : List Nd} {L : List Ty} {M : Nat} : ∀ (n : Nat) {t : Ty} {a : Int} {ns : List ByteArray} {refs : List Rf} {Ts : List Ty} {g : Nat} {σ : Int}, Hd n t → Occ ds L M t a ns refs Ts g →
    Stp1 ds M (OccR ds L M) ⟨(refF t a ns refs).node, ad (refF t a ns refs).shift σ⟩ (raiseT σ (sub (lkT ns Ts) t)) := by
  intro n
  induction n with
  | zero =>
    intro t a ns refs Ts g σ hh h
    obtain ⟨k, p, nm, s, ls, ks⟩ := t
    cases hh with
    | done _ h8 h9 _ _ => exact occ_node h8 h9 h
  | succ n ih =>
    intro t a ns refs Ts g σ hh h
    obtain ⟨k, p, nm, s, ls, ks⟩ := t
    cases hh with
    | step _ _ x h8 hk hh =>
      have hk : ks = [x] := hk
      subst hk
      exact occ_rec h8 h (ih hh (.down k p nm s ls x a ns refs Ts g h8 h))

theorem occ_step {ds : List Nd} {L : List Ty} {M : Nat} : ∀ (t : Ty) {a : Int} {ns : List ByteArray} {refs : List Rf} {Ts : List Ty} {g : Nat} {σ : Int}, Occ ds L M t a ns refs Ts g →
    Stp1 ds M (OccR ds L M) ⟨(refF t a ns refs).node, ad (refF t a ns refs).shift σ⟩ (raiseT σ (sub (lkT ns Ts) t)) := by
  intro t
  induction t using Ty.ind with
  | _ t ih =>
  intro a ns refs Ts g σ h
  have hi := h.i
  obtain ⟨k, p, nm, s, ls, ks⟩ := t
  by_cases h9 : k = 9
  · obtain ⟨j, hj, hla⟩ := wf_var hi.wf h9
    have hjn : j < ns.length := Nat.lt_of_lt_of_le hj hi.gle
    have hl1 := hi.l1
    have hl2 := hi.l2
    have h1 := look_ext (e := []) (e' := []) (refs := refs) (r := []) (by simpa using hla) hjn hl1
    simp only [List.append_nil] at h1
    have h2 := lkT_at ns Ts nm j hla.1 hla.2 (by omega)
    obtain ⟨t', a', ns', refs', Ts', g', e1, e2, e3, e4⟩ := hi.ent j (by omega) (by omega)
    obtain ⟨m, hm⟩ := e4 (.inl hj)
    rw [refF_9 h9 h1, sub_9 h9 h2, raise_raise, e2, e3]
    have e : ad ((refF t' a' ns' refs').shift + s) σ = ad (refF t' a' ns' refs').shift (s + σ) := by unfold ad; congr 1; omega
    rw [e]
    exact occ_hd m hm e1
  · by_cases h8 : k = 8
    · obtain ⟨x, rfl, hw⟩ := wf_kid8 hi.wf h8
      exact occ_rec h8 h (ih x (by simp [Ty.kids]) (.down k p nm s ls x a ns refs Ts g h8 h))
    · exact occ_node h8 h9 h

theorem rt_occ {ds : List Nd} {L : List Ty} {M : Nat} {r : Rf} {T : Ty} (h : OccR ds L M r T) : RT ds r T := by
  refine ⟨OccR ds L M, h, ?_⟩
  rintro r T ⟨σ, t, a, ns, refs, Ts, g, ho, rfl, rfl⟩
  exact (occ_step t ho).stp

/-- a right type's reference stands for it -/
theorem rt_top {ds : List Nd} {t : Ty} {a : Int} (h : Wf t [] 0) (hp : Pl ds a (nodesF t a [] [])) : RT ds (refF t a [] []) t ∧ (refF t a [] []) = ⟨a, 0⟩ := by
  obtain ⟨n, hn⟩ := Wf.hd t [] h
  have hr : ∀ {n : Nat} {t : Ty}, Hd n t → refF t a [] [] = ⟨a, 0⟩ := by
    intro n t h
    induction h with
    | done t h8 h9 _ _ => obtain ⟨k, p, nm, s, ls, ks⟩ := t; exact refF_o h8 h9
    | step n t k h hk hh ih =>
      obtain ⟨kd, p, nm, s, ls, ks⟩ := t
      have h : kd = 8 := h
      have hk : ks = [k] := hk
      rw [refF_8 h hk]; exact ih
  have e : lkT [] [] = noE := by funext y; rfl
  refine ⟨rt_occ ⟨0, t, a, [], [], [], 0, .top t a h hp (L := occL [] [] t) (M := t.sz) (fun _ h => h) (Wf.lm t [] 0 _ h (Nat.le_refl _)), ?_, ?_⟩, hr hn⟩
  · rw [hr hn]; rfl
  · rw [raise0_sub h, e, sub_id]

end Go.Proofs.YtopinhoalbgebaaGreatDoor.Tx

/- Contracts: maps.Clone of the scopes of the package graph; maps with text keys. -/
namespace Go.Proofs.YtopinhoalbgebaaGreatDoor.Tx
open Go.Lf Go.Lf.S Go.Lf.Duo Go.RowKit Go.Maps
set_option maxRecDepth 100000

theorem run_eqIn_map_nil {P : Program} (w : World) (d : Nat) (t k e : TypeId) (p : Option Nat) (h : P.underlying t = some (.map k e)) :
    (Op.equalIn (d + 1) t (.map p) (.map none)).run P w = .ok p.isNone w := by
  cases p <;> simp [Op.equalIn, run_underlying h]
theorem run_eql_map_nil {P : Program} (w : World) (t k e : TypeId) (p : Option Nat) (h : P.underlying t = some (.map k e)) :
    (binOp .eql t (.map p) (.map none)).run P w = .ok (.bool p.isNone) w := by
  simp only [binOp]
  simp [show Op.equal t (.map p) (.map none) = Op.equalIn (9999 + 1) t (.map p) (.map none) from rfl, run_eqIn_map_nil w 9999 t k e p h]
theorem run_typeAssert_map {P : Program} (w : World) (t xT k e : TypeId) (v : Value) (h : P.underlying t = some (.map k e)) : (Instr.typeAssert (.iface t v) xT t false).run P w = .ok v w := by
  simp [Instr.typeAssert, run_underlying h, go_sem, Result.andThen]
theorem run_maps_clone' {P : Program} (w : World) {r : Nat} {es : Array MapEntry} {clock : Nat} (t : TypeId) (hb : w.heap[r]? = some (.map es clock)) :
    (Extern.MapsClone.clone #[.iface t (.map (some r))]).run P w = .ok (.iface t (.map (some w.heap.size))) (w.alloc (.map es clock)) := by
  have e : Extern.MapsClone.clone #[.iface t (.map (some r))] = (getObj r >>= fun o => match o with
      | .map entries clock => (newObj (.map entries clock) >>= fun n => pure (.iface t (.map (some n))))
      | _ => stuck "maps.clone: a map expected") := rfl
  rw [e]
  simp [MapKept.run_getObj_map hb, Result.andThen, go_sem]

theorem walk_Clone (b : Nat) (es : Array MapEntry) (clock : Nat) (w : World) (hb : w.heap[b]? = some (.map es clock)) :
    Calls P F.maps_Clone_graph_scope_string_graph_Ref #[.map (some b)] w fun e w' => e = .returned (.map (some w.heap.size)) ∧ w' = w.alloc (.map es clock) := by
  show Calls Tryz.prog 82 _ _ _
  have hq := fun w => run_eql_map_nil (P := Tryz.prog) w 101 _ _ (some b) Tryz.underlying101
  go_enter Tryz.func82, Tryz.ntmps82
  go_wp2
  rw [run_callFunc_extern Tryz.func97 (by kernel_rfl) (by kernel_rfl) (by kernel_rfl) (e := Extern.MapsClone.clone) (by kernel_rfl), run_maps_clone' w 101 hb]
  simp only [Result.andThen]
  rw [Oper.upon_value]
  go_wp2
  rw [run_typeAssert_map _ 101 20 _ _ _ Tryz.underlying101]
  simp only [Result.andThen]
  rw [Oper.upon_value]
  go_wp2
  go_ret
  exact ⟨rfl, rfl⟩

theorem look2 {β : Type} {a b o : Nat} {x y z : β} (h : Go.Lf.look [(a, some x), (b, some y)] o = some z) : (o = a ∧ z = x) ∨ (o = b ∧ z = y) := by
  simp only [Go.Lf.look] at h
  split at h
  · rename_i hq
    exact .inl ⟨(Nat.eq_of_beq_eq_true hq).symm, (Option.some.inj h).symm⟩
  · split at h
    · rename_i hq
      exact .inr ⟨(Nat.eq_of_beq_eq_true hq).symm, (Option.some.inj h).symm⟩
    · cases h
theorem okS_Clone_map (ks vs : List PV) : OkS P F.maps_Clone_graph_scope_string_graph_Ref sg_maps_Clone_graph_scope_string_graph_Ref [.mp ks vs] [.mp ks vs, .mp ks vs] := by
  refine ⟨enters_of Tryz.func82 rfl (by decide), fun F w vv ρ hF hgl hsz hargs hobs => ?_⟩
  obtain ⟨r, es, clock, ks', vs', hρ, he, hb, hk, hv, h1, h2, hFr⟩ := hobs.rep 9000 (.map false (.mp ks vs)) rfl
  cases he
  have hvv : vv = #[.map (some r)] := by
    have hs : vv.size = 1 := hsz
    have h0 : vv[0]? = some (vv[0]'(by omega)) := Array.getElem?_eq_getElem (by omega)
    have := (hargs 0 _ (.at (.mref 9000)) h0 rfl).1
    rw [hρ] at this
    apply Array.ext (by simpa using hs)
    intro i hi1 hi2
    have : i = 0 := by simp at hi2; omega
    subst this
    simpa using this
  subst hvv
  have hlt : r < w.heap.size := (Array.getElem?_eq_some_iff.1 hb).1
  refine (walk_Clone r es clock w hb).mono ?_
  rintro e w' ⟨rfl, rfl⟩
  have hal := MapKept.heap_alloc w (.map es clock)
  have hsame : ∀ b o, F b o → Same w (w.alloc (.map es clock)) b o := fun b o h => Same.of_block (hal.2 b (hF b o h)) o
  have hsz' : (w.alloc (.map es clock)).heap.size = w.heap.size + 1 := by
    show (w.heap.push _).size = _
    simp
  have mono : ∀ {v : Value} {x : PV}, Rep F w v x → Rep F (w.alloc (.map es clock)) v x := fun h => h.mono (fun _ _ h => h) hsame
  refine ⟨_, F, fun o => if o = 9001 then .map (some w.heap.size) else ρ o, rfl, ⟨rfl, rfl, rfl, by omega, fun k hk _ => hal.2 k hk⟩, fun b o h => ⟨h, hsame b o h⟩, fun b o h => .inl h, fun b o h => by have := hF b o h; omega, ⟨rfl, rfl⟩, ⟨?_, ?_⟩, ?_, ?_⟩
  · intro o ob ho
    have hcase : (o = 9000 ∨ o = 9001) ∧ ob = .map false (.mp ks vs) := by
      rcases look2 (a := 9000) (b := 9001) ho with ⟨h1, h2⟩ | ⟨h1, h2⟩
      · exact ⟨.inl h1, h2⟩
      · exact ⟨.inr h1, h2⟩
    obtain ⟨hc, rfl⟩ := hcase
    rcases hc with rfl | rfl
    · refine ⟨r, es, clock, ks, vs, by simpa using hρ, rfl, by rw [hal.2 r hlt]; exact hb, hk, hv, fun i e y he hy => mono (h1 i e y he hy), fun i e y he hy => mono (h2 i e y he hy), hFr⟩
    · refine ⟨w.heap.size, es, clock, ks, vs, by simp, rfl, hal.1, hk, hv, fun i e y he hy => mono (h1 i e y he hy), fun i e y he hy => mono (h2 i e y he hy), fun j => ⟨fun h => ?_, fun h => by cases h.1⟩⟩
      have := hF _ _ h
      omega
  · have hcase : ∀ o ob, lookO (sg_maps_Clone_graph_scope_string_graph_Ref.robsI [.mp ks vs, .mp ks vs]) o = some ob → o = 9000 ∨ o = 9001 := fun o ob ho => by
      rcases look2 (a := 9000) (b := 9001) ho with ⟨h1, _⟩ | ⟨h1, _⟩
      · exact .inl h1
      · exact .inr h1
    have hbb : ∀ (o k : Nat), (o = 9000 ∨ o = 9001) → HB (if o = 9001 then Value.map (some w.heap.size) else ρ o) k → (o = 9000 ∧ k = r) ∨ (o = 9001 ∧ k = w.heap.size) := by
      rintro o k (rfl | rfl) h
      · simp only [show ¬ (9000 : Nat) = 9001 by decide, if_false, hρ] at h
        exact .inl ⟨rfl, (HB_hb (k0 := r) rfl).1 h⟩
      · simp only [if_true] at h
        exact .inr ⟨rfl, (HB_hb (k0 := w.heap.size) rfl).1 h⟩
    intro o o' ob ob' ho ho' hne k hk1 hk2
    rcases hbb o k (hcase o ob ho) hk1 with ⟨e1, e2⟩ | ⟨e1, e2⟩ <;> rcases hbb o' k (hcase o' ob' ho') hk2 with ⟨e3, e4⟩ | ⟨e3, e4⟩
    · exact hne (e1.trans e3.symm)
    · omega
    · omega
    · exact hne (e1.trans e3.symm)
  · intro o ob ho k hk1
    rcases look2 (a := 9000) (b := 9001) ho with ⟨rfl, _⟩ | ⟨rfl, _⟩
    · simp only [show ¬ (9000 : Nat) = 9001 by decide, if_false] at hk1
      exact .inr ⟨(9000, .map false (.mp ks vs)), by simp [Sig.obsI, sg_maps_Clone_graph_scope_string_graph_Ref, Ob.map', instL], hk1⟩
    · simp only [if_true] at hk1
      have := (HB_hb (k0 := w.heap.size) rfl).1 hk1
      exact .inl (by omega)
  · intro o ho _
    have : o = 9000 := by simpa [sg_maps_Clone_graph_scope_string_graph_Ref] using ho
    subst this
    simp
end Go.Proofs.YtopinhoalbgebaaGreatDoor.Tx

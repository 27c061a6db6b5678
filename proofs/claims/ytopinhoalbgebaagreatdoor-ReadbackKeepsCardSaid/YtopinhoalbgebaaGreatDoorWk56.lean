/- Contracts (Wk185, Wk50, Wk51, Wk52, Wk53, Wk54, Wk55, Wk56). -/
import Derived.Test.YtopinhoalbgebaaGreatDoorWk184
import Derived.Test.YtopinhoalbgebaaGreatDoorWk6
set_option linter.all false
/- The normal tree of a right type: its numbers (2), its weight. -/
namespace Go.Proofs.YtopinhoalbgebaaGreatDoor.Tx
open Go.Lf Go.Lf.S Go.Lf.Duo
set_option maxRecDepth 100000

theorem CB.unfC {L : List Ty} {M : Nat} {B : Int} {T : Ty} (h : CB L M B T) : CB L M (B + 1000000) (unfT T) := by
  obtain ⟨ds, σ, t, a, ns, refs, Ts, g, ho, h0, h1, rfl⟩ := h
  obtain ⟨ds', σ', k, p, nm, s, ls, ks, a', ns', refs', Ts', g', h3, h8, h9, h4, h5, hU⟩ := ndB_occ t ho (σ := σ)
  rw [unfT_eq hU]
  exact ⟨ds', σ', _, a', ns', refs', Ts', g', h3, by omega, by omega, rfl⟩
theorem CB.mono {L : List Ty} {M : Nat} {B B' : Int} {T : Ty} (h : CB L M B T) (hB : B ≤ B') : CB L M B' T := by
  obtain ⟨ds, σ, t, a, ns, refs, Ts, g, ho, h0, h1, h2⟩ := h
  exact ⟨ds, σ, t, a, ns, refs, Ts, g, ho, h0, by omega, h2⟩

/-- a tree whose text can be made -/
inductive Tok : Ty → Prop
  | mk (t : Ty) (k1 : 1 ≤ t.kind ∧ t.kind ≤ 9) (k4 : 4 ≤ t.kind ∧ t.kind ≤ 7 → 0 ≤ t.prio ∧ t.prio ≤ 2000000000) (k5 : 4 ≤ t.kind ∧ t.kind ≤ 5 → t.kids.length = 2) (k6 : 6 ≤ t.kind ∧ t.kind ≤ 7 → t.labels.length = t.kids.length)
      (k8 : t.kind = 8 → t.kids.length = 1 ∧ t.name.size ≤ 10) (k9 : t.kind = 9 → 0 ≤ t.shift ∧ t.shift ≤ 2000000000 ∧ t.name.size ≤ 10 ∧ t.kids = []) (h : ∀ k ∈ t.kids, Tok k) : Tok t
theorem nmB_size {j : Nat} (h : j < 100) : (nmB j).size ≤ 10 := by
  have := decS_size h
  show ((⟨#[114]⟩ : ByteArray) ++ decS j).size ≤ 10
  rw [ByteArray.size_append]
  show 1 + (decS j).size ≤ 10
  omega
theorem lit_tok {k : Int} (h : 1 ≤ k ∧ k ≤ 3) : Tok (litT k) := by
  refine .mk _ ⟨h.1, by show k ≤ 9; omega⟩ (fun c => ?_) (fun c => ?_) (fun c => ?_) (fun c => ?_) (fun c => ?_) (fun x hx => by cases hx)
  all_goals (simp only [litT, Ty.kind] at c; omega)
theorem var_tok {j : Nat} {s : Int} (hj : j < 100) (h0 : 0 ≤ s) (h1 : s ≤ 2000000000) : Tok (varT j s) := by
  refine .mk _ ⟨by show (1 : Int) ≤ 9; omega, by show (9 : Int) ≤ 9; omega⟩ (fun c => ?_) (fun c => ?_) (fun c => ?_) (fun c => ?_) (fun _ => ⟨h0, h1, nmB_size hj, rfl⟩) (fun x hx => by cases hx)
  all_goals (simp only [varT, Ty.kind] at c; omega)
theorem wrap_tok {m : Nat} {t : Ty} (hm : m < 100) (h : Tok t) : Tok (wrapT m t) := by
  unfold wrapT
  split
  · refine .mk _ ⟨by show (1 : Int) ≤ 8; omega, by show (8 : Int) ≤ 9; omega⟩ (fun c => ?_) (fun c => ?_) (fun c => ?_) (fun _ => ⟨rfl, nmB_size hm⟩) (fun c => ?_) (fun x hx => by
      rw [List.mem_singleton.1 hx]; exact h)
    all_goals (simp only [Ty.kind] at c; omega)
  · exact h
structure Anc (L : List Ty) (M : Nat) (path : List Ty) (T : Ty) : Prop where
  cb : ∀ p ∈ path, CB L M 1000000000 p
  rc : ∀ p ∈ path, ∃ w, w ≤ path.length ∧ Rch p w T
theorem nmT_tok {L : List Ty} {M : Nat} (hM : M ≤ 549755813888) (hL : L.length ≤ 99) : ∀ (m : Nat) (path : List Ty) (T : Ty), CB L M (path.length * 1000000) T → POk L M path → Anc L M path T → L.length < path.length + m → Tok (nmT m path T) := by
  intro m
  induction m with
  | zero => intro path T _ hp _ hm; have := hp.len; omega
  | succ m ih =>
    intro path T hT hp hA hm
    have hpl := hp.len
    have cT := hT.cl
    have hS := cT.unf.2.1
    have k1 := hS.k1
    have hst := hT.step (by omega)
    by_cases h3 : (unfT T).kind ≤ 3
    · rw [nmT_lit h3]; exact lit_tok ⟨k1.1, h3⟩
    have hact : act (unfT T).kind = true := by simp only [act, decide_eq_true_eq]; omega
    have hpr := hst.1 hact
    cases hf : fnd path (unfT T) with
    | some j =>
      obtain ⟨hj, hh, _⟩ := fnd_some hf
      rw [nmT_var h3 hf hj]
      have hmem := List.getElem_mem hj
      have cbp := hA.cb _ hmem
      have hup := hp.un _ hmem
      have hap := hp.ac _ hmem
      obtain ⟨w, hw, hr⟩ := hA.rc _ hmem
      have hpp := (cbp.step (by omega)).1 (by rw [hup]; exact hap)
      rw [hup] at hpp
      have hoff : off path[j] (unfT T) = (unfT T).prio - path[j].prio := by
        unfold off
        rw [pz_act hap, wrap_in (by omega) (by omega)]
      unfold Hit at hh
      have he : EqP (raiseT (off path[j] (unfT T)) path[j], T) := eqP_trans (cbp.cl.raise _) cT.unfC hh (eqP_symm (eqP_unf cT))
      have hnn := no_neg (by omega) cbp hr (by rw [hup]; exact hap) he (by rw [hoff]; omega)
      exact var_tok (by omega) hnn (by rw [hoff]; omega)
    | none =>
      rw [nmT_node h3 hf]
      have hol := ordK_len hS hM
      have hlm := shp_lm hS
      have hp2 := hp.snoc cT hact hf
      have hl2 : (path ++ [unfT T]).length = path.length + 1 := by simp
      have cu := hT.unfC
      refine wrap_tok (by omega) (.mk _ ⟨k1.1, by show (unfT T).kind ≤ 9; omega⟩ (fun _ => ⟨hpr.1, by show (unfT T).prio ≤ _; omega⟩) (fun c => ?_) (fun c => ?_) (fun c => ?_) (fun c => ?_) (fun k hk => ?_))
      · show ((ordK (unfT T)).map _).length = 2
        rw [List.length_map, hol]; exact (hS.k5 c).1
      · show (srt (unfT T).labels).length = ((ordK (unfT T)).map _).length
        rw [List.length_map, hol, (srt_spec hS.nd (by omega)).1]; exact (hS.k7 c).symm
      · have c : (unfT T).kind = 8 := c
        omega
      · have c : (unfT T).kind = 9 := c
        omega
      · obtain ⟨x, hx, rfl⟩ := List.mem_map.1 (show k ∈ (ordK (unfT T)).map _ from hk)
        have hxk := ordK_mem hS hM hx
        refine ih _ x ?_ hp2 ⟨fun p hp' => ?_, fun p hp' => ?_⟩ (by omega)
        · rw [hl2]
          exact (hst.2 x hxk).mono (by omega)
        · rcases List.mem_append.1 hp' with h | h
          · exact hA.cb p h
          · rw [List.mem_singleton.1 h]; exact cu.mono (by omega)
        · rcases List.mem_append.1 hp' with h | h
          · obtain ⟨w, hw, hr⟩ := hA.rc p h
            exact ⟨w + 1, by omega, .succ _ _ _ hr hxk⟩
          · rw [List.mem_singleton.1 h]
            exact ⟨1, by omega, .succ 0 _ _ .zero (by rw [cT.uu]; exact hxk)⟩

/-! weights -/
mutual
def wt (f : ByteArray → Nat) : Ty → Nat
  | .mk _ _ _ _ ls ks => 100 + (ls.map f).sum + wts f ks
def wts (f : ByteArray → Nat) : List Ty → Nat
  | [] => 0
  | t :: ts => wt f t + wts f ts
end
theorem wts_eq (f : ByteArray → Nat) : ∀ l : List Ty, wts f l = (l.map (wt f)).sum
  | [] => by simp [wts]
  | t :: ts => by simp [wts, wts_eq f ts]
theorem wt_mk (f : ByteArray → Nat) (kd p : Int) (nm : ByteArray) (s : Int) (ls : List ByteArray) (ks : List Ty) : wt f (.mk kd p nm s ls ks) = 100 + (ls.map f).sum + (ks.map (wt f)).sum := by simp only [wt, wts_eq]
theorem sum_le {α : Type} {f g : α → Nat} : ∀ {l : List α}, (∀ x ∈ l, f x ≤ g x) → (l.map f).sum ≤ (l.map g).sum
  | [], _ => by simp
  | x :: l, h => by
    have h1 := h x (by simp)
    have h2 := sum_le (l := l) fun y hy => h y (by simp [hy])
    simp only [List.map_cons, List.sum_cons]; omega
theorem sum_mul2 {α : Type} {f : α → Nat} : ∀ l : List α, (l.map fun x => 2 * f x).sum = 2 * (l.map f).sum
  | [] => rfl
  | x :: l => by simp only [List.map_cons, List.sum_cons, sum_mul2 l]; omega
theorem srt_perm {l : List ByteArray} (hn : l.Nodup) (hl : l.length ≤ 549755813888) : (srt l).Perm l := by
  obtain ⟨_, h2, h3, _⟩ := srt_spec hn hl
  rw [List.perm_ext_iff_of_nodup h3 hn]
  exact h2
theorem ordK_perm {M : Nat} {u : Ty} (hS : Shp M u) (hM : M ≤ 549755813888) : (ordK u).Perm u.kids := by
  unfold ordK
  split
  · exact List.Perm.refl _
  · rename_i hne
    have hlm := shp_lm hS
    refine ((srt_perm hS.nd (by omega)).map (kidAt u)).trans ?_
    have e : u.labels.map (kidAt u) = u.kids := by
      have hk : u.kids.length = u.labels.length := by
        have k1 := hS.k1
        by_cases c3 : u.kind ≤ 3
        · exact absurd (hS.k3 c3).2.1 hne
        · by_cases c5 : u.kind ≤ 5
          · exact absurd (hS.k5 ⟨by omega, c5⟩).2 hne
          · exact hS.k7 ⟨by omega, k1.2⟩
      refine List.ext_getElem (by rw [List.length_map]; omega) fun q h1 h2 => ?_
      rw [List.getElem_map]
      exact kidAt_eq hS.nd (List.getElem?_eq_getElem (by simpa using h1)) (List.getElem?_eq_getElem h2)
    rw [e]
theorem nmT_congr {m : Nat} {path : List Ty} {A B : Ty} (h : unfT A = unfT B) : nmT (m + 1) path A = nmT (m + 1) path B := by
  by_cases h3 : (unfT A).kind ≤ 3
  · rw [nmT_lit h3, nmT_lit (by rw [← h]; exact h3), h]
  · cases hf : fnd path (unfT A) with
    | none => rw [nmT_node h3 hf, nmT_node (by rw [← h]; exact h3) (by rw [← h]; exact hf), h]
    | some j =>
      obtain ⟨hj, _⟩ := fnd_some hf
      rw [nmT_var h3 hf hj, nmT_var (by rw [← h]; exact h3) (by rw [← h]; exact hf) hj, h]
theorem hit_nu {L : List Ty} {M : Nat} {p u : Ty} (hpa : act p.kind = true) (hp : unfT p = p) (cu : CL L M u) (hu : unfT u = u) (hua : act u.kind = true) (h : nu p = nu u) : Hit p u := by
  unfold Hit
  have e : raiseT (off p u) p = u := by
    unfold nu at h
    rw [hp, hu, pz_act hua, pz_act hpa] at h
    have := congrArg (raiseT u.prio) h
    have h0 := raise0 cu
    rw [hu] at h0
    rw [raise_raise, raise_raise, show -u.prio + u.prio = 0 by omega, h0] at this
    refine Eq.trans ?_ this
    unfold off
    rw [raise_wr, pz_act hpa]
    congr 1; omega
  rw [e]
  exact eqP_refl cu
theorem rec_unf {ds : List Nd} {L : List Ty} {M : Nat} {k p : Int} {nm : ByteArray} {s : Int} {ls : List ByteArray} {x : Ty} {a : Int} {ns : List ByteArray} {refs : List Rf} {Ts : List Ty} {g : Nat} {σ : Int} (h8 : k = 8) (h : Occ ds L M (.mk k p nm s ls [x]) a ns refs Ts g) :
    unfT (raiseT σ (sub (lkT ns Ts) (.mk k p nm s ls [x]))) = unfT (raiseT σ (sub (lkT (ns ++ [nm]) (Ts ++ [sub (lkT ns Ts) (.mk k p nm s ls [x])])) x)) := by
  have hi' := h.i
  obtain ⟨x', hx', hw⟩ := wf_kid8 hi'.wf h8
  cases hx'
  have hd := Occ.down k p nm s ls x a ns refs Ts g h8 h
  obtain ⟨u, hu, _⟩ := occU x hd (σ := σ)
  rw [unfT_eq hu]
  rw [lkT_snoc _ _ _ _ hi'.l2.symm, ← put_sub hw (fun y T hy _ => hi'.clo T (lkT_mem _ _ _ _ hy) nm), ← raise_put] at hu
  refine unfT_eq ?_
  have e : raiseT σ (sub (lkT ns Ts) (.mk k p nm s ls [x])) = .mk k p nm s ls [raiseT σ (sub ((lkT ns Ts).del nm) x)] := by
    rw [sub_8 h8, raiseT_mk, if_neg (by omega)]; rfl
  refine .step _ (raiseT σ (sub ((lkT ns Ts).del nm) x)) _ [] (by rw [e]; exact h8) (by rw [e]; rfl) ?_
  have en : (raiseT σ (sub (lkT ns Ts) (.mk k p nm s ls [x]))).name = nm := by rw [e]; rfl
  rw [en]; exact hu
theorem node_unf {ds : List Nd} {L : List Ty} {M : Nat} {k p : Int} {nm : ByteArray} {s : Int} {ls : List ByteArray} {ks : List Ty} {a : Int} {ns : List ByteArray} {refs : List Rf} {Ts : List Ty} {g : Nat} {σ : Int} (h8 : ¬ k = 8) (h9 : ¬ k = 9) (h : Occ ds L M (.mk k p nm s ls ks) a ns refs Ts g) :
    unfT (raiseT σ (sub (lkT ns Ts) (.mk k p nm s ls ks))) = .mk k (if 4 ≤ k ∧ k ≤ 7 then ad p σ else p) nm s ls ((ks.map (sub (lkT ns Ts))).map (raiseT σ)) := by
  have e : raiseT σ (sub (lkT ns Ts) (.mk k p nm s ls ks)) = .mk k (if 4 ≤ k ∧ k ≤ 7 then ad p σ else p) nm s ls ((ks.map (sub (lkT ns Ts))).map (raiseT σ)) := by rw [sub_o h8 h9, raiseT_mk]
  have := Unf.done (raiseT σ (sub (lkT ns Ts) (.mk k p nm s ls ks))) (by rw [e]; exact h8)
  rw [raise_raise] at this
  have h2 : Unf (raiseT σ (sub (lkT ns Ts) (.mk k p nm s ls ks))) (raiseT σ (sub (lkT ns Ts) (.mk k p nm s ls ks))) := by simpa using this
  rw [unfT_eq h2, e]

theorem nmT_wt (f : ByteArray → Nat) {ds : List Nd} {L : List Ty} {M : Nat} (hM : M ≤ 549755813888) : ∀ (t : Ty) (a : Int) (ns : List ByteArray) (refs : List Rf) (Ts : List Ty) (g : Nat) (σ : Int) (m : Nat) (path : List Ty), Occ ds L M t a ns refs Ts g → POk L M path → L.length < path.length + m →
    (∀ i (hi : i < Ts.length), i < g → ∃ τ, unfT (raiseT τ Ts[i]) ∈ path) → (∀ i (hi : i < Ts.length), g ≤ i → unfT (raiseT σ Ts[i]) = unfT (raiseT σ (sub (lkT ns Ts) t))) → wt f (nmT m path (raiseT σ (sub (lkT ns Ts) t))) ≤ 2 * wt f t := by
  intro t
  induction t using Ty.ind with
  | _ t ih =>
  intro a ns refs Ts g σ m path h hp hm hlo hhi
  have hpl := hp.len
  obtain ⟨m, rfl⟩ : ∃ m', m = m' + 1 := ⟨m - 1, by omega⟩
  have hi := h.i
  have cT : CL L M (raiseT σ (sub (lkT ns Ts) t)) := ⟨ds, _, σ, t, a, ns, refs, Ts, g, h, rfl, rfl⟩
  have small : ∀ j s, wt f (varT j s) ≤ 2 * wt f t := fun j s => by
    obtain ⟨kd, p, nm, s', ls, ks⟩ := t
    rw [wt_mk, varT, wt_mk]; simp; omega
  obtain ⟨k, p, nm, s, ls, ks⟩ := t
  by_cases h9 : k = 9
  · obtain ⟨j, hj, hla⟩ := wf_var hi.wf h9
    have hjn : j < ns.length := Nat.lt_of_lt_of_le hj hi.gle
    have hl1 := hi.l1
    have hl2 := hi.l2
    have h2 := lkT_at ns Ts nm j hla.1 hla.2 (by omega)
    obtain ⟨t', a', ns', refs', Ts', g', e1, e2, e3, e4⟩ := hi.ent j (by omega) (by omega)
    have cj : CL L M (Ts[j]'(by omega)) := by
      rw [e3]
      exact ⟨ds, _, 0, t', a', ns', refs', Ts', g', e1, rfl, (raise0_sub e1.i.wf).symm⟩
    obtain ⟨τ, hτ⟩ := hlo j (by omega) hj
    have hTe : raiseT σ (sub (lkT ns Ts) (.mk k p nm s ls ks)) = raiseT (s + σ) (Ts[j]'(by omega)) := by rw [sub_9 h9 h2, raise_raise]
    rw [hTe] at cT ⊢
    have hpa := hp.ac _ hτ
    rw [unfT_raise τ cj.ex, raise_kind] at hpa
    have hua : act (unfT (raiseT (s + σ) (Ts[j]'(by omega)))).kind = true := by rw [unfT_raise _ cj.ex, raise_kind]; exact hpa
    have nuu : ∀ {X : Ty}, CL L M X → nu (unfT X) = nu X := fun {X} hX => by unfold nu; rw [hX.uu]
    have hnu : nu (unfT (raiseT τ (Ts[j]'(by omega)))) = nu (unfT (raiseT (s + σ) (Ts[j]'(by omega)))) := by
      rw [nuu (cj.raise _), nuu (cj.raise _), nu_raise cj.ex hpa, nu_raise cj.ex hpa]
    have hh : Hit (unfT (raiseT τ (Ts[j]'(by omega)))) (unfT (raiseT (s + σ) (Ts[j]'(by omega)))) := hit_nu (hp.ac _ hτ) (hp.un _ hτ) (cj.raise _).unfC (cj.raise _).uu hua hnu
    have h3 : ¬ (unfT (raiseT (s + σ) (Ts[j]'(by omega)))).kind ≤ 3 := by
      simp only [act, decide_eq_true_eq] at hua; omega
    cases hf : fnd path (unfT (raiseT (s + σ) (Ts[j]'(by omega)))) with
    | none =>
      obtain ⟨q, hq, hqe⟩ := List.getElem_of_mem hτ
      exact absurd (by rw [hqe]; exact hh) (fnd_none hf q hq)
    | some q =>
      rw [nmT_var h3 hf (fnd_some hf).1]
      exact small _ _
  · by_cases h8 : k = 8
    · obtain ⟨x, rfl, hw⟩ := wf_kid8 hi.wf h8
      have hru := rec_unf (σ := σ) h8 h
      rw [nmT_congr hru]
      have hd := Occ.down k p nm s ls x a ns refs Ts g h8 h
      have := ih x (by simp [Ty.kids]) a (ns ++ [nm]) (refs ++ [refF (.mk k p nm s ls [x]) a ns refs]) (Ts ++ [sub (lkT ns Ts) (.mk k p nm s ls [x])]) g σ (m + 1) path hd hp hm (fun i hi' hig => ?_) (fun i hi' hig => ?_)
      · refine Nat.le_trans this ?_
        rw [wt_mk]; simp; omega
      · by_cases e : i < Ts.length
        · obtain ⟨τ, hτ⟩ := hlo i e hig
          exact ⟨τ, by rw [List.getElem_append_left e]; exact hτ⟩
        · have := hi.gle; have := hi.l2; omega
      · rw [← hru]
        by_cases e : i < Ts.length
        · rw [List.getElem_append_left e]; exact hhi i e hig
        · have e1 : (Ts ++ [sub (lkT ns Ts) (.mk k p nm s ls [x])])[i] = sub (lkT ns Ts) (.mk k p nm s ls [x]) := by
            rw [List.getElem_append_right (by omega)]; simp
          rw [e1]
    · have hS := cT.unf.2.1
      have hu := node_unf (σ := σ) h8 h9 h
      have k1 := hS.k1
      by_cases h3 : (unfT (raiseT σ (sub (lkT ns Ts) (.mk k p nm s ls ks)))).kind ≤ 3
      · rw [nmT_lit h3, litT, wt_mk, wt_mk]; simp; omega
      have hact : act (unfT (raiseT σ (sub (lkT ns Ts) (.mk k p nm s ls ks)))).kind = true := by simp only [act, decide_eq_true_eq]; omega
      cases hf : fnd path (unfT (raiseT σ (sub (lkT ns Ts) (.mk k p nm s ls ks)))) with
      | some q =>
        rw [nmT_var h3 hf (fnd_some hf).1]
        exact small _ _
      | none =>
        rw [nmT_node h3 hf]
        have hp2 := hp.snoc cT hact hf
        have wrapL : ∀ (q : Nat) (X : Ty), wt f (wrapT q X) ≤ 100 + wt f X := fun q X => by
          unfold wrapT; split
          · rw [wt_mk]; simp
          · omega
        refine Nat.le_trans (wrapL _ _) ?_
        have hpm := (ordK_perm hS hM).map (fun x => wt f (nmT m (path ++ [unfT (raiseT σ (sub (lkT ns Ts) (.mk k p nm s ls ks)))]) x))
        have hlm := shp_lm hS
        have hsp := (srt_perm hS.nd (by omega)).map f
        rw [nodeT, wt_mk, wt_mk, List.map_map, List.Perm.sum_nat hsp]
        rw [show (List.map (wt f ∘ nmT m (path ++ [unfT (raiseT σ (sub (lkT ns Ts) (.mk k p nm s ls ks)))])) (ordK (unfT (raiseT σ (sub (lkT ns Ts) (.mk k p nm s ls ks)))))).sum = _ from List.Perm.sum_nat hpm]
        have hkk : (unfT (raiseT σ (sub (lkT ns Ts) (.mk k p nm s ls ks)))).kids = (ks.map (sub (lkT ns Ts))).map (raiseT σ) := by rw [hu]; rfl
        have hll : (unfT (raiseT σ (sub (lkT ns Ts) (.mk k p nm s ls ks)))).labels = ls := by rw [hu]; rfl
        rw [hkk, hll, List.map_map, List.map_map]
        have := sum_le (l := ks) (f := fun x => wt f (nmT m (path ++ [unfT (raiseT σ (sub (lkT ns Ts) (.mk k p nm s ls ks)))]) (raiseT σ (sub (lkT ns Ts) x)))) (g := fun x => 2 * wt f x) (fun x hx => by
          obtain ⟨j, hj, rfl⟩ := List.getElem_of_mem hx
          refine ih ks[j] (by simp only [Ty.kids]; exact List.getElem_mem hj) _ ns refs Ts ns.length σ m _ (.kid k p nm s ls ks a ns refs Ts g h8 h9 h j hj) hp2 (by simp; omega) (fun i hi' hig => ?_) (fun i hi' hig => ?_)
          · by_cases e : i < g
            · obtain ⟨τ, hτ⟩ := hlo i hi' e
              exact ⟨τ, List.mem_append_left _ hτ⟩
            · exact ⟨σ, List.mem_append_right _ (by rw [hhi i hi' (by omega)]; simp)⟩
          · have := hi.l2; omega)
        rw [sum_mul2] at this
        simp only [Function.comp_def] at this ⊢
        omega
theorem nmT_wt0 (f : ByteArray → Nat) {L : List Ty} {M : Nat} (hM : M ≤ 549755813888) {m : Nat} (hm : L.length ≤ m) {t : Ty} (h : Wf t [] 0) (hz : t.sz ≤ M) (hL : ∀ x ∈ occL [] [] t, x ∈ L) : wt f (nmT (m + 1) [] t) ≤ 2 * wt f t := by
  have hp : Pl (nodesF t 0 [] []) 0 (nodesF t 0 [] []) := ⟨Int.le_refl _, fun q hq => by
    show (nodesF t 0 [] [])[(0 : Int).toNat + q]? = _
    rw [show (0 : Int).toNat + q = q by simp]
    exact List.getElem?_eq_getElem hq⟩
  have e : lkT [] [] = noE := by funext y; rfl
  have := nmT_wt f hM t 0 [] [] [] 0 0 (m + 1) [] (.top t 0 h hp hL (Wf.lm t [] 0 _ h hz)) pok0 (by simp; omega) (fun i hi _ => by simp at hi) (fun i hi _ => by simp at hi)
  rw [raise0_sub h, e, sub_id] at this
  exact this
end Go.Proofs.YtopinhoalbgebaaGreatDoor.Tx

/- Contracts: words and names, exactly, of the program and of the reference. -/
namespace Go.Proofs.YtopinhoalbgebaaGreatDoor.Tx
open Go.Lf Go.Lf.S Go.Lf.Duo
set_option maxRecDepth 100000

noncomputable def pb (p : Prop) : Bool := @decide p (Classical.propDecidable p)
theorem pb_of {r : Bool} {p : Prop} (h : r = true ↔ p) : r = pb p := by
  unfold pb
  cases r with
  | true => exact (@decide_eq_true p (Classical.propDecidable p) (h.1 rfl)).symm
  | false => exact (@decide_eq_false p (Classical.propDecidable p) fun hp => by cases h.2 hp).symm
theorem pb_iff {p : Prop} : pb p = true ↔ p := ⟨fun h => @of_decide_eq_true p (Classical.propDecidable p) h, fun h => @decide_eq_true p (Classical.propDecidable p) h⟩
theorem pb_false {p : Prop} : pb p = false ↔ ¬ p := by
  constructor
  · intro h hp
    rw [pb_iff.2 hp] at h; cases h
  · intro h
    cases hb : pb p with
    | true => exact absurd (pb_iff.1 hb) h
    | false => rfl
def IsB (p : Prop) (x : PV) : Prop := ∃ r, x = .bool r ∧ (r = true ↔ p)
theorem isB_t {p : Prop} (h : p) : IsB p (.bool true) := ⟨true, rfl, fun _ => h, fun _ => rfl⟩
theorem isB_f {p : Prop} (h : ¬ p) : IsB p (.bool false) := ⟨false, rfl, (fun e => by cases e), fun e => absurd e h⟩
theorem isB_d {p q : Prop} [Decidable p] (h : p ↔ q) : IsB q (.bool (decide p)) := ⟨_, rfl, decide_eq_true_iff.trans h⟩
theorem tx_pb {f m : Nat} {t : List PV → T PV} (h : TxOk P f m t) {p : Prop} {xs : List PV} (hl : xs.length = m) (hd : (t xs).dt) (hden : (t xs).den0 P (IsB p) []) : Ok P f xs (.bool (pb p)) := by
  obtain ⟨_, ⟨r, rfl, hr⟩, h⟩ := tx_ex h hl hd hden
  rw [← pb_of hr]; exact h

def letB (b : Nat) : Bool := (decide (65 ≤ b) && decide (b ≤ 90)) || (decide (97 ≤ b) && decide (b ≤ 122)) || decide (b = 95)
def digB (b : Nat) : Bool := decide (48 ≤ b) && decide (b ≤ 57)
def alnB (b : Nat) : Bool := letB b || digB b
theorem letB_aln {b : Nat} (h : letB b = true) : alnB b = true := by simp [alnB, h]
theorem good1 : GoodEv P (evAll tb tbS 1000 8).1 (evAll tb tbS 1000 8).2 := evAll_good allOk allOkS 8
def ck (f : Nat) (l : List PV) (g : Nat → Bool) : Bool := (List.range 256).all fun b => match (evAll tb tbS 1000 8).1 f (.int .u8 (b : Int) :: l) with
  | some (.bool r) => r == g b
  | _ => false
theorem ok_ck {f : Nat} {l : List PV} {g : Nat → Bool} (h : ck f l g = true) (b : UInt8) : Ok P f (.int .u8 (b.toNat : Int) :: l) (.bool (g b.toNat)) := by
  have h1 := (List.all_eq_true.1 h) b.toNat (List.mem_range.2 b.toNat_lt)
  split at h1
  · rename_i r hr
    have : r = g b.toNat := by simpa using h1
    rw [← this]; exact good1.1 _ _ _ hr
  · cases h1
def lettersV : PV := .str ⟨#[65, 66, 67, 68, 69, 70, 71, 72, 73, 74, 75, 76, 77, 78, 79, 80, 81, 82, 83, 84, 85, 86, 87, 88, 89, 90, 97, 98, 99, 100, 101, 102, 103, 104, 105, 106, 107, 108, 109, 110, 111, 112, 113, 114, 115, 116, 117, 118, 119, 120, 121, 122, 95]⟩
def digitsV : PV := .str ⟨#[48, 49, 50, 51, 52, 53, 54, 55, 56, 57]⟩
theorem ok_in_let (b : UInt8) : Ok P F.ref01_in [.int .u8 (b.toNat : Int), lettersV] (.bool (letB b.toNat)) := ok_ck (l := [lettersV]) (by kernel_rfl) b
theorem ok_in_dig (b : UInt8) : Ok P F.ref01_in [.int .u8 (b.toNat : Int), digitsV] (.bool (digB b.toNat)) := ok_ck (l := [digitsV]) (by kernel_rfl) b

def wordP (s : ByteArray) : Prop := ∃ h : 0 < s.size, letB (s[0]).toNat = true ∧ ∀ (j : Nat) (h : j < s.size), 1 ≤ j → alnB (s[j]).toNat = true
def kwds : List ByteArray := [⟨#[100, 101, 102]⟩, ⟨#[109, 97, 105, 110]⟩, ⟨#[115, 116, 111, 112]⟩, ⟨#[110, 101, 119]⟩, ⟨#[105, 110, 116]⟩, ⟨#[98, 111, 111, 108]⟩, ⟨#[101, 110, 100]⟩, ⟨#[114, 101, 99]⟩, ⟨#[116, 114, 117, 101]⟩, ⟨#[102, 97, 108, 115, 101]⟩]
def nameP (s : ByteArray) : Prop := wordP s ∧ s ∉ kwds

theorem okx_ref01_Word (s : ByteArray) (hs : s.size ≤ 9223372036854775807) : Ok P F.ref01_Word [.str s] (.bool (pb (wordP s))) := by
  refine tx_pb k_ref01_Word rfl (by simp [t_ref01_Word, T.dt]) ?_
  refine d_l _ rfl fun _ => d_l _ rfl fun _ => d_dec (fun h => d_ret (isB_f fun ⟨h1, _⟩ => by have : (s.size : Int) = 0 := h; omega)) fun h => ?_
  have h0 : 0 < s.size := by have : ¬ (s.size : Int) = 0 := h; omega
  refine d_l _ (e_sidx (k := 0) h0) fun _ => d_call ok_ref01_Letters (d_call (ok_in_let s[0]) (d_l _ rfl fun _ => ?_))
  refine d_ite (fun hb => d_ret (isB_f fun ⟨_, h1, _⟩ => by rw [h1] at hb; cases hb)) fun hb => ?_
  have hb : letB (s[0]).toNat = true := by simpa using hb
  refine den_loop (fun m ys => ∃ j : Nat, j + m = s.size ∧ 1 ≤ j ∧ (∀ (k : Nat) (h : k < s.size), 1 ≤ k → k < j → alnB (s[k]).toNat = true) ∧ ys = [i j]) (s.size - 1) ⟨1, by omega, Nat.le_refl _, fun k _ h1 h2 => by omega, rfl⟩ ?_
  rintro m _ ⟨j, hj, hj1, hall, rfl⟩
  refine d_l _ rfl fun _ => d_l _ rfl fun _ => d_dec (fun h => ?_) fun h => d_ret (isB_t ⟨h0, hb, fun k hk h1 => hall k hk h1 (by have : ¬ (j : Int) < (s.size : Int) := h; omega)⟩)
  have hlt : j < s.size := by have : (j : Int) < (s.size : Int) := h; omega
  refine d_l _ (e_sidx hlt) fun _ => d_call ok_ref01_Letters (d_call (ok_in_let s[j]) (d_l _ rfl fun _ => ?_))
  have next : alnB (s[j]).toNat = true → ∃ m', m' < m ∧ ∃ j' : Nat, j' + m' = s.size ∧ 1 ≤ j' ∧ (∀ (k : Nat) (h : k < s.size), 1 ≤ k → k < j' → alnB (s[k]).toNat = true) ∧ [i ((j + 1 : Nat) : Int)] = [i (j' : Int)] := fun ha =>
    ⟨m - 1, by omega, j + 1, by omega, by omega, fun k hk h1 h2 => by
      by_cases e : k = j
      · subst e; exact ha
      · exact hall k hk h1 (by omega), rfl⟩
  refine d_ite (fun hl => ?_) fun hl => d_l _ (e_inc (by omega)) fun _ => d_cont rfl (next (letB_aln (by simpa using hl)))
  have hl : letB (s[j]).toNat = false := by simpa using hl
  refine d_l _ (e_sidx hlt) fun _ => d_call ok_ref01_digits (d_call (ok_in_dig s[j]) (d_l _ rfl fun _ => ?_))
  refine d_ite (fun hd => d_ret (isB_f fun ⟨_, _, h1⟩ => ?_)) fun hd => d_l _ (e_inc (by omega)) fun _ => d_cont rfl (next (by simp only [alnB, hl, Bool.false_or]; simpa using hd))
  have := h1 j hlt hj1
  simp [alnB, hl] at this
  simp [this] at hd

theorem okx_ref01_Keyword (s : ByteArray) : Ok P F.ref01_Keyword [.str s] (.bool (pb (s ∈ kwds))) := by
  refine tx_pb k_ref01_Keyword rfl (by simp [t_ref01_Keyword, T.dt]) ?_
  refine d_l _ rfl fun _ => ?_
  refine den_loop (fun m ys => ∃ j : Nat, j + m = 10 ∧ s ∉ kwds.take j ∧ ys = [i j]) 10 ⟨0, by omega, (fun h => by cases h), rfl⟩ ?_
  rintro m _ ⟨j, hj, hn, rfl⟩
  refine d_l _ rfl fun _ => d_l _ rfl fun _ => d_dec (fun h => ?_) fun h => d_ret (isB_f ?_)
  · have hlt : j < 10 := by have : (j : Int) < 10 := h; omega
    have : j = 0 ∨ j = 1 ∨ j = 2 ∨ j = 3 ∨ j = 4 ∨ j = 5 ∨ j = 6 ∨ j = 7 ∨ j = 8 ∨ j = 9 := by omega
    rcases this with rfl | rfl | rfl | rfl | rfl | rfl | rfl | rfl | rfl | rfl <;>
      exact d_l _ rfl fun _ => d_l _ rfl fun _ => d_dec (fun h => d_ret (isB_t (by have h : _ = s := h; simp [kwds, ← h]))) fun h => d_l _ (e_inc (by omega)) fun _ => d_cont rfl ⟨m - 1, by omega, _, by omega, (by have h : ¬ _ = s := h; simp [kwds] at hn ⊢; simp [hn, Ne.symm h]; try exact fun e => h e.symm), rfl⟩
  · have hlt : j = 10 := by have : ¬ (j : Int) < 10 := h; omega
    subst hlt; exact hn

theorem okx_ref01_Name (s : ByteArray) (hs : s.size ≤ 9223372036854775807) : Ok P F.ref01_Name [.str s] (.bool (pb (nameP s))) := by
  refine tx_pb k_ref01_Name rfl (by simp [t_ref01_Name, T.dt]) ?_
  refine d_call (okx_ref01_Word s hs) (d_ite (fun h => d_call (okx_ref01_Keyword s) (d_l _ rfl fun _ => d_ret ⟨_, rfl, ?_⟩)) fun h => d_ret (isB_f fun hp => pb_false.1 h hp.1))
  simp only [Bool.not_eq_true', pb_false]
  exact ⟨fun h2 => ⟨pb_iff.1 h, h2⟩, fun h2 => h2.2⟩

/-! the program's -/

end Go.Proofs.YtopinhoalbgebaaGreatDoor.Tx

/- Maps whose keys are texts; sets of texts. -/
namespace Go.Proofs.YtopinhoalbgebaaGreatDoor.Tx
open Go.Lf Go.Lf.S Go.Lf.Duo
set_option maxRecDepth 100000

def labP (ls : List ByteArray) : Prop := (∀ s ∈ ls, nameP s) ∧ ls.Nodup
theorem labP_snoc {ls : List ByteArray} {j : Nat} (h : j < ls.length) : labP (ls.take (j + 1)) ↔ labP (ls.take j) ∧ nameP ls[j] ∧ ls[j] ∉ ls.take j := by
  unfold labP
  rw [← List.take_append_getElem h]
  simp only [List.mem_append, List.mem_singleton, List.nodup_append, List.nodup_cons, List.not_mem_nil, not_false_eq_true, List.nodup_nil, true_and, and_true]
  constructor
  · rintro ⟨h1, h2, h3⟩
    exact ⟨⟨fun s hs => h1 s (.inl hs), h2⟩, h1 _ (.inr rfl), fun hm => h3 _ hm _ rfl rfl⟩
  · rintro ⟨⟨h1, h2⟩, h3, h4⟩
    exact ⟨fun s hs => hs.elim (h1 s) fun e => e ▸ h3, h2, fun a ha b hb e => h4 (by rw [← hb, ← e]; exact ha)⟩
theorem labP_take {ls : List ByteArray} {j : Nat} (h : labP ls) : labP (ls.take j) := ⟨fun s hs => h.1 s (List.mem_of_mem_take hs), h.2.sublist (List.take_sublist _ _)⟩

theorem okx_ref02_Labels (ls : List ByteArray) (hl : ls.length ≤ 9223372036854775807) (hs : ∀ s ∈ ls, s.size ≤ 9223372036854775807) : Ok P F.ref02_Labels [.sl (ls.map .str)] (.bool (pb (labP ls))) := by
  refine tx_pb k_ref02_Labels rfl (by simp [t_ref02_Labels, T.dt]) ?_
  refine den_loop (fun m ys => ∃ j : Nat, j + m = ls.length ∧ labP (ls.take j) ∧ ys = [i j]) ls.length ⟨0, by omega, ⟨by simp, by simp⟩, rfl⟩ ?_
  rintro m _ ⟨j, hj, hnd, rfl⟩
  refine d_l _ e_len fun _ => d_l _ rfl fun _ => d_dec (fun h => ?_) fun h => d_ret (isB_t ?_)
  rotate_left
  · have h : ¬ (j : Int) < ((ls.map PV.str).length : Int) := h
    rw [List.take_of_length_le (by simp at h; omega)] at hnd
    exact hnd
  have h : (j : Int) < ((ls.map PV.str).length : Int) := h
  have hlt : j < ls.length := by simp at h; omega
  refine d_l _ (e_idx (str_at hlt) rfl) fun _ => d_call (okx_ref01_Name ls[j] (hs _ (List.getElem_mem hlt))) (d_l _ rfl fun _ => d_ite (fun hn => d_ret (isB_f fun hp => ?_)) fun hn => ?_)
  · have := pb_iff.2 ((labP_snoc hlt).1 (labP_take hp)).2.1
    rw [this] at hn; cases hn
  have hnm : nameP ls[j] := pb_iff.1 (by simpa using hn)
  refine d_l _ (e_idx (str_at hlt) rfl) fun _ => d_l _ (e_slcT (all_map okc_str _) (by simp; omega)) fun _ => ?_
  have hc := ok_ref02_in ls[j] (ls.take j) (by simp; omega)
  rw [List.map_take] at hc
  refine d_call hc (d_ite (fun hy => d_ret (isB_f fun hp => ((labP_snoc hlt).1 (labP_take hp)).2.2 (memB_iff.1 hy))) fun hno => d_l _ (e_inc (by omega)) fun _ => d_cont rfl ⟨m - 1, by omega, j + 1, by omega, ?_, rfl⟩)
  exact (labP_snoc hlt).2 ⟨hnd, hnm, fun hm => by rw [memB_iff.2 hm] at hno; cases hno⟩

end Go.Proofs.YtopinhoalbgebaaGreatDoor.Tx

/- Contracts: the shape of a type's node, exactly, of the program and of the reference. -/
namespace Go.Proofs.YtopinhoalbgebaaGreatDoor.Tx
open Go.Lf Go.Lf.S Go.Lf.Duo
set_option maxRecDepth 100000

def prP (n : Int) : Prop := 0 ≤ n ∧ n ≤ 1000000
def noB : ByteArray := ⟨#[]⟩
def shP (k p : Int) (nm : ByteArray) (s : Int) (ls : List ByteArray) (n : Nat) : Prop :=
  (k = 1 ∧ p = 0 ∧ nm = noB ∧ s = 0 ∧ ls.length = 0 ∧ n = 0) ∨ (k = 2 ∧ p = 0 ∧ nm = noB ∧ s = 0 ∧ ls.length = 0 ∧ n = 0) ∨ (k = 3 ∧ p = 0 ∧ nm = noB ∧ s = 0 ∧ ls.length = 0 ∧ n = 0) ∨
  (k = 4 ∧ prP p ∧ nm = noB ∧ s = 0 ∧ ls.length = 0 ∧ n = 2) ∨ (k = 5 ∧ prP p ∧ nm = noB ∧ s = 0 ∧ ls.length = 0 ∧ n = 2) ∨
  (k = 6 ∧ prP p ∧ nm = noB ∧ s = 0 ∧ 0 < ls.length ∧ labP ls ∧ n = ls.length) ∨ (k = 7 ∧ prP p ∧ nm = noB ∧ s = 0 ∧ 0 < ls.length ∧ labP ls ∧ n = ls.length) ∨
  (k = 8 ∧ p = 0 ∧ nameP nm ∧ s = 0 ∧ ls.length = 0 ∧ n = 1) ∨ (k = 9 ∧ p = 0 ∧ nameP nm ∧ prP s ∧ ls.length = 0 ∧ n = 0)
def shapeP (t : Ty) : Prop := shP t.kind t.prio t.name t.shift t.labels t.kids.length

theorem okx_ref02_shape (t : Ty) (hlim : Lim t) : Ok P F.ref02_shape [t.enc] (.bool (pb (shapeP t))) := by
  cases hlim with
  | mk _ hn hl hll hkl hkk =>
  obtain ⟨k, p, nm, s, ls, ks⟩ := t
  have hnb := okx_ref01_Name nm hn
  have hlb := okx_ref02_Labels ls hll hl
  have hp := ok_ref02_prio p
  have hs := ok_ref02_prio s
  refine tx_pb k_ref02_shape rfl (by simp [t_ref02_shape, T.dt]) ?_
  rw [Ty.enc_mk]
  refine d_l _ (by rfl) fun _ => ?_
  repeat' (first
    | refine d_call hp ?_
    | refine d_call hs ?_
    | refine d_call hnb ?_
    | refine d_call hlb ?_
    | refine d_dec (fun _ => ?_) (fun _ => ?_)
    | refine d_ite (fun _ => ?_) (fun _ => ?_)
    | refine d_l _ rfl fun _ => ?_)
  all_goals
    refine d_ret ?_
    try simp only [decide_eq_true_eq, decide_eq_false_iff_not, List.length_map, pb_iff, pb_false] at *
    first
      | (refine isB_f ?_
         simp only [shapeP, shP, Ty.kind, Ty.prio, Ty.shift, Ty.kids, Ty.labels, Ty.name, prP, noB]
         grind)
      | (refine isB_d ?_
         simp only [shapeP, shP, Ty.kind, Ty.prio, Ty.shift, Ty.kids, Ty.labels, Ty.name, prP, noB]
         grind)

end Go.Proofs.YtopinhoalbgebaaGreatDoor.Tx

/- Contracts: fields of types, exactly; where a name is bound. -/
namespace Go.Proofs.YtopinhoalbgebaaGreatDoor.Tx
open Go.Lf Go.Lf.S Go.Lf.Duo
set_option maxRecDepth 100000

theorem labP_nil : labP [] := ⟨by simp, by simp⟩
/-! where a name is bound -/

/-- the last place of a text -/
def lastI (s : ByteArray) : List ByteArray → Option Nat
  | [] => none
  | x :: r => match lastI s r with
    | some j => some (j + 1)
    | none => if x = s then some 0 else none
theorem lastI_none {s : ByteArray} : ∀ {ns : List ByteArray}, lastI s ns = none → ∀ j : Nat, ns[j]? ≠ some s
  | [], _, j => by simp
  | x :: r, h, j => by
    simp only [lastI] at h
    split at h
    · cases h
    · rename_i hr
      split at h
      · cases h
      · rename_i hx
        cases j with
        | zero => simpa using hx
        | succ j => simpa using lastI_none hr j
theorem lastI_some {s : ByteArray} : ∀ {ns : List ByteArray} {q : Nat}, lastI s ns = some q → ns[q]? = some s ∧ ∀ j, q < j → ns[j]? ≠ some s
  | [], q, h => by cases h
  | x :: r, q, h => by
    simp only [lastI] at h
    split at h
    · rename_i q' hr
      cases h
      obtain ⟨h1, h2⟩ := lastI_some hr
      refine ⟨by simpa using h1, fun j hj => ?_⟩
      cases j with
      | zero => omega
      | succ j => simpa using h2 j (by omega)
    · rename_i hr
      split at h
      · rename_i hx
        cases h
        refine ⟨by simp [hx], fun j hj => ?_⟩
        cases j with
        | zero => omega
        | succ j => simpa using lastI_none hr j
      · cases h
theorem lastI_is {s : ByteArray} {ns : List ByteArray} {q : Nat} (h1 : ns[q]? = some s) (h2 : ∀ j, q < j → ns[j]? ≠ some s) : lastI s ns = some q := by
  cases h : lastI s ns with
  | none => exact absurd h1 (lastI_none h q)
  | some q' =>
    obtain ⟨g1, g2⟩ := lastI_some h
    by_cases e : q = q'
    · rw [e]
    · rcases Nat.lt_or_gt_of_ne e with e | e
      · exact absurd g1 (h2 q' e)
      · exact absurd h1 (g2 q e)
theorem lastI_not {s : ByteArray} {ns : List ByteArray} (h : ∀ j : Nat, ns[j]? ≠ some s) : lastI s ns = none := by
  cases h' : lastI s ns with
  | none => rfl
  | some q => exact absurd (lastI_some h').1 (h q)

/-- the error of a node of a type, and those below -/
def sesB (k : Int) : Bool := decide (k ≠ 1 ∧ k ≠ 2)
mutual
noncomputable def nodeE : Ty → List ByteArray → Nat → Bool → Int
  | .mk k p nm s ls ks, ns, g, ses => if pb (¬ shP k p nm s ls ks.length) || (ses && !sesB k) then 3 else
      if k = 9 then (match lastI nm ns with
        | some q => if q < g then 0 else 3
        | none => 4)
      else nodeEs ks (decide (4 ≤ k ∧ k ≤ 5)) (if k = 8 then ns ++ [nm] else ns) (if k = 8 then g else ns.length)
/-- the first error; 'pay': the first one may be a payload -/
noncomputable def nodeEs : List Ty → Bool → List ByteArray → Nat → Int
  | [], _, _, _ => 0
  | t :: r, pay, ns, g => if nodeE t ns g (!pay) ≠ 0 then nodeE t ns g (!pay) else nodeEs r false ns g
end
theorem nodeEs_nil {pay : Bool} {ns : List ByteArray} {g : Nat} : nodeEs [] pay ns g = 0 := by simp [nodeEs]
theorem nodeEs_cons {t : Ty} {r : List Ty} {pay : Bool} {ns : List ByteArray} {g : Nat} : nodeEs (t :: r) pay ns g = if nodeE t ns g (!pay) ≠ 0 then nodeE t ns g (!pay) else nodeEs r false ns g := by simp only [nodeEs]
/-- the kids from j on -/
theorem nodeEs_drop {ks : List Ty} {j : Nat} (h : j < ks.length) {pay : Bool} {ns : List ByteArray} {g : Nat} :
    nodeEs (ks.drop j) pay ns g = if nodeE ks[j] ns g (!pay) ≠ 0 then nodeE ks[j] ns g (!pay) else nodeEs (ks.drop (j + 1)) false ns g := by
  rw [List.drop_eq_getElem_cons h, nodeEs_cons]
end Go.Proofs.YtopinhoalbgebaaGreatDoor.Tx

/- Contracts: the nodes of a type one by one, few, sizes; lists backward. -/
namespace Go.Proofs.YtopinhoalbgebaaGreatDoor.Tx
open Go.Lf Go.Lf.S Go.Lf.Duo
set_option maxRecDepth 100000

section
variable {K : PV → Prop} {hs : List (List PV → Prop)}
end

def e1 (t : Ty) : List PV := [t.enc]
/-! a list backward -/

end Go.Proofs.YtopinhoalbgebaaGreatDoor.Tx

/- Contracts: the error of a type, exactly, of the program and of the reference. -/
namespace Go.Proofs.YtopinhoalbgebaaGreatDoor.Tx
open Go.Lf Go.Lf.S Go.Lf.Duo
set_option maxRecDepth 100000

theorem nodeE_if {k p : Int} {nm : ByteArray} {s : Int} {ls : List ByteArray} {ks : List Ty} {ses : Bool} {A B : Int} (h : shapeP (.mk k p nm s ls ks)) (hs : ses = true → sesB k = true) : (if (pb (¬ shP k p nm s ls ks.length) || (ses && !sesB k)) = true then A else B) = B := by
  have h1 : pb (¬ shP k p nm s ls ks.length) = false := pb_false.2 fun e => e h
  rw [h1]
  cases ses with
  | false => rfl
  | true => rw [hs rfl]; rfl
theorem nodeE_3 {k p : Int} {nm : ByteArray} {s : Int} {ls : List ByteArray} {ks : List Ty} {ns : List ByteArray} {g : Nat} {ses : Bool} (h : ¬ shapeP (.mk k p nm s ls ks)) : nodeE (.mk k p nm s ls ks) ns g ses = 3 := by
  have h1 : pb (¬ shP k p nm s ls ks.length) = true := pb_iff.2 h
  simp only [nodeE, h1, Bool.true_or, if_true]
theorem nodeE_3s {k p : Int} {nm : ByteArray} {s : Int} {ls : List ByteArray} {ks : List Ty} {ns : List ByteArray} {g : Nat} {ses : Bool} (hs : ses = true) (h : sesB k = false) : nodeE (.mk k p nm s ls ks) ns g ses = 3 := by
  simp only [nodeE, hs, h]
  simp
theorem nodeE_9 {k p : Int} {nm : ByteArray} {s : Int} {ls : List ByteArray} {ks : List Ty} {ns : List ByteArray} {g : Nat} {ses : Bool} (h : shapeP (.mk k p nm s ls ks)) (hs : ses = true → sesB k = true) (h9 : k = 9) :
    nodeE (.mk k p nm s ls ks) ns g ses = match lastI nm ns with
      | some q => if q < g then 0 else 3
      | none => 4 := by
  simp only [nodeE]
  rw [nodeE_if h hs, if_pos h9] <;> rfl
theorem nodeE_o {k p : Int} {nm : ByteArray} {s : Int} {ls : List ByteArray} {ks : List Ty} {ns : List ByteArray} {g : Nat} {ses : Bool} (h : shapeP (.mk k p nm s ls ks)) (hs : ses = true → sesB k = true) (h9 : ¬ k = 9) :
    nodeE (.mk k p nm s ls ks) ns g ses = nodeEs ks (decide (4 ≤ k ∧ k ≤ 5)) (if k = 8 then ns ++ [nm] else ns) (if k = 8 then g else ns.length) := by
  rw [nodeE, nodeE_if h hs, if_neg h9]

end Go.Proofs.YtopinhoalbgebaaGreatDoor.Tx

/- Contracts: depth, sameness of types; lists compared and searched by a function. -/
namespace Go.Proofs.YtopinhoalbgebaaGreatDoor.Tx
open Go.Lf Go.Lf.S Go.Lf.Duo
set_option maxRecDepth 100000

/-! a list searched by a function -/

/-! lists compared by a function -/

theorem len_eq {α : Type} {f : α → PV} (l : List α) : Prim.len.ev [.sl (l.map f)] = some (i (l.length : Int)) := by
  rw [← List.length_map (f := f)]; exact e_len
theorem mp_at {α : Type} {f : α → PV} {l : List α} {j : Nat} (h : j < l.length) : (l.map f)[j]? = some (f l[j]) := by simp [h]
/-! types -/

end Go.Proofs.YtopinhoalbgebaaGreatDoor.Tx

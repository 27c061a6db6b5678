/- The law: monitors of a type and of its dual. -/
import Derived.Test.YtchedinkkliogaaDoorWk106
set_option linter.all false
namespace Go.Proofs.YtchedinkkliogaaDoor.Tx
open Go.Lf Go.Lf.S Go.Lf.Duo
set_option maxRecDepth 100000

/-- what kind of a payload a monitor tells apart -/
def pc (k : Int) : Int := if k = 1 then 1 else if k = 2 then 2 else 0
theorem fit_pc {v a b : Int} (h : pc a = pc b) : fitK v a = fitK v b := by
  unfold pc at h; unfold fitK
  by_cases a1 : a = 1 <;> by_cases a2 : a = 2 <;> by_cases b1 : b = 1 <;> by_cases b2 : b = 2 <;> simp_all
theorem dk'_dk' (a : Int) : dk' (dk' a) = a := by
  unfold dk'; repeat' split
  all_goals omega
theorem dk'_inj {a b : Int} (h : dk' a = dk' b) : a = b := by rw [← dk'_dk' a, h, dk'_dk']
theorem dk'_o {a : Int} (h : ¬ (4 ≤ a ∧ a ≤ 7)) : dk' a = a := by
  unfold dk'; repeat' split
  all_goals omega
theorem dk'_ne {a b : Int} (hb : ¬ (4 ≤ b ∧ b ≤ 7)) : dk' a = b ↔ a = b := by
  constructor
  · intro h; exact dk'_inj (h.trans (dk'_o hb).symm)
  · rintro rfl; exact dk'_o hb

/-- a type and another one with the kinds exchanged, but for priorities and payloads -/
inductive SR : Ty → Ty → Prop
  | mk (t d : Ty) (hk : d.kind = dk' t.kind) (hn : d.name = t.name) (hl : d.labels = t.labels) (hlen : d.kids.length = t.kids.length)
    (pay : (t.kind = 4 ∨ t.kind = 5) → ∀ p q, t.kids[0]? = some p → d.kids[0]? = some q → pc q.kind = pc p.kind)
    (rest : ∀ (j : Nat) (p q : Ty), ¬ (j = 0 ∧ (t.kind = 4 ∨ t.kind = 5)) → t.kids[j]? = some p → d.kids[j]? = some q → SR p q) : SR t d

theorem raise_name (k : Int) (t : Ty) : (raiseT k t).name = t.name := by obtain ⟨a, b, c, d, e, f⟩ := t; rw [raiseT_mk]; rfl
theorem SR.raise {t d : Ty} (h : SR t d) (a b : Int) : SR (raiseT a t) (raiseT b d) := by
  induction h with
  | mk t d hk hn hl hlen pay rest ih =>
  refine .mk _ _ (by rw [raise_kind, raise_kind, hk]) (by rw [raise_name, raise_name, hn]) (by rw [raise_labels, raise_labels, hl]) (by rw [raise_kids, raise_kids, List.length_map, List.length_map, hlen]) ?_ ?_
  · intro hkd p q hp hq
    rw [raise_kind] at hkd
    rw [raise_kids, List.getElem?_map, Option.map_eq_some_iff] at hp hq
    obtain ⟨p0, hp, rfl⟩ := hp
    obtain ⟨q0, hq, rfl⟩ := hq
    rw [raise_kind, raise_kind]; exact pay hkd _ _ hp hq
  · intro j p q hj hp hq
    rw [raise_kind] at hj
    rw [raise_kids, List.getElem?_map, Option.map_eq_some_iff] at hp hq
    obtain ⟨p0, hp, rfl⟩ := hp
    obtain ⟨q0, hq, rfl⟩ := hq
    exact ih j p0 q0 hj hp hq

theorem put_o {x : ByteArray} {b t : Ty} (h9 : ¬ (t.kind = 9 ∧ t.name = x)) (h8 : ¬ (t.kind = 8 ∧ t.name = x)) : (putT x b t).kind = t.kind ∧ (putT x b t).name = t.name ∧ (putT x b t).labels = t.labels ∧ (putT x b t).kids = t.kids.map (putT x b) := by
  obtain ⟨kd, p, nm, s, ls, ks⟩ := t
  have h9 : ¬ (kd = 9 ∧ nm = x) := h9
  have h8 : ¬ (kd = 8 ∧ nm = x) := h8
  unfold putT
  rw [if_neg h9, if_neg h8, putTs_eq]
  exact ⟨rfl, rfl, rfl, rfl⟩
theorem put_9 {x : ByteArray} {b t : Ty} (h9 : t.kind = 9 ∧ t.name = x) : putT x b t = raiseT t.shift b := by
  obtain ⟨kd, p, nm, s, ls, ks⟩ := t
  have h9 : kd = 9 ∧ nm = x := h9
  unfold putT
  rw [if_pos h9]; rfl
theorem put_8 {x : ByteArray} {b t : Ty} (h8 : t.kind = 8 ∧ t.name = x) : putT x b t = raiseT 0 t := by
  obtain ⟨kd, p, nm, s, ls, ks⟩ := t
  have h8 : kd = 8 ∧ nm = x := h8
  unfold putT
  rw [if_neg (fun h => by omega), if_pos h8]
theorem pc_put {x : ByteArray} {b : Ty} (hb : b.kind = 8) (p : Ty) : pc (putT x b p).kind = pc p.kind := by
  by_cases h9 : p.kind = 9 ∧ p.name = x
  · rw [put_9 h9, raise_kind, hb, h9.1]; rfl
  · by_cases h8 : p.kind = 8 ∧ p.name = x
    · rw [put_8 h8, raise_kind]
    · rw [(put_o h9 h8).1]
theorem SR.put {x : ByteArray} {b b' : Ty} (hb : SR b b') (hb8 : b.kind = 8) (hb8' : b'.kind = 8) {t d : Ty} (h : SR t d) : SR (putT x b t) (putT x b' d) := by
  induction h with
  | mk t d hk hn hl hlen pay rest ih =>
  have k9 : (d.kind = 9 ∧ d.name = x) ↔ (t.kind = 9 ∧ t.name = x) := by rw [hk, hn, dk'_ne (by omega)]
  have k8 : (d.kind = 8 ∧ d.name = x) ↔ (t.kind = 8 ∧ t.name = x) := by rw [hk, hn, dk'_ne (by omega)]
  by_cases h9 : t.kind = 9 ∧ t.name = x
  · rw [put_9 h9, put_9 (k9.2 h9)]
    exact hb.raise _ _
  · by_cases h8 : t.kind = 8 ∧ t.name = x
    · rw [put_8 h8, put_8 (k8.2 h8)]
      exact (SR.mk t d hk hn hl hlen pay rest).raise 0 0
    · obtain ⟨a1, a2, a3, a4⟩ := put_o (b := b) h9 h8
      obtain ⟨b1, b2, b3, b4⟩ := put_o (b := b') (fun h => h9 (k9.1 h)) (fun h => h8 (k8.1 h))
      refine .mk _ _ (by rw [a1, b1, hk]) (by rw [a2, b2, hn]) (by rw [a3, b3, hl]) (by rw [a4, b4, List.length_map, List.length_map, hlen]) ?_ ?_
      · intro hkd p q hp hq
        rw [a1] at hkd
        rw [a4, List.getElem?_map, Option.map_eq_some_iff] at hp
        rw [b4, List.getElem?_map, Option.map_eq_some_iff] at hq
        obtain ⟨p0, hp, rfl⟩ := hp
        obtain ⟨q0, hq, rfl⟩ := hq
        rw [pc_put hb8, pc_put hb8']; exact pay hkd _ _ hp hq
      · intro j p q hj hp hq
        rw [a1] at hj
        rw [a4, List.getElem?_map, Option.map_eq_some_iff] at hp
        rw [b4, List.getElem?_map, Option.map_eq_some_iff] at hq
        obtain ⟨p0, hp, rfl⟩ := hp
        obtain ⟨q0, hq, rfl⟩ := hq
        exact ih j p0 q0 hj hp hq
theorem SR.unf {t u : Ty} (hU : Unf t u) : ∀ {d : Ty}, SR t d → ∃ w, Unf d w ∧ SR u w := by
  induction hU with
  | done t h =>
    intro d hs
    refine ⟨raiseT 0 d, .done d ?_, hs.raise 0 0⟩
    cases hs with
    | mk _ _ hk _ _ _ _ _ => rw [hk]; exact fun hc => h ((dk'_ne (by omega)).1 hc)
  | step t k u r h hk hu ih =>
    intro d hs
    have hs' := hs
    cases hs with
    | mk _ _ hkd hn hl hlen pay rest =>
    have hd8 : d.kind = 8 := by rw [hkd, h]; rfl
    obtain ⟨k', r', hk'⟩ : ∃ k' r', d.kids = k' :: r' := by
      match hdk : d.kids, hlen with
      | [], hlen => rw [hk] at hlen; simp at hlen
      | a :: b, _ => exact ⟨a, b, rfl⟩
    have hkk : SR k k' := rest 0 k k' (by omega) (by rw [hk]; rfl) (by rw [hk']; rfl)
    have hp := SR.put (x := t.name) hs' h hd8 hkk
    obtain ⟨w, hw, hsw⟩ := ih hp
    exact ⟨w, .step d k' w r' hd8 hk' (by rw [hn]; exact hw), hsw⟩

theorem cl_kind (l : List Bn) (hl : ∀ b ∈ l, b.2.kind = 8) (t : Ty) : pc (clT l t).kind = pc t.kind ∧ (t.kind = 8 → (clT l t).kind = 8) := by
  obtain ⟨kd, p, nm, s, ls, ks⟩ := t
  unfold clT
  by_cases h9 : kd = 9
  · rw [if_pos h9]
    cases hq : lookB l nm with
    | none => exact ⟨rfl, fun h => h⟩
    | some T =>
      obtain ⟨b, hbm, rfl⟩ := lookB_mem hq
      refine ⟨?_, fun h => ?_⟩
      · show pc (raiseT s b.2).kind = pc kd
        rw [raise_kind, hl b hbm, h9]; rfl
      · show (raiseT s b.2).kind = 8
        rw [raise_kind, hl b hbm]
  · rw [if_neg h9]; exact ⟨rfl, fun h => h⟩
theorem sr_du : ∀ (t : Ty) (l : List Bn), (∀ b ∈ l, b.2.kind = 8) → SR t (duT l t) := by
  intro t
  induction t using Ty.ind with
  | _ t ih =>
  intro l hl
  have hl2 : ∀ b ∈ duL l t, b.2.kind = 8 := fun b hbm => by
    unfold duL at hbm
    split at hbm
    · rename_i h8
      rcases List.mem_append.1 hbm with hbm | hbm
      · exact hl b hbm
      · simp at hbm; subst hbm; exact (cl_kind l hl t).2 h8
    · exact hl b hbm
  obtain ⟨kd, p, nm, s, ls, ks⟩ := t
  rw [duT_mk]
  refine .mk _ _ rfl rfl rfl (by show (ks.mapIdx _).length = ks.length; rw [List.length_mapIdx]) ?_ ?_
  · intro hk p q hp hq
    have hp : ks[0]? = some p := hp
    have hk : kd = 4 ∨ kd = 5 := hk
    have hq : (ks.mapIdx (duK (decide (kd = 4) || decide (kd = 5)) (duL l (.mk kd _ nm s ls ks))))[0]? = some q := hq
    rw [List.getElem?_mapIdx, hp] at hq
    simp only [Option.map_some, Option.some.injEq] at hq
    subst hq
    have : (decide (kd = 4) || decide (kd = 5)) = true := by simpa using hk
    rw [this]
    simp only [duK, Bool.true_and, decide_true, if_true]
    exact (cl_kind _ hl2 p).1
  · intro j p' q hj hp hq
    have hp : ks[j]? = some p' := hp
    have hj : ¬ (j = 0 ∧ (kd = 4 ∨ kd = 5)) := hj
    have hq : (ks.mapIdx (duK (decide (kd = 4) || decide (kd = 5)) (duL l (.mk kd p nm s ls ks))))[j]? = some q := hq
    rw [List.getElem?_mapIdx, hp] at hq
    simp only [Option.map_some, Option.some.injEq] at hq
    subst hq
    have hd : duK (decide (kd = 4) || decide (kd = 5)) (duL l (.mk kd p nm s ls ks)) j p' = duT (duL l (.mk kd p nm s ls ks)) p' := by
      unfold duK
      rw [if_neg]
      simp only [Bool.and_eq_true, Bool.or_eq_true, decide_eq_true_eq]
      exact fun h => hj ⟨h.2, h.1⟩
    rw [hd]
    exact ih p' (List.mem_of_getElem? hp) _ hl2

/-! ### an event and the same from the other end -/

def Ev.flip (e : Ev) : Ev := { e with plus := !e.plus }
theorem want_flip (e : Ev) : wantK e.flip = dk' (wantK e) := by
  obtain ⟨ch, p, l, v⟩ := e
  unfold wantK Ev.flip
  by_cases h : l = ⟨#[]⟩ <;> cases p <;> simp [h] <;> rfl

theorem Obs.out {e : Ev} {us us' : List Ty} {r : Int} (h : Obs e us r us') (hr : ¬ (0 ≤ e.ch ∧ e.ch < (us.length : Int))) : r = 12 ∧ us' = us := by
  have bad : ∀ t : Ty, 0 ≤ e.ch → us[e.ch.toNat]? = some t → r = 12 ∧ us' = us := fun t h0 ht => by
    have := (List.getElem?_eq_some_iff.1 ht).1
    omega
  cases h with
  | arg h => exact ⟨rfl, rfl⟩
  | kind h0 t ht h => exact bad t h0 ht
  | nolabel h0 t ht h hl hm => exact bad t h0 ht
  | label h0 t ht h hl j hj hf k w hk hw => exact bad t h0 ht
  | nofit h0 t ht h hl p hp hn => exact bad t h0 ht
  | fit h0 t ht h hl p hp hn k w hk hw => exact bad t h0 ht

/-- the cases, by the type of the channel -/
theorem Obs.at {e : Ev} {us us' : List Ty} {r : Int} (h : Obs e us r us') {t : Ty} (h0 : 0 ≤ e.ch) (ht : us[e.ch.toNat]? = some t) :
    (t.kind ≠ wantK e ∧ r = 8 ∧ us' = us) ∨ (t.kind = wantK e ∧ e.label ≠ ⟨#[]⟩ ∧ e.label ∉ t.labels ∧ r = 9 ∧ us' = us) ∨
    (t.kind = wantK e ∧ e.label ≠ ⟨#[]⟩ ∧ ∃ (j : Nat) (k w : Ty), t.labels[j]? = some e.label ∧ (∀ q : Nat, q < j → t.labels[q]? ≠ some e.label) ∧ t.kids[j]? = some k ∧ Unf k w ∧ r = 0 ∧ us' = us.set e.ch.toNat w) ∨
    (t.kind = wantK e ∧ e.label = ⟨#[]⟩ ∧ ∃ p, t.kids[0]? = some p ∧ fitK e.v.kind p.kind = false ∧ r = 8 ∧ us' = us) ∨
    (t.kind = wantK e ∧ e.label = ⟨#[]⟩ ∧ ∃ p k w, t.kids[0]? = some p ∧ fitK e.v.kind p.kind = true ∧ t.kids[1]? = some k ∧ Unf k w ∧ r = 0 ∧ us' = us.set e.ch.toNat w) := by
  cases h with
  | arg h => have := (List.getElem?_eq_some_iff.1 ht).1; omega
  | kind h0 t' ht' h => rw [ht] at ht'; cases ht'; exact .inl ⟨h, rfl, rfl⟩
  | nolabel h0 t' ht' h hl hm => rw [ht] at ht'; cases ht'; exact .inr (.inl ⟨h, hl, hm, rfl, rfl⟩)
  | label h0 t' ht' h hl j hj hf k w hk hw => rw [ht] at ht'; cases ht'; exact .inr (.inr (.inl ⟨h, hl, j, k, w, hj, hf, hk, hw, rfl, rfl⟩))
  | nofit h0 t' ht' h hl p hp hn => rw [ht] at ht'; cases ht'; exact .inr (.inr (.inr (.inl ⟨h, hl, p, hp, hn, rfl, rfl⟩)))
  | fit h0 t' ht' h hl p hp hn k w hk hw => rw [ht] at ht'; cases ht'; exact .inr (.inr (.inr (.inr ⟨h, hl, p, k, w, hp, hn, hk, hw, rfl, rfl⟩)))

def L2 (us vs : List Ty) : Prop := us.length = vs.length ∧ ∀ (j : Nat) (u v : Ty), us[j]? = some u → vs[j]? = some v → SR u v
theorem L2.set {us vs : List Ty} (h : L2 us vs) (k : Nat) {u v : Ty} (hs : SR u v) : L2 (us.set k u) (vs.set k v) := by
  refine ⟨by simp [h.1], fun j a b ha hb => ?_⟩
  by_cases hj : k = j
  · subst hj
    have h1 := (List.getElem?_eq_some_iff.1 ha).1
    have h2 := (List.getElem?_eq_some_iff.1 hb).1
    rw [List.length_set] at h1 h2
    rw [List.getElem?_set_self h1] at ha
    rw [List.getElem?_set_self h2] at hb
    cases ha; cases hb
    exact hs
  · rw [List.getElem?_set_ne hj] at ha hb
    exact h.2 j a b ha hb

theorem obs_dual {e : Ev} {us vs us' vs' : List Ty} {r r' : Int} (hL : L2 us vs) (h : Obs e us r us') (h' : Obs e.flip vs r' vs') : r = r' ∧ L2 us' vs' := by
  have hch : e.flip.ch = e.ch := rfl
  have hlb : e.flip.label = e.label := rfl
  have hv : e.flip.v = e.v := rfl
  by_cases hr : 0 ≤ e.ch ∧ e.ch < (us.length : Int)
  case neg =>
    obtain ⟨rfl, rfl⟩ := h.out hr
    obtain ⟨rfl, rfl⟩ := h'.out (by rw [hch, ← hL.1]; exact hr)
    exact ⟨rfl, hL⟩
  obtain ⟨h0, hlt⟩ := hr
  have hk1 : e.ch.toNat < us.length := by omega
  have hk2 : e.ch.toNat < vs.length := by rw [← hL.1]; exact hk1
  have ht : us[e.ch.toNat]? = some us[e.ch.toNat] := List.getElem?_eq_getElem hk1
  have hd : vs[e.ch.toNat]? = some vs[e.ch.toNat] := List.getElem?_eq_getElem hk2
  have hs := hL.2 _ _ _ ht hd
  generalize us[e.ch.toNat] = t at *
  generalize vs[e.ch.toNat] = d at *
  cases hs with
  | mk _ _ hk hn hl hlen pay rest =>
  have hkk : d.kind = wantK e.flip ↔ t.kind = wantK e := by
    rw [hk, want_flip]; exact ⟨dk'_inj, fun h => by rw [h]⟩
  have a := h.at h0 ht
  have b := h'.at (by rw [hch]; exact h0) (by rw [hch]; exact hd)
  rw [hch, hlb, hv, hl] at b
  rcases a with ⟨a1, rfl, rfl⟩ | ⟨a1, a2, a3, rfl, rfl⟩ | ⟨a1, a2, j, k, w, a3, a4, a5, a6, rfl, rfl⟩ | ⟨a1, a2, p, a3, a4, rfl, rfl⟩ | ⟨a1, a2, p, k, w, a3, a4, a5, a6, rfl, rfl⟩
  · have nb : d.kind ≠ wantK e.flip := fun h => a1 (hkk.1 h)
    rcases b with ⟨b1, rfl, rfl⟩ | ⟨b1, _⟩ | ⟨b1, _⟩ | ⟨b1, _⟩ | ⟨b1, _⟩
    · exact ⟨rfl, hL⟩
    all_goals exact absurd b1 nb
  · rcases b with ⟨b1, _⟩ | ⟨b1, b2, b3, rfl, rfl⟩ | ⟨b1, b2, j, k, w, b3, _⟩ | ⟨b1, b2, _⟩ | ⟨b1, b2, _⟩
    · exact absurd (hkk.2 a1) b1
    · exact ⟨rfl, hL⟩
    · exact absurd (List.mem_of_getElem? b3) a3
    · exact absurd b2 a2
    · exact absurd b2 a2
  · rcases b with ⟨b1, _⟩ | ⟨b1, b2, b3, _⟩ | ⟨b1, b2, j', k', w', b3, b4, b5, b6, rfl, rfl⟩ | ⟨b1, b2, _⟩ | ⟨b1, b2, _⟩
    · exact absurd (hkk.2 a1) b1
    · exact absurd (List.mem_of_getElem? a3) b3
    · have hjj : j' = j := by
        by_cases h1 : j' < j
        · exact absurd b3 (a4 j' h1)
        · by_cases h2 : j < j'
          · exact absurd a3 (b4 j h2)
          · omega
      subst hjj
      have hkd : t.kind = 6 ∨ t.kind = 7 := by
        rw [a1]; unfold wantK; rw [if_neg a2]; split <;> omega
      obtain ⟨w2, hw2, hsw⟩ := SR.unf a6 (rest j' k k' (by omega) a5 b5)
      obtain rfl := unf_fun hw2 b6
      exact ⟨rfl, hL.set _ hsw⟩
    · exact absurd b2 a2
    · exact absurd b2 a2
  · have hkd : t.kind = 4 ∨ t.kind = 5 := by
      rw [a1]; unfold wantK; rw [if_pos a2]; split <;> omega
    rcases b with ⟨b1, _⟩ | ⟨b1, b2, _⟩ | ⟨b1, b2, _⟩ | ⟨b1, b2, p', b3, b4, rfl, rfl⟩ | ⟨b1, b2, p', k', w', b3, b4, _⟩
    · exact absurd (hkk.2 a1) b1
    · exact absurd a2 b2
    · exact absurd a2 b2
    · exact ⟨rfl, hL⟩
    · have := fit_pc (v := e.v.kind) (pay hkd p p' a3 b3)
      rw [b4, a4] at this; cases this
  · have hkd : t.kind = 4 ∨ t.kind = 5 := by
      rw [a1]; unfold wantK; rw [if_pos a2]; split <;> omega
    rcases b with ⟨b1, _⟩ | ⟨b1, b2, _⟩ | ⟨b1, b2, _⟩ | ⟨b1, b2, p', b3, b4, _⟩ | ⟨b1, b2, p', k', w', b3, b4, b5, b6, rfl, rfl⟩
    · exact absurd (hkk.2 a1) b1
    · exact absurd a2 b2
    · exact absurd a2 b2
    · have := fit_pc (v := e.v.kind) (pay hkd p p' a3 b3)
      rw [b4, a4] at this; cases this
    · obtain ⟨w2, hw2, hsw⟩ := SR.unf a6 (rest 1 k k' (by omega) a5 b5)
      obtain rfl := unf_fun hw2 b6
      exact ⟨rfl, hL.set _ hsw⟩

theorem settled_dual {us vs : List Ty} (h : L2 us vs) : (us.all fun u : Ty => decide (u.kind = 3)) = vs.all fun u : Ty => decide (u.kind = 3) := by
  have key : ∀ (j : Nat) (u v : Ty), us[j]? = some u → vs[j]? = some v → (u.kind = 3 ↔ v.kind = 3) := fun j u v hu hv => by
    have := h.2 j u v hu hv
    cases this with
    | mk _ _ hk _ _ _ _ _ => rw [hk, dk'_ne (by omega)]
  rw [Bool.eq_iff_iff, List.all_eq_true, List.all_eq_true]
  constructor
  · intro ha v hv
    obtain ⟨j, hj, rfl⟩ := List.getElem_of_mem hv
    have hj' : j < us.length := by rw [h.1]; exact hj
    have := ha us[j] (List.getElem_mem hj')
    rw [decide_eq_true_iff] at this ⊢
    exact (key j _ _ (List.getElem?_eq_getElem hj') (List.getElem?_eq_getElem hj)).1 this
  · intro ha v hv
    obtain ⟨j, hj, rfl⟩ := List.getElem_of_mem hv
    have hj' : j < vs.length := by rw [← h.1]; exact hj
    have := ha vs[j] (List.getElem_mem hj')
    rw [decide_eq_true_iff] at this ⊢
    exact (key j _ _ (List.getElem?_eq_getElem hj) (List.getElem?_eq_getElem hj')).2 this

theorem ev_at {es : List Ev} {j : Nat} (h : j < es.length) : (es.map Ev.enc)[j]? = some es[j].enc := by simp [h]

theorem ok_law21_MonitorDuals (aw : Ok P F.law21_awake [] (.bool true)) (t : Ty) (es : List Ev) (ht : Lim t) : Ok P F.law21_MonitorDuals [t.enc, .sl (es.map Ev.enc)] (.bool true) := by
  obtain ⟨b, hb, hw⟩ := ok_ref21_Right [t] (by simpa using ht) (by simp)
  have l1 : ∀ t : Ty, (Prim.lst 6 true).ev [t.enc] = some (.sl ([t].map Ty.enc)) := fun t => e_lst fun x hx => by simp at hx; subst hx; exact Ty.okc_enc _
  refine k_law21_MonitorDuals _ _ rfl (d_l _ (e_okc (Ty.okc_enc t)) fun _ => d_call aw (d_l (.bool false) rfl fun _ => d_false (d_l _ (l1 t) fun _ => d_call hb (d_l (.bool !b) rfl fun _ => d_ite (fun _ => d_call aw (d_ret rfl)) fun h1 => ?_))))
  obtain ⟨_, hwf⟩ := hw (by simpa using h1)
  obtain ⟨hz, hwf⟩ := hwf t (by simp)
  refine d_l (i ((es.map Ev.enc).length : Int)) e_len fun _ => d_l (.bool (decide (((es.map Ev.enc).length : Int) > 30))) rfl fun _ => d_dec (p := ((es.map Ev.enc).length : Int) > 30) (fun _ => d_call aw (d_ret rfl)) fun h30 => ?_
  have h30 : es.length ≤ 30 := by simp at h30; omega
  have hmd := md_top hwf ht (by omega)
  have hD := ok_Dual14 t hmd.1 (by omega)
  have hLD : Lim (duT [] t) := Lim.du ht (fun b hb => by cases hb)
  obtain ⟨b2, hb2, hw2⟩ := ok_ref21_Right [duT [] t] (by simpa using hLD) (by simp)
  refine d_call hD (d_l _ (l1 _) fun _ => d_call hb2 (d_l (.bool !b2) rfl fun _ => d_ite (fun _ => d_call aw (d_ret rfl)) fun h2 => ?_))
  obtain ⟨_, hwf2⟩ := hw2 (by simpa using h2)
  obtain ⟨hz2, hwf2⟩ := hwf2 (duT [] t) (by simp)
  have hmd2 := md_top hwf2 hLD (by omega)
  have hm1 : ∀ x ∈ [t], Md x := by simpa using hmd
  have hm2 : ∀ x ∈ [duT [] t], Md x := by simpa using hmd2
  obtain ⟨us, hU, hMu⟩ := unfL_ex [t] hm1
  obtain ⟨vs, hV, hMv⟩ := unfL_ex [duT [] t] hm2
  have hL0 : L2 us vs := by
    refine ⟨by rw [hU.1, hV.1]; rfl, fun j u v hu hv => ?_⟩
    have hj : j < us.length := (List.getElem?_eq_some_iff.1 hu).1
    have hul : us.length = 1 := hU.1
    obtain rfl : j = 0 := by omega
    obtain ⟨w, hw, hs⟩ := SR.unf (hU.2 0 t u rfl hu) (sr_du t [] fun b hb => by cases hb)
    obtain rfl := unf_fun hw (hV.2 0 _ v rfl hv)
    exact hs
  have hul : us.length = 1 := hU.1
  refine d_l _ (l1 t) fun _ => d_calls rfl (okS_New [t] us hU hm1 (by simp)) (d_call hD (d_l _ (l1 _) fun _ => d_calls rfl (okS_New [duT [] t] vs hV hm2 (by simp)) (d_l _ (l1 t) fun _ => ?_)))
  refine den_loop (fun m ys => ∃ (j : Nat) (ws us vs : List Ty), j + m = es.length ∧ ws.length = 1 ∧ us.length = 1 ∧ (∀ x ∈ ws, Md x) ∧ (∀ x ∈ us, Mu x) ∧ (∀ x ∈ vs, Mu x) ∧ L2 us vs ∧ ys = [i j, .sl (ws.map Ty.enc), .sl (us.map Ty.enc), .sl (vs.map Ty.enc)]) es.length ⟨0, [t], us, vs, by omega, rfl, hul, hm1, hMu, hMv, hL0, rfl⟩ ?_
  clear hL0 hMv hMu hV hU hm1 hm2 hul us vs
  rintro m _ ⟨j, ws, us, vs, hj, hw1, hu1, hwm, hum, hvm, hL, rfl⟩
  have hvl : vs.length = 1 := by rw [← hL.1]; exact hu1
  refine d_l (i ((es.map Ev.enc).length : Int)) e_len fun _ => d_l (.bool (decide ((j : Int) < ((es.map Ev.enc).length : Int)))) rfl fun _ => d_dec (p := (j : Int) < ((es.map Ev.enc).length : Int)) (fun h => ?_) fun h => ?_
  · have hjl : j < es.length := by simp at h; omega
    obtain ⟨bb, hbb⟩ := ok_Blown ws hwm (by omega)
    refine d_call hbb (d_ite (fun _ => d_ret rfl) fun _ => ?_)
    obtain ⟨ws', q, hq, hwl, hwm'⟩ := ok_ref21_Observe ws es[j] hwm (by omega)
    obtain ⟨r, us', hO, hok, hum'⟩ := okS_Observe es[j] us hum (by omega)
    obtain ⟨r', vs', hO', hok', hvm'⟩ := okS_Observe es[j].flip vs hvm (by omega)
    obtain ⟨rfl, hL'⟩ := obs_dual hL hO hO'
    have hu2 := hO.apart.1
    have hix := e_idx (n := 6) (a := true) (ev_at hjl) (Ev.okc _)
    refine d_l _ hix fun _ => d_call hq (d_l (.sl (ws'.map Ty.enc)) rfl fun _ => d_l (i q) rfl fun _ => d_l _ hix fun _ => d_l es[j].enc rfl fun _ => d_l es[j].enc rfl fun _ => d_l (.bool (!es[j].plus)) rfl fun _ => d_l (.bool (!es[j].plus)) rfl fun _ => d_calls rfl hok (d_calls rfl hok' ?_))
    exact d_l _ (bneq_refl r) fun _ => d_false (d_l _ (e_inc (by omega)) fun _ => d_cont rfl ⟨m - 1, by omega, j + 1, ws', us', vs', by omega, by omega, by omega, hwm', hum', hvm', hL', rfl⟩)
  · have hs1 := ok_Settled us (by omega)
    have hs2 := ok_Settled vs (by omega)
    rw [← settled_dual hL] at hs2
    refine d_call hs1 (d_l (.bool (us.all fun u => decide (u.kind = 3))) rfl fun _ => d_call hs2 (d_l (.bool (us.all fun u => decide (u.kind = 3))) rfl fun _ => d_l (.bool true) ?_ fun _ => d_ret rfl))
    cases (us.all fun u => decide (u.kind = 3)) <;> rfl
end Go.Proofs.YtchedinkkliogaaDoor.Tx

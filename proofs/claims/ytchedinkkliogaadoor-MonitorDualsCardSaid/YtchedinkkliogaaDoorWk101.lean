/- Contracts: a monitor's functions. -/
import Derived.Test.YtchedinkkliogaaDoorWk100
import Derived.Test.YtchedinkkliogaaDoorLfD
set_option linter.all false
namespace Go.Proofs.YtchedinkkliogaaDoor.Tx
open Go.Lf Go.Lf.S Go.Lf.Duo
set_option maxRecDepth 100000

/-! ### types as they come up under unfolding -/

def NdS (d : Nd) : Prop := (4 ≤ d.kind ∧ d.kind ≤ 5 → d.next.length = 2 ∧ d.labels.length = 0) ∧ (6 ≤ d.kind ∧ d.kind ≤ 7 → d.next.length = d.labels.length)
theorem nodes_s : ∀ (t : Ty) (ns : List ByteArray) (g : Nat), Wf t ns g → ∀ (a : Int) (ns' : List ByteArray) (refs : List Rf), ∀ d ∈ nodesF t a ns' refs, NdS d := by
  intro t
  induction t using Ty.ind with
  | _ t ih =>
  intro ns g h a ns' refs
  cases h with
  | mk _ _ _ h1 h9 h8 hk =>
  obtain ⟨k, p, nm, s, ls, ks⟩ := t
  have key : ∀ (l : List Ty) (a : Int) (ns' : List ByteArray) (refs : List Rf), (∀ x ∈ l, x ∈ ks) → ∀ d ∈ belowsF l a ns' refs, NdS d := by
    intro l
    induction l with
    | nil => intro a ns' refs _ d hd; simp [belowsF] at hd
    | cons x l ihl =>
      intro a ns' refs hl d hd
      simp only [belowsF, List.mem_append] at hd
      rcases hd with hd | hd
      · have hx := hl x List.mem_cons_self
        by_cases e : k = 8
        · exact ih x hx _ _ (h8 e x hx) _ _ _ d hd
        · exact ih x hx _ _ (hk e x hx) _ _ _ d hd
      · exact ihl _ _ _ (fun y hy => hl y (List.mem_cons_of_mem _ hy)) d hd
  intro d hd
  unfold nodesF at hd
  split at hd
  · exact key ks _ _ _ (fun _ h => h) d hd
  · split at hd
    · cases hd
    · rcases List.mem_cons.1 hd with rfl | hd
      · unfold Wf1 at h1
        have e5 := h1.1.2.2.2.1
        have e7 := h1.1.2.2.2.2.1
        refine ⟨fun e => ⟨?_, (e5 e).2⟩, fun e => ?_⟩
        · show (nextsF ks (a + 1) ns' refs).length = 2
          rw [nextsF_len]; exact (e5 e).1
        · show (nextsF ks (a + 1) ns' refs).length = ls.length
          rw [nextsF_len]; exact (e7 e).1
      · exact key ks _ _ _ (fun _ h => h) d hd

/-- a closed type that comes of a right one -/
def Md (u : Ty) : Prop := Ln u ∧ Pk u ∧ Lim u ∧ ∃ ds r, (∀ d ∈ ds, NdS d) ∧ RT ds r u
theorem md_top {t : Ty} (h : Wf t [] 0) (hl : Lim t) (hz : t.sz ≤ 549755813888) : Md t :=
  ⟨Wf.ln t [] 0 h hz, Wf.pk h, hl, nodesF t 0 [] [], refF t 0 [] [], nodes_s t [] 0 h 0 [] [], (rt_top (ds := nodesF t 0 [] []) (a := 0) h ⟨Int.le_refl _, fun i hi => by
    rw [show (0 : Int).toNat + i = i by simp]; exact List.getElem?_eq_getElem hi⟩).1⟩

theorem lim_raise' {k : Int} : ∀ {t : Ty}, Lim t → Lim (raiseT k t) := by
  intro t
  induction t using Ty.ind with
  | _ t ih =>
  intro h
  cases h with
  | mk _ hn hl hll hk h =>
  obtain ⟨kd, p, nm, s, ls, ks⟩ := t
  rw [raiseT_mk]
  refine .mk _ hn hl hll (by simpa [Ty.kids] using hk) fun x hx => ?_
  obtain ⟨y, hy, rfl⟩ := List.mem_map.1 hx
  exact ih y hy (h y hy)
theorem lim_put {x : ByteArray} {b : Ty} (hb : Lim b) : ∀ {t : Ty}, Lim t → Lim (putT x b t) := by
  intro t
  induction t using Ty.ind with
  | _ t ih =>
  intro h
  have h' := h
  cases h with
  | mk _ hn hl hll hk h =>
  obtain ⟨kd, p, nm, s, ls, ks⟩ := t
  unfold putT
  split
  · exact lim_raise' hb
  · split
    · exact lim_raise' h'
    · rw [putTs_eq]
      refine .mk _ hn hl hll (by simpa [Ty.kids] using hk) fun y hy => ?_
      obtain ⟨z, hz, rfl⟩ := List.mem_map.1 hy
      exact ih z hz (h z hz)
theorem lim_unf {t u : Ty} (h : Unf t u) : Lim t → Lim u := by
  induction h with
  | done t h => exact lim_raise'
  | step t k u r h hk hu ih =>
    intro hl
    have hk' : Lim k := by
      cases hl with
      | mk _ _ _ _ _ h => exact h k (by rw [hk]; exact List.mem_cons_self)
    exact ih (lim_put hl hk')

/-- the unfolded type's shape -/
structure Sh (u : Ty) : Prop where
  n5 : 4 ≤ u.kind ∧ u.kind ≤ 5 → u.kids.length = 2
  l5 : 4 ≤ u.kind ∧ u.kind ≤ 5 → u.labels.length = 0
  n7 : 6 ≤ u.kind ∧ u.kind ≤ 7 → u.kids.length = u.labels.length
theorem Md.unf {t : Ty} (h : Md t) : ∃ u, Unf t u ∧ Md u ∧ Unf u u ∧ Sh u := by
  obtain ⟨h1, h2, h4, ds, r, h3, hr⟩ := h
  obtain ⟨h0, u, d, hU, hd, k1, _, k2, k3, _⟩ := hr.step
  have hs := h3 d (List.mem_of_getElem? hd)
  refine ⟨u, hU, ⟨Ln.unf hU h1, Pk.unf hU h2, lim_unf hU h4, ds, r, h3, hr.unf hU⟩, unf_self hU, ?_, ?_, ?_⟩
  · intro e; rw [← k3]; exact (hs.1 (by rw [k1]; exact e)).1
  · intro e; rw [← k2]; exact (hs.1 (by rw [k1]; exact e)).2
  · intro e; rw [← k3, ← k2]; exact hs.2 (by rw [k1]; exact e)
theorem Md.sh {u : Ty} (h : Md u) (hU : Unf u u) : Sh u := by
  obtain ⟨v, hv, _, _, hs⟩ := h.unf
  obtain rfl := unf_fun hU hv
  exact hs
theorem Md.kid {u k : Ty} (h : Md u) (hU : Unf u u) (hk : k ∈ u.kids) : Md k := by
  obtain ⟨h1, h2, h4, ds, r, h3, hr⟩ := h
  obtain ⟨h0, u', d, hU', hd, k1, _, k2, k3, hrest⟩ := hr.step
  obtain rfl := unf_fun hU hU'
  obtain ⟨j, hj, rfl⟩ := List.getElem_of_mem hk
  refine ⟨by cases h1 with | mk _ _ _ h => exact h _ hk, by cases h2 with | mk _ _ _ h => exact h _ hk, by cases h4 with | mk _ _ _ _ _ h => exact h _ hk, ds, _, h3, hrest j (d.next[j]'(by omega)) _ (List.getElem?_eq_getElem _) (List.getElem?_eq_getElem hj)⟩

/-- the types of a monitor -/
def Mu (u : Ty) : Prop := Md u ∧ Unf u u

/-! ### the monitor's functions -/

def mb (us : List Ty) : PV := .box (.agg [.sl (us.map Ty.enc)])
theorem ok_has (us : List Ty) (k : Int) : Ok P F.monitor_Monitor_has [mb us, i k] (.bool (decide (0 ≤ k ∧ k < (us.length : Int)))) := by
  refine k_monitor_Monitor_has _ _ rfl (d_l (.bool true) rfl fun _ => d_true (d_l (.bool (decide (0 ≤ k))) rfl fun _ => d_dec (p := 0 ≤ k) (fun h => ?_) fun h => d_ret (by simp [h])))
  refine d_l (mb us) rfl fun _ => d_l (.agg [.sl (us.map Ty.enc)]) rfl fun _ => d_l (i ((us.map Ty.enc).length : Int)) e_len fun _ => d_l (.bool (decide (k < ((us.map Ty.enc).length : Int)))) rfl fun _ => d_ret ?_
  simp [h]
theorem ok_Len (us : List Ty) : Ok P F.monitor_Monitor_Len [mb us] (i (us.length : Int)) := by
  refine k_monitor_Monitor_Len _ _ rfl (d_l (.bool false) rfl fun _ => d_false (d_l (mb us) rfl fun _ => d_l (.agg [.sl (us.map Ty.enc)]) rfl fun _ => d_l (i ((us.map Ty.enc).length : Int)) e_len fun _ => d_ret ?_))
  simp
theorem okS_State (us : List Ty) (k : Nat) (hk : k < us.length) (hl : ∀ u ∈ us, Ln u) : OkS P F.monitor_Monitor_State sg_monitor_Monitor_State [i k, .sl (us.map Ty.enc)] [.tup [us[k].enc, .bool true], .sl (us.map Ty.enc)] := by
  have hh := ok_has us k
  rw [show decide (0 ≤ (k : Int) ∧ (k : Int) < (us.length : Int)) = true by simp; omega] at hh
  have he : (us.map Ty.enc)[k]? = some us[k].enc := by simp [hk]
  exact m_monitor_Monitor_State _ _ (d_call hh (d_l (.bool true) rfl fun _ => d_l (.bool false) rfl fun _ => d_false (d_l _ (e_idx he (Ty.okc_enc _)) fun _ => d_l _ (e_idx he (Ty.okc_enc _)) fun _ => d_call (ok_tt_Copy us[k] (hl _ (List.getElem_mem hk))) (d_l _ (e_okc (Ty.okc_enc _)) fun _ => d_ret rfl))))
theorem okS_states (us : List Ty) (hus : us.length ≤ 100) (hl : ∀ u ∈ us, Ln u) : OkS P F.law21_states sg_law21_states [.sl (us.map Ty.enc)] [.sl (us.map Ty.enc), .sl (us.map Ty.enc)] := by
  refine m_law21_states _ _ (den_rounds (fun j => [i j, .sl ((us.take j).map Ty.enc), .sl (us.map Ty.enc)]) us.length (by simp) (fun j hj => ?_) ?_)
  · refine d_call (ok_Len us) (d_l (i (us.length : Int)) rfl fun _ => d_l (.bool (decide ((j : Int) < (us.length : Int)))) rfl fun _ => d_dec (p := (j : Int) < (us.length : Int)) (fun _ => ?_) fun h => by omega)
    refine d_l (.bool (decide ((j : Int) < 100))) rfl fun _ => d_dec (p := (j : Int) < 100) (fun _ => ?_) fun h => by omega
    refine d_calls rfl (okS_State us j hj hl) (d_l us[j].enc rfl fun _ => d_l (.bool true) rfl fun _ => d_l _ (e_okc (Ty.okc_enc _)) fun _ => d_l (.sl [us[j].enc]) (e_lst (fun x hx => by simp at hx; subst hx; exact Ty.okc_enc _)) fun _ => d_l (.sl ((us.take j).map Ty.enc ++ [us[j].enc])) (e_app (l := (us.take j).map Ty.enc) (m := [us[j].enc]) (fun x hx => by simp at hx; subst hx; exact Ty.okc_enc _) (by simp; omega) (by simp; omega)) fun _ => d_l _ (e_inc (by omega)) fun _ => d_cont rfl ?_)
    rw [List.take_succ_eq_append_getElem hj, List.map_append]; rfl
  · refine d_call (ok_Len us) (d_l (i (us.length : Int)) rfl fun _ => d_l (.bool (decide ((us.length : Int) < (us.length : Int)))) rfl fun _ => d_dec (p := (us.length : Int) < (us.length : Int)) (fun h => by omega) fun _ => d_ret ?_)
    rw [List.take_length]; rfl

/-- types and what they unfold to -/
def UnfL (ts us : List Ty) : Prop := us.length = ts.length ∧ ∀ (j : Nat) (t u : Ty), ts[j]? = some t → us[j]? = some u → Unf t u
theorem unfL_ex : ∀ (ts : List Ty), (∀ t ∈ ts, Md t) → ∃ us, UnfL ts us ∧ ∀ u ∈ us, Mu u
  | [], _ => ⟨[], ⟨rfl, fun j t u h => by simp at h⟩, fun u h => by cases h⟩
  | t :: ts, h => by
    obtain ⟨us, ⟨h1, h2⟩, h3⟩ := unfL_ex ts fun x hx => h x (List.mem_cons_of_mem _ hx)
    obtain ⟨u, hu, hm, hs, _⟩ := (h t List.mem_cons_self).unf
    refine ⟨u :: us, ⟨by simp [h1], fun j a b ha hb => ?_⟩, fun x hx => ?_⟩
    · cases j with
      | zero => simp at ha hb; subst ha hb; exact hu
      | succ j => exact h2 j a b (by simpa using ha) (by simpa using hb)
    · rcases List.mem_cons.1 hx with rfl | hx
      · exact ⟨hm, hs⟩
      · exact h3 x hx

theorem e_set_last {us : List Ty} {z u : PV} (hz : z.okc 6 true = true) (hu : u.okc 6 true = true) : (Prim.upd 6 true).ev [.sl (us.map Ty.enc ++ [z]), i (us.length : Int), u] = some (.sl (us.map Ty.enc ++ [u])) := by
  have := e_updT (n := 6) (a := true) (l := us.map Ty.enc ++ [z]) (k := us.length) (x := u) (by simp) hu
  rw [this]
  congr 2
  rw [List.set_append_right _ _ (by simp)]
  simp
theorem okS_Add (us0 ts us : List Ty) (hU : UnfL ts us) (hm : ∀ t ∈ ts, Md t) (h0 : us0.length ≤ 1000) (h1 : ts.length ≤ 1000) :
    OkS P F.monitor_Monitor_Add sg_monitor_Monitor_Add [.sl (ts.map Ty.enc), .sl (us0.map Ty.enc)] [.tup [], .sl ((us0 ++ us).map Ty.enc)] := by
  obtain ⟨hl, hU⟩ := hU
  refine m_monitor_Monitor_Add _ _ (d_l (i ((ts.map Ty.enc).length : Int)) e_len fun _ => den_rounds (fun j => [i j, .sl ((us0 ++ us.take j).map Ty.enc)]) ts.length (by simp) (fun j hj => ?_) ?_)
  · refine d_l (.bool (decide ((j : Int) < ((ts.map Ty.enc).length : Int)))) rfl fun _ => d_dec (p := (j : Int) < ((ts.map Ty.enc).length : Int)) (fun _ => ?_) fun h => absurd (show (j : Int) < ((ts.map Ty.enc).length : Int) by simp; omega) h
    have hju : j < us.length := by omega
    have hun := hU j ts[j] us[j] (List.getElem?_eq_getElem hj) (List.getElem?_eq_getElem hju)
    have hmd := hm _ (List.getElem_mem hj)
    have hlen : ((us0 ++ us.take j).map Ty.enc).length = us0.length + j := by simp; omega
    refine d_l _ (e_idx (ty_at' hj) (Ty.okc_enc _)) fun _ => d_l _ (e_okc (Ty.okc_enc _)) fun _ => d_call (ok_tt_Unfold hun hmd.1 hmd.2.1) (d_l (i (((us0 ++ us.take j).map Ty.enc).length : Int)) e_len fun _ => ?_)
    refine d_l (.sl [.agg [i 0, i 0, .str ⟨#[]⟩, i 0, .sl [], .sl []]]) rfl fun _ => d_l (.sl ((us0 ++ us.take j).map Ty.enc ++ [.agg [i 0, i 0, .str ⟨#[]⟩, i 0, .sl [], .sl []]])) (e_app (l := (us0 ++ us.take j).map Ty.enc) (m := [.agg [i 0, i 0, .str ⟨#[]⟩, i 0, .sl [], .sl []]]) (fun x hx => by simp at hx; subst hx; rfl) (by simp; omega) (by simp; omega)) fun _ => ?_
    refine d_l (.agg [i 0, i 0, .str ⟨#[]⟩, i 0, .sl [], .sl []]) (e_idx (k := ((us0 ++ us.take j).map Ty.enc).length) (by rw [List.getElem?_append_right (Nat.le_refl _)]; simp) rfl) fun _ => d_l (.sl ((us0 ++ us.take j).map Ty.enc ++ [us[j].enc])) (by
      have := e_set_last (us := us0 ++ us.take j) (z := .agg [i 0, i 0, .str ⟨#[]⟩, i 0, .sl [], .sl []]) (u := us[j].enc) rfl (Ty.okc_enc _)
      rwa [← List.length_map (f := Ty.enc)] at this) fun _ => d_l _ (e_inc (by omega)) fun _ => d_cont rfl ?_
    rw [List.take_succ_eq_append_getElem hju, ← List.append_assoc, List.map_append (l₂ := [us[j]])]; rfl
  · refine d_l (.bool (decide ((ts.length : Int) < ((ts.map Ty.enc).length : Int)))) rfl fun _ => d_dec (p := (ts.length : Int) < ((ts.map Ty.enc).length : Int)) (fun h => ?_) fun h => d_ret ?_
    · simp at h
    · rw [← hl, List.take_length]; rfl
theorem okS_New (ts us : List Ty) (hU : UnfL ts us) (hm : ∀ t ∈ ts, Md t) (h1 : ts.length ≤ 1000) : OkS P F.monitor_New sg_monitor_New [.sl (ts.map Ty.enc)] [.sl (us.map Ty.enc)] :=
  m_monitor_New _ _ (d_calls rfl (okS_Add [] ts us hU hm (by simp) h1) (d_ret rfl))

/-! ### an event -/

structure Ev where
  ch : Int
  plus : Bool
  label : ByteArray
  v : Vl
def Ev.enc (e : Ev) : PV := .agg [i e.ch, .bool e.plus, .str e.label, i e.v.kind, .str e.v.name, i e.v.n]
theorem Ev.okc (e : Ev) : e.enc.okc 6 true = true := rfl
def wantK (e : Ev) : Int := if e.label = ⟨#[]⟩ then (if e.plus then 4 else 5) else (if e.plus then 6 else 7)
def fitK (vk pk : Int) : Bool := if pk = 1 then decide (vk = 2) else if pk = 2 then decide (vk = 3) else decide (vk = 1)

theorem dk4 : Ok P F.dual_Kind [i 4] (i 5) := by
  refine k_dual_Kind _ _ rfl (d_l (.bool false) rfl fun _ => d_false (d_l (.bool false) rfl fun _ => d_false (d_l (i 5) rfl fun _ => d_ret rfl)))
theorem dk6 : Ok P F.dual_Kind [i 6] (i 7) := by
  refine k_dual_Kind _ _ rfl (d_l (.bool false) rfl fun _ => d_false (d_l (.bool false) rfl fun _ => d_false (d_l (i 7) rfl fun _ => d_ret rfl)))
theorem ok_want (e : Ev) : Ok P F.monitor_want [e.enc] (i (wantK e)) := by
  unfold wantK
  refine k_monitor_want _ _ rfl (d_l e.enc rfl fun _ => d_l (i 4) rfl fun _ => d_l (.bool (!decide (e.label = ⟨#[]⟩))) rfl fun _ => d_ndec (p := e.label = ⟨#[]⟩) (fun h => ?_) fun h => ?_)
  · rw [if_neg h]
    refine d_l (i 6) rfl fun _ => d_l (.bool (!e.plus)) rfl fun _ => d_ite (fun hp => ?_) fun hp => ?_
    · rw [if_neg (by simpa using hp)]; exact d_call dk6 (d_ret rfl)
    · rw [if_pos (by simpa using hp)]; exact d_ret rfl
  · rw [if_pos h]
    refine d_l (.bool (!e.plus)) rfl fun _ => d_ite (fun hp => ?_) fun hp => ?_
    · rw [if_neg (by simpa using hp)]; exact d_call dk4 (d_ret rfl)
    · rw [if_pos (by simpa using hp)]; exact d_ret rfl
theorem ok_values : Ok P F.monitor_values [] (.mp [i 1, i 2] [i 2, i 3]) :=
  k_monitor_values _ _ rfl (d_l (.mp [i 1] [i 2]) rfl fun _ => d_l (.mp [i 1, i 2] [i 2, i 3]) rfl fun _ => d_ret rfl)
theorem ok_fits (v : Vl) (t : Ty) : Ok P F.monitor_fits [v.enc, t.enc] (.bool (fitK v.kind t.kind)) := by
  have e0 : c 0 t.enc = i t.kind := by obtain ⟨a, b, c, d, e, f⟩ := t; rw [Ty.enc_mk]; rfl
  have hm : (Prim.mget2 false [.i .i64] (i 0)).ev [.mp [i 1, i 2] [i 2, i 3], c 0 t.enc] = some (if t.kind = 1 then .tup [i 2, .bool true] else if t.kind = 2 then .tup [i 3, .bool true] else .tup [i 0, .bool false]) := by
    rw [e0]
    by_cases h1 : t.kind = 1
    · rw [h1]; rfl
    · by_cases h2 : t.kind = 2
      · rw [h2]; rfl
      · rw [if_neg h1, if_neg h2]
        simp [Prim.ev, PV.kfind, PV.kfindGo, PV.keq, PV.okc, PV.cells, PV.isCell, PV.isAg, PV.sameK, PV.same1, i, h1, h2]
  refine k_monitor_fits _ _ rfl (d_l v.enc rfl fun _ => d_l _ (e_okc (Ty.okc_enc t)) fun _ => d_call ok_values (d_l _ hm fun _ => ?_))
  unfold fitK
  by_cases h1 : t.kind = 1
  · rw [if_pos h1, if_pos h1]
    exact d_l (i 2) rfl fun _ => d_l (.bool true) rfl fun _ => d_l (.bool false) rfl fun _ => d_false (d_l (.bool (decide (v.kind = 2))) rfl fun _ => d_ret rfl)
  · rw [if_neg h1, if_neg h1]
    by_cases h2 : t.kind = 2
    · rw [if_pos h2, if_pos h2]
      exact d_l (i 3) rfl fun _ => d_l (.bool true) rfl fun _ => d_l (.bool false) rfl fun _ => d_false (d_l (.bool (decide (v.kind = 3))) rfl fun _ => d_ret rfl)
    · rw [if_neg h2, if_neg h2]
      exact d_l (i 0) rfl fun _ => d_l (.bool false) rfl fun _ => d_l (.bool true) rfl fun _ => d_true (d_l (.bool (decide (v.kind = 1))) rfl fun _ => d_ret rfl)

/-- what a monitor makes of an event -/
inductive Obs (e : Ev) (us : List Ty) : Int → List Ty → Prop
  | arg (h : ¬ (0 ≤ e.ch ∧ e.ch < (us.length : Int))) : Obs e us 12 us
  | kind (h0 : 0 ≤ e.ch) (t : Ty) (ht : us[e.ch.toNat]? = some t) (h : t.kind ≠ wantK e) : Obs e us 8 us
  | nolabel (h0 : 0 ≤ e.ch) (t : Ty) (ht : us[e.ch.toNat]? = some t) (h : t.kind = wantK e) (hl : e.label ≠ ⟨#[]⟩) (hm : e.label ∉ t.labels) : Obs e us 9 us
  | label (h0 : 0 ≤ e.ch) (t : Ty) (ht : us[e.ch.toNat]? = some t) (h : t.kind = wantK e) (hl : e.label ≠ ⟨#[]⟩) (j : Nat) (hj : t.labels[j]? = some e.label) (hf : ∀ q, q < j → t.labels[q]? ≠ some e.label) (k w : Ty) (hk : t.kids[j]? = some k) (hw : Unf k w) : Obs e us 0 (us.set e.ch.toNat w)
  | nofit (h0 : 0 ≤ e.ch) (t : Ty) (ht : us[e.ch.toNat]? = some t) (h : t.kind = wantK e) (hl : e.label = ⟨#[]⟩) (p : Ty) (hp : t.kids[0]? = some p) (hn : fitK e.v.kind p.kind = false) : Obs e us 8 us
  | fit (h0 : 0 ≤ e.ch) (t : Ty) (ht : us[e.ch.toNat]? = some t) (h : t.kind = wantK e) (hl : e.label = ⟨#[]⟩) (p : Ty) (hp : t.kids[0]? = some p) (hn : fitK e.v.kind p.kind = true) (k w : Ty) (hk : t.kids[1]? = some k) (hw : Unf k w) : Obs e us 0 (us.set e.ch.toNat w)
end Go.Proofs.YtchedinkkliogaaDoor.Tx

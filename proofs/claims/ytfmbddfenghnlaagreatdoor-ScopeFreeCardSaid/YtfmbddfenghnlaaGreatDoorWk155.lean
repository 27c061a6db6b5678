/- The reference of the package scope: one node, Check, exactly; law 6, ScopeChecks. -/
import Derived.Test.YtfmbddfenghnlaaGreatDoorWk153
import Derived.Test.YtfmbddfenghnlaaGreatDoorDAwake06
set_option linter.all false
namespace Go.Proofs.YtfmbddfenghnlaaGreatDoor.Tx
open Go.Lf Go.Lf.S Go.Lf.Duo
set_option maxRecDepth 100000

theorem d_kidsE {w : Pg} {k : Int} {ks : List Pr} {g : Bool} {inner : List ByteArray} {K : PV → Prop} {h0 h1 : List PV → Prop} (hl : ks.length ≤ 9223372036854775807)
    (ih : ∀ x ∈ ks, ∀ g', Ok P F.ref06_node [w.enc, x.enc, .sl (inner.map .str), .bool g'] (i (e06 w x inner g'))) (hK : K (i (e06s w ks inner (g || pfx k)))) :
    (n6kids w.enc (i k) (.sl (ks.map Pr.enc)) (.bool g) (.sl (inner.map .str))).den0 P K [h0, h1] := by
  unfold n6kids
  refine den_loop (fun m' ys => ∃ j : Nat, j + m' = ks.length ∧ e06s w (ks.take j) inner (g || pfx k) = 0 ∧ ys = [i j]) ks.length ⟨0, by omega, by simp [e06s], rfl⟩ ?_
  rintro m' _ ⟨j, hj, hd, rfl⟩
  refine d_l _ (len_eq ks) fun _ => d_l (.bool (decide ((j : Int) < (ks.length : Int)))) rfl fun _ => d_dec (p := (j : Int) < (ks.length : Int)) (fun h => ?_) fun h => d_ret ?_
  · have hjl : j < ks.length := by omega
    have hm := List.getElem_mem hjl
    have hsn := e06s_snoc hjl hd
    have fin : ∀ g', g' = (g || pfx k) → (¬ e06 w ks[j] inner g' = 0 → K (i (e06 w ks[j] inner g'))) ∧ (e06 w ks[j] inner g' = 0 → ∃ m'' < m', ∃ j' : Nat, j' + m'' = ks.length ∧ e06s w (ks.take j') inner (g || pfx k) = 0 ∧ [i ((j + 1 : Nat) : Int)] = [i (j' : Int)]) := by
      rintro g' rfl
      refine ⟨fun h => ?_, fun h => ⟨m' - 1, by omega, j + 1, by omega, by rw [hsn]; exact h, rfl⟩⟩
      have := e06s_stop (w := w) (sc := inner) (g := g || pfx k) (l := ks) (j := j + 1) (by rw [hsn]; exact h)
      rw [← hsn, ← this]; exact hK
    have hix := e_idx (n := 12) (a := true) (mp_at (f := Pr.enc) hjl) (Pr.okc_enc _)
    have step : ∀ g', g' = (g || pfx k) → ∀ {c : PV → T PV} {nx : T PV}, (¬ e06 w ks[j] inner g' = 0 → (c (i (e06 w ks[j] inner g'))).den0 P K [h0, h1, fun zs => ∃ m'', m'' < m' ∧ ∃ j' : Nat, j' + m'' = ks.length ∧ e06s w (ks.take j') inner (g || pfx k) = 0 ∧ zs = [i (j' : Int)]]) → True := fun _ _ _ _ _ => trivial
    clear step
    refine d_l _ hix fun _ => d_ite (fun hg => ?_) fun hg => ?_
    · obtain ⟨f1, f2⟩ := fin true (by rw [hg]; rfl)
      exact d_call (ih _ hm true) (d_l (.bool (!decide (e06 w ks[j] inner true = 0))) rfl fun _ => d_ndec (fun h => d_ret (f1 h)) fun h => d_l _ (e_inc (by omega)) fun _ => d_cont rfl (f2 h))
    · refine d_l (.bool (decide (2 ≤ k))) rfl fun _ => d_dec (p := 2 ≤ k) (fun h2 => ?_) fun h2 => ?_
      · obtain ⟨f1, f2⟩ := fin (decide (k ≤ 5)) (by unfold pfx; simp [hg, h2])
        exact d_l (.bool (decide (k ≤ 5))) rfl fun _ => d_call (ih _ hm (decide (k ≤ 5))) (d_l (.bool (!decide (e06 w ks[j] inner (decide (k ≤ 5)) = 0))) rfl fun _ => d_ndec (fun h => d_ret (f1 h)) fun h => d_l _ (e_inc (by omega)) fun _ => d_cont rfl (f2 h))
      · obtain ⟨f1, f2⟩ := fin false (by unfold pfx; simp [hg, h2])
        exact d_call (ih _ hm false) (d_l (.bool (!decide (e06 w ks[j] inner false = 0))) rfl fun _ => d_ndec (fun h => d_ret (f1 h)) fun h => d_l _ (e_inc (by omega)) fun _ => d_cont rfl (f2 h))
  · rw [List.take_of_length_le (by omega)] at hd
    rw [hd] at hK; exact hK

theorem ok_E06 (w : Pg) (hw : w.defs.length ≤ 1000000) : ∀ (p : Pr) (sc : List ByteArray) (g : Bool), PLim p → sc.length + 2 * p.sz ≤ 1000000000 → Ok P F.ref06_node [w.enc, p.enc, .sl (sc.map .str), .bool g] (i (e06 w p sc g)) := by
  intro p
  induction p using Pr.ind with
  | _ p ih =>
  intro sc g hlim hz
  cases hlim with
  | mk _ _ _ _ _ _ hal _ hkl hkk =>
  obtain ⟨k, ch, v, ls, ar, t, ks⟩ := p
  simp only [Pr.sz] at hz
  have hal : ar.length ≤ 9223372036854775807 := hal
  have hkl : ks.length ≤ 9223372036854775807 := hkl
  have hkk : ∀ x ∈ ks, PLim x := hkk
  have hbl := bind_le k ch v
  have ih : ∀ x ∈ ks, ∀ g', Ok P F.ref06_node [w.enc, x.enc, .sl ((sc ++ bindF k ch v).map .str), .bool g'] (i (e06 w x (sc ++ bindF k ch v) g')) := fun x hx g' => ih x hx _ g' (hkk x hx) (by have := Pr.szs_mem hx; simp; omega)
  have hIn : ∀ s, Ok P F.ref03_In [.str s, .sl (sc.map .str)] (.bool (pb (s ∈ sc))) := fun s => ok_In06 s sc (by omega)
  have he : e06 w (.mk k ch v ls ar t ks) sc g = if ndE w k ch v ar sc g = 0 then e06s w ks (sc ++ bindF k ch v) (g || pfx k) else ndE w k ch v ar sc g := by simp only [e06]
  rw [he]
  have out : ∀ {e : Int}, ndE w k ch v ar sc g = e → e ≠ 0 → i e = i (if ndE w k ch v ar sc g = 0 then e06s w ks (sc ++ bindF k ch v) (g || pfx k) else ndE w k ch v ar sc g) := by
    rintro e rfl h; rw [if_neg h]
  -- the kids
  have sK : ndE w k ch v ar sc g = 0 → ∀ h0 h1, (n6kids w.enc (i k) (.sl (ks.map Pr.enc)) (.bool g) (.sl ((sc ++ bindF k ch v).map .str))).den0 P (fun x => x = i (if ndE w k ch v ar sc g = 0 then e06s w ks (sc ++ bindF k ch v) (g || pfx k) else ndE w k ch v ar sc g)) [h0, h1] := fun h h0 h1 =>
    d_kidsE hkl ih (by rw [if_pos h])
  have sC : (pfx k && !pb (ch ∈ sc)) = false → (ar.any fun a => decide (a.kind = 1) && !pb (a.name ∈ sc)) = false → ∀ h0, (n6chk w.enc (i k) (.str ch) (.sl (ar.map Vl.enc)) (.sl (ks.map Pr.enc)) (.bool g) (.sl (sc.map .str)) (.sl ((sc ++ bindF k ch v).map .str))).den0 P (fun x => x = i (if ndE w k ch v ar sc g = 0 then e06s w ks (sc ++ bindF k ch v) (g || pfx k) else ndE w k ch v ar sc g)) [h0] := by
    intro c1 c2 h0
    unfold n6chk
    refine d_l _ (len_eq sc) fun _ => den_loop (fun m' ys => ∃ j : Nat, j + m' = (bindF k ch v).length + 1 ∧ j ≤ (bindF k ch v).length ∧ frB sc ((bindF k ch v).take j) = true ∧ ys = [i ((sc.length + j : Nat) : Int)]) ((bindF k ch v).length + 1) ⟨0, by omega, by omega, by simp [frB], rfl⟩ ?_
    rintro m' _ ⟨j, hj, hjb, hno, rfl⟩
    refine d_l _ (len_eq (sc ++ bindF k ch v)) fun _ => d_l (.bool (decide (((sc.length + j : Nat) : Int) < ((sc ++ bindF k ch v).length : Int)))) rfl fun _ => d_dec (p := ((sc.length + j : Nat) : Int) < ((sc ++ bindF k ch v).length : Int)) (fun h => ?_) fun h => ?_
    · rw [List.length_append] at h
      have hjl : j < (bindF k ch v).length := by omega
      have hjx : (sc ++ bindF k ch v)[sc.length + j]? = some (bindF k ch v)[j] := by
        rw [List.getElem?_append_right (by omega)]; simp [hjl]
      have hpx : ((sc ++ bindF k ch v).map PV.str)[sc.length + j]? = some (.str (bindF k ch v)[j]) := by rw [List.getElem?_map, hjx]; rfl
      have hs : frB sc ((bindF k ch v).take (j + 1)) = !pb ((bindF k ch v)[j] ∈ sc) := by
        rw [List.take_succ_eq_append_getElem hjl]
        unfold frB at hno ⊢
        rw [List.all_append, hno]
        simp only [List.all_cons, List.all_nil, Bool.and_true, Bool.true_and]
      refine d_l _ (e_idx hpx rfl) fun _ => d_call (hIn _) (d_ite (fun hb => d_ret (out ?_ (by omega))) fun hb => d_l _ (e_inc (by omega)) fun _ => d_cont rfl ⟨m' - 1, by omega, j + 1, by omega, by omega, by rw [hs, hb]; rfl, rfl⟩)
      have : frB sc (bindF k ch v) = false := by
        unfold frB
        rw [List.all_eq_false]
        exact ⟨_, List.getElem_mem hjl, by rw [hb]; simp⟩
      unfold ndE; rw [c1, c2, this]; rfl
    · rw [List.length_append] at h
      rw [List.take_of_length_le (by omega)] at hno
      unfold n6call
      refine d_l (.bool (decide (k = 8))) rfl fun _ => d_dec (p := k = 8) (fun h8 => ?_) fun h8 => sK (by unfold ndE; rw [c1, c2, hno, if_neg h8]; rfl) _ _
      have hnd : ndE w k ch v ar sc g = callE w ch ar.length g := by unfold ndE; rw [c1, c2, hno, if_pos h8]; rfl
      obtain ⟨r, hr, hc⟩ := ok_Find06 w ch hw
      rcases hc with ⟨hr0, hn⟩ | ⟨q, d, rfl, hd, hdn, hf, _⟩
      · exact d_call hr (d_l (.bool (decide (r < 0))) rfl fun _ => d_dec (p := r < 0) (fun _ => d_ret (out (by rw [hnd]; unfold callE; rw [hn]) (by omega))) fun h => absurd hr0 h)
      · have hde : (w.defs.map Df.enc)[q]? = some d.enc := by simp [hd]
        refine d_call hr (d_l (.bool (decide ((q : Int) < 0))) rfl fun _ => d_dec (p := (q : Int) < 0) (fun h => by omega) fun _ => d_l _ (e_idx hde (Df.okc_enc d)) fun _ => d_l _ (len_eq d.params) fun _ => d_l _ (len_eq ar) fun _ => d_l (.bool (!decide ((d.params.length : Int) = (ar.length : Int)))) rfl fun _ => d_ndec (fun h => d_ret (out ?_ (by omega))) fun h => d_l (.bool (!g)) rfl fun _ => d_ite (fun hg => d_ret (out ?_ (by omega))) fun hg => sK ?_ _ _)
        · rw [hnd]; unfold callE; rw [hf]; simp only; rw [if_neg (by omega)]
        · rw [hnd]; unfold callE; rw [hf]; simp only; rw [if_pos (by omega)]
          have : g = false := by simpa using hg
          rw [this]; rfl
        · rw [hnd]; unfold callE; rw [hf]; simp only; rw [if_pos (by omega)]
          have : g = true := by simpa using hg
          rw [this]; rfl
  have sA : (pfx k && !pb (ch ∈ sc)) = false → (n6args w.enc (i k) (.str ch) (.str v) (.sl (ar.map Vl.enc)) (.sl (ks.map Pr.enc)) (.bool g) (.sl (sc.map .str))).den0 P (fun x => x = i (if ndE w k ch v ar sc g = 0 then e06s w ks (sc ++ bindF k ch v) (g || pfx k) else ndE w k ch v ar sc g)) [] := by
    intro c1
    unfold n6args
    refine den_loop (fun m' ys => ∃ j : Nat, j + m' = ar.length ∧ ((ar.take j).any fun a => decide (a.kind = 1) && !pb (a.name ∈ sc)) = false ∧ ys = [i j]) ar.length ⟨0, by omega, by simp, rfl⟩ ?_
    rintro m' _ ⟨j, hj, hdn, rfl⟩
    refine d_l _ (len_eq ar) fun _ => d_l (.bool (decide ((j : Int) < (ar.length : Int)))) rfl fun _ => d_dec (p := (j : Int) < (ar.length : Int)) (fun h => ?_) fun h => ?_
    · have hjl : j < ar.length := by omega
      have hm := List.getElem_mem hjl
      have hix := e_idx (n := 3) (a := true) (mp_at (f := Vl.enc) hjl) (Vl.okc_enc _)
      have nxt : (decide (ar[j].kind = 1) && !pb (ar[j].name ∈ sc)) = false → ((ar.take (j + 1)).any fun a => decide (a.kind = 1) && !pb (a.name ∈ sc)) = false := fun h => by
        rw [List.take_succ_eq_append_getElem hjl, List.any_append, hdn]
        simpa using h
      have bad : (decide (ar[j].kind = 1) && !pb (ar[j].name ∈ sc)) = true → ndE w k ch v ar sc g = 4 := fun h => by
        have : (ar.any fun a => decide (a.kind = 1) && !pb (a.name ∈ sc)) = true := List.any_eq_true.2 ⟨_, hm, h⟩
        unfold ndE; rw [c1, this]; rfl
      refine d_l _ hix fun _ => d_l (.bool (decide (ar[j].kind = 1))) rfl fun _ => d_dec (p := ar[j].kind = 1) (fun h1 => ?_) fun h1 => d_l _ (e_inc (by omega)) fun _ => d_cont rfl ⟨m' - 1, by omega, j + 1, by omega, nxt (by rw [decide_eq_false h1]; rfl), rfl⟩
      refine d_l _ hix fun _ => d_call (hIn ar[j].name) (d_l (.bool (!pb (ar[j].name ∈ sc))) rfl fun _ => d_ite (fun hb => d_ret (out (bad (by rw [decide_eq_true h1, hb]; rfl)) (by omega))) fun hb => d_l _ (e_inc (by omega)) fun _ => d_cont rfl ⟨m' - 1, by omega, j + 1, by omega, nxt (by rw [hb, Bool.and_false]), rfl⟩)
    · have c2 : (ar.any fun a => decide (a.kind = 1) && !pb (a.name ∈ sc)) = false := by rw [List.take_of_length_le (by omega)] at hdn; exact hdn
      have a0 : (Prim.app 1 false 16).ev [.sl [], .sl (sc.map .str)] = some (.sl (sc.map .str)) := by
        have := app_str (l := []) (m := sc) (by simp; omega)
        simpa using this
      unfold n6inn
      refine d_l (.sl []) rfl fun _ => d_l _ a0 fun _ => d_l (.bool (decide (k = 3))) rfl fun _ => d_dec (p := k = 3) (fun h3 => ?_) fun h3 => ?_
      · refine d_l (.sl [.str v]) rfl fun _ => d_l _ (app_str (m := [v]) (by simp; omega)) fun _ => d_l (.bool (decide (k = 6))) rfl fun _ => d_dec (p := k = 6) (fun h6 => by omega) fun h6 => ?_
        have := sC c1 c2
        rw [show bindF k ch v = [v] by unfold bindF; rw [if_pos h3]] at this ⊢
        exact this _
      · refine d_l (.bool (decide (k = 6))) rfl fun _ => d_dec (p := k = 6) (fun h6 => ?_) fun h6 => ?_
        · refine d_l (.sl [.str ch, .str v]) rfl fun _ => d_l _ (app_str (m := [ch, v]) (by simp; omega)) fun _ => ?_
          have := sC c1 c2
          rw [show bindF k ch v = [ch, v] by unfold bindF; rw [if_neg h3, if_pos h6]] at this ⊢
          exact this _
        · have := sC c1 c2
          rw [show bindF k ch v = [] by unfold bindF; rw [if_neg h3, if_neg h6], List.append_nil] at this
          rw [show bindF k ch v = [] by unfold bindF; rw [if_neg h3, if_neg h6], List.append_nil]
          exact this _
  rw [Pr.enc_mk]
  refine hN6 _ _ rfl ?_
  refine d_l _ (e_okc (Pg.okc_enc w)) fun _ => d_l _ (e_prC k ch v ls ar t ks) fun _ => d_l (.bool (decide (2 ≤ k))) rfl fun _ => d_dec (p := 2 ≤ k) (fun h2 => ?_) fun h2 => sA (by unfold pfx; simp [h2])
  refine d_l (.bool (decide (k ≤ 5))) rfl fun _ => d_dec (p := k ≤ 5) (fun h5 => ?_) fun h5 => sA (by unfold pfx; simp [h5])
  refine d_call (hIn ch) (d_l (.bool (!pb (ch ∈ sc))) rfl fun _ => d_ite (fun hb => d_ret (out ?_ (by omega))) fun hb => sA (by rw [hb, Bool.and_false]))
  unfold ndE
  rw [hb, show pfx k = true by unfold pfx; simp [h2, h5]]; rfl

theorem ok_CheckE (p : Pg) (hlim : GLim p) {m : Nat} (hm : m ≤ 20000) (h0 : PgS p m) {e0 : Int} (hP : Ok P F.ref03_Program [p.enc] (i e0)) : Ok P F.ref06_Check [p.enc] (.tup [i (chk e0 p).1, i ((chk e0 p).2 : Nat)]) := by
  have hdl := h0.len
  have hN : ∀ (x : Pr) (sc : List ByteArray) (g : Bool), PLim x → sc.length + 2 * x.sz ≤ 1000000000 → Ok P F.ref06_node [p.enc, x.enc, .sl (sc.map .str), .bool g] (i (e06 p x sc g)) := ok_E06 p (by omega)
  have out : ∀ {e : Int} {a : Nat}, chk e0 p = (e, a) → PV.tup [i e, i (a : Nat)] = .tup [i (chk e0 p).1, i ((chk e0 p).2 : Nat)] := fun {e a} h => by rw [h]
  refine k_ref06_Check _ _ rfl ?_
  refine d_l _ (e_okc (Pg.okc_enc p)) fun _ => d_call hP (d_l (.bool (!decide (e0 = 0))) rfl fun _ => d_ndec (fun h => d_ret (out (chk_p h))) fun h00 => ?_)
  subst h00
  refine den_loop (fun m' ys => ∃ j : Nat, j + m' = p.defs.length ∧ (∀ q, q < j → D06 p.defs q) ∧ ys = [i j]) p.defs.length ⟨0, by omega, fun q h => by omega, rfl⟩ ?_
  rintro m' _ ⟨j, hj, hD, rfl⟩
  refine d_l _ (len_eq p.defs) fun _ => d_l (.bool (decide ((j : Int) < (p.defs.length : Int)))) rfl fun _ => d_dec (p := (j : Int) < (p.defs.length : Int)) (fun h => ?_) fun h => ?_
  · have hjl : j < p.defs.length := by omega
    have hjd : p.defs[j]? = some p.defs[j] := List.getElem?_eq_getElem hjl
    have hpl := (h0.par p.defs[j] (List.getElem_mem hjl)).1
    have hix := e_idx (n := 14) (a := true) (mp_at (f := Df.enc) hjl) (Df.okc_enc _)
    obtain ⟨r, hr, hc⟩ := ok_Find06 p p.defs[j].name (by omega)
    generalize p.defs[j] = d at *
    refine d_l _ hix fun _ => d_l _ (e_okc (Df.okc_enc d)) fun _ => d_call hr ?_
    obtain ⟨q, d', rfl, hqd, hqn, _, hqm⟩ : ∃ (q : Nat) (d' : Df), r = q ∧ p.defs[q]? = some d' ∧ d'.name = d.name ∧ fstD p.defs d.name = some d' ∧ ∀ k d', k < q → p.defs[k]? = some d' → d'.name ≠ d.name := by
      rcases hc with ⟨_, hn⟩ | hc
      · unfold fstD at hn
        rw [List.find?_eq_none] at hn
        exact absurd (hn d (List.mem_of_getElem? hjd)) (by simp)
      · exact hc
    refine d_l (.bool (decide ((q : Int) < (j : Int)))) rfl fun _ => d_dec (p := (q : Int) < (j : Int)) (fun hq => d_ret (out (chk_d hjl (fun hc => ?_) hD))) fun hq => ?_
    · exact (hc d hjd).1 q d' (by omega) hqd hqn
    have new : ∀ k d', k < j → p.defs[k]? = some d' → d'.name ≠ d.name := fun k d' hk hd' => hqm k d' (by omega) hd'
    refine den_loop (fun m2 ys => ∃ k : Nat, k + m2 = d.params.length ∧ ((prN06 d).take k).Nodup ∧ ys = [i k]) d.params.length ⟨0, by omega, by simp, rfl⟩ ?_
    rintro m2 _ ⟨k, hk, hnd, rfl⟩
    refine d_l _ (len_eq d.params) fun _ => d_l (.bool (decide ((k : Int) < (d.params.length : Int)))) rfl fun _ => d_dec (p := (k : Int) < (d.params.length : Int)) (fun hkl => ?_) fun hkl => ?_
    · have hkp : k < d.params.length := by omega
      have hkn : k < (prN06 d).length := by unfold prN06; simpa using hkp
      have hke : (prN06 d)[k] = d.params[k].name := by simp [prN06]
      refine den_loop (fun m3 ys => ∃ b : Nat, b + m3 = k ∧ (prN06 d)[k] ∉ (prN06 d).take b ∧ ys = [i b]) k ⟨0, by omega, by simp, rfl⟩ ?_
      rintro m3 _ ⟨b, hb, hbn, rfl⟩
      refine d_l (.bool (decide ((b : Int) < (k : Int)))) rfl fun _ => d_dec (p := (b : Int) < (k : Int)) (fun hbk => ?_) fun hbk => ?_
      · have hbp : b < d.params.length := by omega
        have hbl : b < (prN06 d).length := by omega
        have hbe : (prN06 d)[b] = d.params[b].name := by simp [prN06]
        refine d_l _ (e_idx (mp_at (f := Et.enc) hbp) (Et.okc_enc _)) fun _ => d_l _ (e_idx (mp_at (f := Et.enc) hkp) (Et.okc_enc _)) fun _ => d_l (.bool (decide (d.params[b].name = d.params[k].name))) rfl fun _ => d_dec (p := d.params[b].name = d.params[k].name) (fun e => d_ret (out (chk_d hjl (fun hc => ?_) hD))) fun e => d_l _ (e_inc (by omega)) fun _ => d_cont rfl ⟨m3 - 1, by omega, b + 1, by omega, fun hc => ?_, rfl⟩
        · have := nodup_at06 (hc d hjd).2 (List.getElem?_eq_getElem hbl) (by rw [List.getElem?_eq_getElem hkn, hke, hbe, e])
          omega
        · rw [List.take_succ_eq_append_getElem hbl] at hc
          rcases List.mem_append.1 hc with hc | hc
          · exact hbn hc
          · have := List.mem_singleton.1 hc
            rw [hke, hbe] at this
            exact e this.symm
      · have hbk : b = k := by omega
        subst hbk
        exact d_l _ (e_inc (by omega)) fun _ => d_cont rfl ⟨m2 - 1, by omega, b + 1, by omega, (nd_take hkn).2 ⟨hnd, hbn⟩, rfl⟩
    · have hndk : (prN06 d).Nodup := by
        rw [List.take_of_length_le (by unfold prN06; rw [List.length_map]; omega)] at hnd; exact hnd
      refine d_l _ (e_inc (by omega)) fun _ => d_cont rfl ⟨m' - 1, by omega, j + 1, by omega, fun q' hq' => ?_, rfl⟩
      by_cases e : q' = j
      · subst e
        intro d2 hd2
        rw [hjd] at hd2; cases hd2
        exact ⟨new, hndk⟩
      · exact hD q' (by omega)
  · have hall : ∀ q, q < p.defs.length → D06 p.defs q := fun q hq => hD q (by omega)
    refine den_loop (fun m2 ys => ∃ a : Nat, a + m2 = p.defs.length ∧ (∀ q, q < a → bdE p q = 0) ∧ ys = [i a]) p.defs.length ⟨0, by omega, fun q h => by omega, rfl⟩ ?_
    rintro m2 _ ⟨a, ha, hdn, rfl⟩
    refine d_l _ (len_eq p.defs) fun _ => d_l (.bool (decide ((a : Int) < (p.defs.length : Int)))) rfl fun _ => d_dec (p := (a : Int) < (p.defs.length : Int)) (fun hal => ?_) fun hal => ?_
    · have hap : a < p.defs.length := by omega
      have hmem := List.getElem_mem hap
      have hpl := (h0.par p.defs[a] hmem).1
      have hbz := (h0.body p.defs[a] hmem).1
      have hbl := (hlim.defs p.defs[a] hmem).body
      have hix := e_idx (n := 14) (a := true) (mp_at (f := Df.enc) hap) (Df.okc_enc _)
      have hnl : (prN06 p.defs[a]).length = p.defs[a].params.length := by simp [prN06]
      have he := hN p.defs[a].body (prN06 p.defs[a]) false hbl (by omega)
      rw [← sb_bodyA p.defs[a]] at he
      have hbe : e06 p p.defs[a].body (prN06 p.defs[a]) false = bdE p a := by
        unfold bdE; rw [List.getElem?_eq_getElem hap]
      rw [hbe] at he
      generalize p.defs[a] = d at *
      refine den_loop (fun m3 ys => ∃ b : Nat, b + m3 = d.params.length ∧ ys = [i b, .sl (((prN06 d).take b).map .str)]) d.params.length ⟨0, by omega, by simp⟩ ?_
      rintro m3 _ ⟨b, hb, rfl⟩
      refine d_l _ hix fun _ => d_l _ (len_eq d.params) fun _ => d_l (.bool (decide ((b : Int) < (d.params.length : Int)))) rfl fun _ => d_dec (p := (b : Int) < (d.params.length : Int)) (fun hbp => ?_) fun hbp => ?_
      · have hbp : b < d.params.length := by omega
        have hbl : b < (prN06 d).length := by omega
        have hbe : (prN06 d)[b] = d.params[b].name := by simp [prN06]
        refine d_l _ hix fun _ => d_l _ (e_idx (mp_at (f := Et.enc) hbp) (Et.okc_enc _)) fun _ => d_l (.sl [.str d.params[b].name]) rfl fun _ => d_l _ (app_str (m := [d.params[b].name]) (by simp; omega)) fun _ => d_l _ (e_inc (by omega)) fun _ => d_cont rfl ⟨m3 - 1, by omega, b + 1, by omega, ?_⟩
        rw [List.take_succ_eq_append_getElem hbl, hbe]
      · have etk : (prN06 d).take b = prN06 d := List.take_of_length_le (by omega)
        rw [etk]
        refine d_l _ hix fun _ => d_call he (d_l (.bool (!decide (bdE p a = 0))) rfl fun _ => d_ndec (fun h => d_ret (out (chk_b hap hall h hdn))) fun h => d_l _ (e_inc (by omega)) fun _ => d_cont rfl ⟨m2 - 1, by omega, a + 1, by omega, fun q hq => ?_, rfl⟩)
        by_cases e : q = a
        · subst e; exact h
        · exact hdn q (by omega)
    · have hb : ∀ q, q < p.defs.length → bdE p q = 0 := fun q hq => hdn q (by omega)
      have hmz := h0.main.1
      have he := hN p.main [] true hlim.main (by simp; omega)
      rw [← sb_mainA p] at he
      exact d_call he (d_l _ (len_eq p.defs) fun _ => d_ret (out (chk_m hall hb)))

theorem fltE_cases (e0 : Int) (p : Pg) : ∃ b : Int, fltE e0 p = .agg [i (chk e0 p).1, i b] ∧ ((chk e0 p).1 = 0 → b = 0) ∧ ((chk e0 p).1 ≠ 0 → b = ((chk e0 p).2 : Nat)) := by
  by_cases h : (chk e0 p).1 = 0
  · exact ⟨0, by unfold fltE; rw [if_pos h, h], fun _ => rfl, fun hn => absurd h hn⟩
  · exact ⟨_, by unfold fltE; rw [if_neg h], fun hn => absurd hn h, fun _ => rfl⟩

end Go.Proofs.YtfmbddfenghnlaaGreatDoor.Tx

/- Contracts (Wk173, Wk174, Wk175, Wk176). -/
import Derived.Test.YtopinhoalbgebaaGreatDoorWk172
import Derived.Test.YtopinhoalbgebaaGreatDoorWk111
set_option linter.all false
/- The normal tree (3): what the reference computes. -/
namespace Go.Proofs.YtopinhoalbgebaaGreatDoor.Tx
open Go.Lf Go.Lf.S Go.Lf.Duo
set_option maxRecDepth 100000

theorem shp_lm {M : Nat} {u : Ty} (h : Shp M u) : u.labels.length ≤ M ∧ u.kids.length ≤ M := by cases h.lm with | mk _ h1 h2 _ => exact ⟨h1, h2⟩
theorem ordK_len {M : Nat} {u : Ty} (hS : Shp M u) (hM : M ≤ 549755813888) : (ordK u).length = u.kids.length := by
  unfold ordK
  split
  · rfl
  · rename_i hne
    have := (shp_lm hS).1
    rw [List.length_map, (srt_spec hS.nd (by omega)).1]
    have := hS.nk
    have k1 := hS.k1
    by_cases c3 : u.kind ≤ 3
    · exact absurd (hS.k3 c3).2.1 hne
    · by_cases c5 : u.kind ≤ 5
      · exact absurd (hS.k5 ⟨by omega, c5⟩).2 hne
      · rw [this, if_neg c3, if_neg c5]
theorem litT_ln (k : Int) : Ln (litT k) := .mk _ (by simp [litT, Ty.labels]) (by simp [litT, Ty.kids]) fun k hk => by simp [litT, Ty.kids] at hk
theorem varT_ln (j : Nat) (s : Int) : Ln (varT j s) := .mk _ (by simp [varT, Ty.labels]) (by simp [varT, Ty.kids]) fun k hk => by simp [varT, Ty.kids] at hk
theorem wrapT_ln {m : Nat} {t : Ty} (h : Ln t) : Ln (wrapT m t) := by
  unfold wrapT
  split
  · exact .mk _ (by simp [Ty.labels]) (by simp [Ty.kids]) fun k hk => by simp [Ty.kids] at hk; subst hk; exact h
  · exact h
theorem nmT_ln {L : List Ty} {M : Nat} (hM : M ≤ 549755813888) : ∀ (m : Nat) (path : List Ty) (T : Ty), CL L M T → Ln (nmT m path T) := by
  intro m
  induction m with
  | zero => intro path T h; exact h.ln hM
  | succ m ih =>
    intro path T h
    have hS := h.unf.2.1
    have hl := shp_lm hS
    by_cases h3 : (unfT T).kind ≤ 3
    · rw [nmT_lit h3]; exact litT_ln _
    · cases hf : fnd path (unfT T) with
      | some j => rw [nmT_var h3 hf (fnd_some hf).1]; exact varT_ln _ _
      | none =>
        rw [nmT_node h3 hf]
        refine wrapT_ln (.mk _ ?_ ?_ fun k hk => ?_)
        · show (srt (unfT T).labels).length ≤ _
          rw [(srt_spec hS.nd (by omega)).1]; omega
        · show ((ordK (unfT T)).map _).length ≤ _
          rw [List.length_map, ordK_len hS hM]; omega
        · obtain ⟨x, hx, rfl⟩ := List.mem_map.1 (show k ∈ (ordK (unfT T)).map _ from hk)
          exact ih _ x (h.unf.2.2 x (ordK_mem hS hM hx))

/-! numbers -/
theorem ok_Decimal : ∀ m : Nat, m ≤ 9223372036854775807 → Ok P F.ref05_Decimal [i (m : Int)] (.str (decS m)) := by
  intro m
  induction m using Nat.strongRecOn with
  | _ m ih =>
  intro hm
  have hrem : (Prim.arith .rem .i64).ev [i (m : Int), i 10] = some (i ((m % 10 : Nat) : Int)) := by
    show some (PV.int .i64 (Int.tmod (m : Int) 10)) = _
    rw [Int.ofNat_tmod]; rfl
  have hquo : (Prim.arith .quo .i64).ev [i (m : Int), i 10] = some (i ((m / 10 : Nat) : Int)) := by
    show some (PV.int .i64 (IntKind.i64.wrap (Int.tdiv (m : Int) 10))) = _
    rw [show (10 : Int) = ((10 : Nat) : Int) from rfl, ← Int.ofNat_tdiv, wrap_in (by omega) (by omega)]
  have hdig : (Prim.ssl).ev [.str ⟨#[48, 49, 50, 51, 52, 53, 54, 55, 56, 57]⟩, i ((m % 10 : Nat) : Int), i ((m % 10 + 1 : Nat) : Int)] = some (.str ⟨#[UInt8.ofNat (48 + m % 10)]⟩) := by
    have : ∀ d : Nat, d < 10 → (Prim.ssl).ev [.str ⟨#[48, 49, 50, 51, 52, 53, 54, 55, 56, 57]⟩, i (d : Int), i ((d + 1 : Nat) : Int)] = some (.str ⟨#[UInt8.ofNat (48 + d)]⟩) := by
      intro d hd
      match d, hd with
      | 0, _ => rfl | 1, _ => rfl | 2, _ => rfl | 3, _ => rfl | 4, _ => rfl | 5, _ => rfl | 6, _ => rfl | 7, _ => rfl | 8, _ => rfl | 9, _ => rfl
    exact this _ (Nat.mod_lt _ (by decide))
  refine k_ref05_Decimal _ _ rfl (d_l (.bool (decide ((m : Int) < 0))) rfl fun _ => d_dec (fun h => by omega) fun _ => d_l _ hrem fun _ => d_l _ hrem fun _ => d_l _ (e_inc (by omega)) fun _ => d_l _ hdig fun _ => d_l (.bool (decide ((m : Int) < 10))) rfl fun _ => d_dec (fun h => d_ret ?_) fun h => d_l _ hquo fun _ => d_call (ih (m / 10) (by omega) (by omega)) ?_)
  · have h : m < 10 := by omega
    unfold decS
    rw [Lib.decDigits_one h, Nat.mod_eq_of_lt h]
  · have h : ¬ m < 10 := by omega
    have hlen : (Lib.decDigits (m / 10)).length ≤ 24 := by
      rw [Lib.decDigits_length]
      have := Lib.numDigits_eq (m / 10) (by omega) (by omega)
      split at this <;> omega
    refine d_l (.str (decS m)) ?_ fun _ => d_ret rfl
    show (if (decS (m / 10)).size + 1 ≤ maxLen then some (PV.str (decS (m / 10) ++ ⟨#[UInt8.ofNat (48 + m % 10)]⟩)) else none) = _
    have e : decS (m / 10) ++ ⟨#[UInt8.ofNat (48 + m % 10)]⟩ = decS m := by
      apply ByteArray.ext
      rw [ByteArray.data_append]
      unfold decS
      rw [Lib.decDigits.eq_def m, dif_neg h]
      simp
    rw [if_pos, e]
    show (Lib.decDigits (m / 10)).toArray.size + 1 ≤ maxLen
    rw [List.size_toArray]
    unfold maxLen; omega
theorem decS_size {m : Nat} (h : m < 100) : (decS m).size ≤ 2 := by
  show (Lib.decDigits m).toArray.size ≤ 2
  rw [List.size_toArray]
  by_cases c : m < 10
  · rw [Lib.decDigits_one c]; simp
  · rw [Lib.decDigits_two c h]; simp
theorem ev_name {m : Nat} (h : m < 100) : (Prim.cat).ev [.str ⟨#[114]⟩, .str (decS m)] = some (.str (nmB m)) := by
  have := decS_size h
  show (if 1 + (decS m).size ≤ maxLen then some (PV.str (⟨#[114]⟩ ++ decS m)) else none) = _
  rw [if_pos (by unfold maxLen; omega)]; rfl
theorem ok_ref12_name {m : Nat} (h : m < 100) : Ok P F.ref12_name [i (m : Int)] (.str (nmB m)) :=
  k_ref12_name _ _ rfl (d_call (ok_Decimal m (by omega)) (d_l _ (ev_name h) fun _ => d_ret rfl))

/-! names in a tree -/
theorem uses_loop {ks : List Ty} {s : ByteArray} (hk : ks.length ≤ 549755813888) (ih : ∀ x ∈ ks, Ok P F.ref12_uses [x.enc, .str s] (.bool (usB s x))) :
    (T.loop [i 0] fun y3 => .l .len [.sl (ks.map Ty.enc)] fun x4 => .l (.cmp .lss .i64) [n y3 0, x4] fun x5 => .ite x5
      (.l (.idx 6 true) [.sl (ks.map Ty.enc), n y3 0] fun x6 => .call F.ref12_uses [x6, .str s] fun x7 => .ite x7 (.ret (.bool true)) (.l (.arith .add .i64) [n y3 0, i 1] fun x8 => .cont 0 [x8]))
      (.ret (.bool false))).den0 P (· = .bool (ks.any (usB s))) [] := by
  refine den_loop (fun m' ys => ∃ j : Nat, j + m' = ks.length ∧ (∀ q (hq : q < ks.length), q < j → usB s ks[q] = false) ∧ ys = [i j]) ks.length ⟨0, by omega, (fun q _ h => by omega), rfl⟩ ?_
  rintro m' _ ⟨j, hj, ht, rfl⟩
  refine d_l _ (len_ty ks) fun _ => d_l (.bool (decide ((j : Int) < (ks.length : Int)))) rfl fun _ => d_dec (p := (j : Int) < (ks.length : Int)) (fun h => ?_) fun h => d_ret ?_
  · have h1 : j < ks.length := by omega
    refine d_l _ (e_idx (ty_at' h1) (Ty.okc_enc _)) fun _ => d_call (ih _ (List.getElem_mem h1)) (d_ite (fun h2 => d_ret ?_) fun h2 => d_l _ (e_inc (by omega)) fun _ => d_cont rfl ⟨m' - 1, by omega, j + 1, by omega, fun q hq hqj => ?_, rfl⟩)
    · rw [show ks.any (usB s) = true from List.any_eq_true.2 ⟨_, List.getElem_mem h1, h2⟩]
    · by_cases e : q = j
      · subst e; exact h2
      · exact ht q hq (by omega)
  · have : ks.any (usB s) = false := by
      rw [List.any_eq_false]
      intro x hx
      obtain ⟨q, hq, rfl⟩ := List.getElem_of_mem hx
      rw [ht q hq (by omega)]; simp
    rw [this]
theorem ok_uses (s : ByteArray) : ∀ t : Ty, Ln t → Ok P F.ref12_uses [t.enc, .str s] (.bool (usB s t)) := by
  intro t
  induction t using Ty.ind with
  | _ t ih =>
  intro h
  cases h with
  | mk _ h1 h2 h =>
  obtain ⟨kd, p, nm, sh, ls, ks⟩ := t
  have lp := uses_loop (s := s) h2 fun x hx => ih x hx (h x hx)
  simp only [Ty.kids] at lp
  rw [usB_mk, Ty.enc_mk]
  refine k_ref12_uses _ _ rfl (d_l (.agg [i kd, i p, .str nm, i sh, .sl (ls.map .str), .sl (ks.map Ty.enc)]) rfl fun _ => d_l (.bool (decide (kd = 9))) rfl fun _ => d_dec (fun h9 => d_l (.bool (decide (nm = s))) rfl fun _ => d_dec (fun he => d_ret ?_) fun he => ?_) fun h9 => ?_)
  · have h9 : kd = 9 := h9
    have he : nm = s := he
    simp [h9, he]
  · have he : ¬ nm = s := he
    simp only [he, decide_false, Bool.and_false, Bool.false_or]
    exact lp
  · have h9 : ¬ kd = 9 := h9
    simp only [h9, decide_false, Bool.false_and, Bool.false_or]
    exact lp
end Go.Proofs.YtopinhoalbgebaaGreatDoor.Tx

/- The normal tree (4): the reference computes nmT. -/
namespace Go.Proofs.YtopinhoalbgebaaGreatDoor.Tx
open Go.Lf Go.Lf.S Go.Lf.Duo
set_option maxRecDepth 100000

theorem takeMap1 {α β : Type} {f : α → β} {l : List α} {j : Nat} (h : j < l.length) : (l.take j).map f ++ [f l[j]] = (l.take (j + 1)).map f := by
  rw [List.take_succ_eq_append_getElem h, List.map_append]; rfl
theorem enc_node (u : Ty) (ts : List Ty) : (nodeT u ts).enc = .agg [i u.kind, i u.prio, .str ⟨#[]⟩, i 0, .sl ((srt u.labels).map .str), .sl (ts.map Ty.enc)] := by rw [nodeT, Ty.enc_mk]

/-- behind the rests -/
theorem wrap_loop {u : Ty} {ts : List Ty} {pl : Nat} (hp : pl < 100) (hk : ts.length ≤ 549755813888) (hln : ∀ t ∈ ts, Ln t) {hs : List (List PV → Prop)} (path : List PV) (hpl : path.length = pl) (lv : Nat) (hlv : lv = hs.length) :
    (T.l .len [.sl path] fun x16 => .call F.ref12_name [x16] fun x17 => .loop [i 0] fun y18 => .l .len [.sl (ts.map Ty.enc)] fun x19 => .l (.cmp .lss .i64) [n y18 0, x19] fun x20 => .ite x20
      (.l (.idx 6 true) [.sl (ts.map Ty.enc), n y18 0] fun x21 => .call F.ref12_uses [x21, x17] fun x22 => .ite x22
        (.l (.lst 6 true) [.agg [i u.kind, i u.prio, .str ⟨#[]⟩, i 0, .sl ((srt u.labels).map .str), .sl (ts.map Ty.enc)]] fun x23 => .l (.okcs [(1, false)]) [x17] fun x24 => .ret (.agg [i 8, i 0, x17, i 0, .sl [], x23]))
        (.l (.arith .add .i64) [n y18 0, i 1] fun x23 => .cont lv [x23]))
      (.ret (.agg [i u.kind, i u.prio, .str ⟨#[]⟩, i 0, .sl ((srt u.labels).map .str), .sl (ts.map Ty.enc)]))).den0 P (· = (wrapT pl (nodeT u ts)).enc) hs := by
  subst hlv
  refine d_l (i (pl : Int)) (by rw [e_len, hpl]) fun _ => d_call (ok_ref12_name hp) ?_
  have hkids : (nodeT u ts).kids = ts := rfl
  refine den_loop (fun m' ys => ∃ j : Nat, j + m' = ts.length ∧ (∀ q (hq : q < ts.length), q < j → usB (nmB pl) ts[q] = false) ∧ ys = [i j]) ts.length ⟨0, by omega, (fun q _ h => by omega), rfl⟩ ?_
  rintro m' _ ⟨j, hj, ht, rfl⟩
  refine d_l _ (len_ty ts) fun _ => d_l (.bool (decide ((j : Int) < (ts.length : Int)))) rfl fun _ => d_dec (p := (j : Int) < (ts.length : Int)) (fun h => ?_) fun h => d_ret ?_
  · have h1 : j < ts.length := by omega
    refine d_l _ (e_idx (ty_at' h1) (Ty.okc_enc _)) fun _ => d_call (ok_uses _ _ (hln _ (List.getElem_mem h1))) (d_ite (fun h2 => ?_) fun h2 => d_l _ (e_inc (by omega)) fun _ => d_cont List.getElem?_concat_length ⟨m' - 1, by omega, j + 1, by omega, fun q hq hqj => ?_, rfl⟩)
    · refine d_l (.sl [.agg [i u.kind, i u.prio, .str ⟨#[]⟩, i 0, .sl ((srt u.labels).map .str), .sl (ts.map Ty.enc)]]) (e_lst fun x hx => by simp at hx; subst hx; rfl) fun _ => d_l .nilI rfl fun _ => d_ret ?_
      unfold wrapT
      rw [if_pos (by rw [hkids]; exact List.any_eq_true.2 ⟨_, List.getElem_mem h1, h2⟩), Ty.enc_mk, List.map_cons, List.map_nil, enc_node]; rfl
    · by_cases e : q = j
      · subst e; exact h2
      · exact ht q hq (by omega)
  · have : ts.any (usB (nmB pl)) = false := by
      rw [List.any_eq_false]
      intro x hx
      obtain ⟨q, hq, rfl⟩ := List.getElem_of_mem hx
      rw [ht q hq (by omega)]; simp
    unfold wrapT
    rw [hkids, this]
    exact (enc_node u ts).symm

theorem ok_ref12_normal {L : List Ty} {M : Nat} (hM : M ≤ 1000) (hL : L.length ≤ 99) : ∀ (m : Nat) (path : List Ty) (T : Ty), CL L M T → POk L M path → L.length < path.length + m → Ok P F.ref12_normal [T.enc, .sl (path.map Ty.enc)] (nmT m path T).enc := by
  intro m
  induction m with
  | zero => intro path T _ hp hm; have := hp.len; omega
  | succ m ih =>
  intro path T hT hp hm
  have hpl := hp.len
  obtain ⟨hU, hS, hK⟩ := hT.unf
  have hlm := shp_lm hS
  have oU := ok_ref02_Unfold hU (hT.ln (by omega))
  have lnu := hS.lm.ln (show M ≤ 549755813888 by omega)
  have hCu := hT.unfC
  have huu := hT.uu
  have uu : Unf (unfT T) (unfT T) := unf_self hU
  have nlit := @nmT_lit m path T
  have nvar := @nmT_var m path T
  have nnode := @nmT_node m path T
  have hsn := fun ha hf => hp.snoc hT ha hf
  generalize hr : nmT (m + 1) path T = res at *
  generalize unfT T = u at *
  refine k_ref12_normal _ _ rfl (d_l _ (e_okc (Ty.okc_enc T)) fun _ => d_call oU (d_l _ (e_okc (Ty.okc_enc u)) fun _ => ?_))
  simp only [ty0, ty1, ty4, ty5]
  refine d_l (.bool (decide (u.kind ≤ 3))) rfl fun _ => d_dec (fun h3 => d_l .nilI rfl fun _ => d_ret ?_) fun h3 => ?_
  · have h3 : u.kind ≤ 3 := h3
    rw [nlit h3, litT, Ty.enc_mk]; rfl
  have h3 : ¬ u.kind ≤ 3 := h3
  have hact : act u.kind = true := by
    have := hS.k1
    simp only [act, decide_eq_true_eq]; omega
  refine den_loop (fun m' ys => ∃ j : Nat, j + m' = path.length ∧ (∀ q (hq : q < path.length), q < j → ¬ Hit path[q] u) ∧ ys = [i j]) path.length ⟨0, by omega, (fun q _ h => by omega), rfl⟩ ?_
  rintro m' _ ⟨j, hj, ht, rfl⟩
  refine d_l _ (len_ty path) fun _ => d_l (.bool (decide ((j : Int) < (path.length : Int)))) rfl fun _ => d_dec (p := (j : Int) < (path.length : Int)) (fun h => ?_) fun h => ?_
  · have h1 : j < path.length := by omega
    have hmem := List.getElem_mem h1
    have cp := hp.cl _ hmem
    have up := hp.un _ hmem
    have oP := ok_prio_unf cp.unf.1 (cp.ln (by omega))
    rw [up] at oP
    have oR := ok_ref02_Raise path[j] (off path[j] u) (cp.ln (by omega))
    obtain ⟨r, oE, hrr⟩ := ok_ref10_Equal hM (by omega) (cp.raise (off path[j] u)) hCu
    have hrr : r = true ↔ Hit path[j] u := hrr
    refine d_l _ (e_idx (ty_at' h1) (Ty.okc_enc _)) fun _ => d_call oP (d_l (i (pz path[j])) rfl fun _ => d_l (.bool (act (path[j]).kind)) rfl fun _ => d_l (i (off path[j] u)) rfl fun _ => d_l _ (e_idx (ty_at' h1) (Ty.okc_enc _)) fun _ => d_call oR (d_call oE (d_ite (fun hb => ?_) fun hb => ?_)))
    · refine d_call (ok_ref12_name (by omega)) (d_l .nilI rfl fun _ => d_ret ?_)
      rw [nvar h3 (fnd_of h1 (hrr.1 hb) fun q hq => ht q (by omega) hq) h1, varT, Ty.enc_mk]; rfl
    · refine d_l _ (e_inc (by omega)) fun _ => d_cont rfl ⟨m' - 1, by omega, j + 1, by omega, fun q hq hqj => ?_, rfl⟩
      by_cases e : q = j
      · subst e
        exact fun c => by rw [hrr.2 c] at hb; cases hb
      · exact ht q hq (by omega)
  · have hf : fnd path u = none := fnd_of_none fun q hq => ht q hq (by omega)
    rw [nnode h3 hf]
    have hp2 : POk L M (path ++ [u]) := hsn hact hf
    have hp2l : (path ++ [u]).length = path.length + 1 := by simp
    obtain ⟨s1, s2, s3, oS⟩ := srt_spec hS.nd (by omega)
    have hol := ordK_len hS (show M ≤ 549755813888 by omega)
    have hmore : (path ++ [u]).map Ty.enc = path.map Ty.enc ++ [u.enc] := by simp
    refine d_call oS (d_l .nilI rfl fun _ => d_l (.sl []) rfl fun _ => d_l (.sl (path.map Ty.enc)) (by
      have := e_app (n := 6) (a := true) (b := 88) (l := []) (m := path.map Ty.enc) (fun x hx => by obtain ⟨t, _, rfl⟩ := List.mem_map.1 hx; exact Ty.okc_enc t) (by simp; omega) (by simp; omega)
      simpa using this) fun _ => d_l (.sl [u.enc]) (e_lst fun x hx => by simp at hx; subst hx; exact Ty.okc_enc _) fun _ => d_l (.sl ((path ++ [u]).map Ty.enc)) (by
      rw [hmore]
      exact e_app (fun x hx => by simp at hx; subst hx; exact Ty.okc_enc _) (by simp; omega) (by simp; omega)) fun _ => ?_)
    refine den_loop (fun m' ys => ∃ q : Nat, q + m' = u.kids.length ∧ ys = [i q, i u.kind, i u.prio, .str ⟨#[]⟩, i 0, .sl ((srt u.labels).map .str), .sl ((((ordK u).map (nmT m (path ++ [u]))).take q).map Ty.enc)]) u.kids.length ⟨0, by omega, rfl⟩ ?_
    rintro m2 _ ⟨q, hq, rfl⟩
    have hml : ((ordK u).map (nmT m (path ++ [u]))).length = u.kids.length := by rw [List.length_map, hol]
    refine d_l _ (len_ty u.kids) fun _ => d_l (.bool (decide ((q : Int) < (u.kids.length : Int)))) rfl fun _ => d_dec (p := (q : Int) < (u.kids.length : Int)) (fun h => ?_) fun h => ?_
    · have hqk : q < u.kids.length := by omega
      have hkq : u.kids[q] ∈ u.kids := List.getElem_mem hqk
      have step : ∀ x : Ty, x = (ordK u)[q]'(by omega) → ((((ordK u).map (nmT m (path ++ [u]))).take q).map Ty.enc) ++ [(nmT m (path ++ [u]) x).enc] = (((ordK u).map (nmT m (path ++ [u]))).take (q + 1)).map Ty.enc := fun x hx => by
        rw [← takeMap1 (by omega : q < ((ordK u).map (nmT m (path ++ [u]))).length), List.getElem_map, hx]
      refine d_l _ (e_idx (ty_at' hqk) (Ty.okc_enc _)) fun _ => d_l _ (e_okc (Ty.okc_enc _)) fun _ => d_l _ (len_str (srt u.labels)) fun _ => d_l (.bool (decide (((srt u.labels).length : Int) > 0))) rfl fun _ => d_dec (p := ((srt u.labels).length : Int) > 0) (fun hl0 => ?_) fun hl0 => ?_
      · have hne : u.labels ≠ [] := fun c => by rw [c, srt_nil] at hl0; simp at hl0
        have hoe : ordK u = (srt u.labels).map (kidAt u) := by unfold ordK; rw [if_neg hne]
        have hqs : q < (srt u.labels).length := by
          have : ((srt u.labels).map (kidAt u)).length = u.kids.length := by rw [← hoe]; exact hol
          rw [List.length_map] at this; omega
        have hk : u.kids.length = u.labels.length := by
          have : ((srt u.labels).map (kidAt u)).length = u.kids.length := by rw [← hoe]; exact hol
          rw [List.length_map] at this; omega
        obtain ⟨o, oL, l1, l2⟩ := ok_Label uu lnu (by omega) hk (srt u.labels)[q]
        have hsm : (srt u.labels)[q] ∈ u.labels := (s2 _).1 (List.getElem_mem hqs)
        have hko : (ordK u)[q]'(by omega) = kidAt u (srt u.labels)[q] := by simp only [hoe, List.getElem_map]
        cases o with
        | none => exact absurd hsm (l2 rfl)
        | some k =>
          obtain ⟨j', g1, g2⟩ := l1 k rfl
          have hkk := kidAt_eq hS.nd g1 g2
          have oN := ih (path ++ [u]) k (hK k (List.mem_of_getElem? g2)) hp2 (by omega)
          refine d_l _ (e_idx (str_at hqs) rfl) fun _ => d_call oL (d_l k.enc rfl fun _ => d_l (.bool true) rfl fun _ => d_l _ (e_okc (Ty.okc_enc k)) fun _ => d_call oN (d_l (.sl [(nmT m (path ++ [u]) k).enc]) (e_lst fun x hx => by simp at hx; subst hx; exact Ty.okc_enc _) fun _ => d_l _ (e_app (fun x hx => by simp at hx; subst hx; exact Ty.okc_enc _) (by simp; omega) (by simp; omega)) fun _ => d_l _ (e_inc (by omega)) fun _ => d_cont rfl ⟨m2 - 1, by omega, q + 1, by omega, ?_⟩))
          rw [step k (by rw [hko, hkk])]; rfl
      · have he : u.labels = [] := by
          have : u.labels.length = 0 := by omega
          exact List.eq_nil_of_length_eq_zero this
        have hoe : ordK u = u.kids := by unfold ordK; rw [if_pos he]
        have oN := ih (path ++ [u]) u.kids[q] (hK _ hkq) hp2 (by omega)
        refine d_call oN (d_l (.sl [(nmT m (path ++ [u]) u.kids[q]).enc]) (e_lst fun x hx => by simp at hx; subst hx; exact Ty.okc_enc _) fun _ => d_l _ (e_app (fun x hx => by simp at hx; subst hx; exact Ty.okc_enc _) (by simp; omega) (by simp; omega)) fun _ => d_l _ (e_inc (by omega)) fun _ => d_cont rfl ⟨m2 - 1, by omega, q + 1, by omega, ?_⟩)
        rw [step u.kids[q] (by simp only [hoe])]; rfl
    · have e : ((ordK u).map (nmT m (path ++ [u]))).take q = (ordK u).map (nmT m (path ++ [u])) := List.take_of_length_le (by omega)
      rw [e]
      exact wrap_loop (by omega) (by omega) (fun t ht => by
        obtain ⟨x, hx, rfl⟩ := List.mem_map.1 ht
        exact nmT_ln (by omega) m _ x (hK x (ordK_mem hS (by omega) hx))) (path.map Ty.enc) (by simp) _ rfl
end Go.Proofs.YtopinhoalbgebaaGreatDoor.Tx

/- The normal tree (5): what is used on the path. -/
namespace Go.Proofs.YtopinhoalbgebaaGreatDoor.Tx
open Go.Lf Go.Lf.S Go.Lf.Duo
set_option maxRecDepth 100000

/-! the set of used places -/
def mpU (l : List Nat) : PV := .mp (l.map fun m : Nat => i (m : Int)) (l.map fun _ => .bool true)
def idxN : List Nat → Nat → Nat → Option Nat
  | [], _, _ => none
  | k :: r, a, j => if a = k then some j else idxN r a (j + 1)
theorem kfN_go (a : Nat) : ∀ (l : List Nat) (j : Nat), PV.kfindGo false [.i .i64] (i (a : Int)) (l.map fun m : Nat => i (m : Int)) j = some (idxN l a j)
  | [], j => rfl
  | k :: r, j => by
    have h : PV.keq false [.i .i64] (i (a : Int)) (i (k : Int)) = some (decide (a = k)) := by
      have e : decide ((a : Int) = (k : Int)) = decide (a = k) := by
        by_cases c : a = k
        · simp [c]
        · simp [c]; omega
      by_cases c : a = k <;> simp [PV.keq, PV.okc, PV.cells, PV.isAg, PV.isCell, PV.sameK, PV.same1, c, e]
    simp only [List.map_cons, PV.kfindGo, h, idxN]
    by_cases e : a = k
    · simp [e]
    · simp only [e, decide_false, if_false]; exact kfN_go a r (j + 1)
theorem kfN (a : Nat) (l : List Nat) : PV.kfind false [.i .i64] (i (a : Int)) (l.map fun m : Nat => i (m : Int)) = some (idxN l a 0) := by
  unfold PV.kfind
  rw [if_pos (show (i (a : Int)).okc ([CK.i .i64] : List CK).length false = true from rfl)]; exact kfN_go a l 0
theorem idxN_none : ∀ (l : List Nat) (a j : Nat), idxN l a j = none ↔ a ∉ l
  | [], a, j => by simp [idxN]
  | k :: r, a, j => by
    unfold idxN
    split
    · rename_i h; simp [h]
    · rename_i h; rw [idxN_none r a (j + 1)]; simp [h]
theorem idxN_some : ∀ (l : List Nat) (a j q : Nat), idxN l a j = some q → j ≤ q ∧ l[q - j]? = some a ∧ l.eraseIdx (q - j) = l.erase a
  | [], a, j, q, h => by cases h
  | k :: r, a, j, q, h => by
    unfold idxN at h
    split at h
    · rename_i e
      cases h
      subst e
      simp
    · rename_i e
      obtain ⟨h1, h2, h3⟩ := idxN_some r a (j + 1) q h
      have hq : q - j = (q - (j + 1)) + 1 := by omega
      refine ⟨by omega, by rw [hq, List.getElem?_cons_succ]; exact h2, ?_⟩
      rw [hq, List.eraseIdx_cons_succ, h3, List.erase_cons_tail (by simpa using fun c => e c.symm)]
def insU (l : List Nat) (a : Nat) : List Nat := if a ∈ l then l else l ++ [a]
theorem ev_getU (l : List Nat) (a : Nat) : (Prim.mget false [.i .i64] (.bool false)).ev [mpU l, i (a : Int)] = some (.bool (decide (a ∈ l))) := by
  show (match PV.kfind false [.i .i64] (i (a : Int)) (l.map fun m : Nat => i (m : Int)) with
      | some (some i) => (l.map fun _ => PV.bool true)[i]?
      | some none => some (PV.bool false)
      | none => none) = _
  rw [kfN]
  cases h : idxN l a 0 with
  | none => simp [(idxN_none l a 0).1 h]
  | some q =>
    obtain ⟨_, h2, _⟩ := idxN_some l a 0 q h
    have hm : a ∈ l := List.mem_of_getElem? h2
    simp only [Nat.sub_zero] at h2
    simp [h2, hm]
theorem ev_setU (l : List Nat) (a : Nat) : (Prim.mset false [.i .i64]).ev [mpU l, i (a : Int), .bool true] = some (mpU (insU l a)) := by
  show (match PV.kfind false [.i .i64] (i (a : Int)) (l.map fun m : Nat => i (m : Int)) with
      | some (some j) => some (PV.mp ((l.map fun m : Nat => i (m : Int)).set j (i (a : Int))) ((l.map fun _ => PV.bool true).set j (PV.bool true)))
      | some none => some (PV.mp ((l.map fun m : Nat => i (m : Int)) ++ [i (a : Int)]) ((l.map fun _ => PV.bool true) ++ [PV.bool true]))
      | none => none) = _
  rw [kfN]
  unfold insU
  cases h : idxN l a 0 with
  | none => rw [if_neg ((idxN_none l a 0).1 h)]; simp [mpU]
  | some q =>
    obtain ⟨_, h2, _⟩ := idxN_some l a 0 q h
    rw [if_pos (List.mem_of_getElem? h2)]
    simp only [Nat.sub_zero] at h2
    obtain ⟨hq, hqa⟩ := List.getElem?_eq_some_iff.1 h2
    have e1 : (l.map fun m : Nat => i (m : Int)).set q (i (a : Int)) = l.map fun m : Nat => i (m : Int) := by
      rw [show i (a : Int) = (l.map fun m : Nat => i (m : Int))[q]'(by simpa using hq) by simp [hqa]]
      exact List.set_getElem_self _
    have e2 : (l.map fun _ => PV.bool true).set q (PV.bool true) = l.map fun _ => PV.bool true := by
      rw [show (l.map fun _ : Nat => PV.bool true) = List.replicate l.length (PV.bool true) by simp [List.map_const'], List.set_replicate_self]
    simp only [e1, e2]; rfl
theorem map_eraseIdx' {α β : Type} (f : α → β) : ∀ (l : List α) (j : Nat), (l.map f).eraseIdx j = (l.eraseIdx j).map f
  | [], j => by simp
  | a :: r, 0 => by simp
  | a :: r, j + 1 => by simp [map_eraseIdx' f r j]
theorem ev_delU (l : List Nat) (a : Nat) : (Prim.mdel false [.i .i64]).ev [mpU l, i (a : Int)] = some (mpU (l.erase a)) := by
  show (match PV.kfind false [.i .i64] (i (a : Int)) (l.map fun m : Nat => i (m : Int)) with
      | some (some j) => some (PV.mp ((l.map fun m : Nat => i (m : Int)).eraseIdx j) ((l.map fun _ => PV.bool true).eraseIdx j))
      | some none => some (PV.mp (l.map fun m : Nat => i (m : Int)) (l.map fun _ => PV.bool true))
      | none => none) = _
  rw [kfN]
  cases h : idxN l a 0 with
  | none => rw [List.erase_of_not_mem ((idxN_none l a 0).1 h)]; rfl
  | some q =>
    obtain ⟨_, _, h3⟩ := idxN_some l a 0 q h
    simp only [Nat.sub_zero] at h3
    rw [← h3]
    simp only [map_eraseIdx']; rfl

noncomputable def usedT : Nat → List Ty → Ty → List Nat → List Nat
  | 0, _, _, l => l
  | m + 1, path, T, l => if (unfT T).kind ≤ 3 then l else
      match fnd path (unfT T) with
      | some j => insU l j
      | none => ((ordK (unfT T)).foldl (fun l k => usedT m (path ++ [unfT T]) k l) l).erase path.length
structure Used (pl : Nat) (l l' : List Nat) (us : ByteArray → Bool) : Prop where
  nd : l'.Nodup
  lt : ∀ j ∈ l', j < pl
  mem : ∀ j, j < pl → (j ∈ l' ↔ j ∈ l ∨ us (nmB j) = true)
theorem usB_node {u : Ty} (h : act u.kind = true) (s : ByteArray) (ts : List Ty) : usB s (nodeT u ts) = ts.any (usB s) := by
  have : ¬ u.kind = 9 := by
    simp only [act, decide_eq_true_eq] at h; omega
  rw [nodeT, usB_mk]; simp [this]
theorem usB_wrap (s : ByteArray) (m : Nat) (t : Ty) : usB s (wrapT m t) = usB s t := by
  unfold wrapT
  split
  · rw [usB_mk]; simp
  · rfl
theorem usedT_spec {L : List Ty} {M : Nat} (hM : M ≤ 549755813888) : ∀ (m : Nat) (path : List Ty) (T : Ty) (l : List Nat), CL L M T → POk L M path → L.length < path.length + m → l.Nodup → (∀ j ∈ l, j < path.length) →
    Used path.length l (usedT m path T l) fun s => usB s (nmT m path T) := by
  intro m
  induction m with
  | zero => intro path T l _ hp hm; have := hp.len; omega
  | succ m ih =>
  intro path T l hT hp hm hn hl
  have hS := hT.unf.2.1
  by_cases h3 : (unfT T).kind ≤ 3
  · rw [nmT_lit h3, usedT, if_pos h3]
    refine ⟨hn, hl, fun j hj => ?_⟩
    simp only [litT]
    rw [usB_mk]
    have : ¬ (unfT T).kind = 9 := by omega
    simp [this]
  have hact : act (unfT T).kind = true := by
    have := hS.k1
    simp only [act, decide_eq_true_eq]; omega
  cases hf : fnd path (unfT T) with
  | some j =>
    obtain ⟨hj, _⟩ := fnd_some hf
    rw [nmT_var h3 hf hj, usedT, if_neg h3, hf]
    have hus : ∀ q, usB (nmB q) (varT j (off path[j] (unfT T))) = decide (j = q) := fun q => by
      simp only [varT]
      rw [usB_mk]
      by_cases e : j = q
      · simp [e]
      · have : nmB j ≠ nmB q := fun c => e (nmB_inj c)
        simp [e, this]
    unfold insU
    refine ⟨?_, fun q hq => ?_, fun q hq => ?_⟩
    · simp only; split
      · exact hn
      · rename_i hno
        rw [List.nodup_append]
        exact ⟨hn, by simp, fun a ha b hb => by simp at hb; rintro rfl; exact hno (hb ▸ ha)⟩
    · simp only at hq; split at hq
      · exact hl q hq
      · rcases List.mem_append.1 hq with h | h
        · exact hl q h
        · rw [List.mem_singleton.1 h]; exact hj
    · simp only [hus]
      split
      · rename_i hjl
        constructor
        · exact fun h => .inl h
        · rintro (h | h)
          · exact h
          · rw [← of_decide_eq_true h]; exact hjl
      · simp only [List.mem_append, List.mem_singleton, decide_eq_true_eq]
        constructor <;> rintro (h | h) <;> first | exact .inl h | exact .inr h.symm
  | none =>
    rw [nmT_node h3 hf, usedT, if_neg h3, hf]
    simp only
    have hp2 := hp.snoc hT hact hf
    have hp2l : (path ++ [unfT T]).length = path.length + 1 := by simp
    have hK : ∀ k ∈ ordK (unfT T), CL L M k := fun k hk => hT.unf.2.2 k (ordK_mem hS hM hk)
    have key : ∀ (ks : List Ty) (l : List Nat), (∀ k ∈ ks, CL L M k) → l.Nodup → (∀ j ∈ l, j < path.length + 1) →
        Used (path.length + 1) l (ks.foldl (fun l k => usedT m (path ++ [unfT T]) k l) l) fun s => (ks.map (nmT m (path ++ [unfT T]))).any (usB s) := by
      intro ks
      induction ks with
      | nil => exact fun l _ h1 h2 => ⟨h1, h2, fun j hj => by simp⟩
      | cons k ks ihk =>
        intro l hc h1 h2
        have g := ih (path ++ [unfT T]) k l (hc k (by simp)) hp2 (by omega) h1 (by rw [hp2l]; exact h2)
        rw [hp2l] at g
        have g2 := ihk _ (fun k hk => hc k (by simp [hk])) g.nd g.lt
        refine ⟨g2.nd, g2.lt, fun j hj => ?_⟩
        rw [List.foldl_cons, g2.mem j hj, g.mem j hj]
        simp only [List.map_cons, List.any_cons, Bool.or_eq_true, or_assoc]
    have g := key (ordK (unfT T)) l hK hn fun j hj => by have := hl j hj; omega
    refine ⟨g.nd.erase _, fun j hj => ?_, fun j hj => ?_⟩
    · have h1 := g.lt j (List.mem_of_mem_erase hj)
      have h2 : j ≠ path.length := fun e => by subst e; exact g.nd.not_mem_erase hj
      omega
    · rw [usB_wrap, usB_node hact, List.mem_erase_of_ne (by omega), g.mem j (by omega)]
end Go.Proofs.YtopinhoalbgebaaGreatDoor.Tx

/- The normal tree (6): what the reader computes. -/
namespace Go.Proofs.YtopinhoalbgebaaGreatDoor.Tx
open Go.Lf Go.Lf.S Go.Lf.Duo
set_option maxRecDepth 100000

theorem d_callvs {P : Program} {K : PV → Prop} {hs : List (List PV → Prop)} {f : Nat} {s : Sig} {xs : List PV} {k : List PV → T PV} {ys : List PV} (hl : ys.length = s.nout) (h : OkS P f s xs ys) (hk : (k ys).den0 P K hs) : (T.callvs (.fn f [] []) s xs k).den0 P K hs := ⟨ys, hl, ⟨f, rfl, h⟩, hk⟩
theorem ok_name {m : Nat} (h : m < 100) : Ok P F.readback_name [i (m : Int)] (.str (nmB m)) :=
  k_readback_name _ _ rfl (d_call (ok_Itoa m h) (d_l _ (ev_name h) fun _ => d_ret rfl))

/-! labels in order -/
theorem itsV_Values (ls : List ByteArray) (hl : ls.length ≤ 549755813888) : ItsV P (.fn F.slices_Values_string_string_1 [] [.box (.sl (ls.map .str))]) (ls.map fun s => [.str s]) := by
  refine ⟨_, _, rfl, fun X hX s0 s' hr => ?_⟩
  refine x_slices_Values_string_string_1 X hX [.nilI, .box (.sl (ls.map .str)), s0] _ _ ?_
  letI : Gl := { l := gl.l, x := X }
  refine d_l (.sl (ls.map .str)) rfl fun _ => d_l _ e_len fun _ => ?_
  refine den_loop (fun m ys => ∃ (j : Nat) (st : PV), j + m = ls.length ∧ X.runs ((ls.drop j).map fun s => [PV.str s]) st = some s' ∧ ys = [i j, st]) ls.length ⟨0, s0, by omega, hr, rfl⟩ ?_
  rintro m _ ⟨j, st, hj, hru, rfl⟩
  refine d_l _ rfl fun _ => d_dec (fun h => ?_) fun h => ?_
  · have h : (j : Int) < ((ls.map PV.str).length : Int) := h
    have hlt : j < ls.length := by simp at h; omega
    have he : (ls.map PV.str)[j]? = some (.str ls[j]) := by simp [hlt]
    rw [List.drop_eq_getElem_cons hlt, List.map_cons] at hru
    obtain ⟨b, s1, h1, h2, h3⟩ := runs_step hru
    refine d_l _ (e_idx he rfl) fun _ => d_yld h1 (d_l (.bool !b) rfl fun _ => d_ite (fun hb => ?_) fun hb => ?_)
    · have hb : b = false := by simpa using hb
      exact d_ret (by rw [h3 hb])
    · have hb : b = true := by simpa using hb
      exact d_l _ (e_inc (by omega)) fun _ => d_cont rfl ⟨m - 1, by omega, j + 1, s1, by omega, h2 hb, rfl⟩
  · have h : ¬ (j : Int) < ((ls.map PV.str).length : Int) := h
    simp at h
    rw [List.drop_eq_nil_of_le (by omega)] at hru
    exact d_ret (by rw [show st = s' from Option.some.inj hru]; rfl)
theorem okS_Collect_str (x : PV) (ls : List ByteArray) (h : ItsV P x (ls.map fun s => [.str s])) (hl : ls.length ≤ 549755813888) : OkS P F.slices_Collect_string sg_slices_Collect_string [x] [.sl (ls.map .str)] := by
  have h1 : OkS P F.slices_AppendSeq_string_string sg_slices_AppendSeq_string_string [x] [.sl (ls.map .str)] := by
    refine m_slices_AppendSeq_string_string _ _ ?_
    refine d_iter h (fun y hy => by obtain ⟨p, _, rfl⟩ := List.mem_map.1 hy; rfl) (fun j zs => zs = [.sl ((ls.take j).map .str)]) rfl ?_ ?_
    · rintro j y hy _ rfl
      simp only [List.getElem?_map, Option.map_eq_some_iff] at hy
      obtain ⟨p, hp, rfl⟩ := hy
      obtain ⟨hj, hp⟩ := List.getElem?_eq_some_iff.1 hp
      refine ⟨[.sl ((ls.take (j + 1)).map .str)], d_l (.sl [.str p]) (e_lst (by intro x hx; simp at hx; subst hx; rfl)) fun _ => d_l (.sl ((ls.take j).map .str ++ [.str p])) (e_app (l := (ls.take j).map .str) (m := [.str p]) (by intro x hx; simp at hx; subst hx; rfl) (by simp; omega) (by simp; omega)) fun _ => d_cont rfl ?_, rfl⟩
      rw [List.take_succ_eq_append_getElem hj, hp, List.map_append]; rfl
    · rintro zs hz
      rw [List.length_map, List.take_length] at hz
      subst hz
      exact d_ret rfl
  exact m_slices_Collect_string _ _ (d_calls rfl h1 (d_ret rfl))

theorem bl_mk (x y : List UInt8) : bl ⟨x.toArray⟩ ⟨y.toArray⟩ = true ↔ x < y := by
  rw [bl_iff, Lib.toList_data, Lib.toList_data]
theorem sorted_merge (zs : List (List UInt8)) : (zs.mergeSort fun x y => decide (x ≤ y)).Pairwise fun a b => a ≤ b := by
  have := List.pairwise_mergeSort (le := fun x y : List UInt8 => decide (x ≤ y)) (fun a b c h1 h2 => by
    simp only [decide_eq_true_eq] at *
    exact List.le_trans h1 h2) (fun a b => by
    simp only [Bool.or_eq_true, decide_eq_true_eq]
    exact List.le_total a b) zs
  exact this.imp fun h => by simpa using h
theorem ofB_mk (b : ByteArray) : (⟨(ofB b).toArray⟩ : ByteArray) = b := by unfold ofB; rfl
theorem ok_head_Labels {ds : List Nd} (a : Nat) (ha : a < ds.length) (s : Int) (hn : (ds[a]).labels.Nodup) (h0 : (ds[a]).labels ≠ []) (hl : (ds[a]).labels.length ≤ 549755813888) : Ok P F.head_Labels [.agg [.sl (ds.map Nd.enc)], ref a s] (.sl ((srt (ds[a]).labels).map .str)) := by
  generalize hls : (ds[a]).labels = ls at *
  have hV : Ok P F.slices_Values_string_string [.sl (ls.map .str)] (.fn F.slices_Values_string_string_1 [] [.box (.sl (ls.map .str))]) :=
    k_slices_Values_string_string _ _ rfl (d_l (.sl (ls.map .str)) rfl fun _ => d_ret rfl)
  have hC := okS_Collect_str _ ls (itsV_Values ls hl) hl
  have hzs : ls.map PV.str = (ls.map ofB).map strL := by rw [List.map_map]; exact List.map_congr_left fun b _ => (strL_ofB b).symm
  have hS := okS_SortS (ls.map ofB) (by simpa using h0) (by rw [List.length_map]; omega)
  have hsrt : ((ls.map ofB).mergeSort fun x y => decide (x ≤ y)).map strL = (srt ls).map .str := by
    obtain ⟨g1, g2, g3, _⟩ := srt_spec hn hl
    have hp := List.mergeSort_perm (ls.map ofB) fun x y => decide (x ≤ y)
    have e : ((ls.map ofB).mergeSort fun x y => decide (x ≤ y)).map (fun l => (⟨l.toArray⟩ : ByteArray)) = srt ls := by
      obtain ⟨o, _, o1, o2, o3⟩ := ok_Sorted ls hl
      rw [srt_eq hn o1 o2 o3]
      have pw1 : (((ls.map ofB).mergeSort fun x y => decide (x ≤ y)).map (fun l => (⟨l.toArray⟩ : ByteArray))).Pairwise fun a b => bl b a = false := by
        rw [List.pairwise_map]
        refine (sorted_merge _).imp fun {x y} h => ?_
        cases hb : bl ⟨y.toArray⟩ ⟨x.toArray⟩ with
        | false => rfl
        | true => exact absurd h (List.not_le.2 ((bl_mk y x).1 hb))
      have pw2 : o.Pairwise fun a b => bl b a = false := by
        rw [List.pairwise_iff_getElem]
        intro i j hi hj hij
        exact o3 i j _ _ hi hij (List.getElem?_eq_getElem hi) (List.getElem?_eq_getElem hj)
      refine List.Perm.eq_of_pairwise (le := fun a b => bl b a = false) (fun a b _ _ g1 g2 => bl_total g2 g1) pw1 pw2 ?_
      have q1 : (((ls.map ofB).mergeSort fun x y => decide (x ≤ y)).map (fun l => (⟨l.toArray⟩ : ByteArray))).Perm ls := by
        have := hp.map (fun l => (⟨l.toArray⟩ : ByteArray))
        rw [List.map_map, show ((fun l => (⟨l.toArray⟩ : ByteArray)) ∘ ofB) = id from funext ofB_mk, List.map_id] at this
        exact this
      refine q1.trans ?_
      rw [List.perm_ext_iff_of_nodup hn (o2.nodup hn)]
      exact fun s => (o2.mem s).symm
    rw [← e, List.map_map]
    exact List.map_congr_left fun l _ => rfl
  have hSo : Ok P F.slices_Sorted_string [.fn F.slices_Values_string_string_1 [] [.box (.sl (ls.map .str))]] (.sl ((srt ls).map .str)) := by
    rw [← hzs] at hS
    rw [hsrt] at hS
    exact k_slices_Sorted_string _ _ rfl (d_calls rfl hC (d_calls rfl hS (d_ret rfl)))
  have hidx : (Prim.idx 4 true).ev [.sl (ds.map Nd.enc), i (a : Int)] = some (ds[a]).enc := e_idx (nd_at ha) (Nd.okc_enc _)
  refine k_head_Labels _ _ rfl (d_l (.agg [.sl (ds.map Nd.enc)]) rfl fun _ => d_l (ref a s) rfl fun _ => d_l _ hidx fun _ => ?_)
  have hl2 : c 2 (ds[a]).enc = .sl (ls.map .str) := by rw [← hls]; rfl
  rw [hl2]
  exact d_call hV (d_call hSo (d_ret rfl))
end Go.Proofs.YtopinhoalbgebaaGreatDoor.Tx

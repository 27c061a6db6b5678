/- Contracts (Wk188, Wk189). -/
import Derived.Test.YtopinhoalbgebaaGreatDoorWk187
import Derived.Test.YtopinhoalbgebaaGreatDoorWk172
import Derived.Test.YtopinhoalbgebaaGreatDoorWk179
set_option linter.all false
/- Texts of trees (3): what the program shows. -/
namespace Go.Proofs.YtopinhoalbgebaaGreatDoor.Tx
open Go.Lf Go.Lf.S Go.Lf.Duo Go.RowKit
set_option maxRecDepth 100000

def itoaLays_ren : Go.Shelf.Ren := ⟨fun | 171 => 78 | 243 => 94 | 246 => 109 | 283 => 119 | 284 => 120 | 285 => 121 | 286 => 122 | 129 => 129 | 317 => 128 | 318 => 130 | 319 => 131 | 320 => 132 | 337 => 145 | 338 => 146 | n => n, fun | 3 => 3 | 9 => 9 | 2 => 2 | 4 => 4 | 171 => 153 | 0 => 0 | 53 => 154 | 37 => 143 | 5 => 5 | 173 => 157 | 212 => 165 | 51 => 166 | 20 => 20 | 213 => 167 | 46 => 162 | 232 => 186 | 233 => 187 | n => n, fun | 17 => 1 | 18 => 3 | 19 => 4 | n => n⟩
theorem itoaLays : Go.Proofs.LaysM.n171 Tryz.prog itoaLays_ren where
  mixed := by kernel_rfl
  f129 := Tryz.func129.trans (congrArg some (by kernel_rfl))
  f171 := Tryz.func78.trans (congrArg some (by kernel_rfl))
  f243 := Tryz.func94.trans (congrArg some (by kernel_rfl))
  f246 := Tryz.func109.trans (congrArg some (by kernel_rfl))
  f283 := Tryz.func119.trans (congrArg some (by kernel_rfl))
  f284 := Tryz.func120.trans (congrArg some (by kernel_rfl))
  f285 := Tryz.func121.trans (congrArg some (by kernel_rfl))
  f286 := Tryz.func122.trans (congrArg some (by kernel_rfl))
  f317 := Tryz.func128.trans (congrArg some (by kernel_rfl))
  f318 := Tryz.func130.trans (congrArg some (by kernel_rfl))
  f319 := Tryz.func131.trans (congrArg some (by kernel_rfl))
  f320 := Tryz.func132.trans (congrArg some (by kernel_rfl))
  f337 := Tryz.func145.trans (congrArg some (by kernel_rfl))
  f338 := Tryz.func146.trans (congrArg some (by kernel_rfl))
  t0 := Tryz.underlying0
  a0 := Tryz.isAgg0
  z0 := Tryz.sizeOf0
  v0 := Tryz.zeroValue0
  t2 := Tryz.underlying2
  a2 := Tryz.isAgg2
  z2 := Tryz.sizeOf2
  v2 := Tryz.zeroValue2
  t3 := Tryz.underlying3
  a3 := Tryz.isAgg3
  z3 := Tryz.sizeOf3
  v3 := Tryz.zeroValue3
  t4 := Tryz.underlying4
  a4 := Tryz.isAgg4
  z4 := Tryz.sizeOf4
  v4 := Tryz.zeroValue4
  t5 := Tryz.underlying5
  a5 := Tryz.isAgg5
  z5 := Tryz.sizeOf5
  v5 := Tryz.zeroValue5
  t9 := Tryz.underlying9
  a9 := Tryz.isAgg9
  z9 := Tryz.sizeOf9
  v9 := Tryz.zeroValue9
  t20 := Tryz.underlying20
  a20 := Tryz.isAgg20
  z20 := Tryz.sizeOf20
  v20 := Tryz.zeroValue20
  t37 := Tryz.underlying143
  a37 := Tryz.isAgg143
  z37 := Tryz.sizeOf143
  v37 := Tryz.zeroValue143
  t46 := Tryz.underlying162
  a46 := Tryz.isAgg162
  z46 := Tryz.sizeOf162
  v46 := Tryz.zeroValue162
  t51 := Tryz.underlying166
  a51 := Tryz.isAgg166
  z51 := Tryz.sizeOf166
  v51 := Tryz.zeroValue166
  t53 := Tryz.underlying154
  a53 := Tryz.isAgg154
  z53 := Tryz.sizeOf154
  v53 := Tryz.zeroValue154
  t171 := Tryz.underlying153
  a171 := Tryz.isAgg153
  z171 := Tryz.sizeOf153
  v171 := Tryz.zeroValue153
  t173 := Tryz.underlying157
  a173 := Tryz.isAgg157
  z173 := Tryz.sizeOf157
  v173 := Tryz.zeroValue157
  t212 := Tryz.underlying165
  a212 := Tryz.isAgg165
  z212 := Tryz.sizeOf165
  v212 := Tryz.zeroValue165
  t213 := Tryz.underlying167
  a213 := Tryz.isAgg167
  z213 := Tryz.sizeOf167
  t232 := Tryz.underlying186
  a232 := Tryz.isAgg186
  z232 := Tryz.sizeOf186
  v232 := Tryz.zeroValue186
  t233 := Tryz.underlying187
  a233 := Tryz.isAgg187
  z233 := Tryz.sizeOf187
  v233 := Tryz.zeroValue187
  g17 := by kernel_rfl
  g18 := by kernel_rfl
  g19 := by kernel_rfl
  i0 := by kernel_rfl
  i2 := by kernel_rfl
  i3 := by kernel_rfl
  i4 := by kernel_rfl
  i5 := by kernel_rfl
  i9 := by kernel_rfl
  i20 := by kernel_rfl
  i37 := by kernel_rfl
  i46 := by kernel_rfl
  i51 := by kernel_rfl
  i53 := by kernel_rfl
  i171 := by kernel_rfl
  i173 := by kernel_rfl
  i212 := by kernel_rfl
  i232 := by kernel_rfl
  i233 := by kernel_rfl
  m17 := by kernel_rfl
  m18 := by kernel_rfl
  m19 := by kernel_rfl
theorem tab10 {G : Nat → Nat → Prop} {w : World} (h : GlOk G w) : Lib.TabIs P w "internal/strconv.uint64pow10" .u64 Lib.pow10Tab := by
  obtain ⟨h1, h2, h3, cs, t, fr, hb, hsz⟩ := h _ (List.mem_singleton.2 rfl)
  have hsz : cs.size = 20 := hsz
  have hb : w.heap[1]? = some (.cells cs t fr) := hb
  have hg : P.globalNamed "internal/strconv.uint64pow10" = some 1 := by kernel_rfl
  unfold Lib.TabIs World.var?
  rw [hg]
  simp only [Option.bind_some, hb]
  congr 1
  have hx : (PV.agg (Lib.pow10Tab.map fun z => PV.int .u64 z)) = .agg [(.int .u64 (1)), (.int .u64 (10)), (.int .u64 (100)), (.int .u64 (1000)), (.int .u64 (10000)), (.int .u64 (100000)), (.int .u64 (1000000)), (.int .u64 (10000000)), (.int .u64 (100000000)), (.int .u64 (1000000000)), (.int .u64 (10000000000)), (.int .u64 (100000000000)), (.int .u64 (1000000000000)), (.int .u64 (10000000000000)), (.int .u64 (100000000000000)), (.int .u64 (1000000000000000)), (.int .u64 (10000000000000000)), (.int .u64 (100000000000000000)), (.int .u64 (1000000000000000000)), (.int .u64 (10000000000000000000))] := by kernel_rfl
  have h2 : Rep G w (.pointer (some ⟨1, 0, none⟩)) (.box (.agg (Lib.pow10Tab.map fun z => PV.int .u64 z))) := by rw [hx]; exact h2
  cases h2 with
  | box _ _ _ g hc hgg hr =>
    have hl : Lib.pow10Tab.length = 20 := Lib.pow10Tab_length
    refine Array.ext (by simp [hsz, hl]) fun j h1 h2 => ?_
    have hj : j < Lib.pow10Tab.length := by omega
    have hy : (PV.agg (Lib.pow10Tab.map fun z => PV.int .u64 z)).cells[j]? = some (.int .u64 Lib.pow10Tab[j]) := by
      show (Lib.pow10Tab.map fun z => PV.int .u64 z)[j]? = _
      simp [hj]
    have e1 := (hgg j _ hy).2
    have e2 := rep_int (hr j _ hy)
    rw [Nat.zero_add, cell_of_row w 1 j cs t fr hb, e2] at e1
    rw [Array.getElem?_eq_getElem h1] at e1
    simp [Option.some.inj e1]
theorem ok_ItoaG (m : Nat) (hm : m ≤ 9223372036854775807) : Ok P F.strconv_Itoa [i (m : Int)] (.str (mkB (Lib.decDigits m))) := by
  have hent : Enters P F.strconv_Itoa := by
    obtain ⟨c, hc⟩ : ∃ c, Tryz.f78.body = some c := ⟨_, rfl⟩
    exact Go.Lf.enters_of (f := 78) Tryz.func78 hc (by decide)
  refine ⟨hent, fun G w vs hF hgl hargs => ?_⟩
  have hvs : vs = #[.int .i64 m] := by
    obtain ⟨h1, h2⟩ := hargs
    have h1 : vs.size = 1 := h1
    have h0 : vs[0]? = some (vs[0]'(by omega)) := Array.getElem?_eq_getElem (by omega)
    have h3 := h2 0 _ (i (m : Int)) h0 rfl
    have h4 : vs[0]'(by omega) = .int .i64 m := rep_int h3
    apply Array.ext (by simpa using h1)
    intro q hq1 hq2
    have : q = 0 := by simp at hq2; omega
    subst this
    simpa using h4
  subst hvs
  have := Any.strconv_Itoa itoaLays m (by omega) (by omega) w (tab10 hgl)
  refine Calls.mono (show Calls P F.strconv_Itoa #[.int .i64 m] w _ from this) ?_
  rintro e w' ⟨rfl, k, os, rfl⟩
  rw [Lib.itoa_nonneg]
  refine ⟨_, G, rfl, ⟨rfl, rfl, rfl, by simp [Go.Sort.grow, World.drewN], fun q hq => ?_⟩, fun _ _ h => h, fun _ _ h => .inl h, fun b o h => by have := hF b o h; simp [Go.Sort.grow, World.drewN]; omega, .str _⟩
  simp only [Go.Sort.grow, World.drewN]
  rw [Array.getElem?_append_left hq]

/-! the parts -/
theorem ok_join (l : List (List UInt8)) (hl : l.length ≤ 1000) (hb : (l.map List.length).sum ≤ 4398046511104) : Ok P F.show_join [.sl (l.map fun x => .str (mkB x))] (.str (mkB l.flatten)) := by
  have hmap : (l.map mkB).map (fun b => b.data.toList) = l := by
    rw [List.map_map]
    have : ((fun b : ByteArray => b.data.toList) ∘ mkB) = id := funext fun x => bl_mkB x
    rw [this, List.map_id]
  have hjf : Lib.join l [] = l.flatten := by
    cases l with
    | nil => rfl
    | cons x r =>
      rw [Lib.join_cons]
      unfold Lib.joinTail
      simp
  have hfl : l.flatten.length = (l.map List.length).sum := List.length_flatten
  have := ok_Join (l.map mkB) ⟨#[]⟩ (by simp; omega) (by rw [hmap]; show (Lib.join l []).length ≤ _; rw [hjf]; omega)
  rw [hmap, List.map_map] at this
  have h2 : Ok P F.strings_Join [.sl (l.map fun x => .str (mkB x)), .str ⟨#[]⟩] (.str (mkB l.flatten)) := by
    have e : (⟨(Lib.join l (⟨#[]⟩ : ByteArray).data.toList).toArray⟩ : ByteArray) = mkB l.flatten := by
      show mkB (Lib.join l []) = _
      rw [hjf]
    rw [e] at this
    exact this
  exact k_show_join _ _ rfl (d_call h2 (d_ret rfl))
theorem ok_unless (p : Int) (h0 : 0 ≤ p) (h1 : p ≤ 2000000000) (b : List UInt8) (hb : b.length ≤ 100) : Ok P F.show_unless [i p, .str (mkB b)] (.str (mkB (numB p ++ if 0 < p then b else []))) := by
  refine k_show_unless _ _ rfl (d_l (.bool (decide (p = 0))) rfl fun _ => d_dec (fun e => d_ret ?_) fun e => ?_)
  · have e : p = 0 := e
    subst e; rfl
  · have e : ¬ p = 0 := e
    have hp : 0 < p := by omega
    have o := ok_ItoaG p.toNat (by omega)
    rw [Int.toNat_of_nonneg h0] at o
    have hd := dec_len (u := p.toNat) (by omega)
    have hn : numB p = Lib.decDigits p.toNat := by unfold numB; rw [if_pos hp]
    rw [if_pos hp, hn]
    exact d_call o (d_l _ (ev_cat (by omega)) fun _ => d_ret rfl)
def TV : PV := .mp [i 1, i 2, i 3, i 4, i 5, i 6, i 7, i 9, i 8] [.fn F.show_fixed_1 [] [.box (.str ⟨#[105, 110, 116]⟩)], .fn F.show_fixed_1 [] [.box (.str ⟨#[98, 111, 111, 108]⟩)], .fn F.show_fixed_1 [] [.box (.str ⟨#[101, 110, 100]⟩)],
  .fn F.show_transmission_1 [] [.box (.str ⟨#[33]⟩)], .fn F.show_transmission_1 [] [.box (.str ⟨#[63]⟩)], .fn F.show_choice_1 [] [.box (.str ⟨#[43]⟩)], .fn F.show_choice_1 [] [.box (.str ⟨#[38]⟩)], .fn F.show_variable [] [], .fn F.show_types_1 [] []]
theorem goodT (n : Nat) : GoodEv P (evAll tb tbS 1000 n).1 (evAll tb tbS 1000 n).2 := evAll_good allOk allOkS n
theorem ok_types : Ok P F.show_types [] TV := (goodT 10).1 _ _ _ (by kernel_rfl)

theorem sep_loop {ks : List Ty} {X : PV} {f : Nat} {cs : List PV} {ts : List (List UInt8)} (hk : ks.length ≤ 549755813888) (hl : ts.length = ks.length) (hf : ∀ j (h : j < ks.length) (h2 : j < ts.length), Ok P f ([] ++ [i (j : Int), (ks[j]).enc] ++ cs) (.str (mkB ts[j]))) (hX : X = .fn f [] cs)
    (hb : (ts.map fun x => x.length + 2).sum ≤ 1099511627776) : Ok P F.show_separated_api_Type [.sl (ks.map Ty.enc), .str ⟨#[44, 32]⟩, X] (.str (mkB (Lib.join ts [44, 32]))) := by
  subst hX
  refine k_show_separated_api_Type _ _ rfl (d_l _ (len_ty ks) fun _ => den_loop (fun m' ys => ∃ j : Nat, j + m' = ks.length ∧ ys = [i j, .sl ((ts.take j).map fun x => .str (mkB x))]) ks.length ⟨0, by omega, rfl⟩ ?_)
  rintro m' _ ⟨j, hj, rfl⟩
  refine d_l (.bool (decide ((j : Int) < (ks.length : Int)))) rfl fun _ => d_dec (p := (j : Int) < (ks.length : Int)) (fun h => ?_) fun h => ?_
  · have h1 : j < ks.length := by omega
    have h2 : j < ts.length := by omega
    have hstep : (ts.take j).map (fun x => PV.str (mkB x)) ++ [.str (mkB ts[j])] = (ts.take (j + 1)).map fun x => PV.str (mkB x) := by
      rw [List.take_succ_eq_append_getElem h2, List.map_append]; rfl
    refine d_l _ (e_idx (ty_at' h1) (Ty.okc_enc _)) fun _ => d_l _ (e_okc (Ty.okc_enc _)) fun _ => d_callv (hf j h1 h2) (d_l (.sl [.str (mkB ts[j])]) (e_lst fun x hx => by simp at hx; subst hx; rfl) fun _ => d_l _ (e_app (fun x hx => by simp at hx; subst hx; rfl) (by simp; omega) (by simp; omega)) fun _ => d_l _ (e_inc (by omega)) fun _ => d_cont rfl ⟨m' - 1, by omega, j + 1, by omega, by rw [hstep] <;> rfl⟩)
  · have e : ts.take j = ts := List.take_of_length_le (by omega)
    have hj2 := join_len2 ts
    have hmap : (ts.map mkB).map (fun b => b.data.toList) = ts := by
      rw [List.map_map]
      have : ((fun b : ByteArray => b.data.toList) ∘ mkB) = id := funext fun x => bl_mkB x
      rw [this, List.map_id]
    have oJ := ok_Join (ts.map mkB) ⟨#[44, 32]⟩ (by simp; omega) (by rw [hmap]; show (Lib.join ts [44, 32]).length ≤ _; omega)
    rw [hmap, List.map_map] at oJ
    rw [e]
    exact d_call oJ (d_ret rfl)

theorem ok_show_Type : ∀ t : Ty, Tok t → Ln t → wt fL t ≤ 549755813888 → Ok P F.show_Type [t.enc] (.str (mkB (txB t))) := by
  intro t
  induction t using Ty.ind with
  | _ t ih =>
  intro hT hl hw
  have hbd := txB_len t hT
  have hT' := hT
  cases hT with
  | mk _ k1 k4 k5 k6 k8 k9 h =>
  cases hl with
  | mk _ l1 l2 l3 =>
  obtain ⟨kd, p, nm, sh, ls, ks⟩ := t
  simp only [Ty.kind, Ty.prio, Ty.kids, Ty.labels, Ty.name, Ty.shift] at k1 k4 k5 k6 k8 k9 h ih l1 l2 l3
  rw [wt_mk] at hw
  have hkn : ks.length ≤ 1000000000000 := by omega
  have wk : ∀ x ∈ ks, wt fL x ≤ 549755813888 := fun x hx => by
    have : wt fL x ≤ (ks.map (wt fL)).sum := mem_le_sum (List.mem_map.2 ⟨x, hx, rfl⟩)
    omega
  have ihk : ∀ x ∈ ks, Ok P F.show_Type [x.enc] (.str (mkB (txB x))) := fun x hx => ih x hx (h x hx) (l3 x hx) (wk x hx)
  have hlen := fun x (hx : x ∈ ks) => txB_len x (h x hx)
  have hlab := labB_sum ls (ks.map txB)
  have hsum := sum_le (l := ks) (f := fun x => (txB x).length) (g := wt fL) fun x hx => txB_len x (h x hx)
  rw [List.map_map] at hlab
  simp only [Function.comp_def] at hlab
  have hnl := bl_len nm
  have hokT : (PV.agg [i kd, i p, .str nm, i sh, .sl (ls.map .str), .sl (ks.map Ty.enc)]).okc 6 true = true := by have := Ty.okc_enc (.mk kd p nm sh ls ks); rwa [Ty.enc_mk] at this
  have hub : (Prim.unbox 6 true).ev [.box (.agg [i kd, i p, .str nm, i sh, .sl (ls.map .str), .sl (ks.map Ty.enc)])] = some (.agg [i kd, i p, .str nm, i sh, .sl (ls.map .str), .sl (ks.map Ty.enc)]) := by
    show (if (PV.agg [i kd, i p, .str nm, i sh, .sl (ls.map .str), .sl (ks.map Ty.enc)]).okc 6 true = true then some (PV.agg [i kd, i p, .str nm, i sh, .sl (ls.map .str), .sl (ks.map Ty.enc)]) else none) = _
    rw [if_pos hokT]
  -- payloads
  have pay : ∀ x ∈ ks, Ok P F.show_payload [x.enc] (.str (mkB (payB x.kind (txB x)))) := fun x hx => by
    have ox := ihk x hx
    have hxl := hlen x hx
    have hxw := wk x hx
    have yes : (x.kind = 1 ∨ x.kind = 2 ∨ x.kind = 3 ∨ x.kind = 9) → (Lf.T.call F.show_Type [x.enc] fun x2 => .ret x2).den0 P (· = .str (mkB (payB x.kind (txB x)))) [] := fun hk => by
      have hp : payB x.kind (txB x) = txB x := by unfold payB; rw [if_pos hk]
      rw [hp]; exact d_call ox (d_ret rfl)
    refine k_show_payload _ _ rfl (d_l x.enc (e_okc (Ty.okc_enc x)) fun _ => ?_)
    simp only [ty0]
    refine d_l (.bool (decide (x.kind = 1))) rfl fun _ => d_dec (fun h1 => yes (.inl h1)) fun h1 => ?_
    refine d_l (.bool (decide (x.kind = 2))) rfl fun _ => d_dec (fun h2 => yes (.inr (.inl h2))) fun h2 => ?_
    refine d_l (.bool (decide (x.kind = 3))) rfl fun _ => d_dec (fun h3 => yes (.inr (.inr (.inl h3)))) fun h3 => ?_
    refine d_l (.bool (decide (x.kind = 9))) rfl fun _ => d_dec (fun h9 => yes (.inr (.inr (.inr h9)))) fun h9 => ?_
    have hp : payB x.kind (txB x) = [40] ++ txB x ++ [41] := by
      unfold payB; rw [if_neg]
      rintro (c | c | c | c)
      · exact h1 c
      · exact h2 c
      · exact h3 c
      · exact h9 c
    have oj := ok_join [[40], txB x, [41]] (by simp) (by simp; omega)
    rw [hp]
    have e : ([[40], txB x, [41]] : List (List UInt8)).flatten = [40] ++ txB x ++ [41] := by simp
    rw [e] at oj
    exact d_call ox (d_l (.sl [.str (mkB [40]), .str (mkB (txB x)), .str (mkB [41])]) (e_lst fun y hy => by
      simp only [List.mem_cons, List.not_mem_nil, or_false] at hy
      rcases hy with rfl | rfl | rfl <;> rfl) fun _ => d_call oj (d_ret rfl))
  have hnm : PV.str nm = .str (mkB (bl8 nm)) := by rw [mkB_bl]
  -- by the table
  have via : ∀ (f : Nat) (cs : List PV), (Prim.mget2 false [.i .i64] .nilF).ev [TV, i kd] = some (.tup [.fn f [] cs, .bool true]) → Ok P f ([] ++ [.agg [i kd, i p, .str nm, i sh, .sl (ls.map .str), .sl (ks.map Ty.enc)]] ++ cs) (.str (mkB (txB (.mk kd p nm sh ls ks)))) → Ok P F.show_Type [.agg [i kd, i p, .str nm, i sh, .sl (ls.map .str), .sl (ks.map Ty.enc)]] (.str (mkB (txB (.mk kd p nm sh ls ks)))) := fun f cs hm ho =>
    k_show_Type _ _ rfl (d_l _ (e_okc hokT) fun _ => d_call ok_types (d_l _ hm fun _ => d_l (.fn f [] cs) rfl fun _ => d_l (.bool true) rfl fun _ => d_l (.bool false) rfl fun _ => d_false (d_callv ho (d_ret rfl))))
  rw [Ty.enc_mk]
  have fixd : ∀ (s : ByteArray), Ok P F.show_fixed_1 ([] ++ [.agg [i kd, i p, .str nm, i sh, .sl (ls.map .str), .sl (ks.map Ty.enc)]] ++ [.box (.str s)]) (.str s) := fun s =>
    k_show_fixed_1 _ _ rfl (d_l _ (e_okc hokT) fun _ => d_l (.str s) rfl fun _ => d_ret rfl)
  have two : 4 ≤ kd ∧ kd ≤ 5 → ∃ x y, ks = [x, y] := fun h => two_list (k5 h)
  have trans : 4 ≤ kd ∧ kd ≤ 5 → Ok P F.show_transmission_1 ([] ++ [.agg [i kd, i p, .str nm, i sh, .sl (ls.map .str), .sl (ks.map Ty.enc)]] ++ [.box (.str (mkB [sgn kd]))]) (.str (mkB (txB (.mk kd p nm sh ls ks)))) := fun hk => by
    have hp := k4 ⟨hk.1, by omega⟩
    obtain ⟨x, y, hxy⟩ := two hk
    have oU := ok_unless p hp.1 hp.2 [32] (by simp)
    have oX := pay x (by rw [hxy]; simp)
    have oY := ihk y (by rw [hxy]; simp)
    have hxl := hlen x (by rw [hxy]; simp)
    have hyl := hlen y (by rw [hxy]; simp)
    have hxw := wk x (by rw [hxy]; simp)
    have hyw := wk y (by rw [hxy]; simp)
    have hpl := payB_len x.kind (txB x)
    have hnu := numB_len hp.2
    have hul : (numB p ++ if 0 < p then [32] else []).length ≤ 30 := by
      rw [List.length_append]; split
      · simp; omega
      · simp; omega
    have e : txB (.mk kd p nm sh ls ks) = ([[sgn kd], numB p ++ (if 0 < p then [32] else []), payB x.kind (txB x), [46], txB y] : List (List UInt8)).flatten := by
      rw [txB_mk, hxy]
      unfold bodyB
      rw [if_neg (by omega), if_neg (by omega), if_neg (by omega), if_neg (by omega), if_neg (by omega), if_neg (by omega)]
      simp [kd0]
    have oj := ok_join [[sgn kd], numB p ++ (if 0 < p then [32] else []), payB x.kind (txB x), [46], txB y] (by simp) (by
      simp only [List.map_cons, List.map_nil, List.sum_cons, List.sum_nil, List.length_cons, List.length_nil]; omega)
    rw [e]
    subst hxy
    have i0 : (Prim.idx 6 true).ev [.sl ([x, y].map Ty.enc), i 0] = some x.enc := e_idx (k := 0) rfl (Ty.okc_enc x)
    have i1 : (Prim.idx 6 true).ev [.sl ([x, y].map Ty.enc), i 1] = some y.enc := e_idx (k := 1) rfl (Ty.okc_enc y)
    refine k_show_transmission_1 _ _ rfl (d_l _ (e_okc hokT) fun _ => d_l (.str (mkB [sgn kd])) rfl fun _ => d_call oU (d_l _ i0 fun _ => d_call oX (d_l _ i1 fun _ => d_call oY (d_l (.sl [.str (mkB [sgn kd]), .str (mkB (numB p ++ if 0 < p then [32] else [])), .str (mkB (payB x.kind (txB x))), .str (mkB [46]), .str (mkB (txB y))]) (e_lst fun z hz => by
      simp only [List.mem_cons, List.not_mem_nil, or_false] at hz
      rcases hz with rfl | rfl | rfl | rfl | rfl <;> rfl) fun _ => d_call oj (d_ret rfl)))))
  have cho : 6 ≤ kd ∧ kd ≤ 7 → Ok P F.show_choice_1 ([] ++ [.agg [i kd, i p, .str nm, i sh, .sl (ls.map .str), .sl (ks.map Ty.enc)]] ++ [.box (.str (mkB [sgn kd]))]) (.str (mkB (txB (.mk kd p nm sh ls ks)))) := fun hk => by
    have hp := k4 ⟨by omega, hk.2⟩
    have hlk := k6 hk
    have hll := labB_len ls (ks.map txB) (by simpa using hlk)
    have hnu := numB_len hp.2
    have oU := ok_unless p hp.1 hp.2 [] (by simp)
    have hue : (numB p ++ if 0 < p then ([] : List UInt8) else []) = numB p := by split <;> simp
    rw [hue] at oU
    have hb2 : ((labB ls (ks.map txB)).map fun x => x.length + 2).sum ≤ 549755813888 := by omega
    have oS := sep_loop (ks := ks) (X := .fn F.show_choice_1_1 [] [.box (.agg [i kd, i p, .str nm, i sh, .sl (ls.map .str), .sl (ks.map Ty.enc)])]) (ts := labB ls (ks.map txB)) l2 (by omega) (fun j h1 h2 => by
      have hat := labB_at ls (ks.map txB) j (by omega) (by simpa using h1) h2
      rw [List.getElem_map] at hat
      have hj : ((labB ls (ks.map txB))[j]).length + 2 ≤ ((labB ls (ks.map txB)).map fun x => x.length + 2).sum := mem_le_sum (List.mem_map.2 ⟨_, List.getElem_mem h2, rfl⟩)
      rw [hat] at hj ⊢
      simp only [List.length_append, List.length_cons, List.length_nil] at hj
      have oj := ok_join [bl8 (ls[j]'(by omega)), [58, 32], txB ks[j]] (by simp) (by
        simp only [List.map_cons, List.map_nil, List.sum_cons, List.sum_nil, List.length_cons, List.length_nil]; omega)
      have e : ([bl8 (ls[j]'(by omega)), [58, 32], txB ks[j]] : List (List UInt8)).flatten = bl8 (ls[j]'(by omega)) ++ [58, 32] ++ txB ks[j] := by simp
      rw [e] at oj
      have hlb : (Prim.idx 1 false).ev [.sl (ls.map .str), i (j : Int)] = some (.str (mkB (bl8 (ls[j]'(by omega))))) := by rw [mkB_bl]; exact e_idx (str_at (by omega)) rfl
      exact k_show_choice_1_1 _ _ rfl (d_l _ (e_okc (Ty.okc_enc _)) fun _ => d_l (.agg [i kd, i p, .str nm, i sh, .sl (ls.map .str), .sl (ks.map Ty.enc)]) hub fun _ => d_l _ hlb fun _ => d_call (ihk _ (List.getElem_mem h1)) (d_l (.sl [.str (mkB (bl8 (ls[j]'(by omega)))), .str (mkB [58, 32]), .str (mkB (txB ks[j]))]) (e_lst fun z hz => by
          simp only [List.mem_cons, List.not_mem_nil, or_false] at hz
          rcases hz with rfl | rfl | rfl <;> rfl) fun _ => d_call oj (d_ret rfl)))) rfl (by omega)
    have hjl := join_len2 (labB ls (ks.map txB))
    have e : txB (.mk kd p nm sh ls ks) = ([[sgn kd], numB p, [123], Lib.join (labB ls (ks.map txB)) [44, 32], [125]] : List (List UInt8)).flatten := by
      rw [txB_mk]
      unfold bodyB
      rw [if_neg (by omega), if_neg (by omega), if_neg (by omega), if_neg (by omega), if_neg (by omega), if_pos (by omega)]
      simp
    have oj := ok_join [[sgn kd], numB p, [123], Lib.join (labB ls (ks.map txB)) [44, 32], [125]] (by simp) (by
      simp only [List.map_cons, List.map_nil, List.sum_cons, List.sum_nil, List.length_cons, List.length_nil]; omega)
    rw [e]
    refine k_show_choice_1 _ _ rfl (d_l _ (e_okc hokT) fun _ => d_l (.str (mkB [sgn kd])) rfl fun _ => d_call oU (d_call oS (d_l (.sl [.str (mkB [sgn kd]), .str (mkB (numB p)), .str (mkB [123]), .str (mkB (Lib.join (labB ls (ks.map txB)) [44, 32])), .str (mkB [125])]) (e_lst fun z hz => by
      simp only [List.mem_cons, List.not_mem_nil, or_false] at hz
      rcases hz with rfl | rfl | rfl | rfl | rfl <;> rfl) fun _ => d_call oj (d_ret rfl))))
  rcases (by omega : kd = 1 ∨ kd = 2 ∨ kd = 3 ∨ kd = 4 ∨ kd = 5 ∨ kd = 6 ∨ kd = 7 ∨ kd = 8 ∨ kd = 9) with e | e | e | e | e | e | e | e | e
  · subst e; exact via _ _ rfl (by rw [txB_mk]; exact fixd _)
  · subst e; exact via _ _ rfl (by rw [txB_mk]; exact fixd _)
  · subst e; exact via _ _ rfl (by rw [txB_mk]; exact fixd _)
  · subst e; exact via _ _ rfl (trans (by omega))
  · subst e; exact via _ _ rfl (trans (by omega))
  · subst e; exact via _ _ rfl (cho (by omega))
  · subst e; exact via _ _ rfl (cho (by omega))
  · subst e
    refine via _ _ rfl ?_
    obtain ⟨q1, q2⟩ := k8 rfl
    obtain ⟨x, hx⟩ := List.length_eq_one_iff.1 q1
    have ox := ihk x (by rw [hx]; simp)
    have hxl := hlen x (by rw [hx]; simp)
    have hxw := wk x (by rw [hx]; simp)
    have e : txB (.mk 8 p nm sh ls ks) = ([[114, 101, 99, 32], bl8 nm, [46], txB x] : List (List UInt8)).flatten := by
      rw [txB_mk, hx]
      unfold bodyB
      simp
    have oj := ok_join [[114, 101, 99, 32], bl8 nm, [46], txB x] (by simp) (by
      simp only [List.map_cons, List.map_nil, List.sum_cons, List.sum_nil, List.length_cons, List.length_nil]; omega)
    rw [e]
    subst hx
    have i0 : (Prim.idx 6 true).ev [.sl ([x].map Ty.enc), i 0] = some x.enc := e_idx (k := 0) rfl (Ty.okc_enc x)
    exact k_show_types_1 _ _ rfl (d_l _ (e_okc hokT) fun _ => d_l _ i0 fun _ => d_call ox (d_l (.sl [.str (mkB [114, 101, 99, 32]), .str (mkB (bl8 nm)), .str (mkB [46]), .str (mkB (txB x))]) (by
      rw [← hnm]
      exact e_lst fun z hz => by
        simp only [List.mem_cons, List.not_mem_nil, or_false] at hz
        rcases hz with rfl | rfl | rfl | rfl <;> rfl) fun _ => d_call oj (d_ret rfl)))
  · subst e
    refine via _ _ rfl ?_
    obtain ⟨q1, q2, q3, _⟩ := k9 rfl
    refine k_show_variable _ _ rfl (d_l _ (e_okc hokT) fun _ => d_l (.bool (decide (sh = 0))) rfl fun _ => d_dec (fun e0 => d_ret ?_) fun e0 => ?_)
    · have e0 : sh = 0 := e0
      rw [txB_mk]
      unfold bodyB
      subst e0
      show PV.str nm = _
      rw [hnm]; rfl
    · have e0 : ¬ sh = 0 := e0
      have hs0 : 0 < sh := by omega
      have o := ok_ItoaG sh.toNat (by omega)
      rw [Int.toNat_of_nonneg q1] at o
      have hd := dec_len (u := sh.toNat) (by omega)
      have e : txB (.mk 9 p nm sh ls ks) = ([bl8 nm, [43], Lib.decDigits sh.toNat] : List (List UInt8)).flatten := by
        rw [txB_mk]
        unfold bodyB
        simp [hs0]
      have oj := ok_join [bl8 nm, [43], Lib.decDigits sh.toNat] (by simp) (by
        simp only [List.map_cons, List.map_nil, List.sum_cons, List.sum_nil, List.length_cons, List.length_nil]; omega)
      rw [e]
      exact d_call o (d_l (.sl [.str (mkB (bl8 nm)), .str (mkB [43]), .str (mkB (Lib.decDigits sh.toNat))]) (by
        rw [← hnm]
        exact e_lst fun z hz => by
          simp only [List.mem_cons, List.not_mem_nil, or_false] at hz
          rcases hz with rfl | rfl | rfl <;> rfl) fun _ => d_call oj (d_ret rfl))
end Go.Proofs.YtopinhoalbgebaaGreatDoor.Tx

/- The law: right types have the normal trees, and texts, of the reference implementation. -/
namespace Go.Proofs.YtopinhoalbgebaaGreatDoor.Tx
open Go.Lf Go.Lf.S Go.Lf.Duo
set_option maxRecDepth 100000

/-! the bytes of the labels -/
mutual
def sumL : Ty → Nat
  | .mk _ _ _ _ ls ks => (ls.map ByteArray.size).sum + sumLs ks
def sumLs : List Ty → Nat
  | [] => 0
  | t :: ts => sumL t + sumLs ts
end
theorem sumLs_eq : ∀ l : List Ty, sumLs l = (l.map sumL).sum
  | [] => by simp [sumLs]
  | t :: ts => by simp [sumLs, sumLs_eq ts]
theorem sumL_mk (kd p : Int) (nm : ByteArray) (s : Int) (ls : List ByteArray) (ks : List Ty) : sumL (.mk kd p nm s ls ks) = (ls.map ByteArray.size).sum + (ks.map sumL).sum := by simp only [sumL, sumLs_eq]
theorem list_W {α : Type} {f : α → PV} {g : α → Nat} {Q : α → Prop} : ∀ (l : List PV) (ms : List Nat), ms.length = l.length → (∀ (i : Nat) (y : PV) (k : Nat), l[i]? = some y → ms[i]? = some k → ∃ a, y = f a ∧ Q a ∧ g a ≤ k) → ∃ zs : List α, l = zs.map f ∧ (∀ a ∈ zs, Q a) ∧ (zs.map g).sum ≤ ms.sum
  | [], ms, _, _ => ⟨[], rfl, (fun a h => by cases h), by simp⟩
  | y :: l, [], h, _ => by simp at h
  | y :: l, k :: ms, h, hh => by
    obtain ⟨a, rfl, h1, h2⟩ := hh 0 y k rfl rfl
    obtain ⟨zs, rfl, h3, h4⟩ := list_W l ms (by simpa using h) fun i y k e1 e2 => hh (i + 1) y k (by simpa using e1) (by simpa using e2)
    refine ⟨a :: zs, rfl, fun b hb => ?_, ?_⟩
    · rcases List.mem_cons.1 hb with rfl | hb
      · exact h1
      · exact h3 b hb
    · simp only [List.map_cons, List.sum_cons]; omega
theorem at_sum : ∀ {ms : List Nat} {i k : Nat}, ms[i]? = some k → k ≤ ms.sum := fun h => mem_le_sum (List.mem_of_getElem? h)
theorem two_sum : ∀ {ms : List Nat} {i j a b : Nat}, i < j → ms[i]? = some a → ms[j]? = some b → a + b ≤ ms.sum
  | [], _, _, _, _, _, h, _ => by simp at h
  | m :: ms, 0, j + 1, a, b, _, h1, h2 => by
    have := at_sum (ms := ms) (i := j) (k := b) (by simpa using h2)
    simp at h1
    simp only [List.sum_cons]; omega
  | m :: ms, i + 1, j + 1, a, b, h, h1, h2 => by
    have := two_sum (ms := ms) (i := i) (j := j) (by omega) (by simpa using h1) (by simpa using h2)
    simp only [List.sum_cons]; omega

section
variable {P' : Program} {tT tI tS tLS tLT : Nat} {fs : Array Field}
/-- a type that comes in, with the bytes of its labels -/
theorem ty_ofW (hT : P'.underlying tT = some (.struct fs)) (hf : fs.toList.map (·.type) = [tI, tI, tS, tI, tLS, tLT]) (hI : P'.underlying tI = some (.int .i64)) (hS : P'.underlying tS = some .string)
    (hLS : P'.underlying tLS = some (.slice tS)) (hLT : P'.underlying tLT = some (.slice tT)) {t : Nat} {x : PV} {m : Nat} (h : HasT P' t x m) :
    (t = tT → ∃ ty : Ty, x = ty.enc ∧ Lim ty ∧ sumL ty ≤ m) ∧ (t = tLT → ∃ l : List Ty, x = .sl (l.map Ty.enc) ∧ l.length ≤ maxLen ∧ (∀ ty ∈ l, Lim ty) ∧ (l.map sumL).sum ≤ m) := by
  have nT : tT ≠ tLT := fun e => by rw [e, hLT] at hT; cases hT
  induction h with
  | int t k n m ht => exact ⟨(fun e => by rw [e, hT] at ht; cases ht), fun e => by rw [e, hLT] at ht; cases ht⟩
  | bool t b m ht => exact ⟨(fun e => by rw [e, hT] at ht; cases ht), fun e => by rw [e, hLT] at ht; cases ht⟩
  | str t s m ht => exact ⟨(fun e => by rw [e, hT] at ht; cases ht), fun e => by rw [e, hLT] at ht; cases ht⟩
  | sl t e l ms m ht hl hms hh hm ih =>
    refine ⟨(fun e => by rw [e, hT] at ht; cases ht), fun et => ?_⟩
    subst et
    rw [hLT] at ht; cases ht
    obtain ⟨zs, rfl, h1, h2⟩ := list_W (f := Ty.enc) (g := sumL) (Q := Lim) l ms hms fun i y k e1 e2 => (ih i y k e1 e2).1 rfl
    exact ⟨zs, rfl, by simpa using hl, h1, by omega⟩
  | agg t fs' xs ms m ht hl hms hh hm ih =>
    refine ⟨fun et => ?_, fun e => by rw [e, hLT] at ht; cases ht⟩
    subst et
    rw [hT] at ht; cases ht
    have h6 : xs.length = 6 := by
      have := congrArg List.length hf
      simp at this; omega
    obtain ⟨a, b, c, d, e, f, rfl⟩ := six h6
    have at_ : ∀ (i : Nat) (y : PV) (u : Nat), [a, b, c, d, e, f][i]? = some y → (fs.toList.map (·.type))[i]? = some u → ∃ fd k, fs[i]? = some fd ∧ fd.type = u ∧ ms[i]? = some k := by
      intro i y u hy hu
      have hi := (List.getElem?_eq_some_iff.1 hy).1
      simp only [List.getElem?_map, Option.map_eq_some_iff] at hu
      obtain ⟨fd, hfd, hu⟩ := hu
      have him : i < ms.length := by rw [hms]; exact hi
      exact ⟨fd, ms[i], by rw [← Array.getElem?_toList]; exact hfd, hu, List.getElem?_eq_getElem him⟩
    have fld : ∀ (i : Nat) (y : PV) (u : Nat), [a, b, c, d, e, f][i]? = some y → (fs.toList.map (·.type))[i]? = some u → ∃ k, ms[i]? = some k ∧ HasT P' u y k := by
      intro i y u hy hu
      obtain ⟨fd, k, h1, h2, h3⟩ := at_ i y u hy hu
      exact ⟨k, h3, h2 ▸ hh i fd y k h1 hy h3⟩
    rw [hf] at fld
    obtain ⟨k0, _, h0⟩ := fld 0 a tI rfl rfl
    obtain ⟨k1, _, h1⟩ := fld 1 b tI rfl rfl
    obtain ⟨k2, _, h2⟩ := fld 2 c tS rfl rfl
    obtain ⟨k3, _, h3⟩ := fld 3 d tI rfl rfl
    obtain ⟨k4, m4, h4⟩ := fld 4 e tLS rfl rfl
    obtain ⟨fd5, k5, g1, g2, g3⟩ := at_ 5 f tLT rfl (by rw [hf]; rfl)
    obtain ⟨ks, rfl, hks, hkl, hkw⟩ := (ih 5 fd5 f k5 g1 rfl g3).2 g2
    obtain ⟨n0, rfl, _⟩ := hasT_int hI h0
    obtain ⟨n1, rfl, _⟩ := hasT_int hI h1
    obtain ⟨n3, rfl, _⟩ := hasT_int hI h3
    obtain ⟨s2, e2, _⟩ := hasT_str hS h2
    subst e2
    have h4len := fun (l : List PV) (e' : e = .sl l) => hasT_len (m := k4) (e' ▸ h4)
    obtain ⟨l4, ms4, rfl, q1, q2, q3⟩ := hasT_sl hLS h4
    obtain ⟨ls, rfl, q4, q5⟩ := list_W (f := PV.str) (g := ByteArray.size) (Q := fun s => s.size ≤ maxLen) l4 ms4 q1 fun i y k e1 e2 => by
      have hy := q3 i y k e1 e2
      cases hy with
      | str _ s _ _ hw hm' => exact ⟨s, rfl, hw, by omega⟩
      | int _ _ _ _ ht' => rw [hS] at ht'; cases ht'
      | bool _ _ _ ht' => rw [hS] at ht'; cases ht'
      | sl _ _ _ _ _ ht' => rw [hS] at ht'; cases ht'
      | agg _ _ _ _ _ ht' => rw [hS] at ht'; cases ht'
    have h4l := h4len _ rfl
    have hsum := two_sum (show 4 < 5 by omega) m4 g3
    refine ⟨.mk n0 n1 s2 n3 ls ks, ?_, .mk _ (hasT_bound h2) q4 (by simpa [Ty.labels] using h4l) hks hkl, ?_⟩
    · rw [Ty.enc_mk]; rfl
    · rw [sumL_mk]; omega
end

theorem fL_sum : ∀ ls : List ByteArray, (ls.map fL).sum = (ls.map ByteArray.size).sum + 10 * ls.length
  | [] => rfl
  | l :: ls => by
    have := fL_sum ls
    simp only [List.map_cons, List.sum_cons, List.length_cons, fL] at this ⊢; omega
theorem szs_sum : ∀ ks : List Ty, Ty.szs ks = (ks.map Ty.sz).sum
  | [] => rfl
  | t :: ts => by simp [Ty.szs, szs_sum ts]
theorem sum_add {α : Type} (f g h : α → Nat) : ∀ l : List α, (∀ x ∈ l, f x + 10 ≤ 120 * g x + h x) → (l.map f).sum + 10 * l.length ≤ 120 * (l.map g).sum + (l.map h).sum
  | [], _ => by simp
  | x :: l, hh => by
    have h1 := hh x (by simp)
    have h2 := sum_add f g h l fun y hy => hh y (by simp [hy])
    simp only [List.map_cons, List.sum_cons, List.length_cons]; omega
theorem wf_wt : ∀ t : Ty, ∀ ns g, Wf t ns g → wt fL t + 10 ≤ 120 * t.sz + sumL t := by
  intro t
  induction t using Ty.ind with
  | _ t ih =>
  intro ns g h
  cases h with
  | mk _ _ _ h1 _ h8 hk =>
  obtain ⟨kd, p, nm, s, ls, ks⟩ := t
  unfold Wf1 at h1
  simp only [Ty.kind, Ty.kids, Ty.labels, Ty.prio, Ty.shift] at h1 ih h8 hk
  have hlk : ls.length ≤ ks.length := by
    obtain ⟨⟨q1, _, q3, q5, q6, q8, q9⟩, _⟩ := h1
    rcases (by omega : kd ≤ 3 ∨ (4 ≤ kd ∧ kd ≤ 5) ∨ (6 ≤ kd ∧ kd ≤ 7) ∨ kd = 8 ∨ kd = 9) with c | c | c | c | c
    · have := q3 c; omega
    · have := q5 c; omega
    · have := q6 c; omega
    · have := q8 c; omega
    · have := q9 c; omega
  have hs := sum_add (wt fL) Ty.sz sumL ks fun x hx => by
    by_cases c : kd = 8
    · exact ih x hx _ _ (h8 c x hx)
    · exact ih x hx _ _ (hk c x hx)
  rw [wt_mk, sumL_mk, fL_sum]
  simp only [Ty.sz, szs_sum]
  omega

theorem ok_law12_ReadbackMatchesReference (aw : Ok P F.law12_awake [] (.bool true)) (a b : Ty) (ha : Lim a) (hb : Lim b) (hsz : sumL b ≤ 1048576) : Ok P F.law12_ReadbackMatchesReference [a.enc, b.enc] (.bool true) := by
  obtain ⟨ba, sa, wa⟩ := ok_ref02_Small a ha 12 (by omega) (by omega)
  obtain ⟨bb, sb, wb⟩ := ok_ref02_Small b hb 12 (by omega) (by omega)
  refine k_law12_ReadbackMatchesReference _ _ rfl (d_l _ (e_okc (Ty.okc_enc a)) fun _ => d_l _ (e_okc (Ty.okc_enc b)) fun _ => d_call aw (d_l (.bool false) rfl fun _ => d_false (d_call sa (d_l (.bool !ba) rfl fun _ => d_ite (fun _ => d_call aw (d_ret rfl)) fun h1 => d_call sb (d_l (.bool !bb) rfl fun _ => d_ite (fun _ => d_call aw (d_ret rfl)) fun h2 => ?_)))))
  obtain ⟨za, wa⟩ := wa (by simpa using h1)
  obtain ⟨zb, wb⟩ := wb (by simpa using h2)
  have hlb := occL_len [] [] b
  have cb : CL (occL [] [] b) 12 b := cl_topE wb (by omega) fun x hx => hx
  have bb0 : CB (occL [] [] b) 12 0 b := cb_top wb (by omega) fun x hx => hx
  have hwt := nmT_wt0 fL (L := occL [] [] b) (M := 12) (m := (occL [] [] b).length) (by omega) (Nat.le_refl _) wb (by omega) fun x hx => hx
  have hL : (occL [] [] b).length ≤ 99 := by omega
  generalize occL [] [] b = L at *
  have hww := wf_wt b [] 0 wb
  obtain ⟨ds, rs, _, hG, hgr, hrl, hrs, hdf, hrf⟩ := built' [a, b] 2 12 (by simp) (by omega) (by
    intro t ht
    simp only [List.mem_cons, List.not_mem_nil, or_false] at ht
    rcases ht with rfl | rfl
    · exact ⟨by omega, wa⟩
    · exact ⟨by omega, wb⟩)
  have hg : GrOk' ds := hgr
  have hrl : rs.length = 2 := hrl
  match rs, hrl with
  | [r0, r1], _ =>
  have hall : ∀ t ∈ [a, b], Wf t [] 0 := by
    intro t ht
    simp only [List.mem_cons, List.not_mem_nil, or_false] at ht
    rcases ht with rfl | rfl
    · exact wa
    · exact wb
  have hln : ∀ x ∈ [a, b], ∀ q, (nodesF x q [] []).length = gc x := fun x hx q => len_nodes x [] 0 (hall x hx) q [] []
  have hpl : Pl ds 0 (belowsF [a, b] 0 [] []) := ⟨Int.le_refl _, fun k hk => by
    rw [← hdf] at hk
    simp only [← hdf]
    rw [show (0 : Int).toNat + k = k by simp]
    exact List.getElem?_eq_getElem hk⟩
  have p1 := Pl.kid hpl hln 1 (by simp)
  have q1 := nextsF_at (ks := [a, b]) (a := 0) (ns := []) (R := []) 1 (by simp)
  rw [← hrf] at q1
  have q1 : r1 = _ := Option.some.inj q1
  obtain ⟨R1, f1⟩ := rt_top (t := b) wb p1
  have T1 : RT ds r1 b := by rw [q1]; exact R1
  have oN := ok_Normal (m := L.length) hg (by omega) hL (by omega) cb T1
  have oR := ok_ref12_Normal (m := L.length) (show 12 ≤ 1000 by omega) hL (by omega) cb
  have oC := ok_Canonical (m := L.length) (by omega) hL (by omega) wb (by omega) cb
  have hln2 := nmT_ln (show 12 ≤ 549755813888 by omega) (L.length + 1) [] b cb
  have hok := nmT_tok (show 12 ≤ 549755813888 by omega) hL (L.length + 1) [] b (by simpa using bb0) pok0 ⟨(fun p h => by cases h), fun p h => by cases h⟩ (by simp)
  generalize nmT (L.length + 1) [] b = nb at *
  have oS := ok_same nb nb hln2
  rw [dq_t rfl] at oS
  have oSh := ok_show_Type nb hok hln2 (by omega)
  have oTy := ok_ref05_Type nb hok hln2 (by omega)
  have oX : Ok P F.readback_Text [.agg [.sl (ds.map Nd.enc)], r1.enc] (.str (mkB (txB nb))) :=
    k_readback_Text _ _ rfl (d_l (.agg [.sl (ds.map Nd.enc)]) rfl fun _ => d_l r1.enc rfl fun _ => d_call oN (d_call oSh (d_ret rfl)))
  have x1 : (Prim.idx 2 true).ev [.sl [r0.enc, r1.enc], i 1] = some r1.enc := e_idx (k := 1) rfl (Rf.okc_enc r1)
  have hsc : (Prim.scmp .eql).ev [.str (mkB (txB nb)), .str (mkB (txB nb))] = some (.bool true) := by
    show some (PV.bool (decide (mkB (txB nb) = mkB (txB nb)))) = _
    simp
  exact d_l (.sl [a.enc, b.enc]) (e_lst (by
    intro x hx
    simp only [List.mem_cons, List.not_mem_nil, or_false] at hx
    rcases hx with rfl | rfl <;> exact Ty.okc_enc _)) fun _ => d_call hG (d_l (.agg [.sl (ds.map Nd.enc)]) rfl fun _ => d_l (.sl [r0.enc, r1.enc]) rfl fun _ => d_l (.agg [.sl (ds.map Nd.enc)]) rfl fun _ => d_call oR (d_l _ (e_okc (Ty.okc_enc nb)) fun _ => d_l _ x1 fun _ => d_call oN (d_call oS (d_true (d_call oC (d_call oS (d_true (d_l _ x1 fun _ => d_call oX (d_call oTy (d_l _ hsc fun _ => d_ret rfl))))))))))
end Go.Proofs.YtopinhoalbgebaaGreatDoor.Tx

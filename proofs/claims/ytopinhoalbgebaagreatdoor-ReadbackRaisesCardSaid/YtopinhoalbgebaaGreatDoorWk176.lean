/- The normal tree (6): what the reader computes. -/
import Derived.Test.YtopinhoalbgebaaGreatDoorWk175
import Derived.Test.YtopinhoalbgebaaGreatDoorWk170
set_option linter.all false
namespace Go.Proofs.YtopinhoalbgebaaGreatDoor.Tx
open Go.Lf Go.Lf.S Go.Lf.Duo
set_option maxRecDepth 100000

theorem d_callvs {P : Program} {K : PV → Prop} {hs : List (List PV → Prop)} {f : Nat} {s : Sig} {xs : List PV} {k : List PV → T PV} {ys : List PV} (hl : ys.length = s.nout) (h : OkS P f s xs ys) (hk : (k ys).den0 P K hs) : (T.callvs (.fn f [] []) s xs k).den0 P K hs := ⟨ys, hl, ⟨f, rfl, h⟩, hk⟩
theorem ok_name {m : Nat} (h : m < 100) : Ok P F.readback_name [i (m : Int)] (.str (nmB m)) :=
  k_readback_name _ _ rfl (d_call (ok_Itoa m h) (d_l _ (ev_name h) fun _ => d_ret rfl))

/-! labels in order -/
theorem itsV_Values (ls : List ByteArray) (hl : ls.length ≤ 549755813888) : ItsV P (.fn F.slices_Values_string_string_1 [] [.box (.sl (ls.map .str))]) (ls.map fun s => [.str s]) := by
  refine ⟨_, _, rfl, fun X hX s0 s' hr => ?_⟩
  refine x_slices_Values_string_string_1 X hX [.nilI, .box (.sl (ls.map .str)), s0] _ _ ?_
  letI : Gl := { l := gl.l, x := X }
  refine d_l (.sl (ls.map .str)) rfl fun _ => d_l _ e_len fun _ => ?_
  refine den_loop (fun m ys => ∃ (j : Nat) (st : PV), j + m = ls.length ∧ X.runs ((ls.drop j).map fun s => [PV.str s]) st = some s' ∧ ys = [i j, st]) ls.length ⟨0, s0, by omega, hr, rfl⟩ ?_
  rintro m _ ⟨j, st, hj, hru, rfl⟩
  refine d_l _ rfl fun _ => d_dec (fun h => ?_) fun h => ?_
  · have h : (j : Int) < ((ls.map PV.str).length : Int) := h
    have hlt : j < ls.length := by simp at h; omega
    have he : (ls.map PV.str)[j]? = some (.str ls[j]) := by simp [hlt]
    rw [List.drop_eq_getElem_cons hlt, List.map_cons] at hru
    obtain ⟨b, s1, h1, h2, h3⟩ := runs_step hru
    refine d_l _ (e_idx he rfl) fun _ => d_yld h1 (d_l (.bool !b) rfl fun _ => d_ite (fun hb => ?_) fun hb => ?_)
    · have hb : b = false := by simpa using hb
      exact d_ret (by rw [h3 hb])
    · have hb : b = true := by simpa using hb
      exact d_l _ (e_inc (by omega)) fun _ => d_cont rfl ⟨m - 1, by omega, j + 1, s1, by omega, h2 hb, rfl⟩
  · have h : ¬ (j : Int) < ((ls.map PV.str).length : Int) := h
    simp at h
    rw [List.drop_eq_nil_of_le (by omega)] at hru
    exact d_ret (by rw [show st = s' from Option.some.inj hru]; rfl)
theorem okS_Collect_str (x : PV) (ls : List ByteArray) (h : ItsV P x (ls.map fun s => [.str s])) (hl : ls.length ≤ 549755813888) : OkS P F.slices_Collect_string sg_slices_Collect_string [x] [.sl (ls.map .str)] := by
  have h1 : OkS P F.slices_AppendSeq_string_string sg_slices_AppendSeq_string_string [x] [.sl (ls.map .str)] := by
    refine m_slices_AppendSeq_string_string _ _ ?_
    refine d_iter h (fun y hy => by obtain ⟨p, _, rfl⟩ := List.mem_map.1 hy; rfl) (fun j zs => zs = [.sl ((ls.take j).map .str)]) rfl ?_ ?_
    · rintro j y hy _ rfl
      simp only [List.getElem?_map, Option.map_eq_some_iff] at hy
      obtain ⟨p, hp, rfl⟩ := hy
      obtain ⟨hj, hp⟩ := List.getElem?_eq_some_iff.1 hp
      refine ⟨[.sl ((ls.take (j + 1)).map .str)], d_l (.sl [.str p]) (e_lst (by intro x hx; simp at hx; subst hx; rfl)) fun _ => d_l (.sl ((ls.take j).map .str ++ [.str p])) (e_app (l := (ls.take j).map .str) (m := [.str p]) (by intro x hx; simp at hx; subst hx; rfl) (by simp; omega) (by simp; omega)) fun _ => d_cont rfl ?_, rfl⟩
      rw [List.take_succ_eq_append_getElem hj, hp, List.map_append]; rfl
    · rintro zs hz
      rw [List.length_map, List.take_length] at hz
      subst hz
      exact d_ret rfl
  exact m_slices_Collect_string _ _ (d_calls rfl h1 (d_ret rfl))

theorem bl_mk (x y : List UInt8) : bl ⟨x.toArray⟩ ⟨y.toArray⟩ = true ↔ x < y := by
  rw [bl_iff, Lib.toList_data, Lib.toList_data]
theorem sorted_merge (zs : List (List UInt8)) : (zs.mergeSort fun x y => decide (x ≤ y)).Pairwise fun a b => a ≤ b := by
  have := List.pairwise_mergeSort (le := fun x y : List UInt8 => decide (x ≤ y)) (fun a b c h1 h2 => by
    simp only [decide_eq_true_eq] at *
    exact List.le_trans h1 h2) (fun a b => by
    simp only [Bool.or_eq_true, decide_eq_true_eq]
    exact List.le_total a b) zs
  exact this.imp fun h => by simpa using h
theorem ofB_mk (b : ByteArray) : (⟨(ofB b).toArray⟩ : ByteArray) = b := by unfold ofB; rfl
theorem ok_head_Labels {ds : List Nd} (a : Nat) (ha : a < ds.length) (s : Int) (hn : (ds[a]).labels.Nodup) (h0 : (ds[a]).labels ≠ []) (hl : (ds[a]).labels.length ≤ 549755813888) : Ok P F.head_Labels [.agg [.sl (ds.map Nd.enc)], ref a s] (.sl ((srt (ds[a]).labels).map .str)) := by
  generalize hls : (ds[a]).labels = ls at *
  have hV : Ok P F.slices_Values_string_string [.sl (ls.map .str)] (.fn F.slices_Values_string_string_1 [] [.box (.sl (ls.map .str))]) :=
    k_slices_Values_string_string _ _ rfl (d_l (.sl (ls.map .str)) rfl fun _ => d_ret rfl)
  have hC := okS_Collect_str _ ls (itsV_Values ls hl) hl
  have hzs : ls.map PV.str = (ls.map ofB).map strL := by rw [List.map_map]; exact List.map_congr_left fun b _ => (strL_ofB b).symm
  have hS := okS_SortS (ls.map ofB) (by simpa using h0) (by rw [List.length_map]; omega)
  have hsrt : ((ls.map ofB).mergeSort fun x y => decide (x ≤ y)).map strL = (srt ls).map .str := by
    obtain ⟨g1, g2, g3, _⟩ := srt_spec hn hl
    have hp := List.mergeSort_perm (ls.map ofB) fun x y => decide (x ≤ y)
    have e : ((ls.map ofB).mergeSort fun x y => decide (x ≤ y)).map (fun l => (⟨l.toArray⟩ : ByteArray)) = srt ls := by
      obtain ⟨o, _, o1, o2, o3⟩ := ok_Sorted ls hl
      rw [srt_eq hn o1 o2 o3]
      have pw1 : (((ls.map ofB).mergeSort fun x y => decide (x ≤ y)).map (fun l => (⟨l.toArray⟩ : ByteArray))).Pairwise fun a b => bl b a = false := by
        rw [List.pairwise_map]
        refine (sorted_merge _).imp fun {x y} h => ?_
        cases hb : bl ⟨y.toArray⟩ ⟨x.toArray⟩ with
        | false => rfl
        | true => exact absurd h (List.not_le.2 ((bl_mk y x).1 hb))
      have pw2 : o.Pairwise fun a b => bl b a = false := by
        rw [List.pairwise_iff_getElem]
        intro i j hi hj hij
        exact o3 i j _ _ hi hij (List.getElem?_eq_getElem hi) (List.getElem?_eq_getElem hj)
      refine List.Perm.eq_of_pairwise (le := fun a b => bl b a = false) (fun a b _ _ g1 g2 => bl_total g2 g1) pw1 pw2 ?_
      have q1 : (((ls.map ofB).mergeSort fun x y => decide (x ≤ y)).map (fun l => (⟨l.toArray⟩ : ByteArray))).Perm ls := by
        have := hp.map (fun l => (⟨l.toArray⟩ : ByteArray))
        rw [List.map_map, show ((fun l => (⟨l.toArray⟩ : ByteArray)) ∘ ofB) = id from funext ofB_mk, List.map_id] at this
        exact this
      refine q1.trans ?_
      rw [List.perm_ext_iff_of_nodup hn (o2.nodup hn)]
      exact fun s => (o2.mem s).symm
    rw [← e, List.map_map]
    exact List.map_congr_left fun l _ => rfl
  have hSo : Ok P F.slices_Sorted_string [.fn F.slices_Values_string_string_1 [] [.box (.sl (ls.map .str))]] (.sl ((srt ls).map .str)) := by
    rw [← hzs] at hS
    rw [hsrt] at hS
    exact k_slices_Sorted_string _ _ rfl (d_calls rfl hC (d_calls rfl hS (d_ret rfl)))
  have hidx : (Prim.idx 4 true).ev [.sl (ds.map Nd.enc), i (a : Int)] = some (ds[a]).enc := e_idx (nd_at ha) (Nd.okc_enc _)
  refine k_head_Labels _ _ rfl (d_l (.agg [.sl (ds.map Nd.enc)]) rfl fun _ => d_l (ref a s) rfl fun _ => d_l _ hidx fun _ => ?_)
  have hl2 : c 2 (ds[a]).enc = .sl (ls.map .str) := by rw [← hls]; rfl
  rw [hl2]
  exact d_call hV (d_call hSo (d_ret rfl))
end Go.Proofs.YtopinhoalbgebaaGreatDoor.Tx

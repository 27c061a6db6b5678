/- The fixed results of law 8 are as its awake asks: by evaluation, with the least priority and the sorted labels from their contracts. -/
import Derived.Test.YtodomlcjppdgfaaWk30
set_option linter.all false
namespace Go.Proofs.Ytodomlcjppdgfaa.Tx
open Go.Lf Go.Lf.S Go.Lf.Duo
set_option maxRecDepth 100000

theorem itsV_Values (ls : List ByteArray) (hl : ls.length ≤ 549755813888) : ItsV P (.fn F.slices_Values_string_string_1 [] [.box (.sl (ls.map .str))]) (ls.map fun s => [.str s]) := by
  refine ⟨_, _, rfl, fun X hX s0 s' hr => ?_⟩
  refine x_slices_Values_string_string_1 X hX [.nilI, .box (.sl (ls.map .str)), s0] _ _ ?_
  letI : Gl := { l := gl.l, x := X }
  refine d_l (.sl (ls.map .str)) rfl fun _ => d_l _ e_len fun _ => ?_
  refine den_loop (fun m ys => ∃ (j : Nat) (st : PV), j + m = ls.length ∧ X.runs ((ls.drop j).map fun s => [PV.str s]) st = some s' ∧ ys = [i j, st]) ls.length ⟨0, s0, by omega, hr, rfl⟩ ?_
  rintro m _ ⟨j, st, hj, hru, rfl⟩
  refine d_l _ rfl fun _ => d_dec (fun h => ?_) fun h => ?_
  · have h : (j : Int) < ((ls.map PV.str).length : Int) := h
    have hlt : j < ls.length := by simp at h; omega
    have he : (ls.map PV.str)[j]? = some (.str ls[j]) := by simp [hlt]
    rw [List.drop_eq_getElem_cons hlt, List.map_cons] at hru
    obtain ⟨b, s1, h1, h2, h3⟩ := runs_step hru
    refine d_l _ (e_idx he rfl) fun _ => d_yld h1 (d_l (.bool !b) rfl fun _ => d_ite (fun hb => ?_) fun hb => ?_)
    · have hb : b = false := by simpa using hb
      exact d_ret (by rw [h3 hb])
    · have hb : b = true := by simpa using hb
      exact d_l _ (e_inc (by omega)) fun _ => d_cont rfl ⟨m - 1, by omega, j + 1, s1, by omega, h2 hb, rfl⟩
  · have h : ¬ (j : Int) < ((ls.map PV.str).length : Int) := h
    simp at h
    rw [List.drop_eq_nil_of_le (by omega)] at hru
    exact d_ret (by rw [show st = s' from Option.some.inj hru]; rfl)

theorem okS_Collect_str (x : PV) (ls : List ByteArray) (h : ItsV P x (ls.map fun s => [.str s])) (hl : ls.length ≤ 549755813888) : OkS P F.slices_Collect_string sg_slices_Collect_string [x] [.sl (ls.map .str)] := by
  have h1 : OkS P F.slices_AppendSeq_string_string sg_slices_AppendSeq_string_string [x] [.sl (ls.map .str)] := by
    refine m_slices_AppendSeq_string_string _ _ ?_
    refine d_iter h (fun y hy => by obtain ⟨p, _, rfl⟩ := List.mem_map.1 hy; rfl) (fun j zs => zs = [.sl ((ls.take j).map .str)]) rfl ?_ ?_
    · rintro j y hy _ rfl
      simp only [List.getElem?_map, Option.map_eq_some_iff] at hy
      obtain ⟨p, hp, rfl⟩ := hy
      obtain ⟨hj, hp⟩ := List.getElem?_eq_some_iff.1 hp
      refine ⟨[.sl ((ls.take (j + 1)).map .str)], d_l (.sl [.str p]) (e_lst (by intro x hx; simp at hx; subst hx; rfl)) fun _ => d_l (.sl ((ls.take j).map .str ++ [.str p])) (e_app (l := (ls.take j).map .str) (m := [.str p]) (by intro x hx; simp at hx; subst hx; rfl) (by simp; omega) (by simp; omega)) fun _ => d_cont rfl ?_, rfl⟩
      rw [List.take_succ_eq_append_getElem hj, hp, List.map_append]; rfl
    · rintro zs hz
      rw [List.length_map, List.take_length] at hz
      subst hz
      exact d_ret rfl
  exact m_slices_Collect_string _ _ (d_calls rfl h1 (d_ret rfl))

def ds08 : List Nd := [⟨4, 1, [], [⟨1, 0⟩, ⟨0, 2⟩]⟩, ⟨1, 0, [], []⟩, ⟨7, 0, [⟨#[98]⟩, ⟨#[97]⟩], [⟨3, 0⟩, ⟨4, 0⟩]⟩, ⟨3, 0, [], []⟩, ⟨3, 0, [], []⟩]
def rs08 : List Rf := [⟨0, 0⟩, ⟨2, 0⟩]
def gr08 : PV := .agg [.sl (ds08.map Nd.enc)]
theorem in08 : ∀ r ∈ rs08, InG ds08 r := by
  intro r hr
  simp only [rs08, List.mem_cons, List.not_mem_nil, or_false] at hr
  rcases hr with rfl | rfl <;> exact ⟨by decide, by decide⟩
theorem goodS (n : Nat) : GoodEv P (evAll tb tbS 100000 n).1 (evAll tb tbS 100000 n).2 := evAll_good allOk allOkS n
theorem sort08 : OkS P F.slices_Sort_string_string sg_slices_Sort_string_string [.sl [.str ⟨#[98]⟩, .str ⟨#[97]⟩]] [.tup [], .sl [.str ⟨#[97]⟩, .str ⟨#[98]⟩]] :=
  ((goodS 40).2 _ _ _ _ (by kernel_rfl)).2
theorem labels08 : Ok P F.head_Labels [gr08, (⟨2, 0⟩ : Rf).enc] (.sl [.str ⟨#[97]⟩, .str ⟨#[98]⟩]) := by
  have hV : Ok P F.slices_Values_string_string [.sl [.str ⟨#[98]⟩, .str ⟨#[97]⟩]] (.fn F.slices_Values_string_string_1 [] [.box (.sl [.str ⟨#[98]⟩, .str ⟨#[97]⟩])]) :=
    k_slices_Values_string_string _ _ rfl (d_l (.sl [.str ⟨#[98]⟩, .str ⟨#[97]⟩]) rfl fun _ => d_ret rfl)
  have hC := okS_Collect_str _ [⟨#[98]⟩, ⟨#[97]⟩] (itsV_Values [⟨#[98]⟩, ⟨#[97]⟩] (by decide)) (by decide)
  have hS : Ok P F.slices_Sorted_string [.fn F.slices_Values_string_string_1 [] [.box (.sl [.str ⟨#[98]⟩, .str ⟨#[97]⟩])]] (.sl [.str ⟨#[97]⟩, .str ⟨#[98]⟩]) :=
    k_slices_Sorted_string _ _ rfl (d_calls rfl hC (d_calls rfl sort08 (d_ret rfl)))
  exact k_head_Labels _ _ rfl (d_l gr08 rfl fun _ => d_l (⟨2, 0⟩ : Rf).enc rfl fun _ => d_l (Nd.enc ⟨7, 0, [⟨#[98]⟩, ⟨#[97]⟩], [⟨3, 0⟩, ⟨4, 0⟩]⟩) rfl fun _ => d_call hV (d_call hS (d_ret rfl)))
def ex08 : List (Nat × List PV × PV) := [(F.head_Lowest, [gr08, .sl (rs08.map Rf.enc)], .tup [i 0, .bool true]), (F.head_Labels, [gr08, (⟨2, 0⟩ : Rf).enc], .sl [.str ⟨#[97]⟩, .str ⟨#[98]⟩])]
theorem ex08Ok : ExOk P ex08 := ⟨ok_head_Lowest ds08 rs08 (by decide) in08, labels08, trivial⟩
theorem good08 (n : Nat) : GoodEv P (evEx ex08 tb tbS 100000 n).1 (evEx ex08 tb tbS 100000 n).2 := evEx_good ex08Ok allOk allOkS n
theorem awake08 : Ok P F.law08_awake [] (.bool true) := (good08 60).1 _ [] _ (by kernel_rfl)
end Go.Proofs.Ytodomlcjppdgfaa.Tx

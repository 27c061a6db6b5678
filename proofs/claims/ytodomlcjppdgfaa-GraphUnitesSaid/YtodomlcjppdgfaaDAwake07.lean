/- The fixed results of law 7 are as its awake asks: by evaluation, with the graph from its contract. -/
import Derived.Test.YtodomlcjppdgfaaWk111
set_option linter.all false
namespace Go.Proofs.Ytodomlcjppdgfaa.Tx
open Go.Lf Go.Lf.S Go.Lf.Duo
set_option maxRecDepth 100000
def i07 : Ty := .mk 1 0 ⟨#[]⟩ 0 [] []
def v07 : Ty := .mk 9 0 ⟨#[116]⟩ 2 [] []
def s07 : Ty := .mk 4 0 ⟨#[]⟩ 0 [] [i07, v07]
def t07 : Ty := .mk 8 0 ⟨#[116]⟩ 0 [] [s07]
def e07 : Ty := .mk 3 0 ⟨#[]⟩ 0 [] []
theorem wf1_07 (t : Ty) (h : t.labels = []) (hp : (1 ≤ t.kind ∧ t.kind ≤ 9) ∧ (0 ≤ t.prio ∧ t.prio ≤ 1000000 ∧ 0 ≤ t.shift ∧ t.shift ≤ 1000000) ∧ (t.kind ≤ 3 → t.kids.length = 0) ∧ (4 ≤ t.kind ∧ t.kind ≤ 5 → t.kids.length = 2) ∧ ¬ (6 ≤ t.kind ∧ t.kind ≤ 7) ∧ (t.kind = 8 → t.kids.length = 1) ∧ (t.kind = 9 → t.kids.length = 0)) : Wf1 t := by
  obtain ⟨h1, h2, h3, h4, h5, h6, h7⟩ := hp
  exact ⟨⟨h1, h2, fun e => ⟨h3 e, by rw [h]; rfl⟩, fun e => ⟨h4 e, by rw [h]; rfl⟩, fun e => absurd e h5, fun e => ⟨h6 e, by rw [h]; rfl⟩, fun e => ⟨h7 e, by rw [h]; rfl⟩⟩, by rw [h]; exact List.nodup_nil⟩
theorem wf_t07 : Wf t07 [] 0 := by
  refine .mk _ _ _ (wf1_07 _ rfl (by decide)) (fun h => absurd h (by decide)) (fun _ k hk => ?_) (fun h => absurd rfl h)
  have hk : k = s07 := by simpa [t07, Ty.kids] using hk
  subst hk
  refine .mk _ _ _ (wf1_07 _ rfl (by decide)) (fun h => absurd h (by decide)) (fun h => absurd h (by decide)) (fun _ k hk => ?_)
  have hk : k = i07 ∨ k = v07 := by simpa [s07, Ty.kids] using hk
  rcases hk with rfl | rfl
  · exact .mk _ _ _ (wf1_07 _ rfl (by decide)) (fun h => absurd h (by decide)) (fun h => absurd h (by decide)) (fun _ k hk => by simp [i07, Ty.kids] at hk)
  · refine .mk _ _ _ (wf1_07 _ rfl (by decide)) (fun _ => ⟨0, by simp, rfl, fun i hi hc => ?_⟩) (fun h => absurd h (by decide)) (fun _ k hk => by simp [v07, Ty.kids] at hk)
    have := (List.getElem?_eq_some_iff.1 hc).1
    simp at this; omega
theorem wf_e07 : Wf e07 [] 0 := .mk _ _ _ (wf1_07 _ rfl (by decide)) (fun h => absurd h (by decide)) (fun h => absurd h (by decide)) (fun _ k hk => by simp [e07, Ty.kids] at hk)
def ds07 : List Nd := [⟨4, 0, [], [⟨1, 0⟩, ⟨0, 2⟩]⟩, ⟨1, 0, [], []⟩, ⟨3, 0, [], []⟩]
def rs07 : List Rf := [⟨0, 0⟩, ⟨2, 0⟩]
theorem bl07 : belowsF [t07, e07] 0 [] [] = ds07 := by
  simp [belowsF, nodesF, nextsF, refF, refFs, lookLast, gc, gcs, t07, s07, i07, v07, e07, ds07]
theorem nx07 : nextsF [t07, e07] 0 [] [] = rs07 := by
  simp [nextsF, refF, refFs, lookLast, gc, gcs, t07, s07, i07, v07, e07, rs07]
def in07 : PV := .sl [.agg [i 8, i 0, .str ⟨#[116]⟩, i 0, .sl [], .sl [.agg [i 4, i 0, .str ⟨#[]⟩, i 0, .sl [], .sl [.agg [i 1, i 0, .str ⟨#[]⟩, i 0, .sl [], .sl []], .agg [i 9, i 0, .str ⟨#[116]⟩, i 2, .sl [], .sl []]]]]], .agg [i 3, i 0, .str ⟨#[]⟩, i 0, .sl [], .sl []]]
theorem in07_eq : PV.sl ([t07, e07].map Ty.enc) = in07 := by
  simp [t07, s07, i07, v07, e07, in07, Ty.enc_mk]
def out07 : PV := .tup [.agg [.sl (ds07.map Nd.enc)], .sl (rs07.map Rf.enc)]
def ex07 : List (Nat × List PV × PV) := [(F.graph_Build, [in07], out07)]
theorem ex07Ok : ExOk P ex07 := ⟨by
  have := ok_graph_Build [t07, e07] (fun t ht => by
    simp only [List.mem_cons, List.not_mem_nil, or_false] at ht
    rcases ht with rfl | rfl
    · exact wf_t07
    · exact wf_e07) (by decide)
  rw [bl07, nx07, in07_eq] at this
  exact this, trivial⟩
theorem good07 (n : Nat) : GoodEv P (evEx ex07 tb tbS 100000 n).1 (evEx ex07 tb tbS 100000 n).2 := evEx_good ex07Ok allOk allOkS n
theorem awake07 : Ok P F.law07_awake [] (.bool true) := (good07 60).1 _ [] _ (by kernel_rfl)
end Go.Proofs.Ytodomlcjppdgfaa.Tx

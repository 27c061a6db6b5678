/- The fixed results of law 12 are as its awake asks: by evaluation, with the graph, the numerals and the joined texts from their contracts. -/
import Derived.Test.YtopinhoalbgebaaGreatDoorWk179
set_option linter.all false
namespace Go.Proofs.YtopinhoalbgebaaGreatDoor.Tx
open Go.Lf Go.Lf.S Go.Lf.Duo
set_option maxRecDepth 100000
def int12 : Ty := .mk 1 0 ⟨#[]⟩ 0 [] []
def var12 : Ty := .mk 9 0 ⟨#[116]⟩ 1 [] []
def snd12 : Ty := .mk 4 1 ⟨#[]⟩ 0 [] [int12, var12]
def rec12 : Ty := .mk 8 0 ⟨#[116]⟩ 0 [] [snd12]
def t12 : Ty := .mk 4 0 ⟨#[]⟩ 0 [] [int12, rec12]
theorem wf_int12 (ns : List ByteArray) (g : Nat) : Wf int12 ns g := .mk _ _ _ (by simp [Wf1, int12, Ty.kind, Ty.prio, Ty.shift, Ty.kids, Ty.labels]) (fun h => by simp [int12, Ty.kind] at h) (fun h => by simp [int12, Ty.kind] at h) (fun _ k hk => by simp [int12, Ty.kids] at hk)
theorem wf_var12 : Wf var12 [⟨#[116]⟩] 1 := .mk _ _ _ (by simp [Wf1, var12, Ty.kind, Ty.prio, Ty.shift, Ty.kids, Ty.labels]) (fun _ => ⟨0, by omega, rfl, fun q hq => by
  cases q with
  | zero => omega
  | succ q => simp⟩) (fun h => by simp [var12, Ty.kind] at h) (fun _ k hk => by simp [var12, Ty.kids] at hk)
theorem wf_snd12 : Wf snd12 [⟨#[116]⟩] 0 := .mk _ _ _ (by simp [Wf1, snd12, Ty.kind, Ty.prio, Ty.shift, Ty.kids, Ty.labels]) (fun h => by simp [snd12, Ty.kind] at h) (fun h => by simp [snd12, Ty.kind] at h) (fun _ k hk => by
  simp only [snd12, Ty.kids, List.mem_cons, List.not_mem_nil, or_false] at hk
  rcases hk with rfl | rfl
  · exact wf_int12 _ _
  · exact wf_var12)
theorem wf_rec12 : Wf rec12 [] 0 := .mk _ _ _ (by simp [Wf1, rec12, Ty.kind, Ty.prio, Ty.shift, Ty.kids, Ty.labels]) (fun h => by simp [rec12, Ty.kind] at h) (fun _ k hk => by
  simp only [rec12, Ty.kids, List.mem_cons, List.not_mem_nil, or_false] at hk
  subst hk; exact wf_snd12) (fun h => absurd rfl h)
theorem wf_t12 : Wf t12 [] 0 := .mk _ _ _ (by simp [Wf1, t12, Ty.kind, Ty.prio, Ty.shift, Ty.kids, Ty.labels]) (fun h => by simp [t12, Ty.kind] at h) (fun h => by simp [t12, Ty.kind] at h) (fun _ k hk => by
  simp only [t12, Ty.kids, List.mem_cons, List.not_mem_nil, or_false] at hk
  rcases hk with rfl | rfl
  · exact wf_int12 _ _
  · exact wf_rec12)
def ds12 : List Nd := [⟨4, 0, [], [⟨1, 0⟩, ⟨2, 0⟩]⟩, ⟨1, 0, [], []⟩, ⟨4, 1, [], [⟨3, 0⟩, ⟨2, 1⟩]⟩, ⟨1, 0, [], []⟩]
theorem below12 : belowsF [t12] 0 [] [] = ds12 := by kernel_rfl
theorem next12 : nextsF [t12] 0 [] [] = [⟨0, 0⟩] := by kernel_rfl
theorem build12 : Ok P F.graph_Build [.sl [t12.enc]] (.tup [.agg [.sl (ds12.map Nd.enc)], .sl [(⟨0, 0⟩ : Rf).enc]]) := by
  have h := ok_graph_Build [t12] (fun x hx => by obtain rfl := List.mem_singleton.1 hx; exact wf_t12) (by decide)
  rw [below12, next12] at h
  exact h
def j12a : List ByteArray := [⟨#[114, 48]⟩, ⟨#[43]⟩, ⟨#[49]⟩]
def j12b : List ByteArray := [⟨#[33]⟩, ⟨#[]⟩, ⟨#[105, 110, 116]⟩, ⟨#[46]⟩, ⟨#[114, 48, 43, 49]⟩]
def j12c : List ByteArray := [⟨#[114, 101, 99, 32]⟩, ⟨#[114, 48]⟩, ⟨#[46]⟩, ⟨#[33, 105, 110, 116, 46, 114, 48, 43, 49]⟩]
def ex12 : List (Nat × List PV × PV) := [(F.graph_Build, [.sl [t12.enc]], .tup [.agg [.sl (ds12.map Nd.enc)], .sl [(⟨0, 0⟩ : Rf).enc]]), (F.strconv_Itoa, [i 0], .str ⟨#[48]⟩), (F.strconv_Itoa, [i 1], .str ⟨#[49]⟩),
  (F.strings_Join, [.sl (j12a.map .str), .str ⟨#[]⟩], .str ⟨#[114, 48, 43, 49]⟩), (F.strings_Join, [.sl (j12b.map .str), .str ⟨#[]⟩], .str ⟨#[33, 105, 110, 116, 46, 114, 48, 43, 49]⟩),
  (F.strings_Join, [.sl (j12c.map .str), .str ⟨#[]⟩], .str ⟨#[114, 101, 99, 32, 114, 48, 46, 33, 105, 110, 116, 46, 114, 48, 43, 49]⟩)]
theorem dec12 : (⟨(Lib.decDigits 0).toArray⟩ : ByteArray) = ⟨#[48]⟩ ∧ (⟨(Lib.decDigits 1).toArray⟩ : ByteArray) = ⟨#[49]⟩ := by
  rw [Lib.decDigits_one (by omega), Lib.decDigits_one (by omega)]
  exact ⟨by kernel_rfl, by kernel_rfl⟩
theorem ex12Ok : ExOk P ex12 := ⟨build12, dec12.1 ▸ ok_Itoa 0 (by omega), dec12.2 ▸ ok_Itoa 1 (by omega), ok_Join j12a ⟨#[]⟩ (by decide) (by decide), ok_Join j12b ⟨#[]⟩ (by decide) (by decide), ok_Join j12c ⟨#[]⟩ (by decide) (by decide), trivial⟩
theorem good12 (n : Nat) : GoodEv P (evEx ex12 tb tbS 100000 n).1 (evEx ex12 tb tbS 100000 n).2 := evEx_good ex12Ok allOk allOkS n
theorem awake12 : Ok P F.law12_awake [] (.bool true) := (good12 60).1 _ [] _ (by kernel_rfl)
end Go.Proofs.YtopinhoalbgebaaGreatDoor.Tx

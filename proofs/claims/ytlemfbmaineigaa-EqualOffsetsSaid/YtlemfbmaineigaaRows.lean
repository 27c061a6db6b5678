/-
  NARROWER THAN 'FOR EVERY INPUT', by the rows' own cells (each row's printed sentence says how): EqualUnfolds: loops · EqualOffsets: loops · EqualClasses: loops · EqualChains: loops · ContextSplits: loops · ContextDrops: loops · ContextParts: loops.
  DERIVED. THE GIVEN ROWS OF THIS SEAT. 8 by the template 'for every input the law returns true; each argument reads behind the call as it read before'; 0 by the template 'total and deterministic' (their statements: YtlemfbmaineigaaTotals.lean).
  GIVEN WITH THE SEED: the statements are not yours to turn. If you find one false, say at which input.
  Laid BY PROGRAM, IN A SANDBOX (cutbox-rows.mjs): the forced cells as the released guide's own fill.sh prints them over the translation 5dea1a9fce815af7… (all of the seat's roots in one cut). By AI agents, Wed Nov 11 2026. No macro, syntax, notation, axiom, sorry.
-/
import Derived.Test.YtlemfbmaineigaaChecked
import GoSem.Claim
import GoSem.ClaimJoined
import GoSem.ClaimMapViews
import Derived.JoinedTies
import Derived.KernelRfl
namespace Go.Proofs.Ytlemfbmaineigaa
/- THE CELL 'sum', in the pinned program and in every row, IS THE sha256 OF THE DUMP (.gsa) THAT YtlemfbmaineigaaProg.lean LOADS. Nothing in Lean hashes anything: it is a label: what it is worth is what the hold of that sum in a sandbox is worth. -/
noncomputable def Try.pinned : Pinned := { name := "ytlemfbmaineigaa", sum := "5dea1a9fce815af7e5c6bf236072d61347319871ff27587a2432f6443ae0db1d", checked := Try.checked }
namespace Rows
def none {H : Type} : Left H := { results := [], args := [] }

/-- 'duologuelaw10.EqualUnfolds': WHATEVER THE INPUT: true; the input reads as it did. -/
def equalUnfoldsSpec : ChangeSpec := { name := "equalUnfolds", fn := fun _ => fun
  | [d1, d2] => { results := [.lit (.bool true)], args := [d1, d2] }
  | _ => none }
def equalUnfoldsRow : OpenClaim := { program := "ytlemfbmaineigaa", sum := "5dea1a9fce815af7e5c6bf236072d61347319871ff27587a2432f6443ae0db1d", func := "duologue/duologuelaw10.EqualUnfolds", spec := "equalUnfolds", unfollowed := true, recurses := true, loops := true, plainKeys := false, apart := false }
def EqualUnfoldsSaid : Prop := equalUnfoldsRow.holds Try.pinned (OpenSpec.ofChange equalUnfoldsSpec)

/-- ITS FALSE NEIGHBOUR: 'it returns false'. Refute it at one input. -/
def equalUnfoldsWrong : ChangeSpec := { name := "equalUnfolds", fn := fun _ => fun
  | [d1, d2] => { results := [.lit (.bool false)], args := [d1, d2] }
  | _ => none }
def EqualUnfoldsWrongFalsely : Prop := equalUnfoldsRow.holds Try.pinned (OpenSpec.ofChange equalUnfoldsWrong)

/-- 'duologuelaw10.EqualOffsets': WHATEVER THE INPUT: true; the input reads as it did. -/
def equalOffsetsSpec : ChangeSpec := { name := "equalOffsets", fn := fun _ => fun
  | [d1, d2, d3] => { results := [.lit (.bool true)], args := [d1, d2, d3] }
  | _ => none }
def equalOffsetsRow : OpenClaim := { program := "ytlemfbmaineigaa", sum := "5dea1a9fce815af7e5c6bf236072d61347319871ff27587a2432f6443ae0db1d", func := "duologue/duologuelaw10.EqualOffsets", spec := "equalOffsets", unfollowed := true, recurses := true, loops := true, plainKeys := false, apart := false }
def EqualOffsetsSaid : Prop := equalOffsetsRow.holds Try.pinned (OpenSpec.ofChange equalOffsetsSpec)

/-- ITS FALSE NEIGHBOUR: 'it returns false'. Refute it at one input. -/
def equalOffsetsWrong : ChangeSpec := { name := "equalOffsets", fn := fun _ => fun
  | [d1, d2, d3] => { results := [.lit (.bool false)], args := [d1, d2, d3] }
  | _ => none }
def EqualOffsetsWrongFalsely : Prop := equalOffsetsRow.holds Try.pinned (OpenSpec.ofChange equalOffsetsWrong)

/-- 'duologuelaw10.EqualClasses': WHATEVER THE INPUT: true; the input reads as it did. -/
def equalClassesSpec : ChangeSpec := { name := "equalClasses", fn := fun _ => fun
  | [d] => { results := [.lit (.bool true)], args := [d] }
  | _ => none }
def equalClassesRow : OpenClaim := { program := "ytlemfbmaineigaa", sum := "5dea1a9fce815af7e5c6bf236072d61347319871ff27587a2432f6443ae0db1d", func := "duologue/duologuelaw10.EqualClasses", spec := "equalClasses", unfollowed := true, recurses := true, loops := true, plainKeys := false, apart := false }
def EqualClassesSaid : Prop := equalClassesRow.holds Try.pinned (OpenSpec.ofChange equalClassesSpec)

/-- ITS FALSE NEIGHBOUR: 'it returns false'. Refute it at one input. -/
def equalClassesWrong : ChangeSpec := { name := "equalClasses", fn := fun _ => fun
  | [d] => { results := [.lit (.bool false)], args := [d] }
  | _ => none }
def EqualClassesWrongFalsely : Prop := equalClassesRow.holds Try.pinned (OpenSpec.ofChange equalClassesWrong)

/-- 'duologuelaw10.EqualChains': WHATEVER THE INPUT: true; the input reads as it did. -/
def equalChainsSpec : ChangeSpec := { name := "equalChains", fn := fun _ => fun
  | [d1, d2, d3] => { results := [.lit (.bool true)], args := [d1, d2, d3] }
  | _ => none }
def equalChainsRow : OpenClaim := { program := "ytlemfbmaineigaa", sum := "5dea1a9fce815af7e5c6bf236072d61347319871ff27587a2432f6443ae0db1d", func := "duologue/duologuelaw10.EqualChains", spec := "equalChains", unfollowed := true, recurses := true, loops := true, plainKeys := false, apart := false }
def EqualChainsSaid : Prop := equalChainsRow.holds Try.pinned (OpenSpec.ofChange equalChainsSpec)

/-- ITS FALSE NEIGHBOUR: 'it returns false'. Refute it at one input. -/
def equalChainsWrong : ChangeSpec := { name := "equalChains", fn := fun _ => fun
  | [d1, d2, d3] => { results := [.lit (.bool false)], args := [d1, d2, d3] }
  | _ => none }
def EqualChainsWrongFalsely : Prop := equalChainsRow.holds Try.pinned (OpenSpec.ofChange equalChainsWrong)

/-- 'duologuelaw13.ContextSets': WHATEVER THE INPUT: true; the input reads as it did. -/
def contextSetsSpec : ChangeSpec := { name := "contextSets", fn := fun _ => fun
  | [d1, d2, d3] => { results := [.lit (.bool true)], args := [d1, d2, d3] }
  | _ => none }
def contextSetsRow : OpenClaim := { program := "ytlemfbmaineigaa", sum := "5dea1a9fce815af7e5c6bf236072d61347319871ff27587a2432f6443ae0db1d", func := "duologue/duologuelaw13.ContextSets", spec := "contextSets", unfollowed := true, recurses := true, plainKeys := false, apart := false }
def ContextSetsSaid : Prop := contextSetsRow.holds Try.pinned (OpenSpec.ofChange contextSetsSpec)

/-- ITS FALSE NEIGHBOUR: 'it returns false'. Refute it at one input. -/
def contextSetsWrong : ChangeSpec := { name := "contextSets", fn := fun _ => fun
  | [d1, d2, d3] => { results := [.lit (.bool false)], args := [d1, d2, d3] }
  | _ => none }
def ContextSetsWrongFalsely : Prop := contextSetsRow.holds Try.pinned (OpenSpec.ofChange contextSetsWrong)

/-- 'duologuelaw13.ContextSplits': WHATEVER THE INPUT: true; the input reads as it did. -/
def contextSplitsSpec : ChangeSpec := { name := "contextSplits", fn := fun _ => fun
  | [d1, d2] => { results := [.lit (.bool true)], args := [d1, d2] }
  | _ => none }
def contextSplitsRow : OpenClaim := { program := "ytlemfbmaineigaa", sum := "5dea1a9fce815af7e5c6bf236072d61347319871ff27587a2432f6443ae0db1d", func := "duologue/duologuelaw13.ContextSplits", spec := "contextSplits", unfollowed := true, recurses := true, loops := true, plainKeys := false, apart := false }
def ContextSplitsSaid : Prop := contextSplitsRow.holds Try.pinned (OpenSpec.ofChange contextSplitsSpec)

/-- ITS FALSE NEIGHBOUR: 'it returns false'. Refute it at one input. -/
def contextSplitsWrong : ChangeSpec := { name := "contextSplits", fn := fun _ => fun
  | [d1, d2] => { results := [.lit (.bool false)], args := [d1, d2] }
  | _ => none }
def ContextSplitsWrongFalsely : Prop := contextSplitsRow.holds Try.pinned (OpenSpec.ofChange contextSplitsWrong)

/-- 'duologuelaw13.ContextDrops': WHATEVER THE INPUT: true; the input reads as it did. -/
def contextDropsSpec : ChangeSpec := { name := "contextDrops", fn := fun _ => fun
  | [d1, d2] => { results := [.lit (.bool true)], args := [d1, d2] }
  | _ => none }
def contextDropsRow : OpenClaim := { program := "ytlemfbmaineigaa", sum := "5dea1a9fce815af7e5c6bf236072d61347319871ff27587a2432f6443ae0db1d", func := "duologue/duologuelaw13.ContextDrops", spec := "contextDrops", unfollowed := true, recurses := true, loops := true, plainKeys := false, apart := false }
def ContextDropsSaid : Prop := contextDropsRow.holds Try.pinned (OpenSpec.ofChange contextDropsSpec)

/-- ITS FALSE NEIGHBOUR: 'it returns false'. Refute it at one input. -/
def contextDropsWrong : ChangeSpec := { name := "contextDrops", fn := fun _ => fun
  | [d1, d2] => { results := [.lit (.bool false)], args := [d1, d2] }
  | _ => none }
def ContextDropsWrongFalsely : Prop := contextDropsRow.holds Try.pinned (OpenSpec.ofChange contextDropsWrong)

/-- 'duologuelaw13.ContextParts': WHATEVER THE INPUT: true; the input reads as it did. -/
def contextPartsSpec : ChangeSpec := { name := "contextParts", fn := fun _ => fun
  | [d1, d2] => { results := [.lit (.bool true)], args := [d1, d2] }
  | _ => none }
def contextPartsRow : OpenClaim := { program := "ytlemfbmaineigaa", sum := "5dea1a9fce815af7e5c6bf236072d61347319871ff27587a2432f6443ae0db1d", func := "duologue/duologuelaw13.ContextParts", spec := "contextParts", unfollowed := true, recurses := true, loops := true, plainKeys := false, apart := false }
def ContextPartsSaid : Prop := contextPartsRow.holds Try.pinned (OpenSpec.ofChange contextPartsSpec)

/-- ITS FALSE NEIGHBOUR: 'it returns false'. Refute it at one input. -/
def contextPartsWrong : ChangeSpec := { name := "contextParts", fn := fun _ => fun
  | [d1, d2] => { results := [.lit (.bool false)], args := [d1, d2] }
  | _ => none }
def ContextPartsWrongFalsely : Prop := contextPartsRow.holds Try.pinned (OpenSpec.ofChange contextPartsWrong)

/- THE SECOND FORM. 'bulk': how many values and letters a reading holds, each counted each time it is reached (what is shared counts as often as it is met; a slice's spare places count too). A statement '..UptoSaid' is the law's where the arguments, and the package variables that the reading takes, are together of bulk at most 1048576: NARROWER than '..Said'. Prove '..Said' where nothing that the law and all that it calls make is longer than what came in: it says more and counts as full. Else prove '..UptoSaid'. A law counts once. -/
mutual
def uptoBulk {H : Type} : DataW H → Nat
  | .lit (.string bytes) => bytes.length + 1
  | .lit _ => 1
  | .nil => 1
  | .ptr d => uptoBulk d + 1
  | .slice elems spare => uptoBulkAll elems + uptoBulkAll spare + 1
  | .agg parts => uptoBulkAll parts + 1
  | .iface _ d => uptoBulk d + 1
  | .map entries => uptoBulkEntries entries + 1
  | .held _ => 1
def uptoBulkAll {H : Type} : List (DataW H) → Nat
  | [] => 0
  | d :: r => uptoBulk d + uptoBulkAll r
def uptoBulkEntries {H : Type} : List (Lit × DataW H) → Nat
  | [] => 0
  | x :: r => uptoBulkEntry x + uptoBulkEntries r
def uptoBulkEntry {H : Type} : Lit × DataW H → Nat
  | (.string bytes, d) => bytes.length + uptoBulk d + 1
  | (_, d) => uptoBulk d + 1
 end
def uptoSmall : (H : Type) → List (DataW H) → Bool := fun _ ds => decide (uptoBulkAll ds ≤ 1048576)
def OpenSpec.upto (s : _root_.Go.ChangeSpec) : _root_.Go.OpenSpec := { _root_.Go.OpenSpec.ofChange s with cond := some uptoSmall }

/-- 'duologuelaw10.EqualUnfolds', WHERE WHAT IT READS IS OF BULK AT MOST 1048576: true; the input reads as it did. -/
def equalUnfoldsUptoRow : OpenClaim := { program := "ytlemfbmaineigaa", sum := "5dea1a9fce815af7e5c6bf236072d61347319871ff27587a2432f6443ae0db1d", func := "duologue/duologuelaw10.EqualUnfolds", spec := "equalUnfolds", unfollowed := true, recurses := true, loops := true, plainKeys := false, apart := false, narrowed := true }
def EqualUnfoldsUptoSaid : Prop := equalUnfoldsUptoRow.holds Try.pinned (OpenSpec.upto equalUnfoldsSpec)

/-- 'duologuelaw10.EqualOffsets', WHERE WHAT IT READS IS OF BULK AT MOST 1048576: true; the input reads as it did. -/
def equalOffsetsUptoRow : OpenClaim := { program := "ytlemfbmaineigaa", sum := "5dea1a9fce815af7e5c6bf236072d61347319871ff27587a2432f6443ae0db1d", func := "duologue/duologuelaw10.EqualOffsets", spec := "equalOffsets", unfollowed := true, recurses := true, loops := true, plainKeys := false, apart := false, narrowed := true }
def EqualOffsetsUptoSaid : Prop := equalOffsetsUptoRow.holds Try.pinned (OpenSpec.upto equalOffsetsSpec)

/-- 'duologuelaw10.EqualClasses', WHERE WHAT IT READS IS OF BULK AT MOST 1048576: true; the input reads as it did. -/
def equalClassesUptoRow : OpenClaim := { program := "ytlemfbmaineigaa", sum := "5dea1a9fce815af7e5c6bf236072d61347319871ff27587a2432f6443ae0db1d", func := "duologue/duologuelaw10.EqualClasses", spec := "equalClasses", unfollowed := true, recurses := true, loops := true, plainKeys := false, apart := false, narrowed := true }
def EqualClassesUptoSaid : Prop := equalClassesUptoRow.holds Try.pinned (OpenSpec.upto equalClassesSpec)

/-- 'duologuelaw10.EqualChains', WHERE WHAT IT READS IS OF BULK AT MOST 1048576: true; the input reads as it did. -/
def equalChainsUptoRow : OpenClaim := { program := "ytlemfbmaineigaa", sum := "5dea1a9fce815af7e5c6bf236072d61347319871ff27587a2432f6443ae0db1d", func := "duologue/duologuelaw10.EqualChains", spec := "equalChains", unfollowed := true, recurses := true, loops := true, plainKeys := false, apart := false, narrowed := true }
def EqualChainsUptoSaid : Prop := equalChainsUptoRow.holds Try.pinned (OpenSpec.upto equalChainsSpec)

/-- 'duologuelaw13.ContextSets', WHERE WHAT IT READS IS OF BULK AT MOST 1048576: true; the input reads as it did. -/
def contextSetsUptoRow : OpenClaim := { program := "ytlemfbmaineigaa", sum := "5dea1a9fce815af7e5c6bf236072d61347319871ff27587a2432f6443ae0db1d", func := "duologue/duologuelaw13.ContextSets", spec := "contextSets", unfollowed := true, recurses := true, plainKeys := false, apart := false, narrowed := true }
def ContextSetsUptoSaid : Prop := contextSetsUptoRow.holds Try.pinned (OpenSpec.upto contextSetsSpec)

/-- 'duologuelaw13.ContextSplits', WHERE WHAT IT READS IS OF BULK AT MOST 1048576: true; the input reads as it did. -/
def contextSplitsUptoRow : OpenClaim := { program := "ytlemfbmaineigaa", sum := "5dea1a9fce815af7e5c6bf236072d61347319871ff27587a2432f6443ae0db1d", func := "duologue/duologuelaw13.ContextSplits", spec := "contextSplits", unfollowed := true, recurses := true, loops := true, plainKeys := false, apart := false, narrowed := true }
def ContextSplitsUptoSaid : Prop := contextSplitsUptoRow.holds Try.pinned (OpenSpec.upto contextSplitsSpec)

/-- 'duologuelaw13.ContextDrops', WHERE WHAT IT READS IS OF BULK AT MOST 1048576: true; the input reads as it did. -/
def contextDropsUptoRow : OpenClaim := { program := "ytlemfbmaineigaa", sum := "5dea1a9fce815af7e5c6bf236072d61347319871ff27587a2432f6443ae0db1d", func := "duologue/duologuelaw13.ContextDrops", spec := "contextDrops", unfollowed := true, recurses := true, loops := true, plainKeys := false, apart := false, narrowed := true }
def ContextDropsUptoSaid : Prop := contextDropsUptoRow.holds Try.pinned (OpenSpec.upto contextDropsSpec)

/-- 'duologuelaw13.ContextParts', WHERE WHAT IT READS IS OF BULK AT MOST 1048576: true; the input reads as it did. -/
def contextPartsUptoRow : OpenClaim := { program := "ytlemfbmaineigaa", sum := "5dea1a9fce815af7e5c6bf236072d61347319871ff27587a2432f6443ae0db1d", func := "duologue/duologuelaw13.ContextParts", spec := "contextParts", unfollowed := true, recurses := true, loops := true, plainKeys := false, apart := false, narrowed := true }
def ContextPartsUptoSaid : Prop := contextPartsUptoRow.holds Try.pinned (OpenSpec.upto contextPartsSpec)

end Rows
end Go.Proofs.Ytlemfbmaineigaa

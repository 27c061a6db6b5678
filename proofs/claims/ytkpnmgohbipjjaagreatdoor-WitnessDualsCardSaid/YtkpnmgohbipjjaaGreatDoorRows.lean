/-
  NARROWER THAN 'FOR EVERY INPUT', by the rows' own cells (each row's printed sentence says how): WitnessMatchesReference: loops, laid · WitnessPrefixes: loops, laid · WitnessRaises: loops, laid · WitnessDuals: loops, laid.
  DERIVED. THE GIVEN ROWS OF THIS SEAT. 4 by the template 'for every input the law returns true; each argument reads behind the call as it read before'; 0 by the template 'total and deterministic' (their statements: YtkpnmgohbipjjaaGreatDoorTotals.lean).
  GIVEN WITH THE SEED: the statements are not yours to turn. If you find one false, say at which input.
  Laid BY PROGRAM, IN A SANDBOX (cutbox-rows.mjs): the forced cells as the released guide's own fill.sh prints them over the translation 752f3409a7a8a41d… (all of the seat's roots in one cut). By AI agents, Wed Nov 11 2026. No macro, syntax, notation, axiom, sorry.
-/
import Derived.Test.YtkpnmgohbipjjaaGreatDoorChecked
import GoSem.Claim
import GoSem.ClaimJoined
import GoSem.ClaimMapViews
import Derived.JoinedTies
import Derived.KernelRfl
namespace Go.Proofs.YtkpnmgohbipjjaaGreatDoor
/- THE CELL 'sum', in the pinned program and in every row, IS THE sha256 OF THE DUMP (.gsa) THAT YtkpnmgohbipjjaaGreatDoorProg.lean LOADS. Nothing in Lean hashes anything: it is a label: what it is worth is what the hold of that sum in a sandbox is worth. -/
noncomputable def Tryz.pinned : Pinned := { name := "ytkpnmgohbipjjaagreatdoor", sum := "752f3409a7a8a41db0fe884b71271afe6bd2fde66c52de294e3cdb2fa312f047", checked := Tryz.checked }
namespace Rows
def none {H : Type} : Left H := { results := [], args := [] }

/- WHAT THE LISTED PACKAGE-LEVEL VARIABLES READ AS WHEN THE CALL BEGINS. Each datum BY PROGRAM (the guide's laid-datum.mjs) off the statement by which the dump's own 'gosem.cut.vars' lays the variable. In a bare row this is a premise. The card (YtkpnmgohbipjjaaGreatDoorCards.lean) ties it to the program's text. -/
def laid_math_bits_deBruijn32tab {H : Type} : DataW H := .agg [.lit (.int .u8 0), .lit (.int .u8 1), .lit (.int .u8 28), .lit (.int .u8 2), .lit (.int .u8 29), .lit (.int .u8 14), .lit (.int .u8 24), .lit (.int .u8 3), .lit (.int .u8 30), .lit (.int .u8 22), .lit (.int .u8 20), .lit (.int .u8 15), .lit (.int .u8 25), .lit (.int .u8 17), .lit (.int .u8 4), .lit (.int .u8 8), .lit (.int .u8 31), .lit (.int .u8 27), .lit (.int .u8 13), .lit (.int .u8 23), .lit (.int .u8 21), .lit (.int .u8 19), .lit (.int .u8 16), .lit (.int .u8 7), .lit (.int .u8 26), .lit (.int .u8 12), .lit (.int .u8 18), .lit (.int .u8 6), .lit (.int .u8 11), .lit (.int .u8 5), .lit (.int .u8 10), .lit (.int .u8 9)]
def laid_math_bits_deBruijn64tab {H : Type} : DataW H := .agg [.lit (.int .u8 0), .lit (.int .u8 1), .lit (.int .u8 56), .lit (.int .u8 2), .lit (.int .u8 57), .lit (.int .u8 49), .lit (.int .u8 28), .lit (.int .u8 3), .lit (.int .u8 61), .lit (.int .u8 58), .lit (.int .u8 42), .lit (.int .u8 50), .lit (.int .u8 38), .lit (.int .u8 29), .lit (.int .u8 17), .lit (.int .u8 4), .lit (.int .u8 62), .lit (.int .u8 47), .lit (.int .u8 59), .lit (.int .u8 36), .lit (.int .u8 45), .lit (.int .u8 43), .lit (.int .u8 51), .lit (.int .u8 22), .lit (.int .u8 53), .lit (.int .u8 39), .lit (.int .u8 33), .lit (.int .u8 30), .lit (.int .u8 24), .lit (.int .u8 18), .lit (.int .u8 12), .lit (.int .u8 5), .lit (.int .u8 63), .lit (.int .u8 55), .lit (.int .u8 48), .lit (.int .u8 27), .lit (.int .u8 60), .lit (.int .u8 41), .lit (.int .u8 37), .lit (.int .u8 16), .lit (.int .u8 46), .lit (.int .u8 35), .lit (.int .u8 44), .lit (.int .u8 21), .lit (.int .u8 52), .lit (.int .u8 32), .lit (.int .u8 23), .lit (.int .u8 11), .lit (.int .u8 54), .lit (.int .u8 26), .lit (.int .u8 40), .lit (.int .u8 15), .lit (.int .u8 34), .lit (.int .u8 20), .lit (.int .u8 31), .lit (.int .u8 10), .lit (.int .u8 25), .lit (.int .u8 14), .lit (.int .u8 19), .lit (.int .u8 9), .lit (.int .u8 13), .lit (.int .u8 8), .lit (.int .u8 7), .lit (.int .u8 6)]
def laid_internal_strconv_uint64pow10 {H : Type} : DataW H := .agg [.lit (.int .u64 1), .lit (.int .u64 10), .lit (.int .u64 100), .lit (.int .u64 1000), .lit (.int .u64 10000), .lit (.int .u64 100000), .lit (.int .u64 1000000), .lit (.int .u64 10000000), .lit (.int .u64 100000000), .lit (.int .u64 1000000000), .lit (.int .u64 10000000000), .lit (.int .u64 100000000000), .lit (.int .u64 1000000000000), .lit (.int .u64 10000000000000), .lit (.int .u64 100000000000000), .lit (.int .u64 1000000000000000), .lit (.int .u64 10000000000000000), .lit (.int .u64 100000000000000000), .lit (.int .u64 1000000000000000000), .lit (.int .u64 10000000000000000000)]
def laid_duologue_dual_duals {H : Type} : DataW H := .agg [.lit (.int .i64 0), .lit (.int .i64 1), .lit (.int .i64 2), .lit (.int .i64 3), .lit (.int .i64 5), .lit (.int .i64 4), .lit (.int .i64 7), .lit (.int .i64 6)]
def laid_duologue_lex_keywords {H : Type} : DataW H := .agg [.lit (.string [100, 101, 102]), .lit (.string [109, 97, 105, 110]), .lit (.string [115, 116, 111, 112]), .lit (.string [110, 101, 119]), .lit (.string [105, 110, 116]), .lit (.string [98, 111, 111, 108]), .lit (.string [101, 110, 100]), .lit (.string [114, 101, 99]), .lit (.string [116, 114, 117, 101]), .lit (.string [102, 97, 108, 115, 101])]

/-- 'duologuelaw26.WitnessMatchesReference': WHATEVER THE INPUT: true; the input reads as it did. -/
def witnessMatchesReferenceSpec : ChangeSpec := { name := "witnessMatchesReference", fn := fun _ => fun
  | [d1, d2, d3] => { results := [.lit (.bool true)], args := [d1, d2, d3] }
  | _ => none }
def witnessMatchesReferenceRow : OpenClaim := { program := "ytkpnmgohbipjjaagreatdoor", sum := "752f3409a7a8a41db0fe884b71271afe6bd2fde66c52de294e3cdb2fa312f047", func := "duologue/duologuelaw26.WitnessMatchesReference", spec := "witnessMatchesReference", inPlace := ["maps.clone"], unfollowed := true, recurses := true, named := ["duologue/lex.keywords", "duologue/dual.duals", "internal/strconv.uint64pow10", "math/bits.deBruijn32tab", "math/bits.deBruijn64tab"], loops := true, plainKeys := false, apart := false, laid := [("math/bits.deBruijn32tab", laid_math_bits_deBruijn32tab), ("math/bits.deBruijn64tab", laid_math_bits_deBruijn64tab), ("internal/strconv.uint64pow10", laid_internal_strconv_uint64pow10), ("duologue/dual.duals", laid_duologue_dual_duals), ("duologue/lex.keywords", laid_duologue_lex_keywords)] }
def WitnessMatchesReferenceSaid : Prop := witnessMatchesReferenceRow.holds Tryz.pinned (OpenSpec.ofChange witnessMatchesReferenceSpec)

/-- ITS FALSE NEIGHBOUR: 'it returns false'. Refute it at one input. -/
def witnessMatchesReferenceWrong : ChangeSpec := { name := "witnessMatchesReference", fn := fun _ => fun
  | [d1, d2, d3] => { results := [.lit (.bool false)], args := [d1, d2, d3] }
  | _ => none }
def WitnessMatchesReferenceWrongFalsely : Prop := witnessMatchesReferenceRow.holds Tryz.pinned (OpenSpec.ofChange witnessMatchesReferenceWrong)

/-- 'duologuelaw26.WitnessPrefixes': WHATEVER THE INPUT: true; the input reads as it did. -/
def witnessPrefixesSpec : ChangeSpec := { name := "witnessPrefixes", fn := fun _ => fun
  | [d1, d2, d3, d4] => { results := [.lit (.bool true)], args := [d1, d2, d3, d4] }
  | _ => none }
def witnessPrefixesRow : OpenClaim := { program := "ytkpnmgohbipjjaagreatdoor", sum := "752f3409a7a8a41db0fe884b71271afe6bd2fde66c52de294e3cdb2fa312f047", func := "duologue/duologuelaw26.WitnessPrefixes", spec := "witnessPrefixes", inPlace := ["maps.clone"], unfollowed := true, recurses := true, named := ["duologue/lex.keywords", "duologue/dual.duals", "internal/strconv.uint64pow10", "math/bits.deBruijn32tab", "math/bits.deBruijn64tab"], loops := true, plainKeys := false, apart := false, laid := [("math/bits.deBruijn32tab", laid_math_bits_deBruijn32tab), ("math/bits.deBruijn64tab", laid_math_bits_deBruijn64tab), ("internal/strconv.uint64pow10", laid_internal_strconv_uint64pow10), ("duologue/dual.duals", laid_duologue_dual_duals), ("duologue/lex.keywords", laid_duologue_lex_keywords)] }
def WitnessPrefixesSaid : Prop := witnessPrefixesRow.holds Tryz.pinned (OpenSpec.ofChange witnessPrefixesSpec)

/-- ITS FALSE NEIGHBOUR: 'it returns false'. Refute it at one input. -/
def witnessPrefixesWrong : ChangeSpec := { name := "witnessPrefixes", fn := fun _ => fun
  | [d1, d2, d3, d4] => { results := [.lit (.bool false)], args := [d1, d2, d3, d4] }
  | _ => none }
def WitnessPrefixesWrongFalsely : Prop := witnessPrefixesRow.holds Tryz.pinned (OpenSpec.ofChange witnessPrefixesWrong)

/-- 'duologuelaw26.WitnessRaises': WHATEVER THE INPUT: true; the input reads as it did. -/
def witnessRaisesSpec : ChangeSpec := { name := "witnessRaises", fn := fun _ => fun
  | [d1, d2, d3] => { results := [.lit (.bool true)], args := [d1, d2, d3] }
  | _ => none }
def witnessRaisesRow : OpenClaim := { program := "ytkpnmgohbipjjaagreatdoor", sum := "752f3409a7a8a41db0fe884b71271afe6bd2fde66c52de294e3cdb2fa312f047", func := "duologue/duologuelaw26.WitnessRaises", spec := "witnessRaises", inPlace := ["maps.clone"], unfollowed := true, recurses := true, named := ["duologue/lex.keywords", "duologue/dual.duals", "internal/strconv.uint64pow10", "math/bits.deBruijn32tab", "math/bits.deBruijn64tab"], loops := true, plainKeys := false, apart := false, laid := [("math/bits.deBruijn32tab", laid_math_bits_deBruijn32tab), ("math/bits.deBruijn64tab", laid_math_bits_deBruijn64tab), ("internal/strconv.uint64pow10", laid_internal_strconv_uint64pow10), ("duologue/dual.duals", laid_duologue_dual_duals), ("duologue/lex.keywords", laid_duologue_lex_keywords)] }
def WitnessRaisesSaid : Prop := witnessRaisesRow.holds Tryz.pinned (OpenSpec.ofChange witnessRaisesSpec)

/-- ITS FALSE NEIGHBOUR: 'it returns false'. Refute it at one input. -/
def witnessRaisesWrong : ChangeSpec := { name := "witnessRaises", fn := fun _ => fun
  | [d1, d2, d3] => { results := [.lit (.bool false)], args := [d1, d2, d3] }
  | _ => none }
def WitnessRaisesWrongFalsely : Prop := witnessRaisesRow.holds Tryz.pinned (OpenSpec.ofChange witnessRaisesWrong)

/-- 'duologuelaw26.WitnessDuals': WHATEVER THE INPUT: true; the input reads as it did. -/
def witnessDualsSpec : ChangeSpec := { name := "witnessDuals", fn := fun _ => fun
  | [d1, d2, d3] => { results := [.lit (.bool true)], args := [d1, d2, d3] }
  | _ => none }
def witnessDualsRow : OpenClaim := { program := "ytkpnmgohbipjjaagreatdoor", sum := "752f3409a7a8a41db0fe884b71271afe6bd2fde66c52de294e3cdb2fa312f047", func := "duologue/duologuelaw26.WitnessDuals", spec := "witnessDuals", inPlace := ["maps.clone"], unfollowed := true, recurses := true, named := ["duologue/lex.keywords", "duologue/dual.duals", "internal/strconv.uint64pow10", "math/bits.deBruijn32tab", "math/bits.deBruijn64tab"], loops := true, plainKeys := false, apart := false, laid := [("math/bits.deBruijn32tab", laid_math_bits_deBruijn32tab), ("math/bits.deBruijn64tab", laid_math_bits_deBruijn64tab), ("internal/strconv.uint64pow10", laid_internal_strconv_uint64pow10), ("duologue/dual.duals", laid_duologue_dual_duals), ("duologue/lex.keywords", laid_duologue_lex_keywords)] }
def WitnessDualsSaid : Prop := witnessDualsRow.holds Tryz.pinned (OpenSpec.ofChange witnessDualsSpec)

/-- ITS FALSE NEIGHBOUR: 'it returns false'. Refute it at one input. -/
def witnessDualsWrong : ChangeSpec := { name := "witnessDuals", fn := fun _ => fun
  | [d1, d2, d3] => { results := [.lit (.bool false)], args := [d1, d2, d3] }
  | _ => none }
def WitnessDualsWrongFalsely : Prop := witnessDualsRow.holds Tryz.pinned (OpenSpec.ofChange witnessDualsWrong)

/- THE SECOND FORM. 'bulk': how many values and letters a reading holds, each counted each time it is reached (what is shared counts as often as it is met; a slice's spare places count too). A statement '..UptoSaid' is the law's where the arguments, and the package variables that the reading takes, are together of bulk at most 1048576: NARROWER than '..Said'. Prove '..Said' where nothing that the law and all that it calls make is longer than what came in: it says more and counts as full. Else prove '..UptoSaid'. A law counts once. -/
mutual
def uptoBulk {H : Type} : DataW H → Nat
  | .lit (.string bytes) => bytes.length + 1
  | .lit _ => 1
  | .nil => 1
  | .ptr d => uptoBulk d + 1
  | .slice elems spare => uptoBulkAll elems + uptoBulkAll spare + 1
  | .agg parts => uptoBulkAll parts + 1
  | .iface _ d => uptoBulk d + 1
  | .map entries => uptoBulkEntries entries + 1
  | .held _ => 1
def uptoBulkAll {H : Type} : List (DataW H) → Nat
  | [] => 0
  | d :: r => uptoBulk d + uptoBulkAll r
def uptoBulkEntries {H : Type} : List (Lit × DataW H) → Nat
  | [] => 0
  | x :: r => uptoBulkEntry x + uptoBulkEntries r
def uptoBulkEntry {H : Type} : Lit × DataW H → Nat
  | (.string bytes, d) => bytes.length + uptoBulk d + 1
  | (_, d) => uptoBulk d + 1
 end
def uptoSmall : (H : Type) → List (DataW H) → Bool := fun _ ds => decide (uptoBulkAll ds ≤ 1048576)
def OpenSpec.upto (s : _root_.Go.ChangeSpec) : _root_.Go.OpenSpec := { _root_.Go.OpenSpec.ofChange s with cond := some uptoSmall }

/-- 'duologuelaw26.WitnessMatchesReference', WHERE WHAT IT READS IS OF BULK AT MOST 1048576: true; the input reads as it did. -/
def witnessMatchesReferenceUptoRow : OpenClaim := { program := "ytkpnmgohbipjjaagreatdoor", sum := "752f3409a7a8a41db0fe884b71271afe6bd2fde66c52de294e3cdb2fa312f047", func := "duologue/duologuelaw26.WitnessMatchesReference", spec := "witnessMatchesReference", inPlace := ["maps.clone"], unfollowed := true, recurses := true, named := ["duologue/lex.keywords", "duologue/dual.duals", "internal/strconv.uint64pow10", "math/bits.deBruijn32tab", "math/bits.deBruijn64tab"], loops := true, plainKeys := false, apart := false, laid := [("math/bits.deBruijn32tab", laid_math_bits_deBruijn32tab), ("math/bits.deBruijn64tab", laid_math_bits_deBruijn64tab), ("internal/strconv.uint64pow10", laid_internal_strconv_uint64pow10), ("duologue/dual.duals", laid_duologue_dual_duals), ("duologue/lex.keywords", laid_duologue_lex_keywords)], narrowed := true }
def WitnessMatchesReferenceUptoSaid : Prop := witnessMatchesReferenceUptoRow.holds Tryz.pinned (OpenSpec.upto witnessMatchesReferenceSpec)

/-- 'duologuelaw26.WitnessPrefixes', WHERE WHAT IT READS IS OF BULK AT MOST 1048576: true; the input reads as it did. -/
def witnessPrefixesUptoRow : OpenClaim := { program := "ytkpnmgohbipjjaagreatdoor", sum := "752f3409a7a8a41db0fe884b71271afe6bd2fde66c52de294e3cdb2fa312f047", func := "duologue/duologuelaw26.WitnessPrefixes", spec := "witnessPrefixes", inPlace := ["maps.clone"], unfollowed := true, recurses := true, named := ["duologue/lex.keywords", "duologue/dual.duals", "internal/strconv.uint64pow10", "math/bits.deBruijn32tab", "math/bits.deBruijn64tab"], loops := true, plainKeys := false, apart := false, laid := [("math/bits.deBruijn32tab", laid_math_bits_deBruijn32tab), ("math/bits.deBruijn64tab", laid_math_bits_deBruijn64tab), ("internal/strconv.uint64pow10", laid_internal_strconv_uint64pow10), ("duologue/dual.duals", laid_duologue_dual_duals), ("duologue/lex.keywords", laid_duologue_lex_keywords)], narrowed := true }
def WitnessPrefixesUptoSaid : Prop := witnessPrefixesUptoRow.holds Tryz.pinned (OpenSpec.upto witnessPrefixesSpec)

/-- 'duologuelaw26.WitnessRaises', WHERE WHAT IT READS IS OF BULK AT MOST 1048576: true; the input reads as it did. -/
def witnessRaisesUptoRow : OpenClaim := { program := "ytkpnmgohbipjjaagreatdoor", sum := "752f3409a7a8a41db0fe884b71271afe6bd2fde66c52de294e3cdb2fa312f047", func := "duologue/duologuelaw26.WitnessRaises", spec := "witnessRaises", inPlace := ["maps.clone"], unfollowed := true, recurses := true, named := ["duologue/lex.keywords", "duologue/dual.duals", "internal/strconv.uint64pow10", "math/bits.deBruijn32tab", "math/bits.deBruijn64tab"], loops := true, plainKeys := false, apart := false, laid := [("math/bits.deBruijn32tab", laid_math_bits_deBruijn32tab), ("math/bits.deBruijn64tab", laid_math_bits_deBruijn64tab), ("internal/strconv.uint64pow10", laid_internal_strconv_uint64pow10), ("duologue/dual.duals", laid_duologue_dual_duals), ("duologue/lex.keywords", laid_duologue_lex_keywords)], narrowed := true }
def WitnessRaisesUptoSaid : Prop := witnessRaisesUptoRow.holds Tryz.pinned (OpenSpec.upto witnessRaisesSpec)

/-- 'duologuelaw26.WitnessDuals', WHERE WHAT IT READS IS OF BULK AT MOST 1048576: true; the input reads as it did. -/
def witnessDualsUptoRow : OpenClaim := { program := "ytkpnmgohbipjjaagreatdoor", sum := "752f3409a7a8a41db0fe884b71271afe6bd2fde66c52de294e3cdb2fa312f047", func := "duologue/duologuelaw26.WitnessDuals", spec := "witnessDuals", inPlace := ["maps.clone"], unfollowed := true, recurses := true, named := ["duologue/lex.keywords", "duologue/dual.duals", "internal/strconv.uint64pow10", "math/bits.deBruijn32tab", "math/bits.deBruijn64tab"], loops := true, plainKeys := false, apart := false, laid := [("math/bits.deBruijn32tab", laid_math_bits_deBruijn32tab), ("math/bits.deBruijn64tab", laid_math_bits_deBruijn64tab), ("internal/strconv.uint64pow10", laid_internal_strconv_uint64pow10), ("duologue/dual.duals", laid_duologue_dual_duals), ("duologue/lex.keywords", laid_duologue_lex_keywords)], narrowed := true }
def WitnessDualsUptoSaid : Prop := witnessDualsUptoRow.holds Tryz.pinned (OpenSpec.upto witnessDualsSpec)

end Rows
end Go.Proofs.YtkpnmgohbipjjaaGreatDoor

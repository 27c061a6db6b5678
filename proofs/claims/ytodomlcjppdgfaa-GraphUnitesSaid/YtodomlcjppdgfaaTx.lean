/- Texts of functions, printed by a program (wip/dev/Gen.lean). -/
import Derived.Test.YtodomlcjppdgfaaLfD
import Derived.Test.YtodomlcjppdgfaaChecked
import Derived.KernelRfl
set_option linter.all false
namespace Go.Proofs.Ytodomlcjppdgfaa.Tx
open Go.Lf Go.Lf.S
set_option maxRecDepth 100000
instance gl : Gl := { l := [] }
noncomputable abbrev P : Program := Try.prog
instance xc : XC P := xc_none rfl
namespace F
abbrev law07_GraphMatchesReference : Nat := 3
abbrev law07_GraphReaches : Nat := 4
abbrev law07_GraphCounts : Nat := 5
abbrev law07_GraphUnites : Nat := 6
abbrev law08_HeadRaises : Nat := 7
abbrev law07_awake : Nat := 8
abbrev ref07_Few : Nat := 9
abbrev graph_Build : Nat := 10
abbrev ref07_Build : Nat := 11
abbrev law07_same : Nat := 12
abbrev ref07_Reach : Nat := 13
abbrev graph_Reach : Nat := 14
abbrev ref02_Small : Nat := 15
abbrev ref02_Right : Nat := 16
abbrev ref02_Raise : Nat := 17
abbrev ref07_Count : Nat := 18
abbrev ref02_Same : Nat := 19
abbrev law07_back : Nat := 20
abbrev law08_awake : Nat := 21
abbrev law08_Graph : Nat := 22
abbrev head_Raise : Nat := 23
abbrev head_After : Nat := 24
abbrev head_Lowest : Nat := 25
abbrev graph_builder_build : Nat := 26
abbrev ref07_reference : Nat := 27
abbrev ref07_nodes : Nat := 28
abbrev ref03_Texts : Nat := 29
abbrev graph_set_add : Nat := 30
abbrev slices_Sort_int_int : Nat := 31
abbrev ref02_Few : Nat := 32
abbrev ref02_Depth : Nat := 33
abbrev ref02_Size : Nat := 34
abbrev ref02_node : Nat := 35
abbrev ref02_texts : Nat := 36
abbrev head_Prio : Nat := 37
abbrev head_Label : Nat := 38
abbrev head_Kind : Nat := 39
abbrev head_Labels : Nat := 40
abbrev head_Next : Nat := 41
abbrev head_fold_int : Nat := 42
abbrev head_prios : Nat := 43
abbrev head_Lowest_1 : Nat := 44
abbrev graph_strip : Nat := 45
abbrev slices_Clone_string_string : Nat := 46
abbrev maps_Clone_graph_scope_string_graph_Ref : Nat := 47
abbrev slices_pdqsortOrdered_int : Nat := 48
abbrev math_bits_Len : Nat := 49
abbrev ref02_count : Nat := 50
abbrev ref02_shape : Nat := 51
abbrev ref02_Session : Nat := 52
abbrev head_action : Nat := 53
abbrev slices_Index_string_string : Nat := 54
abbrev slices_Sorted_string : Nat := 55
abbrev slices_Values_string_string : Nat := 56
abbrev head_prios_1 : Nat := 57
abbrev slices_insertionSortOrdered_int : Nat := 59
abbrev slices_heapSortOrdered_int : Nat := 60
abbrev slices_breakPatternsOrdered_int : Nat := 61
abbrev slices_choosePivotOrdered_int : Nat := 62
abbrev slices_reverseRangeOrdered_int : Nat := 63
abbrev slices_partialInsertionSortOrdered_int : Nat := 64
abbrev cmp_Less_int : Nat := 65
abbrev slices_partitionEqualOrdered_int : Nat := 66
abbrev slices_partitionOrdered_int : Nat := 67
abbrev math_bits_Len32 : Nat := 68
abbrev math_bits_Len64 : Nat := 69
abbrev ref02_prio : Nat := 70
abbrev ref02_Labels : Nat := 71
abbrev ref01_Name : Nat := 72
abbrev slices_Collect_string : Nat := 73
abbrev slices_Sort_string_string : Nat := 74
abbrev slices_Values_string_string_1 : Nat := 75
abbrev slices_siftDownOrdered_int : Nat := 76
abbrev slices_nextPowerOfTwo : Nat := 77
abbrev slices_xorshift_Next : Nat := 78
abbrev slices_medianAdjacentOrdered_int : Nat := 79
abbrev slices_medianOrdered_int : Nat := 80
abbrev cmp_isNaN_int : Nat := 81
abbrev ref02_in : Nat := 82
abbrev ref01_Word : Nat := 83
abbrev ref01_Keyword : Nat := 84
abbrev slices_AppendSeq_string_string : Nat := 85
abbrev slices_pdqsortOrdered_string : Nat := 86
abbrev slices_order2Ordered_int : Nat := 87
abbrev ref01_in : Nat := 88
abbrev ref01_Letters : Nat := 89
abbrev ref01_digits : Nat := 90
abbrev slices_insertionSortOrdered_string : Nat := 91
abbrev slices_heapSortOrdered_string : Nat := 92
abbrev slices_breakPatternsOrdered_string : Nat := 93
abbrev slices_choosePivotOrdered_string : Nat := 94
abbrev slices_reverseRangeOrdered_string : Nat := 95
abbrev slices_partialInsertionSortOrdered_string : Nat := 96
abbrev cmp_Less_string : Nat := 97
abbrev slices_partitionEqualOrdered_string : Nat := 98
abbrev slices_partitionOrdered_string : Nat := 99
abbrev slices_siftDownOrdered_string : Nat := 100
abbrev slices_medianAdjacentOrdered_string : Nat := 101
abbrev slices_medianOrdered_string : Nat := 102
abbrev cmp_isNaN_string : Nat := 103
abbrev slices_order2Ordered_string : Nat := 104
end F
theorem hm : Try.prog.follows .mixedOrders = true := by kernel_rfl
/-- duologue/duologueref02.Raise, with memory -/
def sg_ref02_Raise : Sig := { args := [.at (.dat 0), .at (.dat 1)], obs := [], res := .agg [.dat 0, .dat 1, .dat 2, .dat 3, .dat 4, .own 9000], robs := [(9000, .arr false 47 6 true 5)], nout := 6 }
/-- (*duologue/graph.builder).build, with memory -/
def sg_graph_builder_build : Sig := { args := [.at (.ptr 9000 0), .at (.dat 0), .at (.mref 9005)], obs := [(9000, .cells false 1 true (.pts [.own 9001])), (9001, .arr false 52 4 true 1), (9005, .map false 2)], res := .at (.dat 0), robs := [(9000, .cells false 1 true (.pts [.own 9002])), (9002, .arr false 52 4 true 1), (9005, .map false 2)], nout := 3 }
/-- (duologue/graph.set).add, with memory -/
def sg_graph_set_add : Sig := { args := [.at (.own 9000), .at (.dat 0)], obs := [(9000, .arr false 95 1 false 1)], res := .at (.dat 0), robs := [(9000, .arr false 95 1 false 1)], nout := 2 }
/-- slices.Sort[[]int,int], with memory -/
def sg_slices_Sort_int_int : Sig := { args := [.at (.own 9000)], obs := [(9000, .arr false 3 1 false 0)], res := .at (.dat 0), robs := [(9000, .arr false 3 1 false 1)], nout := 2 }
/-- slices.Clone[[]string,string], with memory -/
def sg_slices_Clone_string_string : Sig := { args := [.at (.dat 0)], obs := [], res := .at (.own 9000), robs := [(9000, .arr false 9 1 false 0)], nout := 1 }
/-- maps.Clone[duologue/graph.scope,string,duologue/graph.Ref], with memory -/
def sg_maps_Clone_graph_scope_string_graph_Ref : Sig := { args := [.at (.mref 9000)], obs := [(9000, .map false 0)], res := .at (.mref 9001), robs := [(9000, .map false 0), (9001, .map false 1)], nout := 2 }
/-- slices.pdqsortOrdered[int], with memory -/
def sg_slices_pdqsortOrdered_int_Nil : Sig := { args := [.at (.own 9000), .at (.dat 0), .at (.dat 1), .at (.dat 2)], obs := [(9000, .arr false 3 1 false 3)], res := .at (.dat 0), robs := [(9000, .arr false 3 1 false 1)], nout := 2 }
/-- slices.insertionSortOrdered[int], with memory -/
def sg_slices_insertionSortOrdered_int : Sig := { args := [.at (.own 9000), .at (.dat 0), .at (.dat 1)], obs := [(9000, .arr false 3 1 false 2)], res := .at (.dat 0), robs := [(9000, .arr false 3 1 false 1)], nout := 2 }
/-- slices.Collect[string], with memory -/
def sg_slices_Collect_string : Sig := { args := [.at (.dat 0)], obs := [], res := .at (.own 9000), robs := [(9000, .arr false 9 1 false 0)], nout := 1 }
/-- slices.Sort[[]string,string], with memory -/
def sg_slices_Sort_string_string : Sig := { args := [.at (.own 9000)], obs := [(9000, .arr false 9 1 false 0)], res := .at (.dat 0), robs := [(9000, .arr false 9 1 false 1)], nout := 2 }
/-- slices.AppendSeq[[]string,string], with memory -/
def sg_slices_AppendSeq_string_string : Sig := { args := [.at (.nils), .at (.dat 0)], obs := [], res := .at (.own 9000), robs := [(9000, .arr false 9 1 false 0)], nout := 1 }
/-- slices.pdqsortOrdered[string], with memory -/
def sg_slices_pdqsortOrdered_string_Nil : Sig := { args := [.at (.own 9000), .at (.dat 0), .at (.dat 1), .at (.dat 2)], obs := [(9000, .arr false 9 1 false 3)], res := .at (.dat 0), robs := [(9000, .arr false 9 1 false 1)], nout := 2 }
/-- slices.insertionSortOrdered[string], with memory -/
def sg_slices_insertionSortOrdered_string : Sig := { args := [.at (.own 9000), .at (.dat 0), .at (.dat 1)], obs := [(9000, .arr false 9 1 false 2)], res := .at (.dat 0), robs := [(9000, .arr false 9 1 false 1)], nout := 2 }
def t_law07_GraphMatchesReference (xs : List PV) : T PV :=
.call F.law07_awake [] fun x0 =>
.l .bnot [x0] fun x1 =>
.ite x1 (
 .call F.law07_awake [] fun x2 =>
 .ret x2) (
 .call F.ref07_Few [(n xs 0), (i 10), (i 200)] fun x2 =>
 .l .bnot [x2] fun x3 =>
 .ite x3 (
  .call F.law07_awake [] fun x4 =>
  .ret x4) (
  .call F.graph_Build [(n xs 0)] fun x4 =>
  .l (.tc 0) [x4] fun x5 =>
  .l (.tc 1) [x4] fun x6 =>
  .l (.okc 1 true) [x5] fun x7 =>
  .call F.ref07_Build [(n xs 0)] fun x8 =>
  .l (.tc 0) [x8] fun x9 =>
  .l (.tc 1) [x8] fun x10 =>
  .call F.law07_same [x7, x9] fun x11 =>
  .l .bnot [x11] fun x12 =>
  .ite x12 (
   .ret (.bool false)) (
   .l .len [x6] fun x13 =>
   .l .len [x10] fun x14 =>
   .l (.cmp .neq .i64) [x13, x14] fun x15 =>
   .ite x15 (
    .ret (.bool false)) (
    .loop [(i 0)] fun y16 =>
    .l .len [x6] fun x17 =>
    .l (.cmp .lss .i64) [(n y16 0), x17] fun x18 =>
    .ite x18 (
     .l (.idx 2 true) [x6, (n y16 0)] fun x19 =>
     .l (.idx 2 true) [x10, (n y16 0)] fun x20 =>
     .l (.idx 2 true) [x10, (n y16 0)] fun x21 =>
     .l (.okcs [(1, false), (1, false)]) [(c 0 x20), (c 1 x21)] fun x22 =>
     .l (.acmp .neq [.i .i64, .i .i64]) [x19, (.agg [(c 0 x20), (c 1 x21)])] fun x23 =>
     .ite x23 (
      .ret (.bool false)) (
      .l (.arith .add .i64) [(n y16 0), (i 1)] fun x24 =>
      .cont 0 [x24])) (
     .ret (.bool true))))))
theorem k_law07_GraphMatchesReference : TxOk P F.law07_GraphMatchesReference 1 t_law07_GraphMatchesReference := txOk_of (H := {}) (plans := []) hm Try.func3 rfl rfl fun xs => by kernel_rfl
def t_law07_GraphReaches (xs : List PV) : T PV :=
.call F.law07_awake [] fun x0 =>
.l .bnot [x0] fun x1 =>
.ite x1 (
 .call F.law07_awake [] fun x2 =>
 .ret x2) (
 .call F.ref07_Few [(n xs 0), (i 5), (i 60)] fun x2 =>
 .l .bnot [x2] fun x3 =>
 .ite x3 (
  .call F.law07_awake [] fun x4 =>
  .ret x4) (
  .l .len [(n xs 0)] fun x4 =>
  .l (.cmp .eql .i64) [x4, (i 0)] fun x5 =>
  .ite x5 (
   .call F.law07_awake [] fun x6 =>
   .ret x6) (
   .call F.graph_Build [(n xs 0)] fun x6 =>
   .l (.tc 0) [x6] fun x7 =>
   .l (.tc 1) [x6] fun x8 =>
   .l (.okc 1 true) [x7] fun x9 =>
   .call F.ref07_Build [(n xs 0)] fun x10 =>
   .l (.tc 0) [x10] fun x11 =>
   .l (.tc 1) [x10] fun x12 =>
   .call F.law07_same [x9, x11] fun x13 =>
   .l .bnot [x13] fun x14 =>
   .ite x14 (
    .ret (.bool false)) (
    .l (.conv .i64) [(n xs 1)] fun x15 =>
    .l .len [x11] fun x16 =>
    .l (.arith .rem .i64) [x15, x16] fun x17 =>
    .call F.ref07_Reach [x11, x17] fun x18 =>
    .l (.conv .i64) [(n xs 1)] fun x19 =>
    .l (.okcs [(1, false), (1, false)]) [x17, x19] fun x20 =>
    .call F.graph_Reach [x9, (.agg [x17, x19])] fun x21 =>
    .loop [(i 0), (i 0)] fun y22 =>
    .l .len [x18] fun x23 =>
    .l (.cmp .lss .i64) [(n y22 0), x23] fun x24 =>
    .ite x24 (
     .l (.idx 1 false) [x18, (n y22 0)] fun x25 =>
     .ite x25 (
      .l .len [x21] fun x26 =>
      .l (.cmp .geq .i64) [(n y22 1), x26] fun x27 =>
      .ite x27 (
       .ret (.bool false)) (
       .l (.idx 1 false) [x21, (n y22 1)] fun x28 =>
       .l (.cmp .neq .i64) [x28, (n y22 0)] fun x29 =>
       .ite x29 (
        .ret (.bool false)) (
        .l (.arith .add .i64) [(n y22 1), (i 1)] fun x30 =>
        .l (.arith .add .i64) [(n y22 0), (i 1)] fun x31 =>
        .cont 0 [x31, x30]))) (
      .l (.arith .add .i64) [(n y22 0), (i 1)] fun x26 =>
      .cont 0 [x26, (n y22 1)])) (
     .l .len [x21] fun x25 =>
     .l (.cmp .eql .i64) [(n y22 1), x25] fun x26 =>
     .ret x26)))))
theorem k_law07_GraphReaches : TxOk P F.law07_GraphReaches 2 t_law07_GraphReaches := txOk_of (H := {}) (plans := []) hm Try.func4 rfl rfl fun xs => by kernel_rfl
def t_law07_GraphCounts (xs : List PV) : T PV :=
.l (.okc 6 true) [(n xs 0)] fun x0 =>
.l (.okc 6 true) [(n xs 1)] fun x1 =>
.call F.law07_awake [] fun x2 =>
.l .bnot [x2] fun x3 =>
.ite x3 (
 .call F.law07_awake [] fun x4 =>
 .ret x4) (
 .call F.ref02_Small [x0, (i 100)] fun x4 =>
 .l .bnot [x4] fun x5 =>
 .ite x5 (
  .call F.law07_awake [] fun x6 =>
  .ret x6) (
  .call F.ref02_Small [x1, (i 100)] fun x6 =>
  .l .bnot [x6] fun x7 =>
  .ite x7 (
   .call F.law07_awake [] fun x8 =>
   .ret x8) (
   .l (.conv .i64) [(n xs 2)] fun x8 =>
   .call F.ref02_Raise [x0, x8] fun x9 =>
   .call F.ref02_Right [x9] fun x10 =>
   .l (.cmp .neq .i64) [x10, (i 0)] fun x11 =>
   .ite x11 (
    .ret (.bool true)) (
    .call F.ref02_Raise [x0, (i 0)] fun x12 =>
    .l (.okc 6 true) [x12] fun x13 =>
    .l (.lst 6 true) [x13, x1] fun x14 =>
    .call F.graph_Build [x14] fun x15 =>
    .l (.tc 0) [x15] fun x16 =>
    .l (.tc 1) [x15] fun x17 =>
    .l (.okc 1 true) [x16] fun x18 =>
    .l (.conv .i64) [(n xs 2)] fun x19 =>
    .call F.ref02_Raise [x0, x19] fun x20 =>
    .l (.lst 6 true) [x20] fun x21 =>
    .call F.graph_Build [x21] fun x22 =>
    .l (.tc 0) [x22] fun x23 =>
    .l (.tc 1) [x22] fun x24 =>
    .l (.okc 1 true) [x23] fun x25 =>
    .l .len [(c 0 x18)] fun x26 =>
    .call F.ref07_Count [x0] fun x27 =>
    .call F.ref07_Count [x1] fun x28 =>
    .l (.arith .add .i64) [x27, x28] fun x29 =>
    .l (.cmp .neq .i64) [x26, x29] fun x30 =>
    .ite x30 (
     .ret (.bool false)) (
     .l .len [(c 0 x25)] fun x31 =>
     .call F.ref07_Count [x0] fun x32 =>
     .l (.cmp .neq .i64) [x31, x32] fun x33 =>
     .ite x33 (
      .ret (.bool false)) (
      .l .len [x17] fun x34 =>
      .l (.cmp .neq .i64) [x34, (i 2)] fun x35 =>
      .ite x35 (
       .ret (.bool false)) (
       .l .len [x24] fun x36 =>
       .l (.cmp .neq .i64) [x36, (i 1)] fun x37 =>
       .ite x37 (
        .ret (.bool false)) (
        .l (.idx 2 true) [x17, (i 0)] fun x38 =>
        .l (.idx 2 true) [x24, (i 0)] fun x39 =>
        .l (.acmp .neq [.i .i64, .i .i64]) [x38, x39] fun x40 =>
        .ite x40 (
         .ret (.bool false)) (
         .l (.idx 2 true) [x17, (i 1)] fun x41 =>
         .call F.ref07_Count [x0] fun x42 =>
         .l (.cmp .neq .i64) [(c 0 x41), x42] fun x43 =>
         .ite x43 (
          .ret (.bool false)) (
          .loop [(i 0)] fun y44 =>
          .l .len [(c 0 x25)] fun x45 =>
          .l (.cmp .lss .i64) [(n y44 0), x45] fun x46 =>
          .ite x46 (
           .l (.idx 4 true) [(c 0 x18), (n y44 0)] fun x47 =>
           .l (.idx 4 true) [(c 0 x18), (n y44 0)] fun x48 =>
           .l (.cmp .geq .i64) [(c 0 x48), (i 4)] fun x49 =>
           .ite x49 (
            .l (.conv .i64) [(n xs 2)] fun x50 =>
            .l (.arith .add .i64) [(c 1 x47), x50] fun x51 =>
            .l (.idx 4 true) [(c 0 x25), (n y44 0)] fun x52 =>
            .l (.cmp .neq .i64) [(c 1 x52), x51] fun x53 =>
            .ite x53 (
             .ret (.bool false)) (
             .l (.idx 4 true) [(c 0 x25), (n y44 0)] fun x54 =>
             .l (.idx 4 true) [(c 0 x18), (n y44 0)] fun x55 =>
             .l (.cmp .neq .i64) [(c 0 x54), (c 0 x55)] fun x56 =>
             .ite x56 (
              .ret (.bool false)) (
              .l (.idx 4 true) [(c 0 x25), (n y44 0)] fun x57 =>
              .l .len [(c 3 x57)] fun x58 =>
              .l (.idx 4 true) [(c 0 x18), (n y44 0)] fun x59 =>
              .l .len [(c 3 x59)] fun x60 =>
              .l (.cmp .neq .i64) [x58, x60] fun x61 =>
              .ite x61 (
               .ret (.bool false)) (
               .l (.arith .add .i64) [(n y44 0), (i 1)] fun x62 =>
               .cont 0 [x62])))) (
            .l (.idx 4 true) [(c 0 x25), (n y44 0)] fun x50 =>
            .l (.cmp .neq .i64) [(c 1 x50), (c 1 x47)] fun x51 =>
            .ite x51 (
             .ret (.bool false)) (
             .l (.idx 4 true) [(c 0 x25), (n y44 0)] fun x52 =>
             .l (.idx 4 true) [(c 0 x18), (n y44 0)] fun x53 =>
             .l (.cmp .neq .i64) [(c 0 x52), (c 0 x53)] fun x54 =>
             .ite x54 (
              .ret (.bool false)) (
              .l (.idx 4 true) [(c 0 x25), (n y44 0)] fun x55 =>
              .l .len [(c 3 x55)] fun x56 =>
              .l (.idx 4 true) [(c 0 x18), (n y44 0)] fun x57 =>
              .l .len [(c 3 x57)] fun x58 =>
              .l (.cmp .neq .i64) [x56, x58] fun x59 =>
              .ite x59 (
               .ret (.bool false)) (
               .l (.arith .add .i64) [(n y44 0), (i 1)] fun x60 =>
               .cont 0 [x60]))))) (
           .call F.ref02_Same [x13, x0] fun x47 =>
           .ret x47)))))))))))
theorem k_law07_GraphCounts : TxOk P F.law07_GraphCounts 3 t_law07_GraphCounts := txOk_of (H := {}) (plans := []) hm Try.func5 rfl rfl fun xs => by kernel_rfl
def t_law07_GraphUnites (xs : List PV) : T PV :=
.l (.okc 6 true) [(n xs 0)] fun x0 =>
.call F.law07_awake [] fun x1 =>
.l .bnot [x1] fun x2 =>
.ite x2 (
 .call F.law07_awake [] fun x3 =>
 .ret x3) (
 .call F.ref02_Small [x0, (i 60)] fun x3 =>
 .l .bnot [x3] fun x4 =>
 .ite x4 (
  .call F.law07_awake [] fun x5 =>
  .ret x5) (
  .l (.lst 6 true) [x0] fun x5 =>
  .call F.graph_Build [x5] fun x6 =>
  .l (.tc 0) [x6] fun x7 =>
  .l (.tc 1) [x6] fun x8 =>
  .l (.okc 1 true) [x7] fun x9 =>
  .call F.law07_back [x9] fun x10 =>
  .l (.tc 0) [x10] fun x11 =>
  .l (.tc 1) [x10] fun x12 =>
  .l .bnot [x12] fun x13 =>
  .ite x13 (
   .ret (.bool false)) (
   .l .len [x8] fun x14 =>
   .l (.cmp .neq .i64) [x14, (i 1)] fun x15 =>
   .ite x15 (
    .ret (.bool false)) (
    .l (.idx 2 true) [x8, (i 0)] fun x16 =>
    .l (.cmp .lss .i64) [(c 0 x16), (i 0)] fun x17 =>
    .ite x17 (
     .ret (.bool false)) (
     .l (.idx 2 true) [x8, (i 0)] fun x18 =>
     .l .len [x11] fun x19 =>
     .l (.cmp .geq .i64) [(c 0 x18), x19] fun x20 =>
     .ite x20 (
      .ret (.bool false)) (
      .l (.conv .i64) [(n xs 1)] fun x21 =>
      .l .len [x11] fun x22 =>
      .l (.arith .rem .i64) [x21, x22] fun x23 =>
      .l .len [x11] fun x24 =>
      .l (.rep 1 false 1 (.bool false)) [x24] fun x25 =>
      .l (.idx 1 false) [x25, x23] fun x26 =>
      .l (.upd 1 false) [x25, x23, (.bool true)] fun x27 =>
      .loop [(i 0), x27] fun y28 =>
      .l (.idx 4 true) [x11, x23] fun x29 =>
      .l .len [(c 3 x29)] fun x30 =>
      .l (.cmp .lss .i64) [(n y28 0), x30] fun x31 =>
      .ite x31 (
       .l (.idx 4 true) [x11, x23] fun x32 =>
       .l (.idx 2 true) [(c 3 x32), (n y28 0)] fun x33 =>
       .l (.okcs [(1, false)]) [(c 0 x33)] fun x34 =>
       .call F.graph_Reach [x9, (.agg [(c 0 x33), (i 0)])] fun x35 =>
       .loop [(i 0), (n y28 1)] fun y36 =>
       .l .len [x35] fun x37 =>
       .l (.cmp .lss .i64) [(n y36 0), x37] fun x38 =>
       .ite x38 (
        .l (.idx 1 false) [x35, (n y36 0)] fun x39 =>
        .l (.cmp .lss .i64) [x39, (i 0)] fun x40 =>
        .ite x40 (
         .ret (.bool false)) (
         .l (.idx 1 false) [x35, (n y36 0)] fun x41 =>
         .l .len [x11] fun x42 =>
         .l (.cmp .geq .i64) [x41, x42] fun x43 =>
         .ite x43 (
          .ret (.bool false)) (
          .l (.idx 1 false) [x35, (n y36 0)] fun x44 =>
          .l (.idx 1 false) [(n y36 1), x44] fun x45 =>
          .l (.upd 1 false) [(n y36 1), x44, (.bool true)] fun x46 =>
          .l (.arith .add .i64) [(n y36 0), (i 1)] fun x47 =>
          .cont 1 [x47, x46]))) (
        .l (.arith .add .i64) [(n y28 0), (i 1)] fun x39 =>
        .cont 0 [x39, (n y36 1)])) (
       .l (.okcs [(1, false)]) [x23] fun x32 =>
       .call F.graph_Reach [x9, (.agg [x23, (i 5)])] fun x33 =>
       .loop [(i 0), (i 0)] fun y34 =>
       .l .len [(n y28 1)] fun x35 =>
       .l (.cmp .lss .i64) [(n y34 0), x35] fun x36 =>
       .ite x36 (
        .l (.idx 1 false) [(n y28 1), (n y34 0)] fun x37 =>
        .l (.idx 1 false) [(n y28 1), (n y34 0)] fun x38 =>
        .ite x38 (
         .l .len [x33] fun x39 =>
         .l (.cmp .geq .i64) [(n y34 1), x39] fun x40 =>
         .ite x40 (
          .ret (.bool false)) (
          .l (.idx 1 false) [x33, (n y34 1)] fun x41 =>
          .l (.cmp .neq .i64) [x41, (n y34 0)] fun x42 =>
          .ite x42 (
           .ret (.bool false)) (
           .l (.arith .add .i64) [(n y34 1), (i 1)] fun x43 =>
           .l (.arith .add .i64) [(n y34 0), (i 1)] fun x44 =>
           .cont 1 [x44, x43]))) (
         .l (.arith .add .i64) [(n y34 0), (i 1)] fun x39 =>
         .cont 1 [x39, (n y34 1)])) (
        .l .len [x33] fun x37 =>
        .l (.cmp .eql .i64) [(n y34 1), x37] fun x38 =>
        .ite x38 (
         .l (.idx 2 true) [x8, (i 0)] fun x39 =>
         .call F.graph_Reach [x9, x39] fun x40 =>
         .l .len [x40] fun x41 =>
         .l .len [x11] fun x42 =>
         .l (.cmp .eql .i64) [x41, x42] fun x43 =>
         .ret x43) (
         .ret (.bool false))))))))))
theorem k_law07_GraphUnites : TxOk P F.law07_GraphUnites 2 t_law07_GraphUnites := txOk_of (H := {}) (plans := []) hm Try.func6 rfl rfl fun xs => by kernel_rfl
def t_law08_HeadRaises (xs : List PV) : T PV :=
.call F.law08_awake [] fun x0 =>
.l .bnot [x0] fun x1 =>
.ite x1 (
 .call F.law08_awake [] fun x2 =>
 .ret x2) (
 .call F.ref07_Few [(n xs 0), (i 10), (i 60)] fun x2 =>
 .l .bnot [x2] fun x3 =>
 .ite x3 (
  .call F.law08_awake [] fun x4 =>
  .ret x4) (
  .l .len [(n xs 0)] fun x4 =>
  .l (.cmp .eql .i64) [x4, (i 0)] fun x5 =>
  .ite x5 (
   .call F.law08_awake [] fun x6 =>
   .ret x6) (
   .l .len [(n xs 2)] fun x6 =>
   .l (.cmp .gtr .i64) [x6, (i 1000)] fun x7 =>
   .ite x7 (
    .call F.law08_awake [] fun x8 =>
    .ret x8) (
    .call F.law08_Graph [(n xs 0)] fun x8 =>
    .l (.tc 0) [x8] fun x9 =>
    .l (.tc 1) [x8] fun x10 =>
    .l (.okc 1 true) [x9] fun x11 =>
    .loop [(i 0), (.sl [])] fun y12 =>
    .l .len [x10] fun x13 =>
    .l (.cmp .lss .i64) [(n y12 0), x13] fun x14 =>
    .ite x14 (
     .l (.idx 2 true) [x10, (n y12 0)] fun x15 =>
     .l (.conv .i64) [(n xs 1)] fun x16 =>
     .call F.head_Raise [x15, x16] fun x17 =>
     .l (.lst 2 true) [x17] fun x18 =>
     .l (.app 2 true 16) [(n y12 1), x18] fun x19 =>
     .l (.arith .add .i64) [(n y12 0), (i 1)] fun x20 =>
     .cont 0 [x20, x19]) (
     .l (.idx 2 true) [x10, (i 0)] fun x15 =>
     .call F.head_After [x11, x15, (n xs 2)] fun x16 =>
     .l (.tc 0) [x16] fun x17 =>
     .l (.tc 1) [x16] fun x18 =>
     .l (.okc 2 true) [x17] fun x19 =>
     .l (.idx 2 true) [(n y12 1), (i 0)] fun x20 =>
     .call F.head_After [x11, x20, (n xs 2)] fun x21 =>
     .l (.tc 0) [x21] fun x22 =>
     .l (.tc 1) [x21] fun x23 =>
     .l (.okc 2 true) [x22] fun x24 =>
     .call F.head_Lowest [x11, x10] fun x25 =>
     .l (.tc 0) [x25] fun x26 =>
     .l (.tc 1) [x25] fun x27 =>
     .call F.head_Lowest [x11, (n y12 1)] fun x28 =>
     .l (.tc 0) [x28] fun x29 =>
     .l (.tc 1) [x28] fun x30 =>
     .l (.bcmp .eql) [x18, x23] fun x31 =>
     .ite x31 (
      .l .bnot [x18] fun x32 =>
      .ite x32 (
       .l (.bcmp .eql) [x27, x30] fun x33 =>
       .ite x33 (
        .l .bnot [x27] fun x34 =>
        .ite x34 (
         .ret (.bool true)) (
         .l (.conv .i64) [(n xs 1)] fun x35 =>
         .l (.arith .add .i64) [x26, x35] fun x36 =>
         .l (.cmp .eql .i64) [x29, x36] fun x37 =>
         .ret x37)) (
        .ret (.bool false))) (
       .l (.conv .i64) [(n xs 1)] fun x33 =>
       .call F.head_Raise [x19, x33] fun x34 =>
       .l (.acmp .eql [.i .i64, .i .i64]) [x24, x34] fun x35 =>
       .ite x35 (
        .l (.bcmp .eql) [x27, x30] fun x36 =>
        .ite x36 (
         .l .bnot [x27] fun x37 =>
         .ite x37 (
          .ret (.bool true)) (
          .l (.conv .i64) [(n xs 1)] fun x38 =>
          .l (.arith .add .i64) [x26, x38] fun x39 =>
          .l (.cmp .eql .i64) [x29, x39] fun x40 =>
          .ret x40)) (
         .ret (.bool false))) (
        .ret (.bool false)))) (
      .ret (.bool false)))))))
theorem k_law08_HeadRaises : TxOk P F.law08_HeadRaises 3 t_law08_HeadRaises := txOk_of (H := {}) (plans := []) hm Try.func7 rfl rfl fun xs => by kernel_rfl
def t_law07_awake (xs : List PV) : T PV :=
.l (.lst 6 true) [(.agg [(i 1), (i 0), (.str ⟨#[]⟩), (i 0), (.sl []), (.sl [])]), (.agg [(i 9), (i 0), (.str ⟨#[116]⟩), (i 2), (.sl []), (.sl [])])] fun x0 =>
.l (.lst 6 true) [(.agg [(i 4), (i 0), (.str ⟨#[]⟩), (i 0), (.sl []), x0])] fun x1 =>
.l (.lst 6 true) [(.agg [(i 8), (i 0), (.str ⟨#[116]⟩), (i 0), (.sl []), x1]), (.agg [(i 3), (i 0), (.str ⟨#[]⟩), (i 0), (.sl []), (.sl [])])] fun x2 =>
.call F.graph_Build [x2] fun x3 =>
.l (.tc 0) [x3] fun x4 =>
.l (.tc 1) [x3] fun x5 =>
.l (.okc 1 true) [x4] fun x6 =>
.l .len [(c 0 x6)] fun x7 =>
.l (.cmp .neq .i64) [x7, (i 3)] fun x8 =>
.ite x8 (
 .ret (.bool false)) (
 .l .len [x5] fun x9 =>
 .l (.cmp .neq .i64) [x9, (i 2)] fun x10 =>
 .ite x10 (
  .ret (.bool false)) (
  .l (.idx 4 true) [(c 0 x6), (i 0)] fun x11 =>
  .l .len [(c 3 x11)] fun x12 =>
  .l (.cmp .neq .i64) [x12, (i 2)] fun x13 =>
  .ite x13 (
   .ret (.bool false)) (
   .l (.idx 2 true) [x5, (i 0)] fun x14 =>
   .l (.acmp .eql [.i .i64, .i .i64]) [x14, (.agg [(i 0), (i 0)])] fun x15 =>
   .ite x15 (
    .l (.idx 2 true) [x5, (i 1)] fun x16 =>
    .l (.acmp .eql [.i .i64, .i .i64]) [x16, (.agg [(i 2), (i 0)])] fun x17 =>
    .ite x17 (
     .l (.idx 4 true) [(c 0 x6), (i 0)] fun x18 =>
     .l (.cmp .eql .i64) [(c 0 x18), (i 4)] fun x19 =>
     .ite x19 (
      .l (.idx 4 true) [(c 0 x6), (i 0)] fun x20 =>
      .l (.idx 2 true) [(c 3 x20), (i 0)] fun x21 =>
      .l (.acmp .eql [.i .i64, .i .i64]) [x21, (.agg [(i 1), (i 0)])] fun x22 =>
      .ite x22 (
       .l (.idx 4 true) [(c 0 x6), (i 0)] fun x23 =>
       .l (.idx 2 true) [(c 3 x23), (i 1)] fun x24 =>
       .l (.acmp .eql [.i .i64, .i .i64]) [x24, (.agg [(i 0), (i 2)])] fun x25 =>
       .ite x25 (
        .l (.idx 2 true) [x5, (i 0)] fun x26 =>
        .call F.graph_Reach [x6, x26] fun x27 =>
        .l .len [x27] fun x28 =>
        .l (.cmp .eql .i64) [x28, (i 2)] fun x29 =>
        .ret x29) (
        .ret (.bool false))) (
       .ret (.bool false))) (
      .ret (.bool false))) (
     .ret (.bool false))) (
    .ret (.bool false)))))
theorem k_law07_awake : TxOk P F.law07_awake 0 t_law07_awake := txOk_of (H := {}) (plans := []) hm Try.func8 rfl rfl fun xs => by kernel_rfl
def t_ref07_Few (xs : List PV) : T PV :=
.l .len [(n xs 0)] fun x0 =>
.l (.cmp .gtr .i64) [x0, (n xs 1)] fun x1 =>
.ite x1 (
 .ret (.bool false)) (
 .loop [(i 0)] fun y2 =>
 .l .len [(n xs 0)] fun x3 =>
 .l (.cmp .lss .i64) [(n y2 0), x3] fun x4 =>
 .ite x4 (
  .l (.idx 6 true) [(n xs 0), (n y2 0)] fun x5 =>
  .call F.ref02_Small [x5, (n xs 2)] fun x6 =>
  .l .bnot [x6] fun x7 =>
  .ite x7 (
   .ret (.bool false)) (
   .l (.arith .add .i64) [(n y2 0), (i 1)] fun x8 =>
   .cont 0 [x8])) (
  .ret (.bool true)))
theorem k_ref07_Few : TxOk P F.ref07_Few 3 t_ref07_Few := txOk_of (H := {}) (plans := []) hm Try.func9 rfl rfl fun xs => by kernel_rfl
def t_graph_Build (xs : List PV) : T PV :=
.l .len [(n xs 0)] fun x0 =>
.loop [(i 0), (.sl []), (.sl [])] fun y1 =>
.l (.cmp .lss .i64) [(n y1 0), x0] fun x2 =>
.ite x2 (
 .l (.idx 6 true) [(n xs 0), (n y1 0)] fun x3 =>
 .l (.okc 6 true) [x3] fun x4 =>
 .calls F.graph_builder_build sg_graph_builder_build [x4, (n y1 2), (.mp [] [])] fun z5 =>
 .l (.lst 2 true) [(n z5 0)] fun x6 =>
 .l (.app 2 true 16) [(n y1 1), x6] fun x7 =>
 .l (.arith .add .i64) [(n y1 0), (i 1)] fun x8 =>
 .cont 0 [x8, x7, (n z5 1)]) (
 .ret (.tup [(.agg [(n y1 2)]), (n y1 1)]))
theorem k_graph_Build : TxOk P F.graph_Build 1 t_graph_Build := txOk_of (H := { wr := [], ro := [], nl := [(4, (0, (52, false)))], fz := [], da := [], sigs := [(26, sg_graph_builder_build), (47, sg_maps_Clone_graph_scope_string_graph_Ref)] }) (plans := []) hm Try.func10 rfl rfl fun xs => by kernel_rfl
def t_ref07_Build (xs : List PV) : T PV :=
.loop [(i 0), (.sl []), (.sl [])] fun y0 =>
.l .len [(n xs 0)] fun x1 =>
.l (.cmp .lss .i64) [(n y0 0), x1] fun x2 =>
.ite x2 (
 .l (.idx 6 true) [(n xs 0), (n y0 0)] fun x3 =>
 .l .len [(n y0 2)] fun x4 =>
 .call F.ref07_reference [x3, x4, (.sl []), (.sl [])] fun x5 =>
 .l (.lst 2 true) [x5] fun x6 =>
 .l (.app 2 true 16) [(n y0 1), x6] fun x7 =>
 .l (.idx 6 true) [(n xs 0), (n y0 0)] fun x8 =>
 .l .len [(n y0 2)] fun x9 =>
 .call F.ref07_nodes [x8, x9, (.sl []), (.sl [])] fun x10 =>
 .l (.app 4 true 64) [(n y0 2), x10] fun x11 =>
 .l (.arith .add .i64) [(n y0 0), (i 1)] fun x12 =>
 .cont 0 [x12, x7, x11]) (
 .ret (.tup [(n y0 2), (n y0 1)]))
theorem k_ref07_Build : TxOk P F.ref07_Build 1 t_ref07_Build := txOk_of (H := {}) (plans := []) hm Try.func11 rfl rfl fun xs => by kernel_rfl
def t_law07_same (xs : List PV) : T PV :=
.l (.okc 1 true) [(n xs 0)] fun x0 =>
.l .len [(c 0 x0)] fun x1 =>
.l .len [(n xs 1)] fun x2 =>
.l (.cmp .neq .i64) [x1, x2] fun x3 =>
.ite x3 (
 .ret (.bool false)) (
 .loop [(i 0)] fun y4 =>
 .l .len [(n xs 1)] fun x5 =>
 .l (.cmp .lss .i64) [(n y4 0), x5] fun x6 =>
 .ite x6 (
  .l (.idx 4 true) [(c 0 x0), (n y4 0)] fun x7 =>
  .l (.okc 4 true) [x7] fun x8 =>
  .l (.idx 4 true) [(n xs 1), (n y4 0)] fun x9 =>
  .l (.cmp .neq .i64) [(c 0 x8), (c 0 x9)] fun x10 =>
  .ite x10 (
   .ret (.bool false)) (
   .l (.idx 4 true) [(n xs 1), (n y4 0)] fun x11 =>
   .l (.cmp .neq .i64) [(c 1 x8), (c 1 x11)] fun x12 =>
   .ite x12 (
    .ret (.bool false)) (
    .l (.idx 4 true) [(n xs 1), (n y4 0)] fun x13 =>
    .call F.ref03_Texts [(c 2 x8), (c 2 x13)] fun x14 =>
    .l .bnot [x14] fun x15 =>
    .ite x15 (
     .ret (.bool false)) (
     .l .len [(c 3 x8)] fun x16 =>
     .l (.idx 4 true) [(n xs 1), (n y4 0)] fun x17 =>
     .l .len [(c 3 x17)] fun x18 =>
     .l (.cmp .neq .i64) [x16, x18] fun x19 =>
     .ite x19 (
      .ret (.bool false)) (
      .loop [(i 0)] fun y20 =>
      .l .len [(c 3 x8)] fun x21 =>
      .l (.cmp .lss .i64) [(n y20 0), x21] fun x22 =>
      .ite x22 (
       .l (.idx 2 true) [(c 3 x8), (n y20 0)] fun x23 =>
       .l (.idx 4 true) [(n xs 1), (n y4 0)] fun x24 =>
       .l (.idx 2 true) [(c 3 x24), (n y20 0)] fun x25 =>
       .l (.idx 4 true) [(n xs 1), (n y4 0)] fun x26 =>
       .l (.idx 2 true) [(c 3 x26), (n y20 0)] fun x27 =>
       .l (.okcs [(1, false), (1, false)]) [(c 0 x25), (c 1 x27)] fun x28 =>
       .l (.acmp .neq [.i .i64, .i .i64]) [x23, (.agg [(c 0 x25), (c 1 x27)])] fun x29 =>
       .ite x29 (
        .ret (.bool false)) (
        .l (.arith .add .i64) [(n y20 0), (i 1)] fun x30 =>
        .cont 1 [x30])) (
       .l (.arith .add .i64) [(n y4 0), (i 1)] fun x23 =>
       .cont 0 [x23])))))) (
  .ret (.bool true)))
theorem k_law07_same : TxOk P F.law07_same 2 t_law07_same := txOk_of (H := {}) (plans := []) hm Try.func12 rfl rfl fun xs => by kernel_rfl
def t_ref07_Reach (xs : List PV) : T PV :=
.l .len [(n xs 0)] fun x0 =>
.l (.rep 1 false 1 (.bool false)) [x0] fun x1 =>
.l (.idx 1 false) [x1, (n xs 1)] fun x2 =>
.l (.upd 1 false) [x1, (n xs 1), (.bool true)] fun x3 =>
.loop [(i 0), x3] fun y4 =>
.l .len [(n xs 0)] fun x5 =>
.l (.cmp .lss .i64) [(n y4 0), x5] fun x6 =>
.ite x6 (
 .loop [(i 0), (n y4 1)] fun y7 =>
 .l .len [(n xs 0)] fun x8 =>
 .l (.cmp .lss .i64) [(n y7 0), x8] fun x9 =>
 .ite x9 (
  .loop [(i 0), (n y7 1)] fun y10 =>
  .l (.idx 4 true) [(n xs 0), (n y7 0)] fun x11 =>
  .l .len [(c 3 x11)] fun x12 =>
  .l (.cmp .lss .i64) [(n y10 0), x12] fun x13 =>
  .ite x13 (
   .l (.idx 1 false) [(n y10 1), (n y7 0)] fun x14 =>
   .l (.idx 1 false) [(n y10 1), (n y7 0)] fun x15 =>
   .ite x15 (
    .l (.idx 4 true) [(n xs 0), (n y7 0)] fun x16 =>
    .l (.idx 2 true) [(c 3 x16), (n y10 0)] fun x17 =>
    .l (.idx 1 false) [(n y10 1), (c 0 x17)] fun x18 =>
    .l (.upd 1 false) [(n y10 1), (c 0 x17), (.bool true)] fun x19 =>
    .l (.arith .add .i64) [(n y10 0), (i 1)] fun x20 =>
    .cont 2 [x20, x19]) (
    .l (.arith .add .i64) [(n y7 0), (i 1)] fun x16 =>
    .cont 1 [x16, (n y10 1)])) (
   .l (.arith .add .i64) [(n y7 0), (i 1)] fun x14 =>
   .cont 1 [x14, (n y10 1)])) (
  .l (.arith .add .i64) [(n y4 0), (i 1)] fun x10 =>
  .cont 0 [x10, (n y7 1)])) (
 .ret (n y4 1))
theorem k_ref07_Reach : TxOk P F.ref07_Reach 2 t_ref07_Reach := txOk_of (H := {}) (plans := []) hm Try.func13 rfl rfl fun xs => by kernel_rfl
def t_graph_Reach (xs : List PV) : T PV :=
.l (.okc 1 true) [(n xs 0)] fun x0 =>
.l (.okc 2 true) [(n xs 1)] fun x1 =>
.l .len [(c 0 x0)] fun x2 =>
.l (.arith .quo .i64) [x2, (i 64)] fun x3 =>
.l (.arith .add .i64) [x3, (i 1)] fun x4 =>
.l (.rep 1 false 8 (.int .u64 (0))) [x4] fun x5 =>
.calls F.graph_set_add sg_graph_set_add [(c 0 x1), x5] fun z6 =>
.l (.lst 1 false) [(c 0 x1)] fun x7 =>
.loop [(i 0), x7, (n z6 1)] fun y8 =>
.l .len [(n y8 1)] fun x9 =>
.l (.cmp .lss .i64) [(n y8 0), x9] fun x10 =>
.ite x10 (
 .l (.idx 1 false) [(n y8 1), (n y8 0)] fun x11 =>
 .l (.idx 1 false) [(n y8 1), (n y8 0)] fun x12 =>
 .l (.idx 4 true) [(c 0 x0), x12] fun x13 =>
 .l .len [(c 3 x13)] fun x14 =>
 .loop [(i 0), (n y8 1), (n y8 2)] fun y15 =>
 .l (.cmp .lss .i64) [(n y15 0), x14] fun x16 =>
 .ite x16 (
  .l (.idx 2 true) [(c 3 x13), (n y15 0)] fun x17 =>
  .l (.okc 2 true) [x17] fun x18 =>
  .calls F.graph_set_add sg_graph_set_add [(c 0 x18), (n y15 2)] fun z19 =>
  .ite (n z19 0) (
   .l (.lst 1 false) [(c 0 x18)] fun x20 =>
   .l (.app 1 false 8) [(n y15 1), x20] fun x21 =>
   .l (.arith .add .i64) [(n y15 0), (i 1)] fun x22 =>
   .cont 1 [x22, x21, (n z19 1)]) (
   .l (.arith .add .i64) [(n y15 0), (i 1)] fun x20 =>
   .cont 1 [x20, (n y15 1), (n z19 1)])) (
  .l (.arith .add .i64) [(n y8 0), (i 1)] fun x17 =>
  .cont 0 [x17, (n y15 1), (n y15 2)])) (
 .calls F.slices_Sort_int_int sg_slices_Sort_int_int [(n y8 1)] fun z11 =>
 .ret (n z11 1))
theorem k_graph_Reach : TxOk P F.graph_Reach 2 t_graph_Reach := txOk_of (H := { wr := [0, 1, 2, 3, 4, 5, 6, 7, 8, 9, 10, 11, 12, 13, 14, 15, 16, 17, 18, 19, 20, 21, 22, 23, 24, 25, 26, 27, 28, 29, 30, 31, 32, 33, 34, 35, 36, 37, 38, 39, 40, 41, 42, 43, 44, 45, 46, 47, 48, 49, 50, 51, 52, 53, 54, 55, 56, 57, 58, 59, 60, 61, 62, 63, 64, 65, 66, 67, 68, 69, 70, 71, 72, 73, 74, 75, 76, 77, 78, 79, 80, 81, 82, 83, 84, 85, 86, 87, 88, 89, 90, 91, 92, 93, 94, 95, 96, 97, 98, 99], ro := [], nl := [], fz := [], da := [], sigs := [(30, sg_graph_set_add), (31, sg_slices_Sort_int_int), (48, sg_slices_pdqsortOrdered_int_Nil), (59, sg_slices_insertionSortOrdered_int), (74, sg_slices_Sort_string_string), (86, sg_slices_pdqsortOrdered_string_Nil), (91, sg_slices_insertionSortOrdered_string)] }) (plans := []) hm Try.func14 rfl rfl fun xs => by kernel_rfl
def t_ref02_Small (xs : List PV) : T PV :=
.l (.okc 6 true) [(n xs 0)] fun x0 =>
.call F.ref02_Few [x0, (n xs 1)] fun x1 =>
.ite x1 (
 .call F.ref02_Right [x0] fun x2 =>
 .l (.cmp .eql .i64) [x2, (i 0)] fun x3 =>
 .ret x3) (
 .ret (.bool false))
theorem k_ref02_Small : TxOk P F.ref02_Small 2 t_ref02_Small := txOk_of (H := {}) (plans := []) hm Try.func15 rfl rfl fun xs => by kernel_rfl
def t_ref02_Right (xs : List PV) : T PV :=
.l (.okc 6 true) [(n xs 0)] fun x0 =>
.call F.ref02_Depth [x0] fun x1 =>
.l (.cmp .gtr .i64) [x1, (i 100)] fun x2 =>
.ite x2 (
 .ret (i 2)) (
 .call F.ref02_Size [x0] fun x3 =>
 .l (.cmp .gtr .i64) [x3, (i 10000)] fun x4 =>
 .ite x4 (
  .ret (i 2)) (
  .call F.ref02_node [x0, (.sl []), (i 0), (.bool false)] fun x5 =>
  .ret x5))
theorem k_ref02_Right : TxOk P F.ref02_Right 1 t_ref02_Right := txOk_of (H := {}) (plans := []) hm Try.func16 rfl rfl fun xs => by kernel_rfl
def t_ref02_Raise (xs : List PV) : T PV :=
.l (.okc 6 true) [(n xs 0)] fun x0 =>
.l (.lst 1 false) [] fun x1 =>
.l (.app 1 false 16) [x1, (c 4 x0)] fun x2 =>
.l (.okcs [(1, false), (1, false), (1, false), (1, false)]) [(c 0 x0), (c 1 x0), (c 2 x0), (c 3 x0)] fun x3 =>
.l (.cmp .geq .i64) [(c 0 x0), (i 4)] fun x4 =>
.ite x4 (
 .l (.cmp .leq .i64) [(c 0 x0), (i 7)] fun x5 =>
 .ite x5 (
  .l (.arith .add .i64) [(c 1 x0), (n xs 1)] fun x6 =>
  .l (.okc 1 false) [x6] fun x7 =>
  .loop [(i 0), (c 0 x0), x7, (c 2 x0), (c 3 x0), x2, (.sl [])] fun y8 =>
  .l .len [(c 5 x0)] fun x9 =>
  .l (.cmp .lss .i64) [(n y8 0), x9] fun x10 =>
  .ite x10 (
   .l (.idx 6 true) [(c 5 x0), (n y8 0)] fun x11 =>
   .call F.ref02_Raise [x11, (n xs 1)] fun x12 =>
   .l (.lst 6 true) [x12] fun x13 =>
   .l (.app 6 true 88) [(n y8 6), x13] fun x14 =>
   .l (.arith .add .i64) [(n y8 0), (i 1)] fun x15 =>
   .cont 0 [x15, (n y8 1), (n y8 2), (n y8 3), (n y8 4), (n y8 5), x14]) (
   .ret (.agg [(n y8 1), (n y8 2), (n y8 3), (n y8 4), (n y8 5), (n y8 6)]))) (
  .loop [(i 0), (c 0 x0), (c 1 x0), (c 2 x0), (c 3 x0), x2, (.sl [])] fun y6 =>
  .l .len [(c 5 x0)] fun x7 =>
  .l (.cmp .lss .i64) [(n y6 0), x7] fun x8 =>
  .ite x8 (
   .l (.idx 6 true) [(c 5 x0), (n y6 0)] fun x9 =>
   .call F.ref02_Raise [x9, (n xs 1)] fun x10 =>
   .l (.lst 6 true) [x10] fun x11 =>
   .l (.app 6 true 88) [(n y6 6), x11] fun x12 =>
   .l (.arith .add .i64) [(n y6 0), (i 1)] fun x13 =>
   .cont 0 [x13, (n y6 1), (n y6 2), (n y6 3), (n y6 4), (n y6 5), x12]) (
   .ret (.agg [(n y6 1), (n y6 2), (n y6 3), (n y6 4), (n y6 5), (n y6 6)])))) (
 .loop [(i 0), (c 0 x0), (c 1 x0), (c 2 x0), (c 3 x0), x2, (.sl [])] fun y5 =>
 .l .len [(c 5 x0)] fun x6 =>
 .l (.cmp .lss .i64) [(n y5 0), x6] fun x7 =>
 .ite x7 (
  .l (.idx 6 true) [(c 5 x0), (n y5 0)] fun x8 =>
  .call F.ref02_Raise [x8, (n xs 1)] fun x9 =>
  .l (.lst 6 true) [x9] fun x10 =>
  .l (.app 6 true 88) [(n y5 6), x10] fun x11 =>
  .l (.arith .add .i64) [(n y5 0), (i 1)] fun x12 =>
  .cont 0 [x12, (n y5 1), (n y5 2), (n y5 3), (n y5 4), (n y5 5), x11]) (
  .ret (.agg [(n y5 1), (n y5 2), (n y5 3), (n y5 4), (n y5 5), (n y5 6)])))
theorem k_ref02_Raise : TxOk P F.ref02_Raise 2 t_ref02_Raise := txOk_of (H := { wr := [50], ro := [], nl := [], fz := [], da := [], sigs := [] }) (plans := []) hm Try.func17 rfl rfl fun xs => by kernel_rfl
def u_ref02_Raise (xs : List PV) : T PV :=
.l (.okc 6 true) [(n xs 0)] fun x0 =>
.l (.lst 1 false) [] fun x1 =>
.l (.app 1 false 16) [x1, (c 4 x0)] fun x2 =>
.l (.okcs [(1, false), (1, false), (1, false), (1, false)]) [(c 0 x0), (c 1 x0), (c 2 x0), (c 3 x0)] fun x3 =>
.l (.cmp .geq .i64) [(c 0 x0), (i 4)] fun x4 =>
.ite x4 (
 .l (.cmp .leq .i64) [(c 0 x0), (i 7)] fun x5 =>
 .ite x5 (
  .l (.arith .add .i64) [(c 1 x0), (n xs 1)] fun x6 =>
  .l (.okc 1 false) [x6] fun x7 =>
  .loop [(i 0), (c 0 x0), x7, (c 2 x0), (c 3 x0), x2, (.sl [])] fun y8 =>
  .l .len [(c 5 x0)] fun x9 =>
  .l (.cmp .lss .i64) [(n y8 0), x9] fun x10 =>
  .ite x10 (
   .l (.idx 6 true) [(c 5 x0), (n y8 0)] fun x11 =>
   .call F.ref02_Raise [x11, (n xs 1)] fun x12 =>
   .l (.lst 6 true) [x12] fun x13 =>
   .l (.app 6 true 88) [(n y8 6), x13] fun x14 =>
   .l (.arith .add .i64) [(n y8 0), (i 1)] fun x15 =>
   .cont 0 [x15, (n y8 1), (n y8 2), (n y8 3), (n y8 4), (n y8 5), x14]) (
   .ret (.tup [(n y8 1), (n y8 2), (n y8 3), (n y8 4), (n y8 5), (n y8 6)]))) (
  .loop [(i 0), (c 0 x0), (c 1 x0), (c 2 x0), (c 3 x0), x2, (.sl [])] fun y6 =>
  .l .len [(c 5 x0)] fun x7 =>
  .l (.cmp .lss .i64) [(n y6 0), x7] fun x8 =>
  .ite x8 (
   .l (.idx 6 true) [(c 5 x0), (n y6 0)] fun x9 =>
   .call F.ref02_Raise [x9, (n xs 1)] fun x10 =>
   .l (.lst 6 true) [x10] fun x11 =>
   .l (.app 6 true 88) [(n y6 6), x11] fun x12 =>
   .l (.arith .add .i64) [(n y6 0), (i 1)] fun x13 =>
   .cont 0 [x13, (n y6 1), (n y6 2), (n y6 3), (n y6 4), (n y6 5), x12]) (
   .ret (.tup [(n y6 1), (n y6 2), (n y6 3), (n y6 4), (n y6 5), (n y6 6)])))) (
 .loop [(i 0), (c 0 x0), (c 1 x0), (c 2 x0), (c 3 x0), x2, (.sl [])] fun y5 =>
 .l .len [(c 5 x0)] fun x6 =>
 .l (.cmp .lss .i64) [(n y5 0), x6] fun x7 =>
 .ite x7 (
  .l (.idx 6 true) [(c 5 x0), (n y5 0)] fun x8 =>
  .call F.ref02_Raise [x8, (n xs 1)] fun x9 =>
  .l (.lst 6 true) [x9] fun x10 =>
  .l (.app 6 true 88) [(n y5 6), x10] fun x11 =>
  .l (.arith .add .i64) [(n y5 0), (i 1)] fun x12 =>
  .cont 0 [x12, (n y5 1), (n y5 2), (n y5 3), (n y5 4), (n y5 5), x11]) (
  .ret (.tup [(n y5 1), (n y5 2), (n y5 3), (n y5 4), (n y5 5), (n y5 6)])))
theorem m_ref02_Raise : TxOkS P F.ref02_Raise sg_ref02_Raise u_ref02_Raise := txOkS_of (H := { wr := [50], ro := [], nl := [], fz := [], da := [], sigs := [] }) (plans := []) hm Try.func17 rfl fun xs => by kernel_rfl
def t_ref07_Count (xs : List PV) : T PV :=
.l (.okc 6 true) [(n xs 0)] fun x0 =>
.l (.cmp .leq .i64) [(c 0 x0), (i 7)] fun x1 =>
.ite x1 (
 .loop [(i 0), (i 1)] fun y2 =>
 .l .len [(c 5 x0)] fun x3 =>
 .l (.cmp .lss .i64) [(n y2 0), x3] fun x4 =>
 .ite x4 (
  .l (.idx 6 true) [(c 5 x0), (n y2 0)] fun x5 =>
  .call F.ref07_Count [x5] fun x6 =>
  .l (.arith .add .i64) [(n y2 1), x6] fun x7 =>
  .l (.arith .add .i64) [(n y2 0), (i 1)] fun x8 =>
  .cont 0 [x8, x7]) (
  .ret (n y2 1))) (
 .loop [(i 0), (i 0)] fun y2 =>
 .l .len [(c 5 x0)] fun x3 =>
 .l (.cmp .lss .i64) [(n y2 0), x3] fun x4 =>
 .ite x4 (
  .l (.idx 6 true) [(c 5 x0), (n y2 0)] fun x5 =>
  .call F.ref07_Count [x5] fun x6 =>
  .l (.arith .add .i64) [(n y2 1), x6] fun x7 =>
  .l (.arith .add .i64) [(n y2 0), (i 1)] fun x8 =>
  .cont 0 [x8, x7]) (
  .ret (n y2 1)))
theorem k_ref07_Count : TxOk P F.ref07_Count 1 t_ref07_Count := txOk_of (H := {}) (plans := []) hm Try.func18 rfl rfl fun xs => by kernel_rfl
def t_ref02_Same (xs : List PV) : T PV :=
.l (.okc 6 true) [(n xs 0)] fun x0 =>
.l (.okc 6 true) [(n xs 1)] fun x1 =>
.l (.cmp .neq .i64) [(c 0 x0), (c 0 x1)] fun x2 =>
.ite x2 (
 .ret (.bool false)) (
 .l (.cmp .neq .i64) [(c 1 x0), (c 1 x1)] fun x3 =>
 .ite x3 (
  .ret (.bool false)) (
  .l (.scmp .neq) [(c 2 x0), (c 2 x1)] fun x4 =>
  .ite x4 (
   .ret (.bool false)) (
   .l (.cmp .neq .i64) [(c 3 x0), (c 3 x1)] fun x5 =>
   .ite x5 (
    .ret (.bool false)) (
    .call F.ref02_texts [(c 4 x0), (c 4 x1)] fun x6 =>
    .l .bnot [x6] fun x7 =>
    .ite x7 (
     .ret (.bool false)) (
     .l .len [(c 5 x0)] fun x8 =>
     .l .len [(c 5 x1)] fun x9 =>
     .l (.cmp .neq .i64) [x8, x9] fun x10 =>
     .ite x10 (
      .ret (.bool false)) (
      .loop [(i 0)] fun y11 =>
      .l .len [(c 5 x0)] fun x12 =>
      .l (.cmp .lss .i64) [(n y11 0), x12] fun x13 =>
      .ite x13 (
       .l (.idx 6 true) [(c 5 x0), (n y11 0)] fun x14 =>
       .l (.idx 6 true) [(c 5 x1), (n y11 0)] fun x15 =>
       .call F.ref02_Same [x14, x15] fun x16 =>
       .l .bnot [x16] fun x17 =>
       .ite x17 (
        .ret (.bool false)) (
        .l (.arith .add .i64) [(n y11 0), (i 1)] fun x18 =>
        .cont 0 [x18])) (
       .ret (.bool true))))))))
theorem k_ref02_Same : TxOk P F.ref02_Same 2 t_ref02_Same := txOk_of (H := {}) (plans := []) hm Try.func19 rfl rfl fun xs => by kernel_rfl
def t_law07_back (xs : List PV) : T PV :=
.l (.okc 1 true) [(n xs 0)] fun x0 =>
.loop [(i 0), (.sl [])] fun y1 =>
.l .len [(c 0 x0)] fun x2 =>
.l (.cmp .lss .i64) [(n y1 0), x2] fun x3 =>
.ite x3 (
 .l (.idx 4 true) [(c 0 x0), (n y1 0)] fun x4 =>
 .l (.idx 4 true) [(c 0 x0), (n y1 0)] fun x5 =>
 .l (.idx 4 true) [(c 0 x0), (n y1 0)] fun x6 =>
 .l (.okcs [(1, false), (1, false), (1, false)]) [(c 0 x4), (c 1 x5), (c 2 x6)] fun x7 =>
 .loop [(i 0), (c 0 x4), (c 1 x5), (c 2 x6), (.sl [])] fun y8 =>
 .l (.idx 4 true) [(c 0 x0), (n y1 0)] fun x9 =>
 .l .len [(c 3 x9)] fun x10 =>
 .l (.cmp .lss .i64) [(n y8 0), x10] fun x11 =>
 .ite x11 (
  .l (.idx 4 true) [(c 0 x0), (n y1 0)] fun x12 =>
  .l (.idx 2 true) [(c 3 x12), (n y8 0)] fun x13 =>
  .l (.okc 2 true) [x13] fun x14 =>
  .l (.cmp .lss .i64) [(c 0 x14), (i 0)] fun x15 =>
  .ite x15 (
   .ret (.tup [(.sl []), (.bool false)])) (
   .l .len [(c 0 x0)] fun x16 =>
   .l (.cmp .geq .i64) [(c 0 x14), x16] fun x17 =>
   .ite x17 (
    .ret (.tup [(.sl []), (.bool false)])) (
    .l (.okcs [(1, false), (1, false)]) [(c 0 x14), (c 1 x14)] fun x18 =>
    .l (.lst 2 true) [(.agg [(c 0 x14), (c 1 x14)])] fun x19 =>
    .l (.app 2 true 16) [(n y8 4), x19] fun x20 =>
    .l (.arith .add .i64) [(n y8 0), (i 1)] fun x21 =>
    .cont 1 [x21, (n y8 1), (n y8 2), (n y8 3), x20]))) (
  .l (.lst 4 true) [(.agg [(n y8 1), (n y8 2), (n y8 3), (n y8 4)])] fun x12 =>
  .l (.app 4 true 64) [(n y1 1), x12] fun x13 =>
  .l (.arith .add .i64) [(n y1 0), (i 1)] fun x14 =>
  .cont 0 [x14, x13])) (
 .ret (.tup [(n y1 1), (.bool true)]))
theorem k_law07_back : TxOk P F.law07_back 1 t_law07_back := txOk_of (H := {}) (plans := []) hm Try.func20 rfl rfl fun xs => by kernel_rfl
def t_law08_awake (xs : List PV) : T PV :=
.l (.lst 6 true) [(.agg [(i 1), (i 0), (.str ⟨#[]⟩), (i 0), (.sl []), (.sl [])]), (.agg [(i 9), (i 0), (.str ⟨#[116]⟩), (i 2), (.sl []), (.sl [])])] fun x0 =>
.l (.lst 6 true) [(.agg [(i 4), (i 1), (.str ⟨#[]⟩), (i 0), (.sl []), x0])] fun x1 =>
.l (.lst 1 false) [(.str ⟨#[98]⟩), (.str ⟨#[97]⟩)] fun x2 =>
.l (.lst 6 true) [(.agg [(i 3), (i 0), (.str ⟨#[]⟩), (i 0), (.sl []), (.sl [])]), (.agg [(i 3), (i 0), (.str ⟨#[]⟩), (i 0), (.sl []), (.sl [])])] fun x3 =>
.l (.lst 6 true) [(.agg [(i 8), (i 0), (.str ⟨#[116]⟩), (i 0), (.sl []), x1]), (.agg [(i 7), (i 0), (.str ⟨#[]⟩), (i 0), x2, x3])] fun x4 =>
.call F.law08_Graph [x4] fun x5 =>
.l (.tc 0) [x5] fun x6 =>
.l (.tc 1) [x5] fun x7 =>
.l (.okc 1 true) [x6] fun x8 =>
.l (.idx 2 true) [x7, (i 0)] fun x9 =>
.call F.head_Prio [x8, x9] fun x10 =>
.l (.tc 0) [x10] fun x11 =>
.l (.tc 1) [x10] fun x12 =>
.l (.idx 2 true) [x7, (i 0)] fun x13 =>
.l (.lst 1 false) [(i 1), (i 1)] fun x14 =>
.call F.head_After [x8, x13, x14] fun x15 =>
.l (.tc 0) [x15] fun x16 =>
.l (.tc 1) [x15] fun x17 =>
.l (.okc 2 true) [x16] fun x18 =>
.call F.head_Prio [x8, x18] fun x19 =>
.l (.tc 0) [x19] fun x20 =>
.l (.tc 1) [x19] fun x21 =>
.l (.idx 2 true) [x7, (i 1)] fun x22 =>
.call F.head_Label [x8, x22, (.str ⟨#[97]⟩)] fun x23 =>
.l (.tc 0) [x23] fun x24 =>
.l (.tc 1) [x23] fun x25 =>
.l (.okc 2 true) [x24] fun x26 =>
.l (.idx 2 true) [x7, (i 1)] fun x27 =>
.call F.head_Label [x8, x27, (.str ⟨#[99]⟩)] fun x28 =>
.l (.tc 0) [x28] fun x29 =>
.l (.tc 1) [x28] fun x30 =>
.l (.okc 2 true) [x29] fun x31 =>
.call F.head_Lowest [x8, x7] fun x32 =>
.l (.tc 0) [x32] fun x33 =>
.l (.tc 1) [x32] fun x34 =>
.l (.cmp .eql .i64) [x11, (i 1)] fun x35 =>
.ite x35 (
 .ite x12 (
  .l (.acmp .eql [.i .i64, .i .i64]) [x18, (.agg [(i 0), (i 4)])] fun x36 =>
  .ite x36 (
   .ite x17 (
    .l (.cmp .eql .i64) [x20, (i 5)] fun x37 =>
    .ite x37 (
     .l (.cmp .eql .i64) [(c 0 x26), (i 4)] fun x38 =>
     .ite x38 (
      .ite x25 (
       .l .bnot [x30] fun x39 =>
       .ite x39 (
        .l (.cmp .eql .i64) [x33, (i 0)] fun x40 =>
        .ite x40 (
         .ite x34 (
          .l (.idx 2 true) [x7, (i 1)] fun x41 =>
          .call F.head_Kind [x8, x41] fun x42 =>
          .l (.cmp .eql .i64) [x42, (i 7)] fun x43 =>
          .ite x43 (
           .l (.idx 2 true) [x7, (i 1)] fun x44 =>
           .call F.head_Labels [x8, x44] fun x45 =>
           .l (.lst 1 false) [(.str ⟨#[97]⟩), (.str ⟨#[98]⟩)] fun x46 =>
           .call F.ref03_Texts [x45, x46] fun x47 =>
           .ite x47 (
            .call F.head_Raise [x18, (i (-1))] fun x48 =>
            .l (.okc 2 true) [x48] fun x49 =>
            .l (.cmp .eql .i64) [(c 1 x49), (i 3)] fun x50 =>
            .ret x50) (
            .ret (.bool false))) (
           .ret (.bool false))) (
          .ret (.bool false))) (
         .ret (.bool false))) (
        .ret (.bool false))) (
       .ret (.bool false))) (
      .ret (.bool false))) (
     .ret (.bool false))) (
    .ret (.bool false))) (
   .ret (.bool false))) (
  .ret (.bool false))) (
 .ret (.bool false))
theorem k_law08_awake : TxOk P F.law08_awake 0 t_law08_awake := txOk_of (H := {}) (plans := []) hm Try.func21 rfl rfl fun xs => by kernel_rfl
def t_law08_Graph (xs : List PV) : T PV :=
.call F.ref07_Build [(n xs 0)] fun x0 =>
.l (.tc 0) [x0] fun x1 =>
.l (.tc 1) [x0] fun x2 =>
.loop [(i 0), (.sl [])] fun y3 =>
.l .len [x1] fun x4 =>
.l (.cmp .lss .i64) [(n y3 0), x4] fun x5 =>
.ite x5 (
 .l (.idx 4 true) [x1, (n y3 0)] fun x6 =>
 .l (.idx 4 true) [x1, (n y3 0)] fun x7 =>
 .l (.lst 1 false) [] fun x8 =>
 .l (.idx 4 true) [x1, (n y3 0)] fun x9 =>
 .l (.app 1 false 16) [x8, (c 2 x9)] fun x10 =>
 .l (.okcs [(1, false), (1, false)]) [(c 0 x6), (c 1 x7)] fun x11 =>
 .loop [(i 0), (c 0 x6), (c 1 x7), x10, (.sl [])] fun y12 =>
 .l (.idx 4 true) [x1, (n y3 0)] fun x13 =>
 .l .len [(c 3 x13)] fun x14 =>
 .l (.cmp .lss .i64) [(n y12 0), x14] fun x15 =>
 .ite x15 (
  .l (.idx 4 true) [x1, (n y3 0)] fun x16 =>
  .l (.idx 2 true) [(c 3 x16), (n y12 0)] fun x17 =>
  .l (.idx 4 true) [x1, (n y3 0)] fun x18 =>
  .l (.idx 2 true) [(c 3 x18), (n y12 0)] fun x19 =>
  .l (.okcs [(1, false), (1, false)]) [(c 0 x17), (c 1 x19)] fun x20 =>
  .l (.lst 2 true) [(.agg [(c 0 x17), (c 1 x19)])] fun x21 =>
  .l (.app 2 true 16) [(n y12 4), x21] fun x22 =>
  .l (.arith .add .i64) [(n y12 0), (i 1)] fun x23 =>
  .cont 1 [x23, (n y12 1), (n y12 2), (n y12 3), x22]) (
  .l (.lst 4 true) [(.agg [(n y12 1), (n y12 2), (n y12 3), (n y12 4)])] fun x16 =>
  .l (.app 4 true 64) [(n y3 1), x16] fun x17 =>
  .l (.arith .add .i64) [(n y3 0), (i 1)] fun x18 =>
  .cont 0 [x18, x17])) (
 .loop [(i 0), (.sl [])] fun y6 =>
 .l .len [x2] fun x7 =>
 .l (.cmp .lss .i64) [(n y6 0), x7] fun x8 =>
 .ite x8 (
  .l (.idx 2 true) [x2, (n y6 0)] fun x9 =>
  .l (.idx 2 true) [x2, (n y6 0)] fun x10 =>
  .l (.okcs [(1, false), (1, false)]) [(c 0 x9), (c 1 x10)] fun x11 =>
  .l (.lst 2 true) [(.agg [(c 0 x9), (c 1 x10)])] fun x12 =>
  .l (.app 2 true 16) [(n y6 1), x12] fun x13 =>
  .l (.arith .add .i64) [(n y6 0), (i 1)] fun x14 =>
  .cont 1 [x14, x13]) (
  .ret (.tup [(.agg [(n y3 1)]), (n y6 1)])))
theorem k_law08_Graph : TxOk P F.law08_Graph 1 t_law08_Graph := txOk_of (H := {}) (plans := []) hm Try.func22 rfl rfl fun xs => by kernel_rfl
def t_head_Raise (xs : List PV) : T PV :=
.l (.okc 2 true) [(n xs 0)] fun x0 =>
.l (.arith .add .i64) [(c 1 x0), (n xs 1)] fun x1 =>
.l (.okc 1 false) [x1] fun x2 =>
.ret (.agg [(c 0 x0), x2])
theorem k_head_Raise : TxOk P F.head_Raise 2 t_head_Raise := txOk_of (H := {}) (plans := []) hm Try.func23 rfl rfl fun xs => by kernel_rfl
def t_head_After (xs : List PV) : T PV :=
.l (.okc 1 true) [(n xs 0)] fun x0 =>
.l (.okc 2 true) [(n xs 1)] fun x1 =>
.l .len [(n xs 2)] fun x2 =>
.loop [(i 0), x1] fun y3 =>
.l (.cmp .lss .i64) [(n y3 0), x2] fun x4 =>
.ite x4 (
 .l (.idx 1 false) [(n xs 2), (n y3 0)] fun x5 =>
 .call F.head_Next [x0, (n y3 1), x5] fun x6 =>
 .l (.tc 0) [x6] fun x7 =>
 .l (.tc 1) [x6] fun x8 =>
 .l (.okc 2 true) [x7] fun x9 =>
 .l .bnot [x8] fun x10 =>
 .ite x10 (
  .ret (.tup [(.agg [(i 0), (i 0)]), (.bool false)])) (
  .l (.okc 2 true) [x9] fun x11 =>
  .l (.arith .add .i64) [(n y3 0), (i 1)] fun x12 =>
  .cont 0 [x12, x11])) (
 .l (.okc 2 true) [(n y3 1)] fun x5 =>
 .ret (.tup [x5, (.bool true)]))
theorem k_head_After : TxOk P F.head_After 3 t_head_After := txOk_of (H := {}) (plans := []) hm Try.func24 rfl rfl fun xs => by kernel_rfl
def t_head_Lowest (xs : List PV) : T PV :=
.l (.okc 1 true) [(n xs 0)] fun x0 =>
.call F.head_prios [x0, (n xs 1)] fun x1 =>
.call F.head_fold_int [x1, (.fn F.head_Lowest_1 [] [])] fun x2 =>
.l (.tc 0) [x2] fun x3 =>
.l (.tc 1) [x2] fun x4 =>
.ret (.tup [x3, x4])
theorem k_head_Lowest : TxOk P F.head_Lowest 2 t_head_Lowest := txOk_of (H := {}) (plans := []) hm Try.func25 rfl rfl fun xs => by kernel_rfl
-- NOT TOLD: 26 (*duologue/graph.builder).build: 1
def u_graph_builder_build (xs : List PV) : T PV :=
.l (.okc 6 true) [(n xs 0)] fun x0 =>
.call F.graph_strip [x0] fun x1 =>
.l (.tc 0) [x1] fun x2 =>
.l (.tc 1) [x1] fun x3 =>
.l (.okc 6 true) [x2] fun x4 =>
.l (.cmp .eql .i64) [(c 0 x4), (i 9)] fun x5 =>
.ite x5 (
 .l (.mget false [.s] (.agg [(i 0), (i 0)])) [(n xs 2), (c 2 x4)] fun x6 =>
 .l (.okc 2 true) [x6] fun x7 =>
 .l (.arith .add .i64) [(c 1 x7), (c 3 x4)] fun x8 =>
 .l (.okc 1 false) [x8] fun x9 =>
 .ret (.tup [(.agg [(c 0 x7), x9]), (n xs 1), (n xs 2)])) (
 .l .len [(n xs 1)] fun x6 =>
 .call F.slices_Clone_string_string [(c 4 x4)] fun x7 =>
 .l (.okcs [(1, false), (1, false), (1, false)]) [(c 0 x4), (c 1 x4), x7] fun x8 =>
 .l (.lst 4 true) [(.agg [(c 0 x4), (c 1 x4), x7, (.sl [])])] fun x9 =>
 .l (.app 4 true 64) [(n xs 1), x9] fun x10 =>
 .l .len [x3] fun x11 =>
 .l (.cmp .gtr .i64) [x11, (i 0)] fun x12 =>
 .ite x12 (
  .calls F.maps_Clone_graph_scope_string_graph_Ref sg_maps_Clone_graph_scope_string_graph_Ref [(n xs 2)] fun z13 =>
  .l .len [x3] fun x14 =>
  .loop [(i 0), (n z13 1)] fun y15 =>
  .l (.cmp .lss .i64) [(n y15 0), x14] fun x16 =>
  .ite x16 (
   .l (.idx 1 false) [x3, (n y15 0)] fun x17 =>
   .l (.okcs [(1, false)]) [x6] fun x18 =>
   .l (.mset false [.s]) [(n y15 1), x17, (.agg [x6, (i 0)])] fun x19 =>
   .l (.arith .add .i64) [(n y15 0), (i 1)] fun x20 =>
   .cont 0 [x20, x19]) (
   .l .len [(c 5 x4)] fun x17 =>
   .loop [(i 0), (.sl []), x10, (n y15 1)] fun y18 =>
   .l (.cmp .lss .i64) [(n y18 0), x17] fun x19 =>
   .ite x19 (
    .l (.idx 6 true) [(c 5 x4), (n y18 0)] fun x20 =>
    .l (.okc 6 true) [x20] fun x21 =>
    .calls F.graph_builder_build sg_graph_builder_build [x21, (n y18 2), (n y18 3)] fun z22 =>
    .l (.lst 2 true) [(n z22 0)] fun x23 =>
    .l (.app 2 true 16) [(n y18 1), x23] fun x24 =>
    .l (.arith .add .i64) [(n y18 0), (i 1)] fun x25 =>
    .cont 1 [x25, x24, (n z22 1), (n z22 2)]) (
    .l (.idx 4 true) [(n y18 2), x6] fun x20 =>
    .l (.updF 4 3 1 false) [(n y18 2), x6, (n y18 1)] fun x21 =>
    .l (.okcs [(1, false)]) [x6] fun x22 =>
    .ret (.tup [(.agg [x6, (i 0)]), x21, (n z13 0)])))) (
  .l .len [(c 5 x4)] fun x13 =>
  .loop [(i 0), (.sl []), x10, (n xs 2)] fun y14 =>
  .l (.cmp .lss .i64) [(n y14 0), x13] fun x15 =>
  .ite x15 (
   .l (.idx 6 true) [(c 5 x4), (n y14 0)] fun x16 =>
   .l (.okc 6 true) [x16] fun x17 =>
   .calls F.graph_builder_build sg_graph_builder_build [x17, (n y14 2), (n y14 3)] fun z18 =>
   .l (.lst 2 true) [(n z18 0)] fun x19 =>
   .l (.app 2 true 16) [(n y14 1), x19] fun x20 =>
   .l (.arith .add .i64) [(n y14 0), (i 1)] fun x21 =>
   .cont 0 [x21, x20, (n z18 1), (n z18 2)]) (
   .l (.idx 4 true) [(n y14 2), x6] fun x16 =>
   .l (.updF 4 3 1 false) [(n y14 2), x6, (n y14 1)] fun x17 =>
   .l (.okcs [(1, false)]) [x6] fun x18 =>
   .ret (.tup [(.agg [x6, (i 0)]), x17, (n y14 3)]))))
theorem m_graph_builder_build : TxOkS P F.graph_builder_build sg_graph_builder_build u_graph_builder_build := txOkS_of (H := { wr := [52, 53], ro := [], nl := [], fz := [], da := [], sigs := [(26, sg_graph_builder_build), (47, sg_maps_Clone_graph_scope_string_graph_Ref)] }) (plans := []) hm Try.func26 rfl fun xs => by kernel_rfl
def t_ref07_reference (xs : List PV) : T PV :=
.l (.okc 6 true) [(n xs 0)] fun x0 =>
.l (.cmp .eql .i64) [(c 0 x0), (i 8)] fun x1 =>
.ite x1 (
 .l (.idx 6 true) [(c 5 x0), (i 0)] fun x2 =>
 .call F.ref07_reference [x2, (n xs 1), (n xs 2), (n xs 3)] fun x3 =>
 .l (.okc 2 true) [x3] fun x4 =>
 .ret x4) (
 .l (.cmp .eql .i64) [(c 0 x0), (i 9)] fun x2 =>
 .ite x2 (
  .l .len [(n xs 2)] fun x3 =>
  .l (.arith .sub .i64) [x3, (i 1)] fun x4 =>
  .loop [x4] fun y5 =>
  .l (.cmp .geq .i64) [(n y5 0), (i 0)] fun x6 =>
  .ite x6 (
   .l (.idx 1 false) [(n xs 2), (n y5 0)] fun x7 =>
   .l (.scmp .eql) [x7, (c 2 x0)] fun x8 =>
   .ite x8 (
    .l (.idx 2 true) [(n xs 3), (n y5 0)] fun x9 =>
    .l (.idx 2 true) [(n xs 3), (n y5 0)] fun x10 =>
    .l (.arith .add .i64) [(c 1 x10), (c 3 x0)] fun x11 =>
    .l (.okcs [(1, false), (1, false)]) [(c 0 x9), x11] fun x12 =>
    .ret (.agg [(c 0 x9), x11])) (
    .l (.arith .sub .i64) [(n y5 0), (i 1)] fun x9 =>
    .cont 0 [x9])) (
   .l (.okcs [(1, false)]) [(n xs 1)] fun x7 =>
   .ret (.agg [(n xs 1), (i 0)]))) (
  .l (.okcs [(1, false)]) [(n xs 1)] fun x3 =>
  .ret (.agg [(n xs 1), (i 0)])))
theorem k_ref07_reference : TxOk P F.ref07_reference 4 t_ref07_reference := txOk_of (H := {}) (plans := []) hm Try.func27 rfl rfl fun xs => by kernel_rfl
def t_ref07_nodes (xs : List PV) : T PV :=
.l (.okc 6 true) [(n xs 0)] fun x0 =>
.l (.cmp .eql .i64) [(c 0 x0), (i 8)] fun x1 =>
.ite x1 (
 .call F.ref07_reference [x0, (n xs 1), (n xs 2), (n xs 3)] fun x2 =>
 .l (.okc 2 true) [x2] fun x3 =>
 .l (.idx 6 true) [(c 5 x0), (i 0)] fun x4 =>
 .l (.lst 1 false) [] fun x5 =>
 .l (.app 1 false 16) [x5, (n xs 2)] fun x6 =>
 .l (.lst 1 false) [(c 2 x0)] fun x7 =>
 .l (.app 1 false 16) [x6, x7] fun x8 =>
 .l (.lst 2 true) [] fun x9 =>
 .l (.app 2 true 16) [x9, (n xs 3)] fun x10 =>
 .l (.lst 2 true) [x3] fun x11 =>
 .l (.app 2 true 16) [x10, x11] fun x12 =>
 .call F.ref07_nodes [x4, (n xs 1), x8, x12] fun x13 =>
 .ret x13) (
 .l (.cmp .eql .i64) [(c 0 x0), (i 9)] fun x2 =>
 .ite x2 (
  .ret (.sl [])) (
  .l (.okcs [(1, false), (1, false), (1, false)]) [(c 0 x0), (c 1 x0), (c 4 x0)] fun x3 =>
  .l (.arith .add .i64) [(n xs 1), (i 1)] fun x4 =>
  .loop [(i 0), x4, (.sl []), (c 0 x0), (c 1 x0), (c 4 x0), (.sl [])] fun y5 =>
  .l .len [(c 5 x0)] fun x6 =>
  .l (.cmp .lss .i64) [(n y5 0), x6] fun x7 =>
  .ite x7 (
   .l (.idx 6 true) [(c 5 x0), (n y5 0)] fun x8 =>
   .call F.ref07_reference [x8, (n y5 1), (n xs 2), (n xs 3)] fun x9 =>
   .l (.lst 2 true) [x9] fun x10 =>
   .l (.app 2 true 16) [(n y5 6), x10] fun x11 =>
   .l (.idx 6 true) [(c 5 x0), (n y5 0)] fun x12 =>
   .call F.ref07_nodes [x12, (n y5 1), (n xs 2), (n xs 3)] fun x13 =>
   .l (.app 4 true 64) [(n y5 2), x13] fun x14 =>
   .l (.idx 6 true) [(c 5 x0), (n y5 0)] fun x15 =>
   .call F.ref07_Count [x15] fun x16 =>
   .l (.arith .add .i64) [(n y5 1), x16] fun x17 =>
   .l (.arith .add .i64) [(n y5 0), (i 1)] fun x18 =>
   .cont 0 [x18, x17, x14, (n y5 3), (n y5 4), (n y5 5), x11]) (
   .l (.lst 4 true) [(.agg [(n y5 3), (n y5 4), (n y5 5), (n y5 6)])] fun x8 =>
   .l (.app 4 true 64) [x8, (n y5 2)] fun x9 =>
   .ret x9)))
theorem k_ref07_nodes : TxOk P F.ref07_nodes 4 t_ref07_nodes := txOk_of (H := {}) (plans := []) hm Try.func28 rfl rfl fun xs => by kernel_rfl
def t_ref03_Texts (xs : List PV) : T PV :=
.l .len [(n xs 0)] fun x0 =>
.l .len [(n xs 1)] fun x1 =>
.l (.cmp .neq .i64) [x0, x1] fun x2 =>
.ite x2 (
 .ret (.bool false)) (
 .loop [(i 0)] fun y3 =>
 .l .len [(n xs 0)] fun x4 =>
 .l (.cmp .lss .i64) [(n y3 0), x4] fun x5 =>
 .ite x5 (
  .l (.idx 1 false) [(n xs 0), (n y3 0)] fun x6 =>
  .l (.idx 1 false) [(n xs 1), (n y3 0)] fun x7 =>
  .l (.scmp .neq) [x6, x7] fun x8 =>
  .ite x8 (
   .ret (.bool false)) (
   .l (.arith .add .i64) [(n y3 0), (i 1)] fun x9 =>
   .cont 0 [x9])) (
  .ret (.bool true)))
theorem k_ref03_Texts : TxOk P F.ref03_Texts 2 t_ref03_Texts := txOk_of (H := {}) (plans := []) hm Try.func29 rfl rfl fun xs => by kernel_rfl
-- NOT TOLD: 30 (duologue/graph.set).add: 1
def u_graph_set_add (xs : List PV) : T PV :=
.l (.arith .quo .i64) [(n xs 0), (i 64)] fun x0 =>
.l (.idx 1 false) [(n xs 1), x0] fun x1 =>
.l (.idx 1 false) [(n xs 1), x0] fun x2 =>
.l (.arith .quo .i64) [(n xs 0), (i 64)] fun x3 =>
.l (.idx 1 false) [(n xs 1), x3] fun x4 =>
.l (.idx 1 false) [(n xs 1), x3] fun x5 =>
.l (.arith .rem .i64) [(n xs 0), (i 64)] fun x6 =>
.l (.arith .shl .u64) [(.int .u64 (1)), x6] fun x7 =>
.l (.arith .or .u64) [x5, x7] fun x8 =>
.l (.idx 1 false) [(n xs 1), x3] fun x9 =>
.l (.upd 1 false) [(n xs 1), x3, x8] fun x10 =>
.l (.arith .quo .i64) [(n xs 0), (i 64)] fun x11 =>
.l (.idx 1 false) [x10, x11] fun x12 =>
.l (.idx 1 false) [x10, x11] fun x13 =>
.l (.cmp .neq .u64) [x2, x13] fun x14 =>
.ret (.tup [x14, x10])
theorem m_graph_set_add : TxOkS P F.graph_set_add sg_graph_set_add u_graph_set_add := txOkS_of (H := { wr := [], ro := [], nl := [], fz := [], da := [], sigs := [(30, sg_graph_set_add), (31, sg_slices_Sort_int_int), (48, sg_slices_pdqsortOrdered_int_Nil), (59, sg_slices_insertionSortOrdered_int), (74, sg_slices_Sort_string_string), (86, sg_slices_pdqsortOrdered_string_Nil), (91, sg_slices_insertionSortOrdered_string)] }) (plans := []) hm Try.func30 rfl fun xs => by kernel_rfl
def t_slices_Sort_int_int (xs : List PV) : T PV :=
.l .len [(n xs 0)] fun x0 =>
.l (.conv .u64) [x0] fun x1 =>
.call F.math_bits_Len [x1] fun x2 =>
.call F.slices_pdqsortOrdered_int [(n xs 0), (i 0), x0, x2] fun x3 =>
.ret (.tup [])
theorem k_slices_Sort_int_int : TxOk P F.slices_Sort_int_int 1 t_slices_Sort_int_int := txOk_of (H := {}) (plans := []) hm Try.func31 rfl rfl fun xs => by kernel_rfl
def u_slices_Sort_int_int (xs : List PV) : T PV :=
.l .len [(n xs 0)] fun x0 =>
.l (.conv .u64) [x0] fun x1 =>
.call F.math_bits_Len [x1] fun x2 =>
.calls F.slices_pdqsortOrdered_int sg_slices_pdqsortOrdered_int_Nil [(i 0), x0, x2, (n xs 0)] fun z3 =>
.ret (.tup [(.tup []), (n z3 1)])
theorem m_slices_Sort_int_int : TxOkS P F.slices_Sort_int_int sg_slices_Sort_int_int u_slices_Sort_int_int := txOkS_of (H := { wr := [], ro := [], nl := [], fz := [], da := [], sigs := [(30, sg_graph_set_add), (31, sg_slices_Sort_int_int), (48, sg_slices_pdqsortOrdered_int_Nil), (59, sg_slices_insertionSortOrdered_int), (74, sg_slices_Sort_string_string), (86, sg_slices_pdqsortOrdered_string_Nil), (91, sg_slices_insertionSortOrdered_string)] }) (plans := []) hm Try.func31 rfl fun xs => by kernel_rfl
def t_ref02_Few (xs : List PV) : T PV :=
.l (.okc 6 true) [(n xs 0)] fun x0 =>
.call F.ref02_count [x0, (n xs 1)] fun x1 =>
.l (.cmp .geq .i64) [x1, (i 0)] fun x2 =>
.ite x2 (
 .call F.ref02_Depth [x0] fun x3 =>
 .l (.cmp .leq .i64) [x3, (i 150)] fun x4 =>
 .ret x4) (
 .ret (.bool false))
theorem k_ref02_Few : TxOk P F.ref02_Few 2 t_ref02_Few := txOk_of (H := {}) (plans := []) hm Try.func32 rfl rfl fun xs => by kernel_rfl
def t_ref02_Depth (xs : List PV) : T PV :=
.l (.okc 6 true) [(n xs 0)] fun x0 =>
.loop [(i 0), (i 0)] fun y1 =>
.l .len [(c 5 x0)] fun x2 =>
.l (.cmp .lss .i64) [(n y1 0), x2] fun x3 =>
.ite x3 (
 .l (.idx 6 true) [(c 5 x0), (n y1 0)] fun x4 =>
 .call F.ref02_Depth [x4] fun x5 =>
 .l (.mx .i64) [(n y1 1), x5] fun x6 =>
 .l (.arith .add .i64) [(n y1 0), (i 1)] fun x7 =>
 .cont 0 [x7, x6]) (
 .l (.arith .add .i64) [(n y1 1), (i 1)] fun x4 =>
 .ret x4)
theorem k_ref02_Depth : TxOk P F.ref02_Depth 1 t_ref02_Depth := txOk_of (H := {}) (plans := []) hm Try.func33 rfl rfl fun xs => by kernel_rfl
def t_ref02_Size (xs : List PV) : T PV :=
.l (.okc 6 true) [(n xs 0)] fun x0 =>
.loop [(i 0), (i 1)] fun y1 =>
.l .len [(c 5 x0)] fun x2 =>
.l (.cmp .lss .i64) [(n y1 0), x2] fun x3 =>
.ite x3 (
 .l (.idx 6 true) [(c 5 x0), (n y1 0)] fun x4 =>
 .call F.ref02_Size [x4] fun x5 =>
 .l (.arith .add .i64) [(n y1 1), x5] fun x6 =>
 .l (.arith .add .i64) [(n y1 0), (i 1)] fun x7 =>
 .cont 0 [x7, x6]) (
 .ret (n y1 1))
theorem k_ref02_Size : TxOk P F.ref02_Size 1 t_ref02_Size := txOk_of (H := {}) (plans := []) hm Try.func34 rfl rfl fun xs => by kernel_rfl
def t_ref02_node (xs : List PV) : T PV :=
.l (.okc 6 true) [(n xs 0)] fun x0 =>
.call F.ref02_shape [x0] fun x1 =>
.l .bnot [x1] fun x2 =>
.ite x2 (
 .ret (i 3)) (
 .ite (n xs 3) (
  .call F.ref02_Session [x0] fun x3 =>
  .l .bnot [x3] fun x4 =>
  .ite x4 (
   .ret (i 3)) (
   .l (.cmp .eql .i64) [(c 0 x0), (i 9)] fun x5 =>
   .ite x5 (
    .l .len [(n xs 1)] fun x6 =>
    .l (.arith .sub .i64) [x6, (i 1)] fun x7 =>
    .loop [x7] fun y8 =>
    .l (.cmp .geq .i64) [(n y8 0), (i 0)] fun x9 =>
    .ite x9 (
     .l (.idx 1 false) [(n xs 1), (n y8 0)] fun x10 =>
     .l (.scmp .eql) [x10, (c 2 x0)] fun x11 =>
     .ite x11 (
      .l (.cmp .lss .i64) [(n y8 0), (n xs 2)] fun x12 =>
      .ite x12 (
       .ret (i 0)) (
       .ret (i 3))) (
      .l (.arith .sub .i64) [(n y8 0), (i 1)] fun x12 =>
      .cont 0 [x12])) (
     .ret (i 4))) (
    .l (.cmp .eql .i64) [(c 0 x0), (i 8)] fun x6 =>
    .ite x6 (
     .l (.idx 6 true) [(c 5 x0), (i 0)] fun x7 =>
     .l (.lst 1 false) [] fun x8 =>
     .l (.app 1 false 16) [x8, (n xs 1)] fun x9 =>
     .l (.lst 1 false) [(c 2 x0)] fun x10 =>
     .l (.app 1 false 16) [x9, x10] fun x11 =>
     .call F.ref02_node [x7, x11, (n xs 2), (.bool true)] fun x12 =>
     .ret x12) (
     .loop [(i 0)] fun y7 =>
     .l .len [(c 5 x0)] fun x8 =>
     .l (.cmp .lss .i64) [(n y7 0), x8] fun x9 =>
     .ite x9 (
      .l (.idx 6 true) [(c 5 x0), (n y7 0)] fun x10 =>
      .l .len [(n xs 1)] fun x11 =>
      .l (.cmp .gtr .i64) [(n y7 0), (i 0)] fun x12 =>
      .ite x12 (
       .call F.ref02_node [x10, (n xs 1), x11, (.bool true)] fun x13 =>
       .l (.cmp .neq .i64) [x13, (i 0)] fun x14 =>
       .ite x14 (
        .ret x13) (
        .l (.arith .add .i64) [(n y7 0), (i 1)] fun x15 =>
        .cont 0 [x15])) (
       .l (.cmp .gtr .i64) [(c 0 x0), (i 5)] fun x13 =>
       .call F.ref02_node [x10, (n xs 1), x11, x13] fun x14 =>
       .l (.cmp .neq .i64) [x14, (i 0)] fun x15 =>
       .ite x15 (
        .ret x14) (
        .l (.arith .add .i64) [(n y7 0), (i 1)] fun x16 =>
        .cont 0 [x16]))) (
      .ret (i 0)))))) (
  .l (.cmp .eql .i64) [(c 0 x0), (i 9)] fun x3 =>
  .ite x3 (
   .l .len [(n xs 1)] fun x4 =>
   .l (.arith .sub .i64) [x4, (i 1)] fun x5 =>
   .loop [x5] fun y6 =>
   .l (.cmp .geq .i64) [(n y6 0), (i 0)] fun x7 =>
   .ite x7 (
    .l (.idx 1 false) [(n xs 1), (n y6 0)] fun x8 =>
    .l (.scmp .eql) [x8, (c 2 x0)] fun x9 =>
    .ite x9 (
     .l (.cmp .lss .i64) [(n y6 0), (n xs 2)] fun x10 =>
     .ite x10 (
      .ret (i 0)) (
      .ret (i 3))) (
     .l (.arith .sub .i64) [(n y6 0), (i 1)] fun x10 =>
     .cont 0 [x10])) (
    .ret (i 4))) (
   .l (.cmp .eql .i64) [(c 0 x0), (i 8)] fun x4 =>
   .ite x4 (
    .l (.idx 6 true) [(c 5 x0), (i 0)] fun x5 =>
    .l (.lst 1 false) [] fun x6 =>
    .l (.app 1 false 16) [x6, (n xs 1)] fun x7 =>
    .l (.lst 1 false) [(c 2 x0)] fun x8 =>
    .l (.app 1 false 16) [x7, x8] fun x9 =>
    .call F.ref02_node [x5, x9, (n xs 2), (.bool true)] fun x10 =>
    .ret x10) (
    .loop [(i 0)] fun y5 =>
    .l .len [(c 5 x0)] fun x6 =>
    .l (.cmp .lss .i64) [(n y5 0), x6] fun x7 =>
    .ite x7 (
     .l (.idx 6 true) [(c 5 x0), (n y5 0)] fun x8 =>
     .l .len [(n xs 1)] fun x9 =>
     .l (.cmp .gtr .i64) [(n y5 0), (i 0)] fun x10 =>
     .ite x10 (
      .call F.ref02_node [x8, (n xs 1), x9, (.bool true)] fun x11 =>
      .l (.cmp .neq .i64) [x11, (i 0)] fun x12 =>
      .ite x12 (
       .ret x11) (
       .l (.arith .add .i64) [(n y5 0), (i 1)] fun x13 =>
       .cont 0 [x13])) (
      .l (.cmp .gtr .i64) [(c 0 x0), (i 5)] fun x11 =>
      .call F.ref02_node [x8, (n xs 1), x9, x11] fun x12 =>
      .l (.cmp .neq .i64) [x12, (i 0)] fun x13 =>
      .ite x13 (
       .ret x12) (
       .l (.arith .add .i64) [(n y5 0), (i 1)] fun x14 =>
       .cont 0 [x14]))) (
     .ret (i 0))))))
theorem k_ref02_node : TxOk P F.ref02_node 4 t_ref02_node := txOk_of (H := {}) (plans := []) hm Try.func35 rfl rfl fun xs => by kernel_rfl
def t_ref02_texts (xs : List PV) : T PV :=
.l .len [(n xs 0)] fun x0 =>
.l .len [(n xs 1)] fun x1 =>
.l (.cmp .neq .i64) [x0, x1] fun x2 =>
.ite x2 (
 .ret (.bool false)) (
 .loop [(i 0)] fun y3 =>
 .l .len [(n xs 0)] fun x4 =>
 .l (.cmp .lss .i64) [(n y3 0), x4] fun x5 =>
 .ite x5 (
  .l (.idx 1 false) [(n xs 0), (n y3 0)] fun x6 =>
  .l (.idx 1 false) [(n xs 1), (n y3 0)] fun x7 =>
  .l (.scmp .neq) [x6, x7] fun x8 =>
  .ite x8 (
   .ret (.bool false)) (
   .l (.arith .add .i64) [(n y3 0), (i 1)] fun x9 =>
   .cont 0 [x9])) (
  .ret (.bool true)))
theorem k_ref02_texts : TxOk P F.ref02_texts 2 t_ref02_texts := txOk_of (H := {}) (plans := []) hm Try.func36 rfl rfl fun xs => by kernel_rfl
def t_head_Prio (xs : List PV) : T PV :=
.l (.okc 1 true) [(n xs 0)] fun x0 =>
.l (.okc 2 true) [(n xs 1)] fun x1 =>
.l (.idx 4 true) [(c 0 x0), (c 0 x1)] fun x2 =>
.l (.okc 4 true) [x2] fun x3 =>
.call F.head_action [(c 0 x3)] fun x4 =>
.l .bnot [x4] fun x5 =>
.ite x5 (
 .ret (.tup [(i 0), (.bool false)])) (
 .l (.arith .add .i64) [(c 1 x3), (c 1 x1)] fun x6 =>
 .ret (.tup [x6, (.bool true)]))
theorem k_head_Prio : TxOk P F.head_Prio 2 t_head_Prio := txOk_of (H := {}) (plans := []) hm Try.func37 rfl rfl fun xs => by kernel_rfl
def t_head_Label (xs : List PV) : T PV :=
.l (.okc 1 true) [(n xs 0)] fun x0 =>
.l (.okc 2 true) [(n xs 1)] fun x1 =>
.l (.idx 4 true) [(c 0 x0), (c 0 x1)] fun x2 =>
.call F.slices_Index_string_string [(c 2 x2), (n xs 2)] fun x3 =>
.call F.head_Next [x0, x1, x3] fun x4 =>
.l (.tc 0) [x4] fun x5 =>
.l (.tc 1) [x4] fun x6 =>
.l (.okc 2 true) [x5] fun x7 =>
.ret (.tup [x7, x6])
theorem k_head_Label : TxOk P F.head_Label 3 t_head_Label := txOk_of (H := {}) (plans := []) hm Try.func38 rfl rfl fun xs => by kernel_rfl
def t_head_Kind (xs : List PV) : T PV :=
.l (.okc 1 true) [(n xs 0)] fun x0 =>
.l (.okc 2 true) [(n xs 1)] fun x1 =>
.l (.idx 4 true) [(c 0 x0), (c 0 x1)] fun x2 =>
.ret (c 0 x2)
theorem k_head_Kind : TxOk P F.head_Kind 2 t_head_Kind := txOk_of (H := {}) (plans := []) hm Try.func39 rfl rfl fun xs => by kernel_rfl
def t_head_Labels (xs : List PV) : T PV :=
.l (.okc 1 true) [(n xs 0)] fun x0 =>
.l (.okc 2 true) [(n xs 1)] fun x1 =>
.l (.idx 4 true) [(c 0 x0), (c 0 x1)] fun x2 =>
.call F.slices_Values_string_string [(c 2 x2)] fun x3 =>
.call F.slices_Sorted_string [x3] fun x4 =>
.ret x4
theorem k_head_Labels : TxOk P F.head_Labels 2 t_head_Labels := txOk_of (H := {}) (plans := []) hm Try.func40 rfl rfl fun xs => by kernel_rfl
def t_head_Next (xs : List PV) : T PV :=
.l (.okc 1 true) [(n xs 0)] fun x0 =>
.l (.okc 2 true) [(n xs 1)] fun x1 =>
.l (.idx 4 true) [(c 0 x0), (c 0 x1)] fun x2 =>
.l (.cmp .lss .i64) [(n xs 2), (i 0)] fun x3 =>
.ite x3 (
 .ret (.tup [(.agg [(i 0), (i 0)]), (.bool false)])) (
 .l .len [(c 3 x2)] fun x4 =>
 .l (.cmp .geq .i64) [(n xs 2), x4] fun x5 =>
 .ite x5 (
  .ret (.tup [(.agg [(i 0), (i 0)]), (.bool false)])) (
  .l (.idx 2 true) [(c 3 x2), (n xs 2)] fun x6 =>
  .call F.head_Raise [x6, (c 1 x1)] fun x7 =>
  .l (.okc 2 true) [x7] fun x8 =>
  .ret (.tup [x8, (.bool true)])))
theorem k_head_Next : TxOk P F.head_Next 3 t_head_Next := txOk_of (H := {}) (plans := []) hm Try.func41 rfl rfl fun xs => by kernel_rfl
def t_head_fold_int (xs : List PV) : T PV :=
.l (.okc 1 false) [(n xs 1)] fun x0 =>
.iter (n xs 0) 1 [(i 0), (.bool false)] (fun e1 y1 =>
 .ite (n y1 1) (
  .callv x0 [(n y1 0), (n e1 0)] fun x2 =>
  .l (.okc 1 false) [x2] fun x3 =>
  .cont 0 [x3, (.bool true)]) (
  .l (.okc 1 false) [(n e1 0)] fun x2 =>
  .cont 0 [x2, (.bool true)])) (fun e1 y1 =>
 .ite (n y1 1) (
  .callv x0 [(n y1 0), (n e1 0)] fun x2 =>
  .l (.okc 1 false) [x2] fun x3 =>
  .fail) (
  .l (.okc 1 false) [(n e1 0)] fun x2 =>
  .fail)) fun y1 =>
.l (.okc 1 false) [(n y1 0)] fun x2 =>
.l (.okc 1 false) [(n y1 1)] fun x3 =>
.ret (.tup [x2, x3])
theorem k_head_fold_int : TxOk P F.head_fold_int 2 t_head_fold_int := txOk_of (H := {}) (plans := []) hm Try.func42 rfl rfl fun xs => by kernel_rfl
def t_head_prios (xs : List PV) : T PV :=
.l (.okc 1 true) [(n xs 0)] fun x0 =>
.l (.okc 1 false) [(n xs 1)] fun x1 =>
.ret (.fn F.head_prios_1 [] [(.box x1), (.box x0)])
theorem k_head_prios : TxOk P F.head_prios 2 t_head_prios := txOk_of (H := {}) (plans := []) hm Try.func43 rfl rfl fun xs => by kernel_rfl
def t_head_Lowest_1 (xs : List PV) : T PV :=
.l (.mn .i64) [(n xs 0), (n xs 1)] fun x0 =>
.ret x0
theorem k_head_Lowest_1 : TxOk P F.head_Lowest_1 2 t_head_Lowest_1 := txOk_of (H := {}) (plans := []) hm Try.func44 rfl rfl fun xs => by kernel_rfl
def t_graph_strip (xs : List PV) : T PV :=
.l (.okc 6 true) [(n xs 0)] fun x0 =>
.loop [(.sl []), x0] fun y1 =>
.l (.cmp .eql .i64) [(c 0 (n y1 1)), (i 8)] fun x2 =>
.ite x2 (
 .l (.lst 1 false) [(c 2 (n y1 1))] fun x3 =>
 .l (.app 1 false 16) [(n y1 0), x3] fun x4 =>
 .l (.idx 6 true) [(c 5 (n y1 1)), (i 0)] fun x5 =>
 .l (.okc 6 true) [x5] fun x6 =>
 .cont 0 [x4, x6]) (
 .l (.okc 6 true) [(n y1 1)] fun x3 =>
 .ret (.tup [x3, (n y1 0)]))
theorem k_graph_strip : TxOk P F.graph_strip 1 t_graph_strip := txOk_of (H := {}) (plans := []) hm Try.func45 rfl rfl fun xs => by kernel_rfl
def t_slices_Clone_string_string (xs : List PV) : T PV :=
.nilq (n xs 0) (
 .ret (.sl [])) (
 .l (.lst 1 false) [] fun x0 =>
 .l (.app 1 false 16) [x0, (n xs 0)] fun x1 =>
 .ret x1)
theorem k_slices_Clone_string_string : TxOk P F.slices_Clone_string_string 1 t_slices_Clone_string_string := txOk_of (H := { wr := [0, 1, 2, 3, 4, 5, 6, 7, 8, 9, 10, 11, 12, 13, 14, 15, 16, 17, 18, 19, 20, 21, 22, 23, 24, 25, 26, 27, 28, 29, 30, 31, 32, 33, 34, 35, 36, 37, 38, 39], ro := [], nl := [], fz := [], da := [], sigs := [] }) (plans := []) hm Try.func46 rfl rfl fun xs => by kernel_rfl
def u_slices_Clone_string_string (xs : List PV) : T PV :=
.nilq (n xs 0) (
 .ret (.tup [(.sl [])])) (
 .l (.lst 1 false) [] fun x0 =>
 .l (.app 1 false 16) [x0, (n xs 0)] fun x1 =>
 .ret (.tup [x1]))
theorem m_slices_Clone_string_string : TxOkS P F.slices_Clone_string_string sg_slices_Clone_string_string u_slices_Clone_string_string := txOkS_of (H := { wr := [0, 1, 2, 3, 4, 5, 6, 7, 8, 9, 10, 11, 12, 13, 14, 15, 16, 17, 18, 19, 20, 21, 22, 23, 24, 25, 26, 27, 28, 29, 30, 31, 32, 33, 34, 35, 36, 37, 38, 39], ro := [], nl := [], fz := [], da := [], sigs := [] }) (plans := []) hm Try.func46 rfl fun xs => by kernel_rfl
-- NOT TOLD: 47 maps.Clone[duologue/graph.scope,string,duologue/graph.Ref]: 1
-- NOT TOLD: 47S maps.Clone[duologue/graph.scope,string,duologue/graph.Ref]: 1
-- NOT TOLD: 48 slices.pdqsortOrdered[int]: 0
def u_slices_pdqsortOrdered_int_Nil (xs : List PV) : T PV :=
.loop [(.bool true), (.bool true), (n xs 0), (n xs 1), (n xs 2), (n xs 3)] fun y0 =>
.l (.arith .sub .i64) [(n y0 3), (n y0 2)] fun x1 =>
.l (.cmp .leq .i64) [x1, (i 12)] fun x2 =>
.ite x2 (
 .calls F.slices_insertionSortOrdered_int sg_slices_insertionSortOrdered_int [(n y0 2), (n y0 3), (n y0 5)] fun z3 =>
 .ret (.tup [(.tup []), (n z3 1)])) (
 .l (.cmp .eql .i64) [(n y0 4), (i 0)] fun x3 =>
 .ite x3 (
  .call F.slices_heapSortOrdered_int [(n y0 5), (n y0 2), (n y0 3)] fun x4 =>
  .fail) (
  .l .bnot [(n y0 1)] fun x4 =>
  .ite x4 (
   .call F.slices_breakPatternsOrdered_int [(n y0 5), (n y0 2), (n y0 3)] fun x5 =>
   .l (.arith .sub .i64) [(n y0 4), (i 1)] fun x6 =>
   .call F.slices_choosePivotOrdered_int [(n y0 5), (n y0 2), (n y0 3)] fun x7 =>
   .l (.tc 0) [x7] fun x8 =>
   .l (.tc 1) [x7] fun x9 =>
   .l (.cmp .eql .i64) [x9, (i 2)] fun x10 =>
   .ite x10 (
    .call F.slices_reverseRangeOrdered_int [(n y0 5), (n y0 2), (n y0 3)] fun x11 =>
    .l (.arith .sub .i64) [(n y0 3), (i 1)] fun x12 =>
    .l (.arith .sub .i64) [x8, (n y0 2)] fun x13 =>
    .l (.arith .sub .i64) [x12, x13] fun x14 =>
    .ite (n y0 1) (
     .ite (n y0 0) (
      .l (.cmp .eql .i64) [(i 1), (i 1)] fun x15 =>
      .ite x15 (
       .call F.slices_partialInsertionSortOrdered_int [(n y0 5), (n y0 2), (n y0 3)] fun x16 =>
       .ite x16 (
        .fail) (
        .l (.cmp .gtr .i64) [(n y0 2), (i 0)] fun x17 =>
        .ite x17 (
         .l (.arith .sub .i64) [(n y0 2), (i 1)] fun x18 =>
         .l (.idx 1 false) [(n y0 5), x18] fun x19 =>
         .l (.idx 1 false) [(n y0 5), x14] fun x20 =>
         .call F.cmp_Less_int [x19, x20] fun x21 =>
         .l .bnot [x21] fun x22 =>
         .ite x22 (
          .call F.slices_partitionEqualOrdered_int [(n y0 5), (n y0 2), (n y0 3), x14] fun x23 =>
          .fail) (
          .call F.slices_partitionOrdered_int [(n y0 5), (n y0 2), (n y0 3), x14] fun x23 =>
          .l (.tc 0) [x23] fun x24 =>
          .l (.tc 1) [x23] fun x25 =>
          .l (.arith .sub .i64) [x24, (n y0 2)] fun x26 =>
          .l (.arith .sub .i64) [(n y0 3), x24] fun x27 =>
          .l (.arith .quo .i64) [x1, (i 8)] fun x28 =>
          .l (.cmp .lss .i64) [x26, x27] fun x29 =>
          .ite x29 (
           .l (.cmp .geq .i64) [x26, x28] fun x30 =>
           .fail) (
           .l (.cmp .geq .i64) [x27, x28] fun x30 =>
           .l (.arith .add .i64) [x24, (i 1)] fun x31 =>
           .fail))) (
         .call F.slices_partitionOrdered_int [(n y0 5), (n y0 2), (n y0 3), x14] fun x18 =>
         .l (.tc 0) [x18] fun x19 =>
         .l (.tc 1) [x18] fun x20 =>
         .l (.arith .sub .i64) [x19, (n y0 2)] fun x21 =>
         .l (.arith .sub .i64) [(n y0 3), x19] fun x22 =>
         .l (.arith .quo .i64) [x1, (i 8)] fun x23 =>
         .l (.cmp .lss .i64) [x21, x22] fun x24 =>
         .ite x24 (
          .l (.cmp .geq .i64) [x21, x23] fun x25 =>
          .fail) (
          .l (.cmp .geq .i64) [x22, x23] fun x25 =>
          .l (.arith .add .i64) [x19, (i 1)] fun x26 =>
          .fail)))) (
       .l (.cmp .gtr .i64) [(n y0 2), (i 0)] fun x16 =>
       .ite x16 (
        .l (.arith .sub .i64) [(n y0 2), (i 1)] fun x17 =>
        .l (.idx 1 false) [(n y0 5), x17] fun x18 =>
        .l (.idx 1 false) [(n y0 5), x14] fun x19 =>
        .call F.cmp_Less_int [x18, x19] fun x20 =>
        .l .bnot [x20] fun x21 =>
        .ite x21 (
         .call F.slices_partitionEqualOrdered_int [(n y0 5), (n y0 2), (n y0 3), x14] fun x22 =>
         .fail) (
         .call F.slices_partitionOrdered_int [(n y0 5), (n y0 2), (n y0 3), x14] fun x22 =>
         .l (.tc 0) [x22] fun x23 =>
         .l (.tc 1) [x22] fun x24 =>
         .l (.arith .sub .i64) [x23, (n y0 2)] fun x25 =>
         .l (.arith .sub .i64) [(n y0 3), x23] fun x26 =>
         .l (.arith .quo .i64) [x1, (i 8)] fun x27 =>
         .l (.cmp .lss .i64) [x25, x26] fun x28 =>
         .ite x28 (
          .l (.cmp .geq .i64) [x25, x27] fun x29 =>
          .fail) (
          .l (.cmp .geq .i64) [x26, x27] fun x29 =>
          .l (.arith .add .i64) [x23, (i 1)] fun x30 =>
          .fail))) (
        .call F.slices_partitionOrdered_int [(n y0 5), (n y0 2), (n y0 3), x14] fun x17 =>
        .l (.tc 0) [x17] fun x18 =>
        .l (.tc 1) [x17] fun x19 =>
        .l (.arith .sub .i64) [x18, (n y0 2)] fun x20 =>
        .l (.arith .sub .i64) [(n y0 3), x18] fun x21 =>
        .l (.arith .quo .i64) [x1, (i 8)] fun x22 =>
        .l (.cmp .lss .i64) [x20, x21] fun x23 =>
        .ite x23 (
         .l (.cmp .geq .i64) [x20, x22] fun x24 =>
         .fail) (
         .l (.cmp .geq .i64) [x21, x22] fun x24 =>
         .l (.arith .add .i64) [x18, (i 1)] fun x25 =>
         .fail)))) (
      .l (.cmp .gtr .i64) [(n y0 2), (i 0)] fun x15 =>
      .ite x15 (
       .l (.arith .sub .i64) [(n y0 2), (i 1)] fun x16 =>
       .l (.idx 1 false) [(n y0 5), x16] fun x17 =>
       .l (.idx 1 false) [(n y0 5), x14] fun x18 =>
       .call F.cmp_Less_int [x17, x18] fun x19 =>
       .l .bnot [x19] fun x20 =>
       .ite x20 (
        .call F.slices_partitionEqualOrdered_int [(n y0 5), (n y0 2), (n y0 3), x14] fun x21 =>
        .fail) (
        .call F.slices_partitionOrdered_int [(n y0 5), (n y0 2), (n y0 3), x14] fun x21 =>
        .l (.tc 0) [x21] fun x22 =>
        .l (.tc 1) [x21] fun x23 =>
        .l (.arith .sub .i64) [x22, (n y0 2)] fun x24 =>
        .l (.arith .sub .i64) [(n y0 3), x22] fun x25 =>
        .l (.arith .quo .i64) [x1, (i 8)] fun x26 =>
        .l (.cmp .lss .i64) [x24, x25] fun x27 =>
        .ite x27 (
         .l (.cmp .geq .i64) [x24, x26] fun x28 =>
         .fail) (
         .l (.cmp .geq .i64) [x25, x26] fun x28 =>
         .l (.arith .add .i64) [x22, (i 1)] fun x29 =>
         .fail))) (
       .call F.slices_partitionOrdered_int [(n y0 5), (n y0 2), (n y0 3), x14] fun x16 =>
       .l (.tc 0) [x16] fun x17 =>
       .l (.tc 1) [x16] fun x18 =>
       .l (.arith .sub .i64) [x17, (n y0 2)] fun x19 =>
       .l (.arith .sub .i64) [(n y0 3), x17] fun x20 =>
       .l (.arith .quo .i64) [x1, (i 8)] fun x21 =>
       .l (.cmp .lss .i64) [x19, x20] fun x22 =>
       .ite x22 (
        .l (.cmp .geq .i64) [x19, x21] fun x23 =>
        .fail) (
        .l (.cmp .geq .i64) [x20, x21] fun x23 =>
        .l (.arith .add .i64) [x17, (i 1)] fun x24 =>
        .fail)))) (
     .l (.cmp .gtr .i64) [(n y0 2), (i 0)] fun x15 =>
     .ite x15 (
      .l (.arith .sub .i64) [(n y0 2), (i 1)] fun x16 =>
      .l (.idx 1 false) [(n y0 5), x16] fun x17 =>
      .l (.idx 1 false) [(n y0 5), x14] fun x18 =>
      .call F.cmp_Less_int [x17, x18] fun x19 =>
      .l .bnot [x19] fun x20 =>
      .ite x20 (
       .call F.slices_partitionEqualOrdered_int [(n y0 5), (n y0 2), (n y0 3), x14] fun x21 =>
       .fail) (
       .call F.slices_partitionOrdered_int [(n y0 5), (n y0 2), (n y0 3), x14] fun x21 =>
       .l (.tc 0) [x21] fun x22 =>
       .l (.tc 1) [x21] fun x23 =>
       .l (.arith .sub .i64) [x22, (n y0 2)] fun x24 =>
       .l (.arith .sub .i64) [(n y0 3), x22] fun x25 =>
       .l (.arith .quo .i64) [x1, (i 8)] fun x26 =>
       .l (.cmp .lss .i64) [x24, x25] fun x27 =>
       .ite x27 (
        .l (.cmp .geq .i64) [x24, x26] fun x28 =>
        .fail) (
        .l (.cmp .geq .i64) [x25, x26] fun x28 =>
        .l (.arith .add .i64) [x22, (i 1)] fun x29 =>
        .fail))) (
      .call F.slices_partitionOrdered_int [(n y0 5), (n y0 2), (n y0 3), x14] fun x16 =>
      .l (.tc 0) [x16] fun x17 =>
      .l (.tc 1) [x16] fun x18 =>
      .l (.arith .sub .i64) [x17, (n y0 2)] fun x19 =>
      .l (.arith .sub .i64) [(n y0 3), x17] fun x20 =>
      .l (.arith .quo .i64) [x1, (i 8)] fun x21 =>
      .l (.cmp .lss .i64) [x19, x20] fun x22 =>
      .ite x22 (
       .l (.cmp .geq .i64) [x19, x21] fun x23 =>
       .fail) (
       .l (.cmp .geq .i64) [x20, x21] fun x23 =>
       .l (.arith .add .i64) [x17, (i 1)] fun x24 =>
       .fail)))) (
    .ite (n y0 1) (
     .ite (n y0 0) (
      .l (.cmp .eql .i64) [x9, (i 1)] fun x11 =>
      .ite x11 (
       .call F.slices_partialInsertionSortOrdered_int [(n y0 5), (n y0 2), (n y0 3)] fun x12 =>
       .ite x12 (
        .fail) (
        .l (.cmp .gtr .i64) [(n y0 2), (i 0)] fun x13 =>
        .ite x13 (
         .l (.arith .sub .i64) [(n y0 2), (i 1)] fun x14 =>
         .l (.idx 1 false) [(n y0 5), x14] fun x15 =>
         .l (.idx 1 false) [(n y0 5), x8] fun x16 =>
         .call F.cmp_Less_int [x15, x16] fun x17 =>
         .l .bnot [x17] fun x18 =>
         .ite x18 (
          .call F.slices_partitionEqualOrdered_int [(n y0 5), (n y0 2), (n y0 3), x8] fun x19 =>
          .fail) (
          .call F.slices_partitionOrdered_int [(n y0 5), (n y0 2), (n y0 3), x8] fun x19 =>
          .l (.tc 0) [x19] fun x20 =>
          .l (.tc 1) [x19] fun x21 =>
          .l (.arith .sub .i64) [x20, (n y0 2)] fun x22 =>
          .l (.arith .sub .i64) [(n y0 3), x20] fun x23 =>
          .l (.arith .quo .i64) [x1, (i 8)] fun x24 =>
          .l (.cmp .lss .i64) [x22, x23] fun x25 =>
          .ite x25 (
           .l (.cmp .geq .i64) [x22, x24] fun x26 =>
           .fail) (
           .l (.cmp .geq .i64) [x23, x24] fun x26 =>
           .l (.arith .add .i64) [x20, (i 1)] fun x27 =>
           .fail))) (
         .call F.slices_partitionOrdered_int [(n y0 5), (n y0 2), (n y0 3), x8] fun x14 =>
         .l (.tc 0) [x14] fun x15 =>
         .l (.tc 1) [x14] fun x16 =>
         .l (.arith .sub .i64) [x15, (n y0 2)] fun x17 =>
         .l (.arith .sub .i64) [(n y0 3), x15] fun x18 =>
         .l (.arith .quo .i64) [x1, (i 8)] fun x19 =>
         .l (.cmp .lss .i64) [x17, x18] fun x20 =>
         .ite x20 (
          .l (.cmp .geq .i64) [x17, x19] fun x21 =>
          .fail) (
          .l (.cmp .geq .i64) [x18, x19] fun x21 =>
          .l (.arith .add .i64) [x15, (i 1)] fun x22 =>
          .fail)))) (
       .l (.cmp .gtr .i64) [(n y0 2), (i 0)] fun x12 =>
       .ite x12 (
        .l (.arith .sub .i64) [(n y0 2), (i 1)] fun x13 =>
        .l (.idx 1 false) [(n y0 5), x13] fun x14 =>
        .l (.idx 1 false) [(n y0 5), x8] fun x15 =>
        .call F.cmp_Less_int [x14, x15] fun x16 =>
        .l .bnot [x16] fun x17 =>
        .ite x17 (
         .call F.slices_partitionEqualOrdered_int [(n y0 5), (n y0 2), (n y0 3), x8] fun x18 =>
         .fail) (
         .call F.slices_partitionOrdered_int [(n y0 5), (n y0 2), (n y0 3), x8] fun x18 =>
         .l (.tc 0) [x18] fun x19 =>
         .l (.tc 1) [x18] fun x20 =>
         .l (.arith .sub .i64) [x19, (n y0 2)] fun x21 =>
         .l (.arith .sub .i64) [(n y0 3), x19] fun x22 =>
         .l (.arith .quo .i64) [x1, (i 8)] fun x23 =>
         .l (.cmp .lss .i64) [x21, x22] fun x24 =>
         .ite x24 (
          .l (.cmp .geq .i64) [x21, x23] fun x25 =>
          .fail) (
          .l (.cmp .geq .i64) [x22, x23] fun x25 =>
          .l (.arith .add .i64) [x19, (i 1)] fun x26 =>
          .fail))) (
        .call F.slices_partitionOrdered_int [(n y0 5), (n y0 2), (n y0 3), x8] fun x13 =>
        .l (.tc 0) [x13] fun x14 =>
        .l (.tc 1) [x13] fun x15 =>
        .l (.arith .sub .i64) [x14, (n y0 2)] fun x16 =>
        .l (.arith .sub .i64) [(n y0 3), x14] fun x17 =>
        .l (.arith .quo .i64) [x1, (i 8)] fun x18 =>
        .l (.cmp .lss .i64) [x16, x17] fun x19 =>
        .ite x19 (
         .l (.cmp .geq .i64) [x16, x18] fun x20 =>
         .fail) (
         .l (.cmp .geq .i64) [x17, x18] fun x20 =>
         .l (.arith .add .i64) [x14, (i 1)] fun x21 =>
         .fail)))) (
      .l (.cmp .gtr .i64) [(n y0 2), (i 0)] fun x11 =>
      .ite x11 (
       .l (.arith .sub .i64) [(n y0 2), (i 1)] fun x12 =>
       .l (.idx 1 false) [(n y0 5), x12] fun x13 =>
       .l (.idx 1 false) [(n y0 5), x8] fun x14 =>
       .call F.cmp_Less_int [x13, x14] fun x15 =>
       .l .bnot [x15] fun x16 =>
       .ite x16 (
        .call F.slices_partitionEqualOrdered_int [(n y0 5), (n y0 2), (n y0 3), x8] fun x17 =>
        .fail) (
        .call F.slices_partitionOrdered_int [(n y0 5), (n y0 2), (n y0 3), x8] fun x17 =>
        .l (.tc 0) [x17] fun x18 =>
        .l (.tc 1) [x17] fun x19 =>
        .l (.arith .sub .i64) [x18, (n y0 2)] fun x20 =>
        .l (.arith .sub .i64) [(n y0 3), x18] fun x21 =>
        .l (.arith .quo .i64) [x1, (i 8)] fun x22 =>
        .l (.cmp .lss .i64) [x20, x21] fun x23 =>
        .ite x23 (
         .l (.cmp .geq .i64) [x20, x22] fun x24 =>
         .fail) (
         .l (.cmp .geq .i64) [x21, x22] fun x24 =>
         .l (.arith .add .i64) [x18, (i 1)] fun x25 =>
         .fail))) (
       .call F.slices_partitionOrdered_int [(n y0 5), (n y0 2), (n y0 3), x8] fun x12 =>
       .l (.tc 0) [x12] fun x13 =>
       .l (.tc 1) [x12] fun x14 =>
       .l (.arith .sub .i64) [x13, (n y0 2)] fun x15 =>
       .l (.arith .sub .i64) [(n y0 3), x13] fun x16 =>
       .l (.arith .quo .i64) [x1, (i 8)] fun x17 =>
       .l (.cmp .lss .i64) [x15, x16] fun x18 =>
       .ite x18 (
        .l (.cmp .geq .i64) [x15, x17] fun x19 =>
        .fail) (
        .l (.cmp .geq .i64) [x16, x17] fun x19 =>
        .l (.arith .add .i64) [x13, (i 1)] fun x20 =>
        .fail)))) (
     .l (.cmp .gtr .i64) [(n y0 2), (i 0)] fun x11 =>
     .ite x11 (
      .l (.arith .sub .i64) [(n y0 2), (i 1)] fun x12 =>
      .l (.idx 1 false) [(n y0 5), x12] fun x13 =>
      .l (.idx 1 false) [(n y0 5), x8] fun x14 =>
      .call F.cmp_Less_int [x13, x14] fun x15 =>
      .l .bnot [x15] fun x16 =>
      .ite x16 (
       .call F.slices_partitionEqualOrdered_int [(n y0 5), (n y0 2), (n y0 3), x8] fun x17 =>
       .fail) (
       .call F.slices_partitionOrdered_int [(n y0 5), (n y0 2), (n y0 3), x8] fun x17 =>
       .l (.tc 0) [x17] fun x18 =>
       .l (.tc 1) [x17] fun x19 =>
       .l (.arith .sub .i64) [x18, (n y0 2)] fun x20 =>
       .l (.arith .sub .i64) [(n y0 3), x18] fun x21 =>
       .l (.arith .quo .i64) [x1, (i 8)] fun x22 =>
       .l (.cmp .lss .i64) [x20, x21] fun x23 =>
       .ite x23 (
        .l (.cmp .geq .i64) [x20, x22] fun x24 =>
        .fail) (
        .l (.cmp .geq .i64) [x21, x22] fun x24 =>
        .l (.arith .add .i64) [x18, (i 1)] fun x25 =>
        .fail))) (
      .call F.slices_partitionOrdered_int [(n y0 5), (n y0 2), (n y0 3), x8] fun x12 =>
      .l (.tc 0) [x12] fun x13 =>
      .l (.tc 1) [x12] fun x14 =>
      .l (.arith .sub .i64) [x13, (n y0 2)] fun x15 =>
      .l (.arith .sub .i64) [(n y0 3), x13] fun x16 =>
      .l (.arith .quo .i64) [x1, (i 8)] fun x17 =>
      .l (.cmp .lss .i64) [x15, x16] fun x18 =>
      .ite x18 (
       .l (.cmp .geq .i64) [x15, x17] fun x19 =>
       .fail) (
       .l (.cmp .geq .i64) [x16, x17] fun x19 =>
       .l (.arith .add .i64) [x13, (i 1)] fun x20 =>
       .fail))))) (
   .call F.slices_choosePivotOrdered_int [(n y0 5), (n y0 2), (n y0 3)] fun x5 =>
   .l (.tc 0) [x5] fun x6 =>
   .l (.tc 1) [x5] fun x7 =>
   .l (.cmp .eql .i64) [x7, (i 2)] fun x8 =>
   .ite x8 (
    .call F.slices_reverseRangeOrdered_int [(n y0 5), (n y0 2), (n y0 3)] fun x9 =>
    .l (.arith .sub .i64) [(n y0 3), (i 1)] fun x10 =>
    .l (.arith .sub .i64) [x6, (n y0 2)] fun x11 =>
    .l (.arith .sub .i64) [x10, x11] fun x12 =>
    .ite (n y0 1) (
     .ite (n y0 0) (
      .l (.cmp .eql .i64) [(i 1), (i 1)] fun x13 =>
      .ite x13 (
       .call F.slices_partialInsertionSortOrdered_int [(n y0 5), (n y0 2), (n y0 3)] fun x14 =>
       .ite x14 (
        .fail) (
        .l (.cmp .gtr .i64) [(n y0 2), (i 0)] fun x15 =>
        .ite x15 (
         .l (.arith .sub .i64) [(n y0 2), (i 1)] fun x16 =>
         .l (.idx 1 false) [(n y0 5), x16] fun x17 =>
         .l (.idx 1 false) [(n y0 5), x12] fun x18 =>
         .call F.cmp_Less_int [x17, x18] fun x19 =>
         .l .bnot [x19] fun x20 =>
         .ite x20 (
          .call F.slices_partitionEqualOrdered_int [(n y0 5), (n y0 2), (n y0 3), x12] fun x21 =>
          .fail) (
          .call F.slices_partitionOrdered_int [(n y0 5), (n y0 2), (n y0 3), x12] fun x21 =>
          .l (.tc 0) [x21] fun x22 =>
          .l (.tc 1) [x21] fun x23 =>
          .l (.arith .sub .i64) [x22, (n y0 2)] fun x24 =>
          .l (.arith .sub .i64) [(n y0 3), x22] fun x25 =>
          .l (.arith .quo .i64) [x1, (i 8)] fun x26 =>
          .l (.cmp .lss .i64) [x24, x25] fun x27 =>
          .ite x27 (
           .l (.cmp .geq .i64) [x24, x26] fun x28 =>
           .fail) (
           .l (.cmp .geq .i64) [x25, x26] fun x28 =>
           .l (.arith .add .i64) [x22, (i 1)] fun x29 =>
           .fail))) (
         .call F.slices_partitionOrdered_int [(n y0 5), (n y0 2), (n y0 3), x12] fun x16 =>
         .l (.tc 0) [x16] fun x17 =>
         .l (.tc 1) [x16] fun x18 =>
         .l (.arith .sub .i64) [x17, (n y0 2)] fun x19 =>
         .l (.arith .sub .i64) [(n y0 3), x17] fun x20 =>
         .l (.arith .quo .i64) [x1, (i 8)] fun x21 =>
         .l (.cmp .lss .i64) [x19, x20] fun x22 =>
         .ite x22 (
          .l (.cmp .geq .i64) [x19, x21] fun x23 =>
          .fail) (
          .l (.cmp .geq .i64) [x20, x21] fun x23 =>
          .l (.arith .add .i64) [x17, (i 1)] fun x24 =>
          .fail)))) (
       .l (.cmp .gtr .i64) [(n y0 2), (i 0)] fun x14 =>
       .ite x14 (
        .l (.arith .sub .i64) [(n y0 2), (i 1)] fun x15 =>
        .l (.idx 1 false) [(n y0 5), x15] fun x16 =>
        .l (.idx 1 false) [(n y0 5), x12] fun x17 =>
        .call F.cmp_Less_int [x16, x17] fun x18 =>
        .l .bnot [x18] fun x19 =>
        .ite x19 (
         .call F.slices_partitionEqualOrdered_int [(n y0 5), (n y0 2), (n y0 3), x12] fun x20 =>
         .fail) (
         .call F.slices_partitionOrdered_int [(n y0 5), (n y0 2), (n y0 3), x12] fun x20 =>
         .l (.tc 0) [x20] fun x21 =>
         .l (.tc 1) [x20] fun x22 =>
         .l (.arith .sub .i64) [x21, (n y0 2)] fun x23 =>
         .l (.arith .sub .i64) [(n y0 3), x21] fun x24 =>
         .l (.arith .quo .i64) [x1, (i 8)] fun x25 =>
         .l (.cmp .lss .i64) [x23, x24] fun x26 =>
         .ite x26 (
          .l (.cmp .geq .i64) [x23, x25] fun x27 =>
          .fail) (
          .l (.cmp .geq .i64) [x24, x25] fun x27 =>
          .l (.arith .add .i64) [x21, (i 1)] fun x28 =>
          .fail))) (
        .call F.slices_partitionOrdered_int [(n y0 5), (n y0 2), (n y0 3), x12] fun x15 =>
        .l (.tc 0) [x15] fun x16 =>
        .l (.tc 1) [x15] fun x17 =>
        .l (.arith .sub .i64) [x16, (n y0 2)] fun x18 =>
        .l (.arith .sub .i64) [(n y0 3), x16] fun x19 =>
        .l (.arith .quo .i64) [x1, (i 8)] fun x20 =>
        .l (.cmp .lss .i64) [x18, x19] fun x21 =>
        .ite x21 (
         .l (.cmp .geq .i64) [x18, x20] fun x22 =>
         .fail) (
         .l (.cmp .geq .i64) [x19, x20] fun x22 =>
         .l (.arith .add .i64) [x16, (i 1)] fun x23 =>
         .fail)))) (
      .l (.cmp .gtr .i64) [(n y0 2), (i 0)] fun x13 =>
      .ite x13 (
       .l (.arith .sub .i64) [(n y0 2), (i 1)] fun x14 =>
       .l (.idx 1 false) [(n y0 5), x14] fun x15 =>
       .l (.idx 1 false) [(n y0 5), x12] fun x16 =>
       .call F.cmp_Less_int [x15, x16] fun x17 =>
       .l .bnot [x17] fun x18 =>
       .ite x18 (
        .call F.slices_partitionEqualOrdered_int [(n y0 5), (n y0 2), (n y0 3), x12] fun x19 =>
        .fail) (
        .call F.slices_partitionOrdered_int [(n y0 5), (n y0 2), (n y0 3), x12] fun x19 =>
        .l (.tc 0) [x19] fun x20 =>
        .l (.tc 1) [x19] fun x21 =>
        .l (.arith .sub .i64) [x20, (n y0 2)] fun x22 =>
        .l (.arith .sub .i64) [(n y0 3), x20] fun x23 =>
        .l (.arith .quo .i64) [x1, (i 8)] fun x24 =>
        .l (.cmp .lss .i64) [x22, x23] fun x25 =>
        .ite x25 (
         .l (.cmp .geq .i64) [x22, x24] fun x26 =>
         .fail) (
         .l (.cmp .geq .i64) [x23, x24] fun x26 =>
         .l (.arith .add .i64) [x20, (i 1)] fun x27 =>
         .fail))) (
       .call F.slices_partitionOrdered_int [(n y0 5), (n y0 2), (n y0 3), x12] fun x14 =>
       .l (.tc 0) [x14] fun x15 =>
       .l (.tc 1) [x14] fun x16 =>
       .l (.arith .sub .i64) [x15, (n y0 2)] fun x17 =>
       .l (.arith .sub .i64) [(n y0 3), x15] fun x18 =>
       .l (.arith .quo .i64) [x1, (i 8)] fun x19 =>
       .l (.cmp .lss .i64) [x17, x18] fun x20 =>
       .ite x20 (
        .l (.cmp .geq .i64) [x17, x19] fun x21 =>
        .fail) (
        .l (.cmp .geq .i64) [x18, x19] fun x21 =>
        .l (.arith .add .i64) [x15, (i 1)] fun x22 =>
        .fail)))) (
     .l (.cmp .gtr .i64) [(n y0 2), (i 0)] fun x13 =>
     .ite x13 (
      .l (.arith .sub .i64) [(n y0 2), (i 1)] fun x14 =>
      .l (.idx 1 false) [(n y0 5), x14] fun x15 =>
      .l (.idx 1 false) [(n y0 5), x12] fun x16 =>
      .call F.cmp_Less_int [x15, x16] fun x17 =>
      .l .bnot [x17] fun x18 =>
      .ite x18 (
       .call F.slices_partitionEqualOrdered_int [(n y0 5), (n y0 2), (n y0 3), x12] fun x19 =>
       .fail) (
       .call F.slices_partitionOrdered_int [(n y0 5), (n y0 2), (n y0 3), x12] fun x19 =>
       .l (.tc 0) [x19] fun x20 =>
       .l (.tc 1) [x19] fun x21 =>
       .l (.arith .sub .i64) [x20, (n y0 2)] fun x22 =>
       .l (.arith .sub .i64) [(n y0 3), x20] fun x23 =>
       .l (.arith .quo .i64) [x1, (i 8)] fun x24 =>
       .l (.cmp .lss .i64) [x22, x23] fun x25 =>
       .ite x25 (
        .l (.cmp .geq .i64) [x22, x24] fun x26 =>
        .fail) (
        .l (.cmp .geq .i64) [x23, x24] fun x26 =>
        .l (.arith .add .i64) [x20, (i 1)] fun x27 =>
        .fail))) (
      .call F.slices_partitionOrdered_int [(n y0 5), (n y0 2), (n y0 3), x12] fun x14 =>
      .l (.tc 0) [x14] fun x15 =>
      .l (.tc 1) [x14] fun x16 =>
      .l (.arith .sub .i64) [x15, (n y0 2)] fun x17 =>
      .l (.arith .sub .i64) [(n y0 3), x15] fun x18 =>
      .l (.arith .quo .i64) [x1, (i 8)] fun x19 =>
      .l (.cmp .lss .i64) [x17, x18] fun x20 =>
      .ite x20 (
       .l (.cmp .geq .i64) [x17, x19] fun x21 =>
       .fail) (
       .l (.cmp .geq .i64) [x18, x19] fun x21 =>
       .l (.arith .add .i64) [x15, (i 1)] fun x22 =>
       .fail)))) (
    .ite (n y0 1) (
     .ite (n y0 0) (
      .l (.cmp .eql .i64) [x7, (i 1)] fun x9 =>
      .ite x9 (
       .call F.slices_partialInsertionSortOrdered_int [(n y0 5), (n y0 2), (n y0 3)] fun x10 =>
       .ite x10 (
        .fail) (
        .l (.cmp .gtr .i64) [(n y0 2), (i 0)] fun x11 =>
        .ite x11 (
         .l (.arith .sub .i64) [(n y0 2), (i 1)] fun x12 =>
         .l (.idx 1 false) [(n y0 5), x12] fun x13 =>
         .l (.idx 1 false) [(n y0 5), x6] fun x14 =>
         .call F.cmp_Less_int [x13, x14] fun x15 =>
         .l .bnot [x15] fun x16 =>
         .ite x16 (
          .call F.slices_partitionEqualOrdered_int [(n y0 5), (n y0 2), (n y0 3), x6] fun x17 =>
          .fail) (
          .call F.slices_partitionOrdered_int [(n y0 5), (n y0 2), (n y0 3), x6] fun x17 =>
          .l (.tc 0) [x17] fun x18 =>
          .l (.tc 1) [x17] fun x19 =>
          .l (.arith .sub .i64) [x18, (n y0 2)] fun x20 =>
          .l (.arith .sub .i64) [(n y0 3), x18] fun x21 =>
          .l (.arith .quo .i64) [x1, (i 8)] fun x22 =>
          .l (.cmp .lss .i64) [x20, x21] fun x23 =>
          .ite x23 (
           .l (.cmp .geq .i64) [x20, x22] fun x24 =>
           .fail) (
           .l (.cmp .geq .i64) [x21, x22] fun x24 =>
           .l (.arith .add .i64) [x18, (i 1)] fun x25 =>
           .fail))) (
         .call F.slices_partitionOrdered_int [(n y0 5), (n y0 2), (n y0 3), x6] fun x12 =>
         .l (.tc 0) [x12] fun x13 =>
         .l (.tc 1) [x12] fun x14 =>
         .l (.arith .sub .i64) [x13, (n y0 2)] fun x15 =>
         .l (.arith .sub .i64) [(n y0 3), x13] fun x16 =>
         .l (.arith .quo .i64) [x1, (i 8)] fun x17 =>
         .l (.cmp .lss .i64) [x15, x16] fun x18 =>
         .ite x18 (
          .l (.cmp .geq .i64) [x15, x17] fun x19 =>
          .fail) (
          .l (.cmp .geq .i64) [x16, x17] fun x19 =>
          .l (.arith .add .i64) [x13, (i 1)] fun x20 =>
          .fail)))) (
       .l (.cmp .gtr .i64) [(n y0 2), (i 0)] fun x10 =>
       .ite x10 (
        .l (.arith .sub .i64) [(n y0 2), (i 1)] fun x11 =>
        .l (.idx 1 false) [(n y0 5), x11] fun x12 =>
        .l (.idx 1 false) [(n y0 5), x6] fun x13 =>
        .call F.cmp_Less_int [x12, x13] fun x14 =>
        .l .bnot [x14] fun x15 =>
        .ite x15 (
         .call F.slices_partitionEqualOrdered_int [(n y0 5), (n y0 2), (n y0 3), x6] fun x16 =>
         .fail) (
         .call F.slices_partitionOrdered_int [(n y0 5), (n y0 2), (n y0 3), x6] fun x16 =>
         .l (.tc 0) [x16] fun x17 =>
         .l (.tc 1) [x16] fun x18 =>
         .l (.arith .sub .i64) [x17, (n y0 2)] fun x19 =>
         .l (.arith .sub .i64) [(n y0 3), x17] fun x20 =>
         .l (.arith .quo .i64) [x1, (i 8)] fun x21 =>
         .l (.cmp .lss .i64) [x19, x20] fun x22 =>
         .ite x22 (
          .l (.cmp .geq .i64) [x19, x21] fun x23 =>
          .fail) (
          .l (.cmp .geq .i64) [x20, x21] fun x23 =>
          .l (.arith .add .i64) [x17, (i 1)] fun x24 =>
          .fail))) (
        .call F.slices_partitionOrdered_int [(n y0 5), (n y0 2), (n y0 3), x6] fun x11 =>
        .l (.tc 0) [x11] fun x12 =>
        .l (.tc 1) [x11] fun x13 =>
        .l (.arith .sub .i64) [x12, (n y0 2)] fun x14 =>
        .l (.arith .sub .i64) [(n y0 3), x12] fun x15 =>
        .l (.arith .quo .i64) [x1, (i 8)] fun x16 =>
        .l (.cmp .lss .i64) [x14, x15] fun x17 =>
        .ite x17 (
         .l (.cmp .geq .i64) [x14, x16] fun x18 =>
         .fail) (
         .l (.cmp .geq .i64) [x15, x16] fun x18 =>
         .l (.arith .add .i64) [x12, (i 1)] fun x19 =>
         .fail)))) (
      .l (.cmp .gtr .i64) [(n y0 2), (i 0)] fun x9 =>
      .ite x9 (
       .l (.arith .sub .i64) [(n y0 2), (i 1)] fun x10 =>
       .l (.idx 1 false) [(n y0 5), x10] fun x11 =>
       .l (.idx 1 false) [(n y0 5), x6] fun x12 =>
       .call F.cmp_Less_int [x11, x12] fun x13 =>
       .l .bnot [x13] fun x14 =>
       .ite x14 (
        .call F.slices_partitionEqualOrdered_int [(n y0 5), (n y0 2), (n y0 3), x6] fun x15 =>
        .fail) (
        .call F.slices_partitionOrdered_int [(n y0 5), (n y0 2), (n y0 3), x6] fun x15 =>
        .l (.tc 0) [x15] fun x16 =>
        .l (.tc 1) [x15] fun x17 =>
        .l (.arith .sub .i64) [x16, (n y0 2)] fun x18 =>
        .l (.arith .sub .i64) [(n y0 3), x16] fun x19 =>
        .l (.arith .quo .i64) [x1, (i 8)] fun x20 =>
        .l (.cmp .lss .i64) [x18, x19] fun x21 =>
        .ite x21 (
         .l (.cmp .geq .i64) [x18, x20] fun x22 =>
         .fail) (
         .l (.cmp .geq .i64) [x19, x20] fun x22 =>
         .l (.arith .add .i64) [x16, (i 1)] fun x23 =>
         .fail))) (
       .call F.slices_partitionOrdered_int [(n y0 5), (n y0 2), (n y0 3), x6] fun x10 =>
       .l (.tc 0) [x10] fun x11 =>
       .l (.tc 1) [x10] fun x12 =>
       .l (.arith .sub .i64) [x11, (n y0 2)] fun x13 =>
       .l (.arith .sub .i64) [(n y0 3), x11] fun x14 =>
       .l (.arith .quo .i64) [x1, (i 8)] fun x15 =>
       .l (.cmp .lss .i64) [x13, x14] fun x16 =>
       .ite x16 (
        .l (.cmp .geq .i64) [x13, x15] fun x17 =>
        .fail) (
        .l (.cmp .geq .i64) [x14, x15] fun x17 =>
        .l (.arith .add .i64) [x11, (i 1)] fun x18 =>
        .fail)))) (
     .l (.cmp .gtr .i64) [(n y0 2), (i 0)] fun x9 =>
     .ite x9 (
      .l (.arith .sub .i64) [(n y0 2), (i 1)] fun x10 =>
      .l (.idx 1 false) [(n y0 5), x10] fun x11 =>
      .l (.idx 1 false) [(n y0 5), x6] fun x12 =>
      .call F.cmp_Less_int [x11, x12] fun x13 =>
      .l .bnot [x13] fun x14 =>
      .ite x14 (
       .call F.slices_partitionEqualOrdered_int [(n y0 5), (n y0 2), (n y0 3), x6] fun x15 =>
       .fail) (
       .call F.slices_partitionOrdered_int [(n y0 5), (n y0 2), (n y0 3), x6] fun x15 =>
       .l (.tc 0) [x15] fun x16 =>
       .l (.tc 1) [x15] fun x17 =>
       .l (.arith .sub .i64) [x16, (n y0 2)] fun x18 =>
       .l (.arith .sub .i64) [(n y0 3), x16] fun x19 =>
       .l (.arith .quo .i64) [x1, (i 8)] fun x20 =>
       .l (.cmp .lss .i64) [x18, x19] fun x21 =>
       .ite x21 (
        .l (.cmp .geq .i64) [x18, x20] fun x22 =>
        .fail) (
        .l (.cmp .geq .i64) [x19, x20] fun x22 =>
        .l (.arith .add .i64) [x16, (i 1)] fun x23 =>
        .fail))) (
      .call F.slices_partitionOrdered_int [(n y0 5), (n y0 2), (n y0 3), x6] fun x10 =>
      .l (.tc 0) [x10] fun x11 =>
      .l (.tc 1) [x10] fun x12 =>
      .l (.arith .sub .i64) [x11, (n y0 2)] fun x13 =>
      .l (.arith .sub .i64) [(n y0 3), x11] fun x14 =>
      .l (.arith .quo .i64) [x1, (i 8)] fun x15 =>
      .l (.cmp .lss .i64) [x13, x14] fun x16 =>
      .ite x16 (
       .l (.cmp .geq .i64) [x13, x15] fun x17 =>
       .fail) (
       .l (.cmp .geq .i64) [x14, x15] fun x17 =>
       .l (.arith .add .i64) [x11, (i 1)] fun x18 =>
       .fail)))))))
theorem m_slices_pdqsortOrdered_int_Nil : TxOkS P F.slices_pdqsortOrdered_int sg_slices_pdqsortOrdered_int_Nil u_slices_pdqsortOrdered_int_Nil := txOkS_of (H := { wr := [], ro := [], nl := [], fz := [], da := [], sigs := [(30, sg_graph_set_add), (31, sg_slices_Sort_int_int), (48, sg_slices_pdqsortOrdered_int_Nil), (59, sg_slices_insertionSortOrdered_int), (74, sg_slices_Sort_string_string), (86, sg_slices_pdqsortOrdered_string_Nil), (91, sg_slices_insertionSortOrdered_string)] }) (plans := []) hm Try.func48 rfl fun xs => by kernel_rfl
def t_math_bits_Len (xs : List PV) : T PV :=
.call F.math_bits_Len64 [(n xs 0)] fun x0 =>
.ret x0
theorem k_math_bits_Len : TxOk P F.math_bits_Len 1 t_math_bits_Len := txOk_of (H := {}) (plans := []) hm Try.func49 rfl rfl fun xs => by kernel_rfl
def t_ref02_count (xs : List PV) : T PV :=
.l (.okc 6 true) [(n xs 0)] fun x0 =>
.l (.arith .sub .i64) [(n xs 1), (i 1)] fun x1 =>
.loop [(i 0), x1] fun y2 =>
.l .len [(c 5 x0)] fun x3 =>
.l (.cmp .lss .i64) [(n y2 0), x3] fun x4 =>
.ite x4 (
 .l (.cmp .geq .i64) [(n y2 1), (i 0)] fun x5 =>
 .ite x5 (
  .l (.idx 6 true) [(c 5 x0), (n y2 0)] fun x6 =>
  .call F.ref02_count [x6, (n y2 1)] fun x7 =>
  .l (.arith .add .i64) [(n y2 0), (i 1)] fun x8 =>
  .cont 0 [x8, x7]) (
  .ret (n y2 1))) (
 .ret (n y2 1))
theorem k_ref02_count : TxOk P F.ref02_count 2 t_ref02_count := txOk_of (H := {}) (plans := []) hm Try.func50 rfl rfl fun xs => by kernel_rfl
def t_ref02_shape (xs : List PV) : T PV :=
.l (.okc 6 true) [(n xs 0)] fun x0 =>
.l (.cmp .eql .i64) [(c 0 x0), (i 1)] fun x1 =>
.ite x1 (
 .l (.cmp .eql .i64) [(c 1 x0), (i 0)] fun x2 =>
 .ite x2 (
  .l (.scmp .eql) [(c 2 x0), (.str ⟨#[]⟩)] fun x3 =>
  .ite x3 (
   .l (.cmp .eql .i64) [(c 3 x0), (i 0)] fun x4 =>
   .ite x4 (
    .l .len [(c 4 x0)] fun x5 =>
    .l (.cmp .eql .i64) [x5, (i 0)] fun x6 =>
    .ite x6 (
     .l .len [(c 5 x0)] fun x7 =>
     .l (.cmp .eql .i64) [x7, (i 0)] fun x8 =>
     .ret x8) (
     .ret (.bool false))) (
    .ret (.bool false))) (
   .ret (.bool false))) (
  .ret (.bool false))) (
 .l (.cmp .eql .i64) [(c 0 x0), (i 2)] fun x2 =>
 .ite x2 (
  .l (.cmp .eql .i64) [(c 1 x0), (i 0)] fun x3 =>
  .ite x3 (
   .l (.scmp .eql) [(c 2 x0), (.str ⟨#[]⟩)] fun x4 =>
   .ite x4 (
    .l (.cmp .eql .i64) [(c 3 x0), (i 0)] fun x5 =>
    .ite x5 (
     .l .len [(c 4 x0)] fun x6 =>
     .l (.cmp .eql .i64) [x6, (i 0)] fun x7 =>
     .ite x7 (
      .l .len [(c 5 x0)] fun x8 =>
      .l (.cmp .eql .i64) [x8, (i 0)] fun x9 =>
      .ret x9) (
      .ret (.bool false))) (
     .ret (.bool false))) (
    .ret (.bool false))) (
   .ret (.bool false))) (
  .l (.cmp .eql .i64) [(c 0 x0), (i 3)] fun x3 =>
  .ite x3 (
   .l (.cmp .eql .i64) [(c 1 x0), (i 0)] fun x4 =>
   .ite x4 (
    .l (.scmp .eql) [(c 2 x0), (.str ⟨#[]⟩)] fun x5 =>
    .ite x5 (
     .l (.cmp .eql .i64) [(c 3 x0), (i 0)] fun x6 =>
     .ite x6 (
      .l .len [(c 4 x0)] fun x7 =>
      .l (.cmp .eql .i64) [x7, (i 0)] fun x8 =>
      .ite x8 (
       .l .len [(c 5 x0)] fun x9 =>
       .l (.cmp .eql .i64) [x9, (i 0)] fun x10 =>
       .ret x10) (
       .ret (.bool false))) (
      .ret (.bool false))) (
     .ret (.bool false))) (
    .ret (.bool false))) (
   .l (.cmp .eql .i64) [(c 0 x0), (i 4)] fun x4 =>
   .ite x4 (
    .call F.ref02_prio [(c 1 x0)] fun x5 =>
    .ite x5 (
     .l (.scmp .eql) [(c 2 x0), (.str ⟨#[]⟩)] fun x6 =>
     .ite x6 (
      .l (.cmp .eql .i64) [(c 3 x0), (i 0)] fun x7 =>
      .ite x7 (
       .l .len [(c 4 x0)] fun x8 =>
       .l (.cmp .eql .i64) [x8, (i 0)] fun x9 =>
       .ite x9 (
        .l .len [(c 5 x0)] fun x10 =>
        .l (.cmp .eql .i64) [x10, (i 2)] fun x11 =>
        .ret x11) (
        .ret (.bool false))) (
       .ret (.bool false))) (
      .ret (.bool false))) (
     .ret (.bool false))) (
    .l (.cmp .eql .i64) [(c 0 x0), (i 5)] fun x5 =>
    .ite x5 (
     .call F.ref02_prio [(c 1 x0)] fun x6 =>
     .ite x6 (
      .l (.scmp .eql) [(c 2 x0), (.str ⟨#[]⟩)] fun x7 =>
      .ite x7 (
       .l (.cmp .eql .i64) [(c 3 x0), (i 0)] fun x8 =>
       .ite x8 (
        .l .len [(c 4 x0)] fun x9 =>
        .l (.cmp .eql .i64) [x9, (i 0)] fun x10 =>
        .ite x10 (
         .l .len [(c 5 x0)] fun x11 =>
         .l (.cmp .eql .i64) [x11, (i 2)] fun x12 =>
         .ret x12) (
         .ret (.bool false))) (
        .ret (.bool false))) (
       .ret (.bool false))) (
      .ret (.bool false))) (
     .l (.cmp .eql .i64) [(c 0 x0), (i 6)] fun x6 =>
     .ite x6 (
      .call F.ref02_prio [(c 1 x0)] fun x7 =>
      .ite x7 (
       .l (.scmp .eql) [(c 2 x0), (.str ⟨#[]⟩)] fun x8 =>
       .ite x8 (
        .l (.cmp .eql .i64) [(c 3 x0), (i 0)] fun x9 =>
        .ite x9 (
         .l .len [(c 4 x0)] fun x10 =>
         .l (.cmp .gtr .i64) [x10, (i 0)] fun x11 =>
         .ite x11 (
          .call F.ref02_Labels [(c 4 x0)] fun x12 =>
          .ite x12 (
           .l .len [(c 5 x0)] fun x13 =>
           .l .len [(c 4 x0)] fun x14 =>
           .l (.cmp .eql .i64) [x13, x14] fun x15 =>
           .ret x15) (
           .ret (.bool false))) (
          .ret (.bool false))) (
         .ret (.bool false))) (
        .ret (.bool false))) (
       .ret (.bool false))) (
      .l (.cmp .eql .i64) [(c 0 x0), (i 7)] fun x7 =>
      .ite x7 (
       .call F.ref02_prio [(c 1 x0)] fun x8 =>
       .ite x8 (
        .l (.scmp .eql) [(c 2 x0), (.str ⟨#[]⟩)] fun x9 =>
        .ite x9 (
         .l (.cmp .eql .i64) [(c 3 x0), (i 0)] fun x10 =>
         .ite x10 (
          .l .len [(c 4 x0)] fun x11 =>
          .l (.cmp .gtr .i64) [x11, (i 0)] fun x12 =>
          .ite x12 (
           .call F.ref02_Labels [(c 4 x0)] fun x13 =>
           .ite x13 (
            .l .len [(c 5 x0)] fun x14 =>
            .l .len [(c 4 x0)] fun x15 =>
            .l (.cmp .eql .i64) [x14, x15] fun x16 =>
            .ret x16) (
            .ret (.bool false))) (
           .ret (.bool false))) (
          .ret (.bool false))) (
         .ret (.bool false))) (
        .ret (.bool false))) (
       .l (.cmp .eql .i64) [(c 0 x0), (i 8)] fun x8 =>
       .ite x8 (
        .l (.cmp .eql .i64) [(c 1 x0), (i 0)] fun x9 =>
        .ite x9 (
         .call F.ref01_Name [(c 2 x0)] fun x10 =>
         .ite x10 (
          .l (.cmp .eql .i64) [(c 3 x0), (i 0)] fun x11 =>
          .ite x11 (
           .l .len [(c 4 x0)] fun x12 =>
           .l (.cmp .eql .i64) [x12, (i 0)] fun x13 =>
           .ite x13 (
            .l .len [(c 5 x0)] fun x14 =>
            .l (.cmp .eql .i64) [x14, (i 1)] fun x15 =>
            .ret x15) (
            .ret (.bool false))) (
           .ret (.bool false))) (
          .ret (.bool false))) (
         .ret (.bool false))) (
        .l (.cmp .eql .i64) [(c 0 x0), (i 9)] fun x9 =>
        .ite x9 (
         .l (.cmp .eql .i64) [(c 1 x0), (i 0)] fun x10 =>
         .ite x10 (
          .call F.ref01_Name [(c 2 x0)] fun x11 =>
          .ite x11 (
           .call F.ref02_prio [(c 3 x0)] fun x12 =>
           .ite x12 (
            .l .len [(c 4 x0)] fun x13 =>
            .l (.cmp .eql .i64) [x13, (i 0)] fun x14 =>
            .ite x14 (
             .l .len [(c 5 x0)] fun x15 =>
             .l (.cmp .eql .i64) [x15, (i 0)] fun x16 =>
             .ret x16) (
             .ret (.bool false))) (
            .ret (.bool false))) (
           .ret (.bool false))) (
          .ret (.bool false))) (
         .ret (.bool false))))))))))
theorem k_ref02_shape : TxOk P F.ref02_shape 1 t_ref02_shape := txOk_of (H := {}) (plans := []) hm Try.func51 rfl rfl fun xs => by kernel_rfl
def t_ref02_Session (xs : List PV) : T PV :=
.l (.okc 6 true) [(n xs 0)] fun x0 =>
.l (.cmp .neq .i64) [(c 0 x0), (i 1)] fun x1 =>
.ite x1 (
 .l (.cmp .neq .i64) [(c 0 x0), (i 2)] fun x2 =>
 .ret x2) (
 .ret (.bool false))
theorem k_ref02_Session : TxOk P F.ref02_Session 1 t_ref02_Session := txOk_of (H := {}) (plans := []) hm Try.func52 rfl rfl fun xs => by kernel_rfl
def t_head_action (xs : List PV) : T PV :=
.l (.cmp .geq .i64) [(n xs 0), (i 4)] fun x0 =>
.ite x0 (
 .l (.cmp .leq .i64) [(n xs 0), (i 7)] fun x1 =>
 .ret x1) (
 .ret (.bool false))
theorem k_head_action : TxOk P F.head_action 1 t_head_action := txOk_of (H := {}) (plans := []) hm Try.func53 rfl rfl fun xs => by kernel_rfl
def t_slices_Index_string_string (xs : List PV) : T PV :=
.l .len [(n xs 0)] fun x0 =>
.loop [(i 0)] fun y1 =>
.l (.cmp .lss .i64) [(n y1 0), x0] fun x2 =>
.ite x2 (
 .l (.idx 1 false) [(n xs 0), (n y1 0)] fun x3 =>
 .l (.scmp .eql) [(n xs 1), x3] fun x4 =>
 .ite x4 (
  .ret (n y1 0)) (
  .l (.arith .add .i64) [(n y1 0), (i 1)] fun x5 =>
  .cont 0 [x5])) (
 .ret (i (-1)))
theorem k_slices_Index_string_string : TxOk P F.slices_Index_string_string 2 t_slices_Index_string_string := txOk_of (H := {}) (plans := []) hm Try.func54 rfl rfl fun xs => by kernel_rfl
def t_slices_Sorted_string (xs : List PV) : T PV :=
.calls F.slices_Collect_string sg_slices_Collect_string [(n xs 0)] fun z0 =>
.calls F.slices_Sort_string_string sg_slices_Sort_string_string [(n z0 0)] fun z1 =>
.ret (n z1 1)
theorem k_slices_Sorted_string : TxOk P F.slices_Sorted_string 1 t_slices_Sorted_string := txOk_of (H := { wr := [], ro := [], nl := [], fz := [], da := [], sigs := [(30, sg_graph_set_add), (31, sg_slices_Sort_int_int), (48, sg_slices_pdqsortOrdered_int_Nil), (59, sg_slices_insertionSortOrdered_int), (74, sg_slices_Sort_string_string), (86, sg_slices_pdqsortOrdered_string_Nil), (91, sg_slices_insertionSortOrdered_string), (73, sg_slices_Collect_string)] }) (plans := []) hm Try.func55 rfl rfl fun xs => by kernel_rfl
def t_slices_Values_string_string (xs : List PV) : T PV :=
.l (.okc 1 false) [(n xs 0)] fun x0 =>
.ret (.fn F.slices_Values_string_string_1 [] [(.box x0)])
theorem k_slices_Values_string_string : TxOk P F.slices_Values_string_string 1 t_slices_Values_string_string := txOk_of (H := {}) (plans := []) hm Try.func56 rfl rfl fun xs => by kernel_rfl
def t_head_prios_1 (xs : List PV) : T PV :=
.l (.unbox 1 false) [(n xs 1)] fun x0 =>
.l .len [x0] fun x1 =>
.loop [(i 0)] fun y2 =>
.l (.cmp .lss .i64) [(n y2 0), x1] fun x3 =>
.ite x3 (
 .l (.idx 2 true) [x0, (n y2 0)] fun x4 =>
 .l (.okc 2 true) [x4] fun x5 =>
 .l (.unbox 1 true) [(n xs 2)] fun x6 =>
 .call F.head_Prio [x6, x5] fun x7 =>
 .l (.tc 0) [x7] fun x8 =>
 .l (.tc 1) [x7] fun x9 =>
 .ite x9 (
  .callv (n xs 0) [x8] fun x10 =>
  .l .bnot [x10] fun x11 =>
  .ite x11 (
   .ret (.tup [])) (
   .l (.arith .add .i64) [(n y2 0), (i 1)] fun x12 =>
   .cont 0 [x12])) (
  .l (.arith .add .i64) [(n y2 0), (i 1)] fun x10 =>
  .cont 0 [x10])) (
 .ret (.tup []))
theorem k_head_prios_1 : TxOk P F.head_prios_1 3 t_head_prios_1 := txOk_of (H := {}) (plans := []) hm Try.func57 rfl rfl fun xs => by kernel_rfl
def v_head_prios_1 (xs : List PV) : T PV :=
.l (.unbox 1 false) [(n xs 1)] fun x0 =>
.l .len [x0] fun x1 =>
.loop [(i 0), (n xs 3)] fun y2 =>
.l (.cmp .lss .i64) [(n y2 0), x1] fun x3 =>
.ite x3 (
 .l (.idx 2 true) [x0, (n y2 0)] fun x4 =>
 .l (.okc 2 true) [x4] fun x5 =>
 .l (.unbox 1 true) [(n xs 2)] fun x6 =>
 .call F.head_Prio [x6, x5] fun x7 =>
 .l (.tc 0) [x7] fun x8 =>
 .l (.tc 1) [x7] fun x9 =>
 .ite x9 (
  .yld [x8] (n y2 1) fun x10 s10 =>
  .l .bnot [x10] fun x11 =>
  .ite x11 (
   .ret (.tup [(.tup []), s10])) (
   .l (.arith .add .i64) [(n y2 0), (i 1)] fun x12 =>
   .cont 0 [x12, s10])) (
  .l (.arith .add .i64) [(n y2 0), (i 1)] fun x10 =>
  .cont 0 [x10, (n y2 1)])) (
 .ret (.tup [(.tup []), (n y2 1)]))
theorem x_head_prios_1 (X : Xt) (hX : XtC P X) : @TxOkX { l := gl.l, x := X } P F.head_prios_1 3 [0] v_head_prios_1 := @txOkX_of { l := gl.l, x := X } P (@XC.mk P { l := gl.l, x := X } hX) {} [] _ _ _ _ _ hm Try.func57 rfl rfl fun xs => by kernel_rfl
-- NOT TOLD: 59 slices.insertionSortOrdered[int]: 1
def u_slices_insertionSortOrdered_int (xs : List PV) : T PV :=
.l (.arith .add .i64) [(n xs 0), (i 1)] fun x0 =>
.loop [x0, (n xs 2)] fun y1 =>
.l (.cmp .lss .i64) [(n y1 0), (n xs 1)] fun x2 =>
.ite x2 (
 .loop [(n y1 0), (n y1 1)] fun y3 =>
 .l (.cmp .gtr .i64) [(n y3 0), (n xs 0)] fun x4 =>
 .ite x4 (
  .l (.idx 1 false) [(n y3 1), (n y3 0)] fun x5 =>
  .l (.idx 1 false) [(n y3 1), (n y3 0)] fun x6 =>
  .l (.arith .sub .i64) [(n y3 0), (i 1)] fun x7 =>
  .l (.idx 1 false) [(n y3 1), x7] fun x8 =>
  .l (.idx 1 false) [(n y3 1), x7] fun x9 =>
  .call F.cmp_Less_int [x6, x9] fun x10 =>
  .ite x10 (
   .l (.arith .sub .i64) [(n y3 0), (i 1)] fun x11 =>
   .l (.arith .sub .i64) [(n y3 0), (i 1)] fun x12 =>
   .l (.idx 1 false) [(n y3 1), x12] fun x13 =>
   .l (.idx 1 false) [(n y3 1), x12] fun x14 =>
   .l (.idx 1 false) [(n y3 1), (n y3 0)] fun x15 =>
   .l (.idx 1 false) [(n y3 1), (n y3 0)] fun x16 =>
   .l (.idx 1 false) [(n y3 1), (n y3 0)] fun x17 =>
   .l (.upd 1 false) [(n y3 1), (n y3 0), x14] fun x18 =>
   .l (.idx 1 false) [x18, x11] fun x19 =>
   .l (.upd 1 false) [x18, x11, x16] fun x20 =>
   .l (.arith .sub .i64) [(n y3 0), (i 1)] fun x21 =>
   .cont 1 [x21, x20]) (
   .l (.arith .add .i64) [(n y1 0), (i 1)] fun x11 =>
   .cont 0 [x11, (n y3 1)])) (
  .l (.arith .add .i64) [(n y1 0), (i 1)] fun x5 =>
  .cont 0 [x5, (n y3 1)])) (
 .ret (.tup [(.tup []), (n y1 1)]))
theorem m_slices_insertionSortOrdered_int : TxOkS P F.slices_insertionSortOrdered_int sg_slices_insertionSortOrdered_int u_slices_insertionSortOrdered_int := txOkS_of (H := { wr := [], ro := [], nl := [], fz := [], da := [], sigs := [(30, sg_graph_set_add), (31, sg_slices_Sort_int_int), (48, sg_slices_pdqsortOrdered_int_Nil), (59, sg_slices_insertionSortOrdered_int), (74, sg_slices_Sort_string_string), (86, sg_slices_pdqsortOrdered_string_Nil), (91, sg_slices_insertionSortOrdered_string)] }) (plans := []) hm Try.func59 rfl fun xs => by kernel_rfl
-- NOT TOLD: 60 slices.heapSortOrdered[int]: 1
-- NOT TOLD: 61 slices.breakPatternsOrdered[int]: 2
def t_slices_choosePivotOrdered_int (xs : List PV) : T PV :=
.l (.arith .sub .i64) [(n xs 2), (n xs 1)] fun x0 =>
.l (.arith .quo .i64) [x0, (i 4)] fun x1 =>
.l (.arith .mul .i64) [x1, (i 1)] fun x2 =>
.l (.arith .add .i64) [(n xs 1), x2] fun x3 =>
.l (.arith .quo .i64) [x0, (i 4)] fun x4 =>
.l (.arith .mul .i64) [x4, (i 2)] fun x5 =>
.l (.arith .add .i64) [(n xs 1), x5] fun x6 =>
.l (.arith .quo .i64) [x0, (i 4)] fun x7 =>
.l (.arith .mul .i64) [x7, (i 3)] fun x8 =>
.l (.arith .add .i64) [(n xs 1), x8] fun x9 =>
.l (.cmp .geq .i64) [x0, (i 8)] fun x10 =>
.ite x10 (
 .l (.cmp .geq .i64) [x0, (i 50)] fun x11 =>
 .ite x11 (
  .call F.slices_medianAdjacentOrdered_int [(n xs 0), x3, (.box (i 0))] fun x12 =>
  .call F.slices_medianAdjacentOrdered_int [(n xs 0), x6, (.box (i 0))] fun x13 =>
  .call F.slices_medianAdjacentOrdered_int [(n xs 0), x9, (.box (i 0))] fun x14 =>
  .call F.slices_medianOrdered_int [(n xs 0), x12, x13, x14, (.box (i 0))] fun x15 =>
  .l (.cmp .eql .i64) [(i 0), (i 0)] fun x16 =>
  .ite x16 (
   .ret (.tup [x15, (i 1)])) (
   .l (.cmp .eql .i64) [(i 0), (i 12)] fun x17 =>
   .ite x17 (
    .ret (.tup [x15, (i 2)])) (
    .ret (.tup [x15, (i 0)])))) (
  .call F.slices_medianOrdered_int [(n xs 0), x3, x6, x9, (.box (i 0))] fun x12 =>
  .l (.cmp .eql .i64) [(i 0), (i 0)] fun x13 =>
  .ite x13 (
   .ret (.tup [x12, (i 1)])) (
   .l (.cmp .eql .i64) [(i 0), (i 12)] fun x14 =>
   .ite x14 (
    .ret (.tup [x12, (i 2)])) (
    .ret (.tup [x12, (i 0)]))))) (
 .l (.cmp .eql .i64) [(i 0), (i 0)] fun x11 =>
 .ite x11 (
  .ret (.tup [x6, (i 1)])) (
  .l (.cmp .eql .i64) [(i 0), (i 12)] fun x12 =>
  .ite x12 (
   .ret (.tup [x6, (i 2)])) (
   .ret (.tup [x6, (i 0)]))))
theorem k_slices_choosePivotOrdered_int : TxOk P F.slices_choosePivotOrdered_int 3 t_slices_choosePivotOrdered_int := txOk_of (H := {}) (plans := []) hm Try.func62 rfl rfl fun xs => by kernel_rfl
-- NOT TOLD: 63 slices.reverseRangeOrdered[int]: 1
-- NOT TOLD: 64 slices.partialInsertionSortOrdered[int]: 2
def t_cmp_Less_int (xs : List PV) : T PV :=
.call F.cmp_isNaN_int [(n xs 0)] fun x0 =>
.ite x0 (
 .call F.cmp_isNaN_int [(n xs 1)] fun x1 =>
 .l .bnot [x1] fun x2 =>
 .ite x2 (
  .ret (.bool true)) (
  .l (.cmp .lss .i64) [(n xs 0), (n xs 1)] fun x3 =>
  .ret x3)) (
 .l (.cmp .lss .i64) [(n xs 0), (n xs 1)] fun x1 =>
 .ret x1)
theorem k_cmp_Less_int : TxOk P F.cmp_Less_int 2 t_cmp_Less_int := txOk_of (H := {}) (plans := []) hm Try.func65 rfl rfl fun xs => by kernel_rfl
-- NOT TOLD: 66 slices.partitionEqualOrdered[int]: 1
-- NOT TOLD: 67 slices.partitionOrdered[int]: 1
def t_math_bits_Len32 (xs : List PV) : T PV :=
.l (.cmp .geq .u32) [(n xs 0), (.int .u32 (65536))] fun x0 =>
.ite x0 (
 .l (.arith .shr .u32) [(n xs 0), (.int .u64 (16))] fun x1 =>
 .l (.cmp .geq .u32) [x1, (.int .u32 (256))] fun x2 =>
 .ite x2 (
  .l (.arith .shr .u32) [x1, (.int .u64 (8))] fun x3 =>
  .l (.arith .add .i64) [(i 16), (i 8)] fun x4 =>
  .l (.conv .u8) [x3] fun x5 =>
  .l .sidx [(.str ⟨#[0, 1, 2, 2, 3, 3, 3, 3, 4, 4, 4, 4, 4, 4, 4, 4, 5, 5, 5, 5, 5, 5, 5, 5, 5, 5, 5, 5, 5, 5, 5, 5, 6, 6, 6, 6, 6, 6, 6, 6, 6, 6, 6, 6, 6, 6, 6, 6, 6, 6, 6, 6, 6, 6, 6, 6, 6, 6, 6, 6, 6, 6, 6, 6, 7, 7, 7, 7, 7, 7, 7, 7, 7, 7, 7, 7, 7, 7, 7, 7, 7, 7, 7, 7, 7, 7, 7, 7, 7, 7, 7, 7, 7, 7, 7, 7, 7, 7, 7, 7, 7, 7, 7, 7, 7, 7, 7, 7, 7, 7, 7, 7, 7, 7, 7, 7, 7, 7, 7, 7, 7, 7, 7, 7, 7, 7, 7, 7, 8, 8, 8, 8, 8, 8, 8, 8, 8, 8, 8, 8, 8, 8, 8, 8, 8, 8, 8, 8, 8, 8, 8, 8, 8, 8, 8, 8, 8, 8, 8, 8, 8, 8, 8, 8, 8, 8, 8, 8, 8, 8, 8, 8, 8, 8, 8, 8, 8, 8, 8, 8, 8, 8, 8, 8, 8, 8, 8, 8, 8, 8, 8, 8, 8, 8, 8, 8, 8, 8, 8, 8, 8, 8, 8, 8, 8, 8, 8, 8, 8, 8, 8, 8, 8, 8, 8, 8, 8, 8, 8, 8, 8, 8, 8, 8, 8, 8, 8, 8, 8, 8, 8, 8, 8, 8, 8, 8, 8, 8, 8, 8, 8, 8, 8, 8, 8, 8, 8, 8, 8, 8, 8, 8, 8, 8, 8, 8]⟩), x5] fun x6 =>
  .l (.conv .i64) [x6] fun x7 =>
  .l (.arith .add .i64) [x4, x7] fun x8 =>
  .ret x8) (
  .l (.conv .u8) [x1] fun x3 =>
  .l .sidx [(.str ⟨#[0, 1, 2, 2, 3, 3, 3, 3, 4, 4, 4, 4, 4, 4, 4, 4, 5, 5, 5, 5, 5, 5, 5, 5, 5, 5, 5, 5, 5, 5, 5, 5, 6, 6, 6, 6, 6, 6, 6, 6, 6, 6, 6, 6, 6, 6, 6, 6, 6, 6, 6, 6, 6, 6, 6, 6, 6, 6, 6, 6, 6, 6, 6, 6, 7, 7, 7, 7, 7, 7, 7, 7, 7, 7, 7, 7, 7, 7, 7, 7, 7, 7, 7, 7, 7, 7, 7, 7, 7, 7, 7, 7, 7, 7, 7, 7, 7, 7, 7, 7, 7, 7, 7, 7, 7, 7, 7, 7, 7, 7, 7, 7, 7, 7, 7, 7, 7, 7, 7, 7, 7, 7, 7, 7, 7, 7, 7, 7, 8, 8, 8, 8, 8, 8, 8, 8, 8, 8, 8, 8, 8, 8, 8, 8, 8, 8, 8, 8, 8, 8, 8, 8, 8, 8, 8, 8, 8, 8, 8, 8, 8, 8, 8, 8, 8, 8, 8, 8, 8, 8, 8, 8, 8, 8, 8, 8, 8, 8, 8, 8, 8, 8, 8, 8, 8, 8, 8, 8, 8, 8, 8, 8, 8, 8, 8, 8, 8, 8, 8, 8, 8, 8, 8, 8, 8, 8, 8, 8, 8, 8, 8, 8, 8, 8, 8, 8, 8, 8, 8, 8, 8, 8, 8, 8, 8, 8, 8, 8, 8, 8, 8, 8, 8, 8, 8, 8, 8, 8, 8, 8, 8, 8, 8, 8, 8, 8, 8, 8, 8, 8, 8, 8, 8, 8, 8, 8]⟩), x3] fun x4 =>
  .l (.conv .i64) [x4] fun x5 =>
  .l (.arith .add .i64) [(i 16), x5] fun x6 =>
  .ret x6)) (
 .l (.cmp .geq .u32) [(n xs 0), (.int .u32 (256))] fun x1 =>
 .ite x1 (
  .l (.arith .shr .u32) [(n xs 0), (.int .u64 (8))] fun x2 =>
  .l (.arith .add .i64) [(i 0), (i 8)] fun x3 =>
  .l (.conv .u8) [x2] fun x4 =>
  .l .sidx [(.str ⟨#[0, 1, 2, 2, 3, 3, 3, 3, 4, 4, 4, 4, 4, 4, 4, 4, 5, 5, 5, 5, 5, 5, 5, 5, 5, 5, 5, 5, 5, 5, 5, 5, 6, 6, 6, 6, 6, 6, 6, 6, 6, 6, 6, 6, 6, 6, 6, 6, 6, 6, 6, 6, 6, 6, 6, 6, 6, 6, 6, 6, 6, 6, 6, 6, 7, 7, 7, 7, 7, 7, 7, 7, 7, 7, 7, 7, 7, 7, 7, 7, 7, 7, 7, 7, 7, 7, 7, 7, 7, 7, 7, 7, 7, 7, 7, 7, 7, 7, 7, 7, 7, 7, 7, 7, 7, 7, 7, 7, 7, 7, 7, 7, 7, 7, 7, 7, 7, 7, 7, 7, 7, 7, 7, 7, 7, 7, 7, 7, 8, 8, 8, 8, 8, 8, 8, 8, 8, 8, 8, 8, 8, 8, 8, 8, 8, 8, 8, 8, 8, 8, 8, 8, 8, 8, 8, 8, 8, 8, 8, 8, 8, 8, 8, 8, 8, 8, 8, 8, 8, 8, 8, 8, 8, 8, 8, 8, 8, 8, 8, 8, 8, 8, 8, 8, 8, 8, 8, 8, 8, 8, 8, 8, 8, 8, 8, 8, 8, 8, 8, 8, 8, 8, 8, 8, 8, 8, 8, 8, 8, 8, 8, 8, 8, 8, 8, 8, 8, 8, 8, 8, 8, 8, 8, 8, 8, 8, 8, 8, 8, 8, 8, 8, 8, 8, 8, 8, 8, 8, 8, 8, 8, 8, 8, 8, 8, 8, 8, 8, 8, 8, 8, 8, 8, 8, 8, 8]⟩), x4] fun x5 =>
  .l (.conv .i64) [x5] fun x6 =>
  .l (.arith .add .i64) [x3, x6] fun x7 =>
  .ret x7) (
  .l (.conv .u8) [(n xs 0)] fun x2 =>
  .l .sidx [(.str ⟨#[0, 1, 2, 2, 3, 3, 3, 3, 4, 4, 4, 4, 4, 4, 4, 4, 5, 5, 5, 5, 5, 5, 5, 5, 5, 5, 5, 5, 5, 5, 5, 5, 6, 6, 6, 6, 6, 6, 6, 6, 6, 6, 6, 6, 6, 6, 6, 6, 6, 6, 6, 6, 6, 6, 6, 6, 6, 6, 6, 6, 6, 6, 6, 6, 7, 7, 7, 7, 7, 7, 7, 7, 7, 7, 7, 7, 7, 7, 7, 7, 7, 7, 7, 7, 7, 7, 7, 7, 7, 7, 7, 7, 7, 7, 7, 7, 7, 7, 7, 7, 7, 7, 7, 7, 7, 7, 7, 7, 7, 7, 7, 7, 7, 7, 7, 7, 7, 7, 7, 7, 7, 7, 7, 7, 7, 7, 7, 7, 8, 8, 8, 8, 8, 8, 8, 8, 8, 8, 8, 8, 8, 8, 8, 8, 8, 8, 8, 8, 8, 8, 8, 8, 8, 8, 8, 8, 8, 8, 8, 8, 8, 8, 8, 8, 8, 8, 8, 8, 8, 8, 8, 8, 8, 8, 8, 8, 8, 8, 8, 8, 8, 8, 8, 8, 8, 8, 8, 8, 8, 8, 8, 8, 8, 8, 8, 8, 8, 8, 8, 8, 8, 8, 8, 8, 8, 8, 8, 8, 8, 8, 8, 8, 8, 8, 8, 8, 8, 8, 8, 8, 8, 8, 8, 8, 8, 8, 8, 8, 8, 8, 8, 8, 8, 8, 8, 8, 8, 8, 8, 8, 8, 8, 8, 8, 8, 8, 8, 8, 8, 8, 8, 8, 8, 8, 8, 8]⟩), x2] fun x3 =>
  .l (.conv .i64) [x3] fun x4 =>
  .l (.arith .add .i64) [(i 0), x4] fun x5 =>
  .ret x5))
theorem k_math_bits_Len32 : TxOk P F.math_bits_Len32 1 t_math_bits_Len32 := txOk_of (H := {}) (plans := []) hm Try.func68 rfl rfl fun xs => by kernel_rfl
def t_math_bits_Len64 (xs : List PV) : T PV :=
.l (.cmp .geq .u64) [(n xs 0), (.int .u64 (4294967296))] fun x0 =>
.ite x0 (
 .l (.arith .shr .u64) [(n xs 0), (.int .u64 (32))] fun x1 =>
 .l (.cmp .geq .u64) [x1, (.int .u64 (65536))] fun x2 =>
 .ite x2 (
  .l (.arith .shr .u64) [x1, (.int .u64 (16))] fun x3 =>
  .l (.arith .add .i64) [(i 32), (i 16)] fun x4 =>
  .l (.cmp .geq .u64) [x3, (.int .u64 (256))] fun x5 =>
  .ite x5 (
   .l (.arith .shr .u64) [x3, (.int .u64 (8))] fun x6 =>
   .l (.arith .add .i64) [x4, (i 8)] fun x7 =>
   .l (.conv .u8) [x6] fun x8 =>
   .l .sidx [(.str ⟨#[0, 1, 2, 2, 3, 3, 3, 3, 4, 4, 4, 4, 4, 4, 4, 4, 5, 5, 5, 5, 5, 5, 5, 5, 5, 5, 5, 5, 5, 5, 5, 5, 6, 6, 6, 6, 6, 6, 6, 6, 6, 6, 6, 6, 6, 6, 6, 6, 6, 6, 6, 6, 6, 6, 6, 6, 6, 6, 6, 6, 6, 6, 6, 6, 7, 7, 7, 7, 7, 7, 7, 7, 7, 7, 7, 7, 7, 7, 7, 7, 7, 7, 7, 7, 7, 7, 7, 7, 7, 7, 7, 7, 7, 7, 7, 7, 7, 7, 7, 7, 7, 7, 7, 7, 7, 7, 7, 7, 7, 7, 7, 7, 7, 7, 7, 7, 7, 7, 7, 7, 7, 7, 7, 7, 7, 7, 7, 7, 8, 8, 8, 8, 8, 8, 8, 8, 8, 8, 8, 8, 8, 8, 8, 8, 8, 8, 8, 8, 8, 8, 8, 8, 8, 8, 8, 8, 8, 8, 8, 8, 8, 8, 8, 8, 8, 8, 8, 8, 8, 8, 8, 8, 8, 8, 8, 8, 8, 8, 8, 8, 8, 8, 8, 8, 8, 8, 8, 8, 8, 8, 8, 8, 8, 8, 8, 8, 8, 8, 8, 8, 8, 8, 8, 8, 8, 8, 8, 8, 8, 8, 8, 8, 8, 8, 8, 8, 8, 8, 8, 8, 8, 8, 8, 8, 8, 8, 8, 8, 8, 8, 8, 8, 8, 8, 8, 8, 8, 8, 8, 8, 8, 8, 8, 8, 8, 8, 8, 8, 8, 8, 8, 8, 8, 8, 8, 8]⟩), x8] fun x9 =>
   .l (.conv .i64) [x9] fun x10 =>
   .l (.arith .add .i64) [x7, x10] fun x11 =>
   .ret x11) (
   .l (.conv .u8) [x3] fun x6 =>
   .l .sidx [(.str ⟨#[0, 1, 2, 2, 3, 3, 3, 3, 4, 4, 4, 4, 4, 4, 4, 4, 5, 5, 5, 5, 5, 5, 5, 5, 5, 5, 5, 5, 5, 5, 5, 5, 6, 6, 6, 6, 6, 6, 6, 6, 6, 6, 6, 6, 6, 6, 6, 6, 6, 6, 6, 6, 6, 6, 6, 6, 6, 6, 6, 6, 6, 6, 6, 6, 7, 7, 7, 7, 7, 7, 7, 7, 7, 7, 7, 7, 7, 7, 7, 7, 7, 7, 7, 7, 7, 7, 7, 7, 7, 7, 7, 7, 7, 7, 7, 7, 7, 7, 7, 7, 7, 7, 7, 7, 7, 7, 7, 7, 7, 7, 7, 7, 7, 7, 7, 7, 7, 7, 7, 7, 7, 7, 7, 7, 7, 7, 7, 7, 8, 8, 8, 8, 8, 8, 8, 8, 8, 8, 8, 8, 8, 8, 8, 8, 8, 8, 8, 8, 8, 8, 8, 8, 8, 8, 8, 8, 8, 8, 8, 8, 8, 8, 8, 8, 8, 8, 8, 8, 8, 8, 8, 8, 8, 8, 8, 8, 8, 8, 8, 8, 8, 8, 8, 8, 8, 8, 8, 8, 8, 8, 8, 8, 8, 8, 8, 8, 8, 8, 8, 8, 8, 8, 8, 8, 8, 8, 8, 8, 8, 8, 8, 8, 8, 8, 8, 8, 8, 8, 8, 8, 8, 8, 8, 8, 8, 8, 8, 8, 8, 8, 8, 8, 8, 8, 8, 8, 8, 8, 8, 8, 8, 8, 8, 8, 8, 8, 8, 8, 8, 8, 8, 8, 8, 8, 8, 8]⟩), x6] fun x7 =>
   .l (.conv .i64) [x7] fun x8 =>
   .l (.arith .add .i64) [x4, x8] fun x9 =>
   .ret x9)) (
  .l (.cmp .geq .u64) [x1, (.int .u64 (256))] fun x3 =>
  .ite x3 (
   .l (.arith .shr .u64) [x1, (.int .u64 (8))] fun x4 =>
   .l (.arith .add .i64) [(i 32), (i 8)] fun x5 =>
   .l (.conv .u8) [x4] fun x6 =>
   .l .sidx [(.str ⟨#[0, 1, 2, 2, 3, 3, 3, 3, 4, 4, 4, 4, 4, 4, 4, 4, 5, 5, 5, 5, 5, 5, 5, 5, 5, 5, 5, 5, 5, 5, 5, 5, 6, 6, 6, 6, 6, 6, 6, 6, 6, 6, 6, 6, 6, 6, 6, 6, 6, 6, 6, 6, 6, 6, 6, 6, 6, 6, 6, 6, 6, 6, 6, 6, 7, 7, 7, 7, 7, 7, 7, 7, 7, 7, 7, 7, 7, 7, 7, 7, 7, 7, 7, 7, 7, 7, 7, 7, 7, 7, 7, 7, 7, 7, 7, 7, 7, 7, 7, 7, 7, 7, 7, 7, 7, 7, 7, 7, 7, 7, 7, 7, 7, 7, 7, 7, 7, 7, 7, 7, 7, 7, 7, 7, 7, 7, 7, 7, 8, 8, 8, 8, 8, 8, 8, 8, 8, 8, 8, 8, 8, 8, 8, 8, 8, 8, 8, 8, 8, 8, 8, 8, 8, 8, 8, 8, 8, 8, 8, 8, 8, 8, 8, 8, 8, 8, 8, 8, 8, 8, 8, 8, 8, 8, 8, 8, 8, 8, 8, 8, 8, 8, 8, 8, 8, 8, 8, 8, 8, 8, 8, 8, 8, 8, 8, 8, 8, 8, 8, 8, 8, 8, 8, 8, 8, 8, 8, 8, 8, 8, 8, 8, 8, 8, 8, 8, 8, 8, 8, 8, 8, 8, 8, 8, 8, 8, 8, 8, 8, 8, 8, 8, 8, 8, 8, 8, 8, 8, 8, 8, 8, 8, 8, 8, 8, 8, 8, 8, 8, 8, 8, 8, 8, 8, 8, 8]⟩), x6] fun x7 =>
   .l (.conv .i64) [x7] fun x8 =>
   .l (.arith .add .i64) [x5, x8] fun x9 =>
   .ret x9) (
   .l (.conv .u8) [x1] fun x4 =>
   .l .sidx [(.str ⟨#[0, 1, 2, 2, 3, 3, 3, 3, 4, 4, 4, 4, 4, 4, 4, 4, 5, 5, 5, 5, 5, 5, 5, 5, 5, 5, 5, 5, 5, 5, 5, 5, 6, 6, 6, 6, 6, 6, 6, 6, 6, 6, 6, 6, 6, 6, 6, 6, 6, 6, 6, 6, 6, 6, 6, 6, 6, 6, 6, 6, 6, 6, 6, 6, 7, 7, 7, 7, 7, 7, 7, 7, 7, 7, 7, 7, 7, 7, 7, 7, 7, 7, 7, 7, 7, 7, 7, 7, 7, 7, 7, 7, 7, 7, 7, 7, 7, 7, 7, 7, 7, 7, 7, 7, 7, 7, 7, 7, 7, 7, 7, 7, 7, 7, 7, 7, 7, 7, 7, 7, 7, 7, 7, 7, 7, 7, 7, 7, 8, 8, 8, 8, 8, 8, 8, 8, 8, 8, 8, 8, 8, 8, 8, 8, 8, 8, 8, 8, 8, 8, 8, 8, 8, 8, 8, 8, 8, 8, 8, 8, 8, 8, 8, 8, 8, 8, 8, 8, 8, 8, 8, 8, 8, 8, 8, 8, 8, 8, 8, 8, 8, 8, 8, 8, 8, 8, 8, 8, 8, 8, 8, 8, 8, 8, 8, 8, 8, 8, 8, 8, 8, 8, 8, 8, 8, 8, 8, 8, 8, 8, 8, 8, 8, 8, 8, 8, 8, 8, 8, 8, 8, 8, 8, 8, 8, 8, 8, 8, 8, 8, 8, 8, 8, 8, 8, 8, 8, 8, 8, 8, 8, 8, 8, 8, 8, 8, 8, 8, 8, 8, 8, 8, 8, 8, 8, 8]⟩), x4] fun x5 =>
   .l (.conv .i64) [x5] fun x6 =>
   .l (.arith .add .i64) [(i 32), x6] fun x7 =>
   .ret x7))) (
 .l (.cmp .geq .u64) [(n xs 0), (.int .u64 (65536))] fun x1 =>
 .ite x1 (
  .l (.arith .shr .u64) [(n xs 0), (.int .u64 (16))] fun x2 =>
  .l (.arith .add .i64) [(i 0), (i 16)] fun x3 =>
  .l (.cmp .geq .u64) [x2, (.int .u64 (256))] fun x4 =>
  .ite x4 (
   .l (.arith .shr .u64) [x2, (.int .u64 (8))] fun x5 =>
   .l (.arith .add .i64) [x3, (i 8)] fun x6 =>
   .l (.conv .u8) [x5] fun x7 =>
   .l .sidx [(.str ⟨#[0, 1, 2, 2, 3, 3, 3, 3, 4, 4, 4, 4, 4, 4, 4, 4, 5, 5, 5, 5, 5, 5, 5, 5, 5, 5, 5, 5, 5, 5, 5, 5, 6, 6, 6, 6, 6, 6, 6, 6, 6, 6, 6, 6, 6, 6, 6, 6, 6, 6, 6, 6, 6, 6, 6, 6, 6, 6, 6, 6, 6, 6, 6, 6, 7, 7, 7, 7, 7, 7, 7, 7, 7, 7, 7, 7, 7, 7, 7, 7, 7, 7, 7, 7, 7, 7, 7, 7, 7, 7, 7, 7, 7, 7, 7, 7, 7, 7, 7, 7, 7, 7, 7, 7, 7, 7, 7, 7, 7, 7, 7, 7, 7, 7, 7, 7, 7, 7, 7, 7, 7, 7, 7, 7, 7, 7, 7, 7, 8, 8, 8, 8, 8, 8, 8, 8, 8, 8, 8, 8, 8, 8, 8, 8, 8, 8, 8, 8, 8, 8, 8, 8, 8, 8, 8, 8, 8, 8, 8, 8, 8, 8, 8, 8, 8, 8, 8, 8, 8, 8, 8, 8, 8, 8, 8, 8, 8, 8, 8, 8, 8, 8, 8, 8, 8, 8, 8, 8, 8, 8, 8, 8, 8, 8, 8, 8, 8, 8, 8, 8, 8, 8, 8, 8, 8, 8, 8, 8, 8, 8, 8, 8, 8, 8, 8, 8, 8, 8, 8, 8, 8, 8, 8, 8, 8, 8, 8, 8, 8, 8, 8, 8, 8, 8, 8, 8, 8, 8, 8, 8, 8, 8, 8, 8, 8, 8, 8, 8, 8, 8, 8, 8, 8, 8, 8, 8]⟩), x7] fun x8 =>
   .l (.conv .i64) [x8] fun x9 =>
   .l (.arith .add .i64) [x6, x9] fun x10 =>
   .ret x10) (
   .l (.conv .u8) [x2] fun x5 =>
   .l .sidx [(.str ⟨#[0, 1, 2, 2, 3, 3, 3, 3, 4, 4, 4, 4, 4, 4, 4, 4, 5, 5, 5, 5, 5, 5, 5, 5, 5, 5, 5, 5, 5, 5, 5, 5, 6, 6, 6, 6, 6, 6, 6, 6, 6, 6, 6, 6, 6, 6, 6, 6, 6, 6, 6, 6, 6, 6, 6, 6, 6, 6, 6, 6, 6, 6, 6, 6, 7, 7, 7, 7, 7, 7, 7, 7, 7, 7, 7, 7, 7, 7, 7, 7, 7, 7, 7, 7, 7, 7, 7, 7, 7, 7, 7, 7, 7, 7, 7, 7, 7, 7, 7, 7, 7, 7, 7, 7, 7, 7, 7, 7, 7, 7, 7, 7, 7, 7, 7, 7, 7, 7, 7, 7, 7, 7, 7, 7, 7, 7, 7, 7, 8, 8, 8, 8, 8, 8, 8, 8, 8, 8, 8, 8, 8, 8, 8, 8, 8, 8, 8, 8, 8, 8, 8, 8, 8, 8, 8, 8, 8, 8, 8, 8, 8, 8, 8, 8, 8, 8, 8, 8, 8, 8, 8, 8, 8, 8, 8, 8, 8, 8, 8, 8, 8, 8, 8, 8, 8, 8, 8, 8, 8, 8, 8, 8, 8, 8, 8, 8, 8, 8, 8, 8, 8, 8, 8, 8, 8, 8, 8, 8, 8, 8, 8, 8, 8, 8, 8, 8, 8, 8, 8, 8, 8, 8, 8, 8, 8, 8, 8, 8, 8, 8, 8, 8, 8, 8, 8, 8, 8, 8, 8, 8, 8, 8, 8, 8, 8, 8, 8, 8, 8, 8, 8, 8, 8, 8, 8, 8]⟩), x5] fun x6 =>
   .l (.conv .i64) [x6] fun x7 =>
   .l (.arith .add .i64) [x3, x7] fun x8 =>
   .ret x8)) (
  .l (.cmp .geq .u64) [(n xs 0), (.int .u64 (256))] fun x2 =>
  .ite x2 (
   .l (.arith .shr .u64) [(n xs 0), (.int .u64 (8))] fun x3 =>
   .l (.arith .add .i64) [(i 0), (i 8)] fun x4 =>
   .l (.conv .u8) [x3] fun x5 =>
   .l .sidx [(.str ⟨#[0, 1, 2, 2, 3, 3, 3, 3, 4, 4, 4, 4, 4, 4, 4, 4, 5, 5, 5, 5, 5, 5, 5, 5, 5, 5, 5, 5, 5, 5, 5, 5, 6, 6, 6, 6, 6, 6, 6, 6, 6, 6, 6, 6, 6, 6, 6, 6, 6, 6, 6, 6, 6, 6, 6, 6, 6, 6, 6, 6, 6, 6, 6, 6, 7, 7, 7, 7, 7, 7, 7, 7, 7, 7, 7, 7, 7, 7, 7, 7, 7, 7, 7, 7, 7, 7, 7, 7, 7, 7, 7, 7, 7, 7, 7, 7, 7, 7, 7, 7, 7, 7, 7, 7, 7, 7, 7, 7, 7, 7, 7, 7, 7, 7, 7, 7, 7, 7, 7, 7, 7, 7, 7, 7, 7, 7, 7, 7, 8, 8, 8, 8, 8, 8, 8, 8, 8, 8, 8, 8, 8, 8, 8, 8, 8, 8, 8, 8, 8, 8, 8, 8, 8, 8, 8, 8, 8, 8, 8, 8, 8, 8, 8, 8, 8, 8, 8, 8, 8, 8, 8, 8, 8, 8, 8, 8, 8, 8, 8, 8, 8, 8, 8, 8, 8, 8, 8, 8, 8, 8, 8, 8, 8, 8, 8, 8, 8, 8, 8, 8, 8, 8, 8, 8, 8, 8, 8, 8, 8, 8, 8, 8, 8, 8, 8, 8, 8, 8, 8, 8, 8, 8, 8, 8, 8, 8, 8, 8, 8, 8, 8, 8, 8, 8, 8, 8, 8, 8, 8, 8, 8, 8, 8, 8, 8, 8, 8, 8, 8, 8, 8, 8, 8, 8, 8, 8]⟩), x5] fun x6 =>
   .l (.conv .i64) [x6] fun x7 =>
   .l (.arith .add .i64) [x4, x7] fun x8 =>
   .ret x8) (
   .l (.conv .u8) [(n xs 0)] fun x3 =>
   .l .sidx [(.str ⟨#[0, 1, 2, 2, 3, 3, 3, 3, 4, 4, 4, 4, 4, 4, 4, 4, 5, 5, 5, 5, 5, 5, 5, 5, 5, 5, 5, 5, 5, 5, 5, 5, 6, 6, 6, 6, 6, 6, 6, 6, 6, 6, 6, 6, 6, 6, 6, 6, 6, 6, 6, 6, 6, 6, 6, 6, 6, 6, 6, 6, 6, 6, 6, 6, 7, 7, 7, 7, 7, 7, 7, 7, 7, 7, 7, 7, 7, 7, 7, 7, 7, 7, 7, 7, 7, 7, 7, 7, 7, 7, 7, 7, 7, 7, 7, 7, 7, 7, 7, 7, 7, 7, 7, 7, 7, 7, 7, 7, 7, 7, 7, 7, 7, 7, 7, 7, 7, 7, 7, 7, 7, 7, 7, 7, 7, 7, 7, 7, 8, 8, 8, 8, 8, 8, 8, 8, 8, 8, 8, 8, 8, 8, 8, 8, 8, 8, 8, 8, 8, 8, 8, 8, 8, 8, 8, 8, 8, 8, 8, 8, 8, 8, 8, 8, 8, 8, 8, 8, 8, 8, 8, 8, 8, 8, 8, 8, 8, 8, 8, 8, 8, 8, 8, 8, 8, 8, 8, 8, 8, 8, 8, 8, 8, 8, 8, 8, 8, 8, 8, 8, 8, 8, 8, 8, 8, 8, 8, 8, 8, 8, 8, 8, 8, 8, 8, 8, 8, 8, 8, 8, 8, 8, 8, 8, 8, 8, 8, 8, 8, 8, 8, 8, 8, 8, 8, 8, 8, 8, 8, 8, 8, 8, 8, 8, 8, 8, 8, 8, 8, 8, 8, 8, 8, 8, 8, 8]⟩), x3] fun x4 =>
   .l (.conv .i64) [x4] fun x5 =>
   .l (.arith .add .i64) [(i 0), x5] fun x6 =>
   .ret x6)))
theorem k_math_bits_Len64 : TxOk P F.math_bits_Len64 1 t_math_bits_Len64 := txOk_of (H := {}) (plans := []) hm Try.func69 rfl rfl fun xs => by kernel_rfl
def t_ref02_prio (xs : List PV) : T PV :=
.l (.cmp .geq .i64) [(n xs 0), (i 0)] fun x0 =>
.ite x0 (
 .l (.cmp .leq .i64) [(n xs 0), (i 1000000)] fun x1 =>
 .ret x1) (
 .ret (.bool false))
theorem k_ref02_prio : TxOk P F.ref02_prio 1 t_ref02_prio := txOk_of (H := {}) (plans := []) hm Try.func70 rfl rfl fun xs => by kernel_rfl
def t_ref02_Labels (xs : List PV) : T PV :=
.loop [(i 0)] fun y0 =>
.l .len [(n xs 0)] fun x1 =>
.l (.cmp .lss .i64) [(n y0 0), x1] fun x2 =>
.ite x2 (
 .l (.idx 1 false) [(n xs 0), (n y0 0)] fun x3 =>
 .call F.ref01_Name [x3] fun x4 =>
 .l .bnot [x4] fun x5 =>
 .ite x5 (
  .ret (.bool false)) (
  .l (.idx 1 false) [(n xs 0), (n y0 0)] fun x6 =>
  .l (.slcT 1 false) [(n xs 0), (n y0 0)] fun x7 =>
  .call F.ref02_in [x6, x7] fun x8 =>
  .ite x8 (
   .ret (.bool false)) (
   .l (.arith .add .i64) [(n y0 0), (i 1)] fun x9 =>
   .cont 0 [x9]))) (
 .ret (.bool true))
theorem k_ref02_Labels : TxOk P F.ref02_Labels 1 t_ref02_Labels := txOk_of (H := {}) (plans := []) hm Try.func71 rfl rfl fun xs => by kernel_rfl
def t_ref01_Name (xs : List PV) : T PV :=
.call F.ref01_Word [(n xs 0)] fun x0 =>
.ite x0 (
 .call F.ref01_Keyword [(n xs 0)] fun x1 =>
 .l .bnot [x1] fun x2 =>
 .ret x2) (
 .ret (.bool false))
theorem k_ref01_Name : TxOk P F.ref01_Name 1 t_ref01_Name := txOk_of (H := {}) (plans := []) hm Try.func72 rfl rfl fun xs => by kernel_rfl
def t_slices_Collect_string (xs : List PV) : T PV :=
.calls F.slices_AppendSeq_string_string sg_slices_AppendSeq_string_string [(n xs 0)] fun z0 =>
.ret (n z0 0)
theorem k_slices_Collect_string : TxOk P F.slices_Collect_string 1 t_slices_Collect_string := txOk_of (H := { wr := [], ro := [], nl := [], fz := [], da := [], sigs := [(85, sg_slices_AppendSeq_string_string)] }) (plans := []) hm Try.func73 rfl rfl fun xs => by kernel_rfl
def u_slices_Collect_string (xs : List PV) : T PV :=
.calls F.slices_AppendSeq_string_string sg_slices_AppendSeq_string_string [(n xs 0)] fun z0 =>
.ret (.tup [(n z0 0)])
theorem m_slices_Collect_string : TxOkS P F.slices_Collect_string sg_slices_Collect_string u_slices_Collect_string := txOkS_of (H := { wr := [], ro := [], nl := [], fz := [], da := [], sigs := [(85, sg_slices_AppendSeq_string_string)] }) (plans := []) hm Try.func73 rfl fun xs => by kernel_rfl
def t_slices_Sort_string_string (xs : List PV) : T PV :=
.l .len [(n xs 0)] fun x0 =>
.l (.conv .u64) [x0] fun x1 =>
.call F.math_bits_Len [x1] fun x2 =>
.call F.slices_pdqsortOrdered_string [(n xs 0), (i 0), x0, x2] fun x3 =>
.ret (.tup [])
theorem k_slices_Sort_string_string : TxOk P F.slices_Sort_string_string 1 t_slices_Sort_string_string := txOk_of (H := {}) (plans := []) hm Try.func74 rfl rfl fun xs => by kernel_rfl
def u_slices_Sort_string_string (xs : List PV) : T PV :=
.l .len [(n xs 0)] fun x0 =>
.l (.conv .u64) [x0] fun x1 =>
.call F.math_bits_Len [x1] fun x2 =>
.calls F.slices_pdqsortOrdered_string sg_slices_pdqsortOrdered_string_Nil [(i 0), x0, x2, (n xs 0)] fun z3 =>
.ret (.tup [(.tup []), (n z3 1)])
theorem m_slices_Sort_string_string : TxOkS P F.slices_Sort_string_string sg_slices_Sort_string_string u_slices_Sort_string_string := txOkS_of (H := { wr := [], ro := [], nl := [], fz := [], da := [], sigs := [(30, sg_graph_set_add), (31, sg_slices_Sort_int_int), (48, sg_slices_pdqsortOrdered_int_Nil), (59, sg_slices_insertionSortOrdered_int), (74, sg_slices_Sort_string_string), (86, sg_slices_pdqsortOrdered_string_Nil), (91, sg_slices_insertionSortOrdered_string)] }) (plans := []) hm Try.func74 rfl fun xs => by kernel_rfl
def t_slices_Values_string_string_1 (xs : List PV) : T PV :=
.l (.unbox 1 false) [(n xs 1)] fun x0 =>
.l .len [x0] fun x1 =>
.loop [(i 0)] fun y2 =>
.l (.cmp .lss .i64) [(n y2 0), x1] fun x3 =>
.ite x3 (
 .l (.idx 1 false) [x0, (n y2 0)] fun x4 =>
 .callv (n xs 0) [x4] fun x5 =>
 .l .bnot [x5] fun x6 =>
 .ite x6 (
  .ret (.tup [])) (
  .l (.arith .add .i64) [(n y2 0), (i 1)] fun x7 =>
  .cont 0 [x7])) (
 .ret (.tup []))
theorem k_slices_Values_string_string_1 : TxOk P F.slices_Values_string_string_1 2 t_slices_Values_string_string_1 := txOk_of (H := {}) (plans := []) hm Try.func75 rfl rfl fun xs => by kernel_rfl
def v_slices_Values_string_string_1 (xs : List PV) : T PV :=
.l (.unbox 1 false) [(n xs 1)] fun x0 =>
.l .len [x0] fun x1 =>
.loop [(i 0), (n xs 2)] fun y2 =>
.l (.cmp .lss .i64) [(n y2 0), x1] fun x3 =>
.ite x3 (
 .l (.idx 1 false) [x0, (n y2 0)] fun x4 =>
 .yld [x4] (n y2 1) fun x5 s5 =>
 .l .bnot [x5] fun x6 =>
 .ite x6 (
  .ret (.tup [(.tup []), s5])) (
  .l (.arith .add .i64) [(n y2 0), (i 1)] fun x7 =>
  .cont 0 [x7, s5])) (
 .ret (.tup [(.tup []), (n y2 1)]))
theorem x_slices_Values_string_string_1 (X : Xt) (hX : XtC P X) : @TxOkX { l := gl.l, x := X } P F.slices_Values_string_string_1 2 [0] v_slices_Values_string_string_1 := @txOkX_of { l := gl.l, x := X } P (@XC.mk P { l := gl.l, x := X } hX) {} [] _ _ _ _ _ hm Try.func75 rfl rfl fun xs => by kernel_rfl
-- NOT TOLD: 76 slices.siftDownOrdered[int]: 3
def t_slices_nextPowerOfTwo (xs : List PV) : T PV :=
.l (.conv .u64) [(n xs 0)] fun x0 =>
.call F.math_bits_Len [x0] fun x1 =>
.l (.arith .shl .u64) [(.int .u64 (1)), x1] fun x2 =>
.ret x2
theorem k_slices_nextPowerOfTwo : TxOk P F.slices_nextPowerOfTwo 1 t_slices_nextPowerOfTwo := txOk_of (H := {}) (plans := []) hm Try.func77 rfl rfl fun xs => by kernel_rfl
-- NOT TOLD: 78 (*slices.xorshift).Next: 1
def t_slices_medianAdjacentOrdered_int (xs : List PV) : T PV :=
.l (.arith .sub .i64) [(n xs 1), (i 1)] fun x0 =>
.l (.arith .add .i64) [(n xs 1), (i 1)] fun x1 =>
.call F.slices_medianOrdered_int [(n xs 0), x0, (n xs 1), x1, (n xs 2)] fun x2 =>
.ret x2
theorem k_slices_medianAdjacentOrdered_int : TxOk P F.slices_medianAdjacentOrdered_int 3 t_slices_medianAdjacentOrdered_int := txOk_of (H := {}) (plans := []) hm Try.func79 rfl rfl fun xs => by kernel_rfl
def t_slices_medianOrdered_int (xs : List PV) : T PV :=
.call F.slices_order2Ordered_int [(n xs 0), (n xs 1), (n xs 2), (n xs 4)] fun x0 =>
.l (.tc 0) [x0] fun x1 =>
.l (.tc 1) [x0] fun x2 =>
.call F.slices_order2Ordered_int [(n xs 0), x2, (n xs 3), (n xs 4)] fun x3 =>
.l (.tc 0) [x3] fun x4 =>
.l (.tc 1) [x3] fun x5 =>
.call F.slices_order2Ordered_int [(n xs 0), x1, x4, (n xs 4)] fun x6 =>
.l (.tc 0) [x6] fun x7 =>
.l (.tc 1) [x6] fun x8 =>
.ret x8
theorem k_slices_medianOrdered_int : TxOk P F.slices_medianOrdered_int 5 t_slices_medianOrdered_int := txOk_of (H := {}) (plans := []) hm Try.func80 rfl rfl fun xs => by kernel_rfl
def t_cmp_isNaN_int (xs : List PV) : T PV :=
.l (.cmp .neq .i64) [(n xs 0), (n xs 0)] fun x0 =>
.ret x0
theorem k_cmp_isNaN_int : TxOk P F.cmp_isNaN_int 1 t_cmp_isNaN_int := txOk_of (H := {}) (plans := []) hm Try.func81 rfl rfl fun xs => by kernel_rfl
def t_ref02_in (xs : List PV) : T PV :=
.loop [(i 0)] fun y0 =>
.l .len [(n xs 1)] fun x1 =>
.l (.cmp .lss .i64) [(n y0 0), x1] fun x2 =>
.ite x2 (
 .l (.idx 1 false) [(n xs 1), (n y0 0)] fun x3 =>
 .l (.scmp .eql) [x3, (n xs 0)] fun x4 =>
 .ite x4 (
  .ret (.bool true)) (
  .l (.arith .add .i64) [(n y0 0), (i 1)] fun x5 =>
  .cont 0 [x5])) (
 .ret (.bool false))
theorem k_ref02_in : TxOk P F.ref02_in 2 t_ref02_in := txOk_of (H := {}) (plans := []) hm Try.func82 rfl rfl fun xs => by kernel_rfl
def t_ref01_Word (xs : List PV) : T PV :=
.l .slen [(n xs 0)] fun x0 =>
.l (.cmp .eql .i64) [x0, (i 0)] fun x1 =>
.ite x1 (
 .ret (.bool false)) (
 .l .sidx [(n xs 0), (i 0)] fun x2 =>
 .call F.ref01_Letters [] fun x3 =>
 .call F.ref01_in [x2, x3] fun x4 =>
 .l .bnot [x4] fun x5 =>
 .ite x5 (
  .ret (.bool false)) (
  .loop [(i 1)] fun y6 =>
  .l .slen [(n xs 0)] fun x7 =>
  .l (.cmp .lss .i64) [(n y6 0), x7] fun x8 =>
  .ite x8 (
   .l .sidx [(n xs 0), (n y6 0)] fun x9 =>
   .call F.ref01_Letters [] fun x10 =>
   .call F.ref01_in [x9, x10] fun x11 =>
   .l .bnot [x11] fun x12 =>
   .ite x12 (
    .l .sidx [(n xs 0), (n y6 0)] fun x13 =>
    .call F.ref01_digits [] fun x14 =>
    .call F.ref01_in [x13, x14] fun x15 =>
    .l .bnot [x15] fun x16 =>
    .ite x16 (
     .ret (.bool false)) (
     .l (.arith .add .i64) [(n y6 0), (i 1)] fun x17 =>
     .cont 0 [x17])) (
    .l (.arith .add .i64) [(n y6 0), (i 1)] fun x13 =>
    .cont 0 [x13])) (
   .ret (.bool true))))
theorem k_ref01_Word : TxOk P F.ref01_Word 1 t_ref01_Word := txOk_of (H := {}) (plans := []) hm Try.func83 rfl rfl fun xs => by kernel_rfl
def t_ref01_Keyword (xs : List PV) : T PV :=
.l (.lst 1 false) [(.str ⟨#[100, 101, 102]⟩), (.str ⟨#[109, 97, 105, 110]⟩), (.str ⟨#[115, 116, 111, 112]⟩), (.str ⟨#[110, 101, 119]⟩), (.str ⟨#[105, 110, 116]⟩), (.str ⟨#[98, 111, 111, 108]⟩), (.str ⟨#[101, 110, 100]⟩), (.str ⟨#[114, 101, 99]⟩), (.str ⟨#[116, 114, 117, 101]⟩), (.str ⟨#[102, 97, 108, 115, 101]⟩)] fun x0 =>
.loop [(i 0)] fun y1 =>
.l .len [x0] fun x2 =>
.l (.cmp .lss .i64) [(n y1 0), x2] fun x3 =>
.ite x3 (
 .l (.idx 1 false) [x0, (n y1 0)] fun x4 =>
 .l (.scmp .eql) [x4, (n xs 0)] fun x5 =>
 .ite x5 (
  .ret (.bool true)) (
  .l (.arith .add .i64) [(n y1 0), (i 1)] fun x6 =>
  .cont 0 [x6])) (
 .ret (.bool false))
theorem k_ref01_Keyword : TxOk P F.ref01_Keyword 1 t_ref01_Keyword := txOk_of (H := {}) (plans := []) hm Try.func84 rfl rfl fun xs => by kernel_rfl
-- NOT TOLD: 85 slices.AppendSeq[[]string,string]: 1
def u_slices_AppendSeq_string_string (xs : List PV) : T PV :=
.iter (n xs 0) 1 [(.sl [])] (fun e0 y0 =>
 .l (.lst 1 false) [(n e0 0)] fun x1 =>
 .l (.app 1 false 16) [(n y0 0), x1] fun x2 =>
 .cont 0 [x2]) (fun e0 y0 =>
 .l (.lst 1 false) [(n e0 0)] fun x1 =>
 .l (.app 1 false 16) [(n y0 0), x1] fun x2 =>
 .fail) fun y0 =>
.ret (.tup [(n y0 0)])
theorem m_slices_AppendSeq_string_string : TxOkS P F.slices_AppendSeq_string_string sg_slices_AppendSeq_string_string u_slices_AppendSeq_string_string := txOkS_of (H := { wr := [0, 1, 2, 3, 4, 5, 6, 7, 8, 9, 10, 11, 12, 13, 14, 15, 16, 17, 18, 19, 20, 21, 22, 23, 24, 25, 26, 27, 28, 29, 30, 31, 32, 33, 34, 35, 36, 37, 38, 39], ro := [], nl := [], fz := [], da := [], sigs := [] }) (plans := []) hm Try.func85 rfl fun xs => by kernel_rfl
-- NOT TOLD: 86 slices.pdqsortOrdered[string]: 0
def u_slices_pdqsortOrdered_string_Nil (xs : List PV) : T PV :=
.loop [(.bool true), (.bool true), (n xs 0), (n xs 1), (n xs 2), (n xs 3)] fun y0 =>
.l (.arith .sub .i64) [(n y0 3), (n y0 2)] fun x1 =>
.l (.cmp .leq .i64) [x1, (i 12)] fun x2 =>
.ite x2 (
 .calls F.slices_insertionSortOrdered_string sg_slices_insertionSortOrdered_string [(n y0 2), (n y0 3), (n y0 5)] fun z3 =>
 .ret (.tup [(.tup []), (n z3 1)])) (
 .l (.cmp .eql .i64) [(n y0 4), (i 0)] fun x3 =>
 .ite x3 (
  .call F.slices_heapSortOrdered_string [(n y0 5), (n y0 2), (n y0 3)] fun x4 =>
  .fail) (
  .l .bnot [(n y0 1)] fun x4 =>
  .ite x4 (
   .call F.slices_breakPatternsOrdered_string [(n y0 5), (n y0 2), (n y0 3)] fun x5 =>
   .l (.arith .sub .i64) [(n y0 4), (i 1)] fun x6 =>
   .call F.slices_choosePivotOrdered_string [(n y0 5), (n y0 2), (n y0 3)] fun x7 =>
   .l (.tc 0) [x7] fun x8 =>
   .l (.tc 1) [x7] fun x9 =>
   .l (.cmp .eql .i64) [x9, (i 2)] fun x10 =>
   .ite x10 (
    .call F.slices_reverseRangeOrdered_string [(n y0 5), (n y0 2), (n y0 3)] fun x11 =>
    .l (.arith .sub .i64) [(n y0 3), (i 1)] fun x12 =>
    .l (.arith .sub .i64) [x8, (n y0 2)] fun x13 =>
    .l (.arith .sub .i64) [x12, x13] fun x14 =>
    .ite (n y0 1) (
     .ite (n y0 0) (
      .l (.cmp .eql .i64) [(i 1), (i 1)] fun x15 =>
      .ite x15 (
       .call F.slices_partialInsertionSortOrdered_string [(n y0 5), (n y0 2), (n y0 3)] fun x16 =>
       .ite x16 (
        .fail) (
        .l (.cmp .gtr .i64) [(n y0 2), (i 0)] fun x17 =>
        .ite x17 (
         .l (.arith .sub .i64) [(n y0 2), (i 1)] fun x18 =>
         .l (.idx 1 false) [(n y0 5), x18] fun x19 =>
         .l (.idx 1 false) [(n y0 5), x14] fun x20 =>
         .call F.cmp_Less_string [x19, x20] fun x21 =>
         .l .bnot [x21] fun x22 =>
         .ite x22 (
          .call F.slices_partitionEqualOrdered_string [(n y0 5), (n y0 2), (n y0 3), x14] fun x23 =>
          .fail) (
          .call F.slices_partitionOrdered_string [(n y0 5), (n y0 2), (n y0 3), x14] fun x23 =>
          .l (.tc 0) [x23] fun x24 =>
          .l (.tc 1) [x23] fun x25 =>
          .l (.arith .sub .i64) [x24, (n y0 2)] fun x26 =>
          .l (.arith .sub .i64) [(n y0 3), x24] fun x27 =>
          .l (.arith .quo .i64) [x1, (i 8)] fun x28 =>
          .l (.cmp .lss .i64) [x26, x27] fun x29 =>
          .ite x29 (
           .l (.cmp .geq .i64) [x26, x28] fun x30 =>
           .fail) (
           .l (.cmp .geq .i64) [x27, x28] fun x30 =>
           .l (.arith .add .i64) [x24, (i 1)] fun x31 =>
           .fail))) (
         .call F.slices_partitionOrdered_string [(n y0 5), (n y0 2), (n y0 3), x14] fun x18 =>
         .l (.tc 0) [x18] fun x19 =>
         .l (.tc 1) [x18] fun x20 =>
         .l (.arith .sub .i64) [x19, (n y0 2)] fun x21 =>
         .l (.arith .sub .i64) [(n y0 3), x19] fun x22 =>
         .l (.arith .quo .i64) [x1, (i 8)] fun x23 =>
         .l (.cmp .lss .i64) [x21, x22] fun x24 =>
         .ite x24 (
          .l (.cmp .geq .i64) [x21, x23] fun x25 =>
          .fail) (
          .l (.cmp .geq .i64) [x22, x23] fun x25 =>
          .l (.arith .add .i64) [x19, (i 1)] fun x26 =>
          .fail)))) (
       .l (.cmp .gtr .i64) [(n y0 2), (i 0)] fun x16 =>
       .ite x16 (
        .l (.arith .sub .i64) [(n y0 2), (i 1)] fun x17 =>
        .l (.idx 1 false) [(n y0 5), x17] fun x18 =>
        .l (.idx 1 false) [(n y0 5), x14] fun x19 =>
        .call F.cmp_Less_string [x18, x19] fun x20 =>
        .l .bnot [x20] fun x21 =>
        .ite x21 (
         .call F.slices_partitionEqualOrdered_string [(n y0 5), (n y0 2), (n y0 3), x14] fun x22 =>
         .fail) (
         .call F.slices_partitionOrdered_string [(n y0 5), (n y0 2), (n y0 3), x14] fun x22 =>
         .l (.tc 0) [x22] fun x23 =>
         .l (.tc 1) [x22] fun x24 =>
         .l (.arith .sub .i64) [x23, (n y0 2)] fun x25 =>
         .l (.arith .sub .i64) [(n y0 3), x23] fun x26 =>
         .l (.arith .quo .i64) [x1, (i 8)] fun x27 =>
         .l (.cmp .lss .i64) [x25, x26] fun x28 =>
         .ite x28 (
          .l (.cmp .geq .i64) [x25, x27] fun x29 =>
          .fail) (
          .l (.cmp .geq .i64) [x26, x27] fun x29 =>
          .l (.arith .add .i64) [x23, (i 1)] fun x30 =>
          .fail))) (
        .call F.slices_partitionOrdered_string [(n y0 5), (n y0 2), (n y0 3), x14] fun x17 =>
        .l (.tc 0) [x17] fun x18 =>
        .l (.tc 1) [x17] fun x19 =>
        .l (.arith .sub .i64) [x18, (n y0 2)] fun x20 =>
        .l (.arith .sub .i64) [(n y0 3), x18] fun x21 =>
        .l (.arith .quo .i64) [x1, (i 8)] fun x22 =>
        .l (.cmp .lss .i64) [x20, x21] fun x23 =>
        .ite x23 (
         .l (.cmp .geq .i64) [x20, x22] fun x24 =>
         .fail) (
         .l (.cmp .geq .i64) [x21, x22] fun x24 =>
         .l (.arith .add .i64) [x18, (i 1)] fun x25 =>
         .fail)))) (
      .l (.cmp .gtr .i64) [(n y0 2), (i 0)] fun x15 =>
      .ite x15 (
       .l (.arith .sub .i64) [(n y0 2), (i 1)] fun x16 =>
       .l (.idx 1 false) [(n y0 5), x16] fun x17 =>
       .l (.idx 1 false) [(n y0 5), x14] fun x18 =>
       .call F.cmp_Less_string [x17, x18] fun x19 =>
       .l .bnot [x19] fun x20 =>
       .ite x20 (
        .call F.slices_partitionEqualOrdered_string [(n y0 5), (n y0 2), (n y0 3), x14] fun x21 =>
        .fail) (
        .call F.slices_partitionOrdered_string [(n y0 5), (n y0 2), (n y0 3), x14] fun x21 =>
        .l (.tc 0) [x21] fun x22 =>
        .l (.tc 1) [x21] fun x23 =>
        .l (.arith .sub .i64) [x22, (n y0 2)] fun x24 =>
        .l (.arith .sub .i64) [(n y0 3), x22] fun x25 =>
        .l (.arith .quo .i64) [x1, (i 8)] fun x26 =>
        .l (.cmp .lss .i64) [x24, x25] fun x27 =>
        .ite x27 (
         .l (.cmp .geq .i64) [x24, x26] fun x28 =>
         .fail) (
         .l (.cmp .geq .i64) [x25, x26] fun x28 =>
         .l (.arith .add .i64) [x22, (i 1)] fun x29 =>
         .fail))) (
       .call F.slices_partitionOrdered_string [(n y0 5), (n y0 2), (n y0 3), x14] fun x16 =>
       .l (.tc 0) [x16] fun x17 =>
       .l (.tc 1) [x16] fun x18 =>
       .l (.arith .sub .i64) [x17, (n y0 2)] fun x19 =>
       .l (.arith .sub .i64) [(n y0 3), x17] fun x20 =>
       .l (.arith .quo .i64) [x1, (i 8)] fun x21 =>
       .l (.cmp .lss .i64) [x19, x20] fun x22 =>
       .ite x22 (
        .l (.cmp .geq .i64) [x19, x21] fun x23 =>
        .fail) (
        .l (.cmp .geq .i64) [x20, x21] fun x23 =>
        .l (.arith .add .i64) [x17, (i 1)] fun x24 =>
        .fail)))) (
     .l (.cmp .gtr .i64) [(n y0 2), (i 0)] fun x15 =>
     .ite x15 (
      .l (.arith .sub .i64) [(n y0 2), (i 1)] fun x16 =>
      .l (.idx 1 false) [(n y0 5), x16] fun x17 =>
      .l (.idx 1 false) [(n y0 5), x14] fun x18 =>
      .call F.cmp_Less_string [x17, x18] fun x19 =>
      .l .bnot [x19] fun x20 =>
      .ite x20 (
       .call F.slices_partitionEqualOrdered_string [(n y0 5), (n y0 2), (n y0 3), x14] fun x21 =>
       .fail) (
       .call F.slices_partitionOrdered_string [(n y0 5), (n y0 2), (n y0 3), x14] fun x21 =>
       .l (.tc 0) [x21] fun x22 =>
       .l (.tc 1) [x21] fun x23 =>
       .l (.arith .sub .i64) [x22, (n y0 2)] fun x24 =>
       .l (.arith .sub .i64) [(n y0 3), x22] fun x25 =>
       .l (.arith .quo .i64) [x1, (i 8)] fun x26 =>
       .l (.cmp .lss .i64) [x24, x25] fun x27 =>
       .ite x27 (
        .l (.cmp .geq .i64) [x24, x26] fun x28 =>
        .fail) (
        .l (.cmp .geq .i64) [x25, x26] fun x28 =>
        .l (.arith .add .i64) [x22, (i 1)] fun x29 =>
        .fail))) (
      .call F.slices_partitionOrdered_string [(n y0 5), (n y0 2), (n y0 3), x14] fun x16 =>
      .l (.tc 0) [x16] fun x17 =>
      .l (.tc 1) [x16] fun x18 =>
      .l (.arith .sub .i64) [x17, (n y0 2)] fun x19 =>
      .l (.arith .sub .i64) [(n y0 3), x17] fun x20 =>
      .l (.arith .quo .i64) [x1, (i 8)] fun x21 =>
      .l (.cmp .lss .i64) [x19, x20] fun x22 =>
      .ite x22 (
       .l (.cmp .geq .i64) [x19, x21] fun x23 =>
       .fail) (
       .l (.cmp .geq .i64) [x20, x21] fun x23 =>
       .l (.arith .add .i64) [x17, (i 1)] fun x24 =>
       .fail)))) (
    .ite (n y0 1) (
     .ite (n y0 0) (
      .l (.cmp .eql .i64) [x9, (i 1)] fun x11 =>
      .ite x11 (
       .call F.slices_partialInsertionSortOrdered_string [(n y0 5), (n y0 2), (n y0 3)] fun x12 =>
       .ite x12 (
        .fail) (
        .l (.cmp .gtr .i64) [(n y0 2), (i 0)] fun x13 =>
        .ite x13 (
         .l (.arith .sub .i64) [(n y0 2), (i 1)] fun x14 =>
         .l (.idx 1 false) [(n y0 5), x14] fun x15 =>
         .l (.idx 1 false) [(n y0 5), x8] fun x16 =>
         .call F.cmp_Less_string [x15, x16] fun x17 =>
         .l .bnot [x17] fun x18 =>
         .ite x18 (
          .call F.slices_partitionEqualOrdered_string [(n y0 5), (n y0 2), (n y0 3), x8] fun x19 =>
          .fail) (
          .call F.slices_partitionOrdered_string [(n y0 5), (n y0 2), (n y0 3), x8] fun x19 =>
          .l (.tc 0) [x19] fun x20 =>
          .l (.tc 1) [x19] fun x21 =>
          .l (.arith .sub .i64) [x20, (n y0 2)] fun x22 =>
          .l (.arith .sub .i64) [(n y0 3), x20] fun x23 =>
          .l (.arith .quo .i64) [x1, (i 8)] fun x24 =>
          .l (.cmp .lss .i64) [x22, x23] fun x25 =>
          .ite x25 (
           .l (.cmp .geq .i64) [x22, x24] fun x26 =>
           .fail) (
           .l (.cmp .geq .i64) [x23, x24] fun x26 =>
           .l (.arith .add .i64) [x20, (i 1)] fun x27 =>
           .fail))) (
         .call F.slices_partitionOrdered_string [(n y0 5), (n y0 2), (n y0 3), x8] fun x14 =>
         .l (.tc 0) [x14] fun x15 =>
         .l (.tc 1) [x14] fun x16 =>
         .l (.arith .sub .i64) [x15, (n y0 2)] fun x17 =>
         .l (.arith .sub .i64) [(n y0 3), x15] fun x18 =>
         .l (.arith .quo .i64) [x1, (i 8)] fun x19 =>
         .l (.cmp .lss .i64) [x17, x18] fun x20 =>
         .ite x20 (
          .l (.cmp .geq .i64) [x17, x19] fun x21 =>
          .fail) (
          .l (.cmp .geq .i64) [x18, x19] fun x21 =>
          .l (.arith .add .i64) [x15, (i 1)] fun x22 =>
          .fail)))) (
       .l (.cmp .gtr .i64) [(n y0 2), (i 0)] fun x12 =>
       .ite x12 (
        .l (.arith .sub .i64) [(n y0 2), (i 1)] fun x13 =>
        .l (.idx 1 false) [(n y0 5), x13] fun x14 =>
        .l (.idx 1 false) [(n y0 5), x8] fun x15 =>
        .call F.cmp_Less_string [x14, x15] fun x16 =>
        .l .bnot [x16] fun x17 =>
        .ite x17 (
         .call F.slices_partitionEqualOrdered_string [(n y0 5), (n y0 2), (n y0 3), x8] fun x18 =>
         .fail) (
         .call F.slices_partitionOrdered_string [(n y0 5), (n y0 2), (n y0 3), x8] fun x18 =>
         .l (.tc 0) [x18] fun x19 =>
         .l (.tc 1) [x18] fun x20 =>
         .l (.arith .sub .i64) [x19, (n y0 2)] fun x21 =>
         .l (.arith .sub .i64) [(n y0 3), x19] fun x22 =>
         .l (.arith .quo .i64) [x1, (i 8)] fun x23 =>
         .l (.cmp .lss .i64) [x21, x22] fun x24 =>
         .ite x24 (
          .l (.cmp .geq .i64) [x21, x23] fun x25 =>
          .fail) (
          .l (.cmp .geq .i64) [x22, x23] fun x25 =>
          .l (.arith .add .i64) [x19, (i 1)] fun x26 =>
          .fail))) (
        .call F.slices_partitionOrdered_string [(n y0 5), (n y0 2), (n y0 3), x8] fun x13 =>
        .l (.tc 0) [x13] fun x14 =>
        .l (.tc 1) [x13] fun x15 =>
        .l (.arith .sub .i64) [x14, (n y0 2)] fun x16 =>
        .l (.arith .sub .i64) [(n y0 3), x14] fun x17 =>
        .l (.arith .quo .i64) [x1, (i 8)] fun x18 =>
        .l (.cmp .lss .i64) [x16, x17] fun x19 =>
        .ite x19 (
         .l (.cmp .geq .i64) [x16, x18] fun x20 =>
         .fail) (
         .l (.cmp .geq .i64) [x17, x18] fun x20 =>
         .l (.arith .add .i64) [x14, (i 1)] fun x21 =>
         .fail)))) (
      .l (.cmp .gtr .i64) [(n y0 2), (i 0)] fun x11 =>
      .ite x11 (
       .l (.arith .sub .i64) [(n y0 2), (i 1)] fun x12 =>
       .l (.idx 1 false) [(n y0 5), x12] fun x13 =>
       .l (.idx 1 false) [(n y0 5), x8] fun x14 =>
       .call F.cmp_Less_string [x13, x14] fun x15 =>
       .l .bnot [x15] fun x16 =>
       .ite x16 (
        .call F.slices_partitionEqualOrdered_string [(n y0 5), (n y0 2), (n y0 3), x8] fun x17 =>
        .fail) (
        .call F.slices_partitionOrdered_string [(n y0 5), (n y0 2), (n y0 3), x8] fun x17 =>
        .l (.tc 0) [x17] fun x18 =>
        .l (.tc 1) [x17] fun x19 =>
        .l (.arith .sub .i64) [x18, (n y0 2)] fun x20 =>
        .l (.arith .sub .i64) [(n y0 3), x18] fun x21 =>
        .l (.arith .quo .i64) [x1, (i 8)] fun x22 =>
        .l (.cmp .lss .i64) [x20, x21] fun x23 =>
        .ite x23 (
         .l (.cmp .geq .i64) [x20, x22] fun x24 =>
         .fail) (
         .l (.cmp .geq .i64) [x21, x22] fun x24 =>
         .l (.arith .add .i64) [x18, (i 1)] fun x25 =>
         .fail))) (
       .call F.slices_partitionOrdered_string [(n y0 5), (n y0 2), (n y0 3), x8] fun x12 =>
       .l (.tc 0) [x12] fun x13 =>
       .l (.tc 1) [x12] fun x14 =>
       .l (.arith .sub .i64) [x13, (n y0 2)] fun x15 =>
       .l (.arith .sub .i64) [(n y0 3), x13] fun x16 =>
       .l (.arith .quo .i64) [x1, (i 8)] fun x17 =>
       .l (.cmp .lss .i64) [x15, x16] fun x18 =>
       .ite x18 (
        .l (.cmp .geq .i64) [x15, x17] fun x19 =>
        .fail) (
        .l (.cmp .geq .i64) [x16, x17] fun x19 =>
        .l (.arith .add .i64) [x13, (i 1)] fun x20 =>
        .fail)))) (
     .l (.cmp .gtr .i64) [(n y0 2), (i 0)] fun x11 =>
     .ite x11 (
      .l (.arith .sub .i64) [(n y0 2), (i 1)] fun x12 =>
      .l (.idx 1 false) [(n y0 5), x12] fun x13 =>
      .l (.idx 1 false) [(n y0 5), x8] fun x14 =>
      .call F.cmp_Less_string [x13, x14] fun x15 =>
      .l .bnot [x15] fun x16 =>
      .ite x16 (
       .call F.slices_partitionEqualOrdered_string [(n y0 5), (n y0 2), (n y0 3), x8] fun x17 =>
       .fail) (
       .call F.slices_partitionOrdered_string [(n y0 5), (n y0 2), (n y0 3), x8] fun x17 =>
       .l (.tc 0) [x17] fun x18 =>
       .l (.tc 1) [x17] fun x19 =>
       .l (.arith .sub .i64) [x18, (n y0 2)] fun x20 =>
       .l (.arith .sub .i64) [(n y0 3), x18] fun x21 =>
       .l (.arith .quo .i64) [x1, (i 8)] fun x22 =>
       .l (.cmp .lss .i64) [x20, x21] fun x23 =>
       .ite x23 (
        .l (.cmp .geq .i64) [x20, x22] fun x24 =>
        .fail) (
        .l (.cmp .geq .i64) [x21, x22] fun x24 =>
        .l (.arith .add .i64) [x18, (i 1)] fun x25 =>
        .fail))) (
      .call F.slices_partitionOrdered_string [(n y0 5), (n y0 2), (n y0 3), x8] fun x12 =>
      .l (.tc 0) [x12] fun x13 =>
      .l (.tc 1) [x12] fun x14 =>
      .l (.arith .sub .i64) [x13, (n y0 2)] fun x15 =>
      .l (.arith .sub .i64) [(n y0 3), x13] fun x16 =>
      .l (.arith .quo .i64) [x1, (i 8)] fun x17 =>
      .l (.cmp .lss .i64) [x15, x16] fun x18 =>
      .ite x18 (
       .l (.cmp .geq .i64) [x15, x17] fun x19 =>
       .fail) (
       .l (.cmp .geq .i64) [x16, x17] fun x19 =>
       .l (.arith .add .i64) [x13, (i 1)] fun x20 =>
       .fail))))) (
   .call F.slices_choosePivotOrdered_string [(n y0 5), (n y0 2), (n y0 3)] fun x5 =>
   .l (.tc 0) [x5] fun x6 =>
   .l (.tc 1) [x5] fun x7 =>
   .l (.cmp .eql .i64) [x7, (i 2)] fun x8 =>
   .ite x8 (
    .call F.slices_reverseRangeOrdered_string [(n y0 5), (n y0 2), (n y0 3)] fun x9 =>
    .l (.arith .sub .i64) [(n y0 3), (i 1)] fun x10 =>
    .l (.arith .sub .i64) [x6, (n y0 2)] fun x11 =>
    .l (.arith .sub .i64) [x10, x11] fun x12 =>
    .ite (n y0 1) (
     .ite (n y0 0) (
      .l (.cmp .eql .i64) [(i 1), (i 1)] fun x13 =>
      .ite x13 (
       .call F.slices_partialInsertionSortOrdered_string [(n y0 5), (n y0 2), (n y0 3)] fun x14 =>
       .ite x14 (
        .fail) (
        .l (.cmp .gtr .i64) [(n y0 2), (i 0)] fun x15 =>
        .ite x15 (
         .l (.arith .sub .i64) [(n y0 2), (i 1)] fun x16 =>
         .l (.idx 1 false) [(n y0 5), x16] fun x17 =>
         .l (.idx 1 false) [(n y0 5), x12] fun x18 =>
         .call F.cmp_Less_string [x17, x18] fun x19 =>
         .l .bnot [x19] fun x20 =>
         .ite x20 (
          .call F.slices_partitionEqualOrdered_string [(n y0 5), (n y0 2), (n y0 3), x12] fun x21 =>
          .fail) (
          .call F.slices_partitionOrdered_string [(n y0 5), (n y0 2), (n y0 3), x12] fun x21 =>
          .l (.tc 0) [x21] fun x22 =>
          .l (.tc 1) [x21] fun x23 =>
          .l (.arith .sub .i64) [x22, (n y0 2)] fun x24 =>
          .l (.arith .sub .i64) [(n y0 3), x22] fun x25 =>
          .l (.arith .quo .i64) [x1, (i 8)] fun x26 =>
          .l (.cmp .lss .i64) [x24, x25] fun x27 =>
          .ite x27 (
           .l (.cmp .geq .i64) [x24, x26] fun x28 =>
           .fail) (
           .l (.cmp .geq .i64) [x25, x26] fun x28 =>
           .l (.arith .add .i64) [x22, (i 1)] fun x29 =>
           .fail))) (
         .call F.slices_partitionOrdered_string [(n y0 5), (n y0 2), (n y0 3), x12] fun x16 =>
         .l (.tc 0) [x16] fun x17 =>
         .l (.tc 1) [x16] fun x18 =>
         .l (.arith .sub .i64) [x17, (n y0 2)] fun x19 =>
         .l (.arith .sub .i64) [(n y0 3), x17] fun x20 =>
         .l (.arith .quo .i64) [x1, (i 8)] fun x21 =>
         .l (.cmp .lss .i64) [x19, x20] fun x22 =>
         .ite x22 (
          .l (.cmp .geq .i64) [x19, x21] fun x23 =>
          .fail) (
          .l (.cmp .geq .i64) [x20, x21] fun x23 =>
          .l (.arith .add .i64) [x17, (i 1)] fun x24 =>
          .fail)))) (
       .l (.cmp .gtr .i64) [(n y0 2), (i 0)] fun x14 =>
       .ite x14 (
        .l (.arith .sub .i64) [(n y0 2), (i 1)] fun x15 =>
        .l (.idx 1 false) [(n y0 5), x15] fun x16 =>
        .l (.idx 1 false) [(n y0 5), x12] fun x17 =>
        .call F.cmp_Less_string [x16, x17] fun x18 =>
        .l .bnot [x18] fun x19 =>
        .ite x19 (
         .call F.slices_partitionEqualOrdered_string [(n y0 5), (n y0 2), (n y0 3), x12] fun x20 =>
         .fail) (
         .call F.slices_partitionOrdered_string [(n y0 5), (n y0 2), (n y0 3), x12] fun x20 =>
         .l (.tc 0) [x20] fun x21 =>
         .l (.tc 1) [x20] fun x22 =>
         .l (.arith .sub .i64) [x21, (n y0 2)] fun x23 =>
         .l (.arith .sub .i64) [(n y0 3), x21] fun x24 =>
         .l (.arith .quo .i64) [x1, (i 8)] fun x25 =>
         .l (.cmp .lss .i64) [x23, x24] fun x26 =>
         .ite x26 (
          .l (.cmp .geq .i64) [x23, x25] fun x27 =>
          .fail) (
          .l (.cmp .geq .i64) [x24, x25] fun x27 =>
          .l (.arith .add .i64) [x21, (i 1)] fun x28 =>
          .fail))) (
        .call F.slices_partitionOrdered_string [(n y0 5), (n y0 2), (n y0 3), x12] fun x15 =>
        .l (.tc 0) [x15] fun x16 =>
        .l (.tc 1) [x15] fun x17 =>
        .l (.arith .sub .i64) [x16, (n y0 2)] fun x18 =>
        .l (.arith .sub .i64) [(n y0 3), x16] fun x19 =>
        .l (.arith .quo .i64) [x1, (i 8)] fun x20 =>
        .l (.cmp .lss .i64) [x18, x19] fun x21 =>
        .ite x21 (
         .l (.cmp .geq .i64) [x18, x20] fun x22 =>
         .fail) (
         .l (.cmp .geq .i64) [x19, x20] fun x22 =>
         .l (.arith .add .i64) [x16, (i 1)] fun x23 =>
         .fail)))) (
      .l (.cmp .gtr .i64) [(n y0 2), (i 0)] fun x13 =>
      .ite x13 (
       .l (.arith .sub .i64) [(n y0 2), (i 1)] fun x14 =>
       .l (.idx 1 false) [(n y0 5), x14] fun x15 =>
       .l (.idx 1 false) [(n y0 5), x12] fun x16 =>
       .call F.cmp_Less_string [x15, x16] fun x17 =>
       .l .bnot [x17] fun x18 =>
       .ite x18 (
        .call F.slices_partitionEqualOrdered_string [(n y0 5), (n y0 2), (n y0 3), x12] fun x19 =>
        .fail) (
        .call F.slices_partitionOrdered_string [(n y0 5), (n y0 2), (n y0 3), x12] fun x19 =>
        .l (.tc 0) [x19] fun x20 =>
        .l (.tc 1) [x19] fun x21 =>
        .l (.arith .sub .i64) [x20, (n y0 2)] fun x22 =>
        .l (.arith .sub .i64) [(n y0 3), x20] fun x23 =>
        .l (.arith .quo .i64) [x1, (i 8)] fun x24 =>
        .l (.cmp .lss .i64) [x22, x23] fun x25 =>
        .ite x25 (
         .l (.cmp .geq .i64) [x22, x24] fun x26 =>
         .fail) (
         .l (.cmp .geq .i64) [x23, x24] fun x26 =>
         .l (.arith .add .i64) [x20, (i 1)] fun x27 =>
         .fail))) (
       .call F.slices_partitionOrdered_string [(n y0 5), (n y0 2), (n y0 3), x12] fun x14 =>
       .l (.tc 0) [x14] fun x15 =>
       .l (.tc 1) [x14] fun x16 =>
       .l (.arith .sub .i64) [x15, (n y0 2)] fun x17 =>
       .l (.arith .sub .i64) [(n y0 3), x15] fun x18 =>
       .l (.arith .quo .i64) [x1, (i 8)] fun x19 =>
       .l (.cmp .lss .i64) [x17, x18] fun x20 =>
       .ite x20 (
        .l (.cmp .geq .i64) [x17, x19] fun x21 =>
        .fail) (
        .l (.cmp .geq .i64) [x18, x19] fun x21 =>
        .l (.arith .add .i64) [x15, (i 1)] fun x22 =>
        .fail)))) (
     .l (.cmp .gtr .i64) [(n y0 2), (i 0)] fun x13 =>
     .ite x13 (
      .l (.arith .sub .i64) [(n y0 2), (i 1)] fun x14 =>
      .l (.idx 1 false) [(n y0 5), x14] fun x15 =>
      .l (.idx 1 false) [(n y0 5), x12] fun x16 =>
      .call F.cmp_Less_string [x15, x16] fun x17 =>
      .l .bnot [x17] fun x18 =>
      .ite x18 (
       .call F.slices_partitionEqualOrdered_string [(n y0 5), (n y0 2), (n y0 3), x12] fun x19 =>
       .fail) (
       .call F.slices_partitionOrdered_string [(n y0 5), (n y0 2), (n y0 3), x12] fun x19 =>
       .l (.tc 0) [x19] fun x20 =>
       .l (.tc 1) [x19] fun x21 =>
       .l (.arith .sub .i64) [x20, (n y0 2)] fun x22 =>
       .l (.arith .sub .i64) [(n y0 3), x20] fun x23 =>
       .l (.arith .quo .i64) [x1, (i 8)] fun x24 =>
       .l (.cmp .lss .i64) [x22, x23] fun x25 =>
       .ite x25 (
        .l (.cmp .geq .i64) [x22, x24] fun x26 =>
        .fail) (
        .l (.cmp .geq .i64) [x23, x24] fun x26 =>
        .l (.arith .add .i64) [x20, (i 1)] fun x27 =>
        .fail))) (
      .call F.slices_partitionOrdered_string [(n y0 5), (n y0 2), (n y0 3), x12] fun x14 =>
      .l (.tc 0) [x14] fun x15 =>
      .l (.tc 1) [x14] fun x16 =>
      .l (.arith .sub .i64) [x15, (n y0 2)] fun x17 =>
      .l (.arith .sub .i64) [(n y0 3), x15] fun x18 =>
      .l (.arith .quo .i64) [x1, (i 8)] fun x19 =>
      .l (.cmp .lss .i64) [x17, x18] fun x20 =>
      .ite x20 (
       .l (.cmp .geq .i64) [x17, x19] fun x21 =>
       .fail) (
       .l (.cmp .geq .i64) [x18, x19] fun x21 =>
       .l (.arith .add .i64) [x15, (i 1)] fun x22 =>
       .fail)))) (
    .ite (n y0 1) (
     .ite (n y0 0) (
      .l (.cmp .eql .i64) [x7, (i 1)] fun x9 =>
      .ite x9 (
       .call F.slices_partialInsertionSortOrdered_string [(n y0 5), (n y0 2), (n y0 3)] fun x10 =>
       .ite x10 (
        .fail) (
        .l (.cmp .gtr .i64) [(n y0 2), (i 0)] fun x11 =>
        .ite x11 (
         .l (.arith .sub .i64) [(n y0 2), (i 1)] fun x12 =>
         .l (.idx 1 false) [(n y0 5), x12] fun x13 =>
         .l (.idx 1 false) [(n y0 5), x6] fun x14 =>
         .call F.cmp_Less_string [x13, x14] fun x15 =>
         .l .bnot [x15] fun x16 =>
         .ite x16 (
          .call F.slices_partitionEqualOrdered_string [(n y0 5), (n y0 2), (n y0 3), x6] fun x17 =>
          .fail) (
          .call F.slices_partitionOrdered_string [(n y0 5), (n y0 2), (n y0 3), x6] fun x17 =>
          .l (.tc 0) [x17] fun x18 =>
          .l (.tc 1) [x17] fun x19 =>
          .l (.arith .sub .i64) [x18, (n y0 2)] fun x20 =>
          .l (.arith .sub .i64) [(n y0 3), x18] fun x21 =>
          .l (.arith .quo .i64) [x1, (i 8)] fun x22 =>
          .l (.cmp .lss .i64) [x20, x21] fun x23 =>
          .ite x23 (
           .l (.cmp .geq .i64) [x20, x22] fun x24 =>
           .fail) (
           .l (.cmp .geq .i64) [x21, x22] fun x24 =>
           .l (.arith .add .i64) [x18, (i 1)] fun x25 =>
           .fail))) (
         .call F.slices_partitionOrdered_string [(n y0 5), (n y0 2), (n y0 3), x6] fun x12 =>
         .l (.tc 0) [x12] fun x13 =>
         .l (.tc 1) [x12] fun x14 =>
         .l (.arith .sub .i64) [x13, (n y0 2)] fun x15 =>
         .l (.arith .sub .i64) [(n y0 3), x13] fun x16 =>
         .l (.arith .quo .i64) [x1, (i 8)] fun x17 =>
         .l (.cmp .lss .i64) [x15, x16] fun x18 =>
         .ite x18 (
          .l (.cmp .geq .i64) [x15, x17] fun x19 =>
          .fail) (
          .l (.cmp .geq .i64) [x16, x17] fun x19 =>
          .l (.arith .add .i64) [x13, (i 1)] fun x20 =>
          .fail)))) (
       .l (.cmp .gtr .i64) [(n y0 2), (i 0)] fun x10 =>
       .ite x10 (
        .l (.arith .sub .i64) [(n y0 2), (i 1)] fun x11 =>
        .l (.idx 1 false) [(n y0 5), x11] fun x12 =>
        .l (.idx 1 false) [(n y0 5), x6] fun x13 =>
        .call F.cmp_Less_string [x12, x13] fun x14 =>
        .l .bnot [x14] fun x15 =>
        .ite x15 (
         .call F.slices_partitionEqualOrdered_string [(n y0 5), (n y0 2), (n y0 3), x6] fun x16 =>
         .fail) (
         .call F.slices_partitionOrdered_string [(n y0 5), (n y0 2), (n y0 3), x6] fun x16 =>
         .l (.tc 0) [x16] fun x17 =>
         .l (.tc 1) [x16] fun x18 =>
         .l (.arith .sub .i64) [x17, (n y0 2)] fun x19 =>
         .l (.arith .sub .i64) [(n y0 3), x17] fun x20 =>
         .l (.arith .quo .i64) [x1, (i 8)] fun x21 =>
         .l (.cmp .lss .i64) [x19, x20] fun x22 =>
         .ite x22 (
          .l (.cmp .geq .i64) [x19, x21] fun x23 =>
          .fail) (
          .l (.cmp .geq .i64) [x20, x21] fun x23 =>
          .l (.arith .add .i64) [x17, (i 1)] fun x24 =>
          .fail))) (
        .call F.slices_partitionOrdered_string [(n y0 5), (n y0 2), (n y0 3), x6] fun x11 =>
        .l (.tc 0) [x11] fun x12 =>
        .l (.tc 1) [x11] fun x13 =>
        .l (.arith .sub .i64) [x12, (n y0 2)] fun x14 =>
        .l (.arith .sub .i64) [(n y0 3), x12] fun x15 =>
        .l (.arith .quo .i64) [x1, (i 8)] fun x16 =>
        .l (.cmp .lss .i64) [x14, x15] fun x17 =>
        .ite x17 (
         .l (.cmp .geq .i64) [x14, x16] fun x18 =>
         .fail) (
         .l (.cmp .geq .i64) [x15, x16] fun x18 =>
         .l (.arith .add .i64) [x12, (i 1)] fun x19 =>
         .fail)))) (
      .l (.cmp .gtr .i64) [(n y0 2), (i 0)] fun x9 =>
      .ite x9 (
       .l (.arith .sub .i64) [(n y0 2), (i 1)] fun x10 =>
       .l (.idx 1 false) [(n y0 5), x10] fun x11 =>
       .l (.idx 1 false) [(n y0 5), x6] fun x12 =>
       .call F.cmp_Less_string [x11, x12] fun x13 =>
       .l .bnot [x13] fun x14 =>
       .ite x14 (
        .call F.slices_partitionEqualOrdered_string [(n y0 5), (n y0 2), (n y0 3), x6] fun x15 =>
        .fail) (
        .call F.slices_partitionOrdered_string [(n y0 5), (n y0 2), (n y0 3), x6] fun x15 =>
        .l (.tc 0) [x15] fun x16 =>
        .l (.tc 1) [x15] fun x17 =>
        .l (.arith .sub .i64) [x16, (n y0 2)] fun x18 =>
        .l (.arith .sub .i64) [(n y0 3), x16] fun x19 =>
        .l (.arith .quo .i64) [x1, (i 8)] fun x20 =>
        .l (.cmp .lss .i64) [x18, x19] fun x21 =>
        .ite x21 (
         .l (.cmp .geq .i64) [x18, x20] fun x22 =>
         .fail) (
         .l (.cmp .geq .i64) [x19, x20] fun x22 =>
         .l (.arith .add .i64) [x16, (i 1)] fun x23 =>
         .fail))) (
       .call F.slices_partitionOrdered_string [(n y0 5), (n y0 2), (n y0 3), x6] fun x10 =>
       .l (.tc 0) [x10] fun x11 =>
       .l (.tc 1) [x10] fun x12 =>
       .l (.arith .sub .i64) [x11, (n y0 2)] fun x13 =>
       .l (.arith .sub .i64) [(n y0 3), x11] fun x14 =>
       .l (.arith .quo .i64) [x1, (i 8)] fun x15 =>
       .l (.cmp .lss .i64) [x13, x14] fun x16 =>
       .ite x16 (
        .l (.cmp .geq .i64) [x13, x15] fun x17 =>
        .fail) (
        .l (.cmp .geq .i64) [x14, x15] fun x17 =>
        .l (.arith .add .i64) [x11, (i 1)] fun x18 =>
        .fail)))) (
     .l (.cmp .gtr .i64) [(n y0 2), (i 0)] fun x9 =>
     .ite x9 (
      .l (.arith .sub .i64) [(n y0 2), (i 1)] fun x10 =>
      .l (.idx 1 false) [(n y0 5), x10] fun x11 =>
      .l (.idx 1 false) [(n y0 5), x6] fun x12 =>
      .call F.cmp_Less_string [x11, x12] fun x13 =>
      .l .bnot [x13] fun x14 =>
      .ite x14 (
       .call F.slices_partitionEqualOrdered_string [(n y0 5), (n y0 2), (n y0 3), x6] fun x15 =>
       .fail) (
       .call F.slices_partitionOrdered_string [(n y0 5), (n y0 2), (n y0 3), x6] fun x15 =>
       .l (.tc 0) [x15] fun x16 =>
       .l (.tc 1) [x15] fun x17 =>
       .l (.arith .sub .i64) [x16, (n y0 2)] fun x18 =>
       .l (.arith .sub .i64) [(n y0 3), x16] fun x19 =>
       .l (.arith .quo .i64) [x1, (i 8)] fun x20 =>
       .l (.cmp .lss .i64) [x18, x19] fun x21 =>
       .ite x21 (
        .l (.cmp .geq .i64) [x18, x20] fun x22 =>
        .fail) (
        .l (.cmp .geq .i64) [x19, x20] fun x22 =>
        .l (.arith .add .i64) [x16, (i 1)] fun x23 =>
        .fail))) (
      .call F.slices_partitionOrdered_string [(n y0 5), (n y0 2), (n y0 3), x6] fun x10 =>
      .l (.tc 0) [x10] fun x11 =>
      .l (.tc 1) [x10] fun x12 =>
      .l (.arith .sub .i64) [x11, (n y0 2)] fun x13 =>
      .l (.arith .sub .i64) [(n y0 3), x11] fun x14 =>
      .l (.arith .quo .i64) [x1, (i 8)] fun x15 =>
      .l (.cmp .lss .i64) [x13, x14] fun x16 =>
      .ite x16 (
       .l (.cmp .geq .i64) [x13, x15] fun x17 =>
       .fail) (
       .l (.cmp .geq .i64) [x14, x15] fun x17 =>
       .l (.arith .add .i64) [x11, (i 1)] fun x18 =>
       .fail)))))))
theorem m_slices_pdqsortOrdered_string_Nil : TxOkS P F.slices_pdqsortOrdered_string sg_slices_pdqsortOrdered_string_Nil u_slices_pdqsortOrdered_string_Nil := txOkS_of (H := { wr := [], ro := [], nl := [], fz := [], da := [], sigs := [(30, sg_graph_set_add), (31, sg_slices_Sort_int_int), (48, sg_slices_pdqsortOrdered_int_Nil), (59, sg_slices_insertionSortOrdered_int), (74, sg_slices_Sort_string_string), (86, sg_slices_pdqsortOrdered_string_Nil), (91, sg_slices_insertionSortOrdered_string)] }) (plans := []) hm Try.func86 rfl fun xs => by kernel_rfl
-- NOT TOLD: 87 slices.order2Ordered[int]: 1
def t_ref01_in (xs : List PV) : T PV :=
.loop [(i 0)] fun y0 =>
.l .slen [(n xs 1)] fun x1 =>
.l (.cmp .lss .i64) [(n y0 0), x1] fun x2 =>
.ite x2 (
 .l .sidx [(n xs 1), (n y0 0)] fun x3 =>
 .l (.cmp .eql .u8) [x3, (n xs 0)] fun x4 =>
 .ite x4 (
  .ret (.bool true)) (
  .l (.arith .add .i64) [(n y0 0), (i 1)] fun x5 =>
  .cont 0 [x5])) (
 .ret (.bool false))
theorem k_ref01_in : TxOk P F.ref01_in 2 t_ref01_in := txOk_of (H := {}) (plans := []) hm Try.func88 rfl rfl fun xs => by kernel_rfl
def t_ref01_Letters (xs : List PV) : T PV :=
.ret (.str ⟨#[65, 66, 67, 68, 69, 70, 71, 72, 73, 74, 75, 76, 77, 78, 79, 80, 81, 82, 83, 84, 85, 86, 87, 88, 89, 90, 97, 98, 99, 100, 101, 102, 103, 104, 105, 106, 107, 108, 109, 110, 111, 112, 113, 114, 115, 116, 117, 118, 119, 120, 121, 122, 95]⟩)
theorem k_ref01_Letters : TxOk P F.ref01_Letters 0 t_ref01_Letters := txOk_of (H := {}) (plans := []) hm Try.func89 rfl rfl fun xs => by kernel_rfl
def t_ref01_digits (xs : List PV) : T PV :=
.ret (.str ⟨#[48, 49, 50, 51, 52, 53, 54, 55, 56, 57]⟩)
theorem k_ref01_digits : TxOk P F.ref01_digits 0 t_ref01_digits := txOk_of (H := {}) (plans := []) hm Try.func90 rfl rfl fun xs => by kernel_rfl
-- NOT TOLD: 91 slices.insertionSortOrdered[string]: 1
def u_slices_insertionSortOrdered_string (xs : List PV) : T PV :=
.l (.arith .add .i64) [(n xs 0), (i 1)] fun x0 =>
.loop [x0, (n xs 2)] fun y1 =>
.l (.cmp .lss .i64) [(n y1 0), (n xs 1)] fun x2 =>
.ite x2 (
 .loop [(n y1 0), (n y1 1)] fun y3 =>
 .l (.cmp .gtr .i64) [(n y3 0), (n xs 0)] fun x4 =>
 .ite x4 (
  .l (.idx 1 false) [(n y3 1), (n y3 0)] fun x5 =>
  .l (.idx 1 false) [(n y3 1), (n y3 0)] fun x6 =>
  .l (.arith .sub .i64) [(n y3 0), (i 1)] fun x7 =>
  .l (.idx 1 false) [(n y3 1), x7] fun x8 =>
  .l (.idx 1 false) [(n y3 1), x7] fun x9 =>
  .call F.cmp_Less_string [x6, x9] fun x10 =>
  .ite x10 (
   .l (.arith .sub .i64) [(n y3 0), (i 1)] fun x11 =>
   .l (.arith .sub .i64) [(n y3 0), (i 1)] fun x12 =>
   .l (.idx 1 false) [(n y3 1), x12] fun x13 =>
   .l (.idx 1 false) [(n y3 1), x12] fun x14 =>
   .l (.idx 1 false) [(n y3 1), (n y3 0)] fun x15 =>
   .l (.idx 1 false) [(n y3 1), (n y3 0)] fun x16 =>
   .l (.idx 1 false) [(n y3 1), (n y3 0)] fun x17 =>
   .l (.upd 1 false) [(n y3 1), (n y3 0), x14] fun x18 =>
   .l (.idx 1 false) [x18, x11] fun x19 =>
   .l (.upd 1 false) [x18, x11, x16] fun x20 =>
   .l (.arith .sub .i64) [(n y3 0), (i 1)] fun x21 =>
   .cont 1 [x21, x20]) (
   .l (.arith .add .i64) [(n y1 0), (i 1)] fun x11 =>
   .cont 0 [x11, (n y3 1)])) (
  .l (.arith .add .i64) [(n y1 0), (i 1)] fun x5 =>
  .cont 0 [x5, (n y3 1)])) (
 .ret (.tup [(.tup []), (n y1 1)]))
theorem m_slices_insertionSortOrdered_string : TxOkS P F.slices_insertionSortOrdered_string sg_slices_insertionSortOrdered_string u_slices_insertionSortOrdered_string := txOkS_of (H := { wr := [], ro := [], nl := [], fz := [], da := [], sigs := [(30, sg_graph_set_add), (31, sg_slices_Sort_int_int), (48, sg_slices_pdqsortOrdered_int_Nil), (59, sg_slices_insertionSortOrdered_int), (74, sg_slices_Sort_string_string), (86, sg_slices_pdqsortOrdered_string_Nil), (91, sg_slices_insertionSortOrdered_string)] }) (plans := []) hm Try.func91 rfl fun xs => by kernel_rfl
-- NOT TOLD: 92 slices.heapSortOrdered[string]: 1
-- NOT TOLD: 93 slices.breakPatternsOrdered[string]: 2
def t_slices_choosePivotOrdered_string (xs : List PV) : T PV :=
.l (.arith .sub .i64) [(n xs 2), (n xs 1)] fun x0 =>
.l (.arith .quo .i64) [x0, (i 4)] fun x1 =>
.l (.arith .mul .i64) [x1, (i 1)] fun x2 =>
.l (.arith .add .i64) [(n xs 1), x2] fun x3 =>
.l (.arith .quo .i64) [x0, (i 4)] fun x4 =>
.l (.arith .mul .i64) [x4, (i 2)] fun x5 =>
.l (.arith .add .i64) [(n xs 1), x5] fun x6 =>
.l (.arith .quo .i64) [x0, (i 4)] fun x7 =>
.l (.arith .mul .i64) [x7, (i 3)] fun x8 =>
.l (.arith .add .i64) [(n xs 1), x8] fun x9 =>
.l (.cmp .geq .i64) [x0, (i 8)] fun x10 =>
.ite x10 (
 .l (.cmp .geq .i64) [x0, (i 50)] fun x11 =>
 .ite x11 (
  .call F.slices_medianAdjacentOrdered_string [(n xs 0), x3, (.box (i 0))] fun x12 =>
  .call F.slices_medianAdjacentOrdered_string [(n xs 0), x6, (.box (i 0))] fun x13 =>
  .call F.slices_medianAdjacentOrdered_string [(n xs 0), x9, (.box (i 0))] fun x14 =>
  .call F.slices_medianOrdered_string [(n xs 0), x12, x13, x14, (.box (i 0))] fun x15 =>
  .l (.cmp .eql .i64) [(i 0), (i 0)] fun x16 =>
  .ite x16 (
   .ret (.tup [x15, (i 1)])) (
   .l (.cmp .eql .i64) [(i 0), (i 12)] fun x17 =>
   .ite x17 (
    .ret (.tup [x15, (i 2)])) (
    .ret (.tup [x15, (i 0)])))) (
  .call F.slices_medianOrdered_string [(n xs 0), x3, x6, x9, (.box (i 0))] fun x12 =>
  .l (.cmp .eql .i64) [(i 0), (i 0)] fun x13 =>
  .ite x13 (
   .ret (.tup [x12, (i 1)])) (
   .l (.cmp .eql .i64) [(i 0), (i 12)] fun x14 =>
   .ite x14 (
    .ret (.tup [x12, (i 2)])) (
    .ret (.tup [x12, (i 0)]))))) (
 .l (.cmp .eql .i64) [(i 0), (i 0)] fun x11 =>
 .ite x11 (
  .ret (.tup [x6, (i 1)])) (
  .l (.cmp .eql .i64) [(i 0), (i 12)] fun x12 =>
  .ite x12 (
   .ret (.tup [x6, (i 2)])) (
   .ret (.tup [x6, (i 0)]))))
theorem k_slices_choosePivotOrdered_string : TxOk P F.slices_choosePivotOrdered_string 3 t_slices_choosePivotOrdered_string := txOk_of (H := {}) (plans := []) hm Try.func94 rfl rfl fun xs => by kernel_rfl
-- NOT TOLD: 95 slices.reverseRangeOrdered[string]: 1
-- NOT TOLD: 96 slices.partialInsertionSortOrdered[string]: 2
def t_cmp_Less_string (xs : List PV) : T PV :=
.call F.cmp_isNaN_string [(n xs 0)] fun x0 =>
.ite x0 (
 .call F.cmp_isNaN_string [(n xs 1)] fun x1 =>
 .l .bnot [x1] fun x2 =>
 .ite x2 (
  .ret (.bool true)) (
  .l (.scmp .lss) [(n xs 0), (n xs 1)] fun x3 =>
  .ret x3)) (
 .l (.scmp .lss) [(n xs 0), (n xs 1)] fun x1 =>
 .ret x1)
theorem k_cmp_Less_string : TxOk P F.cmp_Less_string 2 t_cmp_Less_string := txOk_of (H := {}) (plans := []) hm Try.func97 rfl rfl fun xs => by kernel_rfl
-- NOT TOLD: 98 slices.partitionEqualOrdered[string]: 1
-- NOT TOLD: 99 slices.partitionOrdered[string]: 1
-- NOT TOLD: 100 slices.siftDownOrdered[string]: 3
def t_slices_medianAdjacentOrdered_string (xs : List PV) : T PV :=
.l (.arith .sub .i64) [(n xs 1), (i 1)] fun x0 =>
.l (.arith .add .i64) [(n xs 1), (i 1)] fun x1 =>
.call F.slices_medianOrdered_string [(n xs 0), x0, (n xs 1), x1, (n xs 2)] fun x2 =>
.ret x2
theorem k_slices_medianAdjacentOrdered_string : TxOk P F.slices_medianAdjacentOrdered_string 3 t_slices_medianAdjacentOrdered_string := txOk_of (H := {}) (plans := []) hm Try.func101 rfl rfl fun xs => by kernel_rfl
def t_slices_medianOrdered_string (xs : List PV) : T PV :=
.call F.slices_order2Ordered_string [(n xs 0), (n xs 1), (n xs 2), (n xs 4)] fun x0 =>
.l (.tc 0) [x0] fun x1 =>
.l (.tc 1) [x0] fun x2 =>
.call F.slices_order2Ordered_string [(n xs 0), x2, (n xs 3), (n xs 4)] fun x3 =>
.l (.tc 0) [x3] fun x4 =>
.l (.tc 1) [x3] fun x5 =>
.call F.slices_order2Ordered_string [(n xs 0), x1, x4, (n xs 4)] fun x6 =>
.l (.tc 0) [x6] fun x7 =>
.l (.tc 1) [x6] fun x8 =>
.ret x8
theorem k_slices_medianOrdered_string : TxOk P F.slices_medianOrdered_string 5 t_slices_medianOrdered_string := txOk_of (H := {}) (plans := []) hm Try.func102 rfl rfl fun xs => by kernel_rfl
def t_cmp_isNaN_string (xs : List PV) : T PV :=
.l (.scmp .neq) [(n xs 0), (n xs 0)] fun x0 =>
.ret x0
theorem k_cmp_isNaN_string : TxOk P F.cmp_isNaN_string 1 t_cmp_isNaN_string := txOk_of (H := {}) (plans := []) hm Try.func103 rfl rfl fun xs => by kernel_rfl
-- NOT TOLD: 104 slices.order2Ordered[string]: 1
def tb : List (Nat × Tx) := [(F.law07_GraphMatchesReference, ⟨1, t_law07_GraphMatchesReference⟩), (F.law07_GraphReaches, ⟨2, t_law07_GraphReaches⟩), (F.law07_GraphCounts, ⟨3, t_law07_GraphCounts⟩), (F.law07_GraphUnites, ⟨2, t_law07_GraphUnites⟩), (F.law08_HeadRaises, ⟨3, t_law08_HeadRaises⟩), (F.law07_awake, ⟨0, t_law07_awake⟩), (F.ref07_Few, ⟨3, t_ref07_Few⟩), (F.graph_Build, ⟨1, t_graph_Build⟩), (F.ref07_Build, ⟨1, t_ref07_Build⟩), (F.law07_same, ⟨2, t_law07_same⟩), (F.ref07_Reach, ⟨2, t_ref07_Reach⟩), (F.graph_Reach, ⟨2, t_graph_Reach⟩), (F.ref02_Small, ⟨2, t_ref02_Small⟩), (F.ref02_Right, ⟨1, t_ref02_Right⟩), (F.ref02_Raise, ⟨2, t_ref02_Raise⟩), (F.ref07_Count, ⟨1, t_ref07_Count⟩), (F.ref02_Same, ⟨2, t_ref02_Same⟩), (F.law07_back, ⟨1, t_law07_back⟩), (F.law08_awake, ⟨0, t_law08_awake⟩), (F.law08_Graph, ⟨1, t_law08_Graph⟩), (F.head_Raise, ⟨2, t_head_Raise⟩), (F.head_After, ⟨3, t_head_After⟩), (F.head_Lowest, ⟨2, t_head_Lowest⟩), (F.ref07_reference, ⟨4, t_ref07_reference⟩), (F.ref07_nodes, ⟨4, t_ref07_nodes⟩), (F.ref03_Texts, ⟨2, t_ref03_Texts⟩), (F.slices_Sort_int_int, ⟨1, t_slices_Sort_int_int⟩), (F.ref02_Few, ⟨2, t_ref02_Few⟩), (F.ref02_Depth, ⟨1, t_ref02_Depth⟩), (F.ref02_Size, ⟨1, t_ref02_Size⟩), (F.ref02_node, ⟨4, t_ref02_node⟩), (F.ref02_texts, ⟨2, t_ref02_texts⟩), (F.head_Prio, ⟨2, t_head_Prio⟩), (F.head_Label, ⟨3, t_head_Label⟩), (F.head_Kind, ⟨2, t_head_Kind⟩), (F.head_Labels, ⟨2, t_head_Labels⟩), (F.head_Next, ⟨3, t_head_Next⟩), (F.head_fold_int, ⟨2, t_head_fold_int⟩), (F.head_prios, ⟨2, t_head_prios⟩), (F.head_Lowest_1, ⟨2, t_head_Lowest_1⟩), (F.graph_strip, ⟨1, t_graph_strip⟩), (F.slices_Clone_string_string, ⟨1, t_slices_Clone_string_string⟩), (F.math_bits_Len, ⟨1, t_math_bits_Len⟩), (F.ref02_count, ⟨2, t_ref02_count⟩), (F.ref02_shape, ⟨1, t_ref02_shape⟩), (F.ref02_Session, ⟨1, t_ref02_Session⟩), (F.head_action, ⟨1, t_head_action⟩), (F.slices_Index_string_string, ⟨2, t_slices_Index_string_string⟩), (F.slices_Sorted_string, ⟨1, t_slices_Sorted_string⟩), (F.slices_Values_string_string, ⟨1, t_slices_Values_string_string⟩), (F.head_prios_1, ⟨3, t_head_prios_1⟩), (F.slices_choosePivotOrdered_int, ⟨3, t_slices_choosePivotOrdered_int⟩), (F.cmp_Less_int, ⟨2, t_cmp_Less_int⟩), (F.math_bits_Len32, ⟨1, t_math_bits_Len32⟩), (F.math_bits_Len64, ⟨1, t_math_bits_Len64⟩), (F.ref02_prio, ⟨1, t_ref02_prio⟩), (F.ref02_Labels, ⟨1, t_ref02_Labels⟩), (F.ref01_Name, ⟨1, t_ref01_Name⟩), (F.slices_Collect_string, ⟨1, t_slices_Collect_string⟩), (F.slices_Sort_string_string, ⟨1, t_slices_Sort_string_string⟩), (F.slices_Values_string_string_1, ⟨2, t_slices_Values_string_string_1⟩), (F.slices_nextPowerOfTwo, ⟨1, t_slices_nextPowerOfTwo⟩), (F.slices_medianAdjacentOrdered_int, ⟨3, t_slices_medianAdjacentOrdered_int⟩), (F.slices_medianOrdered_int, ⟨5, t_slices_medianOrdered_int⟩), (F.cmp_isNaN_int, ⟨1, t_cmp_isNaN_int⟩), (F.ref02_in, ⟨2, t_ref02_in⟩), (F.ref01_Word, ⟨1, t_ref01_Word⟩), (F.ref01_Keyword, ⟨1, t_ref01_Keyword⟩), (F.ref01_in, ⟨2, t_ref01_in⟩), (F.ref01_Letters, ⟨0, t_ref01_Letters⟩), (F.ref01_digits, ⟨0, t_ref01_digits⟩), (F.slices_choosePivotOrdered_string, ⟨3, t_slices_choosePivotOrdered_string⟩), (F.cmp_Less_string, ⟨2, t_cmp_Less_string⟩), (F.slices_medianAdjacentOrdered_string, ⟨3, t_slices_medianAdjacentOrdered_string⟩), (F.slices_medianOrdered_string, ⟨5, t_slices_medianOrdered_string⟩), (F.cmp_isNaN_string, ⟨1, t_cmp_isNaN_string⟩)]
def tbS : List (Nat × TxS) := [(F.ref02_Raise, ⟨sg_ref02_Raise, u_ref02_Raise⟩), (F.graph_builder_build, ⟨sg_graph_builder_build, u_graph_builder_build⟩), (F.graph_set_add, ⟨sg_graph_set_add, u_graph_set_add⟩), (F.slices_Sort_int_int, ⟨sg_slices_Sort_int_int, u_slices_Sort_int_int⟩), (F.slices_Clone_string_string, ⟨sg_slices_Clone_string_string, u_slices_Clone_string_string⟩), (F.slices_pdqsortOrdered_int, ⟨sg_slices_pdqsortOrdered_int_Nil, u_slices_pdqsortOrdered_int_Nil⟩), (F.slices_insertionSortOrdered_int, ⟨sg_slices_insertionSortOrdered_int, u_slices_insertionSortOrdered_int⟩), (F.slices_Collect_string, ⟨sg_slices_Collect_string, u_slices_Collect_string⟩), (F.slices_Sort_string_string, ⟨sg_slices_Sort_string_string, u_slices_Sort_string_string⟩), (F.slices_AppendSeq_string_string, ⟨sg_slices_AppendSeq_string_string, u_slices_AppendSeq_string_string⟩), (F.slices_pdqsortOrdered_string, ⟨sg_slices_pdqsortOrdered_string_Nil, u_slices_pdqsortOrdered_string_Nil⟩), (F.slices_insertionSortOrdered_string, ⟨sg_slices_insertionSortOrdered_string, u_slices_insertionSortOrdered_string⟩)]
theorem allOk : AllOk P tb := ⟨k_law07_GraphMatchesReference, k_law07_GraphReaches, k_law07_GraphCounts, k_law07_GraphUnites, k_law08_HeadRaises, k_law07_awake, k_ref07_Few, k_graph_Build, k_ref07_Build, k_law07_same, k_ref07_Reach, k_graph_Reach, k_ref02_Small, k_ref02_Right, k_ref02_Raise, k_ref07_Count, k_ref02_Same, k_law07_back, k_law08_awake, k_law08_Graph, k_head_Raise, k_head_After, k_head_Lowest, k_ref07_reference, k_ref07_nodes, k_ref03_Texts, k_slices_Sort_int_int, k_ref02_Few, k_ref02_Depth, k_ref02_Size, k_ref02_node, k_ref02_texts, k_head_Prio, k_head_Label, k_head_Kind, k_head_Labels, k_head_Next, k_head_fold_int, k_head_prios, k_head_Lowest_1, k_graph_strip, k_slices_Clone_string_string, k_math_bits_Len, k_ref02_count, k_ref02_shape, k_ref02_Session, k_head_action, k_slices_Index_string_string, k_slices_Sorted_string, k_slices_Values_string_string, k_head_prios_1, k_slices_choosePivotOrdered_int, k_cmp_Less_int, k_math_bits_Len32, k_math_bits_Len64, k_ref02_prio, k_ref02_Labels, k_ref01_Name, k_slices_Collect_string, k_slices_Sort_string_string, k_slices_Values_string_string_1, k_slices_nextPowerOfTwo, k_slices_medianAdjacentOrdered_int, k_slices_medianOrdered_int, k_cmp_isNaN_int, k_ref02_in, k_ref01_Word, k_ref01_Keyword, k_ref01_in, k_ref01_Letters, k_ref01_digits, k_slices_choosePivotOrdered_string, k_cmp_Less_string, k_slices_medianAdjacentOrdered_string, k_slices_medianOrdered_string, k_cmp_isNaN_string, trivial⟩
theorem allOkS : AllOkS P tbS := ⟨m_ref02_Raise, m_graph_builder_build, m_graph_set_add, m_slices_Sort_int_int, m_slices_Clone_string_string, m_slices_pdqsortOrdered_int_Nil, m_slices_insertionSortOrdered_int, m_slices_Collect_string, m_slices_Sort_string_string, m_slices_AppendSeq_string_string, m_slices_pdqsortOrdered_string_Nil, m_slices_insertionSortOrdered_string, trivial⟩
end Go.Proofs.Ytodomlcjppdgfaa.Tx

/- Texts of functions, printed by a program (wip/dev/Gen.lean). -/
import Derived.Test.YtlemfbmaineigaaLfD
import Derived.Test.YtlemfbmaineigaaChecked
import Derived.KernelRfl
set_option linter.all false
namespace Go.Proofs.Ytlemfbmaineigaa.Tx
open Go.Lf Go.Lf.S
set_option maxRecDepth 100000
instance gl : Gl := { l := [] }
noncomputable abbrev P : Program := Try.prog
instance xc : XC P := xc_none rfl
namespace F
abbrev law10_EqualUnfolds : Nat := 3
abbrev law10_EqualOffsets : Nat := 4
abbrev law10_EqualClasses : Nat := 5
abbrev law10_EqualChains : Nat := 6
abbrev law13_ContextSets : Nat := 7
abbrev law13_ContextSplits : Nat := 8
abbrev law13_ContextDrops : Nat := 9
abbrev law13_ContextParts : Nat := 10
abbrev law10_awake : Nat := 11
abbrev ref02_Small : Nat := 12
abbrev ref02_Unfold : Nat := 13
abbrev law08_Graph : Nat := 14
abbrev equal_Equal : Nat := 15
abbrev equal_Alike : Nat := 16
abbrev equal_Offset : Nat := 17
abbrev ref10_Equal : Nat := 18
abbrev ref02_Raise : Nat := 19
abbrev ref07_Few : Nat := 20
abbrev equal_Classes : Nat := 21
abbrev law10_turned : Nat := 22
abbrev law13_awake : Nat := 23
abbrev context_Set : Nat := 24
abbrev law13_find : Nat := 25
abbrev context_Find : Nat := 26
abbrev law13_right : Nat := 27
abbrev law13_build : Nat := 28
abbrev context_Split : Nat := 29
abbrev ref13_Split : Nat := 30
abbrev law13_same : Nat := 31
abbrev ref13_IsLive : Nat := 32
abbrev context_Drop : Nat := 33
abbrev context_Lowest : Nat := 34
abbrev ref13_Find : Nat := 35
abbrev law13_inside : Nat := 36
abbrev ref13_Lowest : Nat := 37
abbrev law10_loop : Nat := 38
abbrev law10_send : Nat := 39
abbrev ref02_Few : Nat := 40
abbrev ref02_Right : Nat := 41
abbrev ref02_put : Nat := 42
abbrev ref07_Build : Nat := 43
abbrev equal_Equal_1 : Nat := 44
abbrev head_Prio : Nat := 45
abbrev equal_comparison_equal : Nat := 46
abbrev equal_Alike_1 : Nat := 47
abbrev equal_offset : Nat := 48
abbrev head_Raise : Nat := 49
abbrev ref10_compare : Nat := 50
abbrev context_Live : Nat := 51
abbrev slices_Clone_context_Entry_context_Entry : Nat := 52
abbrev context_index : Nat := 53
abbrev context_Split_1 : Nat := 54
abbrev slices_Contains_string_string : Nat := 55
abbrev context_selected_context_Entry : Nat := 56
abbrev context_Split_2 : Nat := 57
abbrev context_live : Nat := 58
abbrev context_Split_3 : Nat := 59
abbrev ref03_In : Nat := 60
abbrev ref08_Prio : Nat := 61
abbrev context_Drop_1 : Nat := 62
abbrev head_Lowest : Nat := 63
abbrev slices_Collect_graph_Ref : Nat := 64
abbrev context_others : Nat := 65
abbrev ref08_Lowest : Nat := 66
abbrev ref02_count : Nat := 67
abbrev ref02_Depth : Nat := 68
abbrev ref02_Size : Nat := 69
abbrev ref02_node : Nat := 70
abbrev ref07_reference : Nat := 71
abbrev ref07_nodes : Nat := 72
abbrev head_action : Nat := 73
abbrev equal_comparison_key : Nat := 74
abbrev slices_Index_string_string : Nat := 75
abbrev head_Next : Nat := 76
abbrev ref03_Texts : Nat := 77
abbrev ref08_Sorted : Nat := 78
abbrev ref10_Lower : Nat := 79
abbrev ref10_Seen : Nat := 80
abbrev ref08_Label : Nat := 81
abbrev context_Live_1 : Nat := 82
abbrev slices_IndexFunc_context_Entry_context_Entry : Nat := 83
abbrev context_index_1 : Nat := 84
abbrev head_fold_int : Nat := 85
abbrev head_prios : Nat := 86
abbrev head_Lowest_1 : Nat := 87
abbrev slices_AppendSeq_graph_Ref_graph_Ref : Nat := 88
abbrev context_others_1 : Nat := 89
abbrev ref02_shape : Nat := 90
abbrev ref02_Session : Nat := 91
abbrev ref07_Count : Nat := 92
abbrev ref02_Same : Nat := 93
abbrev head_prios_1 : Nat := 94
abbrev ref02_prio : Nat := 95
abbrev ref02_Labels : Nat := 96
abbrev ref01_Name : Nat := 97
abbrev ref02_texts : Nat := 98
abbrev ref02_in : Nat := 99
abbrev ref01_Word : Nat := 100
abbrev ref01_Keyword : Nat := 101
abbrev ref01_in : Nat := 102
abbrev ref01_Letters : Nat := 103
abbrev ref01_digits : Nat := 104
end F
theorem hm : Try.prog.follows .mixedOrders = true := by kernel_rfl
/-- duologue/duologueref02.Raise, with memory -/
def sg_ref02_Raise : Sig := { args := [.at (.dat 0), .at (.dat 1)], obs := [], res := .agg [.dat 0, .dat 1, .dat 2, .dat 3, .dat 4, .own 9000], robs := [(9000, .arr false 25 6 true 5)], nout := 6 }
/-- (*duologue/equal.comparison).equal, with memory -/
def sg_equal_comparison_equal : Sig := { args := [.at (.ptr 9000 0), .at (.dat 0), .at (.dat 1)], obs := [(9000, .cells false 4 true (.pts [.dat 2, .mref 9001, .dat 3, .dat 4])), (9001, .map false 5)], res := .at (.dat 0), robs := [(9000, .cells false 4 true (.pts [.dat 1, .mref 9001, .dat 2, .dat 3])), (9001, .map false 4)], nout := 5 }
/-- duologue/duologueref10.compare, with memory -/
def sg_ref10_compare : Sig := { args := [.at (.dat 0), .at (.dat 1), .at (.ptr 9000 0)], obs := [(9000, .cells false 1 false (.pts [.own 9001])), (9001, .arr true 129 12 true 2)], res := .at (.dat 0), robs := [(9000, .cells false 1 false (.pts [.own 9002])), (9002, .arr true 129 12 true 1)], nout := 2 }
/-- slices.Clone[[]duologue/context.Entry,duologue/context.Entry], with memory -/
def sg_slices_Clone_context_Entry_context_Entry : Sig := { args := [.at (.dat 0)], obs := [], res := .at (.own 9000), robs := [(9000, .arr false 55 3 true 0)], nout := 1 }
/-- slices.AppendSeq[[]duologue/graph.Ref,duologue/graph.Ref], with memory -/
def sg_slices_AppendSeq_graph_Ref_graph_Ref : Sig := { args := [.at (.nils), .at (.dat 0)], obs := [], res := .at (.own 9000), robs := [(9000, .arr true 37 2 true 0)], nout := 1 }
def t_law10_EqualUnfolds (xs : List PV) : T PV :=
.l (.okc 6 true) [(n xs 0)] fun x0 =>
.call F.law10_awake [] fun x1 =>
.l .bnot [x1] fun x2 =>
.ite x2 (
 .call F.law10_awake [] fun x3 =>
 .ret x3) (
 .call F.ref02_Small [x0, (i 20)] fun x3 =>
 .l .bnot [x3] fun x4 =>
 .ite x4 (
  .call F.law10_awake [] fun x5 =>
  .ret x5) (
  .call F.ref02_Unfold [x0] fun x5 =>
  .l (.okc 6 true) [x5] fun x6 =>
  .call F.ref02_Small [x6, (i 400)] fun x7 =>
  .l .bnot [x7] fun x8 =>
  .ite x8 (
   .ret (.bool true)) (
   .l (.lst 6 true) [x0, x6] fun x9 =>
   .call F.law08_Graph [x9] fun x10 =>
   .l (.tc 0) [x10] fun x11 =>
   .l (.tc 1) [x10] fun x12 =>
   .l (.okc 1 true) [x11] fun x13 =>
   .l (.idx 2 true) [x12, (i 0)] fun x14 =>
   .l (.idx 2 true) [x12, (i 0)] fun x15 =>
   .l (.conv .i64) [(n xs 1)] fun x16 =>
   .l (.arith .add .i64) [(c 1 x15), x16] fun x17 =>
   .l (.okcs [(1, false), (1, false)]) [(c 0 x14), x17] fun x18 =>
   .l (.idx 2 true) [x12, (i 1)] fun x19 =>
   .l (.idx 2 true) [x12, (i 1)] fun x20 =>
   .l (.conv .i64) [(n xs 1)] fun x21 =>
   .l (.arith .add .i64) [(c 1 x20), x21] fun x22 =>
   .l (.okcs [(1, false), (1, false)]) [(c 0 x19), x22] fun x23 =>
   .l (.idx 2 true) [x12, (i 0)] fun x24 =>
   .l (.idx 2 true) [x12, (i 1)] fun x25 =>
   .call F.equal_Equal [x13, x24, x25] fun x26 =>
   .ite x26 (
    .call F.equal_Equal [x13, (.agg [(c 0 x14), x17]), (.agg [(c 0 x19), x22])] fun x27 =>
    .ite x27 (
     .l (.idx 2 true) [x12, (i 1)] fun x28 =>
     .call F.equal_Alike [x13, (.agg [(c 0 x14), x17]), x28] fun x29 =>
     .ite x29 (
      .l (.idx 2 true) [x12, (i 1)] fun x30 =>
      .call F.equal_Equal [x13, (.agg [(c 0 x14), x17]), x30] fun x31 =>
      .l (.cmp .eql .i16) [(n xs 1), (.int .i16 (0))] fun x32 =>
      .ite x32 (
       .l (.bcmp .eql) [x31, (.bool true)] fun x33 =>
       .ret x33) (
       .l (.cmp .leq .i64) [(c 0 x6), (i 3)] fun x33 =>
       .l (.bcmp .eql) [x31, x33] fun x34 =>
       .ret x34)) (
      .ret (.bool false))) (
     .ret (.bool false))) (
    .ret (.bool false)))))
theorem k_law10_EqualUnfolds : TxOk P F.law10_EqualUnfolds 2 t_law10_EqualUnfolds := txOk_of (H := {}) (plans := []) hm Try.func3 rfl rfl fun xs => by kernel_rfl
def t_law10_EqualOffsets (xs : List PV) : T PV :=
.l (.okc 6 true) [(n xs 0)] fun x0 =>
.l (.okc 6 true) [(n xs 1)] fun x1 =>
.call F.law10_awake [] fun x2 =>
.l .bnot [x2] fun x3 =>
.ite x3 (
 .call F.law10_awake [] fun x4 =>
 .ret x4) (
 .call F.ref02_Small [x0, (i 20)] fun x4 =>
 .l .bnot [x4] fun x5 =>
 .ite x5 (
  .call F.law10_awake [] fun x6 =>
  .ret x6) (
  .call F.ref02_Small [x1, (i 20)] fun x6 =>
  .l .bnot [x6] fun x7 =>
  .ite x7 (
   .call F.law10_awake [] fun x8 =>
   .ret x8) (
   .l (.lst 6 true) [x0, x1] fun x8 =>
   .call F.law08_Graph [x8] fun x9 =>
   .l (.tc 0) [x9] fun x10 =>
   .l (.tc 1) [x9] fun x11 =>
   .l (.okc 1 true) [x10] fun x12 =>
   .l (.idx 2 true) [x11, (i 0)] fun x13 =>
   .l (.idx 2 true) [x11, (i 1)] fun x14 =>
   .call F.equal_Offset [x12, x13, x14] fun x15 =>
   .l (.tc 0) [x15] fun x16 =>
   .l (.tc 1) [x15] fun x17 =>
   .l (.idx 2 true) [x11, (i 0)] fun x18 =>
   .l (.idx 2 true) [x11, (i 0)] fun x19 =>
   .l (.idx 2 true) [x11, (i 0)] fun x20 =>
   .l (.conv .i64) [(n xs 2)] fun x21 =>
   .l (.arith .add .i64) [(c 1 x20), x21] fun x22 =>
   .l (.okcs [(1, false), (1, false)]) [(c 0 x19), x22] fun x23 =>
   .call F.equal_Offset [x12, x18, (.agg [(c 0 x19), x22])] fun x24 =>
   .l (.tc 0) [x24] fun x25 =>
   .l (.tc 1) [x24] fun x26 =>
   .call F.ref02_Unfold [x0] fun x27 =>
   .l (.okc 6 true) [x27] fun x28 =>
   .call F.ref02_Unfold [x1] fun x29 =>
   .l (.okc 6 true) [x29] fun x30 =>
   .l (.arith .sub .i64) [(c 1 x30), (c 1 x28)] fun x31 =>
   .call F.ref02_Raise [x0, x31] fun x32 =>
   .call F.ref10_Equal [x32, x1] fun x33 =>
   .l (.cmp .leq .i64) [(c 0 x28), (i 3)] fun x34 =>
   .ite x34 (
    .ite x26 (
     .l (.cmp .eql .i64) [x25, (i 0)] fun x35 =>
     .ite x35 (
      .l (.bcmp .eql) [x17, x33] fun x36 =>
      .ite x36 (
       .l (.cmp .eql .i64) [x16, (i 0)] fun x37 =>
       .ret x37) (
       .ret (.bool false))) (
      .ret (.bool false))) (
     .ret (.bool false))) (
    .ite x26 (
     .l (.conv .i64) [(n xs 2)] fun x35 =>
     .l (.cmp .eql .i64) [x25, x35] fun x36 =>
     .ite x36 (
      .l (.bcmp .eql) [x17, x33] fun x37 =>
      .ite x37 (
       .ite x17 (
        .l (.cmp .eql .i64) [x16, x31] fun x38 =>
        .ite x38 (
         .ret (.bool true)) (
         .l .bnot [x17] fun x39 =>
         .ite x39 (
          .l (.cmp .eql .i64) [x16, (i 0)] fun x40 =>
          .ret x40) (
          .ret (.bool false)))) (
        .l .bnot [x17] fun x38 =>
        .ite x38 (
         .l (.cmp .eql .i64) [x16, (i 0)] fun x39 =>
         .ret x39) (
         .ret (.bool false)))) (
       .ret (.bool false))) (
      .ret (.bool false))) (
     .ret (.bool false))))))
theorem k_law10_EqualOffsets : TxOk P F.law10_EqualOffsets 3 t_law10_EqualOffsets := txOk_of (H := {}) (plans := []) hm Try.func4 rfl rfl fun xs => by kernel_rfl
def t_law10_EqualClasses (xs : List PV) : T PV :=
.call F.law10_awake [] fun x0 =>
.l .bnot [x0] fun x1 =>
.ite x1 (
 .call F.law10_awake [] fun x2 =>
 .ret x2) (
 .call F.ref07_Few [(n xs 0), (i 3), (i 12)] fun x2 =>
 .l .bnot [x2] fun x3 =>
 .ite x3 (
  .call F.law10_awake [] fun x4 =>
  .ret x4) (
  .call F.law08_Graph [(n xs 0)] fun x4 =>
  .l (.tc 0) [x4] fun x5 =>
  .l (.tc 1) [x4] fun x6 =>
  .l (.okc 1 true) [x5] fun x7 =>
  .call F.equal_Classes [x7] fun x8 =>
  .l .len [x8] fun x9 =>
  .l .len [(c 0 x7)] fun x10 =>
  .l (.cmp .neq .i64) [x9, x10] fun x11 =>
  .ite x11 (
   .ret (.bool false)) (
   .loop [(i 0)] fun y12 =>
   .l .len [x8] fun x13 =>
   .l (.cmp .lss .i64) [(n y12 0), x13] fun x14 =>
   .ite x14 (
    .loop [(n y12 0), (n y12 0)] fun y15 =>
    .l (.cmp .geq .i64) [(n y15 0), (i 0)] fun x16 =>
    .ite x16 (
     .l (.okcs [(1, false)]) [(n y12 0)] fun x17 =>
     .l (.okcs [(1, false)]) [(n y15 0)] fun x18 =>
     .call F.equal_Equal [x7, (.agg [(n y12 0), (i 0)]), (.agg [(n y15 0), (i 0)])] fun x19 =>
     .ite x19 (
      .l (.okcs [(1, false)]) [(n y15 0)] fun x20 =>
      .l (.okcs [(1, false)]) [(n y12 0)] fun x21 =>
      .call F.equal_Equal [x7, (.agg [(n y15 0), (i 0)]), (.agg [(n y12 0), (i 0)])] fun x22 =>
      .l (.bcmp .neq) [x19, x22] fun x23 =>
      .ite x23 (
       .ret (.bool false)) (
       .l (.idx 1 false) [x8, (n y12 0)] fun x24 =>
       .l (.idx 1 false) [x8, (n y15 0)] fun x25 =>
       .l (.cmp .eql .i64) [x24, x25] fun x26 =>
       .l (.bcmp .neq) [x19, x26] fun x27 =>
       .ite x27 (
        .ret (.bool false)) (
        .l (.arith .sub .i64) [(n y15 0), (i 1)] fun x28 =>
        .cont 1 [x28, (n y15 0)]))) (
      .l (.okcs [(1, false)]) [(n y15 0)] fun x20 =>
      .l (.okcs [(1, false)]) [(n y12 0)] fun x21 =>
      .call F.equal_Equal [x7, (.agg [(n y15 0), (i 0)]), (.agg [(n y12 0), (i 0)])] fun x22 =>
      .l (.bcmp .neq) [x19, x22] fun x23 =>
      .ite x23 (
       .ret (.bool false)) (
       .l (.idx 1 false) [x8, (n y12 0)] fun x24 =>
       .l (.idx 1 false) [x8, (n y15 0)] fun x25 =>
       .l (.cmp .eql .i64) [x24, x25] fun x26 =>
       .l (.bcmp .neq) [x19, x26] fun x27 =>
       .ite x27 (
        .ret (.bool false)) (
        .l (.arith .sub .i64) [(n y15 0), (i 1)] fun x28 =>
        .cont 1 [x28, (n y15 1)])))) (
     .l (.idx 1 false) [x8, (n y12 0)] fun x17 =>
     .l (.cmp .neq .i64) [x17, (n y15 1)] fun x18 =>
     .ite x18 (
      .ret (.bool false)) (
      .l (.arith .add .i64) [(n y12 0), (i 1)] fun x19 =>
      .cont 0 [x19]))) (
    .ret (.bool true)))))
theorem k_law10_EqualClasses : TxOk P F.law10_EqualClasses 1 t_law10_EqualClasses := txOk_of (H := {}) (plans := []) hm Try.func5 rfl rfl fun xs => by kernel_rfl
def t_law10_EqualChains (xs : List PV) : T PV :=
.l (.okc 6 true) [(n xs 0)] fun x0 =>
.l (.okc 6 true) [(n xs 1)] fun x1 =>
.l (.okc 6 true) [(n xs 2)] fun x2 =>
.call F.law10_awake [] fun x3 =>
.l .bnot [x3] fun x4 =>
.ite x4 (
 .call F.law10_awake [] fun x5 =>
 .ret x5) (
 .call F.ref02_Small [x0, (i 40)] fun x5 =>
 .l .bnot [x5] fun x6 =>
 .ite x6 (
  .call F.law10_awake [] fun x7 =>
  .ret x7) (
  .call F.ref02_Small [x1, (i 40)] fun x7 =>
  .l .bnot [x7] fun x8 =>
  .ite x8 (
   .call F.law10_awake [] fun x9 =>
   .ret x9) (
   .call F.ref02_Small [x2, (i 40)] fun x9 =>
   .l .bnot [x9] fun x10 =>
   .ite x10 (
    .call F.law10_awake [] fun x11 =>
    .ret x11) (
    .call F.law10_turned [x0] fun x11 =>
    .l (.lst 6 true) [x0, x1, x2, x11] fun x12 =>
    .call F.law08_Graph [x12] fun x13 =>
    .l (.tc 0) [x13] fun x14 =>
    .l (.tc 1) [x13] fun x15 =>
    .l (.okc 1 true) [x14] fun x16 =>
    .l (.idx 2 true) [x15, (i 0)] fun x17 =>
    .l (.idx 2 true) [x15, (i 1)] fun x18 =>
    .call F.equal_Equal [x16, x17, x18] fun x19 =>
    .l (.idx 2 true) [x15, (i 1)] fun x20 =>
    .l (.idx 2 true) [x15, (i 2)] fun x21 =>
    .call F.equal_Equal [x16, x20, x21] fun x22 =>
    .ite x19 (
     .ite x22 (
      .l (.idx 2 true) [x15, (i 0)] fun x23 =>
      .l (.idx 2 true) [x15, (i 2)] fun x24 =>
      .call F.equal_Equal [x16, x23, x24] fun x25 =>
      .l .bnot [x25] fun x26 =>
      .ite x26 (
       .ret (.bool false)) (
       .ite x19 (
        .l (.idx 2 true) [x15, (i 0)] fun x27 =>
        .l (.idx 2 true) [x15, (i 1)] fun x28 =>
        .call F.equal_Alike [x16, x27, x28] fun x29 =>
        .l .bnot [x29] fun x30 =>
        .ite x30 (
         .ret (.bool false)) (
         .l (.idx 2 true) [x15, (i 1)] fun x31 =>
         .l (.idx 2 true) [x15, (i 0)] fun x32 =>
         .call F.equal_Equal [x16, x31, x32] fun x33 =>
         .l (.bcmp .eql) [x19, x33] fun x34 =>
         .ite x34 (
          .l (.idx 2 true) [x15, (i 0)] fun x35 =>
          .l (.idx 2 true) [x15, (i 3)] fun x36 =>
          .call F.equal_Equal [x16, x35, x36] fun x37 =>
          .ite x37 (
           .l (.idx 2 true) [x15, (i 0)] fun x38 =>
           .l (.idx 2 true) [x15, (i 1)] fun x39 =>
           .call F.equal_Alike [x16, x38, x39] fun x40 =>
           .l (.idx 2 true) [x15, (i 1)] fun x41 =>
           .l (.idx 2 true) [x15, (i 0)] fun x42 =>
           .call F.equal_Alike [x16, x41, x42] fun x43 =>
           .l (.bcmp .eql) [x40, x43] fun x44 =>
           .ret x44) (
           .ret (.bool false))) (
          .ret (.bool false)))) (
        .l (.idx 2 true) [x15, (i 1)] fun x27 =>
        .l (.idx 2 true) [x15, (i 0)] fun x28 =>
        .call F.equal_Equal [x16, x27, x28] fun x29 =>
        .l (.bcmp .eql) [x19, x29] fun x30 =>
        .ite x30 (
         .l (.idx 2 true) [x15, (i 0)] fun x31 =>
         .l (.idx 2 true) [x15, (i 3)] fun x32 =>
         .call F.equal_Equal [x16, x31, x32] fun x33 =>
         .ite x33 (
          .l (.idx 2 true) [x15, (i 0)] fun x34 =>
          .l (.idx 2 true) [x15, (i 1)] fun x35 =>
          .call F.equal_Alike [x16, x34, x35] fun x36 =>
          .l (.idx 2 true) [x15, (i 1)] fun x37 =>
          .l (.idx 2 true) [x15, (i 0)] fun x38 =>
          .call F.equal_Alike [x16, x37, x38] fun x39 =>
          .l (.bcmp .eql) [x36, x39] fun x40 =>
          .ret x40) (
          .ret (.bool false))) (
         .ret (.bool false))))) (
      .ite x19 (
       .l (.idx 2 true) [x15, (i 0)] fun x23 =>
       .l (.idx 2 true) [x15, (i 1)] fun x24 =>
       .call F.equal_Alike [x16, x23, x24] fun x25 =>
       .l .bnot [x25] fun x26 =>
       .ite x26 (
        .ret (.bool false)) (
        .l (.idx 2 true) [x15, (i 1)] fun x27 =>
        .l (.idx 2 true) [x15, (i 0)] fun x28 =>
        .call F.equal_Equal [x16, x27, x28] fun x29 =>
        .l (.bcmp .eql) [x19, x29] fun x30 =>
        .ite x30 (
         .l (.idx 2 true) [x15, (i 0)] fun x31 =>
         .l (.idx 2 true) [x15, (i 3)] fun x32 =>
         .call F.equal_Equal [x16, x31, x32] fun x33 =>
         .ite x33 (
          .l (.idx 2 true) [x15, (i 0)] fun x34 =>
          .l (.idx 2 true) [x15, (i 1)] fun x35 =>
          .call F.equal_Alike [x16, x34, x35] fun x36 =>
          .l (.idx 2 true) [x15, (i 1)] fun x37 =>
          .l (.idx 2 true) [x15, (i 0)] fun x38 =>
          .call F.equal_Alike [x16, x37, x38] fun x39 =>
          .l (.bcmp .eql) [x36, x39] fun x40 =>
          .ret x40) (
          .ret (.bool false))) (
         .ret (.bool false)))) (
       .l (.idx 2 true) [x15, (i 1)] fun x23 =>
       .l (.idx 2 true) [x15, (i 0)] fun x24 =>
       .call F.equal_Equal [x16, x23, x24] fun x25 =>
       .l (.bcmp .eql) [x19, x25] fun x26 =>
       .ite x26 (
        .l (.idx 2 true) [x15, (i 0)] fun x27 =>
        .l (.idx 2 true) [x15, (i 3)] fun x28 =>
        .call F.equal_Equal [x16, x27, x28] fun x29 =>
        .ite x29 (
         .l (.idx 2 true) [x15, (i 0)] fun x30 =>
         .l (.idx 2 true) [x15, (i 1)] fun x31 =>
         .call F.equal_Alike [x16, x30, x31] fun x32 =>
         .l (.idx 2 true) [x15, (i 1)] fun x33 =>
         .l (.idx 2 true) [x15, (i 0)] fun x34 =>
         .call F.equal_Alike [x16, x33, x34] fun x35 =>
         .l (.bcmp .eql) [x32, x35] fun x36 =>
         .ret x36) (
         .ret (.bool false))) (
        .ret (.bool false))))) (
     .ite x19 (
      .l (.idx 2 true) [x15, (i 0)] fun x23 =>
      .l (.idx 2 true) [x15, (i 1)] fun x24 =>
      .call F.equal_Alike [x16, x23, x24] fun x25 =>
      .l .bnot [x25] fun x26 =>
      .ite x26 (
       .ret (.bool false)) (
       .l (.idx 2 true) [x15, (i 1)] fun x27 =>
       .l (.idx 2 true) [x15, (i 0)] fun x28 =>
       .call F.equal_Equal [x16, x27, x28] fun x29 =>
       .l (.bcmp .eql) [x19, x29] fun x30 =>
       .ite x30 (
        .l (.idx 2 true) [x15, (i 0)] fun x31 =>
        .l (.idx 2 true) [x15, (i 3)] fun x32 =>
        .call F.equal_Equal [x16, x31, x32] fun x33 =>
        .ite x33 (
         .l (.idx 2 true) [x15, (i 0)] fun x34 =>
         .l (.idx 2 true) [x15, (i 1)] fun x35 =>
         .call F.equal_Alike [x16, x34, x35] fun x36 =>
         .l (.idx 2 true) [x15, (i 1)] fun x37 =>
         .l (.idx 2 true) [x15, (i 0)] fun x38 =>
         .call F.equal_Alike [x16, x37, x38] fun x39 =>
         .l (.bcmp .eql) [x36, x39] fun x40 =>
         .ret x40) (
         .ret (.bool false))) (
        .ret (.bool false)))) (
      .l (.idx 2 true) [x15, (i 1)] fun x23 =>
      .l (.idx 2 true) [x15, (i 0)] fun x24 =>
      .call F.equal_Equal [x16, x23, x24] fun x25 =>
      .l (.bcmp .eql) [x19, x25] fun x26 =>
      .ite x26 (
       .l (.idx 2 true) [x15, (i 0)] fun x27 =>
       .l (.idx 2 true) [x15, (i 3)] fun x28 =>
       .call F.equal_Equal [x16, x27, x28] fun x29 =>
       .ite x29 (
        .l (.idx 2 true) [x15, (i 0)] fun x30 =>
        .l (.idx 2 true) [x15, (i 1)] fun x31 =>
        .call F.equal_Alike [x16, x30, x31] fun x32 =>
        .l (.idx 2 true) [x15, (i 1)] fun x33 =>
        .l (.idx 2 true) [x15, (i 0)] fun x34 =>
        .call F.equal_Alike [x16, x33, x34] fun x35 =>
        .l (.bcmp .eql) [x32, x35] fun x36 =>
        .ret x36) (
        .ret (.bool false))) (
       .ret (.bool false))))))))
theorem k_law10_EqualChains : TxOk P F.law10_EqualChains 3 t_law10_EqualChains := txOk_of (H := {}) (plans := []) hm Try.func6 rfl rfl fun xs => by kernel_rfl
def t_law13_ContextSets (xs : List PV) : T PV :=
.l (.okc 2 true) [(n xs 2)] fun x0 =>
.call F.law13_awake [] fun x1 =>
.l .bnot [x1] fun x2 =>
.ite x2 (
 .call F.law13_awake [] fun x3 =>
 .ret x3) (
 .l .len [(n xs 0)] fun x3 =>
 .l (.cmp .gtr .i64) [x3, (i 100)] fun x4 =>
 .ite x4 (
  .call F.law13_awake [] fun x5 =>
  .ret x5) (
  .l (.lst 3 true) [] fun x5 =>
  .l (.app 3 true 32) [x5, (n xs 0)] fun x6 =>
  .call F.context_Set [x6, (n xs 1), x0] fun x7 =>
  .call F.law13_find [(n xs 0), (n xs 1)] fun x8 =>
  .l (.tc 0) [x8] fun x9 =>
  .l (.tc 1) [x8] fun x10 =>
  .l (.okc 2 true) [x9] fun x11 =>
  .l .len [x7] fun x12 =>
  .l .len [(n xs 0)] fun x13 =>
  .l (.cmp .neq .i64) [x12, x13] fun x14 =>
  .ite x14 (
   .ite x10 (
    .ret (.bool false)) (
    .l .len [x7] fun x15 =>
    .l .len [(n xs 0)] fun x16 =>
    .l (.arith .add .i64) [x16, (i 1)] fun x17 =>
    .l (.cmp .neq .i64) [x15, x17] fun x18 =>
    .ite x18 (
     .ret (.bool false)) (
     .l .len [x7] fun x19 =>
     .l .len [(n xs 0)] fun x20 =>
     .l (.cmp .eql .i64) [x19, x20] fun x21 =>
     .ite x21 (
      .l .bnot [x10] fun x22 =>
      .ite x22 (
       .ret (.bool false)) (
       .call F.context_Find [x7, (n xs 1)] fun x23 =>
       .l (.tc 0) [x23] fun x24 =>
       .l (.tc 1) [x23] fun x25 =>
       .l (.okc 2 true) [x24] fun x26 =>
       .loop [(i 0), (.bool false)] fun y27 =>
       .l .len [(n xs 0)] fun x28 =>
       .l (.cmp .lss .i64) [(n y27 0), x28] fun x29 =>
       .ite x29 (
        .l (.idx 3 true) [x6, (n y27 0)] fun x30 =>
        .l (.idx 3 true) [(n xs 0), (n y27 0)] fun x31 =>
        .l (.acmp .neq [.s, .i .i64, .i .i64]) [x30, x31] fun x32 =>
        .ite x32 (
         .ret (.bool false)) (
         .l (.idx 3 true) [x7, (n y27 0)] fun x33 =>
         .l (.idx 3 true) [(n xs 0), (n y27 0)] fun x34 =>
         .l (.scmp .neq) [(c 0 x33), (c 0 x34)] fun x35 =>
         .ite x35 (
          .ret (.bool false)) (
          .l (.idx 3 true) [(n xs 0), (n y27 0)] fun x36 =>
          .l (.scmp .eql) [(c 0 x36), (n xs 1)] fun x37 =>
          .ite x37 (
           .l .bnot [(n y27 1)] fun x38 =>
           .ite x38 (
            .l (.idx 3 true) [x7, (n y27 0)] fun x39 =>
            .l (.acmp .neq [.i .i64, .i .i64]) [(sb 1 2 x39), x0] fun x40 =>
            .ite x40 (
             .ret (.bool false)) (
             .l (.arith .add .i64) [(n y27 0), (i 1)] fun x41 =>
             .cont 0 [x41, (.bool true)])) (
            .l (.idx 3 true) [x7, (n y27 0)] fun x39 =>
            .l (.idx 3 true) [(n xs 0), (n y27 0)] fun x40 =>
            .l (.acmp .neq [.s, .i .i64, .i .i64]) [x39, x40] fun x41 =>
            .ite x41 (
             .ret (.bool false)) (
             .l (.arith .add .i64) [(n y27 0), (i 1)] fun x42 =>
             .cont 0 [x42, (n y27 1)]))) (
           .l (.idx 3 true) [x7, (n y27 0)] fun x38 =>
           .l (.idx 3 true) [(n xs 0), (n y27 0)] fun x39 =>
           .l (.acmp .neq [.s, .i .i64, .i .i64]) [x38, x39] fun x40 =>
           .ite x40 (
            .ret (.bool false)) (
            .l (.arith .add .i64) [(n y27 0), (i 1)] fun x41 =>
            .cont 0 [x41, (n y27 1)]))))) (
        .ite x25 (
         .l (.acmp .eql [.i .i64, .i .i64]) [x26, x0] fun x30 =>
         .ite x30 (
          .ite x10 (
           .ret (.bool true)) (
           .l .len [(n xs 0)] fun x31 =>
           .l (.idx 3 true) [x7, x31] fun x32 =>
           .l (.okcs [(1, false), (2, true)]) [(n xs 1), x0] fun x33 =>
           .l (.acmp .eql [.s, .i .i64, .i .i64]) [x32, (.agg [(n xs 1), (c 0 x0), (c 1 x0)])] fun x34 =>
           .ret x34)) (
          .ret (.bool false))) (
         .ret (.bool false))))) (
      .call F.context_Find [x7, (n xs 1)] fun x22 =>
      .l (.tc 0) [x22] fun x23 =>
      .l (.tc 1) [x22] fun x24 =>
      .l (.okc 2 true) [x23] fun x25 =>
      .loop [(i 0), (.bool false)] fun y26 =>
      .l .len [(n xs 0)] fun x27 =>
      .l (.cmp .lss .i64) [(n y26 0), x27] fun x28 =>
      .ite x28 (
       .l (.idx 3 true) [x6, (n y26 0)] fun x29 =>
       .l (.idx 3 true) [(n xs 0), (n y26 0)] fun x30 =>
       .l (.acmp .neq [.s, .i .i64, .i .i64]) [x29, x30] fun x31 =>
       .ite x31 (
        .ret (.bool false)) (
        .l (.idx 3 true) [x7, (n y26 0)] fun x32 =>
        .l (.idx 3 true) [(n xs 0), (n y26 0)] fun x33 =>
        .l (.scmp .neq) [(c 0 x32), (c 0 x33)] fun x34 =>
        .ite x34 (
         .ret (.bool false)) (
         .l (.idx 3 true) [(n xs 0), (n y26 0)] fun x35 =>
         .l (.scmp .eql) [(c 0 x35), (n xs 1)] fun x36 =>
         .ite x36 (
          .l .bnot [(n y26 1)] fun x37 =>
          .ite x37 (
           .l (.idx 3 true) [x7, (n y26 0)] fun x38 =>
           .l (.acmp .neq [.i .i64, .i .i64]) [(sb 1 2 x38), x0] fun x39 =>
           .ite x39 (
            .ret (.bool false)) (
            .l (.arith .add .i64) [(n y26 0), (i 1)] fun x40 =>
            .cont 0 [x40, (.bool true)])) (
           .l (.idx 3 true) [x7, (n y26 0)] fun x38 =>
           .l (.idx 3 true) [(n xs 0), (n y26 0)] fun x39 =>
           .l (.acmp .neq [.s, .i .i64, .i .i64]) [x38, x39] fun x40 =>
           .ite x40 (
            .ret (.bool false)) (
            .l (.arith .add .i64) [(n y26 0), (i 1)] fun x41 =>
            .cont 0 [x41, (n y26 1)]))) (
          .l (.idx 3 true) [x7, (n y26 0)] fun x37 =>
          .l (.idx 3 true) [(n xs 0), (n y26 0)] fun x38 =>
          .l (.acmp .neq [.s, .i .i64, .i .i64]) [x37, x38] fun x39 =>
          .ite x39 (
           .ret (.bool false)) (
           .l (.arith .add .i64) [(n y26 0), (i 1)] fun x40 =>
           .cont 0 [x40, (n y26 1)]))))) (
       .ite x24 (
        .l (.acmp .eql [.i .i64, .i .i64]) [x25, x0] fun x29 =>
        .ite x29 (
         .ite x10 (
          .ret (.bool true)) (
          .l .len [(n xs 0)] fun x30 =>
          .l (.idx 3 true) [x7, x30] fun x31 =>
          .l (.okcs [(1, false), (2, true)]) [(n xs 1), x0] fun x32 =>
          .l (.acmp .eql [.s, .i .i64, .i .i64]) [x31, (.agg [(n xs 1), (c 0 x0), (c 1 x0)])] fun x33 =>
          .ret x33)) (
         .ret (.bool false))) (
        .ret (.bool false))))))) (
   .l .len [x7] fun x15 =>
   .l .len [(n xs 0)] fun x16 =>
   .l (.cmp .eql .i64) [x15, x16] fun x17 =>
   .ite x17 (
    .l .bnot [x10] fun x18 =>
    .ite x18 (
     .ret (.bool false)) (
     .call F.context_Find [x7, (n xs 1)] fun x19 =>
     .l (.tc 0) [x19] fun x20 =>
     .l (.tc 1) [x19] fun x21 =>
     .l (.okc 2 true) [x20] fun x22 =>
     .loop [(i 0), (.bool false)] fun y23 =>
     .l .len [(n xs 0)] fun x24 =>
     .l (.cmp .lss .i64) [(n y23 0), x24] fun x25 =>
     .ite x25 (
      .l (.idx 3 true) [x6, (n y23 0)] fun x26 =>
      .l (.idx 3 true) [(n xs 0), (n y23 0)] fun x27 =>
      .l (.acmp .neq [.s, .i .i64, .i .i64]) [x26, x27] fun x28 =>
      .ite x28 (
       .ret (.bool false)) (
       .l (.idx 3 true) [x7, (n y23 0)] fun x29 =>
       .l (.idx 3 true) [(n xs 0), (n y23 0)] fun x30 =>
       .l (.scmp .neq) [(c 0 x29), (c 0 x30)] fun x31 =>
       .ite x31 (
        .ret (.bool false)) (
        .l (.idx 3 true) [(n xs 0), (n y23 0)] fun x32 =>
        .l (.scmp .eql) [(c 0 x32), (n xs 1)] fun x33 =>
        .ite x33 (
         .l .bnot [(n y23 1)] fun x34 =>
         .ite x34 (
          .l (.idx 3 true) [x7, (n y23 0)] fun x35 =>
          .l (.acmp .neq [.i .i64, .i .i64]) [(sb 1 2 x35), x0] fun x36 =>
          .ite x36 (
           .ret (.bool false)) (
           .l (.arith .add .i64) [(n y23 0), (i 1)] fun x37 =>
           .cont 0 [x37, (.bool true)])) (
          .l (.idx 3 true) [x7, (n y23 0)] fun x35 =>
          .l (.idx 3 true) [(n xs 0), (n y23 0)] fun x36 =>
          .l (.acmp .neq [.s, .i .i64, .i .i64]) [x35, x36] fun x37 =>
          .ite x37 (
           .ret (.bool false)) (
           .l (.arith .add .i64) [(n y23 0), (i 1)] fun x38 =>
           .cont 0 [x38, (n y23 1)]))) (
         .l (.idx 3 true) [x7, (n y23 0)] fun x34 =>
         .l (.idx 3 true) [(n xs 0), (n y23 0)] fun x35 =>
         .l (.acmp .neq [.s, .i .i64, .i .i64]) [x34, x35] fun x36 =>
         .ite x36 (
          .ret (.bool false)) (
          .l (.arith .add .i64) [(n y23 0), (i 1)] fun x37 =>
          .cont 0 [x37, (n y23 1)]))))) (
      .ite x21 (
       .l (.acmp .eql [.i .i64, .i .i64]) [x22, x0] fun x26 =>
       .ite x26 (
        .ite x10 (
         .ret (.bool true)) (
         .l .len [(n xs 0)] fun x27 =>
         .l (.idx 3 true) [x7, x27] fun x28 =>
         .l (.okcs [(1, false), (2, true)]) [(n xs 1), x0] fun x29 =>
         .l (.acmp .eql [.s, .i .i64, .i .i64]) [x28, (.agg [(n xs 1), (c 0 x0), (c 1 x0)])] fun x30 =>
         .ret x30)) (
        .ret (.bool false))) (
       .ret (.bool false))))) (
    .call F.context_Find [x7, (n xs 1)] fun x18 =>
    .l (.tc 0) [x18] fun x19 =>
    .l (.tc 1) [x18] fun x20 =>
    .l (.okc 2 true) [x19] fun x21 =>
    .loop [(i 0), (.bool false)] fun y22 =>
    .l .len [(n xs 0)] fun x23 =>
    .l (.cmp .lss .i64) [(n y22 0), x23] fun x24 =>
    .ite x24 (
     .l (.idx 3 true) [x6, (n y22 0)] fun x25 =>
     .l (.idx 3 true) [(n xs 0), (n y22 0)] fun x26 =>
     .l (.acmp .neq [.s, .i .i64, .i .i64]) [x25, x26] fun x27 =>
     .ite x27 (
      .ret (.bool false)) (
      .l (.idx 3 true) [x7, (n y22 0)] fun x28 =>
      .l (.idx 3 true) [(n xs 0), (n y22 0)] fun x29 =>
      .l (.scmp .neq) [(c 0 x28), (c 0 x29)] fun x30 =>
      .ite x30 (
       .ret (.bool false)) (
       .l (.idx 3 true) [(n xs 0), (n y22 0)] fun x31 =>
       .l (.scmp .eql) [(c 0 x31), (n xs 1)] fun x32 =>
       .ite x32 (
        .l .bnot [(n y22 1)] fun x33 =>
        .ite x33 (
         .l (.idx 3 true) [x7, (n y22 0)] fun x34 =>
         .l (.acmp .neq [.i .i64, .i .i64]) [(sb 1 2 x34), x0] fun x35 =>
         .ite x35 (
          .ret (.bool false)) (
          .l (.arith .add .i64) [(n y22 0), (i 1)] fun x36 =>
          .cont 0 [x36, (.bool true)])) (
         .l (.idx 3 true) [x7, (n y22 0)] fun x34 =>
         .l (.idx 3 true) [(n xs 0), (n y22 0)] fun x35 =>
         .l (.acmp .neq [.s, .i .i64, .i .i64]) [x34, x35] fun x36 =>
         .ite x36 (
          .ret (.bool false)) (
          .l (.arith .add .i64) [(n y22 0), (i 1)] fun x37 =>
          .cont 0 [x37, (n y22 1)]))) (
        .l (.idx 3 true) [x7, (n y22 0)] fun x33 =>
        .l (.idx 3 true) [(n xs 0), (n y22 0)] fun x34 =>
        .l (.acmp .neq [.s, .i .i64, .i .i64]) [x33, x34] fun x35 =>
        .ite x35 (
         .ret (.bool false)) (
         .l (.arith .add .i64) [(n y22 0), (i 1)] fun x36 =>
         .cont 0 [x36, (n y22 1)]))))) (
     .ite x20 (
      .l (.acmp .eql [.i .i64, .i .i64]) [x21, x0] fun x25 =>
      .ite x25 (
       .ite x10 (
        .ret (.bool true)) (
        .l .len [(n xs 0)] fun x26 =>
        .l (.idx 3 true) [x7, x26] fun x27 =>
        .l (.okcs [(1, false), (2, true)]) [(n xs 1), x0] fun x28 =>
        .l (.acmp .eql [.s, .i .i64, .i .i64]) [x27, (.agg [(n xs 1), (c 0 x0), (c 1 x0)])] fun x29 =>
        .ret x29)) (
       .ret (.bool false))) (
      .ret (.bool false)))))))
theorem k_law13_ContextSets : TxOk P F.law13_ContextSets 3 t_law13_ContextSets := txOk_of (H := {}) (plans := []) hm Try.func7 rfl rfl fun xs => by kernel_rfl
def t_law13_ContextSplits (xs : List PV) : T PV :=
.call F.law13_awake [] fun x0 =>
.l .bnot [x0] fun x1 =>
.ite x1 (
 .call F.law13_awake [] fun x2 =>
 .ret x2) (
 .call F.law13_right [(n xs 0)] fun x2 =>
 .l .bnot [x2] fun x3 =>
 .ite x3 (
  .call F.law13_awake [] fun x4 =>
  .ret x4) (
  .l .len [(n xs 1)] fun x4 =>
  .l (.cmp .gtr .i64) [x4, (i 100)] fun x5 =>
  .ite x5 (
   .call F.law13_awake [] fun x6 =>
   .ret x6) (
   .call F.law13_build [(n xs 0)] fun x6 =>
   .l (.tc 0) [x6] fun x7 =>
   .l (.tc 1) [x6] fun x8 =>
   .l (.okc 1 true) [x7] fun x9 =>
   .l (.lst 3 true) [] fun x10 =>
   .l (.app 3 true 32) [x10, x8] fun x11 =>
   .call F.context_Split [x9, x11, (n xs 1)] fun x12 =>
   .l (.tc 0) [x12] fun x13 =>
   .l (.tc 1) [x12] fun x14 =>
   .call F.ref13_Split [(n xs 0), (n xs 1)] fun x15 =>
   .l (.tc 0) [x15] fun x16 =>
   .l (.tc 1) [x15] fun x17 =>
   .call F.law13_same [x13, x16, x8] fun x18 =>
   .l .bnot [x18] fun x19 =>
   .ite x19 (
    .ret (.bool false)) (
    .call F.law13_same [x14, x17, x8] fun x20 =>
    .l .bnot [x20] fun x21 =>
    .ite x21 (
     .ret (.bool false)) (
     .loop [(i 0)] fun y22 =>
     .l .len [(n xs 0)] fun x23 =>
     .l (.cmp .lss .i64) [(n y22 0), x23] fun x24 =>
     .ite x24 (
      .l (.idx 7 true) [(n xs 0), (n y22 0)] fun x25 =>
      .call F.law13_find [x13, (c 0 x25)] fun x26 =>
      .l (.tc 0) [x26] fun x27 =>
      .l (.tc 1) [x26] fun x28 =>
      .l (.okc 2 true) [x27] fun x29 =>
      .l (.idx 7 true) [(n xs 0), (n y22 0)] fun x30 =>
      .call F.law13_find [x14, (c 0 x30)] fun x31 =>
      .l (.tc 0) [x31] fun x32 =>
      .l (.tc 1) [x31] fun x33 =>
      .l (.okc 2 true) [x32] fun x34 =>
      .l (.idx 3 true) [x11, (n y22 0)] fun x35 =>
      .l (.idx 3 true) [x8, (n y22 0)] fun x36 =>
      .l (.acmp .neq [.s, .i .i64, .i .i64]) [x35, x36] fun x37 =>
      .ite x37 (
       .ret (.bool false)) (
       .l (.idx 7 true) [(n xs 0), (n y22 0)] fun x38 =>
       .call F.ref13_IsLive [(sb 1 6 x38)] fun x39 =>
       .ite x28 (
        .l (.bcmp .eql) [x39, x33] fun x40 =>
        .ite x40 (
         .ret (.bool false)) (
         .l .bnot [x28] fun x41 =>
         .ite x41 (
          .l .bnot [x33] fun x42 =>
          .ite x42 (
           .ret (.bool false)) (
           .l (.arith .add .i64) [(n y22 0), (i 1)] fun x43 =>
           .cont 0 [x43])) (
          .l (.arith .add .i64) [(n y22 0), (i 1)] fun x42 =>
          .cont 0 [x42]))) (
        .l (.bcmp .eql) [x39, (.bool false)] fun x40 =>
        .ite x40 (
         .ret (.bool false)) (
         .l .bnot [x28] fun x41 =>
         .ite x41 (
          .l .bnot [x33] fun x42 =>
          .ite x42 (
           .ret (.bool false)) (
           .l (.arith .add .i64) [(n y22 0), (i 1)] fun x43 =>
           .cont 0 [x43])) (
          .l (.arith .add .i64) [(n y22 0), (i 1)] fun x42 =>
          .cont 0 [x42]))))) (
      .ret (.bool true)))))))
theorem k_law13_ContextSplits : TxOk P F.law13_ContextSplits 2 t_law13_ContextSplits := txOk_of (H := {}) (plans := []) hm Try.func8 rfl rfl fun xs => by kernel_rfl
def t_law13_ContextDrops (xs : List PV) : T PV :=
.call F.law13_awake [] fun x0 =>
.l .bnot [x0] fun x1 =>
.ite x1 (
 .call F.law13_awake [] fun x2 =>
 .ret x2) (
 .call F.law13_right [(n xs 0)] fun x2 =>
 .l .bnot [x2] fun x3 =>
 .ite x3 (
  .call F.law13_awake [] fun x4 =>
  .ret x4) (
  .call F.law13_build [(n xs 0)] fun x4 =>
  .l (.tc 0) [x4] fun x5 =>
  .l (.tc 1) [x4] fun x6 =>
  .l (.okc 1 true) [x5] fun x7 =>
  .call F.context_Drop [x6, (n xs 1)] fun x8 =>
  .call F.context_Find [x8, (n xs 1)] fun x9 =>
  .l (.tc 0) [x9] fun x10 =>
  .l (.tc 1) [x9] fun x11 =>
  .l (.okc 2 true) [x10] fun x12 =>
  .loop [(i 0)] fun y13 =>
  .l .len [x8] fun x14 =>
  .l (.cmp .lss .i64) [(n y13 0), x14] fun x15 =>
  .ite x15 (
   .l (.idx 3 true) [x8, (n y13 0)] fun x16 =>
   .l (.cmp .lss .i64) [(c 1 x16), (i 0)] fun x17 =>
   .ite x17 (
    .ret (.bool false)) (
    .l (.idx 3 true) [x8, (n y13 0)] fun x18 =>
    .l .len [(c 0 x7)] fun x19 =>
    .l (.cmp .geq .i64) [(c 1 x18), x19] fun x20 =>
    .ite x20 (
     .ret (.bool false)) (
     .l (.arith .add .i64) [(n y13 0), (i 1)] fun x21 =>
     .cont 0 [x21]))) (
   .call F.context_Lowest [x7, x6, (.str ⟨#[]⟩)] fun x16 =>
   .l (.tc 0) [x16] fun x17 =>
   .l (.tc 1) [x16] fun x18 =>
   .call F.context_Lowest [x7, x8, (.str ⟨#[]⟩)] fun x19 =>
   .l (.tc 0) [x19] fun x20 =>
   .l (.tc 1) [x19] fun x21 =>
   .call F.ref13_Find [(n xs 0), (n xs 1)] fun x22 =>
   .l (.tc 0) [x22] fun x23 =>
   .l (.tc 1) [x22] fun x24 =>
   .l (.okc 6 true) [x23] fun x25 =>
   .ite x24 (
    .call F.ref13_IsLive [x25] fun x26 =>
    .l .bnot [x26] fun x27 =>
    .ite x27 (
     .l (.cmp .neq .i64) [x17, x20] fun x28 =>
     .ite x28 (
      .ret (.bool false)) (
      .l (.bcmp .neq) [x18, x21] fun x29 =>
      .ite x29 (
       .ret (.bool false)) (
       .l .bnot [x11] fun x30 =>
       .ite x30 (
        .l .bnot [x21] fun x31 =>
        .ite x31 (
         .ite x24 (
          .ret (.bool true)) (
          .l .len [x8] fun x32 =>
          .l .len [x6] fun x33 =>
          .l (.cmp .eql .i64) [x32, x33] fun x34 =>
          .ret x34)) (
         .ite x18 (
          .l (.cmp .leq .i64) [x17, x20] fun x32 =>
          .ite x32 (
           .ite x24 (
            .ret (.bool true)) (
            .l .len [x8] fun x33 =>
            .l .len [x6] fun x34 =>
            .l (.cmp .eql .i64) [x33, x34] fun x35 =>
            .ret x35)) (
           .ret (.bool false))) (
          .ret (.bool false)))) (
        .ret (.bool false))))) (
     .l .bnot [x11] fun x28 =>
     .ite x28 (
      .l .bnot [x21] fun x29 =>
      .ite x29 (
       .ite x24 (
        .ret (.bool true)) (
        .l .len [x8] fun x30 =>
        .l .len [x6] fun x31 =>
        .l (.cmp .eql .i64) [x30, x31] fun x32 =>
        .ret x32)) (
       .ite x18 (
        .l (.cmp .leq .i64) [x17, x20] fun x30 =>
        .ite x30 (
         .ite x24 (
          .ret (.bool true)) (
          .l .len [x8] fun x31 =>
          .l .len [x6] fun x32 =>
          .l (.cmp .eql .i64) [x31, x32] fun x33 =>
          .ret x33)) (
         .ret (.bool false))) (
        .ret (.bool false)))) (
      .ret (.bool false)))) (
    .l .bnot [x11] fun x26 =>
    .ite x26 (
     .l .bnot [x21] fun x27 =>
     .ite x27 (
      .ite x24 (
       .ret (.bool true)) (
       .l .len [x8] fun x28 =>
       .l .len [x6] fun x29 =>
       .l (.cmp .eql .i64) [x28, x29] fun x30 =>
       .ret x30)) (
      .ite x18 (
       .l (.cmp .leq .i64) [x17, x20] fun x28 =>
       .ite x28 (
        .ite x24 (
         .ret (.bool true)) (
         .l .len [x8] fun x29 =>
         .l .len [x6] fun x30 =>
         .l (.cmp .eql .i64) [x29, x30] fun x31 =>
         .ret x31)) (
        .ret (.bool false))) (
       .ret (.bool false)))) (
     .ret (.bool false))))))
theorem k_law13_ContextDrops : TxOk P F.law13_ContextDrops 2 t_law13_ContextDrops := txOk_of (H := {}) (plans := []) hm Try.func9 rfl rfl fun xs => by kernel_rfl
def t_law13_ContextParts (xs : List PV) : T PV :=
.call F.law13_awake [] fun x0 =>
.l .bnot [x0] fun x1 =>
.ite x1 (
 .call F.law13_awake [] fun x2 =>
 .ret x2) (
 .call F.law13_right [(n xs 0)] fun x2 =>
 .l .bnot [x2] fun x3 =>
 .ite x3 (
  .call F.law13_awake [] fun x4 =>
  .ret x4) (
  .l .len [(n xs 1)] fun x4 =>
  .l (.cmp .gtr .i64) [x4, (i 100)] fun x5 =>
  .ite x5 (
   .call F.law13_awake [] fun x6 =>
   .ret x6) (
   .call F.law13_build [(n xs 0)] fun x6 =>
   .l (.tc 0) [x6] fun x7 =>
   .l (.tc 1) [x6] fun x8 =>
   .l (.okc 1 true) [x7] fun x9 =>
   .call F.context_Split [x9, x8, (n xs 1)] fun x10 =>
   .l (.tc 0) [x10] fun x11 =>
   .l (.tc 1) [x10] fun x12 =>
   .l .len [(c 0 x9)] fun x13 =>
   .call F.law13_inside [x11, x13] fun x14 =>
   .l .bnot [x14] fun x15 =>
   .ite x15 (
    .ret (.bool false)) (
    .l .len [(c 0 x9)] fun x16 =>
    .call F.law13_inside [x12, x16] fun x17 =>
    .l .bnot [x17] fun x18 =>
    .ite x18 (
     .ret (.bool false)) (
     .call F.context_Lowest [x9, x11, (.str ⟨#[]⟩)] fun x19 =>
     .l (.tc 0) [x19] fun x20 =>
     .l (.tc 1) [x19] fun x21 =>
     .call F.context_Lowest [x9, x12, (.str ⟨#[]⟩)] fun x22 =>
     .l (.tc 0) [x22] fun x23 =>
     .l (.tc 1) [x22] fun x24 =>
     .call F.ref13_Lowest [(n xs 0), (.str ⟨#[]⟩)] fun x25 =>
     .l (.tc 0) [x25] fun x26 =>
     .l (.tc 1) [x25] fun x27 =>
     .ite x21 (
      .ite x24 (
       .ite x27 (
        .l (.mn .i64) [x20, x23] fun x28 =>
        .l (.cmp .eql .i64) [x26, x28] fun x29 =>
        .ret x29) (
        .ret (.bool false))) (
       .ite x21 (
        .l (.bcmp .eql) [x27, (.bool true)] fun x28 =>
        .ite x28 (
         .l (.arith .add .i64) [x20, x23] fun x29 =>
         .l (.cmp .eql .i64) [x26, x29] fun x30 =>
         .ret x30) (
         .ret (.bool false))) (
        .l (.bcmp .eql) [x27, x24] fun x28 =>
        .ite x28 (
         .l (.arith .add .i64) [x20, x23] fun x29 =>
         .l (.cmp .eql .i64) [x26, x29] fun x30 =>
         .ret x30) (
         .ret (.bool false))))) (
      .ite x21 (
       .l (.bcmp .eql) [x27, (.bool true)] fun x28 =>
       .ite x28 (
        .l (.arith .add .i64) [x20, x23] fun x29 =>
        .l (.cmp .eql .i64) [x26, x29] fun x30 =>
        .ret x30) (
        .ret (.bool false))) (
       .l (.bcmp .eql) [x27, x24] fun x28 =>
       .ite x28 (
        .l (.arith .add .i64) [x20, x23] fun x29 =>
        .l (.cmp .eql .i64) [x26, x29] fun x30 =>
        .ret x30) (
        .ret (.bool false)))))))))
theorem k_law13_ContextParts : TxOk P F.law13_ContextParts 2 t_law13_ContextParts := txOk_of (H := {}) (plans := []) hm Try.func10 rfl rfl fun xs => by kernel_rfl
def t_law10_awake (xs : List PV) : T PV :=
.call F.law10_loop [(i 0), (i 1)] fun x0 =>
.l (.okc 6 true) [x0] fun x1 =>
.call F.law10_loop [(i 1), (i 1)] fun x2 =>
.call F.law10_send [(i 0), x2] fun x3 =>
.l (.okc 6 true) [x3] fun x4 =>
.call F.law10_loop [(i 2), (i 1)] fun x5 =>
.call F.law10_send [(i 0), x5] fun x6 =>
.l (.okc 6 true) [x6] fun x7 =>
.l (.lst 6 true) [x1, x4, x7, (.agg [(i 3), (i 0), (.str ⟨#[]⟩), (i 0), (.sl []), (.sl [])])] fun x8 =>
.call F.law08_Graph [x8] fun x9 =>
.l (.tc 0) [x9] fun x10 =>
.l (.tc 1) [x9] fun x11 =>
.l (.okc 1 true) [x10] fun x12 =>
.l (.idx 2 true) [x11, (i 0)] fun x13 =>
.l (.idx 2 true) [x11, (i 1)] fun x14 =>
.l (.okcs [(1, false)]) [(c 0 x14)] fun x15 =>
.call F.equal_Offset [x12, x13, (.agg [(c 0 x14), (i 7)])] fun x16 =>
.l (.tc 0) [x16] fun x17 =>
.l (.tc 1) [x16] fun x18 =>
.l (.idx 2 true) [x11, (i 0)] fun x19 =>
.l (.idx 2 true) [x11, (i 2)] fun x20 =>
.call F.equal_Offset [x12, x19, x20] fun x21 =>
.l (.tc 0) [x21] fun x22 =>
.l (.tc 1) [x21] fun x23 =>
.call F.equal_Classes [x12] fun x24 =>
.l (.idx 2 true) [x11, (i 0)] fun x25 =>
.l (.idx 2 true) [x11, (i 1)] fun x26 =>
.call F.equal_Equal [x12, x25, x26] fun x27 =>
.ite x27 (
 .l (.idx 2 true) [x11, (i 0)] fun x28 =>
 .l (.idx 2 true) [x11, (i 2)] fun x29 =>
 .call F.equal_Equal [x12, x28, x29] fun x30 =>
 .l .bnot [x30] fun x31 =>
 .ite x31 (
  .l (.idx 2 true) [x11, (i 0)] fun x32 =>
  .l (.idx 2 true) [x11, (i 2)] fun x33 =>
  .call F.equal_Alike [x12, x32, x33] fun x34 =>
  .ite x34 (
   .l (.idx 2 true) [x11, (i 0)] fun x35 =>
   .l (.idx 2 true) [x11, (i 3)] fun x36 =>
   .call F.equal_Alike [x12, x35, x36] fun x37 =>
   .l .bnot [x37] fun x38 =>
   .ite x38 (
    .l (.cmp .eql .i64) [x17, (i 7)] fun x39 =>
    .ite x39 (
     .ite x18 (
      .l .bnot [x23] fun x40 =>
      .ite x40 (
       .l .len [x24] fun x41 =>
       .l .len [(c 0 x12)] fun x42 =>
       .l (.cmp .eql .i64) [x41, x42] fun x43 =>
       .ite x43 (
        .l (.idx 1 false) [x24, (i 0)] fun x44 =>
        .l (.cmp .eql .i64) [x44, (i 0)] fun x45 =>
        .ite x45 (
         .l (.idx 2 true) [x11, (i 1)] fun x46 =>
         .l (.idx 1 false) [x24, (c 0 x46)] fun x47 =>
         .l (.cmp .eql .i64) [x47, (i 0)] fun x48 =>
         .ret x48) (
         .ret (.bool false))) (
        .ret (.bool false))) (
       .ret (.bool false))) (
      .ret (.bool false))) (
     .ret (.bool false))) (
    .ret (.bool false))) (
   .ret (.bool false))) (
  .ret (.bool false))) (
 .ret (.bool false))
theorem k_law10_awake : TxOk P F.law10_awake 0 t_law10_awake := txOk_of (H := {}) (plans := []) hm Try.func11 rfl rfl fun xs => by kernel_rfl
def t_ref02_Small (xs : List PV) : T PV :=
.l (.okc 6 true) [(n xs 0)] fun x0 =>
.call F.ref02_Few [x0, (n xs 1)] fun x1 =>
.ite x1 (
 .call F.ref02_Right [x0] fun x2 =>
 .l (.cmp .eql .i64) [x2, (i 0)] fun x3 =>
 .ret x3) (
 .ret (.bool false))
theorem k_ref02_Small : TxOk P F.ref02_Small 2 t_ref02_Small := txOk_of (H := {}) (plans := []) hm Try.func12 rfl rfl fun xs => by kernel_rfl
def t_ref02_Unfold (xs : List PV) : T PV :=
.l (.okc 6 true) [(n xs 0)] fun x0 =>
.l (.cmp .eql .i64) [(c 0 x0), (i 8)] fun x1 =>
.ite x1 (
 .l (.idx 6 true) [(c 5 x0), (i 0)] fun x2 =>
 .call F.ref02_put [x2, (c 2 x0), x0] fun x3 =>
 .call F.ref02_Unfold [x3] fun x4 =>
 .l (.okc 6 true) [x4] fun x5 =>
 .ret x5) (
 .call F.ref02_Raise [x0, (i 0)] fun x2 =>
 .l (.okc 6 true) [x2] fun x3 =>
 .ret x3)
theorem k_ref02_Unfold : TxOk P F.ref02_Unfold 1 t_ref02_Unfold := txOk_of (H := {}) (plans := []) hm Try.func13 rfl rfl fun xs => by kernel_rfl
def t_law08_Graph (xs : List PV) : T PV :=
.call F.ref07_Build [(n xs 0)] fun x0 =>
.l (.tc 0) [x0] fun x1 =>
.l (.tc 1) [x0] fun x2 =>
.loop [(i 0), (.sl [])] fun y3 =>
.l .len [x1] fun x4 =>
.l (.cmp .lss .i64) [(n y3 0), x4] fun x5 =>
.ite x5 (
 .l (.idx 4 true) [x1, (n y3 0)] fun x6 =>
 .l (.idx 4 true) [x1, (n y3 0)] fun x7 =>
 .l (.lst 1 false) [] fun x8 =>
 .l (.idx 4 true) [x1, (n y3 0)] fun x9 =>
 .l (.app 1 false 16) [x8, (c 2 x9)] fun x10 =>
 .l (.okcs [(1, false), (1, false)]) [(c 0 x6), (c 1 x7)] fun x11 =>
 .loop [(i 0), (c 0 x6), (c 1 x7), x10, (.sl [])] fun y12 =>
 .l (.idx 4 true) [x1, (n y3 0)] fun x13 =>
 .l .len [(c 3 x13)] fun x14 =>
 .l (.cmp .lss .i64) [(n y12 0), x14] fun x15 =>
 .ite x15 (
  .l (.idx 4 true) [x1, (n y3 0)] fun x16 =>
  .l (.idx 2 true) [(c 3 x16), (n y12 0)] fun x17 =>
  .l (.idx 4 true) [x1, (n y3 0)] fun x18 =>
  .l (.idx 2 true) [(c 3 x18), (n y12 0)] fun x19 =>
  .l (.okcs [(1, false), (1, false)]) [(c 0 x17), (c 1 x19)] fun x20 =>
  .l (.lst 2 true) [(.agg [(c 0 x17), (c 1 x19)])] fun x21 =>
  .l (.app 2 true 16) [(n y12 4), x21] fun x22 =>
  .l (.arith .add .i64) [(n y12 0), (i 1)] fun x23 =>
  .cont 1 [x23, (n y12 1), (n y12 2), (n y12 3), x22]) (
  .l (.lst 4 true) [(.agg [(n y12 1), (n y12 2), (n y12 3), (n y12 4)])] fun x16 =>
  .l (.app 4 true 64) [(n y3 1), x16] fun x17 =>
  .l (.arith .add .i64) [(n y3 0), (i 1)] fun x18 =>
  .cont 0 [x18, x17])) (
 .loop [(i 0), (.sl [])] fun y6 =>
 .l .len [x2] fun x7 =>
 .l (.cmp .lss .i64) [(n y6 0), x7] fun x8 =>
 .ite x8 (
  .l (.idx 2 true) [x2, (n y6 0)] fun x9 =>
  .l (.idx 2 true) [x2, (n y6 0)] fun x10 =>
  .l (.okcs [(1, false), (1, false)]) [(c 0 x9), (c 1 x10)] fun x11 =>
  .l (.lst 2 true) [(.agg [(c 0 x9), (c 1 x10)])] fun x12 =>
  .l (.app 2 true 16) [(n y6 1), x12] fun x13 =>
  .l (.arith .add .i64) [(n y6 0), (i 1)] fun x14 =>
  .cont 1 [x14, x13]) (
  .ret (.tup [(.agg [(n y3 1)]), (n y6 1)])))
theorem k_law08_Graph : TxOk P F.law08_Graph 1 t_law08_Graph := txOk_of (H := {}) (plans := []) hm Try.func14 rfl rfl fun xs => by kernel_rfl
def t_equal_Equal (xs : List PV) : T PV :=
.l (.okc 1 true) [(n xs 0)] fun x0 =>
.l (.okc 2 true) [(n xs 1)] fun x1 =>
.l (.okc 2 true) [(n xs 2)] fun x2 =>
.l (.okcs [(1, true), (1, false)]) [x0, (.fn F.equal_Equal_1 [] [(.box x0)])] fun x3 =>
.calls F.equal_comparison_equal sg_equal_comparison_equal [x1, x2, (c 0 x0), (.fn F.equal_Equal_1 [] [(.box x0)]), (.bool false), (.mp [] [])] fun z4 =>
.ret (n z4 0)
theorem k_equal_Equal : TxOk P F.equal_Equal 3 t_equal_Equal := txOk_of (H := { wr := [0, 1, 2, 3, 4, 5, 6, 7, 8, 9, 10, 11, 12, 13, 14, 15, 16, 17, 18, 19, 20, 21, 22, 23, 24, 25, 26, 27, 28, 29, 30, 31, 32, 33, 34, 35, 36, 37, 38, 39], ro := [], nl := [], fz := [], da := [], sigs := [(46, sg_equal_comparison_equal)] }) (plans := []) hm Try.func15 rfl rfl fun xs => by kernel_rfl
def t_equal_Alike (xs : List PV) : T PV :=
.l (.okc 1 true) [(n xs 0)] fun x0 =>
.l (.okc 2 true) [(n xs 1)] fun x1 =>
.l (.okc 2 true) [(n xs 2)] fun x2 =>
.l (.okcs [(1, true), (1, false)]) [x0, (.fn F.equal_Alike_1 [] [])] fun x3 =>
.calls F.equal_comparison_equal sg_equal_comparison_equal [x1, x2, (c 0 x0), (.fn F.equal_Alike_1 [] []), (.bool true), (.mp [] [])] fun z4 =>
.ret (n z4 0)
theorem k_equal_Alike : TxOk P F.equal_Alike 3 t_equal_Alike := txOk_of (H := { wr := [0, 1, 2, 3, 4, 5, 6, 7, 8, 9, 10, 11, 12, 13, 14, 15, 16, 17, 18, 19, 20, 21, 22, 23, 24, 25, 26, 27, 28, 29, 30, 31, 32, 33, 34, 35, 36, 37, 38, 39], ro := [], nl := [], fz := [], da := [], sigs := [(46, sg_equal_comparison_equal)] }) (plans := []) hm Try.func16 rfl rfl fun xs => by kernel_rfl
def t_equal_Offset (xs : List PV) : T PV :=
.l (.okc 1 true) [(n xs 0)] fun x0 =>
.l (.okc 2 true) [(n xs 1)] fun x1 =>
.l (.okc 2 true) [(n xs 2)] fun x2 =>
.call F.head_Prio [x0, x1] fun x3 =>
.l (.tc 0) [x3] fun x4 =>
.l (.tc 1) [x3] fun x5 =>
.call F.head_Prio [x0, x2] fun x6 =>
.l (.tc 0) [x6] fun x7 =>
.l (.tc 1) [x6] fun x8 =>
.l (.arith .sub .i64) [x7, x4] fun x9 =>
.l (.arith .sub .i64) [x7, x4] fun x10 =>
.call F.head_Raise [x1, x10] fun x11 =>
.call F.equal_Equal [x0, x11, x2] fun x12 =>
.call F.equal_offset [x9, x12] fun x13 =>
.l (.tc 0) [x13] fun x14 =>
.l (.tc 1) [x13] fun x15 =>
.ret (.tup [x14, x15])
theorem k_equal_Offset : TxOk P F.equal_Offset 3 t_equal_Offset := txOk_of (H := {}) (plans := []) hm Try.func17 rfl rfl fun xs => by kernel_rfl
def t_ref10_Equal (xs : List PV) : T PV :=
.l (.okc 6 true) [(n xs 0)] fun x0 =>
.l (.okc 6 true) [(n xs 1)] fun x1 =>
.calls F.ref10_compare sg_ref10_compare [x0, x1, (.sl [])] fun z2 =>
.ret (n z2 0)
theorem k_ref10_Equal : TxOk P F.ref10_Equal 2 t_ref10_Equal := txOk_of (H := { wr := [], ro := [], nl := [(5, (0, (129, true)))], fz := [], da := [], sigs := [(50, sg_ref10_compare)] }) (plans := []) hm Try.func18 rfl rfl fun xs => by kernel_rfl
def t_ref02_Raise (xs : List PV) : T PV :=
.l (.okc 6 true) [(n xs 0)] fun x0 =>
.l (.lst 1 false) [] fun x1 =>
.l (.app 1 false 16) [x1, (c 4 x0)] fun x2 =>
.l (.okcs [(1, false), (1, false), (1, false), (1, false)]) [(c 0 x0), (c 1 x0), (c 2 x0), (c 3 x0)] fun x3 =>
.l (.cmp .geq .i64) [(c 0 x0), (i 4)] fun x4 =>
.ite x4 (
 .l (.cmp .leq .i64) [(c 0 x0), (i 7)] fun x5 =>
 .ite x5 (
  .l (.arith .add .i64) [(c 1 x0), (n xs 1)] fun x6 =>
  .l (.okc 1 false) [x6] fun x7 =>
  .loop [(i 0), (c 0 x0), x7, (c 2 x0), (c 3 x0), x2, (.sl [])] fun y8 =>
  .l .len [(c 5 x0)] fun x9 =>
  .l (.cmp .lss .i64) [(n y8 0), x9] fun x10 =>
  .ite x10 (
   .l (.idx 6 true) [(c 5 x0), (n y8 0)] fun x11 =>
   .call F.ref02_Raise [x11, (n xs 1)] fun x12 =>
   .l (.lst 6 true) [x12] fun x13 =>
   .l (.app 6 true 88) [(n y8 6), x13] fun x14 =>
   .l (.arith .add .i64) [(n y8 0), (i 1)] fun x15 =>
   .cont 0 [x15, (n y8 1), (n y8 2), (n y8 3), (n y8 4), (n y8 5), x14]) (
   .ret (.agg [(n y8 1), (n y8 2), (n y8 3), (n y8 4), (n y8 5), (n y8 6)]))) (
  .loop [(i 0), (c 0 x0), (c 1 x0), (c 2 x0), (c 3 x0), x2, (.sl [])] fun y6 =>
  .l .len [(c 5 x0)] fun x7 =>
  .l (.cmp .lss .i64) [(n y6 0), x7] fun x8 =>
  .ite x8 (
   .l (.idx 6 true) [(c 5 x0), (n y6 0)] fun x9 =>
   .call F.ref02_Raise [x9, (n xs 1)] fun x10 =>
   .l (.lst 6 true) [x10] fun x11 =>
   .l (.app 6 true 88) [(n y6 6), x11] fun x12 =>
   .l (.arith .add .i64) [(n y6 0), (i 1)] fun x13 =>
   .cont 0 [x13, (n y6 1), (n y6 2), (n y6 3), (n y6 4), (n y6 5), x12]) (
   .ret (.agg [(n y6 1), (n y6 2), (n y6 3), (n y6 4), (n y6 5), (n y6 6)])))) (
 .loop [(i 0), (c 0 x0), (c 1 x0), (c 2 x0), (c 3 x0), x2, (.sl [])] fun y5 =>
 .l .len [(c 5 x0)] fun x6 =>
 .l (.cmp .lss .i64) [(n y5 0), x6] fun x7 =>
 .ite x7 (
  .l (.idx 6 true) [(c 5 x0), (n y5 0)] fun x8 =>
  .call F.ref02_Raise [x8, (n xs 1)] fun x9 =>
  .l (.lst 6 true) [x9] fun x10 =>
  .l (.app 6 true 88) [(n y5 6), x10] fun x11 =>
  .l (.arith .add .i64) [(n y5 0), (i 1)] fun x12 =>
  .cont 0 [x12, (n y5 1), (n y5 2), (n y5 3), (n y5 4), (n y5 5), x11]) (
  .ret (.agg [(n y5 1), (n y5 2), (n y5 3), (n y5 4), (n y5 5), (n y5 6)])))
theorem k_ref02_Raise : TxOk P F.ref02_Raise 2 t_ref02_Raise := txOk_of (H := { wr := [50], ro := [], nl := [], fz := [], da := [], sigs := [] }) (plans := []) hm Try.func19 rfl rfl fun xs => by kernel_rfl
def u_ref02_Raise (xs : List PV) : T PV :=
.l (.okc 6 true) [(n xs 0)] fun x0 =>
.l (.lst 1 false) [] fun x1 =>
.l (.app 1 false 16) [x1, (c 4 x0)] fun x2 =>
.l (.okcs [(1, false), (1, false), (1, false), (1, false)]) [(c 0 x0), (c 1 x0), (c 2 x0), (c 3 x0)] fun x3 =>
.l (.cmp .geq .i64) [(c 0 x0), (i 4)] fun x4 =>
.ite x4 (
 .l (.cmp .leq .i64) [(c 0 x0), (i 7)] fun x5 =>
 .ite x5 (
  .l (.arith .add .i64) [(c 1 x0), (n xs 1)] fun x6 =>
  .l (.okc 1 false) [x6] fun x7 =>
  .loop [(i 0), (c 0 x0), x7, (c 2 x0), (c 3 x0), x2, (.sl [])] fun y8 =>
  .l .len [(c 5 x0)] fun x9 =>
  .l (.cmp .lss .i64) [(n y8 0), x9] fun x10 =>
  .ite x10 (
   .l (.idx 6 true) [(c 5 x0), (n y8 0)] fun x11 =>
   .call F.ref02_Raise [x11, (n xs 1)] fun x12 =>
   .l (.lst 6 true) [x12] fun x13 =>
   .l (.app 6 true 88) [(n y8 6), x13] fun x14 =>
   .l (.arith .add .i64) [(n y8 0), (i 1)] fun x15 =>
   .cont 0 [x15, (n y8 1), (n y8 2), (n y8 3), (n y8 4), (n y8 5), x14]) (
   .ret (.tup [(n y8 1), (n y8 2), (n y8 3), (n y8 4), (n y8 5), (n y8 6)]))) (
  .loop [(i 0), (c 0 x0), (c 1 x0), (c 2 x0), (c 3 x0), x2, (.sl [])] fun y6 =>
  .l .len [(c 5 x0)] fun x7 =>
  .l (.cmp .lss .i64) [(n y6 0), x7] fun x8 =>
  .ite x8 (
   .l (.idx 6 true) [(c 5 x0), (n y6 0)] fun x9 =>
   .call F.ref02_Raise [x9, (n xs 1)] fun x10 =>
   .l (.lst 6 true) [x10] fun x11 =>
   .l (.app 6 true 88) [(n y6 6), x11] fun x12 =>
   .l (.arith .add .i64) [(n y6 0), (i 1)] fun x13 =>
   .cont 0 [x13, (n y6 1), (n y6 2), (n y6 3), (n y6 4), (n y6 5), x12]) (
   .ret (.tup [(n y6 1), (n y6 2), (n y6 3), (n y6 4), (n y6 5), (n y6 6)])))) (
 .loop [(i 0), (c 0 x0), (c 1 x0), (c 2 x0), (c 3 x0), x2, (.sl [])] fun y5 =>
 .l .len [(c 5 x0)] fun x6 =>
 .l (.cmp .lss .i64) [(n y5 0), x6] fun x7 =>
 .ite x7 (
  .l (.idx 6 true) [(c 5 x0), (n y5 0)] fun x8 =>
  .call F.ref02_Raise [x8, (n xs 1)] fun x9 =>
  .l (.lst 6 true) [x9] fun x10 =>
  .l (.app 6 true 88) [(n y5 6), x10] fun x11 =>
  .l (.arith .add .i64) [(n y5 0), (i 1)] fun x12 =>
  .cont 0 [x12, (n y5 1), (n y5 2), (n y5 3), (n y5 4), (n y5 5), x11]) (
  .ret (.tup [(n y5 1), (n y5 2), (n y5 3), (n y5 4), (n y5 5), (n y5 6)])))
theorem m_ref02_Raise : TxOkS P F.ref02_Raise sg_ref02_Raise u_ref02_Raise := txOkS_of (H := { wr := [50], ro := [], nl := [], fz := [], da := [], sigs := [] }) (plans := []) hm Try.func19 rfl fun xs => by kernel_rfl
def t_ref07_Few (xs : List PV) : T PV :=
.l .len [(n xs 0)] fun x0 =>
.l (.cmp .gtr .i64) [x0, (n xs 1)] fun x1 =>
.ite x1 (
 .ret (.bool false)) (
 .loop [(i 0)] fun y2 =>
 .l .len [(n xs 0)] fun x3 =>
 .l (.cmp .lss .i64) [(n y2 0), x3] fun x4 =>
 .ite x4 (
  .l (.idx 6 true) [(n xs 0), (n y2 0)] fun x5 =>
  .call F.ref02_Small [x5, (n xs 2)] fun x6 =>
  .l .bnot [x6] fun x7 =>
  .ite x7 (
   .ret (.bool false)) (
   .l (.arith .add .i64) [(n y2 0), (i 1)] fun x8 =>
   .cont 0 [x8])) (
  .ret (.bool true)))
theorem k_ref07_Few : TxOk P F.ref07_Few 3 t_ref07_Few := txOk_of (H := {}) (plans := []) hm Try.func20 rfl rfl fun xs => by kernel_rfl
def t_equal_Classes (xs : List PV) : T PV :=
.l (.okc 1 true) [(n xs 0)] fun x0 =>
.l .len [(c 0 x0)] fun x1 =>
.l (.rep 1 false 8 (i 0)) [x1] fun x2 =>
.l .len [x2] fun x3 =>
.loop [(i 0), x2] fun y4 =>
.l (.cmp .lss .i64) [(n y4 0), x3] fun x5 =>
.ite x5 (
 .l (.idx 1 false) [(n y4 1), (n y4 0)] fun x6 =>
 .l (.upd 1 false) [(n y4 1), (n y4 0), (n y4 0)] fun x7 =>
 .loop [(i 0)] fun y8 =>
 .l (.cmp .lss .i64) [(n y8 0), (n y4 0)] fun x9 =>
 .ite x9 (
  .l (.idx 1 false) [x7, (n y8 0)] fun x10 =>
  .l (.idx 1 false) [x7, (n y8 0)] fun x11 =>
  .l (.cmp .eql .i64) [x11, (n y8 0)] fun x12 =>
  .ite x12 (
   .l (.okcs [(1, false)]) [(n y8 0)] fun x13 =>
   .l (.okcs [(1, false)]) [(n y4 0)] fun x14 =>
   .call F.equal_Equal [x0, (.agg [(n y8 0), (i 0)]), (.agg [(n y4 0), (i 0)])] fun x15 =>
   .ite x15 (
    .l (.idx 1 false) [x7, (n y4 0)] fun x16 =>
    .l (.upd 1 false) [x7, (n y4 0), (n y8 0)] fun x17 =>
    .l (.arith .add .i64) [(n y4 0), (i 1)] fun x18 =>
    .cont 0 [x18, x17]) (
    .l (.arith .add .i64) [(n y8 0), (i 1)] fun x16 =>
    .cont 1 [x16])) (
   .l (.arith .add .i64) [(n y8 0), (i 1)] fun x13 =>
   .cont 1 [x13])) (
  .l (.arith .add .i64) [(n y4 0), (i 1)] fun x10 =>
  .cont 0 [x10, x7])) (
 .ret (n y4 1))
theorem k_equal_Classes : TxOk P F.equal_Classes 1 t_equal_Classes := txOk_of (H := {}) (plans := []) hm Try.func21 rfl rfl fun xs => by kernel_rfl
def t_law10_turned (xs : List PV) : T PV :=
.l (.okc 6 true) [(n xs 0)] fun x0 =>
.l (.okcs [(1, false), (1, false), (1, false), (1, false)]) [(c 0 x0), (c 1 x0), (c 2 x0), (c 3 x0)] fun x1 =>
.l .len [(c 4 x0)] fun x2 =>
.l (.arith .sub .i64) [x2, (i 1)] fun x3 =>
.loop [x3, (c 0 x0), (c 1 x0), (c 2 x0), (c 3 x0), (.sl []), (.sl [])] fun y4 =>
.l (.cmp .geq .i64) [(n y4 0), (i 0)] fun x5 =>
.ite x5 (
 .l (.idx 1 false) [(c 4 x0), (n y4 0)] fun x6 =>
 .l (.lst 1 false) [x6] fun x7 =>
 .l (.app 1 false 16) [(n y4 5), x7] fun x8 =>
 .l (.idx 6 true) [(c 5 x0), (n y4 0)] fun x9 =>
 .call F.law10_turned [x9] fun x10 =>
 .l (.lst 6 true) [x10] fun x11 =>
 .l (.app 6 true 88) [(n y4 6), x11] fun x12 =>
 .l (.arith .sub .i64) [(n y4 0), (i 1)] fun x13 =>
 .cont 0 [x13, (n y4 1), (n y4 2), (n y4 3), (n y4 4), x8, x12]) (
 .loop [(i 0), (n y4 1), (n y4 2), (n y4 3), (n y4 4), (n y4 5), (n y4 6)] fun y6 =>
 .l .len [(c 5 x0)] fun x7 =>
 .l (.cmp .lss .i64) [(n y6 0), x7] fun x8 =>
 .ite x8 (
  .l .len [(c 4 x0)] fun x9 =>
  .l (.cmp .eql .i64) [x9, (i 0)] fun x10 =>
  .ite x10 (
   .l (.idx 6 true) [(c 5 x0), (n y6 0)] fun x11 =>
   .call F.law10_turned [x11] fun x12 =>
   .l (.lst 6 true) [x12] fun x13 =>
   .l (.app 6 true 88) [(n y6 6), x13] fun x14 =>
   .l (.arith .add .i64) [(n y6 0), (i 1)] fun x15 =>
   .cont 1 [x15, (n y6 1), (n y6 2), (n y6 3), (n y6 4), (n y6 5), x14]) (
   .ret (.agg [(n y6 1), (n y6 2), (n y6 3), (n y6 4), (n y6 5), (n y6 6)]))) (
  .ret (.agg [(n y6 1), (n y6 2), (n y6 3), (n y6 4), (n y6 5), (n y6 6)])))
theorem k_law10_turned : TxOk P F.law10_turned 1 t_law10_turned := txOk_of (H := {}) (plans := []) hm Try.func22 rfl rfl fun xs => by kernel_rfl
def t_law13_awake (xs : List PV) : T PV :=
.l (.lst 6 true) [(.agg [(i 1), (i 0), (.str ⟨#[]⟩), (i 0), (.sl []), (.sl [])]), (.agg [(i 3), (i 0), (.str ⟨#[]⟩), (i 0), (.sl []), (.sl [])])] fun x0 =>
.l (.lst 6 true) [(.agg [(i 3), (i 0), (.str ⟨#[]⟩), (i 0), (.sl []), (.sl [])]), (.agg [(i 4), (i 3), (.str ⟨#[]⟩), (i 0), (.sl []), x0])] fun x1 =>
.call F.law08_Graph [x1] fun x2 =>
.l (.tc 0) [x2] fun x3 =>
.l (.tc 1) [x2] fun x4 =>
.l (.okc 1 true) [x3] fun x5 =>
.l (.idx 2 true) [x4, (i 0)] fun x6 =>
.l (.okcs [(2, true)]) [x6] fun x7 =>
.l (.idx 2 true) [x4, (i 1)] fun x8 =>
.l (.okcs [(2, true)]) [x8] fun x9 =>
.l (.lst 3 true) [(.agg [(.str ⟨#[97]⟩), (c 0 x6), (c 1 x6)]), (.agg [(.str ⟨#[98]⟩), (c 0 x8), (c 1 x8)])] fun x10 =>
.l (.lst 1 false) [(.str ⟨#[98]⟩)] fun x11 =>
.call F.context_Split [x5, x10, x11] fun x12 =>
.l (.tc 0) [x12] fun x13 =>
.l (.tc 1) [x12] fun x14 =>
.call F.context_Find [x10, (.str ⟨#[98]⟩)] fun x15 =>
.l (.tc 0) [x15] fun x16 =>
.l (.tc 1) [x15] fun x17 =>
.l (.okc 2 true) [x16] fun x18 =>
.call F.context_Lowest [x5, x10, (.str ⟨#[97]⟩)] fun x19 =>
.l (.tc 0) [x19] fun x20 =>
.l (.tc 1) [x19] fun x21 =>
.call F.context_Lowest [x5, x10, (.str ⟨#[98]⟩)] fun x22 =>
.l (.tc 0) [x22] fun x23 =>
.l (.tc 1) [x22] fun x24 =>
.l .len [x13] fun x25 =>
.l (.cmp .eql .i64) [x25, (i 2)] fun x26 =>
.ite x26 (
 .l .len [x14] fun x27 =>
 .l (.cmp .eql .i64) [x27, (i 1)] fun x28 =>
 .ite x28 (
  .l (.idx 3 true) [x14, (i 0)] fun x29 =>
  .l (.idx 3 true) [x10, (i 0)] fun x30 =>
  .l (.acmp .eql [.s, .i .i64, .i .i64]) [x29, x30] fun x31 =>
  .ite x31 (
   .l (.idx 2 true) [x4, (i 1)] fun x32 =>
   .l (.acmp .eql [.i .i64, .i .i64]) [x18, x32] fun x33 =>
   .ite x33 (
    .ite x17 (
     .l (.cmp .eql .i64) [x20, (i 3)] fun x34 =>
     .ite x34 (
      .ite x21 (
       .l .bnot [x24] fun x35 =>
       .ite x35 (
        .call F.context_Live [x5, x10] fun x36 =>
        .l .len [x36] fun x37 =>
        .l (.cmp .eql .i64) [x37, (i 1)] fun x38 =>
        .ite x38 (
         .call F.context_Drop [x10, (.str ⟨#[97]⟩)] fun x39 =>
         .l .len [x39] fun x40 =>
         .l (.cmp .eql .i64) [x40, (i 1)] fun x41 =>
         .ite x41 (
          .l (.idx 2 true) [x4, (i 1)] fun x42 =>
          .call F.context_Set [x10, (.str ⟨#[97]⟩), x42] fun x43 =>
          .l .len [x43] fun x44 =>
          .l (.cmp .eql .i64) [x44, (i 2)] fun x45 =>
          .ite x45 (
           .l (.idx 2 true) [x4, (i 1)] fun x46 =>
           .call F.context_Set [x10, (.str ⟨#[100]⟩), x46] fun x47 =>
           .l .len [x47] fun x48 =>
           .l (.cmp .eql .i64) [x48, (i 3)] fun x49 =>
           .ret x49) (
           .ret (.bool false))) (
          .ret (.bool false))) (
         .ret (.bool false))) (
        .ret (.bool false))) (
       .ret (.bool false))) (
      .ret (.bool false))) (
     .ret (.bool false))) (
    .ret (.bool false))) (
   .ret (.bool false))) (
  .ret (.bool false))) (
 .ret (.bool false))
theorem k_law13_awake : TxOk P F.law13_awake 0 t_law13_awake := txOk_of (H := {}) (plans := []) hm Try.func23 rfl rfl fun xs => by kernel_rfl
def t_context_Set (xs : List PV) : T PV :=
.l (.okc 2 true) [(n xs 2)] fun x0 =>
.calls F.slices_Clone_context_Entry_context_Entry sg_slices_Clone_context_Entry_context_Entry [(n xs 0)] fun z1 =>
.call F.context_index [(n xs 0), (n xs 1)] fun x2 =>
.l (.cmp .geq .i64) [x2, (i 0)] fun x3 =>
.ite x3 (
 .l (.idx 3 true) [(n z1 0), x2] fun x4 =>
 .l (.updF 3 1 2 true) [(n z1 0), x2, x0] fun x5 =>
 .ret x5) (
 .l (.okcs [(1, false), (2, true)]) [(n xs 1), x0] fun x4 =>
 .l (.lst 3 true) [(.agg [(n xs 1), (c 0 x0), (c 1 x0)])] fun x5 =>
 .l (.app 3 true 32) [(n z1 0), x5] fun x6 =>
 .ret x6)
theorem k_context_Set : TxOk P F.context_Set 3 t_context_Set := txOk_of (H := { wr := [], ro := [], nl := [], fz := [], da := [], sigs := [(52, sg_slices_Clone_context_Entry_context_Entry)] }) (plans := []) hm Try.func24 rfl rfl fun xs => by kernel_rfl
def t_law13_find (xs : List PV) : T PV :=
.loop [(i 0)] fun y0 =>
.l .len [(n xs 0)] fun x1 =>
.l (.cmp .lss .i64) [(n y0 0), x1] fun x2 =>
.ite x2 (
 .l (.idx 3 true) [(n xs 0), (n y0 0)] fun x3 =>
 .l (.scmp .eql) [(c 0 x3), (n xs 1)] fun x4 =>
 .ite x4 (
  .l (.idx 3 true) [(n xs 0), (n y0 0)] fun x5 =>
  .l (.okc 2 true) [(sb 1 2 x5)] fun x6 =>
  .ret (.tup [x6, (.bool true)])) (
  .l (.arith .add .i64) [(n y0 0), (i 1)] fun x5 =>
  .cont 0 [x5])) (
 .ret (.tup [(.agg [(i 0), (i 0)]), (.bool false)]))
theorem k_law13_find : TxOk P F.law13_find 2 t_law13_find := txOk_of (H := {}) (plans := []) hm Try.func25 rfl rfl fun xs => by kernel_rfl
def t_context_Find (xs : List PV) : T PV :=
.call F.context_index [(n xs 0), (n xs 1)] fun x0 =>
.l (.cmp .lss .i64) [x0, (i 0)] fun x1 =>
.ite x1 (
 .ret (.tup [(.agg [(i 0), (i 0)]), (.bool false)])) (
 .l (.idx 3 true) [(n xs 0), x0] fun x2 =>
 .l (.okc 2 true) [(sb 1 2 x2)] fun x3 =>
 .ret (.tup [x3, (.bool true)]))
theorem k_context_Find : TxOk P F.context_Find 2 t_context_Find := txOk_of (H := {}) (plans := []) hm Try.func26 rfl rfl fun xs => by kernel_rfl
def t_law13_right (xs : List PV) : T PV :=
.loop [(i 0), (.sl [])] fun y0 =>
.l .len [(n xs 0)] fun x1 =>
.l (.cmp .lss .i64) [(n y0 0), x1] fun x2 =>
.ite x2 (
 .loop [(i 0)] fun y3 =>
 .l (.cmp .lss .i64) [(n y3 0), (n y0 0)] fun x4 =>
 .ite x4 (
  .l (.idx 7 true) [(n xs 0), (n y3 0)] fun x5 =>
  .l (.idx 7 true) [(n xs 0), (n y0 0)] fun x6 =>
  .l (.scmp .eql) [(c 0 x5), (c 0 x6)] fun x7 =>
  .ite x7 (
   .ret (.bool false)) (
   .l (.arith .add .i64) [(n y3 0), (i 1)] fun x8 =>
   .cont 1 [x8])) (
  .l (.idx 7 true) [(n xs 0), (n y0 0)] fun x5 =>
  .l (.lst 6 true) [(sb 1 6 x5)] fun x6 =>
  .l (.app 6 true 88) [(n y0 1), x6] fun x7 =>
  .l (.arith .add .i64) [(n y0 0), (i 1)] fun x8 =>
  .cont 0 [x8, x7])) (
 .call F.ref07_Few [(n y0 1), (i 12), (i 60)] fun x3 =>
 .ret x3)
theorem k_law13_right : TxOk P F.law13_right 1 t_law13_right := txOk_of (H := {}) (plans := []) hm Try.func27 rfl rfl fun xs => by kernel_rfl
def t_law13_build (xs : List PV) : T PV :=
.loop [(i 0), (.sl [])] fun y0 =>
.l .len [(n xs 0)] fun x1 =>
.l (.cmp .lss .i64) [(n y0 0), x1] fun x2 =>
.ite x2 (
 .l (.idx 7 true) [(n xs 0), (n y0 0)] fun x3 =>
 .l (.lst 6 true) [(sb 1 6 x3)] fun x4 =>
 .l (.app 6 true 88) [(n y0 1), x4] fun x5 =>
 .l (.arith .add .i64) [(n y0 0), (i 1)] fun x6 =>
 .cont 0 [x6, x5]) (
 .call F.law08_Graph [(n y0 1)] fun x3 =>
 .l (.tc 0) [x3] fun x4 =>
 .l (.tc 1) [x3] fun x5 =>
 .l (.okc 1 true) [x4] fun x6 =>
 .loop [(i 0), (.sl [])] fun y7 =>
 .l .len [(n xs 0)] fun x8 =>
 .l (.cmp .lss .i64) [(n y7 0), x8] fun x9 =>
 .ite x9 (
  .l (.idx 7 true) [(n xs 0), (n y7 0)] fun x10 =>
  .l (.idx 2 true) [x5, (n y7 0)] fun x11 =>
  .l (.okcs [(1, false), (2, true)]) [(c 0 x10), x11] fun x12 =>
  .l (.lst 3 true) [(.agg [(c 0 x10), (c 0 x11), (c 1 x11)])] fun x13 =>
  .l (.app 3 true 32) [(n y7 1), x13] fun x14 =>
  .l (.arith .add .i64) [(n y7 0), (i 1)] fun x15 =>
  .cont 1 [x15, x14]) (
  .l (.okc 1 true) [x6] fun x10 =>
  .ret (.tup [x10, (n y7 1)])))
theorem k_law13_build : TxOk P F.law13_build 1 t_law13_build := txOk_of (H := {}) (plans := []) hm Try.func28 rfl rfl fun xs => by kernel_rfl
def t_context_Split (xs : List PV) : T PV :=
.l (.okc 1 true) [(n xs 0)] fun x0 =>
.l (.okc 1 false) [(n xs 2)] fun x1 =>
.l (.okc 1 false) [(.fn F.context_Split_1 [] [(.box x1)])] fun x2 =>
.call F.context_selected_context_Entry [(n xs 1), (.fn F.context_Split_2 [] [(.box x0), (.box x2)])] fun x3 =>
.call F.context_selected_context_Entry [(n xs 1), (.fn F.context_Split_3 [] [(.box x0), (.box x2)])] fun x4 =>
.ret (.tup [x3, x4])
theorem k_context_Split : TxOk P F.context_Split 3 t_context_Split := txOk_of (H := {}) (plans := []) hm Try.func29 rfl rfl fun xs => by kernel_rfl
def t_ref13_Split (xs : List PV) : T PV :=
.loop [(i 0), (.sl []), (.sl [])] fun y0 =>
.l .len [(n xs 0)] fun x1 =>
.l (.cmp .lss .i64) [(n y0 0), x1] fun x2 =>
.ite x2 (
 .l (.idx 7 true) [(n xs 0), (n y0 0)] fun x3 =>
 .call F.ref13_IsLive [(sb 1 6 x3)] fun x4 =>
 .l (.idx 7 true) [(n xs 0), (n y0 0)] fun x5 =>
 .call F.ref03_In [(c 0 x5), (n xs 1)] fun x6 =>
 .l .bnot [x4] fun x7 =>
 .ite x7 (
  .l (.idx 7 true) [(n xs 0), (n y0 0)] fun x8 =>
  .l (.lst 7 true) [x8] fun x9 =>
  .l (.app 7 true 104) [(n y0 2), x9] fun x10 =>
  .l .bnot [x4] fun x11 =>
  .ite x11 (
   .l (.idx 7 true) [(n xs 0), (n y0 0)] fun x12 =>
   .l (.lst 7 true) [x12] fun x13 =>
   .l (.app 7 true 104) [(n y0 1), x13] fun x14 =>
   .l (.arith .add .i64) [(n y0 0), (i 1)] fun x15 =>
   .cont 0 [x15, x14, x10]) (
   .l .bnot [x6] fun x12 =>
   .ite x12 (
    .l (.idx 7 true) [(n xs 0), (n y0 0)] fun x13 =>
    .l (.lst 7 true) [x13] fun x14 =>
    .l (.app 7 true 104) [(n y0 1), x14] fun x15 =>
    .l (.arith .add .i64) [(n y0 0), (i 1)] fun x16 =>
    .cont 0 [x16, x15, x10]) (
    .l (.arith .add .i64) [(n y0 0), (i 1)] fun x13 =>
    .cont 0 [x13, (n y0 1), x10]))) (
  .ite x6 (
   .l (.idx 7 true) [(n xs 0), (n y0 0)] fun x8 =>
   .l (.lst 7 true) [x8] fun x9 =>
   .l (.app 7 true 104) [(n y0 2), x9] fun x10 =>
   .l .bnot [x4] fun x11 =>
   .ite x11 (
    .l (.idx 7 true) [(n xs 0), (n y0 0)] fun x12 =>
    .l (.lst 7 true) [x12] fun x13 =>
    .l (.app 7 true 104) [(n y0 1), x13] fun x14 =>
    .l (.arith .add .i64) [(n y0 0), (i 1)] fun x15 =>
    .cont 0 [x15, x14, x10]) (
    .l .bnot [x6] fun x12 =>
    .ite x12 (
     .l (.idx 7 true) [(n xs 0), (n y0 0)] fun x13 =>
     .l (.lst 7 true) [x13] fun x14 =>
     .l (.app 7 true 104) [(n y0 1), x14] fun x15 =>
     .l (.arith .add .i64) [(n y0 0), (i 1)] fun x16 =>
     .cont 0 [x16, x15, x10]) (
     .l (.arith .add .i64) [(n y0 0), (i 1)] fun x13 =>
     .cont 0 [x13, (n y0 1), x10]))) (
   .l .bnot [x4] fun x8 =>
   .ite x8 (
    .l (.idx 7 true) [(n xs 0), (n y0 0)] fun x9 =>
    .l (.lst 7 true) [x9] fun x10 =>
    .l (.app 7 true 104) [(n y0 1), x10] fun x11 =>
    .l (.arith .add .i64) [(n y0 0), (i 1)] fun x12 =>
    .cont 0 [x12, x11, (n y0 2)]) (
    .l .bnot [x6] fun x9 =>
    .ite x9 (
     .l (.idx 7 true) [(n xs 0), (n y0 0)] fun x10 =>
     .l (.lst 7 true) [x10] fun x11 =>
     .l (.app 7 true 104) [(n y0 1), x11] fun x12 =>
     .l (.arith .add .i64) [(n y0 0), (i 1)] fun x13 =>
     .cont 0 [x13, x12, (n y0 2)]) (
     .l (.arith .add .i64) [(n y0 0), (i 1)] fun x10 =>
     .cont 0 [x10, (n y0 1), (n y0 2)]))))) (
 .ret (.tup [(n y0 2), (n y0 1)]))
theorem k_ref13_Split : TxOk P F.ref13_Split 2 t_ref13_Split := txOk_of (H := {}) (plans := []) hm Try.func30 rfl rfl fun xs => by kernel_rfl
def t_law13_same (xs : List PV) : T PV :=
.l .len [(n xs 0)] fun x0 =>
.l .len [(n xs 1)] fun x1 =>
.l (.cmp .neq .i64) [x0, x1] fun x2 =>
.ite x2 (
 .ret (.bool false)) (
 .loop [(i 0)] fun y3 =>
 .l .len [(n xs 0)] fun x4 =>
 .l (.cmp .lss .i64) [(n y3 0), x4] fun x5 =>
 .ite x5 (
  .l (.idx 7 true) [(n xs 1), (n y3 0)] fun x6 =>
  .call F.law13_find [(n xs 2), (c 0 x6)] fun x7 =>
  .l (.tc 0) [x7] fun x8 =>
  .l (.tc 1) [x7] fun x9 =>
  .l (.okc 2 true) [x8] fun x10 =>
  .l (.idx 3 true) [(n xs 0), (n y3 0)] fun x11 =>
  .l (.idx 7 true) [(n xs 1), (n y3 0)] fun x12 =>
  .l (.scmp .neq) [(c 0 x11), (c 0 x12)] fun x13 =>
  .ite x13 (
   .ret (.bool false)) (
   .l .bnot [x9] fun x14 =>
   .ite x14 (
    .ret (.bool false)) (
    .l (.idx 3 true) [(n xs 0), (n y3 0)] fun x15 =>
    .l (.acmp .neq [.i .i64, .i .i64]) [(sb 1 2 x15), x10] fun x16 =>
    .ite x16 (
     .ret (.bool false)) (
     .l (.arith .add .i64) [(n y3 0), (i 1)] fun x17 =>
     .cont 0 [x17])))) (
  .ret (.bool true)))
theorem k_law13_same : TxOk P F.law13_same 3 t_law13_same := txOk_of (H := {}) (plans := []) hm Try.func31 rfl rfl fun xs => by kernel_rfl
def t_ref13_IsLive (xs : List PV) : T PV :=
.l (.okc 6 true) [(n xs 0)] fun x0 =>
.call F.ref08_Prio [x0] fun x1 =>
.l (.tc 0) [x1] fun x2 =>
.l (.tc 1) [x1] fun x3 =>
.ret x3
theorem k_ref13_IsLive : TxOk P F.ref13_IsLive 1 t_ref13_IsLive := txOk_of (H := {}) (plans := []) hm Try.func32 rfl rfl fun xs => by kernel_rfl
def t_context_Drop (xs : List PV) : T PV :=
.l (.okc 1 false) [(n xs 1)] fun x0 =>
.call F.context_selected_context_Entry [(n xs 0), (.fn F.context_Drop_1 [] [(.box x0)])] fun x1 =>
.ret x1
theorem k_context_Drop : TxOk P F.context_Drop 2 t_context_Drop := txOk_of (H := {}) (plans := []) hm Try.func33 rfl rfl fun xs => by kernel_rfl
def t_context_Lowest (xs : List PV) : T PV :=
.l (.okc 1 true) [(n xs 0)] fun x0 =>
.call F.context_others [(n xs 1), (n xs 2)] fun x1 =>
.call F.slices_Collect_graph_Ref [x1] fun x2 =>
.call F.head_Lowest [x0, x2] fun x3 =>
.l (.tc 0) [x3] fun x4 =>
.l (.tc 1) [x3] fun x5 =>
.ret (.tup [x4, x5])
theorem k_context_Lowest : TxOk P F.context_Lowest 3 t_context_Lowest := txOk_of (H := {}) (plans := []) hm Try.func34 rfl rfl fun xs => by kernel_rfl
def t_ref13_Find (xs : List PV) : T PV :=
.loop [(i 0)] fun y0 =>
.l .len [(n xs 0)] fun x1 =>
.l (.cmp .lss .i64) [(n y0 0), x1] fun x2 =>
.ite x2 (
 .l (.idx 7 true) [(n xs 0), (n y0 0)] fun x3 =>
 .l (.scmp .eql) [(c 0 x3), (n xs 1)] fun x4 =>
 .ite x4 (
  .l (.idx 7 true) [(n xs 0), (n y0 0)] fun x5 =>
  .l (.okc 6 true) [(sb 1 6 x5)] fun x6 =>
  .ret (.tup [x6, (.bool true)])) (
  .l (.arith .add .i64) [(n y0 0), (i 1)] fun x5 =>
  .cont 0 [x5])) (
 .ret (.tup [(.agg [(i 0), (i 0), (.str ⟨#[]⟩), (i 0), (.sl []), (.sl [])]), (.bool false)]))
theorem k_ref13_Find : TxOk P F.ref13_Find 2 t_ref13_Find := txOk_of (H := {}) (plans := []) hm Try.func35 rfl rfl fun xs => by kernel_rfl
def t_law13_inside (xs : List PV) : T PV :=
.loop [(i 0)] fun y0 =>
.l .len [(n xs 0)] fun x1 =>
.l (.cmp .lss .i64) [(n y0 0), x1] fun x2 =>
.ite x2 (
 .l (.idx 3 true) [(n xs 0), (n y0 0)] fun x3 =>
 .l (.cmp .lss .i64) [(c 1 x3), (i 0)] fun x4 =>
 .ite x4 (
  .ret (.bool false)) (
  .l (.idx 3 true) [(n xs 0), (n y0 0)] fun x5 =>
  .l (.cmp .geq .i64) [(c 1 x5), (n xs 1)] fun x6 =>
  .ite x6 (
   .ret (.bool false)) (
   .l (.arith .add .i64) [(n y0 0), (i 1)] fun x7 =>
   .cont 0 [x7]))) (
 .ret (.bool true))
theorem k_law13_inside : TxOk P F.law13_inside 2 t_law13_inside := txOk_of (H := {}) (plans := []) hm Try.func36 rfl rfl fun xs => by kernel_rfl
def t_ref13_Lowest (xs : List PV) : T PV :=
.loop [(i 0), (.sl [])] fun y0 =>
.l .len [(n xs 0)] fun x1 =>
.l (.cmp .lss .i64) [(n y0 0), x1] fun x2 =>
.ite x2 (
 .l (.idx 7 true) [(n xs 0), (n y0 0)] fun x3 =>
 .l (.scmp .neq) [(c 0 x3), (n xs 1)] fun x4 =>
 .ite x4 (
  .l (.idx 7 true) [(n xs 0), (n y0 0)] fun x5 =>
  .l (.lst 6 true) [(sb 1 6 x5)] fun x6 =>
  .l (.app 6 true 88) [(n y0 1), x6] fun x7 =>
  .l (.arith .add .i64) [(n y0 0), (i 1)] fun x8 =>
  .cont 0 [x8, x7]) (
  .l (.arith .add .i64) [(n y0 0), (i 1)] fun x5 =>
  .cont 0 [x5, (n y0 1)])) (
 .call F.ref08_Lowest [(n y0 1)] fun x3 =>
 .l (.tc 0) [x3] fun x4 =>
 .l (.tc 1) [x3] fun x5 =>
 .ret (.tup [x4, x5]))
theorem k_ref13_Lowest : TxOk P F.ref13_Lowest 2 t_ref13_Lowest := txOk_of (H := {}) (plans := []) hm Try.func37 rfl rfl fun xs => by kernel_rfl
def t_law10_loop (xs : List PV) : T PV :=
.l (.okcs [(1, false)]) [(n xs 1)] fun x0 =>
.call F.law10_send [(n xs 0), (.agg [(i 9), (i 0), (.str ⟨#[116]⟩), (n xs 1), (.sl []), (.sl [])])] fun x1 =>
.l (.lst 6 true) [x1] fun x2 =>
.ret (.agg [(i 8), (i 0), (.str ⟨#[116]⟩), (i 0), (.sl []), x2])
theorem k_law10_loop : TxOk P F.law10_loop 2 t_law10_loop := txOk_of (H := {}) (plans := []) hm Try.func38 rfl rfl fun xs => by kernel_rfl
def t_law10_send (xs : List PV) : T PV :=
.l (.okc 6 true) [(n xs 1)] fun x0 =>
.l (.lst 6 true) [(.agg [(i 1), (i 0), (.str ⟨#[]⟩), (i 0), (.sl []), (.sl [])]), x0] fun x1 =>
.l (.okcs [(1, false)]) [(n xs 0)] fun x2 =>
.ret (.agg [(i 4), (n xs 0), (.str ⟨#[]⟩), (i 0), (.sl []), x1])
theorem k_law10_send : TxOk P F.law10_send 2 t_law10_send := txOk_of (H := {}) (plans := []) hm Try.func39 rfl rfl fun xs => by kernel_rfl
def t_ref02_Few (xs : List PV) : T PV :=
.l (.okc 6 true) [(n xs 0)] fun x0 =>
.call F.ref02_count [x0, (n xs 1)] fun x1 =>
.l (.cmp .geq .i64) [x1, (i 0)] fun x2 =>
.ite x2 (
 .call F.ref02_Depth [x0] fun x3 =>
 .l (.cmp .leq .i64) [x3, (i 150)] fun x4 =>
 .ret x4) (
 .ret (.bool false))
theorem k_ref02_Few : TxOk P F.ref02_Few 2 t_ref02_Few := txOk_of (H := {}) (plans := []) hm Try.func40 rfl rfl fun xs => by kernel_rfl
def t_ref02_Right (xs : List PV) : T PV :=
.l (.okc 6 true) [(n xs 0)] fun x0 =>
.call F.ref02_Depth [x0] fun x1 =>
.l (.cmp .gtr .i64) [x1, (i 100)] fun x2 =>
.ite x2 (
 .ret (i 2)) (
 .call F.ref02_Size [x0] fun x3 =>
 .l (.cmp .gtr .i64) [x3, (i 10000)] fun x4 =>
 .ite x4 (
  .ret (i 2)) (
  .call F.ref02_node [x0, (.sl []), (i 0), (.bool false)] fun x5 =>
  .ret x5))
theorem k_ref02_Right : TxOk P F.ref02_Right 1 t_ref02_Right := txOk_of (H := {}) (plans := []) hm Try.func41 rfl rfl fun xs => by kernel_rfl
def t_ref02_put (xs : List PV) : T PV :=
.l (.okc 6 true) [(n xs 0)] fun x0 =>
.l (.okc 6 true) [(n xs 2)] fun x1 =>
.l (.cmp .eql .i64) [(c 0 x0), (i 9)] fun x2 =>
.ite x2 (
 .l (.scmp .eql) [(c 2 x0), (n xs 1)] fun x3 =>
 .ite x3 (
  .calls F.ref02_Raise sg_ref02_Raise [x1, (c 3 x0)] fun z4 =>
  .ret (.agg [(n z4 0), (n z4 1), (n z4 2), (n z4 3), (n z4 4), (n z4 5)])) (
  .calls F.ref02_Raise sg_ref02_Raise [x0, (i 0)] fun z4 =>
  .l (.cmp .eql .i64) [(c 0 x0), (i 8)] fun x5 =>
  .ite x5 (
   .l (.scmp .eql) [(c 2 x0), (n xs 1)] fun x6 =>
   .ite x6 (
    .ret (.agg [(n z4 0), (n z4 1), (n z4 2), (n z4 3), (n z4 4), (n z4 5)])) (
    .loop [(i 0), (n z4 5)] fun y7 =>
    .l .len [(c 5 x0)] fun x8 =>
    .l (.cmp .lss .i64) [(n y7 0), x8] fun x9 =>
    .ite x9 (
     .l (.idx 6 true) [(c 5 x0), (n y7 0)] fun x10 =>
     .call F.ref02_put [x10, (n xs 1), x1] fun x11 =>
     .l (.idx 6 true) [(n y7 1), (n y7 0)] fun x12 =>
     .l (.upd 6 true) [(n y7 1), (n y7 0), x11] fun x13 =>
     .l (.arith .add .i64) [(n y7 0), (i 1)] fun x14 =>
     .cont 0 [x14, x13]) (
     .ret (.agg [(n z4 0), (n z4 1), (n z4 2), (n z4 3), (n z4 4), (n y7 1)])))) (
   .loop [(i 0), (n z4 5)] fun y6 =>
   .l .len [(c 5 x0)] fun x7 =>
   .l (.cmp .lss .i64) [(n y6 0), x7] fun x8 =>
   .ite x8 (
    .l (.idx 6 true) [(c 5 x0), (n y6 0)] fun x9 =>
    .call F.ref02_put [x9, (n xs 1), x1] fun x10 =>
    .l (.idx 6 true) [(n y6 1), (n y6 0)] fun x11 =>
    .l (.upd 6 true) [(n y6 1), (n y6 0), x10] fun x12 =>
    .l (.arith .add .i64) [(n y6 0), (i 1)] fun x13 =>
    .cont 0 [x13, x12]) (
    .ret (.agg [(n z4 0), (n z4 1), (n z4 2), (n z4 3), (n z4 4), (n y6 1)]))))) (
 .calls F.ref02_Raise sg_ref02_Raise [x0, (i 0)] fun z3 =>
 .l (.cmp .eql .i64) [(c 0 x0), (i 8)] fun x4 =>
 .ite x4 (
  .l (.scmp .eql) [(c 2 x0), (n xs 1)] fun x5 =>
  .ite x5 (
   .ret (.agg [(n z3 0), (n z3 1), (n z3 2), (n z3 3), (n z3 4), (n z3 5)])) (
   .loop [(i 0), (n z3 5)] fun y6 =>
   .l .len [(c 5 x0)] fun x7 =>
   .l (.cmp .lss .i64) [(n y6 0), x7] fun x8 =>
   .ite x8 (
    .l (.idx 6 true) [(c 5 x0), (n y6 0)] fun x9 =>
    .call F.ref02_put [x9, (n xs 1), x1] fun x10 =>
    .l (.idx 6 true) [(n y6 1), (n y6 0)] fun x11 =>
    .l (.upd 6 true) [(n y6 1), (n y6 0), x10] fun x12 =>
    .l (.arith .add .i64) [(n y6 0), (i 1)] fun x13 =>
    .cont 0 [x13, x12]) (
    .ret (.agg [(n z3 0), (n z3 1), (n z3 2), (n z3 3), (n z3 4), (n y6 1)])))) (
  .loop [(i 0), (n z3 5)] fun y5 =>
  .l .len [(c 5 x0)] fun x6 =>
  .l (.cmp .lss .i64) [(n y5 0), x6] fun x7 =>
  .ite x7 (
   .l (.idx 6 true) [(c 5 x0), (n y5 0)] fun x8 =>
   .call F.ref02_put [x8, (n xs 1), x1] fun x9 =>
   .l (.idx 6 true) [(n y5 1), (n y5 0)] fun x10 =>
   .l (.upd 6 true) [(n y5 1), (n y5 0), x9] fun x11 =>
   .l (.arith .add .i64) [(n y5 0), (i 1)] fun x12 =>
   .cont 0 [x12, x11]) (
   .ret (.agg [(n z3 0), (n z3 1), (n z3 2), (n z3 3), (n z3 4), (n y5 1)]))))
theorem k_ref02_put : TxOk P F.ref02_put 3 t_ref02_put := txOk_of (H := { wr := [], ro := [], nl := [], fz := [], da := [], sigs := [(19, sg_ref02_Raise)] }) (plans := []) hm Try.func42 rfl rfl fun xs => by kernel_rfl
def t_ref07_Build (xs : List PV) : T PV :=
.loop [(i 0), (.sl []), (.sl [])] fun y0 =>
.l .len [(n xs 0)] fun x1 =>
.l (.cmp .lss .i64) [(n y0 0), x1] fun x2 =>
.ite x2 (
 .l (.idx 6 true) [(n xs 0), (n y0 0)] fun x3 =>
 .l .len [(n y0 2)] fun x4 =>
 .call F.ref07_reference [x3, x4, (.sl []), (.sl [])] fun x5 =>
 .l (.lst 2 true) [x5] fun x6 =>
 .l (.app 2 true 16) [(n y0 1), x6] fun x7 =>
 .l (.idx 6 true) [(n xs 0), (n y0 0)] fun x8 =>
 .l .len [(n y0 2)] fun x9 =>
 .call F.ref07_nodes [x8, x9, (.sl []), (.sl [])] fun x10 =>
 .l (.app 4 true 64) [(n y0 2), x10] fun x11 =>
 .l (.arith .add .i64) [(n y0 0), (i 1)] fun x12 =>
 .cont 0 [x12, x7, x11]) (
 .ret (.tup [(n y0 2), (n y0 1)]))
theorem k_ref07_Build : TxOk P F.ref07_Build 1 t_ref07_Build := txOk_of (H := {}) (plans := []) hm Try.func43 rfl rfl fun xs => by kernel_rfl
def t_equal_Equal_1 (xs : List PV) : T PV :=
.l (.okc 2 true) [(n xs 0)] fun x0 =>
.l (.okc 2 true) [(n xs 1)] fun x1 =>
.l (.unbox 1 true) [(n xs 2)] fun x2 =>
.call F.head_Prio [x2, x0] fun x3 =>
.l (.tc 0) [x3] fun x4 =>
.l (.tc 1) [x3] fun x5 =>
.l (.unbox 1 true) [(n xs 2)] fun x6 =>
.call F.head_Prio [x6, x1] fun x7 =>
.l (.tc 0) [x7] fun x8 =>
.l (.tc 1) [x7] fun x9 =>
.l (.cmp .eql .i64) [x4, x8] fun x10 =>
.ret x10
theorem k_equal_Equal_1 : TxOk P F.equal_Equal_1 3 t_equal_Equal_1 := txOk_of (H := {}) (plans := []) hm Try.func44 rfl rfl fun xs => by kernel_rfl
def t_head_Prio (xs : List PV) : T PV :=
.l (.okc 1 true) [(n xs 0)] fun x0 =>
.l (.okc 2 true) [(n xs 1)] fun x1 =>
.l (.idx 4 true) [(c 0 x0), (c 0 x1)] fun x2 =>
.l (.okc 4 true) [x2] fun x3 =>
.call F.head_action [(c 0 x3)] fun x4 =>
.l .bnot [x4] fun x5 =>
.ite x5 (
 .ret (.tup [(i 0), (.bool false)])) (
 .l (.arith .add .i64) [(c 1 x3), (c 1 x1)] fun x6 =>
 .ret (.tup [x6, (.bool true)]))
theorem k_head_Prio : TxOk P F.head_Prio 2 t_head_Prio := txOk_of (H := {}) (plans := []) hm Try.func45 rfl rfl fun xs => by kernel_rfl
-- NOT TOLD: 46 (*duologue/equal.comparison).equal: 1
def u_equal_comparison_equal (xs : List PV) : T PV :=
.l (.okc 2 true) [(n xs 0)] fun x0 =>
.l (.okc 2 true) [(n xs 1)] fun x1 =>
.l (.idx 4 true) [(n xs 2), (c 0 x0)] fun x2 =>
.l (.idx 4 true) [(n xs 2), (c 0 x1)] fun x3 =>
.l (.okc 4 true) [x2] fun x4 =>
.l (.okc 4 true) [x3] fun x5 =>
.l (.cmp .neq .i64) [(c 0 x4), (c 0 x5)] fun x6 =>
.ite x6 (
 .ret (.tup [(.bool false), (n xs 2), (n xs 3), (n xs 4), (n xs 5)])) (
 .l .len [(c 2 x4)] fun x7 =>
 .l .len [(c 2 x5)] fun x8 =>
 .l (.cmp .neq .i64) [x7, x8] fun x9 =>
 .ite x9 (
  .ret (.tup [(.bool false), (n xs 2), (n xs 3), (n xs 4), (n xs 5)])) (
  .callv (n xs 3) [x0, x1] fun x10 =>
  .l .bnot [x10] fun x11 =>
  .ite x11 (
   .ret (.tup [(.bool false), (n xs 2), (n xs 3), (n xs 4), (n xs 5)])) (
   .call F.equal_comparison_key [(.box (.agg [(n xs 2), (n xs 5), (n xs 3), (n xs 4)])), x0, x1] fun x12 =>
   .l .gnd [x12] fun x13 =>
   .l (.mget true [.i .i64, .i .i64, .i .i64] (.bool false)) [(n xs 5), x13] fun x14 =>
   .ite x14 (
    .ret (.tup [(.bool true), (n xs 2), (n xs 3), (n xs 4), (n xs 5)])) (
    .call F.equal_comparison_key [(.box (.agg [(n xs 2), (n xs 5), (n xs 3), (n xs 4)])), x0, x1] fun x15 =>
    .l .gnd [x15] fun x16 =>
    .l (.mset true [.i .i64, .i .i64, .i .i64]) [(n xs 5), x16, (.bool true)] fun x17 =>
    .l .len [(c 3 x4)] fun x18 =>
    .loop [(i 0), (n xs 2), x17, (n xs 3), (n xs 4)] fun y19 =>
    .l (.cmp .lss .i64) [(n y19 0), x18] fun x20 =>
    .ite x20 (
     .l .len [(c 2 x4)] fun x21 =>
     .l (.cmp .gtr .i64) [x21, (i 0)] fun x22 =>
     .ite x22 (
      .l (.idx 1 false) [(c 2 x4), (n y19 0)] fun x23 =>
      .call F.slices_Index_string_string [(c 2 x5), x23] fun x24 =>
      .call F.head_Next [(.agg [(n y19 1)]), x0, (n y19 0)] fun x25 =>
      .l (.tc 0) [x25] fun x26 =>
      .l (.tc 1) [x25] fun x27 =>
      .l (.okc 2 true) [x26] fun x28 =>
      .call F.head_Next [(.agg [(n y19 1)]), x1, x24] fun x29 =>
      .l (.tc 0) [x29] fun x30 =>
      .l (.tc 1) [x29] fun x31 =>
      .l (.okc 2 true) [x30] fun x32 =>
      .l .bnot [x31] fun x33 =>
      .ite x33 (
       .ret (.tup [(.bool false), (n y19 1), (n y19 3), (n y19 4), (n y19 2)])) (
       .calls F.equal_comparison_equal sg_equal_comparison_equal [x28, x32, (n y19 1), (n y19 3), (n y19 4), (n y19 2)] fun z34 =>
       .l .bnot [(n z34 0)] fun x35 =>
       .ite x35 (
        .ret (.tup [(.bool false), (n z34 1), (n z34 2), (n z34 3), (n z34 4)])) (
        .l (.arith .add .i64) [(n y19 0), (i 1)] fun x36 =>
        .cont 0 [x36, (n z34 1), (n z34 4), (n z34 2), (n z34 3)]))) (
      .call F.head_Next [(.agg [(n y19 1)]), x0, (n y19 0)] fun x23 =>
      .l (.tc 0) [x23] fun x24 =>
      .l (.tc 1) [x23] fun x25 =>
      .l (.okc 2 true) [x24] fun x26 =>
      .call F.head_Next [(.agg [(n y19 1)]), x1, (n y19 0)] fun x27 =>
      .l (.tc 0) [x27] fun x28 =>
      .l (.tc 1) [x27] fun x29 =>
      .l (.okc 2 true) [x28] fun x30 =>
      .l .bnot [x29] fun x31 =>
      .ite x31 (
       .ret (.tup [(.bool false), (n y19 1), (n y19 3), (n y19 4), (n y19 2)])) (
       .calls F.equal_comparison_equal sg_equal_comparison_equal [x26, x30, (n y19 1), (n y19 3), (n y19 4), (n y19 2)] fun z32 =>
       .l .bnot [(n z32 0)] fun x33 =>
       .ite x33 (
        .ret (.tup [(.bool false), (n z32 1), (n z32 2), (n z32 3), (n z32 4)])) (
        .l (.arith .add .i64) [(n y19 0), (i 1)] fun x34 =>
        .cont 0 [x34, (n z32 1), (n z32 4), (n z32 2), (n z32 3)])))) (
     .ret (.tup [(.bool true), (n y19 1), (n y19 3), (n y19 4), (n y19 2)]))))))
theorem m_equal_comparison_equal : TxOkS P F.equal_comparison_equal sg_equal_comparison_equal u_equal_comparison_equal := txOkS_of (H := { wr := [], ro := [74], nl := [], fz := [], da := [], sigs := [(46, sg_equal_comparison_equal)] }) (plans := []) hm Try.func46 rfl fun xs => by kernel_rfl
def t_equal_Alike_1 (xs : List PV) : T PV :=
.l (.okc 2 true) [(n xs 0)] fun x0 =>
.l (.okc 2 true) [(n xs 1)] fun x1 =>
.ret (.bool true)
theorem k_equal_Alike_1 : TxOk P F.equal_Alike_1 2 t_equal_Alike_1 := txOk_of (H := {}) (plans := []) hm Try.func47 rfl rfl fun xs => by kernel_rfl
def t_equal_offset (xs : List PV) : T PV :=
.l .bnot [(n xs 1)] fun x0 =>
.ite x0 (
 .ret (.tup [(i 0), (.bool false)])) (
 .ret (.tup [(n xs 0), (.bool true)]))
theorem k_equal_offset : TxOk P F.equal_offset 2 t_equal_offset := txOk_of (H := {}) (plans := []) hm Try.func48 rfl rfl fun xs => by kernel_rfl
def t_head_Raise (xs : List PV) : T PV :=
.l (.okc 2 true) [(n xs 0)] fun x0 =>
.l (.arith .add .i64) [(c 1 x0), (n xs 1)] fun x1 =>
.l (.okc 1 false) [x1] fun x2 =>
.ret (.agg [(c 0 x0), x2])
theorem k_head_Raise : TxOk P F.head_Raise 2 t_head_Raise := txOk_of (H := {}) (plans := []) hm Try.func49 rfl rfl fun xs => by kernel_rfl
-- NOT TOLD: 50 duologue/duologueref10.compare: 1
def u_ref10_compare (xs : List PV) : T PV :=
.l (.okc 6 true) [(n xs 0)] fun x0 =>
.l (.okc 6 true) [(n xs 1)] fun x1 =>
.call F.ref02_Unfold [x0] fun x2 =>
.l (.okc 6 true) [x2] fun x3 =>
.call F.ref02_Unfold [x1] fun x4 =>
.l (.okc 6 true) [x4] fun x5 =>
.l (.cmp .neq .i64) [(c 0 x3), (c 0 x5)] fun x6 =>
.ite x6 (
 .ret (.tup [(.bool false), (n xs 2)])) (
 .l (.cmp .neq .i64) [(c 1 x3), (c 1 x5)] fun x7 =>
 .ite x7 (
  .ret (.tup [(.bool false), (n xs 2)])) (
  .call F.ref08_Sorted [(c 4 x3)] fun x8 =>
  .call F.ref08_Sorted [(c 4 x5)] fun x9 =>
  .call F.ref03_Texts [x8, x9] fun x10 =>
  .l .bnot [x10] fun x11 =>
  .ite x11 (
   .ret (.tup [(.bool false), (n xs 2)])) (
   .call F.ref10_Lower [x3, x5] fun x12 =>
   .l (.okc 12 true) [x12] fun x13 =>
   .call F.ref10_Seen [(n xs 2), x13] fun x14 =>
   .ite x14 (
    .ret (.tup [(.bool true), (n xs 2)])) (
    .l (.lst 12 true) [x13] fun x15 =>
    .l (.app 12 true 176) [(n xs 2), x15] fun x16 =>
    .loop [(i 0), x16] fun y17 =>
    .l .len [(c 5 x3)] fun x18 =>
    .l (.cmp .lss .i64) [(n y17 0), x18] fun x19 =>
    .ite x19 (
     .l (.idx 6 true) [(c 5 x3), (n y17 0)] fun x20 =>
     .l (.okc 6 true) [x20] fun x21 =>
     .l (.idx 6 true) [(c 5 x5), (n y17 0)] fun x22 =>
     .l (.okc 6 true) [x22] fun x23 =>
     .l .len [(c 4 x3)] fun x24 =>
     .l (.cmp .gtr .i64) [x24, (i 0)] fun x25 =>
     .ite x25 (
      .l (.idx 1 false) [(c 4 x3), (n y17 0)] fun x26 =>
      .call F.ref08_Label [x5, x26] fun x27 =>
      .l (.tc 0) [x27] fun x28 =>
      .l (.tc 1) [x27] fun x29 =>
      .l (.okc 6 true) [x28] fun x30 =>
      .calls F.ref10_compare sg_ref10_compare [x21, x30, (n y17 1)] fun z31 =>
      .l .bnot [(n z31 0)] fun x32 =>
      .ite x32 (
       .ret (.tup [(.bool false), (n z31 1)])) (
       .l (.arith .add .i64) [(n y17 0), (i 1)] fun x33 =>
       .cont 0 [x33, (n z31 1)])) (
      .calls F.ref10_compare sg_ref10_compare [x21, x23, (n y17 1)] fun z26 =>
      .l .bnot [(n z26 0)] fun x27 =>
      .ite x27 (
       .ret (.tup [(.bool false), (n z26 1)])) (
       .l (.arith .add .i64) [(n y17 0), (i 1)] fun x28 =>
       .cont 0 [x28, (n z26 1)]))) (
     .ret (.tup [(.bool true), (n y17 1)]))))))
theorem m_ref10_compare : TxOkS P F.ref10_compare sg_ref10_compare u_ref10_compare := txOkS_of (H := { wr := [], ro := [], nl := [], fz := [], da := [], sigs := [(50, sg_ref10_compare)] }) (plans := []) hm Try.func50 rfl fun xs => by kernel_rfl
def t_context_Live (xs : List PV) : T PV :=
.l (.okc 1 true) [(n xs 0)] fun x0 =>
.call F.context_selected_context_Entry [(n xs 1), (.fn F.context_Live_1 [] [(.box x0)])] fun x1 =>
.ret x1
theorem k_context_Live : TxOk P F.context_Live 2 t_context_Live := txOk_of (H := {}) (plans := []) hm Try.func51 rfl rfl fun xs => by kernel_rfl
def t_slices_Clone_context_Entry_context_Entry (xs : List PV) : T PV :=
.nilq (n xs 0) (
 .ret (.sl [])) (
 .l (.lst 3 true) [] fun x0 =>
 .l (.app 3 true 32) [x0, (n xs 0)] fun x1 =>
 .ret x1)
theorem k_slices_Clone_context_Entry_context_Entry : TxOk P F.slices_Clone_context_Entry_context_Entry 1 t_slices_Clone_context_Entry_context_Entry := txOk_of (H := { wr := [0, 1, 2, 3, 4, 5, 6, 7, 8, 9, 10, 11, 12, 13, 14, 15, 16, 17, 18, 19, 20, 21, 22, 23, 24, 25, 26, 27, 28, 29, 30, 31, 32, 33, 34, 35, 36, 37, 38, 39], ro := [], nl := [], fz := [], da := [], sigs := [] }) (plans := []) hm Try.func52 rfl rfl fun xs => by kernel_rfl
def u_slices_Clone_context_Entry_context_Entry (xs : List PV) : T PV :=
.nilq (n xs 0) (
 .ret (.tup [(.sl [])])) (
 .l (.lst 3 true) [] fun x0 =>
 .l (.app 3 true 32) [x0, (n xs 0)] fun x1 =>
 .ret (.tup [x1]))
theorem m_slices_Clone_context_Entry_context_Entry : TxOkS P F.slices_Clone_context_Entry_context_Entry sg_slices_Clone_context_Entry_context_Entry u_slices_Clone_context_Entry_context_Entry := txOkS_of (H := { wr := [0, 1, 2, 3, 4, 5, 6, 7, 8, 9, 10, 11, 12, 13, 14, 15, 16, 17, 18, 19, 20, 21, 22, 23, 24, 25, 26, 27, 28, 29, 30, 31, 32, 33, 34, 35, 36, 37, 38, 39], ro := [], nl := [], fz := [], da := [], sigs := [] }) (plans := []) hm Try.func52 rfl fun xs => by kernel_rfl
def t_context_index (xs : List PV) : T PV :=
.l (.okc 1 false) [(n xs 1)] fun x0 =>
.call F.slices_IndexFunc_context_Entry_context_Entry [(n xs 0), (.fn F.context_index_1 [] [(.box x0)])] fun x1 =>
.ret x1
theorem k_context_index : TxOk P F.context_index 2 t_context_index := txOk_of (H := {}) (plans := []) hm Try.func53 rfl rfl fun xs => by kernel_rfl
def t_context_Split_1 (xs : List PV) : T PV :=
.l (.okc 3 true) [(n xs 0)] fun x0 =>
.l (.unbox 1 false) [(n xs 1)] fun x1 =>
.call F.slices_Contains_string_string [x1, (c 0 x0)] fun x2 =>
.ret x2
theorem k_context_Split_1 : TxOk P F.context_Split_1 2 t_context_Split_1 := txOk_of (H := {}) (plans := []) hm Try.func54 rfl rfl fun xs => by kernel_rfl
def t_slices_Contains_string_string (xs : List PV) : T PV :=
.call F.slices_Index_string_string [(n xs 0), (n xs 1)] fun x0 =>
.l (.cmp .geq .i64) [x0, (i 0)] fun x1 =>
.ret x1
theorem k_slices_Contains_string_string : TxOk P F.slices_Contains_string_string 2 t_slices_Contains_string_string := txOk_of (H := {}) (plans := []) hm Try.func55 rfl rfl fun xs => by kernel_rfl
def t_context_selected_context_Entry (xs : List PV) : T PV :=
.l .len [(n xs 0)] fun x0 =>
.loop [(i 0), (.sl [])] fun y1 =>
.l (.cmp .lss .i64) [(n y1 0), x0] fun x2 =>
.ite x2 (
 .l (.idx 3 true) [(n xs 0), (n y1 0)] fun x3 =>
 .l (.okc 3 true) [x3] fun x4 =>
 .callv (n xs 1) [x4] fun x5 =>
 .ite x5 (
  .l (.lst 3 true) [x4] fun x6 =>
  .l (.app 3 true 32) [(n y1 1), x6] fun x7 =>
  .l (.arith .add .i64) [(n y1 0), (i 1)] fun x8 =>
  .cont 0 [x8, x7]) (
  .l (.arith .add .i64) [(n y1 0), (i 1)] fun x6 =>
  .cont 0 [x6, (n y1 1)])) (
 .ret (n y1 1))
theorem k_context_selected_context_Entry : TxOk P F.context_selected_context_Entry 2 t_context_selected_context_Entry := txOk_of (H := {}) (plans := []) hm Try.func56 rfl rfl fun xs => by kernel_rfl
def t_context_Split_2 (xs : List PV) : T PV :=
.l (.okc 3 true) [(n xs 0)] fun x0 =>
.l (.unbox 1 true) [(n xs 1)] fun x1 =>
.call F.context_live [x1, x0] fun x2 =>
.l .bnot [x2] fun x3 =>
.ite x3 (
 .ret (.bool true)) (
 .l (.unbox 1 false) [(n xs 2)] fun x4 =>
 .callv x4 [x0] fun x5 =>
 .ret x5)
theorem k_context_Split_2 : TxOk P F.context_Split_2 3 t_context_Split_2 := txOk_of (H := {}) (plans := []) hm Try.func57 rfl rfl fun xs => by kernel_rfl
def t_context_live (xs : List PV) : T PV :=
.l (.okc 1 true) [(n xs 0)] fun x0 =>
.l (.okc 3 true) [(n xs 1)] fun x1 =>
.call F.head_Prio [x0, (sb 1 2 x1)] fun x2 =>
.l (.tc 0) [x2] fun x3 =>
.l (.tc 1) [x2] fun x4 =>
.ret x4
theorem k_context_live : TxOk P F.context_live 2 t_context_live := txOk_of (H := {}) (plans := []) hm Try.func58 rfl rfl fun xs => by kernel_rfl
def t_context_Split_3 (xs : List PV) : T PV :=
.l (.okc 3 true) [(n xs 0)] fun x0 =>
.l (.unbox 1 true) [(n xs 1)] fun x1 =>
.call F.context_live [x1, x0] fun x2 =>
.l .bnot [x2] fun x3 =>
.ite x3 (
 .ret (.bool true)) (
 .l (.unbox 1 false) [(n xs 2)] fun x4 =>
 .callv x4 [x0] fun x5 =>
 .l .bnot [x5] fun x6 =>
 .ret x6)
theorem k_context_Split_3 : TxOk P F.context_Split_3 3 t_context_Split_3 := txOk_of (H := {}) (plans := []) hm Try.func59 rfl rfl fun xs => by kernel_rfl
def t_ref03_In (xs : List PV) : T PV :=
.loop [(i 0)] fun y0 =>
.l .len [(n xs 1)] fun x1 =>
.l (.cmp .lss .i64) [(n y0 0), x1] fun x2 =>
.ite x2 (
 .l (.idx 1 false) [(n xs 1), (n y0 0)] fun x3 =>
 .l (.scmp .eql) [x3, (n xs 0)] fun x4 =>
 .ite x4 (
  .ret (.bool true)) (
  .l (.arith .add .i64) [(n y0 0), (i 1)] fun x5 =>
  .cont 0 [x5])) (
 .ret (.bool false))
theorem k_ref03_In : TxOk P F.ref03_In 2 t_ref03_In := txOk_of (H := {}) (plans := []) hm Try.func60 rfl rfl fun xs => by kernel_rfl
def t_ref08_Prio (xs : List PV) : T PV :=
.l (.okc 6 true) [(n xs 0)] fun x0 =>
.call F.ref02_Unfold [x0] fun x1 =>
.l (.okc 6 true) [x1] fun x2 =>
.l (.cmp .geq .i64) [(c 0 x2), (i 4)] fun x3 =>
.ite x3 (
 .l (.cmp .leq .i64) [(c 0 x2), (i 7)] fun x4 =>
 .ite x4 (
  .ret (.tup [(c 1 x2), (.bool true)])) (
  .ret (.tup [(i 0), (.bool false)]))) (
 .ret (.tup [(i 0), (.bool false)]))
theorem k_ref08_Prio : TxOk P F.ref08_Prio 1 t_ref08_Prio := txOk_of (H := {}) (plans := []) hm Try.func61 rfl rfl fun xs => by kernel_rfl
def t_context_Drop_1 (xs : List PV) : T PV :=
.l (.okc 3 true) [(n xs 0)] fun x0 =>
.l (.unbox 1 false) [(n xs 1)] fun x1 =>
.l (.scmp .neq) [(c 0 x0), x1] fun x2 =>
.ret x2
theorem k_context_Drop_1 : TxOk P F.context_Drop_1 2 t_context_Drop_1 := txOk_of (H := {}) (plans := []) hm Try.func62 rfl rfl fun xs => by kernel_rfl
def t_head_Lowest (xs : List PV) : T PV :=
.l (.okc 1 true) [(n xs 0)] fun x0 =>
.call F.head_prios [x0, (n xs 1)] fun x1 =>
.call F.head_fold_int [x1, (.fn F.head_Lowest_1 [] [])] fun x2 =>
.l (.tc 0) [x2] fun x3 =>
.l (.tc 1) [x2] fun x4 =>
.ret (.tup [x3, x4])
theorem k_head_Lowest : TxOk P F.head_Lowest 2 t_head_Lowest := txOk_of (H := {}) (plans := []) hm Try.func63 rfl rfl fun xs => by kernel_rfl
def t_slices_Collect_graph_Ref (xs : List PV) : T PV :=
.calls F.slices_AppendSeq_graph_Ref_graph_Ref sg_slices_AppendSeq_graph_Ref_graph_Ref [(n xs 0)] fun z0 =>
.ret (n z0 0)
theorem k_slices_Collect_graph_Ref : TxOk P F.slices_Collect_graph_Ref 1 t_slices_Collect_graph_Ref := txOk_of (H := { wr := [], ro := [], nl := [], fz := [], da := [], sigs := [(88, sg_slices_AppendSeq_graph_Ref_graph_Ref)] }) (plans := []) hm Try.func64 rfl rfl fun xs => by kernel_rfl
def t_context_others (xs : List PV) : T PV :=
.l (.okc 1 false) [(n xs 0)] fun x0 =>
.l (.okc 1 false) [(n xs 1)] fun x1 =>
.ret (.fn F.context_others_1 [] [(.box x0), (.box x1)])
theorem k_context_others : TxOk P F.context_others 2 t_context_others := txOk_of (H := {}) (plans := []) hm Try.func65 rfl rfl fun xs => by kernel_rfl
def t_ref08_Lowest (xs : List PV) : T PV :=
.loop [(i 0), (.bool false), (i 0)] fun y0 =>
.l .len [(n xs 0)] fun x1 =>
.l (.cmp .lss .i64) [(n y0 0), x1] fun x2 =>
.ite x2 (
 .l (.idx 6 true) [(n xs 0), (n y0 0)] fun x3 =>
 .call F.ref08_Prio [x3] fun x4 =>
 .l (.tc 0) [x4] fun x5 =>
 .l (.tc 1) [x4] fun x6 =>
 .ite x6 (
  .l .bnot [(n y0 1)] fun x7 =>
  .ite x7 (
   .l (.arith .add .i64) [(n y0 0), (i 1)] fun x8 =>
   .cont 0 [x8, (.bool true), x5]) (
   .l (.cmp .lss .i64) [x5, (n y0 2)] fun x8 =>
   .ite x8 (
    .l (.arith .add .i64) [(n y0 0), (i 1)] fun x9 =>
    .cont 0 [x9, (.bool true), x5]) (
    .l (.arith .add .i64) [(n y0 0), (i 1)] fun x9 =>
    .cont 0 [x9, (n y0 1), (n y0 2)]))) (
  .l (.arith .add .i64) [(n y0 0), (i 1)] fun x7 =>
  .cont 0 [x7, (n y0 1), (n y0 2)])) (
 .ret (.tup [(n y0 2), (n y0 1)]))
theorem k_ref08_Lowest : TxOk P F.ref08_Lowest 1 t_ref08_Lowest := txOk_of (H := {}) (plans := []) hm Try.func66 rfl rfl fun xs => by kernel_rfl
def t_ref02_count (xs : List PV) : T PV :=
.l (.okc 6 true) [(n xs 0)] fun x0 =>
.l (.arith .sub .i64) [(n xs 1), (i 1)] fun x1 =>
.loop [(i 0), x1] fun y2 =>
.l .len [(c 5 x0)] fun x3 =>
.l (.cmp .lss .i64) [(n y2 0), x3] fun x4 =>
.ite x4 (
 .l (.cmp .geq .i64) [(n y2 1), (i 0)] fun x5 =>
 .ite x5 (
  .l (.idx 6 true) [(c 5 x0), (n y2 0)] fun x6 =>
  .call F.ref02_count [x6, (n y2 1)] fun x7 =>
  .l (.arith .add .i64) [(n y2 0), (i 1)] fun x8 =>
  .cont 0 [x8, x7]) (
  .ret (n y2 1))) (
 .ret (n y2 1))
theorem k_ref02_count : TxOk P F.ref02_count 2 t_ref02_count := txOk_of (H := {}) (plans := []) hm Try.func67 rfl rfl fun xs => by kernel_rfl
def t_ref02_Depth (xs : List PV) : T PV :=
.l (.okc 6 true) [(n xs 0)] fun x0 =>
.loop [(i 0), (i 0)] fun y1 =>
.l .len [(c 5 x0)] fun x2 =>
.l (.cmp .lss .i64) [(n y1 0), x2] fun x3 =>
.ite x3 (
 .l (.idx 6 true) [(c 5 x0), (n y1 0)] fun x4 =>
 .call F.ref02_Depth [x4] fun x5 =>
 .l (.mx .i64) [(n y1 1), x5] fun x6 =>
 .l (.arith .add .i64) [(n y1 0), (i 1)] fun x7 =>
 .cont 0 [x7, x6]) (
 .l (.arith .add .i64) [(n y1 1), (i 1)] fun x4 =>
 .ret x4)
theorem k_ref02_Depth : TxOk P F.ref02_Depth 1 t_ref02_Depth := txOk_of (H := {}) (plans := []) hm Try.func68 rfl rfl fun xs => by kernel_rfl
def t_ref02_Size (xs : List PV) : T PV :=
.l (.okc 6 true) [(n xs 0)] fun x0 =>
.loop [(i 0), (i 1)] fun y1 =>
.l .len [(c 5 x0)] fun x2 =>
.l (.cmp .lss .i64) [(n y1 0), x2] fun x3 =>
.ite x3 (
 .l (.idx 6 true) [(c 5 x0), (n y1 0)] fun x4 =>
 .call F.ref02_Size [x4] fun x5 =>
 .l (.arith .add .i64) [(n y1 1), x5] fun x6 =>
 .l (.arith .add .i64) [(n y1 0), (i 1)] fun x7 =>
 .cont 0 [x7, x6]) (
 .ret (n y1 1))
theorem k_ref02_Size : TxOk P F.ref02_Size 1 t_ref02_Size := txOk_of (H := {}) (plans := []) hm Try.func69 rfl rfl fun xs => by kernel_rfl
def t_ref02_node (xs : List PV) : T PV :=
.l (.okc 6 true) [(n xs 0)] fun x0 =>
.call F.ref02_shape [x0] fun x1 =>
.l .bnot [x1] fun x2 =>
.ite x2 (
 .ret (i 3)) (
 .ite (n xs 3) (
  .call F.ref02_Session [x0] fun x3 =>
  .l .bnot [x3] fun x4 =>
  .ite x4 (
   .ret (i 3)) (
   .l (.cmp .eql .i64) [(c 0 x0), (i 9)] fun x5 =>
   .ite x5 (
    .l .len [(n xs 1)] fun x6 =>
    .l (.arith .sub .i64) [x6, (i 1)] fun x7 =>
    .loop [x7] fun y8 =>
    .l (.cmp .geq .i64) [(n y8 0), (i 0)] fun x9 =>
    .ite x9 (
     .l (.idx 1 false) [(n xs 1), (n y8 0)] fun x10 =>
     .l (.scmp .eql) [x10, (c 2 x0)] fun x11 =>
     .ite x11 (
      .l (.cmp .lss .i64) [(n y8 0), (n xs 2)] fun x12 =>
      .ite x12 (
       .ret (i 0)) (
       .ret (i 3))) (
      .l (.arith .sub .i64) [(n y8 0), (i 1)] fun x12 =>
      .cont 0 [x12])) (
     .ret (i 4))) (
    .l (.cmp .eql .i64) [(c 0 x0), (i 8)] fun x6 =>
    .ite x6 (
     .l (.idx 6 true) [(c 5 x0), (i 0)] fun x7 =>
     .l (.lst 1 false) [] fun x8 =>
     .l (.app 1 false 16) [x8, (n xs 1)] fun x9 =>
     .l (.lst 1 false) [(c 2 x0)] fun x10 =>
     .l (.app 1 false 16) [x9, x10] fun x11 =>
     .call F.ref02_node [x7, x11, (n xs 2), (.bool true)] fun x12 =>
     .ret x12) (
     .loop [(i 0)] fun y7 =>
     .l .len [(c 5 x0)] fun x8 =>
     .l (.cmp .lss .i64) [(n y7 0), x8] fun x9 =>
     .ite x9 (
      .l (.idx 6 true) [(c 5 x0), (n y7 0)] fun x10 =>
      .l .len [(n xs 1)] fun x11 =>
      .l (.cmp .gtr .i64) [(n y7 0), (i 0)] fun x12 =>
      .ite x12 (
       .call F.ref02_node [x10, (n xs 1), x11, (.bool true)] fun x13 =>
       .l (.cmp .neq .i64) [x13, (i 0)] fun x14 =>
       .ite x14 (
        .ret x13) (
        .l (.arith .add .i64) [(n y7 0), (i 1)] fun x15 =>
        .cont 0 [x15])) (
       .l (.cmp .gtr .i64) [(c 0 x0), (i 5)] fun x13 =>
       .call F.ref02_node [x10, (n xs 1), x11, x13] fun x14 =>
       .l (.cmp .neq .i64) [x14, (i 0)] fun x15 =>
       .ite x15 (
        .ret x14) (
        .l (.arith .add .i64) [(n y7 0), (i 1)] fun x16 =>
        .cont 0 [x16]))) (
      .ret (i 0)))))) (
  .l (.cmp .eql .i64) [(c 0 x0), (i 9)] fun x3 =>
  .ite x3 (
   .l .len [(n xs 1)] fun x4 =>
   .l (.arith .sub .i64) [x4, (i 1)] fun x5 =>
   .loop [x5] fun y6 =>
   .l (.cmp .geq .i64) [(n y6 0), (i 0)] fun x7 =>
   .ite x7 (
    .l (.idx 1 false) [(n xs 1), (n y6 0)] fun x8 =>
    .l (.scmp .eql) [x8, (c 2 x0)] fun x9 =>
    .ite x9 (
     .l (.cmp .lss .i64) [(n y6 0), (n xs 2)] fun x10 =>
     .ite x10 (
      .ret (i 0)) (
      .ret (i 3))) (
     .l (.arith .sub .i64) [(n y6 0), (i 1)] fun x10 =>
     .cont 0 [x10])) (
    .ret (i 4))) (
   .l (.cmp .eql .i64) [(c 0 x0), (i 8)] fun x4 =>
   .ite x4 (
    .l (.idx 6 true) [(c 5 x0), (i 0)] fun x5 =>
    .l (.lst 1 false) [] fun x6 =>
    .l (.app 1 false 16) [x6, (n xs 1)] fun x7 =>
    .l (.lst 1 false) [(c 2 x0)] fun x8 =>
    .l (.app 1 false 16) [x7, x8] fun x9 =>
    .call F.ref02_node [x5, x9, (n xs 2), (.bool true)] fun x10 =>
    .ret x10) (
    .loop [(i 0)] fun y5 =>
    .l .len [(c 5 x0)] fun x6 =>
    .l (.cmp .lss .i64) [(n y5 0), x6] fun x7 =>
    .ite x7 (
     .l (.idx 6 true) [(c 5 x0), (n y5 0)] fun x8 =>
     .l .len [(n xs 1)] fun x9 =>
     .l (.cmp .gtr .i64) [(n y5 0), (i 0)] fun x10 =>
     .ite x10 (
      .call F.ref02_node [x8, (n xs 1), x9, (.bool true)] fun x11 =>
      .l (.cmp .neq .i64) [x11, (i 0)] fun x12 =>
      .ite x12 (
       .ret x11) (
       .l (.arith .add .i64) [(n y5 0), (i 1)] fun x13 =>
       .cont 0 [x13])) (
      .l (.cmp .gtr .i64) [(c 0 x0), (i 5)] fun x11 =>
      .call F.ref02_node [x8, (n xs 1), x9, x11] fun x12 =>
      .l (.cmp .neq .i64) [x12, (i 0)] fun x13 =>
      .ite x13 (
       .ret x12) (
       .l (.arith .add .i64) [(n y5 0), (i 1)] fun x14 =>
       .cont 0 [x14]))) (
     .ret (i 0))))))
theorem k_ref02_node : TxOk P F.ref02_node 4 t_ref02_node := txOk_of (H := {}) (plans := []) hm Try.func70 rfl rfl fun xs => by kernel_rfl
def t_ref07_reference (xs : List PV) : T PV :=
.l (.okc 6 true) [(n xs 0)] fun x0 =>
.l (.cmp .eql .i64) [(c 0 x0), (i 8)] fun x1 =>
.ite x1 (
 .l (.idx 6 true) [(c 5 x0), (i 0)] fun x2 =>
 .call F.ref07_reference [x2, (n xs 1), (n xs 2), (n xs 3)] fun x3 =>
 .l (.okc 2 true) [x3] fun x4 =>
 .ret x4) (
 .l (.cmp .eql .i64) [(c 0 x0), (i 9)] fun x2 =>
 .ite x2 (
  .l .len [(n xs 2)] fun x3 =>
  .l (.arith .sub .i64) [x3, (i 1)] fun x4 =>
  .loop [x4] fun y5 =>
  .l (.cmp .geq .i64) [(n y5 0), (i 0)] fun x6 =>
  .ite x6 (
   .l (.idx 1 false) [(n xs 2), (n y5 0)] fun x7 =>
   .l (.scmp .eql) [x7, (c 2 x0)] fun x8 =>
   .ite x8 (
    .l (.idx 2 true) [(n xs 3), (n y5 0)] fun x9 =>
    .l (.idx 2 true) [(n xs 3), (n y5 0)] fun x10 =>
    .l (.arith .add .i64) [(c 1 x10), (c 3 x0)] fun x11 =>
    .l (.okcs [(1, false), (1, false)]) [(c 0 x9), x11] fun x12 =>
    .ret (.agg [(c 0 x9), x11])) (
    .l (.arith .sub .i64) [(n y5 0), (i 1)] fun x9 =>
    .cont 0 [x9])) (
   .l (.okcs [(1, false)]) [(n xs 1)] fun x7 =>
   .ret (.agg [(n xs 1), (i 0)]))) (
  .l (.okcs [(1, false)]) [(n xs 1)] fun x3 =>
  .ret (.agg [(n xs 1), (i 0)])))
theorem k_ref07_reference : TxOk P F.ref07_reference 4 t_ref07_reference := txOk_of (H := {}) (plans := []) hm Try.func71 rfl rfl fun xs => by kernel_rfl
def t_ref07_nodes (xs : List PV) : T PV :=
.l (.okc 6 true) [(n xs 0)] fun x0 =>
.l (.cmp .eql .i64) [(c 0 x0), (i 8)] fun x1 =>
.ite x1 (
 .call F.ref07_reference [x0, (n xs 1), (n xs 2), (n xs 3)] fun x2 =>
 .l (.okc 2 true) [x2] fun x3 =>
 .l (.idx 6 true) [(c 5 x0), (i 0)] fun x4 =>
 .l (.lst 1 false) [] fun x5 =>
 .l (.app 1 false 16) [x5, (n xs 2)] fun x6 =>
 .l (.lst 1 false) [(c 2 x0)] fun x7 =>
 .l (.app 1 false 16) [x6, x7] fun x8 =>
 .l (.lst 2 true) [] fun x9 =>
 .l (.app 2 true 16) [x9, (n xs 3)] fun x10 =>
 .l (.lst 2 true) [x3] fun x11 =>
 .l (.app 2 true 16) [x10, x11] fun x12 =>
 .call F.ref07_nodes [x4, (n xs 1), x8, x12] fun x13 =>
 .ret x13) (
 .l (.cmp .eql .i64) [(c 0 x0), (i 9)] fun x2 =>
 .ite x2 (
  .ret (.sl [])) (
  .l (.okcs [(1, false), (1, false), (1, false)]) [(c 0 x0), (c 1 x0), (c 4 x0)] fun x3 =>
  .l (.arith .add .i64) [(n xs 1), (i 1)] fun x4 =>
  .loop [(i 0), x4, (.sl []), (c 0 x0), (c 1 x0), (c 4 x0), (.sl [])] fun y5 =>
  .l .len [(c 5 x0)] fun x6 =>
  .l (.cmp .lss .i64) [(n y5 0), x6] fun x7 =>
  .ite x7 (
   .l (.idx 6 true) [(c 5 x0), (n y5 0)] fun x8 =>
   .call F.ref07_reference [x8, (n y5 1), (n xs 2), (n xs 3)] fun x9 =>
   .l (.lst 2 true) [x9] fun x10 =>
   .l (.app 2 true 16) [(n y5 6), x10] fun x11 =>
   .l (.idx 6 true) [(c 5 x0), (n y5 0)] fun x12 =>
   .call F.ref07_nodes [x12, (n y5 1), (n xs 2), (n xs 3)] fun x13 =>
   .l (.app 4 true 64) [(n y5 2), x13] fun x14 =>
   .l (.idx 6 true) [(c 5 x0), (n y5 0)] fun x15 =>
   .call F.ref07_Count [x15] fun x16 =>
   .l (.arith .add .i64) [(n y5 1), x16] fun x17 =>
   .l (.arith .add .i64) [(n y5 0), (i 1)] fun x18 =>
   .cont 0 [x18, x17, x14, (n y5 3), (n y5 4), (n y5 5), x11]) (
   .l (.lst 4 true) [(.agg [(n y5 3), (n y5 4), (n y5 5), (n y5 6)])] fun x8 =>
   .l (.app 4 true 64) [x8, (n y5 2)] fun x9 =>
   .ret x9)))
theorem k_ref07_nodes : TxOk P F.ref07_nodes 4 t_ref07_nodes := txOk_of (H := {}) (plans := []) hm Try.func72 rfl rfl fun xs => by kernel_rfl
def t_head_action (xs : List PV) : T PV :=
.l (.cmp .geq .i64) [(n xs 0), (i 4)] fun x0 =>
.ite x0 (
 .l (.cmp .leq .i64) [(n xs 0), (i 7)] fun x1 =>
 .ret x1) (
 .ret (.bool false))
theorem k_head_action : TxOk P F.head_action 1 t_head_action := txOk_of (H := {}) (plans := []) hm Try.func73 rfl rfl fun xs => by kernel_rfl
def t_equal_comparison_key (xs : List PV) : T PV :=
.l (.okc 2 true) [(n xs 1)] fun x0 =>
.l (.okc 2 true) [(n xs 2)] fun x1 =>
.l .notnil [(n xs 0)] fun x2 =>
.l (.unbox 4 true) [x2] fun x3 =>
.ite (c 3 x3) (
 .l (.okcs [(1, false), (1, false)]) [(c 0 x0), (c 0 x1)] fun x4 =>
 .ret (.agg [(c 0 x0), (c 0 x1), (i 0)])) (
 .l (.arith .sub .i64) [(c 1 x0), (c 1 x1)] fun x4 =>
 .l (.okcs [(1, false), (1, false), (1, false)]) [(c 0 x0), (c 0 x1), x4] fun x5 =>
 .ret (.agg [(c 0 x0), (c 0 x1), x4]))
theorem k_equal_comparison_key : TxOk P F.equal_comparison_key 3 t_equal_comparison_key := txOk_of (H := {}) (plans := []) hm Try.func74 rfl rfl fun xs => by kernel_rfl
def t_slices_Index_string_string (xs : List PV) : T PV :=
.l .len [(n xs 0)] fun x0 =>
.loop [(i 0)] fun y1 =>
.l (.cmp .lss .i64) [(n y1 0), x0] fun x2 =>
.ite x2 (
 .l (.idx 1 false) [(n xs 0), (n y1 0)] fun x3 =>
 .l (.scmp .eql) [(n xs 1), x3] fun x4 =>
 .ite x4 (
  .ret (n y1 0)) (
  .l (.arith .add .i64) [(n y1 0), (i 1)] fun x5 =>
  .cont 0 [x5])) (
 .ret (i (-1)))
theorem k_slices_Index_string_string : TxOk P F.slices_Index_string_string 2 t_slices_Index_string_string := txOk_of (H := {}) (plans := []) hm Try.func75 rfl rfl fun xs => by kernel_rfl
def t_head_Next (xs : List PV) : T PV :=
.l (.okc 1 true) [(n xs 0)] fun x0 =>
.l (.okc 2 true) [(n xs 1)] fun x1 =>
.l (.idx 4 true) [(c 0 x0), (c 0 x1)] fun x2 =>
.l (.cmp .lss .i64) [(n xs 2), (i 0)] fun x3 =>
.ite x3 (
 .ret (.tup [(.agg [(i 0), (i 0)]), (.bool false)])) (
 .l .len [(c 3 x2)] fun x4 =>
 .l (.cmp .geq .i64) [(n xs 2), x4] fun x5 =>
 .ite x5 (
  .ret (.tup [(.agg [(i 0), (i 0)]), (.bool false)])) (
  .l (.idx 2 true) [(c 3 x2), (n xs 2)] fun x6 =>
  .call F.head_Raise [x6, (c 1 x1)] fun x7 =>
  .l (.okc 2 true) [x7] fun x8 =>
  .ret (.tup [x8, (.bool true)])))
theorem k_head_Next : TxOk P F.head_Next 3 t_head_Next := txOk_of (H := {}) (plans := []) hm Try.func76 rfl rfl fun xs => by kernel_rfl
def t_ref03_Texts (xs : List PV) : T PV :=
.l .len [(n xs 0)] fun x0 =>
.l .len [(n xs 1)] fun x1 =>
.l (.cmp .neq .i64) [x0, x1] fun x2 =>
.ite x2 (
 .ret (.bool false)) (
 .loop [(i 0)] fun y3 =>
 .l .len [(n xs 0)] fun x4 =>
 .l (.cmp .lss .i64) [(n y3 0), x4] fun x5 =>
 .ite x5 (
  .l (.idx 1 false) [(n xs 0), (n y3 0)] fun x6 =>
  .l (.idx 1 false) [(n xs 1), (n y3 0)] fun x7 =>
  .l (.scmp .neq) [x6, x7] fun x8 =>
  .ite x8 (
   .ret (.bool false)) (
   .l (.arith .add .i64) [(n y3 0), (i 1)] fun x9 =>
   .cont 0 [x9])) (
  .ret (.bool true)))
theorem k_ref03_Texts : TxOk P F.ref03_Texts 2 t_ref03_Texts := txOk_of (H := {}) (plans := []) hm Try.func77 rfl rfl fun xs => by kernel_rfl
def t_ref08_Sorted (xs : List PV) : T PV :=
.l (.lst 1 false) [] fun x0 =>
.l (.app 1 false 16) [x0, (n xs 0)] fun x1 =>
.loop [(i 0), x1] fun y2 =>
.l .len [(n y2 1)] fun x3 =>
.l (.cmp .lss .i64) [(n y2 0), x3] fun x4 =>
.ite x4 (
 .l (.arith .add .i64) [(n y2 0), (i 1)] fun x5 =>
 .loop [x5, (n y2 1)] fun y6 =>
 .l .len [(n y6 1)] fun x7 =>
 .l (.cmp .lss .i64) [(n y6 0), x7] fun x8 =>
 .ite x8 (
  .l (.idx 1 false) [(n y6 1), (n y6 0)] fun x9 =>
  .l (.idx 1 false) [(n y6 1), (n y6 0)] fun x10 =>
  .l (.idx 1 false) [(n y6 1), (n y2 0)] fun x11 =>
  .l (.idx 1 false) [(n y6 1), (n y2 0)] fun x12 =>
  .l (.scmp .lss) [x10, x12] fun x13 =>
  .ite x13 (
   .l (.idx 1 false) [(n y6 1), (n y6 0)] fun x14 =>
   .l (.idx 1 false) [(n y6 1), (n y6 0)] fun x15 =>
   .l (.idx 1 false) [(n y6 1), (n y2 0)] fun x16 =>
   .l (.idx 1 false) [(n y6 1), (n y2 0)] fun x17 =>
   .l (.idx 1 false) [(n y6 1), (n y2 0)] fun x18 =>
   .l (.upd 1 false) [(n y6 1), (n y2 0), x15] fun x19 =>
   .l (.idx 1 false) [x19, (n y6 0)] fun x20 =>
   .l (.upd 1 false) [x19, (n y6 0), x17] fun x21 =>
   .l (.arith .add .i64) [(n y6 0), (i 1)] fun x22 =>
   .cont 1 [x22, x21]) (
   .l (.arith .add .i64) [(n y6 0), (i 1)] fun x14 =>
   .cont 1 [x14, (n y6 1)])) (
  .l (.arith .add .i64) [(n y2 0), (i 1)] fun x9 =>
  .cont 0 [x9, (n y6 1)])) (
 .ret (n y2 1))
theorem k_ref08_Sorted : TxOk P F.ref08_Sorted 1 t_ref08_Sorted := txOk_of (H := { wr := [0, 1, 2, 3, 4, 5, 6, 7, 8, 9, 10, 11, 12, 13, 14, 15, 16, 17, 18, 19, 20, 21, 22, 23, 24, 25, 26, 27, 28, 29, 30, 31, 32, 33, 34, 35, 36, 37, 38, 39], ro := [], nl := [], fz := [], da := [], sigs := [] }) (plans := []) hm Try.func78 rfl rfl fun xs => by kernel_rfl
def t_ref10_Lower (xs : List PV) : T PV :=
.l (.okc 6 true) [(n xs 0)] fun x0 =>
.l (.okc 6 true) [(n xs 1)] fun x1 =>
.call F.ref08_Prio [x0] fun x2 =>
.l (.tc 0) [x2] fun x3 =>
.l (.tc 1) [x2] fun x4 =>
.l (.neg .i64) [x3] fun x5 =>
.call F.ref02_Raise [x0, x5] fun x6 =>
.l (.neg .i64) [x3] fun x7 =>
.call F.ref02_Raise [x1, x7] fun x8 =>
.l (.okcs [(6, true), (6, true)]) [x6, x8] fun x9 =>
.ret (.agg [(c 0 x6), (c 1 x6), (c 2 x6), (c 3 x6), (c 4 x6), (c 5 x6), (c 0 x8), (c 1 x8), (c 2 x8), (c 3 x8), (c 4 x8), (c 5 x8)])
theorem k_ref10_Lower : TxOk P F.ref10_Lower 2 t_ref10_Lower := txOk_of (H := {}) (plans := []) hm Try.func79 rfl rfl fun xs => by kernel_rfl
def t_ref10_Seen (xs : List PV) : T PV :=
.l (.okc 12 true) [(n xs 1)] fun x0 =>
.loop [(i 0)] fun y1 =>
.l .len [(n xs 0)] fun x2 =>
.l (.cmp .lss .i64) [(n y1 0), x2] fun x3 =>
.ite x3 (
 .l (.idx 12 true) [(n xs 0), (n y1 0)] fun x4 =>
 .call F.ref02_Same [(sb 0 6 x4), (sb 0 6 x0)] fun x5 =>
 .ite x5 (
  .l (.idx 12 true) [(n xs 0), (n y1 0)] fun x6 =>
  .call F.ref02_Same [(sb 6 6 x6), (sb 6 6 x0)] fun x7 =>
  .ite x7 (
   .ret (.bool true)) (
   .l (.arith .add .i64) [(n y1 0), (i 1)] fun x8 =>
   .cont 0 [x8])) (
  .l (.arith .add .i64) [(n y1 0), (i 1)] fun x6 =>
  .cont 0 [x6])) (
 .ret (.bool false))
theorem k_ref10_Seen : TxOk P F.ref10_Seen 2 t_ref10_Seen := txOk_of (H := {}) (plans := []) hm Try.func80 rfl rfl fun xs => by kernel_rfl
def t_ref08_Label (xs : List PV) : T PV :=
.l (.okc 6 true) [(n xs 0)] fun x0 =>
.call F.ref02_Unfold [x0] fun x1 =>
.l (.okc 6 true) [x1] fun x2 =>
.loop [(i 0)] fun y3 =>
.l .len [(c 4 x2)] fun x4 =>
.l (.cmp .lss .i64) [(n y3 0), x4] fun x5 =>
.ite x5 (
 .l (.idx 1 false) [(c 4 x2), (n y3 0)] fun x6 =>
 .l (.scmp .eql) [x6, (n xs 1)] fun x7 =>
 .ite x7 (
  .l (.idx 6 true) [(c 5 x2), (n y3 0)] fun x8 =>
  .l (.okc 6 true) [x8] fun x9 =>
  .ret (.tup [x9, (.bool true)])) (
  .l (.arith .add .i64) [(n y3 0), (i 1)] fun x8 =>
  .cont 0 [x8])) (
 .ret (.tup [(.agg [(i 0), (i 0), (.str ⟨#[]⟩), (i 0), (.sl []), (.sl [])]), (.bool false)]))
theorem k_ref08_Label : TxOk P F.ref08_Label 2 t_ref08_Label := txOk_of (H := {}) (plans := []) hm Try.func81 rfl rfl fun xs => by kernel_rfl
def t_context_Live_1 (xs : List PV) : T PV :=
.l (.okc 3 true) [(n xs 0)] fun x0 =>
.l (.unbox 1 true) [(n xs 1)] fun x1 =>
.call F.context_live [x1, x0] fun x2 =>
.ret x2
theorem k_context_Live_1 : TxOk P F.context_Live_1 2 t_context_Live_1 := txOk_of (H := {}) (plans := []) hm Try.func82 rfl rfl fun xs => by kernel_rfl
def t_slices_IndexFunc_context_Entry_context_Entry (xs : List PV) : T PV :=
.l .len [(n xs 0)] fun x0 =>
.loop [(i 0)] fun y1 =>
.l (.cmp .lss .i64) [(n y1 0), x0] fun x2 =>
.ite x2 (
 .l (.idx 3 true) [(n xs 0), (n y1 0)] fun x3 =>
 .callv (n xs 1) [x3] fun x4 =>
 .ite x4 (
  .ret (n y1 0)) (
  .l (.arith .add .i64) [(n y1 0), (i 1)] fun x5 =>
  .cont 0 [x5])) (
 .ret (i (-1)))
theorem k_slices_IndexFunc_context_Entry_context_Entry : TxOk P F.slices_IndexFunc_context_Entry_context_Entry 2 t_slices_IndexFunc_context_Entry_context_Entry := txOk_of (H := {}) (plans := []) hm Try.func83 rfl rfl fun xs => by kernel_rfl
def t_context_index_1 (xs : List PV) : T PV :=
.l (.okc 3 true) [(n xs 0)] fun x0 =>
.l (.unbox 1 false) [(n xs 1)] fun x1 =>
.l (.scmp .eql) [(c 0 x0), x1] fun x2 =>
.ret x2
theorem k_context_index_1 : TxOk P F.context_index_1 2 t_context_index_1 := txOk_of (H := {}) (plans := []) hm Try.func84 rfl rfl fun xs => by kernel_rfl
def t_head_fold_int (xs : List PV) : T PV :=
.l (.okc 1 false) [(n xs 1)] fun x0 =>
.iter (n xs 0) 1 [(i 0), (.bool false)] (fun e1 y1 =>
 .ite (n y1 1) (
  .callv x0 [(n y1 0), (n e1 0)] fun x2 =>
  .l (.okc 1 false) [x2] fun x3 =>
  .cont 0 [x3, (.bool true)]) (
  .l (.okc 1 false) [(n e1 0)] fun x2 =>
  .cont 0 [x2, (.bool true)])) (fun e1 y1 =>
 .ite (n y1 1) (
  .callv x0 [(n y1 0), (n e1 0)] fun x2 =>
  .l (.okc 1 false) [x2] fun x3 =>
  .fail) (
  .l (.okc 1 false) [(n e1 0)] fun x2 =>
  .fail)) fun y1 =>
.l (.okc 1 false) [(n y1 0)] fun x2 =>
.l (.okc 1 false) [(n y1 1)] fun x3 =>
.ret (.tup [x2, x3])
theorem k_head_fold_int : TxOk P F.head_fold_int 2 t_head_fold_int := txOk_of (H := {}) (plans := []) hm Try.func85 rfl rfl fun xs => by kernel_rfl
def t_head_prios (xs : List PV) : T PV :=
.l (.okc 1 true) [(n xs 0)] fun x0 =>
.l (.okc 1 false) [(n xs 1)] fun x1 =>
.ret (.fn F.head_prios_1 [] [(.box x1), (.box x0)])
theorem k_head_prios : TxOk P F.head_prios 2 t_head_prios := txOk_of (H := {}) (plans := []) hm Try.func86 rfl rfl fun xs => by kernel_rfl
def t_head_Lowest_1 (xs : List PV) : T PV :=
.l (.mn .i64) [(n xs 0), (n xs 1)] fun x0 =>
.ret x0
theorem k_head_Lowest_1 : TxOk P F.head_Lowest_1 2 t_head_Lowest_1 := txOk_of (H := {}) (plans := []) hm Try.func87 rfl rfl fun xs => by kernel_rfl
-- NOT TOLD: 88 slices.AppendSeq[[]duologue/graph.Ref,duologue/graph.Ref]: 1
def u_slices_AppendSeq_graph_Ref_graph_Ref (xs : List PV) : T PV :=
.iter (n xs 0) 1 [(.sl [])] (fun e0 y0 =>
 .l (.okc 2 true) [(n e0 0)] fun x1 =>
 .l (.lst 2 true) [x1] fun x2 =>
 .l (.app 2 true 16) [(n y0 0), x2] fun x3 =>
 .cont 0 [x3]) (fun e0 y0 =>
 .l (.okc 2 true) [(n e0 0)] fun x1 =>
 .l (.lst 2 true) [x1] fun x2 =>
 .l (.app 2 true 16) [(n y0 0), x2] fun x3 =>
 .fail) fun y0 =>
.ret (.tup [(n y0 0)])
theorem m_slices_AppendSeq_graph_Ref_graph_Ref : TxOkS P F.slices_AppendSeq_graph_Ref_graph_Ref sg_slices_AppendSeq_graph_Ref_graph_Ref u_slices_AppendSeq_graph_Ref_graph_Ref := txOkS_of (H := {}) (plans := []) hm Try.func88 rfl fun xs => by kernel_rfl
def t_context_others_1 (xs : List PV) : T PV :=
.l (.unbox 1 false) [(n xs 1)] fun x0 =>
.l .len [x0] fun x1 =>
.loop [(i 0)] fun y2 =>
.l (.cmp .lss .i64) [(n y2 0), x1] fun x3 =>
.ite x3 (
 .l (.idx 3 true) [x0, (n y2 0)] fun x4 =>
 .l (.okc 3 true) [x4] fun x5 =>
 .l (.unbox 1 false) [(n xs 2)] fun x6 =>
 .l (.scmp .neq) [(c 0 x5), x6] fun x7 =>
 .ite x7 (
  .callv (n xs 0) [(sb 1 2 x5)] fun x8 =>
  .l .bnot [x8] fun x9 =>
  .ite x9 (
   .ret (.tup [])) (
   .l (.arith .add .i64) [(n y2 0), (i 1)] fun x10 =>
   .cont 0 [x10])) (
  .l (.arith .add .i64) [(n y2 0), (i 1)] fun x8 =>
  .cont 0 [x8])) (
 .ret (.tup []))
theorem k_context_others_1 : TxOk P F.context_others_1 3 t_context_others_1 := txOk_of (H := {}) (plans := []) hm Try.func89 rfl rfl fun xs => by kernel_rfl
def v_context_others_1 (xs : List PV) : T PV :=
.l (.unbox 1 false) [(n xs 1)] fun x0 =>
.l .len [x0] fun x1 =>
.loop [(i 0), (n xs 3)] fun y2 =>
.l (.cmp .lss .i64) [(n y2 0), x1] fun x3 =>
.ite x3 (
 .l (.idx 3 true) [x0, (n y2 0)] fun x4 =>
 .l (.okc 3 true) [x4] fun x5 =>
 .l (.unbox 1 false) [(n xs 2)] fun x6 =>
 .l (.scmp .neq) [(c 0 x5), x6] fun x7 =>
 .ite x7 (
  .yld [(sb 1 2 x5)] (n y2 1) fun x8 s8 =>
  .l .bnot [x8] fun x9 =>
  .ite x9 (
   .ret (.tup [(.tup []), s8])) (
   .l (.arith .add .i64) [(n y2 0), (i 1)] fun x10 =>
   .cont 0 [x10, s8])) (
  .l (.arith .add .i64) [(n y2 0), (i 1)] fun x8 =>
  .cont 0 [x8, (n y2 1)])) (
 .ret (.tup [(.tup []), (n y2 1)]))
theorem x_context_others_1 (X : Xt) (hX : XtC P X) : @TxOkX { l := gl.l, x := X } P F.context_others_1 3 [0] v_context_others_1 := @txOkX_of { l := gl.l, x := X } P (@XC.mk P { l := gl.l, x := X } hX) {} [] _ _ _ _ _ hm Try.func89 rfl rfl fun xs => by kernel_rfl
def t_ref02_shape (xs : List PV) : T PV :=
.l (.okc 6 true) [(n xs 0)] fun x0 =>
.l (.cmp .eql .i64) [(c 0 x0), (i 1)] fun x1 =>
.ite x1 (
 .l (.cmp .eql .i64) [(c 1 x0), (i 0)] fun x2 =>
 .ite x2 (
  .l (.scmp .eql) [(c 2 x0), (.str ⟨#[]⟩)] fun x3 =>
  .ite x3 (
   .l (.cmp .eql .i64) [(c 3 x0), (i 0)] fun x4 =>
   .ite x4 (
    .l .len [(c 4 x0)] fun x5 =>
    .l (.cmp .eql .i64) [x5, (i 0)] fun x6 =>
    .ite x6 (
     .l .len [(c 5 x0)] fun x7 =>
     .l (.cmp .eql .i64) [x7, (i 0)] fun x8 =>
     .ret x8) (
     .ret (.bool false))) (
    .ret (.bool false))) (
   .ret (.bool false))) (
  .ret (.bool false))) (
 .l (.cmp .eql .i64) [(c 0 x0), (i 2)] fun x2 =>
 .ite x2 (
  .l (.cmp .eql .i64) [(c 1 x0), (i 0)] fun x3 =>
  .ite x3 (
   .l (.scmp .eql) [(c 2 x0), (.str ⟨#[]⟩)] fun x4 =>
   .ite x4 (
    .l (.cmp .eql .i64) [(c 3 x0), (i 0)] fun x5 =>
    .ite x5 (
     .l .len [(c 4 x0)] fun x6 =>
     .l (.cmp .eql .i64) [x6, (i 0)] fun x7 =>
     .ite x7 (
      .l .len [(c 5 x0)] fun x8 =>
      .l (.cmp .eql .i64) [x8, (i 0)] fun x9 =>
      .ret x9) (
      .ret (.bool false))) (
     .ret (.bool false))) (
    .ret (.bool false))) (
   .ret (.bool false))) (
  .l (.cmp .eql .i64) [(c 0 x0), (i 3)] fun x3 =>
  .ite x3 (
   .l (.cmp .eql .i64) [(c 1 x0), (i 0)] fun x4 =>
   .ite x4 (
    .l (.scmp .eql) [(c 2 x0), (.str ⟨#[]⟩)] fun x5 =>
    .ite x5 (
     .l (.cmp .eql .i64) [(c 3 x0), (i 0)] fun x6 =>
     .ite x6 (
      .l .len [(c 4 x0)] fun x7 =>
      .l (.cmp .eql .i64) [x7, (i 0)] fun x8 =>
      .ite x8 (
       .l .len [(c 5 x0)] fun x9 =>
       .l (.cmp .eql .i64) [x9, (i 0)] fun x10 =>
       .ret x10) (
       .ret (.bool false))) (
      .ret (.bool false))) (
     .ret (.bool false))) (
    .ret (.bool false))) (
   .l (.cmp .eql .i64) [(c 0 x0), (i 4)] fun x4 =>
   .ite x4 (
    .call F.ref02_prio [(c 1 x0)] fun x5 =>
    .ite x5 (
     .l (.scmp .eql) [(c 2 x0), (.str ⟨#[]⟩)] fun x6 =>
     .ite x6 (
      .l (.cmp .eql .i64) [(c 3 x0), (i 0)] fun x7 =>
      .ite x7 (
       .l .len [(c 4 x0)] fun x8 =>
       .l (.cmp .eql .i64) [x8, (i 0)] fun x9 =>
       .ite x9 (
        .l .len [(c 5 x0)] fun x10 =>
        .l (.cmp .eql .i64) [x10, (i 2)] fun x11 =>
        .ret x11) (
        .ret (.bool false))) (
       .ret (.bool false))) (
      .ret (.bool false))) (
     .ret (.bool false))) (
    .l (.cmp .eql .i64) [(c 0 x0), (i 5)] fun x5 =>
    .ite x5 (
     .call F.ref02_prio [(c 1 x0)] fun x6 =>
     .ite x6 (
      .l (.scmp .eql) [(c 2 x0), (.str ⟨#[]⟩)] fun x7 =>
      .ite x7 (
       .l (.cmp .eql .i64) [(c 3 x0), (i 0)] fun x8 =>
       .ite x8 (
        .l .len [(c 4 x0)] fun x9 =>
        .l (.cmp .eql .i64) [x9, (i 0)] fun x10 =>
        .ite x10 (
         .l .len [(c 5 x0)] fun x11 =>
         .l (.cmp .eql .i64) [x11, (i 2)] fun x12 =>
         .ret x12) (
         .ret (.bool false))) (
        .ret (.bool false))) (
       .ret (.bool false))) (
      .ret (.bool false))) (
     .l (.cmp .eql .i64) [(c 0 x0), (i 6)] fun x6 =>
     .ite x6 (
      .call F.ref02_prio [(c 1 x0)] fun x7 =>
      .ite x7 (
       .l (.scmp .eql) [(c 2 x0), (.str ⟨#[]⟩)] fun x8 =>
       .ite x8 (
        .l (.cmp .eql .i64) [(c 3 x0), (i 0)] fun x9 =>
        .ite x9 (
         .l .len [(c 4 x0)] fun x10 =>
         .l (.cmp .gtr .i64) [x10, (i 0)] fun x11 =>
         .ite x11 (
          .call F.ref02_Labels [(c 4 x0)] fun x12 =>
          .ite x12 (
           .l .len [(c 5 x0)] fun x13 =>
           .l .len [(c 4 x0)] fun x14 =>
           .l (.cmp .eql .i64) [x13, x14] fun x15 =>
           .ret x15) (
           .ret (.bool false))) (
          .ret (.bool false))) (
         .ret (.bool false))) (
        .ret (.bool false))) (
       .ret (.bool false))) (
      .l (.cmp .eql .i64) [(c 0 x0), (i 7)] fun x7 =>
      .ite x7 (
       .call F.ref02_prio [(c 1 x0)] fun x8 =>
       .ite x8 (
        .l (.scmp .eql) [(c 2 x0), (.str ⟨#[]⟩)] fun x9 =>
        .ite x9 (
         .l (.cmp .eql .i64) [(c 3 x0), (i 0)] fun x10 =>
         .ite x10 (
          .l .len [(c 4 x0)] fun x11 =>
          .l (.cmp .gtr .i64) [x11, (i 0)] fun x12 =>
          .ite x12 (
           .call F.ref02_Labels [(c 4 x0)] fun x13 =>
           .ite x13 (
            .l .len [(c 5 x0)] fun x14 =>
            .l .len [(c 4 x0)] fun x15 =>
            .l (.cmp .eql .i64) [x14, x15] fun x16 =>
            .ret x16) (
            .ret (.bool false))) (
           .ret (.bool false))) (
          .ret (.bool false))) (
         .ret (.bool false))) (
        .ret (.bool false))) (
       .l (.cmp .eql .i64) [(c 0 x0), (i 8)] fun x8 =>
       .ite x8 (
        .l (.cmp .eql .i64) [(c 1 x0), (i 0)] fun x9 =>
        .ite x9 (
         .call F.ref01_Name [(c 2 x0)] fun x10 =>
         .ite x10 (
          .l (.cmp .eql .i64) [(c 3 x0), (i 0)] fun x11 =>
          .ite x11 (
           .l .len [(c 4 x0)] fun x12 =>
           .l (.cmp .eql .i64) [x12, (i 0)] fun x13 =>
           .ite x13 (
            .l .len [(c 5 x0)] fun x14 =>
            .l (.cmp .eql .i64) [x14, (i 1)] fun x15 =>
            .ret x15) (
            .ret (.bool false))) (
           .ret (.bool false))) (
          .ret (.bool false))) (
         .ret (.bool false))) (
        .l (.cmp .eql .i64) [(c 0 x0), (i 9)] fun x9 =>
        .ite x9 (
         .l (.cmp .eql .i64) [(c 1 x0), (i 0)] fun x10 =>
         .ite x10 (
          .call F.ref01_Name [(c 2 x0)] fun x11 =>
          .ite x11 (
           .call F.ref02_prio [(c 3 x0)] fun x12 =>
           .ite x12 (
            .l .len [(c 4 x0)] fun x13 =>
            .l (.cmp .eql .i64) [x13, (i 0)] fun x14 =>
            .ite x14 (
             .l .len [(c 5 x0)] fun x15 =>
             .l (.cmp .eql .i64) [x15, (i 0)] fun x16 =>
             .ret x16) (
             .ret (.bool false))) (
            .ret (.bool false))) (
           .ret (.bool false))) (
          .ret (.bool false))) (
         .ret (.bool false))))))))))
theorem k_ref02_shape : TxOk P F.ref02_shape 1 t_ref02_shape := txOk_of (H := {}) (plans := []) hm Try.func90 rfl rfl fun xs => by kernel_rfl
def t_ref02_Session (xs : List PV) : T PV :=
.l (.okc 6 true) [(n xs 0)] fun x0 =>
.l (.cmp .neq .i64) [(c 0 x0), (i 1)] fun x1 =>
.ite x1 (
 .l (.cmp .neq .i64) [(c 0 x0), (i 2)] fun x2 =>
 .ret x2) (
 .ret (.bool false))
theorem k_ref02_Session : TxOk P F.ref02_Session 1 t_ref02_Session := txOk_of (H := {}) (plans := []) hm Try.func91 rfl rfl fun xs => by kernel_rfl
def t_ref07_Count (xs : List PV) : T PV :=
.l (.okc 6 true) [(n xs 0)] fun x0 =>
.l (.cmp .leq .i64) [(c 0 x0), (i 7)] fun x1 =>
.ite x1 (
 .loop [(i 0), (i 1)] fun y2 =>
 .l .len [(c 5 x0)] fun x3 =>
 .l (.cmp .lss .i64) [(n y2 0), x3] fun x4 =>
 .ite x4 (
  .l (.idx 6 true) [(c 5 x0), (n y2 0)] fun x5 =>
  .call F.ref07_Count [x5] fun x6 =>
  .l (.arith .add .i64) [(n y2 1), x6] fun x7 =>
  .l (.arith .add .i64) [(n y2 0), (i 1)] fun x8 =>
  .cont 0 [x8, x7]) (
  .ret (n y2 1))) (
 .loop [(i 0), (i 0)] fun y2 =>
 .l .len [(c 5 x0)] fun x3 =>
 .l (.cmp .lss .i64) [(n y2 0), x3] fun x4 =>
 .ite x4 (
  .l (.idx 6 true) [(c 5 x0), (n y2 0)] fun x5 =>
  .call F.ref07_Count [x5] fun x6 =>
  .l (.arith .add .i64) [(n y2 1), x6] fun x7 =>
  .l (.arith .add .i64) [(n y2 0), (i 1)] fun x8 =>
  .cont 0 [x8, x7]) (
  .ret (n y2 1)))
theorem k_ref07_Count : TxOk P F.ref07_Count 1 t_ref07_Count := txOk_of (H := {}) (plans := []) hm Try.func92 rfl rfl fun xs => by kernel_rfl
def t_ref02_Same (xs : List PV) : T PV :=
.l (.okc 6 true) [(n xs 0)] fun x0 =>
.l (.okc 6 true) [(n xs 1)] fun x1 =>
.l (.cmp .neq .i64) [(c 0 x0), (c 0 x1)] fun x2 =>
.ite x2 (
 .ret (.bool false)) (
 .l (.cmp .neq .i64) [(c 1 x0), (c 1 x1)] fun x3 =>
 .ite x3 (
  .ret (.bool false)) (
  .l (.scmp .neq) [(c 2 x0), (c 2 x1)] fun x4 =>
  .ite x4 (
   .ret (.bool false)) (
   .l (.cmp .neq .i64) [(c 3 x0), (c 3 x1)] fun x5 =>
   .ite x5 (
    .ret (.bool false)) (
    .call F.ref02_texts [(c 4 x0), (c 4 x1)] fun x6 =>
    .l .bnot [x6] fun x7 =>
    .ite x7 (
     .ret (.bool false)) (
     .l .len [(c 5 x0)] fun x8 =>
     .l .len [(c 5 x1)] fun x9 =>
     .l (.cmp .neq .i64) [x8, x9] fun x10 =>
     .ite x10 (
      .ret (.bool false)) (
      .loop [(i 0)] fun y11 =>
      .l .len [(c 5 x0)] fun x12 =>
      .l (.cmp .lss .i64) [(n y11 0), x12] fun x13 =>
      .ite x13 (
       .l (.idx 6 true) [(c 5 x0), (n y11 0)] fun x14 =>
       .l (.idx 6 true) [(c 5 x1), (n y11 0)] fun x15 =>
       .call F.ref02_Same [x14, x15] fun x16 =>
       .l .bnot [x16] fun x17 =>
       .ite x17 (
        .ret (.bool false)) (
        .l (.arith .add .i64) [(n y11 0), (i 1)] fun x18 =>
        .cont 0 [x18])) (
       .ret (.bool true))))))))
theorem k_ref02_Same : TxOk P F.ref02_Same 2 t_ref02_Same := txOk_of (H := {}) (plans := []) hm Try.func93 rfl rfl fun xs => by kernel_rfl
def t_head_prios_1 (xs : List PV) : T PV :=
.l (.unbox 1 false) [(n xs 1)] fun x0 =>
.l .len [x0] fun x1 =>
.loop [(i 0)] fun y2 =>
.l (.cmp .lss .i64) [(n y2 0), x1] fun x3 =>
.ite x3 (
 .l (.idx 2 true) [x0, (n y2 0)] fun x4 =>
 .l (.okc 2 true) [x4] fun x5 =>
 .l (.unbox 1 true) [(n xs 2)] fun x6 =>
 .call F.head_Prio [x6, x5] fun x7 =>
 .l (.tc 0) [x7] fun x8 =>
 .l (.tc 1) [x7] fun x9 =>
 .ite x9 (
  .callv (n xs 0) [x8] fun x10 =>
  .l .bnot [x10] fun x11 =>
  .ite x11 (
   .ret (.tup [])) (
   .l (.arith .add .i64) [(n y2 0), (i 1)] fun x12 =>
   .cont 0 [x12])) (
  .l (.arith .add .i64) [(n y2 0), (i 1)] fun x10 =>
  .cont 0 [x10])) (
 .ret (.tup []))
theorem k_head_prios_1 : TxOk P F.head_prios_1 3 t_head_prios_1 := txOk_of (H := {}) (plans := []) hm Try.func94 rfl rfl fun xs => by kernel_rfl
def v_head_prios_1 (xs : List PV) : T PV :=
.l (.unbox 1 false) [(n xs 1)] fun x0 =>
.l .len [x0] fun x1 =>
.loop [(i 0), (n xs 3)] fun y2 =>
.l (.cmp .lss .i64) [(n y2 0), x1] fun x3 =>
.ite x3 (
 .l (.idx 2 true) [x0, (n y2 0)] fun x4 =>
 .l (.okc 2 true) [x4] fun x5 =>
 .l (.unbox 1 true) [(n xs 2)] fun x6 =>
 .call F.head_Prio [x6, x5] fun x7 =>
 .l (.tc 0) [x7] fun x8 =>
 .l (.tc 1) [x7] fun x9 =>
 .ite x9 (
  .yld [x8] (n y2 1) fun x10 s10 =>
  .l .bnot [x10] fun x11 =>
  .ite x11 (
   .ret (.tup [(.tup []), s10])) (
   .l (.arith .add .i64) [(n y2 0), (i 1)] fun x12 =>
   .cont 0 [x12, s10])) (
  .l (.arith .add .i64) [(n y2 0), (i 1)] fun x10 =>
  .cont 0 [x10, (n y2 1)])) (
 .ret (.tup [(.tup []), (n y2 1)]))
theorem x_head_prios_1 (X : Xt) (hX : XtC P X) : @TxOkX { l := gl.l, x := X } P F.head_prios_1 3 [0] v_head_prios_1 := @txOkX_of { l := gl.l, x := X } P (@XC.mk P { l := gl.l, x := X } hX) {} [] _ _ _ _ _ hm Try.func94 rfl rfl fun xs => by kernel_rfl
def t_ref02_prio (xs : List PV) : T PV :=
.l (.cmp .geq .i64) [(n xs 0), (i 0)] fun x0 =>
.ite x0 (
 .l (.cmp .leq .i64) [(n xs 0), (i 1000000)] fun x1 =>
 .ret x1) (
 .ret (.bool false))
theorem k_ref02_prio : TxOk P F.ref02_prio 1 t_ref02_prio := txOk_of (H := {}) (plans := []) hm Try.func95 rfl rfl fun xs => by kernel_rfl
def t_ref02_Labels (xs : List PV) : T PV :=
.loop [(i 0)] fun y0 =>
.l .len [(n xs 0)] fun x1 =>
.l (.cmp .lss .i64) [(n y0 0), x1] fun x2 =>
.ite x2 (
 .l (.idx 1 false) [(n xs 0), (n y0 0)] fun x3 =>
 .call F.ref01_Name [x3] fun x4 =>
 .l .bnot [x4] fun x5 =>
 .ite x5 (
  .ret (.bool false)) (
  .l (.idx 1 false) [(n xs 0), (n y0 0)] fun x6 =>
  .l (.slcT 1 false) [(n xs 0), (n y0 0)] fun x7 =>
  .call F.ref02_in [x6, x7] fun x8 =>
  .ite x8 (
   .ret (.bool false)) (
   .l (.arith .add .i64) [(n y0 0), (i 1)] fun x9 =>
   .cont 0 [x9]))) (
 .ret (.bool true))
theorem k_ref02_Labels : TxOk P F.ref02_Labels 1 t_ref02_Labels := txOk_of (H := {}) (plans := []) hm Try.func96 rfl rfl fun xs => by kernel_rfl
def t_ref01_Name (xs : List PV) : T PV :=
.call F.ref01_Word [(n xs 0)] fun x0 =>
.ite x0 (
 .call F.ref01_Keyword [(n xs 0)] fun x1 =>
 .l .bnot [x1] fun x2 =>
 .ret x2) (
 .ret (.bool false))
theorem k_ref01_Name : TxOk P F.ref01_Name 1 t_ref01_Name := txOk_of (H := {}) (plans := []) hm Try.func97 rfl rfl fun xs => by kernel_rfl
def t_ref02_texts (xs : List PV) : T PV :=
.l .len [(n xs 0)] fun x0 =>
.l .len [(n xs 1)] fun x1 =>
.l (.cmp .neq .i64) [x0, x1] fun x2 =>
.ite x2 (
 .ret (.bool false)) (
 .loop [(i 0)] fun y3 =>
 .l .len [(n xs 0)] fun x4 =>
 .l (.cmp .lss .i64) [(n y3 0), x4] fun x5 =>
 .ite x5 (
  .l (.idx 1 false) [(n xs 0), (n y3 0)] fun x6 =>
  .l (.idx 1 false) [(n xs 1), (n y3 0)] fun x7 =>
  .l (.scmp .neq) [x6, x7] fun x8 =>
  .ite x8 (
   .ret (.bool false)) (
   .l (.arith .add .i64) [(n y3 0), (i 1)] fun x9 =>
   .cont 0 [x9])) (
  .ret (.bool true)))
theorem k_ref02_texts : TxOk P F.ref02_texts 2 t_ref02_texts := txOk_of (H := {}) (plans := []) hm Try.func98 rfl rfl fun xs => by kernel_rfl
def t_ref02_in (xs : List PV) : T PV :=
.loop [(i 0)] fun y0 =>
.l .len [(n xs 1)] fun x1 =>
.l (.cmp .lss .i64) [(n y0 0), x1] fun x2 =>
.ite x2 (
 .l (.idx 1 false) [(n xs 1), (n y0 0)] fun x3 =>
 .l (.scmp .eql) [x3, (n xs 0)] fun x4 =>
 .ite x4 (
  .ret (.bool true)) (
  .l (.arith .add .i64) [(n y0 0), (i 1)] fun x5 =>
  .cont 0 [x5])) (
 .ret (.bool false))
theorem k_ref02_in : TxOk P F.ref02_in 2 t_ref02_in := txOk_of (H := {}) (plans := []) hm Try.func99 rfl rfl fun xs => by kernel_rfl
def t_ref01_Word (xs : List PV) : T PV :=
.l .slen [(n xs 0)] fun x0 =>
.l (.cmp .eql .i64) [x0, (i 0)] fun x1 =>
.ite x1 (
 .ret (.bool false)) (
 .l .sidx [(n xs 0), (i 0)] fun x2 =>
 .call F.ref01_Letters [] fun x3 =>
 .call F.ref01_in [x2, x3] fun x4 =>
 .l .bnot [x4] fun x5 =>
 .ite x5 (
  .ret (.bool false)) (
  .loop [(i 1)] fun y6 =>
  .l .slen [(n xs 0)] fun x7 =>
  .l (.cmp .lss .i64) [(n y6 0), x7] fun x8 =>
  .ite x8 (
   .l .sidx [(n xs 0), (n y6 0)] fun x9 =>
   .call F.ref01_Letters [] fun x10 =>
   .call F.ref01_in [x9, x10] fun x11 =>
   .l .bnot [x11] fun x12 =>
   .ite x12 (
    .l .sidx [(n xs 0), (n y6 0)] fun x13 =>
    .call F.ref01_digits [] fun x14 =>
    .call F.ref01_in [x13, x14] fun x15 =>
    .l .bnot [x15] fun x16 =>
    .ite x16 (
     .ret (.bool false)) (
     .l (.arith .add .i64) [(n y6 0), (i 1)] fun x17 =>
     .cont 0 [x17])) (
    .l (.arith .add .i64) [(n y6 0), (i 1)] fun x13 =>
    .cont 0 [x13])) (
   .ret (.bool true))))
theorem k_ref01_Word : TxOk P F.ref01_Word 1 t_ref01_Word := txOk_of (H := {}) (plans := []) hm Try.func100 rfl rfl fun xs => by kernel_rfl
def t_ref01_Keyword (xs : List PV) : T PV :=
.l (.lst 1 false) [(.str ⟨#[100, 101, 102]⟩), (.str ⟨#[109, 97, 105, 110]⟩), (.str ⟨#[115, 116, 111, 112]⟩), (.str ⟨#[110, 101, 119]⟩), (.str ⟨#[105, 110, 116]⟩), (.str ⟨#[98, 111, 111, 108]⟩), (.str ⟨#[101, 110, 100]⟩), (.str ⟨#[114, 101, 99]⟩), (.str ⟨#[116, 114, 117, 101]⟩), (.str ⟨#[102, 97, 108, 115, 101]⟩)] fun x0 =>
.loop [(i 0)] fun y1 =>
.l .len [x0] fun x2 =>
.l (.cmp .lss .i64) [(n y1 0), x2] fun x3 =>
.ite x3 (
 .l (.idx 1 false) [x0, (n y1 0)] fun x4 =>
 .l (.scmp .eql) [x4, (n xs 0)] fun x5 =>
 .ite x5 (
  .ret (.bool true)) (
  .l (.arith .add .i64) [(n y1 0), (i 1)] fun x6 =>
  .cont 0 [x6])) (
 .ret (.bool false))
theorem k_ref01_Keyword : TxOk P F.ref01_Keyword 1 t_ref01_Keyword := txOk_of (H := {}) (plans := []) hm Try.func101 rfl rfl fun xs => by kernel_rfl
def t_ref01_in (xs : List PV) : T PV :=
.loop [(i 0)] fun y0 =>
.l .slen [(n xs 1)] fun x1 =>
.l (.cmp .lss .i64) [(n y0 0), x1] fun x2 =>
.ite x2 (
 .l .sidx [(n xs 1), (n y0 0)] fun x3 =>
 .l (.cmp .eql .u8) [x3, (n xs 0)] fun x4 =>
 .ite x4 (
  .ret (.bool true)) (
  .l (.arith .add .i64) [(n y0 0), (i 1)] fun x5 =>
  .cont 0 [x5])) (
 .ret (.bool false))
theorem k_ref01_in : TxOk P F.ref01_in 2 t_ref01_in := txOk_of (H := {}) (plans := []) hm Try.func102 rfl rfl fun xs => by kernel_rfl
def t_ref01_Letters (xs : List PV) : T PV :=
.ret (.str ⟨#[65, 66, 67, 68, 69, 70, 71, 72, 73, 74, 75, 76, 77, 78, 79, 80, 81, 82, 83, 84, 85, 86, 87, 88, 89, 90, 97, 98, 99, 100, 101, 102, 103, 104, 105, 106, 107, 108, 109, 110, 111, 112, 113, 114, 115, 116, 117, 118, 119, 120, 121, 122, 95]⟩)
theorem k_ref01_Letters : TxOk P F.ref01_Letters 0 t_ref01_Letters := txOk_of (H := {}) (plans := []) hm Try.func103 rfl rfl fun xs => by kernel_rfl
def t_ref01_digits (xs : List PV) : T PV :=
.ret (.str ⟨#[48, 49, 50, 51, 52, 53, 54, 55, 56, 57]⟩)
theorem k_ref01_digits : TxOk P F.ref01_digits 0 t_ref01_digits := txOk_of (H := {}) (plans := []) hm Try.func104 rfl rfl fun xs => by kernel_rfl
def tb : List (Nat × Tx) := [(F.law10_EqualUnfolds, ⟨2, t_law10_EqualUnfolds⟩), (F.law10_EqualOffsets, ⟨3, t_law10_EqualOffsets⟩), (F.law10_EqualClasses, ⟨1, t_law10_EqualClasses⟩), (F.law10_EqualChains, ⟨3, t_law10_EqualChains⟩), (F.law13_ContextSets, ⟨3, t_law13_ContextSets⟩), (F.law13_ContextSplits, ⟨2, t_law13_ContextSplits⟩), (F.law13_ContextDrops, ⟨2, t_law13_ContextDrops⟩), (F.law13_ContextParts, ⟨2, t_law13_ContextParts⟩), (F.law10_awake, ⟨0, t_law10_awake⟩), (F.ref02_Small, ⟨2, t_ref02_Small⟩), (F.ref02_Unfold, ⟨1, t_ref02_Unfold⟩), (F.law08_Graph, ⟨1, t_law08_Graph⟩), (F.equal_Equal, ⟨3, t_equal_Equal⟩), (F.equal_Alike, ⟨3, t_equal_Alike⟩), (F.equal_Offset, ⟨3, t_equal_Offset⟩), (F.ref10_Equal, ⟨2, t_ref10_Equal⟩), (F.ref02_Raise, ⟨2, t_ref02_Raise⟩), (F.ref07_Few, ⟨3, t_ref07_Few⟩), (F.equal_Classes, ⟨1, t_equal_Classes⟩), (F.law10_turned, ⟨1, t_law10_turned⟩), (F.law13_awake, ⟨0, t_law13_awake⟩), (F.context_Set, ⟨3, t_context_Set⟩), (F.law13_find, ⟨2, t_law13_find⟩), (F.context_Find, ⟨2, t_context_Find⟩), (F.law13_right, ⟨1, t_law13_right⟩), (F.law13_build, ⟨1, t_law13_build⟩), (F.context_Split, ⟨3, t_context_Split⟩), (F.ref13_Split, ⟨2, t_ref13_Split⟩), (F.law13_same, ⟨3, t_law13_same⟩), (F.ref13_IsLive, ⟨1, t_ref13_IsLive⟩), (F.context_Drop, ⟨2, t_context_Drop⟩), (F.context_Lowest, ⟨3, t_context_Lowest⟩), (F.ref13_Find, ⟨2, t_ref13_Find⟩), (F.law13_inside, ⟨2, t_law13_inside⟩), (F.ref13_Lowest, ⟨2, t_ref13_Lowest⟩), (F.law10_loop, ⟨2, t_law10_loop⟩), (F.law10_send, ⟨2, t_law10_send⟩), (F.ref02_Few, ⟨2, t_ref02_Few⟩), (F.ref02_Right, ⟨1, t_ref02_Right⟩), (F.ref02_put, ⟨3, t_ref02_put⟩), (F.ref07_Build, ⟨1, t_ref07_Build⟩), (F.equal_Equal_1, ⟨3, t_equal_Equal_1⟩), (F.head_Prio, ⟨2, t_head_Prio⟩), (F.equal_Alike_1, ⟨2, t_equal_Alike_1⟩), (F.equal_offset, ⟨2, t_equal_offset⟩), (F.head_Raise, ⟨2, t_head_Raise⟩), (F.context_Live, ⟨2, t_context_Live⟩), (F.slices_Clone_context_Entry_context_Entry, ⟨1, t_slices_Clone_context_Entry_context_Entry⟩), (F.context_index, ⟨2, t_context_index⟩), (F.context_Split_1, ⟨2, t_context_Split_1⟩), (F.slices_Contains_string_string, ⟨2, t_slices_Contains_string_string⟩), (F.context_selected_context_Entry, ⟨2, t_context_selected_context_Entry⟩), (F.context_Split_2, ⟨3, t_context_Split_2⟩), (F.context_live, ⟨2, t_context_live⟩), (F.context_Split_3, ⟨3, t_context_Split_3⟩), (F.ref03_In, ⟨2, t_ref03_In⟩), (F.ref08_Prio, ⟨1, t_ref08_Prio⟩), (F.context_Drop_1, ⟨2, t_context_Drop_1⟩), (F.head_Lowest, ⟨2, t_head_Lowest⟩), (F.slices_Collect_graph_Ref, ⟨1, t_slices_Collect_graph_Ref⟩), (F.context_others, ⟨2, t_context_others⟩), (F.ref08_Lowest, ⟨1, t_ref08_Lowest⟩), (F.ref02_count, ⟨2, t_ref02_count⟩), (F.ref02_Depth, ⟨1, t_ref02_Depth⟩), (F.ref02_Size, ⟨1, t_ref02_Size⟩), (F.ref02_node, ⟨4, t_ref02_node⟩), (F.ref07_reference, ⟨4, t_ref07_reference⟩), (F.ref07_nodes, ⟨4, t_ref07_nodes⟩), (F.head_action, ⟨1, t_head_action⟩), (F.equal_comparison_key, ⟨3, t_equal_comparison_key⟩), (F.slices_Index_string_string, ⟨2, t_slices_Index_string_string⟩), (F.head_Next, ⟨3, t_head_Next⟩), (F.ref03_Texts, ⟨2, t_ref03_Texts⟩), (F.ref08_Sorted, ⟨1, t_ref08_Sorted⟩), (F.ref10_Lower, ⟨2, t_ref10_Lower⟩), (F.ref10_Seen, ⟨2, t_ref10_Seen⟩), (F.ref08_Label, ⟨2, t_ref08_Label⟩), (F.context_Live_1, ⟨2, t_context_Live_1⟩), (F.slices_IndexFunc_context_Entry_context_Entry, ⟨2, t_slices_IndexFunc_context_Entry_context_Entry⟩), (F.context_index_1, ⟨2, t_context_index_1⟩), (F.head_fold_int, ⟨2, t_head_fold_int⟩), (F.head_prios, ⟨2, t_head_prios⟩), (F.head_Lowest_1, ⟨2, t_head_Lowest_1⟩), (F.context_others_1, ⟨3, t_context_others_1⟩), (F.ref02_shape, ⟨1, t_ref02_shape⟩), (F.ref02_Session, ⟨1, t_ref02_Session⟩), (F.ref07_Count, ⟨1, t_ref07_Count⟩), (F.ref02_Same, ⟨2, t_ref02_Same⟩), (F.head_prios_1, ⟨3, t_head_prios_1⟩), (F.ref02_prio, ⟨1, t_ref02_prio⟩), (F.ref02_Labels, ⟨1, t_ref02_Labels⟩), (F.ref01_Name, ⟨1, t_ref01_Name⟩), (F.ref02_texts, ⟨2, t_ref02_texts⟩), (F.ref02_in, ⟨2, t_ref02_in⟩), (F.ref01_Word, ⟨1, t_ref01_Word⟩), (F.ref01_Keyword, ⟨1, t_ref01_Keyword⟩), (F.ref01_in, ⟨2, t_ref01_in⟩), (F.ref01_Letters, ⟨0, t_ref01_Letters⟩), (F.ref01_digits, ⟨0, t_ref01_digits⟩)]
def tbS : List (Nat × TxS) := [(F.ref02_Raise, ⟨sg_ref02_Raise, u_ref02_Raise⟩), (F.equal_comparison_equal, ⟨sg_equal_comparison_equal, u_equal_comparison_equal⟩), (F.ref10_compare, ⟨sg_ref10_compare, u_ref10_compare⟩), (F.slices_Clone_context_Entry_context_Entry, ⟨sg_slices_Clone_context_Entry_context_Entry, u_slices_Clone_context_Entry_context_Entry⟩), (F.slices_AppendSeq_graph_Ref_graph_Ref, ⟨sg_slices_AppendSeq_graph_Ref_graph_Ref, u_slices_AppendSeq_graph_Ref_graph_Ref⟩)]
theorem allOk : AllOk P tb := ⟨k_law10_EqualUnfolds, k_law10_EqualOffsets, k_law10_EqualClasses, k_law10_EqualChains, k_law13_ContextSets, k_law13_ContextSplits, k_law13_ContextDrops, k_law13_ContextParts, k_law10_awake, k_ref02_Small, k_ref02_Unfold, k_law08_Graph, k_equal_Equal, k_equal_Alike, k_equal_Offset, k_ref10_Equal, k_ref02_Raise, k_ref07_Few, k_equal_Classes, k_law10_turned, k_law13_awake, k_context_Set, k_law13_find, k_context_Find, k_law13_right, k_law13_build, k_context_Split, k_ref13_Split, k_law13_same, k_ref13_IsLive, k_context_Drop, k_context_Lowest, k_ref13_Find, k_law13_inside, k_ref13_Lowest, k_law10_loop, k_law10_send, k_ref02_Few, k_ref02_Right, k_ref02_put, k_ref07_Build, k_equal_Equal_1, k_head_Prio, k_equal_Alike_1, k_equal_offset, k_head_Raise, k_context_Live, k_slices_Clone_context_Entry_context_Entry, k_context_index, k_context_Split_1, k_slices_Contains_string_string, k_context_selected_context_Entry, k_context_Split_2, k_context_live, k_context_Split_3, k_ref03_In, k_ref08_Prio, k_context_Drop_1, k_head_Lowest, k_slices_Collect_graph_Ref, k_context_others, k_ref08_Lowest, k_ref02_count, k_ref02_Depth, k_ref02_Size, k_ref02_node, k_ref07_reference, k_ref07_nodes, k_head_action, k_equal_comparison_key, k_slices_Index_string_string, k_head_Next, k_ref03_Texts, k_ref08_Sorted, k_ref10_Lower, k_ref10_Seen, k_ref08_Label, k_context_Live_1, k_slices_IndexFunc_context_Entry_context_Entry, k_context_index_1, k_head_fold_int, k_head_prios, k_head_Lowest_1, k_context_others_1, k_ref02_shape, k_ref02_Session, k_ref07_Count, k_ref02_Same, k_head_prios_1, k_ref02_prio, k_ref02_Labels, k_ref01_Name, k_ref02_texts, k_ref02_in, k_ref01_Word, k_ref01_Keyword, k_ref01_in, k_ref01_Letters, k_ref01_digits, trivial⟩
theorem allOkS : AllOkS P tbS := ⟨m_ref02_Raise, m_equal_comparison_equal, m_ref10_compare, m_slices_Clone_context_Entry_context_Entry, m_slices_AppendSeq_graph_Ref_graph_Ref, trivial⟩
end Go.Proofs.Ytlemfbmaineigaa.Tx

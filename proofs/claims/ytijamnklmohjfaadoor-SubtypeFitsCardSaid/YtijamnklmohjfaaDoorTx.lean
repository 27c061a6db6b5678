/- Texts of functions, printed by a program (wip/dev/Gen.lean). -/
import Derived.Test.YtijamnklmohjfaaDoorLfD
import Derived.Test.YtijamnklmohjfaaDoorChecked
import Derived.KernelRfl
set_option linter.all false
namespace Go.Proofs.YtijamnklmohjfaaDoor.Tx
open Go.Lf Go.Lf.S
set_option maxRecDepth 100000
instance gl : Gl := { l := [(0, (.agg [(i 0), (i 1), (i 2), (i 3), (i 5), (i 4), (i 7), (i 6)]), 8, true)] }
noncomputable abbrev P : Program := Tryd.prog
instance xc : XC P := xc_none rfl
namespace F
abbrev law11_SubtypeDuals : Nat := 3
abbrev law11_SubtypeFits : Nat := 4
abbrev law11_SubtypeLabels : Nat := 5
abbrev law21_MonitorDuals : Nat := 6
abbrev law21_MonitorApart : Nat := 7
abbrev law11_SubtypeOrders : Nat := 8
abbrev law11_awake : Nat := 9
abbrev ref02_Small : Nat := 10
abbrev ref02_Session : Nat := 11
abbrev law08_Graph : Nat := 12
abbrev dual_Close : Nat := 13
abbrev dual_Of : Nat := 14
abbrev subtype_Sub : Nat := 15
abbrev subtype_Fits : Nat := 16
abbrev ref11_Dual : Nat := 17
abbrev ref11_Sub : Nat := 18
abbrev ref02_Raise : Nat := 19
abbrev ref02_Right : Nat := 20
abbrev law21_awake : Nat := 21
abbrev ref21_Right : Nat := 22
abbrev ref14_Dual : Nat := 23
abbrev monitor_New : Nat := 24
abbrev ref21_Blown : Nat := 25
abbrev ref21_Observe : Nat := 26
abbrev monitor_Monitor_Observe : Nat := 27
abbrev monitor_Monitor_Settled : Nat := 28
abbrev law21_states : Nat := 29
abbrev ref02_Same : Nat := 30
abbrev subtype_Same : Nat := 31
abbrev equal_Equal : Nat := 32
abbrev ref02_Few : Nat := 33
abbrev ref07_Build : Nat := 34
abbrev dual_mapped_graph_Node_graph_Node : Nat := 35
abbrev dual_Close_1 : Nat := 36
abbrev slices_Clone_string_string : Nat := 37
abbrev slices_Clone_graph_Ref_graph_Ref : Nat := 38
abbrev dual_Close_2 : Nat := 39
abbrev dual_mapped_graph_Ref_graph_Ref : Nat := 40
abbrev dual_Close_2_1 : Nat := 41
abbrev dual_rest : Nat := 42
abbrev dual_Kind : Nat := 43
abbrev subtype_relation_sub : Nat := 44
abbrev ref09_Kind : Nat := 45
abbrev ref11_reached : Nat := 46
abbrev ref10_Lower : Nat := 47
abbrev ref11_needs : Nat := 48
abbrev ref11_index : Nat := 49
abbrev ref02_Depth : Nat := 50
abbrev ref02_Size : Nat := 51
abbrev ref02_node : Nat := 52
abbrev monitor_Monitor_State : Nat := 53
abbrev monitor_Monitor_Len : Nat := 54
abbrev ref14_dual : Nat := 55
abbrev monitor_Monitor_Add : Nat := 56
abbrev ref02_Unfold : Nat := 57
abbrev monitor_Monitor_has : Nat := 58
abbrev monitor_want : Nat := 59
abbrev slices_Index_string_string : Nat := 60
abbrev monitor_fits : Nat := 61
abbrev typetree_Unfold : Nat := 62
abbrev slices_ContainsFunc_api_Type_api_Type : Nat := 63
abbrev monitor_Monitor_Settled_1 : Nat := 64
abbrev ref02_texts : Nat := 65
abbrev equal_Equal_1 : Nat := 66
abbrev head_Prio : Nat := 67
abbrev equal_comparison_equal : Nat := 68
abbrev ref02_count : Nat := 69
abbrev ref07_reference : Nat := 70
abbrev ref07_nodes : Nat := 71
abbrev head_Kind : Nat := 72
abbrev subtype_relation_next : Nat := 73
abbrev subtype_relation_down : Nat := 74
abbrev subtype_relation_labels : Nat := 75
abbrev ref10_Seen : Nat := 76
abbrev ref08_Prio : Nat := 77
abbrev ref08_Label : Nat := 78
abbrev ref02_shape : Nat := 79
abbrev typetree_Copy : Nat := 80
abbrev ref14_closed : Nat := 81
abbrev ref02_put : Nat := 82
abbrev monitor_values : Nat := 83
abbrev typetree_replace : Nat := 84
abbrev slices_IndexFunc_api_Type_api_Type : Nat := 85
abbrev head_action : Nat := 86
abbrev equal_comparison_key : Nat := 87
abbrev head_Next : Nat := 88
abbrev ref07_Count : Nat := 89
abbrev head_Label : Nat := 90
abbrev ref02_prio : Nat := 91
abbrev ref02_Labels : Nat := 92
abbrev ref01_Name : Nat := 93
abbrev typetree_mapped : Nat := 94
abbrev typetree_Raise : Nat := 95
abbrev typetree_replace_1 : Nat := 96
abbrev head_Raise : Nat := 97
abbrev ref02_in : Nat := 98
abbrev ref01_Word : Nat := 99
abbrev ref01_Keyword : Nat := 100
abbrev typetree_Raise_1 : Nat := 101
abbrev ref01_in : Nat := 102
abbrev ref01_Letters : Nat := 103
abbrev ref01_digits : Nat := 104
end F
theorem hm : Tryd.prog.follows .mixedOrders = true := by kernel_rfl
/-- duologue/duologueref02.Raise, with memory -/
def sg_ref02_Raise : Sig := { args := [.at (.dat 0), .at (.dat 1)], obs := [], res := .agg [.dat 0, .dat 1, .dat 2, .dat 3, .dat 4, .own 9000], robs := [(9000, .arr false 25 6 true 5)], nout := 6 }
/-- duologue/duologueref02.Raise, with memory -/
def sg_ref02_Raise_Lb : Sig := { args := [.at (.dat 0), .at (.dat 1)], obs := [], res := .agg [.dat 0, .dat 1, .dat 2, .dat 3, .own 9001, .own 9000], robs := [(9001, .arr true 9 1 false 4), (9000, .arr false 25 6 true 5)], nout := 6 }
/-- duologue/monitor.New, with memory -/
def sg_monitor_New : Sig := { args := [.at (.dat 0)], obs := [], res := .at (.ptr 9000 0), robs := [(9000, .cells false 1 true (.pts [.own 9001])), (9001, .arr false 25 6 true 0)], nout := 1 }
/-- (*duologue/monitor.Monitor).Observe, with memory -/
def sg_monitor_Monitor_Observe : Sig := { args := [.at (.ptr 9000 0), .at (.dat 0)], obs := [(9000, .cells false 1 true (.pts [.own 9001])), (9001, .arr false 25 6 true 1)], res := .at (.dat 0), robs := [(9000, .cells false 1 true (.pts [.own 9001])), (9001, .arr false 25 6 true 1)], nout := 2 }
/-- (*duologue/monitor.Monitor).Observe, with memory -/
def sg_monitor_Monitor_Observe_Nil : Sig := { args := [.at (.dat 0), .at (.dat 1)], obs := [], res := .at (.dat 0), robs := [], nout := 1 }
/-- duologue/duologuelaw21.states, with memory -/
def sg_law21_states : Sig := { args := [.at (.ptr 9000 0)], obs := [(9000, .cells false 1 true (.pts [.own 9001])), (9001, .arr false 25 6 true 0)], res := .at (.dat 0), robs := [(9000, .cells false 1 true (.pts [.own 9001])), (9001, .arr false 25 6 true 1)], nout := 2 }
/-- duologue/dual.mapped[duologue/graph.Node,duologue/graph.Node], with memory -/
def sg_dual_mapped_graph_Node_graph_Node : Sig := { args := [.at (.dat 0), .at (.dat 1)], obs := [], res := .at (.own 9000), robs := [(9000, .arr true 72 4 true 0)], nout := 1 }
/-- slices.Clone[[]string,string], with memory -/
def sg_slices_Clone_string_string : Sig := { args := [.at (.dat 0)], obs := [], res := .at (.own 9000), robs := [(9000, .arr false 9 1 false 0)], nout := 1 }
/-- slices.Clone[[]duologue/graph.Ref,duologue/graph.Ref], with memory -/
def sg_slices_Clone_graph_Ref_graph_Ref : Sig := { args := [.at (.dat 0)], obs := [], res := .at (.own 9000), robs := [(9000, .arr false 37 2 true 0)], nout := 1 }
/-- (*duologue/subtype.relation).sub, with memory -/
def sg_subtype_relation_sub : Sig := { args := [.at (.ptr 9000 0), .at (.dat 0), .at (.dat 1)], obs := [(9000, .cells false 2 true (.pts [.dat 2, .mref 9001])), (9001, .map false 3)], res := .at (.dat 0), robs := [(9000, .cells false 2 true (.pts [.dat 1, .mref 9001])), (9001, .map false 2)], nout := 3 }
/-- (*duologue/monitor.Monitor).State, with memory -/
def sg_monitor_Monitor_State : Sig := { args := [.at (.ptr 9000 0), .at (.dat 0)], obs := [(9000, .cells false 1 true (.pts [.own 9001])), (9001, .arr false 25 6 true 1)], res := .at (.dat 0), robs := [(9000, .cells false 1 true (.pts [.own 9001])), (9001, .arr false 25 6 true 1)], nout := 2 }
/-- (*duologue/monitor.Monitor).Add, with memory -/
def sg_monitor_Monitor_Add : Sig := { args := [.at (.ptr 9000 0), .at (.dat 0)], obs := [(9000, .cells false 1 true (.pts [.own 9001])), (9001, .arr false 25 6 true 1)], res := .at (.dat 0), robs := [(9000, .cells false 1 true (.pts [.own 9002])), (9002, .arr false 25 6 true 1)], nout := 2 }
/-- (*duologue/equal.comparison).equal, with memory -/
def sg_equal_comparison_equal : Sig := { args := [.at (.ptr 9000 0), .at (.dat 0), .at (.dat 1)], obs := [(9000, .cells false 4 true (.pts [.dat 2, .mref 9001, .dat 3, .dat 4])), (9001, .map false 5)], res := .at (.dat 0), robs := [(9000, .cells false 4 true (.pts [.dat 1, .mref 9001, .dat 2, .dat 3])), (9001, .map false 4)], nout := 5 }
/-- (*duologue/subtype.relation).next, with memory -/
def sg_subtype_relation_next_Dn : Sig := { args := [.at (.ptr 9000 0), .at (.dat 0), .at (.dat 1), .at (.dat 2), .at (.dat 3), .at (.clo 74 [(9000, 0)] [])], obs := [(9000, .cells false 2 true (.pts [.dat 4, .mref 9001])), (9001, .map false 5)], res := .at (.dat 0), robs := [(9000, .cells false 2 true (.pts [.dat 1, .mref 9001])), (9001, .map false 2)], nout := 3 }
/-- (*duologue/subtype.relation).next, with memory -/
def sg_subtype_relation_next_Sb : Sig := { args := [.at (.ptr 9000 0), .at (.dat 0), .at (.dat 1), .at (.dat 2), .at (.dat 3), .at (.clo 44 [(9000, 0)] [])], obs := [(9000, .cells false 2 true (.pts [.dat 4, .mref 9001])), (9001, .map false 5)], res := .at (.dat 0), robs := [(9000, .cells false 2 true (.pts [.dat 1, .mref 9001])), (9001, .map false 2)], nout := 3 }
/-- (*duologue/subtype.relation).down, with memory -/
def sg_subtype_relation_down : Sig := { args := [.at (.ptr 9000 0), .at (.dat 0), .at (.dat 1)], obs := [(9000, .cells false 2 true (.pts [.dat 2, .mref 9001])), (9001, .map false 3)], res := .at (.dat 0), robs := [(9000, .cells false 2 true (.pts [.dat 1, .mref 9001])), (9001, .map false 2)], nout := 3 }
/-- (*duologue/subtype.relation).labels, with memory -/
def sg_subtype_relation_labels : Sig := { args := [.at (.ptr 9000 0), .at (.dat 0), .at (.dat 1), .at (.dat 2)], obs := [(9000, .cells false 2 true (.pts [.dat 3, .mref 9001])), (9001, .map false 4)], res := .at (.dat 0), robs := [(9000, .cells false 2 true (.pts [.dat 1, .mref 9001])), (9001, .map false 2)], nout := 3 }
def t_law11_SubtypeDuals (xs : List PV) : T PV :=
.l (.okc 6 true) [(n xs 0)] fun x0 =>
.l (.okc 6 true) [(n xs 1)] fun x1 =>
.call F.law11_awake [] fun x2 =>
.l .bnot [x2] fun x3 =>
.ite x3 (
 .call F.law11_awake [] fun x4 =>
 .ret x4) (
 .call F.ref02_Small [x0, (i 40)] fun x4 =>
 .l .bnot [x4] fun x5 =>
 .ite x5 (
  .call F.law11_awake [] fun x6 =>
  .ret x6) (
  .call F.ref02_Small [x1, (i 40)] fun x6 =>
  .l .bnot [x6] fun x7 =>
  .ite x7 (
   .call F.law11_awake [] fun x8 =>
   .ret x8) (
   .call F.ref02_Session [x0] fun x8 =>
   .l .bnot [x8] fun x9 =>
   .ite x9 (
    .call F.law11_awake [] fun x10 =>
    .ret x10) (
    .call F.ref02_Session [x1] fun x10 =>
    .l .bnot [x10] fun x11 =>
    .ite x11 (
     .call F.law11_awake [] fun x12 =>
     .ret x12) (
     .l (.lst 6 true) [x0, x1] fun x12 =>
     .call F.law08_Graph [x12] fun x13 =>
     .l (.tc 0) [x13] fun x14 =>
     .l (.tc 1) [x13] fun x15 =>
     .l (.okc 1 true) [x14] fun x16 =>
     .call F.dual_Close [x16] fun x17 =>
     .l (.okc 1 true) [x17] fun x18 =>
     .l .len [(c 0 x18)] fun x19 =>
     .l .len [(c 0 x16)] fun x20 =>
     .l (.arith .mul .i64) [(i 2), x20] fun x21 =>
     .l (.cmp .neq .i64) [x19, x21] fun x22 =>
     .ite x22 (
      .ret (.bool false)) (
      .l (.idx 2 true) [x15, (i 0)] fun x23 =>
      .call F.dual_Of [x18, x23] fun x24 =>
      .l (.okc 2 true) [x24] fun x25 =>
      .l (.idx 2 true) [x15, (i 1)] fun x26 =>
      .call F.dual_Of [x18, x26] fun x27 =>
      .l (.okc 2 true) [x27] fun x28 =>
      .l (.cmp .lss .i64) [(c 0 x25), (i 0)] fun x29 =>
      .ite x29 (
       .ret (.bool false)) (
       .l (.cmp .lss .i64) [(c 0 x28), (i 0)] fun x30 =>
       .ite x30 (
        .ret (.bool false)) (
        .l .len [(c 0 x18)] fun x31 =>
        .l (.cmp .geq .i64) [(c 0 x25), x31] fun x32 =>
        .ite x32 (
         .ret (.bool false)) (
         .l .len [(c 0 x18)] fun x33 =>
         .l (.cmp .geq .i64) [(c 0 x28), x33] fun x34 =>
         .ite x34 (
          .ret (.bool false)) (
          .l (.idx 2 true) [x15, (i 0)] fun x35 =>
          .l (.idx 2 true) [x15, (i 1)] fun x36 =>
          .call F.subtype_Sub [x18, x35, x36] fun x37 =>
          .call F.subtype_Sub [x18, x28, x25] fun x38 =>
          .l (.bcmp .eql) [x37, x38] fun x39 =>
          .ite x39 (
           .l (.idx 2 true) [x15, (i 0)] fun x40 =>
           .call F.subtype_Fits [x18, x40, x28] fun x41 =>
           .l (.bcmp .eql) [x37, x41] fun x42 =>
           .ite x42 (
            .l (.idx 2 true) [x15, (i 0)] fun x43 =>
            .l (.idx 2 true) [x15, (i 1)] fun x44 =>
            .call F.subtype_Fits [x18, x43, x44] fun x45 =>
            .l (.idx 2 true) [x15, (i 1)] fun x46 =>
            .l (.idx 2 true) [x15, (i 0)] fun x47 =>
            .call F.subtype_Fits [x18, x46, x47] fun x48 =>
            .l (.bcmp .eql) [x45, x48] fun x49 =>
            .ite x49 (
             .l (.idx 2 true) [x15, (i 0)] fun x50 =>
             .call F.subtype_Fits [x18, x50, x25] fun x51 =>
             .ret x51) (
             .ret (.bool false))) (
            .ret (.bool false))) (
           .ret (.bool false))))))))))))
theorem k_law11_SubtypeDuals : TxOk P F.law11_SubtypeDuals 2 t_law11_SubtypeDuals := txOk_of (H := {}) (plans := []) hm Tryd.func3 rfl rfl fun xs => by kernel_rfl
def t_law11_SubtypeFits (xs : List PV) : T PV :=
.l (.okc 6 true) [(n xs 0)] fun x0 =>
.l (.okc 6 true) [(n xs 1)] fun x1 =>
.call F.law11_awake [] fun x2 =>
.l .bnot [x2] fun x3 =>
.ite x3 (
 .call F.law11_awake [] fun x4 =>
 .ret x4) (
 .call F.ref02_Small [x0, (i 20)] fun x4 =>
 .l .bnot [x4] fun x5 =>
 .ite x5 (
  .call F.law11_awake [] fun x6 =>
  .ret x6) (
  .call F.ref02_Small [x1, (i 20)] fun x6 =>
  .l .bnot [x6] fun x7 =>
  .ite x7 (
   .call F.law11_awake [] fun x8 =>
   .ret x8) (
   .call F.ref02_Session [x0] fun x8 =>
   .l .bnot [x8] fun x9 =>
   .ite x9 (
    .call F.law11_awake [] fun x10 =>
    .ret x10) (
    .call F.ref02_Session [x1] fun x10 =>
    .l .bnot [x10] fun x11 =>
    .ite x11 (
     .call F.law11_awake [] fun x12 =>
     .ret x12) (
     .call F.ref11_Dual [x1] fun x12 =>
     .l (.tc 0) [x12] fun x13 =>
     .l (.tc 1) [x12] fun x14 =>
     .l (.okc 6 true) [x13] fun x15 =>
     .l .bnot [x14] fun x16 =>
     .ite x16 (
      .ret (.bool true)) (
      .l (.lst 6 true) [x0, x1] fun x17 =>
      .call F.law08_Graph [x17] fun x18 =>
      .l (.tc 0) [x18] fun x19 =>
      .l (.tc 1) [x18] fun x20 =>
      .l (.okc 1 true) [x19] fun x21 =>
      .call F.dual_Close [x21] fun x22 =>
      .l (.idx 2 true) [x20, (i 0)] fun x23 =>
      .l (.idx 2 true) [x20, (i 1)] fun x24 =>
      .call F.subtype_Fits [x22, x23, x24] fun x25 =>
      .call F.ref11_Sub [x0, x15] fun x26 =>
      .l (.bcmp .eql) [x25, x26] fun x27 =>
      .ret x27))))))
theorem k_law11_SubtypeFits : TxOk P F.law11_SubtypeFits 2 t_law11_SubtypeFits := txOk_of (H := {}) (plans := []) hm Tryd.func4 rfl rfl fun xs => by kernel_rfl
def t_law11_SubtypeLabels (xs : List PV) : T PV :=
.l (.okc 6 true) [(n xs 0)] fun x0 =>
.l (.okc 6 true) [(n xs 1)] fun x1 =>
.call F.law11_awake [] fun x2 =>
.l .bnot [x2] fun x3 =>
.ite x3 (
 .call F.law11_awake [] fun x4 =>
 .ret x4) (
 .call F.ref02_Small [x0, (i 40)] fun x4 =>
 .l .bnot [x4] fun x5 =>
 .ite x5 (
  .call F.law11_awake [] fun x6 =>
  .ret x6) (
  .call F.ref02_Small [x1, (i 40)] fun x6 =>
  .l .bnot [x6] fun x7 =>
  .ite x7 (
   .call F.law11_awake [] fun x8 =>
   .ret x8) (
   .call F.ref02_Session [x1] fun x8 =>
   .l .bnot [x8] fun x9 =>
   .ite x9 (
    .call F.law11_awake [] fun x10 =>
    .ret x10) (
    .l .len [(c 4 x0)] fun x10 =>
    .l (.cmp .eql .i64) [x10, (i 0)] fun x11 =>
    .ite x11 (
     .call F.law11_awake [] fun x12 =>
     .ret x12) (
     .l .slen [(n xs 2)] fun x12 =>
     .l (.cmp .gtr .i64) [x12, (i 100)] fun x13 =>
     .ite x13 (
      .call F.law11_awake [] fun x14 =>
      .ret x14) (
      .calls F.ref02_Raise sg_ref02_Raise_Lb [x0, (i 0)] fun z14 =>
      .l (.lst 1 false) [(n xs 2)] fun x15 =>
      .l (.app 1 false 16) [(n z14 4), x15] fun x16 =>
      .l (.lst 6 true) [x1] fun x17 =>
      .l (.app 6 true 88) [(n z14 5), x17] fun x18 =>
      .call F.ref02_Right [(.agg [(n z14 0), (n z14 1), (n z14 2), (n z14 3), x16, x18])] fun x19 =>
      .l (.cmp .neq .i64) [x19, (i 0)] fun x20 =>
      .ite x20 (
       .ret (.bool true)) (
       .l (.lst 6 true) [x0, (.agg [(n z14 0), (n z14 1), (n z14 2), (n z14 3), x16, x18])] fun x21 =>
       .call F.law08_Graph [x21] fun x22 =>
       .l (.tc 0) [x22] fun x23 =>
       .l (.tc 1) [x22] fun x24 =>
       .l (.okc 1 true) [x23] fun x25 =>
       .l (.idx 2 true) [x24, (i 1)] fun x26 =>
       .l (.idx 2 true) [x24, (i 0)] fun x27 =>
       .call F.subtype_Sub [x25, x26, x27] fun x28 =>
       .l (.idx 2 true) [x24, (i 0)] fun x29 =>
       .l (.idx 2 true) [x24, (i 1)] fun x30 =>
       .call F.subtype_Sub [x25, x29, x30] fun x31 =>
       .l (.cmp .eql .i64) [(c 0 x0), (i 6)] fun x32 =>
       .ite x32 (
        .ite x28 (
         .l .bnot [x31] fun x33 =>
         .ret x33) (
         .ret (.bool false))) (
        .ite x31 (
         .l .bnot [x28] fun x33 =>
         .ret x33) (
         .ret (.bool false))))))))))
theorem k_law11_SubtypeLabels : TxOk P F.law11_SubtypeLabels 3 t_law11_SubtypeLabels := txOk_of (H := { wr := [], ro := [], nl := [], fz := [], da := [], sigs := [(19, sg_ref02_Raise_Lb)] }) (plans := []) hm Tryd.func5 rfl rfl fun xs => by kernel_rfl
def t_law21_MonitorDuals (xs : List PV) : T PV :=
.l (.okc 6 true) [(n xs 0)] fun x0 =>
.call F.law21_awake [] fun x1 =>
.l .bnot [x1] fun x2 =>
.ite x2 (
 .call F.law21_awake [] fun x3 =>
 .ret x3) (
 .l (.lst 6 true) [x0] fun x3 =>
 .call F.ref21_Right [x3] fun x4 =>
 .l .bnot [x4] fun x5 =>
 .ite x5 (
  .call F.law21_awake [] fun x6 =>
  .ret x6) (
  .l .len [(n xs 1)] fun x6 =>
  .l (.cmp .gtr .i64) [x6, (i 30)] fun x7 =>
  .ite x7 (
   .call F.law21_awake [] fun x8 =>
   .ret x8) (
   .call F.ref14_Dual [x0] fun x8 =>
   .l (.lst 6 true) [x8] fun x9 =>
   .call F.ref21_Right [x9] fun x10 =>
   .l .bnot [x10] fun x11 =>
   .ite x11 (
    .call F.law21_awake [] fun x12 =>
    .ret x12) (
    .l (.lst 6 true) [x0] fun x12 =>
    .calls F.monitor_New sg_monitor_New [x12] fun z13 =>
    .call F.ref14_Dual [x0] fun x14 =>
    .l (.lst 6 true) [x14] fun x15 =>
    .calls F.monitor_New sg_monitor_New [x15] fun z16 =>
    .l (.lst 6 true) [x0] fun x17 =>
    .loop [(i 0), x17, (n z13 0), (n z16 0)] fun y18 =>
    .l .len [(n xs 1)] fun x19 =>
    .l (.cmp .lss .i64) [(n y18 0), x19] fun x20 =>
    .ite x20 (
     .call F.ref21_Blown [(n y18 1)] fun x21 =>
     .ite x21 (
      .ret (.bool true)) (
      .l (.idx 6 true) [(n xs 1), (n y18 0)] fun x22 =>
      .call F.ref21_Observe [(n y18 1), x22] fun x23 =>
      .l (.tc 0) [x23] fun x24 =>
      .l (.tc 1) [x23] fun x25 =>
      .l (.idx 6 true) [(n xs 1), (n y18 0)] fun x26 =>
      .l (.okc 6 true) [x26] fun x27 =>
      .l (.okc 6 true) [x27] fun x28 =>
      .l .bnot [(c 1 x27)] fun x29 =>
      .l (.okc 1 false) [x29] fun x30 =>
      .calls F.monitor_Monitor_Observe sg_monitor_Monitor_Observe [x27, (n y18 2)] fun z31 =>
      .calls F.monitor_Monitor_Observe sg_monitor_Monitor_Observe [(.agg [(c 0 x28), x30, (c 2 x28), (c 3 x28), (c 4 x28), (c 5 x28)]), (n y18 3)] fun z32 =>
      .l (.cmp .neq .i64) [(n z31 0), (n z32 0)] fun x33 =>
      .ite x33 (
       .ret (.bool false)) (
       .l (.arith .add .i64) [(n y18 0), (i 1)] fun x34 =>
       .cont 0 [x34, x24, (n z31 1), (n z32 1)]))) (
     .call F.monitor_Monitor_Settled [(.box (.agg [(n y18 2)]))] fun x21 =>
     .l .gnd [x21] fun x22 =>
     .call F.monitor_Monitor_Settled [(.box (.agg [(n y18 3)]))] fun x23 =>
     .l .gnd [x23] fun x24 =>
     .l (.bcmp .eql) [x22, x24] fun x25 =>
     .ret x25)))))
theorem k_law21_MonitorDuals : TxOk P F.law21_MonitorDuals 2 t_law21_MonitorDuals := txOk_of (H := { wr := [], ro := [28, 54, 58, 64], nl := [], fz := [], da := [7], sigs := [(24, sg_monitor_New), (56, sg_monitor_Monitor_Add), (27, sg_monitor_Monitor_Observe), (53, sg_monitor_Monitor_State), (29, sg_law21_states)] }) (plans := []) hm Tryd.func6 rfl rfl fun xs => by kernel_rfl
def t_law21_MonitorApart (xs : List PV) : T PV :=
.l (.okc 6 true) [(n xs 1)] fun x0 =>
.call F.law21_awake [] fun x1 =>
.l .bnot [x1] fun x2 =>
.ite x2 (
 .call F.law21_awake [] fun x3 =>
 .ret x3) (
 .call F.ref21_Right [(n xs 0)] fun x3 =>
 .l .bnot [x3] fun x4 =>
 .ite x4 (
  .call F.law21_awake [] fun x5 =>
  .ret x5) (
  .calls F.monitor_New sg_monitor_New [(n xs 0)] fun z5 =>
  .calls F.law21_states sg_law21_states [(n z5 0)] fun z6 =>
  .calls F.monitor_Monitor_Observe sg_monitor_Monitor_Observe [x0, (n z6 1)] fun z7 =>
  .calls F.law21_states sg_law21_states [(n z7 1)] fun z8 =>
  .l .len [(n z6 0)] fun x9 =>
  .l .len [(n xs 0)] fun x10 =>
  .l (.cmp .neq .i64) [x9, x10] fun x11 =>
  .ite x11 (
   .ret (.bool false)) (
   .l .len [(n z8 0)] fun x12 =>
   .l .len [(n xs 0)] fun x13 =>
   .l (.cmp .neq .i64) [x12, x13] fun x14 =>
   .ite x14 (
    .ret (.bool false)) (
    .loop [(i 0)] fun y15 =>
    .l .len [(n xs 0)] fun x16 =>
    .l (.cmp .lss .i64) [(n y15 0), x16] fun x17 =>
    .ite x17 (
     .l (.cmp .neq .i64) [(n y15 0), (c 0 x0)] fun x18 =>
     .ite x18 (
      .l (.idx 6 true) [(n z6 0), (n y15 0)] fun x19 =>
      .l (.idx 6 true) [(n z8 0), (n y15 0)] fun x20 =>
      .call F.ref02_Same [x19, x20] fun x21 =>
      .l .bnot [x21] fun x22 =>
      .ite x22 (
       .ret (.bool false)) (
       .l (.arith .add .i64) [(n y15 0), (i 1)] fun x23 =>
       .cont 0 [x23])) (
      .l (.cmp .neq .i64) [(n z7 0), (i 0)] fun x19 =>
      .ite x19 (
       .l (.idx 6 true) [(n z6 0), (n y15 0)] fun x20 =>
       .l (.idx 6 true) [(n z8 0), (n y15 0)] fun x21 =>
       .call F.ref02_Same [x20, x21] fun x22 =>
       .l .bnot [x22] fun x23 =>
       .ite x23 (
        .ret (.bool false)) (
        .l (.arith .add .i64) [(n y15 0), (i 1)] fun x24 =>
        .cont 0 [x24])) (
       .l (.arith .add .i64) [(n y15 0), (i 1)] fun x20 =>
       .cont 0 [x20]))) (
     .l (.cmp .neq .i64) [(n z7 0), (i 0)] fun x18 =>
     .ite x18 (
      .ret (.bool true)) (
      .l (.cmp .geq .i64) [(c 0 x0), (i 0)] fun x19 =>
      .ite x19 (
       .l .len [(n xs 0)] fun x20 =>
       .l (.cmp .lss .i64) [(c 0 x0), x20] fun x21 =>
       .ret x21) (
       .ret (.bool false))))))))
theorem k_law21_MonitorApart : TxOk P F.law21_MonitorApart 2 t_law21_MonitorApart := txOk_of (H := { wr := [], ro := [28, 54, 58, 64], nl := [], fz := [], da := [], sigs := [(24, sg_monitor_New), (56, sg_monitor_Monitor_Add), (27, sg_monitor_Monitor_Observe), (53, sg_monitor_Monitor_State), (29, sg_law21_states)] }) (plans := []) hm Tryd.func7 rfl rfl fun xs => by kernel_rfl
def t_law11_SubtypeOrders (xs : List PV) : T PV :=
.l (.okc 6 true) [(n xs 0)] fun x0 =>
.l (.okc 6 true) [(n xs 1)] fun x1 =>
.l (.okc 6 true) [(n xs 2)] fun x2 =>
.call F.law11_awake [] fun x3 =>
.l .bnot [x3] fun x4 =>
.ite x4 (
 .call F.law11_awake [] fun x5 =>
 .ret x5) (
 .call F.ref02_Small [x0, (i 40)] fun x5 =>
 .l .bnot [x5] fun x6 =>
 .ite x6 (
  .call F.law11_awake [] fun x7 =>
  .ret x7) (
  .call F.ref02_Small [x1, (i 40)] fun x7 =>
  .l .bnot [x7] fun x8 =>
  .ite x8 (
   .call F.law11_awake [] fun x9 =>
   .ret x9) (
   .call F.ref02_Small [x2, (i 40)] fun x9 =>
   .l .bnot [x9] fun x10 =>
   .ite x10 (
    .call F.law11_awake [] fun x11 =>
    .ret x11) (
    .l (.lst 6 true) [x0, x1, x2] fun x11 =>
    .call F.law08_Graph [x11] fun x12 =>
    .l (.tc 0) [x12] fun x13 =>
    .l (.tc 1) [x12] fun x14 =>
    .l (.okc 1 true) [x13] fun x15 =>
    .l (.idx 2 true) [x14, (i 0)] fun x16 =>
    .l (.idx 2 true) [x14, (i 1)] fun x17 =>
    .call F.subtype_Sub [x15, x16, x17] fun x18 =>
    .l (.idx 2 true) [x14, (i 1)] fun x19 =>
    .l (.idx 2 true) [x14, (i 2)] fun x20 =>
    .call F.subtype_Sub [x15, x19, x20] fun x21 =>
    .ite x18 (
     .ite x21 (
      .l (.idx 2 true) [x14, (i 0)] fun x22 =>
      .l (.idx 2 true) [x14, (i 2)] fun x23 =>
      .call F.subtype_Sub [x15, x22, x23] fun x24 =>
      .l .bnot [x24] fun x25 =>
      .ite x25 (
       .ret (.bool false)) (
       .l (.idx 2 true) [x14, (i 0)] fun x26 =>
       .l (.idx 2 true) [x14, (i 0)] fun x27 =>
       .l (.conv .i64) [(n xs 3)] fun x28 =>
       .l (.arith .add .i64) [(c 1 x27), x28] fun x29 =>
       .l (.okcs [(1, false), (1, false)]) [(c 0 x26), x29] fun x30 =>
       .l (.idx 2 true) [x14, (i 1)] fun x31 =>
       .l (.idx 2 true) [x14, (i 1)] fun x32 =>
       .l (.conv .i64) [(n xs 3)] fun x33 =>
       .l (.arith .add .i64) [(c 1 x32), x33] fun x34 =>
       .l (.okcs [(1, false), (1, false)]) [(c 0 x31), x34] fun x35 =>
       .l (.idx 2 true) [x14, (i 0)] fun x36 =>
       .l (.idx 2 true) [x14, (i 0)] fun x37 =>
       .call F.subtype_Sub [x15, x36, x37] fun x38 =>
       .ite x38 (
        .call F.subtype_Sub [x15, (.agg [(c 0 x26), x29]), (.agg [(c 0 x31), x34])] fun x39 =>
        .l (.bcmp .eql) [x39, x18] fun x40 =>
        .ite x40 (
         .l (.idx 2 true) [x14, (i 0)] fun x41 =>
         .l (.idx 2 true) [x14, (i 1)] fun x42 =>
         .call F.subtype_Same [x15, x41, x42] fun x43 =>
         .l (.idx 2 true) [x14, (i 0)] fun x44 =>
         .l (.idx 2 true) [x14, (i 1)] fun x45 =>
         .call F.equal_Equal [x15, x44, x45] fun x46 =>
         .l (.bcmp .eql) [x43, x46] fun x47 =>
         .ret x47) (
         .ret (.bool false))) (
        .ret (.bool false)))) (
      .l (.idx 2 true) [x14, (i 0)] fun x22 =>
      .l (.idx 2 true) [x14, (i 0)] fun x23 =>
      .l (.conv .i64) [(n xs 3)] fun x24 =>
      .l (.arith .add .i64) [(c 1 x23), x24] fun x25 =>
      .l (.okcs [(1, false), (1, false)]) [(c 0 x22), x25] fun x26 =>
      .l (.idx 2 true) [x14, (i 1)] fun x27 =>
      .l (.idx 2 true) [x14, (i 1)] fun x28 =>
      .l (.conv .i64) [(n xs 3)] fun x29 =>
      .l (.arith .add .i64) [(c 1 x28), x29] fun x30 =>
      .l (.okcs [(1, false), (1, false)]) [(c 0 x27), x30] fun x31 =>
      .l (.idx 2 true) [x14, (i 0)] fun x32 =>
      .l (.idx 2 true) [x14, (i 0)] fun x33 =>
      .call F.subtype_Sub [x15, x32, x33] fun x34 =>
      .ite x34 (
       .call F.subtype_Sub [x15, (.agg [(c 0 x22), x25]), (.agg [(c 0 x27), x30])] fun x35 =>
       .l (.bcmp .eql) [x35, x18] fun x36 =>
       .ite x36 (
        .l (.idx 2 true) [x14, (i 0)] fun x37 =>
        .l (.idx 2 true) [x14, (i 1)] fun x38 =>
        .call F.subtype_Same [x15, x37, x38] fun x39 =>
        .l (.idx 2 true) [x14, (i 0)] fun x40 =>
        .l (.idx 2 true) [x14, (i 1)] fun x41 =>
        .call F.equal_Equal [x15, x40, x41] fun x42 =>
        .l (.bcmp .eql) [x39, x42] fun x43 =>
        .ret x43) (
        .ret (.bool false))) (
       .ret (.bool false)))) (
     .l (.idx 2 true) [x14, (i 0)] fun x22 =>
     .l (.idx 2 true) [x14, (i 0)] fun x23 =>
     .l (.conv .i64) [(n xs 3)] fun x24 =>
     .l (.arith .add .i64) [(c 1 x23), x24] fun x25 =>
     .l (.okcs [(1, false), (1, false)]) [(c 0 x22), x25] fun x26 =>
     .l (.idx 2 true) [x14, (i 1)] fun x27 =>
     .l (.idx 2 true) [x14, (i 1)] fun x28 =>
     .l (.conv .i64) [(n xs 3)] fun x29 =>
     .l (.arith .add .i64) [(c 1 x28), x29] fun x30 =>
     .l (.okcs [(1, false), (1, false)]) [(c 0 x27), x30] fun x31 =>
     .l (.idx 2 true) [x14, (i 0)] fun x32 =>
     .l (.idx 2 true) [x14, (i 0)] fun x33 =>
     .call F.subtype_Sub [x15, x32, x33] fun x34 =>
     .ite x34 (
      .call F.subtype_Sub [x15, (.agg [(c 0 x22), x25]), (.agg [(c 0 x27), x30])] fun x35 =>
      .l (.bcmp .eql) [x35, x18] fun x36 =>
      .ite x36 (
       .l (.idx 2 true) [x14, (i 0)] fun x37 =>
       .l (.idx 2 true) [x14, (i 1)] fun x38 =>
       .call F.subtype_Same [x15, x37, x38] fun x39 =>
       .l (.idx 2 true) [x14, (i 0)] fun x40 =>
       .l (.idx 2 true) [x14, (i 1)] fun x41 =>
       .call F.equal_Equal [x15, x40, x41] fun x42 =>
       .l (.bcmp .eql) [x39, x42] fun x43 =>
       .ret x43) (
       .ret (.bool false))) (
      .ret (.bool false)))))))
theorem k_law11_SubtypeOrders : TxOk P F.law11_SubtypeOrders 4 t_law11_SubtypeOrders := txOk_of (H := {}) (plans := []) hm Tryd.func8 rfl rfl fun xs => by kernel_rfl
def t_law11_awake (xs : List PV) : T PV :=
.l (.lst 1 false) [(.str ⟨#[97]⟩)] fun x0 =>
.l (.lst 6 true) [(.agg [(i 3), (i 0), (.str ⟨#[]⟩), (i 0), (.sl []), (.sl [])])] fun x1 =>
.l (.lst 1 false) [(.str ⟨#[98]⟩), (.str ⟨#[97]⟩)] fun x2 =>
.l (.lst 6 true) [(.agg [(i 3), (i 0), (.str ⟨#[]⟩), (i 0), (.sl []), (.sl [])]), (.agg [(i 3), (i 0), (.str ⟨#[]⟩), (i 0), (.sl []), (.sl [])])] fun x3 =>
.l (.lst 1 false) [(.str ⟨#[97]⟩)] fun x4 =>
.l (.lst 6 true) [(.agg [(i 3), (i 0), (.str ⟨#[]⟩), (i 0), (.sl []), (.sl [])])] fun x5 =>
.l (.lst 1 false) [(.str ⟨#[97]⟩), (.str ⟨#[98]⟩)] fun x6 =>
.l (.lst 6 true) [(.agg [(i 3), (i 0), (.str ⟨#[]⟩), (i 0), (.sl []), (.sl [])]), (.agg [(i 3), (i 0), (.str ⟨#[]⟩), (i 0), (.sl []), (.sl [])])] fun x7 =>
.l (.lst 6 true) [(.agg [(i 6), (i 0), (.str ⟨#[]⟩), (i 0), x0, x1]), (.agg [(i 6), (i 0), (.str ⟨#[]⟩), (i 0), x2, x3]), (.agg [(i 7), (i 0), (.str ⟨#[]⟩), (i 0), x4, x5]), (.agg [(i 7), (i 0), (.str ⟨#[]⟩), (i 0), x6, x7])] fun x8 =>
.call F.law08_Graph [x8] fun x9 =>
.l (.tc 0) [x9] fun x10 =>
.l (.tc 1) [x9] fun x11 =>
.l (.okc 1 true) [x10] fun x12 =>
.call F.dual_Close [x12] fun x13 =>
.l (.okc 1 true) [x13] fun x14 =>
.l (.idx 2 true) [x11, (i 1)] fun x15 =>
.l (.idx 2 true) [x11, (i 0)] fun x16 =>
.call F.subtype_Sub [x12, x15, x16] fun x17 =>
.ite x17 (
 .l (.idx 2 true) [x11, (i 0)] fun x18 =>
 .l (.idx 2 true) [x11, (i 1)] fun x19 =>
 .call F.subtype_Sub [x12, x18, x19] fun x20 =>
 .l .bnot [x20] fun x21 =>
 .ite x21 (
  .l (.idx 2 true) [x11, (i 2)] fun x22 =>
  .l (.idx 2 true) [x11, (i 3)] fun x23 =>
  .call F.subtype_Sub [x12, x22, x23] fun x24 =>
  .ite x24 (
   .l (.idx 2 true) [x11, (i 3)] fun x25 =>
   .l (.idx 2 true) [x11, (i 2)] fun x26 =>
   .call F.subtype_Sub [x12, x25, x26] fun x27 =>
   .l .bnot [x27] fun x28 =>
   .ite x28 (
    .l (.idx 2 true) [x11, (i 0)] fun x29 =>
    .l (.idx 2 true) [x11, (i 1)] fun x30 =>
    .call F.subtype_Same [x12, x29, x30] fun x31 =>
    .l .bnot [x31] fun x32 =>
    .ite x32 (
     .l (.idx 2 true) [x11, (i 0)] fun x33 =>
     .l (.idx 2 true) [x11, (i 0)] fun x34 =>
     .call F.subtype_Same [x12, x33, x34] fun x35 =>
     .ite x35 (
      .l .len [(c 0 x14)] fun x36 =>
      .l .len [(c 0 x12)] fun x37 =>
      .l (.arith .mul .i64) [(i 2), x37] fun x38 =>
      .l (.cmp .eql .i64) [x36, x38] fun x39 =>
      .ite x39 (
       .l (.idx 2 true) [x11, (i 1)] fun x40 =>
       .l (.idx 2 true) [x11, (i 2)] fun x41 =>
       .call F.subtype_Fits [x14, x40, x41] fun x42 =>
       .ite x42 (
        .l (.idx 2 true) [x11, (i 0)] fun x43 =>
        .l (.idx 2 true) [x11, (i 3)] fun x44 =>
        .call F.subtype_Fits [x14, x43, x44] fun x45 =>
        .l .bnot [x45] fun x46 =>
        .ret x46) (
        .ret (.bool false))) (
       .ret (.bool false))) (
      .ret (.bool false))) (
     .ret (.bool false))) (
    .ret (.bool false))) (
   .ret (.bool false))) (
  .ret (.bool false))) (
 .ret (.bool false))
theorem k_law11_awake : TxOk P F.law11_awake 0 t_law11_awake := txOk_of (H := {}) (plans := []) hm Tryd.func9 rfl rfl fun xs => by kernel_rfl
def t_ref02_Small (xs : List PV) : T PV :=
.l (.okc 6 true) [(n xs 0)] fun x0 =>
.call F.ref02_Few [x0, (n xs 1)] fun x1 =>
.ite x1 (
 .call F.ref02_Right [x0] fun x2 =>
 .l (.cmp .eql .i64) [x2, (i 0)] fun x3 =>
 .ret x3) (
 .ret (.bool false))
theorem k_ref02_Small : TxOk P F.ref02_Small 2 t_ref02_Small := txOk_of (H := {}) (plans := []) hm Tryd.func10 rfl rfl fun xs => by kernel_rfl
def t_ref02_Session (xs : List PV) : T PV :=
.l (.okc 6 true) [(n xs 0)] fun x0 =>
.l (.cmp .neq .i64) [(c 0 x0), (i 1)] fun x1 =>
.ite x1 (
 .l (.cmp .neq .i64) [(c 0 x0), (i 2)] fun x2 =>
 .ret x2) (
 .ret (.bool false))
theorem k_ref02_Session : TxOk P F.ref02_Session 1 t_ref02_Session := txOk_of (H := {}) (plans := []) hm Tryd.func11 rfl rfl fun xs => by kernel_rfl
def t_law08_Graph (xs : List PV) : T PV :=
.call F.ref07_Build [(n xs 0)] fun x0 =>
.l (.tc 0) [x0] fun x1 =>
.l (.tc 1) [x0] fun x2 =>
.loop [(i 0), (.sl [])] fun y3 =>
.l .len [x1] fun x4 =>
.l (.cmp .lss .i64) [(n y3 0), x4] fun x5 =>
.ite x5 (
 .l (.idx 4 true) [x1, (n y3 0)] fun x6 =>
 .l (.idx 4 true) [x1, (n y3 0)] fun x7 =>
 .l (.lst 1 false) [] fun x8 =>
 .l (.idx 4 true) [x1, (n y3 0)] fun x9 =>
 .l (.app 1 false 16) [x8, (c 2 x9)] fun x10 =>
 .l (.okcs [(1, false), (1, false)]) [(c 0 x6), (c 1 x7)] fun x11 =>
 .loop [(i 0), (c 0 x6), (c 1 x7), x10, (.sl [])] fun y12 =>
 .l (.idx 4 true) [x1, (n y3 0)] fun x13 =>
 .l .len [(c 3 x13)] fun x14 =>
 .l (.cmp .lss .i64) [(n y12 0), x14] fun x15 =>
 .ite x15 (
  .l (.idx 4 true) [x1, (n y3 0)] fun x16 =>
  .l (.idx 2 true) [(c 3 x16), (n y12 0)] fun x17 =>
  .l (.idx 4 true) [x1, (n y3 0)] fun x18 =>
  .l (.idx 2 true) [(c 3 x18), (n y12 0)] fun x19 =>
  .l (.okcs [(1, false), (1, false)]) [(c 0 x17), (c 1 x19)] fun x20 =>
  .l (.lst 2 true) [(.agg [(c 0 x17), (c 1 x19)])] fun x21 =>
  .l (.app 2 true 16) [(n y12 4), x21] fun x22 =>
  .l (.arith .add .i64) [(n y12 0), (i 1)] fun x23 =>
  .cont 1 [x23, (n y12 1), (n y12 2), (n y12 3), x22]) (
  .l (.lst 4 true) [(.agg [(n y12 1), (n y12 2), (n y12 3), (n y12 4)])] fun x16 =>
  .l (.app 4 true 64) [(n y3 1), x16] fun x17 =>
  .l (.arith .add .i64) [(n y3 0), (i 1)] fun x18 =>
  .cont 0 [x18, x17])) (
 .loop [(i 0), (.sl [])] fun y6 =>
 .l .len [x2] fun x7 =>
 .l (.cmp .lss .i64) [(n y6 0), x7] fun x8 =>
 .ite x8 (
  .l (.idx 2 true) [x2, (n y6 0)] fun x9 =>
  .l (.idx 2 true) [x2, (n y6 0)] fun x10 =>
  .l (.okcs [(1, false), (1, false)]) [(c 0 x9), (c 1 x10)] fun x11 =>
  .l (.lst 2 true) [(.agg [(c 0 x9), (c 1 x10)])] fun x12 =>
  .l (.app 2 true 16) [(n y6 1), x12] fun x13 =>
  .l (.arith .add .i64) [(n y6 0), (i 1)] fun x14 =>
  .cont 1 [x14, x13]) (
  .ret (.tup [(.agg [(n y3 1)]), (n y6 1)])))
theorem k_law08_Graph : TxOk P F.law08_Graph 1 t_law08_Graph := txOk_of (H := {}) (plans := []) hm Tryd.func12 rfl rfl fun xs => by kernel_rfl
def t_dual_Close (xs : List PV) : T PV :=
.l (.okc 1 true) [(n xs 0)] fun x0 =>
.l .len [(c 0 x0)] fun x1 =>
.l (.okc 1 false) [x1] fun x2 =>
.calls F.dual_mapped_graph_Node_graph_Node sg_dual_mapped_graph_Node_graph_Node [(c 0 x0), (.fn F.dual_Close_1 [] [])] fun z3 =>
.calls F.dual_mapped_graph_Node_graph_Node sg_dual_mapped_graph_Node_graph_Node [(c 0 x0), (.fn F.dual_Close_2 [] [(.box x2)])] fun z4 =>
.l (.app 4 true 64) [(n z3 0), (n z4 0)] fun x5 =>
.ret (.agg [x5])
theorem k_dual_Close : TxOk P F.dual_Close 1 t_dual_Close := txOk_of (H := { wr := [], ro := [], nl := [], fz := [], da := [], sigs := [(35, sg_dual_mapped_graph_Node_graph_Node)] }) (plans := []) hm Tryd.func13 rfl rfl fun xs => by kernel_rfl
def t_dual_Of (xs : List PV) : T PV :=
.l (.okc 1 true) [(n xs 0)] fun x0 =>
.l (.okc 2 true) [(n xs 1)] fun x1 =>
.l .len [(c 0 x0)] fun x2 =>
.l (.arith .quo .i64) [x2, (i 2)] fun x3 =>
.l (.cmp .lss .i64) [(c 0 x1), x3] fun x4 =>
.ite x4 (
 .l (.arith .add .i64) [(c 0 x1), x3] fun x5 =>
 .l (.okc 1 false) [x5] fun x6 =>
 .ret (.agg [x6, (c 1 x1)])) (
 .l (.arith .sub .i64) [(c 0 x1), x3] fun x5 =>
 .l (.okc 1 false) [x5] fun x6 =>
 .ret (.agg [x6, (c 1 x1)]))
theorem k_dual_Of : TxOk P F.dual_Of 2 t_dual_Of := txOk_of (H := {}) (plans := []) hm Tryd.func14 rfl rfl fun xs => by kernel_rfl
def t_subtype_Sub (xs : List PV) : T PV :=
.l (.okc 1 true) [(n xs 0)] fun x0 =>
.l (.okc 2 true) [(n xs 1)] fun x1 =>
.l (.okc 2 true) [(n xs 2)] fun x2 =>
.l (.okcs [(1, true)]) [x0] fun x3 =>
.calls F.subtype_relation_sub sg_subtype_relation_sub [x1, x2, (c 0 x0), (.mp [] [])] fun z4 =>
.ret (n z4 0)
theorem k_subtype_Sub : TxOk P F.subtype_Sub 3 t_subtype_Sub := txOk_of (H := { wr := [0, 1, 2, 3, 4, 5, 6, 7, 8, 9, 10, 11, 12, 13, 14, 15, 16, 17, 18, 19, 20, 21, 22, 23, 24, 25, 26, 27, 28, 29, 30, 31, 32, 33, 34, 35, 36, 37, 38, 39], ro := [], nl := [], fz := [], da := [], sigs := [(44, sg_subtype_relation_sub)] }) (plans := []) hm Tryd.func15 rfl rfl fun xs => by kernel_rfl
def t_subtype_Fits (xs : List PV) : T PV :=
.l (.okc 1 true) [(n xs 0)] fun x0 =>
.l (.okc 2 true) [(n xs 1)] fun x1 =>
.l (.okc 2 true) [(n xs 2)] fun x2 =>
.call F.dual_Of [x0, x2] fun x3 =>
.call F.subtype_Sub [x0, x1, x3] fun x4 =>
.ret x4
theorem k_subtype_Fits : TxOk P F.subtype_Fits 3 t_subtype_Fits := txOk_of (H := {}) (plans := []) hm Tryd.func16 rfl rfl fun xs => by kernel_rfl
def t_ref11_Dual (xs : List PV) : T PV :=
.l (.okc 6 true) [(n xs 0)] fun x0 =>
.calls F.ref02_Raise sg_ref02_Raise [x0, (i 0)] fun z1 =>
.call F.ref09_Kind [(c 0 x0)] fun x2 =>
.l (.okc 1 false) [x2] fun x3 =>
.loop [(i 0), (.bool true), (n z1 5)] fun y4 =>
.l .len [(c 5 x0)] fun x5 =>
.l (.cmp .lss .i64) [(n y4 0), x5] fun x6 =>
.ite x6 (
 .l (.cmp .eql .i64) [(n y4 0), (i 0)] fun x7 =>
 .ite x7 (
  .l (.cmp .eql .i64) [(c 0 x0), (i 4)] fun x8 =>
  .ite x8 (
   .ite (n y4 1) (
    .l (.idx 6 true) [(c 5 x0), (i 0)] fun x9 =>
    .call F.ref02_Right [x9] fun x10 =>
    .l (.cmp .eql .i64) [x10, (i 0)] fun x11 =>
    .l (.arith .add .i64) [(n y4 0), (i 1)] fun x12 =>
    .cont 0 [x12, x11, (n y4 2)]) (
    .l (.arith .add .i64) [(n y4 0), (i 1)] fun x9 =>
    .cont 0 [x9, (.bool false), (n y4 2)])) (
   .l (.cmp .eql .i64) [(c 0 x0), (i 5)] fun x9 =>
   .ite x9 (
    .ite (n y4 1) (
     .l (.idx 6 true) [(c 5 x0), (i 0)] fun x10 =>
     .call F.ref02_Right [x10] fun x11 =>
     .l (.cmp .eql .i64) [x11, (i 0)] fun x12 =>
     .l (.arith .add .i64) [(n y4 0), (i 1)] fun x13 =>
     .cont 0 [x13, x12, (n y4 2)]) (
     .l (.arith .add .i64) [(n y4 0), (i 1)] fun x10 =>
     .cont 0 [x10, (.bool false), (n y4 2)])) (
    .l (.idx 6 true) [(c 5 x0), (n y4 0)] fun x10 =>
    .call F.ref11_Dual [x10] fun x11 =>
    .l (.tc 0) [x11] fun x12 =>
    .l (.tc 1) [x11] fun x13 =>
    .l (.okc 6 true) [x12] fun x14 =>
    .l (.idx 6 true) [(n y4 2), (n y4 0)] fun x15 =>
    .l (.upd 6 true) [(n y4 2), (n y4 0), x14] fun x16 =>
    .ite (n y4 1) (
     .l (.arith .add .i64) [(n y4 0), (i 1)] fun x17 =>
     .cont 0 [x17, x13, x16]) (
     .l (.arith .add .i64) [(n y4 0), (i 1)] fun x17 =>
     .cont 0 [x17, (.bool false), x16])))) (
  .l (.idx 6 true) [(c 5 x0), (n y4 0)] fun x8 =>
  .call F.ref11_Dual [x8] fun x9 =>
  .l (.tc 0) [x9] fun x10 =>
  .l (.tc 1) [x9] fun x11 =>
  .l (.okc 6 true) [x10] fun x12 =>
  .l (.idx 6 true) [(n y4 2), (n y4 0)] fun x13 =>
  .l (.upd 6 true) [(n y4 2), (n y4 0), x12] fun x14 =>
  .ite (n y4 1) (
   .l (.arith .add .i64) [(n y4 0), (i 1)] fun x15 =>
   .cont 0 [x15, x11, x14]) (
   .l (.arith .add .i64) [(n y4 0), (i 1)] fun x15 =>
   .cont 0 [x15, (.bool false), x14]))) (
 .ret (.tup [(.agg [x3, (n z1 1), (n z1 2), (n z1 3), (n z1 4), (n y4 2)]), (n y4 1)]))
theorem k_ref11_Dual : TxOk P F.ref11_Dual 1 t_ref11_Dual := txOk_of (H := { wr := [], ro := [], nl := [], fz := [], da := [], sigs := [(19, sg_ref02_Raise)] }) (plans := []) hm Tryd.func17 rfl rfl fun xs => by kernel_rfl
def t_ref11_Sub (xs : List PV) : T PV :=
.l (.okc 6 true) [(n xs 0)] fun x0 =>
.l (.okc 6 true) [(n xs 1)] fun x1 =>
.call F.ref10_Lower [x0, x1] fun x2 =>
.call F.ref11_reached [x2] fun x3 =>
.l .len [x3] fun x4 =>
.l (.rep 1 false 1 (.bool false)) [x4] fun x5 =>
.loop [(i 0), x5] fun y6 =>
.l .len [x3] fun x7 =>
.l (.cmp .lss .i64) [(n y6 0), x7] fun x8 =>
.ite x8 (
 .l (.idx 12 true) [x3, (n y6 0)] fun x9 =>
 .call F.ref11_needs [x9] fun x10 =>
 .l (.tc 0) [x10] fun x11 =>
 .l (.tc 1) [x10] fun x12 =>
 .l (.idx 1 false) [(n y6 1), (n y6 0)] fun x13 =>
 .l (.upd 1 false) [(n y6 1), (n y6 0), x12] fun x14 =>
 .l (.arith .add .i64) [(n y6 0), (i 1)] fun x15 =>
 .cont 0 [x15, x14]) (
 .loop [(i 0), (n y6 1)] fun y9 =>
 .l .len [x3] fun x10 =>
 .l (.cmp .leq .i64) [(n y9 0), x10] fun x11 =>
 .ite x11 (
  .loop [(i 0), (n y9 1)] fun y12 =>
  .l .len [x3] fun x13 =>
  .l (.cmp .lss .i64) [(n y12 0), x13] fun x14 =>
  .ite x14 (
   .l (.idx 12 true) [x3, (n y12 0)] fun x15 =>
   .call F.ref11_needs [x15] fun x16 =>
   .l (.tc 0) [x16] fun x17 =>
   .l (.tc 1) [x16] fun x18 =>
   .loop [(i 0), (n y12 1)] fun y19 =>
   .l .len [x17] fun x20 =>
   .l (.cmp .lss .i64) [(n y19 0), x20] fun x21 =>
   .ite x21 (
    .l (.idx 1 false) [(n y19 1), (n y12 0)] fun x22 =>
    .l (.idx 1 false) [(n y19 1), (n y12 0)] fun x23 =>
    .ite x23 (
     .l (.idx 12 true) [x17, (n y19 0)] fun x24 =>
     .call F.ref11_index [x3, x24] fun x25 =>
     .l (.idx 1 false) [(n y19 1), x25] fun x26 =>
     .l (.idx 1 false) [(n y19 1), x25] fun x27 =>
     .l (.idx 1 false) [(n y19 1), (n y12 0)] fun x28 =>
     .l (.upd 1 false) [(n y19 1), (n y12 0), x27] fun x29 =>
     .l (.arith .add .i64) [(n y19 0), (i 1)] fun x30 =>
     .cont 3 [x30, x29]) (
     .l (.arith .add .i64) [(n y12 0), (i 1)] fun x24 =>
     .cont 2 [x24, (n y19 1)])) (
    .l (.arith .add .i64) [(n y12 0), (i 1)] fun x22 =>
    .cont 2 [x22, (n y19 1)])) (
   .l (.arith .add .i64) [(n y9 0), (i 1)] fun x15 =>
   .cont 1 [x15, (n y12 1)])) (
  .l (.idx 1 false) [(n y9 1), (i 0)] fun x12 =>
  .l (.idx 1 false) [(n y9 1), (i 0)] fun x13 =>
  .ret x13))
theorem k_ref11_Sub : TxOk P F.ref11_Sub 2 t_ref11_Sub := txOk_of (H := {}) (plans := []) hm Tryd.func18 rfl rfl fun xs => by kernel_rfl
def t_ref02_Raise (xs : List PV) : T PV :=
.l (.okc 6 true) [(n xs 0)] fun x0 =>
.l (.lst 1 false) [] fun x1 =>
.l (.app 1 false 16) [x1, (c 4 x0)] fun x2 =>
.l (.okcs [(1, false), (1, false), (1, false), (1, false)]) [(c 0 x0), (c 1 x0), (c 2 x0), (c 3 x0)] fun x3 =>
.l (.cmp .geq .i64) [(c 0 x0), (i 4)] fun x4 =>
.ite x4 (
 .l (.cmp .leq .i64) [(c 0 x0), (i 7)] fun x5 =>
 .ite x5 (
  .l (.arith .add .i64) [(c 1 x0), (n xs 1)] fun x6 =>
  .l (.okc 1 false) [x6] fun x7 =>
  .loop [(i 0), (c 0 x0), x7, (c 2 x0), (c 3 x0), x2, (.sl [])] fun y8 =>
  .l .len [(c 5 x0)] fun x9 =>
  .l (.cmp .lss .i64) [(n y8 0), x9] fun x10 =>
  .ite x10 (
   .l (.idx 6 true) [(c 5 x0), (n y8 0)] fun x11 =>
   .call F.ref02_Raise [x11, (n xs 1)] fun x12 =>
   .l (.lst 6 true) [x12] fun x13 =>
   .l (.app 6 true 88) [(n y8 6), x13] fun x14 =>
   .l (.arith .add .i64) [(n y8 0), (i 1)] fun x15 =>
   .cont 0 [x15, (n y8 1), (n y8 2), (n y8 3), (n y8 4), (n y8 5), x14]) (
   .ret (.agg [(n y8 1), (n y8 2), (n y8 3), (n y8 4), (n y8 5), (n y8 6)]))) (
  .loop [(i 0), (c 0 x0), (c 1 x0), (c 2 x0), (c 3 x0), x2, (.sl [])] fun y6 =>
  .l .len [(c 5 x0)] fun x7 =>
  .l (.cmp .lss .i64) [(n y6 0), x7] fun x8 =>
  .ite x8 (
   .l (.idx 6 true) [(c 5 x0), (n y6 0)] fun x9 =>
   .call F.ref02_Raise [x9, (n xs 1)] fun x10 =>
   .l (.lst 6 true) [x10] fun x11 =>
   .l (.app 6 true 88) [(n y6 6), x11] fun x12 =>
   .l (.arith .add .i64) [(n y6 0), (i 1)] fun x13 =>
   .cont 0 [x13, (n y6 1), (n y6 2), (n y6 3), (n y6 4), (n y6 5), x12]) (
   .ret (.agg [(n y6 1), (n y6 2), (n y6 3), (n y6 4), (n y6 5), (n y6 6)])))) (
 .loop [(i 0), (c 0 x0), (c 1 x0), (c 2 x0), (c 3 x0), x2, (.sl [])] fun y5 =>
 .l .len [(c 5 x0)] fun x6 =>
 .l (.cmp .lss .i64) [(n y5 0), x6] fun x7 =>
 .ite x7 (
  .l (.idx 6 true) [(c 5 x0), (n y5 0)] fun x8 =>
  .call F.ref02_Raise [x8, (n xs 1)] fun x9 =>
  .l (.lst 6 true) [x9] fun x10 =>
  .l (.app 6 true 88) [(n y5 6), x10] fun x11 =>
  .l (.arith .add .i64) [(n y5 0), (i 1)] fun x12 =>
  .cont 0 [x12, (n y5 1), (n y5 2), (n y5 3), (n y5 4), (n y5 5), x11]) (
  .ret (.agg [(n y5 1), (n y5 2), (n y5 3), (n y5 4), (n y5 5), (n y5 6)])))
theorem k_ref02_Raise : TxOk P F.ref02_Raise 2 t_ref02_Raise := txOk_of (H := { wr := [50], ro := [], nl := [], fz := [], da := [], sigs := [] }) (plans := []) hm Tryd.func19 rfl rfl fun xs => by kernel_rfl
def u_ref02_Raise (xs : List PV) : T PV :=
.l (.okc 6 true) [(n xs 0)] fun x0 =>
.l (.lst 1 false) [] fun x1 =>
.l (.app 1 false 16) [x1, (c 4 x0)] fun x2 =>
.l (.okcs [(1, false), (1, false), (1, false), (1, false)]) [(c 0 x0), (c 1 x0), (c 2 x0), (c 3 x0)] fun x3 =>
.l (.cmp .geq .i64) [(c 0 x0), (i 4)] fun x4 =>
.ite x4 (
 .l (.cmp .leq .i64) [(c 0 x0), (i 7)] fun x5 =>
 .ite x5 (
  .l (.arith .add .i64) [(c 1 x0), (n xs 1)] fun x6 =>
  .l (.okc 1 false) [x6] fun x7 =>
  .loop [(i 0), (c 0 x0), x7, (c 2 x0), (c 3 x0), x2, (.sl [])] fun y8 =>
  .l .len [(c 5 x0)] fun x9 =>
  .l (.cmp .lss .i64) [(n y8 0), x9] fun x10 =>
  .ite x10 (
   .l (.idx 6 true) [(c 5 x0), (n y8 0)] fun x11 =>
   .call F.ref02_Raise [x11, (n xs 1)] fun x12 =>
   .l (.lst 6 true) [x12] fun x13 =>
   .l (.app 6 true 88) [(n y8 6), x13] fun x14 =>
   .l (.arith .add .i64) [(n y8 0), (i 1)] fun x15 =>
   .cont 0 [x15, (n y8 1), (n y8 2), (n y8 3), (n y8 4), (n y8 5), x14]) (
   .ret (.tup [(n y8 1), (n y8 2), (n y8 3), (n y8 4), (n y8 5), (n y8 6)]))) (
  .loop [(i 0), (c 0 x0), (c 1 x0), (c 2 x0), (c 3 x0), x2, (.sl [])] fun y6 =>
  .l .len [(c 5 x0)] fun x7 =>
  .l (.cmp .lss .i64) [(n y6 0), x7] fun x8 =>
  .ite x8 (
   .l (.idx 6 true) [(c 5 x0), (n y6 0)] fun x9 =>
   .call F.ref02_Raise [x9, (n xs 1)] fun x10 =>
   .l (.lst 6 true) [x10] fun x11 =>
   .l (.app 6 true 88) [(n y6 6), x11] fun x12 =>
   .l (.arith .add .i64) [(n y6 0), (i 1)] fun x13 =>
   .cont 0 [x13, (n y6 1), (n y6 2), (n y6 3), (n y6 4), (n y6 5), x12]) (
   .ret (.tup [(n y6 1), (n y6 2), (n y6 3), (n y6 4), (n y6 5), (n y6 6)])))) (
 .loop [(i 0), (c 0 x0), (c 1 x0), (c 2 x0), (c 3 x0), x2, (.sl [])] fun y5 =>
 .l .len [(c 5 x0)] fun x6 =>
 .l (.cmp .lss .i64) [(n y5 0), x6] fun x7 =>
 .ite x7 (
  .l (.idx 6 true) [(c 5 x0), (n y5 0)] fun x8 =>
  .call F.ref02_Raise [x8, (n xs 1)] fun x9 =>
  .l (.lst 6 true) [x9] fun x10 =>
  .l (.app 6 true 88) [(n y5 6), x10] fun x11 =>
  .l (.arith .add .i64) [(n y5 0), (i 1)] fun x12 =>
  .cont 0 [x12, (n y5 1), (n y5 2), (n y5 3), (n y5 4), (n y5 5), x11]) (
  .ret (.tup [(n y5 1), (n y5 2), (n y5 3), (n y5 4), (n y5 5), (n y5 6)])))
theorem m_ref02_Raise : TxOkS P F.ref02_Raise sg_ref02_Raise u_ref02_Raise := txOkS_of (H := { wr := [50], ro := [], nl := [], fz := [], da := [], sigs := [] }) (plans := []) hm Tryd.func19 rfl fun xs => by kernel_rfl
def u_ref02_Raise_Lb (xs : List PV) : T PV :=
.l (.okc 6 true) [(n xs 0)] fun x0 =>
.l (.lst 1 false) [] fun x1 =>
.l (.app 1 false 16) [x1, (c 4 x0)] fun x2 =>
.l (.okcs [(1, false), (1, false), (1, false), (1, false)]) [(c 0 x0), (c 1 x0), (c 2 x0), (c 3 x0)] fun x3 =>
.l (.cmp .geq .i64) [(c 0 x0), (i 4)] fun x4 =>
.ite x4 (
 .l (.cmp .leq .i64) [(c 0 x0), (i 7)] fun x5 =>
 .ite x5 (
  .l (.arith .add .i64) [(c 1 x0), (n xs 1)] fun x6 =>
  .l (.okc 1 false) [x6] fun x7 =>
  .loop [(i 0), (c 0 x0), x7, (c 2 x0), (c 3 x0), x2, (.sl [])] fun y8 =>
  .l .len [(c 5 x0)] fun x9 =>
  .l (.cmp .lss .i64) [(n y8 0), x9] fun x10 =>
  .ite x10 (
   .l (.idx 6 true) [(c 5 x0), (n y8 0)] fun x11 =>
   .call F.ref02_Raise [x11, (n xs 1)] fun x12 =>
   .l (.lst 6 true) [x12] fun x13 =>
   .l (.app 6 true 88) [(n y8 6), x13] fun x14 =>
   .l (.arith .add .i64) [(n y8 0), (i 1)] fun x15 =>
   .cont 0 [x15, (n y8 1), (n y8 2), (n y8 3), (n y8 4), (n y8 5), x14]) (
   .ret (.tup [(n y8 1), (n y8 2), (n y8 3), (n y8 4), (n y8 5), (n y8 6)]))) (
  .loop [(i 0), (c 0 x0), (c 1 x0), (c 2 x0), (c 3 x0), x2, (.sl [])] fun y6 =>
  .l .len [(c 5 x0)] fun x7 =>
  .l (.cmp .lss .i64) [(n y6 0), x7] fun x8 =>
  .ite x8 (
   .l (.idx 6 true) [(c 5 x0), (n y6 0)] fun x9 =>
   .call F.ref02_Raise [x9, (n xs 1)] fun x10 =>
   .l (.lst 6 true) [x10] fun x11 =>
   .l (.app 6 true 88) [(n y6 6), x11] fun x12 =>
   .l (.arith .add .i64) [(n y6 0), (i 1)] fun x13 =>
   .cont 0 [x13, (n y6 1), (n y6 2), (n y6 3), (n y6 4), (n y6 5), x12]) (
   .ret (.tup [(n y6 1), (n y6 2), (n y6 3), (n y6 4), (n y6 5), (n y6 6)])))) (
 .loop [(i 0), (c 0 x0), (c 1 x0), (c 2 x0), (c 3 x0), x2, (.sl [])] fun y5 =>
 .l .len [(c 5 x0)] fun x6 =>
 .l (.cmp .lss .i64) [(n y5 0), x6] fun x7 =>
 .ite x7 (
  .l (.idx 6 true) [(c 5 x0), (n y5 0)] fun x8 =>
  .call F.ref02_Raise [x8, (n xs 1)] fun x9 =>
  .l (.lst 6 true) [x9] fun x10 =>
  .l (.app 6 true 88) [(n y5 6), x10] fun x11 =>
  .l (.arith .add .i64) [(n y5 0), (i 1)] fun x12 =>
  .cont 0 [x12, (n y5 1), (n y5 2), (n y5 3), (n y5 4), (n y5 5), x11]) (
  .ret (.tup [(n y5 1), (n y5 2), (n y5 3), (n y5 4), (n y5 5), (n y5 6)])))
theorem m_ref02_Raise_Lb : TxOkS P F.ref02_Raise sg_ref02_Raise_Lb u_ref02_Raise_Lb := txOkS_of (H := { wr := [50], ro := [], nl := [], fz := [], da := [], sigs := [] }) (plans := []) hm Tryd.func19 rfl fun xs => by kernel_rfl
def t_ref02_Right (xs : List PV) : T PV :=
.l (.okc 6 true) [(n xs 0)] fun x0 =>
.call F.ref02_Depth [x0] fun x1 =>
.l (.cmp .gtr .i64) [x1, (i 100)] fun x2 =>
.ite x2 (
 .ret (i 2)) (
 .call F.ref02_Size [x0] fun x3 =>
 .l (.cmp .gtr .i64) [x3, (i 10000)] fun x4 =>
 .ite x4 (
  .ret (i 2)) (
  .call F.ref02_node [x0, (.sl []), (i 0), (.bool false)] fun x5 =>
  .ret x5))
theorem k_ref02_Right : TxOk P F.ref02_Right 1 t_ref02_Right := txOk_of (H := {}) (plans := []) hm Tryd.func20 rfl rfl fun xs => by kernel_rfl
def t_law21_awake (xs : List PV) : T PV :=
.l (.lst 6 true) [(.agg [(i 2), (i 0), (.str ⟨#[]⟩), (i 0), (.sl []), (.sl [])]), (.agg [(i 3), (i 0), (.str ⟨#[]⟩), (i 0), (.sl []), (.sl [])])] fun x0 =>
.l (.lst 6 true) [(.agg [(i 1), (i 0), (.str ⟨#[]⟩), (i 0), (.sl []), (.sl [])]), (.agg [(i 5), (i 0), (.str ⟨#[]⟩), (i 0), (.sl []), x0])] fun x1 =>
.l (.lst 6 true) [(.agg [(i 4), (i 0), (.str ⟨#[]⟩), (i 0), (.sl []), x1])] fun x2 =>
.calls F.monitor_New sg_monitor_New [x2] fun z3 =>
.calls F.monitor_Monitor_Observe sg_monitor_Monitor_Observe [(.agg [(i 0), (.bool false), (.str ⟨#[]⟩), (i 3), (.str ⟨#[]⟩), (i 1)]), (n z3 0)] fun z4 =>
.calls F.monitor_Monitor_Observe sg_monitor_Monitor_Observe [(.agg [(i 0), (.bool true), (.str ⟨#[]⟩), (i 2), (.str ⟨#[]⟩), (i 5)]), (n z4 1)] fun z5 =>
.call F.monitor_Monitor_Settled [(.box (.agg [(n z5 1)]))] fun x6 =>
.l .gnd [x6] fun x7 =>
.calls F.monitor_Monitor_Observe sg_monitor_Monitor_Observe [(.agg [(i 0), (.bool false), (.str ⟨#[]⟩), (i 3), (.str ⟨#[]⟩), (i 1)]), (n z5 1)] fun z8 =>
.calls F.monitor_Monitor_State sg_monitor_Monitor_State [(i 0), (n z8 1)] fun z9 =>
.l (.tc 0) [(n z9 0)] fun x10 =>
.l (.tc 1) [(n z9 0)] fun x11 =>
.l (.okc 6 true) [x10] fun x12 =>
.l (.cmp .eql .i64) [(n z4 0), (i 8)] fun x13 =>
.ite x13 (
 .l (.cmp .eql .i64) [(n z5 0), (i 0)] fun x14 =>
 .ite x14 (
  .l (.cmp .eql .i64) [(n z8 0), (i 0)] fun x15 =>
  .ite x15 (
   .l .bnot [x7] fun x16 =>
   .ite x16 (
    .call F.monitor_Monitor_Settled [(.box (.agg [(n z9 1)]))] fun x17 =>
    .l .gnd [x17] fun x18 =>
    .ite x18 (
     .l (.cmp .eql .i64) [(c 0 x12), (i 3)] fun x19 =>
     .ite x19 (
      .ite x11 (
       .call F.monitor_Monitor_Len [(.box (.agg [(n z9 1)]))] fun x20 =>
       .l .gnd [x20] fun x21 =>
       .l (.cmp .eql .i64) [x21, (i 1)] fun x22 =>
       .ite x22 (
        .calls F.monitor_Monitor_Observe sg_monitor_Monitor_Observe_Nil [.nilP, (.agg [(i 0), (.bool false), (.str ⟨#[]⟩), (i 3), (.str ⟨#[]⟩), (i 1)])] fun z23 =>
        .l (.cmp .eql .i64) [(n z23 0), (i 12)] fun x24 =>
        .ite x24 (
         .call F.monitor_Monitor_Len [.nilP] fun x25 =>
         .l .gnd [x25] fun x26 =>
         .l (.cmp .eql .i64) [x26, (i 0)] fun x27 =>
         .ret x27) (
         .ret (.bool false))) (
        .ret (.bool false))) (
       .ret (.bool false))) (
      .ret (.bool false))) (
     .ret (.bool false))) (
    .ret (.bool false))) (
   .ret (.bool false))) (
  .ret (.bool false))) (
 .ret (.bool false))
theorem k_law21_awake : TxOk P F.law21_awake 0 t_law21_awake := txOk_of (H := { wr := [], ro := [28, 54, 58, 64], nl := [], fz := [], da := [], sigs := [(2000076, sg_monitor_Monitor_Observe_Nil), (24, sg_monitor_New), (56, sg_monitor_Monitor_Add), (27, sg_monitor_Monitor_Observe), (53, sg_monitor_Monitor_State), (29, sg_law21_states)] }) (plans := []) hm Tryd.func21 rfl rfl fun xs => by kernel_rfl
def t_ref21_Right (xs : List PV) : T PV :=
.loop [(i 0)] fun y0 =>
.l .len [(n xs 0)] fun x1 =>
.l (.cmp .lss .i64) [(n y0 0), x1] fun x2 =>
.ite x2 (
 .l (.cmp .leq .i64) [(n y0 0), (i 8)] fun x3 =>
 .ite x3 (
  .l (.idx 6 true) [(n xs 0), (n y0 0)] fun x4 =>
  .call F.ref02_Small [x4, (i 25)] fun x5 =>
  .l .bnot [x5] fun x6 =>
  .ite x6 (
   .ret (.bool false)) (
   .l (.idx 6 true) [(n xs 0), (n y0 0)] fun x7 =>
   .call F.ref02_Session [x7] fun x8 =>
   .l .bnot [x8] fun x9 =>
   .ite x9 (
    .ret (.bool false)) (
    .l (.arith .add .i64) [(n y0 0), (i 1)] fun x10 =>
    .cont 0 [x10]))) (
  .l .len [(n xs 0)] fun x4 =>
  .l (.cmp .leq .i64) [x4, (i 8)] fun x5 =>
  .ret x5)) (
 .l .len [(n xs 0)] fun x3 =>
 .l (.cmp .leq .i64) [x3, (i 8)] fun x4 =>
 .ret x4)
theorem k_ref21_Right : TxOk P F.ref21_Right 1 t_ref21_Right := txOk_of (H := {}) (plans := []) hm Tryd.func22 rfl rfl fun xs => by kernel_rfl
def t_ref14_Dual (xs : List PV) : T PV :=
.l (.okc 6 true) [(n xs 0)] fun x0 =>
.call F.ref14_dual [x0, (.sl [])] fun x1 =>
.l (.okc 6 true) [x1] fun x2 =>
.ret x2
theorem k_ref14_Dual : TxOk P F.ref14_Dual 1 t_ref14_Dual := txOk_of (H := {}) (plans := []) hm Tryd.func23 rfl rfl fun xs => by kernel_rfl
-- NOT TOLD: 24 duologue/monitor.New: 1
def u_monitor_New (xs : List PV) : T PV :=
.calls F.monitor_Monitor_Add sg_monitor_Monitor_Add [(n xs 0), (.sl [])] fun z0 =>
.ret (.tup [(n z0 1)])
theorem m_monitor_New : TxOkS P F.monitor_New sg_monitor_New u_monitor_New := txOkS_of (H := { wr := [], ro := [], nl := [(4, (0, (25, false)))], fz := [], da := [], sigs := [(24, sg_monitor_New), (56, sg_monitor_Monitor_Add), (27, sg_monitor_Monitor_Observe), (53, sg_monitor_Monitor_State), (29, sg_law21_states)] }) (plans := []) hm Tryd.func24 rfl fun xs => by kernel_rfl
def t_ref21_Blown (xs : List PV) : T PV :=
.loop [(i 0)] fun y0 =>
.l .len [(n xs 0)] fun x1 =>
.l (.cmp .lss .i64) [(n y0 0), x1] fun x2 =>
.ite x2 (
 .l (.idx 6 true) [(n xs 0), (n y0 0)] fun x3 =>
 .call F.ref02_Unfold [x3] fun x4 =>
 .call F.ref02_Few [x4, (i 2000)] fun x5 =>
 .l .bnot [x5] fun x6 =>
 .ite x6 (
  .ret (.bool true)) (
  .l (.arith .add .i64) [(n y0 0), (i 1)] fun x7 =>
  .cont 0 [x7])) (
 .ret (.bool false))
theorem k_ref21_Blown : TxOk P F.ref21_Blown 1 t_ref21_Blown := txOk_of (H := {}) (plans := []) hm Tryd.func25 rfl rfl fun xs => by kernel_rfl
def t_ref21_Observe (xs : List PV) : T PV :=
.l (.okc 6 true) [(n xs 1)] fun x0 =>
.l (.cmp .lss .i64) [(c 0 x0), (i 0)] fun x1 =>
.ite x1 (
 .ret (.tup [(n xs 0), (i 12)])) (
 .l .len [(n xs 0)] fun x2 =>
 .l (.cmp .geq .i64) [(c 0 x0), x2] fun x3 =>
 .ite x3 (
  .ret (.tup [(n xs 0), (i 12)])) (
  .l (.idx 6 true) [(n xs 0), (c 0 x0)] fun x4 =>
  .call F.ref02_Unfold [x4] fun x5 =>
  .l (.okc 6 true) [x5] fun x6 =>
  .l (.scmp .neq) [(c 2 x0), (.str ⟨#[]⟩)] fun x7 =>
  .ite x7 (
   .l .bnot [(c 1 x0)] fun x8 =>
   .ite x8 (
    .l (.arith .add .i64) [(i 6), (i 1)] fun x9 =>
    .l (.cmp .neq .i64) [(c 0 x6), x9] fun x10 =>
    .ite x10 (
     .ret (.tup [(n xs 0), (i 8)])) (
     .l (.scmp .eql) [(c 2 x0), (.str ⟨#[]⟩)] fun x11 =>
     .ite x11 (
      .l (.idx 6 true) [(c 5 x6), (i 0)] fun x12 =>
      .l (.cmp .eql .i64) [(c 0 x12), (i 1)] fun x13 =>
      .ite x13 (
       .l (.cmp .neq .i64) [(c 3 x0), (i 2)] fun x14 =>
       .ite x14 (
        .ret (.tup [(n xs 0), (i 8)])) (
        .l (.cmp .eql .i64) [(c 0 x12), (i 2)] fun x15 =>
        .ite x15 (
         .l (.cmp .neq .i64) [(c 3 x0), (i 3)] fun x16 =>
         .ite x16 (
          .ret (.tup [(n xs 0), (i 8)])) (
          .l (.cmp .gtr .i64) [(c 0 x12), (i 2)] fun x17 =>
          .ite x17 (
           .l (.cmp .neq .i64) [(c 3 x0), (i 1)] fun x18 =>
           .ite x18 (
            .ret (.tup [(n xs 0), (i 8)])) (
            .loop [(i 0), (i 1)] fun y19 =>
            .l .len [(c 4 x6)] fun x20 =>
            .l (.cmp .lss .i64) [(n y19 0), x20] fun x21 =>
            .ite x21 (
             .l (.idx 1 false) [(c 4 x6), (n y19 0)] fun x22 =>
             .l (.scmp .eql) [x22, (c 2 x0)] fun x23 =>
             .ite x23 (
              .l (.arith .add .i64) [(n y19 0), (i 1)] fun x24 =>
              .cont 0 [x24, (n y19 0)]) (
              .l (.arith .add .i64) [(n y19 0), (i 1)] fun x24 =>
              .cont 0 [x24, (n y19 1)])) (
             .l (.cmp .lss .i64) [(n y19 1), (i 0)] fun x22 =>
             .ite x22 (
              .ret (.tup [(n xs 0), (i 9)])) (
              .l (.lst 6 true) [] fun x23 =>
              .l (.app 6 true 88) [x23, (n xs 0)] fun x24 =>
              .l (.idx 6 true) [(c 5 x6), (n y19 1)] fun x25 =>
              .l (.idx 6 true) [x24, (c 0 x0)] fun x26 =>
              .l (.upd 6 true) [x24, (c 0 x0), x25] fun x27 =>
              .ret (.tup [x27, (i 0)]))))) (
           .loop [(i 0), (i 1)] fun y18 =>
           .l .len [(c 4 x6)] fun x19 =>
           .l (.cmp .lss .i64) [(n y18 0), x19] fun x20 =>
           .ite x20 (
            .l (.idx 1 false) [(c 4 x6), (n y18 0)] fun x21 =>
            .l (.scmp .eql) [x21, (c 2 x0)] fun x22 =>
            .ite x22 (
             .l (.arith .add .i64) [(n y18 0), (i 1)] fun x23 =>
             .cont 0 [x23, (n y18 0)]) (
             .l (.arith .add .i64) [(n y18 0), (i 1)] fun x23 =>
             .cont 0 [x23, (n y18 1)])) (
            .l (.cmp .lss .i64) [(n y18 1), (i 0)] fun x21 =>
            .ite x21 (
             .ret (.tup [(n xs 0), (i 9)])) (
             .l (.lst 6 true) [] fun x22 =>
             .l (.app 6 true 88) [x22, (n xs 0)] fun x23 =>
             .l (.idx 6 true) [(c 5 x6), (n y18 1)] fun x24 =>
             .l (.idx 6 true) [x23, (c 0 x0)] fun x25 =>
             .l (.upd 6 true) [x23, (c 0 x0), x24] fun x26 =>
             .ret (.tup [x26, (i 0)])))))) (
         .l (.cmp .gtr .i64) [(c 0 x12), (i 2)] fun x16 =>
         .ite x16 (
          .l (.cmp .neq .i64) [(c 3 x0), (i 1)] fun x17 =>
          .ite x17 (
           .ret (.tup [(n xs 0), (i 8)])) (
           .loop [(i 0), (i 1)] fun y18 =>
           .l .len [(c 4 x6)] fun x19 =>
           .l (.cmp .lss .i64) [(n y18 0), x19] fun x20 =>
           .ite x20 (
            .l (.idx 1 false) [(c 4 x6), (n y18 0)] fun x21 =>
            .l (.scmp .eql) [x21, (c 2 x0)] fun x22 =>
            .ite x22 (
             .l (.arith .add .i64) [(n y18 0), (i 1)] fun x23 =>
             .cont 0 [x23, (n y18 0)]) (
             .l (.arith .add .i64) [(n y18 0), (i 1)] fun x23 =>
             .cont 0 [x23, (n y18 1)])) (
            .l (.cmp .lss .i64) [(n y18 1), (i 0)] fun x21 =>
            .ite x21 (
             .ret (.tup [(n xs 0), (i 9)])) (
             .l (.lst 6 true) [] fun x22 =>
             .l (.app 6 true 88) [x22, (n xs 0)] fun x23 =>
             .l (.idx 6 true) [(c 5 x6), (n y18 1)] fun x24 =>
             .l (.idx 6 true) [x23, (c 0 x0)] fun x25 =>
             .l (.upd 6 true) [x23, (c 0 x0), x24] fun x26 =>
             .ret (.tup [x26, (i 0)]))))) (
          .loop [(i 0), (i 1)] fun y17 =>
          .l .len [(c 4 x6)] fun x18 =>
          .l (.cmp .lss .i64) [(n y17 0), x18] fun x19 =>
          .ite x19 (
           .l (.idx 1 false) [(c 4 x6), (n y17 0)] fun x20 =>
           .l (.scmp .eql) [x20, (c 2 x0)] fun x21 =>
           .ite x21 (
            .l (.arith .add .i64) [(n y17 0), (i 1)] fun x22 =>
            .cont 0 [x22, (n y17 0)]) (
            .l (.arith .add .i64) [(n y17 0), (i 1)] fun x22 =>
            .cont 0 [x22, (n y17 1)])) (
           .l (.cmp .lss .i64) [(n y17 1), (i 0)] fun x20 =>
           .ite x20 (
            .ret (.tup [(n xs 0), (i 9)])) (
            .l (.lst 6 true) [] fun x21 =>
            .l (.app 6 true 88) [x21, (n xs 0)] fun x22 =>
            .l (.idx 6 true) [(c 5 x6), (n y17 1)] fun x23 =>
            .l (.idx 6 true) [x22, (c 0 x0)] fun x24 =>
            .l (.upd 6 true) [x22, (c 0 x0), x23] fun x25 =>
            .ret (.tup [x25, (i 0)]))))))) (
       .l (.cmp .eql .i64) [(c 0 x12), (i 2)] fun x14 =>
       .ite x14 (
        .l (.cmp .neq .i64) [(c 3 x0), (i 3)] fun x15 =>
        .ite x15 (
         .ret (.tup [(n xs 0), (i 8)])) (
         .l (.cmp .gtr .i64) [(c 0 x12), (i 2)] fun x16 =>
         .ite x16 (
          .l (.cmp .neq .i64) [(c 3 x0), (i 1)] fun x17 =>
          .ite x17 (
           .ret (.tup [(n xs 0), (i 8)])) (
           .loop [(i 0), (i 1)] fun y18 =>
           .l .len [(c 4 x6)] fun x19 =>
           .l (.cmp .lss .i64) [(n y18 0), x19] fun x20 =>
           .ite x20 (
            .l (.idx 1 false) [(c 4 x6), (n y18 0)] fun x21 =>
            .l (.scmp .eql) [x21, (c 2 x0)] fun x22 =>
            .ite x22 (
             .l (.arith .add .i64) [(n y18 0), (i 1)] fun x23 =>
             .cont 0 [x23, (n y18 0)]) (
             .l (.arith .add .i64) [(n y18 0), (i 1)] fun x23 =>
             .cont 0 [x23, (n y18 1)])) (
            .l (.cmp .lss .i64) [(n y18 1), (i 0)] fun x21 =>
            .ite x21 (
             .ret (.tup [(n xs 0), (i 9)])) (
             .l (.lst 6 true) [] fun x22 =>
             .l (.app 6 true 88) [x22, (n xs 0)] fun x23 =>
             .l (.idx 6 true) [(c 5 x6), (n y18 1)] fun x24 =>
             .l (.idx 6 true) [x23, (c 0 x0)] fun x25 =>
             .l (.upd 6 true) [x23, (c 0 x0), x24] fun x26 =>
             .ret (.tup [x26, (i 0)]))))) (
          .loop [(i 0), (i 1)] fun y17 =>
          .l .len [(c 4 x6)] fun x18 =>
          .l (.cmp .lss .i64) [(n y17 0), x18] fun x19 =>
          .ite x19 (
           .l (.idx 1 false) [(c 4 x6), (n y17 0)] fun x20 =>
           .l (.scmp .eql) [x20, (c 2 x0)] fun x21 =>
           .ite x21 (
            .l (.arith .add .i64) [(n y17 0), (i 1)] fun x22 =>
            .cont 0 [x22, (n y17 0)]) (
            .l (.arith .add .i64) [(n y17 0), (i 1)] fun x22 =>
            .cont 0 [x22, (n y17 1)])) (
           .l (.cmp .lss .i64) [(n y17 1), (i 0)] fun x20 =>
           .ite x20 (
            .ret (.tup [(n xs 0), (i 9)])) (
            .l (.lst 6 true) [] fun x21 =>
            .l (.app 6 true 88) [x21, (n xs 0)] fun x22 =>
            .l (.idx 6 true) [(c 5 x6), (n y17 1)] fun x23 =>
            .l (.idx 6 true) [x22, (c 0 x0)] fun x24 =>
            .l (.upd 6 true) [x22, (c 0 x0), x23] fun x25 =>
            .ret (.tup [x25, (i 0)])))))) (
        .l (.cmp .gtr .i64) [(c 0 x12), (i 2)] fun x15 =>
        .ite x15 (
         .l (.cmp .neq .i64) [(c 3 x0), (i 1)] fun x16 =>
         .ite x16 (
          .ret (.tup [(n xs 0), (i 8)])) (
          .loop [(i 0), (i 1)] fun y17 =>
          .l .len [(c 4 x6)] fun x18 =>
          .l (.cmp .lss .i64) [(n y17 0), x18] fun x19 =>
          .ite x19 (
           .l (.idx 1 false) [(c 4 x6), (n y17 0)] fun x20 =>
           .l (.scmp .eql) [x20, (c 2 x0)] fun x21 =>
           .ite x21 (
            .l (.arith .add .i64) [(n y17 0), (i 1)] fun x22 =>
            .cont 0 [x22, (n y17 0)]) (
            .l (.arith .add .i64) [(n y17 0), (i 1)] fun x22 =>
            .cont 0 [x22, (n y17 1)])) (
           .l (.cmp .lss .i64) [(n y17 1), (i 0)] fun x20 =>
           .ite x20 (
            .ret (.tup [(n xs 0), (i 9)])) (
            .l (.lst 6 true) [] fun x21 =>
            .l (.app 6 true 88) [x21, (n xs 0)] fun x22 =>
            .l (.idx 6 true) [(c 5 x6), (n y17 1)] fun x23 =>
            .l (.idx 6 true) [x22, (c 0 x0)] fun x24 =>
            .l (.upd 6 true) [x22, (c 0 x0), x23] fun x25 =>
            .ret (.tup [x25, (i 0)]))))) (
         .loop [(i 0), (i 1)] fun y16 =>
         .l .len [(c 4 x6)] fun x17 =>
         .l (.cmp .lss .i64) [(n y16 0), x17] fun x18 =>
         .ite x18 (
          .l (.idx 1 false) [(c 4 x6), (n y16 0)] fun x19 =>
          .l (.scmp .eql) [x19, (c 2 x0)] fun x20 =>
          .ite x20 (
           .l (.arith .add .i64) [(n y16 0), (i 1)] fun x21 =>
           .cont 0 [x21, (n y16 0)]) (
           .l (.arith .add .i64) [(n y16 0), (i 1)] fun x21 =>
           .cont 0 [x21, (n y16 1)])) (
          .l (.cmp .lss .i64) [(n y16 1), (i 0)] fun x19 =>
          .ite x19 (
           .ret (.tup [(n xs 0), (i 9)])) (
           .l (.lst 6 true) [] fun x20 =>
           .l (.app 6 true 88) [x20, (n xs 0)] fun x21 =>
           .l (.idx 6 true) [(c 5 x6), (n y16 1)] fun x22 =>
           .l (.idx 6 true) [x21, (c 0 x0)] fun x23 =>
           .l (.upd 6 true) [x21, (c 0 x0), x22] fun x24 =>
           .ret (.tup [x24, (i 0)]))))))) (
      .loop [(i 0), (i (-1))] fun y12 =>
      .l .len [(c 4 x6)] fun x13 =>
      .l (.cmp .lss .i64) [(n y12 0), x13] fun x14 =>
      .ite x14 (
       .l (.idx 1 false) [(c 4 x6), (n y12 0)] fun x15 =>
       .l (.scmp .eql) [x15, (c 2 x0)] fun x16 =>
       .ite x16 (
        .l (.arith .add .i64) [(n y12 0), (i 1)] fun x17 =>
        .cont 0 [x17, (n y12 0)]) (
        .l (.arith .add .i64) [(n y12 0), (i 1)] fun x17 =>
        .cont 0 [x17, (n y12 1)])) (
       .l (.cmp .lss .i64) [(n y12 1), (i 0)] fun x15 =>
       .ite x15 (
        .ret (.tup [(n xs 0), (i 9)])) (
        .l (.lst 6 true) [] fun x16 =>
        .l (.app 6 true 88) [x16, (n xs 0)] fun x17 =>
        .l (.idx 6 true) [(c 5 x6), (n y12 1)] fun x18 =>
        .l (.idx 6 true) [x17, (c 0 x0)] fun x19 =>
        .l (.upd 6 true) [x17, (c 0 x0), x18] fun x20 =>
        .ret (.tup [x20, (i 0)])))))) (
    .l (.cmp .neq .i64) [(c 0 x6), (i 6)] fun x9 =>
    .ite x9 (
     .ret (.tup [(n xs 0), (i 8)])) (
     .l (.scmp .eql) [(c 2 x0), (.str ⟨#[]⟩)] fun x10 =>
     .ite x10 (
      .l (.idx 6 true) [(c 5 x6), (i 0)] fun x11 =>
      .l (.cmp .eql .i64) [(c 0 x11), (i 1)] fun x12 =>
      .ite x12 (
       .l (.cmp .neq .i64) [(c 3 x0), (i 2)] fun x13 =>
       .ite x13 (
        .ret (.tup [(n xs 0), (i 8)])) (
        .l (.cmp .eql .i64) [(c 0 x11), (i 2)] fun x14 =>
        .ite x14 (
         .l (.cmp .neq .i64) [(c 3 x0), (i 3)] fun x15 =>
         .ite x15 (
          .ret (.tup [(n xs 0), (i 8)])) (
          .l (.cmp .gtr .i64) [(c 0 x11), (i 2)] fun x16 =>
          .ite x16 (
           .l (.cmp .neq .i64) [(c 3 x0), (i 1)] fun x17 =>
           .ite x17 (
            .ret (.tup [(n xs 0), (i 8)])) (
            .loop [(i 0), (i 1)] fun y18 =>
            .l .len [(c 4 x6)] fun x19 =>
            .l (.cmp .lss .i64) [(n y18 0), x19] fun x20 =>
            .ite x20 (
             .l (.idx 1 false) [(c 4 x6), (n y18 0)] fun x21 =>
             .l (.scmp .eql) [x21, (c 2 x0)] fun x22 =>
             .ite x22 (
              .l (.arith .add .i64) [(n y18 0), (i 1)] fun x23 =>
              .cont 0 [x23, (n y18 0)]) (
              .l (.arith .add .i64) [(n y18 0), (i 1)] fun x23 =>
              .cont 0 [x23, (n y18 1)])) (
             .l (.cmp .lss .i64) [(n y18 1), (i 0)] fun x21 =>
             .ite x21 (
              .ret (.tup [(n xs 0), (i 9)])) (
              .l (.lst 6 true) [] fun x22 =>
              .l (.app 6 true 88) [x22, (n xs 0)] fun x23 =>
              .l (.idx 6 true) [(c 5 x6), (n y18 1)] fun x24 =>
              .l (.idx 6 true) [x23, (c 0 x0)] fun x25 =>
              .l (.upd 6 true) [x23, (c 0 x0), x24] fun x26 =>
              .ret (.tup [x26, (i 0)]))))) (
           .loop [(i 0), (i 1)] fun y17 =>
           .l .len [(c 4 x6)] fun x18 =>
           .l (.cmp .lss .i64) [(n y17 0), x18] fun x19 =>
           .ite x19 (
            .l (.idx 1 false) [(c 4 x6), (n y17 0)] fun x20 =>
            .l (.scmp .eql) [x20, (c 2 x0)] fun x21 =>
            .ite x21 (
             .l (.arith .add .i64) [(n y17 0), (i 1)] fun x22 =>
             .cont 0 [x22, (n y17 0)]) (
             .l (.arith .add .i64) [(n y17 0), (i 1)] fun x22 =>
             .cont 0 [x22, (n y17 1)])) (
            .l (.cmp .lss .i64) [(n y17 1), (i 0)] fun x20 =>
            .ite x20 (
             .ret (.tup [(n xs 0), (i 9)])) (
             .l (.lst 6 true) [] fun x21 =>
             .l (.app 6 true 88) [x21, (n xs 0)] fun x22 =>
             .l (.idx 6 true) [(c 5 x6), (n y17 1)] fun x23 =>
             .l (.idx 6 true) [x22, (c 0 x0)] fun x24 =>
             .l (.upd 6 true) [x22, (c 0 x0), x23] fun x25 =>
             .ret (.tup [x25, (i 0)])))))) (
         .l (.cmp .gtr .i64) [(c 0 x11), (i 2)] fun x15 =>
         .ite x15 (
          .l (.cmp .neq .i64) [(c 3 x0), (i 1)] fun x16 =>
          .ite x16 (
           .ret (.tup [(n xs 0), (i 8)])) (
           .loop [(i 0), (i 1)] fun y17 =>
           .l .len [(c 4 x6)] fun x18 =>
           .l (.cmp .lss .i64) [(n y17 0), x18] fun x19 =>
           .ite x19 (
            .l (.idx 1 false) [(c 4 x6), (n y17 0)] fun x20 =>
            .l (.scmp .eql) [x20, (c 2 x0)] fun x21 =>
            .ite x21 (
             .l (.arith .add .i64) [(n y17 0), (i 1)] fun x22 =>
             .cont 0 [x22, (n y17 0)]) (
             .l (.arith .add .i64) [(n y17 0), (i 1)] fun x22 =>
             .cont 0 [x22, (n y17 1)])) (
            .l (.cmp .lss .i64) [(n y17 1), (i 0)] fun x20 =>
            .ite x20 (
             .ret (.tup [(n xs 0), (i 9)])) (
             .l (.lst 6 true) [] fun x21 =>
             .l (.app 6 true 88) [x21, (n xs 0)] fun x22 =>
             .l (.idx 6 true) [(c 5 x6), (n y17 1)] fun x23 =>
             .l (.idx 6 true) [x22, (c 0 x0)] fun x24 =>
             .l (.upd 6 true) [x22, (c 0 x0), x23] fun x25 =>
             .ret (.tup [x25, (i 0)]))))) (
          .loop [(i 0), (i 1)] fun y16 =>
          .l .len [(c 4 x6)] fun x17 =>
          .l (.cmp .lss .i64) [(n y16 0), x17] fun x18 =>
          .ite x18 (
           .l (.idx 1 false) [(c 4 x6), (n y16 0)] fun x19 =>
           .l (.scmp .eql) [x19, (c 2 x0)] fun x20 =>
           .ite x20 (
            .l (.arith .add .i64) [(n y16 0), (i 1)] fun x21 =>
            .cont 0 [x21, (n y16 0)]) (
            .l (.arith .add .i64) [(n y16 0), (i 1)] fun x21 =>
            .cont 0 [x21, (n y16 1)])) (
           .l (.cmp .lss .i64) [(n y16 1), (i 0)] fun x19 =>
           .ite x19 (
            .ret (.tup [(n xs 0), (i 9)])) (
            .l (.lst 6 true) [] fun x20 =>
            .l (.app 6 true 88) [x20, (n xs 0)] fun x21 =>
            .l (.idx 6 true) [(c 5 x6), (n y16 1)] fun x22 =>
            .l (.idx 6 true) [x21, (c 0 x0)] fun x23 =>
            .l (.upd 6 true) [x21, (c 0 x0), x22] fun x24 =>
            .ret (.tup [x24, (i 0)]))))))) (
       .l (.cmp .eql .i64) [(c 0 x11), (i 2)] fun x13 =>
       .ite x13 (
        .l (.cmp .neq .i64) [(c 3 x0), (i 3)] fun x14 =>
        .ite x14 (
         .ret (.tup [(n xs 0), (i 8)])) (
         .l (.cmp .gtr .i64) [(c 0 x11), (i 2)] fun x15 =>
         .ite x15 (
          .l (.cmp .neq .i64) [(c 3 x0), (i 1)] fun x16 =>
          .ite x16 (
           .ret (.tup [(n xs 0), (i 8)])) (
           .loop [(i 0), (i 1)] fun y17 =>
           .l .len [(c 4 x6)] fun x18 =>
           .l (.cmp .lss .i64) [(n y17 0), x18] fun x19 =>
           .ite x19 (
            .l (.idx 1 false) [(c 4 x6), (n y17 0)] fun x20 =>
            .l (.scmp .eql) [x20, (c 2 x0)] fun x21 =>
            .ite x21 (
             .l (.arith .add .i64) [(n y17 0), (i 1)] fun x22 =>
             .cont 0 [x22, (n y17 0)]) (
             .l (.arith .add .i64) [(n y17 0), (i 1)] fun x22 =>
             .cont 0 [x22, (n y17 1)])) (
            .l (.cmp .lss .i64) [(n y17 1), (i 0)] fun x20 =>
            .ite x20 (
             .ret (.tup [(n xs 0), (i 9)])) (
             .l (.lst 6 true) [] fun x21 =>
             .l (.app 6 true 88) [x21, (n xs 0)] fun x22 =>
             .l (.idx 6 true) [(c 5 x6), (n y17 1)] fun x23 =>
             .l (.idx 6 true) [x22, (c 0 x0)] fun x24 =>
             .l (.upd 6 true) [x22, (c 0 x0), x23] fun x25 =>
             .ret (.tup [x25, (i 0)]))))) (
          .loop [(i 0), (i 1)] fun y16 =>
          .l .len [(c 4 x6)] fun x17 =>
          .l (.cmp .lss .i64) [(n y16 0), x17] fun x18 =>
          .ite x18 (
           .l (.idx 1 false) [(c 4 x6), (n y16 0)] fun x19 =>
           .l (.scmp .eql) [x19, (c 2 x0)] fun x20 =>
           .ite x20 (
            .l (.arith .add .i64) [(n y16 0), (i 1)] fun x21 =>
            .cont 0 [x21, (n y16 0)]) (
            .l (.arith .add .i64) [(n y16 0), (i 1)] fun x21 =>
            .cont 0 [x21, (n y16 1)])) (
           .l (.cmp .lss .i64) [(n y16 1), (i 0)] fun x19 =>
           .ite x19 (
            .ret (.tup [(n xs 0), (i 9)])) (
            .l (.lst 6 true) [] fun x20 =>
            .l (.app 6 true 88) [x20, (n xs 0)] fun x21 =>
            .l (.idx 6 true) [(c 5 x6), (n y16 1)] fun x22 =>
            .l (.idx 6 true) [x21, (c 0 x0)] fun x23 =>
            .l (.upd 6 true) [x21, (c 0 x0), x22] fun x24 =>
            .ret (.tup [x24, (i 0)])))))) (
        .l (.cmp .gtr .i64) [(c 0 x11), (i 2)] fun x14 =>
        .ite x14 (
         .l (.cmp .neq .i64) [(c 3 x0), (i 1)] fun x15 =>
         .ite x15 (
          .ret (.tup [(n xs 0), (i 8)])) (
          .loop [(i 0), (i 1)] fun y16 =>
          .l .len [(c 4 x6)] fun x17 =>
          .l (.cmp .lss .i64) [(n y16 0), x17] fun x18 =>
          .ite x18 (
           .l (.idx 1 false) [(c 4 x6), (n y16 0)] fun x19 =>
           .l (.scmp .eql) [x19, (c 2 x0)] fun x20 =>
           .ite x20 (
            .l (.arith .add .i64) [(n y16 0), (i 1)] fun x21 =>
            .cont 0 [x21, (n y16 0)]) (
            .l (.arith .add .i64) [(n y16 0), (i 1)] fun x21 =>
            .cont 0 [x21, (n y16 1)])) (
           .l (.cmp .lss .i64) [(n y16 1), (i 0)] fun x19 =>
           .ite x19 (
            .ret (.tup [(n xs 0), (i 9)])) (
            .l (.lst 6 true) [] fun x20 =>
            .l (.app 6 true 88) [x20, (n xs 0)] fun x21 =>
            .l (.idx 6 true) [(c 5 x6), (n y16 1)] fun x22 =>
            .l (.idx 6 true) [x21, (c 0 x0)] fun x23 =>
            .l (.upd 6 true) [x21, (c 0 x0), x22] fun x24 =>
            .ret (.tup [x24, (i 0)]))))) (
         .loop [(i 0), (i 1)] fun y15 =>
         .l .len [(c 4 x6)] fun x16 =>
         .l (.cmp .lss .i64) [(n y15 0), x16] fun x17 =>
         .ite x17 (
          .l (.idx 1 false) [(c 4 x6), (n y15 0)] fun x18 =>
          .l (.scmp .eql) [x18, (c 2 x0)] fun x19 =>
          .ite x19 (
           .l (.arith .add .i64) [(n y15 0), (i 1)] fun x20 =>
           .cont 0 [x20, (n y15 0)]) (
           .l (.arith .add .i64) [(n y15 0), (i 1)] fun x20 =>
           .cont 0 [x20, (n y15 1)])) (
          .l (.cmp .lss .i64) [(n y15 1), (i 0)] fun x18 =>
          .ite x18 (
           .ret (.tup [(n xs 0), (i 9)])) (
           .l (.lst 6 true) [] fun x19 =>
           .l (.app 6 true 88) [x19, (n xs 0)] fun x20 =>
           .l (.idx 6 true) [(c 5 x6), (n y15 1)] fun x21 =>
           .l (.idx 6 true) [x20, (c 0 x0)] fun x22 =>
           .l (.upd 6 true) [x20, (c 0 x0), x21] fun x23 =>
           .ret (.tup [x23, (i 0)]))))))) (
      .loop [(i 0), (i (-1))] fun y11 =>
      .l .len [(c 4 x6)] fun x12 =>
      .l (.cmp .lss .i64) [(n y11 0), x12] fun x13 =>
      .ite x13 (
       .l (.idx 1 false) [(c 4 x6), (n y11 0)] fun x14 =>
       .l (.scmp .eql) [x14, (c 2 x0)] fun x15 =>
       .ite x15 (
        .l (.arith .add .i64) [(n y11 0), (i 1)] fun x16 =>
        .cont 0 [x16, (n y11 0)]) (
        .l (.arith .add .i64) [(n y11 0), (i 1)] fun x16 =>
        .cont 0 [x16, (n y11 1)])) (
       .l (.cmp .lss .i64) [(n y11 1), (i 0)] fun x14 =>
       .ite x14 (
        .ret (.tup [(n xs 0), (i 9)])) (
        .l (.lst 6 true) [] fun x15 =>
        .l (.app 6 true 88) [x15, (n xs 0)] fun x16 =>
        .l (.idx 6 true) [(c 5 x6), (n y11 1)] fun x17 =>
        .l (.idx 6 true) [x16, (c 0 x0)] fun x18 =>
        .l (.upd 6 true) [x16, (c 0 x0), x17] fun x19 =>
        .ret (.tup [x19, (i 0)]))))))) (
   .l .bnot [(c 1 x0)] fun x8 =>
   .ite x8 (
    .l (.arith .add .i64) [(i 4), (i 1)] fun x9 =>
    .l (.cmp .neq .i64) [(c 0 x6), x9] fun x10 =>
    .ite x10 (
     .ret (.tup [(n xs 0), (i 8)])) (
     .l (.scmp .eql) [(c 2 x0), (.str ⟨#[]⟩)] fun x11 =>
     .ite x11 (
      .l (.idx 6 true) [(c 5 x6), (i 0)] fun x12 =>
      .l (.cmp .eql .i64) [(c 0 x12), (i 1)] fun x13 =>
      .ite x13 (
       .l (.cmp .neq .i64) [(c 3 x0), (i 2)] fun x14 =>
       .ite x14 (
        .ret (.tup [(n xs 0), (i 8)])) (
        .l (.cmp .eql .i64) [(c 0 x12), (i 2)] fun x15 =>
        .ite x15 (
         .l (.cmp .neq .i64) [(c 3 x0), (i 3)] fun x16 =>
         .ite x16 (
          .ret (.tup [(n xs 0), (i 8)])) (
          .l (.cmp .gtr .i64) [(c 0 x12), (i 2)] fun x17 =>
          .ite x17 (
           .l (.cmp .neq .i64) [(c 3 x0), (i 1)] fun x18 =>
           .ite x18 (
            .ret (.tup [(n xs 0), (i 8)])) (
            .loop [(i 0), (i 1)] fun y19 =>
            .l .len [(c 4 x6)] fun x20 =>
            .l (.cmp .lss .i64) [(n y19 0), x20] fun x21 =>
            .ite x21 (
             .l (.idx 1 false) [(c 4 x6), (n y19 0)] fun x22 =>
             .l (.scmp .eql) [x22, (c 2 x0)] fun x23 =>
             .ite x23 (
              .l (.arith .add .i64) [(n y19 0), (i 1)] fun x24 =>
              .cont 0 [x24, (n y19 0)]) (
              .l (.arith .add .i64) [(n y19 0), (i 1)] fun x24 =>
              .cont 0 [x24, (n y19 1)])) (
             .l (.cmp .lss .i64) [(n y19 1), (i 0)] fun x22 =>
             .ite x22 (
              .ret (.tup [(n xs 0), (i 9)])) (
              .l (.lst 6 true) [] fun x23 =>
              .l (.app 6 true 88) [x23, (n xs 0)] fun x24 =>
              .l (.idx 6 true) [(c 5 x6), (n y19 1)] fun x25 =>
              .l (.idx 6 true) [x24, (c 0 x0)] fun x26 =>
              .l (.upd 6 true) [x24, (c 0 x0), x25] fun x27 =>
              .ret (.tup [x27, (i 0)]))))) (
           .loop [(i 0), (i 1)] fun y18 =>
           .l .len [(c 4 x6)] fun x19 =>
           .l (.cmp .lss .i64) [(n y18 0), x19] fun x20 =>
           .ite x20 (
            .l (.idx 1 false) [(c 4 x6), (n y18 0)] fun x21 =>
            .l (.scmp .eql) [x21, (c 2 x0)] fun x22 =>
            .ite x22 (
             .l (.arith .add .i64) [(n y18 0), (i 1)] fun x23 =>
             .cont 0 [x23, (n y18 0)]) (
             .l (.arith .add .i64) [(n y18 0), (i 1)] fun x23 =>
             .cont 0 [x23, (n y18 1)])) (
            .l (.cmp .lss .i64) [(n y18 1), (i 0)] fun x21 =>
            .ite x21 (
             .ret (.tup [(n xs 0), (i 9)])) (
             .l (.lst 6 true) [] fun x22 =>
             .l (.app 6 true 88) [x22, (n xs 0)] fun x23 =>
             .l (.idx 6 true) [(c 5 x6), (n y18 1)] fun x24 =>
             .l (.idx 6 true) [x23, (c 0 x0)] fun x25 =>
             .l (.upd 6 true) [x23, (c 0 x0), x24] fun x26 =>
             .ret (.tup [x26, (i 0)])))))) (
         .l (.cmp .gtr .i64) [(c 0 x12), (i 2)] fun x16 =>
         .ite x16 (
          .l (.cmp .neq .i64) [(c 3 x0), (i 1)] fun x17 =>
          .ite x17 (
           .ret (.tup [(n xs 0), (i 8)])) (
           .loop [(i 0), (i 1)] fun y18 =>
           .l .len [(c 4 x6)] fun x19 =>
           .l (.cmp .lss .i64) [(n y18 0), x19] fun x20 =>
           .ite x20 (
            .l (.idx 1 false) [(c 4 x6), (n y18 0)] fun x21 =>
            .l (.scmp .eql) [x21, (c 2 x0)] fun x22 =>
            .ite x22 (
             .l (.arith .add .i64) [(n y18 0), (i 1)] fun x23 =>
             .cont 0 [x23, (n y18 0)]) (
             .l (.arith .add .i64) [(n y18 0), (i 1)] fun x23 =>
             .cont 0 [x23, (n y18 1)])) (
            .l (.cmp .lss .i64) [(n y18 1), (i 0)] fun x21 =>
            .ite x21 (
             .ret (.tup [(n xs 0), (i 9)])) (
             .l (.lst 6 true) [] fun x22 =>
             .l (.app 6 true 88) [x22, (n xs 0)] fun x23 =>
             .l (.idx 6 true) [(c 5 x6), (n y18 1)] fun x24 =>
             .l (.idx 6 true) [x23, (c 0 x0)] fun x25 =>
             .l (.upd 6 true) [x23, (c 0 x0), x24] fun x26 =>
             .ret (.tup [x26, (i 0)]))))) (
          .loop [(i 0), (i 1)] fun y17 =>
          .l .len [(c 4 x6)] fun x18 =>
          .l (.cmp .lss .i64) [(n y17 0), x18] fun x19 =>
          .ite x19 (
           .l (.idx 1 false) [(c 4 x6), (n y17 0)] fun x20 =>
           .l (.scmp .eql) [x20, (c 2 x0)] fun x21 =>
           .ite x21 (
            .l (.arith .add .i64) [(n y17 0), (i 1)] fun x22 =>
            .cont 0 [x22, (n y17 0)]) (
            .l (.arith .add .i64) [(n y17 0), (i 1)] fun x22 =>
            .cont 0 [x22, (n y17 1)])) (
           .l (.cmp .lss .i64) [(n y17 1), (i 0)] fun x20 =>
           .ite x20 (
            .ret (.tup [(n xs 0), (i 9)])) (
            .l (.lst 6 true) [] fun x21 =>
            .l (.app 6 true 88) [x21, (n xs 0)] fun x22 =>
            .l (.idx 6 true) [(c 5 x6), (n y17 1)] fun x23 =>
            .l (.idx 6 true) [x22, (c 0 x0)] fun x24 =>
            .l (.upd 6 true) [x22, (c 0 x0), x23] fun x25 =>
            .ret (.tup [x25, (i 0)]))))))) (
       .l (.cmp .eql .i64) [(c 0 x12), (i 2)] fun x14 =>
       .ite x14 (
        .l (.cmp .neq .i64) [(c 3 x0), (i 3)] fun x15 =>
        .ite x15 (
         .ret (.tup [(n xs 0), (i 8)])) (
         .l (.cmp .gtr .i64) [(c 0 x12), (i 2)] fun x16 =>
         .ite x16 (
          .l (.cmp .neq .i64) [(c 3 x0), (i 1)] fun x17 =>
          .ite x17 (
           .ret (.tup [(n xs 0), (i 8)])) (
           .loop [(i 0), (i 1)] fun y18 =>
           .l .len [(c 4 x6)] fun x19 =>
           .l (.cmp .lss .i64) [(n y18 0), x19] fun x20 =>
           .ite x20 (
            .l (.idx 1 false) [(c 4 x6), (n y18 0)] fun x21 =>
            .l (.scmp .eql) [x21, (c 2 x0)] fun x22 =>
            .ite x22 (
             .l (.arith .add .i64) [(n y18 0), (i 1)] fun x23 =>
             .cont 0 [x23, (n y18 0)]) (
             .l (.arith .add .i64) [(n y18 0), (i 1)] fun x23 =>
             .cont 0 [x23, (n y18 1)])) (
            .l (.cmp .lss .i64) [(n y18 1), (i 0)] fun x21 =>
            .ite x21 (
             .ret (.tup [(n xs 0), (i 9)])) (
             .l (.lst 6 true) [] fun x22 =>
             .l (.app 6 true 88) [x22, (n xs 0)] fun x23 =>
             .l (.idx 6 true) [(c 5 x6), (n y18 1)] fun x24 =>
             .l (.idx 6 true) [x23, (c 0 x0)] fun x25 =>
             .l (.upd 6 true) [x23, (c 0 x0), x24] fun x26 =>
             .ret (.tup [x26, (i 0)]))))) (
          .loop [(i 0), (i 1)] fun y17 =>
          .l .len [(c 4 x6)] fun x18 =>
          .l (.cmp .lss .i64) [(n y17 0), x18] fun x19 =>
          .ite x19 (
           .l (.idx 1 false) [(c 4 x6), (n y17 0)] fun x20 =>
           .l (.scmp .eql) [x20, (c 2 x0)] fun x21 =>
           .ite x21 (
            .l (.arith .add .i64) [(n y17 0), (i 1)] fun x22 =>
            .cont 0 [x22, (n y17 0)]) (
            .l (.arith .add .i64) [(n y17 0), (i 1)] fun x22 =>
            .cont 0 [x22, (n y17 1)])) (
           .l (.cmp .lss .i64) [(n y17 1), (i 0)] fun x20 =>
           .ite x20 (
            .ret (.tup [(n xs 0), (i 9)])) (
            .l (.lst 6 true) [] fun x21 =>
            .l (.app 6 true 88) [x21, (n xs 0)] fun x22 =>
            .l (.idx 6 true) [(c 5 x6), (n y17 1)] fun x23 =>
            .l (.idx 6 true) [x22, (c 0 x0)] fun x24 =>
            .l (.upd 6 true) [x22, (c 0 x0), x23] fun x25 =>
            .ret (.tup [x25, (i 0)])))))) (
        .l (.cmp .gtr .i64) [(c 0 x12), (i 2)] fun x15 =>
        .ite x15 (
         .l (.cmp .neq .i64) [(c 3 x0), (i 1)] fun x16 =>
         .ite x16 (
          .ret (.tup [(n xs 0), (i 8)])) (
          .loop [(i 0), (i 1)] fun y17 =>
          .l .len [(c 4 x6)] fun x18 =>
          .l (.cmp .lss .i64) [(n y17 0), x18] fun x19 =>
          .ite x19 (
           .l (.idx 1 false) [(c 4 x6), (n y17 0)] fun x20 =>
           .l (.scmp .eql) [x20, (c 2 x0)] fun x21 =>
           .ite x21 (
            .l (.arith .add .i64) [(n y17 0), (i 1)] fun x22 =>
            .cont 0 [x22, (n y17 0)]) (
            .l (.arith .add .i64) [(n y17 0), (i 1)] fun x22 =>
            .cont 0 [x22, (n y17 1)])) (
           .l (.cmp .lss .i64) [(n y17 1), (i 0)] fun x20 =>
           .ite x20 (
            .ret (.tup [(n xs 0), (i 9)])) (
            .l (.lst 6 true) [] fun x21 =>
            .l (.app 6 true 88) [x21, (n xs 0)] fun x22 =>
            .l (.idx 6 true) [(c 5 x6), (n y17 1)] fun x23 =>
            .l (.idx 6 true) [x22, (c 0 x0)] fun x24 =>
            .l (.upd 6 true) [x22, (c 0 x0), x23] fun x25 =>
            .ret (.tup [x25, (i 0)]))))) (
         .loop [(i 0), (i 1)] fun y16 =>
         .l .len [(c 4 x6)] fun x17 =>
         .l (.cmp .lss .i64) [(n y16 0), x17] fun x18 =>
         .ite x18 (
          .l (.idx 1 false) [(c 4 x6), (n y16 0)] fun x19 =>
          .l (.scmp .eql) [x19, (c 2 x0)] fun x20 =>
          .ite x20 (
           .l (.arith .add .i64) [(n y16 0), (i 1)] fun x21 =>
           .cont 0 [x21, (n y16 0)]) (
           .l (.arith .add .i64) [(n y16 0), (i 1)] fun x21 =>
           .cont 0 [x21, (n y16 1)])) (
          .l (.cmp .lss .i64) [(n y16 1), (i 0)] fun x19 =>
          .ite x19 (
           .ret (.tup [(n xs 0), (i 9)])) (
           .l (.lst 6 true) [] fun x20 =>
           .l (.app 6 true 88) [x20, (n xs 0)] fun x21 =>
           .l (.idx 6 true) [(c 5 x6), (n y16 1)] fun x22 =>
           .l (.idx 6 true) [x21, (c 0 x0)] fun x23 =>
           .l (.upd 6 true) [x21, (c 0 x0), x22] fun x24 =>
           .ret (.tup [x24, (i 0)]))))))) (
      .loop [(i 0), (i (-1))] fun y12 =>
      .l .len [(c 4 x6)] fun x13 =>
      .l (.cmp .lss .i64) [(n y12 0), x13] fun x14 =>
      .ite x14 (
       .l (.idx 1 false) [(c 4 x6), (n y12 0)] fun x15 =>
       .l (.scmp .eql) [x15, (c 2 x0)] fun x16 =>
       .ite x16 (
        .l (.arith .add .i64) [(n y12 0), (i 1)] fun x17 =>
        .cont 0 [x17, (n y12 0)]) (
        .l (.arith .add .i64) [(n y12 0), (i 1)] fun x17 =>
        .cont 0 [x17, (n y12 1)])) (
       .l (.cmp .lss .i64) [(n y12 1), (i 0)] fun x15 =>
       .ite x15 (
        .ret (.tup [(n xs 0), (i 9)])) (
        .l (.lst 6 true) [] fun x16 =>
        .l (.app 6 true 88) [x16, (n xs 0)] fun x17 =>
        .l (.idx 6 true) [(c 5 x6), (n y12 1)] fun x18 =>
        .l (.idx 6 true) [x17, (c 0 x0)] fun x19 =>
        .l (.upd 6 true) [x17, (c 0 x0), x18] fun x20 =>
        .ret (.tup [x20, (i 0)])))))) (
    .l (.cmp .neq .i64) [(c 0 x6), (i 4)] fun x9 =>
    .ite x9 (
     .ret (.tup [(n xs 0), (i 8)])) (
     .l (.scmp .eql) [(c 2 x0), (.str ⟨#[]⟩)] fun x10 =>
     .ite x10 (
      .l (.idx 6 true) [(c 5 x6), (i 0)] fun x11 =>
      .l (.cmp .eql .i64) [(c 0 x11), (i 1)] fun x12 =>
      .ite x12 (
       .l (.cmp .neq .i64) [(c 3 x0), (i 2)] fun x13 =>
       .ite x13 (
        .ret (.tup [(n xs 0), (i 8)])) (
        .l (.cmp .eql .i64) [(c 0 x11), (i 2)] fun x14 =>
        .ite x14 (
         .l (.cmp .neq .i64) [(c 3 x0), (i 3)] fun x15 =>
         .ite x15 (
          .ret (.tup [(n xs 0), (i 8)])) (
          .l (.cmp .gtr .i64) [(c 0 x11), (i 2)] fun x16 =>
          .ite x16 (
           .l (.cmp .neq .i64) [(c 3 x0), (i 1)] fun x17 =>
           .ite x17 (
            .ret (.tup [(n xs 0), (i 8)])) (
            .loop [(i 0), (i 1)] fun y18 =>
            .l .len [(c 4 x6)] fun x19 =>
            .l (.cmp .lss .i64) [(n y18 0), x19] fun x20 =>
            .ite x20 (
             .l (.idx 1 false) [(c 4 x6), (n y18 0)] fun x21 =>
             .l (.scmp .eql) [x21, (c 2 x0)] fun x22 =>
             .ite x22 (
              .l (.arith .add .i64) [(n y18 0), (i 1)] fun x23 =>
              .cont 0 [x23, (n y18 0)]) (
              .l (.arith .add .i64) [(n y18 0), (i 1)] fun x23 =>
              .cont 0 [x23, (n y18 1)])) (
             .l (.cmp .lss .i64) [(n y18 1), (i 0)] fun x21 =>
             .ite x21 (
              .ret (.tup [(n xs 0), (i 9)])) (
              .l (.lst 6 true) [] fun x22 =>
              .l (.app 6 true 88) [x22, (n xs 0)] fun x23 =>
              .l (.idx 6 true) [(c 5 x6), (n y18 1)] fun x24 =>
              .l (.idx 6 true) [x23, (c 0 x0)] fun x25 =>
              .l (.upd 6 true) [x23, (c 0 x0), x24] fun x26 =>
              .ret (.tup [x26, (i 0)]))))) (
           .loop [(i 0), (i 1)] fun y17 =>
           .l .len [(c 4 x6)] fun x18 =>
           .l (.cmp .lss .i64) [(n y17 0), x18] fun x19 =>
           .ite x19 (
            .l (.idx 1 false) [(c 4 x6), (n y17 0)] fun x20 =>
            .l (.scmp .eql) [x20, (c 2 x0)] fun x21 =>
            .ite x21 (
             .l (.arith .add .i64) [(n y17 0), (i 1)] fun x22 =>
             .cont 0 [x22, (n y17 0)]) (
             .l (.arith .add .i64) [(n y17 0), (i 1)] fun x22 =>
             .cont 0 [x22, (n y17 1)])) (
            .l (.cmp .lss .i64) [(n y17 1), (i 0)] fun x20 =>
            .ite x20 (
             .ret (.tup [(n xs 0), (i 9)])) (
             .l (.lst 6 true) [] fun x21 =>
             .l (.app 6 true 88) [x21, (n xs 0)] fun x22 =>
             .l (.idx 6 true) [(c 5 x6), (n y17 1)] fun x23 =>
             .l (.idx 6 true) [x22, (c 0 x0)] fun x24 =>
             .l (.upd 6 true) [x22, (c 0 x0), x23] fun x25 =>
             .ret (.tup [x25, (i 0)])))))) (
         .l (.cmp .gtr .i64) [(c 0 x11), (i 2)] fun x15 =>
         .ite x15 (
          .l (.cmp .neq .i64) [(c 3 x0), (i 1)] fun x16 =>
          .ite x16 (
           .ret (.tup [(n xs 0), (i 8)])) (
           .loop [(i 0), (i 1)] fun y17 =>
           .l .len [(c 4 x6)] fun x18 =>
           .l (.cmp .lss .i64) [(n y17 0), x18] fun x19 =>
           .ite x19 (
            .l (.idx 1 false) [(c 4 x6), (n y17 0)] fun x20 =>
            .l (.scmp .eql) [x20, (c 2 x0)] fun x21 =>
            .ite x21 (
             .l (.arith .add .i64) [(n y17 0), (i 1)] fun x22 =>
             .cont 0 [x22, (n y17 0)]) (
             .l (.arith .add .i64) [(n y17 0), (i 1)] fun x22 =>
             .cont 0 [x22, (n y17 1)])) (
            .l (.cmp .lss .i64) [(n y17 1), (i 0)] fun x20 =>
            .ite x20 (
             .ret (.tup [(n xs 0), (i 9)])) (
             .l (.lst 6 true) [] fun x21 =>
             .l (.app 6 true 88) [x21, (n xs 0)] fun x22 =>
             .l (.idx 6 true) [(c 5 x6), (n y17 1)] fun x23 =>
             .l (.idx 6 true) [x22, (c 0 x0)] fun x24 =>
             .l (.upd 6 true) [x22, (c 0 x0), x23] fun x25 =>
             .ret (.tup [x25, (i 0)]))))) (
          .loop [(i 0), (i 1)] fun y16 =>
          .l .len [(c 4 x6)] fun x17 =>
          .l (.cmp .lss .i64) [(n y16 0), x17] fun x18 =>
          .ite x18 (
           .l (.idx 1 false) [(c 4 x6), (n y16 0)] fun x19 =>
           .l (.scmp .eql) [x19, (c 2 x0)] fun x20 =>
           .ite x20 (
            .l (.arith .add .i64) [(n y16 0), (i 1)] fun x21 =>
            .cont 0 [x21, (n y16 0)]) (
            .l (.arith .add .i64) [(n y16 0), (i 1)] fun x21 =>
            .cont 0 [x21, (n y16 1)])) (
           .l (.cmp .lss .i64) [(n y16 1), (i 0)] fun x19 =>
           .ite x19 (
            .ret (.tup [(n xs 0), (i 9)])) (
            .l (.lst 6 true) [] fun x20 =>
            .l (.app 6 true 88) [x20, (n xs 0)] fun x21 =>
            .l (.idx 6 true) [(c 5 x6), (n y16 1)] fun x22 =>
            .l (.idx 6 true) [x21, (c 0 x0)] fun x23 =>
            .l (.upd 6 true) [x21, (c 0 x0), x22] fun x24 =>
            .ret (.tup [x24, (i 0)]))))))) (
       .l (.cmp .eql .i64) [(c 0 x11), (i 2)] fun x13 =>
       .ite x13 (
        .l (.cmp .neq .i64) [(c 3 x0), (i 3)] fun x14 =>
        .ite x14 (
         .ret (.tup [(n xs 0), (i 8)])) (
         .l (.cmp .gtr .i64) [(c 0 x11), (i 2)] fun x15 =>
         .ite x15 (
          .l (.cmp .neq .i64) [(c 3 x0), (i 1)] fun x16 =>
          .ite x16 (
           .ret (.tup [(n xs 0), (i 8)])) (
           .loop [(i 0), (i 1)] fun y17 =>
           .l .len [(c 4 x6)] fun x18 =>
           .l (.cmp .lss .i64) [(n y17 0), x18] fun x19 =>
           .ite x19 (
            .l (.idx 1 false) [(c 4 x6), (n y17 0)] fun x20 =>
            .l (.scmp .eql) [x20, (c 2 x0)] fun x21 =>
            .ite x21 (
             .l (.arith .add .i64) [(n y17 0), (i 1)] fun x22 =>
             .cont 0 [x22, (n y17 0)]) (
             .l (.arith .add .i64) [(n y17 0), (i 1)] fun x22 =>
             .cont 0 [x22, (n y17 1)])) (
            .l (.cmp .lss .i64) [(n y17 1), (i 0)] fun x20 =>
            .ite x20 (
             .ret (.tup [(n xs 0), (i 9)])) (
             .l (.lst 6 true) [] fun x21 =>
             .l (.app 6 true 88) [x21, (n xs 0)] fun x22 =>
             .l (.idx 6 true) [(c 5 x6), (n y17 1)] fun x23 =>
             .l (.idx 6 true) [x22, (c 0 x0)] fun x24 =>
             .l (.upd 6 true) [x22, (c 0 x0), x23] fun x25 =>
             .ret (.tup [x25, (i 0)]))))) (
          .loop [(i 0), (i 1)] fun y16 =>
          .l .len [(c 4 x6)] fun x17 =>
          .l (.cmp .lss .i64) [(n y16 0), x17] fun x18 =>
          .ite x18 (
           .l (.idx 1 false) [(c 4 x6), (n y16 0)] fun x19 =>
           .l (.scmp .eql) [x19, (c 2 x0)] fun x20 =>
           .ite x20 (
            .l (.arith .add .i64) [(n y16 0), (i 1)] fun x21 =>
            .cont 0 [x21, (n y16 0)]) (
            .l (.arith .add .i64) [(n y16 0), (i 1)] fun x21 =>
            .cont 0 [x21, (n y16 1)])) (
           .l (.cmp .lss .i64) [(n y16 1), (i 0)] fun x19 =>
           .ite x19 (
            .ret (.tup [(n xs 0), (i 9)])) (
            .l (.lst 6 true) [] fun x20 =>
            .l (.app 6 true 88) [x20, (n xs 0)] fun x21 =>
            .l (.idx 6 true) [(c 5 x6), (n y16 1)] fun x22 =>
            .l (.idx 6 true) [x21, (c 0 x0)] fun x23 =>
            .l (.upd 6 true) [x21, (c 0 x0), x22] fun x24 =>
            .ret (.tup [x24, (i 0)])))))) (
        .l (.cmp .gtr .i64) [(c 0 x11), (i 2)] fun x14 =>
        .ite x14 (
         .l (.cmp .neq .i64) [(c 3 x0), (i 1)] fun x15 =>
         .ite x15 (
          .ret (.tup [(n xs 0), (i 8)])) (
          .loop [(i 0), (i 1)] fun y16 =>
          .l .len [(c 4 x6)] fun x17 =>
          .l (.cmp .lss .i64) [(n y16 0), x17] fun x18 =>
          .ite x18 (
           .l (.idx 1 false) [(c 4 x6), (n y16 0)] fun x19 =>
           .l (.scmp .eql) [x19, (c 2 x0)] fun x20 =>
           .ite x20 (
            .l (.arith .add .i64) [(n y16 0), (i 1)] fun x21 =>
            .cont 0 [x21, (n y16 0)]) (
            .l (.arith .add .i64) [(n y16 0), (i 1)] fun x21 =>
            .cont 0 [x21, (n y16 1)])) (
           .l (.cmp .lss .i64) [(n y16 1), (i 0)] fun x19 =>
           .ite x19 (
            .ret (.tup [(n xs 0), (i 9)])) (
            .l (.lst 6 true) [] fun x20 =>
            .l (.app 6 true 88) [x20, (n xs 0)] fun x21 =>
            .l (.idx 6 true) [(c 5 x6), (n y16 1)] fun x22 =>
            .l (.idx 6 true) [x21, (c 0 x0)] fun x23 =>
            .l (.upd 6 true) [x21, (c 0 x0), x22] fun x24 =>
            .ret (.tup [x24, (i 0)]))))) (
         .loop [(i 0), (i 1)] fun y15 =>
         .l .len [(c 4 x6)] fun x16 =>
         .l (.cmp .lss .i64) [(n y15 0), x16] fun x17 =>
         .ite x17 (
          .l (.idx 1 false) [(c 4 x6), (n y15 0)] fun x18 =>
          .l (.scmp .eql) [x18, (c 2 x0)] fun x19 =>
          .ite x19 (
           .l (.arith .add .i64) [(n y15 0), (i 1)] fun x20 =>
           .cont 0 [x20, (n y15 0)]) (
           .l (.arith .add .i64) [(n y15 0), (i 1)] fun x20 =>
           .cont 0 [x20, (n y15 1)])) (
          .l (.cmp .lss .i64) [(n y15 1), (i 0)] fun x18 =>
          .ite x18 (
           .ret (.tup [(n xs 0), (i 9)])) (
           .l (.lst 6 true) [] fun x19 =>
           .l (.app 6 true 88) [x19, (n xs 0)] fun x20 =>
           .l (.idx 6 true) [(c 5 x6), (n y15 1)] fun x21 =>
           .l (.idx 6 true) [x20, (c 0 x0)] fun x22 =>
           .l (.upd 6 true) [x20, (c 0 x0), x21] fun x23 =>
           .ret (.tup [x23, (i 0)]))))))) (
      .loop [(i 0), (i (-1))] fun y11 =>
      .l .len [(c 4 x6)] fun x12 =>
      .l (.cmp .lss .i64) [(n y11 0), x12] fun x13 =>
      .ite x13 (
       .l (.idx 1 false) [(c 4 x6), (n y11 0)] fun x14 =>
       .l (.scmp .eql) [x14, (c 2 x0)] fun x15 =>
       .ite x15 (
        .l (.arith .add .i64) [(n y11 0), (i 1)] fun x16 =>
        .cont 0 [x16, (n y11 0)]) (
        .l (.arith .add .i64) [(n y11 0), (i 1)] fun x16 =>
        .cont 0 [x16, (n y11 1)])) (
       .l (.cmp .lss .i64) [(n y11 1), (i 0)] fun x14 =>
       .ite x14 (
        .ret (.tup [(n xs 0), (i 9)])) (
        .l (.lst 6 true) [] fun x15 =>
        .l (.app 6 true 88) [x15, (n xs 0)] fun x16 =>
        .l (.idx 6 true) [(c 5 x6), (n y11 1)] fun x17 =>
        .l (.idx 6 true) [x16, (c 0 x0)] fun x18 =>
        .l (.upd 6 true) [x16, (c 0 x0), x17] fun x19 =>
        .ret (.tup [x19, (i 0)])))))))))
theorem k_ref21_Observe : TxOk P F.ref21_Observe 2 t_ref21_Observe := txOk_of (H := { wr := [0, 1, 2, 3, 4, 5, 6, 7, 8, 9, 10, 11, 12, 13, 14, 15, 16, 17, 18, 19, 20, 21, 22, 23, 24, 25, 26, 27, 28, 29, 30, 31, 32, 33, 34, 35, 36, 37, 38, 39, 40, 41, 42, 43, 44, 45, 46, 47, 48, 49, 50, 51, 52, 53, 54, 55, 56, 57, 58, 59, 60, 61, 62, 63, 64, 65, 66, 67, 68, 69, 70, 71, 72, 73, 74, 75, 76, 77, 78, 79, 80, 81, 82, 83, 84, 85, 86, 87, 88, 89, 90, 91, 92, 93, 94, 95, 96, 97, 98, 99, 100, 101, 102, 103, 104, 105, 106, 107, 108, 109, 110, 111, 112, 113, 114, 115, 116, 117, 118, 119, 120, 121, 122, 123, 124, 125, 126, 127, 128, 129, 130, 131, 132, 133, 134, 135, 136, 137, 138, 139, 140, 141, 142, 143, 144, 145, 146, 147, 148, 149, 150, 151, 152, 153, 154, 155, 156, 157, 158, 159, 160, 161, 162, 163, 164, 165, 166, 167, 168, 169, 170, 171, 172, 173, 174, 175, 176, 177, 178, 179, 180, 181, 182, 183, 184, 185, 186, 187, 188, 189, 190, 191, 192, 193, 194, 195, 196, 197, 198, 199, 200, 201, 202, 203, 204, 205, 206, 207, 208, 209, 210, 211, 212, 213, 214, 215, 216, 217, 218, 219, 220, 221, 222, 223, 224, 225, 226, 227, 228, 229, 230, 231, 232, 233, 234, 235, 236, 237, 238, 239, 240, 241, 242, 243, 244, 245, 246, 247, 248, 249, 250, 251, 252, 253, 254, 255, 256, 257, 258, 259, 260, 261, 262, 263, 264, 265, 266, 267, 268, 269, 270, 271, 272, 273, 274, 275, 276, 277, 278, 279, 280, 281, 282, 283, 284, 285, 286, 287, 288, 289, 290, 291, 292, 293, 294, 295, 296, 297, 298, 299], ro := [], nl := [], fz := [], da := [], sigs := [] }) (plans := []) hm Tryd.func26 rfl rfl fun xs => by kernel_rfl
-- NOT TOLD: 27 (*duologue/monitor.Monitor).Observe: 2
def u_monitor_Monitor_Observe (xs : List PV) : T PV :=
.l (.okc 6 true) [(n xs 0)] fun x0 =>
.call F.monitor_Monitor_has [(.box (.agg [(n xs 1)])), (c 0 x0)] fun x1 =>
.l .gnd [x1] fun x2 =>
.l .bnot [x2] fun x3 =>
.ite x3 (
 .ret (.tup [(i 12), (n xs 1)])) (
 .l (.idx 6 true) [(n xs 1), (c 0 x0)] fun x4 =>
 .l (.idx 6 true) [(n xs 1), (c 0 x0)] fun x5 =>
 .l (.okc 6 true) [x5] fun x6 =>
 .call F.monitor_want [x0] fun x7 =>
 .l (.cmp .neq .i64) [(c 0 x6), x7] fun x8 =>
 .ite x8 (
  .ret (.tup [(i 8), (n xs 1)])) (
  .l (.scmp .neq) [(c 2 x0), (.str ⟨#[]⟩)] fun x9 =>
  .ite x9 (
   .call F.slices_Index_string_string [(c 4 x6), (c 2 x0)] fun x10 =>
   .l (.cmp .lss .i64) [x10, (i 0)] fun x11 =>
   .ite x11 (
    .ret (.tup [(i 9), (n xs 1)])) (
    .l (.idx 6 true) [(c 5 x6), x10] fun x12 =>
    .call F.typetree_Unfold [x12] fun x13 =>
    .l (.idx 6 true) [(n xs 1), (c 0 x0)] fun x14 =>
    .l (.upd 6 true) [(n xs 1), (c 0 x0), x13] fun x15 =>
    .ret (.tup [(i 0), x15]))) (
   .l (.idx 6 true) [(c 5 x6), (i 0)] fun x10 =>
   .call F.monitor_fits [(sb 3 3 x0), x10] fun x11 =>
   .l .bnot [x11] fun x12 =>
   .ite x12 (
    .ret (.tup [(i 8), (n xs 1)])) (
    .l (.idx 6 true) [(c 5 x6), (i 1)] fun x13 =>
    .call F.typetree_Unfold [x13] fun x14 =>
    .l (.idx 6 true) [(n xs 1), (c 0 x0)] fun x15 =>
    .l (.upd 6 true) [(n xs 1), (c 0 x0), x14] fun x16 =>
    .ret (.tup [(i 0), x16])))))
theorem m_monitor_Monitor_Observe : TxOkS P F.monitor_Monitor_Observe sg_monitor_Monitor_Observe u_monitor_Monitor_Observe := txOkS_of (H := { wr := [], ro := [28, 54, 58, 64], nl := [], fz := [], da := [], sigs := [] }) (plans := []) hm Tryd.func27 rfl fun xs => by kernel_rfl
def u_monitor_Monitor_Observe_Nil (xs : List PV) : T PV :=
.l (.okc 6 true) [(n xs 1)] fun x0 =>
.call F.monitor_Monitor_has [(n xs 0), (c 0 x0)] fun x1 =>
.l .gnd [x1] fun x2 =>
.l .bnot [x2] fun x3 =>
.ite x3 (
 .ret (.tup [(i 12)])) (
 .l .notnil [(n xs 0)] fun x4 =>
 .l (.unbox 1 true) [x4] fun x5 =>
 .l (.idx 6 true) [(c 0 x5), (c 0 x0)] fun x6 =>
 .l (.okc 6 true) [x6] fun x7 =>
 .call F.monitor_want [x0] fun x8 =>
 .l (.cmp .neq .i64) [(c 0 x7), x8] fun x9 =>
 .ite x9 (
  .ret (.tup [(i 8)])) (
  .l (.scmp .neq) [(c 2 x0), (.str ⟨#[]⟩)] fun x10 =>
  .ite x10 (
   .call F.slices_Index_string_string [(c 4 x7), (c 2 x0)] fun x11 =>
   .l (.cmp .lss .i64) [x11, (i 0)] fun x12 =>
   .ite x12 (
    .ret (.tup [(i 9)])) (
    .l .notnil [(n xs 0)] fun x13 =>
    .l (.unbox 1 true) [x13] fun x14 =>
    .l (.idx 6 true) [(c 5 x7), x11] fun x15 =>
    .call F.typetree_Unfold [x15] fun x16 =>
    .l (.idx 6 true) [(c 0 x14), (c 0 x0)] fun x17 =>
    .fail)) (
   .l (.idx 6 true) [(c 5 x7), (i 0)] fun x11 =>
   .call F.monitor_fits [(sb 3 3 x0), x11] fun x12 =>
   .l .bnot [x12] fun x13 =>
   .ite x13 (
    .ret (.tup [(i 8)])) (
    .l .notnil [(n xs 0)] fun x14 =>
    .l (.unbox 1 true) [x14] fun x15 =>
    .l (.idx 6 true) [(c 5 x7), (i 1)] fun x16 =>
    .call F.typetree_Unfold [x16] fun x17 =>
    .l (.idx 6 true) [(c 0 x15), (c 0 x0)] fun x18 =>
    .fail))))
theorem m_monitor_Monitor_Observe_Nil : TxOkS P F.monitor_Monitor_Observe sg_monitor_Monitor_Observe_Nil u_monitor_Monitor_Observe_Nil := txOkS_of (H := { wr := [], ro := [28, 54, 58, 64], nl := [], fz := [], da := [], sigs := [] }) (plans := []) hm Tryd.func27 rfl fun xs => by kernel_rfl
def t_monitor_Monitor_Settled (xs : List PV) : T PV :=
.l (.pnil false) [(n xs 0)] fun x0 =>
.ite x0 (
 .l .notnil [(n xs 0)] fun x1 =>
 .l (.unbox 1 true) [x1] fun x2 =>
 .call F.slices_ContainsFunc_api_Type_api_Type [(c 0 x2), (.fn F.monitor_Monitor_Settled_1 [] [])] fun x3 =>
 .l .bnot [x3] fun x4 =>
 .ret x4) (
 .ret (.bool false))
theorem k_monitor_Monitor_Settled : TxOk P F.monitor_Monitor_Settled 1 t_monitor_Monitor_Settled := txOk_of (H := {}) (plans := []) hm Tryd.func28 rfl rfl fun xs => by kernel_rfl
def t_law21_states (xs : List PV) : T PV :=
.loop [(i 0), (.sl [])] fun y0 =>
.call F.monitor_Monitor_Len [(n xs 0)] fun x1 =>
.l .gnd [x1] fun x2 =>
.l (.cmp .lss .i64) [(n y0 0), x2] fun x3 =>
.ite x3 (
 .l (.cmp .lss .i64) [(n y0 0), (i 100)] fun x4 =>
 .ite x4 (
  .call F.monitor_Monitor_State [(n xs 0), (n y0 0)] fun x5 =>
  .l (.tc 0) [x5] fun x6 =>
  .l (.tc 1) [x5] fun x7 =>
  .l (.okc 6 true) [x6] fun x8 =>
  .l (.lst 6 true) [x8] fun x9 =>
  .l (.app 6 true 88) [(n y0 1), x9] fun x10 =>
  .l (.arith .add .i64) [(n y0 0), (i 1)] fun x11 =>
  .cont 0 [x11, x10]) (
  .ret (n y0 1))) (
 .ret (n y0 1))
theorem k_law21_states : TxOk P F.law21_states 1 t_law21_states := txOk_of (H := { wr := [], ro := [28, 54, 58, 64], nl := [], fz := [], da := [], sigs := [] }) (plans := []) hm Tryd.func29 rfl rfl fun xs => by kernel_rfl
def u_law21_states (xs : List PV) : T PV :=
.loop [(i 0), (.sl []), (n xs 0)] fun y0 =>
.call F.monitor_Monitor_Len [(.box (.agg [(n y0 2)]))] fun x1 =>
.l .gnd [x1] fun x2 =>
.l (.cmp .lss .i64) [(n y0 0), x2] fun x3 =>
.ite x3 (
 .l (.cmp .lss .i64) [(n y0 0), (i 100)] fun x4 =>
 .ite x4 (
  .calls F.monitor_Monitor_State sg_monitor_Monitor_State [(n y0 0), (n y0 2)] fun z5 =>
  .l (.tc 0) [(n z5 0)] fun x6 =>
  .l (.tc 1) [(n z5 0)] fun x7 =>
  .l (.okc 6 true) [x6] fun x8 =>
  .l (.lst 6 true) [x8] fun x9 =>
  .l (.app 6 true 88) [(n y0 1), x9] fun x10 =>
  .l (.arith .add .i64) [(n y0 0), (i 1)] fun x11 =>
  .cont 0 [x11, x10, (n z5 1)]) (
  .ret (.tup [(n y0 1), (n y0 2)]))) (
 .ret (.tup [(n y0 1), (n y0 2)]))
theorem m_law21_states : TxOkS P F.law21_states sg_law21_states u_law21_states := txOkS_of (H := { wr := [], ro := [28, 54, 58, 64], nl := [], fz := [], da := [], sigs := [(24, sg_monitor_New), (56, sg_monitor_Monitor_Add), (27, sg_monitor_Monitor_Observe), (53, sg_monitor_Monitor_State), (29, sg_law21_states)] }) (plans := []) hm Tryd.func29 rfl fun xs => by kernel_rfl
def t_ref02_Same (xs : List PV) : T PV :=
.l (.okc 6 true) [(n xs 0)] fun x0 =>
.l (.okc 6 true) [(n xs 1)] fun x1 =>
.l (.cmp .neq .i64) [(c 0 x0), (c 0 x1)] fun x2 =>
.ite x2 (
 .ret (.bool false)) (
 .l (.cmp .neq .i64) [(c 1 x0), (c 1 x1)] fun x3 =>
 .ite x3 (
  .ret (.bool false)) (
  .l (.scmp .neq) [(c 2 x0), (c 2 x1)] fun x4 =>
  .ite x4 (
   .ret (.bool false)) (
   .l (.cmp .neq .i64) [(c 3 x0), (c 3 x1)] fun x5 =>
   .ite x5 (
    .ret (.bool false)) (
    .call F.ref02_texts [(c 4 x0), (c 4 x1)] fun x6 =>
    .l .bnot [x6] fun x7 =>
    .ite x7 (
     .ret (.bool false)) (
     .l .len [(c 5 x0)] fun x8 =>
     .l .len [(c 5 x1)] fun x9 =>
     .l (.cmp .neq .i64) [x8, x9] fun x10 =>
     .ite x10 (
      .ret (.bool false)) (
      .loop [(i 0)] fun y11 =>
      .l .len [(c 5 x0)] fun x12 =>
      .l (.cmp .lss .i64) [(n y11 0), x12] fun x13 =>
      .ite x13 (
       .l (.idx 6 true) [(c 5 x0), (n y11 0)] fun x14 =>
       .l (.idx 6 true) [(c 5 x1), (n y11 0)] fun x15 =>
       .call F.ref02_Same [x14, x15] fun x16 =>
       .l .bnot [x16] fun x17 =>
       .ite x17 (
        .ret (.bool false)) (
        .l (.arith .add .i64) [(n y11 0), (i 1)] fun x18 =>
        .cont 0 [x18])) (
       .ret (.bool true))))))))
theorem k_ref02_Same : TxOk P F.ref02_Same 2 t_ref02_Same := txOk_of (H := {}) (plans := []) hm Tryd.func30 rfl rfl fun xs => by kernel_rfl
def t_subtype_Same (xs : List PV) : T PV :=
.l (.okc 1 true) [(n xs 0)] fun x0 =>
.l (.okc 2 true) [(n xs 1)] fun x1 =>
.l (.okc 2 true) [(n xs 2)] fun x2 =>
.call F.subtype_Sub [x0, x1, x2] fun x3 =>
.ite x3 (
 .call F.subtype_Sub [x0, x2, x1] fun x4 =>
 .ret x4) (
 .ret (.bool false))
theorem k_subtype_Same : TxOk P F.subtype_Same 3 t_subtype_Same := txOk_of (H := {}) (plans := []) hm Tryd.func31 rfl rfl fun xs => by kernel_rfl
def t_equal_Equal (xs : List PV) : T PV :=
.l (.okc 1 true) [(n xs 0)] fun x0 =>
.l (.okc 2 true) [(n xs 1)] fun x1 =>
.l (.okc 2 true) [(n xs 2)] fun x2 =>
.l (.okcs [(1, true), (1, false)]) [x0, (.fn F.equal_Equal_1 [] [(.box x0)])] fun x3 =>
.calls F.equal_comparison_equal sg_equal_comparison_equal [x1, x2, (c 0 x0), (.fn F.equal_Equal_1 [] [(.box x0)]), (.bool false), (.mp [] [])] fun z4 =>
.ret (n z4 0)
theorem k_equal_Equal : TxOk P F.equal_Equal 3 t_equal_Equal := txOk_of (H := { wr := [0, 1, 2, 3, 4, 5, 6, 7, 8, 9, 10, 11, 12, 13, 14, 15, 16, 17, 18, 19, 20, 21, 22, 23, 24, 25, 26, 27, 28, 29, 30, 31, 32, 33, 34, 35, 36, 37, 38, 39], ro := [], nl := [], fz := [], da := [], sigs := [(68, sg_equal_comparison_equal)] }) (plans := []) hm Tryd.func32 rfl rfl fun xs => by kernel_rfl
def t_ref02_Few (xs : List PV) : T PV :=
.l (.okc 6 true) [(n xs 0)] fun x0 =>
.call F.ref02_count [x0, (n xs 1)] fun x1 =>
.l (.cmp .geq .i64) [x1, (i 0)] fun x2 =>
.ite x2 (
 .call F.ref02_Depth [x0] fun x3 =>
 .l (.cmp .leq .i64) [x3, (i 150)] fun x4 =>
 .ret x4) (
 .ret (.bool false))
theorem k_ref02_Few : TxOk P F.ref02_Few 2 t_ref02_Few := txOk_of (H := {}) (plans := []) hm Tryd.func33 rfl rfl fun xs => by kernel_rfl
def t_ref07_Build (xs : List PV) : T PV :=
.loop [(i 0), (.sl []), (.sl [])] fun y0 =>
.l .len [(n xs 0)] fun x1 =>
.l (.cmp .lss .i64) [(n y0 0), x1] fun x2 =>
.ite x2 (
 .l (.idx 6 true) [(n xs 0), (n y0 0)] fun x3 =>
 .l .len [(n y0 2)] fun x4 =>
 .call F.ref07_reference [x3, x4, (.sl []), (.sl [])] fun x5 =>
 .l (.lst 2 true) [x5] fun x6 =>
 .l (.app 2 true 16) [(n y0 1), x6] fun x7 =>
 .l (.idx 6 true) [(n xs 0), (n y0 0)] fun x8 =>
 .l .len [(n y0 2)] fun x9 =>
 .call F.ref07_nodes [x8, x9, (.sl []), (.sl [])] fun x10 =>
 .l (.app 4 true 64) [(n y0 2), x10] fun x11 =>
 .l (.arith .add .i64) [(n y0 0), (i 1)] fun x12 =>
 .cont 0 [x12, x7, x11]) (
 .ret (.tup [(n y0 2), (n y0 1)]))
theorem k_ref07_Build : TxOk P F.ref07_Build 1 t_ref07_Build := txOk_of (H := {}) (plans := []) hm Tryd.func34 rfl rfl fun xs => by kernel_rfl
def t_dual_mapped_graph_Node_graph_Node (xs : List PV) : T PV :=
.l .len [(n xs 0)] fun x0 =>
.loop [(i 0), (.sl [])] fun y1 =>
.l (.cmp .lss .i64) [(n y1 0), x0] fun x2 =>
.ite x2 (
 .l (.idx 4 true) [(n xs 0), (n y1 0)] fun x3 =>
 .l (.okc 4 true) [x3] fun x4 =>
 .callv (n xs 1) [(n y1 0), x4] fun x5 =>
 .l (.lst 4 true) [x5] fun x6 =>
 .l (.app 4 true 64) [(n y1 1), x6] fun x7 =>
 .l (.arith .add .i64) [(n y1 0), (i 1)] fun x8 =>
 .cont 0 [x8, x7]) (
 .ret (n y1 1))
theorem k_dual_mapped_graph_Node_graph_Node : TxOk P F.dual_mapped_graph_Node_graph_Node 2 t_dual_mapped_graph_Node_graph_Node := txOk_of (H := {}) (plans := []) hm Tryd.func35 rfl rfl fun xs => by kernel_rfl
def u_dual_mapped_graph_Node_graph_Node (xs : List PV) : T PV :=
.l .len [(n xs 0)] fun x0 =>
.loop [(i 0), (.sl [])] fun y1 =>
.l (.cmp .lss .i64) [(n y1 0), x0] fun x2 =>
.ite x2 (
 .l (.idx 4 true) [(n xs 0), (n y1 0)] fun x3 =>
 .l (.okc 4 true) [x3] fun x4 =>
 .callv (n xs 1) [(n y1 0), x4] fun x5 =>
 .l (.lst 4 true) [x5] fun x6 =>
 .l (.app 4 true 64) [(n y1 1), x6] fun x7 =>
 .l (.arith .add .i64) [(n y1 0), (i 1)] fun x8 =>
 .cont 0 [x8, x7]) (
 .ret (.tup [(n y1 1)]))
theorem m_dual_mapped_graph_Node_graph_Node : TxOkS P F.dual_mapped_graph_Node_graph_Node sg_dual_mapped_graph_Node_graph_Node u_dual_mapped_graph_Node_graph_Node := txOkS_of (H := {}) (plans := []) hm Tryd.func35 rfl fun xs => by kernel_rfl
def t_dual_Close_1 (xs : List PV) : T PV :=
.l (.okc 4 true) [(n xs 1)] fun x0 =>
.call F.slices_Clone_string_string [(c 2 x0)] fun x1 =>
.call F.slices_Clone_graph_Ref_graph_Ref [(c 3 x0)] fun x2 =>
.l (.okc 1 false) [x1] fun x3 =>
.l (.okc 1 false) [x2] fun x4 =>
.ret (.agg [(c 0 x0), (c 1 x0), x3, x4])
theorem k_dual_Close_1 : TxOk P F.dual_Close_1 2 t_dual_Close_1 := txOk_of (H := {}) (plans := []) hm Tryd.func36 rfl rfl fun xs => by kernel_rfl
def t_slices_Clone_string_string (xs : List PV) : T PV :=
.nilq (n xs 0) (
 .ret (.sl [])) (
 .l (.lst 1 false) [] fun x0 =>
 .l (.app 1 false 16) [x0, (n xs 0)] fun x1 =>
 .ret x1)
theorem k_slices_Clone_string_string : TxOk P F.slices_Clone_string_string 1 t_slices_Clone_string_string := txOk_of (H := { wr := [0, 1, 2, 3, 4, 5, 6, 7, 8, 9, 10, 11, 12, 13, 14, 15, 16, 17, 18, 19, 20, 21, 22, 23, 24, 25, 26, 27, 28, 29, 30, 31, 32, 33, 34, 35, 36, 37, 38, 39], ro := [], nl := [], fz := [], da := [], sigs := [] }) (plans := []) hm Tryd.func37 rfl rfl fun xs => by kernel_rfl
def u_slices_Clone_string_string (xs : List PV) : T PV :=
.nilq (n xs 0) (
 .ret (.tup [(.sl [])])) (
 .l (.lst 1 false) [] fun x0 =>
 .l (.app 1 false 16) [x0, (n xs 0)] fun x1 =>
 .ret (.tup [x1]))
theorem m_slices_Clone_string_string : TxOkS P F.slices_Clone_string_string sg_slices_Clone_string_string u_slices_Clone_string_string := txOkS_of (H := { wr := [0, 1, 2, 3, 4, 5, 6, 7, 8, 9, 10, 11, 12, 13, 14, 15, 16, 17, 18, 19, 20, 21, 22, 23, 24, 25, 26, 27, 28, 29, 30, 31, 32, 33, 34, 35, 36, 37, 38, 39], ro := [], nl := [], fz := [], da := [], sigs := [] }) (plans := []) hm Tryd.func37 rfl fun xs => by kernel_rfl
def t_slices_Clone_graph_Ref_graph_Ref (xs : List PV) : T PV :=
.nilq (n xs 0) (
 .ret (.sl [])) (
 .l (.lst 2 true) [] fun x0 =>
 .l (.app 2 true 16) [x0, (n xs 0)] fun x1 =>
 .ret x1)
theorem k_slices_Clone_graph_Ref_graph_Ref : TxOk P F.slices_Clone_graph_Ref_graph_Ref 1 t_slices_Clone_graph_Ref_graph_Ref := txOk_of (H := { wr := [0, 1, 2, 3, 4, 5, 6, 7, 8, 9, 10, 11, 12, 13, 14, 15, 16, 17, 18, 19, 20, 21, 22, 23, 24, 25, 26, 27, 28, 29, 30, 31, 32, 33, 34, 35, 36, 37, 38, 39], ro := [], nl := [], fz := [], da := [], sigs := [] }) (plans := []) hm Tryd.func38 rfl rfl fun xs => by kernel_rfl
def u_slices_Clone_graph_Ref_graph_Ref (xs : List PV) : T PV :=
.nilq (n xs 0) (
 .ret (.tup [(.sl [])])) (
 .l (.lst 2 true) [] fun x0 =>
 .l (.app 2 true 16) [x0, (n xs 0)] fun x1 =>
 .ret (.tup [x1]))
theorem m_slices_Clone_graph_Ref_graph_Ref : TxOkS P F.slices_Clone_graph_Ref_graph_Ref sg_slices_Clone_graph_Ref_graph_Ref u_slices_Clone_graph_Ref_graph_Ref := txOkS_of (H := { wr := [0, 1, 2, 3, 4, 5, 6, 7, 8, 9, 10, 11, 12, 13, 14, 15, 16, 17, 18, 19, 20, 21, 22, 23, 24, 25, 26, 27, 28, 29, 30, 31, 32, 33, 34, 35, 36, 37, 38, 39], ro := [], nl := [], fz := [], da := [], sigs := [] }) (plans := []) hm Tryd.func38 rfl fun xs => by kernel_rfl
def t_dual_Close_2 (xs : List PV) : T PV :=
.l (.okc 4 true) [(n xs 1)] fun x0 =>
.call F.dual_mapped_graph_Ref_graph_Ref [(c 3 x0), (.fn F.dual_Close_2_1 [] [(.box x0), (n xs 2)])] fun x1 =>
.call F.dual_Kind [(c 0 x0)] fun x2 =>
.call F.slices_Clone_string_string [(c 2 x0)] fun x3 =>
.l (.okcs [(1, false), (1, false), (1, false), (1, false)]) [x2, (c 1 x0), x3, x1] fun x4 =>
.ret (.agg [x2, (c 1 x0), x3, x1])
theorem k_dual_Close_2 : TxOk P F.dual_Close_2 3 t_dual_Close_2 := txOk_of (H := {}) (plans := []) hm Tryd.func39 rfl rfl fun xs => by kernel_rfl
def t_dual_mapped_graph_Ref_graph_Ref (xs : List PV) : T PV :=
.l .len [(n xs 0)] fun x0 =>
.loop [(i 0), (.sl [])] fun y1 =>
.l (.cmp .lss .i64) [(n y1 0), x0] fun x2 =>
.ite x2 (
 .l (.idx 2 true) [(n xs 0), (n y1 0)] fun x3 =>
 .l (.okc 2 true) [x3] fun x4 =>
 .callv (n xs 1) [(n y1 0), x4] fun x5 =>
 .l (.lst 2 true) [x5] fun x6 =>
 .l (.app 2 true 16) [(n y1 1), x6] fun x7 =>
 .l (.arith .add .i64) [(n y1 0), (i 1)] fun x8 =>
 .cont 0 [x8, x7]) (
 .ret (n y1 1))
theorem k_dual_mapped_graph_Ref_graph_Ref : TxOk P F.dual_mapped_graph_Ref_graph_Ref 2 t_dual_mapped_graph_Ref_graph_Ref := txOk_of (H := {}) (plans := []) hm Tryd.func40 rfl rfl fun xs => by kernel_rfl
def t_dual_Close_2_1 (xs : List PV) : T PV :=
.l (.okc 2 true) [(n xs 1)] fun x0 =>
.l (.unbox 4 true) [(n xs 2)] fun x1 =>
.call F.dual_rest [(c 0 x1), (n xs 0)] fun x2 =>
.ite x2 (
 .l (.unbox 1 false) [(n xs 3)] fun x3 =>
 .l (.arith .add .i64) [(c 0 x0), x3] fun x4 =>
 .l (.okc 1 false) [x4] fun x5 =>
 .ret (.agg [x5, (c 1 x0)])) (
 .l (.okc 2 true) [x0] fun x3 =>
 .ret x3)
theorem k_dual_Close_2_1 : TxOk P F.dual_Close_2_1 4 t_dual_Close_2_1 := txOk_of (H := {}) (plans := []) hm Tryd.func41 rfl rfl fun xs => by kernel_rfl
def t_dual_rest (xs : List PV) : T PV :=
.l (.cmp .gtr .i64) [(n xs 1), (i 0)] fun x0 =>
.ite x0 (
 .ret (.bool true)) (
 .l (.cmp .eql .i64) [(n xs 0), (i 6)] fun x1 =>
 .ite x1 (
  .ret (.bool true)) (
  .l (.cmp .eql .i64) [(n xs 0), (i 7)] fun x2 =>
  .ret x2))
theorem k_dual_rest : TxOk P F.dual_rest 2 t_dual_rest := txOk_of (H := {}) (plans := []) hm Tryd.func42 rfl rfl fun xs => by kernel_rfl
def t_dual_Kind (xs : List PV) : T PV :=
.l (.cmp .lss .i64) [(n xs 0), (i 1)] fun x0 =>
.ite x0 (
 .ret (n xs 0)) (
 .l (.cmp .geq .i64) [(n xs 0), (i 8)] fun x1 =>
 .ite x1 (
  .ret (n xs 0)) (
  .l (.aidx 8 1 false) [(.agg [(i 0), (i 1), (i 2), (i 3), (i 5), (i 4), (i 7), (i 6)]), (n xs 0)] fun x2 =>
  .ret x2))
theorem k_dual_Kind : TxOk P F.dual_Kind 1 t_dual_Kind := txOk_of (H := {}) (plans := []) hm Tryd.func43 rfl rfl fun xs => by kernel_rfl
-- NOT TOLD: 44 (*duologue/subtype.relation).sub: 1
def u_subtype_relation_sub (xs : List PV) : T PV :=
.l (.okc 2 true) [(n xs 0)] fun x0 =>
.l (.okc 2 true) [(n xs 1)] fun x1 =>
.call F.head_Prio [(.agg [(n xs 2)]), x0] fun x2 =>
.l (.tc 0) [x2] fun x3 =>
.l (.tc 1) [x2] fun x4 =>
.call F.head_Prio [(.agg [(n xs 2)]), x1] fun x5 =>
.l (.tc 0) [x5] fun x6 =>
.l (.tc 1) [x5] fun x7 =>
.call F.head_Kind [(.agg [(n xs 2)]), x0] fun x8 =>
.call F.head_Kind [(.agg [(n xs 2)]), x1] fun x9 =>
.l (.cmp .neq .i64) [x8, x9] fun x10 =>
.ite x10 (
 .ret (.tup [(.bool false), (n xs 2), (n xs 3)])) (
 .l (.cmp .neq .i64) [x3, x6] fun x11 =>
 .ite x11 (
  .ret (.tup [(.bool false), (n xs 2), (n xs 3)])) (
  .l (.arith .sub .i64) [(c 1 x0), (c 1 x1)] fun x12 =>
  .l (.okcs [(1, false), (1, false), (1, false)]) [(c 0 x0), (c 0 x1), x12] fun x13 =>
  .l (.mget true [.i .i64, .i .i64, .i .i64] (.bool false)) [(n xs 3), (.agg [(c 0 x0), (c 0 x1), x12])] fun x14 =>
  .ite x14 (
   .ret (.tup [(.bool true), (n xs 2), (n xs 3)])) (
   .l (.mset true [.i .i64, .i .i64, .i .i64]) [(n xs 3), (.agg [(c 0 x0), (c 0 x1), x12]), (.bool true)] fun x15 =>
   .l (.cmp .eql .i64) [x8, (i 4)] fun x16 =>
   .ite x16 (
    .calls F.subtype_relation_next sg_subtype_relation_next_Dn [x0, x1, (i 0), (i 0), (n xs 2), x15] fun z17 =>
    .ite (n z17 0) (
     .calls F.subtype_relation_next sg_subtype_relation_next_Sb [x0, x1, (i 1), (i 1), (n z17 1), (n z17 2)] fun z18 =>
     .ret (.tup [(n z18 0), (n z18 1), (n z18 2)])) (
     .ret (.tup [(.bool false), (n z17 1), (n z17 2)]))) (
    .l (.cmp .eql .i64) [x8, (i 5)] fun x17 =>
    .ite x17 (
     .calls F.subtype_relation_next sg_subtype_relation_next_Sb [x0, x1, (i 0), (i 0), (n xs 2), x15] fun z18 =>
     .ite (n z18 0) (
      .calls F.subtype_relation_next sg_subtype_relation_next_Sb [x0, x1, (i 1), (i 1), (n z18 1), (n z18 2)] fun z19 =>
      .ret (.tup [(n z19 0), (n z19 1), (n z19 2)])) (
      .ret (.tup [(.bool false), (n z18 1), (n z18 2)]))) (
     .l (.cmp .eql .i64) [x8, (i 6)] fun x18 =>
     .ite x18 (
      .calls F.subtype_relation_labels sg_subtype_relation_labels [x1, x0, x1, (n xs 2), x15] fun z19 =>
      .ret (.tup [(n z19 0), (n z19 1), (n z19 2)])) (
      .l (.cmp .eql .i64) [x8, (i 7)] fun x19 =>
      .ite x19 (
       .calls F.subtype_relation_labels sg_subtype_relation_labels [x0, x0, x1, (n xs 2), x15] fun z20 =>
       .ret (.tup [(n z20 0), (n z20 1), (n z20 2)])) (
       .ret (.tup [(.bool true), (n xs 2), x15]))))))))
theorem m_subtype_relation_sub : TxOkS P F.subtype_relation_sub sg_subtype_relation_sub u_subtype_relation_sub := txOkS_of (H := { wr := [], ro := [], nl := [], fz := [], da := [], sigs := [(2000079, sg_subtype_relation_next_Dn), (73, sg_subtype_relation_next_Sb), (75, sg_subtype_relation_labels), (74, sg_subtype_relation_down), (44, sg_subtype_relation_sub)] }) (plans := []) hm Tryd.func44 rfl fun xs => by kernel_rfl
def t_ref09_Kind (xs : List PV) : T PV :=
.l (.cmp .eql .i64) [(n xs 0), (i 4)] fun x0 =>
.ite x0 (
 .ret (i 5)) (
 .l (.cmp .eql .i64) [(n xs 0), (i 5)] fun x1 =>
 .ite x1 (
  .ret (i 4)) (
  .l (.cmp .eql .i64) [(n xs 0), (i 6)] fun x2 =>
  .ite x2 (
   .ret (i 7)) (
   .l (.cmp .eql .i64) [(n xs 0), (i 7)] fun x3 =>
   .ite x3 (
    .ret (i 6)) (
    .ret (n xs 0)))))
theorem k_ref09_Kind : TxOk P F.ref09_Kind 1 t_ref09_Kind := txOk_of (H := {}) (plans := []) hm Tryd.func45 rfl rfl fun xs => by kernel_rfl
def t_ref11_reached (xs : List PV) : T PV :=
.l (.okc 12 true) [(n xs 0)] fun x0 =>
.l (.lst 12 true) [x0] fun x1 =>
.loop [(i 0), x1] fun y2 =>
.l .len [(n y2 1)] fun x3 =>
.l (.cmp .lss .i64) [(n y2 0), x3] fun x4 =>
.ite x4 (
 .l (.idx 12 true) [(n y2 1), (n y2 0)] fun x5 =>
 .call F.ref11_needs [x5] fun x6 =>
 .l (.tc 0) [x6] fun x7 =>
 .l (.tc 1) [x6] fun x8 =>
 .loop [(i 0), (n y2 1)] fun y9 =>
 .l .len [x7] fun x10 =>
 .l (.cmp .lss .i64) [(n y9 0), x10] fun x11 =>
 .ite x11 (
  .ite x8 (
   .l (.idx 12 true) [x7, (n y9 0)] fun x12 =>
   .call F.ref10_Seen [(n y9 1), x12] fun x13 =>
   .l .bnot [x13] fun x14 =>
   .ite x14 (
    .l (.idx 12 true) [x7, (n y9 0)] fun x15 =>
    .l (.lst 12 true) [x15] fun x16 =>
    .l (.app 12 true 176) [(n y9 1), x16] fun x17 =>
    .l (.arith .add .i64) [(n y9 0), (i 1)] fun x18 =>
    .cont 1 [x18, x17]) (
    .l (.arith .add .i64) [(n y9 0), (i 1)] fun x15 =>
    .cont 1 [x15, (n y9 1)])) (
   .l (.arith .add .i64) [(n y2 0), (i 1)] fun x12 =>
   .cont 0 [x12, (n y9 1)])) (
  .l (.arith .add .i64) [(n y2 0), (i 1)] fun x12 =>
  .cont 0 [x12, (n y9 1)])) (
 .ret (n y2 1))
theorem k_ref11_reached : TxOk P F.ref11_reached 1 t_ref11_reached := txOk_of (H := {}) (plans := []) hm Tryd.func46 rfl rfl fun xs => by kernel_rfl
def t_ref10_Lower (xs : List PV) : T PV :=
.l (.okc 6 true) [(n xs 0)] fun x0 =>
.l (.okc 6 true) [(n xs 1)] fun x1 =>
.call F.ref08_Prio [x0] fun x2 =>
.l (.tc 0) [x2] fun x3 =>
.l (.tc 1) [x2] fun x4 =>
.l (.neg .i64) [x3] fun x5 =>
.call F.ref02_Raise [x0, x5] fun x6 =>
.l (.neg .i64) [x3] fun x7 =>
.call F.ref02_Raise [x1, x7] fun x8 =>
.l (.okcs [(6, true), (6, true)]) [x6, x8] fun x9 =>
.ret (.agg [(c 0 x6), (c 1 x6), (c 2 x6), (c 3 x6), (c 4 x6), (c 5 x6), (c 0 x8), (c 1 x8), (c 2 x8), (c 3 x8), (c 4 x8), (c 5 x8)])
theorem k_ref10_Lower : TxOk P F.ref10_Lower 2 t_ref10_Lower := txOk_of (H := {}) (plans := []) hm Tryd.func47 rfl rfl fun xs => by kernel_rfl
def t_ref11_needs (xs : List PV) : T PV :=
.l (.okc 12 true) [(n xs 0)] fun x0 =>
.call F.ref02_Unfold [(sb 0 6 x0)] fun x1 =>
.l (.okc 6 true) [x1] fun x2 =>
.call F.ref02_Unfold [(sb 6 6 x0)] fun x3 =>
.l (.okc 6 true) [x3] fun x4 =>
.l (.cmp .neq .i64) [(c 0 x2), (c 0 x4)] fun x5 =>
.ite x5 (
 .ret (.tup [(.sl []), (.bool false)])) (
 .l (.cmp .neq .i64) [(c 1 x2), (c 1 x4)] fun x6 =>
 .ite x6 (
  .ret (.tup [(.sl []), (.bool false)])) (
  .l (.cmp .eql .i64) [(c 0 x2), (i 4)] fun x7 =>
  .ite x7 (
   .l (.idx 6 true) [(c 5 x4), (i 0)] fun x8 =>
   .l (.idx 6 true) [(c 5 x2), (i 0)] fun x9 =>
   .call F.ref10_Lower [x8, x9] fun x10 =>
   .l (.idx 6 true) [(c 5 x2), (i 1)] fun x11 =>
   .l (.idx 6 true) [(c 5 x4), (i 1)] fun x12 =>
   .call F.ref10_Lower [x11, x12] fun x13 =>
   .l (.lst 12 true) [x10, x13] fun x14 =>
   .l (.app 12 true 176) [(.sl []), x14] fun x15 =>
   .ret (.tup [x15, (.bool true)])) (
   .l (.cmp .eql .i64) [(c 0 x2), (i 5)] fun x8 =>
   .ite x8 (
    .l (.idx 6 true) [(c 5 x2), (i 0)] fun x9 =>
    .l (.idx 6 true) [(c 5 x4), (i 0)] fun x10 =>
    .call F.ref10_Lower [x9, x10] fun x11 =>
    .l (.idx 6 true) [(c 5 x2), (i 1)] fun x12 =>
    .l (.idx 6 true) [(c 5 x4), (i 1)] fun x13 =>
    .call F.ref10_Lower [x12, x13] fun x14 =>
    .l (.lst 12 true) [x11, x14] fun x15 =>
    .l (.app 12 true 176) [(.sl []), x15] fun x16 =>
    .ret (.tup [x16, (.bool true)])) (
    .l (.cmp .eql .i64) [(c 0 x2), (i 6)] fun x9 =>
    .ite x9 (
     .l (.cmp .eql .i64) [(c 0 x2), (i 7)] fun x10 =>
     .ite x10 (
      .loop [(i 0), (.sl [])] fun y11 =>
      .l .len [(c 4 x2)] fun x12 =>
      .l (.cmp .lss .i64) [(n y11 0), x12] fun x13 =>
      .ite x13 (
       .l (.idx 1 false) [(c 4 x2), (n y11 0)] fun x14 =>
       .call F.ref08_Label [x2, x14] fun x15 =>
       .l (.tc 0) [x15] fun x16 =>
       .l (.tc 1) [x15] fun x17 =>
       .l (.okc 6 true) [x16] fun x18 =>
       .l (.idx 1 false) [(c 4 x2), (n y11 0)] fun x19 =>
       .call F.ref08_Label [x4, x19] fun x20 =>
       .l (.tc 0) [x20] fun x21 =>
       .l (.tc 1) [x20] fun x22 =>
       .l (.okc 6 true) [x21] fun x23 =>
       .l .bnot [x17] fun x24 =>
       .ite x24 (
        .ret (.tup [(.sl []), (.bool false)])) (
        .l .bnot [x22] fun x25 =>
        .ite x25 (
         .ret (.tup [(.sl []), (.bool false)])) (
         .call F.ref10_Lower [x18, x23] fun x26 =>
         .l (.lst 12 true) [x26] fun x27 =>
         .l (.app 12 true 176) [(n y11 1), x27] fun x28 =>
         .l (.arith .add .i64) [(n y11 0), (i 1)] fun x29 =>
         .cont 0 [x29, x28]))) (
       .ret (.tup [(n y11 1), (.bool true)]))) (
      .loop [(i 0), (.sl [])] fun y11 =>
      .l .len [(c 4 x4)] fun x12 =>
      .l (.cmp .lss .i64) [(n y11 0), x12] fun x13 =>
      .ite x13 (
       .l (.idx 1 false) [(c 4 x4), (n y11 0)] fun x14 =>
       .call F.ref08_Label [x2, x14] fun x15 =>
       .l (.tc 0) [x15] fun x16 =>
       .l (.tc 1) [x15] fun x17 =>
       .l (.okc 6 true) [x16] fun x18 =>
       .l (.idx 1 false) [(c 4 x4), (n y11 0)] fun x19 =>
       .call F.ref08_Label [x4, x19] fun x20 =>
       .l (.tc 0) [x20] fun x21 =>
       .l (.tc 1) [x20] fun x22 =>
       .l (.okc 6 true) [x21] fun x23 =>
       .l .bnot [x17] fun x24 =>
       .ite x24 (
        .ret (.tup [(.sl []), (.bool false)])) (
        .l .bnot [x22] fun x25 =>
        .ite x25 (
         .ret (.tup [(.sl []), (.bool false)])) (
         .call F.ref10_Lower [x18, x23] fun x26 =>
         .l (.lst 12 true) [x26] fun x27 =>
         .l (.app 12 true 176) [(n y11 1), x27] fun x28 =>
         .l (.arith .add .i64) [(n y11 0), (i 1)] fun x29 =>
         .cont 0 [x29, x28]))) (
       .ret (.tup [(n y11 1), (.bool true)])))) (
     .l (.cmp .eql .i64) [(c 0 x2), (i 7)] fun x10 =>
     .ite x10 (
      .l (.cmp .eql .i64) [(c 0 x2), (i 7)] fun x11 =>
      .ite x11 (
       .loop [(i 0), (.sl [])] fun y12 =>
       .l .len [(c 4 x2)] fun x13 =>
       .l (.cmp .lss .i64) [(n y12 0), x13] fun x14 =>
       .ite x14 (
        .l (.idx 1 false) [(c 4 x2), (n y12 0)] fun x15 =>
        .call F.ref08_Label [x2, x15] fun x16 =>
        .l (.tc 0) [x16] fun x17 =>
        .l (.tc 1) [x16] fun x18 =>
        .l (.okc 6 true) [x17] fun x19 =>
        .l (.idx 1 false) [(c 4 x2), (n y12 0)] fun x20 =>
        .call F.ref08_Label [x4, x20] fun x21 =>
        .l (.tc 0) [x21] fun x22 =>
        .l (.tc 1) [x21] fun x23 =>
        .l (.okc 6 true) [x22] fun x24 =>
        .l .bnot [x18] fun x25 =>
        .ite x25 (
         .ret (.tup [(.sl []), (.bool false)])) (
         .l .bnot [x23] fun x26 =>
         .ite x26 (
          .ret (.tup [(.sl []), (.bool false)])) (
          .call F.ref10_Lower [x19, x24] fun x27 =>
          .l (.lst 12 true) [x27] fun x28 =>
          .l (.app 12 true 176) [(n y12 1), x28] fun x29 =>
          .l (.arith .add .i64) [(n y12 0), (i 1)] fun x30 =>
          .cont 0 [x30, x29]))) (
        .ret (.tup [(n y12 1), (.bool true)]))) (
       .loop [(i 0), (.sl [])] fun y12 =>
       .l .len [(c 4 x4)] fun x13 =>
       .l (.cmp .lss .i64) [(n y12 0), x13] fun x14 =>
       .ite x14 (
        .l (.idx 1 false) [(c 4 x4), (n y12 0)] fun x15 =>
        .call F.ref08_Label [x2, x15] fun x16 =>
        .l (.tc 0) [x16] fun x17 =>
        .l (.tc 1) [x16] fun x18 =>
        .l (.okc 6 true) [x17] fun x19 =>
        .l (.idx 1 false) [(c 4 x4), (n y12 0)] fun x20 =>
        .call F.ref08_Label [x4, x20] fun x21 =>
        .l (.tc 0) [x21] fun x22 =>
        .l (.tc 1) [x21] fun x23 =>
        .l (.okc 6 true) [x22] fun x24 =>
        .l .bnot [x18] fun x25 =>
        .ite x25 (
         .ret (.tup [(.sl []), (.bool false)])) (
         .l .bnot [x23] fun x26 =>
         .ite x26 (
          .ret (.tup [(.sl []), (.bool false)])) (
          .call F.ref10_Lower [x19, x24] fun x27 =>
          .l (.lst 12 true) [x27] fun x28 =>
          .l (.app 12 true 176) [(n y12 1), x28] fun x29 =>
          .l (.arith .add .i64) [(n y12 0), (i 1)] fun x30 =>
          .cont 0 [x30, x29]))) (
        .ret (.tup [(n y12 1), (.bool true)])))) (
      .ret (.tup [(.sl []), (.bool true)])))))))
theorem k_ref11_needs : TxOk P F.ref11_needs 1 t_ref11_needs := txOk_of (H := {}) (plans := []) hm Tryd.func48 rfl rfl fun xs => by kernel_rfl
def t_ref11_index (xs : List PV) : T PV :=
.l (.okc 12 true) [(n xs 1)] fun x0 =>
.loop [(i 0)] fun y1 =>
.l .len [(n xs 0)] fun x2 =>
.l (.cmp .lss .i64) [(n y1 0), x2] fun x3 =>
.ite x3 (
 .l (.idx 12 true) [(n xs 0), (n y1 0)] fun x4 =>
 .call F.ref02_Same [(sb 0 6 x4), (sb 0 6 x0)] fun x5 =>
 .ite x5 (
  .l (.idx 12 true) [(n xs 0), (n y1 0)] fun x6 =>
  .call F.ref02_Same [(sb 6 6 x6), (sb 6 6 x0)] fun x7 =>
  .ite x7 (
   .ret (n y1 0)) (
   .l (.arith .add .i64) [(n y1 0), (i 1)] fun x8 =>
   .cont 0 [x8])) (
  .l (.arith .add .i64) [(n y1 0), (i 1)] fun x6 =>
  .cont 0 [x6])) (
 .ret (i (-1)))
theorem k_ref11_index : TxOk P F.ref11_index 2 t_ref11_index := txOk_of (H := {}) (plans := []) hm Tryd.func49 rfl rfl fun xs => by kernel_rfl
def t_ref02_Depth (xs : List PV) : T PV :=
.l (.okc 6 true) [(n xs 0)] fun x0 =>
.loop [(i 0), (i 0)] fun y1 =>
.l .len [(c 5 x0)] fun x2 =>
.l (.cmp .lss .i64) [(n y1 0), x2] fun x3 =>
.ite x3 (
 .l (.idx 6 true) [(c 5 x0), (n y1 0)] fun x4 =>
 .call F.ref02_Depth [x4] fun x5 =>
 .l (.mx .i64) [(n y1 1), x5] fun x6 =>
 .l (.arith .add .i64) [(n y1 0), (i 1)] fun x7 =>
 .cont 0 [x7, x6]) (
 .l (.arith .add .i64) [(n y1 1), (i 1)] fun x4 =>
 .ret x4)
theorem k_ref02_Depth : TxOk P F.ref02_Depth 1 t_ref02_Depth := txOk_of (H := {}) (plans := []) hm Tryd.func50 rfl rfl fun xs => by kernel_rfl
def t_ref02_Size (xs : List PV) : T PV :=
.l (.okc 6 true) [(n xs 0)] fun x0 =>
.loop [(i 0), (i 1)] fun y1 =>
.l .len [(c 5 x0)] fun x2 =>
.l (.cmp .lss .i64) [(n y1 0), x2] fun x3 =>
.ite x3 (
 .l (.idx 6 true) [(c 5 x0), (n y1 0)] fun x4 =>
 .call F.ref02_Size [x4] fun x5 =>
 .l (.arith .add .i64) [(n y1 1), x5] fun x6 =>
 .l (.arith .add .i64) [(n y1 0), (i 1)] fun x7 =>
 .cont 0 [x7, x6]) (
 .ret (n y1 1))
theorem k_ref02_Size : TxOk P F.ref02_Size 1 t_ref02_Size := txOk_of (H := {}) (plans := []) hm Tryd.func51 rfl rfl fun xs => by kernel_rfl
def t_ref02_node (xs : List PV) : T PV :=
.l (.okc 6 true) [(n xs 0)] fun x0 =>
.call F.ref02_shape [x0] fun x1 =>
.l .bnot [x1] fun x2 =>
.ite x2 (
 .ret (i 3)) (
 .ite (n xs 3) (
  .call F.ref02_Session [x0] fun x3 =>
  .l .bnot [x3] fun x4 =>
  .ite x4 (
   .ret (i 3)) (
   .l (.cmp .eql .i64) [(c 0 x0), (i 9)] fun x5 =>
   .ite x5 (
    .l .len [(n xs 1)] fun x6 =>
    .l (.arith .sub .i64) [x6, (i 1)] fun x7 =>
    .loop [x7] fun y8 =>
    .l (.cmp .geq .i64) [(n y8 0), (i 0)] fun x9 =>
    .ite x9 (
     .l (.idx 1 false) [(n xs 1), (n y8 0)] fun x10 =>
     .l (.scmp .eql) [x10, (c 2 x0)] fun x11 =>
     .ite x11 (
      .l (.cmp .lss .i64) [(n y8 0), (n xs 2)] fun x12 =>
      .ite x12 (
       .ret (i 0)) (
       .ret (i 3))) (
      .l (.arith .sub .i64) [(n y8 0), (i 1)] fun x12 =>
      .cont 0 [x12])) (
     .ret (i 4))) (
    .l (.cmp .eql .i64) [(c 0 x0), (i 8)] fun x6 =>
    .ite x6 (
     .l (.idx 6 true) [(c 5 x0), (i 0)] fun x7 =>
     .l (.lst 1 false) [] fun x8 =>
     .l (.app 1 false 16) [x8, (n xs 1)] fun x9 =>
     .l (.lst 1 false) [(c 2 x0)] fun x10 =>
     .l (.app 1 false 16) [x9, x10] fun x11 =>
     .call F.ref02_node [x7, x11, (n xs 2), (.bool true)] fun x12 =>
     .ret x12) (
     .loop [(i 0)] fun y7 =>
     .l .len [(c 5 x0)] fun x8 =>
     .l (.cmp .lss .i64) [(n y7 0), x8] fun x9 =>
     .ite x9 (
      .l (.idx 6 true) [(c 5 x0), (n y7 0)] fun x10 =>
      .l .len [(n xs 1)] fun x11 =>
      .l (.cmp .gtr .i64) [(n y7 0), (i 0)] fun x12 =>
      .ite x12 (
       .call F.ref02_node [x10, (n xs 1), x11, (.bool true)] fun x13 =>
       .l (.cmp .neq .i64) [x13, (i 0)] fun x14 =>
       .ite x14 (
        .ret x13) (
        .l (.arith .add .i64) [(n y7 0), (i 1)] fun x15 =>
        .cont 0 [x15])) (
       .l (.cmp .gtr .i64) [(c 0 x0), (i 5)] fun x13 =>
       .call F.ref02_node [x10, (n xs 1), x11, x13] fun x14 =>
       .l (.cmp .neq .i64) [x14, (i 0)] fun x15 =>
       .ite x15 (
        .ret x14) (
        .l (.arith .add .i64) [(n y7 0), (i 1)] fun x16 =>
        .cont 0 [x16]))) (
      .ret (i 0)))))) (
  .l (.cmp .eql .i64) [(c 0 x0), (i 9)] fun x3 =>
  .ite x3 (
   .l .len [(n xs 1)] fun x4 =>
   .l (.arith .sub .i64) [x4, (i 1)] fun x5 =>
   .loop [x5] fun y6 =>
   .l (.cmp .geq .i64) [(n y6 0), (i 0)] fun x7 =>
   .ite x7 (
    .l (.idx 1 false) [(n xs 1), (n y6 0)] fun x8 =>
    .l (.scmp .eql) [x8, (c 2 x0)] fun x9 =>
    .ite x9 (
     .l (.cmp .lss .i64) [(n y6 0), (n xs 2)] fun x10 =>
     .ite x10 (
      .ret (i 0)) (
      .ret (i 3))) (
     .l (.arith .sub .i64) [(n y6 0), (i 1)] fun x10 =>
     .cont 0 [x10])) (
    .ret (i 4))) (
   .l (.cmp .eql .i64) [(c 0 x0), (i 8)] fun x4 =>
   .ite x4 (
    .l (.idx 6 true) [(c 5 x0), (i 0)] fun x5 =>
    .l (.lst 1 false) [] fun x6 =>
    .l (.app 1 false 16) [x6, (n xs 1)] fun x7 =>
    .l (.lst 1 false) [(c 2 x0)] fun x8 =>
    .l (.app 1 false 16) [x7, x8] fun x9 =>
    .call F.ref02_node [x5, x9, (n xs 2), (.bool true)] fun x10 =>
    .ret x10) (
    .loop [(i 0)] fun y5 =>
    .l .len [(c 5 x0)] fun x6 =>
    .l (.cmp .lss .i64) [(n y5 0), x6] fun x7 =>
    .ite x7 (
     .l (.idx 6 true) [(c 5 x0), (n y5 0)] fun x8 =>
     .l .len [(n xs 1)] fun x9 =>
     .l (.cmp .gtr .i64) [(n y5 0), (i 0)] fun x10 =>
     .ite x10 (
      .call F.ref02_node [x8, (n xs 1), x9, (.bool true)] fun x11 =>
      .l (.cmp .neq .i64) [x11, (i 0)] fun x12 =>
      .ite x12 (
       .ret x11) (
       .l (.arith .add .i64) [(n y5 0), (i 1)] fun x13 =>
       .cont 0 [x13])) (
      .l (.cmp .gtr .i64) [(c 0 x0), (i 5)] fun x11 =>
      .call F.ref02_node [x8, (n xs 1), x9, x11] fun x12 =>
      .l (.cmp .neq .i64) [x12, (i 0)] fun x13 =>
      .ite x13 (
       .ret x12) (
       .l (.arith .add .i64) [(n y5 0), (i 1)] fun x14 =>
       .cont 0 [x14]))) (
     .ret (i 0))))))
theorem k_ref02_node : TxOk P F.ref02_node 4 t_ref02_node := txOk_of (H := {}) (plans := []) hm Tryd.func52 rfl rfl fun xs => by kernel_rfl
def t_monitor_Monitor_State (xs : List PV) : T PV :=
.call F.monitor_Monitor_has [(n xs 0), (n xs 1)] fun x0 =>
.l .gnd [x0] fun x1 =>
.l .bnot [x1] fun x2 =>
.ite x2 (
 .ret (.tup [(.agg [(i 0), (i 0), (.str ⟨#[]⟩), (i 0), (.sl []), (.sl [])]), (.bool false)])) (
 .l .notnil [(n xs 0)] fun x3 =>
 .l (.unbox 1 true) [x3] fun x4 =>
 .l (.idx 6 true) [(c 0 x4), (n xs 1)] fun x5 =>
 .call F.typetree_Copy [x5] fun x6 =>
 .l (.okc 6 true) [x6] fun x7 =>
 .ret (.tup [x7, (.bool true)]))
theorem k_monitor_Monitor_State : TxOk P F.monitor_Monitor_State 2 t_monitor_Monitor_State := txOk_of (H := { wr := [], ro := [28, 54, 58, 64], nl := [], fz := [], da := [], sigs := [] }) (plans := []) hm Tryd.func53 rfl rfl fun xs => by kernel_rfl
def u_monitor_Monitor_State (xs : List PV) : T PV :=
.call F.monitor_Monitor_has [(.box (.agg [(n xs 1)])), (n xs 0)] fun x0 =>
.l .gnd [x0] fun x1 =>
.l .bnot [x1] fun x2 =>
.ite x2 (
 .ret (.tup [(.tup [(.agg [(i 0), (i 0), (.str ⟨#[]⟩), (i 0), (.sl []), (.sl [])]), (.bool false)]), (n xs 1)])) (
 .l (.idx 6 true) [(n xs 1), (n xs 0)] fun x3 =>
 .l (.idx 6 true) [(n xs 1), (n xs 0)] fun x4 =>
 .call F.typetree_Copy [x4] fun x5 =>
 .l (.okc 6 true) [x5] fun x6 =>
 .ret (.tup [(.tup [x6, (.bool true)]), (n xs 1)]))
theorem m_monitor_Monitor_State : TxOkS P F.monitor_Monitor_State sg_monitor_Monitor_State u_monitor_Monitor_State := txOkS_of (H := { wr := [], ro := [28, 54, 58, 64], nl := [], fz := [], da := [], sigs := [] }) (plans := []) hm Tryd.func53 rfl fun xs => by kernel_rfl
def t_monitor_Monitor_Len (xs : List PV) : T PV :=
.l (.pnil true) [(n xs 0)] fun x0 =>
.ite x0 (
 .ret (i 0)) (
 .l .notnil [(n xs 0)] fun x1 =>
 .l (.unbox 1 true) [x1] fun x2 =>
 .l .len [(c 0 x2)] fun x3 =>
 .ret x3)
theorem k_monitor_Monitor_Len : TxOk P F.monitor_Monitor_Len 1 t_monitor_Monitor_Len := txOk_of (H := {}) (plans := []) hm Tryd.func54 rfl rfl fun xs => by kernel_rfl
def t_ref14_dual (xs : List PV) : T PV :=
.l (.okc 6 true) [(n xs 0)] fun x0 =>
.calls F.ref02_Raise sg_ref02_Raise [x0, (i 0)] fun z1 =>
.l (.cmp .geq .i64) [(c 0 x0), (i 4)] fun x2 =>
.ite x2 (
 .l (.cmp .leq .i64) [(c 0 x0), (i 7)] fun x3 =>
 .ite x3 (
  .l (.lst 1 false) [(i 5), (i 4), (i 7), (i 6)] fun x4 =>
  .l (.arith .sub .i64) [(c 0 x0), (i 4)] fun x5 =>
  .l (.idx 1 false) [x4, x5] fun x6 =>
  .l (.okc 1 false) [x6] fun x7 =>
  .l (.cmp .eql .i64) [(c 0 x0), (i 8)] fun x8 =>
  .ite x8 (
   .l (.lst 7 true) [] fun x9 =>
   .l (.app 7 true 104) [x9, (n xs 1)] fun x10 =>
   .call F.ref14_closed [x0, (n xs 1)] fun x11 =>
   .l (.okcs [(1, false), (6, true)]) [(c 2 x0), x11] fun x12 =>
   .l (.lst 7 true) [(.agg [(c 2 x0), (c 0 x11), (c 1 x11), (c 2 x11), (c 3 x11), (c 4 x11), (c 5 x11)])] fun x13 =>
   .l (.app 7 true 104) [x10, x13] fun x14 =>
   .loop [(i 0), (n z1 5)] fun y15 =>
   .l .len [(c 5 x0)] fun x16 =>
   .l (.cmp .lss .i64) [(n y15 0), x16] fun x17 =>
   .ite x17 (
    .l (.cmp .eql .i64) [(n y15 0), (i 0)] fun x18 =>
    .ite x18 (
     .l (.cmp .eql .i64) [(c 0 x0), (i 4)] fun x19 =>
     .ite x19 (
      .l (.idx 6 true) [(c 5 x0), (i 0)] fun x20 =>
      .call F.ref14_closed [x20, x14] fun x21 =>
      .l (.idx 6 true) [(n y15 1), (i 0)] fun x22 =>
      .l (.upd 6 true) [(n y15 1), (i 0), x21] fun x23 =>
      .l (.arith .add .i64) [(n y15 0), (i 1)] fun x24 =>
      .cont 0 [x24, x23]) (
      .l (.cmp .eql .i64) [(c 0 x0), (i 5)] fun x20 =>
      .ite x20 (
       .l (.idx 6 true) [(c 5 x0), (i 0)] fun x21 =>
       .call F.ref14_closed [x21, x14] fun x22 =>
       .l (.idx 6 true) [(n y15 1), (i 0)] fun x23 =>
       .l (.upd 6 true) [(n y15 1), (i 0), x22] fun x24 =>
       .l (.arith .add .i64) [(n y15 0), (i 1)] fun x25 =>
       .cont 0 [x25, x24]) (
       .l (.idx 6 true) [(c 5 x0), (n y15 0)] fun x21 =>
       .call F.ref14_dual [x21, x14] fun x22 =>
       .l (.idx 6 true) [(n y15 1), (n y15 0)] fun x23 =>
       .l (.upd 6 true) [(n y15 1), (n y15 0), x22] fun x24 =>
       .l (.arith .add .i64) [(n y15 0), (i 1)] fun x25 =>
       .cont 0 [x25, x24]))) (
     .l (.idx 6 true) [(c 5 x0), (n y15 0)] fun x19 =>
     .call F.ref14_dual [x19, x14] fun x20 =>
     .l (.idx 6 true) [(n y15 1), (n y15 0)] fun x21 =>
     .l (.upd 6 true) [(n y15 1), (n y15 0), x20] fun x22 =>
     .l (.arith .add .i64) [(n y15 0), (i 1)] fun x23 =>
     .cont 0 [x23, x22])) (
    .ret (.agg [x7, (n z1 1), (n z1 2), (n z1 3), (n z1 4), (n y15 1)]))) (
   .loop [(i 0), (n z1 5)] fun y9 =>
   .l .len [(c 5 x0)] fun x10 =>
   .l (.cmp .lss .i64) [(n y9 0), x10] fun x11 =>
   .ite x11 (
    .l (.cmp .eql .i64) [(n y9 0), (i 0)] fun x12 =>
    .ite x12 (
     .l (.cmp .eql .i64) [(c 0 x0), (i 4)] fun x13 =>
     .ite x13 (
      .l (.idx 6 true) [(c 5 x0), (i 0)] fun x14 =>
      .call F.ref14_closed [x14, (n xs 1)] fun x15 =>
      .l (.idx 6 true) [(n y9 1), (i 0)] fun x16 =>
      .l (.upd 6 true) [(n y9 1), (i 0), x15] fun x17 =>
      .l (.arith .add .i64) [(n y9 0), (i 1)] fun x18 =>
      .cont 0 [x18, x17]) (
      .l (.cmp .eql .i64) [(c 0 x0), (i 5)] fun x14 =>
      .ite x14 (
       .l (.idx 6 true) [(c 5 x0), (i 0)] fun x15 =>
       .call F.ref14_closed [x15, (n xs 1)] fun x16 =>
       .l (.idx 6 true) [(n y9 1), (i 0)] fun x17 =>
       .l (.upd 6 true) [(n y9 1), (i 0), x16] fun x18 =>
       .l (.arith .add .i64) [(n y9 0), (i 1)] fun x19 =>
       .cont 0 [x19, x18]) (
       .l (.idx 6 true) [(c 5 x0), (n y9 0)] fun x15 =>
       .call F.ref14_dual [x15, (n xs 1)] fun x16 =>
       .l (.idx 6 true) [(n y9 1), (n y9 0)] fun x17 =>
       .l (.upd 6 true) [(n y9 1), (n y9 0), x16] fun x18 =>
       .l (.arith .add .i64) [(n y9 0), (i 1)] fun x19 =>
       .cont 0 [x19, x18]))) (
     .l (.idx 6 true) [(c 5 x0), (n y9 0)] fun x13 =>
     .call F.ref14_dual [x13, (n xs 1)] fun x14 =>
     .l (.idx 6 true) [(n y9 1), (n y9 0)] fun x15 =>
     .l (.upd 6 true) [(n y9 1), (n y9 0), x14] fun x16 =>
     .l (.arith .add .i64) [(n y9 0), (i 1)] fun x17 =>
     .cont 0 [x17, x16])) (
    .ret (.agg [x7, (n z1 1), (n z1 2), (n z1 3), (n z1 4), (n y9 1)])))) (
  .l (.cmp .eql .i64) [(c 0 x0), (i 8)] fun x4 =>
  .ite x4 (
   .l (.lst 7 true) [] fun x5 =>
   .l (.app 7 true 104) [x5, (n xs 1)] fun x6 =>
   .call F.ref14_closed [x0, (n xs 1)] fun x7 =>
   .l (.okcs [(1, false), (6, true)]) [(c 2 x0), x7] fun x8 =>
   .l (.lst 7 true) [(.agg [(c 2 x0), (c 0 x7), (c 1 x7), (c 2 x7), (c 3 x7), (c 4 x7), (c 5 x7)])] fun x9 =>
   .l (.app 7 true 104) [x6, x9] fun x10 =>
   .loop [(i 0), (n z1 5)] fun y11 =>
   .l .len [(c 5 x0)] fun x12 =>
   .l (.cmp .lss .i64) [(n y11 0), x12] fun x13 =>
   .ite x13 (
    .l (.cmp .eql .i64) [(n y11 0), (i 0)] fun x14 =>
    .ite x14 (
     .l (.cmp .eql .i64) [(c 0 x0), (i 4)] fun x15 =>
     .ite x15 (
      .l (.idx 6 true) [(c 5 x0), (i 0)] fun x16 =>
      .call F.ref14_closed [x16, x10] fun x17 =>
      .l (.idx 6 true) [(n y11 1), (i 0)] fun x18 =>
      .l (.upd 6 true) [(n y11 1), (i 0), x17] fun x19 =>
      .l (.arith .add .i64) [(n y11 0), (i 1)] fun x20 =>
      .cont 0 [x20, x19]) (
      .l (.cmp .eql .i64) [(c 0 x0), (i 5)] fun x16 =>
      .ite x16 (
       .l (.idx 6 true) [(c 5 x0), (i 0)] fun x17 =>
       .call F.ref14_closed [x17, x10] fun x18 =>
       .l (.idx 6 true) [(n y11 1), (i 0)] fun x19 =>
       .l (.upd 6 true) [(n y11 1), (i 0), x18] fun x20 =>
       .l (.arith .add .i64) [(n y11 0), (i 1)] fun x21 =>
       .cont 0 [x21, x20]) (
       .l (.idx 6 true) [(c 5 x0), (n y11 0)] fun x17 =>
       .call F.ref14_dual [x17, x10] fun x18 =>
       .l (.idx 6 true) [(n y11 1), (n y11 0)] fun x19 =>
       .l (.upd 6 true) [(n y11 1), (n y11 0), x18] fun x20 =>
       .l (.arith .add .i64) [(n y11 0), (i 1)] fun x21 =>
       .cont 0 [x21, x20]))) (
     .l (.idx 6 true) [(c 5 x0), (n y11 0)] fun x15 =>
     .call F.ref14_dual [x15, x10] fun x16 =>
     .l (.idx 6 true) [(n y11 1), (n y11 0)] fun x17 =>
     .l (.upd 6 true) [(n y11 1), (n y11 0), x16] fun x18 =>
     .l (.arith .add .i64) [(n y11 0), (i 1)] fun x19 =>
     .cont 0 [x19, x18])) (
    .ret (.agg [(n z1 0), (n z1 1), (n z1 2), (n z1 3), (n z1 4), (n y11 1)]))) (
   .loop [(i 0), (n z1 5)] fun y5 =>
   .l .len [(c 5 x0)] fun x6 =>
   .l (.cmp .lss .i64) [(n y5 0), x6] fun x7 =>
   .ite x7 (
    .l (.cmp .eql .i64) [(n y5 0), (i 0)] fun x8 =>
    .ite x8 (
     .l (.cmp .eql .i64) [(c 0 x0), (i 4)] fun x9 =>
     .ite x9 (
      .l (.idx 6 true) [(c 5 x0), (i 0)] fun x10 =>
      .call F.ref14_closed [x10, (n xs 1)] fun x11 =>
      .l (.idx 6 true) [(n y5 1), (i 0)] fun x12 =>
      .l (.upd 6 true) [(n y5 1), (i 0), x11] fun x13 =>
      .l (.arith .add .i64) [(n y5 0), (i 1)] fun x14 =>
      .cont 0 [x14, x13]) (
      .l (.cmp .eql .i64) [(c 0 x0), (i 5)] fun x10 =>
      .ite x10 (
       .l (.idx 6 true) [(c 5 x0), (i 0)] fun x11 =>
       .call F.ref14_closed [x11, (n xs 1)] fun x12 =>
       .l (.idx 6 true) [(n y5 1), (i 0)] fun x13 =>
       .l (.upd 6 true) [(n y5 1), (i 0), x12] fun x14 =>
       .l (.arith .add .i64) [(n y5 0), (i 1)] fun x15 =>
       .cont 0 [x15, x14]) (
       .l (.idx 6 true) [(c 5 x0), (n y5 0)] fun x11 =>
       .call F.ref14_dual [x11, (n xs 1)] fun x12 =>
       .l (.idx 6 true) [(n y5 1), (n y5 0)] fun x13 =>
       .l (.upd 6 true) [(n y5 1), (n y5 0), x12] fun x14 =>
       .l (.arith .add .i64) [(n y5 0), (i 1)] fun x15 =>
       .cont 0 [x15, x14]))) (
     .l (.idx 6 true) [(c 5 x0), (n y5 0)] fun x9 =>
     .call F.ref14_dual [x9, (n xs 1)] fun x10 =>
     .l (.idx 6 true) [(n y5 1), (n y5 0)] fun x11 =>
     .l (.upd 6 true) [(n y5 1), (n y5 0), x10] fun x12 =>
     .l (.arith .add .i64) [(n y5 0), (i 1)] fun x13 =>
     .cont 0 [x13, x12])) (
    .ret (.agg [(n z1 0), (n z1 1), (n z1 2), (n z1 3), (n z1 4), (n y5 1)]))))) (
 .l (.cmp .eql .i64) [(c 0 x0), (i 8)] fun x3 =>
 .ite x3 (
  .l (.lst 7 true) [] fun x4 =>
  .l (.app 7 true 104) [x4, (n xs 1)] fun x5 =>
  .call F.ref14_closed [x0, (n xs 1)] fun x6 =>
  .l (.okcs [(1, false), (6, true)]) [(c 2 x0), x6] fun x7 =>
  .l (.lst 7 true) [(.agg [(c 2 x0), (c 0 x6), (c 1 x6), (c 2 x6), (c 3 x6), (c 4 x6), (c 5 x6)])] fun x8 =>
  .l (.app 7 true 104) [x5, x8] fun x9 =>
  .loop [(i 0), (n z1 5)] fun y10 =>
  .l .len [(c 5 x0)] fun x11 =>
  .l (.cmp .lss .i64) [(n y10 0), x11] fun x12 =>
  .ite x12 (
   .l (.cmp .eql .i64) [(n y10 0), (i 0)] fun x13 =>
   .ite x13 (
    .l (.cmp .eql .i64) [(c 0 x0), (i 4)] fun x14 =>
    .ite x14 (
     .l (.idx 6 true) [(c 5 x0), (i 0)] fun x15 =>
     .call F.ref14_closed [x15, x9] fun x16 =>
     .l (.idx 6 true) [(n y10 1), (i 0)] fun x17 =>
     .l (.upd 6 true) [(n y10 1), (i 0), x16] fun x18 =>
     .l (.arith .add .i64) [(n y10 0), (i 1)] fun x19 =>
     .cont 0 [x19, x18]) (
     .l (.cmp .eql .i64) [(c 0 x0), (i 5)] fun x15 =>
     .ite x15 (
      .l (.idx 6 true) [(c 5 x0), (i 0)] fun x16 =>
      .call F.ref14_closed [x16, x9] fun x17 =>
      .l (.idx 6 true) [(n y10 1), (i 0)] fun x18 =>
      .l (.upd 6 true) [(n y10 1), (i 0), x17] fun x19 =>
      .l (.arith .add .i64) [(n y10 0), (i 1)] fun x20 =>
      .cont 0 [x20, x19]) (
      .l (.idx 6 true) [(c 5 x0), (n y10 0)] fun x16 =>
      .call F.ref14_dual [x16, x9] fun x17 =>
      .l (.idx 6 true) [(n y10 1), (n y10 0)] fun x18 =>
      .l (.upd 6 true) [(n y10 1), (n y10 0), x17] fun x19 =>
      .l (.arith .add .i64) [(n y10 0), (i 1)] fun x20 =>
      .cont 0 [x20, x19]))) (
    .l (.idx 6 true) [(c 5 x0), (n y10 0)] fun x14 =>
    .call F.ref14_dual [x14, x9] fun x15 =>
    .l (.idx 6 true) [(n y10 1), (n y10 0)] fun x16 =>
    .l (.upd 6 true) [(n y10 1), (n y10 0), x15] fun x17 =>
    .l (.arith .add .i64) [(n y10 0), (i 1)] fun x18 =>
    .cont 0 [x18, x17])) (
   .ret (.agg [(n z1 0), (n z1 1), (n z1 2), (n z1 3), (n z1 4), (n y10 1)]))) (
  .loop [(i 0), (n z1 5)] fun y4 =>
  .l .len [(c 5 x0)] fun x5 =>
  .l (.cmp .lss .i64) [(n y4 0), x5] fun x6 =>
  .ite x6 (
   .l (.cmp .eql .i64) [(n y4 0), (i 0)] fun x7 =>
   .ite x7 (
    .l (.cmp .eql .i64) [(c 0 x0), (i 4)] fun x8 =>
    .ite x8 (
     .l (.idx 6 true) [(c 5 x0), (i 0)] fun x9 =>
     .call F.ref14_closed [x9, (n xs 1)] fun x10 =>
     .l (.idx 6 true) [(n y4 1), (i 0)] fun x11 =>
     .l (.upd 6 true) [(n y4 1), (i 0), x10] fun x12 =>
     .l (.arith .add .i64) [(n y4 0), (i 1)] fun x13 =>
     .cont 0 [x13, x12]) (
     .l (.cmp .eql .i64) [(c 0 x0), (i 5)] fun x9 =>
     .ite x9 (
      .l (.idx 6 true) [(c 5 x0), (i 0)] fun x10 =>
      .call F.ref14_closed [x10, (n xs 1)] fun x11 =>
      .l (.idx 6 true) [(n y4 1), (i 0)] fun x12 =>
      .l (.upd 6 true) [(n y4 1), (i 0), x11] fun x13 =>
      .l (.arith .add .i64) [(n y4 0), (i 1)] fun x14 =>
      .cont 0 [x14, x13]) (
      .l (.idx 6 true) [(c 5 x0), (n y4 0)] fun x10 =>
      .call F.ref14_dual [x10, (n xs 1)] fun x11 =>
      .l (.idx 6 true) [(n y4 1), (n y4 0)] fun x12 =>
      .l (.upd 6 true) [(n y4 1), (n y4 0), x11] fun x13 =>
      .l (.arith .add .i64) [(n y4 0), (i 1)] fun x14 =>
      .cont 0 [x14, x13]))) (
    .l (.idx 6 true) [(c 5 x0), (n y4 0)] fun x8 =>
    .call F.ref14_dual [x8, (n xs 1)] fun x9 =>
    .l (.idx 6 true) [(n y4 1), (n y4 0)] fun x10 =>
    .l (.upd 6 true) [(n y4 1), (n y4 0), x9] fun x11 =>
    .l (.arith .add .i64) [(n y4 0), (i 1)] fun x12 =>
    .cont 0 [x12, x11])) (
   .ret (.agg [(n z1 0), (n z1 1), (n z1 2), (n z1 3), (n z1 4), (n y4 1)]))))
theorem k_ref14_dual : TxOk P F.ref14_dual 2 t_ref14_dual := txOk_of (H := { wr := [], ro := [], nl := [], fz := [], da := [], sigs := [(19, sg_ref02_Raise)] }) (plans := []) hm Tryd.func55 rfl rfl fun xs => by kernel_rfl
-- NOT TOLD: 56 (*duologue/monitor.Monitor).Add: 1
def u_monitor_Monitor_Add (xs : List PV) : T PV :=
.l .len [(n xs 0)] fun x0 =>
.loop [(i 0), (n xs 1)] fun y1 =>
.l (.cmp .lss .i64) [(n y1 0), x0] fun x2 =>
.ite x2 (
 .l (.idx 6 true) [(n xs 0), (n y1 0)] fun x3 =>
 .l (.okc 6 true) [x3] fun x4 =>
 .call F.typetree_Unfold [x4] fun x5 =>
 .l .len [(n y1 1)] fun x6 =>
 .l (.lst 6 true) [(.agg [(i 0), (i 0), (.str ⟨#[]⟩), (i 0), (.sl []), (.sl [])])] fun x7 =>
 .l (.app 6 true 88) [(n y1 1), x7] fun x8 =>
 .l (.idx 6 true) [x8, x6] fun x9 =>
 .l (.upd 6 true) [x8, x6, x5] fun x10 =>
 .l (.arith .add .i64) [(n y1 0), (i 1)] fun x11 =>
 .cont 0 [x11, x10]) (
 .ret (.tup [(.tup []), (n y1 1)]))
theorem m_monitor_Monitor_Add : TxOkS P F.monitor_Monitor_Add sg_monitor_Monitor_Add u_monitor_Monitor_Add := txOkS_of (H := { wr := [0, 1, 2, 3, 4, 5, 6, 7, 8, 9, 10, 11, 12, 13, 14, 15, 16, 17, 18, 19, 20, 21, 22, 23, 24, 25, 26, 27, 28, 29, 30, 31, 32, 33, 34, 35, 36, 37, 38, 39, 40, 41, 42, 43, 44, 45, 46, 47, 48, 49, 50, 51, 52, 53, 54, 55, 56, 57, 58, 59, 60, 61, 62, 63, 64, 65, 66, 67, 68, 69, 70, 71, 72, 73, 74, 75, 76, 77, 78, 79, 80, 81, 82, 83, 84, 85, 86, 87, 88, 89, 90, 91, 92, 93, 94, 95, 96, 97, 98, 99], ro := [], nl := [], fz := [], da := [], sigs := [] }) (plans := []) hm Tryd.func56 rfl fun xs => by kernel_rfl
def t_ref02_Unfold (xs : List PV) : T PV :=
.l (.okc 6 true) [(n xs 0)] fun x0 =>
.l (.cmp .eql .i64) [(c 0 x0), (i 8)] fun x1 =>
.ite x1 (
 .l (.idx 6 true) [(c 5 x0), (i 0)] fun x2 =>
 .call F.ref02_put [x2, (c 2 x0), x0] fun x3 =>
 .call F.ref02_Unfold [x3] fun x4 =>
 .l (.okc 6 true) [x4] fun x5 =>
 .ret x5) (
 .call F.ref02_Raise [x0, (i 0)] fun x2 =>
 .l (.okc 6 true) [x2] fun x3 =>
 .ret x3)
theorem k_ref02_Unfold : TxOk P F.ref02_Unfold 1 t_ref02_Unfold := txOk_of (H := {}) (plans := []) hm Tryd.func57 rfl rfl fun xs => by kernel_rfl
def t_monitor_Monitor_has (xs : List PV) : T PV :=
.l (.pnil false) [(n xs 0)] fun x0 =>
.ite x0 (
 .l (.cmp .geq .i64) [(n xs 1), (i 0)] fun x1 =>
 .ite x1 (
  .l .notnil [(n xs 0)] fun x2 =>
  .l (.unbox 1 true) [x2] fun x3 =>
  .l .len [(c 0 x3)] fun x4 =>
  .l (.cmp .lss .i64) [(n xs 1), x4] fun x5 =>
  .ret x5) (
  .ret (.bool false))) (
 .ret (.bool false))
theorem k_monitor_Monitor_has : TxOk P F.monitor_Monitor_has 2 t_monitor_Monitor_has := txOk_of (H := {}) (plans := []) hm Tryd.func58 rfl rfl fun xs => by kernel_rfl
-- NOT TOLD: 59 duologue/monitor.want: 1
def t_slices_Index_string_string (xs : List PV) : T PV :=
.l .len [(n xs 0)] fun x0 =>
.loop [(i 0)] fun y1 =>
.l (.cmp .lss .i64) [(n y1 0), x0] fun x2 =>
.ite x2 (
 .l (.idx 1 false) [(n xs 0), (n y1 0)] fun x3 =>
 .l (.scmp .eql) [(n xs 1), x3] fun x4 =>
 .ite x4 (
  .ret (n y1 0)) (
  .l (.arith .add .i64) [(n y1 0), (i 1)] fun x5 =>
  .cont 0 [x5])) (
 .ret (i (-1)))
theorem k_slices_Index_string_string : TxOk P F.slices_Index_string_string 2 t_slices_Index_string_string := txOk_of (H := {}) (plans := []) hm Tryd.func60 rfl rfl fun xs => by kernel_rfl
def t_monitor_fits (xs : List PV) : T PV :=
.l (.okc 3 true) [(n xs 0)] fun x0 =>
.l (.okc 6 true) [(n xs 1)] fun x1 =>
.call F.monitor_values [] fun x2 =>
.l (.mget2 false [.i .i64] (i 0)) [x2, (c 0 x1)] fun x3 =>
.l (.tc 0) [x3] fun x4 =>
.l (.tc 1) [x3] fun x5 =>
.l .bnot [x5] fun x6 =>
.ite x6 (
 .l (.cmp .eql .i64) [(c 0 x0), (i 1)] fun x7 =>
 .ret x7) (
 .l (.cmp .eql .i64) [(c 0 x0), x4] fun x7 =>
 .ret x7)
theorem k_monitor_fits : TxOk P F.monitor_fits 2 t_monitor_fits := txOk_of (H := {}) (plans := []) hm Tryd.func61 rfl rfl fun xs => by kernel_rfl
def t_typetree_Unfold (xs : List PV) : T PV :=
.l (.okc 6 true) [(n xs 0)] fun x0 =>
.loop [x0] fun y1 =>
.l (.cmp .eql .i64) [(c 0 (n y1 0)), (i 8)] fun x2 =>
.ite x2 (
 .l .len [(c 5 (n y1 0))] fun x3 =>
 .l (.cmp .eql .i64) [x3, (i 1)] fun x4 =>
 .ite x4 (
  .l (.idx 6 true) [(c 5 (n y1 0)), (i 0)] fun x5 =>
  .call F.typetree_replace [x5, (c 2 (n y1 0)), (n y1 0)] fun x6 =>
  .l (.okc 6 true) [x6] fun x7 =>
  .cont 0 [x7]) (
  .call F.typetree_Copy [(n y1 0)] fun x5 =>
  .l (.okc 6 true) [x5] fun x6 =>
  .ret x6)) (
 .call F.typetree_Copy [(n y1 0)] fun x3 =>
 .l (.okc 6 true) [x3] fun x4 =>
 .ret x4)
theorem k_typetree_Unfold : TxOk P F.typetree_Unfold 1 t_typetree_Unfold := txOk_of (H := {}) (plans := []) hm Tryd.func62 rfl rfl fun xs => by kernel_rfl
def t_slices_ContainsFunc_api_Type_api_Type (xs : List PV) : T PV :=
.call F.slices_IndexFunc_api_Type_api_Type [(n xs 0), (n xs 1)] fun x0 =>
.l (.cmp .geq .i64) [x0, (i 0)] fun x1 =>
.ret x1
theorem k_slices_ContainsFunc_api_Type_api_Type : TxOk P F.slices_ContainsFunc_api_Type_api_Type 2 t_slices_ContainsFunc_api_Type_api_Type := txOk_of (H := {}) (plans := []) hm Tryd.func63 rfl rfl fun xs => by kernel_rfl
def t_monitor_Monitor_Settled_1 (xs : List PV) : T PV :=
.l (.okc 6 true) [(n xs 0)] fun x0 =>
.l (.cmp .neq .i64) [(c 0 x0), (i 3)] fun x1 =>
.ret x1
theorem k_monitor_Monitor_Settled_1 : TxOk P F.monitor_Monitor_Settled_1 1 t_monitor_Monitor_Settled_1 := txOk_of (H := {}) (plans := []) hm Tryd.func64 rfl rfl fun xs => by kernel_rfl
def t_ref02_texts (xs : List PV) : T PV :=
.l .len [(n xs 0)] fun x0 =>
.l .len [(n xs 1)] fun x1 =>
.l (.cmp .neq .i64) [x0, x1] fun x2 =>
.ite x2 (
 .ret (.bool false)) (
 .loop [(i 0)] fun y3 =>
 .l .len [(n xs 0)] fun x4 =>
 .l (.cmp .lss .i64) [(n y3 0), x4] fun x5 =>
 .ite x5 (
  .l (.idx 1 false) [(n xs 0), (n y3 0)] fun x6 =>
  .l (.idx 1 false) [(n xs 1), (n y3 0)] fun x7 =>
  .l (.scmp .neq) [x6, x7] fun x8 =>
  .ite x8 (
   .ret (.bool false)) (
   .l (.arith .add .i64) [(n y3 0), (i 1)] fun x9 =>
   .cont 0 [x9])) (
  .ret (.bool true)))
theorem k_ref02_texts : TxOk P F.ref02_texts 2 t_ref02_texts := txOk_of (H := {}) (plans := []) hm Tryd.func65 rfl rfl fun xs => by kernel_rfl
def t_equal_Equal_1 (xs : List PV) : T PV :=
.l (.okc 2 true) [(n xs 0)] fun x0 =>
.l (.okc 2 true) [(n xs 1)] fun x1 =>
.l (.unbox 1 true) [(n xs 2)] fun x2 =>
.call F.head_Prio [x2, x0] fun x3 =>
.l (.tc 0) [x3] fun x4 =>
.l (.tc 1) [x3] fun x5 =>
.l (.unbox 1 true) [(n xs 2)] fun x6 =>
.call F.head_Prio [x6, x1] fun x7 =>
.l (.tc 0) [x7] fun x8 =>
.l (.tc 1) [x7] fun x9 =>
.l (.cmp .eql .i64) [x4, x8] fun x10 =>
.ret x10
theorem k_equal_Equal_1 : TxOk P F.equal_Equal_1 3 t_equal_Equal_1 := txOk_of (H := {}) (plans := []) hm Tryd.func66 rfl rfl fun xs => by kernel_rfl
def t_head_Prio (xs : List PV) : T PV :=
.l (.okc 1 true) [(n xs 0)] fun x0 =>
.l (.okc 2 true) [(n xs 1)] fun x1 =>
.l (.idx 4 true) [(c 0 x0), (c 0 x1)] fun x2 =>
.l (.okc 4 true) [x2] fun x3 =>
.call F.head_action [(c 0 x3)] fun x4 =>
.l .bnot [x4] fun x5 =>
.ite x5 (
 .ret (.tup [(i 0), (.bool false)])) (
 .l (.arith .add .i64) [(c 1 x3), (c 1 x1)] fun x6 =>
 .ret (.tup [x6, (.bool true)]))
theorem k_head_Prio : TxOk P F.head_Prio 2 t_head_Prio := txOk_of (H := {}) (plans := []) hm Tryd.func67 rfl rfl fun xs => by kernel_rfl
-- NOT TOLD: 68 (*duologue/equal.comparison).equal: 1
def u_equal_comparison_equal (xs : List PV) : T PV :=
.l (.okc 2 true) [(n xs 0)] fun x0 =>
.l (.okc 2 true) [(n xs 1)] fun x1 =>
.l (.idx 4 true) [(n xs 2), (c 0 x0)] fun x2 =>
.l (.idx 4 true) [(n xs 2), (c 0 x1)] fun x3 =>
.l (.okc 4 true) [x2] fun x4 =>
.l (.okc 4 true) [x3] fun x5 =>
.l (.cmp .neq .i64) [(c 0 x4), (c 0 x5)] fun x6 =>
.ite x6 (
 .ret (.tup [(.bool false), (n xs 2), (n xs 3), (n xs 4), (n xs 5)])) (
 .l .len [(c 2 x4)] fun x7 =>
 .l .len [(c 2 x5)] fun x8 =>
 .l (.cmp .neq .i64) [x7, x8] fun x9 =>
 .ite x9 (
  .ret (.tup [(.bool false), (n xs 2), (n xs 3), (n xs 4), (n xs 5)])) (
  .callv (n xs 3) [x0, x1] fun x10 =>
  .l .bnot [x10] fun x11 =>
  .ite x11 (
   .ret (.tup [(.bool false), (n xs 2), (n xs 3), (n xs 4), (n xs 5)])) (
   .call F.equal_comparison_key [(.box (.agg [(n xs 2), (n xs 5), (n xs 3), (n xs 4)])), x0, x1] fun x12 =>
   .l .gnd [x12] fun x13 =>
   .l (.mget true [.i .i64, .i .i64, .i .i64] (.bool false)) [(n xs 5), x13] fun x14 =>
   .ite x14 (
    .ret (.tup [(.bool true), (n xs 2), (n xs 3), (n xs 4), (n xs 5)])) (
    .call F.equal_comparison_key [(.box (.agg [(n xs 2), (n xs 5), (n xs 3), (n xs 4)])), x0, x1] fun x15 =>
    .l .gnd [x15] fun x16 =>
    .l (.mset true [.i .i64, .i .i64, .i .i64]) [(n xs 5), x16, (.bool true)] fun x17 =>
    .l .len [(c 3 x4)] fun x18 =>
    .loop [(i 0), (n xs 2), x17, (n xs 3), (n xs 4)] fun y19 =>
    .l (.cmp .lss .i64) [(n y19 0), x18] fun x20 =>
    .ite x20 (
     .l .len [(c 2 x4)] fun x21 =>
     .l (.cmp .gtr .i64) [x21, (i 0)] fun x22 =>
     .ite x22 (
      .l (.idx 1 false) [(c 2 x4), (n y19 0)] fun x23 =>
      .call F.slices_Index_string_string [(c 2 x5), x23] fun x24 =>
      .call F.head_Next [(.agg [(n y19 1)]), x0, (n y19 0)] fun x25 =>
      .l (.tc 0) [x25] fun x26 =>
      .l (.tc 1) [x25] fun x27 =>
      .l (.okc 2 true) [x26] fun x28 =>
      .call F.head_Next [(.agg [(n y19 1)]), x1, x24] fun x29 =>
      .l (.tc 0) [x29] fun x30 =>
      .l (.tc 1) [x29] fun x31 =>
      .l (.okc 2 true) [x30] fun x32 =>
      .l .bnot [x31] fun x33 =>
      .ite x33 (
       .ret (.tup [(.bool false), (n y19 1), (n y19 3), (n y19 4), (n y19 2)])) (
       .calls F.equal_comparison_equal sg_equal_comparison_equal [x28, x32, (n y19 1), (n y19 3), (n y19 4), (n y19 2)] fun z34 =>
       .l .bnot [(n z34 0)] fun x35 =>
       .ite x35 (
        .ret (.tup [(.bool false), (n z34 1), (n z34 2), (n z34 3), (n z34 4)])) (
        .l (.arith .add .i64) [(n y19 0), (i 1)] fun x36 =>
        .cont 0 [x36, (n z34 1), (n z34 4), (n z34 2), (n z34 3)]))) (
      .call F.head_Next [(.agg [(n y19 1)]), x0, (n y19 0)] fun x23 =>
      .l (.tc 0) [x23] fun x24 =>
      .l (.tc 1) [x23] fun x25 =>
      .l (.okc 2 true) [x24] fun x26 =>
      .call F.head_Next [(.agg [(n y19 1)]), x1, (n y19 0)] fun x27 =>
      .l (.tc 0) [x27] fun x28 =>
      .l (.tc 1) [x27] fun x29 =>
      .l (.okc 2 true) [x28] fun x30 =>
      .l .bnot [x29] fun x31 =>
      .ite x31 (
       .ret (.tup [(.bool false), (n y19 1), (n y19 3), (n y19 4), (n y19 2)])) (
       .calls F.equal_comparison_equal sg_equal_comparison_equal [x26, x30, (n y19 1), (n y19 3), (n y19 4), (n y19 2)] fun z32 =>
       .l .bnot [(n z32 0)] fun x33 =>
       .ite x33 (
        .ret (.tup [(.bool false), (n z32 1), (n z32 2), (n z32 3), (n z32 4)])) (
        .l (.arith .add .i64) [(n y19 0), (i 1)] fun x34 =>
        .cont 0 [x34, (n z32 1), (n z32 4), (n z32 2), (n z32 3)])))) (
     .ret (.tup [(.bool true), (n y19 1), (n y19 3), (n y19 4), (n y19 2)]))))))
theorem m_equal_comparison_equal : TxOkS P F.equal_comparison_equal sg_equal_comparison_equal u_equal_comparison_equal := txOkS_of (H := { wr := [], ro := [87], nl := [], fz := [], da := [], sigs := [(68, sg_equal_comparison_equal)] }) (plans := []) hm Tryd.func68 rfl fun xs => by kernel_rfl
def t_ref02_count (xs : List PV) : T PV :=
.l (.okc 6 true) [(n xs 0)] fun x0 =>
.l (.arith .sub .i64) [(n xs 1), (i 1)] fun x1 =>
.loop [(i 0), x1] fun y2 =>
.l .len [(c 5 x0)] fun x3 =>
.l (.cmp .lss .i64) [(n y2 0), x3] fun x4 =>
.ite x4 (
 .l (.cmp .geq .i64) [(n y2 1), (i 0)] fun x5 =>
 .ite x5 (
  .l (.idx 6 true) [(c 5 x0), (n y2 0)] fun x6 =>
  .call F.ref02_count [x6, (n y2 1)] fun x7 =>
  .l (.arith .add .i64) [(n y2 0), (i 1)] fun x8 =>
  .cont 0 [x8, x7]) (
  .ret (n y2 1))) (
 .ret (n y2 1))
theorem k_ref02_count : TxOk P F.ref02_count 2 t_ref02_count := txOk_of (H := {}) (plans := []) hm Tryd.func69 rfl rfl fun xs => by kernel_rfl
def t_ref07_reference (xs : List PV) : T PV :=
.l (.okc 6 true) [(n xs 0)] fun x0 =>
.l (.cmp .eql .i64) [(c 0 x0), (i 8)] fun x1 =>
.ite x1 (
 .l (.idx 6 true) [(c 5 x0), (i 0)] fun x2 =>
 .call F.ref07_reference [x2, (n xs 1), (n xs 2), (n xs 3)] fun x3 =>
 .l (.okc 2 true) [x3] fun x4 =>
 .ret x4) (
 .l (.cmp .eql .i64) [(c 0 x0), (i 9)] fun x2 =>
 .ite x2 (
  .l .len [(n xs 2)] fun x3 =>
  .l (.arith .sub .i64) [x3, (i 1)] fun x4 =>
  .loop [x4] fun y5 =>
  .l (.cmp .geq .i64) [(n y5 0), (i 0)] fun x6 =>
  .ite x6 (
   .l (.idx 1 false) [(n xs 2), (n y5 0)] fun x7 =>
   .l (.scmp .eql) [x7, (c 2 x0)] fun x8 =>
   .ite x8 (
    .l (.idx 2 true) [(n xs 3), (n y5 0)] fun x9 =>
    .l (.idx 2 true) [(n xs 3), (n y5 0)] fun x10 =>
    .l (.arith .add .i64) [(c 1 x10), (c 3 x0)] fun x11 =>
    .l (.okcs [(1, false), (1, false)]) [(c 0 x9), x11] fun x12 =>
    .ret (.agg [(c 0 x9), x11])) (
    .l (.arith .sub .i64) [(n y5 0), (i 1)] fun x9 =>
    .cont 0 [x9])) (
   .l (.okcs [(1, false)]) [(n xs 1)] fun x7 =>
   .ret (.agg [(n xs 1), (i 0)]))) (
  .l (.okcs [(1, false)]) [(n xs 1)] fun x3 =>
  .ret (.agg [(n xs 1), (i 0)])))
theorem k_ref07_reference : TxOk P F.ref07_reference 4 t_ref07_reference := txOk_of (H := {}) (plans := []) hm Tryd.func70 rfl rfl fun xs => by kernel_rfl
def t_ref07_nodes (xs : List PV) : T PV :=
.l (.okc 6 true) [(n xs 0)] fun x0 =>
.l (.cmp .eql .i64) [(c 0 x0), (i 8)] fun x1 =>
.ite x1 (
 .call F.ref07_reference [x0, (n xs 1), (n xs 2), (n xs 3)] fun x2 =>
 .l (.okc 2 true) [x2] fun x3 =>
 .l (.idx 6 true) [(c 5 x0), (i 0)] fun x4 =>
 .l (.lst 1 false) [] fun x5 =>
 .l (.app 1 false 16) [x5, (n xs 2)] fun x6 =>
 .l (.lst 1 false) [(c 2 x0)] fun x7 =>
 .l (.app 1 false 16) [x6, x7] fun x8 =>
 .l (.lst 2 true) [] fun x9 =>
 .l (.app 2 true 16) [x9, (n xs 3)] fun x10 =>
 .l (.lst 2 true) [x3] fun x11 =>
 .l (.app 2 true 16) [x10, x11] fun x12 =>
 .call F.ref07_nodes [x4, (n xs 1), x8, x12] fun x13 =>
 .ret x13) (
 .l (.cmp .eql .i64) [(c 0 x0), (i 9)] fun x2 =>
 .ite x2 (
  .ret (.sl [])) (
  .l (.okcs [(1, false), (1, false), (1, false)]) [(c 0 x0), (c 1 x0), (c 4 x0)] fun x3 =>
  .l (.arith .add .i64) [(n xs 1), (i 1)] fun x4 =>
  .loop [(i 0), x4, (.sl []), (c 0 x0), (c 1 x0), (c 4 x0), (.sl [])] fun y5 =>
  .l .len [(c 5 x0)] fun x6 =>
  .l (.cmp .lss .i64) [(n y5 0), x6] fun x7 =>
  .ite x7 (
   .l (.idx 6 true) [(c 5 x0), (n y5 0)] fun x8 =>
   .call F.ref07_reference [x8, (n y5 1), (n xs 2), (n xs 3)] fun x9 =>
   .l (.lst 2 true) [x9] fun x10 =>
   .l (.app 2 true 16) [(n y5 6), x10] fun x11 =>
   .l (.idx 6 true) [(c 5 x0), (n y5 0)] fun x12 =>
   .call F.ref07_nodes [x12, (n y5 1), (n xs 2), (n xs 3)] fun x13 =>
   .l (.app 4 true 64) [(n y5 2), x13] fun x14 =>
   .l (.idx 6 true) [(c 5 x0), (n y5 0)] fun x15 =>
   .call F.ref07_Count [x15] fun x16 =>
   .l (.arith .add .i64) [(n y5 1), x16] fun x17 =>
   .l (.arith .add .i64) [(n y5 0), (i 1)] fun x18 =>
   .cont 0 [x18, x17, x14, (n y5 3), (n y5 4), (n y5 5), x11]) (
   .l (.lst 4 true) [(.agg [(n y5 3), (n y5 4), (n y5 5), (n y5 6)])] fun x8 =>
   .l (.app 4 true 64) [x8, (n y5 2)] fun x9 =>
   .ret x9)))
theorem k_ref07_nodes : TxOk P F.ref07_nodes 4 t_ref07_nodes := txOk_of (H := {}) (plans := []) hm Tryd.func71 rfl rfl fun xs => by kernel_rfl
def t_head_Kind (xs : List PV) : T PV :=
.l (.okc 1 true) [(n xs 0)] fun x0 =>
.l (.okc 2 true) [(n xs 1)] fun x1 =>
.l (.idx 4 true) [(c 0 x0), (c 0 x1)] fun x2 =>
.ret (c 0 x2)
theorem k_head_Kind : TxOk P F.head_Kind 2 t_head_Kind := txOk_of (H := {}) (plans := []) hm Tryd.func72 rfl rfl fun xs => by kernel_rfl
def t_subtype_relation_next (xs : List PV) : T PV :=
.l (.okc 2 true) [(n xs 1)] fun x0 =>
.l (.okc 2 true) [(n xs 2)] fun x1 =>
.l .notnil [(n xs 0)] fun x2 =>
.l (.unbox 2 true) [x2] fun x3 =>
.call F.head_Next [(sb 0 1 x3), x0, (n xs 3)] fun x4 =>
.l (.tc 0) [x4] fun x5 =>
.l (.tc 1) [x4] fun x6 =>
.l (.okc 2 true) [x5] fun x7 =>
.l .notnil [(n xs 0)] fun x8 =>
.l (.unbox 2 true) [x8] fun x9 =>
.call F.head_Next [(sb 0 1 x9), x1, (n xs 4)] fun x10 =>
.l (.tc 0) [x10] fun x11 =>
.l (.tc 1) [x10] fun x12 =>
.l (.okc 2 true) [x11] fun x13 =>
.ite x6 (
 .ite x12 (
  .callv (n xs 5) [x7, x13] fun x14 =>
  .ret x14) (
  .ret (.bool false))) (
 .ret (.bool false))
theorem k_subtype_relation_next : TxOk P F.subtype_relation_next 6 t_subtype_relation_next := txOk_of (H := {}) (plans := []) hm Tryd.func73 rfl rfl fun xs => by kernel_rfl
def u_subtype_relation_next_Dn (xs : List PV) : T PV :=
.l (.okc 2 true) [(n xs 0)] fun x0 =>
.l (.okc 2 true) [(n xs 1)] fun x1 =>
.call F.head_Next [(.agg [(n xs 4)]), x0, (n xs 2)] fun x2 =>
.l (.tc 0) [x2] fun x3 =>
.l (.tc 1) [x2] fun x4 =>
.l (.okc 2 true) [x3] fun x5 =>
.call F.head_Next [(.agg [(n xs 4)]), x1, (n xs 3)] fun x6 =>
.l (.tc 0) [x6] fun x7 =>
.l (.tc 1) [x6] fun x8 =>
.l (.okc 2 true) [x7] fun x9 =>
.ite x4 (
 .ite x8 (
  .calls F.subtype_relation_down sg_subtype_relation_down [x5, x9, (n xs 4), (n xs 5)] fun z10 =>
  .ret (.tup [(n z10 0), (n z10 1), (n z10 2)])) (
  .ret (.tup [(.bool false), (n xs 4), (n xs 5)]))) (
 .ret (.tup [(.bool false), (n xs 4), (n xs 5)]))
theorem m_subtype_relation_next_Dn : TxOkS P F.subtype_relation_next sg_subtype_relation_next_Dn u_subtype_relation_next_Dn := txOkS_of (H := { wr := [], ro := [], nl := [], fz := [], da := [], sigs := [(74, sg_subtype_relation_down)] }) (plans := []) hm Tryd.func73 rfl fun xs => by kernel_rfl
def u_subtype_relation_next_Sb (xs : List PV) : T PV :=
.l (.okc 2 true) [(n xs 0)] fun x0 =>
.l (.okc 2 true) [(n xs 1)] fun x1 =>
.call F.head_Next [(.agg [(n xs 4)]), x0, (n xs 2)] fun x2 =>
.l (.tc 0) [x2] fun x3 =>
.l (.tc 1) [x2] fun x4 =>
.l (.okc 2 true) [x3] fun x5 =>
.call F.head_Next [(.agg [(n xs 4)]), x1, (n xs 3)] fun x6 =>
.l (.tc 0) [x6] fun x7 =>
.l (.tc 1) [x6] fun x8 =>
.l (.okc 2 true) [x7] fun x9 =>
.ite x4 (
 .ite x8 (
  .calls F.subtype_relation_sub sg_subtype_relation_sub [x5, x9, (n xs 4), (n xs 5)] fun z10 =>
  .ret (.tup [(n z10 0), (n z10 1), (n z10 2)])) (
  .ret (.tup [(.bool false), (n xs 4), (n xs 5)]))) (
 .ret (.tup [(.bool false), (n xs 4), (n xs 5)]))
theorem m_subtype_relation_next_Sb : TxOkS P F.subtype_relation_next sg_subtype_relation_next_Sb u_subtype_relation_next_Sb := txOkS_of (H := { wr := [], ro := [], nl := [], fz := [], da := [], sigs := [(44, sg_subtype_relation_sub)] }) (plans := []) hm Tryd.func73 rfl fun xs => by kernel_rfl
def t_subtype_relation_down (xs : List PV) : T PV :=
.l (.okc 2 true) [(n xs 1)] fun x0 =>
.l (.okc 2 true) [(n xs 2)] fun x1 =>
.call F.subtype_relation_sub [(n xs 0), x1, x0] fun x2 =>
.ret x2
theorem k_subtype_relation_down : TxOk P F.subtype_relation_down 3 t_subtype_relation_down := txOk_of (H := {}) (plans := []) hm Tryd.func74 rfl rfl fun xs => by kernel_rfl
def u_subtype_relation_down (xs : List PV) : T PV :=
.l (.okc 2 true) [(n xs 0)] fun x0 =>
.l (.okc 2 true) [(n xs 1)] fun x1 =>
.calls F.subtype_relation_sub sg_subtype_relation_sub [x1, x0, (n xs 2), (n xs 3)] fun z2 =>
.ret (.tup [(n z2 0), (n z2 1), (n z2 2)])
theorem m_subtype_relation_down : TxOkS P F.subtype_relation_down sg_subtype_relation_down u_subtype_relation_down := txOkS_of (H := { wr := [], ro := [], nl := [], fz := [], da := [], sigs := [(44, sg_subtype_relation_sub)] }) (plans := []) hm Tryd.func74 rfl fun xs => by kernel_rfl
def t_subtype_relation_labels (xs : List PV) : T PV :=
.l (.okc 2 true) [(n xs 1)] fun x0 =>
.l (.okc 2 true) [(n xs 2)] fun x1 =>
.l (.okc 2 true) [(n xs 3)] fun x2 =>
.l .notnil [(n xs 0)] fun x3 =>
.l (.unbox 2 true) [x3] fun x4 =>
.l (.idx 4 true) [(c 0 x4), (c 0 x0)] fun x5 =>
.l .len [(c 2 x5)] fun x6 =>
.loop [(i 0)] fun y7 =>
.l (.cmp .lss .i64) [(n y7 0), x6] fun x8 =>
.ite x8 (
 .l (.idx 1 false) [(c 2 x5), (n y7 0)] fun x9 =>
 .l .notnil [(n xs 0)] fun x10 =>
 .l (.unbox 2 true) [x10] fun x11 =>
 .call F.head_Label [(sb 0 1 x11), x1, x9] fun x12 =>
 .l (.tc 0) [x12] fun x13 =>
 .l (.tc 1) [x12] fun x14 =>
 .l (.okc 2 true) [x13] fun x15 =>
 .l .notnil [(n xs 0)] fun x16 =>
 .l (.unbox 2 true) [x16] fun x17 =>
 .call F.head_Label [(sb 0 1 x17), x2, x9] fun x18 =>
 .l (.tc 0) [x18] fun x19 =>
 .l (.tc 1) [x18] fun x20 =>
 .l (.okc 2 true) [x19] fun x21 =>
 .l .bnot [x14] fun x22 =>
 .ite x22 (
  .ret (.bool false)) (
  .l .bnot [x20] fun x23 =>
  .ite x23 (
   .ret (.bool false)) (
   .call F.subtype_relation_sub [(n xs 0), x15, x21] fun x24 =>
   .l .bnot [x24] fun x25 =>
   .ite x25 (
    .ret (.bool false)) (
    .l (.arith .add .i64) [(n y7 0), (i 1)] fun x26 =>
    .cont 0 [x26])))) (
 .ret (.bool true))
theorem k_subtype_relation_labels : TxOk P F.subtype_relation_labels 4 t_subtype_relation_labels := txOk_of (H := {}) (plans := []) hm Tryd.func75 rfl rfl fun xs => by kernel_rfl
def u_subtype_relation_labels (xs : List PV) : T PV :=
.l (.okc 2 true) [(n xs 0)] fun x0 =>
.l (.okc 2 true) [(n xs 1)] fun x1 =>
.l (.okc 2 true) [(n xs 2)] fun x2 =>
.l (.idx 4 true) [(n xs 3), (c 0 x0)] fun x3 =>
.l .len [(c 2 x3)] fun x4 =>
.loop [(i 0), (n xs 3), (n xs 4)] fun y5 =>
.l (.cmp .lss .i64) [(n y5 0), x4] fun x6 =>
.ite x6 (
 .l (.idx 1 false) [(c 2 x3), (n y5 0)] fun x7 =>
 .call F.head_Label [(.agg [(n y5 1)]), x1, x7] fun x8 =>
 .l (.tc 0) [x8] fun x9 =>
 .l (.tc 1) [x8] fun x10 =>
 .l (.okc 2 true) [x9] fun x11 =>
 .call F.head_Label [(.agg [(n y5 1)]), x2, x7] fun x12 =>
 .l (.tc 0) [x12] fun x13 =>
 .l (.tc 1) [x12] fun x14 =>
 .l (.okc 2 true) [x13] fun x15 =>
 .l .bnot [x10] fun x16 =>
 .ite x16 (
  .ret (.tup [(.bool false), (n y5 1), (n y5 2)])) (
  .l .bnot [x14] fun x17 =>
  .ite x17 (
   .ret (.tup [(.bool false), (n y5 1), (n y5 2)])) (
   .calls F.subtype_relation_sub sg_subtype_relation_sub [x11, x15, (n y5 1), (n y5 2)] fun z18 =>
   .l .bnot [(n z18 0)] fun x19 =>
   .ite x19 (
    .ret (.tup [(.bool false), (n z18 1), (n z18 2)])) (
    .l (.arith .add .i64) [(n y5 0), (i 1)] fun x20 =>
    .cont 0 [x20, (n z18 1), (n z18 2)])))) (
 .ret (.tup [(.bool true), (n y5 1), (n y5 2)]))
theorem m_subtype_relation_labels : TxOkS P F.subtype_relation_labels sg_subtype_relation_labels u_subtype_relation_labels := txOkS_of (H := { wr := [], ro := [], nl := [], fz := [], da := [], sigs := [(44, sg_subtype_relation_sub)] }) (plans := []) hm Tryd.func75 rfl fun xs => by kernel_rfl
def t_ref10_Seen (xs : List PV) : T PV :=
.l (.okc 12 true) [(n xs 1)] fun x0 =>
.loop [(i 0)] fun y1 =>
.l .len [(n xs 0)] fun x2 =>
.l (.cmp .lss .i64) [(n y1 0), x2] fun x3 =>
.ite x3 (
 .l (.idx 12 true) [(n xs 0), (n y1 0)] fun x4 =>
 .call F.ref02_Same [(sb 0 6 x4), (sb 0 6 x0)] fun x5 =>
 .ite x5 (
  .l (.idx 12 true) [(n xs 0), (n y1 0)] fun x6 =>
  .call F.ref02_Same [(sb 6 6 x6), (sb 6 6 x0)] fun x7 =>
  .ite x7 (
   .ret (.bool true)) (
   .l (.arith .add .i64) [(n y1 0), (i 1)] fun x8 =>
   .cont 0 [x8])) (
  .l (.arith .add .i64) [(n y1 0), (i 1)] fun x6 =>
  .cont 0 [x6])) (
 .ret (.bool false))
theorem k_ref10_Seen : TxOk P F.ref10_Seen 2 t_ref10_Seen := txOk_of (H := {}) (plans := []) hm Tryd.func76 rfl rfl fun xs => by kernel_rfl
def t_ref08_Prio (xs : List PV) : T PV :=
.l (.okc 6 true) [(n xs 0)] fun x0 =>
.call F.ref02_Unfold [x0] fun x1 =>
.l (.okc 6 true) [x1] fun x2 =>
.l (.cmp .geq .i64) [(c 0 x2), (i 4)] fun x3 =>
.ite x3 (
 .l (.cmp .leq .i64) [(c 0 x2), (i 7)] fun x4 =>
 .ite x4 (
  .ret (.tup [(c 1 x2), (.bool true)])) (
  .ret (.tup [(i 0), (.bool false)]))) (
 .ret (.tup [(i 0), (.bool false)]))
theorem k_ref08_Prio : TxOk P F.ref08_Prio 1 t_ref08_Prio := txOk_of (H := {}) (plans := []) hm Tryd.func77 rfl rfl fun xs => by kernel_rfl
def t_ref08_Label (xs : List PV) : T PV :=
.l (.okc 6 true) [(n xs 0)] fun x0 =>
.call F.ref02_Unfold [x0] fun x1 =>
.l (.okc 6 true) [x1] fun x2 =>
.loop [(i 0)] fun y3 =>
.l .len [(c 4 x2)] fun x4 =>
.l (.cmp .lss .i64) [(n y3 0), x4] fun x5 =>
.ite x5 (
 .l (.idx 1 false) [(c 4 x2), (n y3 0)] fun x6 =>
 .l (.scmp .eql) [x6, (n xs 1)] fun x7 =>
 .ite x7 (
  .l (.idx 6 true) [(c 5 x2), (n y3 0)] fun x8 =>
  .l (.okc 6 true) [x8] fun x9 =>
  .ret (.tup [x9, (.bool true)])) (
  .l (.arith .add .i64) [(n y3 0), (i 1)] fun x8 =>
  .cont 0 [x8])) (
 .ret (.tup [(.agg [(i 0), (i 0), (.str ⟨#[]⟩), (i 0), (.sl []), (.sl [])]), (.bool false)]))
theorem k_ref08_Label : TxOk P F.ref08_Label 2 t_ref08_Label := txOk_of (H := {}) (plans := []) hm Tryd.func78 rfl rfl fun xs => by kernel_rfl
def t_ref02_shape (xs : List PV) : T PV :=
.l (.okc 6 true) [(n xs 0)] fun x0 =>
.l (.cmp .eql .i64) [(c 0 x0), (i 1)] fun x1 =>
.ite x1 (
 .l (.cmp .eql .i64) [(c 1 x0), (i 0)] fun x2 =>
 .ite x2 (
  .l (.scmp .eql) [(c 2 x0), (.str ⟨#[]⟩)] fun x3 =>
  .ite x3 (
   .l (.cmp .eql .i64) [(c 3 x0), (i 0)] fun x4 =>
   .ite x4 (
    .l .len [(c 4 x0)] fun x5 =>
    .l (.cmp .eql .i64) [x5, (i 0)] fun x6 =>
    .ite x6 (
     .l .len [(c 5 x0)] fun x7 =>
     .l (.cmp .eql .i64) [x7, (i 0)] fun x8 =>
     .ret x8) (
     .ret (.bool false))) (
    .ret (.bool false))) (
   .ret (.bool false))) (
  .ret (.bool false))) (
 .l (.cmp .eql .i64) [(c 0 x0), (i 2)] fun x2 =>
 .ite x2 (
  .l (.cmp .eql .i64) [(c 1 x0), (i 0)] fun x3 =>
  .ite x3 (
   .l (.scmp .eql) [(c 2 x0), (.str ⟨#[]⟩)] fun x4 =>
   .ite x4 (
    .l (.cmp .eql .i64) [(c 3 x0), (i 0)] fun x5 =>
    .ite x5 (
     .l .len [(c 4 x0)] fun x6 =>
     .l (.cmp .eql .i64) [x6, (i 0)] fun x7 =>
     .ite x7 (
      .l .len [(c 5 x0)] fun x8 =>
      .l (.cmp .eql .i64) [x8, (i 0)] fun x9 =>
      .ret x9) (
      .ret (.bool false))) (
     .ret (.bool false))) (
    .ret (.bool false))) (
   .ret (.bool false))) (
  .l (.cmp .eql .i64) [(c 0 x0), (i 3)] fun x3 =>
  .ite x3 (
   .l (.cmp .eql .i64) [(c 1 x0), (i 0)] fun x4 =>
   .ite x4 (
    .l (.scmp .eql) [(c 2 x0), (.str ⟨#[]⟩)] fun x5 =>
    .ite x5 (
     .l (.cmp .eql .i64) [(c 3 x0), (i 0)] fun x6 =>
     .ite x6 (
      .l .len [(c 4 x0)] fun x7 =>
      .l (.cmp .eql .i64) [x7, (i 0)] fun x8 =>
      .ite x8 (
       .l .len [(c 5 x0)] fun x9 =>
       .l (.cmp .eql .i64) [x9, (i 0)] fun x10 =>
       .ret x10) (
       .ret (.bool false))) (
      .ret (.bool false))) (
     .ret (.bool false))) (
    .ret (.bool false))) (
   .l (.cmp .eql .i64) [(c 0 x0), (i 4)] fun x4 =>
   .ite x4 (
    .call F.ref02_prio [(c 1 x0)] fun x5 =>
    .ite x5 (
     .l (.scmp .eql) [(c 2 x0), (.str ⟨#[]⟩)] fun x6 =>
     .ite x6 (
      .l (.cmp .eql .i64) [(c 3 x0), (i 0)] fun x7 =>
      .ite x7 (
       .l .len [(c 4 x0)] fun x8 =>
       .l (.cmp .eql .i64) [x8, (i 0)] fun x9 =>
       .ite x9 (
        .l .len [(c 5 x0)] fun x10 =>
        .l (.cmp .eql .i64) [x10, (i 2)] fun x11 =>
        .ret x11) (
        .ret (.bool false))) (
       .ret (.bool false))) (
      .ret (.bool false))) (
     .ret (.bool false))) (
    .l (.cmp .eql .i64) [(c 0 x0), (i 5)] fun x5 =>
    .ite x5 (
     .call F.ref02_prio [(c 1 x0)] fun x6 =>
     .ite x6 (
      .l (.scmp .eql) [(c 2 x0), (.str ⟨#[]⟩)] fun x7 =>
      .ite x7 (
       .l (.cmp .eql .i64) [(c 3 x0), (i 0)] fun x8 =>
       .ite x8 (
        .l .len [(c 4 x0)] fun x9 =>
        .l (.cmp .eql .i64) [x9, (i 0)] fun x10 =>
        .ite x10 (
         .l .len [(c 5 x0)] fun x11 =>
         .l (.cmp .eql .i64) [x11, (i 2)] fun x12 =>
         .ret x12) (
         .ret (.bool false))) (
        .ret (.bool false))) (
       .ret (.bool false))) (
      .ret (.bool false))) (
     .l (.cmp .eql .i64) [(c 0 x0), (i 6)] fun x6 =>
     .ite x6 (
      .call F.ref02_prio [(c 1 x0)] fun x7 =>
      .ite x7 (
       .l (.scmp .eql) [(c 2 x0), (.str ⟨#[]⟩)] fun x8 =>
       .ite x8 (
        .l (.cmp .eql .i64) [(c 3 x0), (i 0)] fun x9 =>
        .ite x9 (
         .l .len [(c 4 x0)] fun x10 =>
         .l (.cmp .gtr .i64) [x10, (i 0)] fun x11 =>
         .ite x11 (
          .call F.ref02_Labels [(c 4 x0)] fun x12 =>
          .ite x12 (
           .l .len [(c 5 x0)] fun x13 =>
           .l .len [(c 4 x0)] fun x14 =>
           .l (.cmp .eql .i64) [x13, x14] fun x15 =>
           .ret x15) (
           .ret (.bool false))) (
          .ret (.bool false))) (
         .ret (.bool false))) (
        .ret (.bool false))) (
       .ret (.bool false))) (
      .l (.cmp .eql .i64) [(c 0 x0), (i 7)] fun x7 =>
      .ite x7 (
       .call F.ref02_prio [(c 1 x0)] fun x8 =>
       .ite x8 (
        .l (.scmp .eql) [(c 2 x0), (.str ⟨#[]⟩)] fun x9 =>
        .ite x9 (
         .l (.cmp .eql .i64) [(c 3 x0), (i 0)] fun x10 =>
         .ite x10 (
          .l .len [(c 4 x0)] fun x11 =>
          .l (.cmp .gtr .i64) [x11, (i 0)] fun x12 =>
          .ite x12 (
           .call F.ref02_Labels [(c 4 x0)] fun x13 =>
           .ite x13 (
            .l .len [(c 5 x0)] fun x14 =>
            .l .len [(c 4 x0)] fun x15 =>
            .l (.cmp .eql .i64) [x14, x15] fun x16 =>
            .ret x16) (
            .ret (.bool false))) (
           .ret (.bool false))) (
          .ret (.bool false))) (
         .ret (.bool false))) (
        .ret (.bool false))) (
       .l (.cmp .eql .i64) [(c 0 x0), (i 8)] fun x8 =>
       .ite x8 (
        .l (.cmp .eql .i64) [(c 1 x0), (i 0)] fun x9 =>
        .ite x9 (
         .call F.ref01_Name [(c 2 x0)] fun x10 =>
         .ite x10 (
          .l (.cmp .eql .i64) [(c 3 x0), (i 0)] fun x11 =>
          .ite x11 (
           .l .len [(c 4 x0)] fun x12 =>
           .l (.cmp .eql .i64) [x12, (i 0)] fun x13 =>
           .ite x13 (
            .l .len [(c 5 x0)] fun x14 =>
            .l (.cmp .eql .i64) [x14, (i 1)] fun x15 =>
            .ret x15) (
            .ret (.bool false))) (
           .ret (.bool false))) (
          .ret (.bool false))) (
         .ret (.bool false))) (
        .l (.cmp .eql .i64) [(c 0 x0), (i 9)] fun x9 =>
        .ite x9 (
         .l (.cmp .eql .i64) [(c 1 x0), (i 0)] fun x10 =>
         .ite x10 (
          .call F.ref01_Name [(c 2 x0)] fun x11 =>
          .ite x11 (
           .call F.ref02_prio [(c 3 x0)] fun x12 =>
           .ite x12 (
            .l .len [(c 4 x0)] fun x13 =>
            .l (.cmp .eql .i64) [x13, (i 0)] fun x14 =>
            .ite x14 (
             .l .len [(c 5 x0)] fun x15 =>
             .l (.cmp .eql .i64) [x15, (i 0)] fun x16 =>
             .ret x16) (
             .ret (.bool false))) (
            .ret (.bool false))) (
           .ret (.bool false))) (
          .ret (.bool false))) (
         .ret (.bool false))))))))))
theorem k_ref02_shape : TxOk P F.ref02_shape 1 t_ref02_shape := txOk_of (H := {}) (plans := []) hm Tryd.func79 rfl rfl fun xs => by kernel_rfl
def t_typetree_Copy (xs : List PV) : T PV :=
.l (.okc 6 true) [(n xs 0)] fun x0 =>
.call F.typetree_mapped [x0, (.fn F.typetree_Copy [] [])] fun x1 =>
.l (.okc 6 true) [x1] fun x2 =>
.ret x2
theorem k_typetree_Copy : TxOk P F.typetree_Copy 1 t_typetree_Copy := txOk_of (H := {}) (plans := []) hm Tryd.func80 rfl rfl fun xs => by kernel_rfl
def t_ref14_closed (xs : List PV) : T PV :=
.l (.okc 6 true) [(n xs 0)] fun x0 =>
.l (.cmp .eql .i64) [(c 0 x0), (i 9)] fun x1 =>
.ite x1 (
 .l .len [(n xs 1)] fun x2 =>
 .l (.arith .sub .i64) [x2, (i 1)] fun x3 =>
 .loop [x3] fun y4 =>
 .l (.cmp .geq .i64) [(n y4 0), (i 0)] fun x5 =>
 .ite x5 (
  .l (.idx 7 true) [(n xs 1), (n y4 0)] fun x6 =>
  .l (.scmp .eql) [(c 0 x6), (c 2 x0)] fun x7 =>
  .ite x7 (
   .l (.idx 7 true) [(n xs 1), (n y4 0)] fun x8 =>
   .calls F.ref02_Raise sg_ref02_Raise [(sb 1 6 x8), (c 3 x0)] fun z9 =>
   .ret (.agg [(n z9 0), (n z9 1), (n z9 2), (n z9 3), (n z9 4), (n z9 5)])) (
   .l (.arith .sub .i64) [(n y4 0), (i 1)] fun x8 =>
   .cont 0 [x8])) (
  .l (.okc 6 true) [x0] fun x6 =>
  .ret x6)) (
 .calls F.ref02_Raise sg_ref02_Raise [x0, (i 0)] fun z2 =>
 .l (.cmp .eql .i64) [(c 0 x0), (i 8)] fun x3 =>
 .ite x3 (
  .loop [(i 0), (.sl [])] fun y4 =>
  .l .len [(n xs 1)] fun x5 =>
  .l (.cmp .lss .i64) [(n y4 0), x5] fun x6 =>
  .ite x6 (
   .l (.idx 7 true) [(n xs 1), (n y4 0)] fun x7 =>
   .l (.scmp .neq) [(c 0 x7), (c 2 x0)] fun x8 =>
   .ite x8 (
    .l (.idx 7 true) [(n xs 1), (n y4 0)] fun x9 =>
    .l (.lst 7 true) [x9] fun x10 =>
    .l (.app 7 true 104) [(n y4 1), x10] fun x11 =>
    .l (.arith .add .i64) [(n y4 0), (i 1)] fun x12 =>
    .cont 0 [x12, x11]) (
    .l (.arith .add .i64) [(n y4 0), (i 1)] fun x9 =>
    .cont 0 [x9, (n y4 1)])) (
   .loop [(i 0), (n z2 5)] fun y7 =>
   .l .len [(c 5 x0)] fun x8 =>
   .l (.cmp .lss .i64) [(n y7 0), x8] fun x9 =>
   .ite x9 (
    .l (.idx 6 true) [(c 5 x0), (n y7 0)] fun x10 =>
    .call F.ref14_closed [x10, (n y4 1)] fun x11 =>
    .l (.idx 6 true) [(n y7 1), (n y7 0)] fun x12 =>
    .l (.upd 6 true) [(n y7 1), (n y7 0), x11] fun x13 =>
    .l (.arith .add .i64) [(n y7 0), (i 1)] fun x14 =>
    .cont 1 [x14, x13]) (
    .ret (.agg [(n z2 0), (n z2 1), (n z2 2), (n z2 3), (n z2 4), (n y7 1)])))) (
  .loop [(i 0), (n z2 5)] fun y4 =>
  .l .len [(c 5 x0)] fun x5 =>
  .l (.cmp .lss .i64) [(n y4 0), x5] fun x6 =>
  .ite x6 (
   .l (.idx 6 true) [(c 5 x0), (n y4 0)] fun x7 =>
   .call F.ref14_closed [x7, (n xs 1)] fun x8 =>
   .l (.idx 6 true) [(n y4 1), (n y4 0)] fun x9 =>
   .l (.upd 6 true) [(n y4 1), (n y4 0), x8] fun x10 =>
   .l (.arith .add .i64) [(n y4 0), (i 1)] fun x11 =>
   .cont 0 [x11, x10]) (
   .ret (.agg [(n z2 0), (n z2 1), (n z2 2), (n z2 3), (n z2 4), (n y4 1)]))))
theorem k_ref14_closed : TxOk P F.ref14_closed 2 t_ref14_closed := txOk_of (H := { wr := [], ro := [], nl := [], fz := [], da := [], sigs := [(19, sg_ref02_Raise)] }) (plans := []) hm Tryd.func81 rfl rfl fun xs => by kernel_rfl
def t_ref02_put (xs : List PV) : T PV :=
.l (.okc 6 true) [(n xs 0)] fun x0 =>
.l (.okc 6 true) [(n xs 2)] fun x1 =>
.l (.cmp .eql .i64) [(c 0 x0), (i 9)] fun x2 =>
.ite x2 (
 .l (.scmp .eql) [(c 2 x0), (n xs 1)] fun x3 =>
 .ite x3 (
  .calls F.ref02_Raise sg_ref02_Raise [x1, (c 3 x0)] fun z4 =>
  .ret (.agg [(n z4 0), (n z4 1), (n z4 2), (n z4 3), (n z4 4), (n z4 5)])) (
  .calls F.ref02_Raise sg_ref02_Raise [x0, (i 0)] fun z4 =>
  .l (.cmp .eql .i64) [(c 0 x0), (i 8)] fun x5 =>
  .ite x5 (
   .l (.scmp .eql) [(c 2 x0), (n xs 1)] fun x6 =>
   .ite x6 (
    .ret (.agg [(n z4 0), (n z4 1), (n z4 2), (n z4 3), (n z4 4), (n z4 5)])) (
    .loop [(i 0), (n z4 5)] fun y7 =>
    .l .len [(c 5 x0)] fun x8 =>
    .l (.cmp .lss .i64) [(n y7 0), x8] fun x9 =>
    .ite x9 (
     .l (.idx 6 true) [(c 5 x0), (n y7 0)] fun x10 =>
     .call F.ref02_put [x10, (n xs 1), x1] fun x11 =>
     .l (.idx 6 true) [(n y7 1), (n y7 0)] fun x12 =>
     .l (.upd 6 true) [(n y7 1), (n y7 0), x11] fun x13 =>
     .l (.arith .add .i64) [(n y7 0), (i 1)] fun x14 =>
     .cont 0 [x14, x13]) (
     .ret (.agg [(n z4 0), (n z4 1), (n z4 2), (n z4 3), (n z4 4), (n y7 1)])))) (
   .loop [(i 0), (n z4 5)] fun y6 =>
   .l .len [(c 5 x0)] fun x7 =>
   .l (.cmp .lss .i64) [(n y6 0), x7] fun x8 =>
   .ite x8 (
    .l (.idx 6 true) [(c 5 x0), (n y6 0)] fun x9 =>
    .call F.ref02_put [x9, (n xs 1), x1] fun x10 =>
    .l (.idx 6 true) [(n y6 1), (n y6 0)] fun x11 =>
    .l (.upd 6 true) [(n y6 1), (n y6 0), x10] fun x12 =>
    .l (.arith .add .i64) [(n y6 0), (i 1)] fun x13 =>
    .cont 0 [x13, x12]) (
    .ret (.agg [(n z4 0), (n z4 1), (n z4 2), (n z4 3), (n z4 4), (n y6 1)]))))) (
 .calls F.ref02_Raise sg_ref02_Raise [x0, (i 0)] fun z3 =>
 .l (.cmp .eql .i64) [(c 0 x0), (i 8)] fun x4 =>
 .ite x4 (
  .l (.scmp .eql) [(c 2 x0), (n xs 1)] fun x5 =>
  .ite x5 (
   .ret (.agg [(n z3 0), (n z3 1), (n z3 2), (n z3 3), (n z3 4), (n z3 5)])) (
   .loop [(i 0), (n z3 5)] fun y6 =>
   .l .len [(c 5 x0)] fun x7 =>
   .l (.cmp .lss .i64) [(n y6 0), x7] fun x8 =>
   .ite x8 (
    .l (.idx 6 true) [(c 5 x0), (n y6 0)] fun x9 =>
    .call F.ref02_put [x9, (n xs 1), x1] fun x10 =>
    .l (.idx 6 true) [(n y6 1), (n y6 0)] fun x11 =>
    .l (.upd 6 true) [(n y6 1), (n y6 0), x10] fun x12 =>
    .l (.arith .add .i64) [(n y6 0), (i 1)] fun x13 =>
    .cont 0 [x13, x12]) (
    .ret (.agg [(n z3 0), (n z3 1), (n z3 2), (n z3 3), (n z3 4), (n y6 1)])))) (
  .loop [(i 0), (n z3 5)] fun y5 =>
  .l .len [(c 5 x0)] fun x6 =>
  .l (.cmp .lss .i64) [(n y5 0), x6] fun x7 =>
  .ite x7 (
   .l (.idx 6 true) [(c 5 x0), (n y5 0)] fun x8 =>
   .call F.ref02_put [x8, (n xs 1), x1] fun x9 =>
   .l (.idx 6 true) [(n y5 1), (n y5 0)] fun x10 =>
   .l (.upd 6 true) [(n y5 1), (n y5 0), x9] fun x11 =>
   .l (.arith .add .i64) [(n y5 0), (i 1)] fun x12 =>
   .cont 0 [x12, x11]) (
   .ret (.agg [(n z3 0), (n z3 1), (n z3 2), (n z3 3), (n z3 4), (n y5 1)]))))
theorem k_ref02_put : TxOk P F.ref02_put 3 t_ref02_put := txOk_of (H := { wr := [], ro := [], nl := [], fz := [], da := [], sigs := [(19, sg_ref02_Raise)] }) (plans := []) hm Tryd.func82 rfl rfl fun xs => by kernel_rfl
def t_monitor_values (xs : List PV) : T PV :=
.l (.mset false [.i .i64]) [(.mp [] []), (i 1), (i 2)] fun x0 =>
.l (.mset false [.i .i64]) [x0, (i 2), (i 3)] fun x1 =>
.ret x1
theorem k_monitor_values : TxOk P F.monitor_values 0 t_monitor_values := txOk_of (H := {}) (plans := []) hm Tryd.func83 rfl rfl fun xs => by kernel_rfl
def t_typetree_replace (xs : List PV) : T PV :=
.l (.okc 6 true) [(n xs 0)] fun x0 =>
.l (.okc 1 false) [(n xs 1)] fun x1 =>
.l (.okc 6 true) [(n xs 2)] fun x2 =>
.l (.cmp .eql .i64) [(c 0 x0), (i 9)] fun x3 =>
.ite x3 (
 .l (.scmp .eql) [(c 2 x0), x1] fun x4 =>
 .ite x4 (
  .call F.typetree_Raise [x2, (c 3 x0)] fun x5 =>
  .l (.okc 6 true) [x5] fun x6 =>
  .ret x6) (
  .l (.cmp .eql .i64) [(c 0 x0), (i 8)] fun x5 =>
  .ite x5 (
   .l (.scmp .eql) [(c 2 x0), x1] fun x6 =>
   .ite x6 (
    .call F.typetree_Copy [x0] fun x7 =>
    .l (.okc 6 true) [x7] fun x8 =>
    .ret x8) (
    .call F.typetree_mapped [x0, (.fn F.typetree_replace_1 [] [(.box x1), (.box x2)])] fun x7 =>
    .l (.okc 6 true) [x7] fun x8 =>
    .ret x8)) (
   .call F.typetree_mapped [x0, (.fn F.typetree_replace_1 [] [(.box x1), (.box x2)])] fun x6 =>
   .l (.okc 6 true) [x6] fun x7 =>
   .ret x7))) (
 .l (.cmp .eql .i64) [(c 0 x0), (i 8)] fun x4 =>
 .ite x4 (
  .l (.scmp .eql) [(c 2 x0), x1] fun x5 =>
  .ite x5 (
   .call F.typetree_Copy [x0] fun x6 =>
   .l (.okc 6 true) [x6] fun x7 =>
   .ret x7) (
   .call F.typetree_mapped [x0, (.fn F.typetree_replace_1 [] [(.box x1), (.box x2)])] fun x6 =>
   .l (.okc 6 true) [x6] fun x7 =>
   .ret x7)) (
  .call F.typetree_mapped [x0, (.fn F.typetree_replace_1 [] [(.box x1), (.box x2)])] fun x5 =>
  .l (.okc 6 true) [x5] fun x6 =>
  .ret x6))
theorem k_typetree_replace : TxOk P F.typetree_replace 3 t_typetree_replace := txOk_of (H := {}) (plans := []) hm Tryd.func84 rfl rfl fun xs => by kernel_rfl
def t_slices_IndexFunc_api_Type_api_Type (xs : List PV) : T PV :=
.l .len [(n xs 0)] fun x0 =>
.loop [(i 0)] fun y1 =>
.l (.cmp .lss .i64) [(n y1 0), x0] fun x2 =>
.ite x2 (
 .l (.idx 6 true) [(n xs 0), (n y1 0)] fun x3 =>
 .callv (n xs 1) [x3] fun x4 =>
 .ite x4 (
  .ret (n y1 0)) (
  .l (.arith .add .i64) [(n y1 0), (i 1)] fun x5 =>
  .cont 0 [x5])) (
 .ret (i (-1)))
theorem k_slices_IndexFunc_api_Type_api_Type : TxOk P F.slices_IndexFunc_api_Type_api_Type 2 t_slices_IndexFunc_api_Type_api_Type := txOk_of (H := {}) (plans := []) hm Tryd.func85 rfl rfl fun xs => by kernel_rfl
def t_head_action (xs : List PV) : T PV :=
.l (.cmp .geq .i64) [(n xs 0), (i 4)] fun x0 =>
.ite x0 (
 .l (.cmp .leq .i64) [(n xs 0), (i 7)] fun x1 =>
 .ret x1) (
 .ret (.bool false))
theorem k_head_action : TxOk P F.head_action 1 t_head_action := txOk_of (H := {}) (plans := []) hm Tryd.func86 rfl rfl fun xs => by kernel_rfl
def t_equal_comparison_key (xs : List PV) : T PV :=
.l (.okc 2 true) [(n xs 1)] fun x0 =>
.l (.okc 2 true) [(n xs 2)] fun x1 =>
.l .notnil [(n xs 0)] fun x2 =>
.l (.unbox 4 true) [x2] fun x3 =>
.ite (c 3 x3) (
 .l (.okcs [(1, false), (1, false)]) [(c 0 x0), (c 0 x1)] fun x4 =>
 .ret (.agg [(c 0 x0), (c 0 x1), (i 0)])) (
 .l (.arith .sub .i64) [(c 1 x0), (c 1 x1)] fun x4 =>
 .l (.okcs [(1, false), (1, false), (1, false)]) [(c 0 x0), (c 0 x1), x4] fun x5 =>
 .ret (.agg [(c 0 x0), (c 0 x1), x4]))
theorem k_equal_comparison_key : TxOk P F.equal_comparison_key 3 t_equal_comparison_key := txOk_of (H := {}) (plans := []) hm Tryd.func87 rfl rfl fun xs => by kernel_rfl
def t_head_Next (xs : List PV) : T PV :=
.l (.okc 1 true) [(n xs 0)] fun x0 =>
.l (.okc 2 true) [(n xs 1)] fun x1 =>
.l (.idx 4 true) [(c 0 x0), (c 0 x1)] fun x2 =>
.l (.cmp .lss .i64) [(n xs 2), (i 0)] fun x3 =>
.ite x3 (
 .ret (.tup [(.agg [(i 0), (i 0)]), (.bool false)])) (
 .l .len [(c 3 x2)] fun x4 =>
 .l (.cmp .geq .i64) [(n xs 2), x4] fun x5 =>
 .ite x5 (
  .ret (.tup [(.agg [(i 0), (i 0)]), (.bool false)])) (
  .l (.idx 2 true) [(c 3 x2), (n xs 2)] fun x6 =>
  .call F.head_Raise [x6, (c 1 x1)] fun x7 =>
  .l (.okc 2 true) [x7] fun x8 =>
  .ret (.tup [x8, (.bool true)])))
theorem k_head_Next : TxOk P F.head_Next 3 t_head_Next := txOk_of (H := {}) (plans := []) hm Tryd.func88 rfl rfl fun xs => by kernel_rfl
def t_ref07_Count (xs : List PV) : T PV :=
.l (.okc 6 true) [(n xs 0)] fun x0 =>
.l (.cmp .leq .i64) [(c 0 x0), (i 7)] fun x1 =>
.ite x1 (
 .loop [(i 0), (i 1)] fun y2 =>
 .l .len [(c 5 x0)] fun x3 =>
 .l (.cmp .lss .i64) [(n y2 0), x3] fun x4 =>
 .ite x4 (
  .l (.idx 6 true) [(c 5 x0), (n y2 0)] fun x5 =>
  .call F.ref07_Count [x5] fun x6 =>
  .l (.arith .add .i64) [(n y2 1), x6] fun x7 =>
  .l (.arith .add .i64) [(n y2 0), (i 1)] fun x8 =>
  .cont 0 [x8, x7]) (
  .ret (n y2 1))) (
 .loop [(i 0), (i 0)] fun y2 =>
 .l .len [(c 5 x0)] fun x3 =>
 .l (.cmp .lss .i64) [(n y2 0), x3] fun x4 =>
 .ite x4 (
  .l (.idx 6 true) [(c 5 x0), (n y2 0)] fun x5 =>
  .call F.ref07_Count [x5] fun x6 =>
  .l (.arith .add .i64) [(n y2 1), x6] fun x7 =>
  .l (.arith .add .i64) [(n y2 0), (i 1)] fun x8 =>
  .cont 0 [x8, x7]) (
  .ret (n y2 1)))
theorem k_ref07_Count : TxOk P F.ref07_Count 1 t_ref07_Count := txOk_of (H := {}) (plans := []) hm Tryd.func89 rfl rfl fun xs => by kernel_rfl
def t_head_Label (xs : List PV) : T PV :=
.l (.okc 1 true) [(n xs 0)] fun x0 =>
.l (.okc 2 true) [(n xs 1)] fun x1 =>
.l (.idx 4 true) [(c 0 x0), (c 0 x1)] fun x2 =>
.call F.slices_Index_string_string [(c 2 x2), (n xs 2)] fun x3 =>
.call F.head_Next [x0, x1, x3] fun x4 =>
.l (.tc 0) [x4] fun x5 =>
.l (.tc 1) [x4] fun x6 =>
.l (.okc 2 true) [x5] fun x7 =>
.ret (.tup [x7, x6])
theorem k_head_Label : TxOk P F.head_Label 3 t_head_Label := txOk_of (H := {}) (plans := []) hm Tryd.func90 rfl rfl fun xs => by kernel_rfl
def t_ref02_prio (xs : List PV) : T PV :=
.l (.cmp .geq .i64) [(n xs 0), (i 0)] fun x0 =>
.ite x0 (
 .l (.cmp .leq .i64) [(n xs 0), (i 1000000)] fun x1 =>
 .ret x1) (
 .ret (.bool false))
theorem k_ref02_prio : TxOk P F.ref02_prio 1 t_ref02_prio := txOk_of (H := {}) (plans := []) hm Tryd.func91 rfl rfl fun xs => by kernel_rfl
def t_ref02_Labels (xs : List PV) : T PV :=
.loop [(i 0)] fun y0 =>
.l .len [(n xs 0)] fun x1 =>
.l (.cmp .lss .i64) [(n y0 0), x1] fun x2 =>
.ite x2 (
 .l (.idx 1 false) [(n xs 0), (n y0 0)] fun x3 =>
 .call F.ref01_Name [x3] fun x4 =>
 .l .bnot [x4] fun x5 =>
 .ite x5 (
  .ret (.bool false)) (
  .l (.idx 1 false) [(n xs 0), (n y0 0)] fun x6 =>
  .l (.slcT 1 false) [(n xs 0), (n y0 0)] fun x7 =>
  .call F.ref02_in [x6, x7] fun x8 =>
  .ite x8 (
   .ret (.bool false)) (
   .l (.arith .add .i64) [(n y0 0), (i 1)] fun x9 =>
   .cont 0 [x9]))) (
 .ret (.bool true))
theorem k_ref02_Labels : TxOk P F.ref02_Labels 1 t_ref02_Labels := txOk_of (H := {}) (plans := []) hm Tryd.func92 rfl rfl fun xs => by kernel_rfl
def t_ref01_Name (xs : List PV) : T PV :=
.call F.ref01_Word [(n xs 0)] fun x0 =>
.ite x0 (
 .call F.ref01_Keyword [(n xs 0)] fun x1 =>
 .l .bnot [x1] fun x2 =>
 .ret x2) (
 .ret (.bool false))
theorem k_ref01_Name : TxOk P F.ref01_Name 1 t_ref01_Name := txOk_of (H := {}) (plans := []) hm Tryd.func93 rfl rfl fun xs => by kernel_rfl
def t_typetree_mapped (xs : List PV) : T PV :=
.l (.okc 6 true) [(n xs 0)] fun x0 =>
.call F.slices_Clone_string_string [(c 4 x0)] fun x1 =>
.l (.okc 1 false) [x1] fun x2 =>
.l .len [(c 5 x0)] fun x3 =>
.loop [(i 0), (.sl [])] fun y4 =>
.l (.cmp .lss .i64) [(n y4 0), x3] fun x5 =>
.ite x5 (
 .l (.idx 6 true) [(c 5 x0), (n y4 0)] fun x6 =>
 .l (.okc 6 true) [x6] fun x7 =>
 .callv (n xs 1) [x7] fun x8 =>
 .l (.lst 6 true) [x8] fun x9 =>
 .l (.app 6 true 88) [(n y4 1), x9] fun x10 =>
 .l (.arith .add .i64) [(n y4 0), (i 1)] fun x11 =>
 .cont 0 [x11, x10]) (
 .ret (.agg [(c 0 x0), (c 1 x0), (c 2 x0), (c 3 x0), x2, (n y4 1)]))
theorem k_typetree_mapped : TxOk P F.typetree_mapped 2 t_typetree_mapped := txOk_of (H := {}) (plans := []) hm Tryd.func94 rfl rfl fun xs => by kernel_rfl
def t_typetree_Raise (xs : List PV) : T PV :=
.l (.okc 6 true) [(n xs 0)] fun x0 =>
.l (.okc 1 false) [(n xs 1)] fun x1 =>
.call F.typetree_mapped [x0, (.fn F.typetree_Raise_1 [] [(.box x1)])] fun x2 =>
.l (.okc 6 true) [x2] fun x3 =>
.l (.cmp .geq .i64) [(c 0 x0), (i 4)] fun x4 =>
.ite x4 (
 .l (.cmp .leq .i64) [(c 0 x0), (i 7)] fun x5 =>
 .ite x5 (
  .l (.arith .add .i64) [(c 1 x3), x1] fun x6 =>
  .l (.okc 1 false) [x6] fun x7 =>
  .ret (.agg [(c 0 x3), x7, (c 2 x3), (c 3 x3), (c 4 x3), (c 5 x3)])) (
  .l (.okc 6 true) [x3] fun x6 =>
  .ret x6)) (
 .l (.okc 6 true) [x3] fun x5 =>
 .ret x5)
theorem k_typetree_Raise : TxOk P F.typetree_Raise 2 t_typetree_Raise := txOk_of (H := {}) (plans := []) hm Tryd.func95 rfl rfl fun xs => by kernel_rfl
def t_typetree_replace_1 (xs : List PV) : T PV :=
.l (.okc 6 true) [(n xs 0)] fun x0 =>
.l (.unbox 1 false) [(n xs 1)] fun x1 =>
.l (.unbox 6 true) [(n xs 2)] fun x2 =>
.call F.typetree_replace [x0, x1, x2] fun x3 =>
.l (.okc 6 true) [x3] fun x4 =>
.ret x4
theorem k_typetree_replace_1 : TxOk P F.typetree_replace_1 3 t_typetree_replace_1 := txOk_of (H := {}) (plans := []) hm Tryd.func96 rfl rfl fun xs => by kernel_rfl
def t_head_Raise (xs : List PV) : T PV :=
.l (.okc 2 true) [(n xs 0)] fun x0 =>
.l (.arith .add .i64) [(c 1 x0), (n xs 1)] fun x1 =>
.l (.okc 1 false) [x1] fun x2 =>
.ret (.agg [(c 0 x0), x2])
theorem k_head_Raise : TxOk P F.head_Raise 2 t_head_Raise := txOk_of (H := {}) (plans := []) hm Tryd.func97 rfl rfl fun xs => by kernel_rfl
def t_ref02_in (xs : List PV) : T PV :=
.loop [(i 0)] fun y0 =>
.l .len [(n xs 1)] fun x1 =>
.l (.cmp .lss .i64) [(n y0 0), x1] fun x2 =>
.ite x2 (
 .l (.idx 1 false) [(n xs 1), (n y0 0)] fun x3 =>
 .l (.scmp .eql) [x3, (n xs 0)] fun x4 =>
 .ite x4 (
  .ret (.bool true)) (
  .l (.arith .add .i64) [(n y0 0), (i 1)] fun x5 =>
  .cont 0 [x5])) (
 .ret (.bool false))
theorem k_ref02_in : TxOk P F.ref02_in 2 t_ref02_in := txOk_of (H := {}) (plans := []) hm Tryd.func98 rfl rfl fun xs => by kernel_rfl
def t_ref01_Word (xs : List PV) : T PV :=
.l .slen [(n xs 0)] fun x0 =>
.l (.cmp .eql .i64) [x0, (i 0)] fun x1 =>
.ite x1 (
 .ret (.bool false)) (
 .l .sidx [(n xs 0), (i 0)] fun x2 =>
 .call F.ref01_Letters [] fun x3 =>
 .call F.ref01_in [x2, x3] fun x4 =>
 .l .bnot [x4] fun x5 =>
 .ite x5 (
  .ret (.bool false)) (
  .loop [(i 1)] fun y6 =>
  .l .slen [(n xs 0)] fun x7 =>
  .l (.cmp .lss .i64) [(n y6 0), x7] fun x8 =>
  .ite x8 (
   .l .sidx [(n xs 0), (n y6 0)] fun x9 =>
   .call F.ref01_Letters [] fun x10 =>
   .call F.ref01_in [x9, x10] fun x11 =>
   .l .bnot [x11] fun x12 =>
   .ite x12 (
    .l .sidx [(n xs 0), (n y6 0)] fun x13 =>
    .call F.ref01_digits [] fun x14 =>
    .call F.ref01_in [x13, x14] fun x15 =>
    .l .bnot [x15] fun x16 =>
    .ite x16 (
     .ret (.bool false)) (
     .l (.arith .add .i64) [(n y6 0), (i 1)] fun x17 =>
     .cont 0 [x17])) (
    .l (.arith .add .i64) [(n y6 0), (i 1)] fun x13 =>
    .cont 0 [x13])) (
   .ret (.bool true))))
theorem k_ref01_Word : TxOk P F.ref01_Word 1 t_ref01_Word := txOk_of (H := {}) (plans := []) hm Tryd.func99 rfl rfl fun xs => by kernel_rfl
def t_ref01_Keyword (xs : List PV) : T PV :=
.l (.lst 1 false) [(.str ⟨#[100, 101, 102]⟩), (.str ⟨#[109, 97, 105, 110]⟩), (.str ⟨#[115, 116, 111, 112]⟩), (.str ⟨#[110, 101, 119]⟩), (.str ⟨#[105, 110, 116]⟩), (.str ⟨#[98, 111, 111, 108]⟩), (.str ⟨#[101, 110, 100]⟩), (.str ⟨#[114, 101, 99]⟩), (.str ⟨#[116, 114, 117, 101]⟩), (.str ⟨#[102, 97, 108, 115, 101]⟩)] fun x0 =>
.loop [(i 0)] fun y1 =>
.l .len [x0] fun x2 =>
.l (.cmp .lss .i64) [(n y1 0), x2] fun x3 =>
.ite x3 (
 .l (.idx 1 false) [x0, (n y1 0)] fun x4 =>
 .l (.scmp .eql) [x4, (n xs 0)] fun x5 =>
 .ite x5 (
  .ret (.bool true)) (
  .l (.arith .add .i64) [(n y1 0), (i 1)] fun x6 =>
  .cont 0 [x6])) (
 .ret (.bool false))
theorem k_ref01_Keyword : TxOk P F.ref01_Keyword 1 t_ref01_Keyword := txOk_of (H := {}) (plans := []) hm Tryd.func100 rfl rfl fun xs => by kernel_rfl
def t_typetree_Raise_1 (xs : List PV) : T PV :=
.l (.okc 6 true) [(n xs 0)] fun x0 =>
.l (.unbox 1 false) [(n xs 1)] fun x1 =>
.call F.typetree_Raise [x0, x1] fun x2 =>
.l (.okc 6 true) [x2] fun x3 =>
.ret x3
theorem k_typetree_Raise_1 : TxOk P F.typetree_Raise_1 2 t_typetree_Raise_1 := txOk_of (H := {}) (plans := []) hm Tryd.func101 rfl rfl fun xs => by kernel_rfl
def t_ref01_in (xs : List PV) : T PV :=
.loop [(i 0)] fun y0 =>
.l .slen [(n xs 1)] fun x1 =>
.l (.cmp .lss .i64) [(n y0 0), x1] fun x2 =>
.ite x2 (
 .l .sidx [(n xs 1), (n y0 0)] fun x3 =>
 .l (.cmp .eql .u8) [x3, (n xs 0)] fun x4 =>
 .ite x4 (
  .ret (.bool true)) (
  .l (.arith .add .i64) [(n y0 0), (i 1)] fun x5 =>
  .cont 0 [x5])) (
 .ret (.bool false))
theorem k_ref01_in : TxOk P F.ref01_in 2 t_ref01_in := txOk_of (H := {}) (plans := []) hm Tryd.func102 rfl rfl fun xs => by kernel_rfl
def t_ref01_Letters (xs : List PV) : T PV :=
.ret (.str ⟨#[65, 66, 67, 68, 69, 70, 71, 72, 73, 74, 75, 76, 77, 78, 79, 80, 81, 82, 83, 84, 85, 86, 87, 88, 89, 90, 97, 98, 99, 100, 101, 102, 103, 104, 105, 106, 107, 108, 109, 110, 111, 112, 113, 114, 115, 116, 117, 118, 119, 120, 121, 122, 95]⟩)
theorem k_ref01_Letters : TxOk P F.ref01_Letters 0 t_ref01_Letters := txOk_of (H := {}) (plans := []) hm Tryd.func103 rfl rfl fun xs => by kernel_rfl
def t_ref01_digits (xs : List PV) : T PV :=
.ret (.str ⟨#[48, 49, 50, 51, 52, 53, 54, 55, 56, 57]⟩)
theorem k_ref01_digits : TxOk P F.ref01_digits 0 t_ref01_digits := txOk_of (H := {}) (plans := []) hm Tryd.func104 rfl rfl fun xs => by kernel_rfl
def tb : List (Nat × Tx) := [(F.law11_SubtypeDuals, ⟨2, t_law11_SubtypeDuals⟩), (F.law11_SubtypeFits, ⟨2, t_law11_SubtypeFits⟩), (F.law11_SubtypeLabels, ⟨3, t_law11_SubtypeLabels⟩), (F.law21_MonitorDuals, ⟨2, t_law21_MonitorDuals⟩), (F.law21_MonitorApart, ⟨2, t_law21_MonitorApart⟩), (F.law11_SubtypeOrders, ⟨4, t_law11_SubtypeOrders⟩), (F.law11_awake, ⟨0, t_law11_awake⟩), (F.ref02_Small, ⟨2, t_ref02_Small⟩), (F.ref02_Session, ⟨1, t_ref02_Session⟩), (F.law08_Graph, ⟨1, t_law08_Graph⟩), (F.dual_Close, ⟨1, t_dual_Close⟩), (F.dual_Of, ⟨2, t_dual_Of⟩), (F.subtype_Sub, ⟨3, t_subtype_Sub⟩), (F.subtype_Fits, ⟨3, t_subtype_Fits⟩), (F.ref11_Dual, ⟨1, t_ref11_Dual⟩), (F.ref11_Sub, ⟨2, t_ref11_Sub⟩), (F.ref02_Raise, ⟨2, t_ref02_Raise⟩), (F.ref02_Right, ⟨1, t_ref02_Right⟩), (F.law21_awake, ⟨0, t_law21_awake⟩), (F.ref21_Right, ⟨1, t_ref21_Right⟩), (F.ref14_Dual, ⟨1, t_ref14_Dual⟩), (F.ref21_Blown, ⟨1, t_ref21_Blown⟩), (F.ref21_Observe, ⟨2, t_ref21_Observe⟩), (F.monitor_Monitor_Settled, ⟨1, t_monitor_Monitor_Settled⟩), (F.law21_states, ⟨1, t_law21_states⟩), (F.ref02_Same, ⟨2, t_ref02_Same⟩), (F.subtype_Same, ⟨3, t_subtype_Same⟩), (F.equal_Equal, ⟨3, t_equal_Equal⟩), (F.ref02_Few, ⟨2, t_ref02_Few⟩), (F.ref07_Build, ⟨1, t_ref07_Build⟩), (F.dual_mapped_graph_Node_graph_Node, ⟨2, t_dual_mapped_graph_Node_graph_Node⟩), (F.dual_Close_1, ⟨2, t_dual_Close_1⟩), (F.slices_Clone_string_string, ⟨1, t_slices_Clone_string_string⟩), (F.slices_Clone_graph_Ref_graph_Ref, ⟨1, t_slices_Clone_graph_Ref_graph_Ref⟩), (F.dual_Close_2, ⟨3, t_dual_Close_2⟩), (F.dual_mapped_graph_Ref_graph_Ref, ⟨2, t_dual_mapped_graph_Ref_graph_Ref⟩), (F.dual_Close_2_1, ⟨4, t_dual_Close_2_1⟩), (F.dual_rest, ⟨2, t_dual_rest⟩), (F.dual_Kind, ⟨1, t_dual_Kind⟩), (F.ref09_Kind, ⟨1, t_ref09_Kind⟩), (F.ref11_reached, ⟨1, t_ref11_reached⟩), (F.ref10_Lower, ⟨2, t_ref10_Lower⟩), (F.ref11_needs, ⟨1, t_ref11_needs⟩), (F.ref11_index, ⟨2, t_ref11_index⟩), (F.ref02_Depth, ⟨1, t_ref02_Depth⟩), (F.ref02_Size, ⟨1, t_ref02_Size⟩), (F.ref02_node, ⟨4, t_ref02_node⟩), (F.monitor_Monitor_State, ⟨2, t_monitor_Monitor_State⟩), (F.monitor_Monitor_Len, ⟨1, t_monitor_Monitor_Len⟩), (F.ref14_dual, ⟨2, t_ref14_dual⟩), (F.ref02_Unfold, ⟨1, t_ref02_Unfold⟩), (F.monitor_Monitor_has, ⟨2, t_monitor_Monitor_has⟩), (F.slices_Index_string_string, ⟨2, t_slices_Index_string_string⟩), (F.monitor_fits, ⟨2, t_monitor_fits⟩), (F.typetree_Unfold, ⟨1, t_typetree_Unfold⟩), (F.slices_ContainsFunc_api_Type_api_Type, ⟨2, t_slices_ContainsFunc_api_Type_api_Type⟩), (F.monitor_Monitor_Settled_1, ⟨1, t_monitor_Monitor_Settled_1⟩), (F.ref02_texts, ⟨2, t_ref02_texts⟩), (F.equal_Equal_1, ⟨3, t_equal_Equal_1⟩), (F.head_Prio, ⟨2, t_head_Prio⟩), (F.ref02_count, ⟨2, t_ref02_count⟩), (F.ref07_reference, ⟨4, t_ref07_reference⟩), (F.ref07_nodes, ⟨4, t_ref07_nodes⟩), (F.head_Kind, ⟨2, t_head_Kind⟩), (F.subtype_relation_next, ⟨6, t_subtype_relation_next⟩), (F.subtype_relation_down, ⟨3, t_subtype_relation_down⟩), (F.subtype_relation_labels, ⟨4, t_subtype_relation_labels⟩), (F.ref10_Seen, ⟨2, t_ref10_Seen⟩), (F.ref08_Prio, ⟨1, t_ref08_Prio⟩), (F.ref08_Label, ⟨2, t_ref08_Label⟩), (F.ref02_shape, ⟨1, t_ref02_shape⟩), (F.typetree_Copy, ⟨1, t_typetree_Copy⟩), (F.ref14_closed, ⟨2, t_ref14_closed⟩), (F.ref02_put, ⟨3, t_ref02_put⟩), (F.monitor_values, ⟨0, t_monitor_values⟩), (F.typetree_replace, ⟨3, t_typetree_replace⟩), (F.slices_IndexFunc_api_Type_api_Type, ⟨2, t_slices_IndexFunc_api_Type_api_Type⟩), (F.head_action, ⟨1, t_head_action⟩), (F.equal_comparison_key, ⟨3, t_equal_comparison_key⟩), (F.head_Next, ⟨3, t_head_Next⟩), (F.ref07_Count, ⟨1, t_ref07_Count⟩), (F.head_Label, ⟨3, t_head_Label⟩), (F.ref02_prio, ⟨1, t_ref02_prio⟩), (F.ref02_Labels, ⟨1, t_ref02_Labels⟩), (F.ref01_Name, ⟨1, t_ref01_Name⟩), (F.typetree_mapped, ⟨2, t_typetree_mapped⟩), (F.typetree_Raise, ⟨2, t_typetree_Raise⟩), (F.typetree_replace_1, ⟨3, t_typetree_replace_1⟩), (F.head_Raise, ⟨2, t_head_Raise⟩), (F.ref02_in, ⟨2, t_ref02_in⟩), (F.ref01_Word, ⟨1, t_ref01_Word⟩), (F.ref01_Keyword, ⟨1, t_ref01_Keyword⟩), (F.typetree_Raise_1, ⟨2, t_typetree_Raise_1⟩), (F.ref01_in, ⟨2, t_ref01_in⟩), (F.ref01_Letters, ⟨0, t_ref01_Letters⟩), (F.ref01_digits, ⟨0, t_ref01_digits⟩)]
def tbS : List (Nat × TxS) := [(F.ref02_Raise, ⟨sg_ref02_Raise, u_ref02_Raise⟩), (F.ref02_Raise, ⟨sg_ref02_Raise_Lb, u_ref02_Raise_Lb⟩), (F.monitor_New, ⟨sg_monitor_New, u_monitor_New⟩), (F.monitor_Monitor_Observe, ⟨sg_monitor_Monitor_Observe, u_monitor_Monitor_Observe⟩), (F.monitor_Monitor_Observe, ⟨sg_monitor_Monitor_Observe_Nil, u_monitor_Monitor_Observe_Nil⟩), (F.law21_states, ⟨sg_law21_states, u_law21_states⟩), (F.dual_mapped_graph_Node_graph_Node, ⟨sg_dual_mapped_graph_Node_graph_Node, u_dual_mapped_graph_Node_graph_Node⟩), (F.slices_Clone_string_string, ⟨sg_slices_Clone_string_string, u_slices_Clone_string_string⟩), (F.slices_Clone_graph_Ref_graph_Ref, ⟨sg_slices_Clone_graph_Ref_graph_Ref, u_slices_Clone_graph_Ref_graph_Ref⟩), (F.subtype_relation_sub, ⟨sg_subtype_relation_sub, u_subtype_relation_sub⟩), (F.monitor_Monitor_State, ⟨sg_monitor_Monitor_State, u_monitor_Monitor_State⟩), (F.monitor_Monitor_Add, ⟨sg_monitor_Monitor_Add, u_monitor_Monitor_Add⟩), (F.equal_comparison_equal, ⟨sg_equal_comparison_equal, u_equal_comparison_equal⟩), (F.subtype_relation_next, ⟨sg_subtype_relation_next_Dn, u_subtype_relation_next_Dn⟩), (F.subtype_relation_next, ⟨sg_subtype_relation_next_Sb, u_subtype_relation_next_Sb⟩), (F.subtype_relation_down, ⟨sg_subtype_relation_down, u_subtype_relation_down⟩), (F.subtype_relation_labels, ⟨sg_subtype_relation_labels, u_subtype_relation_labels⟩)]
theorem allOk : AllOk P tb := ⟨k_law11_SubtypeDuals, k_law11_SubtypeFits, k_law11_SubtypeLabels, k_law21_MonitorDuals, k_law21_MonitorApart, k_law11_SubtypeOrders, k_law11_awake, k_ref02_Small, k_ref02_Session, k_law08_Graph, k_dual_Close, k_dual_Of, k_subtype_Sub, k_subtype_Fits, k_ref11_Dual, k_ref11_Sub, k_ref02_Raise, k_ref02_Right, k_law21_awake, k_ref21_Right, k_ref14_Dual, k_ref21_Blown, k_ref21_Observe, k_monitor_Monitor_Settled, k_law21_states, k_ref02_Same, k_subtype_Same, k_equal_Equal, k_ref02_Few, k_ref07_Build, k_dual_mapped_graph_Node_graph_Node, k_dual_Close_1, k_slices_Clone_string_string, k_slices_Clone_graph_Ref_graph_Ref, k_dual_Close_2, k_dual_mapped_graph_Ref_graph_Ref, k_dual_Close_2_1, k_dual_rest, k_dual_Kind, k_ref09_Kind, k_ref11_reached, k_ref10_Lower, k_ref11_needs, k_ref11_index, k_ref02_Depth, k_ref02_Size, k_ref02_node, k_monitor_Monitor_State, k_monitor_Monitor_Len, k_ref14_dual, k_ref02_Unfold, k_monitor_Monitor_has, k_slices_Index_string_string, k_monitor_fits, k_typetree_Unfold, k_slices_ContainsFunc_api_Type_api_Type, k_monitor_Monitor_Settled_1, k_ref02_texts, k_equal_Equal_1, k_head_Prio, k_ref02_count, k_ref07_reference, k_ref07_nodes, k_head_Kind, k_subtype_relation_next, k_subtype_relation_down, k_subtype_relation_labels, k_ref10_Seen, k_ref08_Prio, k_ref08_Label, k_ref02_shape, k_typetree_Copy, k_ref14_closed, k_ref02_put, k_monitor_values, k_typetree_replace, k_slices_IndexFunc_api_Type_api_Type, k_head_action, k_equal_comparison_key, k_head_Next, k_ref07_Count, k_head_Label, k_ref02_prio, k_ref02_Labels, k_ref01_Name, k_typetree_mapped, k_typetree_Raise, k_typetree_replace_1, k_head_Raise, k_ref02_in, k_ref01_Word, k_ref01_Keyword, k_typetree_Raise_1, k_ref01_in, k_ref01_Letters, k_ref01_digits, trivial⟩
theorem allOkS : AllOkS P tbS := ⟨m_ref02_Raise, m_ref02_Raise_Lb, m_monitor_New, m_monitor_Monitor_Observe, m_monitor_Monitor_Observe_Nil, m_law21_states, m_dual_mapped_graph_Node_graph_Node, m_slices_Clone_string_string, m_slices_Clone_graph_Ref_graph_Ref, m_subtype_relation_sub, m_monitor_Monitor_State, m_monitor_Monitor_Add, m_equal_comparison_equal, m_subtype_relation_next_Dn, m_subtype_relation_next_Sb, m_subtype_relation_down, m_subtype_relation_labels, trivial⟩
end Go.Proofs.YtijamnklmohjfaaDoor.Tx

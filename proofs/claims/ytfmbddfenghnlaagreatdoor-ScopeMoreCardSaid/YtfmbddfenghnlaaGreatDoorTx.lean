/- Texts of functions, printed by a program (wip/dev/Gen.lean). -/
import Derived.Test.YtfmbddfenghnlaaGreatDoorLfD
import Derived.Test.YtfmbddfenghnlaaGreatDoorChecked
import Derived.KernelRfl
set_option linter.all false
namespace Go.Proofs.YtfmbddfenghnlaaGreatDoor.Tx
open Go.Lf Go.Lf.S
set_option maxRecDepth 100000
instance gl : Gl := { l := [(0, (.agg [(.str ⟨#[100, 101, 102]⟩), (.str ⟨#[109, 97, 105, 110]⟩), (.str ⟨#[115, 116, 111, 112]⟩), (.str ⟨#[110, 101, 119]⟩), (.str ⟨#[105, 110, 116]⟩), (.str ⟨#[98, 111, 111, 108]⟩), (.str ⟨#[101, 110, 100]⟩), (.str ⟨#[114, 101, 99]⟩), (.str ⟨#[116, 114, 117, 101]⟩), (.str ⟨#[102, 97, 108, 115, 101]⟩)]), 10, true)] }
noncomputable abbrev P : Program := Tryz.prog
instance xc : XC P := xc_none rfl
namespace F
abbrev law06_ScopeChecks : Nat := 3
abbrev law06_ScopeFinds : Nat := 4
abbrev law06_ScopeFree : Nat := 5
abbrev law06_ScopeMore : Nat := 6
abbrev law06_ScopeOrders : Nat := 7
abbrev law06_awake : Nat := 8
abbrev ref03_Little : Nat := 9
abbrev ref06_Check : Nat := 10
abbrev scope_Check : Nat := 11
abbrev ref03_Few : Nat := 12
abbrev scope_Find : Nat := 13
abbrev ref06_Find : Nat := 14
abbrev ref03_Texts : Nat := 15
abbrev scope_Calls : Nat := 16
abbrev ref06_Calls : Nat := 17
abbrev scope_Binders : Nat := 18
abbrev ref06_Binders : Nat := 19
abbrev ref06_Right : Nat := 20
abbrev ref03_Free : Nat := 21
abbrev ref03_Total : Nat := 22
abbrev ref03_Program : Nat := 23
abbrev ref03_In : Nat := 24
abbrev ref02_Few : Nat := 25
abbrev ref06_node : Nat := 26
abbrev proctree_Program : Nat := 27
abbrev scope_twice : Nat := 28
abbrev scope_params : Nat := 29
abbrev scope_names_with : Nat := 30
abbrev scope_walker_walk : Nat := 31
abbrev ref03_left : Nat := 32
abbrev ref03_Depth : Nat := 33
abbrev slices_IndexFunc_api_Def_api_Def : Nat := 34
abbrev scope_Find_1 : Nat := 35
abbrev scope_collect : Nat := 36
abbrev scope_Calls_1 : Nat := 37
abbrev scope_bound : Nat := 38
abbrev ref03_uses : Nat := 39
abbrev ref03_Size : Nat := 40
abbrev ref03_types : Nat := 41
abbrev ref02_Size : Nat := 42
abbrev ref03_Right : Nat := 43
abbrev ref03_name : Nat := 44
abbrev ref02_Right : Nat := 45
abbrev ref02_count : Nat := 46
abbrev ref02_Depth : Nat := 47
abbrev proctree_Total : Nat := 48
abbrev proctree_Right : Nat := 49
abbrev lex_Name : Nat := 50
abbrev slices_ContainsFunc_api_Param_api_Param : Nat := 51
abbrev proctree_Program_1 : Nat := 52
abbrev typetree_Right : Nat := 53
abbrev slices_Sort_string_string : Nat := 54
abbrev slices_Compact_string_string : Nat := 55
abbrev slices_Clone_string_string : Nat := 56
abbrev maps_Clone_scope_names_string_bool : Nat := 57
abbrev scope_walker_node : Nat := 58
abbrev proctree_Prefix : Nat := 59
abbrev scope_collect_1 : Nat := 60
abbrev ref03_nodes : Nat := 61
abbrev ref01_Name : Nat := 62
abbrev ref02_node : Nat := 63
abbrev proctree_weight : Nat := 64
abbrev typetree_Size : Nat := 65
abbrev proctree_shallow : Nat := 66
abbrev proctree_few : Nat := 67
abbrev proctree_all : Nat := 68
abbrev proctree_shape : Nat := 69
abbrev lex_letter : Nat := 70
abbrev lex_span : Nat := 71
abbrev lex_Name_1 : Nat := 72
abbrev lex_digit : Nat := 73
abbrev lex_Keyword : Nat := 74
abbrev slices_IndexFunc_api_Param_api_Param : Nat := 75
abbrev typetree_shallow : Nat := 76
abbrev typetree_few : Nat := 77
abbrev typetree_check : Nat := 78
abbrev slices_pdqsortOrdered_string : Nat := 79
abbrev math_bits_Len : Nat := 80
abbrev slices_ContainsFunc_api_Value_api_Value : Nat := 82
abbrev scope_walker_node_1 : Nat := 83
abbrev scope_walker_call : Nat := 84
abbrev ref03_node : Nat := 85
abbrev ref01_Word : Nat := 86
abbrev ref01_Keyword : Nat := 87
abbrev ref02_shape : Nat := 88
abbrev ref02_Session : Nat := 89
abbrev proctree_weight_1 : Nat := 90
abbrev typetree_nodes : Nat := 91
abbrev slices_ContainsFunc_api_Proc_api_Proc : Nat := 92
abbrev proctree_shallow_1 : Nat := 93
abbrev proctree_few_1 : Nat := 94
abbrev proctree_all_1 : Nat := 95
abbrev proctree_rules : Nat := 96
abbrev proctree_named : Nat := 97
abbrev proctree_typed : Nat := 98
abbrev proctree_distinct : Nat := 99
abbrev proctree_shape_1 : Nat := 100
abbrev proctree_value : Nat := 101
abbrev slices_Contains_string_string : Nat := 102
abbrev slices_ContainsFunc_api_Type_api_Type : Nat := 103
abbrev typetree_shallow_1 : Nat := 104
abbrev typetree_fields : Nat := 105
abbrev typetree_Session : Nat := 106
abbrev typetree_find : Nat := 107
abbrev slices_Clone_typetree_bound_typetree_bound : Nat := 108
abbrev slices_insertionSortOrdered_string : Nat := 109
abbrev slices_heapSortOrdered_string : Nat := 110
abbrev slices_breakPatternsOrdered_string : Nat := 111
abbrev slices_choosePivotOrdered_string : Nat := 112
abbrev slices_reverseRangeOrdered_string : Nat := 113
abbrev slices_partialInsertionSortOrdered_string : Nat := 114
abbrev cmp_Less_string : Nat := 115
abbrev slices_partitionEqualOrdered_string : Nat := 116
abbrev slices_partitionOrdered_string : Nat := 117
abbrev math_bits_Len32 : Nat := 118
abbrev math_bits_Len64 : Nat := 119
abbrev slices_IndexFunc_api_Value_api_Value : Nat := 120
abbrev ref03_value : Nat := 121
abbrev ref03_plain : Nat := 122
abbrev ref02_Labels : Nat := 123
abbrev ref01_in : Nat := 124
abbrev ref01_Letters : Nat := 125
abbrev ref01_digits : Nat := 126
abbrev ref02_prio : Nat := 127
abbrev typetree_nodes_1 : Nat := 128
abbrev typetree_visit : Nat := 129
abbrev slices_IndexFunc_api_Proc_api_Proc : Nat := 130
abbrev proctree_kidsOf : Nat := 131
abbrev proctree_each : Nat := 132
abbrev proctree_several : Nat := 133
abbrev typetree_Same : Nat := 134
abbrev slices_Index_string_string : Nat := 135
abbrev slices_IndexFunc_api_Type_api_Type : Nat := 136
abbrev typetree_rules : Nat := 137
abbrev typetree_within : Nat := 138
abbrev typetree_distinct : Nat := 139
abbrev slices_Backward_typetree_bound_typetree_bound : Nat := 140
abbrev slices_siftDownOrdered_string : Nat := 141
abbrev slices_nextPowerOfTwo : Nat := 142
abbrev slices_xorshift_Next : Nat := 143
abbrev slices_medianAdjacentOrdered_string : Nat := 144
abbrev slices_medianOrdered_string : Nat := 145
abbrev cmp_isNaN_string : Nat := 146
abbrev ref02_Same : Nat := 147
abbrev ref02_in : Nat := 148
abbrev proctree_kidsOf_1 : Nat := 149
abbrev proctree_several_1 : Nat := 150
abbrev slices_Equal_string_string : Nat := 151
abbrev slices_EqualFunc_api_Type_api_Type_api_Type_api_Type : Nat := 152
abbrev slices_Backward_typetree_bound_typetree_bound_1 : Nat := 153
abbrev slices_order2Ordered_string : Nat := 154
abbrev ref02_texts : Nat := 155
end F
theorem hm : Tryz.prog.follows .mixedOrders = true := by kernel_rfl
/-- duologue/duologueref06.Calls, with memory -/
def sg_ref06_Calls_Fr : Sig := { args := [.at (.dat 0)], obs := [], res := .at (.own 9000), robs := [(9000, .arr true 9 1 false 0)], nout := 1 }
/-- duologue/scope.twice, with memory -/
def sg_scope_twice : Sig := { args := [.at (.own 9000)], obs := [(9000, .arr false 9 1 false 0)], res := .at (.dat 0), robs := [], nout := 1 }
/-- duologue/scope.params, with memory -/
def sg_scope_params : Sig := { args := [.at (.dat 0)], obs := [], res := .at (.own 9000), robs := [(9000, .arr false 9 1 false 0)], nout := 1 }
/-- slices.Sort[[]string,string], with memory -/
def sg_slices_Sort_string_string : Sig := { args := [.at (.own 9000)], obs := [(9000, .arr false 9 1 false 0)], res := .at (.dat 0), robs := [(9000, .arr false 9 1 false 1)], nout := 2 }
/-- slices.Compact[[]string,string], with memory -/
def sg_slices_Compact_string_string : Sig := { args := [.at (.own 9000)], obs := [(9000, .arr false 9 1 false 0)], res := .at (.own 9002), robs := [(9002, .arr false 9 1 false 0)], nout := 1 }
/-- slices.Clone[[]string,string], with memory -/
def sg_slices_Clone_string_string : Sig := { args := [.at (.dat 0)], obs := [], res := .at (.own 9000), robs := [(9000, .arr false 9 1 false 0)], nout := 1 }
/-- maps.Clone[duologue/scope.names,string,bool], with memory -/
def sg_maps_Clone_scope_names_string_bool : Sig := { args := [.at (.dat 0)], obs := [], res := .at (.mref 9001), robs := [(9001, .map false 0)], nout := 1 }
/-- duologue/scope.collect$1, with memory -/
def sg_scope_collect_1 : Sig := { args := [.at (.dat 0), .at (.ptr 9000 0), .at (.ptr 9012 0), .at (.ptr 9011 0)], obs := [(9000, .cells false 1 false (.pts [.own 9001])), (9012, .cells false 1 false (.pts [.dat 1])), (9011, .cells false 1 false (.pts [.clo 60 [] [(9000, 0), (9012, 0), (9011, 0)]])), (9001, .arr true 9 1 false 2)], res := .at (.dat 0), robs := [(9000, .cells false 1 false (.pts [.own 9002])), (9012, .cells false 1 false (.pts [.dat 1])), (9011, .cells false 1 false (.pts [.clo 60 [] [(9000, 0), (9012, 0), (9011, 0)]])), (9002, .arr true 9 1 false 2)], nout := 3 }
/-- duologue/proctree.all, with memory -/
def sg_proctree_all_Wg : Sig := { args := [.at (.dat 0), .at (.clo 90 [] [(9000, 0)])], obs := [(9000, .cells false 1 false (.pts [.dat 1]))], res := .at (.dat 0), robs := [(9000, .cells false 1 false (.pts [.dat 1]))], nout := 2 }
/-- duologue/proctree.all, with memory -/
def sg_proctree_all_Fw : Sig := { args := [.at (.dat 0), .at (.clo 94 [] [(9000, 0)])], obs := [(9000, .cells false 1 false (.pts [.dat 1]))], res := .at (.dat 0), robs := [(9000, .cells false 1 false (.pts [.dat 1]))], nout := 2 }
/-- slices.pdqsortOrdered[string], with memory -/
def sg_slices_pdqsortOrdered_string_Nil : Sig := { args := [.at (.own 9000), .at (.dat 0), .at (.dat 1), .at (.dat 2)], obs := [(9000, .arr false 9 1 false 3)], res := .at (.dat 0), robs := [(9000, .arr false 9 1 false 1)], nout := 2 }
/-- duologue/proctree.weight$1, with memory -/
def sg_proctree_weight_1 : Sig := { args := [.at (.dat 0), .at (.ptr 9000 0)], obs := [(9000, .cells false 1 false (.pts [.dat 1]))], res := .at (.dat 0), robs := [(9000, .cells false 1 false (.pts [.dat 1]))], nout := 2 }
/-- slices.ContainsFunc[[]duologue/api.Proc,duologue/api.Proc], with memory -/
def sg_slices_ContainsFunc_api_Proc_api_Proc_Wg : Sig := { args := [.at (.dat 0), .at (.clo 95 [] [(9001, 0)])], obs := [(9001, .cells false 1 false (.pts [.clo 90 [] [(9000, 0)]])), (9000, .cells false 1 false (.pts [.dat 1]))], res := .at (.dat 0), robs := [(9001, .cells false 1 false (.pts [.clo 90 [] [(9000, 0)]])), (9000, .cells false 1 false (.pts [.dat 1]))], nout := 2 }
/-- slices.ContainsFunc[[]duologue/api.Proc,duologue/api.Proc], with memory -/
def sg_slices_ContainsFunc_api_Proc_api_Proc_Fw : Sig := { args := [.at (.dat 0), .at (.clo 95 [] [(9001, 0)])], obs := [(9001, .cells false 1 false (.pts [.clo 94 [] [(9000, 0)]])), (9000, .cells false 1 false (.pts [.dat 1]))], res := .at (.dat 0), robs := [(9001, .cells false 1 false (.pts [.clo 94 [] [(9000, 0)]])), (9000, .cells false 1 false (.pts [.dat 1]))], nout := 2 }
/-- duologue/proctree.few$1, with memory -/
def sg_proctree_few_1 : Sig := { args := [.at (.dat 0), .at (.ptr 9000 0)], obs := [(9000, .cells false 1 false (.pts [.dat 1]))], res := .at (.dat 0), robs := [(9000, .cells false 1 false (.pts [.dat 1]))], nout := 2 }
/-- duologue/proctree.all$1, with memory -/
def sg_proctree_all_1_Wg : Sig := { args := [.at (.dat 0), .at (.ptr 9001 0)], obs := [(9001, .cells false 1 false (.pts [.clo 90 [] [(9000, 0)]])), (9000, .cells false 1 false (.pts [.dat 1]))], res := .at (.dat 0), robs := [(9001, .cells false 1 false (.pts [.clo 90 [] [(9000, 0)]])), (9000, .cells false 1 false (.pts [.dat 1]))], nout := 2 }
/-- duologue/proctree.all$1, with memory -/
def sg_proctree_all_1_Fw : Sig := { args := [.at (.dat 0), .at (.ptr 9001 0)], obs := [(9001, .cells false 1 false (.pts [.clo 94 [] [(9000, 0)]])), (9000, .cells false 1 false (.pts [.dat 1]))], res := .at (.dat 0), robs := [(9001, .cells false 1 false (.pts [.clo 94 [] [(9000, 0)]])), (9000, .cells false 1 false (.pts [.dat 1]))], nout := 2 }
/-- slices.Clone[[]duologue/typetree.bound,duologue/typetree.bound], with memory -/
def sg_slices_Clone_typetree_bound_typetree_bound : Sig := { args := [.at (.dat 0)], obs := [], res := .at (.own 9000), robs := [(9000, .arr false 121 2 true 0)], nout := 1 }
/-- slices.insertionSortOrdered[string], with memory -/
def sg_slices_insertionSortOrdered_string : Sig := { args := [.at (.own 9000), .at (.dat 0), .at (.dat 1)], obs := [(9000, .arr false 9 1 false 2)], res := .at (.dat 0), robs := [(9000, .arr false 9 1 false 1)], nout := 2 }
/-- slices.IndexFunc[[]duologue/api.Proc,duologue/api.Proc], with memory -/
def sg_slices_IndexFunc_api_Proc_api_Proc_Wg : Sig := { args := [.at (.dat 0), .at (.clo 95 [] [(9001, 0)])], obs := [(9001, .cells false 1 false (.pts [.clo 90 [] [(9000, 0)]])), (9000, .cells false 1 false (.pts [.dat 1]))], res := .at (.dat 0), robs := [(9001, .cells false 1 false (.pts [.clo 90 [] [(9000, 0)]])), (9000, .cells false 1 false (.pts [.dat 1]))], nout := 2 }
/-- slices.IndexFunc[[]duologue/api.Proc,duologue/api.Proc], with memory -/
def sg_slices_IndexFunc_api_Proc_api_Proc_Fw : Sig := { args := [.at (.dat 0), .at (.clo 95 [] [(9001, 0)])], obs := [(9001, .cells false 1 false (.pts [.clo 94 [] [(9000, 0)]])), (9000, .cells false 1 false (.pts [.dat 1]))], res := .at (.dat 0), robs := [(9001, .cells false 1 false (.pts [.clo 94 [] [(9000, 0)]])), (9000, .cells false 1 false (.pts [.dat 1]))], nout := 2 }
def t_law06_ScopeChecks (xs : List PV) : T PV :=
.l (.okc 13 true) [(n xs 0)] fun x0 =>
.call F.law06_awake [] fun x1 =>
.l .bnot [x1] fun x2 =>
.ite x2 (
 .call F.law06_awake [] fun x3 =>
 .ret x3) (
 .call F.ref03_Little [x0, (i 1000)] fun x3 =>
 .l .bnot [x3] fun x4 =>
 .ite x4 (
  .call F.law06_awake [] fun x5 =>
  .ret x5) (
  .call F.ref06_Check [x0] fun x5 =>
  .l (.tc 0) [x5] fun x6 =>
  .l (.tc 1) [x5] fun x7 =>
  .call F.scope_Check [x0] fun x8 =>
  .l (.okc 2 true) [x8] fun x9 =>
  .l (.cmp .eql .i64) [(c 0 x9), x6] fun x10 =>
  .ite x10 (
   .l (.cmp .eql .i64) [x6, (i 0)] fun x11 =>
   .ite x11 (
    .l (.cmp .eql .i64) [(c 1 x9), (i 0)] fun x12 =>
    .ite x12 (
     .ret (.bool true)) (
     .l (.cmp .neq .i64) [x6, (i 0)] fun x13 =>
     .ite x13 (
      .l (.cmp .eql .i64) [(c 1 x9), x7] fun x14 =>
      .ret x14) (
      .ret (.bool false)))) (
    .l (.cmp .neq .i64) [x6, (i 0)] fun x12 =>
    .ite x12 (
     .l (.cmp .eql .i64) [(c 1 x9), x7] fun x13 =>
     .ret x13) (
     .ret (.bool false)))) (
   .ret (.bool false))))
theorem k_law06_ScopeChecks : TxOk P F.law06_ScopeChecks 1 t_law06_ScopeChecks := txOk_of (H := {}) (plans := []) hm Tryz.func3 rfl rfl fun xs => by kernel_rfl
def t_law06_ScopeFinds (xs : List PV) : T PV :=
.l (.okc 13 true) [(n xs 0)] fun x0 =>
.l (.okc 12 true) [(n xs 1)] fun x1 =>
.call F.law06_awake [] fun x2 =>
.l .bnot [x2] fun x3 =>
.ite x3 (
 .call F.law06_awake [] fun x4 =>
 .ret x4) (
 .call F.ref03_Little [x0, (i 500)] fun x4 =>
 .l .bnot [x4] fun x5 =>
 .ite x5 (
  .call F.law06_awake [] fun x6 =>
  .ret x6) (
  .call F.ref03_Few [x1, (i 500)] fun x6 =>
  .l .bnot [x6] fun x7 =>
  .ite x7 (
   .call F.law06_awake [] fun x8 =>
   .ret x8) (
   .call F.scope_Find [x0, (n xs 2)] fun x8 =>
   .l (.tc 0) [x8] fun x9 =>
   .l (.tc 1) [x8] fun x10 =>
   .call F.ref06_Find [x0, (n xs 2)] fun x11 =>
   .l (.cmp .geq .i64) [x11, (i 0)] fun x12 =>
   .l (.bcmp .eql) [x10, x12] fun x13 =>
   .ite x13 (
    .l (.mx .i64) [x11, (i 0)] fun x14 =>
    .l (.cmp .eql .i64) [x9, x14] fun x15 =>
    .ite x15 (
     .call F.scope_Calls [x1] fun x16 =>
     .call F.ref06_Calls [x1] fun x17 =>
     .call F.ref03_Texts [x16, x17] fun x18 =>
     .ite x18 (
      .call F.scope_Binders [x1] fun x19 =>
      .call F.ref06_Binders [x1] fun x20 =>
      .call F.ref03_Texts [x19, x20] fun x21 =>
      .ret x21) (
      .ret (.bool false))) (
     .ret (.bool false))) (
    .ret (.bool false)))))
theorem k_law06_ScopeFinds : TxOk P F.law06_ScopeFinds 3 t_law06_ScopeFinds := txOk_of (H := {}) (plans := []) hm Tryz.func4 rfl rfl fun xs => by kernel_rfl
def t_law06_ScopeFree (xs : List PV) : T PV :=
.l (.okc 13 true) [(n xs 0)] fun x0 =>
.call F.law06_awake [] fun x1 =>
.l .bnot [x1] fun x2 =>
.ite x2 (
 .call F.law06_awake [] fun x3 =>
 .ret x3) (
 .call F.ref03_Little [x0, (i 1000)] fun x3 =>
 .l .bnot [x3] fun x4 =>
 .ite x4 (
  .call F.law06_awake [] fun x5 =>
  .ret x5) (
  .call F.scope_Check [x0] fun x5 =>
  .l (.okc 2 true) [x5] fun x6 =>
  .l (.cmp .neq .i64) [(c 0 x6), (i 0)] fun x7 =>
  .ite x7 (
   .call F.ref06_Right [x0, (i 1000)] fun x8 =>
   .l .bnot [x8] fun x9 =>
   .ret x9) (
   .loop [(i 0)] fun y8 =>
   .l .len [(c 0 x0)] fun x9 =>
   .l (.cmp .lss .i64) [(n y8 0), x9] fun x10 =>
   .ite x10 (
    .l (.idx 14 true) [(c 0 x0), (n y8 0)] fun x11 =>
    .call F.ref03_Free [(sb 2 12 x11)] fun x12 =>
    .loop [(i 0)] fun y13 =>
    .l .len [x12] fun x14 =>
    .l (.cmp .lss .i64) [(n y13 0), x14] fun x15 =>
    .ite x15 (
     .loop [(i 0), (.bool false)] fun y16 =>
     .l (.idx 14 true) [(c 0 x0), (n y8 0)] fun x17 =>
     .l .len [(c 1 x17)] fun x18 =>
     .l (.cmp .lss .i64) [(n y16 0), x18] fun x19 =>
     .ite x19 (
      .ite (n y16 1) (
       .l (.arith .add .i64) [(n y16 0), (i 1)] fun x20 =>
       .cont 2 [x20, (.bool true)]) (
       .l (.idx 14 true) [(c 0 x0), (n y8 0)] fun x20 =>
       .l (.idx 7 true) [(c 1 x20), (n y16 0)] fun x21 =>
       .l (.idx 1 false) [x12, (n y13 0)] fun x22 =>
       .l (.scmp .eql) [(c 0 x21), x22] fun x23 =>
       .l (.arith .add .i64) [(n y16 0), (i 1)] fun x24 =>
       .cont 2 [x24, x23])) (
      .l .bnot [(n y16 1)] fun x20 =>
      .ite x20 (
       .ret (.bool false)) (
       .l (.arith .add .i64) [(n y13 0), (i 1)] fun x21 =>
       .cont 1 [x21]))) (
     .l (.idx 14 true) [(c 0 x0), (n y8 0)] fun x16 =>
     .call F.ref06_Calls [(sb 2 12 x16)] fun x17 =>
     .loop [(i 0)] fun y18 =>
     .l .len [x17] fun x19 =>
     .l (.cmp .lss .i64) [(n y18 0), x19] fun x20 =>
     .ite x20 (
      .l (.idx 1 false) [x17, (n y18 0)] fun x21 =>
      .call F.ref06_Find [x0, x21] fun x22 =>
      .l (.cmp .lss .i64) [x22, (i 0)] fun x23 =>
      .ite x23 (
       .ret (.bool false)) (
       .l (.arith .add .i64) [(n y18 0), (i 1)] fun x24 =>
       .cont 2 [x24])) (
      .l (.arith .add .i64) [(n y8 0), (i 1)] fun x21 =>
      .cont 0 [x21]))) (
    .call F.ref03_Free [(sb 1 12 x0)] fun x11 =>
    .l .len [x11] fun x12 =>
    .l (.cmp .eql .i64) [x12, (i 0)] fun x13 =>
    .ret x13))))
theorem k_law06_ScopeFree : TxOk P F.law06_ScopeFree 1 t_law06_ScopeFree := txOk_of (H := {}) (plans := []) hm Tryz.func5 rfl rfl fun xs => by kernel_rfl
def t_law06_ScopeMore (xs : List PV) : T PV :=
.l (.okc 13 true) [(n xs 0)] fun x0 =>
.call F.law06_awake [] fun x1 =>
.l .bnot [x1] fun x2 =>
.ite x2 (
 .call F.law06_awake [] fun x3 =>
 .ret x3) (
 .call F.ref03_Little [x0, (i 500)] fun x3 =>
 .l .bnot [x3] fun x4 =>
 .ite x4 (
  .call F.law06_awake [] fun x5 =>
  .ret x5) (
  .call F.ref06_Find [x0, (n xs 1)] fun x5 =>
  .l (.cmp .geq .i64) [x5, (i 0)] fun x6 =>
  .ite x6 (
   .call F.law06_awake [] fun x7 =>
   .ret x7) (
   .call F.ref03_Total [x0] fun x7 =>
   .l (.cmp .gtr .i64) [x7, (i 9000)] fun x8 =>
   .ite x8 (
    .call F.law06_awake [] fun x9 =>
    .ret x9) (
    .l (.lst 14 true) [] fun x9 =>
    .l (.app 14 true 240) [x9, (c 0 x0)] fun x10 =>
    .l (.okcs [(1, false)]) [(n xs 1)] fun x11 =>
    .l (.lst 14 true) [(.agg [(n xs 1), (.sl []), (i 1), (.str ⟨#[]⟩), (.str ⟨#[]⟩), (.sl []), (.sl []), (i 0), (i 0), (.str ⟨#[]⟩), (i 0), (.sl []), (.sl []), (.sl [])])] fun x12 =>
    .l (.app 14 true 240) [x10, x12] fun x13 =>
    .l (.okcs [(12, true)]) [(sb 1 12 x0)] fun x14 =>
    .call F.scope_Check [x0] fun x15 =>
    .l (.okc 2 true) [x15] fun x16 =>
    .call F.scope_Check [(.agg [x13, (c 0 (sb 1 12 x0)), (c 1 (sb 1 12 x0)), (c 2 (sb 1 12 x0)), (c 3 (sb 1 12 x0)), (c 4 (sb 1 12 x0)), (c 5 (sb 1 12 x0)), (c 6 (sb 1 12 x0)), (c 7 (sb 1 12 x0)), (c 8 (sb 1 12 x0)), (c 9 (sb 1 12 x0)), (c 10 (sb 1 12 x0)), (c 11 (sb 1 12 x0))])] fun x17 =>
    .l (.okc 2 true) [x17] fun x18 =>
    .call F.ref03_Program [(.agg [x13, (c 0 (sb 1 12 x0)), (c 1 (sb 1 12 x0)), (c 2 (sb 1 12 x0)), (c 3 (sb 1 12 x0)), (c 4 (sb 1 12 x0)), (c 5 (sb 1 12 x0)), (c 6 (sb 1 12 x0)), (c 7 (sb 1 12 x0)), (c 8 (sb 1 12 x0)), (c 9 (sb 1 12 x0)), (c 10 (sb 1 12 x0)), (c 11 (sb 1 12 x0))])] fun x19 =>
    .l (.cmp .neq .i64) [x19, (i 0)] fun x20 =>
    .ite x20 (
     .l (.cmp .neq .i64) [(c 0 x18), (i 0)] fun x21 =>
     .ret x21) (
     .calls F.ref06_Calls sg_ref06_Calls_Fr [(sb 1 12 x0)] fun z21 =>
     .loop [(i 0), (n z21 0)] fun y22 =>
     .l .len [(c 0 x0)] fun x23 =>
     .l (.cmp .lss .i64) [(n y22 0), x23] fun x24 =>
     .ite x24 (
      .l (.idx 14 true) [(c 0 x0), (n y22 0)] fun x25 =>
      .call F.ref06_Calls [(sb 2 12 x25)] fun x26 =>
      .l (.app 1 false 16) [(n y22 1), x26] fun x27 =>
      .l (.arith .add .i64) [(n y22 0), (i 1)] fun x28 =>
      .cont 0 [x28, x27]) (
      .call F.ref03_In [(n xs 1), (n y22 1)] fun x25 =>
      .ite x25 (
       .ret (.bool true)) (
       .l (.cmp .neq .i64) [(c 0 x16), (i 0)] fun x26 =>
       .ite x26 (
        .l .len [(c 0 x0)] fun x27 =>
        .l (.cmp .eql .i64) [(c 1 x16), x27] fun x28 =>
        .ite x28 (
         .l (.cmp .eql .i64) [(c 0 x18), (c 0 x16)] fun x29 =>
         .ite x29 (
          .l (.arith .add .i64) [(c 1 x16), (i 1)] fun x30 =>
          .l (.cmp .eql .i64) [(c 1 x18), x30] fun x31 =>
          .ret x31) (
          .ret (.bool false))) (
         .l (.acmp .eql [.i .i64, .i .i64]) [x18, x16] fun x29 =>
         .ret x29)) (
        .l (.acmp .eql [.i .i64, .i .i64]) [x18, x16] fun x27 =>
        .ret x27))))))))
theorem k_law06_ScopeMore : TxOk P F.law06_ScopeMore 2 t_law06_ScopeMore := txOk_of (H := { wr := [], ro := [], nl := [], fz := [], da := [], sigs := [(2000053, sg_ref06_Calls_Fr)] }) (plans := []) hm Tryz.func6 rfl rfl fun xs => by kernel_rfl
def t_law06_ScopeOrders (xs : List PV) : T PV :=
.l (.okc 13 true) [(n xs 0)] fun x0 =>
.call F.law06_awake [] fun x1 =>
.l .bnot [x1] fun x2 =>
.ite x2 (
 .call F.law06_awake [] fun x3 =>
 .ret x3) (
 .call F.ref03_Little [x0, (i 500)] fun x3 =>
 .l .bnot [x3] fun x4 =>
 .ite x4 (
  .call F.law06_awake [] fun x5 =>
  .ret x5) (
  .l (.okcs [(12, true)]) [(sb 1 12 x0)] fun x5 =>
  .l .len [(c 0 x0)] fun x6 =>
  .l (.arith .sub .i64) [x6, (i 1)] fun x7 =>
  .loop [x7, (.sl []), (c 0 (sb 1 12 x0)), (c 1 (sb 1 12 x0)), (c 2 (sb 1 12 x0)), (c 3 (sb 1 12 x0)), (c 4 (sb 1 12 x0)), (c 5 (sb 1 12 x0)), (c 6 (sb 1 12 x0)), (c 7 (sb 1 12 x0)), (c 8 (sb 1 12 x0)), (c 9 (sb 1 12 x0)), (c 10 (sb 1 12 x0)), (c 11 (sb 1 12 x0))] fun y8 =>
  .l (.cmp .geq .i64) [(n y8 0), (i 0)] fun x9 =>
  .ite x9 (
   .l (.idx 14 true) [(c 0 x0), (n y8 0)] fun x10 =>
   .l (.lst 14 true) [x10] fun x11 =>
   .l (.app 14 true 240) [(n y8 1), x11] fun x12 =>
   .l (.arith .sub .i64) [(n y8 0), (i 1)] fun x13 =>
   .cont 0 [x13, x12, (n y8 2), (n y8 3), (n y8 4), (n y8 5), (n y8 6), (n y8 7), (n y8 8), (n y8 9), (n y8 10), (n y8 11), (n y8 12), (n y8 13)]) (
   .call F.scope_Check [x0] fun x10 =>
   .l (.okc 2 true) [x10] fun x11 =>
   .call F.scope_Check [(.agg [(n y8 1), (n y8 2), (n y8 3), (n y8 4), (n y8 5), (n y8 6), (n y8 7), (n y8 8), (n y8 9), (n y8 10), (n y8 11), (n y8 12), (n y8 13)])] fun x12 =>
   .l (.okc 2 true) [x12] fun x13 =>
   .l (.cmp .eql .i64) [(c 0 x11), (i 0)] fun x14 =>
   .l (.cmp .eql .i64) [(c 0 x13), (i 0)] fun x15 =>
   .l (.bcmp .eql) [x14, x15] fun x16 =>
   .ite x16 (
    .l (.cmp .neq .i64) [(c 0 x11), (i 0)] fun x17 =>
    .ite x17 (
     .ret (.bool true)) (
     .l (.acmp .eql [.i .i64, .i .i64]) [x11, (.agg [(i 0), (i 0)])] fun x18 =>
     .ite x18 (
      .l (.acmp .eql [.i .i64, .i .i64]) [x13, (.agg [(i 0), (i 0)])] fun x19 =>
      .ret x19) (
      .ret (.bool false)))) (
    .ret (.bool false)))))
theorem k_law06_ScopeOrders : TxOk P F.law06_ScopeOrders 1 t_law06_ScopeOrders := txOk_of (H := {}) (plans := []) hm Tryz.func7 rfl rfl fun xs => by kernel_rfl
def t_law06_awake (xs : List PV) : T PV :=
.l (.lst 3 true) [(.agg [(i 1), (.str ⟨#[97]⟩), (i 0)])] fun x0 =>
.l (.lst 7 true) [(.agg [(.str ⟨#[97]⟩), (i 3), (i 0), (.str ⟨#[]⟩), (i 0), (.sl []), (.sl [])])] fun x1 =>
.l (.lst 14 true) [(.agg [(.str ⟨#[88]⟩), x1, (i 8), (.str ⟨#[88]⟩), (.str ⟨#[]⟩), (.sl []), x0, (i 0), (i 0), (.str ⟨#[]⟩), (i 0), (.sl []), (.sl []), (.sl [])])] fun x2 =>
.l (.lst 12 true) [(.agg [(i 8), (.str ⟨#[88]⟩), (.str ⟨#[]⟩), (.sl []), x0, (i 0), (i 0), (.str ⟨#[]⟩), (i 0), (.sl []), (.sl []), (.sl [])])] fun x3 =>
.l (.lst 14 true) [(.agg [(.str ⟨#[88]⟩), x1, (i 3), (.str ⟨#[97]⟩), (.str ⟨#[120]⟩), (.sl []), (.sl []), (i 0), (i 0), (.str ⟨#[]⟩), (i 0), (.sl []), (.sl []), x3])] fun x4 =>
.call F.scope_Find [(.agg [x4, (i 1), (.str ⟨#[]⟩), (.str ⟨#[]⟩), (.sl []), (.sl []), (i 0), (i 0), (.str ⟨#[]⟩), (i 0), (.sl []), (.sl []), (.sl [])]), (.str ⟨#[88]⟩)] fun x5 =>
.l (.tc 0) [x5] fun x6 =>
.l (.tc 1) [x5] fun x7 =>
.call F.scope_Check [(.agg [x2, (i 1), (.str ⟨#[]⟩), (.str ⟨#[]⟩), (.sl []), (.sl []), (i 0), (i 0), (.str ⟨#[]⟩), (i 0), (.sl []), (.sl []), (.sl [])])] fun x8 =>
.l (.acmp .eql [.i .i64, .i .i64]) [x8, (.agg [(i 7), (i 0)])] fun x9 =>
.ite x9 (
 .call F.scope_Check [(.agg [(.sl []), (i 8), (.str ⟨#[88]⟩), (.str ⟨#[]⟩), (.sl []), (.sl []), (i 0), (i 0), (.str ⟨#[]⟩), (i 0), (.sl []), (.sl []), (.sl [])])] fun x10 =>
 .l (.acmp .eql [.i .i64, .i .i64]) [x10, (.agg [(i 4), (i 0)])] fun x11 =>
 .ite x11 (
  .call F.scope_Check [(.agg [x4, (i 1), (.str ⟨#[]⟩), (.str ⟨#[]⟩), (.sl []), (.sl []), (i 0), (i 0), (.str ⟨#[]⟩), (i 0), (.sl []), (.sl []), (.sl [])])] fun x12 =>
  .l (.acmp .eql [.i .i64, .i .i64]) [x12, (.agg [(i 0), (i 0)])] fun x13 =>
  .ite x13 (
   .l (.cmp .eql .i64) [x6, (i 0)] fun x14 =>
   .ite x14 (
    .ite x7 (
     .l (.idx 14 true) [x4, (i 0)] fun x15 =>
     .call F.scope_Calls [(sb 2 12 x15)] fun x16 =>
     .l (.lst 1 false) [(.str ⟨#[88]⟩)] fun x17 =>
     .call F.ref03_Texts [x16, x17] fun x18 =>
     .ite x18 (
      .l (.idx 14 true) [x4, (i 0)] fun x19 =>
      .call F.scope_Binders [(sb 2 12 x19)] fun x20 =>
      .l (.lst 1 false) [(.str ⟨#[120]⟩)] fun x21 =>
      .call F.ref03_Texts [x20, x21] fun x22 =>
      .ret x22) (
      .ret (.bool false))) (
     .ret (.bool false))) (
    .ret (.bool false))) (
   .ret (.bool false))) (
  .ret (.bool false))) (
 .ret (.bool false))
theorem k_law06_awake : TxOk P F.law06_awake 0 t_law06_awake := txOk_of (H := {}) (plans := []) hm Tryz.func8 rfl rfl fun xs => by kernel_rfl
def t_ref03_Little (xs : List PV) : T PV :=
.l (.okc 13 true) [(n xs 0)] fun x0 =>
.l .len [(c 0 x0)] fun x1 =>
.l (.cmp .gtr .i64) [x1, (i 20)] fun x2 =>
.ite x2 (
 .ret (.bool false)) (
 .call F.ref03_Few [(sb 1 12 x0), (n xs 1)] fun x3 =>
 .l .bnot [x3] fun x4 =>
 .ite x4 (
  .ret (.bool false)) (
  .loop [(i 0)] fun y5 =>
  .l .len [(c 0 x0)] fun x6 =>
  .l (.cmp .lss .i64) [(n y5 0), x6] fun x7 =>
  .ite x7 (
   .l (.idx 14 true) [(c 0 x0), (n y5 0)] fun x8 =>
   .call F.ref03_Few [(sb 2 12 x8), (n xs 1)] fun x9 =>
   .l .bnot [x9] fun x10 =>
   .ite x10 (
    .ret (.bool false)) (
    .l (.idx 14 true) [(c 0 x0), (n y5 0)] fun x11 =>
    .l .len [(c 1 x11)] fun x12 =>
    .l (.cmp .gtr .i64) [x12, (i 20)] fun x13 =>
    .ite x13 (
     .ret (.bool false)) (
     .loop [(i 0)] fun y14 =>
     .l (.idx 14 true) [(c 0 x0), (n y5 0)] fun x15 =>
     .l .len [(c 1 x15)] fun x16 =>
     .l (.cmp .lss .i64) [(n y14 0), x16] fun x17 =>
     .ite x17 (
      .l (.idx 14 true) [(c 0 x0), (n y5 0)] fun x18 =>
      .l (.idx 7 true) [(c 1 x18), (n y14 0)] fun x19 =>
      .call F.ref02_Few [(sb 1 6 x19), (i 300)] fun x20 =>
      .l .bnot [x20] fun x21 =>
      .ite x21 (
       .ret (.bool false)) (
       .l (.arith .add .i64) [(n y14 0), (i 1)] fun x22 =>
       .cont 1 [x22])) (
      .l (.arith .add .i64) [(n y5 0), (i 1)] fun x18 =>
      .cont 0 [x18])))) (
   .ret (.bool true))))
theorem k_ref03_Little : TxOk P F.ref03_Little 2 t_ref03_Little := txOk_of (H := {}) (plans := []) hm Tryz.func9 rfl rfl fun xs => by kernel_rfl
def t_ref06_Check (xs : List PV) : T PV :=
.l (.okc 13 true) [(n xs 0)] fun x0 =>
.call F.ref03_Program [x0] fun x1 =>
.l (.cmp .neq .i64) [x1, (i 0)] fun x2 =>
.ite x2 (
 .ret (.tup [x1, (i 0)])) (
 .loop [(i 0)] fun y3 =>
 .l .len [(c 0 x0)] fun x4 =>
 .l (.cmp .lss .i64) [(n y3 0), x4] fun x5 =>
 .ite x5 (
  .l (.idx 14 true) [(c 0 x0), (n y3 0)] fun x6 =>
  .l (.okc 14 true) [x6] fun x7 =>
  .call F.ref06_Find [x0, (c 0 x7)] fun x8 =>
  .l (.cmp .lss .i64) [x8, (n y3 0)] fun x9 =>
  .ite x9 (
   .ret (.tup [(i 5), (n y3 0)])) (
   .loop [(i 0)] fun y10 =>
   .l .len [(c 1 x7)] fun x11 =>
   .l (.cmp .lss .i64) [(n y10 0), x11] fun x12 =>
   .ite x12 (
    .loop [(i 0)] fun y13 =>
    .l (.cmp .lss .i64) [(n y13 0), (n y10 0)] fun x14 =>
    .ite x14 (
     .l (.idx 7 true) [(c 1 x7), (n y13 0)] fun x15 =>
     .l (.idx 7 true) [(c 1 x7), (n y10 0)] fun x16 =>
     .l (.scmp .eql) [(c 0 x15), (c 0 x16)] fun x17 =>
     .ite x17 (
      .ret (.tup [(i 5), (n y3 0)])) (
      .l (.arith .add .i64) [(n y13 0), (i 1)] fun x18 =>
      .cont 2 [x18])) (
     .l (.arith .add .i64) [(n y10 0), (i 1)] fun x15 =>
     .cont 1 [x15])) (
    .l (.arith .add .i64) [(n y3 0), (i 1)] fun x13 =>
    .cont 0 [x13]))) (
  .loop [(i 0)] fun y6 =>
  .l .len [(c 0 x0)] fun x7 =>
  .l (.cmp .lss .i64) [(n y6 0), x7] fun x8 =>
  .ite x8 (
   .loop [(i 0), (.sl [])] fun y9 =>
   .l (.idx 14 true) [(c 0 x0), (n y6 0)] fun x10 =>
   .l .len [(c 1 x10)] fun x11 =>
   .l (.cmp .lss .i64) [(n y9 0), x11] fun x12 =>
   .ite x12 (
    .l (.idx 14 true) [(c 0 x0), (n y6 0)] fun x13 =>
    .l (.idx 7 true) [(c 1 x13), (n y9 0)] fun x14 =>
    .l (.lst 1 false) [(c 0 x14)] fun x15 =>
    .l (.app 1 false 16) [(n y9 1), x15] fun x16 =>
    .l (.arith .add .i64) [(n y9 0), (i 1)] fun x17 =>
    .cont 2 [x17, x16]) (
    .l (.idx 14 true) [(c 0 x0), (n y6 0)] fun x13 =>
    .call F.ref06_node [x0, (sb 2 12 x13), (n y9 1), (.bool false)] fun x14 =>
    .l (.cmp .neq .i64) [x14, (i 0)] fun x15 =>
    .ite x15 (
     .ret (.tup [x14, (n y6 0)])) (
     .l (.arith .add .i64) [(n y6 0), (i 1)] fun x16 =>
     .cont 1 [x16]))) (
   .call F.ref06_node [x0, (sb 1 12 x0), (.sl []), (.bool true)] fun x9 =>
   .l .len [(c 0 x0)] fun x10 =>
   .ret (.tup [x9, x10]))))
theorem k_ref06_Check : TxOk P F.ref06_Check 1 t_ref06_Check := txOk_of (H := {}) (plans := []) hm Tryz.func10 rfl rfl fun xs => by kernel_rfl
def t_scope_Check (xs : List PV) : T PV :=
.l (.okc 13 true) [(n xs 0)] fun x0 =>
.call F.proctree_Program [x0] fun x1 =>
.l (.cmp .neq .i64) [x1, (i 0)] fun x2 =>
.ite x2 (
 .l (.okcs [(1, false)]) [x1] fun x3 =>
 .ret (.agg [x1, (i 0)])) (
 .l .len [(c 0 x0)] fun x3 =>
 .loop [(i 0)] fun y4 =>
 .l (.cmp .lss .i64) [(n y4 0), x3] fun x5 =>
 .ite x5 (
  .l (.idx 14 true) [(c 0 x0), (n y4 0)] fun x6 =>
  .l (.okc 14 true) [x6] fun x7 =>
  .call F.scope_Find [x0, (c 0 x7)] fun x8 =>
  .l (.tc 0) [x8] fun x9 =>
  .l (.tc 1) [x8] fun x10 =>
  .l (.cmp .lss .i64) [x9, (n y4 0)] fun x11 =>
  .ite x11 (
   .l (.okcs [(1, false)]) [(n y4 0)] fun x12 =>
   .ret (.agg [(i 5), (n y4 0)])) (
   .calls F.scope_params sg_scope_params [x7] fun z12 =>
   .calls F.scope_twice sg_scope_twice [(n z12 0)] fun z13 =>
   .ite (n z13 0) (
    .l (.okcs [(1, false)]) [(n y4 0)] fun x14 =>
    .ret (.agg [(i 5), (n y4 0)])) (
    .l (.arith .add .i64) [(n y4 0), (i 1)] fun x14 =>
    .cont 0 [x14]))) (
  .l .len [(c 0 x0)] fun x6 =>
  .loop [(i 0)] fun y7 =>
  .l (.cmp .lss .i64) [(n y7 0), x6] fun x8 =>
  .ite x8 (
   .l (.idx 14 true) [(c 0 x0), (n y7 0)] fun x9 =>
   .l (.okc 14 true) [x9] fun x10 =>
   .calls F.scope_params sg_scope_params [x10] fun z11 =>
   .call F.scope_names_with [(.mp [] []), (n z11 0)] fun x12 =>
   .l (.tc 0) [x12] fun x13 =>
   .l (.tc 1) [x12] fun x14 =>
   .l (.okcs [(13, true)]) [x0] fun x15 =>
   .call F.scope_walker_walk [(.agg [(c 0 x0), (c 1 x0), (c 2 x0), (c 3 x0), (c 4 x0), (c 5 x0), (c 6 x0), (c 7 x0), (c 8 x0), (c 9 x0), (c 10 x0), (c 11 x0), (c 12 x0), (.bool false)]), (sb 2 12 x10), x13, (.bool false)] fun x16 =>
   .l (.cmp .neq .i64) [x16, (i 0)] fun x17 =>
   .ite x17 (
    .l (.okcs [(1, false), (1, false)]) [x16, (n y7 0)] fun x18 =>
    .ret (.agg [x16, (n y7 0)])) (
    .l (.arith .add .i64) [(n y7 0), (i 1)] fun x18 =>
    .cont 1 [x18])) (
   .l (.okcs [(13, true)]) [x0] fun x9 =>
   .call F.scope_walker_walk [(.agg [(c 0 x0), (c 1 x0), (c 2 x0), (c 3 x0), (c 4 x0), (c 5 x0), (c 6 x0), (c 7 x0), (c 8 x0), (c 9 x0), (c 10 x0), (c 11 x0), (c 12 x0), (.bool true)]), (sb 1 12 x0), (.mp [] []), (.bool true)] fun x10 =>
   .l (.cmp .neq .i64) [x10, (i 0)] fun x11 =>
   .ite x11 (
    .l .len [(c 0 x0)] fun x12 =>
    .l (.okcs [(1, false), (1, false)]) [x10, x12] fun x13 =>
    .ret (.agg [x10, x12])) (
    .ret (.agg [(i 0), (i 0)])))))
theorem k_scope_Check : TxOk P F.scope_Check 1 t_scope_Check := txOk_of (H := { wr := [], ro := [], nl := [], fz := [], da := [], sigs := [(57, sg_maps_Clone_scope_names_string_bool), (29, sg_scope_params), (28, sg_scope_twice), (55, sg_slices_Compact_string_string)] }) (plans := []) hm Tryz.func11 rfl rfl fun xs => by kernel_rfl
def t_ref03_Few (xs : List PV) : T PV :=
.l (.okc 12 true) [(n xs 0)] fun x0 =>
.call F.ref03_left [x0, (n xs 1)] fun x1 =>
.l (.cmp .geq .i64) [x1, (i 0)] fun x2 =>
.ite x2 (
 .call F.ref03_Depth [x0] fun x3 =>
 .l (.cmp .leq .i64) [x3, (i 150)] fun x4 =>
 .ret x4) (
 .ret (.bool false))
theorem k_ref03_Few : TxOk P F.ref03_Few 2 t_ref03_Few := txOk_of (H := {}) (plans := []) hm Tryz.func12 rfl rfl fun xs => by kernel_rfl
def t_scope_Find (xs : List PV) : T PV :=
.l (.okc 13 true) [(n xs 0)] fun x0 =>
.l (.okc 1 false) [(n xs 1)] fun x1 =>
.call F.slices_IndexFunc_api_Def_api_Def [(c 0 x0), (.fn F.scope_Find_1 [] [(.box x1)])] fun x2 =>
.l (.mx .i64) [x2, (i 0)] fun x3 =>
.l (.cmp .geq .i64) [x2, (i 0)] fun x4 =>
.ret (.tup [x3, x4])
theorem k_scope_Find : TxOk P F.scope_Find 2 t_scope_Find := txOk_of (H := {}) (plans := []) hm Tryz.func13 rfl rfl fun xs => by kernel_rfl
def t_ref06_Find (xs : List PV) : T PV :=
.l (.okc 13 true) [(n xs 0)] fun x0 =>
.loop [(i 0)] fun y1 =>
.l .len [(c 0 x0)] fun x2 =>
.l (.cmp .lss .i64) [(n y1 0), x2] fun x3 =>
.ite x3 (
 .l (.idx 14 true) [(c 0 x0), (n y1 0)] fun x4 =>
 .l (.scmp .eql) [(c 0 x4), (n xs 1)] fun x5 =>
 .ite x5 (
  .ret (n y1 0)) (
  .l (.arith .add .i64) [(n y1 0), (i 1)] fun x6 =>
  .cont 0 [x6])) (
 .ret (i (-1)))
theorem k_ref06_Find : TxOk P F.ref06_Find 2 t_ref06_Find := txOk_of (H := {}) (plans := []) hm Tryz.func14 rfl rfl fun xs => by kernel_rfl
def t_ref03_Texts (xs : List PV) : T PV :=
.l .len [(n xs 0)] fun x0 =>
.l .len [(n xs 1)] fun x1 =>
.l (.cmp .neq .i64) [x0, x1] fun x2 =>
.ite x2 (
 .ret (.bool false)) (
 .loop [(i 0)] fun y3 =>
 .l .len [(n xs 0)] fun x4 =>
 .l (.cmp .lss .i64) [(n y3 0), x4] fun x5 =>
 .ite x5 (
  .l (.idx 1 false) [(n xs 0), (n y3 0)] fun x6 =>
  .l (.idx 1 false) [(n xs 1), (n y3 0)] fun x7 =>
  .l (.scmp .neq) [x6, x7] fun x8 =>
  .ite x8 (
   .ret (.bool false)) (
   .l (.arith .add .i64) [(n y3 0), (i 1)] fun x9 =>
   .cont 0 [x9])) (
  .ret (.bool true)))
theorem k_ref03_Texts : TxOk P F.ref03_Texts 2 t_ref03_Texts := txOk_of (H := {}) (plans := []) hm Tryz.func15 rfl rfl fun xs => by kernel_rfl
def t_scope_Calls (xs : List PV) : T PV :=
.l (.okc 12 true) [(n xs 0)] fun x0 =>
.call F.scope_collect [x0, (.fn F.scope_Calls_1 [] [])] fun x1 =>
.ret x1
theorem k_scope_Calls : TxOk P F.scope_Calls 1 t_scope_Calls := txOk_of (H := {}) (plans := []) hm Tryz.func16 rfl rfl fun xs => by kernel_rfl
def t_ref06_Calls (xs : List PV) : T PV :=
.l (.okc 12 true) [(n xs 0)] fun x0 =>
.l (.cmp .eql .i64) [(c 0 x0), (i 8)] fun x1 =>
.ite x1 (
 .l (.lst 1 false) [(c 1 x0)] fun x2 =>
 .l (.app 1 false 16) [(.sl []), x2] fun x3 =>
 .loop [(i 0), x3] fun y4 =>
 .l .len [(c 11 x0)] fun x5 =>
 .l (.cmp .lss .i64) [(n y4 0), x5] fun x6 =>
 .ite x6 (
  .l (.idx 12 true) [(c 11 x0), (n y4 0)] fun x7 =>
  .call F.ref06_Calls [x7] fun x8 =>
  .l (.app 1 false 16) [(n y4 1), x8] fun x9 =>
  .l (.arith .add .i64) [(n y4 0), (i 1)] fun x10 =>
  .cont 0 [x10, x9]) (
  .ret (n y4 1))) (
 .loop [(i 0), (.sl [])] fun y2 =>
 .l .len [(c 11 x0)] fun x3 =>
 .l (.cmp .lss .i64) [(n y2 0), x3] fun x4 =>
 .ite x4 (
  .l (.idx 12 true) [(c 11 x0), (n y2 0)] fun x5 =>
  .call F.ref06_Calls [x5] fun x6 =>
  .l (.app 1 false 16) [(n y2 1), x6] fun x7 =>
  .l (.arith .add .i64) [(n y2 0), (i 1)] fun x8 =>
  .cont 0 [x8, x7]) (
  .ret (n y2 1)))
theorem k_ref06_Calls : TxOk P F.ref06_Calls 1 t_ref06_Calls := txOk_of (H := {}) (plans := []) hm Tryz.func17 rfl rfl fun xs => by kernel_rfl
def u_ref06_Calls_Fr (xs : List PV) : T PV :=
.l (.okc 12 true) [(n xs 0)] fun x0 =>
.l (.cmp .eql .i64) [(c 0 x0), (i 8)] fun x1 =>
.ite x1 (
 .l (.lst 1 false) [(c 1 x0)] fun x2 =>
 .l (.app 1 false 16) [(.sl []), x2] fun x3 =>
 .loop [(i 0), x3] fun y4 =>
 .l .len [(c 11 x0)] fun x5 =>
 .l (.cmp .lss .i64) [(n y4 0), x5] fun x6 =>
 .ite x6 (
  .l (.idx 12 true) [(c 11 x0), (n y4 0)] fun x7 =>
  .call F.ref06_Calls [x7] fun x8 =>
  .l (.app 1 false 16) [(n y4 1), x8] fun x9 =>
  .l (.arith .add .i64) [(n y4 0), (i 1)] fun x10 =>
  .cont 0 [x10, x9]) (
  .ret (.tup [(n y4 1)]))) (
 .loop [(i 0), (.sl [])] fun y2 =>
 .l .len [(c 11 x0)] fun x3 =>
 .l (.cmp .lss .i64) [(n y2 0), x3] fun x4 =>
 .ite x4 (
  .l (.idx 12 true) [(c 11 x0), (n y2 0)] fun x5 =>
  .call F.ref06_Calls [x5] fun x6 =>
  .l (.app 1 false 16) [(n y2 1), x6] fun x7 =>
  .l (.arith .add .i64) [(n y2 0), (i 1)] fun x8 =>
  .cont 0 [x8, x7]) (
  .ret (.tup [(n y2 1)])))
theorem m_ref06_Calls_Fr : TxOkS P F.ref06_Calls sg_ref06_Calls_Fr u_ref06_Calls_Fr := txOkS_of (H := {}) (plans := []) hm Tryz.func17 rfl fun xs => by kernel_rfl
def t_scope_Binders (xs : List PV) : T PV :=
.l (.okc 12 true) [(n xs 0)] fun x0 =>
.call F.scope_collect [x0, (.fn F.scope_bound [] [])] fun x1 =>
.ret x1
theorem k_scope_Binders : TxOk P F.scope_Binders 1 t_scope_Binders := txOk_of (H := {}) (plans := []) hm Tryz.func18 rfl rfl fun xs => by kernel_rfl
def t_ref06_Binders (xs : List PV) : T PV :=
.l (.okc 12 true) [(n xs 0)] fun x0 =>
.l (.cmp .eql .i64) [(c 0 x0), (i 3)] fun x1 =>
.ite x1 (
 .l (.lst 1 false) [(c 2 x0)] fun x2 =>
 .l (.app 1 false 16) [(.sl []), x2] fun x3 =>
 .l (.cmp .eql .i64) [(c 0 x0), (i 6)] fun x4 =>
 .ite x4 (
  .l (.lst 1 false) [(c 1 x0), (c 2 x0)] fun x5 =>
  .l (.app 1 false 16) [x3, x5] fun x6 =>
  .loop [(i 0), x6] fun y7 =>
  .l .len [(c 11 x0)] fun x8 =>
  .l (.cmp .lss .i64) [(n y7 0), x8] fun x9 =>
  .ite x9 (
   .l (.idx 12 true) [(c 11 x0), (n y7 0)] fun x10 =>
   .call F.ref06_Binders [x10] fun x11 =>
   .l (.app 1 false 16) [(n y7 1), x11] fun x12 =>
   .l (.arith .add .i64) [(n y7 0), (i 1)] fun x13 =>
   .cont 0 [x13, x12]) (
   .ret (n y7 1))) (
  .loop [(i 0), x3] fun y5 =>
  .l .len [(c 11 x0)] fun x6 =>
  .l (.cmp .lss .i64) [(n y5 0), x6] fun x7 =>
  .ite x7 (
   .l (.idx 12 true) [(c 11 x0), (n y5 0)] fun x8 =>
   .call F.ref06_Binders [x8] fun x9 =>
   .l (.app 1 false 16) [(n y5 1), x9] fun x10 =>
   .l (.arith .add .i64) [(n y5 0), (i 1)] fun x11 =>
   .cont 0 [x11, x10]) (
   .ret (n y5 1)))) (
 .l (.cmp .eql .i64) [(c 0 x0), (i 6)] fun x2 =>
 .ite x2 (
  .l (.lst 1 false) [(c 1 x0), (c 2 x0)] fun x3 =>
  .l (.app 1 false 16) [(.sl []), x3] fun x4 =>
  .loop [(i 0), x4] fun y5 =>
  .l .len [(c 11 x0)] fun x6 =>
  .l (.cmp .lss .i64) [(n y5 0), x6] fun x7 =>
  .ite x7 (
   .l (.idx 12 true) [(c 11 x0), (n y5 0)] fun x8 =>
   .call F.ref06_Binders [x8] fun x9 =>
   .l (.app 1 false 16) [(n y5 1), x9] fun x10 =>
   .l (.arith .add .i64) [(n y5 0), (i 1)] fun x11 =>
   .cont 0 [x11, x10]) (
   .ret (n y5 1))) (
  .loop [(i 0), (.sl [])] fun y3 =>
  .l .len [(c 11 x0)] fun x4 =>
  .l (.cmp .lss .i64) [(n y3 0), x4] fun x5 =>
  .ite x5 (
   .l (.idx 12 true) [(c 11 x0), (n y3 0)] fun x6 =>
   .call F.ref06_Binders [x6] fun x7 =>
   .l (.app 1 false 16) [(n y3 1), x7] fun x8 =>
   .l (.arith .add .i64) [(n y3 0), (i 1)] fun x9 =>
   .cont 0 [x9, x8]) (
   .ret (n y3 1))))
theorem k_ref06_Binders : TxOk P F.ref06_Binders 1 t_ref06_Binders := txOk_of (H := {}) (plans := []) hm Tryz.func19 rfl rfl fun xs => by kernel_rfl
def t_ref06_Right (xs : List PV) : T PV :=
.l (.okc 13 true) [(n xs 0)] fun x0 =>
.call F.ref03_Little [x0, (n xs 1)] fun x1 =>
.l .bnot [x1] fun x2 =>
.ite x2 (
 .ret (.bool false)) (
 .call F.ref06_Check [x0] fun x3 =>
 .l (.tc 0) [x3] fun x4 =>
 .l (.tc 1) [x3] fun x5 =>
 .l (.cmp .eql .i64) [x4, (i 0)] fun x6 =>
 .ret x6)
theorem k_ref06_Right : TxOk P F.ref06_Right 2 t_ref06_Right := txOk_of (H := {}) (plans := []) hm Tryz.func20 rfl rfl fun xs => by kernel_rfl
def t_ref03_Free (xs : List PV) : T PV :=
.l (.okc 12 true) [(n xs 0)] fun x0 =>
.call F.ref03_uses [x0, (.sl [])] fun x1 =>
.loop [(i 0), (.sl [])] fun y2 =>
.l .len [x1] fun x3 =>
.l (.cmp .lss .i64) [(n y2 0), x3] fun x4 =>
.ite x4 (
 .l (.idx 1 false) [x1, (n y2 0)] fun x5 =>
 .call F.ref03_In [x5, (n y2 1)] fun x6 =>
 .l .bnot [x6] fun x7 =>
 .ite x7 (
  .l (.idx 1 false) [x1, (n y2 0)] fun x8 =>
  .l (.lst 1 false) [x8] fun x9 =>
  .l (.app 1 false 16) [(n y2 1), x9] fun x10 =>
  .l (.arith .add .i64) [(n y2 0), (i 1)] fun x11 =>
  .cont 0 [x11, x10]) (
  .l (.arith .add .i64) [(n y2 0), (i 1)] fun x8 =>
  .cont 0 [x8, (n y2 1)])) (
 .ret (n y2 1))
theorem k_ref03_Free : TxOk P F.ref03_Free 1 t_ref03_Free := txOk_of (H := {}) (plans := []) hm Tryz.func21 rfl rfl fun xs => by kernel_rfl
def t_ref03_Total (xs : List PV) : T PV :=
.l (.okc 13 true) [(n xs 0)] fun x0 =>
.call F.ref03_Size [(sb 1 12 x0)] fun x1 =>
.call F.ref03_types [(sb 1 12 x0)] fun x2 =>
.l (.arith .add .i64) [x1, x2] fun x3 =>
.loop [(i 0), x3] fun y4 =>
.l .len [(c 0 x0)] fun x5 =>
.l (.cmp .lss .i64) [(n y4 0), x5] fun x6 =>
.ite x6 (
 .l (.idx 14 true) [(c 0 x0), (n y4 0)] fun x7 =>
 .call F.ref03_Size [(sb 2 12 x7)] fun x8 =>
 .l (.arith .add .i64) [(n y4 1), x8] fun x9 =>
 .l (.idx 14 true) [(c 0 x0), (n y4 0)] fun x10 =>
 .call F.ref03_types [(sb 2 12 x10)] fun x11 =>
 .l (.arith .add .i64) [x9, x11] fun x12 =>
 .loop [(i 0), x12] fun y13 =>
 .l (.idx 14 true) [(c 0 x0), (n y4 0)] fun x14 =>
 .l .len [(c 1 x14)] fun x15 =>
 .l (.cmp .lss .i64) [(n y13 0), x15] fun x16 =>
 .ite x16 (
  .l (.idx 14 true) [(c 0 x0), (n y4 0)] fun x17 =>
  .l (.idx 7 true) [(c 1 x17), (n y13 0)] fun x18 =>
  .call F.ref02_Size [(sb 1 6 x18)] fun x19 =>
  .l (.arith .add .i64) [(n y13 1), x19] fun x20 =>
  .l (.arith .add .i64) [(n y13 0), (i 1)] fun x21 =>
  .cont 1 [x21, x20]) (
  .l (.arith .add .i64) [(n y4 0), (i 1)] fun x17 =>
  .cont 0 [x17, (n y13 1)])) (
 .ret (n y4 1))
theorem k_ref03_Total : TxOk P F.ref03_Total 1 t_ref03_Total := txOk_of (H := {}) (plans := []) hm Tryz.func22 rfl rfl fun xs => by kernel_rfl
def t_ref03_Program (xs : List PV) : T PV :=
.l (.okc 13 true) [(n xs 0)] fun x0 =>
.call F.ref03_Total [x0] fun x1 =>
.l (.cmp .gtr .i64) [x1, (i 10000)] fun x2 =>
.ite x2 (
 .ret (i 2)) (
 .loop [(i 0)] fun y3 =>
 .l .len [(c 0 x0)] fun x4 =>
 .l (.cmp .lss .i64) [(n y3 0), x4] fun x5 =>
 .ite x5 (
  .l (.idx 14 true) [(c 0 x0), (n y3 0)] fun x6 =>
  .call F.ref03_Right [(sb 2 12 x6)] fun x7 =>
  .l (.cmp .neq .i64) [x7, (i 0)] fun x8 =>
  .ite x8 (
   .ret x7) (
   .l (.arith .add .i64) [(n y3 0), (i 1)] fun x9 =>
   .cont 0 [x9])) (
  .call F.ref03_Right [(sb 1 12 x0)] fun x6 =>
  .l (.cmp .neq .i64) [x6, (i 0)] fun x7 =>
  .ite x7 (
   .ret x6) (
   .loop [(i 0)] fun y8 =>
   .l .len [(c 0 x0)] fun x9 =>
   .l (.cmp .lss .i64) [(n y8 0), x9] fun x10 =>
   .ite x10 (
    .l (.idx 14 true) [(c 0 x0), (n y8 0)] fun x11 =>
    .l (.okc 14 true) [x11] fun x12 =>
    .call F.ref03_name [(c 0 x12)] fun x13 =>
    .l .bnot [x13] fun x14 =>
    .ite x14 (
     .ret (i 3)) (
     .loop [(i 0)] fun y15 =>
     .l .len [(c 1 x12)] fun x16 =>
     .l (.cmp .lss .i64) [(n y15 0), x16] fun x17 =>
     .ite x17 (
      .l (.idx 7 true) [(c 1 x12), (n y15 0)] fun x18 =>
      .call F.ref03_name [(c 0 x18)] fun x19 =>
      .l .bnot [x19] fun x20 =>
      .ite x20 (
       .ret (i 3)) (
       .l (.idx 7 true) [(c 1 x12), (n y15 0)] fun x21 =>
       .call F.ref02_Right [(sb 1 6 x21)] fun x22 =>
       .l (.cmp .neq .i64) [x22, (i 0)] fun x23 =>
       .ite x23 (
        .ret (i 3)) (
        .l (.arith .add .i64) [(n y15 0), (i 1)] fun x24 =>
        .cont 2 [x24]))) (
      .l (.arith .add .i64) [(n y8 0), (i 1)] fun x18 =>
      .cont 1 [x18]))) (
    .ret (i 0)))))
theorem k_ref03_Program : TxOk P F.ref03_Program 1 t_ref03_Program := txOk_of (H := {}) (plans := []) hm Tryz.func23 rfl rfl fun xs => by kernel_rfl
def t_ref03_In (xs : List PV) : T PV :=
.loop [(i 0)] fun y0 =>
.l .len [(n xs 1)] fun x1 =>
.l (.cmp .lss .i64) [(n y0 0), x1] fun x2 =>
.ite x2 (
 .l (.idx 1 false) [(n xs 1), (n y0 0)] fun x3 =>
 .l (.scmp .eql) [x3, (n xs 0)] fun x4 =>
 .ite x4 (
  .ret (.bool true)) (
  .l (.arith .add .i64) [(n y0 0), (i 1)] fun x5 =>
  .cont 0 [x5])) (
 .ret (.bool false))
theorem k_ref03_In : TxOk P F.ref03_In 2 t_ref03_In := txOk_of (H := {}) (plans := []) hm Tryz.func24 rfl rfl fun xs => by kernel_rfl
def t_ref02_Few (xs : List PV) : T PV :=
.l (.okc 6 true) [(n xs 0)] fun x0 =>
.call F.ref02_count [x0, (n xs 1)] fun x1 =>
.l (.cmp .geq .i64) [x1, (i 0)] fun x2 =>
.ite x2 (
 .call F.ref02_Depth [x0] fun x3 =>
 .l (.cmp .leq .i64) [x3, (i 150)] fun x4 =>
 .ret x4) (
 .ret (.bool false))
theorem k_ref02_Few : TxOk P F.ref02_Few 2 t_ref02_Few := txOk_of (H := {}) (plans := []) hm Tryz.func25 rfl rfl fun xs => by kernel_rfl
def t_ref06_node (xs : List PV) : T PV :=
.l (.okc 13 true) [(n xs 0)] fun x0 =>
.l (.okc 12 true) [(n xs 1)] fun x1 =>
.l (.cmp .geq .i64) [(c 0 x1), (i 2)] fun x2 =>
.ite x2 (
 .l (.cmp .leq .i64) [(c 0 x1), (i 5)] fun x3 =>
 .ite x3 (
  .call F.ref03_In [(c 1 x1), (n xs 2)] fun x4 =>
  .l .bnot [x4] fun x5 =>
  .ite x5 (
   .ret (i 4)) (
   .loop [(i 0)] fun y6 =>
   .l .len [(c 4 x1)] fun x7 =>
   .l (.cmp .lss .i64) [(n y6 0), x7] fun x8 =>
   .ite x8 (
    .l (.idx 3 true) [(c 4 x1), (n y6 0)] fun x9 =>
    .l (.cmp .eql .i64) [(c 0 x9), (i 1)] fun x10 =>
    .ite x10 (
     .l (.idx 3 true) [(c 4 x1), (n y6 0)] fun x11 =>
     .call F.ref03_In [(c 1 x11), (n xs 2)] fun x12 =>
     .l .bnot [x12] fun x13 =>
     .ite x13 (
      .ret (i 4)) (
      .l (.arith .add .i64) [(n y6 0), (i 1)] fun x14 =>
      .cont 0 [x14])) (
     .l (.arith .add .i64) [(n y6 0), (i 1)] fun x11 =>
     .cont 0 [x11])) (
    .l (.lst 1 false) [] fun x9 =>
    .l (.app 1 false 16) [x9, (n xs 2)] fun x10 =>
    .l (.cmp .eql .i64) [(c 0 x1), (i 3)] fun x11 =>
    .ite x11 (
     .l (.lst 1 false) [(c 2 x1)] fun x12 =>
     .l (.app 1 false 16) [x10, x12] fun x13 =>
     .l (.cmp .eql .i64) [(c 0 x1), (i 6)] fun x14 =>
     .ite x14 (
      .l (.lst 1 false) [(c 1 x1), (c 2 x1)] fun x15 =>
      .l (.app 1 false 16) [x13, x15] fun x16 =>
      .l .len [(n xs 2)] fun x17 =>
      .loop [x17] fun y18 =>
      .l .len [x16] fun x19 =>
      .l (.cmp .lss .i64) [(n y18 0), x19] fun x20 =>
      .ite x20 (
       .l (.idx 1 false) [x16, (n y18 0)] fun x21 =>
       .call F.ref03_In [x21, (n xs 2)] fun x22 =>
       .ite x22 (
        .ret (i 5)) (
        .l (.arith .add .i64) [(n y18 0), (i 1)] fun x23 =>
        .cont 1 [x23])) (
       .l (.cmp .eql .i64) [(c 0 x1), (i 8)] fun x21 =>
       .ite x21 (
        .call F.ref06_Find [x0, (c 1 x1)] fun x22 =>
        .l (.cmp .lss .i64) [x22, (i 0)] fun x23 =>
        .ite x23 (
         .ret (i 4)) (
         .l (.idx 14 true) [(c 0 x0), x22] fun x24 =>
         .l .len [(c 1 x24)] fun x25 =>
         .l .len [(c 4 x1)] fun x26 =>
         .l (.cmp .neq .i64) [x25, x26] fun x27 =>
         .ite x27 (
          .ret (i 6)) (
          .l .bnot [(n xs 3)] fun x28 =>
          .ite x28 (
           .ret (i 7)) (
           .loop [(i 0)] fun y29 =>
           .l .len [(c 11 x1)] fun x30 =>
           .l (.cmp .lss .i64) [(n y29 0), x30] fun x31 =>
           .ite x31 (
            .l (.idx 12 true) [(c 11 x1), (n y29 0)] fun x32 =>
            .ite (n xs 3) (
             .call F.ref06_node [x0, x32, x16, (.bool true)] fun x33 =>
             .l (.cmp .neq .i64) [x33, (i 0)] fun x34 =>
             .ite x34 (
              .ret x33) (
              .l (.arith .add .i64) [(n y29 0), (i 1)] fun x35 =>
              .cont 2 [x35])) (
             .l (.cmp .geq .i64) [(c 0 x1), (i 2)] fun x33 =>
             .ite x33 (
              .l (.cmp .leq .i64) [(c 0 x1), (i 5)] fun x34 =>
              .call F.ref06_node [x0, x32, x16, x34] fun x35 =>
              .l (.cmp .neq .i64) [x35, (i 0)] fun x36 =>
              .ite x36 (
               .ret x35) (
               .l (.arith .add .i64) [(n y29 0), (i 1)] fun x37 =>
               .cont 2 [x37])) (
              .call F.ref06_node [x0, x32, x16, (.bool false)] fun x34 =>
              .l (.cmp .neq .i64) [x34, (i 0)] fun x35 =>
              .ite x35 (
               .ret x34) (
               .l (.arith .add .i64) [(n y29 0), (i 1)] fun x36 =>
               .cont 2 [x36])))) (
            .ret (i 0)))))) (
        .loop [(i 0)] fun y22 =>
        .l .len [(c 11 x1)] fun x23 =>
        .l (.cmp .lss .i64) [(n y22 0), x23] fun x24 =>
        .ite x24 (
         .l (.idx 12 true) [(c 11 x1), (n y22 0)] fun x25 =>
         .ite (n xs 3) (
          .call F.ref06_node [x0, x25, x16, (.bool true)] fun x26 =>
          .l (.cmp .neq .i64) [x26, (i 0)] fun x27 =>
          .ite x27 (
           .ret x26) (
           .l (.arith .add .i64) [(n y22 0), (i 1)] fun x28 =>
           .cont 2 [x28])) (
          .l (.cmp .geq .i64) [(c 0 x1), (i 2)] fun x26 =>
          .ite x26 (
           .l (.cmp .leq .i64) [(c 0 x1), (i 5)] fun x27 =>
           .call F.ref06_node [x0, x25, x16, x27] fun x28 =>
           .l (.cmp .neq .i64) [x28, (i 0)] fun x29 =>
           .ite x29 (
            .ret x28) (
            .l (.arith .add .i64) [(n y22 0), (i 1)] fun x30 =>
            .cont 2 [x30])) (
           .call F.ref06_node [x0, x25, x16, (.bool false)] fun x27 =>
           .l (.cmp .neq .i64) [x27, (i 0)] fun x28 =>
           .ite x28 (
            .ret x27) (
            .l (.arith .add .i64) [(n y22 0), (i 1)] fun x29 =>
            .cont 2 [x29])))) (
         .ret (i 0))))) (
      .l .len [(n xs 2)] fun x15 =>
      .loop [x15] fun y16 =>
      .l .len [x13] fun x17 =>
      .l (.cmp .lss .i64) [(n y16 0), x17] fun x18 =>
      .ite x18 (
       .l (.idx 1 false) [x13, (n y16 0)] fun x19 =>
       .call F.ref03_In [x19, (n xs 2)] fun x20 =>
       .ite x20 (
        .ret (i 5)) (
        .l (.arith .add .i64) [(n y16 0), (i 1)] fun x21 =>
        .cont 1 [x21])) (
       .l (.cmp .eql .i64) [(c 0 x1), (i 8)] fun x19 =>
       .ite x19 (
        .call F.ref06_Find [x0, (c 1 x1)] fun x20 =>
        .l (.cmp .lss .i64) [x20, (i 0)] fun x21 =>
        .ite x21 (
         .ret (i 4)) (
         .l (.idx 14 true) [(c 0 x0), x20] fun x22 =>
         .l .len [(c 1 x22)] fun x23 =>
         .l .len [(c 4 x1)] fun x24 =>
         .l (.cmp .neq .i64) [x23, x24] fun x25 =>
         .ite x25 (
          .ret (i 6)) (
          .l .bnot [(n xs 3)] fun x26 =>
          .ite x26 (
           .ret (i 7)) (
           .loop [(i 0)] fun y27 =>
           .l .len [(c 11 x1)] fun x28 =>
           .l (.cmp .lss .i64) [(n y27 0), x28] fun x29 =>
           .ite x29 (
            .l (.idx 12 true) [(c 11 x1), (n y27 0)] fun x30 =>
            .ite (n xs 3) (
             .call F.ref06_node [x0, x30, x13, (.bool true)] fun x31 =>
             .l (.cmp .neq .i64) [x31, (i 0)] fun x32 =>
             .ite x32 (
              .ret x31) (
              .l (.arith .add .i64) [(n y27 0), (i 1)] fun x33 =>
              .cont 2 [x33])) (
             .l (.cmp .geq .i64) [(c 0 x1), (i 2)] fun x31 =>
             .ite x31 (
              .l (.cmp .leq .i64) [(c 0 x1), (i 5)] fun x32 =>
              .call F.ref06_node [x0, x30, x13, x32] fun x33 =>
              .l (.cmp .neq .i64) [x33, (i 0)] fun x34 =>
              .ite x34 (
               .ret x33) (
               .l (.arith .add .i64) [(n y27 0), (i 1)] fun x35 =>
               .cont 2 [x35])) (
              .call F.ref06_node [x0, x30, x13, (.bool false)] fun x32 =>
              .l (.cmp .neq .i64) [x32, (i 0)] fun x33 =>
              .ite x33 (
               .ret x32) (
               .l (.arith .add .i64) [(n y27 0), (i 1)] fun x34 =>
               .cont 2 [x34])))) (
            .ret (i 0)))))) (
        .loop [(i 0)] fun y20 =>
        .l .len [(c 11 x1)] fun x21 =>
        .l (.cmp .lss .i64) [(n y20 0), x21] fun x22 =>
        .ite x22 (
         .l (.idx 12 true) [(c 11 x1), (n y20 0)] fun x23 =>
         .ite (n xs 3) (
          .call F.ref06_node [x0, x23, x13, (.bool true)] fun x24 =>
          .l (.cmp .neq .i64) [x24, (i 0)] fun x25 =>
          .ite x25 (
           .ret x24) (
           .l (.arith .add .i64) [(n y20 0), (i 1)] fun x26 =>
           .cont 2 [x26])) (
          .l (.cmp .geq .i64) [(c 0 x1), (i 2)] fun x24 =>
          .ite x24 (
           .l (.cmp .leq .i64) [(c 0 x1), (i 5)] fun x25 =>
           .call F.ref06_node [x0, x23, x13, x25] fun x26 =>
           .l (.cmp .neq .i64) [x26, (i 0)] fun x27 =>
           .ite x27 (
            .ret x26) (
            .l (.arith .add .i64) [(n y20 0), (i 1)] fun x28 =>
            .cont 2 [x28])) (
           .call F.ref06_node [x0, x23, x13, (.bool false)] fun x25 =>
           .l (.cmp .neq .i64) [x25, (i 0)] fun x26 =>
           .ite x26 (
            .ret x25) (
            .l (.arith .add .i64) [(n y20 0), (i 1)] fun x27 =>
            .cont 2 [x27])))) (
         .ret (i 0)))))) (
     .l (.cmp .eql .i64) [(c 0 x1), (i 6)] fun x12 =>
     .ite x12 (
      .l (.lst 1 false) [(c 1 x1), (c 2 x1)] fun x13 =>
      .l (.app 1 false 16) [x10, x13] fun x14 =>
      .l .len [(n xs 2)] fun x15 =>
      .loop [x15] fun y16 =>
      .l .len [x14] fun x17 =>
      .l (.cmp .lss .i64) [(n y16 0), x17] fun x18 =>
      .ite x18 (
       .l (.idx 1 false) [x14, (n y16 0)] fun x19 =>
       .call F.ref03_In [x19, (n xs 2)] fun x20 =>
       .ite x20 (
        .ret (i 5)) (
        .l (.arith .add .i64) [(n y16 0), (i 1)] fun x21 =>
        .cont 1 [x21])) (
       .l (.cmp .eql .i64) [(c 0 x1), (i 8)] fun x19 =>
       .ite x19 (
        .call F.ref06_Find [x0, (c 1 x1)] fun x20 =>
        .l (.cmp .lss .i64) [x20, (i 0)] fun x21 =>
        .ite x21 (
         .ret (i 4)) (
         .l (.idx 14 true) [(c 0 x0), x20] fun x22 =>
         .l .len [(c 1 x22)] fun x23 =>
         .l .len [(c 4 x1)] fun x24 =>
         .l (.cmp .neq .i64) [x23, x24] fun x25 =>
         .ite x25 (
          .ret (i 6)) (
          .l .bnot [(n xs 3)] fun x26 =>
          .ite x26 (
           .ret (i 7)) (
           .loop [(i 0)] fun y27 =>
           .l .len [(c 11 x1)] fun x28 =>
           .l (.cmp .lss .i64) [(n y27 0), x28] fun x29 =>
           .ite x29 (
            .l (.idx 12 true) [(c 11 x1), (n y27 0)] fun x30 =>
            .ite (n xs 3) (
             .call F.ref06_node [x0, x30, x14, (.bool true)] fun x31 =>
             .l (.cmp .neq .i64) [x31, (i 0)] fun x32 =>
             .ite x32 (
              .ret x31) (
              .l (.arith .add .i64) [(n y27 0), (i 1)] fun x33 =>
              .cont 2 [x33])) (
             .l (.cmp .geq .i64) [(c 0 x1), (i 2)] fun x31 =>
             .ite x31 (
              .l (.cmp .leq .i64) [(c 0 x1), (i 5)] fun x32 =>
              .call F.ref06_node [x0, x30, x14, x32] fun x33 =>
              .l (.cmp .neq .i64) [x33, (i 0)] fun x34 =>
              .ite x34 (
               .ret x33) (
               .l (.arith .add .i64) [(n y27 0), (i 1)] fun x35 =>
               .cont 2 [x35])) (
              .call F.ref06_node [x0, x30, x14, (.bool false)] fun x32 =>
              .l (.cmp .neq .i64) [x32, (i 0)] fun x33 =>
              .ite x33 (
               .ret x32) (
               .l (.arith .add .i64) [(n y27 0), (i 1)] fun x34 =>
               .cont 2 [x34])))) (
            .ret (i 0)))))) (
        .loop [(i 0)] fun y20 =>
        .l .len [(c 11 x1)] fun x21 =>
        .l (.cmp .lss .i64) [(n y20 0), x21] fun x22 =>
        .ite x22 (
         .l (.idx 12 true) [(c 11 x1), (n y20 0)] fun x23 =>
         .ite (n xs 3) (
          .call F.ref06_node [x0, x23, x14, (.bool true)] fun x24 =>
          .l (.cmp .neq .i64) [x24, (i 0)] fun x25 =>
          .ite x25 (
           .ret x24) (
           .l (.arith .add .i64) [(n y20 0), (i 1)] fun x26 =>
           .cont 2 [x26])) (
          .l (.cmp .geq .i64) [(c 0 x1), (i 2)] fun x24 =>
          .ite x24 (
           .l (.cmp .leq .i64) [(c 0 x1), (i 5)] fun x25 =>
           .call F.ref06_node [x0, x23, x14, x25] fun x26 =>
           .l (.cmp .neq .i64) [x26, (i 0)] fun x27 =>
           .ite x27 (
            .ret x26) (
            .l (.arith .add .i64) [(n y20 0), (i 1)] fun x28 =>
            .cont 2 [x28])) (
           .call F.ref06_node [x0, x23, x14, (.bool false)] fun x25 =>
           .l (.cmp .neq .i64) [x25, (i 0)] fun x26 =>
           .ite x26 (
            .ret x25) (
            .l (.arith .add .i64) [(n y20 0), (i 1)] fun x27 =>
            .cont 2 [x27])))) (
         .ret (i 0))))) (
      .l .len [(n xs 2)] fun x13 =>
      .loop [x13] fun y14 =>
      .l .len [x10] fun x15 =>
      .l (.cmp .lss .i64) [(n y14 0), x15] fun x16 =>
      .ite x16 (
       .l (.idx 1 false) [x10, (n y14 0)] fun x17 =>
       .call F.ref03_In [x17, (n xs 2)] fun x18 =>
       .ite x18 (
        .ret (i 5)) (
        .l (.arith .add .i64) [(n y14 0), (i 1)] fun x19 =>
        .cont 1 [x19])) (
       .l (.cmp .eql .i64) [(c 0 x1), (i 8)] fun x17 =>
       .ite x17 (
        .call F.ref06_Find [x0, (c 1 x1)] fun x18 =>
        .l (.cmp .lss .i64) [x18, (i 0)] fun x19 =>
        .ite x19 (
         .ret (i 4)) (
         .l (.idx 14 true) [(c 0 x0), x18] fun x20 =>
         .l .len [(c 1 x20)] fun x21 =>
         .l .len [(c 4 x1)] fun x22 =>
         .l (.cmp .neq .i64) [x21, x22] fun x23 =>
         .ite x23 (
          .ret (i 6)) (
          .l .bnot [(n xs 3)] fun x24 =>
          .ite x24 (
           .ret (i 7)) (
           .loop [(i 0)] fun y25 =>
           .l .len [(c 11 x1)] fun x26 =>
           .l (.cmp .lss .i64) [(n y25 0), x26] fun x27 =>
           .ite x27 (
            .l (.idx 12 true) [(c 11 x1), (n y25 0)] fun x28 =>
            .ite (n xs 3) (
             .call F.ref06_node [x0, x28, x10, (.bool true)] fun x29 =>
             .l (.cmp .neq .i64) [x29, (i 0)] fun x30 =>
             .ite x30 (
              .ret x29) (
              .l (.arith .add .i64) [(n y25 0), (i 1)] fun x31 =>
              .cont 2 [x31])) (
             .l (.cmp .geq .i64) [(c 0 x1), (i 2)] fun x29 =>
             .ite x29 (
              .l (.cmp .leq .i64) [(c 0 x1), (i 5)] fun x30 =>
              .call F.ref06_node [x0, x28, x10, x30] fun x31 =>
              .l (.cmp .neq .i64) [x31, (i 0)] fun x32 =>
              .ite x32 (
               .ret x31) (
               .l (.arith .add .i64) [(n y25 0), (i 1)] fun x33 =>
               .cont 2 [x33])) (
              .call F.ref06_node [x0, x28, x10, (.bool false)] fun x30 =>
              .l (.cmp .neq .i64) [x30, (i 0)] fun x31 =>
              .ite x31 (
               .ret x30) (
               .l (.arith .add .i64) [(n y25 0), (i 1)] fun x32 =>
               .cont 2 [x32])))) (
            .ret (i 0)))))) (
        .loop [(i 0)] fun y18 =>
        .l .len [(c 11 x1)] fun x19 =>
        .l (.cmp .lss .i64) [(n y18 0), x19] fun x20 =>
        .ite x20 (
         .l (.idx 12 true) [(c 11 x1), (n y18 0)] fun x21 =>
         .ite (n xs 3) (
          .call F.ref06_node [x0, x21, x10, (.bool true)] fun x22 =>
          .l (.cmp .neq .i64) [x22, (i 0)] fun x23 =>
          .ite x23 (
           .ret x22) (
           .l (.arith .add .i64) [(n y18 0), (i 1)] fun x24 =>
           .cont 2 [x24])) (
          .l (.cmp .geq .i64) [(c 0 x1), (i 2)] fun x22 =>
          .ite x22 (
           .l (.cmp .leq .i64) [(c 0 x1), (i 5)] fun x23 =>
           .call F.ref06_node [x0, x21, x10, x23] fun x24 =>
           .l (.cmp .neq .i64) [x24, (i 0)] fun x25 =>
           .ite x25 (
            .ret x24) (
            .l (.arith .add .i64) [(n y18 0), (i 1)] fun x26 =>
            .cont 2 [x26])) (
           .call F.ref06_node [x0, x21, x10, (.bool false)] fun x23 =>
           .l (.cmp .neq .i64) [x23, (i 0)] fun x24 =>
           .ite x24 (
            .ret x23) (
            .l (.arith .add .i64) [(n y18 0), (i 1)] fun x25 =>
            .cont 2 [x25])))) (
         .ret (i 0))))))))) (
  .loop [(i 0)] fun y4 =>
  .l .len [(c 4 x1)] fun x5 =>
  .l (.cmp .lss .i64) [(n y4 0), x5] fun x6 =>
  .ite x6 (
   .l (.idx 3 true) [(c 4 x1), (n y4 0)] fun x7 =>
   .l (.cmp .eql .i64) [(c 0 x7), (i 1)] fun x8 =>
   .ite x8 (
    .l (.idx 3 true) [(c 4 x1), (n y4 0)] fun x9 =>
    .call F.ref03_In [(c 1 x9), (n xs 2)] fun x10 =>
    .l .bnot [x10] fun x11 =>
    .ite x11 (
     .ret (i 4)) (
     .l (.arith .add .i64) [(n y4 0), (i 1)] fun x12 =>
     .cont 0 [x12])) (
    .l (.arith .add .i64) [(n y4 0), (i 1)] fun x9 =>
    .cont 0 [x9])) (
   .l (.lst 1 false) [] fun x7 =>
   .l (.app 1 false 16) [x7, (n xs 2)] fun x8 =>
   .l (.cmp .eql .i64) [(c 0 x1), (i 3)] fun x9 =>
   .ite x9 (
    .l (.lst 1 false) [(c 2 x1)] fun x10 =>
    .l (.app 1 false 16) [x8, x10] fun x11 =>
    .l (.cmp .eql .i64) [(c 0 x1), (i 6)] fun x12 =>
    .ite x12 (
     .l (.lst 1 false) [(c 1 x1), (c 2 x1)] fun x13 =>
     .l (.app 1 false 16) [x11, x13] fun x14 =>
     .l .len [(n xs 2)] fun x15 =>
     .loop [x15] fun y16 =>
     .l .len [x14] fun x17 =>
     .l (.cmp .lss .i64) [(n y16 0), x17] fun x18 =>
     .ite x18 (
      .l (.idx 1 false) [x14, (n y16 0)] fun x19 =>
      .call F.ref03_In [x19, (n xs 2)] fun x20 =>
      .ite x20 (
       .ret (i 5)) (
       .l (.arith .add .i64) [(n y16 0), (i 1)] fun x21 =>
       .cont 1 [x21])) (
      .l (.cmp .eql .i64) [(c 0 x1), (i 8)] fun x19 =>
      .ite x19 (
       .call F.ref06_Find [x0, (c 1 x1)] fun x20 =>
       .l (.cmp .lss .i64) [x20, (i 0)] fun x21 =>
       .ite x21 (
        .ret (i 4)) (
        .l (.idx 14 true) [(c 0 x0), x20] fun x22 =>
        .l .len [(c 1 x22)] fun x23 =>
        .l .len [(c 4 x1)] fun x24 =>
        .l (.cmp .neq .i64) [x23, x24] fun x25 =>
        .ite x25 (
         .ret (i 6)) (
         .l .bnot [(n xs 3)] fun x26 =>
         .ite x26 (
          .ret (i 7)) (
          .loop [(i 0)] fun y27 =>
          .l .len [(c 11 x1)] fun x28 =>
          .l (.cmp .lss .i64) [(n y27 0), x28] fun x29 =>
          .ite x29 (
           .l (.idx 12 true) [(c 11 x1), (n y27 0)] fun x30 =>
           .ite (n xs 3) (
            .call F.ref06_node [x0, x30, x14, (.bool true)] fun x31 =>
            .l (.cmp .neq .i64) [x31, (i 0)] fun x32 =>
            .ite x32 (
             .ret x31) (
             .l (.arith .add .i64) [(n y27 0), (i 1)] fun x33 =>
             .cont 2 [x33])) (
            .l (.cmp .geq .i64) [(c 0 x1), (i 2)] fun x31 =>
            .ite x31 (
             .l (.cmp .leq .i64) [(c 0 x1), (i 5)] fun x32 =>
             .call F.ref06_node [x0, x30, x14, x32] fun x33 =>
             .l (.cmp .neq .i64) [x33, (i 0)] fun x34 =>
             .ite x34 (
              .ret x33) (
              .l (.arith .add .i64) [(n y27 0), (i 1)] fun x35 =>
              .cont 2 [x35])) (
             .call F.ref06_node [x0, x30, x14, (.bool false)] fun x32 =>
             .l (.cmp .neq .i64) [x32, (i 0)] fun x33 =>
             .ite x33 (
              .ret x32) (
              .l (.arith .add .i64) [(n y27 0), (i 1)] fun x34 =>
              .cont 2 [x34])))) (
           .ret (i 0)))))) (
       .loop [(i 0)] fun y20 =>
       .l .len [(c 11 x1)] fun x21 =>
       .l (.cmp .lss .i64) [(n y20 0), x21] fun x22 =>
       .ite x22 (
        .l (.idx 12 true) [(c 11 x1), (n y20 0)] fun x23 =>
        .ite (n xs 3) (
         .call F.ref06_node [x0, x23, x14, (.bool true)] fun x24 =>
         .l (.cmp .neq .i64) [x24, (i 0)] fun x25 =>
         .ite x25 (
          .ret x24) (
          .l (.arith .add .i64) [(n y20 0), (i 1)] fun x26 =>
          .cont 2 [x26])) (
         .l (.cmp .geq .i64) [(c 0 x1), (i 2)] fun x24 =>
         .ite x24 (
          .l (.cmp .leq .i64) [(c 0 x1), (i 5)] fun x25 =>
          .call F.ref06_node [x0, x23, x14, x25] fun x26 =>
          .l (.cmp .neq .i64) [x26, (i 0)] fun x27 =>
          .ite x27 (
           .ret x26) (
           .l (.arith .add .i64) [(n y20 0), (i 1)] fun x28 =>
           .cont 2 [x28])) (
          .call F.ref06_node [x0, x23, x14, (.bool false)] fun x25 =>
          .l (.cmp .neq .i64) [x25, (i 0)] fun x26 =>
          .ite x26 (
           .ret x25) (
           .l (.arith .add .i64) [(n y20 0), (i 1)] fun x27 =>
           .cont 2 [x27])))) (
        .ret (i 0))))) (
     .l .len [(n xs 2)] fun x13 =>
     .loop [x13] fun y14 =>
     .l .len [x11] fun x15 =>
     .l (.cmp .lss .i64) [(n y14 0), x15] fun x16 =>
     .ite x16 (
      .l (.idx 1 false) [x11, (n y14 0)] fun x17 =>
      .call F.ref03_In [x17, (n xs 2)] fun x18 =>
      .ite x18 (
       .ret (i 5)) (
       .l (.arith .add .i64) [(n y14 0), (i 1)] fun x19 =>
       .cont 1 [x19])) (
      .l (.cmp .eql .i64) [(c 0 x1), (i 8)] fun x17 =>
      .ite x17 (
       .call F.ref06_Find [x0, (c 1 x1)] fun x18 =>
       .l (.cmp .lss .i64) [x18, (i 0)] fun x19 =>
       .ite x19 (
        .ret (i 4)) (
        .l (.idx 14 true) [(c 0 x0), x18] fun x20 =>
        .l .len [(c 1 x20)] fun x21 =>
        .l .len [(c 4 x1)] fun x22 =>
        .l (.cmp .neq .i64) [x21, x22] fun x23 =>
        .ite x23 (
         .ret (i 6)) (
         .l .bnot [(n xs 3)] fun x24 =>
         .ite x24 (
          .ret (i 7)) (
          .loop [(i 0)] fun y25 =>
          .l .len [(c 11 x1)] fun x26 =>
          .l (.cmp .lss .i64) [(n y25 0), x26] fun x27 =>
          .ite x27 (
           .l (.idx 12 true) [(c 11 x1), (n y25 0)] fun x28 =>
           .ite (n xs 3) (
            .call F.ref06_node [x0, x28, x11, (.bool true)] fun x29 =>
            .l (.cmp .neq .i64) [x29, (i 0)] fun x30 =>
            .ite x30 (
             .ret x29) (
             .l (.arith .add .i64) [(n y25 0), (i 1)] fun x31 =>
             .cont 2 [x31])) (
            .l (.cmp .geq .i64) [(c 0 x1), (i 2)] fun x29 =>
            .ite x29 (
             .l (.cmp .leq .i64) [(c 0 x1), (i 5)] fun x30 =>
             .call F.ref06_node [x0, x28, x11, x30] fun x31 =>
             .l (.cmp .neq .i64) [x31, (i 0)] fun x32 =>
             .ite x32 (
              .ret x31) (
              .l (.arith .add .i64) [(n y25 0), (i 1)] fun x33 =>
              .cont 2 [x33])) (
             .call F.ref06_node [x0, x28, x11, (.bool false)] fun x30 =>
             .l (.cmp .neq .i64) [x30, (i 0)] fun x31 =>
             .ite x31 (
              .ret x30) (
              .l (.arith .add .i64) [(n y25 0), (i 1)] fun x32 =>
              .cont 2 [x32])))) (
           .ret (i 0)))))) (
       .loop [(i 0)] fun y18 =>
       .l .len [(c 11 x1)] fun x19 =>
       .l (.cmp .lss .i64) [(n y18 0), x19] fun x20 =>
       .ite x20 (
        .l (.idx 12 true) [(c 11 x1), (n y18 0)] fun x21 =>
        .ite (n xs 3) (
         .call F.ref06_node [x0, x21, x11, (.bool true)] fun x22 =>
         .l (.cmp .neq .i64) [x22, (i 0)] fun x23 =>
         .ite x23 (
          .ret x22) (
          .l (.arith .add .i64) [(n y18 0), (i 1)] fun x24 =>
          .cont 2 [x24])) (
         .l (.cmp .geq .i64) [(c 0 x1), (i 2)] fun x22 =>
         .ite x22 (
          .l (.cmp .leq .i64) [(c 0 x1), (i 5)] fun x23 =>
          .call F.ref06_node [x0, x21, x11, x23] fun x24 =>
          .l (.cmp .neq .i64) [x24, (i 0)] fun x25 =>
          .ite x25 (
           .ret x24) (
           .l (.arith .add .i64) [(n y18 0), (i 1)] fun x26 =>
           .cont 2 [x26])) (
          .call F.ref06_node [x0, x21, x11, (.bool false)] fun x23 =>
          .l (.cmp .neq .i64) [x23, (i 0)] fun x24 =>
          .ite x24 (
           .ret x23) (
           .l (.arith .add .i64) [(n y18 0), (i 1)] fun x25 =>
           .cont 2 [x25])))) (
        .ret (i 0)))))) (
    .l (.cmp .eql .i64) [(c 0 x1), (i 6)] fun x10 =>
    .ite x10 (
     .l (.lst 1 false) [(c 1 x1), (c 2 x1)] fun x11 =>
     .l (.app 1 false 16) [x8, x11] fun x12 =>
     .l .len [(n xs 2)] fun x13 =>
     .loop [x13] fun y14 =>
     .l .len [x12] fun x15 =>
     .l (.cmp .lss .i64) [(n y14 0), x15] fun x16 =>
     .ite x16 (
      .l (.idx 1 false) [x12, (n y14 0)] fun x17 =>
      .call F.ref03_In [x17, (n xs 2)] fun x18 =>
      .ite x18 (
       .ret (i 5)) (
       .l (.arith .add .i64) [(n y14 0), (i 1)] fun x19 =>
       .cont 1 [x19])) (
      .l (.cmp .eql .i64) [(c 0 x1), (i 8)] fun x17 =>
      .ite x17 (
       .call F.ref06_Find [x0, (c 1 x1)] fun x18 =>
       .l (.cmp .lss .i64) [x18, (i 0)] fun x19 =>
       .ite x19 (
        .ret (i 4)) (
        .l (.idx 14 true) [(c 0 x0), x18] fun x20 =>
        .l .len [(c 1 x20)] fun x21 =>
        .l .len [(c 4 x1)] fun x22 =>
        .l (.cmp .neq .i64) [x21, x22] fun x23 =>
        .ite x23 (
         .ret (i 6)) (
         .l .bnot [(n xs 3)] fun x24 =>
         .ite x24 (
          .ret (i 7)) (
          .loop [(i 0)] fun y25 =>
          .l .len [(c 11 x1)] fun x26 =>
          .l (.cmp .lss .i64) [(n y25 0), x26] fun x27 =>
          .ite x27 (
           .l (.idx 12 true) [(c 11 x1), (n y25 0)] fun x28 =>
           .ite (n xs 3) (
            .call F.ref06_node [x0, x28, x12, (.bool true)] fun x29 =>
            .l (.cmp .neq .i64) [x29, (i 0)] fun x30 =>
            .ite x30 (
             .ret x29) (
             .l (.arith .add .i64) [(n y25 0), (i 1)] fun x31 =>
             .cont 2 [x31])) (
            .l (.cmp .geq .i64) [(c 0 x1), (i 2)] fun x29 =>
            .ite x29 (
             .l (.cmp .leq .i64) [(c 0 x1), (i 5)] fun x30 =>
             .call F.ref06_node [x0, x28, x12, x30] fun x31 =>
             .l (.cmp .neq .i64) [x31, (i 0)] fun x32 =>
             .ite x32 (
              .ret x31) (
              .l (.arith .add .i64) [(n y25 0), (i 1)] fun x33 =>
              .cont 2 [x33])) (
             .call F.ref06_node [x0, x28, x12, (.bool false)] fun x30 =>
             .l (.cmp .neq .i64) [x30, (i 0)] fun x31 =>
             .ite x31 (
              .ret x30) (
              .l (.arith .add .i64) [(n y25 0), (i 1)] fun x32 =>
              .cont 2 [x32])))) (
           .ret (i 0)))))) (
       .loop [(i 0)] fun y18 =>
       .l .len [(c 11 x1)] fun x19 =>
       .l (.cmp .lss .i64) [(n y18 0), x19] fun x20 =>
       .ite x20 (
        .l (.idx 12 true) [(c 11 x1), (n y18 0)] fun x21 =>
        .ite (n xs 3) (
         .call F.ref06_node [x0, x21, x12, (.bool true)] fun x22 =>
         .l (.cmp .neq .i64) [x22, (i 0)] fun x23 =>
         .ite x23 (
          .ret x22) (
          .l (.arith .add .i64) [(n y18 0), (i 1)] fun x24 =>
          .cont 2 [x24])) (
         .l (.cmp .geq .i64) [(c 0 x1), (i 2)] fun x22 =>
         .ite x22 (
          .l (.cmp .leq .i64) [(c 0 x1), (i 5)] fun x23 =>
          .call F.ref06_node [x0, x21, x12, x23] fun x24 =>
          .l (.cmp .neq .i64) [x24, (i 0)] fun x25 =>
          .ite x25 (
           .ret x24) (
           .l (.arith .add .i64) [(n y18 0), (i 1)] fun x26 =>
           .cont 2 [x26])) (
          .call F.ref06_node [x0, x21, x12, (.bool false)] fun x23 =>
          .l (.cmp .neq .i64) [x23, (i 0)] fun x24 =>
          .ite x24 (
           .ret x23) (
           .l (.arith .add .i64) [(n y18 0), (i 1)] fun x25 =>
           .cont 2 [x25])))) (
        .ret (i 0))))) (
     .l .len [(n xs 2)] fun x11 =>
     .loop [x11] fun y12 =>
     .l .len [x8] fun x13 =>
     .l (.cmp .lss .i64) [(n y12 0), x13] fun x14 =>
     .ite x14 (
      .l (.idx 1 false) [x8, (n y12 0)] fun x15 =>
      .call F.ref03_In [x15, (n xs 2)] fun x16 =>
      .ite x16 (
       .ret (i 5)) (
       .l (.arith .add .i64) [(n y12 0), (i 1)] fun x17 =>
       .cont 1 [x17])) (
      .l (.cmp .eql .i64) [(c 0 x1), (i 8)] fun x15 =>
      .ite x15 (
       .call F.ref06_Find [x0, (c 1 x1)] fun x16 =>
       .l (.cmp .lss .i64) [x16, (i 0)] fun x17 =>
       .ite x17 (
        .ret (i 4)) (
        .l (.idx 14 true) [(c 0 x0), x16] fun x18 =>
        .l .len [(c 1 x18)] fun x19 =>
        .l .len [(c 4 x1)] fun x20 =>
        .l (.cmp .neq .i64) [x19, x20] fun x21 =>
        .ite x21 (
         .ret (i 6)) (
         .l .bnot [(n xs 3)] fun x22 =>
         .ite x22 (
          .ret (i 7)) (
          .loop [(i 0)] fun y23 =>
          .l .len [(c 11 x1)] fun x24 =>
          .l (.cmp .lss .i64) [(n y23 0), x24] fun x25 =>
          .ite x25 (
           .l (.idx 12 true) [(c 11 x1), (n y23 0)] fun x26 =>
           .ite (n xs 3) (
            .call F.ref06_node [x0, x26, x8, (.bool true)] fun x27 =>
            .l (.cmp .neq .i64) [x27, (i 0)] fun x28 =>
            .ite x28 (
             .ret x27) (
             .l (.arith .add .i64) [(n y23 0), (i 1)] fun x29 =>
             .cont 2 [x29])) (
            .l (.cmp .geq .i64) [(c 0 x1), (i 2)] fun x27 =>
            .ite x27 (
             .l (.cmp .leq .i64) [(c 0 x1), (i 5)] fun x28 =>
             .call F.ref06_node [x0, x26, x8, x28] fun x29 =>
             .l (.cmp .neq .i64) [x29, (i 0)] fun x30 =>
             .ite x30 (
              .ret x29) (
              .l (.arith .add .i64) [(n y23 0), (i 1)] fun x31 =>
              .cont 2 [x31])) (
             .call F.ref06_node [x0, x26, x8, (.bool false)] fun x28 =>
             .l (.cmp .neq .i64) [x28, (i 0)] fun x29 =>
             .ite x29 (
              .ret x28) (
              .l (.arith .add .i64) [(n y23 0), (i 1)] fun x30 =>
              .cont 2 [x30])))) (
           .ret (i 0)))))) (
       .loop [(i 0)] fun y16 =>
       .l .len [(c 11 x1)] fun x17 =>
       .l (.cmp .lss .i64) [(n y16 0), x17] fun x18 =>
       .ite x18 (
        .l (.idx 12 true) [(c 11 x1), (n y16 0)] fun x19 =>
        .ite (n xs 3) (
         .call F.ref06_node [x0, x19, x8, (.bool true)] fun x20 =>
         .l (.cmp .neq .i64) [x20, (i 0)] fun x21 =>
         .ite x21 (
          .ret x20) (
          .l (.arith .add .i64) [(n y16 0), (i 1)] fun x22 =>
          .cont 2 [x22])) (
         .l (.cmp .geq .i64) [(c 0 x1), (i 2)] fun x20 =>
         .ite x20 (
          .l (.cmp .leq .i64) [(c 0 x1), (i 5)] fun x21 =>
          .call F.ref06_node [x0, x19, x8, x21] fun x22 =>
          .l (.cmp .neq .i64) [x22, (i 0)] fun x23 =>
          .ite x23 (
           .ret x22) (
           .l (.arith .add .i64) [(n y16 0), (i 1)] fun x24 =>
           .cont 2 [x24])) (
          .call F.ref06_node [x0, x19, x8, (.bool false)] fun x21 =>
          .l (.cmp .neq .i64) [x21, (i 0)] fun x22 =>
          .ite x22 (
           .ret x21) (
           .l (.arith .add .i64) [(n y16 0), (i 1)] fun x23 =>
           .cont 2 [x23])))) (
        .ret (i 0))))))))) (
 .loop [(i 0)] fun y3 =>
 .l .len [(c 4 x1)] fun x4 =>
 .l (.cmp .lss .i64) [(n y3 0), x4] fun x5 =>
 .ite x5 (
  .l (.idx 3 true) [(c 4 x1), (n y3 0)] fun x6 =>
  .l (.cmp .eql .i64) [(c 0 x6), (i 1)] fun x7 =>
  .ite x7 (
   .l (.idx 3 true) [(c 4 x1), (n y3 0)] fun x8 =>
   .call F.ref03_In [(c 1 x8), (n xs 2)] fun x9 =>
   .l .bnot [x9] fun x10 =>
   .ite x10 (
    .ret (i 4)) (
    .l (.arith .add .i64) [(n y3 0), (i 1)] fun x11 =>
    .cont 0 [x11])) (
   .l (.arith .add .i64) [(n y3 0), (i 1)] fun x8 =>
   .cont 0 [x8])) (
  .l (.lst 1 false) [] fun x6 =>
  .l (.app 1 false 16) [x6, (n xs 2)] fun x7 =>
  .l (.cmp .eql .i64) [(c 0 x1), (i 3)] fun x8 =>
  .ite x8 (
   .l (.lst 1 false) [(c 2 x1)] fun x9 =>
   .l (.app 1 false 16) [x7, x9] fun x10 =>
   .l (.cmp .eql .i64) [(c 0 x1), (i 6)] fun x11 =>
   .ite x11 (
    .l (.lst 1 false) [(c 1 x1), (c 2 x1)] fun x12 =>
    .l (.app 1 false 16) [x10, x12] fun x13 =>
    .l .len [(n xs 2)] fun x14 =>
    .loop [x14] fun y15 =>
    .l .len [x13] fun x16 =>
    .l (.cmp .lss .i64) [(n y15 0), x16] fun x17 =>
    .ite x17 (
     .l (.idx 1 false) [x13, (n y15 0)] fun x18 =>
     .call F.ref03_In [x18, (n xs 2)] fun x19 =>
     .ite x19 (
      .ret (i 5)) (
      .l (.arith .add .i64) [(n y15 0), (i 1)] fun x20 =>
      .cont 1 [x20])) (
     .l (.cmp .eql .i64) [(c 0 x1), (i 8)] fun x18 =>
     .ite x18 (
      .call F.ref06_Find [x0, (c 1 x1)] fun x19 =>
      .l (.cmp .lss .i64) [x19, (i 0)] fun x20 =>
      .ite x20 (
       .ret (i 4)) (
       .l (.idx 14 true) [(c 0 x0), x19] fun x21 =>
       .l .len [(c 1 x21)] fun x22 =>
       .l .len [(c 4 x1)] fun x23 =>
       .l (.cmp .neq .i64) [x22, x23] fun x24 =>
       .ite x24 (
        .ret (i 6)) (
        .l .bnot [(n xs 3)] fun x25 =>
        .ite x25 (
         .ret (i 7)) (
         .loop [(i 0)] fun y26 =>
         .l .len [(c 11 x1)] fun x27 =>
         .l (.cmp .lss .i64) [(n y26 0), x27] fun x28 =>
         .ite x28 (
          .l (.idx 12 true) [(c 11 x1), (n y26 0)] fun x29 =>
          .ite (n xs 3) (
           .call F.ref06_node [x0, x29, x13, (.bool true)] fun x30 =>
           .l (.cmp .neq .i64) [x30, (i 0)] fun x31 =>
           .ite x31 (
            .ret x30) (
            .l (.arith .add .i64) [(n y26 0), (i 1)] fun x32 =>
            .cont 2 [x32])) (
           .l (.cmp .geq .i64) [(c 0 x1), (i 2)] fun x30 =>
           .ite x30 (
            .l (.cmp .leq .i64) [(c 0 x1), (i 5)] fun x31 =>
            .call F.ref06_node [x0, x29, x13, x31] fun x32 =>
            .l (.cmp .neq .i64) [x32, (i 0)] fun x33 =>
            .ite x33 (
             .ret x32) (
             .l (.arith .add .i64) [(n y26 0), (i 1)] fun x34 =>
             .cont 2 [x34])) (
            .call F.ref06_node [x0, x29, x13, (.bool false)] fun x31 =>
            .l (.cmp .neq .i64) [x31, (i 0)] fun x32 =>
            .ite x32 (
             .ret x31) (
             .l (.arith .add .i64) [(n y26 0), (i 1)] fun x33 =>
             .cont 2 [x33])))) (
          .ret (i 0)))))) (
      .loop [(i 0)] fun y19 =>
      .l .len [(c 11 x1)] fun x20 =>
      .l (.cmp .lss .i64) [(n y19 0), x20] fun x21 =>
      .ite x21 (
       .l (.idx 12 true) [(c 11 x1), (n y19 0)] fun x22 =>
       .ite (n xs 3) (
        .call F.ref06_node [x0, x22, x13, (.bool true)] fun x23 =>
        .l (.cmp .neq .i64) [x23, (i 0)] fun x24 =>
        .ite x24 (
         .ret x23) (
         .l (.arith .add .i64) [(n y19 0), (i 1)] fun x25 =>
         .cont 2 [x25])) (
        .l (.cmp .geq .i64) [(c 0 x1), (i 2)] fun x23 =>
        .ite x23 (
         .l (.cmp .leq .i64) [(c 0 x1), (i 5)] fun x24 =>
         .call F.ref06_node [x0, x22, x13, x24] fun x25 =>
         .l (.cmp .neq .i64) [x25, (i 0)] fun x26 =>
         .ite x26 (
          .ret x25) (
          .l (.arith .add .i64) [(n y19 0), (i 1)] fun x27 =>
          .cont 2 [x27])) (
         .call F.ref06_node [x0, x22, x13, (.bool false)] fun x24 =>
         .l (.cmp .neq .i64) [x24, (i 0)] fun x25 =>
         .ite x25 (
          .ret x24) (
          .l (.arith .add .i64) [(n y19 0), (i 1)] fun x26 =>
          .cont 2 [x26])))) (
       .ret (i 0))))) (
    .l .len [(n xs 2)] fun x12 =>
    .loop [x12] fun y13 =>
    .l .len [x10] fun x14 =>
    .l (.cmp .lss .i64) [(n y13 0), x14] fun x15 =>
    .ite x15 (
     .l (.idx 1 false) [x10, (n y13 0)] fun x16 =>
     .call F.ref03_In [x16, (n xs 2)] fun x17 =>
     .ite x17 (
      .ret (i 5)) (
      .l (.arith .add .i64) [(n y13 0), (i 1)] fun x18 =>
      .cont 1 [x18])) (
     .l (.cmp .eql .i64) [(c 0 x1), (i 8)] fun x16 =>
     .ite x16 (
      .call F.ref06_Find [x0, (c 1 x1)] fun x17 =>
      .l (.cmp .lss .i64) [x17, (i 0)] fun x18 =>
      .ite x18 (
       .ret (i 4)) (
       .l (.idx 14 true) [(c 0 x0), x17] fun x19 =>
       .l .len [(c 1 x19)] fun x20 =>
       .l .len [(c 4 x1)] fun x21 =>
       .l (.cmp .neq .i64) [x20, x21] fun x22 =>
       .ite x22 (
        .ret (i 6)) (
        .l .bnot [(n xs 3)] fun x23 =>
        .ite x23 (
         .ret (i 7)) (
         .loop [(i 0)] fun y24 =>
         .l .len [(c 11 x1)] fun x25 =>
         .l (.cmp .lss .i64) [(n y24 0), x25] fun x26 =>
         .ite x26 (
          .l (.idx 12 true) [(c 11 x1), (n y24 0)] fun x27 =>
          .ite (n xs 3) (
           .call F.ref06_node [x0, x27, x10, (.bool true)] fun x28 =>
           .l (.cmp .neq .i64) [x28, (i 0)] fun x29 =>
           .ite x29 (
            .ret x28) (
            .l (.arith .add .i64) [(n y24 0), (i 1)] fun x30 =>
            .cont 2 [x30])) (
           .l (.cmp .geq .i64) [(c 0 x1), (i 2)] fun x28 =>
           .ite x28 (
            .l (.cmp .leq .i64) [(c 0 x1), (i 5)] fun x29 =>
            .call F.ref06_node [x0, x27, x10, x29] fun x30 =>
            .l (.cmp .neq .i64) [x30, (i 0)] fun x31 =>
            .ite x31 (
             .ret x30) (
             .l (.arith .add .i64) [(n y24 0), (i 1)] fun x32 =>
             .cont 2 [x32])) (
            .call F.ref06_node [x0, x27, x10, (.bool false)] fun x29 =>
            .l (.cmp .neq .i64) [x29, (i 0)] fun x30 =>
            .ite x30 (
             .ret x29) (
             .l (.arith .add .i64) [(n y24 0), (i 1)] fun x31 =>
             .cont 2 [x31])))) (
          .ret (i 0)))))) (
      .loop [(i 0)] fun y17 =>
      .l .len [(c 11 x1)] fun x18 =>
      .l (.cmp .lss .i64) [(n y17 0), x18] fun x19 =>
      .ite x19 (
       .l (.idx 12 true) [(c 11 x1), (n y17 0)] fun x20 =>
       .ite (n xs 3) (
        .call F.ref06_node [x0, x20, x10, (.bool true)] fun x21 =>
        .l (.cmp .neq .i64) [x21, (i 0)] fun x22 =>
        .ite x22 (
         .ret x21) (
         .l (.arith .add .i64) [(n y17 0), (i 1)] fun x23 =>
         .cont 2 [x23])) (
        .l (.cmp .geq .i64) [(c 0 x1), (i 2)] fun x21 =>
        .ite x21 (
         .l (.cmp .leq .i64) [(c 0 x1), (i 5)] fun x22 =>
         .call F.ref06_node [x0, x20, x10, x22] fun x23 =>
         .l (.cmp .neq .i64) [x23, (i 0)] fun x24 =>
         .ite x24 (
          .ret x23) (
          .l (.arith .add .i64) [(n y17 0), (i 1)] fun x25 =>
          .cont 2 [x25])) (
         .call F.ref06_node [x0, x20, x10, (.bool false)] fun x22 =>
         .l (.cmp .neq .i64) [x22, (i 0)] fun x23 =>
         .ite x23 (
          .ret x22) (
          .l (.arith .add .i64) [(n y17 0), (i 1)] fun x24 =>
          .cont 2 [x24])))) (
       .ret (i 0)))))) (
   .l (.cmp .eql .i64) [(c 0 x1), (i 6)] fun x9 =>
   .ite x9 (
    .l (.lst 1 false) [(c 1 x1), (c 2 x1)] fun x10 =>
    .l (.app 1 false 16) [x7, x10] fun x11 =>
    .l .len [(n xs 2)] fun x12 =>
    .loop [x12] fun y13 =>
    .l .len [x11] fun x14 =>
    .l (.cmp .lss .i64) [(n y13 0), x14] fun x15 =>
    .ite x15 (
     .l (.idx 1 false) [x11, (n y13 0)] fun x16 =>
     .call F.ref03_In [x16, (n xs 2)] fun x17 =>
     .ite x17 (
      .ret (i 5)) (
      .l (.arith .add .i64) [(n y13 0), (i 1)] fun x18 =>
      .cont 1 [x18])) (
     .l (.cmp .eql .i64) [(c 0 x1), (i 8)] fun x16 =>
     .ite x16 (
      .call F.ref06_Find [x0, (c 1 x1)] fun x17 =>
      .l (.cmp .lss .i64) [x17, (i 0)] fun x18 =>
      .ite x18 (
       .ret (i 4)) (
       .l (.idx 14 true) [(c 0 x0), x17] fun x19 =>
       .l .len [(c 1 x19)] fun x20 =>
       .l .len [(c 4 x1)] fun x21 =>
       .l (.cmp .neq .i64) [x20, x21] fun x22 =>
       .ite x22 (
        .ret (i 6)) (
        .l .bnot [(n xs 3)] fun x23 =>
        .ite x23 (
         .ret (i 7)) (
         .loop [(i 0)] fun y24 =>
         .l .len [(c 11 x1)] fun x25 =>
         .l (.cmp .lss .i64) [(n y24 0), x25] fun x26 =>
         .ite x26 (
          .l (.idx 12 true) [(c 11 x1), (n y24 0)] fun x27 =>
          .ite (n xs 3) (
           .call F.ref06_node [x0, x27, x11, (.bool true)] fun x28 =>
           .l (.cmp .neq .i64) [x28, (i 0)] fun x29 =>
           .ite x29 (
            .ret x28) (
            .l (.arith .add .i64) [(n y24 0), (i 1)] fun x30 =>
            .cont 2 [x30])) (
           .l (.cmp .geq .i64) [(c 0 x1), (i 2)] fun x28 =>
           .ite x28 (
            .l (.cmp .leq .i64) [(c 0 x1), (i 5)] fun x29 =>
            .call F.ref06_node [x0, x27, x11, x29] fun x30 =>
            .l (.cmp .neq .i64) [x30, (i 0)] fun x31 =>
            .ite x31 (
             .ret x30) (
             .l (.arith .add .i64) [(n y24 0), (i 1)] fun x32 =>
             .cont 2 [x32])) (
            .call F.ref06_node [x0, x27, x11, (.bool false)] fun x29 =>
            .l (.cmp .neq .i64) [x29, (i 0)] fun x30 =>
            .ite x30 (
             .ret x29) (
             .l (.arith .add .i64) [(n y24 0), (i 1)] fun x31 =>
             .cont 2 [x31])))) (
          .ret (i 0)))))) (
      .loop [(i 0)] fun y17 =>
      .l .len [(c 11 x1)] fun x18 =>
      .l (.cmp .lss .i64) [(n y17 0), x18] fun x19 =>
      .ite x19 (
       .l (.idx 12 true) [(c 11 x1), (n y17 0)] fun x20 =>
       .ite (n xs 3) (
        .call F.ref06_node [x0, x20, x11, (.bool true)] fun x21 =>
        .l (.cmp .neq .i64) [x21, (i 0)] fun x22 =>
        .ite x22 (
         .ret x21) (
         .l (.arith .add .i64) [(n y17 0), (i 1)] fun x23 =>
         .cont 2 [x23])) (
        .l (.cmp .geq .i64) [(c 0 x1), (i 2)] fun x21 =>
        .ite x21 (
         .l (.cmp .leq .i64) [(c 0 x1), (i 5)] fun x22 =>
         .call F.ref06_node [x0, x20, x11, x22] fun x23 =>
         .l (.cmp .neq .i64) [x23, (i 0)] fun x24 =>
         .ite x24 (
          .ret x23) (
          .l (.arith .add .i64) [(n y17 0), (i 1)] fun x25 =>
          .cont 2 [x25])) (
         .call F.ref06_node [x0, x20, x11, (.bool false)] fun x22 =>
         .l (.cmp .neq .i64) [x22, (i 0)] fun x23 =>
         .ite x23 (
          .ret x22) (
          .l (.arith .add .i64) [(n y17 0), (i 1)] fun x24 =>
          .cont 2 [x24])))) (
       .ret (i 0))))) (
    .l .len [(n xs 2)] fun x10 =>
    .loop [x10] fun y11 =>
    .l .len [x7] fun x12 =>
    .l (.cmp .lss .i64) [(n y11 0), x12] fun x13 =>
    .ite x13 (
     .l (.idx 1 false) [x7, (n y11 0)] fun x14 =>
     .call F.ref03_In [x14, (n xs 2)] fun x15 =>
     .ite x15 (
      .ret (i 5)) (
      .l (.arith .add .i64) [(n y11 0), (i 1)] fun x16 =>
      .cont 1 [x16])) (
     .l (.cmp .eql .i64) [(c 0 x1), (i 8)] fun x14 =>
     .ite x14 (
      .call F.ref06_Find [x0, (c 1 x1)] fun x15 =>
      .l (.cmp .lss .i64) [x15, (i 0)] fun x16 =>
      .ite x16 (
       .ret (i 4)) (
       .l (.idx 14 true) [(c 0 x0), x15] fun x17 =>
       .l .len [(c 1 x17)] fun x18 =>
       .l .len [(c 4 x1)] fun x19 =>
       .l (.cmp .neq .i64) [x18, x19] fun x20 =>
       .ite x20 (
        .ret (i 6)) (
        .l .bnot [(n xs 3)] fun x21 =>
        .ite x21 (
         .ret (i 7)) (
         .loop [(i 0)] fun y22 =>
         .l .len [(c 11 x1)] fun x23 =>
         .l (.cmp .lss .i64) [(n y22 0), x23] fun x24 =>
         .ite x24 (
          .l (.idx 12 true) [(c 11 x1), (n y22 0)] fun x25 =>
          .ite (n xs 3) (
           .call F.ref06_node [x0, x25, x7, (.bool true)] fun x26 =>
           .l (.cmp .neq .i64) [x26, (i 0)] fun x27 =>
           .ite x27 (
            .ret x26) (
            .l (.arith .add .i64) [(n y22 0), (i 1)] fun x28 =>
            .cont 2 [x28])) (
           .l (.cmp .geq .i64) [(c 0 x1), (i 2)] fun x26 =>
           .ite x26 (
            .l (.cmp .leq .i64) [(c 0 x1), (i 5)] fun x27 =>
            .call F.ref06_node [x0, x25, x7, x27] fun x28 =>
            .l (.cmp .neq .i64) [x28, (i 0)] fun x29 =>
            .ite x29 (
             .ret x28) (
             .l (.arith .add .i64) [(n y22 0), (i 1)] fun x30 =>
             .cont 2 [x30])) (
            .call F.ref06_node [x0, x25, x7, (.bool false)] fun x27 =>
            .l (.cmp .neq .i64) [x27, (i 0)] fun x28 =>
            .ite x28 (
             .ret x27) (
             .l (.arith .add .i64) [(n y22 0), (i 1)] fun x29 =>
             .cont 2 [x29])))) (
          .ret (i 0)))))) (
      .loop [(i 0)] fun y15 =>
      .l .len [(c 11 x1)] fun x16 =>
      .l (.cmp .lss .i64) [(n y15 0), x16] fun x17 =>
      .ite x17 (
       .l (.idx 12 true) [(c 11 x1), (n y15 0)] fun x18 =>
       .ite (n xs 3) (
        .call F.ref06_node [x0, x18, x7, (.bool true)] fun x19 =>
        .l (.cmp .neq .i64) [x19, (i 0)] fun x20 =>
        .ite x20 (
         .ret x19) (
         .l (.arith .add .i64) [(n y15 0), (i 1)] fun x21 =>
         .cont 2 [x21])) (
        .l (.cmp .geq .i64) [(c 0 x1), (i 2)] fun x19 =>
        .ite x19 (
         .l (.cmp .leq .i64) [(c 0 x1), (i 5)] fun x20 =>
         .call F.ref06_node [x0, x18, x7, x20] fun x21 =>
         .l (.cmp .neq .i64) [x21, (i 0)] fun x22 =>
         .ite x22 (
          .ret x21) (
          .l (.arith .add .i64) [(n y15 0), (i 1)] fun x23 =>
          .cont 2 [x23])) (
         .call F.ref06_node [x0, x18, x7, (.bool false)] fun x20 =>
         .l (.cmp .neq .i64) [x20, (i 0)] fun x21 =>
         .ite x21 (
          .ret x20) (
          .l (.arith .add .i64) [(n y15 0), (i 1)] fun x22 =>
          .cont 2 [x22])))) (
       .ret (i 0))))))))
theorem k_ref06_node : TxOk P F.ref06_node 4 t_ref06_node := txOk_of (H := {}) (plans := []) hm Tryz.func26 rfl rfl fun xs => by kernel_rfl
def t_proctree_Program (xs : List PV) : T PV :=
.l (.okc 13 true) [(n xs 0)] fun x0 =>
.call F.proctree_Total [x0] fun x1 =>
.l (.cmp .gtr .i64) [x1, (i 10000)] fun x2 =>
.ite x2 (
 .ret (i 2)) (
 .l .len [(c 0 x0)] fun x3 =>
 .loop [(i 0)] fun y4 =>
 .l (.cmp .lss .i64) [(n y4 0), x3] fun x5 =>
 .ite x5 (
  .l (.idx 14 true) [(c 0 x0), (n y4 0)] fun x6 =>
  .l (.okc 14 true) [x6] fun x7 =>
  .call F.proctree_Right [(sb 2 12 x7)] fun x8 =>
  .l (.cmp .neq .i64) [x8, (i 0)] fun x9 =>
  .ite x9 (
   .ret x8) (
   .l (.arith .add .i64) [(n y4 0), (i 1)] fun x10 =>
   .cont 0 [x10])) (
  .call F.proctree_Right [(sb 1 12 x0)] fun x6 =>
  .l (.cmp .neq .i64) [x6, (i 0)] fun x7 =>
  .ite x7 (
   .ret x6) (
   .l .len [(c 0 x0)] fun x8 =>
   .loop [(i 0)] fun y9 =>
   .l (.cmp .lss .i64) [(n y9 0), x8] fun x10 =>
   .ite x10 (
    .l (.idx 14 true) [(c 0 x0), (n y9 0)] fun x11 =>
    .l (.okc 14 true) [x11] fun x12 =>
    .call F.lex_Name [(c 0 x12)] fun x13 =>
    .l .bnot [x13] fun x14 =>
    .ite x14 (
     .ret (i 3)) (
     .call F.slices_ContainsFunc_api_Param_api_Param [(c 1 x12), (.fn F.proctree_Program_1 [] [])] fun x15 =>
     .ite x15 (
      .ret (i 3)) (
      .l (.arith .add .i64) [(n y9 0), (i 1)] fun x16 =>
      .cont 1 [x16]))) (
    .ret (i 0)))))
theorem k_proctree_Program : TxOk P F.proctree_Program 1 t_proctree_Program := txOk_of (H := {}) (plans := []) hm Tryz.func27 rfl rfl fun xs => by kernel_rfl
def t_scope_twice (xs : List PV) : T PV :=
.call F.slices_Sort_string_string [(n xs 0)] fun x0 =>
.calls F.slices_Clone_string_string sg_slices_Clone_string_string [(n xs 0)] fun z1 =>
.call F.slices_Compact_string_string [(n z1 0)] fun x2 =>
.l .len [x2] fun x3 =>
.l .len [(n xs 0)] fun x4 =>
.l (.cmp .lss .i64) [x3, x4] fun x5 =>
.ret x5
theorem k_scope_twice : TxOk P F.scope_twice 1 t_scope_twice := txOk_of (H := { wr := [], ro := [], nl := [], fz := [], da := [], sigs := [(56, sg_slices_Clone_string_string), (108, sg_slices_Clone_typetree_bound_typetree_bound)] }) (plans := []) hm Tryz.func28 rfl rfl fun xs => by kernel_rfl
def u_scope_twice (xs : List PV) : T PV :=
.calls F.slices_Sort_string_string sg_slices_Sort_string_string [(n xs 0)] fun z0 =>
.calls F.slices_Clone_string_string sg_slices_Clone_string_string [(n z0 1)] fun z1 =>
.calls F.slices_Compact_string_string sg_slices_Compact_string_string [(n z1 0)] fun z2 =>
.l .len [(n z2 0)] fun x3 =>
.l .len [(n z0 1)] fun x4 =>
.l (.cmp .lss .i64) [x3, x4] fun x5 =>
.ret (.tup [x5])
theorem m_scope_twice : TxOkS P F.scope_twice sg_scope_twice u_scope_twice := txOkS_of (H := { wr := [], ro := [], nl := [], fz := [], da := [], sigs := [(57, sg_maps_Clone_scope_names_string_bool), (29, sg_scope_params), (28, sg_scope_twice), (55, sg_slices_Compact_string_string), (54, sg_slices_Sort_string_string), (79, sg_slices_pdqsortOrdered_string_Nil), (109, sg_slices_insertionSortOrdered_string), (56, sg_slices_Clone_string_string), (108, sg_slices_Clone_typetree_bound_typetree_bound)] }) (plans := []) hm Tryz.func28 rfl fun xs => by kernel_rfl
def t_scope_params (xs : List PV) : T PV :=
.l (.okc 14 true) [(n xs 0)] fun x0 =>
.l .len [(c 1 x0)] fun x1 =>
.loop [(i 0), (.sl [])] fun y2 =>
.l (.cmp .lss .i64) [(n y2 0), x1] fun x3 =>
.ite x3 (
 .l (.idx 7 true) [(c 1 x0), (n y2 0)] fun x4 =>
 .l (.okc 7 true) [x4] fun x5 =>
 .l (.lst 1 false) [(c 0 x5)] fun x6 =>
 .l (.app 1 false 16) [(n y2 1), x6] fun x7 =>
 .l (.arith .add .i64) [(n y2 0), (i 1)] fun x8 =>
 .cont 0 [x8, x7]) (
 .ret (n y2 1))
theorem k_scope_params : TxOk P F.scope_params 1 t_scope_params := txOk_of (H := { wr := [0, 1, 2, 3, 4, 5, 6, 7, 8, 9, 10, 11, 12, 13, 14, 15, 16, 17, 18, 19, 20, 21, 22, 23, 24, 25, 26, 27, 28, 29, 30, 31, 32, 33, 34, 35, 36, 37, 38, 39, 40, 41, 42, 43, 44, 45, 46, 47, 48, 49, 50, 51, 52, 53, 54, 55, 56, 57, 58, 59, 60, 61, 62, 63, 64, 65, 66, 67, 68, 69, 70, 71, 72, 73, 74, 75, 76, 77, 78, 79, 80, 81, 82, 83, 84, 85, 86, 87, 88, 89, 90, 91, 92, 93, 94, 95, 96, 97, 98, 99], ro := [], nl := [], fz := [], da := [], sigs := [] }) (plans := []) hm Tryz.func29 rfl rfl fun xs => by kernel_rfl
def u_scope_params (xs : List PV) : T PV :=
.l (.okc 14 true) [(n xs 0)] fun x0 =>
.l .len [(c 1 x0)] fun x1 =>
.loop [(i 0), (.sl [])] fun y2 =>
.l (.cmp .lss .i64) [(n y2 0), x1] fun x3 =>
.ite x3 (
 .l (.idx 7 true) [(c 1 x0), (n y2 0)] fun x4 =>
 .l (.okc 7 true) [x4] fun x5 =>
 .l (.lst 1 false) [(c 0 x5)] fun x6 =>
 .l (.app 1 false 16) [(n y2 1), x6] fun x7 =>
 .l (.arith .add .i64) [(n y2 0), (i 1)] fun x8 =>
 .cont 0 [x8, x7]) (
 .ret (.tup [(n y2 1)]))
theorem m_scope_params : TxOkS P F.scope_params sg_scope_params u_scope_params := txOkS_of (H := { wr := [0, 1, 2, 3, 4, 5, 6, 7, 8, 9, 10, 11, 12, 13, 14, 15, 16, 17, 18, 19, 20, 21, 22, 23, 24, 25, 26, 27, 28, 29, 30, 31, 32, 33, 34, 35, 36, 37, 38, 39, 40, 41, 42, 43, 44, 45, 46, 47, 48, 49, 50, 51, 52, 53, 54, 55, 56, 57, 58, 59, 60, 61, 62, 63, 64, 65, 66, 67, 68, 69, 70, 71, 72, 73, 74, 75, 76, 77, 78, 79, 80, 81, 82, 83, 84, 85, 86, 87, 88, 89, 90, 91, 92, 93, 94, 95, 96, 97, 98, 99], ro := [], nl := [], fz := [], da := [], sigs := [(57, sg_maps_Clone_scope_names_string_bool), (29, sg_scope_params), (28, sg_scope_twice), (55, sg_slices_Compact_string_string), (54, sg_slices_Sort_string_string), (79, sg_slices_pdqsortOrdered_string_Nil), (109, sg_slices_insertionSortOrdered_string)] }) (plans := []) hm Tryz.func29 rfl fun xs => by kernel_rfl
def t_scope_names_with (xs : List PV) : T PV :=
.calls F.maps_Clone_scope_names_string_bool sg_maps_Clone_scope_names_string_bool [(n xs 0)] fun z0 =>
.l .len [(n xs 1)] fun x1 =>
.loop [(i 0), (.bool true), (n z0 0)] fun y2 =>
.l (.cmp .lss .i64) [(n y2 0), x1] fun x3 =>
.ite x3 (
 .l (.idx 1 false) [(n xs 1), (n y2 0)] fun x4 =>
 .ite (n y2 1) (
  .l (.mget false [.s] (.bool false)) [(n xs 0), x4] fun x5 =>
  .l .bnot [x5] fun x6 =>
  .l (.mset false [.s]) [(n y2 2), x4, (.bool true)] fun x7 =>
  .l (.arith .add .i64) [(n y2 0), (i 1)] fun x8 =>
  .cont 0 [x8, x6, x7]) (
  .l (.mset false [.s]) [(n y2 2), x4, (.bool true)] fun x5 =>
  .l (.arith .add .i64) [(n y2 0), (i 1)] fun x6 =>
  .cont 0 [x6, (.bool false), x5])) (
 .ret (.tup [(n y2 2), (n y2 1)]))
theorem k_scope_names_with : TxOk P F.scope_names_with 2 t_scope_names_with := txOk_of (H := { wr := [], ro := [], nl := [], fz := [], da := [], sigs := [(57, sg_maps_Clone_scope_names_string_bool), (29, sg_scope_params), (28, sg_scope_twice), (55, sg_slices_Compact_string_string)] }) (plans := []) hm Tryz.func30 rfl rfl fun xs => by kernel_rfl
def t_scope_walker_walk (xs : List PV) : T PV :=
.l (.okc 14 true) [(n xs 0)] fun x0 =>
.l (.okc 12 true) [(n xs 1)] fun x1 =>
.call F.scope_walker_node [x0, x1, (n xs 2), (n xs 3)] fun x2 =>
.l (.tc 0) [x2] fun x3 =>
.l (.tc 1) [x2] fun x4 =>
.l .len [(c 11 x1)] fun x5 =>
.loop [(i 0), x4] fun y6 =>
.l (.cmp .lss .i64) [(n y6 0), x5] fun x7 =>
.ite x7 (
 .l (.idx 12 true) [(c 11 x1), (n y6 0)] fun x8 =>
 .l (.okc 12 true) [x8] fun x9 =>
 .l (.cmp .neq .i64) [(n y6 1), (i 0)] fun x10 =>
 .ite x10 (
  .ret (n y6 1)) (
  .ite (n xs 3) (
   .call F.scope_walker_walk [x0, x9, x3, (.bool true)] fun x11 =>
   .l (.arith .add .i64) [(n y6 0), (i 1)] fun x12 =>
   .cont 0 [x12, x11]) (
   .call F.proctree_Prefix [x1] fun x11 =>
   .call F.scope_walker_walk [x0, x9, x3, x11] fun x12 =>
   .l (.arith .add .i64) [(n y6 0), (i 1)] fun x13 =>
   .cont 0 [x13, x12]))) (
 .ret (n y6 1))
theorem k_scope_walker_walk : TxOk P F.scope_walker_walk 4 t_scope_walker_walk := txOk_of (H := {}) (plans := []) hm Tryz.func31 rfl rfl fun xs => by kernel_rfl
def t_ref03_left (xs : List PV) : T PV :=
.l (.okc 12 true) [(n xs 0)] fun x0 =>
.l (.arith .sub .i64) [(n xs 1), (i 1)] fun x1 =>
.call F.ref02_Few [(sb 5 6 x0), (i 300)] fun x2 =>
.l .bnot [x2] fun x3 =>
.ite x3 (
 .ret (i (-1))) (
 .loop [(i 0), x1] fun y4 =>
 .l .len [(c 11 x0)] fun x5 =>
 .l (.cmp .lss .i64) [(n y4 0), x5] fun x6 =>
 .ite x6 (
  .l (.cmp .geq .i64) [(n y4 1), (i 0)] fun x7 =>
  .ite x7 (
   .l (.idx 12 true) [(c 11 x0), (n y4 0)] fun x8 =>
   .call F.ref03_left [x8, (n y4 1)] fun x9 =>
   .l (.arith .add .i64) [(n y4 0), (i 1)] fun x10 =>
   .cont 0 [x10, x9]) (
   .ret (n y4 1))) (
  .ret (n y4 1)))
theorem k_ref03_left : TxOk P F.ref03_left 2 t_ref03_left := txOk_of (H := {}) (plans := []) hm Tryz.func32 rfl rfl fun xs => by kernel_rfl
def t_ref03_Depth (xs : List PV) : T PV :=
.l (.okc 12 true) [(n xs 0)] fun x0 =>
.loop [(i 0), (i 0)] fun y1 =>
.l .len [(c 11 x0)] fun x2 =>
.l (.cmp .lss .i64) [(n y1 0), x2] fun x3 =>
.ite x3 (
 .l (.idx 12 true) [(c 11 x0), (n y1 0)] fun x4 =>
 .call F.ref03_Depth [x4] fun x5 =>
 .l (.mx .i64) [(n y1 1), x5] fun x6 =>
 .l (.arith .add .i64) [(n y1 0), (i 1)] fun x7 =>
 .cont 0 [x7, x6]) (
 .l (.arith .add .i64) [(n y1 1), (i 1)] fun x4 =>
 .ret x4)
theorem k_ref03_Depth : TxOk P F.ref03_Depth 1 t_ref03_Depth := txOk_of (H := {}) (plans := []) hm Tryz.func33 rfl rfl fun xs => by kernel_rfl
def t_slices_IndexFunc_api_Def_api_Def (xs : List PV) : T PV :=
.l .len [(n xs 0)] fun x0 =>
.loop [(i 0)] fun y1 =>
.l (.cmp .lss .i64) [(n y1 0), x0] fun x2 =>
.ite x2 (
 .l (.idx 14 true) [(n xs 0), (n y1 0)] fun x3 =>
 .callv (n xs 1) [x3] fun x4 =>
 .ite x4 (
  .ret (n y1 0)) (
  .l (.arith .add .i64) [(n y1 0), (i 1)] fun x5 =>
  .cont 0 [x5])) (
 .ret (i (-1)))
theorem k_slices_IndexFunc_api_Def_api_Def : TxOk P F.slices_IndexFunc_api_Def_api_Def 2 t_slices_IndexFunc_api_Def_api_Def := txOk_of (H := {}) (plans := []) hm Tryz.func34 rfl rfl fun xs => by kernel_rfl
def t_scope_Find_1 (xs : List PV) : T PV :=
.l (.okc 14 true) [(n xs 0)] fun x0 =>
.l (.unbox 1 false) [(n xs 1)] fun x1 =>
.l (.scmp .eql) [(c 0 x0), x1] fun x2 =>
.ret x2
theorem k_scope_Find_1 : TxOk P F.scope_Find_1 2 t_scope_Find_1 := txOk_of (H := {}) (plans := []) hm Tryz.func35 rfl rfl fun xs => by kernel_rfl
def t_scope_collect (xs : List PV) : T PV :=
.l (.okc 12 true) [(n xs 0)] fun x0 =>
.l (.okc 1 false) [(n xs 1)] fun x1 =>
.calls F.scope_collect_1 sg_scope_collect_1 [x0, x1, (.sl [])] fun z2 =>
.ret (n z2 2)
theorem k_scope_collect : TxOk P F.scope_collect 2 t_scope_collect := txOk_of (H := { wr := [3], ro := [], nl := [(5, (0, (9, true)))], fz := [], da := [], sigs := [(60, sg_scope_collect_1)] }) (plans := []) hm Tryz.func36 rfl rfl fun xs => by kernel_rfl
def t_scope_Calls_1 (xs : List PV) : T PV :=
.l (.okc 12 true) [(n xs 0)] fun x0 =>
.l (.cmp .eql .i64) [(c 0 x0), (i 8)] fun x1 =>
.ite x1 (
 .l (.lst 1 false) [(c 1 x0)] fun x2 =>
 .ret x2) (
 .ret (.sl []))
theorem k_scope_Calls_1 : TxOk P F.scope_Calls_1 1 t_scope_Calls_1 := txOk_of (H := {}) (plans := []) hm Tryz.func37 rfl rfl fun xs => by kernel_rfl
def t_scope_bound (xs : List PV) : T PV :=
.l (.okc 12 true) [(n xs 0)] fun x0 =>
.l (.cmp .eql .i64) [(c 0 x0), (i 3)] fun x1 =>
.ite x1 (
 .l (.lst 1 false) [(c 2 x0)] fun x2 =>
 .ret x2) (
 .l (.cmp .eql .i64) [(c 0 x0), (i 6)] fun x2 =>
 .ite x2 (
  .l (.lst 1 false) [(c 1 x0), (c 2 x0)] fun x3 =>
  .ret x3) (
  .ret (.sl [])))
theorem k_scope_bound : TxOk P F.scope_bound 1 t_scope_bound := txOk_of (H := {}) (plans := []) hm Tryz.func38 rfl rfl fun xs => by kernel_rfl
def t_ref03_uses (xs : List PV) : T PV :=
.l (.okc 12 true) [(n xs 0)] fun x0 =>
.l (.cmp .geq .i64) [(c 0 x0), (i 2)] fun x1 =>
.ite x1 (
 .l (.cmp .leq .i64) [(c 0 x0), (i 5)] fun x2 =>
 .ite x2 (
  .l (.lst 1 false) [(c 1 x0)] fun x3 =>
  .l (.app 1 false 16) [(.sl []), x3] fun x4 =>
  .loop [(i 0), x4] fun y5 =>
  .l .len [(c 4 x0)] fun x6 =>
  .l (.cmp .lss .i64) [(n y5 0), x6] fun x7 =>
  .ite x7 (
   .l (.idx 3 true) [(c 4 x0), (n y5 0)] fun x8 =>
   .l (.cmp .eql .i64) [(c 0 x8), (i 1)] fun x9 =>
   .ite x9 (
    .l (.idx 3 true) [(c 4 x0), (n y5 0)] fun x10 =>
    .l (.lst 1 false) [(c 1 x10)] fun x11 =>
    .l (.app 1 false 16) [(n y5 1), x11] fun x12 =>
    .l (.arith .add .i64) [(n y5 0), (i 1)] fun x13 =>
    .cont 0 [x13, x12]) (
    .l (.arith .add .i64) [(n y5 0), (i 1)] fun x10 =>
    .cont 0 [x10, (n y5 1)])) (
   .loop [(i 0), (.sl [])] fun y8 =>
   .l .len [(n y5 1)] fun x9 =>
   .l (.cmp .lss .i64) [(n y8 0), x9] fun x10 =>
   .ite x10 (
    .l (.idx 1 false) [(n y5 1), (n y8 0)] fun x11 =>
    .call F.ref03_In [x11, (n xs 1)] fun x12 =>
    .l .bnot [x12] fun x13 =>
    .ite x13 (
     .l (.idx 1 false) [(n y5 1), (n y8 0)] fun x14 =>
     .l (.lst 1 false) [x14] fun x15 =>
     .l (.app 1 false 16) [(n y8 1), x15] fun x16 =>
     .l (.arith .add .i64) [(n y8 0), (i 1)] fun x17 =>
     .cont 1 [x17, x16]) (
     .l (.arith .add .i64) [(n y8 0), (i 1)] fun x14 =>
     .cont 1 [x14, (n y8 1)])) (
    .l (.cmp .eql .i64) [(c 0 x0), (i 3)] fun x11 =>
    .ite x11 (
     .l (.lst 1 false) [] fun x12 =>
     .l (.app 1 false 16) [x12, (n xs 1)] fun x13 =>
     .l (.lst 1 false) [(c 2 x0)] fun x14 =>
     .l (.app 1 false 16) [x13, x14] fun x15 =>
     .l (.cmp .eql .i64) [(c 0 x0), (i 6)] fun x16 =>
     .ite x16 (
      .l (.lst 1 false) [] fun x17 =>
      .l (.app 1 false 16) [x17, x15] fun x18 =>
      .l (.lst 1 false) [(c 1 x0), (c 2 x0)] fun x19 =>
      .l (.app 1 false 16) [x18, x19] fun x20 =>
      .loop [(i 0), (n y8 1)] fun y21 =>
      .l .len [(c 11 x0)] fun x22 =>
      .l (.cmp .lss .i64) [(n y21 0), x22] fun x23 =>
      .ite x23 (
       .l (.idx 12 true) [(c 11 x0), (n y21 0)] fun x24 =>
       .call F.ref03_uses [x24, x20] fun x25 =>
       .l (.app 1 false 16) [(n y21 1), x25] fun x26 =>
       .l (.arith .add .i64) [(n y21 0), (i 1)] fun x27 =>
       .cont 2 [x27, x26]) (
       .ret (n y21 1))) (
      .loop [(i 0), (n y8 1)] fun y17 =>
      .l .len [(c 11 x0)] fun x18 =>
      .l (.cmp .lss .i64) [(n y17 0), x18] fun x19 =>
      .ite x19 (
       .l (.idx 12 true) [(c 11 x0), (n y17 0)] fun x20 =>
       .call F.ref03_uses [x20, x15] fun x21 =>
       .l (.app 1 false 16) [(n y17 1), x21] fun x22 =>
       .l (.arith .add .i64) [(n y17 0), (i 1)] fun x23 =>
       .cont 2 [x23, x22]) (
       .ret (n y17 1)))) (
     .l (.cmp .eql .i64) [(c 0 x0), (i 6)] fun x12 =>
     .ite x12 (
      .l (.lst 1 false) [] fun x13 =>
      .l (.app 1 false 16) [x13, (n xs 1)] fun x14 =>
      .l (.lst 1 false) [(c 1 x0), (c 2 x0)] fun x15 =>
      .l (.app 1 false 16) [x14, x15] fun x16 =>
      .loop [(i 0), (n y8 1)] fun y17 =>
      .l .len [(c 11 x0)] fun x18 =>
      .l (.cmp .lss .i64) [(n y17 0), x18] fun x19 =>
      .ite x19 (
       .l (.idx 12 true) [(c 11 x0), (n y17 0)] fun x20 =>
       .call F.ref03_uses [x20, x16] fun x21 =>
       .l (.app 1 false 16) [(n y17 1), x21] fun x22 =>
       .l (.arith .add .i64) [(n y17 0), (i 1)] fun x23 =>
       .cont 2 [x23, x22]) (
       .ret (n y17 1))) (
      .loop [(i 0), (n y8 1)] fun y13 =>
      .l .len [(c 11 x0)] fun x14 =>
      .l (.cmp .lss .i64) [(n y13 0), x14] fun x15 =>
      .ite x15 (
       .l (.idx 12 true) [(c 11 x0), (n y13 0)] fun x16 =>
       .call F.ref03_uses [x16, (n xs 1)] fun x17 =>
       .l (.app 1 false 16) [(n y13 1), x17] fun x18 =>
       .l (.arith .add .i64) [(n y13 0), (i 1)] fun x19 =>
       .cont 2 [x19, x18]) (
       .ret (n y13 1))))))) (
  .loop [(i 0), (.sl [])] fun y3 =>
  .l .len [(c 4 x0)] fun x4 =>
  .l (.cmp .lss .i64) [(n y3 0), x4] fun x5 =>
  .ite x5 (
   .l (.idx 3 true) [(c 4 x0), (n y3 0)] fun x6 =>
   .l (.cmp .eql .i64) [(c 0 x6), (i 1)] fun x7 =>
   .ite x7 (
    .l (.idx 3 true) [(c 4 x0), (n y3 0)] fun x8 =>
    .l (.lst 1 false) [(c 1 x8)] fun x9 =>
    .l (.app 1 false 16) [(n y3 1), x9] fun x10 =>
    .l (.arith .add .i64) [(n y3 0), (i 1)] fun x11 =>
    .cont 0 [x11, x10]) (
    .l (.arith .add .i64) [(n y3 0), (i 1)] fun x8 =>
    .cont 0 [x8, (n y3 1)])) (
   .loop [(i 0), (.sl [])] fun y6 =>
   .l .len [(n y3 1)] fun x7 =>
   .l (.cmp .lss .i64) [(n y6 0), x7] fun x8 =>
   .ite x8 (
    .l (.idx 1 false) [(n y3 1), (n y6 0)] fun x9 =>
    .call F.ref03_In [x9, (n xs 1)] fun x10 =>
    .l .bnot [x10] fun x11 =>
    .ite x11 (
     .l (.idx 1 false) [(n y3 1), (n y6 0)] fun x12 =>
     .l (.lst 1 false) [x12] fun x13 =>
     .l (.app 1 false 16) [(n y6 1), x13] fun x14 =>
     .l (.arith .add .i64) [(n y6 0), (i 1)] fun x15 =>
     .cont 1 [x15, x14]) (
     .l (.arith .add .i64) [(n y6 0), (i 1)] fun x12 =>
     .cont 1 [x12, (n y6 1)])) (
    .l (.cmp .eql .i64) [(c 0 x0), (i 3)] fun x9 =>
    .ite x9 (
     .l (.lst 1 false) [] fun x10 =>
     .l (.app 1 false 16) [x10, (n xs 1)] fun x11 =>
     .l (.lst 1 false) [(c 2 x0)] fun x12 =>
     .l (.app 1 false 16) [x11, x12] fun x13 =>
     .l (.cmp .eql .i64) [(c 0 x0), (i 6)] fun x14 =>
     .ite x14 (
      .l (.lst 1 false) [] fun x15 =>
      .l (.app 1 false 16) [x15, x13] fun x16 =>
      .l (.lst 1 false) [(c 1 x0), (c 2 x0)] fun x17 =>
      .l (.app 1 false 16) [x16, x17] fun x18 =>
      .loop [(i 0), (n y6 1)] fun y19 =>
      .l .len [(c 11 x0)] fun x20 =>
      .l (.cmp .lss .i64) [(n y19 0), x20] fun x21 =>
      .ite x21 (
       .l (.idx 12 true) [(c 11 x0), (n y19 0)] fun x22 =>
       .call F.ref03_uses [x22, x18] fun x23 =>
       .l (.app 1 false 16) [(n y19 1), x23] fun x24 =>
       .l (.arith .add .i64) [(n y19 0), (i 1)] fun x25 =>
       .cont 2 [x25, x24]) (
       .ret (n y19 1))) (
      .loop [(i 0), (n y6 1)] fun y15 =>
      .l .len [(c 11 x0)] fun x16 =>
      .l (.cmp .lss .i64) [(n y15 0), x16] fun x17 =>
      .ite x17 (
       .l (.idx 12 true) [(c 11 x0), (n y15 0)] fun x18 =>
       .call F.ref03_uses [x18, x13] fun x19 =>
       .l (.app 1 false 16) [(n y15 1), x19] fun x20 =>
       .l (.arith .add .i64) [(n y15 0), (i 1)] fun x21 =>
       .cont 2 [x21, x20]) (
       .ret (n y15 1)))) (
     .l (.cmp .eql .i64) [(c 0 x0), (i 6)] fun x10 =>
     .ite x10 (
      .l (.lst 1 false) [] fun x11 =>
      .l (.app 1 false 16) [x11, (n xs 1)] fun x12 =>
      .l (.lst 1 false) [(c 1 x0), (c 2 x0)] fun x13 =>
      .l (.app 1 false 16) [x12, x13] fun x14 =>
      .loop [(i 0), (n y6 1)] fun y15 =>
      .l .len [(c 11 x0)] fun x16 =>
      .l (.cmp .lss .i64) [(n y15 0), x16] fun x17 =>
      .ite x17 (
       .l (.idx 12 true) [(c 11 x0), (n y15 0)] fun x18 =>
       .call F.ref03_uses [x18, x14] fun x19 =>
       .l (.app 1 false 16) [(n y15 1), x19] fun x20 =>
       .l (.arith .add .i64) [(n y15 0), (i 1)] fun x21 =>
       .cont 2 [x21, x20]) (
       .ret (n y15 1))) (
      .loop [(i 0), (n y6 1)] fun y11 =>
      .l .len [(c 11 x0)] fun x12 =>
      .l (.cmp .lss .i64) [(n y11 0), x12] fun x13 =>
      .ite x13 (
       .l (.idx 12 true) [(c 11 x0), (n y11 0)] fun x14 =>
       .call F.ref03_uses [x14, (n xs 1)] fun x15 =>
       .l (.app 1 false 16) [(n y11 1), x15] fun x16 =>
       .l (.arith .add .i64) [(n y11 0), (i 1)] fun x17 =>
       .cont 2 [x17, x16]) (
       .ret (n y11 1)))))))) (
 .loop [(i 0), (.sl [])] fun y2 =>
 .l .len [(c 4 x0)] fun x3 =>
 .l (.cmp .lss .i64) [(n y2 0), x3] fun x4 =>
 .ite x4 (
  .l (.idx 3 true) [(c 4 x0), (n y2 0)] fun x5 =>
  .l (.cmp .eql .i64) [(c 0 x5), (i 1)] fun x6 =>
  .ite x6 (
   .l (.idx 3 true) [(c 4 x0), (n y2 0)] fun x7 =>
   .l (.lst 1 false) [(c 1 x7)] fun x8 =>
   .l (.app 1 false 16) [(n y2 1), x8] fun x9 =>
   .l (.arith .add .i64) [(n y2 0), (i 1)] fun x10 =>
   .cont 0 [x10, x9]) (
   .l (.arith .add .i64) [(n y2 0), (i 1)] fun x7 =>
   .cont 0 [x7, (n y2 1)])) (
  .loop [(i 0), (.sl [])] fun y5 =>
  .l .len [(n y2 1)] fun x6 =>
  .l (.cmp .lss .i64) [(n y5 0), x6] fun x7 =>
  .ite x7 (
   .l (.idx 1 false) [(n y2 1), (n y5 0)] fun x8 =>
   .call F.ref03_In [x8, (n xs 1)] fun x9 =>
   .l .bnot [x9] fun x10 =>
   .ite x10 (
    .l (.idx 1 false) [(n y2 1), (n y5 0)] fun x11 =>
    .l (.lst 1 false) [x11] fun x12 =>
    .l (.app 1 false 16) [(n y5 1), x12] fun x13 =>
    .l (.arith .add .i64) [(n y5 0), (i 1)] fun x14 =>
    .cont 1 [x14, x13]) (
    .l (.arith .add .i64) [(n y5 0), (i 1)] fun x11 =>
    .cont 1 [x11, (n y5 1)])) (
   .l (.cmp .eql .i64) [(c 0 x0), (i 3)] fun x8 =>
   .ite x8 (
    .l (.lst 1 false) [] fun x9 =>
    .l (.app 1 false 16) [x9, (n xs 1)] fun x10 =>
    .l (.lst 1 false) [(c 2 x0)] fun x11 =>
    .l (.app 1 false 16) [x10, x11] fun x12 =>
    .l (.cmp .eql .i64) [(c 0 x0), (i 6)] fun x13 =>
    .ite x13 (
     .l (.lst 1 false) [] fun x14 =>
     .l (.app 1 false 16) [x14, x12] fun x15 =>
     .l (.lst 1 false) [(c 1 x0), (c 2 x0)] fun x16 =>
     .l (.app 1 false 16) [x15, x16] fun x17 =>
     .loop [(i 0), (n y5 1)] fun y18 =>
     .l .len [(c 11 x0)] fun x19 =>
     .l (.cmp .lss .i64) [(n y18 0), x19] fun x20 =>
     .ite x20 (
      .l (.idx 12 true) [(c 11 x0), (n y18 0)] fun x21 =>
      .call F.ref03_uses [x21, x17] fun x22 =>
      .l (.app 1 false 16) [(n y18 1), x22] fun x23 =>
      .l (.arith .add .i64) [(n y18 0), (i 1)] fun x24 =>
      .cont 2 [x24, x23]) (
      .ret (n y18 1))) (
     .loop [(i 0), (n y5 1)] fun y14 =>
     .l .len [(c 11 x0)] fun x15 =>
     .l (.cmp .lss .i64) [(n y14 0), x15] fun x16 =>
     .ite x16 (
      .l (.idx 12 true) [(c 11 x0), (n y14 0)] fun x17 =>
      .call F.ref03_uses [x17, x12] fun x18 =>
      .l (.app 1 false 16) [(n y14 1), x18] fun x19 =>
      .l (.arith .add .i64) [(n y14 0), (i 1)] fun x20 =>
      .cont 2 [x20, x19]) (
      .ret (n y14 1)))) (
    .l (.cmp .eql .i64) [(c 0 x0), (i 6)] fun x9 =>
    .ite x9 (
     .l (.lst 1 false) [] fun x10 =>
     .l (.app 1 false 16) [x10, (n xs 1)] fun x11 =>
     .l (.lst 1 false) [(c 1 x0), (c 2 x0)] fun x12 =>
     .l (.app 1 false 16) [x11, x12] fun x13 =>
     .loop [(i 0), (n y5 1)] fun y14 =>
     .l .len [(c 11 x0)] fun x15 =>
     .l (.cmp .lss .i64) [(n y14 0), x15] fun x16 =>
     .ite x16 (
      .l (.idx 12 true) [(c 11 x0), (n y14 0)] fun x17 =>
      .call F.ref03_uses [x17, x13] fun x18 =>
      .l (.app 1 false 16) [(n y14 1), x18] fun x19 =>
      .l (.arith .add .i64) [(n y14 0), (i 1)] fun x20 =>
      .cont 2 [x20, x19]) (
      .ret (n y14 1))) (
     .loop [(i 0), (n y5 1)] fun y10 =>
     .l .len [(c 11 x0)] fun x11 =>
     .l (.cmp .lss .i64) [(n y10 0), x11] fun x12 =>
     .ite x12 (
      .l (.idx 12 true) [(c 11 x0), (n y10 0)] fun x13 =>
      .call F.ref03_uses [x13, (n xs 1)] fun x14 =>
      .l (.app 1 false 16) [(n y10 1), x14] fun x15 =>
      .l (.arith .add .i64) [(n y10 0), (i 1)] fun x16 =>
      .cont 2 [x16, x15]) (
      .ret (n y10 1)))))))
theorem k_ref03_uses : TxOk P F.ref03_uses 2 t_ref03_uses := txOk_of (H := {}) (plans := []) hm Tryz.func39 rfl rfl fun xs => by kernel_rfl
def t_ref03_Size (xs : List PV) : T PV :=
.l (.okc 12 true) [(n xs 0)] fun x0 =>
.loop [(i 0), (i 1)] fun y1 =>
.l .len [(c 11 x0)] fun x2 =>
.l (.cmp .lss .i64) [(n y1 0), x2] fun x3 =>
.ite x3 (
 .l (.idx 12 true) [(c 11 x0), (n y1 0)] fun x4 =>
 .call F.ref03_Size [x4] fun x5 =>
 .l (.arith .add .i64) [(n y1 1), x5] fun x6 =>
 .l (.arith .add .i64) [(n y1 0), (i 1)] fun x7 =>
 .cont 0 [x7, x6]) (
 .ret (n y1 1))
theorem k_ref03_Size : TxOk P F.ref03_Size 1 t_ref03_Size := txOk_of (H := {}) (plans := []) hm Tryz.func40 rfl rfl fun xs => by kernel_rfl
def t_ref03_types (xs : List PV) : T PV :=
.l (.okc 12 true) [(n xs 0)] fun x0 =>
.l (.cmp .eql .i64) [(c 0 x0), (i 6)] fun x1 =>
.ite x1 (
 .call F.ref02_Size [(sb 5 6 x0)] fun x2 =>
 .loop [(i 0), x2] fun y3 =>
 .l .len [(c 11 x0)] fun x4 =>
 .l (.cmp .lss .i64) [(n y3 0), x4] fun x5 =>
 .ite x5 (
  .l (.idx 12 true) [(c 11 x0), (n y3 0)] fun x6 =>
  .call F.ref03_types [x6] fun x7 =>
  .l (.arith .add .i64) [(n y3 1), x7] fun x8 =>
  .l (.arith .add .i64) [(n y3 0), (i 1)] fun x9 =>
  .cont 0 [x9, x8]) (
  .ret (n y3 1))) (
 .loop [(i 0), (i 0)] fun y2 =>
 .l .len [(c 11 x0)] fun x3 =>
 .l (.cmp .lss .i64) [(n y2 0), x3] fun x4 =>
 .ite x4 (
  .l (.idx 12 true) [(c 11 x0), (n y2 0)] fun x5 =>
  .call F.ref03_types [x5] fun x6 =>
  .l (.arith .add .i64) [(n y2 1), x6] fun x7 =>
  .l (.arith .add .i64) [(n y2 0), (i 1)] fun x8 =>
  .cont 0 [x8, x7]) (
  .ret (n y2 1)))
theorem k_ref03_types : TxOk P F.ref03_types 1 t_ref03_types := txOk_of (H := {}) (plans := []) hm Tryz.func41 rfl rfl fun xs => by kernel_rfl
def t_ref02_Size (xs : List PV) : T PV :=
.l (.okc 6 true) [(n xs 0)] fun x0 =>
.loop [(i 0), (i 1)] fun y1 =>
.l .len [(c 5 x0)] fun x2 =>
.l (.cmp .lss .i64) [(n y1 0), x2] fun x3 =>
.ite x3 (
 .l (.idx 6 true) [(c 5 x0), (n y1 0)] fun x4 =>
 .call F.ref02_Size [x4] fun x5 =>
 .l (.arith .add .i64) [(n y1 1), x5] fun x6 =>
 .l (.arith .add .i64) [(n y1 0), (i 1)] fun x7 =>
 .cont 0 [x7, x6]) (
 .ret (n y1 1))
theorem k_ref02_Size : TxOk P F.ref02_Size 1 t_ref02_Size := txOk_of (H := {}) (plans := []) hm Tryz.func42 rfl rfl fun xs => by kernel_rfl
def t_ref03_Right (xs : List PV) : T PV :=
.l (.okc 12 true) [(n xs 0)] fun x0 =>
.call F.ref03_Depth [x0] fun x1 =>
.l (.cmp .gtr .i64) [x1, (i 100)] fun x2 =>
.ite x2 (
 .ret (i 2)) (
 .call F.ref03_Size [x0] fun x3 =>
 .l (.cmp .gtr .i64) [x3, (i 10000)] fun x4 =>
 .ite x4 (
  .ret (i 2)) (
  .call F.ref03_nodes [x0] fun x5 =>
  .l .bnot [x5] fun x6 =>
  .ite x6 (
   .ret (i 3)) (
   .ret (i 0))))
theorem k_ref03_Right : TxOk P F.ref03_Right 1 t_ref03_Right := txOk_of (H := {}) (plans := []) hm Tryz.func43 rfl rfl fun xs => by kernel_rfl
def t_ref03_name (xs : List PV) : T PV :=
.call F.ref01_Name [(n xs 0)] fun x0 =>
.ret x0
theorem k_ref03_name : TxOk P F.ref03_name 1 t_ref03_name := txOk_of (H := {}) (plans := []) hm Tryz.func44 rfl rfl fun xs => by kernel_rfl
def t_ref02_Right (xs : List PV) : T PV :=
.l (.okc 6 true) [(n xs 0)] fun x0 =>
.call F.ref02_Depth [x0] fun x1 =>
.l (.cmp .gtr .i64) [x1, (i 100)] fun x2 =>
.ite x2 (
 .ret (i 2)) (
 .call F.ref02_Size [x0] fun x3 =>
 .l (.cmp .gtr .i64) [x3, (i 10000)] fun x4 =>
 .ite x4 (
  .ret (i 2)) (
  .call F.ref02_node [x0, (.sl []), (i 0), (.bool false)] fun x5 =>
  .ret x5))
theorem k_ref02_Right : TxOk P F.ref02_Right 1 t_ref02_Right := txOk_of (H := {}) (plans := []) hm Tryz.func45 rfl rfl fun xs => by kernel_rfl
def t_ref02_count (xs : List PV) : T PV :=
.l (.okc 6 true) [(n xs 0)] fun x0 =>
.l (.arith .sub .i64) [(n xs 1), (i 1)] fun x1 =>
.loop [(i 0), x1] fun y2 =>
.l .len [(c 5 x0)] fun x3 =>
.l (.cmp .lss .i64) [(n y2 0), x3] fun x4 =>
.ite x4 (
 .l (.cmp .geq .i64) [(n y2 1), (i 0)] fun x5 =>
 .ite x5 (
  .l (.idx 6 true) [(c 5 x0), (n y2 0)] fun x6 =>
  .call F.ref02_count [x6, (n y2 1)] fun x7 =>
  .l (.arith .add .i64) [(n y2 0), (i 1)] fun x8 =>
  .cont 0 [x8, x7]) (
  .ret (n y2 1))) (
 .ret (n y2 1))
theorem k_ref02_count : TxOk P F.ref02_count 2 t_ref02_count := txOk_of (H := {}) (plans := []) hm Tryz.func46 rfl rfl fun xs => by kernel_rfl
def t_ref02_Depth (xs : List PV) : T PV :=
.l (.okc 6 true) [(n xs 0)] fun x0 =>
.loop [(i 0), (i 0)] fun y1 =>
.l .len [(c 5 x0)] fun x2 =>
.l (.cmp .lss .i64) [(n y1 0), x2] fun x3 =>
.ite x3 (
 .l (.idx 6 true) [(c 5 x0), (n y1 0)] fun x4 =>
 .call F.ref02_Depth [x4] fun x5 =>
 .l (.mx .i64) [(n y1 1), x5] fun x6 =>
 .l (.arith .add .i64) [(n y1 0), (i 1)] fun x7 =>
 .cont 0 [x7, x6]) (
 .l (.arith .add .i64) [(n y1 1), (i 1)] fun x4 =>
 .ret x4)
theorem k_ref02_Depth : TxOk P F.ref02_Depth 1 t_ref02_Depth := txOk_of (H := {}) (plans := []) hm Tryz.func47 rfl rfl fun xs => by kernel_rfl
def t_proctree_Total (xs : List PV) : T PV :=
.l (.okc 13 true) [(n xs 0)] fun x0 =>
.call F.proctree_weight [(sb 1 12 x0)] fun x1 =>
.l .len [(c 0 x0)] fun x2 =>
.loop [(i 0), x1] fun y3 =>
.l (.cmp .lss .i64) [(n y3 0), x2] fun x4 =>
.ite x4 (
 .l (.idx 14 true) [(c 0 x0), (n y3 0)] fun x5 =>
 .l (.okc 14 true) [x5] fun x6 =>
 .call F.proctree_weight [(sb 2 12 x6)] fun x7 =>
 .l (.arith .add .i64) [(n y3 1), x7] fun x8 =>
 .l .len [(c 1 x6)] fun x9 =>
 .loop [(i 0), x8] fun y10 =>
 .l (.cmp .lss .i64) [(n y10 0), x9] fun x11 =>
 .ite x11 (
  .l (.idx 7 true) [(c 1 x6), (n y10 0)] fun x12 =>
  .l (.okc 7 true) [x12] fun x13 =>
  .call F.typetree_Size [(sb 1 6 x13)] fun x14 =>
  .l (.arith .add .i64) [(n y10 1), x14] fun x15 =>
  .l (.arith .add .i64) [(n y10 0), (i 1)] fun x16 =>
  .cont 1 [x16, x15]) (
  .l (.arith .add .i64) [(n y3 0), (i 1)] fun x12 =>
  .cont 0 [x12, (n y10 1)])) (
 .ret (n y3 1))
theorem k_proctree_Total : TxOk P F.proctree_Total 1 t_proctree_Total := txOk_of (H := {}) (plans := []) hm Tryz.func48 rfl rfl fun xs => by kernel_rfl
def t_proctree_Right (xs : List PV) : T PV :=
.l (.okc 12 true) [(n xs 0)] fun x0 =>
.call F.proctree_shallow [x0, (i 100)] fun x1 =>
.l .bnot [x1] fun x2 =>
.ite x2 (
 .ret (i 2)) (
 .call F.proctree_few [x0, (i 10000)] fun x3 =>
 .l .bnot [x3] fun x4 =>
 .ite x4 (
  .ret (i 2)) (
  .call F.proctree_all [x0, (.fn F.proctree_shape [] [])] fun x5 =>
  .l .bnot [x5] fun x6 =>
  .ite x6 (
   .ret (i 3)) (
   .ret (i 0))))
theorem k_proctree_Right : TxOk P F.proctree_Right 1 t_proctree_Right := txOk_of (H := {}) (plans := []) hm Tryz.func49 rfl rfl fun xs => by kernel_rfl
def t_lex_Name (xs : List PV) : T PV :=
.l (.scmp .neq) [(n xs 0), (.str ⟨#[]⟩)] fun x0 =>
.ite x0 (
 .l .sidx [(n xs 0), (i 0)] fun x1 =>
 .call F.lex_letter [x1] fun x2 =>
 .ite x2 (
  .call F.lex_span [(n xs 0), (i 0), (.fn F.lex_Name_1 [] [])] fun x3 =>
  .l .slen [(n xs 0)] fun x4 =>
  .l (.cmp .eql .i64) [x3, x4] fun x5 =>
  .ite x5 (
   .call F.lex_Keyword [(n xs 0)] fun x6 =>
   .l .bnot [x6] fun x7 =>
   .ret x7) (
   .ret (.bool false))) (
  .ret (.bool false))) (
 .ret (.bool false))
theorem k_lex_Name : TxOk P F.lex_Name 1 t_lex_Name := txOk_of (H := {}) (plans := []) hm Tryz.func50 rfl rfl fun xs => by kernel_rfl
def t_slices_ContainsFunc_api_Param_api_Param (xs : List PV) : T PV :=
.call F.slices_IndexFunc_api_Param_api_Param [(n xs 0), (n xs 1)] fun x0 =>
.l (.cmp .geq .i64) [x0, (i 0)] fun x1 =>
.ret x1
theorem k_slices_ContainsFunc_api_Param_api_Param : TxOk P F.slices_ContainsFunc_api_Param_api_Param 2 t_slices_ContainsFunc_api_Param_api_Param := txOk_of (H := {}) (plans := []) hm Tryz.func51 rfl rfl fun xs => by kernel_rfl
def t_proctree_Program_1 (xs : List PV) : T PV :=
.l (.okc 7 true) [(n xs 0)] fun x0 =>
.call F.lex_Name [(c 0 x0)] fun x1 =>
.l .bnot [x1] fun x2 =>
.ite x2 (
 .ret (.bool true)) (
 .call F.typetree_Right [(sb 1 6 x0)] fun x3 =>
 .l (.cmp .neq .i64) [x3, (i 0)] fun x4 =>
 .ret x4)
theorem k_proctree_Program_1 : TxOk P F.proctree_Program_1 1 t_proctree_Program_1 := txOk_of (H := {}) (plans := []) hm Tryz.func52 rfl rfl fun xs => by kernel_rfl
def t_typetree_Right (xs : List PV) : T PV :=
.l (.okc 6 true) [(n xs 0)] fun x0 =>
.call F.typetree_shallow [x0, (i 100)] fun x1 =>
.l .bnot [x1] fun x2 =>
.ite x2 (
 .ret (i 2)) (
 .call F.typetree_few [x0, (i 10000)] fun x3 =>
 .l .bnot [x3] fun x4 =>
 .ite x4 (
  .ret (i 2)) (
  .call F.typetree_check [x0, (.sl []), (.bool false)] fun x5 =>
  .ret x5))
theorem k_typetree_Right : TxOk P F.typetree_Right 1 t_typetree_Right := txOk_of (H := {}) (plans := []) hm Tryz.func53 rfl rfl fun xs => by kernel_rfl
def t_slices_Sort_string_string (xs : List PV) : T PV :=
.l .len [(n xs 0)] fun x0 =>
.l (.conv .u64) [x0] fun x1 =>
.call F.math_bits_Len [x1] fun x2 =>
.call F.slices_pdqsortOrdered_string [(n xs 0), (i 0), x0, x2] fun x3 =>
.ret (.tup [])
theorem k_slices_Sort_string_string : TxOk P F.slices_Sort_string_string 1 t_slices_Sort_string_string := txOk_of (H := {}) (plans := []) hm Tryz.func54 rfl rfl fun xs => by kernel_rfl
def u_slices_Sort_string_string (xs : List PV) : T PV :=
.l .len [(n xs 0)] fun x0 =>
.l (.conv .u64) [x0] fun x1 =>
.call F.math_bits_Len [x1] fun x2 =>
.calls F.slices_pdqsortOrdered_string sg_slices_pdqsortOrdered_string_Nil [(i 0), x0, x2, (n xs 0)] fun z3 =>
.ret (.tup [(.tup []), (n z3 1)])
theorem m_slices_Sort_string_string : TxOkS P F.slices_Sort_string_string sg_slices_Sort_string_string u_slices_Sort_string_string := txOkS_of (H := { wr := [], ro := [], nl := [], fz := [], da := [], sigs := [(54, sg_slices_Sort_string_string), (79, sg_slices_pdqsortOrdered_string_Nil), (109, sg_slices_insertionSortOrdered_string)] }) (plans := []) hm Tryz.func54 rfl fun xs => by kernel_rfl
-- NOT TOLD: 55 slices.Compact[[]string,string]: 2
-- NOT TOLD: 55S slices.Compact[[]string,string]: 1
def t_slices_Clone_string_string (xs : List PV) : T PV :=
.nilq (n xs 0) (
 .ret (.sl [])) (
 .l (.lst 1 false) [] fun x0 =>
 .l (.app 1 false 16) [x0, (n xs 0)] fun x1 =>
 .ret x1)
theorem k_slices_Clone_string_string : TxOk P F.slices_Clone_string_string 1 t_slices_Clone_string_string := txOk_of (H := { wr := [0, 1, 2, 3, 4, 5, 6, 7, 8, 9, 10, 11, 12, 13, 14, 15, 16, 17, 18, 19, 20, 21, 22, 23, 24, 25, 26, 27, 28, 29, 30, 31, 32, 33, 34, 35, 36, 37, 38, 39], ro := [], nl := [], fz := [], da := [], sigs := [] }) (plans := []) hm Tryz.func56 rfl rfl fun xs => by kernel_rfl
def u_slices_Clone_string_string (xs : List PV) : T PV :=
.nilq (n xs 0) (
 .ret (.tup [(.sl [])])) (
 .l (.lst 1 false) [] fun x0 =>
 .l (.app 1 false 16) [x0, (n xs 0)] fun x1 =>
 .ret (.tup [x1]))
theorem m_slices_Clone_string_string : TxOkS P F.slices_Clone_string_string sg_slices_Clone_string_string u_slices_Clone_string_string := txOkS_of (H := { wr := [0, 1, 2, 3, 4, 5, 6, 7, 8, 9, 10, 11, 12, 13, 14, 15, 16, 17, 18, 19, 20, 21, 22, 23, 24, 25, 26, 27, 28, 29, 30, 31, 32, 33, 34, 35, 36, 37, 38, 39], ro := [], nl := [], fz := [], da := [], sigs := [] }) (plans := []) hm Tryz.func56 rfl fun xs => by kernel_rfl
-- NOT TOLD: 57 maps.Clone[duologue/scope.names,string,bool]: 1
-- NOT TOLD: 57S maps.Clone[duologue/scope.names,string,bool]: 1
def t_scope_walker_node (xs : List PV) : T PV :=
.l (.okc 14 true) [(n xs 0)] fun x0 =>
.l (.okc 12 true) [(n xs 1)] fun x1 =>
.l (.okc 1 false) [(n xs 2)] fun x2 =>
.call F.proctree_Prefix [x1] fun x3 =>
.ite x3 (
 .l (.mget false [.s] (.bool false)) [x2, (c 1 x1)] fun x4 =>
 .l .bnot [x4] fun x5 =>
 .ite x5 (
  .ret (.tup [.nilM, (i 4)])) (
  .call F.slices_ContainsFunc_api_Value_api_Value [(c 4 x1), (.fn F.scope_walker_node_1 [] [(.box x2)])] fun x6 =>
  .ite x6 (
   .ret (.tup [.nilM, (i 4)])) (
   .call F.scope_bound [x1] fun x7 =>
   .call F.scope_names_with [x2, x7] fun x8 =>
   .l (.tc 0) [x8] fun x9 =>
   .l (.tc 1) [x8] fun x10 =>
   .l .bnot [x10] fun x11 =>
   .ite x11 (
    .ret (.tup [.nilM, (i 5)])) (
    .l (.cmp .eql .i64) [(c 0 x1), (i 8)] fun x12 =>
    .ite x12 (
     .call F.scope_walker_call [x0, x1, (n xs 3)] fun x13 =>
     .ret (.tup [x9, x13])) (
     .ret (.tup [x9, (i 0)])))))) (
 .call F.slices_ContainsFunc_api_Value_api_Value [(c 4 x1), (.fn F.scope_walker_node_1 [] [(.box x2)])] fun x4 =>
 .ite x4 (
  .ret (.tup [.nilM, (i 4)])) (
  .call F.scope_bound [x1] fun x5 =>
  .call F.scope_names_with [x2, x5] fun x6 =>
  .l (.tc 0) [x6] fun x7 =>
  .l (.tc 1) [x6] fun x8 =>
  .l .bnot [x8] fun x9 =>
  .ite x9 (
   .ret (.tup [.nilM, (i 5)])) (
   .l (.cmp .eql .i64) [(c 0 x1), (i 8)] fun x10 =>
   .ite x10 (
    .call F.scope_walker_call [x0, x1, (n xs 3)] fun x11 =>
    .ret (.tup [x7, x11])) (
    .ret (.tup [x7, (i 0)])))))
theorem k_scope_walker_node : TxOk P F.scope_walker_node 4 t_scope_walker_node := txOk_of (H := {}) (plans := []) hm Tryz.func58 rfl rfl fun xs => by kernel_rfl
def t_proctree_Prefix (xs : List PV) : T PV :=
.l (.okc 12 true) [(n xs 0)] fun x0 =>
.l (.cmp .geq .i64) [(c 0 x0), (i 2)] fun x1 =>
.ite x1 (
 .l (.cmp .leq .i64) [(c 0 x0), (i 5)] fun x2 =>
 .ret x2) (
 .ret (.bool false))
theorem k_proctree_Prefix : TxOk P F.proctree_Prefix 1 t_proctree_Prefix := txOk_of (H := {}) (plans := []) hm Tryz.func59 rfl rfl fun xs => by kernel_rfl
-- NOT TOLD: 60 duologue/scope.collect$1: 1
def u_scope_collect_1 (xs : List PV) : T PV :=
.l (.okc 12 true) [(n xs 0)] fun x0 =>
.callv (n xs 1) [x0] fun x1 =>
.l (.app 1 false 16) [(n xs 2), x1] fun x2 =>
.l .len [(c 11 x0)] fun x3 =>
.loop [(i 0), x2, (n xs 1)] fun y4 =>
.l (.cmp .lss .i64) [(n y4 0), x3] fun x5 =>
.ite x5 (
 .l (.idx 12 true) [(c 11 x0), (n y4 0)] fun x6 =>
 .l (.okc 12 true) [x6] fun x7 =>
 .calls F.scope_collect_1 sg_scope_collect_1 [x7, (n y4 2), (n y4 1)] fun z8 =>
 .l (.arith .add .i64) [(n y4 0), (i 1)] fun x9 =>
 .cont 0 [x9, (n z8 2), (n z8 1)]) (
 .ret (.tup [(.tup []), (n y4 2), (n y4 1)]))
theorem m_scope_collect_1 : TxOkS P F.scope_collect_1 sg_scope_collect_1 u_scope_collect_1 := txOkS_of (H := { wr := [], ro := [], nl := [], fz := [], da := [], sigs := [(60, sg_scope_collect_1)] }) (plans := []) hm Tryz.func60 rfl fun xs => by kernel_rfl
def t_ref03_nodes (xs : List PV) : T PV :=
.l (.okc 12 true) [(n xs 0)] fun x0 =>
.call F.ref03_node [x0] fun x1 =>
.l .bnot [x1] fun x2 =>
.ite x2 (
 .ret (.bool false)) (
 .loop [(i 0)] fun y3 =>
 .l .len [(c 11 x0)] fun x4 =>
 .l (.cmp .lss .i64) [(n y3 0), x4] fun x5 =>
 .ite x5 (
  .l (.idx 12 true) [(c 11 x0), (n y3 0)] fun x6 =>
  .call F.ref03_nodes [x6] fun x7 =>
  .l .bnot [x7] fun x8 =>
  .ite x8 (
   .ret (.bool false)) (
   .l (.arith .add .i64) [(n y3 0), (i 1)] fun x9 =>
   .cont 0 [x9])) (
  .ret (.bool true)))
theorem k_ref03_nodes : TxOk P F.ref03_nodes 1 t_ref03_nodes := txOk_of (H := {}) (plans := []) hm Tryz.func61 rfl rfl fun xs => by kernel_rfl
def t_ref01_Name (xs : List PV) : T PV :=
.call F.ref01_Word [(n xs 0)] fun x0 =>
.ite x0 (
 .call F.ref01_Keyword [(n xs 0)] fun x1 =>
 .l .bnot [x1] fun x2 =>
 .ret x2) (
 .ret (.bool false))
theorem k_ref01_Name : TxOk P F.ref01_Name 1 t_ref01_Name := txOk_of (H := {}) (plans := []) hm Tryz.func62 rfl rfl fun xs => by kernel_rfl
def t_ref02_node (xs : List PV) : T PV :=
.l (.okc 6 true) [(n xs 0)] fun x0 =>
.call F.ref02_shape [x0] fun x1 =>
.l .bnot [x1] fun x2 =>
.ite x2 (
 .ret (i 3)) (
 .ite (n xs 3) (
  .call F.ref02_Session [x0] fun x3 =>
  .l .bnot [x3] fun x4 =>
  .ite x4 (
   .ret (i 3)) (
   .l (.cmp .eql .i64) [(c 0 x0), (i 9)] fun x5 =>
   .ite x5 (
    .l .len [(n xs 1)] fun x6 =>
    .l (.arith .sub .i64) [x6, (i 1)] fun x7 =>
    .loop [x7] fun y8 =>
    .l (.cmp .geq .i64) [(n y8 0), (i 0)] fun x9 =>
    .ite x9 (
     .l (.idx 1 false) [(n xs 1), (n y8 0)] fun x10 =>
     .l (.scmp .eql) [x10, (c 2 x0)] fun x11 =>
     .ite x11 (
      .l (.cmp .lss .i64) [(n y8 0), (n xs 2)] fun x12 =>
      .ite x12 (
       .ret (i 0)) (
       .ret (i 3))) (
      .l (.arith .sub .i64) [(n y8 0), (i 1)] fun x12 =>
      .cont 0 [x12])) (
     .ret (i 4))) (
    .l (.cmp .eql .i64) [(c 0 x0), (i 8)] fun x6 =>
    .ite x6 (
     .l (.idx 6 true) [(c 5 x0), (i 0)] fun x7 =>
     .l (.lst 1 false) [] fun x8 =>
     .l (.app 1 false 16) [x8, (n xs 1)] fun x9 =>
     .l (.lst 1 false) [(c 2 x0)] fun x10 =>
     .l (.app 1 false 16) [x9, x10] fun x11 =>
     .call F.ref02_node [x7, x11, (n xs 2), (.bool true)] fun x12 =>
     .ret x12) (
     .loop [(i 0)] fun y7 =>
     .l .len [(c 5 x0)] fun x8 =>
     .l (.cmp .lss .i64) [(n y7 0), x8] fun x9 =>
     .ite x9 (
      .l (.idx 6 true) [(c 5 x0), (n y7 0)] fun x10 =>
      .l .len [(n xs 1)] fun x11 =>
      .l (.cmp .gtr .i64) [(n y7 0), (i 0)] fun x12 =>
      .ite x12 (
       .call F.ref02_node [x10, (n xs 1), x11, (.bool true)] fun x13 =>
       .l (.cmp .neq .i64) [x13, (i 0)] fun x14 =>
       .ite x14 (
        .ret x13) (
        .l (.arith .add .i64) [(n y7 0), (i 1)] fun x15 =>
        .cont 0 [x15])) (
       .l (.cmp .gtr .i64) [(c 0 x0), (i 5)] fun x13 =>
       .call F.ref02_node [x10, (n xs 1), x11, x13] fun x14 =>
       .l (.cmp .neq .i64) [x14, (i 0)] fun x15 =>
       .ite x15 (
        .ret x14) (
        .l (.arith .add .i64) [(n y7 0), (i 1)] fun x16 =>
        .cont 0 [x16]))) (
      .ret (i 0)))))) (
  .l (.cmp .eql .i64) [(c 0 x0), (i 9)] fun x3 =>
  .ite x3 (
   .l .len [(n xs 1)] fun x4 =>
   .l (.arith .sub .i64) [x4, (i 1)] fun x5 =>
   .loop [x5] fun y6 =>
   .l (.cmp .geq .i64) [(n y6 0), (i 0)] fun x7 =>
   .ite x7 (
    .l (.idx 1 false) [(n xs 1), (n y6 0)] fun x8 =>
    .l (.scmp .eql) [x8, (c 2 x0)] fun x9 =>
    .ite x9 (
     .l (.cmp .lss .i64) [(n y6 0), (n xs 2)] fun x10 =>
     .ite x10 (
      .ret (i 0)) (
      .ret (i 3))) (
     .l (.arith .sub .i64) [(n y6 0), (i 1)] fun x10 =>
     .cont 0 [x10])) (
    .ret (i 4))) (
   .l (.cmp .eql .i64) [(c 0 x0), (i 8)] fun x4 =>
   .ite x4 (
    .l (.idx 6 true) [(c 5 x0), (i 0)] fun x5 =>
    .l (.lst 1 false) [] fun x6 =>
    .l (.app 1 false 16) [x6, (n xs 1)] fun x7 =>
    .l (.lst 1 false) [(c 2 x0)] fun x8 =>
    .l (.app 1 false 16) [x7, x8] fun x9 =>
    .call F.ref02_node [x5, x9, (n xs 2), (.bool true)] fun x10 =>
    .ret x10) (
    .loop [(i 0)] fun y5 =>
    .l .len [(c 5 x0)] fun x6 =>
    .l (.cmp .lss .i64) [(n y5 0), x6] fun x7 =>
    .ite x7 (
     .l (.idx 6 true) [(c 5 x0), (n y5 0)] fun x8 =>
     .l .len [(n xs 1)] fun x9 =>
     .l (.cmp .gtr .i64) [(n y5 0), (i 0)] fun x10 =>
     .ite x10 (
      .call F.ref02_node [x8, (n xs 1), x9, (.bool true)] fun x11 =>
      .l (.cmp .neq .i64) [x11, (i 0)] fun x12 =>
      .ite x12 (
       .ret x11) (
       .l (.arith .add .i64) [(n y5 0), (i 1)] fun x13 =>
       .cont 0 [x13])) (
      .l (.cmp .gtr .i64) [(c 0 x0), (i 5)] fun x11 =>
      .call F.ref02_node [x8, (n xs 1), x9, x11] fun x12 =>
      .l (.cmp .neq .i64) [x12, (i 0)] fun x13 =>
      .ite x13 (
       .ret x12) (
       .l (.arith .add .i64) [(n y5 0), (i 1)] fun x14 =>
       .cont 0 [x14]))) (
     .ret (i 0))))))
theorem k_ref02_node : TxOk P F.ref02_node 4 t_ref02_node := txOk_of (H := {}) (plans := []) hm Tryz.func63 rfl rfl fun xs => by kernel_rfl
def t_proctree_weight (xs : List PV) : T PV :=
.l (.okc 12 true) [(n xs 0)] fun x0 =>
.l (.okc 1 false) [(i 0)] fun x1 =>
.calls F.proctree_all sg_proctree_all_Wg [x0, x1] fun z2 =>
.ret (n z2 1)
theorem k_proctree_weight : TxOk P F.proctree_weight 1 t_proctree_weight := txOk_of (H := { wr := [], ro := [], nl := [], fz := [], da := [], sigs := [(90, sg_proctree_weight_1), (68, sg_proctree_all_Wg)] }) (plans := []) hm Tryz.func64 rfl rfl fun xs => by kernel_rfl
def t_typetree_Size (xs : List PV) : T PV :=
.l (.okc 6 true) [(n xs 0)] fun x0 =>
.l (.okc 1 false) [(i 0)] fun x1 =>
.call F.typetree_nodes [x0] fun x2 =>
.iter x2 1 [x1] (fun e3 y3 =>
 .l (.arith .add .i64) [(n y3 0), (i 1)] fun x4 =>
 .l (.okc 1 false) [x4] fun x5 =>
 .cont 0 [x5]) (fun e3 y3 =>
 .l (.arith .add .i64) [(n y3 0), (i 1)] fun x4 =>
 .l (.okc 1 false) [x4] fun x5 =>
 .fail) fun y3 =>
.ret (n y3 0)
theorem k_typetree_Size : TxOk P F.typetree_Size 1 t_typetree_Size := txOk_of (H := {}) (plans := []) hm Tryz.func65 rfl rfl fun xs => by kernel_rfl
def t_proctree_shallow (xs : List PV) : T PV :=
.l (.okc 12 true) [(n xs 0)] fun x0 =>
.l (.okc 1 false) [(n xs 1)] fun x1 =>
.l (.cmp .gtr .i64) [x1, (i 0)] fun x2 =>
.ite x2 (
 .call F.slices_ContainsFunc_api_Proc_api_Proc [(c 11 x0), (.fn F.proctree_shallow_1 [] [(.box x1)])] fun x3 =>
 .l .bnot [x3] fun x4 =>
 .ret x4) (
 .ret (.bool false))
theorem k_proctree_shallow : TxOk P F.proctree_shallow 2 t_proctree_shallow := txOk_of (H := {}) (plans := []) hm Tryz.func66 rfl rfl fun xs => by kernel_rfl
def t_proctree_few (xs : List PV) : T PV :=
.l (.okc 12 true) [(n xs 0)] fun x0 =>
.l (.okc 1 false) [(n xs 1)] fun x1 =>
.calls F.proctree_all sg_proctree_all_Fw [x0, x1] fun z2 =>
.ret (n z2 0)
theorem k_proctree_few : TxOk P F.proctree_few 2 t_proctree_few := txOk_of (H := { wr := [3], ro := [], nl := [], fz := [], da := [], sigs := [(94, sg_proctree_few_1), (68, sg_proctree_all_Fw)] }) (plans := []) hm Tryz.func67 rfl rfl fun xs => by kernel_rfl
def t_proctree_all (xs : List PV) : T PV :=
.l (.okc 12 true) [(n xs 0)] fun x0 =>
.l (.okc 1 false) [(n xs 1)] fun x1 =>
.callv x1 [x0] fun x2 =>
.ite x2 (
 .call F.slices_ContainsFunc_api_Proc_api_Proc [(c 11 x0), (.fn F.proctree_all_1 [] [(.box x1)])] fun x3 =>
 .l .bnot [x3] fun x4 =>
 .ret x4) (
 .ret (.bool false))
theorem k_proctree_all : TxOk P F.proctree_all 2 t_proctree_all := txOk_of (H := {}) (plans := []) hm Tryz.func68 rfl rfl fun xs => by kernel_rfl
def u_proctree_all_Wg (xs : List PV) : T PV :=
.l (.okc 12 true) [(n xs 0)] fun x0 =>
.calls F.proctree_weight_1 sg_proctree_weight_1 [x0, (n xs 1)] fun z1 =>
.ite (n z1 0) (
 .calls F.slices_ContainsFunc_api_Proc_api_Proc sg_slices_ContainsFunc_api_Proc_api_Proc_Wg [(c 11 x0), (n z1 1)] fun z2 =>
 .l .bnot [(n z2 0)] fun x3 =>
 .ret (.tup [x3, (n z2 1)])) (
 .ret (.tup [(.bool false), (n z1 1)]))
theorem m_proctree_all_Wg : TxOkS P F.proctree_all sg_proctree_all_Wg u_proctree_all_Wg := txOkS_of (H := { wr := [], ro := [], nl := [], fz := [], da := [], sigs := [(90, sg_proctree_weight_1), (95, sg_proctree_all_1_Wg), (92, sg_slices_ContainsFunc_api_Proc_api_Proc_Wg)] }) (plans := []) hm Tryz.func68 rfl fun xs => by kernel_rfl
def u_proctree_all_Fw (xs : List PV) : T PV :=
.l (.okc 12 true) [(n xs 0)] fun x0 =>
.calls F.proctree_few_1 sg_proctree_few_1 [x0, (n xs 1)] fun z1 =>
.ite (n z1 0) (
 .calls F.slices_ContainsFunc_api_Proc_api_Proc sg_slices_ContainsFunc_api_Proc_api_Proc_Fw [(c 11 x0), (n z1 1)] fun z2 =>
 .l .bnot [(n z2 0)] fun x3 =>
 .ret (.tup [x3, (n z2 1)])) (
 .ret (.tup [(.bool false), (n z1 1)]))
theorem m_proctree_all_Fw : TxOkS P F.proctree_all sg_proctree_all_Fw u_proctree_all_Fw := txOkS_of (H := { wr := [], ro := [], nl := [], fz := [], da := [], sigs := [(94, sg_proctree_few_1), (95, sg_proctree_all_1_Fw), (92, sg_slices_ContainsFunc_api_Proc_api_Proc_Fw)] }) (plans := []) hm Tryz.func68 rfl fun xs => by kernel_rfl
def t_proctree_shape (xs : List PV) : T PV :=
.l (.okc 12 true) [(n xs 0)] fun x0 =>
.call F.proctree_rules [] fun x1 =>
.l (.mget2 false [.i .i64] (.agg [(.bool false), (.bool false), (.bool false), (i 0), (i 0), .nilF])) [x1, (c 0 x0)] fun x2 =>
.l (.tc 0) [x2] fun x3 =>
.l (.tc 1) [x2] fun x4 =>
.l (.okc 6 true) [x3] fun x5 =>
.ite x4 (
 .call F.proctree_named [(c 1 x0), (c 0 x5)] fun x6 =>
 .ite x6 (
  .call F.proctree_named [(c 2 x0), (c 1 x5)] fun x7 =>
  .ite x7 (
   .call F.proctree_typed [x0, (c 2 x5)] fun x8 =>
   .ite x8 (
    .l (.cmp .lss .i64) [(c 3 x5), (i 0)] fun x9 =>
    .ite x9 (
     .l (.cmp .lss .i64) [(c 4 x5), (i 0)] fun x10 =>
     .ite x10 (
      .callv (c 5 x5) [x0] fun x11 =>
      .ite x11 (
       .call F.proctree_distinct [(c 3 x0)] fun x12 =>
       .ite x12 (
        .call F.slices_ContainsFunc_api_Value_api_Value [(c 4 x0), (.fn F.proctree_shape_1 [] [])] fun x13 =>
        .l .bnot [x13] fun x14 =>
        .ret x14) (
        .ret (.bool false))) (
       .ret (.bool false))) (
      .l .len [(c 3 x0)] fun x11 =>
      .l (.cmp .eql .i64) [x11, (c 4 x5)] fun x12 =>
      .ite x12 (
       .callv (c 5 x5) [x0] fun x13 =>
       .ite x13 (
        .call F.proctree_distinct [(c 3 x0)] fun x14 =>
        .ite x14 (
         .call F.slices_ContainsFunc_api_Value_api_Value [(c 4 x0), (.fn F.proctree_shape_1 [] [])] fun x15 =>
         .l .bnot [x15] fun x16 =>
         .ret x16) (
         .ret (.bool false))) (
        .ret (.bool false))) (
       .ret (.bool false)))) (
     .l .len [(c 4 x0)] fun x10 =>
     .l (.cmp .eql .i64) [x10, (c 3 x5)] fun x11 =>
     .ite x11 (
      .l (.cmp .lss .i64) [(c 4 x5), (i 0)] fun x12 =>
      .ite x12 (
       .callv (c 5 x5) [x0] fun x13 =>
       .ite x13 (
        .call F.proctree_distinct [(c 3 x0)] fun x14 =>
        .ite x14 (
         .call F.slices_ContainsFunc_api_Value_api_Value [(c 4 x0), (.fn F.proctree_shape_1 [] [])] fun x15 =>
         .l .bnot [x15] fun x16 =>
         .ret x16) (
         .ret (.bool false))) (
        .ret (.bool false))) (
       .l .len [(c 3 x0)] fun x13 =>
       .l (.cmp .eql .i64) [x13, (c 4 x5)] fun x14 =>
       .ite x14 (
        .callv (c 5 x5) [x0] fun x15 =>
        .ite x15 (
         .call F.proctree_distinct [(c 3 x0)] fun x16 =>
         .ite x16 (
          .call F.slices_ContainsFunc_api_Value_api_Value [(c 4 x0), (.fn F.proctree_shape_1 [] [])] fun x17 =>
          .l .bnot [x17] fun x18 =>
          .ret x18) (
          .ret (.bool false))) (
         .ret (.bool false))) (
        .ret (.bool false)))) (
      .ret (.bool false)))) (
    .ret (.bool false))) (
   .ret (.bool false))) (
  .ret (.bool false))) (
 .ret (.bool false))
theorem k_proctree_shape : TxOk P F.proctree_shape 1 t_proctree_shape := txOk_of (H := {}) (plans := []) hm Tryz.func69 rfl rfl fun xs => by kernel_rfl
def t_lex_letter (xs : List PV) : T PV :=
.l (.arith .or .u8) [(n xs 0), (.int .u8 (32))] fun x0 =>
.l (.conv .i32) [x0] fun x1 =>
.l (.cmp .geq .i32) [x1, (.int .i32 (97))] fun x2 =>
.ite x2 (
 .l (.cmp .leq .i32) [x1, (.int .i32 (122))] fun x3 =>
 .ite x3 (
  .l (.cmp .geq .u8) [(n xs 0), (.int .u8 (65))] fun x4 =>
  .ite x4 (
   .ret (.bool true)) (
   .l (.cmp .eql .u8) [(n xs 0), (.int .u8 (95))] fun x5 =>
   .ret x5)) (
  .l (.cmp .eql .u8) [(n xs 0), (.int .u8 (95))] fun x4 =>
  .ret x4)) (
 .l (.cmp .eql .u8) [(n xs 0), (.int .u8 (95))] fun x3 =>
 .ret x3)
theorem k_lex_letter : TxOk P F.lex_letter 1 t_lex_letter := txOk_of (H := {}) (plans := []) hm Tryz.func70 rfl rfl fun xs => by kernel_rfl
def t_lex_span (xs : List PV) : T PV :=
.loop [(n xs 1)] fun y0 =>
.l .slen [(n xs 0)] fun x1 =>
.l (.cmp .lss .i64) [(n y0 0), x1] fun x2 =>
.ite x2 (
 .l .sidx [(n xs 0), (n y0 0)] fun x3 =>
 .callv (n xs 2) [x3] fun x4 =>
 .ite x4 (
  .l (.arith .add .i64) [(n y0 0), (i 1)] fun x5 =>
  .cont 0 [x5]) (
  .ret (n y0 0))) (
 .ret (n y0 0))
theorem k_lex_span : TxOk P F.lex_span 3 t_lex_span := txOk_of (H := {}) (plans := []) hm Tryz.func71 rfl rfl fun xs => by kernel_rfl
def t_lex_Name_1 (xs : List PV) : T PV :=
.call F.lex_letter [(n xs 0)] fun x0 =>
.ite x0 (
 .ret (.bool true)) (
 .call F.lex_digit [(n xs 0)] fun x1 =>
 .ret x1)
theorem k_lex_Name_1 : TxOk P F.lex_Name_1 1 t_lex_Name_1 := txOk_of (H := {}) (plans := []) hm Tryz.func72 rfl rfl fun xs => by kernel_rfl
def t_lex_digit (xs : List PV) : T PV :=
.l (.cmp .geq .u8) [(n xs 0), (.int .u8 (48))] fun x0 =>
.ite x0 (
 .l (.cmp .leq .u8) [(n xs 0), (.int .u8 (57))] fun x1 =>
 .ret x1) (
 .ret (.bool false))
theorem k_lex_digit : TxOk P F.lex_digit 1 t_lex_digit := txOk_of (H := {}) (plans := []) hm Tryz.func73 rfl rfl fun xs => by kernel_rfl
def t_lex_Keyword (xs : List PV) : T PV :=
.l (.asl 10) [(.agg [(.str ⟨#[100, 101, 102]⟩), (.str ⟨#[109, 97, 105, 110]⟩), (.str ⟨#[115, 116, 111, 112]⟩), (.str ⟨#[110, 101, 119]⟩), (.str ⟨#[105, 110, 116]⟩), (.str ⟨#[98, 111, 111, 108]⟩), (.str ⟨#[101, 110, 100]⟩), (.str ⟨#[114, 101, 99]⟩), (.str ⟨#[116, 114, 117, 101]⟩), (.str ⟨#[102, 97, 108, 115, 101]⟩)])] fun x0 =>
.call F.slices_Contains_string_string [x0, (n xs 0)] fun x1 =>
.ret x1
theorem k_lex_Keyword : TxOk P F.lex_Keyword 1 t_lex_Keyword := txOk_of (H := {}) (plans := []) hm Tryz.func74 rfl rfl fun xs => by kernel_rfl
def t_slices_IndexFunc_api_Param_api_Param (xs : List PV) : T PV :=
.l .len [(n xs 0)] fun x0 =>
.loop [(i 0)] fun y1 =>
.l (.cmp .lss .i64) [(n y1 0), x0] fun x2 =>
.ite x2 (
 .l (.idx 7 true) [(n xs 0), (n y1 0)] fun x3 =>
 .callv (n xs 1) [x3] fun x4 =>
 .ite x4 (
  .ret (n y1 0)) (
  .l (.arith .add .i64) [(n y1 0), (i 1)] fun x5 =>
  .cont 0 [x5])) (
 .ret (i (-1)))
theorem k_slices_IndexFunc_api_Param_api_Param : TxOk P F.slices_IndexFunc_api_Param_api_Param 2 t_slices_IndexFunc_api_Param_api_Param := txOk_of (H := {}) (plans := []) hm Tryz.func75 rfl rfl fun xs => by kernel_rfl
def t_typetree_shallow (xs : List PV) : T PV :=
.l (.okc 6 true) [(n xs 0)] fun x0 =>
.l (.okc 1 false) [(n xs 1)] fun x1 =>
.l (.cmp .gtr .i64) [x1, (i 0)] fun x2 =>
.ite x2 (
 .call F.slices_ContainsFunc_api_Type_api_Type [(c 5 x0), (.fn F.typetree_shallow_1 [] [(.box x1)])] fun x3 =>
 .l .bnot [x3] fun x4 =>
 .ret x4) (
 .ret (.bool false))
theorem k_typetree_shallow : TxOk P F.typetree_shallow 2 t_typetree_shallow := txOk_of (H := {}) (plans := []) hm Tryz.func76 rfl rfl fun xs => by kernel_rfl
def t_typetree_few (xs : List PV) : T PV :=
.l (.okc 6 true) [(n xs 0)] fun x0 =>
.l (.okc 1 false) [(n xs 1)] fun x1 =>
.call F.typetree_nodes [x0] fun x2 =>
.iter x2 1 [x1] (fun e3 y3 =>
 .l (.arith .sub .i64) [(n y3 0), (i 1)] fun x4 =>
 .l (.okc 1 false) [x4] fun x5 =>
 .l (.cmp .lss .i64) [x5, (i 0)] fun x6 =>
 .ite x6 (
  .fail) (
  .cont 0 [x5])) (fun e3 y3 =>
 .l (.arith .sub .i64) [(n y3 0), (i 1)] fun x4 =>
 .l (.okc 1 false) [x4] fun x5 =>
 .l (.cmp .lss .i64) [x5, (i 0)] fun x6 =>
 .ite x6 (
  .ret (.bool false)) (
  .fail)) fun y3 =>
.ret (.bool true)
theorem k_typetree_few : TxOk P F.typetree_few 2 t_typetree_few := txOk_of (H := {}) (plans := []) hm Tryz.func77 rfl rfl fun xs => by kernel_rfl
def t_typetree_check (xs : List PV) : T PV :=
.l (.okc 6 true) [(n xs 0)] fun x0 =>
.call F.typetree_fields [x0] fun x1 =>
.l .bnot [x1] fun x2 =>
.ite x2 (
 .ret (i 3)) (
 .ite (n xs 2) (
  .call F.typetree_Session [x0] fun x3 =>
  .l .bnot [x3] fun x4 =>
  .ite x4 (
   .ret (i 3)) (
   .l (.cmp .eql .i64) [(c 0 x0), (i 9)] fun x5 =>
   .ite x5 (
    .call F.typetree_find [(n xs 1), (c 2 x0)] fun x6 =>
    .l (.tc 0) [x6] fun x7 =>
    .l (.tc 1) [x6] fun x8 =>
    .l (.okc 2 true) [x7] fun x9 =>
    .l .bnot [x8] fun x10 =>
    .ite x10 (
     .ret (i 4)) (
     .l .bnot [(c 1 x9)] fun x11 =>
     .ite x11 (
      .ret (i 3)) (
      .l .len [(c 5 x0)] fun x12 =>
      .loop [(i 0)] fun y13 =>
      .l (.cmp .lss .i64) [(n y13 0), x12] fun x14 =>
      .ite x14 (
       .l (.idx 6 true) [(c 5 x0), (n y13 0)] fun x15 =>
       .l (.okc 6 true) [x15] fun x16 =>
       .l (.cmp .eql .i64) [(n y13 0), (i 0)] fun x17 =>
       .ite x17 (
        .l (.cmp .eql .i64) [(c 0 x0), (i 4)] fun x18 =>
        .ite x18 (
         .l .bnot [(.bool true)] fun x19 =>
         .call F.typetree_check [x16, (n xs 1), x19] fun x20 =>
         .l (.cmp .neq .i64) [x20, (i 0)] fun x21 =>
         .ite x21 (
          .ret x20) (
          .l (.arith .add .i64) [(n y13 0), (i 1)] fun x22 =>
          .cont 0 [x22])) (
         .l (.cmp .eql .i64) [(c 0 x0), (i 5)] fun x19 =>
         .l .bnot [x19] fun x20 =>
         .call F.typetree_check [x16, (n xs 1), x20] fun x21 =>
         .l (.cmp .neq .i64) [x21, (i 0)] fun x22 =>
         .ite x22 (
          .ret x21) (
          .l (.arith .add .i64) [(n y13 0), (i 1)] fun x23 =>
          .cont 0 [x23]))) (
        .l .bnot [(.bool false)] fun x18 =>
        .call F.typetree_check [x16, (n xs 1), x18] fun x19 =>
        .l (.cmp .neq .i64) [x19, (i 0)] fun x20 =>
        .ite x20 (
         .ret x19) (
         .l (.arith .add .i64) [(n y13 0), (i 1)] fun x21 =>
         .cont 0 [x21]))) (
       .ret (i 0))))) (
    .l (.cmp .eql .i64) [(c 0 x0), (i 8)] fun x6 =>
    .ite x6 (
     .calls F.slices_Clone_typetree_bound_typetree_bound sg_slices_Clone_typetree_bound_typetree_bound [(n xs 1)] fun z7 =>
     .l (.okcs [(1, false)]) [(c 2 x0)] fun x8 =>
     .l (.lst 2 true) [(.agg [(c 2 x0), (.bool false)])] fun x9 =>
     .l (.app 2 true 24) [(n z7 0), x9] fun x10 =>
     .l .len [(c 5 x0)] fun x11 =>
     .loop [(i 0)] fun y12 =>
     .l (.cmp .lss .i64) [(n y12 0), x11] fun x13 =>
     .ite x13 (
      .l (.idx 6 true) [(c 5 x0), (n y12 0)] fun x14 =>
      .l (.okc 6 true) [x14] fun x15 =>
      .l (.cmp .eql .i64) [(n y12 0), (i 0)] fun x16 =>
      .ite x16 (
       .l (.cmp .eql .i64) [(c 0 x0), (i 4)] fun x17 =>
       .ite x17 (
        .l .bnot [(.bool true)] fun x18 =>
        .call F.typetree_check [x15, x10, x18] fun x19 =>
        .l (.cmp .neq .i64) [x19, (i 0)] fun x20 =>
        .ite x20 (
         .ret x19) (
         .l (.arith .add .i64) [(n y12 0), (i 1)] fun x21 =>
         .cont 0 [x21])) (
        .l (.cmp .eql .i64) [(c 0 x0), (i 5)] fun x18 =>
        .l .bnot [x18] fun x19 =>
        .call F.typetree_check [x15, x10, x19] fun x20 =>
        .l (.cmp .neq .i64) [x20, (i 0)] fun x21 =>
        .ite x21 (
         .ret x20) (
         .l (.arith .add .i64) [(n y12 0), (i 1)] fun x22 =>
         .cont 0 [x22]))) (
       .l .bnot [(.bool false)] fun x17 =>
       .call F.typetree_check [x15, x10, x17] fun x18 =>
       .l (.cmp .neq .i64) [x18, (i 0)] fun x19 =>
       .ite x19 (
        .ret x18) (
        .l (.arith .add .i64) [(n y12 0), (i 1)] fun x20 =>
        .cont 0 [x20]))) (
      .ret (i 0))) (
     .calls F.slices_Clone_typetree_bound_typetree_bound sg_slices_Clone_typetree_bound_typetree_bound [(n xs 1)] fun z7 =>
     .l .len [(n z7 0)] fun x8 =>
     .loop [(i 0), (n z7 0)] fun y9 =>
     .l (.cmp .lss .i64) [(n y9 0), x8] fun x10 =>
     .ite x10 (
      .l (.idx 2 true) [(n y9 1), (n y9 0)] fun x11 =>
      .l (.updF 2 1 1 false) [(n y9 1), (n y9 0), (.bool true)] fun x12 =>
      .l (.arith .add .i64) [(n y9 0), (i 1)] fun x13 =>
      .cont 0 [x13, x12]) (
      .l .len [(c 5 x0)] fun x11 =>
      .loop [(i 0)] fun y12 =>
      .l (.cmp .lss .i64) [(n y12 0), x11] fun x13 =>
      .ite x13 (
       .l (.idx 6 true) [(c 5 x0), (n y12 0)] fun x14 =>
       .l (.okc 6 true) [x14] fun x15 =>
       .l (.cmp .eql .i64) [(n y12 0), (i 0)] fun x16 =>
       .ite x16 (
        .l (.cmp .eql .i64) [(c 0 x0), (i 4)] fun x17 =>
        .ite x17 (
         .l .bnot [(.bool true)] fun x18 =>
         .call F.typetree_check [x15, (n y9 1), x18] fun x19 =>
         .l (.cmp .neq .i64) [x19, (i 0)] fun x20 =>
         .ite x20 (
          .ret x19) (
          .l (.arith .add .i64) [(n y12 0), (i 1)] fun x21 =>
          .cont 1 [x21])) (
         .l (.cmp .eql .i64) [(c 0 x0), (i 5)] fun x18 =>
         .l .bnot [x18] fun x19 =>
         .call F.typetree_check [x15, (n y9 1), x19] fun x20 =>
         .l (.cmp .neq .i64) [x20, (i 0)] fun x21 =>
         .ite x21 (
          .ret x20) (
          .l (.arith .add .i64) [(n y12 0), (i 1)] fun x22 =>
          .cont 1 [x22]))) (
        .l .bnot [(.bool false)] fun x17 =>
        .call F.typetree_check [x15, (n y9 1), x17] fun x18 =>
        .l (.cmp .neq .i64) [x18, (i 0)] fun x19 =>
        .ite x19 (
         .ret x18) (
         .l (.arith .add .i64) [(n y12 0), (i 1)] fun x20 =>
         .cont 1 [x20]))) (
       .ret (i 0))))))) (
  .l (.cmp .eql .i64) [(c 0 x0), (i 9)] fun x3 =>
  .ite x3 (
   .call F.typetree_find [(n xs 1), (c 2 x0)] fun x4 =>
   .l (.tc 0) [x4] fun x5 =>
   .l (.tc 1) [x4] fun x6 =>
   .l (.okc 2 true) [x5] fun x7 =>
   .l .bnot [x6] fun x8 =>
   .ite x8 (
    .ret (i 4)) (
    .l .bnot [(c 1 x7)] fun x9 =>
    .ite x9 (
     .ret (i 3)) (
     .l .len [(c 5 x0)] fun x10 =>
     .loop [(i 0)] fun y11 =>
     .l (.cmp .lss .i64) [(n y11 0), x10] fun x12 =>
     .ite x12 (
      .l (.idx 6 true) [(c 5 x0), (n y11 0)] fun x13 =>
      .l (.okc 6 true) [x13] fun x14 =>
      .l (.cmp .eql .i64) [(n y11 0), (i 0)] fun x15 =>
      .ite x15 (
       .l (.cmp .eql .i64) [(c 0 x0), (i 4)] fun x16 =>
       .ite x16 (
        .l .bnot [(.bool true)] fun x17 =>
        .call F.typetree_check [x14, (n xs 1), x17] fun x18 =>
        .l (.cmp .neq .i64) [x18, (i 0)] fun x19 =>
        .ite x19 (
         .ret x18) (
         .l (.arith .add .i64) [(n y11 0), (i 1)] fun x20 =>
         .cont 0 [x20])) (
        .l (.cmp .eql .i64) [(c 0 x0), (i 5)] fun x17 =>
        .l .bnot [x17] fun x18 =>
        .call F.typetree_check [x14, (n xs 1), x18] fun x19 =>
        .l (.cmp .neq .i64) [x19, (i 0)] fun x20 =>
        .ite x20 (
         .ret x19) (
         .l (.arith .add .i64) [(n y11 0), (i 1)] fun x21 =>
         .cont 0 [x21]))) (
       .l .bnot [(.bool false)] fun x16 =>
       .call F.typetree_check [x14, (n xs 1), x16] fun x17 =>
       .l (.cmp .neq .i64) [x17, (i 0)] fun x18 =>
       .ite x18 (
        .ret x17) (
        .l (.arith .add .i64) [(n y11 0), (i 1)] fun x19 =>
        .cont 0 [x19]))) (
      .ret (i 0))))) (
   .l (.cmp .eql .i64) [(c 0 x0), (i 8)] fun x4 =>
   .ite x4 (
    .calls F.slices_Clone_typetree_bound_typetree_bound sg_slices_Clone_typetree_bound_typetree_bound [(n xs 1)] fun z5 =>
    .l (.okcs [(1, false)]) [(c 2 x0)] fun x6 =>
    .l (.lst 2 true) [(.agg [(c 2 x0), (.bool false)])] fun x7 =>
    .l (.app 2 true 24) [(n z5 0), x7] fun x8 =>
    .l .len [(c 5 x0)] fun x9 =>
    .loop [(i 0)] fun y10 =>
    .l (.cmp .lss .i64) [(n y10 0), x9] fun x11 =>
    .ite x11 (
     .l (.idx 6 true) [(c 5 x0), (n y10 0)] fun x12 =>
     .l (.okc 6 true) [x12] fun x13 =>
     .l (.cmp .eql .i64) [(n y10 0), (i 0)] fun x14 =>
     .ite x14 (
      .l (.cmp .eql .i64) [(c 0 x0), (i 4)] fun x15 =>
      .ite x15 (
       .l .bnot [(.bool true)] fun x16 =>
       .call F.typetree_check [x13, x8, x16] fun x17 =>
       .l (.cmp .neq .i64) [x17, (i 0)] fun x18 =>
       .ite x18 (
        .ret x17) (
        .l (.arith .add .i64) [(n y10 0), (i 1)] fun x19 =>
        .cont 0 [x19])) (
       .l (.cmp .eql .i64) [(c 0 x0), (i 5)] fun x16 =>
       .l .bnot [x16] fun x17 =>
       .call F.typetree_check [x13, x8, x17] fun x18 =>
       .l (.cmp .neq .i64) [x18, (i 0)] fun x19 =>
       .ite x19 (
        .ret x18) (
        .l (.arith .add .i64) [(n y10 0), (i 1)] fun x20 =>
        .cont 0 [x20]))) (
      .l .bnot [(.bool false)] fun x15 =>
      .call F.typetree_check [x13, x8, x15] fun x16 =>
      .l (.cmp .neq .i64) [x16, (i 0)] fun x17 =>
      .ite x17 (
       .ret x16) (
       .l (.arith .add .i64) [(n y10 0), (i 1)] fun x18 =>
       .cont 0 [x18]))) (
     .ret (i 0))) (
    .calls F.slices_Clone_typetree_bound_typetree_bound sg_slices_Clone_typetree_bound_typetree_bound [(n xs 1)] fun z5 =>
    .l .len [(n z5 0)] fun x6 =>
    .loop [(i 0), (n z5 0)] fun y7 =>
    .l (.cmp .lss .i64) [(n y7 0), x6] fun x8 =>
    .ite x8 (
     .l (.idx 2 true) [(n y7 1), (n y7 0)] fun x9 =>
     .l (.updF 2 1 1 false) [(n y7 1), (n y7 0), (.bool true)] fun x10 =>
     .l (.arith .add .i64) [(n y7 0), (i 1)] fun x11 =>
     .cont 0 [x11, x10]) (
     .l .len [(c 5 x0)] fun x9 =>
     .loop [(i 0)] fun y10 =>
     .l (.cmp .lss .i64) [(n y10 0), x9] fun x11 =>
     .ite x11 (
      .l (.idx 6 true) [(c 5 x0), (n y10 0)] fun x12 =>
      .l (.okc 6 true) [x12] fun x13 =>
      .l (.cmp .eql .i64) [(n y10 0), (i 0)] fun x14 =>
      .ite x14 (
       .l (.cmp .eql .i64) [(c 0 x0), (i 4)] fun x15 =>
       .ite x15 (
        .l .bnot [(.bool true)] fun x16 =>
        .call F.typetree_check [x13, (n y7 1), x16] fun x17 =>
        .l (.cmp .neq .i64) [x17, (i 0)] fun x18 =>
        .ite x18 (
         .ret x17) (
         .l (.arith .add .i64) [(n y10 0), (i 1)] fun x19 =>
         .cont 1 [x19])) (
        .l (.cmp .eql .i64) [(c 0 x0), (i 5)] fun x16 =>
        .l .bnot [x16] fun x17 =>
        .call F.typetree_check [x13, (n y7 1), x17] fun x18 =>
        .l (.cmp .neq .i64) [x18, (i 0)] fun x19 =>
        .ite x19 (
         .ret x18) (
         .l (.arith .add .i64) [(n y10 0), (i 1)] fun x20 =>
         .cont 1 [x20]))) (
       .l .bnot [(.bool false)] fun x15 =>
       .call F.typetree_check [x13, (n y7 1), x15] fun x16 =>
       .l (.cmp .neq .i64) [x16, (i 0)] fun x17 =>
       .ite x17 (
        .ret x16) (
        .l (.arith .add .i64) [(n y10 0), (i 1)] fun x18 =>
        .cont 1 [x18]))) (
      .ret (i 0)))))))
theorem k_typetree_check : TxOk P F.typetree_check 3 t_typetree_check := txOk_of (H := { wr := [], ro := [], nl := [], fz := [(18, 1)], da := [], sigs := [(56, sg_slices_Clone_string_string), (108, sg_slices_Clone_typetree_bound_typetree_bound)] }) (plans := []) hm Tryz.func78 rfl rfl fun xs => by kernel_rfl
-- NOT TOLD: 79 slices.pdqsortOrdered[string]: 0
def u_slices_pdqsortOrdered_string_Nil (xs : List PV) : T PV :=
.loop [(.bool true), (.bool true), (n xs 0), (n xs 1), (n xs 2), (n xs 3)] fun y0 =>
.l (.arith .sub .i64) [(n y0 3), (n y0 2)] fun x1 =>
.l (.cmp .leq .i64) [x1, (i 12)] fun x2 =>
.ite x2 (
 .calls F.slices_insertionSortOrdered_string sg_slices_insertionSortOrdered_string [(n y0 2), (n y0 3), (n y0 5)] fun z3 =>
 .ret (.tup [(.tup []), (n z3 1)])) (
 .l (.cmp .eql .i64) [(n y0 4), (i 0)] fun x3 =>
 .ite x3 (
  .call F.slices_heapSortOrdered_string [(n y0 5), (n y0 2), (n y0 3)] fun x4 =>
  .fail) (
  .l .bnot [(n y0 1)] fun x4 =>
  .ite x4 (
   .call F.slices_breakPatternsOrdered_string [(n y0 5), (n y0 2), (n y0 3)] fun x5 =>
   .l (.arith .sub .i64) [(n y0 4), (i 1)] fun x6 =>
   .call F.slices_choosePivotOrdered_string [(n y0 5), (n y0 2), (n y0 3)] fun x7 =>
   .l (.tc 0) [x7] fun x8 =>
   .l (.tc 1) [x7] fun x9 =>
   .l (.cmp .eql .i64) [x9, (i 2)] fun x10 =>
   .ite x10 (
    .call F.slices_reverseRangeOrdered_string [(n y0 5), (n y0 2), (n y0 3)] fun x11 =>
    .l (.arith .sub .i64) [(n y0 3), (i 1)] fun x12 =>
    .l (.arith .sub .i64) [x8, (n y0 2)] fun x13 =>
    .l (.arith .sub .i64) [x12, x13] fun x14 =>
    .ite (n y0 1) (
     .ite (n y0 0) (
      .l (.cmp .eql .i64) [(i 1), (i 1)] fun x15 =>
      .ite x15 (
       .call F.slices_partialInsertionSortOrdered_string [(n y0 5), (n y0 2), (n y0 3)] fun x16 =>
       .ite x16 (
        .fail) (
        .l (.cmp .gtr .i64) [(n y0 2), (i 0)] fun x17 =>
        .ite x17 (
         .l (.arith .sub .i64) [(n y0 2), (i 1)] fun x18 =>
         .l (.idx 1 false) [(n y0 5), x18] fun x19 =>
         .l (.idx 1 false) [(n y0 5), x14] fun x20 =>
         .call F.cmp_Less_string [x19, x20] fun x21 =>
         .l .bnot [x21] fun x22 =>
         .ite x22 (
          .call F.slices_partitionEqualOrdered_string [(n y0 5), (n y0 2), (n y0 3), x14] fun x23 =>
          .fail) (
          .call F.slices_partitionOrdered_string [(n y0 5), (n y0 2), (n y0 3), x14] fun x23 =>
          .l (.tc 0) [x23] fun x24 =>
          .l (.tc 1) [x23] fun x25 =>
          .l (.arith .sub .i64) [x24, (n y0 2)] fun x26 =>
          .l (.arith .sub .i64) [(n y0 3), x24] fun x27 =>
          .l (.arith .quo .i64) [x1, (i 8)] fun x28 =>
          .l (.cmp .lss .i64) [x26, x27] fun x29 =>
          .ite x29 (
           .l (.cmp .geq .i64) [x26, x28] fun x30 =>
           .fail) (
           .l (.cmp .geq .i64) [x27, x28] fun x30 =>
           .l (.arith .add .i64) [x24, (i 1)] fun x31 =>
           .fail))) (
         .call F.slices_partitionOrdered_string [(n y0 5), (n y0 2), (n y0 3), x14] fun x18 =>
         .l (.tc 0) [x18] fun x19 =>
         .l (.tc 1) [x18] fun x20 =>
         .l (.arith .sub .i64) [x19, (n y0 2)] fun x21 =>
         .l (.arith .sub .i64) [(n y0 3), x19] fun x22 =>
         .l (.arith .quo .i64) [x1, (i 8)] fun x23 =>
         .l (.cmp .lss .i64) [x21, x22] fun x24 =>
         .ite x24 (
          .l (.cmp .geq .i64) [x21, x23] fun x25 =>
          .fail) (
          .l (.cmp .geq .i64) [x22, x23] fun x25 =>
          .l (.arith .add .i64) [x19, (i 1)] fun x26 =>
          .fail)))) (
       .l (.cmp .gtr .i64) [(n y0 2), (i 0)] fun x16 =>
       .ite x16 (
        .l (.arith .sub .i64) [(n y0 2), (i 1)] fun x17 =>
        .l (.idx 1 false) [(n y0 5), x17] fun x18 =>
        .l (.idx 1 false) [(n y0 5), x14] fun x19 =>
        .call F.cmp_Less_string [x18, x19] fun x20 =>
        .l .bnot [x20] fun x21 =>
        .ite x21 (
         .call F.slices_partitionEqualOrdered_string [(n y0 5), (n y0 2), (n y0 3), x14] fun x22 =>
         .fail) (
         .call F.slices_partitionOrdered_string [(n y0 5), (n y0 2), (n y0 3), x14] fun x22 =>
         .l (.tc 0) [x22] fun x23 =>
         .l (.tc 1) [x22] fun x24 =>
         .l (.arith .sub .i64) [x23, (n y0 2)] fun x25 =>
         .l (.arith .sub .i64) [(n y0 3), x23] fun x26 =>
         .l (.arith .quo .i64) [x1, (i 8)] fun x27 =>
         .l (.cmp .lss .i64) [x25, x26] fun x28 =>
         .ite x28 (
          .l (.cmp .geq .i64) [x25, x27] fun x29 =>
          .fail) (
          .l (.cmp .geq .i64) [x26, x27] fun x29 =>
          .l (.arith .add .i64) [x23, (i 1)] fun x30 =>
          .fail))) (
        .call F.slices_partitionOrdered_string [(n y0 5), (n y0 2), (n y0 3), x14] fun x17 =>
        .l (.tc 0) [x17] fun x18 =>
        .l (.tc 1) [x17] fun x19 =>
        .l (.arith .sub .i64) [x18, (n y0 2)] fun x20 =>
        .l (.arith .sub .i64) [(n y0 3), x18] fun x21 =>
        .l (.arith .quo .i64) [x1, (i 8)] fun x22 =>
        .l (.cmp .lss .i64) [x20, x21] fun x23 =>
        .ite x23 (
         .l (.cmp .geq .i64) [x20, x22] fun x24 =>
         .fail) (
         .l (.cmp .geq .i64) [x21, x22] fun x24 =>
         .l (.arith .add .i64) [x18, (i 1)] fun x25 =>
         .fail)))) (
      .l (.cmp .gtr .i64) [(n y0 2), (i 0)] fun x15 =>
      .ite x15 (
       .l (.arith .sub .i64) [(n y0 2), (i 1)] fun x16 =>
       .l (.idx 1 false) [(n y0 5), x16] fun x17 =>
       .l (.idx 1 false) [(n y0 5), x14] fun x18 =>
       .call F.cmp_Less_string [x17, x18] fun x19 =>
       .l .bnot [x19] fun x20 =>
       .ite x20 (
        .call F.slices_partitionEqualOrdered_string [(n y0 5), (n y0 2), (n y0 3), x14] fun x21 =>
        .fail) (
        .call F.slices_partitionOrdered_string [(n y0 5), (n y0 2), (n y0 3), x14] fun x21 =>
        .l (.tc 0) [x21] fun x22 =>
        .l (.tc 1) [x21] fun x23 =>
        .l (.arith .sub .i64) [x22, (n y0 2)] fun x24 =>
        .l (.arith .sub .i64) [(n y0 3), x22] fun x25 =>
        .l (.arith .quo .i64) [x1, (i 8)] fun x26 =>
        .l (.cmp .lss .i64) [x24, x25] fun x27 =>
        .ite x27 (
         .l (.cmp .geq .i64) [x24, x26] fun x28 =>
         .fail) (
         .l (.cmp .geq .i64) [x25, x26] fun x28 =>
         .l (.arith .add .i64) [x22, (i 1)] fun x29 =>
         .fail))) (
       .call F.slices_partitionOrdered_string [(n y0 5), (n y0 2), (n y0 3), x14] fun x16 =>
       .l (.tc 0) [x16] fun x17 =>
       .l (.tc 1) [x16] fun x18 =>
       .l (.arith .sub .i64) [x17, (n y0 2)] fun x19 =>
       .l (.arith .sub .i64) [(n y0 3), x17] fun x20 =>
       .l (.arith .quo .i64) [x1, (i 8)] fun x21 =>
       .l (.cmp .lss .i64) [x19, x20] fun x22 =>
       .ite x22 (
        .l (.cmp .geq .i64) [x19, x21] fun x23 =>
        .fail) (
        .l (.cmp .geq .i64) [x20, x21] fun x23 =>
        .l (.arith .add .i64) [x17, (i 1)] fun x24 =>
        .fail)))) (
     .l (.cmp .gtr .i64) [(n y0 2), (i 0)] fun x15 =>
     .ite x15 (
      .l (.arith .sub .i64) [(n y0 2), (i 1)] fun x16 =>
      .l (.idx 1 false) [(n y0 5), x16] fun x17 =>
      .l (.idx 1 false) [(n y0 5), x14] fun x18 =>
      .call F.cmp_Less_string [x17, x18] fun x19 =>
      .l .bnot [x19] fun x20 =>
      .ite x20 (
       .call F.slices_partitionEqualOrdered_string [(n y0 5), (n y0 2), (n y0 3), x14] fun x21 =>
       .fail) (
       .call F.slices_partitionOrdered_string [(n y0 5), (n y0 2), (n y0 3), x14] fun x21 =>
       .l (.tc 0) [x21] fun x22 =>
       .l (.tc 1) [x21] fun x23 =>
       .l (.arith .sub .i64) [x22, (n y0 2)] fun x24 =>
       .l (.arith .sub .i64) [(n y0 3), x22] fun x25 =>
       .l (.arith .quo .i64) [x1, (i 8)] fun x26 =>
       .l (.cmp .lss .i64) [x24, x25] fun x27 =>
       .ite x27 (
        .l (.cmp .geq .i64) [x24, x26] fun x28 =>
        .fail) (
        .l (.cmp .geq .i64) [x25, x26] fun x28 =>
        .l (.arith .add .i64) [x22, (i 1)] fun x29 =>
        .fail))) (
      .call F.slices_partitionOrdered_string [(n y0 5), (n y0 2), (n y0 3), x14] fun x16 =>
      .l (.tc 0) [x16] fun x17 =>
      .l (.tc 1) [x16] fun x18 =>
      .l (.arith .sub .i64) [x17, (n y0 2)] fun x19 =>
      .l (.arith .sub .i64) [(n y0 3), x17] fun x20 =>
      .l (.arith .quo .i64) [x1, (i 8)] fun x21 =>
      .l (.cmp .lss .i64) [x19, x20] fun x22 =>
      .ite x22 (
       .l (.cmp .geq .i64) [x19, x21] fun x23 =>
       .fail) (
       .l (.cmp .geq .i64) [x20, x21] fun x23 =>
       .l (.arith .add .i64) [x17, (i 1)] fun x24 =>
       .fail)))) (
    .ite (n y0 1) (
     .ite (n y0 0) (
      .l (.cmp .eql .i64) [x9, (i 1)] fun x11 =>
      .ite x11 (
       .call F.slices_partialInsertionSortOrdered_string [(n y0 5), (n y0 2), (n y0 3)] fun x12 =>
       .ite x12 (
        .fail) (
        .l (.cmp .gtr .i64) [(n y0 2), (i 0)] fun x13 =>
        .ite x13 (
         .l (.arith .sub .i64) [(n y0 2), (i 1)] fun x14 =>
         .l (.idx 1 false) [(n y0 5), x14] fun x15 =>
         .l (.idx 1 false) [(n y0 5), x8] fun x16 =>
         .call F.cmp_Less_string [x15, x16] fun x17 =>
         .l .bnot [x17] fun x18 =>
         .ite x18 (
          .call F.slices_partitionEqualOrdered_string [(n y0 5), (n y0 2), (n y0 3), x8] fun x19 =>
          .fail) (
          .call F.slices_partitionOrdered_string [(n y0 5), (n y0 2), (n y0 3), x8] fun x19 =>
          .l (.tc 0) [x19] fun x20 =>
          .l (.tc 1) [x19] fun x21 =>
          .l (.arith .sub .i64) [x20, (n y0 2)] fun x22 =>
          .l (.arith .sub .i64) [(n y0 3), x20] fun x23 =>
          .l (.arith .quo .i64) [x1, (i 8)] fun x24 =>
          .l (.cmp .lss .i64) [x22, x23] fun x25 =>
          .ite x25 (
           .l (.cmp .geq .i64) [x22, x24] fun x26 =>
           .fail) (
           .l (.cmp .geq .i64) [x23, x24] fun x26 =>
           .l (.arith .add .i64) [x20, (i 1)] fun x27 =>
           .fail))) (
         .call F.slices_partitionOrdered_string [(n y0 5), (n y0 2), (n y0 3), x8] fun x14 =>
         .l (.tc 0) [x14] fun x15 =>
         .l (.tc 1) [x14] fun x16 =>
         .l (.arith .sub .i64) [x15, (n y0 2)] fun x17 =>
         .l (.arith .sub .i64) [(n y0 3), x15] fun x18 =>
         .l (.arith .quo .i64) [x1, (i 8)] fun x19 =>
         .l (.cmp .lss .i64) [x17, x18] fun x20 =>
         .ite x20 (
          .l (.cmp .geq .i64) [x17, x19] fun x21 =>
          .fail) (
          .l (.cmp .geq .i64) [x18, x19] fun x21 =>
          .l (.arith .add .i64) [x15, (i 1)] fun x22 =>
          .fail)))) (
       .l (.cmp .gtr .i64) [(n y0 2), (i 0)] fun x12 =>
       .ite x12 (
        .l (.arith .sub .i64) [(n y0 2), (i 1)] fun x13 =>
        .l (.idx 1 false) [(n y0 5), x13] fun x14 =>
        .l (.idx 1 false) [(n y0 5), x8] fun x15 =>
        .call F.cmp_Less_string [x14, x15] fun x16 =>
        .l .bnot [x16] fun x17 =>
        .ite x17 (
         .call F.slices_partitionEqualOrdered_string [(n y0 5), (n y0 2), (n y0 3), x8] fun x18 =>
         .fail) (
         .call F.slices_partitionOrdered_string [(n y0 5), (n y0 2), (n y0 3), x8] fun x18 =>
         .l (.tc 0) [x18] fun x19 =>
         .l (.tc 1) [x18] fun x20 =>
         .l (.arith .sub .i64) [x19, (n y0 2)] fun x21 =>
         .l (.arith .sub .i64) [(n y0 3), x19] fun x22 =>
         .l (.arith .quo .i64) [x1, (i 8)] fun x23 =>
         .l (.cmp .lss .i64) [x21, x22] fun x24 =>
         .ite x24 (
          .l (.cmp .geq .i64) [x21, x23] fun x25 =>
          .fail) (
          .l (.cmp .geq .i64) [x22, x23] fun x25 =>
          .l (.arith .add .i64) [x19, (i 1)] fun x26 =>
          .fail))) (
        .call F.slices_partitionOrdered_string [(n y0 5), (n y0 2), (n y0 3), x8] fun x13 =>
        .l (.tc 0) [x13] fun x14 =>
        .l (.tc 1) [x13] fun x15 =>
        .l (.arith .sub .i64) [x14, (n y0 2)] fun x16 =>
        .l (.arith .sub .i64) [(n y0 3), x14] fun x17 =>
        .l (.arith .quo .i64) [x1, (i 8)] fun x18 =>
        .l (.cmp .lss .i64) [x16, x17] fun x19 =>
        .ite x19 (
         .l (.cmp .geq .i64) [x16, x18] fun x20 =>
         .fail) (
         .l (.cmp .geq .i64) [x17, x18] fun x20 =>
         .l (.arith .add .i64) [x14, (i 1)] fun x21 =>
         .fail)))) (
      .l (.cmp .gtr .i64) [(n y0 2), (i 0)] fun x11 =>
      .ite x11 (
       .l (.arith .sub .i64) [(n y0 2), (i 1)] fun x12 =>
       .l (.idx 1 false) [(n y0 5), x12] fun x13 =>
       .l (.idx 1 false) [(n y0 5), x8] fun x14 =>
       .call F.cmp_Less_string [x13, x14] fun x15 =>
       .l .bnot [x15] fun x16 =>
       .ite x16 (
        .call F.slices_partitionEqualOrdered_string [(n y0 5), (n y0 2), (n y0 3), x8] fun x17 =>
        .fail) (
        .call F.slices_partitionOrdered_string [(n y0 5), (n y0 2), (n y0 3), x8] fun x17 =>
        .l (.tc 0) [x17] fun x18 =>
        .l (.tc 1) [x17] fun x19 =>
        .l (.arith .sub .i64) [x18, (n y0 2)] fun x20 =>
        .l (.arith .sub .i64) [(n y0 3), x18] fun x21 =>
        .l (.arith .quo .i64) [x1, (i 8)] fun x22 =>
        .l (.cmp .lss .i64) [x20, x21] fun x23 =>
        .ite x23 (
         .l (.cmp .geq .i64) [x20, x22] fun x24 =>
         .fail) (
         .l (.cmp .geq .i64) [x21, x22] fun x24 =>
         .l (.arith .add .i64) [x18, (i 1)] fun x25 =>
         .fail))) (
       .call F.slices_partitionOrdered_string [(n y0 5), (n y0 2), (n y0 3), x8] fun x12 =>
       .l (.tc 0) [x12] fun x13 =>
       .l (.tc 1) [x12] fun x14 =>
       .l (.arith .sub .i64) [x13, (n y0 2)] fun x15 =>
       .l (.arith .sub .i64) [(n y0 3), x13] fun x16 =>
       .l (.arith .quo .i64) [x1, (i 8)] fun x17 =>
       .l (.cmp .lss .i64) [x15, x16] fun x18 =>
       .ite x18 (
        .l (.cmp .geq .i64) [x15, x17] fun x19 =>
        .fail) (
        .l (.cmp .geq .i64) [x16, x17] fun x19 =>
        .l (.arith .add .i64) [x13, (i 1)] fun x20 =>
        .fail)))) (
     .l (.cmp .gtr .i64) [(n y0 2), (i 0)] fun x11 =>
     .ite x11 (
      .l (.arith .sub .i64) [(n y0 2), (i 1)] fun x12 =>
      .l (.idx 1 false) [(n y0 5), x12] fun x13 =>
      .l (.idx 1 false) [(n y0 5), x8] fun x14 =>
      .call F.cmp_Less_string [x13, x14] fun x15 =>
      .l .bnot [x15] fun x16 =>
      .ite x16 (
       .call F.slices_partitionEqualOrdered_string [(n y0 5), (n y0 2), (n y0 3), x8] fun x17 =>
       .fail) (
       .call F.slices_partitionOrdered_string [(n y0 5), (n y0 2), (n y0 3), x8] fun x17 =>
       .l (.tc 0) [x17] fun x18 =>
       .l (.tc 1) [x17] fun x19 =>
       .l (.arith .sub .i64) [x18, (n y0 2)] fun x20 =>
       .l (.arith .sub .i64) [(n y0 3), x18] fun x21 =>
       .l (.arith .quo .i64) [x1, (i 8)] fun x22 =>
       .l (.cmp .lss .i64) [x20, x21] fun x23 =>
       .ite x23 (
        .l (.cmp .geq .i64) [x20, x22] fun x24 =>
        .fail) (
        .l (.cmp .geq .i64) [x21, x22] fun x24 =>
        .l (.arith .add .i64) [x18, (i 1)] fun x25 =>
        .fail))) (
      .call F.slices_partitionOrdered_string [(n y0 5), (n y0 2), (n y0 3), x8] fun x12 =>
      .l (.tc 0) [x12] fun x13 =>
      .l (.tc 1) [x12] fun x14 =>
      .l (.arith .sub .i64) [x13, (n y0 2)] fun x15 =>
      .l (.arith .sub .i64) [(n y0 3), x13] fun x16 =>
      .l (.arith .quo .i64) [x1, (i 8)] fun x17 =>
      .l (.cmp .lss .i64) [x15, x16] fun x18 =>
      .ite x18 (
       .l (.cmp .geq .i64) [x15, x17] fun x19 =>
       .fail) (
       .l (.cmp .geq .i64) [x16, x17] fun x19 =>
       .l (.arith .add .i64) [x13, (i 1)] fun x20 =>
       .fail))))) (
   .call F.slices_choosePivotOrdered_string [(n y0 5), (n y0 2), (n y0 3)] fun x5 =>
   .l (.tc 0) [x5] fun x6 =>
   .l (.tc 1) [x5] fun x7 =>
   .l (.cmp .eql .i64) [x7, (i 2)] fun x8 =>
   .ite x8 (
    .call F.slices_reverseRangeOrdered_string [(n y0 5), (n y0 2), (n y0 3)] fun x9 =>
    .l (.arith .sub .i64) [(n y0 3), (i 1)] fun x10 =>
    .l (.arith .sub .i64) [x6, (n y0 2)] fun x11 =>
    .l (.arith .sub .i64) [x10, x11] fun x12 =>
    .ite (n y0 1) (
     .ite (n y0 0) (
      .l (.cmp .eql .i64) [(i 1), (i 1)] fun x13 =>
      .ite x13 (
       .call F.slices_partialInsertionSortOrdered_string [(n y0 5), (n y0 2), (n y0 3)] fun x14 =>
       .ite x14 (
        .fail) (
        .l (.cmp .gtr .i64) [(n y0 2), (i 0)] fun x15 =>
        .ite x15 (
         .l (.arith .sub .i64) [(n y0 2), (i 1)] fun x16 =>
         .l (.idx 1 false) [(n y0 5), x16] fun x17 =>
         .l (.idx 1 false) [(n y0 5), x12] fun x18 =>
         .call F.cmp_Less_string [x17, x18] fun x19 =>
         .l .bnot [x19] fun x20 =>
         .ite x20 (
          .call F.slices_partitionEqualOrdered_string [(n y0 5), (n y0 2), (n y0 3), x12] fun x21 =>
          .fail) (
          .call F.slices_partitionOrdered_string [(n y0 5), (n y0 2), (n y0 3), x12] fun x21 =>
          .l (.tc 0) [x21] fun x22 =>
          .l (.tc 1) [x21] fun x23 =>
          .l (.arith .sub .i64) [x22, (n y0 2)] fun x24 =>
          .l (.arith .sub .i64) [(n y0 3), x22] fun x25 =>
          .l (.arith .quo .i64) [x1, (i 8)] fun x26 =>
          .l (.cmp .lss .i64) [x24, x25] fun x27 =>
          .ite x27 (
           .l (.cmp .geq .i64) [x24, x26] fun x28 =>
           .fail) (
           .l (.cmp .geq .i64) [x25, x26] fun x28 =>
           .l (.arith .add .i64) [x22, (i 1)] fun x29 =>
           .fail))) (
         .call F.slices_partitionOrdered_string [(n y0 5), (n y0 2), (n y0 3), x12] fun x16 =>
         .l (.tc 0) [x16] fun x17 =>
         .l (.tc 1) [x16] fun x18 =>
         .l (.arith .sub .i64) [x17, (n y0 2)] fun x19 =>
         .l (.arith .sub .i64) [(n y0 3), x17] fun x20 =>
         .l (.arith .quo .i64) [x1, (i 8)] fun x21 =>
         .l (.cmp .lss .i64) [x19, x20] fun x22 =>
         .ite x22 (
          .l (.cmp .geq .i64) [x19, x21] fun x23 =>
          .fail) (
          .l (.cmp .geq .i64) [x20, x21] fun x23 =>
          .l (.arith .add .i64) [x17, (i 1)] fun x24 =>
          .fail)))) (
       .l (.cmp .gtr .i64) [(n y0 2), (i 0)] fun x14 =>
       .ite x14 (
        .l (.arith .sub .i64) [(n y0 2), (i 1)] fun x15 =>
        .l (.idx 1 false) [(n y0 5), x15] fun x16 =>
        .l (.idx 1 false) [(n y0 5), x12] fun x17 =>
        .call F.cmp_Less_string [x16, x17] fun x18 =>
        .l .bnot [x18] fun x19 =>
        .ite x19 (
         .call F.slices_partitionEqualOrdered_string [(n y0 5), (n y0 2), (n y0 3), x12] fun x20 =>
         .fail) (
         .call F.slices_partitionOrdered_string [(n y0 5), (n y0 2), (n y0 3), x12] fun x20 =>
         .l (.tc 0) [x20] fun x21 =>
         .l (.tc 1) [x20] fun x22 =>
         .l (.arith .sub .i64) [x21, (n y0 2)] fun x23 =>
         .l (.arith .sub .i64) [(n y0 3), x21] fun x24 =>
         .l (.arith .quo .i64) [x1, (i 8)] fun x25 =>
         .l (.cmp .lss .i64) [x23, x24] fun x26 =>
         .ite x26 (
          .l (.cmp .geq .i64) [x23, x25] fun x27 =>
          .fail) (
          .l (.cmp .geq .i64) [x24, x25] fun x27 =>
          .l (.arith .add .i64) [x21, (i 1)] fun x28 =>
          .fail))) (
        .call F.slices_partitionOrdered_string [(n y0 5), (n y0 2), (n y0 3), x12] fun x15 =>
        .l (.tc 0) [x15] fun x16 =>
        .l (.tc 1) [x15] fun x17 =>
        .l (.arith .sub .i64) [x16, (n y0 2)] fun x18 =>
        .l (.arith .sub .i64) [(n y0 3), x16] fun x19 =>
        .l (.arith .quo .i64) [x1, (i 8)] fun x20 =>
        .l (.cmp .lss .i64) [x18, x19] fun x21 =>
        .ite x21 (
         .l (.cmp .geq .i64) [x18, x20] fun x22 =>
         .fail) (
         .l (.cmp .geq .i64) [x19, x20] fun x22 =>
         .l (.arith .add .i64) [x16, (i 1)] fun x23 =>
         .fail)))) (
      .l (.cmp .gtr .i64) [(n y0 2), (i 0)] fun x13 =>
      .ite x13 (
       .l (.arith .sub .i64) [(n y0 2), (i 1)] fun x14 =>
       .l (.idx 1 false) [(n y0 5), x14] fun x15 =>
       .l (.idx 1 false) [(n y0 5), x12] fun x16 =>
       .call F.cmp_Less_string [x15, x16] fun x17 =>
       .l .bnot [x17] fun x18 =>
       .ite x18 (
        .call F.slices_partitionEqualOrdered_string [(n y0 5), (n y0 2), (n y0 3), x12] fun x19 =>
        .fail) (
        .call F.slices_partitionOrdered_string [(n y0 5), (n y0 2), (n y0 3), x12] fun x19 =>
        .l (.tc 0) [x19] fun x20 =>
        .l (.tc 1) [x19] fun x21 =>
        .l (.arith .sub .i64) [x20, (n y0 2)] fun x22 =>
        .l (.arith .sub .i64) [(n y0 3), x20] fun x23 =>
        .l (.arith .quo .i64) [x1, (i 8)] fun x24 =>
        .l (.cmp .lss .i64) [x22, x23] fun x25 =>
        .ite x25 (
         .l (.cmp .geq .i64) [x22, x24] fun x26 =>
         .fail) (
         .l (.cmp .geq .i64) [x23, x24] fun x26 =>
         .l (.arith .add .i64) [x20, (i 1)] fun x27 =>
         .fail))) (
       .call F.slices_partitionOrdered_string [(n y0 5), (n y0 2), (n y0 3), x12] fun x14 =>
       .l (.tc 0) [x14] fun x15 =>
       .l (.tc 1) [x14] fun x16 =>
       .l (.arith .sub .i64) [x15, (n y0 2)] fun x17 =>
       .l (.arith .sub .i64) [(n y0 3), x15] fun x18 =>
       .l (.arith .quo .i64) [x1, (i 8)] fun x19 =>
       .l (.cmp .lss .i64) [x17, x18] fun x20 =>
       .ite x20 (
        .l (.cmp .geq .i64) [x17, x19] fun x21 =>
        .fail) (
        .l (.cmp .geq .i64) [x18, x19] fun x21 =>
        .l (.arith .add .i64) [x15, (i 1)] fun x22 =>
        .fail)))) (
     .l (.cmp .gtr .i64) [(n y0 2), (i 0)] fun x13 =>
     .ite x13 (
      .l (.arith .sub .i64) [(n y0 2), (i 1)] fun x14 =>
      .l (.idx 1 false) [(n y0 5), x14] fun x15 =>
      .l (.idx 1 false) [(n y0 5), x12] fun x16 =>
      .call F.cmp_Less_string [x15, x16] fun x17 =>
      .l .bnot [x17] fun x18 =>
      .ite x18 (
       .call F.slices_partitionEqualOrdered_string [(n y0 5), (n y0 2), (n y0 3), x12] fun x19 =>
       .fail) (
       .call F.slices_partitionOrdered_string [(n y0 5), (n y0 2), (n y0 3), x12] fun x19 =>
       .l (.tc 0) [x19] fun x20 =>
       .l (.tc 1) [x19] fun x21 =>
       .l (.arith .sub .i64) [x20, (n y0 2)] fun x22 =>
       .l (.arith .sub .i64) [(n y0 3), x20] fun x23 =>
       .l (.arith .quo .i64) [x1, (i 8)] fun x24 =>
       .l (.cmp .lss .i64) [x22, x23] fun x25 =>
       .ite x25 (
        .l (.cmp .geq .i64) [x22, x24] fun x26 =>
        .fail) (
        .l (.cmp .geq .i64) [x23, x24] fun x26 =>
        .l (.arith .add .i64) [x20, (i 1)] fun x27 =>
        .fail))) (
      .call F.slices_partitionOrdered_string [(n y0 5), (n y0 2), (n y0 3), x12] fun x14 =>
      .l (.tc 0) [x14] fun x15 =>
      .l (.tc 1) [x14] fun x16 =>
      .l (.arith .sub .i64) [x15, (n y0 2)] fun x17 =>
      .l (.arith .sub .i64) [(n y0 3), x15] fun x18 =>
      .l (.arith .quo .i64) [x1, (i 8)] fun x19 =>
      .l (.cmp .lss .i64) [x17, x18] fun x20 =>
      .ite x20 (
       .l (.cmp .geq .i64) [x17, x19] fun x21 =>
       .fail) (
       .l (.cmp .geq .i64) [x18, x19] fun x21 =>
       .l (.arith .add .i64) [x15, (i 1)] fun x22 =>
       .fail)))) (
    .ite (n y0 1) (
     .ite (n y0 0) (
      .l (.cmp .eql .i64) [x7, (i 1)] fun x9 =>
      .ite x9 (
       .call F.slices_partialInsertionSortOrdered_string [(n y0 5), (n y0 2), (n y0 3)] fun x10 =>
       .ite x10 (
        .fail) (
        .l (.cmp .gtr .i64) [(n y0 2), (i 0)] fun x11 =>
        .ite x11 (
         .l (.arith .sub .i64) [(n y0 2), (i 1)] fun x12 =>
         .l (.idx 1 false) [(n y0 5), x12] fun x13 =>
         .l (.idx 1 false) [(n y0 5), x6] fun x14 =>
         .call F.cmp_Less_string [x13, x14] fun x15 =>
         .l .bnot [x15] fun x16 =>
         .ite x16 (
          .call F.slices_partitionEqualOrdered_string [(n y0 5), (n y0 2), (n y0 3), x6] fun x17 =>
          .fail) (
          .call F.slices_partitionOrdered_string [(n y0 5), (n y0 2), (n y0 3), x6] fun x17 =>
          .l (.tc 0) [x17] fun x18 =>
          .l (.tc 1) [x17] fun x19 =>
          .l (.arith .sub .i64) [x18, (n y0 2)] fun x20 =>
          .l (.arith .sub .i64) [(n y0 3), x18] fun x21 =>
          .l (.arith .quo .i64) [x1, (i 8)] fun x22 =>
          .l (.cmp .lss .i64) [x20, x21] fun x23 =>
          .ite x23 (
           .l (.cmp .geq .i64) [x20, x22] fun x24 =>
           .fail) (
           .l (.cmp .geq .i64) [x21, x22] fun x24 =>
           .l (.arith .add .i64) [x18, (i 1)] fun x25 =>
           .fail))) (
         .call F.slices_partitionOrdered_string [(n y0 5), (n y0 2), (n y0 3), x6] fun x12 =>
         .l (.tc 0) [x12] fun x13 =>
         .l (.tc 1) [x12] fun x14 =>
         .l (.arith .sub .i64) [x13, (n y0 2)] fun x15 =>
         .l (.arith .sub .i64) [(n y0 3), x13] fun x16 =>
         .l (.arith .quo .i64) [x1, (i 8)] fun x17 =>
         .l (.cmp .lss .i64) [x15, x16] fun x18 =>
         .ite x18 (
          .l (.cmp .geq .i64) [x15, x17] fun x19 =>
          .fail) (
          .l (.cmp .geq .i64) [x16, x17] fun x19 =>
          .l (.arith .add .i64) [x13, (i 1)] fun x20 =>
          .fail)))) (
       .l (.cmp .gtr .i64) [(n y0 2), (i 0)] fun x10 =>
       .ite x10 (
        .l (.arith .sub .i64) [(n y0 2), (i 1)] fun x11 =>
        .l (.idx 1 false) [(n y0 5), x11] fun x12 =>
        .l (.idx 1 false) [(n y0 5), x6] fun x13 =>
        .call F.cmp_Less_string [x12, x13] fun x14 =>
        .l .bnot [x14] fun x15 =>
        .ite x15 (
         .call F.slices_partitionEqualOrdered_string [(n y0 5), (n y0 2), (n y0 3), x6] fun x16 =>
         .fail) (
         .call F.slices_partitionOrdered_string [(n y0 5), (n y0 2), (n y0 3), x6] fun x16 =>
         .l (.tc 0) [x16] fun x17 =>
         .l (.tc 1) [x16] fun x18 =>
         .l (.arith .sub .i64) [x17, (n y0 2)] fun x19 =>
         .l (.arith .sub .i64) [(n y0 3), x17] fun x20 =>
         .l (.arith .quo .i64) [x1, (i 8)] fun x21 =>
         .l (.cmp .lss .i64) [x19, x20] fun x22 =>
         .ite x22 (
          .l (.cmp .geq .i64) [x19, x21] fun x23 =>
          .fail) (
          .l (.cmp .geq .i64) [x20, x21] fun x23 =>
          .l (.arith .add .i64) [x17, (i 1)] fun x24 =>
          .fail))) (
        .call F.slices_partitionOrdered_string [(n y0 5), (n y0 2), (n y0 3), x6] fun x11 =>
        .l (.tc 0) [x11] fun x12 =>
        .l (.tc 1) [x11] fun x13 =>
        .l (.arith .sub .i64) [x12, (n y0 2)] fun x14 =>
        .l (.arith .sub .i64) [(n y0 3), x12] fun x15 =>
        .l (.arith .quo .i64) [x1, (i 8)] fun x16 =>
        .l (.cmp .lss .i64) [x14, x15] fun x17 =>
        .ite x17 (
         .l (.cmp .geq .i64) [x14, x16] fun x18 =>
         .fail) (
         .l (.cmp .geq .i64) [x15, x16] fun x18 =>
         .l (.arith .add .i64) [x12, (i 1)] fun x19 =>
         .fail)))) (
      .l (.cmp .gtr .i64) [(n y0 2), (i 0)] fun x9 =>
      .ite x9 (
       .l (.arith .sub .i64) [(n y0 2), (i 1)] fun x10 =>
       .l (.idx 1 false) [(n y0 5), x10] fun x11 =>
       .l (.idx 1 false) [(n y0 5), x6] fun x12 =>
       .call F.cmp_Less_string [x11, x12] fun x13 =>
       .l .bnot [x13] fun x14 =>
       .ite x14 (
        .call F.slices_partitionEqualOrdered_string [(n y0 5), (n y0 2), (n y0 3), x6] fun x15 =>
        .fail) (
        .call F.slices_partitionOrdered_string [(n y0 5), (n y0 2), (n y0 3), x6] fun x15 =>
        .l (.tc 0) [x15] fun x16 =>
        .l (.tc 1) [x15] fun x17 =>
        .l (.arith .sub .i64) [x16, (n y0 2)] fun x18 =>
        .l (.arith .sub .i64) [(n y0 3), x16] fun x19 =>
        .l (.arith .quo .i64) [x1, (i 8)] fun x20 =>
        .l (.cmp .lss .i64) [x18, x19] fun x21 =>
        .ite x21 (
         .l (.cmp .geq .i64) [x18, x20] fun x22 =>
         .fail) (
         .l (.cmp .geq .i64) [x19, x20] fun x22 =>
         .l (.arith .add .i64) [x16, (i 1)] fun x23 =>
         .fail))) (
       .call F.slices_partitionOrdered_string [(n y0 5), (n y0 2), (n y0 3), x6] fun x10 =>
       .l (.tc 0) [x10] fun x11 =>
       .l (.tc 1) [x10] fun x12 =>
       .l (.arith .sub .i64) [x11, (n y0 2)] fun x13 =>
       .l (.arith .sub .i64) [(n y0 3), x11] fun x14 =>
       .l (.arith .quo .i64) [x1, (i 8)] fun x15 =>
       .l (.cmp .lss .i64) [x13, x14] fun x16 =>
       .ite x16 (
        .l (.cmp .geq .i64) [x13, x15] fun x17 =>
        .fail) (
        .l (.cmp .geq .i64) [x14, x15] fun x17 =>
        .l (.arith .add .i64) [x11, (i 1)] fun x18 =>
        .fail)))) (
     .l (.cmp .gtr .i64) [(n y0 2), (i 0)] fun x9 =>
     .ite x9 (
      .l (.arith .sub .i64) [(n y0 2), (i 1)] fun x10 =>
      .l (.idx 1 false) [(n y0 5), x10] fun x11 =>
      .l (.idx 1 false) [(n y0 5), x6] fun x12 =>
      .call F.cmp_Less_string [x11, x12] fun x13 =>
      .l .bnot [x13] fun x14 =>
      .ite x14 (
       .call F.slices_partitionEqualOrdered_string [(n y0 5), (n y0 2), (n y0 3), x6] fun x15 =>
       .fail) (
       .call F.slices_partitionOrdered_string [(n y0 5), (n y0 2), (n y0 3), x6] fun x15 =>
       .l (.tc 0) [x15] fun x16 =>
       .l (.tc 1) [x15] fun x17 =>
       .l (.arith .sub .i64) [x16, (n y0 2)] fun x18 =>
       .l (.arith .sub .i64) [(n y0 3), x16] fun x19 =>
       .l (.arith .quo .i64) [x1, (i 8)] fun x20 =>
       .l (.cmp .lss .i64) [x18, x19] fun x21 =>
       .ite x21 (
        .l (.cmp .geq .i64) [x18, x20] fun x22 =>
        .fail) (
        .l (.cmp .geq .i64) [x19, x20] fun x22 =>
        .l (.arith .add .i64) [x16, (i 1)] fun x23 =>
        .fail))) (
      .call F.slices_partitionOrdered_string [(n y0 5), (n y0 2), (n y0 3), x6] fun x10 =>
      .l (.tc 0) [x10] fun x11 =>
      .l (.tc 1) [x10] fun x12 =>
      .l (.arith .sub .i64) [x11, (n y0 2)] fun x13 =>
      .l (.arith .sub .i64) [(n y0 3), x11] fun x14 =>
      .l (.arith .quo .i64) [x1, (i 8)] fun x15 =>
      .l (.cmp .lss .i64) [x13, x14] fun x16 =>
      .ite x16 (
       .l (.cmp .geq .i64) [x13, x15] fun x17 =>
       .fail) (
       .l (.cmp .geq .i64) [x14, x15] fun x17 =>
       .l (.arith .add .i64) [x11, (i 1)] fun x18 =>
       .fail)))))))
theorem m_slices_pdqsortOrdered_string_Nil : TxOkS P F.slices_pdqsortOrdered_string sg_slices_pdqsortOrdered_string_Nil u_slices_pdqsortOrdered_string_Nil := txOkS_of (H := { wr := [], ro := [], nl := [], fz := [], da := [], sigs := [(54, sg_slices_Sort_string_string), (79, sg_slices_pdqsortOrdered_string_Nil), (109, sg_slices_insertionSortOrdered_string)] }) (plans := []) hm Tryz.func79 rfl fun xs => by kernel_rfl
def t_math_bits_Len (xs : List PV) : T PV :=
.call F.math_bits_Len64 [(n xs 0)] fun x0 =>
.ret x0
theorem k_math_bits_Len : TxOk P F.math_bits_Len 1 t_math_bits_Len := txOk_of (H := {}) (plans := []) hm Tryz.func80 rfl rfl fun xs => by kernel_rfl
def t_slices_ContainsFunc_api_Value_api_Value (xs : List PV) : T PV :=
.call F.slices_IndexFunc_api_Value_api_Value [(n xs 0), (n xs 1)] fun x0 =>
.l (.cmp .geq .i64) [x0, (i 0)] fun x1 =>
.ret x1
theorem k_slices_ContainsFunc_api_Value_api_Value : TxOk P F.slices_ContainsFunc_api_Value_api_Value 2 t_slices_ContainsFunc_api_Value_api_Value := txOk_of (H := {}) (plans := []) hm Tryz.func82 rfl rfl fun xs => by kernel_rfl
def t_scope_walker_node_1 (xs : List PV) : T PV :=
.l (.okc 3 true) [(n xs 0)] fun x0 =>
.l (.cmp .eql .i64) [(c 0 x0), (i 1)] fun x1 =>
.ite x1 (
 .l (.unbox 1 false) [(n xs 1)] fun x2 =>
 .l (.mget false [.s] (.bool false)) [x2, (c 1 x0)] fun x3 =>
 .l .bnot [x3] fun x4 =>
 .ret x4) (
 .ret (.bool false))
theorem k_scope_walker_node_1 : TxOk P F.scope_walker_node_1 2 t_scope_walker_node_1 := txOk_of (H := {}) (plans := []) hm Tryz.func83 rfl rfl fun xs => by kernel_rfl
def t_scope_walker_call (xs : List PV) : T PV :=
.l (.okc 14 true) [(n xs 0)] fun x0 =>
.l (.okc 12 true) [(n xs 1)] fun x1 =>
.call F.scope_Find [(sb 0 13 x0), (c 1 x1)] fun x2 =>
.l (.tc 0) [x2] fun x3 =>
.l (.tc 1) [x2] fun x4 =>
.l .bnot [x4] fun x5 =>
.ite x5 (
 .ret (i 4)) (
 .l (.idx 14 true) [(c 0 x0), x3] fun x6 =>
 .l .len [(c 1 x6)] fun x7 =>
 .l .len [(c 4 x1)] fun x8 =>
 .l (.cmp .neq .i64) [x7, x8] fun x9 =>
 .ite x9 (
  .ret (i 6)) (
  .l .bnot [(n xs 2)] fun x10 =>
  .ite x10 (
   .ret (i 7)) (
   .ret (i 0))))
theorem k_scope_walker_call : TxOk P F.scope_walker_call 3 t_scope_walker_call := txOk_of (H := {}) (plans := []) hm Tryz.func84 rfl rfl fun xs => by kernel_rfl
def t_ref03_node (xs : List PV) : T PV :=
.l (.okc 12 true) [(n xs 0)] fun x0 =>
.loop [(i 0)] fun y1 =>
.l .len [(c 4 x0)] fun x2 =>
.l (.cmp .lss .i64) [(n y1 0), x2] fun x3 =>
.ite x3 (
 .l (.idx 3 true) [(c 4 x0), (n y1 0)] fun x4 =>
 .call F.ref03_value [x4] fun x5 =>
 .l .bnot [x5] fun x6 =>
 .ite x6 (
  .ret (.bool false)) (
  .l (.arith .add .i64) [(n y1 0), (i 1)] fun x7 =>
  .cont 0 [x7])) (
 .l .len [(c 4 x0)] fun x4 =>
 .l .len [(c 3 x0)] fun x5 =>
 .l .len [(c 11 x0)] fun x6 =>
 .l (.cmp .eql .i64) [(c 0 x0), (i 1)] fun x7 =>
 .ite x7 (
  .l (.scmp .eql) [(c 1 x0), (.str ⟨#[]⟩)] fun x8 =>
  .ite x8 (
   .l (.scmp .eql) [(c 2 x0), (.str ⟨#[]⟩)] fun x9 =>
   .ite x9 (
    .l (.cmp .eql .i64) [x4, (i 0)] fun x10 =>
    .ite x10 (
     .l (.cmp .eql .i64) [x5, (i 0)] fun x11 =>
     .ite x11 (
      .l (.cmp .eql .i64) [x6, (i 0)] fun x12 =>
      .ite x12 (
       .call F.ref03_plain [x0] fun x13 =>
       .ret x13) (
       .ret (.bool false))) (
      .ret (.bool false))) (
     .ret (.bool false))) (
    .ret (.bool false))) (
   .ret (.bool false))) (
  .l (.cmp .eql .i64) [(c 0 x0), (i 2)] fun x8 =>
  .ite x8 (
   .call F.ref03_name [(c 1 x0)] fun x9 =>
   .ite x9 (
    .l (.scmp .eql) [(c 2 x0), (.str ⟨#[]⟩)] fun x10 =>
    .ite x10 (
     .l (.cmp .eql .i64) [x4, (i 1)] fun x11 =>
     .ite x11 (
      .l (.cmp .eql .i64) [x5, (i 0)] fun x12 =>
      .ite x12 (
       .l (.cmp .eql .i64) [x6, (i 1)] fun x13 =>
       .ite x13 (
        .call F.ref03_plain [x0] fun x14 =>
        .ret x14) (
        .ret (.bool false))) (
       .ret (.bool false))) (
      .ret (.bool false))) (
     .ret (.bool false))) (
    .ret (.bool false))) (
   .l (.cmp .eql .i64) [(c 0 x0), (i 3)] fun x9 =>
   .ite x9 (
    .call F.ref03_name [(c 1 x0)] fun x10 =>
    .ite x10 (
     .call F.ref03_name [(c 2 x0)] fun x11 =>
     .ite x11 (
      .l (.cmp .eql .i64) [x4, (i 0)] fun x12 =>
      .ite x12 (
       .l (.cmp .eql .i64) [x5, (i 0)] fun x13 =>
       .ite x13 (
        .l (.cmp .eql .i64) [x6, (i 1)] fun x14 =>
        .ite x14 (
         .call F.ref03_plain [x0] fun x15 =>
         .ret x15) (
         .ret (.bool false))) (
        .ret (.bool false))) (
       .ret (.bool false))) (
      .ret (.bool false))) (
     .ret (.bool false))) (
    .l (.cmp .eql .i64) [(c 0 x0), (i 4)] fun x10 =>
    .ite x10 (
     .call F.ref03_name [(c 1 x0)] fun x11 =>
     .ite x11 (
      .l (.scmp .eql) [(c 2 x0), (.str ⟨#[]⟩)] fun x12 =>
      .ite x12 (
       .l (.cmp .eql .i64) [x4, (i 0)] fun x13 =>
       .ite x13 (
        .l (.cmp .eql .i64) [x5, (i 1)] fun x14 =>
        .ite x14 (
         .l (.idx 1 false) [(c 3 x0), (i 0)] fun x15 =>
         .call F.ref03_name [x15] fun x16 =>
         .ite x16 (
          .l (.cmp .eql .i64) [x6, (i 1)] fun x17 =>
          .ite x17 (
           .call F.ref03_plain [x0] fun x18 =>
           .ret x18) (
           .ret (.bool false))) (
          .ret (.bool false))) (
         .ret (.bool false))) (
        .ret (.bool false))) (
       .ret (.bool false))) (
      .ret (.bool false))) (
     .l (.cmp .eql .i64) [(c 0 x0), (i 5)] fun x11 =>
     .ite x11 (
      .call F.ref03_name [(c 1 x0)] fun x12 =>
      .ite x12 (
       .l (.scmp .eql) [(c 2 x0), (.str ⟨#[]⟩)] fun x13 =>
       .ite x13 (
        .l (.cmp .eql .i64) [x4, (i 0)] fun x14 =>
        .ite x14 (
         .l (.cmp .gtr .i64) [x5, (i 0)] fun x15 =>
         .ite x15 (
          .call F.ref02_Labels [(c 3 x0)] fun x16 =>
          .ite x16 (
           .l (.cmp .eql .i64) [x6, x5] fun x17 =>
           .ite x17 (
            .call F.ref03_plain [x0] fun x18 =>
            .ret x18) (
            .ret (.bool false))) (
           .ret (.bool false))) (
          .ret (.bool false))) (
         .ret (.bool false))) (
        .ret (.bool false))) (
       .ret (.bool false))) (
      .l (.cmp .eql .i64) [(c 0 x0), (i 6)] fun x12 =>
      .ite x12 (
       .call F.ref03_name [(c 1 x0)] fun x13 =>
       .ite x13 (
        .call F.ref03_name [(c 2 x0)] fun x14 =>
        .ite x14 (
         .l (.scmp .neq) [(c 1 x0), (c 2 x0)] fun x15 =>
         .ite x15 (
          .l (.cmp .eql .i64) [x4, (i 0)] fun x16 =>
          .ite x16 (
           .l (.cmp .eql .i64) [x5, (i 0)] fun x17 =>
           .ite x17 (
            .l (.cmp .eql .i64) [x6, (i 1)] fun x18 =>
            .ite x18 (
             .call F.ref02_Right [(sb 5 6 x0)] fun x19 =>
             .l (.cmp .eql .i64) [x19, (i 0)] fun x20 =>
             .ite x20 (
              .call F.ref02_Session [(sb 5 6 x0)] fun x21 =>
              .ret x21) (
              .ret (.bool false))) (
             .ret (.bool false))) (
            .ret (.bool false))) (
           .ret (.bool false))) (
          .ret (.bool false))) (
         .ret (.bool false))) (
        .ret (.bool false))) (
       .l (.cmp .eql .i64) [(c 0 x0), (i 7)] fun x13 =>
       .ite x13 (
        .loop [(i 0)] fun y14 =>
        .l (.cmp .lss .i64) [(n y14 0), x6] fun x15 =>
        .ite x15 (
         .l (.idx 12 true) [(c 11 x0), (n y14 0)] fun x16 =>
         .l (.cmp .eql .i64) [(c 0 x16), (i 7)] fun x17 =>
         .ite x17 (
          .ret (.bool false)) (
          .l (.arith .add .i64) [(n y14 0), (i 1)] fun x18 =>
          .cont 1 [x18])) (
         .l (.scmp .eql) [(c 1 x0), (.str ⟨#[]⟩)] fun x16 =>
         .ite x16 (
          .l (.scmp .eql) [(c 2 x0), (.str ⟨#[]⟩)] fun x17 =>
          .ite x17 (
           .l (.cmp .eql .i64) [x4, (i 0)] fun x18 =>
           .ite x18 (
            .l (.cmp .eql .i64) [x5, (i 0)] fun x19 =>
            .ite x19 (
             .l (.cmp .geq .i64) [x6, (i 2)] fun x20 =>
             .ite x20 (
              .call F.ref03_plain [x0] fun x21 =>
              .ret x21) (
              .ret (.bool false))) (
             .ret (.bool false))) (
            .ret (.bool false))) (
           .ret (.bool false))) (
          .ret (.bool false)))) (
        .l (.cmp .eql .i64) [(c 0 x0), (i 8)] fun x14 =>
        .ite x14 (
         .call F.ref03_name [(c 1 x0)] fun x15 =>
         .ite x15 (
          .l (.scmp .eql) [(c 2 x0), (.str ⟨#[]⟩)] fun x16 =>
          .ite x16 (
           .l (.cmp .eql .i64) [x5, (i 0)] fun x17 =>
           .ite x17 (
            .l (.cmp .eql .i64) [x6, (i 0)] fun x18 =>
            .ite x18 (
             .call F.ref03_plain [x0] fun x19 =>
             .ret x19) (
             .ret (.bool false))) (
            .ret (.bool false))) (
           .ret (.bool false))) (
          .ret (.bool false))) (
         .ret (.bool false))))))))))
theorem k_ref03_node : TxOk P F.ref03_node 1 t_ref03_node := txOk_of (H := {}) (plans := []) hm Tryz.func85 rfl rfl fun xs => by kernel_rfl
def t_ref01_Word (xs : List PV) : T PV :=
.l .slen [(n xs 0)] fun x0 =>
.l (.cmp .eql .i64) [x0, (i 0)] fun x1 =>
.ite x1 (
 .ret (.bool false)) (
 .l .sidx [(n xs 0), (i 0)] fun x2 =>
 .call F.ref01_Letters [] fun x3 =>
 .call F.ref01_in [x2, x3] fun x4 =>
 .l .bnot [x4] fun x5 =>
 .ite x5 (
  .ret (.bool false)) (
  .loop [(i 1)] fun y6 =>
  .l .slen [(n xs 0)] fun x7 =>
  .l (.cmp .lss .i64) [(n y6 0), x7] fun x8 =>
  .ite x8 (
   .l .sidx [(n xs 0), (n y6 0)] fun x9 =>
   .call F.ref01_Letters [] fun x10 =>
   .call F.ref01_in [x9, x10] fun x11 =>
   .l .bnot [x11] fun x12 =>
   .ite x12 (
    .l .sidx [(n xs 0), (n y6 0)] fun x13 =>
    .call F.ref01_digits [] fun x14 =>
    .call F.ref01_in [x13, x14] fun x15 =>
    .l .bnot [x15] fun x16 =>
    .ite x16 (
     .ret (.bool false)) (
     .l (.arith .add .i64) [(n y6 0), (i 1)] fun x17 =>
     .cont 0 [x17])) (
    .l (.arith .add .i64) [(n y6 0), (i 1)] fun x13 =>
    .cont 0 [x13])) (
   .ret (.bool true))))
theorem k_ref01_Word : TxOk P F.ref01_Word 1 t_ref01_Word := txOk_of (H := {}) (plans := []) hm Tryz.func86 rfl rfl fun xs => by kernel_rfl
def t_ref01_Keyword (xs : List PV) : T PV :=
.l (.lst 1 false) [(.str ⟨#[100, 101, 102]⟩), (.str ⟨#[109, 97, 105, 110]⟩), (.str ⟨#[115, 116, 111, 112]⟩), (.str ⟨#[110, 101, 119]⟩), (.str ⟨#[105, 110, 116]⟩), (.str ⟨#[98, 111, 111, 108]⟩), (.str ⟨#[101, 110, 100]⟩), (.str ⟨#[114, 101, 99]⟩), (.str ⟨#[116, 114, 117, 101]⟩), (.str ⟨#[102, 97, 108, 115, 101]⟩)] fun x0 =>
.loop [(i 0)] fun y1 =>
.l .len [x0] fun x2 =>
.l (.cmp .lss .i64) [(n y1 0), x2] fun x3 =>
.ite x3 (
 .l (.idx 1 false) [x0, (n y1 0)] fun x4 =>
 .l (.scmp .eql) [x4, (n xs 0)] fun x5 =>
 .ite x5 (
  .ret (.bool true)) (
  .l (.arith .add .i64) [(n y1 0), (i 1)] fun x6 =>
  .cont 0 [x6])) (
 .ret (.bool false))
theorem k_ref01_Keyword : TxOk P F.ref01_Keyword 1 t_ref01_Keyword := txOk_of (H := {}) (plans := []) hm Tryz.func87 rfl rfl fun xs => by kernel_rfl
def t_ref02_shape (xs : List PV) : T PV :=
.l (.okc 6 true) [(n xs 0)] fun x0 =>
.l (.cmp .eql .i64) [(c 0 x0), (i 1)] fun x1 =>
.ite x1 (
 .l (.cmp .eql .i64) [(c 1 x0), (i 0)] fun x2 =>
 .ite x2 (
  .l (.scmp .eql) [(c 2 x0), (.str ⟨#[]⟩)] fun x3 =>
  .ite x3 (
   .l (.cmp .eql .i64) [(c 3 x0), (i 0)] fun x4 =>
   .ite x4 (
    .l .len [(c 4 x0)] fun x5 =>
    .l (.cmp .eql .i64) [x5, (i 0)] fun x6 =>
    .ite x6 (
     .l .len [(c 5 x0)] fun x7 =>
     .l (.cmp .eql .i64) [x7, (i 0)] fun x8 =>
     .ret x8) (
     .ret (.bool false))) (
    .ret (.bool false))) (
   .ret (.bool false))) (
  .ret (.bool false))) (
 .l (.cmp .eql .i64) [(c 0 x0), (i 2)] fun x2 =>
 .ite x2 (
  .l (.cmp .eql .i64) [(c 1 x0), (i 0)] fun x3 =>
  .ite x3 (
   .l (.scmp .eql) [(c 2 x0), (.str ⟨#[]⟩)] fun x4 =>
   .ite x4 (
    .l (.cmp .eql .i64) [(c 3 x0), (i 0)] fun x5 =>
    .ite x5 (
     .l .len [(c 4 x0)] fun x6 =>
     .l (.cmp .eql .i64) [x6, (i 0)] fun x7 =>
     .ite x7 (
      .l .len [(c 5 x0)] fun x8 =>
      .l (.cmp .eql .i64) [x8, (i 0)] fun x9 =>
      .ret x9) (
      .ret (.bool false))) (
     .ret (.bool false))) (
    .ret (.bool false))) (
   .ret (.bool false))) (
  .l (.cmp .eql .i64) [(c 0 x0), (i 3)] fun x3 =>
  .ite x3 (
   .l (.cmp .eql .i64) [(c 1 x0), (i 0)] fun x4 =>
   .ite x4 (
    .l (.scmp .eql) [(c 2 x0), (.str ⟨#[]⟩)] fun x5 =>
    .ite x5 (
     .l (.cmp .eql .i64) [(c 3 x0), (i 0)] fun x6 =>
     .ite x6 (
      .l .len [(c 4 x0)] fun x7 =>
      .l (.cmp .eql .i64) [x7, (i 0)] fun x8 =>
      .ite x8 (
       .l .len [(c 5 x0)] fun x9 =>
       .l (.cmp .eql .i64) [x9, (i 0)] fun x10 =>
       .ret x10) (
       .ret (.bool false))) (
      .ret (.bool false))) (
     .ret (.bool false))) (
    .ret (.bool false))) (
   .l (.cmp .eql .i64) [(c 0 x0), (i 4)] fun x4 =>
   .ite x4 (
    .call F.ref02_prio [(c 1 x0)] fun x5 =>
    .ite x5 (
     .l (.scmp .eql) [(c 2 x0), (.str ⟨#[]⟩)] fun x6 =>
     .ite x6 (
      .l (.cmp .eql .i64) [(c 3 x0), (i 0)] fun x7 =>
      .ite x7 (
       .l .len [(c 4 x0)] fun x8 =>
       .l (.cmp .eql .i64) [x8, (i 0)] fun x9 =>
       .ite x9 (
        .l .len [(c 5 x0)] fun x10 =>
        .l (.cmp .eql .i64) [x10, (i 2)] fun x11 =>
        .ret x11) (
        .ret (.bool false))) (
       .ret (.bool false))) (
      .ret (.bool false))) (
     .ret (.bool false))) (
    .l (.cmp .eql .i64) [(c 0 x0), (i 5)] fun x5 =>
    .ite x5 (
     .call F.ref02_prio [(c 1 x0)] fun x6 =>
     .ite x6 (
      .l (.scmp .eql) [(c 2 x0), (.str ⟨#[]⟩)] fun x7 =>
      .ite x7 (
       .l (.cmp .eql .i64) [(c 3 x0), (i 0)] fun x8 =>
       .ite x8 (
        .l .len [(c 4 x0)] fun x9 =>
        .l (.cmp .eql .i64) [x9, (i 0)] fun x10 =>
        .ite x10 (
         .l .len [(c 5 x0)] fun x11 =>
         .l (.cmp .eql .i64) [x11, (i 2)] fun x12 =>
         .ret x12) (
         .ret (.bool false))) (
        .ret (.bool false))) (
       .ret (.bool false))) (
      .ret (.bool false))) (
     .l (.cmp .eql .i64) [(c 0 x0), (i 6)] fun x6 =>
     .ite x6 (
      .call F.ref02_prio [(c 1 x0)] fun x7 =>
      .ite x7 (
       .l (.scmp .eql) [(c 2 x0), (.str ⟨#[]⟩)] fun x8 =>
       .ite x8 (
        .l (.cmp .eql .i64) [(c 3 x0), (i 0)] fun x9 =>
        .ite x9 (
         .l .len [(c 4 x0)] fun x10 =>
         .l (.cmp .gtr .i64) [x10, (i 0)] fun x11 =>
         .ite x11 (
          .call F.ref02_Labels [(c 4 x0)] fun x12 =>
          .ite x12 (
           .l .len [(c 5 x0)] fun x13 =>
           .l .len [(c 4 x0)] fun x14 =>
           .l (.cmp .eql .i64) [x13, x14] fun x15 =>
           .ret x15) (
           .ret (.bool false))) (
          .ret (.bool false))) (
         .ret (.bool false))) (
        .ret (.bool false))) (
       .ret (.bool false))) (
      .l (.cmp .eql .i64) [(c 0 x0), (i 7)] fun x7 =>
      .ite x7 (
       .call F.ref02_prio [(c 1 x0)] fun x8 =>
       .ite x8 (
        .l (.scmp .eql) [(c 2 x0), (.str ⟨#[]⟩)] fun x9 =>
        .ite x9 (
         .l (.cmp .eql .i64) [(c 3 x0), (i 0)] fun x10 =>
         .ite x10 (
          .l .len [(c 4 x0)] fun x11 =>
          .l (.cmp .gtr .i64) [x11, (i 0)] fun x12 =>
          .ite x12 (
           .call F.ref02_Labels [(c 4 x0)] fun x13 =>
           .ite x13 (
            .l .len [(c 5 x0)] fun x14 =>
            .l .len [(c 4 x0)] fun x15 =>
            .l (.cmp .eql .i64) [x14, x15] fun x16 =>
            .ret x16) (
            .ret (.bool false))) (
           .ret (.bool false))) (
          .ret (.bool false))) (
         .ret (.bool false))) (
        .ret (.bool false))) (
       .l (.cmp .eql .i64) [(c 0 x0), (i 8)] fun x8 =>
       .ite x8 (
        .l (.cmp .eql .i64) [(c 1 x0), (i 0)] fun x9 =>
        .ite x9 (
         .call F.ref01_Name [(c 2 x0)] fun x10 =>
         .ite x10 (
          .l (.cmp .eql .i64) [(c 3 x0), (i 0)] fun x11 =>
          .ite x11 (
           .l .len [(c 4 x0)] fun x12 =>
           .l (.cmp .eql .i64) [x12, (i 0)] fun x13 =>
           .ite x13 (
            .l .len [(c 5 x0)] fun x14 =>
            .l (.cmp .eql .i64) [x14, (i 1)] fun x15 =>
            .ret x15) (
            .ret (.bool false))) (
           .ret (.bool false))) (
          .ret (.bool false))) (
         .ret (.bool false))) (
        .l (.cmp .eql .i64) [(c 0 x0), (i 9)] fun x9 =>
        .ite x9 (
         .l (.cmp .eql .i64) [(c 1 x0), (i 0)] fun x10 =>
         .ite x10 (
          .call F.ref01_Name [(c 2 x0)] fun x11 =>
          .ite x11 (
           .call F.ref02_prio [(c 3 x0)] fun x12 =>
           .ite x12 (
            .l .len [(c 4 x0)] fun x13 =>
            .l (.cmp .eql .i64) [x13, (i 0)] fun x14 =>
            .ite x14 (
             .l .len [(c 5 x0)] fun x15 =>
             .l (.cmp .eql .i64) [x15, (i 0)] fun x16 =>
             .ret x16) (
             .ret (.bool false))) (
            .ret (.bool false))) (
           .ret (.bool false))) (
          .ret (.bool false))) (
         .ret (.bool false))))))))))
theorem k_ref02_shape : TxOk P F.ref02_shape 1 t_ref02_shape := txOk_of (H := {}) (plans := []) hm Tryz.func88 rfl rfl fun xs => by kernel_rfl
def t_ref02_Session (xs : List PV) : T PV :=
.l (.okc 6 true) [(n xs 0)] fun x0 =>
.l (.cmp .neq .i64) [(c 0 x0), (i 1)] fun x1 =>
.ite x1 (
 .l (.cmp .neq .i64) [(c 0 x0), (i 2)] fun x2 =>
 .ret x2) (
 .ret (.bool false))
theorem k_ref02_Session : TxOk P F.ref02_Session 1 t_ref02_Session := txOk_of (H := {}) (plans := []) hm Tryz.func89 rfl rfl fun xs => by kernel_rfl
-- NOT TOLD: 90 duologue/proctree.weight$1: 1
def u_proctree_weight_1 (xs : List PV) : T PV :=
.l (.okc 12 true) [(n xs 0)] fun x0 =>
.l (.arith .add .i64) [(n xs 1), (i 1)] fun x1 =>
.l (.okc 1 false) [x1] fun x2 =>
.l (.cmp .eql .i64) [(c 0 x0), (i 6)] fun x3 =>
.ite x3 (
 .call F.typetree_Size [(sb 5 6 x0)] fun x4 =>
 .l (.arith .add .i64) [x2, x4] fun x5 =>
 .l (.okc 1 false) [x5] fun x6 =>
 .ret (.tup [(.bool true), x6])) (
 .ret (.tup [(.bool true), x2]))
theorem m_proctree_weight_1 : TxOkS P F.proctree_weight_1 sg_proctree_weight_1 u_proctree_weight_1 := txOkS_of (H := {}) (plans := []) hm Tryz.func90 rfl fun xs => by kernel_rfl
def t_typetree_nodes (xs : List PV) : T PV :=
.l (.okc 6 true) [(n xs 0)] fun x0 =>
.ret (.fn F.typetree_nodes_1 [] [(.box x0)])
theorem k_typetree_nodes : TxOk P F.typetree_nodes 1 t_typetree_nodes := txOk_of (H := {}) (plans := []) hm Tryz.func91 rfl rfl fun xs => by kernel_rfl
def t_slices_ContainsFunc_api_Proc_api_Proc (xs : List PV) : T PV :=
.call F.slices_IndexFunc_api_Proc_api_Proc [(n xs 0), (n xs 1)] fun x0 =>
.l (.cmp .geq .i64) [x0, (i 0)] fun x1 =>
.ret x1
theorem k_slices_ContainsFunc_api_Proc_api_Proc : TxOk P F.slices_ContainsFunc_api_Proc_api_Proc 2 t_slices_ContainsFunc_api_Proc_api_Proc := txOk_of (H := {}) (plans := []) hm Tryz.func92 rfl rfl fun xs => by kernel_rfl
def u_slices_ContainsFunc_api_Proc_api_Proc_Wg (xs : List PV) : T PV :=
.calls F.slices_IndexFunc_api_Proc_api_Proc sg_slices_IndexFunc_api_Proc_api_Proc_Wg [(n xs 0), (n xs 1)] fun z0 =>
.l (.cmp .geq .i64) [(n z0 0), (i 0)] fun x1 =>
.ret (.tup [x1, (n z0 1)])
theorem m_slices_ContainsFunc_api_Proc_api_Proc_Wg : TxOkS P F.slices_ContainsFunc_api_Proc_api_Proc sg_slices_ContainsFunc_api_Proc_api_Proc_Wg u_slices_ContainsFunc_api_Proc_api_Proc_Wg := txOkS_of (H := { wr := [], ro := [], nl := [], fz := [], da := [], sigs := [(130, sg_slices_IndexFunc_api_Proc_api_Proc_Wg)] }) (plans := []) hm Tryz.func92 rfl fun xs => by kernel_rfl
def u_slices_ContainsFunc_api_Proc_api_Proc_Fw (xs : List PV) : T PV :=
.calls F.slices_IndexFunc_api_Proc_api_Proc sg_slices_IndexFunc_api_Proc_api_Proc_Fw [(n xs 0), (n xs 1)] fun z0 =>
.l (.cmp .geq .i64) [(n z0 0), (i 0)] fun x1 =>
.ret (.tup [x1, (n z0 1)])
theorem m_slices_ContainsFunc_api_Proc_api_Proc_Fw : TxOkS P F.slices_ContainsFunc_api_Proc_api_Proc sg_slices_ContainsFunc_api_Proc_api_Proc_Fw u_slices_ContainsFunc_api_Proc_api_Proc_Fw := txOkS_of (H := { wr := [], ro := [], nl := [], fz := [], da := [], sigs := [(130, sg_slices_IndexFunc_api_Proc_api_Proc_Fw)] }) (plans := []) hm Tryz.func92 rfl fun xs => by kernel_rfl
def t_proctree_shallow_1 (xs : List PV) : T PV :=
.l (.okc 12 true) [(n xs 0)] fun x0 =>
.l (.unbox 1 false) [(n xs 1)] fun x1 =>
.l (.arith .sub .i64) [x1, (i 1)] fun x2 =>
.call F.proctree_shallow [x0, x2] fun x3 =>
.l .bnot [x3] fun x4 =>
.ret x4
theorem k_proctree_shallow_1 : TxOk P F.proctree_shallow_1 2 t_proctree_shallow_1 := txOk_of (H := {}) (plans := []) hm Tryz.func93 rfl rfl fun xs => by kernel_rfl
-- NOT TOLD: 94 duologue/proctree.few$1: 1
def u_proctree_few_1 (xs : List PV) : T PV :=
.l (.okc 12 true) [(n xs 0)] fun x0 =>
.l (.arith .sub .i64) [(n xs 1), (i 1)] fun x1 =>
.l (.okc 1 false) [x1] fun x2 =>
.l (.cmp .geq .i64) [x2, (i 0)] fun x3 =>
.ret (.tup [x3, x2])
theorem m_proctree_few_1 : TxOkS P F.proctree_few_1 sg_proctree_few_1 u_proctree_few_1 := txOkS_of (H := {}) (plans := []) hm Tryz.func94 rfl fun xs => by kernel_rfl
def t_proctree_all_1 (xs : List PV) : T PV :=
.l (.okc 12 true) [(n xs 0)] fun x0 =>
.l (.unbox 1 false) [(n xs 1)] fun x1 =>
.call F.proctree_all [x0, x1] fun x2 =>
.l .bnot [x2] fun x3 =>
.ret x3
theorem k_proctree_all_1 : TxOk P F.proctree_all_1 2 t_proctree_all_1 := txOk_of (H := {}) (plans := []) hm Tryz.func95 rfl rfl fun xs => by kernel_rfl
def u_proctree_all_1_Wg (xs : List PV) : T PV :=
.l (.okc 12 true) [(n xs 0)] fun x0 =>
.calls F.proctree_all sg_proctree_all_Wg [x0, (n xs 1)] fun z1 =>
.l .bnot [(n z1 0)] fun x2 =>
.ret (.tup [x2, (n z1 1)])
theorem m_proctree_all_1_Wg : TxOkS P F.proctree_all_1 sg_proctree_all_1_Wg u_proctree_all_1_Wg := txOkS_of (H := { wr := [], ro := [], nl := [], fz := [], da := [], sigs := [(68, sg_proctree_all_Wg)] }) (plans := []) hm Tryz.func95 rfl fun xs => by kernel_rfl
def u_proctree_all_1_Fw (xs : List PV) : T PV :=
.l (.okc 12 true) [(n xs 0)] fun x0 =>
.calls F.proctree_all sg_proctree_all_Fw [x0, (n xs 1)] fun z1 =>
.l .bnot [(n z1 0)] fun x2 =>
.ret (.tup [x2, (n z1 1)])
theorem m_proctree_all_1_Fw : TxOkS P F.proctree_all_1 sg_proctree_all_1_Fw u_proctree_all_1_Fw := txOkS_of (H := { wr := [], ro := [], nl := [], fz := [], da := [], sigs := [(68, sg_proctree_all_Fw)] }) (plans := []) hm Tryz.func95 rfl fun xs => by kernel_rfl
def t_proctree_rules (xs : List PV) : T PV :=
.call F.proctree_kidsOf [(i 0)] fun x0 =>
.l (.okcs [(1, false)]) [x0] fun x1 =>
.l (.mset false [.i .i64]) [(.mp [] []), (i 1), (.agg [(.bool false), (.bool false), (.bool false), (i 0), (i 0), x0])] fun x2 =>
.call F.proctree_kidsOf [(i 1)] fun x3 =>
.l (.okcs [(1, false)]) [x3] fun x4 =>
.l (.mset false [.i .i64]) [x2, (i 2), (.agg [(.bool true), (.bool false), (.bool false), (i 1), (i 0), x3])] fun x5 =>
.call F.proctree_kidsOf [(i 1)] fun x6 =>
.l (.okcs [(1, false)]) [x6] fun x7 =>
.l (.mset false [.i .i64]) [x5, (i 3), (.agg [(.bool true), (.bool true), (.bool false), (i 0), (i 0), x6])] fun x8 =>
.call F.proctree_kidsOf [(i 1)] fun x9 =>
.l (.okcs [(1, false)]) [x9] fun x10 =>
.l (.mset false [.i .i64]) [x8, (i 4), (.agg [(.bool true), (.bool false), (.bool false), (i 0), (i 1), x9])] fun x11 =>
.l (.okcs [(1, false)]) [(.fn F.proctree_each [] [])] fun x12 =>
.l (.mset false [.i .i64]) [x11, (i 5), (.agg [(.bool true), (.bool false), (.bool false), (i 0), (i (-1)), (.fn F.proctree_each [] [])])] fun x13 =>
.call F.proctree_kidsOf [(i 1)] fun x14 =>
.l (.okcs [(1, false)]) [x14] fun x15 =>
.l (.mset false [.i .i64]) [x13, (i 6), (.agg [(.bool true), (.bool true), (.bool true), (i 0), (i 0), x14])] fun x16 =>
.l (.okcs [(1, false)]) [(.fn F.proctree_several [] [])] fun x17 =>
.l (.mset false [.i .i64]) [x16, (i 7), (.agg [(.bool false), (.bool false), (.bool false), (i 0), (i 0), (.fn F.proctree_several [] [])])] fun x18 =>
.call F.proctree_kidsOf [(i 0)] fun x19 =>
.l (.okcs [(1, false)]) [x19] fun x20 =>
.l (.mset false [.i .i64]) [x18, (i 8), (.agg [(.bool true), (.bool false), (.bool false), (i (-1)), (i 0), x19])] fun x21 =>
.ret x21
theorem k_proctree_rules : TxOk P F.proctree_rules 0 t_proctree_rules := txOk_of (H := {}) (plans := []) hm Tryz.func96 rfl rfl fun xs => by kernel_rfl
def t_proctree_named (xs : List PV) : T PV :=
.ite (n xs 1) (
 .call F.lex_Name [(n xs 0)] fun x0 =>
 .ret x0) (
 .l (.scmp .eql) [(n xs 0), (.str ⟨#[]⟩)] fun x0 =>
 .ret x0)
theorem k_proctree_named : TxOk P F.proctree_named 2 t_proctree_named := txOk_of (H := {}) (plans := []) hm Tryz.func97 rfl rfl fun xs => by kernel_rfl
def t_proctree_typed (xs : List PV) : T PV :=
.l (.okc 12 true) [(n xs 0)] fun x0 =>
.ite (n xs 1) (
 .call F.typetree_Right [(sb 5 6 x0)] fun x1 =>
 .l (.cmp .eql .i64) [x1, (i 0)] fun x2 =>
 .ite x2 (
  .call F.typetree_Session [(sb 5 6 x0)] fun x3 =>
  .ite x3 (
   .l (.scmp .neq) [(c 1 x0), (c 2 x0)] fun x4 =>
   .ret x4) (
   .ret (.bool false))) (
  .ret (.bool false))) (
 .call F.typetree_Same [(sb 5 6 x0), (.agg [(i 0), (i 0), (.str ⟨#[]⟩), (i 0), (.sl []), (.sl [])])] fun x1 =>
 .ret x1)
theorem k_proctree_typed : TxOk P F.proctree_typed 2 t_proctree_typed := txOk_of (H := {}) (plans := []) hm Tryz.func98 rfl rfl fun xs => by kernel_rfl
def t_proctree_distinct (xs : List PV) : T PV :=
.l .len [(n xs 0)] fun x0 =>
.loop [(i 0)] fun y1 =>
.l (.cmp .lss .i64) [(n y1 0), x0] fun x2 =>
.ite x2 (
 .l (.idx 1 false) [(n xs 0), (n y1 0)] fun x3 =>
 .call F.lex_Name [x3] fun x4 =>
 .l .bnot [x4] fun x5 =>
 .ite x5 (
  .ret (.bool false)) (
  .l (.slcT 1 false) [(n xs 0), (n y1 0)] fun x6 =>
  .call F.slices_Contains_string_string [x6, x3] fun x7 =>
  .ite x7 (
   .ret (.bool false)) (
   .l (.arith .add .i64) [(n y1 0), (i 1)] fun x8 =>
   .cont 0 [x8]))) (
 .ret (.bool true))
theorem k_proctree_distinct : TxOk P F.proctree_distinct 1 t_proctree_distinct := txOk_of (H := {}) (plans := []) hm Tryz.func99 rfl rfl fun xs => by kernel_rfl
def t_proctree_shape_1 (xs : List PV) : T PV :=
.l (.okc 3 true) [(n xs 0)] fun x0 =>
.call F.proctree_value [x0] fun x1 =>
.l .bnot [x1] fun x2 =>
.ret x2
theorem k_proctree_shape_1 : TxOk P F.proctree_shape_1 1 t_proctree_shape_1 := txOk_of (H := {}) (plans := []) hm Tryz.func100 rfl rfl fun xs => by kernel_rfl
def t_proctree_value (xs : List PV) : T PV :=
.l (.okc 3 true) [(n xs 0)] fun x0 =>
.l (.cmp .eql .i64) [(c 0 x0), (i 1)] fun x1 =>
.ite x1 (
 .call F.lex_Name [(c 1 x0)] fun x2 =>
 .ite x2 (
  .l (.cmp .eql .i64) [(c 2 x0), (i 0)] fun x3 =>
  .ret x3) (
  .ret (.bool false))) (
 .l (.cmp .eql .i64) [(c 0 x0), (i 2)] fun x2 =>
 .ite x2 (
  .l (.scmp .eql) [(c 1 x0), (.str ⟨#[]⟩)] fun x3 =>
  .ret x3) (
  .l (.cmp .eql .i64) [(c 0 x0), (i 3)] fun x3 =>
  .ite x3 (
   .l (.scmp .eql) [(c 1 x0), (.str ⟨#[]⟩)] fun x4 =>
   .ite x4 (
    .l (.cmp .eql .i64) [(c 2 x0), (i 0)] fun x5 =>
    .ite x5 (
     .ret (.bool true)) (
     .l (.cmp .eql .i64) [(c 2 x0), (i 1)] fun x6 =>
     .ret x6)) (
    .ret (.bool false))) (
   .ret (.bool false))))
theorem k_proctree_value : TxOk P F.proctree_value 1 t_proctree_value := txOk_of (H := {}) (plans := []) hm Tryz.func101 rfl rfl fun xs => by kernel_rfl
def t_slices_Contains_string_string (xs : List PV) : T PV :=
.call F.slices_Index_string_string [(n xs 0), (n xs 1)] fun x0 =>
.l (.cmp .geq .i64) [x0, (i 0)] fun x1 =>
.ret x1
theorem k_slices_Contains_string_string : TxOk P F.slices_Contains_string_string 2 t_slices_Contains_string_string := txOk_of (H := {}) (plans := []) hm Tryz.func102 rfl rfl fun xs => by kernel_rfl
def t_slices_ContainsFunc_api_Type_api_Type (xs : List PV) : T PV :=
.call F.slices_IndexFunc_api_Type_api_Type [(n xs 0), (n xs 1)] fun x0 =>
.l (.cmp .geq .i64) [x0, (i 0)] fun x1 =>
.ret x1
theorem k_slices_ContainsFunc_api_Type_api_Type : TxOk P F.slices_ContainsFunc_api_Type_api_Type 2 t_slices_ContainsFunc_api_Type_api_Type := txOk_of (H := {}) (plans := []) hm Tryz.func103 rfl rfl fun xs => by kernel_rfl
def t_typetree_shallow_1 (xs : List PV) : T PV :=
.l (.okc 6 true) [(n xs 0)] fun x0 =>
.l (.unbox 1 false) [(n xs 1)] fun x1 =>
.l (.arith .sub .i64) [x1, (i 1)] fun x2 =>
.call F.typetree_shallow [x0, x2] fun x3 =>
.l .bnot [x3] fun x4 =>
.ret x4
theorem k_typetree_shallow_1 : TxOk P F.typetree_shallow_1 2 t_typetree_shallow_1 := txOk_of (H := {}) (plans := []) hm Tryz.func104 rfl rfl fun xs => by kernel_rfl
def t_typetree_fields (xs : List PV) : T PV :=
.l (.okc 6 true) [(n xs 0)] fun x0 =>
.call F.typetree_rules [] fun x1 =>
.l (.mget2 false [.i .i64] (.agg [(.bool false), (.bool false), (.bool false), (.bool false), (i 0)])) [x1, (c 0 x0)] fun x2 =>
.l (.tc 0) [x2] fun x3 =>
.l (.tc 1) [x2] fun x4 =>
.l (.okc 5 true) [x3] fun x5 =>
.l (.cmp .lss .i64) [(c 4 x5), (i 0)] fun x6 =>
.ite x6 (
 .l .len [(c 4 x0)] fun x7 =>
 .l (.mx .i64) [(i 1), x7] fun x8 =>
 .l .bnot [x4] fun x9 =>
 .ite x9 (
  .ret (.bool false)) (
  .l .len [(c 5 x0)] fun x10 =>
  .l (.cmp .neq .i64) [x10, x8] fun x11 =>
  .ite x11 (
   .ret (.bool false)) (
   .call F.typetree_within [(c 1 x0), (c 0 x5)] fun x12 =>
   .l .bnot [x12] fun x13 =>
   .ite x13 (
    .ret (.bool false)) (
    .call F.typetree_within [(c 3 x0), (c 2 x5)] fun x14 =>
    .l .bnot [x14] fun x15 =>
    .ite x15 (
     .ret (.bool false)) (
     .call F.lex_Name [(c 2 x0)] fun x16 =>
     .l (.bcmp .neq) [(c 1 x5), x16] fun x17 =>
     .ite x17 (
      .ret (.bool false)) (
      .l .bnot [(c 1 x5)] fun x18 =>
      .ite x18 (
       .l (.scmp .neq) [(c 2 x0), (.str ⟨#[]⟩)] fun x19 =>
       .ite x19 (
        .ret (.bool false)) (
        .l .len [(c 4 x0)] fun x20 =>
        .l (.cmp .gtr .i64) [x20, (i 0)] fun x21 =>
        .l (.bcmp .eql) [(c 3 x5), x21] fun x22 =>
        .ite x22 (
         .call F.typetree_distinct [(c 4 x0)] fun x23 =>
         .ret x23) (
         .ret (.bool false)))) (
       .l .len [(c 4 x0)] fun x19 =>
       .l (.cmp .gtr .i64) [x19, (i 0)] fun x20 =>
       .l (.bcmp .eql) [(c 3 x5), x20] fun x21 =>
       .ite x21 (
        .call F.typetree_distinct [(c 4 x0)] fun x22 =>
        .ret x22) (
        .ret (.bool false))))))))) (
 .l .bnot [x4] fun x7 =>
 .ite x7 (
  .ret (.bool false)) (
  .l .len [(c 5 x0)] fun x8 =>
  .l (.cmp .neq .i64) [x8, (c 4 x5)] fun x9 =>
  .ite x9 (
   .ret (.bool false)) (
   .call F.typetree_within [(c 1 x0), (c 0 x5)] fun x10 =>
   .l .bnot [x10] fun x11 =>
   .ite x11 (
    .ret (.bool false)) (
    .call F.typetree_within [(c 3 x0), (c 2 x5)] fun x12 =>
    .l .bnot [x12] fun x13 =>
    .ite x13 (
     .ret (.bool false)) (
     .call F.lex_Name [(c 2 x0)] fun x14 =>
     .l (.bcmp .neq) [(c 1 x5), x14] fun x15 =>
     .ite x15 (
      .ret (.bool false)) (
      .l .bnot [(c 1 x5)] fun x16 =>
      .ite x16 (
       .l (.scmp .neq) [(c 2 x0), (.str ⟨#[]⟩)] fun x17 =>
       .ite x17 (
        .ret (.bool false)) (
        .l .len [(c 4 x0)] fun x18 =>
        .l (.cmp .gtr .i64) [x18, (i 0)] fun x19 =>
        .l (.bcmp .eql) [(c 3 x5), x19] fun x20 =>
        .ite x20 (
         .call F.typetree_distinct [(c 4 x0)] fun x21 =>
         .ret x21) (
         .ret (.bool false)))) (
       .l .len [(c 4 x0)] fun x17 =>
       .l (.cmp .gtr .i64) [x17, (i 0)] fun x18 =>
       .l (.bcmp .eql) [(c 3 x5), x18] fun x19 =>
       .ite x19 (
        .call F.typetree_distinct [(c 4 x0)] fun x20 =>
        .ret x20) (
        .ret (.bool false)))))))))
theorem k_typetree_fields : TxOk P F.typetree_fields 1 t_typetree_fields := txOk_of (H := {}) (plans := []) hm Tryz.func105 rfl rfl fun xs => by kernel_rfl
def t_typetree_Session (xs : List PV) : T PV :=
.l (.okc 6 true) [(n xs 0)] fun x0 =>
.l (.cmp .neq .i64) [(c 0 x0), (i 1)] fun x1 =>
.ite x1 (
 .l (.cmp .neq .i64) [(c 0 x0), (i 2)] fun x2 =>
 .ret x2) (
 .ret (.bool false))
theorem k_typetree_Session : TxOk P F.typetree_Session 1 t_typetree_Session := txOk_of (H := {}) (plans := []) hm Tryz.func106 rfl rfl fun xs => by kernel_rfl
def t_typetree_find (xs : List PV) : T PV :=
.l (.okc 1 false) [(n xs 1)] fun x0 =>
.call F.slices_Backward_typetree_bound_typetree_bound [(n xs 0)] fun x1 =>
.iter x1 2 [] (fun e2 y2 =>
 .l (.okc 2 true) [(n e2 1)] fun x3 =>
 .l (.scmp .eql) [(c 0 x3), x0] fun x4 =>
 .ite x4 (
  .l (.okc 2 true) [x3] fun x5 =>
  .fail) (
  .cont 0 [])) (fun e2 y2 =>
 .l (.okc 2 true) [(n e2 1)] fun x3 =>
 .l (.scmp .eql) [(c 0 x3), x0] fun x4 =>
 .ite x4 (
  .l (.okc 2 true) [x3] fun x5 =>
  .ret (.tup [x5, (.bool true)])) (
  .fail)) fun y2 =>
.ret (.tup [(.agg [(.str ⟨#[]⟩), (.bool false)]), (.bool false)])
theorem k_typetree_find : TxOk P F.typetree_find 2 t_typetree_find := txOk_of (H := {}) (plans := []) hm Tryz.func107 rfl rfl fun xs => by kernel_rfl
def t_slices_Clone_typetree_bound_typetree_bound (xs : List PV) : T PV :=
.nilq (n xs 0) (
 .ret (.sl [])) (
 .l (.lst 2 true) [] fun x0 =>
 .l (.app 2 true 24) [x0, (n xs 0)] fun x1 =>
 .ret x1)
theorem k_slices_Clone_typetree_bound_typetree_bound : TxOk P F.slices_Clone_typetree_bound_typetree_bound 1 t_slices_Clone_typetree_bound_typetree_bound := txOk_of (H := { wr := [0, 1, 2, 3, 4, 5, 6, 7, 8, 9, 10, 11, 12, 13, 14, 15, 16, 17, 18, 19, 20, 21, 22, 23, 24, 25, 26, 27, 28, 29, 30, 31, 32, 33, 34, 35, 36, 37, 38, 39], ro := [], nl := [], fz := [], da := [], sigs := [] }) (plans := []) hm Tryz.func108 rfl rfl fun xs => by kernel_rfl
def u_slices_Clone_typetree_bound_typetree_bound (xs : List PV) : T PV :=
.nilq (n xs 0) (
 .ret (.tup [(.sl [])])) (
 .l (.lst 2 true) [] fun x0 =>
 .l (.app 2 true 24) [x0, (n xs 0)] fun x1 =>
 .ret (.tup [x1]))
theorem m_slices_Clone_typetree_bound_typetree_bound : TxOkS P F.slices_Clone_typetree_bound_typetree_bound sg_slices_Clone_typetree_bound_typetree_bound u_slices_Clone_typetree_bound_typetree_bound := txOkS_of (H := { wr := [0, 1, 2, 3, 4, 5, 6, 7, 8, 9, 10, 11, 12, 13, 14, 15, 16, 17, 18, 19, 20, 21, 22, 23, 24, 25, 26, 27, 28, 29, 30, 31, 32, 33, 34, 35, 36, 37, 38, 39], ro := [], nl := [], fz := [], da := [], sigs := [] }) (plans := []) hm Tryz.func108 rfl fun xs => by kernel_rfl
-- NOT TOLD: 109 slices.insertionSortOrdered[string]: 1
def u_slices_insertionSortOrdered_string (xs : List PV) : T PV :=
.l (.arith .add .i64) [(n xs 0), (i 1)] fun x0 =>
.loop [x0, (n xs 2)] fun y1 =>
.l (.cmp .lss .i64) [(n y1 0), (n xs 1)] fun x2 =>
.ite x2 (
 .loop [(n y1 0), (n y1 1)] fun y3 =>
 .l (.cmp .gtr .i64) [(n y3 0), (n xs 0)] fun x4 =>
 .ite x4 (
  .l (.idx 1 false) [(n y3 1), (n y3 0)] fun x5 =>
  .l (.idx 1 false) [(n y3 1), (n y3 0)] fun x6 =>
  .l (.arith .sub .i64) [(n y3 0), (i 1)] fun x7 =>
  .l (.idx 1 false) [(n y3 1), x7] fun x8 =>
  .l (.idx 1 false) [(n y3 1), x7] fun x9 =>
  .call F.cmp_Less_string [x6, x9] fun x10 =>
  .ite x10 (
   .l (.arith .sub .i64) [(n y3 0), (i 1)] fun x11 =>
   .l (.arith .sub .i64) [(n y3 0), (i 1)] fun x12 =>
   .l (.idx 1 false) [(n y3 1), x12] fun x13 =>
   .l (.idx 1 false) [(n y3 1), x12] fun x14 =>
   .l (.idx 1 false) [(n y3 1), (n y3 0)] fun x15 =>
   .l (.idx 1 false) [(n y3 1), (n y3 0)] fun x16 =>
   .l (.idx 1 false) [(n y3 1), (n y3 0)] fun x17 =>
   .l (.upd 1 false) [(n y3 1), (n y3 0), x14] fun x18 =>
   .l (.idx 1 false) [x18, x11] fun x19 =>
   .l (.upd 1 false) [x18, x11, x16] fun x20 =>
   .l (.arith .sub .i64) [(n y3 0), (i 1)] fun x21 =>
   .cont 1 [x21, x20]) (
   .l (.arith .add .i64) [(n y1 0), (i 1)] fun x11 =>
   .cont 0 [x11, (n y3 1)])) (
  .l (.arith .add .i64) [(n y1 0), (i 1)] fun x5 =>
  .cont 0 [x5, (n y3 1)])) (
 .ret (.tup [(.tup []), (n y1 1)]))
theorem m_slices_insertionSortOrdered_string : TxOkS P F.slices_insertionSortOrdered_string sg_slices_insertionSortOrdered_string u_slices_insertionSortOrdered_string := txOkS_of (H := { wr := [], ro := [], nl := [], fz := [], da := [], sigs := [(54, sg_slices_Sort_string_string), (79, sg_slices_pdqsortOrdered_string_Nil), (109, sg_slices_insertionSortOrdered_string)] }) (plans := []) hm Tryz.func109 rfl fun xs => by kernel_rfl
-- NOT TOLD: 110 slices.heapSortOrdered[string]: 1
-- NOT TOLD: 111 slices.breakPatternsOrdered[string]: 2
def t_slices_choosePivotOrdered_string (xs : List PV) : T PV :=
.l (.arith .sub .i64) [(n xs 2), (n xs 1)] fun x0 =>
.l (.arith .quo .i64) [x0, (i 4)] fun x1 =>
.l (.arith .mul .i64) [x1, (i 1)] fun x2 =>
.l (.arith .add .i64) [(n xs 1), x2] fun x3 =>
.l (.arith .quo .i64) [x0, (i 4)] fun x4 =>
.l (.arith .mul .i64) [x4, (i 2)] fun x5 =>
.l (.arith .add .i64) [(n xs 1), x5] fun x6 =>
.l (.arith .quo .i64) [x0, (i 4)] fun x7 =>
.l (.arith .mul .i64) [x7, (i 3)] fun x8 =>
.l (.arith .add .i64) [(n xs 1), x8] fun x9 =>
.l (.cmp .geq .i64) [x0, (i 8)] fun x10 =>
.ite x10 (
 .l (.cmp .geq .i64) [x0, (i 50)] fun x11 =>
 .ite x11 (
  .call F.slices_medianAdjacentOrdered_string [(n xs 0), x3, (.box (i 0))] fun x12 =>
  .call F.slices_medianAdjacentOrdered_string [(n xs 0), x6, (.box (i 0))] fun x13 =>
  .call F.slices_medianAdjacentOrdered_string [(n xs 0), x9, (.box (i 0))] fun x14 =>
  .call F.slices_medianOrdered_string [(n xs 0), x12, x13, x14, (.box (i 0))] fun x15 =>
  .l (.cmp .eql .i64) [(i 0), (i 0)] fun x16 =>
  .ite x16 (
   .ret (.tup [x15, (i 1)])) (
   .l (.cmp .eql .i64) [(i 0), (i 12)] fun x17 =>
   .ite x17 (
    .ret (.tup [x15, (i 2)])) (
    .ret (.tup [x15, (i 0)])))) (
  .call F.slices_medianOrdered_string [(n xs 0), x3, x6, x9, (.box (i 0))] fun x12 =>
  .l (.cmp .eql .i64) [(i 0), (i 0)] fun x13 =>
  .ite x13 (
   .ret (.tup [x12, (i 1)])) (
   .l (.cmp .eql .i64) [(i 0), (i 12)] fun x14 =>
   .ite x14 (
    .ret (.tup [x12, (i 2)])) (
    .ret (.tup [x12, (i 0)]))))) (
 .l (.cmp .eql .i64) [(i 0), (i 0)] fun x11 =>
 .ite x11 (
  .ret (.tup [x6, (i 1)])) (
  .l (.cmp .eql .i64) [(i 0), (i 12)] fun x12 =>
  .ite x12 (
   .ret (.tup [x6, (i 2)])) (
   .ret (.tup [x6, (i 0)]))))
theorem k_slices_choosePivotOrdered_string : TxOk P F.slices_choosePivotOrdered_string 3 t_slices_choosePivotOrdered_string := txOk_of (H := {}) (plans := []) hm Tryz.func112 rfl rfl fun xs => by kernel_rfl
-- NOT TOLD: 113 slices.reverseRangeOrdered[string]: 1
-- NOT TOLD: 114 slices.partialInsertionSortOrdered[string]: 2
def t_cmp_Less_string (xs : List PV) : T PV :=
.call F.cmp_isNaN_string [(n xs 0)] fun x0 =>
.ite x0 (
 .call F.cmp_isNaN_string [(n xs 1)] fun x1 =>
 .l .bnot [x1] fun x2 =>
 .ite x2 (
  .ret (.bool true)) (
  .l (.scmp .lss) [(n xs 0), (n xs 1)] fun x3 =>
  .ret x3)) (
 .l (.scmp .lss) [(n xs 0), (n xs 1)] fun x1 =>
 .ret x1)
theorem k_cmp_Less_string : TxOk P F.cmp_Less_string 2 t_cmp_Less_string := txOk_of (H := {}) (plans := []) hm Tryz.func115 rfl rfl fun xs => by kernel_rfl
-- NOT TOLD: 116 slices.partitionEqualOrdered[string]: 1
-- NOT TOLD: 117 slices.partitionOrdered[string]: 1
def t_math_bits_Len32 (xs : List PV) : T PV :=
.l (.cmp .geq .u32) [(n xs 0), (.int .u32 (65536))] fun x0 =>
.ite x0 (
 .l (.arith .shr .u32) [(n xs 0), (.int .u64 (16))] fun x1 =>
 .l (.cmp .geq .u32) [x1, (.int .u32 (256))] fun x2 =>
 .ite x2 (
  .l (.arith .shr .u32) [x1, (.int .u64 (8))] fun x3 =>
  .l (.arith .add .i64) [(i 16), (i 8)] fun x4 =>
  .l (.conv .u8) [x3] fun x5 =>
  .l .sidx [(.str ⟨#[0, 1, 2, 2, 3, 3, 3, 3, 4, 4, 4, 4, 4, 4, 4, 4, 5, 5, 5, 5, 5, 5, 5, 5, 5, 5, 5, 5, 5, 5, 5, 5, 6, 6, 6, 6, 6, 6, 6, 6, 6, 6, 6, 6, 6, 6, 6, 6, 6, 6, 6, 6, 6, 6, 6, 6, 6, 6, 6, 6, 6, 6, 6, 6, 7, 7, 7, 7, 7, 7, 7, 7, 7, 7, 7, 7, 7, 7, 7, 7, 7, 7, 7, 7, 7, 7, 7, 7, 7, 7, 7, 7, 7, 7, 7, 7, 7, 7, 7, 7, 7, 7, 7, 7, 7, 7, 7, 7, 7, 7, 7, 7, 7, 7, 7, 7, 7, 7, 7, 7, 7, 7, 7, 7, 7, 7, 7, 7, 8, 8, 8, 8, 8, 8, 8, 8, 8, 8, 8, 8, 8, 8, 8, 8, 8, 8, 8, 8, 8, 8, 8, 8, 8, 8, 8, 8, 8, 8, 8, 8, 8, 8, 8, 8, 8, 8, 8, 8, 8, 8, 8, 8, 8, 8, 8, 8, 8, 8, 8, 8, 8, 8, 8, 8, 8, 8, 8, 8, 8, 8, 8, 8, 8, 8, 8, 8, 8, 8, 8, 8, 8, 8, 8, 8, 8, 8, 8, 8, 8, 8, 8, 8, 8, 8, 8, 8, 8, 8, 8, 8, 8, 8, 8, 8, 8, 8, 8, 8, 8, 8, 8, 8, 8, 8, 8, 8, 8, 8, 8, 8, 8, 8, 8, 8, 8, 8, 8, 8, 8, 8, 8, 8, 8, 8, 8, 8]⟩), x5] fun x6 =>
  .l (.conv .i64) [x6] fun x7 =>
  .l (.arith .add .i64) [x4, x7] fun x8 =>
  .ret x8) (
  .l (.conv .u8) [x1] fun x3 =>
  .l .sidx [(.str ⟨#[0, 1, 2, 2, 3, 3, 3, 3, 4, 4, 4, 4, 4, 4, 4, 4, 5, 5, 5, 5, 5, 5, 5, 5, 5, 5, 5, 5, 5, 5, 5, 5, 6, 6, 6, 6, 6, 6, 6, 6, 6, 6, 6, 6, 6, 6, 6, 6, 6, 6, 6, 6, 6, 6, 6, 6, 6, 6, 6, 6, 6, 6, 6, 6, 7, 7, 7, 7, 7, 7, 7, 7, 7, 7, 7, 7, 7, 7, 7, 7, 7, 7, 7, 7, 7, 7, 7, 7, 7, 7, 7, 7, 7, 7, 7, 7, 7, 7, 7, 7, 7, 7, 7, 7, 7, 7, 7, 7, 7, 7, 7, 7, 7, 7, 7, 7, 7, 7, 7, 7, 7, 7, 7, 7, 7, 7, 7, 7, 8, 8, 8, 8, 8, 8, 8, 8, 8, 8, 8, 8, 8, 8, 8, 8, 8, 8, 8, 8, 8, 8, 8, 8, 8, 8, 8, 8, 8, 8, 8, 8, 8, 8, 8, 8, 8, 8, 8, 8, 8, 8, 8, 8, 8, 8, 8, 8, 8, 8, 8, 8, 8, 8, 8, 8, 8, 8, 8, 8, 8, 8, 8, 8, 8, 8, 8, 8, 8, 8, 8, 8, 8, 8, 8, 8, 8, 8, 8, 8, 8, 8, 8, 8, 8, 8, 8, 8, 8, 8, 8, 8, 8, 8, 8, 8, 8, 8, 8, 8, 8, 8, 8, 8, 8, 8, 8, 8, 8, 8, 8, 8, 8, 8, 8, 8, 8, 8, 8, 8, 8, 8, 8, 8, 8, 8, 8, 8]⟩), x3] fun x4 =>
  .l (.conv .i64) [x4] fun x5 =>
  .l (.arith .add .i64) [(i 16), x5] fun x6 =>
  .ret x6)) (
 .l (.cmp .geq .u32) [(n xs 0), (.int .u32 (256))] fun x1 =>
 .ite x1 (
  .l (.arith .shr .u32) [(n xs 0), (.int .u64 (8))] fun x2 =>
  .l (.arith .add .i64) [(i 0), (i 8)] fun x3 =>
  .l (.conv .u8) [x2] fun x4 =>
  .l .sidx [(.str ⟨#[0, 1, 2, 2, 3, 3, 3, 3, 4, 4, 4, 4, 4, 4, 4, 4, 5, 5, 5, 5, 5, 5, 5, 5, 5, 5, 5, 5, 5, 5, 5, 5, 6, 6, 6, 6, 6, 6, 6, 6, 6, 6, 6, 6, 6, 6, 6, 6, 6, 6, 6, 6, 6, 6, 6, 6, 6, 6, 6, 6, 6, 6, 6, 6, 7, 7, 7, 7, 7, 7, 7, 7, 7, 7, 7, 7, 7, 7, 7, 7, 7, 7, 7, 7, 7, 7, 7, 7, 7, 7, 7, 7, 7, 7, 7, 7, 7, 7, 7, 7, 7, 7, 7, 7, 7, 7, 7, 7, 7, 7, 7, 7, 7, 7, 7, 7, 7, 7, 7, 7, 7, 7, 7, 7, 7, 7, 7, 7, 8, 8, 8, 8, 8, 8, 8, 8, 8, 8, 8, 8, 8, 8, 8, 8, 8, 8, 8, 8, 8, 8, 8, 8, 8, 8, 8, 8, 8, 8, 8, 8, 8, 8, 8, 8, 8, 8, 8, 8, 8, 8, 8, 8, 8, 8, 8, 8, 8, 8, 8, 8, 8, 8, 8, 8, 8, 8, 8, 8, 8, 8, 8, 8, 8, 8, 8, 8, 8, 8, 8, 8, 8, 8, 8, 8, 8, 8, 8, 8, 8, 8, 8, 8, 8, 8, 8, 8, 8, 8, 8, 8, 8, 8, 8, 8, 8, 8, 8, 8, 8, 8, 8, 8, 8, 8, 8, 8, 8, 8, 8, 8, 8, 8, 8, 8, 8, 8, 8, 8, 8, 8, 8, 8, 8, 8, 8, 8]⟩), x4] fun x5 =>
  .l (.conv .i64) [x5] fun x6 =>
  .l (.arith .add .i64) [x3, x6] fun x7 =>
  .ret x7) (
  .l (.conv .u8) [(n xs 0)] fun x2 =>
  .l .sidx [(.str ⟨#[0, 1, 2, 2, 3, 3, 3, 3, 4, 4, 4, 4, 4, 4, 4, 4, 5, 5, 5, 5, 5, 5, 5, 5, 5, 5, 5, 5, 5, 5, 5, 5, 6, 6, 6, 6, 6, 6, 6, 6, 6, 6, 6, 6, 6, 6, 6, 6, 6, 6, 6, 6, 6, 6, 6, 6, 6, 6, 6, 6, 6, 6, 6, 6, 7, 7, 7, 7, 7, 7, 7, 7, 7, 7, 7, 7, 7, 7, 7, 7, 7, 7, 7, 7, 7, 7, 7, 7, 7, 7, 7, 7, 7, 7, 7, 7, 7, 7, 7, 7, 7, 7, 7, 7, 7, 7, 7, 7, 7, 7, 7, 7, 7, 7, 7, 7, 7, 7, 7, 7, 7, 7, 7, 7, 7, 7, 7, 7, 8, 8, 8, 8, 8, 8, 8, 8, 8, 8, 8, 8, 8, 8, 8, 8, 8, 8, 8, 8, 8, 8, 8, 8, 8, 8, 8, 8, 8, 8, 8, 8, 8, 8, 8, 8, 8, 8, 8, 8, 8, 8, 8, 8, 8, 8, 8, 8, 8, 8, 8, 8, 8, 8, 8, 8, 8, 8, 8, 8, 8, 8, 8, 8, 8, 8, 8, 8, 8, 8, 8, 8, 8, 8, 8, 8, 8, 8, 8, 8, 8, 8, 8, 8, 8, 8, 8, 8, 8, 8, 8, 8, 8, 8, 8, 8, 8, 8, 8, 8, 8, 8, 8, 8, 8, 8, 8, 8, 8, 8, 8, 8, 8, 8, 8, 8, 8, 8, 8, 8, 8, 8, 8, 8, 8, 8, 8, 8]⟩), x2] fun x3 =>
  .l (.conv .i64) [x3] fun x4 =>
  .l (.arith .add .i64) [(i 0), x4] fun x5 =>
  .ret x5))
theorem k_math_bits_Len32 : TxOk P F.math_bits_Len32 1 t_math_bits_Len32 := txOk_of (H := {}) (plans := []) hm Tryz.func118 rfl rfl fun xs => by kernel_rfl
def t_math_bits_Len64 (xs : List PV) : T PV :=
.l (.cmp .geq .u64) [(n xs 0), (.int .u64 (4294967296))] fun x0 =>
.ite x0 (
 .l (.arith .shr .u64) [(n xs 0), (.int .u64 (32))] fun x1 =>
 .l (.cmp .geq .u64) [x1, (.int .u64 (65536))] fun x2 =>
 .ite x2 (
  .l (.arith .shr .u64) [x1, (.int .u64 (16))] fun x3 =>
  .l (.arith .add .i64) [(i 32), (i 16)] fun x4 =>
  .l (.cmp .geq .u64) [x3, (.int .u64 (256))] fun x5 =>
  .ite x5 (
   .l (.arith .shr .u64) [x3, (.int .u64 (8))] fun x6 =>
   .l (.arith .add .i64) [x4, (i 8)] fun x7 =>
   .l (.conv .u8) [x6] fun x8 =>
   .l .sidx [(.str ⟨#[0, 1, 2, 2, 3, 3, 3, 3, 4, 4, 4, 4, 4, 4, 4, 4, 5, 5, 5, 5, 5, 5, 5, 5, 5, 5, 5, 5, 5, 5, 5, 5, 6, 6, 6, 6, 6, 6, 6, 6, 6, 6, 6, 6, 6, 6, 6, 6, 6, 6, 6, 6, 6, 6, 6, 6, 6, 6, 6, 6, 6, 6, 6, 6, 7, 7, 7, 7, 7, 7, 7, 7, 7, 7, 7, 7, 7, 7, 7, 7, 7, 7, 7, 7, 7, 7, 7, 7, 7, 7, 7, 7, 7, 7, 7, 7, 7, 7, 7, 7, 7, 7, 7, 7, 7, 7, 7, 7, 7, 7, 7, 7, 7, 7, 7, 7, 7, 7, 7, 7, 7, 7, 7, 7, 7, 7, 7, 7, 8, 8, 8, 8, 8, 8, 8, 8, 8, 8, 8, 8, 8, 8, 8, 8, 8, 8, 8, 8, 8, 8, 8, 8, 8, 8, 8, 8, 8, 8, 8, 8, 8, 8, 8, 8, 8, 8, 8, 8, 8, 8, 8, 8, 8, 8, 8, 8, 8, 8, 8, 8, 8, 8, 8, 8, 8, 8, 8, 8, 8, 8, 8, 8, 8, 8, 8, 8, 8, 8, 8, 8, 8, 8, 8, 8, 8, 8, 8, 8, 8, 8, 8, 8, 8, 8, 8, 8, 8, 8, 8, 8, 8, 8, 8, 8, 8, 8, 8, 8, 8, 8, 8, 8, 8, 8, 8, 8, 8, 8, 8, 8, 8, 8, 8, 8, 8, 8, 8, 8, 8, 8, 8, 8, 8, 8, 8, 8]⟩), x8] fun x9 =>
   .l (.conv .i64) [x9] fun x10 =>
   .l (.arith .add .i64) [x7, x10] fun x11 =>
   .ret x11) (
   .l (.conv .u8) [x3] fun x6 =>
   .l .sidx [(.str ⟨#[0, 1, 2, 2, 3, 3, 3, 3, 4, 4, 4, 4, 4, 4, 4, 4, 5, 5, 5, 5, 5, 5, 5, 5, 5, 5, 5, 5, 5, 5, 5, 5, 6, 6, 6, 6, 6, 6, 6, 6, 6, 6, 6, 6, 6, 6, 6, 6, 6, 6, 6, 6, 6, 6, 6, 6, 6, 6, 6, 6, 6, 6, 6, 6, 7, 7, 7, 7, 7, 7, 7, 7, 7, 7, 7, 7, 7, 7, 7, 7, 7, 7, 7, 7, 7, 7, 7, 7, 7, 7, 7, 7, 7, 7, 7, 7, 7, 7, 7, 7, 7, 7, 7, 7, 7, 7, 7, 7, 7, 7, 7, 7, 7, 7, 7, 7, 7, 7, 7, 7, 7, 7, 7, 7, 7, 7, 7, 7, 8, 8, 8, 8, 8, 8, 8, 8, 8, 8, 8, 8, 8, 8, 8, 8, 8, 8, 8, 8, 8, 8, 8, 8, 8, 8, 8, 8, 8, 8, 8, 8, 8, 8, 8, 8, 8, 8, 8, 8, 8, 8, 8, 8, 8, 8, 8, 8, 8, 8, 8, 8, 8, 8, 8, 8, 8, 8, 8, 8, 8, 8, 8, 8, 8, 8, 8, 8, 8, 8, 8, 8, 8, 8, 8, 8, 8, 8, 8, 8, 8, 8, 8, 8, 8, 8, 8, 8, 8, 8, 8, 8, 8, 8, 8, 8, 8, 8, 8, 8, 8, 8, 8, 8, 8, 8, 8, 8, 8, 8, 8, 8, 8, 8, 8, 8, 8, 8, 8, 8, 8, 8, 8, 8, 8, 8, 8, 8]⟩), x6] fun x7 =>
   .l (.conv .i64) [x7] fun x8 =>
   .l (.arith .add .i64) [x4, x8] fun x9 =>
   .ret x9)) (
  .l (.cmp .geq .u64) [x1, (.int .u64 (256))] fun x3 =>
  .ite x3 (
   .l (.arith .shr .u64) [x1, (.int .u64 (8))] fun x4 =>
   .l (.arith .add .i64) [(i 32), (i 8)] fun x5 =>
   .l (.conv .u8) [x4] fun x6 =>
   .l .sidx [(.str ⟨#[0, 1, 2, 2, 3, 3, 3, 3, 4, 4, 4, 4, 4, 4, 4, 4, 5, 5, 5, 5, 5, 5, 5, 5, 5, 5, 5, 5, 5, 5, 5, 5, 6, 6, 6, 6, 6, 6, 6, 6, 6, 6, 6, 6, 6, 6, 6, 6, 6, 6, 6, 6, 6, 6, 6, 6, 6, 6, 6, 6, 6, 6, 6, 6, 7, 7, 7, 7, 7, 7, 7, 7, 7, 7, 7, 7, 7, 7, 7, 7, 7, 7, 7, 7, 7, 7, 7, 7, 7, 7, 7, 7, 7, 7, 7, 7, 7, 7, 7, 7, 7, 7, 7, 7, 7, 7, 7, 7, 7, 7, 7, 7, 7, 7, 7, 7, 7, 7, 7, 7, 7, 7, 7, 7, 7, 7, 7, 7, 8, 8, 8, 8, 8, 8, 8, 8, 8, 8, 8, 8, 8, 8, 8, 8, 8, 8, 8, 8, 8, 8, 8, 8, 8, 8, 8, 8, 8, 8, 8, 8, 8, 8, 8, 8, 8, 8, 8, 8, 8, 8, 8, 8, 8, 8, 8, 8, 8, 8, 8, 8, 8, 8, 8, 8, 8, 8, 8, 8, 8, 8, 8, 8, 8, 8, 8, 8, 8, 8, 8, 8, 8, 8, 8, 8, 8, 8, 8, 8, 8, 8, 8, 8, 8, 8, 8, 8, 8, 8, 8, 8, 8, 8, 8, 8, 8, 8, 8, 8, 8, 8, 8, 8, 8, 8, 8, 8, 8, 8, 8, 8, 8, 8, 8, 8, 8, 8, 8, 8, 8, 8, 8, 8, 8, 8, 8, 8]⟩), x6] fun x7 =>
   .l (.conv .i64) [x7] fun x8 =>
   .l (.arith .add .i64) [x5, x8] fun x9 =>
   .ret x9) (
   .l (.conv .u8) [x1] fun x4 =>
   .l .sidx [(.str ⟨#[0, 1, 2, 2, 3, 3, 3, 3, 4, 4, 4, 4, 4, 4, 4, 4, 5, 5, 5, 5, 5, 5, 5, 5, 5, 5, 5, 5, 5, 5, 5, 5, 6, 6, 6, 6, 6, 6, 6, 6, 6, 6, 6, 6, 6, 6, 6, 6, 6, 6, 6, 6, 6, 6, 6, 6, 6, 6, 6, 6, 6, 6, 6, 6, 7, 7, 7, 7, 7, 7, 7, 7, 7, 7, 7, 7, 7, 7, 7, 7, 7, 7, 7, 7, 7, 7, 7, 7, 7, 7, 7, 7, 7, 7, 7, 7, 7, 7, 7, 7, 7, 7, 7, 7, 7, 7, 7, 7, 7, 7, 7, 7, 7, 7, 7, 7, 7, 7, 7, 7, 7, 7, 7, 7, 7, 7, 7, 7, 8, 8, 8, 8, 8, 8, 8, 8, 8, 8, 8, 8, 8, 8, 8, 8, 8, 8, 8, 8, 8, 8, 8, 8, 8, 8, 8, 8, 8, 8, 8, 8, 8, 8, 8, 8, 8, 8, 8, 8, 8, 8, 8, 8, 8, 8, 8, 8, 8, 8, 8, 8, 8, 8, 8, 8, 8, 8, 8, 8, 8, 8, 8, 8, 8, 8, 8, 8, 8, 8, 8, 8, 8, 8, 8, 8, 8, 8, 8, 8, 8, 8, 8, 8, 8, 8, 8, 8, 8, 8, 8, 8, 8, 8, 8, 8, 8, 8, 8, 8, 8, 8, 8, 8, 8, 8, 8, 8, 8, 8, 8, 8, 8, 8, 8, 8, 8, 8, 8, 8, 8, 8, 8, 8, 8, 8, 8, 8]⟩), x4] fun x5 =>
   .l (.conv .i64) [x5] fun x6 =>
   .l (.arith .add .i64) [(i 32), x6] fun x7 =>
   .ret x7))) (
 .l (.cmp .geq .u64) [(n xs 0), (.int .u64 (65536))] fun x1 =>
 .ite x1 (
  .l (.arith .shr .u64) [(n xs 0), (.int .u64 (16))] fun x2 =>
  .l (.arith .add .i64) [(i 0), (i 16)] fun x3 =>
  .l (.cmp .geq .u64) [x2, (.int .u64 (256))] fun x4 =>
  .ite x4 (
   .l (.arith .shr .u64) [x2, (.int .u64 (8))] fun x5 =>
   .l (.arith .add .i64) [x3, (i 8)] fun x6 =>
   .l (.conv .u8) [x5] fun x7 =>
   .l .sidx [(.str ⟨#[0, 1, 2, 2, 3, 3, 3, 3, 4, 4, 4, 4, 4, 4, 4, 4, 5, 5, 5, 5, 5, 5, 5, 5, 5, 5, 5, 5, 5, 5, 5, 5, 6, 6, 6, 6, 6, 6, 6, 6, 6, 6, 6, 6, 6, 6, 6, 6, 6, 6, 6, 6, 6, 6, 6, 6, 6, 6, 6, 6, 6, 6, 6, 6, 7, 7, 7, 7, 7, 7, 7, 7, 7, 7, 7, 7, 7, 7, 7, 7, 7, 7, 7, 7, 7, 7, 7, 7, 7, 7, 7, 7, 7, 7, 7, 7, 7, 7, 7, 7, 7, 7, 7, 7, 7, 7, 7, 7, 7, 7, 7, 7, 7, 7, 7, 7, 7, 7, 7, 7, 7, 7, 7, 7, 7, 7, 7, 7, 8, 8, 8, 8, 8, 8, 8, 8, 8, 8, 8, 8, 8, 8, 8, 8, 8, 8, 8, 8, 8, 8, 8, 8, 8, 8, 8, 8, 8, 8, 8, 8, 8, 8, 8, 8, 8, 8, 8, 8, 8, 8, 8, 8, 8, 8, 8, 8, 8, 8, 8, 8, 8, 8, 8, 8, 8, 8, 8, 8, 8, 8, 8, 8, 8, 8, 8, 8, 8, 8, 8, 8, 8, 8, 8, 8, 8, 8, 8, 8, 8, 8, 8, 8, 8, 8, 8, 8, 8, 8, 8, 8, 8, 8, 8, 8, 8, 8, 8, 8, 8, 8, 8, 8, 8, 8, 8, 8, 8, 8, 8, 8, 8, 8, 8, 8, 8, 8, 8, 8, 8, 8, 8, 8, 8, 8, 8, 8]⟩), x7] fun x8 =>
   .l (.conv .i64) [x8] fun x9 =>
   .l (.arith .add .i64) [x6, x9] fun x10 =>
   .ret x10) (
   .l (.conv .u8) [x2] fun x5 =>
   .l .sidx [(.str ⟨#[0, 1, 2, 2, 3, 3, 3, 3, 4, 4, 4, 4, 4, 4, 4, 4, 5, 5, 5, 5, 5, 5, 5, 5, 5, 5, 5, 5, 5, 5, 5, 5, 6, 6, 6, 6, 6, 6, 6, 6, 6, 6, 6, 6, 6, 6, 6, 6, 6, 6, 6, 6, 6, 6, 6, 6, 6, 6, 6, 6, 6, 6, 6, 6, 7, 7, 7, 7, 7, 7, 7, 7, 7, 7, 7, 7, 7, 7, 7, 7, 7, 7, 7, 7, 7, 7, 7, 7, 7, 7, 7, 7, 7, 7, 7, 7, 7, 7, 7, 7, 7, 7, 7, 7, 7, 7, 7, 7, 7, 7, 7, 7, 7, 7, 7, 7, 7, 7, 7, 7, 7, 7, 7, 7, 7, 7, 7, 7, 8, 8, 8, 8, 8, 8, 8, 8, 8, 8, 8, 8, 8, 8, 8, 8, 8, 8, 8, 8, 8, 8, 8, 8, 8, 8, 8, 8, 8, 8, 8, 8, 8, 8, 8, 8, 8, 8, 8, 8, 8, 8, 8, 8, 8, 8, 8, 8, 8, 8, 8, 8, 8, 8, 8, 8, 8, 8, 8, 8, 8, 8, 8, 8, 8, 8, 8, 8, 8, 8, 8, 8, 8, 8, 8, 8, 8, 8, 8, 8, 8, 8, 8, 8, 8, 8, 8, 8, 8, 8, 8, 8, 8, 8, 8, 8, 8, 8, 8, 8, 8, 8, 8, 8, 8, 8, 8, 8, 8, 8, 8, 8, 8, 8, 8, 8, 8, 8, 8, 8, 8, 8, 8, 8, 8, 8, 8, 8]⟩), x5] fun x6 =>
   .l (.conv .i64) [x6] fun x7 =>
   .l (.arith .add .i64) [x3, x7] fun x8 =>
   .ret x8)) (
  .l (.cmp .geq .u64) [(n xs 0), (.int .u64 (256))] fun x2 =>
  .ite x2 (
   .l (.arith .shr .u64) [(n xs 0), (.int .u64 (8))] fun x3 =>
   .l (.arith .add .i64) [(i 0), (i 8)] fun x4 =>
   .l (.conv .u8) [x3] fun x5 =>
   .l .sidx [(.str ⟨#[0, 1, 2, 2, 3, 3, 3, 3, 4, 4, 4, 4, 4, 4, 4, 4, 5, 5, 5, 5, 5, 5, 5, 5, 5, 5, 5, 5, 5, 5, 5, 5, 6, 6, 6, 6, 6, 6, 6, 6, 6, 6, 6, 6, 6, 6, 6, 6, 6, 6, 6, 6, 6, 6, 6, 6, 6, 6, 6, 6, 6, 6, 6, 6, 7, 7, 7, 7, 7, 7, 7, 7, 7, 7, 7, 7, 7, 7, 7, 7, 7, 7, 7, 7, 7, 7, 7, 7, 7, 7, 7, 7, 7, 7, 7, 7, 7, 7, 7, 7, 7, 7, 7, 7, 7, 7, 7, 7, 7, 7, 7, 7, 7, 7, 7, 7, 7, 7, 7, 7, 7, 7, 7, 7, 7, 7, 7, 7, 8, 8, 8, 8, 8, 8, 8, 8, 8, 8, 8, 8, 8, 8, 8, 8, 8, 8, 8, 8, 8, 8, 8, 8, 8, 8, 8, 8, 8, 8, 8, 8, 8, 8, 8, 8, 8, 8, 8, 8, 8, 8, 8, 8, 8, 8, 8, 8, 8, 8, 8, 8, 8, 8, 8, 8, 8, 8, 8, 8, 8, 8, 8, 8, 8, 8, 8, 8, 8, 8, 8, 8, 8, 8, 8, 8, 8, 8, 8, 8, 8, 8, 8, 8, 8, 8, 8, 8, 8, 8, 8, 8, 8, 8, 8, 8, 8, 8, 8, 8, 8, 8, 8, 8, 8, 8, 8, 8, 8, 8, 8, 8, 8, 8, 8, 8, 8, 8, 8, 8, 8, 8, 8, 8, 8, 8, 8, 8]⟩), x5] fun x6 =>
   .l (.conv .i64) [x6] fun x7 =>
   .l (.arith .add .i64) [x4, x7] fun x8 =>
   .ret x8) (
   .l (.conv .u8) [(n xs 0)] fun x3 =>
   .l .sidx [(.str ⟨#[0, 1, 2, 2, 3, 3, 3, 3, 4, 4, 4, 4, 4, 4, 4, 4, 5, 5, 5, 5, 5, 5, 5, 5, 5, 5, 5, 5, 5, 5, 5, 5, 6, 6, 6, 6, 6, 6, 6, 6, 6, 6, 6, 6, 6, 6, 6, 6, 6, 6, 6, 6, 6, 6, 6, 6, 6, 6, 6, 6, 6, 6, 6, 6, 7, 7, 7, 7, 7, 7, 7, 7, 7, 7, 7, 7, 7, 7, 7, 7, 7, 7, 7, 7, 7, 7, 7, 7, 7, 7, 7, 7, 7, 7, 7, 7, 7, 7, 7, 7, 7, 7, 7, 7, 7, 7, 7, 7, 7, 7, 7, 7, 7, 7, 7, 7, 7, 7, 7, 7, 7, 7, 7, 7, 7, 7, 7, 7, 8, 8, 8, 8, 8, 8, 8, 8, 8, 8, 8, 8, 8, 8, 8, 8, 8, 8, 8, 8, 8, 8, 8, 8, 8, 8, 8, 8, 8, 8, 8, 8, 8, 8, 8, 8, 8, 8, 8, 8, 8, 8, 8, 8, 8, 8, 8, 8, 8, 8, 8, 8, 8, 8, 8, 8, 8, 8, 8, 8, 8, 8, 8, 8, 8, 8, 8, 8, 8, 8, 8, 8, 8, 8, 8, 8, 8, 8, 8, 8, 8, 8, 8, 8, 8, 8, 8, 8, 8, 8, 8, 8, 8, 8, 8, 8, 8, 8, 8, 8, 8, 8, 8, 8, 8, 8, 8, 8, 8, 8, 8, 8, 8, 8, 8, 8, 8, 8, 8, 8, 8, 8, 8, 8, 8, 8, 8, 8]⟩), x3] fun x4 =>
   .l (.conv .i64) [x4] fun x5 =>
   .l (.arith .add .i64) [(i 0), x5] fun x6 =>
   .ret x6)))
theorem k_math_bits_Len64 : TxOk P F.math_bits_Len64 1 t_math_bits_Len64 := txOk_of (H := {}) (plans := []) hm Tryz.func119 rfl rfl fun xs => by kernel_rfl
def t_slices_IndexFunc_api_Value_api_Value (xs : List PV) : T PV :=
.l .len [(n xs 0)] fun x0 =>
.loop [(i 0)] fun y1 =>
.l (.cmp .lss .i64) [(n y1 0), x0] fun x2 =>
.ite x2 (
 .l (.idx 3 true) [(n xs 0), (n y1 0)] fun x3 =>
 .callv (n xs 1) [x3] fun x4 =>
 .ite x4 (
  .ret (n y1 0)) (
  .l (.arith .add .i64) [(n y1 0), (i 1)] fun x5 =>
  .cont 0 [x5])) (
 .ret (i (-1)))
theorem k_slices_IndexFunc_api_Value_api_Value : TxOk P F.slices_IndexFunc_api_Value_api_Value 2 t_slices_IndexFunc_api_Value_api_Value := txOk_of (H := {}) (plans := []) hm Tryz.func120 rfl rfl fun xs => by kernel_rfl
def t_ref03_value (xs : List PV) : T PV :=
.l (.okc 3 true) [(n xs 0)] fun x0 =>
.l (.cmp .eql .i64) [(c 0 x0), (i 1)] fun x1 =>
.ite x1 (
 .call F.ref03_name [(c 1 x0)] fun x2 =>
 .ite x2 (
  .l (.cmp .eql .i64) [(c 2 x0), (i 0)] fun x3 =>
  .ite x3 (
   .ret (.bool true)) (
   .l (.cmp .eql .i64) [(c 0 x0), (i 2)] fun x4 =>
   .ite x4 (
    .l (.scmp .eql) [(c 1 x0), (.str ⟨#[]⟩)] fun x5 =>
    .ite x5 (
     .ret (.bool true)) (
     .l (.cmp .eql .i64) [(c 0 x0), (i 3)] fun x6 =>
     .ite x6 (
      .l (.scmp .eql) [(c 1 x0), (.str ⟨#[]⟩)] fun x7 =>
      .ite x7 (
       .l (.cmp .eql .i64) [(c 2 x0), (i 0)] fun x8 =>
       .ite x8 (
        .ret (.bool true)) (
        .l (.cmp .eql .i64) [(c 2 x0), (i 1)] fun x9 =>
        .ret x9)) (
       .ret (.bool false))) (
      .ret (.bool false)))) (
    .l (.cmp .eql .i64) [(c 0 x0), (i 3)] fun x5 =>
    .ite x5 (
     .l (.scmp .eql) [(c 1 x0), (.str ⟨#[]⟩)] fun x6 =>
     .ite x6 (
      .l (.cmp .eql .i64) [(c 2 x0), (i 0)] fun x7 =>
      .ite x7 (
       .ret (.bool true)) (
       .l (.cmp .eql .i64) [(c 2 x0), (i 1)] fun x8 =>
       .ret x8)) (
      .ret (.bool false))) (
     .ret (.bool false))))) (
  .l (.cmp .eql .i64) [(c 0 x0), (i 2)] fun x3 =>
  .ite x3 (
   .l (.scmp .eql) [(c 1 x0), (.str ⟨#[]⟩)] fun x4 =>
   .ite x4 (
    .ret (.bool true)) (
    .l (.cmp .eql .i64) [(c 0 x0), (i 3)] fun x5 =>
    .ite x5 (
     .l (.scmp .eql) [(c 1 x0), (.str ⟨#[]⟩)] fun x6 =>
     .ite x6 (
      .l (.cmp .eql .i64) [(c 2 x0), (i 0)] fun x7 =>
      .ite x7 (
       .ret (.bool true)) (
       .l (.cmp .eql .i64) [(c 2 x0), (i 1)] fun x8 =>
       .ret x8)) (
      .ret (.bool false))) (
     .ret (.bool false)))) (
   .l (.cmp .eql .i64) [(c 0 x0), (i 3)] fun x4 =>
   .ite x4 (
    .l (.scmp .eql) [(c 1 x0), (.str ⟨#[]⟩)] fun x5 =>
    .ite x5 (
     .l (.cmp .eql .i64) [(c 2 x0), (i 0)] fun x6 =>
     .ite x6 (
      .ret (.bool true)) (
      .l (.cmp .eql .i64) [(c 2 x0), (i 1)] fun x7 =>
      .ret x7)) (
     .ret (.bool false))) (
    .ret (.bool false))))) (
 .l (.cmp .eql .i64) [(c 0 x0), (i 2)] fun x2 =>
 .ite x2 (
  .l (.scmp .eql) [(c 1 x0), (.str ⟨#[]⟩)] fun x3 =>
  .ite x3 (
   .ret (.bool true)) (
   .l (.cmp .eql .i64) [(c 0 x0), (i 3)] fun x4 =>
   .ite x4 (
    .l (.scmp .eql) [(c 1 x0), (.str ⟨#[]⟩)] fun x5 =>
    .ite x5 (
     .l (.cmp .eql .i64) [(c 2 x0), (i 0)] fun x6 =>
     .ite x6 (
      .ret (.bool true)) (
      .l (.cmp .eql .i64) [(c 2 x0), (i 1)] fun x7 =>
      .ret x7)) (
     .ret (.bool false))) (
    .ret (.bool false)))) (
  .l (.cmp .eql .i64) [(c 0 x0), (i 3)] fun x3 =>
  .ite x3 (
   .l (.scmp .eql) [(c 1 x0), (.str ⟨#[]⟩)] fun x4 =>
   .ite x4 (
    .l (.cmp .eql .i64) [(c 2 x0), (i 0)] fun x5 =>
    .ite x5 (
     .ret (.bool true)) (
     .l (.cmp .eql .i64) [(c 2 x0), (i 1)] fun x6 =>
     .ret x6)) (
    .ret (.bool false))) (
   .ret (.bool false))))
theorem k_ref03_value : TxOk P F.ref03_value 1 t_ref03_value := txOk_of (H := {}) (plans := []) hm Tryz.func121 rfl rfl fun xs => by kernel_rfl
def t_ref03_plain (xs : List PV) : T PV :=
.l (.okc 12 true) [(n xs 0)] fun x0 =>
.call F.ref02_Same [(sb 5 6 x0), (.agg [(i 0), (i 0), (.str ⟨#[]⟩), (i 0), (.sl []), (.sl [])])] fun x1 =>
.ret x1
theorem k_ref03_plain : TxOk P F.ref03_plain 1 t_ref03_plain := txOk_of (H := {}) (plans := []) hm Tryz.func122 rfl rfl fun xs => by kernel_rfl
def t_ref02_Labels (xs : List PV) : T PV :=
.loop [(i 0)] fun y0 =>
.l .len [(n xs 0)] fun x1 =>
.l (.cmp .lss .i64) [(n y0 0), x1] fun x2 =>
.ite x2 (
 .l (.idx 1 false) [(n xs 0), (n y0 0)] fun x3 =>
 .call F.ref01_Name [x3] fun x4 =>
 .l .bnot [x4] fun x5 =>
 .ite x5 (
  .ret (.bool false)) (
  .l (.idx 1 false) [(n xs 0), (n y0 0)] fun x6 =>
  .l (.slcT 1 false) [(n xs 0), (n y0 0)] fun x7 =>
  .call F.ref02_in [x6, x7] fun x8 =>
  .ite x8 (
   .ret (.bool false)) (
   .l (.arith .add .i64) [(n y0 0), (i 1)] fun x9 =>
   .cont 0 [x9]))) (
 .ret (.bool true))
theorem k_ref02_Labels : TxOk P F.ref02_Labels 1 t_ref02_Labels := txOk_of (H := {}) (plans := []) hm Tryz.func123 rfl rfl fun xs => by kernel_rfl
def t_ref01_in (xs : List PV) : T PV :=
.loop [(i 0)] fun y0 =>
.l .slen [(n xs 1)] fun x1 =>
.l (.cmp .lss .i64) [(n y0 0), x1] fun x2 =>
.ite x2 (
 .l .sidx [(n xs 1), (n y0 0)] fun x3 =>
 .l (.cmp .eql .u8) [x3, (n xs 0)] fun x4 =>
 .ite x4 (
  .ret (.bool true)) (
  .l (.arith .add .i64) [(n y0 0), (i 1)] fun x5 =>
  .cont 0 [x5])) (
 .ret (.bool false))
theorem k_ref01_in : TxOk P F.ref01_in 2 t_ref01_in := txOk_of (H := {}) (plans := []) hm Tryz.func124 rfl rfl fun xs => by kernel_rfl
def t_ref01_Letters (xs : List PV) : T PV :=
.ret (.str ⟨#[65, 66, 67, 68, 69, 70, 71, 72, 73, 74, 75, 76, 77, 78, 79, 80, 81, 82, 83, 84, 85, 86, 87, 88, 89, 90, 97, 98, 99, 100, 101, 102, 103, 104, 105, 106, 107, 108, 109, 110, 111, 112, 113, 114, 115, 116, 117, 118, 119, 120, 121, 122, 95]⟩)
theorem k_ref01_Letters : TxOk P F.ref01_Letters 0 t_ref01_Letters := txOk_of (H := {}) (plans := []) hm Tryz.func125 rfl rfl fun xs => by kernel_rfl
def t_ref01_digits (xs : List PV) : T PV :=
.ret (.str ⟨#[48, 49, 50, 51, 52, 53, 54, 55, 56, 57]⟩)
theorem k_ref01_digits : TxOk P F.ref01_digits 0 t_ref01_digits := txOk_of (H := {}) (plans := []) hm Tryz.func126 rfl rfl fun xs => by kernel_rfl
def t_ref02_prio (xs : List PV) : T PV :=
.l (.cmp .geq .i64) [(n xs 0), (i 0)] fun x0 =>
.ite x0 (
 .l (.cmp .leq .i64) [(n xs 0), (i 1000000)] fun x1 =>
 .ret x1) (
 .ret (.bool false))
theorem k_ref02_prio : TxOk P F.ref02_prio 1 t_ref02_prio := txOk_of (H := {}) (plans := []) hm Tryz.func127 rfl rfl fun xs => by kernel_rfl
def t_typetree_nodes_1 (xs : List PV) : T PV :=
.l (.unbox 6 true) [(n xs 1)] fun x0 =>
.call F.typetree_visit [x0, (n xs 0)] fun x1 =>
.ret (.tup [])
theorem k_typetree_nodes_1 : TxOk P F.typetree_nodes_1 2 t_typetree_nodes_1 := txOk_of (H := {}) (plans := []) hm Tryz.func128 rfl rfl fun xs => by kernel_rfl
def v_typetree_nodes_1 (xs : List PV) : T PV :=
.l (.unbox 6 true) [(n xs 1)] fun x0 =>
.callx F.typetree_visit [(some x0), none] (n xs 2) fun x1 s1 =>
.ret (.tup [(.tup []), s1])
theorem x_typetree_nodes_1 (X : Xt) (hX : XtC P X) : @TxOkX { l := gl.l, x := X } P F.typetree_nodes_1 2 [0] v_typetree_nodes_1 := @txOkX_of { l := gl.l, x := X } P (@XC.mk P { l := gl.l, x := X } hX) {} [] _ _ _ _ _ hm Tryz.func128 rfl rfl fun xs => by kernel_rfl
def t_typetree_visit (xs : List PV) : T PV :=
.l (.okc 6 true) [(n xs 0)] fun x0 =>
.callv (n xs 1) [x0] fun x1 =>
.l .bnot [x1] fun x2 =>
.ite x2 (
 .ret (.bool false)) (
 .l .len [(c 5 x0)] fun x3 =>
 .loop [(i 0)] fun y4 =>
 .l (.cmp .lss .i64) [(n y4 0), x3] fun x5 =>
 .ite x5 (
  .l (.idx 6 true) [(c 5 x0), (n y4 0)] fun x6 =>
  .l (.okc 6 true) [x6] fun x7 =>
  .call F.typetree_visit [x7, (n xs 1)] fun x8 =>
  .l .bnot [x8] fun x9 =>
  .ite x9 (
   .ret (.bool false)) (
   .l (.arith .add .i64) [(n y4 0), (i 1)] fun x10 =>
   .cont 0 [x10])) (
  .ret (.bool true)))
theorem k_typetree_visit : TxOk P F.typetree_visit 2 t_typetree_visit := txOk_of (H := {}) (plans := []) hm Tryz.func129 rfl rfl fun xs => by kernel_rfl
def v_typetree_visit (xs : List PV) : T PV :=
.l (.okc 6 true) [(n xs 0)] fun x0 =>
.yld [x0] (n xs 2) fun x1 s1 =>
.l .bnot [x1] fun x2 =>
.ite x2 (
 .ret (.tup [(.bool false), s1])) (
 .l .len [(c 5 x0)] fun x3 =>
 .loop [(i 0), s1] fun y4 =>
 .l (.cmp .lss .i64) [(n y4 0), x3] fun x5 =>
 .ite x5 (
  .l (.idx 6 true) [(c 5 x0), (n y4 0)] fun x6 =>
  .l (.okc 6 true) [x6] fun x7 =>
  .callx F.typetree_visit [(some x7), none] (n y4 1) fun x8 s8 =>
  .l .bnot [x8] fun x9 =>
  .ite x9 (
   .ret (.tup [(.bool false), s8])) (
   .l (.arith .add .i64) [(n y4 0), (i 1)] fun x10 =>
   .cont 0 [x10, s8])) (
  .ret (.tup [(.bool true), (n y4 1)])))
theorem x_typetree_visit (X : Xt) (hX : XtC P X) : @TxOkX { l := gl.l, x := X } P F.typetree_visit 2 [1] v_typetree_visit := @txOkX_of { l := gl.l, x := X } P (@XC.mk P { l := gl.l, x := X } hX) {} [] _ _ _ _ _ hm Tryz.func129 rfl rfl fun xs => by kernel_rfl
def t_slices_IndexFunc_api_Proc_api_Proc (xs : List PV) : T PV :=
.l .len [(n xs 0)] fun x0 =>
.loop [(i 0)] fun y1 =>
.l (.cmp .lss .i64) [(n y1 0), x0] fun x2 =>
.ite x2 (
 .l (.idx 12 true) [(n xs 0), (n y1 0)] fun x3 =>
 .callv (n xs 1) [x3] fun x4 =>
 .ite x4 (
  .ret (n y1 0)) (
  .l (.arith .add .i64) [(n y1 0), (i 1)] fun x5 =>
  .cont 0 [x5])) (
 .ret (i (-1)))
theorem k_slices_IndexFunc_api_Proc_api_Proc : TxOk P F.slices_IndexFunc_api_Proc_api_Proc 2 t_slices_IndexFunc_api_Proc_api_Proc := txOk_of (H := {}) (plans := []) hm Tryz.func130 rfl rfl fun xs => by kernel_rfl
def u_slices_IndexFunc_api_Proc_api_Proc_Wg (xs : List PV) : T PV :=
.l .len [(n xs 0)] fun x0 =>
.loop [(i 0), (n xs 1)] fun y1 =>
.l (.cmp .lss .i64) [(n y1 0), x0] fun x2 =>
.ite x2 (
 .l (.idx 12 true) [(n xs 0), (n y1 0)] fun x3 =>
 .calls F.proctree_all_1 sg_proctree_all_1_Wg [x3, (n y1 1)] fun z4 =>
 .ite (n z4 0) (
  .ret (.tup [(n y1 0), (n z4 1)])) (
  .l (.arith .add .i64) [(n y1 0), (i 1)] fun x5 =>
  .cont 0 [x5, (n z4 1)])) (
 .ret (.tup [(i (-1)), (n y1 1)]))
theorem m_slices_IndexFunc_api_Proc_api_Proc_Wg : TxOkS P F.slices_IndexFunc_api_Proc_api_Proc sg_slices_IndexFunc_api_Proc_api_Proc_Wg u_slices_IndexFunc_api_Proc_api_Proc_Wg := txOkS_of (H := { wr := [], ro := [], nl := [], fz := [], da := [], sigs := [(95, sg_proctree_all_1_Wg)] }) (plans := []) hm Tryz.func130 rfl fun xs => by kernel_rfl
def u_slices_IndexFunc_api_Proc_api_Proc_Fw (xs : List PV) : T PV :=
.l .len [(n xs 0)] fun x0 =>
.loop [(i 0), (n xs 1)] fun y1 =>
.l (.cmp .lss .i64) [(n y1 0), x0] fun x2 =>
.ite x2 (
 .l (.idx 12 true) [(n xs 0), (n y1 0)] fun x3 =>
 .calls F.proctree_all_1 sg_proctree_all_1_Fw [x3, (n y1 1)] fun z4 =>
 .ite (n z4 0) (
  .ret (.tup [(n y1 0), (n z4 1)])) (
  .l (.arith .add .i64) [(n y1 0), (i 1)] fun x5 =>
  .cont 0 [x5, (n z4 1)])) (
 .ret (.tup [(i (-1)), (n y1 1)]))
theorem m_slices_IndexFunc_api_Proc_api_Proc_Fw : TxOkS P F.slices_IndexFunc_api_Proc_api_Proc sg_slices_IndexFunc_api_Proc_api_Proc_Fw u_slices_IndexFunc_api_Proc_api_Proc_Fw := txOkS_of (H := { wr := [], ro := [], nl := [], fz := [], da := [], sigs := [(95, sg_proctree_all_1_Fw)] }) (plans := []) hm Tryz.func130 rfl fun xs => by kernel_rfl
def t_proctree_kidsOf (xs : List PV) : T PV :=
.l (.okc 1 false) [(n xs 0)] fun x0 =>
.ret (.fn F.proctree_kidsOf_1 [] [(.box x0)])
theorem k_proctree_kidsOf : TxOk P F.proctree_kidsOf 1 t_proctree_kidsOf := txOk_of (H := {}) (plans := []) hm Tryz.func131 rfl rfl fun xs => by kernel_rfl
def t_proctree_each (xs : List PV) : T PV :=
.l (.okc 12 true) [(n xs 0)] fun x0 =>
.l .len [(c 11 x0)] fun x1 =>
.l .len [(c 3 x0)] fun x2 =>
.l (.cmp .eql .i64) [x1, x2] fun x3 =>
.ite x3 (
 .l .len [(c 3 x0)] fun x4 =>
 .l (.cmp .gtr .i64) [x4, (i 0)] fun x5 =>
 .ret x5) (
 .ret (.bool false))
theorem k_proctree_each : TxOk P F.proctree_each 1 t_proctree_each := txOk_of (H := {}) (plans := []) hm Tryz.func132 rfl rfl fun xs => by kernel_rfl
def t_proctree_several (xs : List PV) : T PV :=
.l (.okc 12 true) [(n xs 0)] fun x0 =>
.l .len [(c 11 x0)] fun x1 =>
.l (.cmp .geq .i64) [x1, (i 2)] fun x2 =>
.ite x2 (
 .call F.slices_ContainsFunc_api_Proc_api_Proc [(c 11 x0), (.fn F.proctree_several_1 [] [])] fun x3 =>
 .l .bnot [x3] fun x4 =>
 .ret x4) (
 .ret (.bool false))
theorem k_proctree_several : TxOk P F.proctree_several 1 t_proctree_several := txOk_of (H := {}) (plans := []) hm Tryz.func133 rfl rfl fun xs => by kernel_rfl
def t_typetree_Same (xs : List PV) : T PV :=
.l (.okc 6 true) [(n xs 0)] fun x0 =>
.l (.okc 6 true) [(n xs 1)] fun x1 =>
.l (.cmp .eql .i64) [(c 0 x0), (c 0 x1)] fun x2 =>
.ite x2 (
 .l (.cmp .eql .i64) [(c 1 x0), (c 1 x1)] fun x3 =>
 .ite x3 (
  .l (.scmp .eql) [(c 2 x0), (c 2 x1)] fun x4 =>
  .ite x4 (
   .l (.cmp .eql .i64) [(c 3 x0), (c 3 x1)] fun x5 =>
   .ite x5 (
    .call F.slices_Equal_string_string [(c 4 x0), (c 4 x1)] fun x6 =>
    .ite x6 (
     .call F.slices_EqualFunc_api_Type_api_Type_api_Type_api_Type [(c 5 x0), (c 5 x1), (.fn F.typetree_Same [] [])] fun x7 =>
     .ret x7) (
     .ret (.bool false))) (
    .ret (.bool false))) (
   .ret (.bool false))) (
  .ret (.bool false))) (
 .ret (.bool false))
theorem k_typetree_Same : TxOk P F.typetree_Same 2 t_typetree_Same := txOk_of (H := {}) (plans := []) hm Tryz.func134 rfl rfl fun xs => by kernel_rfl
def t_slices_Index_string_string (xs : List PV) : T PV :=
.l .len [(n xs 0)] fun x0 =>
.loop [(i 0)] fun y1 =>
.l (.cmp .lss .i64) [(n y1 0), x0] fun x2 =>
.ite x2 (
 .l (.idx 1 false) [(n xs 0), (n y1 0)] fun x3 =>
 .l (.scmp .eql) [(n xs 1), x3] fun x4 =>
 .ite x4 (
  .ret (n y1 0)) (
  .l (.arith .add .i64) [(n y1 0), (i 1)] fun x5 =>
  .cont 0 [x5])) (
 .ret (i (-1)))
theorem k_slices_Index_string_string : TxOk P F.slices_Index_string_string 2 t_slices_Index_string_string := txOk_of (H := {}) (plans := []) hm Tryz.func135 rfl rfl fun xs => by kernel_rfl
def t_slices_IndexFunc_api_Type_api_Type (xs : List PV) : T PV :=
.l .len [(n xs 0)] fun x0 =>
.loop [(i 0)] fun y1 =>
.l (.cmp .lss .i64) [(n y1 0), x0] fun x2 =>
.ite x2 (
 .l (.idx 6 true) [(n xs 0), (n y1 0)] fun x3 =>
 .callv (n xs 1) [x3] fun x4 =>
 .ite x4 (
  .ret (n y1 0)) (
  .l (.arith .add .i64) [(n y1 0), (i 1)] fun x5 =>
  .cont 0 [x5])) (
 .ret (i (-1)))
theorem k_slices_IndexFunc_api_Type_api_Type : TxOk P F.slices_IndexFunc_api_Type_api_Type 2 t_slices_IndexFunc_api_Type_api_Type := txOk_of (H := {}) (plans := []) hm Tryz.func136 rfl rfl fun xs => by kernel_rfl
def t_typetree_rules (xs : List PV) : T PV :=
.l (.mset false [.i .i64]) [(.mp [] []), (i 1), (.agg [(.bool false), (.bool false), (.bool false), (.bool false), (i 0)])] fun x0 =>
.l (.mset false [.i .i64]) [x0, (i 2), (.agg [(.bool false), (.bool false), (.bool false), (.bool false), (i 0)])] fun x1 =>
.l (.mset false [.i .i64]) [x1, (i 3), (.agg [(.bool false), (.bool false), (.bool false), (.bool false), (i 0)])] fun x2 =>
.l (.mset false [.i .i64]) [x2, (i 4), (.agg [(.bool true), (.bool false), (.bool false), (.bool false), (i 2)])] fun x3 =>
.l (.mset false [.i .i64]) [x3, (i 5), (.agg [(.bool true), (.bool false), (.bool false), (.bool false), (i 2)])] fun x4 =>
.l (.mset false [.i .i64]) [x4, (i 6), (.agg [(.bool true), (.bool false), (.bool false), (.bool true), (i (-1))])] fun x5 =>
.l (.mset false [.i .i64]) [x5, (i 7), (.agg [(.bool true), (.bool false), (.bool false), (.bool true), (i (-1))])] fun x6 =>
.l (.mset false [.i .i64]) [x6, (i 8), (.agg [(.bool false), (.bool true), (.bool false), (.bool false), (i 1)])] fun x7 =>
.l (.mset false [.i .i64]) [x7, (i 9), (.agg [(.bool false), (.bool true), (.bool true), (.bool false), (i 0)])] fun x8 =>
.ret x8
theorem k_typetree_rules : TxOk P F.typetree_rules 0 t_typetree_rules := txOk_of (H := {}) (plans := []) hm Tryz.func137 rfl rfl fun xs => by kernel_rfl
def t_typetree_within (xs : List PV) : T PV :=
.l (.cmp .eql .i64) [(n xs 0), (i 0)] fun x0 =>
.ite x0 (
 .ret (.bool true)) (
 .ite (n xs 1) (
  .l (.cmp .gtr .i64) [(n xs 0), (i 0)] fun x1 =>
  .ite x1 (
   .l (.cmp .leq .i64) [(n xs 0), (i 1000000)] fun x2 =>
   .ret x2) (
   .ret (.bool false))) (
  .ret (.bool false)))
theorem k_typetree_within : TxOk P F.typetree_within 2 t_typetree_within := txOk_of (H := {}) (plans := []) hm Tryz.func138 rfl rfl fun xs => by kernel_rfl
def t_typetree_distinct (xs : List PV) : T PV :=
.l .len [(n xs 0)] fun x0 =>
.loop [(i 0), (.mp [] [])] fun y1 =>
.l (.cmp .lss .i64) [(n y1 0), x0] fun x2 =>
.ite x2 (
 .l (.idx 1 false) [(n xs 0), (n y1 0)] fun x3 =>
 .call F.lex_Name [x3] fun x4 =>
 .l .bnot [x4] fun x5 =>
 .ite x5 (
  .ret (.bool false)) (
  .l (.mget false [.s] (.bool false)) [(n y1 1), x3] fun x6 =>
  .ite x6 (
   .ret (.bool false)) (
   .l (.mset false [.s]) [(n y1 1), x3, (.bool true)] fun x7 =>
   .l (.arith .add .i64) [(n y1 0), (i 1)] fun x8 =>
   .cont 0 [x8, x7]))) (
 .ret (.bool true))
theorem k_typetree_distinct : TxOk P F.typetree_distinct 1 t_typetree_distinct := txOk_of (H := {}) (plans := []) hm Tryz.func139 rfl rfl fun xs => by kernel_rfl
def t_slices_Backward_typetree_bound_typetree_bound (xs : List PV) : T PV :=
.l (.okc 1 false) [(n xs 0)] fun x0 =>
.ret (.fn F.slices_Backward_typetree_bound_typetree_bound_1 [] [(.box x0)])
theorem k_slices_Backward_typetree_bound_typetree_bound : TxOk P F.slices_Backward_typetree_bound_typetree_bound 1 t_slices_Backward_typetree_bound_typetree_bound := txOk_of (H := {}) (plans := []) hm Tryz.func140 rfl rfl fun xs => by kernel_rfl
-- NOT TOLD: 141 slices.siftDownOrdered[string]: 3
def t_slices_nextPowerOfTwo (xs : List PV) : T PV :=
.l (.conv .u64) [(n xs 0)] fun x0 =>
.call F.math_bits_Len [x0] fun x1 =>
.l (.arith .shl .u64) [(.int .u64 (1)), x1] fun x2 =>
.ret x2
theorem k_slices_nextPowerOfTwo : TxOk P F.slices_nextPowerOfTwo 1 t_slices_nextPowerOfTwo := txOk_of (H := {}) (plans := []) hm Tryz.func142 rfl rfl fun xs => by kernel_rfl
-- NOT TOLD: 143 (*slices.xorshift).Next: 1
def t_slices_medianAdjacentOrdered_string (xs : List PV) : T PV :=
.l (.arith .sub .i64) [(n xs 1), (i 1)] fun x0 =>
.l (.arith .add .i64) [(n xs 1), (i 1)] fun x1 =>
.call F.slices_medianOrdered_string [(n xs 0), x0, (n xs 1), x1, (n xs 2)] fun x2 =>
.ret x2
theorem k_slices_medianAdjacentOrdered_string : TxOk P F.slices_medianAdjacentOrdered_string 3 t_slices_medianAdjacentOrdered_string := txOk_of (H := {}) (plans := []) hm Tryz.func144 rfl rfl fun xs => by kernel_rfl
def t_slices_medianOrdered_string (xs : List PV) : T PV :=
.call F.slices_order2Ordered_string [(n xs 0), (n xs 1), (n xs 2), (n xs 4)] fun x0 =>
.l (.tc 0) [x0] fun x1 =>
.l (.tc 1) [x0] fun x2 =>
.call F.slices_order2Ordered_string [(n xs 0), x2, (n xs 3), (n xs 4)] fun x3 =>
.l (.tc 0) [x3] fun x4 =>
.l (.tc 1) [x3] fun x5 =>
.call F.slices_order2Ordered_string [(n xs 0), x1, x4, (n xs 4)] fun x6 =>
.l (.tc 0) [x6] fun x7 =>
.l (.tc 1) [x6] fun x8 =>
.ret x8
theorem k_slices_medianOrdered_string : TxOk P F.slices_medianOrdered_string 5 t_slices_medianOrdered_string := txOk_of (H := {}) (plans := []) hm Tryz.func145 rfl rfl fun xs => by kernel_rfl
def t_cmp_isNaN_string (xs : List PV) : T PV :=
.l (.scmp .neq) [(n xs 0), (n xs 0)] fun x0 =>
.ret x0
theorem k_cmp_isNaN_string : TxOk P F.cmp_isNaN_string 1 t_cmp_isNaN_string := txOk_of (H := {}) (plans := []) hm Tryz.func146 rfl rfl fun xs => by kernel_rfl
def t_ref02_Same (xs : List PV) : T PV :=
.l (.okc 6 true) [(n xs 0)] fun x0 =>
.l (.okc 6 true) [(n xs 1)] fun x1 =>
.l (.cmp .neq .i64) [(c 0 x0), (c 0 x1)] fun x2 =>
.ite x2 (
 .ret (.bool false)) (
 .l (.cmp .neq .i64) [(c 1 x0), (c 1 x1)] fun x3 =>
 .ite x3 (
  .ret (.bool false)) (
  .l (.scmp .neq) [(c 2 x0), (c 2 x1)] fun x4 =>
  .ite x4 (
   .ret (.bool false)) (
   .l (.cmp .neq .i64) [(c 3 x0), (c 3 x1)] fun x5 =>
   .ite x5 (
    .ret (.bool false)) (
    .call F.ref02_texts [(c 4 x0), (c 4 x1)] fun x6 =>
    .l .bnot [x6] fun x7 =>
    .ite x7 (
     .ret (.bool false)) (
     .l .len [(c 5 x0)] fun x8 =>
     .l .len [(c 5 x1)] fun x9 =>
     .l (.cmp .neq .i64) [x8, x9] fun x10 =>
     .ite x10 (
      .ret (.bool false)) (
      .loop [(i 0)] fun y11 =>
      .l .len [(c 5 x0)] fun x12 =>
      .l (.cmp .lss .i64) [(n y11 0), x12] fun x13 =>
      .ite x13 (
       .l (.idx 6 true) [(c 5 x0), (n y11 0)] fun x14 =>
       .l (.idx 6 true) [(c 5 x1), (n y11 0)] fun x15 =>
       .call F.ref02_Same [x14, x15] fun x16 =>
       .l .bnot [x16] fun x17 =>
       .ite x17 (
        .ret (.bool false)) (
        .l (.arith .add .i64) [(n y11 0), (i 1)] fun x18 =>
        .cont 0 [x18])) (
       .ret (.bool true))))))))
theorem k_ref02_Same : TxOk P F.ref02_Same 2 t_ref02_Same := txOk_of (H := {}) (plans := []) hm Tryz.func147 rfl rfl fun xs => by kernel_rfl
def t_ref02_in (xs : List PV) : T PV :=
.loop [(i 0)] fun y0 =>
.l .len [(n xs 1)] fun x1 =>
.l (.cmp .lss .i64) [(n y0 0), x1] fun x2 =>
.ite x2 (
 .l (.idx 1 false) [(n xs 1), (n y0 0)] fun x3 =>
 .l (.scmp .eql) [x3, (n xs 0)] fun x4 =>
 .ite x4 (
  .ret (.bool true)) (
  .l (.arith .add .i64) [(n y0 0), (i 1)] fun x5 =>
  .cont 0 [x5])) (
 .ret (.bool false))
theorem k_ref02_in : TxOk P F.ref02_in 2 t_ref02_in := txOk_of (H := {}) (plans := []) hm Tryz.func148 rfl rfl fun xs => by kernel_rfl
def t_proctree_kidsOf_1 (xs : List PV) : T PV :=
.l (.okc 12 true) [(n xs 0)] fun x0 =>
.l .len [(c 11 x0)] fun x1 =>
.l (.unbox 1 false) [(n xs 1)] fun x2 =>
.l (.cmp .eql .i64) [x1, x2] fun x3 =>
.ret x3
theorem k_proctree_kidsOf_1 : TxOk P F.proctree_kidsOf_1 2 t_proctree_kidsOf_1 := txOk_of (H := {}) (plans := []) hm Tryz.func149 rfl rfl fun xs => by kernel_rfl
def t_proctree_several_1 (xs : List PV) : T PV :=
.l (.okc 12 true) [(n xs 0)] fun x0 =>
.l (.cmp .eql .i64) [(c 0 x0), (i 7)] fun x1 =>
.ret x1
theorem k_proctree_several_1 : TxOk P F.proctree_several_1 1 t_proctree_several_1 := txOk_of (H := {}) (plans := []) hm Tryz.func150 rfl rfl fun xs => by kernel_rfl
def t_slices_Equal_string_string (xs : List PV) : T PV :=
.l .len [(n xs 0)] fun x0 =>
.l .len [(n xs 1)] fun x1 =>
.l (.cmp .neq .i64) [x0, x1] fun x2 =>
.ite x2 (
 .ret (.bool false)) (
 .l .len [(n xs 0)] fun x3 =>
 .loop [(i 0)] fun y4 =>
 .l (.cmp .lss .i64) [(n y4 0), x3] fun x5 =>
 .ite x5 (
  .l (.idx 1 false) [(n xs 0), (n y4 0)] fun x6 =>
  .l (.idx 1 false) [(n xs 1), (n y4 0)] fun x7 =>
  .l (.scmp .neq) [x6, x7] fun x8 =>
  .ite x8 (
   .ret (.bool false)) (
   .l (.arith .add .i64) [(n y4 0), (i 1)] fun x9 =>
   .cont 0 [x9])) (
  .ret (.bool true)))
theorem k_slices_Equal_string_string : TxOk P F.slices_Equal_string_string 2 t_slices_Equal_string_string := txOk_of (H := {}) (plans := []) hm Tryz.func151 rfl rfl fun xs => by kernel_rfl
def t_slices_EqualFunc_api_Type_api_Type_api_Type_api_Type (xs : List PV) : T PV :=
.l .len [(n xs 0)] fun x0 =>
.l .len [(n xs 1)] fun x1 =>
.l (.cmp .neq .i64) [x0, x1] fun x2 =>
.ite x2 (
 .ret (.bool false)) (
 .l .len [(n xs 0)] fun x3 =>
 .loop [(i 0)] fun y4 =>
 .l (.cmp .lss .i64) [(n y4 0), x3] fun x5 =>
 .ite x5 (
  .l (.idx 6 true) [(n xs 0), (n y4 0)] fun x6 =>
  .l (.okc 6 true) [x6] fun x7 =>
  .l (.idx 6 true) [(n xs 1), (n y4 0)] fun x8 =>
  .l (.okc 6 true) [x8] fun x9 =>
  .callv (n xs 2) [x7, x9] fun x10 =>
  .l .bnot [x10] fun x11 =>
  .ite x11 (
   .ret (.bool false)) (
   .l (.arith .add .i64) [(n y4 0), (i 1)] fun x12 =>
   .cont 0 [x12])) (
  .ret (.bool true)))
theorem k_slices_EqualFunc_api_Type_api_Type_api_Type_api_Type : TxOk P F.slices_EqualFunc_api_Type_api_Type_api_Type_api_Type 3 t_slices_EqualFunc_api_Type_api_Type_api_Type_api_Type := txOk_of (H := {}) (plans := []) hm Tryz.func152 rfl rfl fun xs => by kernel_rfl
def t_slices_Backward_typetree_bound_typetree_bound_1 (xs : List PV) : T PV :=
.l (.unbox 1 false) [(n xs 1)] fun x0 =>
.l .len [x0] fun x1 =>
.l (.arith .sub .i64) [x1, (i 1)] fun x2 =>
.loop [x2] fun y3 =>
.l (.cmp .geq .i64) [(n y3 0), (i 0)] fun x4 =>
.ite x4 (
 .l (.unbox 1 false) [(n xs 1)] fun x5 =>
 .l (.idx 2 true) [x5, (n y3 0)] fun x6 =>
 .callv (n xs 0) [(n y3 0), x6] fun x7 =>
 .l .bnot [x7] fun x8 =>
 .ite x8 (
  .ret (.tup [])) (
  .l (.arith .sub .i64) [(n y3 0), (i 1)] fun x9 =>
  .cont 0 [x9])) (
 .ret (.tup []))
theorem k_slices_Backward_typetree_bound_typetree_bound_1 : TxOk P F.slices_Backward_typetree_bound_typetree_bound_1 2 t_slices_Backward_typetree_bound_typetree_bound_1 := txOk_of (H := {}) (plans := []) hm Tryz.func153 rfl rfl fun xs => by kernel_rfl
def v_slices_Backward_typetree_bound_typetree_bound_1 (xs : List PV) : T PV :=
.l (.unbox 1 false) [(n xs 1)] fun x0 =>
.l .len [x0] fun x1 =>
.l (.arith .sub .i64) [x1, (i 1)] fun x2 =>
.loop [x2, (n xs 2)] fun y3 =>
.l (.cmp .geq .i64) [(n y3 0), (i 0)] fun x4 =>
.ite x4 (
 .l (.unbox 1 false) [(n xs 1)] fun x5 =>
 .l (.idx 2 true) [x5, (n y3 0)] fun x6 =>
 .yld [(n y3 0), x6] (n y3 1) fun x7 s7 =>
 .l .bnot [x7] fun x8 =>
 .ite x8 (
  .ret (.tup [(.tup []), s7])) (
  .l (.arith .sub .i64) [(n y3 0), (i 1)] fun x9 =>
  .cont 0 [x9, s7])) (
 .ret (.tup [(.tup []), (n y3 1)]))
theorem x_slices_Backward_typetree_bound_typetree_bound_1 (X : Xt) (hX : XtC P X) : @TxOkX { l := gl.l, x := X } P F.slices_Backward_typetree_bound_typetree_bound_1 2 [0] v_slices_Backward_typetree_bound_typetree_bound_1 := @txOkX_of { l := gl.l, x := X } P (@XC.mk P { l := gl.l, x := X } hX) {} [] _ _ _ _ _ hm Tryz.func153 rfl rfl fun xs => by kernel_rfl
-- NOT TOLD: 154 slices.order2Ordered[string]: 1
def t_ref02_texts (xs : List PV) : T PV :=
.l .len [(n xs 0)] fun x0 =>
.l .len [(n xs 1)] fun x1 =>
.l (.cmp .neq .i64) [x0, x1] fun x2 =>
.ite x2 (
 .ret (.bool false)) (
 .loop [(i 0)] fun y3 =>
 .l .len [(n xs 0)] fun x4 =>
 .l (.cmp .lss .i64) [(n y3 0), x4] fun x5 =>
 .ite x5 (
  .l (.idx 1 false) [(n xs 0), (n y3 0)] fun x6 =>
  .l (.idx 1 false) [(n xs 1), (n y3 0)] fun x7 =>
  .l (.scmp .neq) [x6, x7] fun x8 =>
  .ite x8 (
   .ret (.bool false)) (
   .l (.arith .add .i64) [(n y3 0), (i 1)] fun x9 =>
   .cont 0 [x9])) (
  .ret (.bool true)))
theorem k_ref02_texts : TxOk P F.ref02_texts 2 t_ref02_texts := txOk_of (H := {}) (plans := []) hm Tryz.func155 rfl rfl fun xs => by kernel_rfl
def tb : List (Nat × Tx) := [(F.law06_ScopeChecks, ⟨1, t_law06_ScopeChecks⟩), (F.law06_ScopeFinds, ⟨3, t_law06_ScopeFinds⟩), (F.law06_ScopeFree, ⟨1, t_law06_ScopeFree⟩), (F.law06_ScopeMore, ⟨2, t_law06_ScopeMore⟩), (F.law06_ScopeOrders, ⟨1, t_law06_ScopeOrders⟩), (F.law06_awake, ⟨0, t_law06_awake⟩), (F.ref03_Little, ⟨2, t_ref03_Little⟩), (F.ref06_Check, ⟨1, t_ref06_Check⟩), (F.scope_Check, ⟨1, t_scope_Check⟩), (F.ref03_Few, ⟨2, t_ref03_Few⟩), (F.scope_Find, ⟨2, t_scope_Find⟩), (F.ref06_Find, ⟨2, t_ref06_Find⟩), (F.ref03_Texts, ⟨2, t_ref03_Texts⟩), (F.scope_Calls, ⟨1, t_scope_Calls⟩), (F.ref06_Calls, ⟨1, t_ref06_Calls⟩), (F.scope_Binders, ⟨1, t_scope_Binders⟩), (F.ref06_Binders, ⟨1, t_ref06_Binders⟩), (F.ref06_Right, ⟨2, t_ref06_Right⟩), (F.ref03_Free, ⟨1, t_ref03_Free⟩), (F.ref03_Total, ⟨1, t_ref03_Total⟩), (F.ref03_Program, ⟨1, t_ref03_Program⟩), (F.ref03_In, ⟨2, t_ref03_In⟩), (F.ref02_Few, ⟨2, t_ref02_Few⟩), (F.ref06_node, ⟨4, t_ref06_node⟩), (F.proctree_Program, ⟨1, t_proctree_Program⟩), (F.scope_twice, ⟨1, t_scope_twice⟩), (F.scope_params, ⟨1, t_scope_params⟩), (F.scope_names_with, ⟨2, t_scope_names_with⟩), (F.scope_walker_walk, ⟨4, t_scope_walker_walk⟩), (F.ref03_left, ⟨2, t_ref03_left⟩), (F.ref03_Depth, ⟨1, t_ref03_Depth⟩), (F.slices_IndexFunc_api_Def_api_Def, ⟨2, t_slices_IndexFunc_api_Def_api_Def⟩), (F.scope_Find_1, ⟨2, t_scope_Find_1⟩), (F.scope_collect, ⟨2, t_scope_collect⟩), (F.scope_Calls_1, ⟨1, t_scope_Calls_1⟩), (F.scope_bound, ⟨1, t_scope_bound⟩), (F.ref03_uses, ⟨2, t_ref03_uses⟩), (F.ref03_Size, ⟨1, t_ref03_Size⟩), (F.ref03_types, ⟨1, t_ref03_types⟩), (F.ref02_Size, ⟨1, t_ref02_Size⟩), (F.ref03_Right, ⟨1, t_ref03_Right⟩), (F.ref03_name, ⟨1, t_ref03_name⟩), (F.ref02_Right, ⟨1, t_ref02_Right⟩), (F.ref02_count, ⟨2, t_ref02_count⟩), (F.ref02_Depth, ⟨1, t_ref02_Depth⟩), (F.proctree_Total, ⟨1, t_proctree_Total⟩), (F.proctree_Right, ⟨1, t_proctree_Right⟩), (F.lex_Name, ⟨1, t_lex_Name⟩), (F.slices_ContainsFunc_api_Param_api_Param, ⟨2, t_slices_ContainsFunc_api_Param_api_Param⟩), (F.proctree_Program_1, ⟨1, t_proctree_Program_1⟩), (F.typetree_Right, ⟨1, t_typetree_Right⟩), (F.slices_Sort_string_string, ⟨1, t_slices_Sort_string_string⟩), (F.slices_Clone_string_string, ⟨1, t_slices_Clone_string_string⟩), (F.scope_walker_node, ⟨4, t_scope_walker_node⟩), (F.proctree_Prefix, ⟨1, t_proctree_Prefix⟩), (F.ref03_nodes, ⟨1, t_ref03_nodes⟩), (F.ref01_Name, ⟨1, t_ref01_Name⟩), (F.ref02_node, ⟨4, t_ref02_node⟩), (F.proctree_weight, ⟨1, t_proctree_weight⟩), (F.typetree_Size, ⟨1, t_typetree_Size⟩), (F.proctree_shallow, ⟨2, t_proctree_shallow⟩), (F.proctree_few, ⟨2, t_proctree_few⟩), (F.proctree_all, ⟨2, t_proctree_all⟩), (F.proctree_shape, ⟨1, t_proctree_shape⟩), (F.lex_letter, ⟨1, t_lex_letter⟩), (F.lex_span, ⟨3, t_lex_span⟩), (F.lex_Name_1, ⟨1, t_lex_Name_1⟩), (F.lex_digit, ⟨1, t_lex_digit⟩), (F.lex_Keyword, ⟨1, t_lex_Keyword⟩), (F.slices_IndexFunc_api_Param_api_Param, ⟨2, t_slices_IndexFunc_api_Param_api_Param⟩), (F.typetree_shallow, ⟨2, t_typetree_shallow⟩), (F.typetree_few, ⟨2, t_typetree_few⟩), (F.typetree_check, ⟨3, t_typetree_check⟩), (F.math_bits_Len, ⟨1, t_math_bits_Len⟩), (F.slices_ContainsFunc_api_Value_api_Value, ⟨2, t_slices_ContainsFunc_api_Value_api_Value⟩), (F.scope_walker_node_1, ⟨2, t_scope_walker_node_1⟩), (F.scope_walker_call, ⟨3, t_scope_walker_call⟩), (F.ref03_node, ⟨1, t_ref03_node⟩), (F.ref01_Word, ⟨1, t_ref01_Word⟩), (F.ref01_Keyword, ⟨1, t_ref01_Keyword⟩), (F.ref02_shape, ⟨1, t_ref02_shape⟩), (F.ref02_Session, ⟨1, t_ref02_Session⟩), (F.typetree_nodes, ⟨1, t_typetree_nodes⟩), (F.slices_ContainsFunc_api_Proc_api_Proc, ⟨2, t_slices_ContainsFunc_api_Proc_api_Proc⟩), (F.proctree_shallow_1, ⟨2, t_proctree_shallow_1⟩), (F.proctree_all_1, ⟨2, t_proctree_all_1⟩), (F.proctree_rules, ⟨0, t_proctree_rules⟩), (F.proctree_named, ⟨2, t_proctree_named⟩), (F.proctree_typed, ⟨2, t_proctree_typed⟩), (F.proctree_distinct, ⟨1, t_proctree_distinct⟩), (F.proctree_shape_1, ⟨1, t_proctree_shape_1⟩), (F.proctree_value, ⟨1, t_proctree_value⟩), (F.slices_Contains_string_string, ⟨2, t_slices_Contains_string_string⟩), (F.slices_ContainsFunc_api_Type_api_Type, ⟨2, t_slices_ContainsFunc_api_Type_api_Type⟩), (F.typetree_shallow_1, ⟨2, t_typetree_shallow_1⟩), (F.typetree_fields, ⟨1, t_typetree_fields⟩), (F.typetree_Session, ⟨1, t_typetree_Session⟩), (F.typetree_find, ⟨2, t_typetree_find⟩), (F.slices_Clone_typetree_bound_typetree_bound, ⟨1, t_slices_Clone_typetree_bound_typetree_bound⟩), (F.slices_choosePivotOrdered_string, ⟨3, t_slices_choosePivotOrdered_string⟩), (F.cmp_Less_string, ⟨2, t_cmp_Less_string⟩), (F.math_bits_Len32, ⟨1, t_math_bits_Len32⟩), (F.math_bits_Len64, ⟨1, t_math_bits_Len64⟩), (F.slices_IndexFunc_api_Value_api_Value, ⟨2, t_slices_IndexFunc_api_Value_api_Value⟩), (F.ref03_value, ⟨1, t_ref03_value⟩), (F.ref03_plain, ⟨1, t_ref03_plain⟩), (F.ref02_Labels, ⟨1, t_ref02_Labels⟩), (F.ref01_in, ⟨2, t_ref01_in⟩), (F.ref01_Letters, ⟨0, t_ref01_Letters⟩), (F.ref01_digits, ⟨0, t_ref01_digits⟩), (F.ref02_prio, ⟨1, t_ref02_prio⟩), (F.typetree_nodes_1, ⟨2, t_typetree_nodes_1⟩), (F.typetree_visit, ⟨2, t_typetree_visit⟩), (F.slices_IndexFunc_api_Proc_api_Proc, ⟨2, t_slices_IndexFunc_api_Proc_api_Proc⟩), (F.proctree_kidsOf, ⟨1, t_proctree_kidsOf⟩), (F.proctree_each, ⟨1, t_proctree_each⟩), (F.proctree_several, ⟨1, t_proctree_several⟩), (F.typetree_Same, ⟨2, t_typetree_Same⟩), (F.slices_Index_string_string, ⟨2, t_slices_Index_string_string⟩), (F.slices_IndexFunc_api_Type_api_Type, ⟨2, t_slices_IndexFunc_api_Type_api_Type⟩), (F.typetree_rules, ⟨0, t_typetree_rules⟩), (F.typetree_within, ⟨2, t_typetree_within⟩), (F.typetree_distinct, ⟨1, t_typetree_distinct⟩), (F.slices_Backward_typetree_bound_typetree_bound, ⟨1, t_slices_Backward_typetree_bound_typetree_bound⟩), (F.slices_nextPowerOfTwo, ⟨1, t_slices_nextPowerOfTwo⟩), (F.slices_medianAdjacentOrdered_string, ⟨3, t_slices_medianAdjacentOrdered_string⟩), (F.slices_medianOrdered_string, ⟨5, t_slices_medianOrdered_string⟩), (F.cmp_isNaN_string, ⟨1, t_cmp_isNaN_string⟩), (F.ref02_Same, ⟨2, t_ref02_Same⟩), (F.ref02_in, ⟨2, t_ref02_in⟩), (F.proctree_kidsOf_1, ⟨2, t_proctree_kidsOf_1⟩), (F.proctree_several_1, ⟨1, t_proctree_several_1⟩), (F.slices_Equal_string_string, ⟨2, t_slices_Equal_string_string⟩), (F.slices_EqualFunc_api_Type_api_Type_api_Type_api_Type, ⟨3, t_slices_EqualFunc_api_Type_api_Type_api_Type_api_Type⟩), (F.slices_Backward_typetree_bound_typetree_bound_1, ⟨2, t_slices_Backward_typetree_bound_typetree_bound_1⟩), (F.ref02_texts, ⟨2, t_ref02_texts⟩)]
def tbS : List (Nat × TxS) := [(F.ref06_Calls, ⟨sg_ref06_Calls_Fr, u_ref06_Calls_Fr⟩), (F.scope_twice, ⟨sg_scope_twice, u_scope_twice⟩), (F.scope_params, ⟨sg_scope_params, u_scope_params⟩), (F.slices_Sort_string_string, ⟨sg_slices_Sort_string_string, u_slices_Sort_string_string⟩), (F.slices_Clone_string_string, ⟨sg_slices_Clone_string_string, u_slices_Clone_string_string⟩), (F.scope_collect_1, ⟨sg_scope_collect_1, u_scope_collect_1⟩), (F.proctree_all, ⟨sg_proctree_all_Wg, u_proctree_all_Wg⟩), (F.proctree_all, ⟨sg_proctree_all_Fw, u_proctree_all_Fw⟩), (F.slices_pdqsortOrdered_string, ⟨sg_slices_pdqsortOrdered_string_Nil, u_slices_pdqsortOrdered_string_Nil⟩), (F.proctree_weight_1, ⟨sg_proctree_weight_1, u_proctree_weight_1⟩), (F.slices_ContainsFunc_api_Proc_api_Proc, ⟨sg_slices_ContainsFunc_api_Proc_api_Proc_Wg, u_slices_ContainsFunc_api_Proc_api_Proc_Wg⟩), (F.slices_ContainsFunc_api_Proc_api_Proc, ⟨sg_slices_ContainsFunc_api_Proc_api_Proc_Fw, u_slices_ContainsFunc_api_Proc_api_Proc_Fw⟩), (F.proctree_few_1, ⟨sg_proctree_few_1, u_proctree_few_1⟩), (F.proctree_all_1, ⟨sg_proctree_all_1_Wg, u_proctree_all_1_Wg⟩), (F.proctree_all_1, ⟨sg_proctree_all_1_Fw, u_proctree_all_1_Fw⟩), (F.slices_Clone_typetree_bound_typetree_bound, ⟨sg_slices_Clone_typetree_bound_typetree_bound, u_slices_Clone_typetree_bound_typetree_bound⟩), (F.slices_insertionSortOrdered_string, ⟨sg_slices_insertionSortOrdered_string, u_slices_insertionSortOrdered_string⟩), (F.slices_IndexFunc_api_Proc_api_Proc, ⟨sg_slices_IndexFunc_api_Proc_api_Proc_Wg, u_slices_IndexFunc_api_Proc_api_Proc_Wg⟩), (F.slices_IndexFunc_api_Proc_api_Proc, ⟨sg_slices_IndexFunc_api_Proc_api_Proc_Fw, u_slices_IndexFunc_api_Proc_api_Proc_Fw⟩)]
theorem allOk : AllOk P tb := ⟨k_law06_ScopeChecks, k_law06_ScopeFinds, k_law06_ScopeFree, k_law06_ScopeMore, k_law06_ScopeOrders, k_law06_awake, k_ref03_Little, k_ref06_Check, k_scope_Check, k_ref03_Few, k_scope_Find, k_ref06_Find, k_ref03_Texts, k_scope_Calls, k_ref06_Calls, k_scope_Binders, k_ref06_Binders, k_ref06_Right, k_ref03_Free, k_ref03_Total, k_ref03_Program, k_ref03_In, k_ref02_Few, k_ref06_node, k_proctree_Program, k_scope_twice, k_scope_params, k_scope_names_with, k_scope_walker_walk, k_ref03_left, k_ref03_Depth, k_slices_IndexFunc_api_Def_api_Def, k_scope_Find_1, k_scope_collect, k_scope_Calls_1, k_scope_bound, k_ref03_uses, k_ref03_Size, k_ref03_types, k_ref02_Size, k_ref03_Right, k_ref03_name, k_ref02_Right, k_ref02_count, k_ref02_Depth, k_proctree_Total, k_proctree_Right, k_lex_Name, k_slices_ContainsFunc_api_Param_api_Param, k_proctree_Program_1, k_typetree_Right, k_slices_Sort_string_string, k_slices_Clone_string_string, k_scope_walker_node, k_proctree_Prefix, k_ref03_nodes, k_ref01_Name, k_ref02_node, k_proctree_weight, k_typetree_Size, k_proctree_shallow, k_proctree_few, k_proctree_all, k_proctree_shape, k_lex_letter, k_lex_span, k_lex_Name_1, k_lex_digit, k_lex_Keyword, k_slices_IndexFunc_api_Param_api_Param, k_typetree_shallow, k_typetree_few, k_typetree_check, k_math_bits_Len, k_slices_ContainsFunc_api_Value_api_Value, k_scope_walker_node_1, k_scope_walker_call, k_ref03_node, k_ref01_Word, k_ref01_Keyword, k_ref02_shape, k_ref02_Session, k_typetree_nodes, k_slices_ContainsFunc_api_Proc_api_Proc, k_proctree_shallow_1, k_proctree_all_1, k_proctree_rules, k_proctree_named, k_proctree_typed, k_proctree_distinct, k_proctree_shape_1, k_proctree_value, k_slices_Contains_string_string, k_slices_ContainsFunc_api_Type_api_Type, k_typetree_shallow_1, k_typetree_fields, k_typetree_Session, k_typetree_find, k_slices_Clone_typetree_bound_typetree_bound, k_slices_choosePivotOrdered_string, k_cmp_Less_string, k_math_bits_Len32, k_math_bits_Len64, k_slices_IndexFunc_api_Value_api_Value, k_ref03_value, k_ref03_plain, k_ref02_Labels, k_ref01_in, k_ref01_Letters, k_ref01_digits, k_ref02_prio, k_typetree_nodes_1, k_typetree_visit, k_slices_IndexFunc_api_Proc_api_Proc, k_proctree_kidsOf, k_proctree_each, k_proctree_several, k_typetree_Same, k_slices_Index_string_string, k_slices_IndexFunc_api_Type_api_Type, k_typetree_rules, k_typetree_within, k_typetree_distinct, k_slices_Backward_typetree_bound_typetree_bound, k_slices_nextPowerOfTwo, k_slices_medianAdjacentOrdered_string, k_slices_medianOrdered_string, k_cmp_isNaN_string, k_ref02_Same, k_ref02_in, k_proctree_kidsOf_1, k_proctree_several_1, k_slices_Equal_string_string, k_slices_EqualFunc_api_Type_api_Type_api_Type_api_Type, k_slices_Backward_typetree_bound_typetree_bound_1, k_ref02_texts, trivial⟩
theorem allOkS : AllOkS P tbS := ⟨m_ref06_Calls_Fr, m_scope_twice, m_scope_params, m_slices_Sort_string_string, m_slices_Clone_string_string, m_scope_collect_1, m_proctree_all_Wg, m_proctree_all_Fw, m_slices_pdqsortOrdered_string_Nil, m_proctree_weight_1, m_slices_ContainsFunc_api_Proc_api_Proc_Wg, m_slices_ContainsFunc_api_Proc_api_Proc_Fw, m_proctree_few_1, m_proctree_all_1_Wg, m_proctree_all_1_Fw, m_slices_Clone_typetree_bound_typetree_bound, m_slices_insertionSortOrdered_string, m_slices_IndexFunc_api_Proc_api_Proc_Wg, m_slices_IndexFunc_api_Proc_api_Proc_Fw, trivial⟩
end Go.Proofs.YtfmbddfenghnlaaGreatDoor.Tx

/- Texts of functions, printed by a program (wip/dev/Gen.lean). -/
import Derived.Test.YtopinhoalbgebaaGreatDoorLfD
import Derived.Test.YtopinhoalbgebaaGreatDoorChecked
import Derived.KernelRfl
set_option linter.all false
namespace Go.Proofs.YtopinhoalbgebaaGreatDoor.Tx
open Go.Lf Go.Lf.S
set_option maxRecDepth 100000
instance gl : Gl := { l := [(1, (.agg [(.int .u64 (1)), (.int .u64 (10)), (.int .u64 (100)), (.int .u64 (1000)), (.int .u64 (10000)), (.int .u64 (100000)), (.int .u64 (1000000)), (.int .u64 (10000000)), (.int .u64 (100000000)), (.int .u64 (1000000000)), (.int .u64 (10000000000)), (.int .u64 (100000000000)), (.int .u64 (1000000000000)), (.int .u64 (10000000000000)), (.int .u64 (100000000000000)), (.int .u64 (1000000000000000)), (.int .u64 (10000000000000000)), (.int .u64 (100000000000000000)), (.int .u64 (1000000000000000000)), (.int .u64 (10000000000000000000))]), 20, true)] }
noncomputable abbrev P : Program := Tryz.prog
instance xc : XC P := xc_none rfl
namespace F
abbrev law12_ReadbackMatchesReference : Nat := 3
abbrev law12_ReadbackCanonical : Nat := 4
abbrev law12_ReadbackKeeps : Nat := 5
abbrev law12_ReadbackRaises : Nat := 6
abbrev law12_ReadbackDuals : Nat := 7
abbrev law12_awake : Nat := 8
abbrev ref02_Small : Nat := 9
abbrev law08_Graph : Nat := 10
abbrev ref12_Normal : Nat := 11
abbrev ref02_Same : Nat := 12
abbrev readback_Normal : Nat := 13
abbrev readback_Canonical : Nat := 14
abbrev readback_Text : Nat := 15
abbrev ref05_Type : Nat := 16
abbrev ref10_Equal : Nat := 17
abbrev ref02_Few : Nat := 18
abbrev ref02_Right : Nat := 19
abbrev law12_tall : Nat := 20
abbrev equal_Equal : Nat := 21
abbrev ref02_Raise : Nat := 22
abbrev ref02_Session : Nat := 23
abbrev dual_Close : Nat := 24
abbrev dual_Of : Nat := 25
abbrev law12_opposite : Nat := 26
abbrev ref07_Build : Nat := 27
abbrev ref12_normal : Nat := 28
abbrev ref02_texts : Nat := 29
abbrev readback_reader_tree : Nat := 30
abbrev graph_Build : Nat := 31
abbrev show_Type : Nat := 32
abbrev ref05_Decimal : Nat := 33
abbrev ref05_list : Nat := 34
abbrev ref10_compare : Nat := 35
abbrev ref02_count : Nat := 36
abbrev ref02_Depth : Nat := 37
abbrev ref02_Size : Nat := 38
abbrev ref02_node : Nat := 39
abbrev equal_Equal_1 : Nat := 40
abbrev head_Prio : Nat := 41
abbrev equal_comparison_equal : Nat := 42
abbrev dual_mapped_graph_Node_graph_Node : Nat := 43
abbrev dual_Close_1 : Nat := 44
abbrev slices_Clone_string_string : Nat := 45
abbrev slices_Clone_graph_Ref_graph_Ref : Nat := 46
abbrev dual_Close_2 : Nat := 47
abbrev dual_mapped_graph_Ref_graph_Ref : Nat := 48
abbrev dual_Close_2_1 : Nat := 49
abbrev dual_rest : Nat := 50
abbrev dual_Kind : Nat := 51
abbrev ref07_reference : Nat := 52
abbrev ref07_nodes : Nat := 53
abbrev ref02_Unfold : Nat := 54
abbrev ref08_Prio : Nat := 55
abbrev ref12_name : Nat := 56
abbrev ref08_Sorted : Nat := 57
abbrev ref08_Label : Nat := 58
abbrev ref12_uses : Nat := 59
abbrev head_Kind : Nat := 60
abbrev readback_reader_find : Nat := 61
abbrev readback_name : Nat := 62
abbrev readback_reader_plain : Nat := 63
abbrev readback_reader_choice : Nat := 64
abbrev graph_builder_build : Nat := 65
abbrev show_types : Nat := 66
abbrev ref03_Texts : Nat := 67
abbrev ref10_Lower : Nat := 68
abbrev ref10_Seen : Nat := 69
abbrev ref02_shape : Nat := 70
abbrev head_action : Nat := 71
abbrev equal_comparison_key : Nat := 72
abbrev slices_Index_string_string : Nat := 73
abbrev head_Next : Nat := 74
abbrev ref07_Count : Nat := 75
abbrev ref02_put : Nat := 76
abbrev equal_Offset : Nat := 77
abbrev strconv_Itoa : Nat := 78
abbrev head_Labels : Nat := 79
abbrev head_Label : Nat := 80
abbrev graph_strip : Nat := 81
abbrev maps_Clone_graph_scope_string_graph_Ref : Nat := 82
abbrev show_fixed : Nat := 83
abbrev show_transmission : Nat := 84
abbrev show_choice : Nat := 85
abbrev show_variable : Nat := 86
abbrev show_types_1 : Nat := 87
abbrev show_join : Nat := 88
abbrev ref02_prio : Nat := 89
abbrev ref02_Labels : Nat := 90
abbrev ref01_Name : Nat := 91
abbrev head_Raise : Nat := 92
abbrev equal_offset : Nat := 93
abbrev internal_strconv_Itoa : Nat := 94
abbrev slices_Sorted_string : Nat := 95
abbrev slices_Values_string_string : Nat := 96
abbrev show_fixed_1 : Nat := 98
abbrev show_transmission_1 : Nat := 99
abbrev show_unless : Nat := 100
abbrev show_payload : Nat := 101
abbrev show_choice_1 : Nat := 102
abbrev show_separated_api_Type : Nat := 103
abbrev show_choice_1_1 : Nat := 104
abbrev strings_Join : Nat := 105
abbrev ref02_in : Nat := 106
abbrev ref01_Word : Nat := 107
abbrev ref01_Keyword : Nat := 108
abbrev internal_strconv_FormatInt : Nat := 109
abbrev slices_Collect_string : Nat := 110
abbrev slices_Sort_string_string : Nat := 111
abbrev slices_Values_string_string_1 : Nat := 112
abbrev strings_Builder_Grow : Nat := 113
abbrev strings_Builder_WriteString : Nat := 114
abbrev strings_Builder_String : Nat := 115
abbrev ref01_in : Nat := 116
abbrev ref01_Letters : Nat := 117
abbrev ref01_digits : Nat := 118
abbrev internal_strconv_small : Nat := 119
abbrev internal_strconv_numDigits : Nat := 120
abbrev internal_strconv_formatBase10 : Nat := 121
abbrev internal_strconv_formatBits : Nat := 122
abbrev slices_AppendSeq_string_string : Nat := 123
abbrev slices_pdqsortOrdered_string : Nat := 124
abbrev math_bits_Len : Nat := 125
abbrev strings_Builder_copyCheck : Nat := 126
abbrev strings_Builder_grow : Nat := 127
abbrev internal_strconv_log10Pow2 : Nat := 128
abbrev math_bits_Len64 : Nat := 129
abbrev internal_strconv_bool2_int : Nat := 130
abbrev internal_strconv_isPowerOfTwo : Nat := 131
abbrev math_bits_TrailingZeros : Nat := 132
abbrev slices_insertionSortOrdered_string : Nat := 133
abbrev slices_heapSortOrdered_string : Nat := 134
abbrev slices_breakPatternsOrdered_string : Nat := 135
abbrev slices_choosePivotOrdered_string : Nat := 136
abbrev slices_reverseRangeOrdered_string : Nat := 137
abbrev slices_partialInsertionSortOrdered_string : Nat := 138
abbrev cmp_Less_string : Nat := 139
abbrev slices_partitionEqualOrdered_string : Nat := 140
abbrev slices_partitionOrdered_string : Nat := 141
abbrev math_bits_Len32 : Nat := 142
abbrev math_bits_TrailingZeros32 : Nat := 145
abbrev math_bits_TrailingZeros64 : Nat := 146
abbrev slices_siftDownOrdered_string : Nat := 147
abbrev slices_nextPowerOfTwo : Nat := 148
abbrev slices_xorshift_Next : Nat := 149
abbrev slices_medianAdjacentOrdered_string : Nat := 150
abbrev slices_medianOrdered_string : Nat := 151
abbrev cmp_isNaN_string : Nat := 152
abbrev slices_order2Ordered_string : Nat := 153
end F
theorem hm : Tryz.prog.follows .mixedOrders = true := by kernel_rfl
/-- duologue/duologueref02.Raise, with memory -/
def sg_ref02_Raise : Sig := { args := [.at (.dat 0), .at (.dat 1)], obs := [], res := .agg [.dat 0, .dat 1, .dat 2, .dat 3, .dat 4, .own 9000], robs := [(9000, .arr false 25 6 true 5)], nout := 6 }
/-- (*duologue/readback.reader).tree, with memory -/
def sg_readback_reader_tree : Sig := { args := [.at (.ptr 9000 0), .at (.dat 0)], obs := [(9000, .cells false 3 true (.pts [.dat 1, .own 9001, .mref 9005])), (9001, .arr false 38 2 true 2), (9005, .map false 3)], res := .at (.dat 0), robs := [(9000, .cells false 3 true (.pts [.dat 1, .own 9002, .mref 9005])), (9002, .arr false 38 2 true 2), (9005, .map false 3)], nout := 4 }
/-- (*duologue/readback.reader).tree, with memory -/
def sg_readback_reader_tree_Nil : Sig := { args := [.at (.ptr 9000 0), .at (.dat 0)], obs := [(9000, .cells false 3 true (.pts [.dat 1, .nils, .mref 9005])), (9005, .map false 2)], res := .at (.dat 0), robs := [], nout := 1 }
/-- duologue/duologueref10.compare, with memory -/
def sg_ref10_compare : Sig := { args := [.at (.dat 0), .at (.dat 1), .at (.ptr 9000 0)], obs := [(9000, .cells false 1 false (.pts [.own 9001])), (9001, .arr true 106 12 true 2)], res := .at (.dat 0), robs := [(9000, .cells false 1 false (.pts [.own 9002])), (9002, .arr true 106 12 true 1)], nout := 2 }
/-- (*duologue/equal.comparison).equal, with memory -/
def sg_equal_comparison_equal : Sig := { args := [.at (.ptr 9000 0), .at (.dat 0), .at (.dat 1)], obs := [(9000, .cells false 4 true (.pts [.dat 2, .mref 9001, .dat 3, .dat 4])), (9001, .map false 5)], res := .at (.dat 0), robs := [(9000, .cells false 4 true (.pts [.dat 1, .mref 9001, .dat 2, .dat 3])), (9001, .map false 4)], nout := 5 }
/-- duologue/dual.mapped[duologue/graph.Node,duologue/graph.Node], with memory -/
def sg_dual_mapped_graph_Node_graph_Node : Sig := { args := [.at (.dat 0), .at (.dat 1)], obs := [], res := .at (.own 9000), robs := [(9000, .arr true 55 4 true 0)], nout := 1 }
/-- slices.Clone[[]string,string], with memory -/
def sg_slices_Clone_string_string : Sig := { args := [.at (.dat 0)], obs := [], res := .at (.own 9000), robs := [(9000, .arr false 9 1 false 0)], nout := 1 }
/-- slices.Clone[[]duologue/graph.Ref,duologue/graph.Ref], with memory -/
def sg_slices_Clone_graph_Ref_graph_Ref : Sig := { args := [.at (.dat 0)], obs := [], res := .at (.own 9000), robs := [(9000, .arr false 38 2 true 0)], nout := 1 }
/-- (*duologue/readback.reader).plain, with memory -/
def sg_readback_reader_plain : Sig := { args := [.at (.ptr 9000 0), .at (.dat 0)], obs := [(9000, .cells false 3 true (.pts [.dat 1, .own 9001, .mref 9005])), (9001, .arr false 38 2 true 2), (9005, .map false 3)], res := .at (.dat 0), robs := [(9000, .cells false 3 true (.pts [.dat 1, .own 9002, .mref 9005])), (9002, .arr false 38 2 true 2), (9005, .map false 3)], nout := 4 }
/-- (*duologue/readback.reader).choice, with memory -/
def sg_readback_reader_choice : Sig := { args := [.at (.ptr 9000 0), .at (.dat 0)], obs := [(9000, .cells false 3 true (.pts [.dat 1, .own 9001, .mref 9005])), (9001, .arr false 38 2 true 2), (9005, .map false 3)], res := .at (.dat 0), robs := [(9000, .cells false 3 true (.pts [.dat 1, .own 9002, .mref 9005])), (9002, .arr false 38 2 true 2), (9005, .map false 3)], nout := 4 }
/-- (*duologue/graph.builder).build, with memory -/
def sg_graph_builder_build : Sig := { args := [.at (.ptr 9000 0), .at (.dat 0), .at (.mref 9005)], obs := [(9000, .cells false 1 true (.pts [.own 9001])), (9001, .arr false 55 4 true 1), (9005, .map false 2)], res := .at (.dat 0), robs := [(9000, .cells false 1 true (.pts [.own 9002])), (9002, .arr false 55 4 true 1), (9005, .map false 2)], nout := 3 }
/-- maps.Clone[duologue/graph.scope,string,duologue/graph.Ref], with memory -/
def sg_maps_Clone_graph_scope_string_graph_Ref : Sig := { args := [.at (.mref 9000)], obs := [(9000, .map false 0)], res := .at (.mref 9001), robs := [(9000, .map false 0), (9001, .map false 1)], nout := 2 }
/-- slices.Collect[string], with memory -/
def sg_slices_Collect_string : Sig := { args := [.at (.dat 0)], obs := [], res := .at (.own 9000), robs := [(9000, .arr false 9 1 false 0)], nout := 1 }
/-- slices.Sort[[]string,string], with memory -/
def sg_slices_Sort_string_string : Sig := { args := [.at (.own 9000)], obs := [(9000, .arr false 9 1 false 0)], res := .at (.dat 0), robs := [(9000, .arr false 9 1 false 1)], nout := 2 }
/-- slices.AppendSeq[[]string,string], with memory -/
def sg_slices_AppendSeq_string_string : Sig := { args := [.at (.nils), .at (.dat 0)], obs := [], res := .at (.own 9000), robs := [(9000, .arr false 9 1 false 0)], nout := 1 }
/-- slices.pdqsortOrdered[string], with memory -/
def sg_slices_pdqsortOrdered_string_Nil : Sig := { args := [.at (.own 9000), .at (.dat 0), .at (.dat 1), .at (.dat 2)], obs := [(9000, .arr false 9 1 false 3)], res := .at (.dat 0), robs := [(9000, .arr false 9 1 false 1)], nout := 2 }
/-- slices.insertionSortOrdered[string], with memory -/
def sg_slices_insertionSortOrdered_string : Sig := { args := [.at (.own 9000), .at (.dat 0), .at (.dat 1)], obs := [(9000, .arr false 9 1 false 2)], res := .at (.dat 0), robs := [(9000, .arr false 9 1 false 1)], nout := 2 }
def t_law12_ReadbackKeeps (xs : List PV) : T PV :=
.l (.okc 6 true) [(n xs 0)] fun x0 =>
.call F.law12_awake [] fun x1 =>
.l .bnot [x1] fun x2 =>
.ite x2 (
.call F.law12_awake [] fun x3 =>
.ret x3) (
.call F.ref02_Small [x0, (i 12)] fun x3 =>
.l .bnot [x3] fun x4 =>
.ite x4 (
.call F.law12_awake [] fun x5 =>
.ret x5) (
.call F.readback_Canonical [x0] fun x5 =>
.l (.okc 6 true) [x5] fun x6 =>
.call F.ref02_Few [x6, (i 2000)] fun x7 =>
.l .bnot [x7] fun x8 =>
.ite x8 (
.ret (.bool false)) (
.call F.ref02_Right [x6] fun x9 =>
.l (.cmp .neq .i64) [x9, (i 0)] fun x10 =>
.ite x10 (
.call F.law12_tall [x6] fun x11 =>
.ret x11) (
.l (.lst 6 true) [x0, x6] fun x11 =>
.call F.law08_Graph [x11] fun x12 =>
.l (.tc 0) [x12] fun x13 =>
.l (.tc 1) [x12] fun x14 =>
.l (.okc 1 true) [x13] fun x15 =>
.l (.idx 2 true) [x14, (i 0)] fun x16 =>
.l (.idx 2 true) [x14, (i 1)] fun x17 =>
.call F.equal_Equal [x15, x16, x17] fun x18 =>
.ite x18 (
.call F.readback_Canonical [x6] fun x19 =>
.call F.ref02_Same [x19, x6] fun x20 =>
.ret x20) (
.ret (.bool false))))))
theorem k_law12_ReadbackKeeps : TxOk P F.law12_ReadbackKeeps 1 t_law12_ReadbackKeeps := txOk_of (H := {}) (plans := []) hm Tryz.func5 rfl rfl fun xs => by kernel_rfl
def t_law12_awake (xs : List PV) : T PV :=
.l (.lst 6 true) [(.agg [(i 1), (i 0), (.str ⟨#[]⟩), (i 0), (.sl []), (.sl [])]), (.agg [(i 9), (i 0), (.str ⟨#[116]⟩), (i 1), (.sl []), (.sl [])])] fun x0 =>
.l (.lst 6 true) [(.agg [(i 4), (i 1), (.str ⟨#[]⟩), (i 0), (.sl []), x0])] fun x1 =>
.l (.lst 6 true) [(.agg [(i 1), (i 0), (.str ⟨#[]⟩), (i 0), (.sl []), (.sl [])]), (.agg [(i 8), (i 0), (.str ⟨#[116]⟩), (i 0), (.sl []), x1])] fun x2 =>
.l (.lst 6 true) [(.agg [(i 4), (i 0), (.str ⟨#[]⟩), (i 0), (.sl []), x2])] fun x3 =>
.call F.law08_Graph [x3] fun x4 =>
.l (.tc 0) [x4] fun x5 =>
.l (.tc 1) [x4] fun x6 =>
.l (.okc 1 true) [x5] fun x7 =>
.l (.idx 2 true) [x6, (i 0)] fun x8 =>
.call F.readback_Text [x7, x8] fun x9 =>
.l (.scmp .eql) [x9, (.str ⟨#[114, 101, 99, 32, 114, 48, 46, 33, 105, 110, 116, 46, 114, 48, 43, 49]⟩)] fun x10 =>
.ite x10 (
.call F.readback_Canonical [(.agg [(i 4), (i 0), (.str ⟨#[]⟩), (i 0), (.sl []), x2])] fun x11 =>
.call F.ref05_Type [x11] fun x12 =>
.l (.scmp .eql) [x12, (.str ⟨#[114, 101, 99, 32, 114, 48, 46, 33, 105, 110, 116, 46, 114, 48, 43, 49]⟩)] fun x13 =>
.ite x13 (
.l (.idx 2 true) [x6, (i 0)] fun x14 =>
.call F.readback_Normal [x7, x14] fun x15 =>
.call F.ref05_Type [x15] fun x16 =>
.l (.scmp .eql) [x16, (.str ⟨#[114, 101, 99, 32, 114, 48, 46, 33, 105, 110, 116, 46, 114, 48, 43, 49]⟩)] fun x17 =>
.ret x17) (
.ret (.bool false))) (
.ret (.bool false))
theorem k_law12_awake : TxOk P F.law12_awake 0 t_law12_awake := txOk_of (H := {}) (plans := []) hm Tryz.func8 rfl rfl fun xs => by kernel_rfl
def t_ref02_Small (xs : List PV) : T PV :=
.l (.okc 6 true) [(n xs 0)] fun x0 =>
.call F.ref02_Few [x0, (n xs 1)] fun x1 =>
.ite x1 (
.call F.ref02_Right [x0] fun x2 =>
.l (.cmp .eql .i64) [x2, (i 0)] fun x3 =>
.ret x3) (
.ret (.bool false))
theorem k_ref02_Small : TxOk P F.ref02_Small 2 t_ref02_Small := txOk_of (H := {}) (plans := []) hm Tryz.func9 rfl rfl fun xs => by kernel_rfl
def t_law08_Graph (xs : List PV) : T PV :=
.call F.ref07_Build [(n xs 0)] fun x0 =>
.l (.tc 0) [x0] fun x1 =>
.l (.tc 1) [x0] fun x2 =>
.loop [(i 0), (.sl [])] fun y3 =>
.l .len [x1] fun x4 =>
.l (.cmp .lss .i64) [(n y3 0), x4] fun x5 =>
.ite x5 (
.l (.idx 4 true) [x1, (n y3 0)] fun x6 =>
.l (.idx 4 true) [x1, (n y3 0)] fun x7 =>
.l (.lst 1 false) [] fun x8 =>
.l (.idx 4 true) [x1, (n y3 0)] fun x9 =>
.l (.app 1 false 16) [x8, (c 2 x9)] fun x10 =>
.l (.okcs [(1, false), (1, false)]) [(c 0 x6), (c 1 x7)] fun x11 =>
.loop [(i 0), (c 0 x6), (c 1 x7), x10, (.sl [])] fun y12 =>
.l (.idx 4 true) [x1, (n y3 0)] fun x13 =>
.l .len [(c 3 x13)] fun x14 =>
.l (.cmp .lss .i64) [(n y12 0), x14] fun x15 =>
.ite x15 (
.l (.idx 4 true) [x1, (n y3 0)] fun x16 =>
.l (.idx 2 true) [(c 3 x16), (n y12 0)] fun x17 =>
.l (.idx 4 true) [x1, (n y3 0)] fun x18 =>
.l (.idx 2 true) [(c 3 x18), (n y12 0)] fun x19 =>
.l (.okcs [(1, false), (1, false)]) [(c 0 x17), (c 1 x19)] fun x20 =>
.l (.lst 2 true) [(.agg [(c 0 x17), (c 1 x19)])] fun x21 =>
.l (.app 2 true 16) [(n y12 4), x21] fun x22 =>
.l (.arith .add .i64) [(n y12 0), (i 1)] fun x23 =>
.cont 1 [x23, (n y12 1), (n y12 2), (n y12 3), x22]) (
.l (.lst 4 true) [(.agg [(n y12 1), (n y12 2), (n y12 3), (n y12 4)])] fun x16 =>
.l (.app 4 true 64) [(n y3 1), x16] fun x17 =>
.l (.arith .add .i64) [(n y3 0), (i 1)] fun x18 =>
.cont 0 [x18, x17])) (
.loop [(i 0), (.sl [])] fun y6 =>
.l .len [x2] fun x7 =>
.l (.cmp .lss .i64) [(n y6 0), x7] fun x8 =>
.ite x8 (
.l (.idx 2 true) [x2, (n y6 0)] fun x9 =>
.l (.idx 2 true) [x2, (n y6 0)] fun x10 =>
.l (.okcs [(1, false), (1, false)]) [(c 0 x9), (c 1 x10)] fun x11 =>
.l (.lst 2 true) [(.agg [(c 0 x9), (c 1 x10)])] fun x12 =>
.l (.app 2 true 16) [(n y6 1), x12] fun x13 =>
.l (.arith .add .i64) [(n y6 0), (i 1)] fun x14 =>
.cont 1 [x14, x13]) (
.ret (.tup [(.agg [(n y3 1)]), (n y6 1)])))
theorem k_law08_Graph : TxOk P F.law08_Graph 1 t_law08_Graph := txOk_of (H := {}) (plans := []) hm Tryz.func10 rfl rfl fun xs => by kernel_rfl
def t_ref02_Same (xs : List PV) : T PV :=
.l (.okc 6 true) [(n xs 0)] fun x0 =>
.l (.okc 6 true) [(n xs 1)] fun x1 =>
.l (.cmp .neq .i64) [(c 0 x0), (c 0 x1)] fun x2 =>
.ite x2 (
.ret (.bool false)) (
.l (.cmp .neq .i64) [(c 1 x0), (c 1 x1)] fun x3 =>
.ite x3 (
.ret (.bool false)) (
.l (.scmp .neq) [(c 2 x0), (c 2 x1)] fun x4 =>
.ite x4 (
.ret (.bool false)) (
.l (.cmp .neq .i64) [(c 3 x0), (c 3 x1)] fun x5 =>
.ite x5 (
.ret (.bool false)) (
.call F.ref02_texts [(c 4 x0), (c 4 x1)] fun x6 =>
.l .bnot [x6] fun x7 =>
.ite x7 (
.ret (.bool false)) (
.l .len [(c 5 x0)] fun x8 =>
.l .len [(c 5 x1)] fun x9 =>
.l (.cmp .neq .i64) [x8, x9] fun x10 =>
.ite x10 (
.ret (.bool false)) (
.loop [(i 0)] fun y11 =>
.l .len [(c 5 x0)] fun x12 =>
.l (.cmp .lss .i64) [(n y11 0), x12] fun x13 =>
.ite x13 (
.l (.idx 6 true) [(c 5 x0), (n y11 0)] fun x14 =>
.l (.idx 6 true) [(c 5 x1), (n y11 0)] fun x15 =>
.call F.ref02_Same [x14, x15] fun x16 =>
.l .bnot [x16] fun x17 =>
.ite x17 (
.ret (.bool false)) (
.l (.arith .add .i64) [(n y11 0), (i 1)] fun x18 =>
.cont 0 [x18])) (
.ret (.bool true))))))))
theorem k_ref02_Same : TxOk P F.ref02_Same 2 t_ref02_Same := txOk_of (H := {}) (plans := []) hm Tryz.func12 rfl rfl fun xs => by kernel_rfl
def t_readback_Normal (xs : List PV) : T PV :=
.l (.okc 1 true) [(n xs 0)] fun x0 =>
.l (.okc 2 true) [(n xs 1)] fun x1 =>
.l (.okcs [(1, true)]) [x0] fun x2 =>
.calls F.readback_reader_tree sg_readback_reader_tree_Nil [x1, (c 0 x0), (.mp [] [])] fun z3 =>
.l (.okc 6 true) [(n z3 0)] fun x4 =>
.ret x4
theorem k_readback_Normal : TxOk P F.readback_Normal 2 t_readback_Normal := txOk_of (H := { wr := [], ro := [], nl := [], fz := [], da := [], sigs := [(30, sg_readback_reader_tree_Nil)] }) (plans := []) hm Tryz.func13 rfl rfl fun xs => by kernel_rfl
def t_readback_Canonical (xs : List PV) : T PV :=
.l (.okc 6 true) [(n xs 0)] fun x0 =>
.l (.lst 6 true) [x0] fun x1 =>
.call F.graph_Build [x1] fun x2 =>
.l (.tc 0) [x2] fun x3 =>
.l (.tc 1) [x2] fun x4 =>
.l (.okc 1 true) [x3] fun x5 =>
.l (.idx 2 true) [x4, (i 0)] fun x6 =>
.call F.readback_Normal [x5, x6] fun x7 =>
.l (.okc 6 true) [x7] fun x8 =>
.ret x8
theorem k_readback_Canonical : TxOk P F.readback_Canonical 1 t_readback_Canonical := txOk_of (H := {}) (plans := []) hm Tryz.func14 rfl rfl fun xs => by kernel_rfl
def t_readback_Text (xs : List PV) : T PV :=
.l (.okc 1 true) [(n xs 0)] fun x0 =>
.l (.okc 2 true) [(n xs 1)] fun x1 =>
.call F.readback_Normal [x0, x1] fun x2 =>
.call F.show_Type [x2] fun x3 =>
.ret x3
theorem k_readback_Text : TxOk P F.readback_Text 2 t_readback_Text := txOk_of (H := {}) (plans := []) hm Tryz.func15 rfl rfl fun xs => by kernel_rfl
def t_ref05_Type (xs : List PV) : T PV :=
.l (.okc 6 true) [(n xs 0)] fun x0 =>
.l (.cmp .eql .i64) [(c 0 x0), (i 1)] fun x1 =>
.ite x1 (
.ret (.str ⟨#[105, 110, 116]⟩)) (
.l (.cmp .eql .i64) [(c 0 x0), (i 2)] fun x2 =>
.ite x2 (
.ret (.str ⟨#[98, 111, 111, 108]⟩)) (
.l (.cmp .eql .i64) [(c 0 x0), (i 3)] fun x3 =>
.ite x3 (
.ret (.str ⟨#[101, 110, 100]⟩)) (
.l (.cmp .eql .i64) [(c 0 x0), (i 4)] fun x4 =>
.ite x4 (
.l (.cmp .gtr .i64) [(c 1 x0), (i 0)] fun x5 =>
.ite x5 (
.call F.ref05_Decimal [(c 1 x0)] fun x6 =>
.l .cat [(.str ⟨#[33]⟩), x6] fun x7 =>
.l (.cmp .geq .i64) [(c 0 x0), (i 6)] fun x8 =>
.ite x8 (
.loop [(i 0), (.sl [])] fun y9 =>
.l .len [(c 5 x0)] fun x10 =>
.l (.cmp .lss .i64) [(n y9 0), x10] fun x11 =>
.ite x11 (
.l (.idx 1 false) [(c 4 x0), (n y9 0)] fun x12 =>
.l .cat [x12, (.str ⟨#[58, 32]⟩)] fun x13 =>
.l (.idx 6 true) [(c 5 x0), (n y9 0)] fun x14 =>
.call F.ref05_Type [x14] fun x15 =>
.l .cat [x13, x15] fun x16 =>
.l (.lst 1 false) [x16] fun x17 =>
.l (.app 1 false 16) [(n y9 1), x17] fun x18 =>
.l (.arith .add .i64) [(n y9 0), (i 1)] fun x19 =>
.cont 0 [x19, x18]) (
.l .cat [x7, (.str ⟨#[123]⟩)] fun x12 =>
.call F.ref05_list [(n y9 1), (.str ⟨#[44, 32]⟩)] fun x13 =>
.l .cat [x12, x13] fun x14 =>
.l .cat [x14, (.str ⟨#[125]⟩)] fun x15 =>
.ret x15)) (
.l (.cmp .gtr .i64) [(c 1 x0), (i 0)] fun x9 =>
.ite x9 (
.l .cat [x7, (.str ⟨#[32]⟩)] fun x10 =>
.l (.idx 6 true) [(c 5 x0), (i 0)] fun x11 =>
.call F.ref05_Type [x11] fun x12 =>
.l (.idx 6 true) [(c 5 x0), (i 0)] fun x13 =>
.l (.cmp .neq .i64) [(c 0 x13), (i 1)] fun x14 =>
.ite x14 (
.l (.cmp .neq .i64) [(c 0 x13), (i 2)] fun x15 =>
.ite x15 (
.l (.cmp .neq .i64) [(c 0 x13), (i 3)] fun x16 =>
.ite x16 (
.l (.cmp .neq .i64) [(c 0 x13), (i 9)] fun x17 =>
.ite x17 (
.l .cat [(.str ⟨#[40]⟩), x12] fun x18 =>
.l .cat [x18, (.str ⟨#[41]⟩)] fun x19 =>
.l .cat [x10, x19] fun x20 =>
.l .cat [x20, (.str ⟨#[46]⟩)] fun x21 =>
.l (.idx 6 true) [(c 5 x0), (i 1)] fun x22 =>
.call F.ref05_Type [x22] fun x23 =>
.l .cat [x21, x23] fun x24 =>
.ret x24) (
.l .cat [x10, x12] fun x18 =>
.l .cat [x18, (.str ⟨#[46]⟩)] fun x19 =>
.l (.idx 6 true) [(c 5 x0), (i 1)] fun x20 =>
.call F.ref05_Type [x20] fun x21 =>
.l .cat [x19, x21] fun x22 =>
.ret x22)) (
.l .cat [x10, x12] fun x17 =>
.l .cat [x17, (.str ⟨#[46]⟩)] fun x18 =>
.l (.idx 6 true) [(c 5 x0), (i 1)] fun x19 =>
.call F.ref05_Type [x19] fun x20 =>
.l .cat [x18, x20] fun x21 =>
.ret x21)) (
.l .cat [x10, x12] fun x16 =>
.l .cat [x16, (.str ⟨#[46]⟩)] fun x17 =>
.l (.idx 6 true) [(c 5 x0), (i 1)] fun x18 =>
.call F.ref05_Type [x18] fun x19 =>
.l .cat [x17, x19] fun x20 =>
.ret x20)) (
.l .cat [x10, x12] fun x15 =>
.l .cat [x15, (.str ⟨#[46]⟩)] fun x16 =>
.l (.idx 6 true) [(c 5 x0), (i 1)] fun x17 =>
.call F.ref05_Type [x17] fun x18 =>
.l .cat [x16, x18] fun x19 =>
.ret x19)) (
.l (.idx 6 true) [(c 5 x0), (i 0)] fun x10 =>
.call F.ref05_Type [x10] fun x11 =>
.l (.idx 6 true) [(c 5 x0), (i 0)] fun x12 =>
.l (.cmp .neq .i64) [(c 0 x12), (i 1)] fun x13 =>
.ite x13 (
.l (.cmp .neq .i64) [(c 0 x12), (i 2)] fun x14 =>
.ite x14 (
.l (.cmp .neq .i64) [(c 0 x12), (i 3)] fun x15 =>
.ite x15 (
.l (.cmp .neq .i64) [(c 0 x12), (i 9)] fun x16 =>
.ite x16 (
.l .cat [(.str ⟨#[40]⟩), x11] fun x17 =>
.l .cat [x17, (.str ⟨#[41]⟩)] fun x18 =>
.l .cat [x7, x18] fun x19 =>
.l .cat [x19, (.str ⟨#[46]⟩)] fun x20 =>
.l (.idx 6 true) [(c 5 x0), (i 1)] fun x21 =>
.call F.ref05_Type [x21] fun x22 =>
.l .cat [x20, x22] fun x23 =>
.ret x23) (
.l .cat [x7, x11] fun x17 =>
.l .cat [x17, (.str ⟨#[46]⟩)] fun x18 =>
.l (.idx 6 true) [(c 5 x0), (i 1)] fun x19 =>
.call F.ref05_Type [x19] fun x20 =>
.l .cat [x18, x20] fun x21 =>
.ret x21)) (
.l .cat [x7, x11] fun x16 =>
.l .cat [x16, (.str ⟨#[46]⟩)] fun x17 =>
.l (.idx 6 true) [(c 5 x0), (i 1)] fun x18 =>
.call F.ref05_Type [x18] fun x19 =>
.l .cat [x17, x19] fun x20 =>
.ret x20)) (
.l .cat [x7, x11] fun x15 =>
.l .cat [x15, (.str ⟨#[46]⟩)] fun x16 =>
.l (.idx 6 true) [(c 5 x0), (i 1)] fun x17 =>
.call F.ref05_Type [x17] fun x18 =>
.l .cat [x16, x18] fun x19 =>
.ret x19)) (
.l .cat [x7, x11] fun x14 =>
.l .cat [x14, (.str ⟨#[46]⟩)] fun x15 =>
.l (.idx 6 true) [(c 5 x0), (i 1)] fun x16 =>
.call F.ref05_Type [x16] fun x17 =>
.l .cat [x15, x17] fun x18 =>
.ret x18)))) (
.l (.cmp .geq .i64) [(c 0 x0), (i 6)] fun x6 =>
.ite x6 (
.loop [(i 0), (.sl [])] fun y7 =>
.l .len [(c 5 x0)] fun x8 =>
.l (.cmp .lss .i64) [(n y7 0), x8] fun x9 =>
.ite x9 (
.l (.idx 1 false) [(c 4 x0), (n y7 0)] fun x10 =>
.l .cat [x10, (.str ⟨#[58, 32]⟩)] fun x11 =>
.l (.idx 6 true) [(c 5 x0), (n y7 0)] fun x12 =>
.call F.ref05_Type [x12] fun x13 =>
.l .cat [x11, x13] fun x14 =>
.l (.lst 1 false) [x14] fun x15 =>
.l (.app 1 false 16) [(n y7 1), x15] fun x16 =>
.l (.arith .add .i64) [(n y7 0), (i 1)] fun x17 =>
.cont 0 [x17, x16]) (
.l .cat [(.str ⟨#[33]⟩), (.str ⟨#[123]⟩)] fun x10 =>
.call F.ref05_list [(n y7 1), (.str ⟨#[44, 32]⟩)] fun x11 =>
.l .cat [x10, x11] fun x12 =>
.l .cat [x12, (.str ⟨#[125]⟩)] fun x13 =>
.ret x13)) (
.l (.cmp .gtr .i64) [(c 1 x0), (i 0)] fun x7 =>
.ite x7 (
.l .cat [(.str ⟨#[33]⟩), (.str ⟨#[32]⟩)] fun x8 =>
.l (.idx 6 true) [(c 5 x0), (i 0)] fun x9 =>
.call F.ref05_Type [x9] fun x10 =>
.l (.idx 6 true) [(c 5 x0), (i 0)] fun x11 =>
.l (.cmp .neq .i64) [(c 0 x11), (i 1)] fun x12 =>
.ite x12 (
.l (.cmp .neq .i64) [(c 0 x11), (i 2)] fun x13 =>
.ite x13 (
.l (.cmp .neq .i64) [(c 0 x11), (i 3)] fun x14 =>
.ite x14 (
.l (.cmp .neq .i64) [(c 0 x11), (i 9)] fun x15 =>
.ite x15 (
.l .cat [(.str ⟨#[40]⟩), x10] fun x16 =>
.l .cat [x16, (.str ⟨#[41]⟩)] fun x17 =>
.l .cat [x8, x17] fun x18 =>
.l .cat [x18, (.str ⟨#[46]⟩)] fun x19 =>
.l (.idx 6 true) [(c 5 x0), (i 1)] fun x20 =>
.call F.ref05_Type [x20] fun x21 =>
.l .cat [x19, x21] fun x22 =>
.ret x22) (
.l .cat [x8, x10] fun x16 =>
.l .cat [x16, (.str ⟨#[46]⟩)] fun x17 =>
.l (.idx 6 true) [(c 5 x0), (i 1)] fun x18 =>
.call F.ref05_Type [x18] fun x19 =>
.l .cat [x17, x19] fun x20 =>
.ret x20)) (
.l .cat [x8, x10] fun x15 =>
.l .cat [x15, (.str ⟨#[46]⟩)] fun x16 =>
.l (.idx 6 true) [(c 5 x0), (i 1)] fun x17 =>
.call F.ref05_Type [x17] fun x18 =>
.l .cat [x16, x18] fun x19 =>
.ret x19)) (
.l .cat [x8, x10] fun x14 =>
.l .cat [x14, (.str ⟨#[46]⟩)] fun x15 =>
.l (.idx 6 true) [(c 5 x0), (i 1)] fun x16 =>
.call F.ref05_Type [x16] fun x17 =>
.l .cat [x15, x17] fun x18 =>
.ret x18)) (
.l .cat [x8, x10] fun x13 =>
.l .cat [x13, (.str ⟨#[46]⟩)] fun x14 =>
.l (.idx 6 true) [(c 5 x0), (i 1)] fun x15 =>
.call F.ref05_Type [x15] fun x16 =>
.l .cat [x14, x16] fun x17 =>
.ret x17)) (
.l (.idx 6 true) [(c 5 x0), (i 0)] fun x8 =>
.call F.ref05_Type [x8] fun x9 =>
.l (.idx 6 true) [(c 5 x0), (i 0)] fun x10 =>
.l (.cmp .neq .i64) [(c 0 x10), (i 1)] fun x11 =>
.ite x11 (
.l (.cmp .neq .i64) [(c 0 x10), (i 2)] fun x12 =>
.ite x12 (
.l (.cmp .neq .i64) [(c 0 x10), (i 3)] fun x13 =>
.ite x13 (
.l (.cmp .neq .i64) [(c 0 x10), (i 9)] fun x14 =>
.ite x14 (
.l .cat [(.str ⟨#[40]⟩), x9] fun x15 =>
.l .cat [x15, (.str ⟨#[41]⟩)] fun x16 =>
.l .cat [(.str ⟨#[33]⟩), x16] fun x17 =>
.l .cat [x17, (.str ⟨#[46]⟩)] fun x18 =>
.l (.idx 6 true) [(c 5 x0), (i 1)] fun x19 =>
.call F.ref05_Type [x19] fun x20 =>
.l .cat [x18, x20] fun x21 =>
.ret x21) (
.l .cat [(.str ⟨#[33]⟩), x9] fun x15 =>
.l .cat [x15, (.str ⟨#[46]⟩)] fun x16 =>
.l (.idx 6 true) [(c 5 x0), (i 1)] fun x17 =>
.call F.ref05_Type [x17] fun x18 =>
.l .cat [x16, x18] fun x19 =>
.ret x19)) (
.l .cat [(.str ⟨#[33]⟩), x9] fun x14 =>
.l .cat [x14, (.str ⟨#[46]⟩)] fun x15 =>
.l (.idx 6 true) [(c 5 x0), (i 1)] fun x16 =>
.call F.ref05_Type [x16] fun x17 =>
.l .cat [x15, x17] fun x18 =>
.ret x18)) (
.l .cat [(.str ⟨#[33]⟩), x9] fun x13 =>
.l .cat [x13, (.str ⟨#[46]⟩)] fun x14 =>
.l (.idx 6 true) [(c 5 x0), (i 1)] fun x15 =>
.call F.ref05_Type [x15] fun x16 =>
.l .cat [x14, x16] fun x17 =>
.ret x17)) (
.l .cat [(.str ⟨#[33]⟩), x9] fun x12 =>
.l .cat [x12, (.str ⟨#[46]⟩)] fun x13 =>
.l (.idx 6 true) [(c 5 x0), (i 1)] fun x14 =>
.call F.ref05_Type [x14] fun x15 =>
.l .cat [x13, x15] fun x16 =>
.ret x16))))) (
.l (.cmp .eql .i64) [(c 0 x0), (i 5)] fun x5 =>
.ite x5 (
.l (.cmp .gtr .i64) [(c 1 x0), (i 0)] fun x6 =>
.ite x6 (
.call F.ref05_Decimal [(c 1 x0)] fun x7 =>
.l .cat [(.str ⟨#[63]⟩), x7] fun x8 =>
.l (.cmp .geq .i64) [(c 0 x0), (i 6)] fun x9 =>
.ite x9 (
.loop [(i 0), (.sl [])] fun y10 =>
.l .len [(c 5 x0)] fun x11 =>
.l (.cmp .lss .i64) [(n y10 0), x11] fun x12 =>
.ite x12 (
.l (.idx 1 false) [(c 4 x0), (n y10 0)] fun x13 =>
.l .cat [x13, (.str ⟨#[58, 32]⟩)] fun x14 =>
.l (.idx 6 true) [(c 5 x0), (n y10 0)] fun x15 =>
.call F.ref05_Type [x15] fun x16 =>
.l .cat [x14, x16] fun x17 =>
.l (.lst 1 false) [x17] fun x18 =>
.l (.app 1 false 16) [(n y10 1), x18] fun x19 =>
.l (.arith .add .i64) [(n y10 0), (i 1)] fun x20 =>
.cont 0 [x20, x19]) (
.l .cat [x8, (.str ⟨#[123]⟩)] fun x13 =>
.call F.ref05_list [(n y10 1), (.str ⟨#[44, 32]⟩)] fun x14 =>
.l .cat [x13, x14] fun x15 =>
.l .cat [x15, (.str ⟨#[125]⟩)] fun x16 =>
.ret x16)) (
.l (.cmp .gtr .i64) [(c 1 x0), (i 0)] fun x10 =>
.ite x10 (
.l .cat [x8, (.str ⟨#[32]⟩)] fun x11 =>
.l (.idx 6 true) [(c 5 x0), (i 0)] fun x12 =>
.call F.ref05_Type [x12] fun x13 =>
.l (.idx 6 true) [(c 5 x0), (i 0)] fun x14 =>
.l (.cmp .neq .i64) [(c 0 x14), (i 1)] fun x15 =>
.ite x15 (
.l (.cmp .neq .i64) [(c 0 x14), (i 2)] fun x16 =>
.ite x16 (
.l (.cmp .neq .i64) [(c 0 x14), (i 3)] fun x17 =>
.ite x17 (
.l (.cmp .neq .i64) [(c 0 x14), (i 9)] fun x18 =>
.ite x18 (
.l .cat [(.str ⟨#[40]⟩), x13] fun x19 =>
.l .cat [x19, (.str ⟨#[41]⟩)] fun x20 =>
.l .cat [x11, x20] fun x21 =>
.l .cat [x21, (.str ⟨#[46]⟩)] fun x22 =>
.l (.idx 6 true) [(c 5 x0), (i 1)] fun x23 =>
.call F.ref05_Type [x23] fun x24 =>
.l .cat [x22, x24] fun x25 =>
.ret x25) (
.l .cat [x11, x13] fun x19 =>
.l .cat [x19, (.str ⟨#[46]⟩)] fun x20 =>
.l (.idx 6 true) [(c 5 x0), (i 1)] fun x21 =>
.call F.ref05_Type [x21] fun x22 =>
.l .cat [x20, x22] fun x23 =>
.ret x23)) (
.l .cat [x11, x13] fun x18 =>
.l .cat [x18, (.str ⟨#[46]⟩)] fun x19 =>
.l (.idx 6 true) [(c 5 x0), (i 1)] fun x20 =>
.call F.ref05_Type [x20] fun x21 =>
.l .cat [x19, x21] fun x22 =>
.ret x22)) (
.l .cat [x11, x13] fun x17 =>
.l .cat [x17, (.str ⟨#[46]⟩)] fun x18 =>
.l (.idx 6 true) [(c 5 x0), (i 1)] fun x19 =>
.call F.ref05_Type [x19] fun x20 =>
.l .cat [x18, x20] fun x21 =>
.ret x21)) (
.l .cat [x11, x13] fun x16 =>
.l .cat [x16, (.str ⟨#[46]⟩)] fun x17 =>
.l (.idx 6 true) [(c 5 x0), (i 1)] fun x18 =>
.call F.ref05_Type [x18] fun x19 =>
.l .cat [x17, x19] fun x20 =>
.ret x20)) (
.l (.idx 6 true) [(c 5 x0), (i 0)] fun x11 =>
.call F.ref05_Type [x11] fun x12 =>
.l (.idx 6 true) [(c 5 x0), (i 0)] fun x13 =>
.l (.cmp .neq .i64) [(c 0 x13), (i 1)] fun x14 =>
.ite x14 (
.l (.cmp .neq .i64) [(c 0 x13), (i 2)] fun x15 =>
.ite x15 (
.l (.cmp .neq .i64) [(c 0 x13), (i 3)] fun x16 =>
.ite x16 (
.l (.cmp .neq .i64) [(c 0 x13), (i 9)] fun x17 =>
.ite x17 (
.l .cat [(.str ⟨#[40]⟩), x12] fun x18 =>
.l .cat [x18, (.str ⟨#[41]⟩)] fun x19 =>
.l .cat [x8, x19] fun x20 =>
.l .cat [x20, (.str ⟨#[46]⟩)] fun x21 =>
.l (.idx 6 true) [(c 5 x0), (i 1)] fun x22 =>
.call F.ref05_Type [x22] fun x23 =>
.l .cat [x21, x23] fun x24 =>
.ret x24) (
.l .cat [x8, x12] fun x18 =>
.l .cat [x18, (.str ⟨#[46]⟩)] fun x19 =>
.l (.idx 6 true) [(c 5 x0), (i 1)] fun x20 =>
.call F.ref05_Type [x20] fun x21 =>
.l .cat [x19, x21] fun x22 =>
.ret x22)) (
.l .cat [x8, x12] fun x17 =>
.l .cat [x17, (.str ⟨#[46]⟩)] fun x18 =>
.l (.idx 6 true) [(c 5 x0), (i 1)] fun x19 =>
.call F.ref05_Type [x19] fun x20 =>
.l .cat [x18, x20] fun x21 =>
.ret x21)) (
.l .cat [x8, x12] fun x16 =>
.l .cat [x16, (.str ⟨#[46]⟩)] fun x17 =>
.l (.idx 6 true) [(c 5 x0), (i 1)] fun x18 =>
.call F.ref05_Type [x18] fun x19 =>
.l .cat [x17, x19] fun x20 =>
.ret x20)) (
.l .cat [x8, x12] fun x15 =>
.l .cat [x15, (.str ⟨#[46]⟩)] fun x16 =>
.l (.idx 6 true) [(c 5 x0), (i 1)] fun x17 =>
.call F.ref05_Type [x17] fun x18 =>
.l .cat [x16, x18] fun x19 =>
.ret x19)))) (
.l (.cmp .geq .i64) [(c 0 x0), (i 6)] fun x7 =>
.ite x7 (
.loop [(i 0), (.sl [])] fun y8 =>
.l .len [(c 5 x0)] fun x9 =>
.l (.cmp .lss .i64) [(n y8 0), x9] fun x10 =>
.ite x10 (
.l (.idx 1 false) [(c 4 x0), (n y8 0)] fun x11 =>
.l .cat [x11, (.str ⟨#[58, 32]⟩)] fun x12 =>
.l (.idx 6 true) [(c 5 x0), (n y8 0)] fun x13 =>
.call F.ref05_Type [x13] fun x14 =>
.l .cat [x12, x14] fun x15 =>
.l (.lst 1 false) [x15] fun x16 =>
.l (.app 1 false 16) [(n y8 1), x16] fun x17 =>
.l (.arith .add .i64) [(n y8 0), (i 1)] fun x18 =>
.cont 0 [x18, x17]) (
.l .cat [(.str ⟨#[63]⟩), (.str ⟨#[123]⟩)] fun x11 =>
.call F.ref05_list [(n y8 1), (.str ⟨#[44, 32]⟩)] fun x12 =>
.l .cat [x11, x12] fun x13 =>
.l .cat [x13, (.str ⟨#[125]⟩)] fun x14 =>
.ret x14)) (
.l (.cmp .gtr .i64) [(c 1 x0), (i 0)] fun x8 =>
.ite x8 (
.l .cat [(.str ⟨#[63]⟩), (.str ⟨#[32]⟩)] fun x9 =>
.l (.idx 6 true) [(c 5 x0), (i 0)] fun x10 =>
.call F.ref05_Type [x10] fun x11 =>
.l (.idx 6 true) [(c 5 x0), (i 0)] fun x12 =>
.l (.cmp .neq .i64) [(c 0 x12), (i 1)] fun x13 =>
.ite x13 (
.l (.cmp .neq .i64) [(c 0 x12), (i 2)] fun x14 =>
.ite x14 (
.l (.cmp .neq .i64) [(c 0 x12), (i 3)] fun x15 =>
.ite x15 (
.l (.cmp .neq .i64) [(c 0 x12), (i 9)] fun x16 =>
.ite x16 (
.l .cat [(.str ⟨#[40]⟩), x11] fun x17 =>
.l .cat [x17, (.str ⟨#[41]⟩)] fun x18 =>
.l .cat [x9, x18] fun x19 =>
.l .cat [x19, (.str ⟨#[46]⟩)] fun x20 =>
.l (.idx 6 true) [(c 5 x0), (i 1)] fun x21 =>
.call F.ref05_Type [x21] fun x22 =>
.l .cat [x20, x22] fun x23 =>
.ret x23) (
.l .cat [x9, x11] fun x17 =>
.l .cat [x17, (.str ⟨#[46]⟩)] fun x18 =>
.l (.idx 6 true) [(c 5 x0), (i 1)] fun x19 =>
.call F.ref05_Type [x19] fun x20 =>
.l .cat [x18, x20] fun x21 =>
.ret x21)) (
.l .cat [x9, x11] fun x16 =>
.l .cat [x16, (.str ⟨#[46]⟩)] fun x17 =>
.l (.idx 6 true) [(c 5 x0), (i 1)] fun x18 =>
.call F.ref05_Type [x18] fun x19 =>
.l .cat [x17, x19] fun x20 =>
.ret x20)) (
.l .cat [x9, x11] fun x15 =>
.l .cat [x15, (.str ⟨#[46]⟩)] fun x16 =>
.l (.idx 6 true) [(c 5 x0), (i 1)] fun x17 =>
.call F.ref05_Type [x17] fun x18 =>
.l .cat [x16, x18] fun x19 =>
.ret x19)) (
.l .cat [x9, x11] fun x14 =>
.l .cat [x14, (.str ⟨#[46]⟩)] fun x15 =>
.l (.idx 6 true) [(c 5 x0), (i 1)] fun x16 =>
.call F.ref05_Type [x16] fun x17 =>
.l .cat [x15, x17] fun x18 =>
.ret x18)) (
.l (.idx 6 true) [(c 5 x0), (i 0)] fun x9 =>
.call F.ref05_Type [x9] fun x10 =>
.l (.idx 6 true) [(c 5 x0), (i 0)] fun x11 =>
.l (.cmp .neq .i64) [(c 0 x11), (i 1)] fun x12 =>
.ite x12 (
.l (.cmp .neq .i64) [(c 0 x11), (i 2)] fun x13 =>
.ite x13 (
.l (.cmp .neq .i64) [(c 0 x11), (i 3)] fun x14 =>
.ite x14 (
.l (.cmp .neq .i64) [(c 0 x11), (i 9)] fun x15 =>
.ite x15 (
.l .cat [(.str ⟨#[40]⟩), x10] fun x16 =>
.l .cat [x16, (.str ⟨#[41]⟩)] fun x17 =>
.l .cat [(.str ⟨#[63]⟩), x17] fun x18 =>
.l .cat [x18, (.str ⟨#[46]⟩)] fun x19 =>
.l (.idx 6 true) [(c 5 x0), (i 1)] fun x20 =>
.call F.ref05_Type [x20] fun x21 =>
.l .cat [x19, x21] fun x22 =>
.ret x22) (
.l .cat [(.str ⟨#[63]⟩), x10] fun x16 =>
.l .cat [x16, (.str ⟨#[46]⟩)] fun x17 =>
.l (.idx 6 true) [(c 5 x0), (i 1)] fun x18 =>
.call F.ref05_Type [x18] fun x19 =>
.l .cat [x17, x19] fun x20 =>
.ret x20)) (
.l .cat [(.str ⟨#[63]⟩), x10] fun x15 =>
.l .cat [x15, (.str ⟨#[46]⟩)] fun x16 =>
.l (.idx 6 true) [(c 5 x0), (i 1)] fun x17 =>
.call F.ref05_Type [x17] fun x18 =>
.l .cat [x16, x18] fun x19 =>
.ret x19)) (
.l .cat [(.str ⟨#[63]⟩), x10] fun x14 =>
.l .cat [x14, (.str ⟨#[46]⟩)] fun x15 =>
.l (.idx 6 true) [(c 5 x0), (i 1)] fun x16 =>
.call F.ref05_Type [x16] fun x17 =>
.l .cat [x15, x17] fun x18 =>
.ret x18)) (
.l .cat [(.str ⟨#[63]⟩), x10] fun x13 =>
.l .cat [x13, (.str ⟨#[46]⟩)] fun x14 =>
.l (.idx 6 true) [(c 5 x0), (i 1)] fun x15 =>
.call F.ref05_Type [x15] fun x16 =>
.l .cat [x14, x16] fun x17 =>
.ret x17))))) (
.l (.cmp .eql .i64) [(c 0 x0), (i 6)] fun x6 =>
.ite x6 (
.l (.cmp .gtr .i64) [(c 1 x0), (i 0)] fun x7 =>
.ite x7 (
.call F.ref05_Decimal [(c 1 x0)] fun x8 =>
.l .cat [(.str ⟨#[43]⟩), x8] fun x9 =>
.l (.cmp .geq .i64) [(c 0 x0), (i 6)] fun x10 =>
.ite x10 (
.loop [(i 0), (.sl [])] fun y11 =>
.l .len [(c 5 x0)] fun x12 =>
.l (.cmp .lss .i64) [(n y11 0), x12] fun x13 =>
.ite x13 (
.l (.idx 1 false) [(c 4 x0), (n y11 0)] fun x14 =>
.l .cat [x14, (.str ⟨#[58, 32]⟩)] fun x15 =>
.l (.idx 6 true) [(c 5 x0), (n y11 0)] fun x16 =>
.call F.ref05_Type [x16] fun x17 =>
.l .cat [x15, x17] fun x18 =>
.l (.lst 1 false) [x18] fun x19 =>
.l (.app 1 false 16) [(n y11 1), x19] fun x20 =>
.l (.arith .add .i64) [(n y11 0), (i 1)] fun x21 =>
.cont 0 [x21, x20]) (
.l .cat [x9, (.str ⟨#[123]⟩)] fun x14 =>
.call F.ref05_list [(n y11 1), (.str ⟨#[44, 32]⟩)] fun x15 =>
.l .cat [x14, x15] fun x16 =>
.l .cat [x16, (.str ⟨#[125]⟩)] fun x17 =>
.ret x17)) (
.l (.cmp .gtr .i64) [(c 1 x0), (i 0)] fun x11 =>
.ite x11 (
.l .cat [x9, (.str ⟨#[32]⟩)] fun x12 =>
.l (.idx 6 true) [(c 5 x0), (i 0)] fun x13 =>
.call F.ref05_Type [x13] fun x14 =>
.l (.idx 6 true) [(c 5 x0), (i 0)] fun x15 =>
.l (.cmp .neq .i64) [(c 0 x15), (i 1)] fun x16 =>
.ite x16 (
.l (.cmp .neq .i64) [(c 0 x15), (i 2)] fun x17 =>
.ite x17 (
.l (.cmp .neq .i64) [(c 0 x15), (i 3)] fun x18 =>
.ite x18 (
.l (.cmp .neq .i64) [(c 0 x15), (i 9)] fun x19 =>
.ite x19 (
.l .cat [(.str ⟨#[40]⟩), x14] fun x20 =>
.l .cat [x20, (.str ⟨#[41]⟩)] fun x21 =>
.l .cat [x12, x21] fun x22 =>
.l .cat [x22, (.str ⟨#[46]⟩)] fun x23 =>
.l (.idx 6 true) [(c 5 x0), (i 1)] fun x24 =>
.call F.ref05_Type [x24] fun x25 =>
.l .cat [x23, x25] fun x26 =>
.ret x26) (
.l .cat [x12, x14] fun x20 =>
.l .cat [x20, (.str ⟨#[46]⟩)] fun x21 =>
.l (.idx 6 true) [(c 5 x0), (i 1)] fun x22 =>
.call F.ref05_Type [x22] fun x23 =>
.l .cat [x21, x23] fun x24 =>
.ret x24)) (
.l .cat [x12, x14] fun x19 =>
.l .cat [x19, (.str ⟨#[46]⟩)] fun x20 =>
.l (.idx 6 true) [(c 5 x0), (i 1)] fun x21 =>
.call F.ref05_Type [x21] fun x22 =>
.l .cat [x20, x22] fun x23 =>
.ret x23)) (
.l .cat [x12, x14] fun x18 =>
.l .cat [x18, (.str ⟨#[46]⟩)] fun x19 =>
.l (.idx 6 true) [(c 5 x0), (i 1)] fun x20 =>
.call F.ref05_Type [x20] fun x21 =>
.l .cat [x19, x21] fun x22 =>
.ret x22)) (
.l .cat [x12, x14] fun x17 =>
.l .cat [x17, (.str ⟨#[46]⟩)] fun x18 =>
.l (.idx 6 true) [(c 5 x0), (i 1)] fun x19 =>
.call F.ref05_Type [x19] fun x20 =>
.l .cat [x18, x20] fun x21 =>
.ret x21)) (
.l (.idx 6 true) [(c 5 x0), (i 0)] fun x12 =>
.call F.ref05_Type [x12] fun x13 =>
.l (.idx 6 true) [(c 5 x0), (i 0)] fun x14 =>
.l (.cmp .neq .i64) [(c 0 x14), (i 1)] fun x15 =>
.ite x15 (
.l (.cmp .neq .i64) [(c 0 x14), (i 2)] fun x16 =>
.ite x16 (
.l (.cmp .neq .i64) [(c 0 x14), (i 3)] fun x17 =>
.ite x17 (
.l (.cmp .neq .i64) [(c 0 x14), (i 9)] fun x18 =>
.ite x18 (
.l .cat [(.str ⟨#[40]⟩), x13] fun x19 =>
.l .cat [x19, (.str ⟨#[41]⟩)] fun x20 =>
.l .cat [x9, x20] fun x21 =>
.l .cat [x21, (.str ⟨#[46]⟩)] fun x22 =>
.l (.idx 6 true) [(c 5 x0), (i 1)] fun x23 =>
.call F.ref05_Type [x23] fun x24 =>
.l .cat [x22, x24] fun x25 =>
.ret x25) (
.l .cat [x9, x13] fun x19 =>
.l .cat [x19, (.str ⟨#[46]⟩)] fun x20 =>
.l (.idx 6 true) [(c 5 x0), (i 1)] fun x21 =>
.call F.ref05_Type [x21] fun x22 =>
.l .cat [x20, x22] fun x23 =>
.ret x23)) (
.l .cat [x9, x13] fun x18 =>
.l .cat [x18, (.str ⟨#[46]⟩)] fun x19 =>
.l (.idx 6 true) [(c 5 x0), (i 1)] fun x20 =>
.call F.ref05_Type [x20] fun x21 =>
.l .cat [x19, x21] fun x22 =>
.ret x22)) (
.l .cat [x9, x13] fun x17 =>
.l .cat [x17, (.str ⟨#[46]⟩)] fun x18 =>
.l (.idx 6 true) [(c 5 x0), (i 1)] fun x19 =>
.call F.ref05_Type [x19] fun x20 =>
.l .cat [x18, x20] fun x21 =>
.ret x21)) (
.l .cat [x9, x13] fun x16 =>
.l .cat [x16, (.str ⟨#[46]⟩)] fun x17 =>
.l (.idx 6 true) [(c 5 x0), (i 1)] fun x18 =>
.call F.ref05_Type [x18] fun x19 =>
.l .cat [x17, x19] fun x20 =>
.ret x20)))) (
.l (.cmp .geq .i64) [(c 0 x0), (i 6)] fun x8 =>
.ite x8 (
.loop [(i 0), (.sl [])] fun y9 =>
.l .len [(c 5 x0)] fun x10 =>
.l (.cmp .lss .i64) [(n y9 0), x10] fun x11 =>
.ite x11 (
.l (.idx 1 false) [(c 4 x0), (n y9 0)] fun x12 =>
.l .cat [x12, (.str ⟨#[58, 32]⟩)] fun x13 =>
.l (.idx 6 true) [(c 5 x0), (n y9 0)] fun x14 =>
.call F.ref05_Type [x14] fun x15 =>
.l .cat [x13, x15] fun x16 =>
.l (.lst 1 false) [x16] fun x17 =>
.l (.app 1 false 16) [(n y9 1), x17] fun x18 =>
.l (.arith .add .i64) [(n y9 0), (i 1)] fun x19 =>
.cont 0 [x19, x18]) (
.l .cat [(.str ⟨#[43]⟩), (.str ⟨#[123]⟩)] fun x12 =>
.call F.ref05_list [(n y9 1), (.str ⟨#[44, 32]⟩)] fun x13 =>
.l .cat [x12, x13] fun x14 =>
.l .cat [x14, (.str ⟨#[125]⟩)] fun x15 =>
.ret x15)) (
.l (.cmp .gtr .i64) [(c 1 x0), (i 0)] fun x9 =>
.ite x9 (
.l .cat [(.str ⟨#[43]⟩), (.str ⟨#[32]⟩)] fun x10 =>
.l (.idx 6 true) [(c 5 x0), (i 0)] fun x11 =>
.call F.ref05_Type [x11] fun x12 =>
.l (.idx 6 true) [(c 5 x0), (i 0)] fun x13 =>
.l (.cmp .neq .i64) [(c 0 x13), (i 1)] fun x14 =>
.ite x14 (
.l (.cmp .neq .i64) [(c 0 x13), (i 2)] fun x15 =>
.ite x15 (
.l (.cmp .neq .i64) [(c 0 x13), (i 3)] fun x16 =>
.ite x16 (
.l (.cmp .neq .i64) [(c 0 x13), (i 9)] fun x17 =>
.ite x17 (
.l .cat [(.str ⟨#[40]⟩), x12] fun x18 =>
.l .cat [x18, (.str ⟨#[41]⟩)] fun x19 =>
.l .cat [x10, x19] fun x20 =>
.l .cat [x20, (.str ⟨#[46]⟩)] fun x21 =>
.l (.idx 6 true) [(c 5 x0), (i 1)] fun x22 =>
.call F.ref05_Type [x22] fun x23 =>
.l .cat [x21, x23] fun x24 =>
.ret x24) (
.l .cat [x10, x12] fun x18 =>
.l .cat [x18, (.str ⟨#[46]⟩)] fun x19 =>
.l (.idx 6 true) [(c 5 x0), (i 1)] fun x20 =>
.call F.ref05_Type [x20] fun x21 =>
.l .cat [x19, x21] fun x22 =>
.ret x22)) (
.l .cat [x10, x12] fun x17 =>
.l .cat [x17, (.str ⟨#[46]⟩)] fun x18 =>
.l (.idx 6 true) [(c 5 x0), (i 1)] fun x19 =>
.call F.ref05_Type [x19] fun x20 =>
.l .cat [x18, x20] fun x21 =>
.ret x21)) (
.l .cat [x10, x12] fun x16 =>
.l .cat [x16, (.str ⟨#[46]⟩)] fun x17 =>
.l (.idx 6 true) [(c 5 x0), (i 1)] fun x18 =>
.call F.ref05_Type [x18] fun x19 =>
.l .cat [x17, x19] fun x20 =>
.ret x20)) (
.l .cat [x10, x12] fun x15 =>
.l .cat [x15, (.str ⟨#[46]⟩)] fun x16 =>
.l (.idx 6 true) [(c 5 x0), (i 1)] fun x17 =>
.call F.ref05_Type [x17] fun x18 =>
.l .cat [x16, x18] fun x19 =>
.ret x19)) (
.l (.idx 6 true) [(c 5 x0), (i 0)] fun x10 =>
.call F.ref05_Type [x10] fun x11 =>
.l (.idx 6 true) [(c 5 x0), (i 0)] fun x12 =>
.l (.cmp .neq .i64) [(c 0 x12), (i 1)] fun x13 =>
.ite x13 (
.l (.cmp .neq .i64) [(c 0 x12), (i 2)] fun x14 =>
.ite x14 (
.l (.cmp .neq .i64) [(c 0 x12), (i 3)] fun x15 =>
.ite x15 (
.l (.cmp .neq .i64) [(c 0 x12), (i 9)] fun x16 =>
.ite x16 (
.l .cat [(.str ⟨#[40]⟩), x11] fun x17 =>
.l .cat [x17, (.str ⟨#[41]⟩)] fun x18 =>
.l .cat [(.str ⟨#[43]⟩), x18] fun x19 =>
.l .cat [x19, (.str ⟨#[46]⟩)] fun x20 =>
.l (.idx 6 true) [(c 5 x0), (i 1)] fun x21 =>
.call F.ref05_Type [x21] fun x22 =>
.l .cat [x20, x22] fun x23 =>
.ret x23) (
.l .cat [(.str ⟨#[43]⟩), x11] fun x17 =>
.l .cat [x17, (.str ⟨#[46]⟩)] fun x18 =>
.l (.idx 6 true) [(c 5 x0), (i 1)] fun x19 =>
.call F.ref05_Type [x19] fun x20 =>
.l .cat [x18, x20] fun x21 =>
.ret x21)) (
.l .cat [(.str ⟨#[43]⟩), x11] fun x16 =>
.l .cat [x16, (.str ⟨#[46]⟩)] fun x17 =>
.l (.idx 6 true) [(c 5 x0), (i 1)] fun x18 =>
.call F.ref05_Type [x18] fun x19 =>
.l .cat [x17, x19] fun x20 =>
.ret x20)) (
.l .cat [(.str ⟨#[43]⟩), x11] fun x15 =>
.l .cat [x15, (.str ⟨#[46]⟩)] fun x16 =>
.l (.idx 6 true) [(c 5 x0), (i 1)] fun x17 =>
.call F.ref05_Type [x17] fun x18 =>
.l .cat [x16, x18] fun x19 =>
.ret x19)) (
.l .cat [(.str ⟨#[43]⟩), x11] fun x14 =>
.l .cat [x14, (.str ⟨#[46]⟩)] fun x15 =>
.l (.idx 6 true) [(c 5 x0), (i 1)] fun x16 =>
.call F.ref05_Type [x16] fun x17 =>
.l .cat [x15, x17] fun x18 =>
.ret x18))))) (
.l (.cmp .eql .i64) [(c 0 x0), (i 7)] fun x7 =>
.ite x7 (
.l (.cmp .gtr .i64) [(c 1 x0), (i 0)] fun x8 =>
.ite x8 (
.call F.ref05_Decimal [(c 1 x0)] fun x9 =>
.l .cat [(.str ⟨#[38]⟩), x9] fun x10 =>
.l (.cmp .geq .i64) [(c 0 x0), (i 6)] fun x11 =>
.ite x11 (
.loop [(i 0), (.sl [])] fun y12 =>
.l .len [(c 5 x0)] fun x13 =>
.l (.cmp .lss .i64) [(n y12 0), x13] fun x14 =>
.ite x14 (
.l (.idx 1 false) [(c 4 x0), (n y12 0)] fun x15 =>
.l .cat [x15, (.str ⟨#[58, 32]⟩)] fun x16 =>
.l (.idx 6 true) [(c 5 x0), (n y12 0)] fun x17 =>
.call F.ref05_Type [x17] fun x18 =>
.l .cat [x16, x18] fun x19 =>
.l (.lst 1 false) [x19] fun x20 =>
.l (.app 1 false 16) [(n y12 1), x20] fun x21 =>
.l (.arith .add .i64) [(n y12 0), (i 1)] fun x22 =>
.cont 0 [x22, x21]) (
.l .cat [x10, (.str ⟨#[123]⟩)] fun x15 =>
.call F.ref05_list [(n y12 1), (.str ⟨#[44, 32]⟩)] fun x16 =>
.l .cat [x15, x16] fun x17 =>
.l .cat [x17, (.str ⟨#[125]⟩)] fun x18 =>
.ret x18)) (
.l (.cmp .gtr .i64) [(c 1 x0), (i 0)] fun x12 =>
.ite x12 (
.l .cat [x10, (.str ⟨#[32]⟩)] fun x13 =>
.l (.idx 6 true) [(c 5 x0), (i 0)] fun x14 =>
.call F.ref05_Type [x14] fun x15 =>
.l (.idx 6 true) [(c 5 x0), (i 0)] fun x16 =>
.l (.cmp .neq .i64) [(c 0 x16), (i 1)] fun x17 =>
.ite x17 (
.l (.cmp .neq .i64) [(c 0 x16), (i 2)] fun x18 =>
.ite x18 (
.l (.cmp .neq .i64) [(c 0 x16), (i 3)] fun x19 =>
.ite x19 (
.l (.cmp .neq .i64) [(c 0 x16), (i 9)] fun x20 =>
.ite x20 (
.l .cat [(.str ⟨#[40]⟩), x15] fun x21 =>
.l .cat [x21, (.str ⟨#[41]⟩)] fun x22 =>
.l .cat [x13, x22] fun x23 =>
.l .cat [x23, (.str ⟨#[46]⟩)] fun x24 =>
.l (.idx 6 true) [(c 5 x0), (i 1)] fun x25 =>
.call F.ref05_Type [x25] fun x26 =>
.l .cat [x24, x26] fun x27 =>
.ret x27) (
.l .cat [x13, x15] fun x21 =>
.l .cat [x21, (.str ⟨#[46]⟩)] fun x22 =>
.l (.idx 6 true) [(c 5 x0), (i 1)] fun x23 =>
.call F.ref05_Type [x23] fun x24 =>
.l .cat [x22, x24] fun x25 =>
.ret x25)) (
.l .cat [x13, x15] fun x20 =>
.l .cat [x20, (.str ⟨#[46]⟩)] fun x21 =>
.l (.idx 6 true) [(c 5 x0), (i 1)] fun x22 =>
.call F.ref05_Type [x22] fun x23 =>
.l .cat [x21, x23] fun x24 =>
.ret x24)) (
.l .cat [x13, x15] fun x19 =>
.l .cat [x19, (.str ⟨#[46]⟩)] fun x20 =>
.l (.idx 6 true) [(c 5 x0), (i 1)] fun x21 =>
.call F.ref05_Type [x21] fun x22 =>
.l .cat [x20, x22] fun x23 =>
.ret x23)) (
.l .cat [x13, x15] fun x18 =>
.l .cat [x18, (.str ⟨#[46]⟩)] fun x19 =>
.l (.idx 6 true) [(c 5 x0), (i 1)] fun x20 =>
.call F.ref05_Type [x20] fun x21 =>
.l .cat [x19, x21] fun x22 =>
.ret x22)) (
.l (.idx 6 true) [(c 5 x0), (i 0)] fun x13 =>
.call F.ref05_Type [x13] fun x14 =>
.l (.idx 6 true) [(c 5 x0), (i 0)] fun x15 =>
.l (.cmp .neq .i64) [(c 0 x15), (i 1)] fun x16 =>
.ite x16 (
.l (.cmp .neq .i64) [(c 0 x15), (i 2)] fun x17 =>
.ite x17 (
.l (.cmp .neq .i64) [(c 0 x15), (i 3)] fun x18 =>
.ite x18 (
.l (.cmp .neq .i64) [(c 0 x15), (i 9)] fun x19 =>
.ite x19 (
.l .cat [(.str ⟨#[40]⟩), x14] fun x20 =>
.l .cat [x20, (.str ⟨#[41]⟩)] fun x21 =>
.l .cat [x10, x21] fun x22 =>
.l .cat [x22, (.str ⟨#[46]⟩)] fun x23 =>
.l (.idx 6 true) [(c 5 x0), (i 1)] fun x24 =>
.call F.ref05_Type [x24] fun x25 =>
.l .cat [x23, x25] fun x26 =>
.ret x26) (
.l .cat [x10, x14] fun x20 =>
.l .cat [x20, (.str ⟨#[46]⟩)] fun x21 =>
.l (.idx 6 true) [(c 5 x0), (i 1)] fun x22 =>
.call F.ref05_Type [x22] fun x23 =>
.l .cat [x21, x23] fun x24 =>
.ret x24)) (
.l .cat [x10, x14] fun x19 =>
.l .cat [x19, (.str ⟨#[46]⟩)] fun x20 =>
.l (.idx 6 true) [(c 5 x0), (i 1)] fun x21 =>
.call F.ref05_Type [x21] fun x22 =>
.l .cat [x20, x22] fun x23 =>
.ret x23)) (
.l .cat [x10, x14] fun x18 =>
.l .cat [x18, (.str ⟨#[46]⟩)] fun x19 =>
.l (.idx 6 true) [(c 5 x0), (i 1)] fun x20 =>
.call F.ref05_Type [x20] fun x21 =>
.l .cat [x19, x21] fun x22 =>
.ret x22)) (
.l .cat [x10, x14] fun x17 =>
.l .cat [x17, (.str ⟨#[46]⟩)] fun x18 =>
.l (.idx 6 true) [(c 5 x0), (i 1)] fun x19 =>
.call F.ref05_Type [x19] fun x20 =>
.l .cat [x18, x20] fun x21 =>
.ret x21)))) (
.l (.cmp .geq .i64) [(c 0 x0), (i 6)] fun x9 =>
.ite x9 (
.loop [(i 0), (.sl [])] fun y10 =>
.l .len [(c 5 x0)] fun x11 =>
.l (.cmp .lss .i64) [(n y10 0), x11] fun x12 =>
.ite x12 (
.l (.idx 1 false) [(c 4 x0), (n y10 0)] fun x13 =>
.l .cat [x13, (.str ⟨#[58, 32]⟩)] fun x14 =>
.l (.idx 6 true) [(c 5 x0), (n y10 0)] fun x15 =>
.call F.ref05_Type [x15] fun x16 =>
.l .cat [x14, x16] fun x17 =>
.l (.lst 1 false) [x17] fun x18 =>
.l (.app 1 false 16) [(n y10 1), x18] fun x19 =>
.l (.arith .add .i64) [(n y10 0), (i 1)] fun x20 =>
.cont 0 [x20, x19]) (
.l .cat [(.str ⟨#[38]⟩), (.str ⟨#[123]⟩)] fun x13 =>
.call F.ref05_list [(n y10 1), (.str ⟨#[44, 32]⟩)] fun x14 =>
.l .cat [x13, x14] fun x15 =>
.l .cat [x15, (.str ⟨#[125]⟩)] fun x16 =>
.ret x16)) (
.l (.cmp .gtr .i64) [(c 1 x0), (i 0)] fun x10 =>
.ite x10 (
.l .cat [(.str ⟨#[38]⟩), (.str ⟨#[32]⟩)] fun x11 =>
.l (.idx 6 true) [(c 5 x0), (i 0)] fun x12 =>
.call F.ref05_Type [x12] fun x13 =>
.l (.idx 6 true) [(c 5 x0), (i 0)] fun x14 =>
.l (.cmp .neq .i64) [(c 0 x14), (i 1)] fun x15 =>
.ite x15 (
.l (.cmp .neq .i64) [(c 0 x14), (i 2)] fun x16 =>
.ite x16 (
.l (.cmp .neq .i64) [(c 0 x14), (i 3)] fun x17 =>
.ite x17 (
.l (.cmp .neq .i64) [(c 0 x14), (i 9)] fun x18 =>
.ite x18 (
.l .cat [(.str ⟨#[40]⟩), x13] fun x19 =>
.l .cat [x19, (.str ⟨#[41]⟩)] fun x20 =>
.l .cat [x11, x20] fun x21 =>
.l .cat [x21, (.str ⟨#[46]⟩)] fun x22 =>
.l (.idx 6 true) [(c 5 x0), (i 1)] fun x23 =>
.call F.ref05_Type [x23] fun x24 =>
.l .cat [x22, x24] fun x25 =>
.ret x25) (
.l .cat [x11, x13] fun x19 =>
.l .cat [x19, (.str ⟨#[46]⟩)] fun x20 =>
.l (.idx 6 true) [(c 5 x0), (i 1)] fun x21 =>
.call F.ref05_Type [x21] fun x22 =>
.l .cat [x20, x22] fun x23 =>
.ret x23)) (
.l .cat [x11, x13] fun x18 =>
.l .cat [x18, (.str ⟨#[46]⟩)] fun x19 =>
.l (.idx 6 true) [(c 5 x0), (i 1)] fun x20 =>
.call F.ref05_Type [x20] fun x21 =>
.l .cat [x19, x21] fun x22 =>
.ret x22)) (
.l .cat [x11, x13] fun x17 =>
.l .cat [x17, (.str ⟨#[46]⟩)] fun x18 =>
.l (.idx 6 true) [(c 5 x0), (i 1)] fun x19 =>
.call F.ref05_Type [x19] fun x20 =>
.l .cat [x18, x20] fun x21 =>
.ret x21)) (
.l .cat [x11, x13] fun x16 =>
.l .cat [x16, (.str ⟨#[46]⟩)] fun x17 =>
.l (.idx 6 true) [(c 5 x0), (i 1)] fun x18 =>
.call F.ref05_Type [x18] fun x19 =>
.l .cat [x17, x19] fun x20 =>
.ret x20)) (
.l (.idx 6 true) [(c 5 x0), (i 0)] fun x11 =>
.call F.ref05_Type [x11] fun x12 =>
.l (.idx 6 true) [(c 5 x0), (i 0)] fun x13 =>
.l (.cmp .neq .i64) [(c 0 x13), (i 1)] fun x14 =>
.ite x14 (
.l (.cmp .neq .i64) [(c 0 x13), (i 2)] fun x15 =>
.ite x15 (
.l (.cmp .neq .i64) [(c 0 x13), (i 3)] fun x16 =>
.ite x16 (
.l (.cmp .neq .i64) [(c 0 x13), (i 9)] fun x17 =>
.ite x17 (
.l .cat [(.str ⟨#[40]⟩), x12] fun x18 =>
.l .cat [x18, (.str ⟨#[41]⟩)] fun x19 =>
.l .cat [(.str ⟨#[38]⟩), x19] fun x20 =>
.l .cat [x20, (.str ⟨#[46]⟩)] fun x21 =>
.l (.idx 6 true) [(c 5 x0), (i 1)] fun x22 =>
.call F.ref05_Type [x22] fun x23 =>
.l .cat [x21, x23] fun x24 =>
.ret x24) (
.l .cat [(.str ⟨#[38]⟩), x12] fun x18 =>
.l .cat [x18, (.str ⟨#[46]⟩)] fun x19 =>
.l (.idx 6 true) [(c 5 x0), (i 1)] fun x20 =>
.call F.ref05_Type [x20] fun x21 =>
.l .cat [x19, x21] fun x22 =>
.ret x22)) (
.l .cat [(.str ⟨#[38]⟩), x12] fun x17 =>
.l .cat [x17, (.str ⟨#[46]⟩)] fun x18 =>
.l (.idx 6 true) [(c 5 x0), (i 1)] fun x19 =>
.call F.ref05_Type [x19] fun x20 =>
.l .cat [x18, x20] fun x21 =>
.ret x21)) (
.l .cat [(.str ⟨#[38]⟩), x12] fun x16 =>
.l .cat [x16, (.str ⟨#[46]⟩)] fun x17 =>
.l (.idx 6 true) [(c 5 x0), (i 1)] fun x18 =>
.call F.ref05_Type [x18] fun x19 =>
.l .cat [x17, x19] fun x20 =>
.ret x20)) (
.l .cat [(.str ⟨#[38]⟩), x12] fun x15 =>
.l .cat [x15, (.str ⟨#[46]⟩)] fun x16 =>
.l (.idx 6 true) [(c 5 x0), (i 1)] fun x17 =>
.call F.ref05_Type [x17] fun x18 =>
.l .cat [x16, x18] fun x19 =>
.ret x19))))) (
.l (.cmp .eql .i64) [(c 0 x0), (i 8)] fun x8 =>
.ite x8 (
.l .cat [(.str ⟨#[114, 101, 99, 32]⟩), (c 2 x0)] fun x9 =>
.l .cat [x9, (.str ⟨#[46]⟩)] fun x10 =>
.l (.idx 6 true) [(c 5 x0), (i 0)] fun x11 =>
.call F.ref05_Type [x11] fun x12 =>
.l .cat [x10, x12] fun x13 =>
.ret x13) (
.l (.cmp .gtr .i64) [(c 3 x0), (i 0)] fun x9 =>
.ite x9 (
.l .cat [(c 2 x0), (.str ⟨#[43]⟩)] fun x10 =>
.call F.ref05_Decimal [(c 3 x0)] fun x11 =>
.l .cat [x10, x11] fun x12 =>
.ret x12) (
.ret (c 2 x0))))))))))
theorem k_ref05_Type : TxOk P F.ref05_Type 1 t_ref05_Type := txOk_of (H := {}) (plans := []) hm Tryz.func16 rfl rfl fun xs => by kernel_rfl
def t_ref02_Few (xs : List PV) : T PV :=
.l (.okc 6 true) [(n xs 0)] fun x0 =>
.call F.ref02_count [x0, (n xs 1)] fun x1 =>
.l (.cmp .geq .i64) [x1, (i 0)] fun x2 =>
.ite x2 (
.call F.ref02_Depth [x0] fun x3 =>
.l (.cmp .leq .i64) [x3, (i 150)] fun x4 =>
.ret x4) (
.ret (.bool false))
theorem k_ref02_Few : TxOk P F.ref02_Few 2 t_ref02_Few := txOk_of (H := {}) (plans := []) hm Tryz.func18 rfl rfl fun xs => by kernel_rfl
def t_ref02_Right (xs : List PV) : T PV :=
.l (.okc 6 true) [(n xs 0)] fun x0 =>
.call F.ref02_Depth [x0] fun x1 =>
.l (.cmp .gtr .i64) [x1, (i 100)] fun x2 =>
.ite x2 (
.ret (i 2)) (
.call F.ref02_Size [x0] fun x3 =>
.l (.cmp .gtr .i64) [x3, (i 10000)] fun x4 =>
.ite x4 (
.ret (i 2)) (
.call F.ref02_node [x0, (.sl []), (i 0), (.bool false)] fun x5 =>
.ret x5))
theorem k_ref02_Right : TxOk P F.ref02_Right 1 t_ref02_Right := txOk_of (H := {}) (plans := []) hm Tryz.func19 rfl rfl fun xs => by kernel_rfl
def t_law12_tall (xs : List PV) : T PV :=
.l (.okc 6 true) [(n xs 0)] fun x0 =>
.l (.cmp .gtr .i64) [(c 1 x0), (i 1000000)] fun x1 =>
.ite x1 (
.ret (.bool true)) (
.l (.cmp .gtr .i64) [(c 3 x0), (i 1000000)] fun x2 =>
.ite x2 (
.ret (.bool true)) (
.loop [(i 0)] fun y3 =>
.l .len [(c 5 x0)] fun x4 =>
.l (.cmp .lss .i64) [(n y3 0), x4] fun x5 =>
.ite x5 (
.l (.idx 6 true) [(c 5 x0), (n y3 0)] fun x6 =>
.call F.law12_tall [x6] fun x7 =>
.ite x7 (
.ret (.bool true)) (
.l (.arith .add .i64) [(n y3 0), (i 1)] fun x8 =>
.cont 0 [x8])) (
.ret (.bool false))))
theorem k_law12_tall : TxOk P F.law12_tall 1 t_law12_tall := txOk_of (H := {}) (plans := []) hm Tryz.func20 rfl rfl fun xs => by kernel_rfl
def t_equal_Equal (xs : List PV) : T PV :=
.l (.okc 1 true) [(n xs 0)] fun x0 =>
.l (.okc 2 true) [(n xs 1)] fun x1 =>
.l (.okc 2 true) [(n xs 2)] fun x2 =>
.l (.okcs [(1, true), (1, false)]) [x0, (.fn F.equal_Equal_1 [] [(.box x0)])] fun x3 =>
.calls F.equal_comparison_equal sg_equal_comparison_equal [x1, x2, (c 0 x0), (.fn F.equal_Equal_1 [] [(.box x0)]), (.bool false), (.mp [] [])] fun z4 =>
.ret (n z4 0)
theorem k_equal_Equal : TxOk P F.equal_Equal 3 t_equal_Equal := txOk_of (H := { wr := [0, 1, 2, 3, 4, 5, 6, 7, 8, 9, 10, 11, 12, 13, 14, 15, 16, 17, 18, 19, 20, 21, 22, 23, 24, 25, 26, 27, 28, 29, 30, 31, 32, 33, 34, 35, 36, 37, 38, 39], ro := [], nl := [], fz := [], da := [], sigs := [(42, sg_equal_comparison_equal)] }) (plans := []) hm Tryz.func21 rfl rfl fun xs => by kernel_rfl
def t_ref02_Session (xs : List PV) : T PV :=
.l (.okc 6 true) [(n xs 0)] fun x0 =>
.l (.cmp .neq .i64) [(c 0 x0), (i 1)] fun x1 =>
.ite x1 (
.l (.cmp .neq .i64) [(c 0 x0), (i 2)] fun x2 =>
.ret x2) (
.ret (.bool false))
theorem k_ref02_Session : TxOk P F.ref02_Session 1 t_ref02_Session := txOk_of (H := {}) (plans := []) hm Tryz.func23 rfl rfl fun xs => by kernel_rfl
def t_ref07_Build (xs : List PV) : T PV :=
.loop [(i 0), (.sl []), (.sl [])] fun y0 =>
.l .len [(n xs 0)] fun x1 =>
.l (.cmp .lss .i64) [(n y0 0), x1] fun x2 =>
.ite x2 (
.l (.idx 6 true) [(n xs 0), (n y0 0)] fun x3 =>
.l .len [(n y0 2)] fun x4 =>
.call F.ref07_reference [x3, x4, (.sl []), (.sl [])] fun x5 =>
.l (.lst 2 true) [x5] fun x6 =>
.l (.app 2 true 16) [(n y0 1), x6] fun x7 =>
.l (.idx 6 true) [(n xs 0), (n y0 0)] fun x8 =>
.l .len [(n y0 2)] fun x9 =>
.call F.ref07_nodes [x8, x9, (.sl []), (.sl [])] fun x10 =>
.l (.app 4 true 64) [(n y0 2), x10] fun x11 =>
.l (.arith .add .i64) [(n y0 0), (i 1)] fun x12 =>
.cont 0 [x12, x7, x11]) (
.ret (.tup [(n y0 2), (n y0 1)]))
theorem k_ref07_Build : TxOk P F.ref07_Build 1 t_ref07_Build := txOk_of (H := {}) (plans := []) hm Tryz.func27 rfl rfl fun xs => by kernel_rfl
def t_ref02_texts (xs : List PV) : T PV :=
.l .len [(n xs 0)] fun x0 =>
.l .len [(n xs 1)] fun x1 =>
.l (.cmp .neq .i64) [x0, x1] fun x2 =>
.ite x2 (
.ret (.bool false)) (
.loop [(i 0)] fun y3 =>
.l .len [(n xs 0)] fun x4 =>
.l (.cmp .lss .i64) [(n y3 0), x4] fun x5 =>
.ite x5 (
.l (.idx 1 false) [(n xs 0), (n y3 0)] fun x6 =>
.l (.idx 1 false) [(n xs 1), (n y3 0)] fun x7 =>
.l (.scmp .neq) [x6, x7] fun x8 =>
.ite x8 (
.ret (.bool false)) (
.l (.arith .add .i64) [(n y3 0), (i 1)] fun x9 =>
.cont 0 [x9])) (
.ret (.bool true)))
theorem k_ref02_texts : TxOk P F.ref02_texts 2 t_ref02_texts := txOk_of (H := {}) (plans := []) hm Tryz.func29 rfl rfl fun xs => by kernel_rfl
-- NOT TOLD: 30 (*duologue/readback.reader).tree: 2
def u_readback_reader_tree (xs : List PV) : T PV :=
.l (.okc 2 true) [(n xs 0)] fun x0 =>
.call F.head_Prio [(.agg [(n xs 1)]), x0] fun x1 =>
.l (.tc 0) [x1] fun x2 =>
.l (.tc 1) [x1] fun x3 =>
.l .bnot [x3] fun x4 =>
.ite x4 (
.call F.head_Kind [(.agg [(n xs 1)]), x0] fun x5 =>
.l (.okcs [(1, false)]) [x5] fun x6 =>
.ret (.tup [(.agg [x5, (i 0), (.str ⟨#[]⟩), (i 0), (.sl []), (.sl [])]), (n xs 1), (n xs 2), (n xs 3)])) (
.call F.readback_reader_find [(.box (.agg [(n xs 1), (n xs 2), (n xs 3)])), x0] fun x5 =>
.l .gnd [x5] fun x6 =>
.l (.tc 0) [x6] fun x7 =>
.l (.tc 1) [x6] fun x8 =>
.l (.tc 2) [x6] fun x9 =>
.ite x9 (
.l (.mset false [.i .i64]) [(n xs 3), x7, (.bool true)] fun x10 =>
.call F.readback_name [x7] fun x11 =>
.l (.okcs [(1, false), (1, false)]) [x11, x8] fun x12 =>
.ret (.tup [(.agg [(i 9), (i 0), x11, x8, (.sl []), (.sl [])]), (n xs 1), (n xs 2), x10])) (
.l .len [(n xs 2)] fun x10 =>
.l (.lst 2 true) [x0] fun x11 =>
.l (.app 2 true 16) [(n xs 2), x11] fun x12 =>
.l (.idx 4 true) [(n xs 1), (c 0 x0)] fun x13 =>
.l .len [(c 2 x13)] fun x14 =>
.l (.cmp .gtr .i64) [x14, (i 0)] fun x15 =>
.ite x15 (
.callvs (.fn F.readback_reader_choice [] []) sg_readback_reader_tree [x0, (n xs 1), x12, (n xs 3)] fun z16 =>
.l (.okc 6 true) [(n z16 0)] fun x17 =>
.call F.head_Kind [(.agg [(n z16 1)]), x0] fun x18 =>
.l (.okc 1 false) [x18] fun x19 =>
.l (.okc 1 false) [x2] fun x20 =>
.l (.slcT 2 true) [(n z16 2), x10] fun x21 =>
.l (.mget false [.i .i64] (.bool false)) [(n z16 3), x10] fun x22 =>
.ite x22 (
.l (.mdel false [.i .i64]) [(n z16 3), x10] fun x23 =>
.call F.readback_name [x10] fun x24 =>
.l (.lst 6 true) [(.agg [x19, x20, (c 2 x17), (c 3 x17), (c 4 x17), (c 5 x17)])] fun x25 =>
.l (.okcs [(1, false)]) [x24] fun x26 =>
.ret (.tup [(.agg [(i 8), (i 0), x24, (i 0), (.sl []), x25]), (n z16 1), x21, x23])) (
.ret (.tup [(.agg [x19, x20, (c 2 x17), (c 3 x17), (c 4 x17), (c 5 x17)]), (n z16 1), x21, (n z16 3)]))) (
.callvs (.fn F.readback_reader_plain [] []) sg_readback_reader_tree [x0, (n xs 1), x12, (n xs 3)] fun z16 =>
.l (.okc 6 true) [(n z16 0)] fun x17 =>
.call F.head_Kind [(.agg [(n z16 1)]), x0] fun x18 =>
.l (.okc 1 false) [x18] fun x19 =>
.l (.okc 1 false) [x2] fun x20 =>
.l (.slcT 2 true) [(n z16 2), x10] fun x21 =>
.l (.mget false [.i .i64] (.bool false)) [(n z16 3), x10] fun x22 =>
.ite x22 (
.l (.mdel false [.i .i64]) [(n z16 3), x10] fun x23 =>
.call F.readback_name [x10] fun x24 =>
.l (.lst 6 true) [(.agg [x19, x20, (c 2 x17), (c 3 x17), (c 4 x17), (c 5 x17)])] fun x25 =>
.l (.okcs [(1, false)]) [x24] fun x26 =>
.ret (.tup [(.agg [(i 8), (i 0), x24, (i 0), (.sl []), x25]), (n z16 1), x21, x23])) (
.ret (.tup [(.agg [x19, x20, (c 2 x17), (c 3 x17), (c 4 x17), (c 5 x17)]), (n z16 1), x21, (n z16 3)])))))
theorem m_readback_reader_tree : TxOkS P F.readback_reader_tree sg_readback_reader_tree u_readback_reader_tree := txOkS_of (H := { wr := [60], ro := [61], nl := [], fz := [], da := [], sigs := [(1000078, sg_readback_reader_tree), (30, sg_readback_reader_tree), (63, sg_readback_reader_plain), (64, sg_readback_reader_choice)] }) (plans := []) hm Tryz.func30 rfl fun xs => by kernel_rfl
def u_readback_reader_tree_Nil (xs : List PV) : T PV :=
.l (.okc 2 true) [(n xs 0)] fun x0 =>
.call F.head_Prio [(.agg [(n xs 1)]), x0] fun x1 =>
.l (.tc 0) [x1] fun x2 =>
.l (.tc 1) [x1] fun x3 =>
.l .bnot [x3] fun x4 =>
.ite x4 (
.call F.head_Kind [(.agg [(n xs 1)]), x0] fun x5 =>
.l (.okcs [(1, false)]) [x5] fun x6 =>
.ret (.tup [(.agg [x5, (i 0), (.str ⟨#[]⟩), (i 0), (.sl []), (.sl [])])])) (
.call F.readback_reader_find [(.box (.agg [(n xs 1), (.sl []), (n xs 2)])), x0] fun x5 =>
.l .gnd [x5] fun x6 =>
.l (.tc 0) [x6] fun x7 =>
.l (.tc 1) [x6] fun x8 =>
.l (.tc 2) [x6] fun x9 =>
.ite x9 (
.l (.mset false [.i .i64]) [(n xs 2), x7, (.bool true)] fun x10 =>
.call F.readback_name [x7] fun x11 =>
.l (.okcs [(1, false), (1, false)]) [x11, x8] fun x12 =>
.ret (.tup [(.agg [(i 9), (i 0), x11, x8, (.sl []), (.sl [])])])) (
.l .len [(.sl [])] fun x10 =>
.l (.lst 2 true) [x0] fun x11 =>
.l (.app 2 true 16) [(.sl []), x11] fun x12 =>
.l (.idx 4 true) [(n xs 1), (c 0 x0)] fun x13 =>
.l .len [(c 2 x13)] fun x14 =>
.l (.cmp .gtr .i64) [x14, (i 0)] fun x15 =>
.ite x15 (
.callvs (.fn F.readback_reader_choice [] []) sg_readback_reader_tree [x0, (n xs 1), x12, (n xs 2)] fun z16 =>
.l (.okc 6 true) [(n z16 0)] fun x17 =>
.call F.head_Kind [(.agg [(n z16 1)]), x0] fun x18 =>
.l (.okc 1 false) [x18] fun x19 =>
.l (.okc 1 false) [x2] fun x20 =>
.l (.slcT 2 true) [(n z16 2), x10] fun x21 =>
.l (.mget false [.i .i64] (.bool false)) [(n z16 3), x10] fun x22 =>
.ite x22 (
.l (.mdel false [.i .i64]) [(n z16 3), x10] fun x23 =>
.call F.readback_name [x10] fun x24 =>
.l (.lst 6 true) [(.agg [x19, x20, (c 2 x17), (c 3 x17), (c 4 x17), (c 5 x17)])] fun x25 =>
.l (.okcs [(1, false)]) [x24] fun x26 =>
.ret (.tup [(.agg [(i 8), (i 0), x24, (i 0), (.sl []), x25])])) (
.ret (.tup [(.agg [x19, x20, (c 2 x17), (c 3 x17), (c 4 x17), (c 5 x17)])]))) (
.callvs (.fn F.readback_reader_plain [] []) sg_readback_reader_tree [x0, (n xs 1), x12, (n xs 2)] fun z16 =>
.l (.okc 6 true) [(n z16 0)] fun x17 =>
.call F.head_Kind [(.agg [(n z16 1)]), x0] fun x18 =>
.l (.okc 1 false) [x18] fun x19 =>
.l (.okc 1 false) [x2] fun x20 =>
.l (.slcT 2 true) [(n z16 2), x10] fun x21 =>
.l (.mget false [.i .i64] (.bool false)) [(n z16 3), x10] fun x22 =>
.ite x22 (
.l (.mdel false [.i .i64]) [(n z16 3), x10] fun x23 =>
.call F.readback_name [x10] fun x24 =>
.l (.lst 6 true) [(.agg [x19, x20, (c 2 x17), (c 3 x17), (c 4 x17), (c 5 x17)])] fun x25 =>
.l (.okcs [(1, false)]) [x24] fun x26 =>
.ret (.tup [(.agg [(i 8), (i 0), x24, (i 0), (.sl []), x25])])) (
.ret (.tup [(.agg [x19, x20, (c 2 x17), (c 3 x17), (c 4 x17), (c 5 x17)])])))))
theorem m_readback_reader_tree_Nil : TxOkS P F.readback_reader_tree sg_readback_reader_tree_Nil u_readback_reader_tree_Nil := txOkS_of (H := { wr := [60], ro := [61], nl := [], fz := [], da := [], sigs := [(1000078, sg_readback_reader_tree), (30, sg_readback_reader_tree), (63, sg_readback_reader_plain), (64, sg_readback_reader_choice)] }) (plans := []) hm Tryz.func30 rfl fun xs => by kernel_rfl
def t_graph_Build (xs : List PV) : T PV :=
.l .len [(n xs 0)] fun x0 =>
.loop [(i 0), (.sl []), (.sl [])] fun y1 =>
.l (.cmp .lss .i64) [(n y1 0), x0] fun x2 =>
.ite x2 (
.l (.idx 6 true) [(n xs 0), (n y1 0)] fun x3 =>
.l (.okc 6 true) [x3] fun x4 =>
.calls F.graph_builder_build sg_graph_builder_build [x4, (n y1 2), (.mp [] [])] fun z5 =>
.l (.lst 2 true) [(n z5 0)] fun x6 =>
.l (.app 2 true 16) [(n y1 1), x6] fun x7 =>
.l (.arith .add .i64) [(n y1 0), (i 1)] fun x8 =>
.cont 0 [x8, x7, (n z5 1)]) (
.ret (.tup [(.agg [(n y1 2)]), (n y1 1)]))
theorem k_graph_Build : TxOk P F.graph_Build 1 t_graph_Build := txOk_of (H := { wr := [], ro := [], nl := [(4, (0, (55, false)))], fz := [], da := [], sigs := [(65, sg_graph_builder_build), (82, sg_maps_Clone_graph_scope_string_graph_Ref)] }) (plans := []) hm Tryz.func31 rfl rfl fun xs => by kernel_rfl
def t_show_Type (xs : List PV) : T PV :=
.l (.okc 6 true) [(n xs 0)] fun x0 =>
.call F.show_types [] fun x1 =>
.l (.mget2 false [.i .i64] .nilF) [x1, (c 0 x0)] fun x2 =>
.l (.tc 0) [x2] fun x3 =>
.l (.tc 1) [x2] fun x4 =>
.l .bnot [x4] fun x5 =>
.ite x5 (
.ret (.str ⟨#[]⟩)) (
.callv x3 [x0] fun x6 =>
.ret x6)
theorem k_show_Type : TxOk P F.show_Type 1 t_show_Type := txOk_of (H := {}) (plans := []) hm Tryz.func32 rfl rfl fun xs => by kernel_rfl
def t_ref05_Decimal (xs : List PV) : T PV :=
.l (.cmp .lss .i64) [(n xs 0), (i 0)] fun x0 =>
.ite x0 (
.l (.cmp .eql .i64) [(n xs 0), (i (-9223372036854775808))] fun x1 =>
.ite x1 (
.ret (.str ⟨#[45, 57, 50, 50, 51, 51, 55, 50, 48, 51, 54, 56, 53, 52, 55, 55, 53, 56, 48, 56]⟩)) (
.l (.neg .i64) [(n xs 0)] fun x2 =>
.call F.ref05_Decimal [x2] fun x3 =>
.l .cat [(.str ⟨#[45]⟩), x3] fun x4 =>
.ret x4)) (
.l (.arith .rem .i64) [(n xs 0), (i 10)] fun x1 =>
.l (.arith .rem .i64) [(n xs 0), (i 10)] fun x2 =>
.l (.arith .add .i64) [x2, (i 1)] fun x3 =>
.l .ssl [(.str ⟨#[48, 49, 50, 51, 52, 53, 54, 55, 56, 57]⟩), x1, x3] fun x4 =>
.l (.cmp .lss .i64) [(n xs 0), (i 10)] fun x5 =>
.ite x5 (
.ret x4) (
.l (.arith .quo .i64) [(n xs 0), (i 10)] fun x6 =>
.call F.ref05_Decimal [x6] fun x7 =>
.l .cat [x7, x4] fun x8 =>
.ret x8))
theorem k_ref05_Decimal : TxOk P F.ref05_Decimal 1 t_ref05_Decimal := txOk_of (H := {}) (plans := []) hm Tryz.func33 rfl rfl fun xs => by kernel_rfl
def t_ref05_list (xs : List PV) : T PV :=
.loop [(i 0), (.str ⟨#[]⟩)] fun y0 =>
.l .len [(n xs 0)] fun x1 =>
.l (.cmp .lss .i64) [(n y0 0), x1] fun x2 =>
.ite x2 (
.l (.cmp .gtr .i64) [(n y0 0), (i 0)] fun x3 =>
.ite x3 (
.l .cat [(n y0 1), (n xs 1)] fun x4 =>
.l (.idx 1 false) [(n xs 0), (n y0 0)] fun x5 =>
.l .cat [x4, x5] fun x6 =>
.l (.arith .add .i64) [(n y0 0), (i 1)] fun x7 =>
.cont 0 [x7, x6]) (
.l (.idx 1 false) [(n xs 0), (n y0 0)] fun x4 =>
.l .cat [(n y0 1), x4] fun x5 =>
.l (.arith .add .i64) [(n y0 0), (i 1)] fun x6 =>
.cont 0 [x6, x5])) (
.ret (n y0 1))
theorem k_ref05_list : TxOk P F.ref05_list 2 t_ref05_list := txOk_of (H := {}) (plans := []) hm Tryz.func34 rfl rfl fun xs => by kernel_rfl
-- NOT TOLD: 35 duologue/duologueref10.compare: 1
def t_ref02_count (xs : List PV) : T PV :=
.l (.okc 6 true) [(n xs 0)] fun x0 =>
.l (.arith .sub .i64) [(n xs 1), (i 1)] fun x1 =>
.loop [(i 0), x1] fun y2 =>
.l .len [(c 5 x0)] fun x3 =>
.l (.cmp .lss .i64) [(n y2 0), x3] fun x4 =>
.ite x4 (
.l (.cmp .geq .i64) [(n y2 1), (i 0)] fun x5 =>
.ite x5 (
.l (.idx 6 true) [(c 5 x0), (n y2 0)] fun x6 =>
.call F.ref02_count [x6, (n y2 1)] fun x7 =>
.l (.arith .add .i64) [(n y2 0), (i 1)] fun x8 =>
.cont 0 [x8, x7]) (
.ret (n y2 1))) (
.ret (n y2 1))
theorem k_ref02_count : TxOk P F.ref02_count 2 t_ref02_count := txOk_of (H := {}) (plans := []) hm Tryz.func36 rfl rfl fun xs => by kernel_rfl
def t_ref02_Depth (xs : List PV) : T PV :=
.l (.okc 6 true) [(n xs 0)] fun x0 =>
.loop [(i 0), (i 0)] fun y1 =>
.l .len [(c 5 x0)] fun x2 =>
.l (.cmp .lss .i64) [(n y1 0), x2] fun x3 =>
.ite x3 (
.l (.idx 6 true) [(c 5 x0), (n y1 0)] fun x4 =>
.call F.ref02_Depth [x4] fun x5 =>
.l (.mx .i64) [(n y1 1), x5] fun x6 =>
.l (.arith .add .i64) [(n y1 0), (i 1)] fun x7 =>
.cont 0 [x7, x6]) (
.l (.arith .add .i64) [(n y1 1), (i 1)] fun x4 =>
.ret x4)
theorem k_ref02_Depth : TxOk P F.ref02_Depth 1 t_ref02_Depth := txOk_of (H := {}) (plans := []) hm Tryz.func37 rfl rfl fun xs => by kernel_rfl
def t_ref02_Size (xs : List PV) : T PV :=
.l (.okc 6 true) [(n xs 0)] fun x0 =>
.loop [(i 0), (i 1)] fun y1 =>
.l .len [(c 5 x0)] fun x2 =>
.l (.cmp .lss .i64) [(n y1 0), x2] fun x3 =>
.ite x3 (
.l (.idx 6 true) [(c 5 x0), (n y1 0)] fun x4 =>
.call F.ref02_Size [x4] fun x5 =>
.l (.arith .add .i64) [(n y1 1), x5] fun x6 =>
.l (.arith .add .i64) [(n y1 0), (i 1)] fun x7 =>
.cont 0 [x7, x6]) (
.ret (n y1 1))
theorem k_ref02_Size : TxOk P F.ref02_Size 1 t_ref02_Size := txOk_of (H := {}) (plans := []) hm Tryz.func38 rfl rfl fun xs => by kernel_rfl
def t_ref02_node (xs : List PV) : T PV :=
.l (.okc 6 true) [(n xs 0)] fun x0 =>
.call F.ref02_shape [x0] fun x1 =>
.l .bnot [x1] fun x2 =>
.ite x2 (
.ret (i 3)) (
.ite (n xs 3) (
.call F.ref02_Session [x0] fun x3 =>
.l .bnot [x3] fun x4 =>
.ite x4 (
.ret (i 3)) (
.l (.cmp .eql .i64) [(c 0 x0), (i 9)] fun x5 =>
.ite x5 (
.l .len [(n xs 1)] fun x6 =>
.l (.arith .sub .i64) [x6, (i 1)] fun x7 =>
.loop [x7] fun y8 =>
.l (.cmp .geq .i64) [(n y8 0), (i 0)] fun x9 =>
.ite x9 (
.l (.idx 1 false) [(n xs 1), (n y8 0)] fun x10 =>
.l (.scmp .eql) [x10, (c 2 x0)] fun x11 =>
.ite x11 (
.l (.cmp .lss .i64) [(n y8 0), (n xs 2)] fun x12 =>
.ite x12 (
.ret (i 0)) (
.ret (i 3))) (
.l (.arith .sub .i64) [(n y8 0), (i 1)] fun x12 =>
.cont 0 [x12])) (
.ret (i 4))) (
.l (.cmp .eql .i64) [(c 0 x0), (i 8)] fun x6 =>
.ite x6 (
.l (.idx 6 true) [(c 5 x0), (i 0)] fun x7 =>
.l (.lst 1 false) [] fun x8 =>
.l (.app 1 false 16) [x8, (n xs 1)] fun x9 =>
.l (.lst 1 false) [(c 2 x0)] fun x10 =>
.l (.app 1 false 16) [x9, x10] fun x11 =>
.call F.ref02_node [x7, x11, (n xs 2), (.bool true)] fun x12 =>
.ret x12) (
.loop [(i 0)] fun y7 =>
.l .len [(c 5 x0)] fun x8 =>
.l (.cmp .lss .i64) [(n y7 0), x8] fun x9 =>
.ite x9 (
.l (.idx 6 true) [(c 5 x0), (n y7 0)] fun x10 =>
.l .len [(n xs 1)] fun x11 =>
.l (.cmp .gtr .i64) [(n y7 0), (i 0)] fun x12 =>
.ite x12 (
.call F.ref02_node [x10, (n xs 1), x11, (.bool true)] fun x13 =>
.l (.cmp .neq .i64) [x13, (i 0)] fun x14 =>
.ite x14 (
.ret x13) (
.l (.arith .add .i64) [(n y7 0), (i 1)] fun x15 =>
.cont 0 [x15])) (
.l (.cmp .gtr .i64) [(c 0 x0), (i 5)] fun x13 =>
.call F.ref02_node [x10, (n xs 1), x11, x13] fun x14 =>
.l (.cmp .neq .i64) [x14, (i 0)] fun x15 =>
.ite x15 (
.ret x14) (
.l (.arith .add .i64) [(n y7 0), (i 1)] fun x16 =>
.cont 0 [x16]))) (
.ret (i 0)))))) (
.l (.cmp .eql .i64) [(c 0 x0), (i 9)] fun x3 =>
.ite x3 (
.l .len [(n xs 1)] fun x4 =>
.l (.arith .sub .i64) [x4, (i 1)] fun x5 =>
.loop [x5] fun y6 =>
.l (.cmp .geq .i64) [(n y6 0), (i 0)] fun x7 =>
.ite x7 (
.l (.idx 1 false) [(n xs 1), (n y6 0)] fun x8 =>
.l (.scmp .eql) [x8, (c 2 x0)] fun x9 =>
.ite x9 (
.l (.cmp .lss .i64) [(n y6 0), (n xs 2)] fun x10 =>
.ite x10 (
.ret (i 0)) (
.ret (i 3))) (
.l (.arith .sub .i64) [(n y6 0), (i 1)] fun x10 =>
.cont 0 [x10])) (
.ret (i 4))) (
.l (.cmp .eql .i64) [(c 0 x0), (i 8)] fun x4 =>
.ite x4 (
.l (.idx 6 true) [(c 5 x0), (i 0)] fun x5 =>
.l (.lst 1 false) [] fun x6 =>
.l (.app 1 false 16) [x6, (n xs 1)] fun x7 =>
.l (.lst 1 false) [(c 2 x0)] fun x8 =>
.l (.app 1 false 16) [x7, x8] fun x9 =>
.call F.ref02_node [x5, x9, (n xs 2), (.bool true)] fun x10 =>
.ret x10) (
.loop [(i 0)] fun y5 =>
.l .len [(c 5 x0)] fun x6 =>
.l (.cmp .lss .i64) [(n y5 0), x6] fun x7 =>
.ite x7 (
.l (.idx 6 true) [(c 5 x0), (n y5 0)] fun x8 =>
.l .len [(n xs 1)] fun x9 =>
.l (.cmp .gtr .i64) [(n y5 0), (i 0)] fun x10 =>
.ite x10 (
.call F.ref02_node [x8, (n xs 1), x9, (.bool true)] fun x11 =>
.l (.cmp .neq .i64) [x11, (i 0)] fun x12 =>
.ite x12 (
.ret x11) (
.l (.arith .add .i64) [(n y5 0), (i 1)] fun x13 =>
.cont 0 [x13])) (
.l (.cmp .gtr .i64) [(c 0 x0), (i 5)] fun x11 =>
.call F.ref02_node [x8, (n xs 1), x9, x11] fun x12 =>
.l (.cmp .neq .i64) [x12, (i 0)] fun x13 =>
.ite x13 (
.ret x12) (
.l (.arith .add .i64) [(n y5 0), (i 1)] fun x14 =>
.cont 0 [x14]))) (
.ret (i 0))))))
theorem k_ref02_node : TxOk P F.ref02_node 4 t_ref02_node := txOk_of (H := {}) (plans := []) hm Tryz.func39 rfl rfl fun xs => by kernel_rfl
def t_equal_Equal_1 (xs : List PV) : T PV :=
.l (.okc 2 true) [(n xs 0)] fun x0 =>
.l (.okc 2 true) [(n xs 1)] fun x1 =>
.l (.unbox 1 true) [(n xs 2)] fun x2 =>
.call F.head_Prio [x2, x0] fun x3 =>
.l (.tc 0) [x3] fun x4 =>
.l (.tc 1) [x3] fun x5 =>
.l (.unbox 1 true) [(n xs 2)] fun x6 =>
.call F.head_Prio [x6, x1] fun x7 =>
.l (.tc 0) [x7] fun x8 =>
.l (.tc 1) [x7] fun x9 =>
.l (.cmp .eql .i64) [x4, x8] fun x10 =>
.ret x10
theorem k_equal_Equal_1 : TxOk P F.equal_Equal_1 3 t_equal_Equal_1 := txOk_of (H := {}) (plans := []) hm Tryz.func40 rfl rfl fun xs => by kernel_rfl
def t_head_Prio (xs : List PV) : T PV :=
.l (.okc 1 true) [(n xs 0)] fun x0 =>
.l (.okc 2 true) [(n xs 1)] fun x1 =>
.l (.idx 4 true) [(c 0 x0), (c 0 x1)] fun x2 =>
.l (.okc 4 true) [x2] fun x3 =>
.call F.head_action [(c 0 x3)] fun x4 =>
.l .bnot [x4] fun x5 =>
.ite x5 (
.ret (.tup [(i 0), (.bool false)])) (
.l (.arith .add .i64) [(c 1 x3), (c 1 x1)] fun x6 =>
.ret (.tup [x6, (.bool true)]))
theorem k_head_Prio : TxOk P F.head_Prio 2 t_head_Prio := txOk_of (H := {}) (plans := []) hm Tryz.func41 rfl rfl fun xs => by kernel_rfl
-- NOT TOLD: 42 (*duologue/equal.comparison).equal: 1
def u_equal_comparison_equal (xs : List PV) : T PV :=
.l (.okc 2 true) [(n xs 0)] fun x0 =>
.l (.okc 2 true) [(n xs 1)] fun x1 =>
.l (.idx 4 true) [(n xs 2), (c 0 x0)] fun x2 =>
.l (.idx 4 true) [(n xs 2), (c 0 x1)] fun x3 =>
.l (.okc 4 true) [x2] fun x4 =>
.l (.okc 4 true) [x3] fun x5 =>
.l (.cmp .neq .i64) [(c 0 x4), (c 0 x5)] fun x6 =>
.ite x6 (
.ret (.tup [(.bool false), (n xs 2), (n xs 3), (n xs 4), (n xs 5)])) (
.l .len [(c 2 x4)] fun x7 =>
.l .len [(c 2 x5)] fun x8 =>
.l (.cmp .neq .i64) [x7, x8] fun x9 =>
.ite x9 (
.ret (.tup [(.bool false), (n xs 2), (n xs 3), (n xs 4), (n xs 5)])) (
.callv (n xs 3) [x0, x1] fun x10 =>
.l .bnot [x10] fun x11 =>
.ite x11 (
.ret (.tup [(.bool false), (n xs 2), (n xs 3), (n xs 4), (n xs 5)])) (
.call F.equal_comparison_key [(.box (.agg [(n xs 2), (n xs 5), (n xs 3), (n xs 4)])), x0, x1] fun x12 =>
.l .gnd [x12] fun x13 =>
.l (.mget true [.i .i64, .i .i64, .i .i64] (.bool false)) [(n xs 5), x13] fun x14 =>
.ite x14 (
.ret (.tup [(.bool true), (n xs 2), (n xs 3), (n xs 4), (n xs 5)])) (
.call F.equal_comparison_key [(.box (.agg [(n xs 2), (n xs 5), (n xs 3), (n xs 4)])), x0, x1] fun x15 =>
.l .gnd [x15] fun x16 =>
.l (.mset true [.i .i64, .i .i64, .i .i64]) [(n xs 5), x16, (.bool true)] fun x17 =>
.l .len [(c 3 x4)] fun x18 =>
.loop [(i 0), (n xs 2), x17, (n xs 3), (n xs 4)] fun y19 =>
.l (.cmp .lss .i64) [(n y19 0), x18] fun x20 =>
.ite x20 (
.l .len [(c 2 x4)] fun x21 =>
.l (.cmp .gtr .i64) [x21, (i 0)] fun x22 =>
.ite x22 (
.l (.idx 1 false) [(c 2 x4), (n y19 0)] fun x23 =>
.call F.slices_Index_string_string [(c 2 x5), x23] fun x24 =>
.call F.head_Next [(.agg [(n y19 1)]), x0, (n y19 0)] fun x25 =>
.l (.tc 0) [x25] fun x26 =>
.l (.tc 1) [x25] fun x27 =>
.l (.okc 2 true) [x26] fun x28 =>
.call F.head_Next [(.agg [(n y19 1)]), x1, x24] fun x29 =>
.l (.tc 0) [x29] fun x30 =>
.l (.tc 1) [x29] fun x31 =>
.l (.okc 2 true) [x30] fun x32 =>
.l .bnot [x31] fun x33 =>
.ite x33 (
.ret (.tup [(.bool false), (n y19 1), (n y19 3), (n y19 4), (n y19 2)])) (
.calls F.equal_comparison_equal sg_equal_comparison_equal [x28, x32, (n y19 1), (n y19 3), (n y19 4), (n y19 2)] fun z34 =>
.l .bnot [(n z34 0)] fun x35 =>
.ite x35 (
.ret (.tup [(.bool false), (n z34 1), (n z34 2), (n z34 3), (n z34 4)])) (
.l (.arith .add .i64) [(n y19 0), (i 1)] fun x36 =>
.cont 0 [x36, (n z34 1), (n z34 4), (n z34 2), (n z34 3)]))) (
.call F.head_Next [(.agg [(n y19 1)]), x0, (n y19 0)] fun x23 =>
.l (.tc 0) [x23] fun x24 =>
.l (.tc 1) [x23] fun x25 =>
.l (.okc 2 true) [x24] fun x26 =>
.call F.head_Next [(.agg [(n y19 1)]), x1, (n y19 0)] fun x27 =>
.l (.tc 0) [x27] fun x28 =>
.l (.tc 1) [x27] fun x29 =>
.l (.okc 2 true) [x28] fun x30 =>
.l .bnot [x29] fun x31 =>
.ite x31 (
.ret (.tup [(.bool false), (n y19 1), (n y19 3), (n y19 4), (n y19 2)])) (
.calls F.equal_comparison_equal sg_equal_comparison_equal [x26, x30, (n y19 1), (n y19 3), (n y19 4), (n y19 2)] fun z32 =>
.l .bnot [(n z32 0)] fun x33 =>
.ite x33 (
.ret (.tup [(.bool false), (n z32 1), (n z32 2), (n z32 3), (n z32 4)])) (
.l (.arith .add .i64) [(n y19 0), (i 1)] fun x34 =>
.cont 0 [x34, (n z32 1), (n z32 4), (n z32 2), (n z32 3)])))) (
.ret (.tup [(.bool true), (n y19 1), (n y19 3), (n y19 4), (n y19 2)]))))))
theorem m_equal_comparison_equal : TxOkS P F.equal_comparison_equal sg_equal_comparison_equal u_equal_comparison_equal := txOkS_of (H := { wr := [], ro := [72], nl := [], fz := [], da := [], sigs := [(42, sg_equal_comparison_equal)] }) (plans := []) hm Tryz.func42 rfl fun xs => by kernel_rfl
def t_slices_Clone_string_string (xs : List PV) : T PV :=
.nilq (n xs 0) (
.ret (.sl [])) (
.l (.lst 1 false) [] fun x0 =>
.l (.app 1 false 16) [x0, (n xs 0)] fun x1 =>
.ret x1)
theorem k_slices_Clone_string_string : TxOk P F.slices_Clone_string_string 1 t_slices_Clone_string_string := txOk_of (H := { wr := [0, 1, 2, 3, 4, 5, 6, 7, 8, 9, 10, 11, 12, 13, 14, 15, 16, 17, 18, 19, 20, 21, 22, 23, 24, 25, 26, 27, 28, 29, 30, 31, 32, 33, 34, 35, 36, 37, 38, 39], ro := [], nl := [], fz := [], da := [], sigs := [] }) (plans := []) hm Tryz.func45 rfl rfl fun xs => by kernel_rfl
def u_slices_Clone_string_string (xs : List PV) : T PV :=
.nilq (n xs 0) (
.ret (.tup [(.sl [])])) (
.l (.lst 1 false) [] fun x0 =>
.l (.app 1 false 16) [x0, (n xs 0)] fun x1 =>
.ret (.tup [x1]))
theorem m_slices_Clone_string_string : TxOkS P F.slices_Clone_string_string sg_slices_Clone_string_string u_slices_Clone_string_string := txOkS_of (H := { wr := [0, 1, 2, 3, 4, 5, 6, 7, 8, 9, 10, 11, 12, 13, 14, 15, 16, 17, 18, 19, 20, 21, 22, 23, 24, 25, 26, 27, 28, 29, 30, 31, 32, 33, 34, 35, 36, 37, 38, 39], ro := [], nl := [], fz := [], da := [], sigs := [] }) (plans := []) hm Tryz.func45 rfl fun xs => by kernel_rfl
def t_ref07_reference (xs : List PV) : T PV :=
.l (.okc 6 true) [(n xs 0)] fun x0 =>
.l (.cmp .eql .i64) [(c 0 x0), (i 8)] fun x1 =>
.ite x1 (
.l (.idx 6 true) [(c 5 x0), (i 0)] fun x2 =>
.call F.ref07_reference [x2, (n xs 1), (n xs 2), (n xs 3)] fun x3 =>
.l (.okc 2 true) [x3] fun x4 =>
.ret x4) (
.l (.cmp .eql .i64) [(c 0 x0), (i 9)] fun x2 =>
.ite x2 (
.l .len [(n xs 2)] fun x3 =>
.l (.arith .sub .i64) [x3, (i 1)] fun x4 =>
.loop [x4] fun y5 =>
.l (.cmp .geq .i64) [(n y5 0), (i 0)] fun x6 =>
.ite x6 (
.l (.idx 1 false) [(n xs 2), (n y5 0)] fun x7 =>
.l (.scmp .eql) [x7, (c 2 x0)] fun x8 =>
.ite x8 (
.l (.idx 2 true) [(n xs 3), (n y5 0)] fun x9 =>
.l (.idx 2 true) [(n xs 3), (n y5 0)] fun x10 =>
.l (.arith .add .i64) [(c 1 x10), (c 3 x0)] fun x11 =>
.l (.okcs [(1, false), (1, false)]) [(c 0 x9), x11] fun x12 =>
.ret (.agg [(c 0 x9), x11])) (
.l (.arith .sub .i64) [(n y5 0), (i 1)] fun x9 =>
.cont 0 [x9])) (
.l (.okcs [(1, false)]) [(n xs 1)] fun x7 =>
.ret (.agg [(n xs 1), (i 0)]))) (
.l (.okcs [(1, false)]) [(n xs 1)] fun x3 =>
.ret (.agg [(n xs 1), (i 0)])))
theorem k_ref07_reference : TxOk P F.ref07_reference 4 t_ref07_reference := txOk_of (H := {}) (plans := []) hm Tryz.func52 rfl rfl fun xs => by kernel_rfl
def t_ref07_nodes (xs : List PV) : T PV :=
.l (.okc 6 true) [(n xs 0)] fun x0 =>
.l (.cmp .eql .i64) [(c 0 x0), (i 8)] fun x1 =>
.ite x1 (
.call F.ref07_reference [x0, (n xs 1), (n xs 2), (n xs 3)] fun x2 =>
.l (.okc 2 true) [x2] fun x3 =>
.l (.idx 6 true) [(c 5 x0), (i 0)] fun x4 =>
.l (.lst 1 false) [] fun x5 =>
.l (.app 1 false 16) [x5, (n xs 2)] fun x6 =>
.l (.lst 1 false) [(c 2 x0)] fun x7 =>
.l (.app 1 false 16) [x6, x7] fun x8 =>
.l (.lst 2 true) [] fun x9 =>
.l (.app 2 true 16) [x9, (n xs 3)] fun x10 =>
.l (.lst 2 true) [x3] fun x11 =>
.l (.app 2 true 16) [x10, x11] fun x12 =>
.call F.ref07_nodes [x4, (n xs 1), x8, x12] fun x13 =>
.ret x13) (
.l (.cmp .eql .i64) [(c 0 x0), (i 9)] fun x2 =>
.ite x2 (
.ret (.sl [])) (
.l (.okcs [(1, false), (1, false), (1, false)]) [(c 0 x0), (c 1 x0), (c 4 x0)] fun x3 =>
.l (.arith .add .i64) [(n xs 1), (i 1)] fun x4 =>
.loop [(i 0), x4, (.sl []), (c 0 x0), (c 1 x0), (c 4 x0), (.sl [])] fun y5 =>
.l .len [(c 5 x0)] fun x6 =>
.l (.cmp .lss .i64) [(n y5 0), x6] fun x7 =>
.ite x7 (
.l (.idx 6 true) [(c 5 x0), (n y5 0)] fun x8 =>
.call F.ref07_reference [x8, (n y5 1), (n xs 2), (n xs 3)] fun x9 =>
.l (.lst 2 true) [x9] fun x10 =>
.l (.app 2 true 16) [(n y5 6), x10] fun x11 =>
.l (.idx 6 true) [(c 5 x0), (n y5 0)] fun x12 =>
.call F.ref07_nodes [x12, (n y5 1), (n xs 2), (n xs 3)] fun x13 =>
.l (.app 4 true 64) [(n y5 2), x13] fun x14 =>
.l (.idx 6 true) [(c 5 x0), (n y5 0)] fun x15 =>
.call F.ref07_Count [x15] fun x16 =>
.l (.arith .add .i64) [(n y5 1), x16] fun x17 =>
.l (.arith .add .i64) [(n y5 0), (i 1)] fun x18 =>
.cont 0 [x18, x17, x14, (n y5 3), (n y5 4), (n y5 5), x11]) (
.l (.lst 4 true) [(.agg [(n y5 3), (n y5 4), (n y5 5), (n y5 6)])] fun x8 =>
.l (.app 4 true 64) [x8, (n y5 2)] fun x9 =>
.ret x9)))
theorem k_ref07_nodes : TxOk P F.ref07_nodes 4 t_ref07_nodes := txOk_of (H := {}) (plans := []) hm Tryz.func53 rfl rfl fun xs => by kernel_rfl
def t_ref08_Sorted (xs : List PV) : T PV :=
.l (.lst 1 false) [] fun x0 =>
.l (.app 1 false 16) [x0, (n xs 0)] fun x1 =>
.loop [(i 0), x1] fun y2 =>
.l .len [(n y2 1)] fun x3 =>
.l (.cmp .lss .i64) [(n y2 0), x3] fun x4 =>
.ite x4 (
.l (.arith .add .i64) [(n y2 0), (i 1)] fun x5 =>
.loop [x5, (n y2 1)] fun y6 =>
.l .len [(n y6 1)] fun x7 =>
.l (.cmp .lss .i64) [(n y6 0), x7] fun x8 =>
.ite x8 (
.l (.idx 1 false) [(n y6 1), (n y6 0)] fun x9 =>
.l (.idx 1 false) [(n y6 1), (n y6 0)] fun x10 =>
.l (.idx 1 false) [(n y6 1), (n y2 0)] fun x11 =>
.l (.idx 1 false) [(n y6 1), (n y2 0)] fun x12 =>
.l (.scmp .lss) [x10, x12] fun x13 =>
.ite x13 (
.l (.idx 1 false) [(n y6 1), (n y6 0)] fun x14 =>
.l (.idx 1 false) [(n y6 1), (n y6 0)] fun x15 =>
.l (.idx 1 false) [(n y6 1), (n y2 0)] fun x16 =>
.l (.idx 1 false) [(n y6 1), (n y2 0)] fun x17 =>
.l (.idx 1 false) [(n y6 1), (n y2 0)] fun x18 =>
.l (.upd 1 false) [(n y6 1), (n y2 0), x15] fun x19 =>
.l (.idx 1 false) [x19, (n y6 0)] fun x20 =>
.l (.upd 1 false) [x19, (n y6 0), x17] fun x21 =>
.l (.arith .add .i64) [(n y6 0), (i 1)] fun x22 =>
.cont 1 [x22, x21]) (
.l (.arith .add .i64) [(n y6 0), (i 1)] fun x14 =>
.cont 1 [x14, (n y6 1)])) (
.l (.arith .add .i64) [(n y2 0), (i 1)] fun x9 =>
.cont 0 [x9, (n y6 1)])) (
.ret (n y2 1))
theorem k_ref08_Sorted : TxOk P F.ref08_Sorted 1 t_ref08_Sorted := txOk_of (H := { wr := [0, 1, 2, 3, 4, 5, 6, 7, 8, 9, 10, 11, 12, 13, 14, 15, 16, 17, 18, 19, 20, 21, 22, 23, 24, 25, 26, 27, 28, 29, 30, 31, 32, 33, 34, 35, 36, 37, 38, 39], ro := [], nl := [], fz := [], da := [], sigs := [] }) (plans := []) hm Tryz.func57 rfl rfl fun xs => by kernel_rfl
def t_head_Kind (xs : List PV) : T PV :=
.l (.okc 1 true) [(n xs 0)] fun x0 =>
.l (.okc 2 true) [(n xs 1)] fun x1 =>
.l (.idx 4 true) [(c 0 x0), (c 0 x1)] fun x2 =>
.ret (c 0 x2)
theorem k_head_Kind : TxOk P F.head_Kind 2 t_head_Kind := txOk_of (H := {}) (plans := []) hm Tryz.func60 rfl rfl fun xs => by kernel_rfl
def t_readback_reader_find (xs : List PV) : T PV :=
.l (.okc 2 true) [(n xs 1)] fun x0 =>
.l .notnil [(n xs 0)] fun x1 =>
.l (.unbox 3 true) [x1] fun x2 =>
.l .len [(c 1 x2)] fun x3 =>
.loop [(i 0)] fun y4 =>
.l (.cmp .lss .i64) [(n y4 0), x3] fun x5 =>
.ite x5 (
.l (.idx 2 true) [(c 1 x2), (n y4 0)] fun x6 =>
.l (.okc 2 true) [x6] fun x7 =>
.l .notnil [(n xs 0)] fun x8 =>
.l (.unbox 3 true) [x8] fun x9 =>
.call F.equal_Offset [(sb 0 1 x9), x7, x0] fun x10 =>
.l (.tc 0) [x10] fun x11 =>
.l (.tc 1) [x10] fun x12 =>
.ite x12 (
.ret (.tup [(n y4 0), x11, (.bool true)])) (
.l (.arith .add .i64) [(n y4 0), (i 1)] fun x13 =>
.cont 0 [x13])) (
.ret (.tup [(i 0), (i 0), (.bool false)]))
theorem k_readback_reader_find : TxOk P F.readback_reader_find 2 t_readback_reader_find := txOk_of (H := {}) (plans := []) hm Tryz.func61 rfl rfl fun xs => by kernel_rfl
def t_readback_name (xs : List PV) : T PV :=
.call F.strconv_Itoa [(n xs 0)] fun x0 =>
.l .cat [(.str ⟨#[114]⟩), x0] fun x1 =>
.ret x1
theorem k_readback_name : TxOk P F.readback_name 1 t_readback_name := txOk_of (H := {}) (plans := []) hm Tryz.func62 rfl rfl fun xs => by kernel_rfl
def t_readback_reader_plain (xs : List PV) : T PV :=
.l (.okc 2 true) [(n xs 1)] fun x0 =>
.l .notnil [(n xs 0)] fun x1 =>
.l (.unbox 3 true) [x1] fun x2 =>
.l (.idx 4 true) [(c 0 x2), (c 0 x0)] fun x3 =>
.l .len [(c 3 x3)] fun x4 =>
.loop [(i 0), (i 0), (i 0), (.str ⟨#[]⟩), (i 0), (.sl []), (.sl [])] fun y5 =>
.l (.cmp .lss .i64) [(n y5 0), x4] fun x6 =>
.ite x6 (
.l .notnil [(n xs 0)] fun x7 =>
.l (.unbox 3 true) [x7] fun x8 =>
.call F.head_Next [(sb 0 1 x8), x0, (n y5 0)] fun x9 =>
.l (.tc 0) [x9] fun x10 =>
.l (.tc 1) [x9] fun x11 =>
.l (.okc 2 true) [x10] fun x12 =>
.call F.readback_reader_tree [(n xs 0), x12] fun x13 =>
.l (.lst 6 true) [x13] fun x14 =>
.l (.app 6 true 88) [(n y5 6), x14] fun x15 =>
.l (.arith .add .i64) [(n y5 0), (i 1)] fun x16 =>
.cont 0 [x16, (n y5 1), (n y5 2), (n y5 3), (n y5 4), (n y5 5), x15]) (
.ret (.agg [(n y5 1), (n y5 2), (n y5 3), (n y5 4), (n y5 5), (n y5 6)]))
theorem k_readback_reader_plain : TxOk P F.readback_reader_plain 2 t_readback_reader_plain := txOk_of (H := {}) (plans := []) hm Tryz.func63 rfl rfl fun xs => by kernel_rfl
def u_readback_reader_plain (xs : List PV) : T PV :=
.l (.okc 2 true) [(n xs 0)] fun x0 =>
.l (.idx 4 true) [(n xs 1), (c 0 x0)] fun x1 =>
.l .len [(c 3 x1)] fun x2 =>
.loop [(i 0), (i 0), (i 0), (.str ⟨#[]⟩), (i 0), (.sl []), (.sl []), (n xs 1), (n xs 2), (n xs 3)] fun y3 =>
.l (.cmp .lss .i64) [(n y3 0), x2] fun x4 =>
.ite x4 (
.call F.head_Next [(.agg [(n y3 7)]), x0, (n y3 0)] fun x5 =>
.l (.tc 0) [x5] fun x6 =>
.l (.tc 1) [x5] fun x7 =>
.l (.okc 2 true) [x6] fun x8 =>
.calls F.readback_reader_tree sg_readback_reader_tree [x8, (n y3 7), (n y3 8), (n y3 9)] fun z9 =>
.l (.lst 6 true) [(n z9 0)] fun x10 =>
.l (.app 6 true 88) [(n y3 6), x10] fun x11 =>
.l (.arith .add .i64) [(n y3 0), (i 1)] fun x12 =>
.cont 0 [x12, (n y3 1), (n y3 2), (n y3 3), (n y3 4), (n y3 5), x11, (n z9 1), (n z9 2), (n z9 3)]) (
.ret (.tup [(.agg [(n y3 1), (n y3 2), (n y3 3), (n y3 4), (n y3 5), (n y3 6)]), (n y3 7), (n y3 8), (n y3 9)]))
theorem m_readback_reader_plain : TxOkS P F.readback_reader_plain sg_readback_reader_plain u_readback_reader_plain := txOkS_of (H := { wr := [], ro := [], nl := [], fz := [], da := [], sigs := [(30, sg_readback_reader_tree), (63, sg_readback_reader_plain), (64, sg_readback_reader_choice)] }) (plans := []) hm Tryz.func63 rfl fun xs => by kernel_rfl
def t_readback_reader_choice (xs : List PV) : T PV :=
.l (.okc 2 true) [(n xs 1)] fun x0 =>
.l .notnil [(n xs 0)] fun x1 =>
.l (.unbox 3 true) [x1] fun x2 =>
.call F.head_Labels [(sb 0 1 x2), x0] fun x3 =>
.l (.okcs [(1, false)]) [x3] fun x4 =>
.l .len [x3] fun x5 =>
.loop [(i 0), (i 0), (i 0), (.str ⟨#[]⟩), (i 0), x3, (.sl [])] fun y6 =>
.l (.cmp .lss .i64) [(n y6 0), x5] fun x7 =>
.ite x7 (
.l (.idx 1 false) [x3, (n y6 0)] fun x8 =>
.l .notnil [(n xs 0)] fun x9 =>
.l (.unbox 3 true) [x9] fun x10 =>
.call F.head_Label [(sb 0 1 x10), x0, x8] fun x11 =>
.l (.tc 0) [x11] fun x12 =>
.l (.tc 1) [x11] fun x13 =>
.l (.okc 2 true) [x12] fun x14 =>
.call F.readback_reader_tree [(n xs 0), x14] fun x15 =>
.l (.lst 6 true) [x15] fun x16 =>
.l (.app 6 true 88) [(n y6 6), x16] fun x17 =>
.l (.arith .add .i64) [(n y6 0), (i 1)] fun x18 =>
.cont 0 [x18, (n y6 1), (n y6 2), (n y6 3), (n y6 4), (n y6 5), x17]) (
.ret (.agg [(n y6 1), (n y6 2), (n y6 3), (n y6 4), (n y6 5), (n y6 6)]))
theorem k_readback_reader_choice : TxOk P F.readback_reader_choice 2 t_readback_reader_choice := txOk_of (H := {}) (plans := []) hm Tryz.func64 rfl rfl fun xs => by kernel_rfl
def u_readback_reader_choice (xs : List PV) : T PV :=
.l (.okc 2 true) [(n xs 0)] fun x0 =>
.call F.head_Labels [(.agg [(n xs 1)]), x0] fun x1 =>
.l (.okcs [(1, false)]) [x1] fun x2 =>
.l .len [x1] fun x3 =>
.loop [(i 0), (i 0), (i 0), (.str ⟨#[]⟩), (i 0), x1, (.sl []), (n xs 1), (n xs 2), (n xs 3)] fun y4 =>
.l (.cmp .lss .i64) [(n y4 0), x3] fun x5 =>
.ite x5 (
.l (.idx 1 false) [x1, (n y4 0)] fun x6 =>
.call F.head_Label [(.agg [(n y4 7)]), x0, x6] fun x7 =>
.l (.tc 0) [x7] fun x8 =>
.l (.tc 1) [x7] fun x9 =>
.l (.okc 2 true) [x8] fun x10 =>
.calls F.readback_reader_tree sg_readback_reader_tree [x10, (n y4 7), (n y4 8), (n y4 9)] fun z11 =>
.l (.lst 6 true) [(n z11 0)] fun x12 =>
.l (.app 6 true 88) [(n y4 6), x12] fun x13 =>
.l (.arith .add .i64) [(n y4 0), (i 1)] fun x14 =>
.cont 0 [x14, (n y4 1), (n y4 2), (n y4 3), (n y4 4), (n y4 5), x13, (n z11 1), (n z11 2), (n z11 3)]) (
.ret (.tup [(.agg [(n y4 1), (n y4 2), (n y4 3), (n y4 4), (n y4 5), (n y4 6)]), (n y4 7), (n y4 8), (n y4 9)]))
theorem m_readback_reader_choice : TxOkS P F.readback_reader_choice sg_readback_reader_choice u_readback_reader_choice := txOkS_of (H := { wr := [], ro := [], nl := [], fz := [], da := [], sigs := [(30, sg_readback_reader_tree), (63, sg_readback_reader_plain), (64, sg_readback_reader_choice)] }) (plans := []) hm Tryz.func64 rfl fun xs => by kernel_rfl
-- NOT TOLD: 65 (*duologue/graph.builder).build: 1
def u_graph_builder_build (xs : List PV) : T PV :=
.l (.okc 6 true) [(n xs 0)] fun x0 =>
.call F.graph_strip [x0] fun x1 =>
.l (.tc 0) [x1] fun x2 =>
.l (.tc 1) [x1] fun x3 =>
.l (.okc 6 true) [x2] fun x4 =>
.l (.cmp .eql .i64) [(c 0 x4), (i 9)] fun x5 =>
.ite x5 (
.l (.mget false [.s] (.agg [(i 0), (i 0)])) [(n xs 2), (c 2 x4)] fun x6 =>
.l (.okc 2 true) [x6] fun x7 =>
.l (.arith .add .i64) [(c 1 x7), (c 3 x4)] fun x8 =>
.l (.okc 1 false) [x8] fun x9 =>
.ret (.tup [(.agg [(c 0 x7), x9]), (n xs 1), (n xs 2)])) (
.l .len [(n xs 1)] fun x6 =>
.call F.slices_Clone_string_string [(c 4 x4)] fun x7 =>
.l (.okcs [(1, false), (1, false), (1, false)]) [(c 0 x4), (c 1 x4), x7] fun x8 =>
.l (.lst 4 true) [(.agg [(c 0 x4), (c 1 x4), x7, (.sl [])])] fun x9 =>
.l (.app 4 true 64) [(n xs 1), x9] fun x10 =>
.l .len [x3] fun x11 =>
.l (.cmp .gtr .i64) [x11, (i 0)] fun x12 =>
.ite x12 (
.calls F.maps_Clone_graph_scope_string_graph_Ref sg_maps_Clone_graph_scope_string_graph_Ref [(n xs 2)] fun z13 =>
.l .len [x3] fun x14 =>
.loop [(i 0), (n z13 1)] fun y15 =>
.l (.cmp .lss .i64) [(n y15 0), x14] fun x16 =>
.ite x16 (
.l (.idx 1 false) [x3, (n y15 0)] fun x17 =>
.l (.okcs [(1, false)]) [x6] fun x18 =>
.l (.mset false [.s]) [(n y15 1), x17, (.agg [x6, (i 0)])] fun x19 =>
.l (.arith .add .i64) [(n y15 0), (i 1)] fun x20 =>
.cont 0 [x20, x19]) (
.l .len [(c 5 x4)] fun x17 =>
.loop [(i 0), (.sl []), x10, (n y15 1)] fun y18 =>
.l (.cmp .lss .i64) [(n y18 0), x17] fun x19 =>
.ite x19 (
.l (.idx 6 true) [(c 5 x4), (n y18 0)] fun x20 =>
.l (.okc 6 true) [x20] fun x21 =>
.calls F.graph_builder_build sg_graph_builder_build [x21, (n y18 2), (n y18 3)] fun z22 =>
.l (.lst 2 true) [(n z22 0)] fun x23 =>
.l (.app 2 true 16) [(n y18 1), x23] fun x24 =>
.l (.arith .add .i64) [(n y18 0), (i 1)] fun x25 =>
.cont 1 [x25, x24, (n z22 1), (n z22 2)]) (
.l (.idx 4 true) [(n y18 2), x6] fun x20 =>
.l (.updF 4 3 1 false) [(n y18 2), x6, (n y18 1)] fun x21 =>
.l (.okcs [(1, false)]) [x6] fun x22 =>
.ret (.tup [(.agg [x6, (i 0)]), x21, (n z13 0)])))) (
.l .len [(c 5 x4)] fun x13 =>
.loop [(i 0), (.sl []), x10, (n xs 2)] fun y14 =>
.l (.cmp .lss .i64) [(n y14 0), x13] fun x15 =>
.ite x15 (
.l (.idx 6 true) [(c 5 x4), (n y14 0)] fun x16 =>
.l (.okc 6 true) [x16] fun x17 =>
.calls F.graph_builder_build sg_graph_builder_build [x17, (n y14 2), (n y14 3)] fun z18 =>
.l (.lst 2 true) [(n z18 0)] fun x19 =>
.l (.app 2 true 16) [(n y14 1), x19] fun x20 =>
.l (.arith .add .i64) [(n y14 0), (i 1)] fun x21 =>
.cont 0 [x21, x20, (n z18 1), (n z18 2)]) (
.l (.idx 4 true) [(n y14 2), x6] fun x16 =>
.l (.updF 4 3 1 false) [(n y14 2), x6, (n y14 1)] fun x17 =>
.l (.okcs [(1, false)]) [x6] fun x18 =>
.ret (.tup [(.agg [x6, (i 0)]), x17, (n y14 3)]))))
theorem m_graph_builder_build : TxOkS P F.graph_builder_build sg_graph_builder_build u_graph_builder_build := txOkS_of (H := { wr := [52, 53], ro := [], nl := [], fz := [], da := [], sigs := [(65, sg_graph_builder_build), (82, sg_maps_Clone_graph_scope_string_graph_Ref)] }) (plans := []) hm Tryz.func65 rfl fun xs => by kernel_rfl
def t_show_types (xs : List PV) : T PV :=
.call F.show_fixed [(.str ⟨#[105, 110, 116]⟩)] fun x0 =>
.l (.mset false [.i .i64]) [(.mp [] []), (i 1), x0] fun x1 =>
.call F.show_fixed [(.str ⟨#[98, 111, 111, 108]⟩)] fun x2 =>
.l (.mset false [.i .i64]) [x1, (i 2), x2] fun x3 =>
.call F.show_fixed [(.str ⟨#[101, 110, 100]⟩)] fun x4 =>
.l (.mset false [.i .i64]) [x3, (i 3), x4] fun x5 =>
.call F.show_transmission [(.str ⟨#[33]⟩)] fun x6 =>
.l (.mset false [.i .i64]) [x5, (i 4), x6] fun x7 =>
.call F.show_transmission [(.str ⟨#[63]⟩)] fun x8 =>
.l (.mset false [.i .i64]) [x7, (i 5), x8] fun x9 =>
.call F.show_choice [(.str ⟨#[43]⟩)] fun x10 =>
.l (.mset false [.i .i64]) [x9, (i 6), x10] fun x11 =>
.call F.show_choice [(.str ⟨#[38]⟩)] fun x12 =>
.l (.mset false [.i .i64]) [x11, (i 7), x12] fun x13 =>
.l (.mset false [.i .i64]) [x13, (i 9), (.fn F.show_variable [] [])] fun x14 =>
.l (.mset false [.i .i64]) [x14, (i 8), (.fn F.show_types_1 [] [])] fun x15 =>
.ret x15
theorem k_show_types : TxOk P F.show_types 0 t_show_types := txOk_of (H := {}) (plans := []) hm Tryz.func66 rfl rfl fun xs => by kernel_rfl
def t_ref02_shape (xs : List PV) : T PV :=
.l (.okc 6 true) [(n xs 0)] fun x0 =>
.l (.cmp .eql .i64) [(c 0 x0), (i 1)] fun x1 =>
.ite x1 (
.l (.cmp .eql .i64) [(c 1 x0), (i 0)] fun x2 =>
.ite x2 (
.l (.scmp .eql) [(c 2 x0), (.str ⟨#[]⟩)] fun x3 =>
.ite x3 (
.l (.cmp .eql .i64) [(c 3 x0), (i 0)] fun x4 =>
.ite x4 (
.l .len [(c 4 x0)] fun x5 =>
.l (.cmp .eql .i64) [x5, (i 0)] fun x6 =>
.ite x6 (
.l .len [(c 5 x0)] fun x7 =>
.l (.cmp .eql .i64) [x7, (i 0)] fun x8 =>
.ret x8) (
.ret (.bool false))) (
.ret (.bool false))) (
.ret (.bool false))) (
.ret (.bool false))) (
.l (.cmp .eql .i64) [(c 0 x0), (i 2)] fun x2 =>
.ite x2 (
.l (.cmp .eql .i64) [(c 1 x0), (i 0)] fun x3 =>
.ite x3 (
.l (.scmp .eql) [(c 2 x0), (.str ⟨#[]⟩)] fun x4 =>
.ite x4 (
.l (.cmp .eql .i64) [(c 3 x0), (i 0)] fun x5 =>
.ite x5 (
.l .len [(c 4 x0)] fun x6 =>
.l (.cmp .eql .i64) [x6, (i 0)] fun x7 =>
.ite x7 (
.l .len [(c 5 x0)] fun x8 =>
.l (.cmp .eql .i64) [x8, (i 0)] fun x9 =>
.ret x9) (
.ret (.bool false))) (
.ret (.bool false))) (
.ret (.bool false))) (
.ret (.bool false))) (
.l (.cmp .eql .i64) [(c 0 x0), (i 3)] fun x3 =>
.ite x3 (
.l (.cmp .eql .i64) [(c 1 x0), (i 0)] fun x4 =>
.ite x4 (
.l (.scmp .eql) [(c 2 x0), (.str ⟨#[]⟩)] fun x5 =>
.ite x5 (
.l (.cmp .eql .i64) [(c 3 x0), (i 0)] fun x6 =>
.ite x6 (
.l .len [(c 4 x0)] fun x7 =>
.l (.cmp .eql .i64) [x7, (i 0)] fun x8 =>
.ite x8 (
.l .len [(c 5 x0)] fun x9 =>
.l (.cmp .eql .i64) [x9, (i 0)] fun x10 =>
.ret x10) (
.ret (.bool false))) (
.ret (.bool false))) (
.ret (.bool false))) (
.ret (.bool false))) (
.l (.cmp .eql .i64) [(c 0 x0), (i 4)] fun x4 =>
.ite x4 (
.call F.ref02_prio [(c 1 x0)] fun x5 =>
.ite x5 (
.l (.scmp .eql) [(c 2 x0), (.str ⟨#[]⟩)] fun x6 =>
.ite x6 (
.l (.cmp .eql .i64) [(c 3 x0), (i 0)] fun x7 =>
.ite x7 (
.l .len [(c 4 x0)] fun x8 =>
.l (.cmp .eql .i64) [x8, (i 0)] fun x9 =>
.ite x9 (
.l .len [(c 5 x0)] fun x10 =>
.l (.cmp .eql .i64) [x10, (i 2)] fun x11 =>
.ret x11) (
.ret (.bool false))) (
.ret (.bool false))) (
.ret (.bool false))) (
.ret (.bool false))) (
.l (.cmp .eql .i64) [(c 0 x0), (i 5)] fun x5 =>
.ite x5 (
.call F.ref02_prio [(c 1 x0)] fun x6 =>
.ite x6 (
.l (.scmp .eql) [(c 2 x0), (.str ⟨#[]⟩)] fun x7 =>
.ite x7 (
.l (.cmp .eql .i64) [(c 3 x0), (i 0)] fun x8 =>
.ite x8 (
.l .len [(c 4 x0)] fun x9 =>
.l (.cmp .eql .i64) [x9, (i 0)] fun x10 =>
.ite x10 (
.l .len [(c 5 x0)] fun x11 =>
.l (.cmp .eql .i64) [x11, (i 2)] fun x12 =>
.ret x12) (
.ret (.bool false))) (
.ret (.bool false))) (
.ret (.bool false))) (
.ret (.bool false))) (
.l (.cmp .eql .i64) [(c 0 x0), (i 6)] fun x6 =>
.ite x6 (
.call F.ref02_prio [(c 1 x0)] fun x7 =>
.ite x7 (
.l (.scmp .eql) [(c 2 x0), (.str ⟨#[]⟩)] fun x8 =>
.ite x8 (
.l (.cmp .eql .i64) [(c 3 x0), (i 0)] fun x9 =>
.ite x9 (
.l .len [(c 4 x0)] fun x10 =>
.l (.cmp .gtr .i64) [x10, (i 0)] fun x11 =>
.ite x11 (
.call F.ref02_Labels [(c 4 x0)] fun x12 =>
.ite x12 (
.l .len [(c 5 x0)] fun x13 =>
.l .len [(c 4 x0)] fun x14 =>
.l (.cmp .eql .i64) [x13, x14] fun x15 =>
.ret x15) (
.ret (.bool false))) (
.ret (.bool false))) (
.ret (.bool false))) (
.ret (.bool false))) (
.ret (.bool false))) (
.l (.cmp .eql .i64) [(c 0 x0), (i 7)] fun x7 =>
.ite x7 (
.call F.ref02_prio [(c 1 x0)] fun x8 =>
.ite x8 (
.l (.scmp .eql) [(c 2 x0), (.str ⟨#[]⟩)] fun x9 =>
.ite x9 (
.l (.cmp .eql .i64) [(c 3 x0), (i 0)] fun x10 =>
.ite x10 (
.l .len [(c 4 x0)] fun x11 =>
.l (.cmp .gtr .i64) [x11, (i 0)] fun x12 =>
.ite x12 (
.call F.ref02_Labels [(c 4 x0)] fun x13 =>
.ite x13 (
.l .len [(c 5 x0)] fun x14 =>
.l .len [(c 4 x0)] fun x15 =>
.l (.cmp .eql .i64) [x14, x15] fun x16 =>
.ret x16) (
.ret (.bool false))) (
.ret (.bool false))) (
.ret (.bool false))) (
.ret (.bool false))) (
.ret (.bool false))) (
.l (.cmp .eql .i64) [(c 0 x0), (i 8)] fun x8 =>
.ite x8 (
.l (.cmp .eql .i64) [(c 1 x0), (i 0)] fun x9 =>
.ite x9 (
.call F.ref01_Name [(c 2 x0)] fun x10 =>
.ite x10 (
.l (.cmp .eql .i64) [(c 3 x0), (i 0)] fun x11 =>
.ite x11 (
.l .len [(c 4 x0)] fun x12 =>
.l (.cmp .eql .i64) [x12, (i 0)] fun x13 =>
.ite x13 (
.l .len [(c 5 x0)] fun x14 =>
.l (.cmp .eql .i64) [x14, (i 1)] fun x15 =>
.ret x15) (
.ret (.bool false))) (
.ret (.bool false))) (
.ret (.bool false))) (
.ret (.bool false))) (
.l (.cmp .eql .i64) [(c 0 x0), (i 9)] fun x9 =>
.ite x9 (
.l (.cmp .eql .i64) [(c 1 x0), (i 0)] fun x10 =>
.ite x10 (
.call F.ref01_Name [(c 2 x0)] fun x11 =>
.ite x11 (
.call F.ref02_prio [(c 3 x0)] fun x12 =>
.ite x12 (
.l .len [(c 4 x0)] fun x13 =>
.l (.cmp .eql .i64) [x13, (i 0)] fun x14 =>
.ite x14 (
.l .len [(c 5 x0)] fun x15 =>
.l (.cmp .eql .i64) [x15, (i 0)] fun x16 =>
.ret x16) (
.ret (.bool false))) (
.ret (.bool false))) (
.ret (.bool false))) (
.ret (.bool false))) (
.ret (.bool false))))))))))
theorem k_ref02_shape : TxOk P F.ref02_shape 1 t_ref02_shape := txOk_of (H := {}) (plans := []) hm Tryz.func70 rfl rfl fun xs => by kernel_rfl
def t_head_action (xs : List PV) : T PV :=
.l (.cmp .geq .i64) [(n xs 0), (i 4)] fun x0 =>
.ite x0 (
.l (.cmp .leq .i64) [(n xs 0), (i 7)] fun x1 =>
.ret x1) (
.ret (.bool false))
theorem k_head_action : TxOk P F.head_action 1 t_head_action := txOk_of (H := {}) (plans := []) hm Tryz.func71 rfl rfl fun xs => by kernel_rfl
def t_equal_comparison_key (xs : List PV) : T PV :=
.l (.okc 2 true) [(n xs 1)] fun x0 =>
.l (.okc 2 true) [(n xs 2)] fun x1 =>
.l .notnil [(n xs 0)] fun x2 =>
.l (.unbox 4 true) [x2] fun x3 =>
.ite (c 3 x3) (
.l (.okcs [(1, false), (1, false)]) [(c 0 x0), (c 0 x1)] fun x4 =>
.ret (.agg [(c 0 x0), (c 0 x1), (i 0)])) (
.l (.arith .sub .i64) [(c 1 x0), (c 1 x1)] fun x4 =>
.l (.okcs [(1, false), (1, false), (1, false)]) [(c 0 x0), (c 0 x1), x4] fun x5 =>
.ret (.agg [(c 0 x0), (c 0 x1), x4]))
theorem k_equal_comparison_key : TxOk P F.equal_comparison_key 3 t_equal_comparison_key := txOk_of (H := {}) (plans := []) hm Tryz.func72 rfl rfl fun xs => by kernel_rfl
def t_slices_Index_string_string (xs : List PV) : T PV :=
.l .len [(n xs 0)] fun x0 =>
.loop [(i 0)] fun y1 =>
.l (.cmp .lss .i64) [(n y1 0), x0] fun x2 =>
.ite x2 (
.l (.idx 1 false) [(n xs 0), (n y1 0)] fun x3 =>
.l (.scmp .eql) [(n xs 1), x3] fun x4 =>
.ite x4 (
.ret (n y1 0)) (
.l (.arith .add .i64) [(n y1 0), (i 1)] fun x5 =>
.cont 0 [x5])) (
.ret (i (-1)))
theorem k_slices_Index_string_string : TxOk P F.slices_Index_string_string 2 t_slices_Index_string_string := txOk_of (H := {}) (plans := []) hm Tryz.func73 rfl rfl fun xs => by kernel_rfl
def t_head_Next (xs : List PV) : T PV :=
.l (.okc 1 true) [(n xs 0)] fun x0 =>
.l (.okc 2 true) [(n xs 1)] fun x1 =>
.l (.idx 4 true) [(c 0 x0), (c 0 x1)] fun x2 =>
.l (.cmp .lss .i64) [(n xs 2), (i 0)] fun x3 =>
.ite x3 (
.ret (.tup [(.agg [(i 0), (i 0)]), (.bool false)])) (
.l .len [(c 3 x2)] fun x4 =>
.l (.cmp .geq .i64) [(n xs 2), x4] fun x5 =>
.ite x5 (
.ret (.tup [(.agg [(i 0), (i 0)]), (.bool false)])) (
.l (.idx 2 true) [(c 3 x2), (n xs 2)] fun x6 =>
.call F.head_Raise [x6, (c 1 x1)] fun x7 =>
.l (.okc 2 true) [x7] fun x8 =>
.ret (.tup [x8, (.bool true)])))
theorem k_head_Next : TxOk P F.head_Next 3 t_head_Next := txOk_of (H := {}) (plans := []) hm Tryz.func74 rfl rfl fun xs => by kernel_rfl
def t_ref07_Count (xs : List PV) : T PV :=
.l (.okc 6 true) [(n xs 0)] fun x0 =>
.l (.cmp .leq .i64) [(c 0 x0), (i 7)] fun x1 =>
.ite x1 (
.loop [(i 0), (i 1)] fun y2 =>
.l .len [(c 5 x0)] fun x3 =>
.l (.cmp .lss .i64) [(n y2 0), x3] fun x4 =>
.ite x4 (
.l (.idx 6 true) [(c 5 x0), (n y2 0)] fun x5 =>
.call F.ref07_Count [x5] fun x6 =>
.l (.arith .add .i64) [(n y2 1), x6] fun x7 =>
.l (.arith .add .i64) [(n y2 0), (i 1)] fun x8 =>
.cont 0 [x8, x7]) (
.ret (n y2 1))) (
.loop [(i 0), (i 0)] fun y2 =>
.l .len [(c 5 x0)] fun x3 =>
.l (.cmp .lss .i64) [(n y2 0), x3] fun x4 =>
.ite x4 (
.l (.idx 6 true) [(c 5 x0), (n y2 0)] fun x5 =>
.call F.ref07_Count [x5] fun x6 =>
.l (.arith .add .i64) [(n y2 1), x6] fun x7 =>
.l (.arith .add .i64) [(n y2 0), (i 1)] fun x8 =>
.cont 0 [x8, x7]) (
.ret (n y2 1)))
theorem k_ref07_Count : TxOk P F.ref07_Count 1 t_ref07_Count := txOk_of (H := {}) (plans := []) hm Tryz.func75 rfl rfl fun xs => by kernel_rfl
def t_equal_Offset (xs : List PV) : T PV :=
.l (.okc 1 true) [(n xs 0)] fun x0 =>
.l (.okc 2 true) [(n xs 1)] fun x1 =>
.l (.okc 2 true) [(n xs 2)] fun x2 =>
.call F.head_Prio [x0, x1] fun x3 =>
.l (.tc 0) [x3] fun x4 =>
.l (.tc 1) [x3] fun x5 =>
.call F.head_Prio [x0, x2] fun x6 =>
.l (.tc 0) [x6] fun x7 =>
.l (.tc 1) [x6] fun x8 =>
.l (.arith .sub .i64) [x7, x4] fun x9 =>
.l (.arith .sub .i64) [x7, x4] fun x10 =>
.call F.head_Raise [x1, x10] fun x11 =>
.call F.equal_Equal [x0, x11, x2] fun x12 =>
.call F.equal_offset [x9, x12] fun x13 =>
.l (.tc 0) [x13] fun x14 =>
.l (.tc 1) [x13] fun x15 =>
.ret (.tup [x14, x15])
theorem k_equal_Offset : TxOk P F.equal_Offset 3 t_equal_Offset := txOk_of (H := {}) (plans := []) hm Tryz.func77 rfl rfl fun xs => by kernel_rfl
def t_strconv_Itoa (xs : List PV) : T PV :=
.call F.internal_strconv_Itoa [(n xs 0)] fun x0 =>
.ret x0
theorem k_strconv_Itoa : TxOk P F.strconv_Itoa 1 t_strconv_Itoa := txOk_of (H := {}) (plans := []) hm Tryz.func78 rfl rfl fun xs => by kernel_rfl
def t_head_Labels (xs : List PV) : T PV :=
.l (.okc 1 true) [(n xs 0)] fun x0 =>
.l (.okc 2 true) [(n xs 1)] fun x1 =>
.l (.idx 4 true) [(c 0 x0), (c 0 x1)] fun x2 =>
.call F.slices_Values_string_string [(c 2 x2)] fun x3 =>
.call F.slices_Sorted_string [x3] fun x4 =>
.ret x4
theorem k_head_Labels : TxOk P F.head_Labels 2 t_head_Labels := txOk_of (H := {}) (plans := []) hm Tryz.func79 rfl rfl fun xs => by kernel_rfl
def t_head_Label (xs : List PV) : T PV :=
.l (.okc 1 true) [(n xs 0)] fun x0 =>
.l (.okc 2 true) [(n xs 1)] fun x1 =>
.l (.idx 4 true) [(c 0 x0), (c 0 x1)] fun x2 =>
.call F.slices_Index_string_string [(c 2 x2), (n xs 2)] fun x3 =>
.call F.head_Next [x0, x1, x3] fun x4 =>
.l (.tc 0) [x4] fun x5 =>
.l (.tc 1) [x4] fun x6 =>
.l (.okc 2 true) [x5] fun x7 =>
.ret (.tup [x7, x6])
theorem k_head_Label : TxOk P F.head_Label 3 t_head_Label := txOk_of (H := {}) (plans := []) hm Tryz.func80 rfl rfl fun xs => by kernel_rfl
def t_graph_strip (xs : List PV) : T PV :=
.l (.okc 6 true) [(n xs 0)] fun x0 =>
.loop [(.sl []), x0] fun y1 =>
.l (.cmp .eql .i64) [(c 0 (n y1 1)), (i 8)] fun x2 =>
.ite x2 (
.l (.lst 1 false) [(c 2 (n y1 1))] fun x3 =>
.l (.app 1 false 16) [(n y1 0), x3] fun x4 =>
.l (.idx 6 true) [(c 5 (n y1 1)), (i 0)] fun x5 =>
.l (.okc 6 true) [x5] fun x6 =>
.cont 0 [x4, x6]) (
.l (.okc 6 true) [(n y1 1)] fun x3 =>
.ret (.tup [x3, (n y1 0)]))
theorem k_graph_strip : TxOk P F.graph_strip 1 t_graph_strip := txOk_of (H := {}) (plans := []) hm Tryz.func81 rfl rfl fun xs => by kernel_rfl
-- NOT TOLD: 82 maps.Clone[duologue/graph.scope,string,duologue/graph.Ref]: 1
-- NOT TOLD: 82S maps.Clone[duologue/graph.scope,string,duologue/graph.Ref]: 1
def t_show_fixed (xs : List PV) : T PV :=
.l (.okc 1 false) [(n xs 0)] fun x0 =>
.ret (.fn F.show_fixed_1 [] [(.box x0)])
theorem k_show_fixed : TxOk P F.show_fixed 1 t_show_fixed := txOk_of (H := {}) (plans := []) hm Tryz.func83 rfl rfl fun xs => by kernel_rfl
def t_show_transmission (xs : List PV) : T PV :=
.l (.okc 1 false) [(n xs 0)] fun x0 =>
.ret (.fn F.show_transmission_1 [] [(.box x0)])
theorem k_show_transmission : TxOk P F.show_transmission 1 t_show_transmission := txOk_of (H := {}) (plans := []) hm Tryz.func84 rfl rfl fun xs => by kernel_rfl
def t_show_choice (xs : List PV) : T PV :=
.l (.okc 1 false) [(n xs 0)] fun x0 =>
.ret (.fn F.show_choice_1 [] [(.box x0)])
theorem k_show_choice : TxOk P F.show_choice 1 t_show_choice := txOk_of (H := {}) (plans := []) hm Tryz.func85 rfl rfl fun xs => by kernel_rfl
def t_show_variable (xs : List PV) : T PV :=
.l (.okc 6 true) [(n xs 0)] fun x0 =>
.l (.cmp .eql .i64) [(c 3 x0), (i 0)] fun x1 =>
.ite x1 (
.ret (c 2 x0)) (
.call F.strconv_Itoa [(c 3 x0)] fun x2 =>
.l (.lst 1 false) [(c 2 x0), (.str ⟨#[43]⟩), x2] fun x3 =>
.call F.show_join [x3] fun x4 =>
.ret x4)
theorem k_show_variable : TxOk P F.show_variable 1 t_show_variable := txOk_of (H := {}) (plans := []) hm Tryz.func86 rfl rfl fun xs => by kernel_rfl
def t_show_types_1 (xs : List PV) : T PV :=
.l (.okc 6 true) [(n xs 0)] fun x0 =>
.l (.idx 6 true) [(c 5 x0), (i 0)] fun x1 =>
.call F.show_Type [x1] fun x2 =>
.l (.lst 1 false) [(.str ⟨#[114, 101, 99, 32]⟩), (c 2 x0), (.str ⟨#[46]⟩), x2] fun x3 =>
.call F.show_join [x3] fun x4 =>
.ret x4
theorem k_show_types_1 : TxOk P F.show_types_1 1 t_show_types_1 := txOk_of (H := {}) (plans := []) hm Tryz.func87 rfl rfl fun xs => by kernel_rfl
def t_show_join (xs : List PV) : T PV :=
.call F.strings_Join [(n xs 0), (.str ⟨#[]⟩)] fun x0 =>
.ret x0
theorem k_show_join : TxOk P F.show_join 1 t_show_join := txOk_of (H := {}) (plans := []) hm Tryz.func88 rfl rfl fun xs => by kernel_rfl
def t_ref02_prio (xs : List PV) : T PV :=
.l (.cmp .geq .i64) [(n xs 0), (i 0)] fun x0 =>
.ite x0 (
.l (.cmp .leq .i64) [(n xs 0), (i 1000000)] fun x1 =>
.ret x1) (
.ret (.bool false))
theorem k_ref02_prio : TxOk P F.ref02_prio 1 t_ref02_prio := txOk_of (H := {}) (plans := []) hm Tryz.func89 rfl rfl fun xs => by kernel_rfl
def t_ref02_Labels (xs : List PV) : T PV :=
.loop [(i 0)] fun y0 =>
.l .len [(n xs 0)] fun x1 =>
.l (.cmp .lss .i64) [(n y0 0), x1] fun x2 =>
.ite x2 (
.l (.idx 1 false) [(n xs 0), (n y0 0)] fun x3 =>
.call F.ref01_Name [x3] fun x4 =>
.l .bnot [x4] fun x5 =>
.ite x5 (
.ret (.bool false)) (
.l (.idx 1 false) [(n xs 0), (n y0 0)] fun x6 =>
.l (.slcT 1 false) [(n xs 0), (n y0 0)] fun x7 =>
.call F.ref02_in [x6, x7] fun x8 =>
.ite x8 (
.ret (.bool false)) (
.l (.arith .add .i64) [(n y0 0), (i 1)] fun x9 =>
.cont 0 [x9]))) (
.ret (.bool true))
theorem k_ref02_Labels : TxOk P F.ref02_Labels 1 t_ref02_Labels := txOk_of (H := {}) (plans := []) hm Tryz.func90 rfl rfl fun xs => by kernel_rfl
def t_ref01_Name (xs : List PV) : T PV :=
.call F.ref01_Word [(n xs 0)] fun x0 =>
.ite x0 (
.call F.ref01_Keyword [(n xs 0)] fun x1 =>
.l .bnot [x1] fun x2 =>
.ret x2) (
.ret (.bool false))
theorem k_ref01_Name : TxOk P F.ref01_Name 1 t_ref01_Name := txOk_of (H := {}) (plans := []) hm Tryz.func91 rfl rfl fun xs => by kernel_rfl
def t_head_Raise (xs : List PV) : T PV :=
.l (.okc 2 true) [(n xs 0)] fun x0 =>
.l (.arith .add .i64) [(c 1 x0), (n xs 1)] fun x1 =>
.l (.okc 1 false) [x1] fun x2 =>
.ret (.agg [(c 0 x0), x2])
theorem k_head_Raise : TxOk P F.head_Raise 2 t_head_Raise := txOk_of (H := {}) (plans := []) hm Tryz.func92 rfl rfl fun xs => by kernel_rfl
def t_equal_offset (xs : List PV) : T PV :=
.l .bnot [(n xs 1)] fun x0 =>
.ite x0 (
.ret (.tup [(i 0), (.bool false)])) (
.ret (.tup [(n xs 0), (.bool true)]))
theorem k_equal_offset : TxOk P F.equal_offset 2 t_equal_offset := txOk_of (H := {}) (plans := []) hm Tryz.func93 rfl rfl fun xs => by kernel_rfl
def t_slices_Sorted_string (xs : List PV) : T PV :=
.calls F.slices_Collect_string sg_slices_Collect_string [(n xs 0)] fun z0 =>
.calls F.slices_Sort_string_string sg_slices_Sort_string_string [(n z0 0)] fun z1 =>
.ret (n z1 1)
theorem k_slices_Sorted_string : TxOk P F.slices_Sorted_string 1 t_slices_Sorted_string := txOk_of (H := { wr := [], ro := [], nl := [], fz := [], da := [], sigs := [(111, sg_slices_Sort_string_string), (124, sg_slices_pdqsortOrdered_string_Nil), (133, sg_slices_insertionSortOrdered_string), (110, sg_slices_Collect_string)] }) (plans := []) hm Tryz.func95 rfl rfl fun xs => by kernel_rfl
def t_slices_Values_string_string (xs : List PV) : T PV :=
.l (.okc 1 false) [(n xs 0)] fun x0 =>
.ret (.fn F.slices_Values_string_string_1 [] [(.box x0)])
theorem k_slices_Values_string_string : TxOk P F.slices_Values_string_string 1 t_slices_Values_string_string := txOk_of (H := {}) (plans := []) hm Tryz.func96 rfl rfl fun xs => by kernel_rfl
def t_show_fixed_1 (xs : List PV) : T PV :=
.l (.okc 6 true) [(n xs 0)] fun x0 =>
.l (.unbox 1 false) [(n xs 1)] fun x1 =>
.ret x1
theorem k_show_fixed_1 : TxOk P F.show_fixed_1 2 t_show_fixed_1 := txOk_of (H := {}) (plans := []) hm Tryz.func98 rfl rfl fun xs => by kernel_rfl
def t_show_transmission_1 (xs : List PV) : T PV :=
.l (.okc 6 true) [(n xs 0)] fun x0 =>
.l (.unbox 1 false) [(n xs 1)] fun x1 =>
.call F.show_unless [(c 1 x0), (.str ⟨#[32]⟩)] fun x2 =>
.l (.idx 6 true) [(c 5 x0), (i 0)] fun x3 =>
.call F.show_payload [x3] fun x4 =>
.l (.idx 6 true) [(c 5 x0), (i 1)] fun x5 =>
.call F.show_Type [x5] fun x6 =>
.l (.lst 1 false) [x1, x2, x4, (.str ⟨#[46]⟩), x6] fun x7 =>
.call F.show_join [x7] fun x8 =>
.ret x8
theorem k_show_transmission_1 : TxOk P F.show_transmission_1 2 t_show_transmission_1 := txOk_of (H := {}) (plans := []) hm Tryz.func99 rfl rfl fun xs => by kernel_rfl
def t_show_unless (xs : List PV) : T PV :=
.l (.cmp .eql .i64) [(n xs 0), (i 0)] fun x0 =>
.ite x0 (
.ret (.str ⟨#[]⟩)) (
.call F.strconv_Itoa [(n xs 0)] fun x1 =>
.l .cat [x1, (n xs 1)] fun x2 =>
.ret x2)
theorem k_show_unless : TxOk P F.show_unless 2 t_show_unless := txOk_of (H := {}) (plans := []) hm Tryz.func100 rfl rfl fun xs => by kernel_rfl
def t_show_payload (xs : List PV) : T PV :=
.l (.okc 6 true) [(n xs 0)] fun x0 =>
.l (.cmp .eql .i64) [(c 0 x0), (i 1)] fun x1 =>
.ite x1 (
.call F.show_Type [x0] fun x2 =>
.ret x2) (
.l (.cmp .eql .i64) [(c 0 x0), (i 2)] fun x2 =>
.ite x2 (
.call F.show_Type [x0] fun x3 =>
.ret x3) (
.l (.cmp .eql .i64) [(c 0 x0), (i 3)] fun x3 =>
.ite x3 (
.call F.show_Type [x0] fun x4 =>
.ret x4) (
.l (.cmp .eql .i64) [(c 0 x0), (i 9)] fun x4 =>
.ite x4 (
.call F.show_Type [x0] fun x5 =>
.ret x5) (
.call F.show_Type [x0] fun x5 =>
.l (.lst 1 false) [(.str ⟨#[40]⟩), x5, (.str ⟨#[41]⟩)] fun x6 =>
.call F.show_join [x6] fun x7 =>
.ret x7))))
theorem k_show_payload : TxOk P F.show_payload 1 t_show_payload := txOk_of (H := {}) (plans := []) hm Tryz.func101 rfl rfl fun xs => by kernel_rfl
def t_show_choice_1 (xs : List PV) : T PV :=
.l (.okc 6 true) [(n xs 0)] fun x0 =>
.l (.unbox 1 false) [(n xs 1)] fun x1 =>
.call F.show_unless [(c 1 x0), (.str ⟨#[]⟩)] fun x2 =>
.call F.show_separated_api_Type [(c 5 x0), (.str ⟨#[44, 32]⟩), (.fn F.show_choice_1_1 [] [(.box x0)])] fun x3 =>
.l (.lst 1 false) [x1, x2, (.str ⟨#[123]⟩), x3, (.str ⟨#[125]⟩)] fun x4 =>
.call F.show_join [x4] fun x5 =>
.ret x5
theorem k_show_choice_1 : TxOk P F.show_choice_1 2 t_show_choice_1 := txOk_of (H := {}) (plans := []) hm Tryz.func102 rfl rfl fun xs => by kernel_rfl
def t_show_separated_api_Type (xs : List PV) : T PV :=
.l .len [(n xs 0)] fun x0 =>
.loop [(i 0), (.sl [])] fun y1 =>
.l (.cmp .lss .i64) [(n y1 0), x0] fun x2 =>
.ite x2 (
.l (.idx 6 true) [(n xs 0), (n y1 0)] fun x3 =>
.l (.okc 6 true) [x3] fun x4 =>
.callv (n xs 2) [(n y1 0), x4] fun x5 =>
.l (.lst 1 false) [x5] fun x6 =>
.l (.app 1 false 16) [(n y1 1), x6] fun x7 =>
.l (.arith .add .i64) [(n y1 0), (i 1)] fun x8 =>
.cont 0 [x8, x7]) (
.call F.strings_Join [(n y1 1), (n xs 1)] fun x3 =>
.ret x3)
theorem k_show_separated_api_Type : TxOk P F.show_separated_api_Type 3 t_show_separated_api_Type := txOk_of (H := {}) (plans := []) hm Tryz.func103 rfl rfl fun xs => by kernel_rfl
def t_show_choice_1_1 (xs : List PV) : T PV :=
.l (.okc 6 true) [(n xs 1)] fun x0 =>
.l (.unbox 6 true) [(n xs 2)] fun x1 =>
.l (.idx 1 false) [(c 4 x1), (n xs 0)] fun x2 =>
.call F.show_Type [x0] fun x3 =>
.l (.lst 1 false) [x2, (.str ⟨#[58, 32]⟩), x3] fun x4 =>
.call F.show_join [x4] fun x5 =>
.ret x5
theorem k_show_choice_1_1 : TxOk P F.show_choice_1_1 3 t_show_choice_1_1 := txOk_of (H := {}) (plans := []) hm Tryz.func104 rfl rfl fun xs => by kernel_rfl
-- NOT TOLD: 105 strings.Join: 3
def t_ref02_in (xs : List PV) : T PV :=
.loop [(i 0)] fun y0 =>
.l .len [(n xs 1)] fun x1 =>
.l (.cmp .lss .i64) [(n y0 0), x1] fun x2 =>
.ite x2 (
.l (.idx 1 false) [(n xs 1), (n y0 0)] fun x3 =>
.l (.scmp .eql) [x3, (n xs 0)] fun x4 =>
.ite x4 (
.ret (.bool true)) (
.l (.arith .add .i64) [(n y0 0), (i 1)] fun x5 =>
.cont 0 [x5])) (
.ret (.bool false))
theorem k_ref02_in : TxOk P F.ref02_in 2 t_ref02_in := txOk_of (H := {}) (plans := []) hm Tryz.func106 rfl rfl fun xs => by kernel_rfl
def t_ref01_Word (xs : List PV) : T PV :=
.l .slen [(n xs 0)] fun x0 =>
.l (.cmp .eql .i64) [x0, (i 0)] fun x1 =>
.ite x1 (
.ret (.bool false)) (
.l .sidx [(n xs 0), (i 0)] fun x2 =>
.call F.ref01_Letters [] fun x3 =>
.call F.ref01_in [x2, x3] fun x4 =>
.l .bnot [x4] fun x5 =>
.ite x5 (
.ret (.bool false)) (
.loop [(i 1)] fun y6 =>
.l .slen [(n xs 0)] fun x7 =>
.l (.cmp .lss .i64) [(n y6 0), x7] fun x8 =>
.ite x8 (
.l .sidx [(n xs 0), (n y6 0)] fun x9 =>
.call F.ref01_Letters [] fun x10 =>
.call F.ref01_in [x9, x10] fun x11 =>
.l .bnot [x11] fun x12 =>
.ite x12 (
.l .sidx [(n xs 0), (n y6 0)] fun x13 =>
.call F.ref01_digits [] fun x14 =>
.call F.ref01_in [x13, x14] fun x15 =>
.l .bnot [x15] fun x16 =>
.ite x16 (
.ret (.bool false)) (
.l (.arith .add .i64) [(n y6 0), (i 1)] fun x17 =>
.cont 0 [x17])) (
.l (.arith .add .i64) [(n y6 0), (i 1)] fun x13 =>
.cont 0 [x13])) (
.ret (.bool true))))
theorem k_ref01_Word : TxOk P F.ref01_Word 1 t_ref01_Word := txOk_of (H := {}) (plans := []) hm Tryz.func107 rfl rfl fun xs => by kernel_rfl
def t_ref01_Keyword (xs : List PV) : T PV :=
.l (.lst 1 false) [(.str ⟨#[100, 101, 102]⟩), (.str ⟨#[109, 97, 105, 110]⟩), (.str ⟨#[115, 116, 111, 112]⟩), (.str ⟨#[110, 101, 119]⟩), (.str ⟨#[105, 110, 116]⟩), (.str ⟨#[98, 111, 111, 108]⟩), (.str ⟨#[101, 110, 100]⟩), (.str ⟨#[114, 101, 99]⟩), (.str ⟨#[116, 114, 117, 101]⟩), (.str ⟨#[102, 97, 108, 115, 101]⟩)] fun x0 =>
.loop [(i 0)] fun y1 =>
.l .len [x0] fun x2 =>
.l (.cmp .lss .i64) [(n y1 0), x2] fun x3 =>
.ite x3 (
.l (.idx 1 false) [x0, (n y1 0)] fun x4 =>
.l (.scmp .eql) [x4, (n xs 0)] fun x5 =>
.ite x5 (
.ret (.bool true)) (
.l (.arith .add .i64) [(n y1 0), (i 1)] fun x6 =>
.cont 0 [x6])) (
.ret (.bool false))
theorem k_ref01_Keyword : TxOk P F.ref01_Keyword 1 t_ref01_Keyword := txOk_of (H := {}) (plans := []) hm Tryz.func108 rfl rfl fun xs => by kernel_rfl
-- NOT TOLD: 109 internal/strconv.FormatInt: 4
def t_slices_Collect_string (xs : List PV) : T PV :=
.calls F.slices_AppendSeq_string_string sg_slices_AppendSeq_string_string [(n xs 0)] fun z0 =>
.ret (n z0 0)
theorem k_slices_Collect_string : TxOk P F.slices_Collect_string 1 t_slices_Collect_string := txOk_of (H := { wr := [], ro := [], nl := [], fz := [], da := [], sigs := [(123, sg_slices_AppendSeq_string_string)] }) (plans := []) hm Tryz.func110 rfl rfl fun xs => by kernel_rfl
def u_slices_Collect_string (xs : List PV) : T PV :=
.calls F.slices_AppendSeq_string_string sg_slices_AppendSeq_string_string [(n xs 0)] fun z0 =>
.ret (.tup [(n z0 0)])
theorem m_slices_Collect_string : TxOkS P F.slices_Collect_string sg_slices_Collect_string u_slices_Collect_string := txOkS_of (H := { wr := [], ro := [], nl := [], fz := [], da := [], sigs := [(123, sg_slices_AppendSeq_string_string)] }) (plans := []) hm Tryz.func110 rfl fun xs => by kernel_rfl
def t_slices_Sort_string_string (xs : List PV) : T PV :=
.l .len [(n xs 0)] fun x0 =>
.l (.conv .u64) [x0] fun x1 =>
.call F.math_bits_Len [x1] fun x2 =>
.call F.slices_pdqsortOrdered_string [(n xs 0), (i 0), x0, x2] fun x3 =>
.ret (.tup [])
theorem k_slices_Sort_string_string : TxOk P F.slices_Sort_string_string 1 t_slices_Sort_string_string := txOk_of (H := {}) (plans := []) hm Tryz.func111 rfl rfl fun xs => by kernel_rfl
def u_slices_Sort_string_string (xs : List PV) : T PV :=
.l .len [(n xs 0)] fun x0 =>
.l (.conv .u64) [x0] fun x1 =>
.call F.math_bits_Len [x1] fun x2 =>
.calls F.slices_pdqsortOrdered_string sg_slices_pdqsortOrdered_string_Nil [(i 0), x0, x2, (n xs 0)] fun z3 =>
.ret (.tup [(.tup []), (n z3 1)])
theorem m_slices_Sort_string_string : TxOkS P F.slices_Sort_string_string sg_slices_Sort_string_string u_slices_Sort_string_string := txOkS_of (H := { wr := [], ro := [], nl := [], fz := [], da := [], sigs := [(111, sg_slices_Sort_string_string), (124, sg_slices_pdqsortOrdered_string_Nil), (133, sg_slices_insertionSortOrdered_string)] }) (plans := []) hm Tryz.func111 rfl fun xs => by kernel_rfl
def t_slices_Values_string_string_1 (xs : List PV) : T PV :=
.l (.unbox 1 false) [(n xs 1)] fun x0 =>
.l .len [x0] fun x1 =>
.loop [(i 0)] fun y2 =>
.l (.cmp .lss .i64) [(n y2 0), x1] fun x3 =>
.ite x3 (
.l (.idx 1 false) [x0, (n y2 0)] fun x4 =>
.callv (n xs 0) [x4] fun x5 =>
.l .bnot [x5] fun x6 =>
.ite x6 (
.ret (.tup [])) (
.l (.arith .add .i64) [(n y2 0), (i 1)] fun x7 =>
.cont 0 [x7])) (
.ret (.tup []))
theorem k_slices_Values_string_string_1 : TxOk P F.slices_Values_string_string_1 2 t_slices_Values_string_string_1 := txOk_of (H := {}) (plans := []) hm Tryz.func112 rfl rfl fun xs => by kernel_rfl
def v_slices_Values_string_string_1 (xs : List PV) : T PV :=
.l (.unbox 1 false) [(n xs 1)] fun x0 =>
.l .len [x0] fun x1 =>
.loop [(i 0), (n xs 2)] fun y2 =>
.l (.cmp .lss .i64) [(n y2 0), x1] fun x3 =>
.ite x3 (
.l (.idx 1 false) [x0, (n y2 0)] fun x4 =>
.yld [x4] (n y2 1) fun x5 s5 =>
.l .bnot [x5] fun x6 =>
.ite x6 (
.ret (.tup [(.tup []), s5])) (
.l (.arith .add .i64) [(n y2 0), (i 1)] fun x7 =>
.cont 0 [x7, s5])) (
.ret (.tup [(.tup []), (n y2 1)]))
theorem x_slices_Values_string_string_1 (X : Xt) (hX : XtC P X) : @TxOkX { l := gl.l, x := X } P F.slices_Values_string_string_1 2 [0] v_slices_Values_string_string_1 := @txOkX_of { l := gl.l, x := X } P (@XC.mk P { l := gl.l, x := X } hX) {} [] _ _ _ _ _ hm Tryz.func112 rfl rfl fun xs => by kernel_rfl
-- NOT TOLD: 113 (*strings.Builder).Grow: 2
-- NOT TOLD: 114 (*strings.Builder).WriteString: 1
-- NOT TOLD: 115 (*strings.Builder).String: 1
def t_ref01_in (xs : List PV) : T PV :=
.loop [(i 0)] fun y0 =>
.l .slen [(n xs 1)] fun x1 =>
.l (.cmp .lss .i64) [(n y0 0), x1] fun x2 =>
.ite x2 (
.l .sidx [(n xs 1), (n y0 0)] fun x3 =>
.l (.cmp .eql .u8) [x3, (n xs 0)] fun x4 =>
.ite x4 (
.ret (.bool true)) (
.l (.arith .add .i64) [(n y0 0), (i 1)] fun x5 =>
.cont 0 [x5])) (
.ret (.bool false))
theorem k_ref01_in : TxOk P F.ref01_in 2 t_ref01_in := txOk_of (H := {}) (plans := []) hm Tryz.func116 rfl rfl fun xs => by kernel_rfl
def t_ref01_Letters (xs : List PV) : T PV :=
.ret (.str ⟨#[65, 66, 67, 68, 69, 70, 71, 72, 73, 74, 75, 76, 77, 78, 79, 80, 81, 82, 83, 84, 85, 86, 87, 88, 89, 90, 97, 98, 99, 100, 101, 102, 103, 104, 105, 106, 107, 108, 109, 110, 111, 112, 113, 114, 115, 116, 117, 118, 119, 120, 121, 122, 95]⟩)
theorem k_ref01_Letters : TxOk P F.ref01_Letters 0 t_ref01_Letters := txOk_of (H := {}) (plans := []) hm Tryz.func117 rfl rfl fun xs => by kernel_rfl
def t_ref01_digits (xs : List PV) : T PV :=
.ret (.str ⟨#[48, 49, 50, 51, 52, 53, 54, 55, 56, 57]⟩)
theorem k_ref01_digits : TxOk P F.ref01_digits 0 t_ref01_digits := txOk_of (H := {}) (plans := []) hm Tryz.func118 rfl rfl fun xs => by kernel_rfl
def u_slices_AppendSeq_string_string (xs : List PV) : T PV :=
.iter (n xs 0) 1 [(.sl [])] (fun e0 y0 =>
.l (.lst 1 false) [(n e0 0)] fun x1 =>
.l (.app 1 false 16) [(n y0 0), x1] fun x2 =>
.cont 0 [x2]) (fun e0 y0 =>
.l (.lst 1 false) [(n e0 0)] fun x1 =>
.l (.app 1 false 16) [(n y0 0), x1] fun x2 =>
.fail) fun y0 =>
.ret (.tup [(n y0 0)])
theorem m_slices_AppendSeq_string_string : TxOkS P F.slices_AppendSeq_string_string sg_slices_AppendSeq_string_string u_slices_AppendSeq_string_string := txOkS_of (H := { wr := [0, 1, 2, 3, 4, 5, 6, 7, 8, 9, 10, 11, 12, 13, 14, 15, 16, 17, 18, 19, 20, 21, 22, 23, 24, 25, 26, 27, 28, 29, 30, 31, 32, 33, 34, 35, 36, 37, 38, 39], ro := [], nl := [], fz := [], da := [], sigs := [] }) (plans := []) hm Tryz.func123 rfl fun xs => by kernel_rfl
-- NOT TOLD: 124 slices.pdqsortOrdered[string]: 0
def tb : List (Nat × Tx) := [(F.law12_ReadbackKeeps, ⟨1, t_law12_ReadbackKeeps⟩), (F.law12_awake, ⟨0, t_law12_awake⟩), (F.ref02_Small, ⟨2, t_ref02_Small⟩), (F.law08_Graph, ⟨1, t_law08_Graph⟩), (F.ref02_Same, ⟨2, t_ref02_Same⟩), (F.readback_Normal, ⟨2, t_readback_Normal⟩), (F.readback_Canonical, ⟨1, t_readback_Canonical⟩), (F.readback_Text, ⟨2, t_readback_Text⟩), (F.ref05_Type, ⟨1, t_ref05_Type⟩), (F.ref02_Few, ⟨2, t_ref02_Few⟩), (F.ref02_Right, ⟨1, t_ref02_Right⟩), (F.law12_tall, ⟨1, t_law12_tall⟩), (F.equal_Equal, ⟨3, t_equal_Equal⟩), (F.ref02_Session, ⟨1, t_ref02_Session⟩), (F.ref07_Build, ⟨1, t_ref07_Build⟩), (F.ref02_texts, ⟨2, t_ref02_texts⟩), (F.graph_Build, ⟨1, t_graph_Build⟩), (F.show_Type, ⟨1, t_show_Type⟩), (F.ref05_Decimal, ⟨1, t_ref05_Decimal⟩), (F.ref05_list, ⟨2, t_ref05_list⟩), (F.ref02_count, ⟨2, t_ref02_count⟩), (F.ref02_Depth, ⟨1, t_ref02_Depth⟩), (F.ref02_Size, ⟨1, t_ref02_Size⟩), (F.ref02_node, ⟨4, t_ref02_node⟩), (F.equal_Equal_1, ⟨3, t_equal_Equal_1⟩), (F.head_Prio, ⟨2, t_head_Prio⟩), (F.slices_Clone_string_string, ⟨1, t_slices_Clone_string_string⟩), (F.ref07_reference, ⟨4, t_ref07_reference⟩), (F.ref07_nodes, ⟨4, t_ref07_nodes⟩), (F.ref08_Sorted, ⟨1, t_ref08_Sorted⟩), (F.head_Kind, ⟨2, t_head_Kind⟩), (F.readback_reader_find, ⟨2, t_readback_reader_find⟩), (F.readback_name, ⟨1, t_readback_name⟩), (F.readback_reader_plain, ⟨2, t_readback_reader_plain⟩), (F.readback_reader_choice, ⟨2, t_readback_reader_choice⟩), (F.show_types, ⟨0, t_show_types⟩), (F.ref02_shape, ⟨1, t_ref02_shape⟩), (F.head_action, ⟨1, t_head_action⟩), (F.equal_comparison_key, ⟨3, t_equal_comparison_key⟩), (F.slices_Index_string_string, ⟨2, t_slices_Index_string_string⟩), (F.head_Next, ⟨3, t_head_Next⟩), (F.ref07_Count, ⟨1, t_ref07_Count⟩), (F.equal_Offset, ⟨3, t_equal_Offset⟩), (F.strconv_Itoa, ⟨1, t_strconv_Itoa⟩), (F.head_Labels, ⟨2, t_head_Labels⟩), (F.head_Label, ⟨3, t_head_Label⟩), (F.graph_strip, ⟨1, t_graph_strip⟩), (F.show_fixed, ⟨1, t_show_fixed⟩), (F.show_transmission, ⟨1, t_show_transmission⟩), (F.show_choice, ⟨1, t_show_choice⟩), (F.show_variable, ⟨1, t_show_variable⟩), (F.show_types_1, ⟨1, t_show_types_1⟩), (F.show_join, ⟨1, t_show_join⟩), (F.ref02_prio, ⟨1, t_ref02_prio⟩), (F.ref02_Labels, ⟨1, t_ref02_Labels⟩), (F.ref01_Name, ⟨1, t_ref01_Name⟩), (F.head_Raise, ⟨2, t_head_Raise⟩), (F.equal_offset, ⟨2, t_equal_offset⟩), (F.slices_Sorted_string, ⟨1, t_slices_Sorted_string⟩), (F.slices_Values_string_string, ⟨1, t_slices_Values_string_string⟩), (F.show_fixed_1, ⟨2, t_show_fixed_1⟩), (F.show_transmission_1, ⟨2, t_show_transmission_1⟩), (F.show_unless, ⟨2, t_show_unless⟩), (F.show_payload, ⟨1, t_show_payload⟩), (F.show_choice_1, ⟨2, t_show_choice_1⟩), (F.show_separated_api_Type, ⟨3, t_show_separated_api_Type⟩), (F.show_choice_1_1, ⟨3, t_show_choice_1_1⟩), (F.ref02_in, ⟨2, t_ref02_in⟩), (F.ref01_Word, ⟨1, t_ref01_Word⟩), (F.ref01_Keyword, ⟨1, t_ref01_Keyword⟩), (F.slices_Collect_string, ⟨1, t_slices_Collect_string⟩), (F.slices_Sort_string_string, ⟨1, t_slices_Sort_string_string⟩), (F.slices_Values_string_string_1, ⟨2, t_slices_Values_string_string_1⟩), (F.ref01_in, ⟨2, t_ref01_in⟩), (F.ref01_Letters, ⟨0, t_ref01_Letters⟩), (F.ref01_digits, ⟨0, t_ref01_digits⟩)]
def tbS : List (Nat × TxS) := [(F.readback_reader_tree, ⟨sg_readback_reader_tree, u_readback_reader_tree⟩), (F.readback_reader_tree, ⟨sg_readback_reader_tree_Nil, u_readback_reader_tree_Nil⟩), (F.equal_comparison_equal, ⟨sg_equal_comparison_equal, u_equal_comparison_equal⟩), (F.slices_Clone_string_string, ⟨sg_slices_Clone_string_string, u_slices_Clone_string_string⟩), (F.readback_reader_plain, ⟨sg_readback_reader_plain, u_readback_reader_plain⟩), (F.readback_reader_choice, ⟨sg_readback_reader_choice, u_readback_reader_choice⟩), (F.graph_builder_build, ⟨sg_graph_builder_build, u_graph_builder_build⟩), (F.slices_Collect_string, ⟨sg_slices_Collect_string, u_slices_Collect_string⟩), (F.slices_Sort_string_string, ⟨sg_slices_Sort_string_string, u_slices_Sort_string_string⟩), (F.slices_AppendSeq_string_string, ⟨sg_slices_AppendSeq_string_string, u_slices_AppendSeq_string_string⟩)]
theorem allOk : AllOk P tb := ⟨k_law12_ReadbackKeeps, k_law12_awake, k_ref02_Small, k_law08_Graph, k_ref02_Same, k_readback_Normal, k_readback_Canonical, k_readback_Text, k_ref05_Type, k_ref02_Few, k_ref02_Right, k_law12_tall, k_equal_Equal, k_ref02_Session, k_ref07_Build, k_ref02_texts, k_graph_Build, k_show_Type, k_ref05_Decimal, k_ref05_list, k_ref02_count, k_ref02_Depth, k_ref02_Size, k_ref02_node, k_equal_Equal_1, k_head_Prio, k_slices_Clone_string_string, k_ref07_reference, k_ref07_nodes, k_ref08_Sorted, k_head_Kind, k_readback_reader_find, k_readback_name, k_readback_reader_plain, k_readback_reader_choice, k_show_types, k_ref02_shape, k_head_action, k_equal_comparison_key, k_slices_Index_string_string, k_head_Next, k_ref07_Count, k_equal_Offset, k_strconv_Itoa, k_head_Labels, k_head_Label, k_graph_strip, k_show_fixed, k_show_transmission, k_show_choice, k_show_variable, k_show_types_1, k_show_join, k_ref02_prio, k_ref02_Labels, k_ref01_Name, k_head_Raise, k_equal_offset, k_slices_Sorted_string, k_slices_Values_string_string, k_show_fixed_1, k_show_transmission_1, k_show_unless, k_show_payload, k_show_choice_1, k_show_separated_api_Type, k_show_choice_1_1, k_ref02_in, k_ref01_Word, k_ref01_Keyword, k_slices_Collect_string, k_slices_Sort_string_string, k_slices_Values_string_string_1, k_ref01_in, k_ref01_Letters, k_ref01_digits, trivial⟩
theorem allOkS : AllOkS P tbS := ⟨m_readback_reader_tree, m_readback_reader_tree_Nil, m_equal_comparison_equal, m_slices_Clone_string_string, m_readback_reader_plain, m_readback_reader_choice, m_graph_builder_build, m_slices_Collect_string, m_slices_Sort_string_string, m_slices_AppendSeq_string_string, trivial⟩
end Go.Proofs.YtopinhoalbgebaaGreatDoor.Tx

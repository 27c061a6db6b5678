/- Texts of functions, printed by a program (wip/dev/Gen.lean). -/
import Derived.Test.YtkpnmgohbipjjaaGreatDoorLfD
import Derived.Test.YtkpnmgohbipjjaaGreatDoorChecked
import Derived.KernelRfl
set_option linter.all false
namespace Go.Proofs.YtkpnmgohbipjjaaGreatDoor.Tx
open Go.Lf Go.Lf.S
set_option maxRecDepth 100000
instance gl : Gl := { l := [(0, (.agg [(i 0), (i 1), (i 2), (i 3), (i 5), (i 4), (i 7), (i 6)]), 8, true), (1, (.agg [(.str ⟨#[100, 101, 102]⟩), (.str ⟨#[109, 97, 105, 110]⟩), (.str ⟨#[115, 116, 111, 112]⟩), (.str ⟨#[110, 101, 119]⟩), (.str ⟨#[105, 110, 116]⟩), (.str ⟨#[98, 111, 111, 108]⟩), (.str ⟨#[101, 110, 100]⟩), (.str ⟨#[114, 101, 99]⟩), (.str ⟨#[116, 114, 117, 101]⟩), (.str ⟨#[102, 97, 108, 115, 101]⟩)]), 10, true), (2, (.agg [(.int .u64 (1)), (.int .u64 (10)), (.int .u64 (100)), (.int .u64 (1000)), (.int .u64 (10000)), (.int .u64 (100000)), (.int .u64 (1000000)), (.int .u64 (10000000)), (.int .u64 (100000000)), (.int .u64 (1000000000)), (.int .u64 (10000000000)), (.int .u64 (100000000000)), (.int .u64 (1000000000000)), (.int .u64 (10000000000000)), (.int .u64 (100000000000000)), (.int .u64 (1000000000000000)), (.int .u64 (10000000000000000)), (.int .u64 (100000000000000000)), (.int .u64 (1000000000000000000)), (.int .u64 (10000000000000000000))]), 20, true)] }
noncomputable abbrev P : Program := Tryz.prog
instance xc : XC P := xc_none rfl
namespace F
abbrev law26_WitnessMatchesReference : Nat := 3
abbrev law26_WitnessPrefixes : Nat := 4
abbrev law26_WitnessRaises : Nat := 5
abbrev law26_WitnessDuals : Nat := 6
abbrev law26_awake : Nat := 7
abbrev ref02_Few : Nat := 8
abbrev witness_Program : Nat := 9
abbrev witness_Simple : Nat := 10
abbrev ref26_Simple : Nat := 11
abbrev ref03_SameProgram : Nat := 12
abbrev ref26_Program : Nat := 13
abbrev law26_same : Nat := 14
abbrev witness_Trace : Nat := 15
abbrev ref26_Trace : Nat := 16
abbrev ref02_Raise : Nat := 17
abbrev ref02_Same : Nat := 18
abbrev ref03_Same : Nat := 19
abbrev ref14_Dual : Nat := 20
abbrev step_Text : Nat := 21
abbrev ref02_count : Nat := 22
abbrev ref02_Depth : Nat := 23
abbrev witness_build : Nat := 24
abbrev dual_Of : Nat := 25
abbrev slices_Concat_int_int : Nat := 26
abbrev graph_Reach : Nat := 27
abbrev slices_Sort_int_int : Nat := 28
abbrev slices_Compact_int_int : Nat := 29
abbrev witness_bodies : Nat := 30
abbrev head_Kind : Nat := 31
abbrev witness_name : Nat := 32
abbrev readback_Normal : Nat := 33
abbrev witness_call : Nat := 34
abbrev scope_Check : Nat := 35
abbrev typetree_Right : Nat := 36
abbrev typetree_Session : Nat := 37
abbrev witness_plain : Nat := 38
abbrev ref02_Right : Nat := 39
abbrev ref02_Session : Nat := 40
abbrev ref26_plain : Nat := 41
abbrev ref07_Build : Nat := 42
abbrev ref09_Close : Nat := 43
abbrev ref26_subtrees : Nat := 44
abbrev ref07_Reach : Nat := 45
abbrev ref26_clean : Nat := 46
abbrev ref26_name : Nat := 47
abbrev ref12_Normal : Nat := 48
abbrev ref26_body : Nat := 49
abbrev ref26_call : Nat := 50
abbrev ref06_Check : Nat := 51
abbrev witness_maker_events : Nat := 52
abbrev ref02_Unfold : Nat := 53
abbrev ref26_choose : Nat := 54
abbrev ref02_texts : Nat := 55
abbrev ref03_Texts : Nat := 56
abbrev ref14_dual : Nat := 57
abbrev config_Name : Nat := 58
abbrev show_Value : Nat := 59
abbrev graph_Build : Nat := 60
abbrev dual_Close : Nat := 61
abbrev slices_Grow_int_int : Nat := 62
abbrev graph_set_add : Nat := 63
abbrev slices_pdqsortOrdered_int : Nat := 64
abbrev math_bits_Len : Nat := 65
abbrev witness_maker_send : Nat := 66
abbrev witness_maker_recv : Nat := 67
abbrev witness_maker_choose : Nat := 68
abbrev witness_maker_branch : Nat := 69
abbrev witness_maker_end : Nat := 70
abbrev strconv_Itoa : Nat := 71
abbrev readback_reader_tree : Nat := 72
abbrev proctree_Program : Nat := 73
abbrev scope_Find : Nat := 74
abbrev scope_twice : Nat := 75
abbrev scope_params : Nat := 76
abbrev scope_names_with : Nat := 77
abbrev scope_walker_walk : Nat := 78
abbrev typetree_shallow : Nat := 79
abbrev typetree_few : Nat := 80
abbrev typetree_check : Nat := 81
abbrev witness_base : Nat := 82
abbrev slices_ContainsFunc_api_Type_api_Type : Nat := 83
abbrev witness_plain_1 : Nat := 84
abbrev ref02_Size : Nat := 85
abbrev ref02_node : Nat := 86
abbrev ref07_reference : Nat := 87
abbrev ref07_nodes : Nat := 88
abbrev ref09_Kind : Nat := 89
abbrev ref26_open : Nat := 90
abbrev ref05_Decimal : Nat := 91
abbrev ref12_normal : Nat := 92
abbrev ref03_Program : Nat := 93
abbrev ref06_Find : Nat := 94
abbrev ref06_node : Nat := 95
abbrev witness_maker_events_1 : Nat := 96
abbrev witness_maker_chosen : Nat := 97
abbrev witness_maker_value : Nat := 98
abbrev head_Next : Nat := 99
abbrev ref02_put : Nat := 100
abbrev ref14_closed : Nat := 101
abbrev strconv_FormatInt : Nat := 102
abbrev strconv_FormatBool : Nat := 103
abbrev graph_builder_build : Nat := 104
abbrev dual_mapped_graph_Node_graph_Node : Nat := 105
abbrev dual_Close_1 : Nat := 106
abbrev slices_Clone_string_string : Nat := 107
abbrev slices_Clone_graph_Ref_graph_Ref : Nat := 108
abbrev dual_Close_2 : Nat := 109
abbrev dual_mapped_graph_Ref_graph_Ref : Nat := 110
abbrev dual_Close_2_1 : Nat := 111
abbrev dual_rest : Nat := 112
abbrev dual_Kind : Nat := 113
abbrev slices_insertionSortOrdered_int : Nat := 114
abbrev slices_heapSortOrdered_int : Nat := 115
abbrev slices_breakPatternsOrdered_int : Nat := 116
abbrev slices_choosePivotOrdered_int : Nat := 117
abbrev slices_reverseRangeOrdered_int : Nat := 118
abbrev slices_partialInsertionSortOrdered_int : Nat := 119
abbrev cmp_Less_int : Nat := 120
abbrev slices_partitionEqualOrdered_int : Nat := 121
abbrev slices_partitionOrdered_int : Nat := 122
abbrev math_bits_Len32 : Nat := 123
abbrev math_bits_Len64 : Nat := 124
abbrev witness_maker_next : Nat := 125
abbrev internal_strconv_Itoa : Nat := 126
abbrev head_Prio : Nat := 127
abbrev readback_reader_find : Nat := 128
abbrev readback_name : Nat := 129
abbrev readback_reader_plain : Nat := 130
abbrev readback_reader_choice : Nat := 131
abbrev proctree_Total : Nat := 132
abbrev proctree_Right : Nat := 133
abbrev lex_Name : Nat := 134
abbrev slices_ContainsFunc_api_Param_api_Param : Nat := 135
abbrev proctree_Program_1 : Nat := 136
abbrev slices_IndexFunc_api_Def_api_Def : Nat := 137
abbrev scope_Find_1 : Nat := 138
abbrev slices_Sort_string_string : Nat := 139
abbrev slices_Compact_string_string : Nat := 140
abbrev maps_Clone_scope_names_string_bool : Nat := 141
abbrev scope_walker_node : Nat := 142
abbrev proctree_Prefix : Nat := 143
abbrev typetree_shallow_1 : Nat := 144
abbrev typetree_nodes : Nat := 145
abbrev typetree_fields : Nat := 146
abbrev typetree_find : Nat := 147
abbrev slices_Clone_typetree_bound_typetree_bound : Nat := 148
abbrev slices_IndexFunc_api_Type_api_Type : Nat := 149
abbrev ref02_shape : Nat := 150
abbrev ref07_Count : Nat := 151
abbrev ref26_fill : Nat := 152
abbrev ref08_Prio : Nat := 153
abbrev ref10_Equal : Nat := 154
abbrev ref12_name : Nat := 155
abbrev ref08_Sorted : Nat := 156
abbrev ref08_Label : Nat := 157
abbrev ref12_uses : Nat := 158
abbrev ref03_Total : Nat := 159
abbrev ref03_Right : Nat := 160
abbrev ref03_name : Nat := 161
abbrev ref03_In : Nat := 162
abbrev head_Raise : Nat := 163
abbrev internal_strconv_FormatInt : Nat := 164
abbrev internal_strconv_FormatBool : Nat := 165
abbrev graph_strip : Nat := 166
abbrev maps_Clone_graph_scope_string_graph_Ref : Nat := 167
abbrev slices_siftDownOrdered_int : Nat := 168
abbrev slices_nextPowerOfTwo : Nat := 169
abbrev slices_xorshift_Next : Nat := 170
abbrev slices_medianAdjacentOrdered_int : Nat := 171
abbrev slices_medianOrdered_int : Nat := 172
abbrev cmp_isNaN_int : Nat := 173
abbrev head_action : Nat := 174
abbrev equal_Offset : Nat := 175
abbrev head_Labels : Nat := 176
abbrev head_Label : Nat := 177
abbrev proctree_weight : Nat := 178
abbrev typetree_Size : Nat := 179
abbrev proctree_shallow : Nat := 180
abbrev proctree_few : Nat := 181
abbrev proctree_all : Nat := 182
abbrev proctree_shape : Nat := 183
abbrev lex_letter : Nat := 184
abbrev lex_span : Nat := 185
abbrev lex_Name_1 : Nat := 186
abbrev lex_digit : Nat := 187
abbrev lex_Keyword : Nat := 188
abbrev slices_IndexFunc_api_Param_api_Param : Nat := 189
abbrev slices_pdqsortOrdered_string : Nat := 190
abbrev slices_ContainsFunc_api_Value_api_Value : Nat := 192
abbrev scope_walker_node_1 : Nat := 193
abbrev scope_bound : Nat := 194
abbrev scope_walker_call : Nat := 195
abbrev typetree_nodes_1 : Nat := 196
abbrev typetree_visit : Nat := 197
abbrev typetree_rules : Nat := 198
abbrev typetree_within : Nat := 199
abbrev typetree_distinct : Nat := 200
abbrev slices_Backward_typetree_bound_typetree_bound : Nat := 201
abbrev ref02_prio : Nat := 202
abbrev ref02_Labels : Nat := 203
abbrev ref01_Name : Nat := 204
abbrev ref26_mark : Nat := 205
abbrev ref10_compare : Nat := 206
abbrev ref03_Size : Nat := 207
abbrev ref03_types : Nat := 208
abbrev ref03_Depth : Nat := 209
abbrev ref03_nodes : Nat := 210
abbrev internal_strconv_small : Nat := 211
abbrev internal_strconv_numDigits : Nat := 212
abbrev internal_strconv_formatBase10 : Nat := 213
abbrev internal_strconv_formatBits : Nat := 214
abbrev slices_order2Ordered_int : Nat := 215
abbrev equal_offset : Nat := 216
abbrev equal_Equal : Nat := 217
abbrev slices_Sorted_string : Nat := 218
abbrev slices_Values_string_string : Nat := 219
abbrev slices_Index_string_string : Nat := 220
abbrev proctree_weight_1 : Nat := 221
abbrev slices_ContainsFunc_api_Proc_api_Proc : Nat := 222
abbrev proctree_shallow_1 : Nat := 223
abbrev proctree_few_1 : Nat := 224
abbrev proctree_all_1 : Nat := 225
abbrev proctree_rules : Nat := 226
abbrev proctree_named : Nat := 227
abbrev proctree_typed : Nat := 228
abbrev proctree_distinct : Nat := 229
abbrev proctree_shape_1 : Nat := 230
abbrev proctree_value : Nat := 231
abbrev slices_Contains_string_string : Nat := 232
abbrev slices_insertionSortOrdered_string : Nat := 233
abbrev slices_heapSortOrdered_string : Nat := 234
abbrev slices_breakPatternsOrdered_string : Nat := 235
abbrev slices_choosePivotOrdered_string : Nat := 236
abbrev slices_reverseRangeOrdered_string : Nat := 237
abbrev slices_partialInsertionSortOrdered_string : Nat := 238
abbrev cmp_Less_string : Nat := 239
abbrev slices_partitionEqualOrdered_string : Nat := 240
abbrev slices_partitionOrdered_string : Nat := 241
abbrev slices_IndexFunc_api_Value_api_Value : Nat := 242
abbrev slices_Backward_typetree_bound_typetree_bound_1 : Nat := 243
abbrev ref02_in : Nat := 244
abbrev ref01_Word : Nat := 245
abbrev ref01_Keyword : Nat := 246
abbrev ref10_Lower : Nat := 247
abbrev ref10_Seen : Nat := 248
abbrev ref03_node : Nat := 249
abbrev internal_strconv_log10Pow2 : Nat := 250
abbrev internal_strconv_bool2_int : Nat := 251
abbrev internal_strconv_isPowerOfTwo : Nat := 252
abbrev math_bits_TrailingZeros : Nat := 253
abbrev equal_Equal_1 : Nat := 254
abbrev equal_comparison_equal : Nat := 255
abbrev slices_Collect_string : Nat := 256
abbrev slices_Values_string_string_1 : Nat := 257
abbrev slices_IndexFunc_api_Proc_api_Proc : Nat := 258
abbrev proctree_kidsOf : Nat := 259
abbrev proctree_each : Nat := 260
abbrev proctree_several : Nat := 261
abbrev typetree_Same : Nat := 262
abbrev slices_siftDownOrdered_string : Nat := 263
abbrev slices_medianAdjacentOrdered_string : Nat := 264
abbrev slices_medianOrdered_string : Nat := 265
abbrev cmp_isNaN_string : Nat := 266
abbrev ref01_in : Nat := 267
abbrev ref01_Letters : Nat := 268
abbrev ref01_digits : Nat := 269
abbrev ref03_value : Nat := 270
abbrev ref03_plain : Nat := 271
abbrev math_bits_TrailingZeros32 : Nat := 272
abbrev math_bits_TrailingZeros64 : Nat := 273
abbrev equal_comparison_key : Nat := 274
abbrev slices_AppendSeq_string_string : Nat := 275
abbrev proctree_kidsOf_1 : Nat := 276
abbrev proctree_several_1 : Nat := 277
abbrev slices_Equal_string_string : Nat := 278
abbrev slices_EqualFunc_api_Type_api_Type_api_Type_api_Type : Nat := 279
abbrev slices_order2Ordered_string : Nat := 280
end F
theorem hm : Tryz.prog.follows .mixedOrders = true := by kernel_rfl
/-- duologue/duologueref02.Raise, with memory -/
def sg_ref02_Raise : Sig := { args := [.at (.dat 0), .at (.dat 1)], obs := [], res := .agg [.dat 0, .dat 1, .dat 2, .dat 3, .dat 4, .own 9000], robs := [(9000, .arr false 25 6 true 5)], nout := 6 }
/-- slices.Concat[[]int,int], with memory -/
def sg_slices_Concat_int_int : Sig := { args := [.at (.dat 0)], obs := [], res := .at (.own 9000), robs := [(9000, .arr false 3 1 false 0)], nout := 1 }
/-- slices.Sort[[]int,int], with memory -/
def sg_slices_Sort_int_int : Sig := { args := [.at (.own 9000)], obs := [(9000, .arr false 3 1 false 0)], res := .at (.dat 0), robs := [(9000, .arr false 3 1 false 1)], nout := 2 }
/-- slices.Compact[[]int,int], with memory -/
def sg_slices_Compact_int_int : Sig := { args := [.at (.own 9000)], obs := [(9000, .arr false 3 1 false 0)], res := .at (.own 9002), robs := [(9002, .arr false 3 1 false 0)], nout := 1 }
/-- (duologue/witness.maker).events, with memory -/
def sg_witness_maker_events : Sig := { args := [.at (.dat 0), .at (.dat 1)], obs := [], res := .at (.clo 96 [] [(9000, 0), (9001, 0)]), robs := [(9000, .cells false 2 true (.pts [.dat 0, .dat 1])), (9001, .cells false 2 true (.pts [.dat 2, .dat 3]))], nout := 4 }
/-- slices.Grow[[]int,int], with memory -/
def sg_slices_Grow_int_int : Sig := { args := [.at (.nils), .at (.dat 0)], obs := [], res := .at (.own 9000), robs := [(9000, .arr false 3 1 false 0)], nout := 1 }
/-- (duologue/graph.set).add, with memory -/
def sg_graph_set_add : Sig := { args := [.at (.own 9000), .at (.dat 0)], obs := [(9000, .arr false 181 1 false 1)], res := .at (.dat 0), robs := [(9000, .arr false 181 1 false 1)], nout := 2 }
/-- slices.pdqsortOrdered[int], with memory -/
def sg_slices_pdqsortOrdered_int_Nil : Sig := { args := [.at (.own 9000), .at (.dat 0), .at (.dat 1), .at (.dat 2)], obs := [(9000, .arr false 3 1 false 3)], res := .at (.dat 0), robs := [(9000, .arr false 3 1 false 1)], nout := 2 }
/-- (*duologue/readback.reader).tree, with memory -/
def sg_readback_reader_tree : Sig := { args := [.at (.ptr 9000 0), .at (.dat 0)], obs := [(9000, .cells false 3 true (.pts [.dat 1, .own 9001, .mref 9005])), (9001, .arr false 67 2 true 2), (9005, .map false 3)], res := .at (.dat 0), robs := [(9000, .cells false 3 true (.pts [.dat 1, .own 9002, .mref 9005])), (9002, .arr false 67 2 true 2), (9005, .map false 3)], nout := 4 }
/-- (*duologue/readback.reader).tree, with memory -/
def sg_readback_reader_tree_Nil : Sig := { args := [.at (.ptr 9000 0), .at (.dat 0)], obs := [(9000, .cells false 3 true (.pts [.dat 1, .nils, .mref 9005])), (9005, .map false 2)], res := .at (.dat 0), robs := [], nout := 1 }
/-- duologue/scope.twice, with memory -/
def sg_scope_twice : Sig := { args := [.at (.own 9000)], obs := [(9000, .arr false 9 1 false 0)], res := .at (.dat 0), robs := [], nout := 1 }
/-- duologue/scope.params, with memory -/
def sg_scope_params : Sig := { args := [.at (.dat 0)], obs := [], res := .at (.own 9000), robs := [(9000, .arr false 9 1 false 0)], nout := 1 }
/-- (duologue/witness.maker).events$1, with memory -/
def sg_witness_maker_events_1 : Sig := { args := [.at (.ptr 9000 0), .at (.ptr 9001 0)], obs := [(9000, .cells false 2 true (.pts [.dat 0, .dat 1])), (9001, .cells false 2 true (.pts [.dat 2, .dat 3]))], res := .at (.dat 0), robs := [], nout := 1 }
/-- (*duologue/graph.builder).build, with memory -/
def sg_graph_builder_build : Sig := { args := [.at (.ptr 9000 0), .at (.dat 0), .at (.mref 9005)], obs := [(9000, .cells false 1 true (.pts [.own 9001])), (9001, .arr false 126 4 true 1), (9005, .map false 2)], res := .at (.dat 0), robs := [(9000, .cells false 1 true (.pts [.own 9002])), (9002, .arr false 126 4 true 1), (9005, .map false 2)], nout := 3 }
/-- duologue/dual.mapped[duologue/graph.Node,duologue/graph.Node], with memory -/
def sg_dual_mapped_graph_Node_graph_Node : Sig := { args := [.at (.dat 0), .at (.dat 1)], obs := [], res := .at (.own 9000), robs := [(9000, .arr true 126 4 true 0)], nout := 1 }
/-- slices.Clone[[]string,string], with memory -/
def sg_slices_Clone_string_string : Sig := { args := [.at (.dat 0)], obs := [], res := .at (.own 9000), robs := [(9000, .arr false 9 1 false 0)], nout := 1 }
/-- slices.Clone[[]duologue/graph.Ref,duologue/graph.Ref], with memory -/
def sg_slices_Clone_graph_Ref_graph_Ref : Sig := { args := [.at (.dat 0)], obs := [], res := .at (.own 9000), robs := [(9000, .arr false 67 2 true 0)], nout := 1 }
/-- slices.insertionSortOrdered[int], with memory -/
def sg_slices_insertionSortOrdered_int : Sig := { args := [.at (.own 9000), .at (.dat 0), .at (.dat 1)], obs := [(9000, .arr false 3 1 false 2)], res := .at (.dat 0), robs := [(9000, .arr false 3 1 false 1)], nout := 2 }
/-- (*duologue/readback.reader).plain, with memory -/
def sg_readback_reader_plain : Sig := { args := [.at (.ptr 9000 0), .at (.dat 0)], obs := [(9000, .cells false 3 true (.pts [.dat 1, .own 9001, .mref 9005])), (9001, .arr false 67 2 true 2), (9005, .map false 3)], res := .at (.dat 0), robs := [(9000, .cells false 3 true (.pts [.dat 1, .own 9002, .mref 9005])), (9002, .arr false 67 2 true 2), (9005, .map false 3)], nout := 4 }
/-- (*duologue/readback.reader).choice, with memory -/
def sg_readback_reader_choice : Sig := { args := [.at (.ptr 9000 0), .at (.dat 0)], obs := [(9000, .cells false 3 true (.pts [.dat 1, .own 9001, .mref 9005])), (9001, .arr false 67 2 true 2), (9005, .map false 3)], res := .at (.dat 0), robs := [(9000, .cells false 3 true (.pts [.dat 1, .own 9002, .mref 9005])), (9002, .arr false 67 2 true 2), (9005, .map false 3)], nout := 4 }
/-- slices.Sort[[]string,string], with memory -/
def sg_slices_Sort_string_string : Sig := { args := [.at (.own 9000)], obs := [(9000, .arr false 9 1 false 0)], res := .at (.dat 0), robs := [(9000, .arr false 9 1 false 1)], nout := 2 }
/-- slices.Compact[[]string,string], with memory -/
def sg_slices_Compact_string_string : Sig := { args := [.at (.own 9000)], obs := [(9000, .arr false 9 1 false 0)], res := .at (.own 9002), robs := [(9002, .arr false 9 1 false 0)], nout := 1 }
/-- maps.Clone[duologue/scope.names,string,bool], with memory -/
def sg_maps_Clone_scope_names_string_bool : Sig := { args := [.at (.dat 0)], obs := [], res := .at (.mref 9001), robs := [(9001, .map false 0)], nout := 1 }
/-- slices.Clone[[]duologue/typetree.bound,duologue/typetree.bound], with memory -/
def sg_slices_Clone_typetree_bound_typetree_bound : Sig := { args := [.at (.dat 0)], obs := [], res := .at (.own 9000), robs := [(9000, .arr false 213 2 true 0)], nout := 1 }
/-- maps.Clone[duologue/graph.scope,string,duologue/graph.Ref], with memory -/
def sg_maps_Clone_graph_scope_string_graph_Ref : Sig := { args := [.at (.mref 9000)], obs := [(9000, .map false 0)], res := .at (.mref 9001), robs := [(9000, .map false 0), (9001, .map false 1)], nout := 2 }
/-- duologue/proctree.all, with memory -/
def sg_proctree_all_Wg : Sig := { args := [.at (.dat 0), .at (.clo 221 [] [(9000, 0)])], obs := [(9000, .cells false 1 false (.pts [.dat 1]))], res := .at (.dat 0), robs := [(9000, .cells false 1 false (.pts [.dat 1]))], nout := 2 }
/-- duologue/proctree.all, with memory -/
def sg_proctree_all_Fw : Sig := { args := [.at (.dat 0), .at (.clo 224 [] [(9000, 0)])], obs := [(9000, .cells false 1 false (.pts [.dat 1]))], res := .at (.dat 0), robs := [(9000, .cells false 1 false (.pts [.dat 1]))], nout := 2 }
/-- slices.pdqsortOrdered[string], with memory -/
def sg_slices_pdqsortOrdered_string_Nil : Sig := { args := [.at (.own 9000), .at (.dat 0), .at (.dat 1), .at (.dat 2)], obs := [(9000, .arr false 9 1 false 3)], res := .at (.dat 0), robs := [(9000, .arr false 9 1 false 1)], nout := 2 }
/-- duologue/duologueref10.compare, with memory -/
def sg_ref10_compare : Sig := { args := [.at (.dat 0), .at (.dat 1), .at (.ptr 9000 0)], obs := [(9000, .cells false 1 false (.pts [.own 9001])), (9001, .arr true 297 12 true 2)], res := .at (.dat 0), robs := [(9000, .cells false 1 false (.pts [.own 9002])), (9002, .arr true 297 12 true 1)], nout := 2 }
/-- duologue/proctree.weight$1, with memory -/
def sg_proctree_weight_1 : Sig := { args := [.at (.dat 0), .at (.ptr 9000 0)], obs := [(9000, .cells false 1 false (.pts [.dat 1]))], res := .at (.dat 0), robs := [(9000, .cells false 1 false (.pts [.dat 1]))], nout := 2 }
/-- slices.ContainsFunc[[]duologue/api.Proc,duologue/api.Proc], with memory -/
def sg_slices_ContainsFunc_api_Proc_api_Proc_Wg : Sig := { args := [.at (.dat 0), .at (.clo 225 [] [(9001, 0)])], obs := [(9001, .cells false 1 false (.pts [.clo 221 [] [(9000, 0)]])), (9000, .cells false 1 false (.pts [.dat 1]))], res := .at (.dat 0), robs := [(9001, .cells false 1 false (.pts [.clo 221 [] [(9000, 0)]])), (9000, .cells false 1 false (.pts [.dat 1]))], nout := 2 }
/-- slices.ContainsFunc[[]duologue/api.Proc,duologue/api.Proc], with memory -/
def sg_slices_ContainsFunc_api_Proc_api_Proc_Fw : Sig := { args := [.at (.dat 0), .at (.clo 225 [] [(9001, 0)])], obs := [(9001, .cells false 1 false (.pts [.clo 224 [] [(9000, 0)]])), (9000, .cells false 1 false (.pts [.dat 1]))], res := .at (.dat 0), robs := [(9001, .cells false 1 false (.pts [.clo 224 [] [(9000, 0)]])), (9000, .cells false 1 false (.pts [.dat 1]))], nout := 2 }
/-- duologue/proctree.few$1, with memory -/
def sg_proctree_few_1 : Sig := { args := [.at (.dat 0), .at (.ptr 9000 0)], obs := [(9000, .cells false 1 false (.pts [.dat 1]))], res := .at (.dat 0), robs := [(9000, .cells false 1 false (.pts [.dat 1]))], nout := 2 }
/-- duologue/proctree.all$1, with memory -/
def sg_proctree_all_1_Wg : Sig := { args := [.at (.dat 0), .at (.ptr 9001 0)], obs := [(9001, .cells false 1 false (.pts [.clo 221 [] [(9000, 0)]])), (9000, .cells false 1 false (.pts [.dat 1]))], res := .at (.dat 0), robs := [(9001, .cells false 1 false (.pts [.clo 221 [] [(9000, 0)]])), (9000, .cells false 1 false (.pts [.dat 1]))], nout := 2 }
/-- duologue/proctree.all$1, with memory -/
def sg_proctree_all_1_Fw : Sig := { args := [.at (.dat 0), .at (.ptr 9001 0)], obs := [(9001, .cells false 1 false (.pts [.clo 224 [] [(9000, 0)]])), (9000, .cells false 1 false (.pts [.dat 1]))], res := .at (.dat 0), robs := [(9001, .cells false 1 false (.pts [.clo 224 [] [(9000, 0)]])), (9000, .cells false 1 false (.pts [.dat 1]))], nout := 2 }
/-- slices.insertionSortOrdered[string], with memory -/
def sg_slices_insertionSortOrdered_string : Sig := { args := [.at (.own 9000), .at (.dat 0), .at (.dat 1)], obs := [(9000, .arr false 9 1 false 2)], res := .at (.dat 0), robs := [(9000, .arr false 9 1 false 1)], nout := 2 }
/-- (*duologue/equal.comparison).equal, with memory -/
def sg_equal_comparison_equal : Sig := { args := [.at (.ptr 9000 0), .at (.dat 0), .at (.dat 1)], obs := [(9000, .cells false 4 true (.pts [.dat 2, .mref 9001, .dat 3, .dat 4])), (9001, .map false 5)], res := .at (.dat 0), robs := [(9000, .cells false 4 true (.pts [.dat 1, .mref 9001, .dat 2, .dat 3])), (9001, .map false 4)], nout := 5 }
/-- slices.Collect[string], with memory -/
def sg_slices_Collect_string : Sig := { args := [.at (.dat 0)], obs := [], res := .at (.own 9000), robs := [(9000, .arr false 9 1 false 0)], nout := 1 }
/-- slices.IndexFunc[[]duologue/api.Proc,duologue/api.Proc], with memory -/
def sg_slices_IndexFunc_api_Proc_api_Proc_Wg : Sig := { args := [.at (.dat 0), .at (.clo 225 [] [(9001, 0)])], obs := [(9001, .cells false 1 false (.pts [.clo 221 [] [(9000, 0)]])), (9000, .cells false 1 false (.pts [.dat 1]))], res := .at (.dat 0), robs := [(9001, .cells false 1 false (.pts [.clo 221 [] [(9000, 0)]])), (9000, .cells false 1 false (.pts [.dat 1]))], nout := 2 }
/-- slices.IndexFunc[[]duologue/api.Proc,duologue/api.Proc], with memory -/
def sg_slices_IndexFunc_api_Proc_api_Proc_Fw : Sig := { args := [.at (.dat 0), .at (.clo 225 [] [(9001, 0)])], obs := [(9001, .cells false 1 false (.pts [.clo 224 [] [(9000, 0)]])), (9000, .cells false 1 false (.pts [.dat 1]))], res := .at (.dat 0), robs := [(9001, .cells false 1 false (.pts [.clo 224 [] [(9000, 0)]])), (9000, .cells false 1 false (.pts [.dat 1]))], nout := 2 }
/-- slices.AppendSeq[[]string,string], with memory -/
def sg_slices_AppendSeq_string_string : Sig := { args := [.at (.nils), .at (.dat 0)], obs := [], res := .at (.own 9000), robs := [(9000, .arr false 9 1 false 0)], nout := 1 }
def t_law26_WitnessDuals (xs : List PV) : T PV :=
.l (.okc 6 true) [(n xs 0)] fun x0 =>
.call F.law26_awake [] fun x1 =>
.l .bnot [x1] fun x2 =>
.ite x2 (
.call F.law26_awake [] fun x3 =>
.ret x3) (
.call F.ref02_Few [x0, (i 25)] fun x3 =>
.l .bnot [x3] fun x4 =>
.ite x4 (
.call F.law26_awake [] fun x5 =>
.ret x5) (
.call F.ref26_Simple [x0] fun x5 =>
.l .bnot [x5] fun x6 =>
.ite x6 (
.call F.law26_awake [] fun x7 =>
.ret x7) (
.call F.ref14_Dual [x0] fun x7 =>
.l (.okc 6 true) [x7] fun x8 =>
.call F.ref26_Simple [x8] fun x9 =>
.l .bnot [x9] fun x10 =>
.ite x10 (
.ret (.bool true)) (
.l (.conv .i64) [(n xs 2)] fun x11 =>
.call F.witness_Trace [x0, (n xs 1), x11] fun x12 =>
.l (.conv .i64) [(n xs 2)] fun x13 =>
.call F.witness_Trace [x8, (n xs 1), x13] fun x14 =>
.l .len [x12] fun x15 =>
.l .len [x14] fun x16 =>
.l (.cmp .neq .i64) [x15, x16] fun x17 =>
.ite x17 (
.ret (.bool false)) (
.loop [(i 0)] fun y18 =>
.l .len [x12] fun x19 =>
.l (.cmp .lss .i64) [(n y18 0), x19] fun x20 =>
.ite x20 (
.l (.idx 6 true) [x14, (n y18 0)] fun x21 =>
.l (.okc 6 true) [x21] fun x22 =>
.l .bnot [(c 1 x22)] fun x23 =>
.l (.okc 1 false) [x23] fun x24 =>
.l (.idx 6 true) [x12, (n y18 0)] fun x25 =>
.l (.acmp .neq [.i .i64, .b, .s, .i .i64, .s, .i .i64]) [x25, (.agg [(c 0 x22), x24, (c 2 x22), (c 3 x22), (c 4 x22), (c 5 x22)])] fun x26 =>
.ite x26 (
.ret (.bool false)) (
.l (.arith .add .i64) [(n y18 0), (i 1)] fun x27 =>
.cont 0 [x27])) (
.ret (.bool true)))))))
theorem k_law26_WitnessDuals : TxOk P F.law26_WitnessDuals 3 t_law26_WitnessDuals := txOk_of (H := {}) (plans := []) hm Tryz.func6 rfl rfl fun xs => by kernel_rfl
def t_law26_awake (xs : List PV) : T PV :=
.l (.lst 6 true) [(.agg [(i 1), (i 0), (.str ⟨#[]⟩), (i 0), (.sl []), (.sl [])]), (.agg [(i 3), (i 0), (.str ⟨#[]⟩), (i 0), (.sl []), (.sl [])])] fun x0 =>
.call F.witness_Program [(.agg [(i 4), (i 3), (.str ⟨#[]⟩), (i 0), (.sl []), x0]), (i 0)] fun x1 =>
.l (.tc 0) [x1] fun x2 =>
.l (.tc 1) [x1] fun x3 =>
.l (.okc 13 true) [x2] fun x4 =>
.call F.witness_Program [(.agg [(i 1), (i 0), (.str ⟨#[]⟩), (i 0), (.sl []), (.sl [])]), (i 0)] fun x5 =>
.l (.tc 0) [x5] fun x6 =>
.l (.tc 1) [x5] fun x7 =>
.l (.okc 13 true) [x6] fun x8 =>
.call F.witness_Trace [(.agg [(i 4), (i 3), (.str ⟨#[]⟩), (i 0), (.sl []), x0]), (i 0), (i 9)] fun x9 =>
.l .len [(c 0 x4)] fun x10 =>
.l (.cmp .neq .i64) [x10, (i 4)] fun x11 =>
.ite x11 (
.ret (.bool false)) (
.l .len [x9] fun x12 =>
.l (.cmp .neq .i64) [x12, (i 1)] fun x13 =>
.ite x13 (
.ret (.bool false)) (
.l (.cmp .eql .i64) [x3, (i 0)] fun x14 =>
.ite x14 (
.l (.cmp .eql .i64) [x7, (i 12)] fun x15 =>
.ite x15 (
.l (.idx 14 true) [(c 0 x4), (i 0)] fun x16 =>
.l (.scmp .eql) [(c 0 x16), (.str ⟨#[80, 48]⟩)] fun x17 =>
.ite x17 (
.l (.idx 14 true) [(c 0 x4), (i 1)] fun x18 =>
.l (.scmp .eql) [(c 0 x18), (.str ⟨#[80, 50]⟩)] fun x19 =>
.ite x19 (
.l (.idx 14 true) [(c 0 x4), (i 2)] fun x20 =>
.l (.scmp .eql) [(c 0 x20), (.str ⟨#[80, 51]⟩)] fun x21 =>
.ite x21 (
.l (.idx 14 true) [(c 0 x4), (i 3)] fun x22 =>
.l (.scmp .eql) [(c 0 x22), (.str ⟨#[80, 53]⟩)] fun x23 =>
.ite x23 (
.l (.idx 6 true) [x9, (i 0)] fun x24 =>
.call F.step_Text [x24] fun x25 =>
.l (.scmp .eql) [x25, (.str ⟨#[48, 43, 33, 60, 48, 62]⟩)] fun x26 =>
.ite x26 (
.call F.witness_Simple [(.agg [(i 4), (i 3), (.str ⟨#[]⟩), (i 0), (.sl []), x0])] fun x27 =>
.ite x27 (
.l (.lst 6 true) [(.agg [(i 4), (i 3), (.str ⟨#[]⟩), (i 0), (.sl []), x0]), (.agg [(i 4), (i 3), (.str ⟨#[]⟩), (i 0), (.sl []), x0])] fun x28 =>
.call F.witness_Simple [(.agg [(i 4), (i 0), (.str ⟨#[]⟩), (i 0), (.sl []), x28])] fun x29 =>
.l .bnot [x29] fun x30 =>
.ret x30) (
.ret (.bool false))) (
.ret (.bool false))) (
.ret (.bool false))) (
.ret (.bool false))) (
.ret (.bool false))) (
.ret (.bool false))) (
.ret (.bool false))) (
.ret (.bool false))))
theorem k_law26_awake : TxOk P F.law26_awake 0 t_law26_awake := txOk_of (H := {}) (plans := []) hm Tryz.func7 rfl rfl fun xs => by kernel_rfl
def t_ref02_Few (xs : List PV) : T PV :=
.l (.okc 6 true) [(n xs 0)] fun x0 =>
.call F.ref02_count [x0, (n xs 1)] fun x1 =>
.l (.cmp .geq .i64) [x1, (i 0)] fun x2 =>
.ite x2 (
.call F.ref02_Depth [x0] fun x3 =>
.l (.cmp .leq .i64) [x3, (i 150)] fun x4 =>
.ret x4) (
.ret (.bool false))
theorem k_ref02_Few : TxOk P F.ref02_Few 2 t_ref02_Few := txOk_of (H := {}) (plans := []) hm Tryz.func8 rfl rfl fun xs => by kernel_rfl
def t_witness_Program (xs : List PV) : T PV :=
.l (.okc 6 true) [(n xs 0)] fun x0 =>
.call F.witness_Simple [x0] fun x1 =>
.l .bnot [x1] fun x2 =>
.ite x2 (
.ret (.tup [(.agg [(.sl []), (i 0), (.str ⟨#[]⟩), (.str ⟨#[]⟩), (.sl []), (.sl []), (i 0), (i 0), (.str ⟨#[]⟩), (i 0), (.sl []), (.sl []), (.sl [])]), (i 12)])) (
.call F.witness_build [x0] fun x3 =>
.l (.tc 0) [x3] fun x4 =>
.l (.tc 1) [x3] fun x5 =>
.l (.okc 1 true) [x4] fun x6 =>
.l (.okc 2 true) [x5] fun x7 =>
.l (.okcs [(1, true), (1, false)]) [x6, (n xs 1)] fun x8 =>
.call F.dual_Of [x6, x7] fun x9 =>
.l (.okc 2 true) [x9] fun x10 =>
.call F.graph_Reach [x6, x7] fun x11 =>
.call F.graph_Reach [x6, x10] fun x12 =>
.l (.lst 1 false) [x11, x12] fun x13 =>
.calls F.slices_Concat_int_int sg_slices_Concat_int_int [x13] fun z14 =>
.calls F.slices_Sort_int_int sg_slices_Sort_int_int [(n z14 0)] fun z15 =>
.calls F.slices_Compact_int_int sg_slices_Compact_int_int [(n z15 1)] fun z16 =>
.l .len [(n z16 0)] fun x17 =>
.loop [(i 0), (.sl []), (i 0), (.str ⟨#[]⟩), (.str ⟨#[]⟩), (.sl []), (.sl []), (i 0), (i 0), (.str ⟨#[]⟩), (i 0), (.sl []), (.sl []), (.sl [])] fun y18 =>
.l (.cmp .lss .i64) [(n y18 0), x17] fun x19 =>
.ite x19 (
.l (.idx 1 false) [(n z16 0), (n y18 0)] fun x20 =>
.l (.idx 1 false) [(n z16 0), (n y18 0)] fun x21 =>
.l (.okcs [(1, false)]) [x21] fun x22 =>
.call F.witness_bodies [] fun x23 =>
.call F.head_Kind [x6, (.agg [x21, (i 0)])] fun x24 =>
.l (.mget2 false [.i .i64] .nilF) [x23, x24] fun x25 =>
.l (.tc 0) [x25] fun x26 =>
.l (.tc 1) [x25] fun x27 =>
.ite x27 (
.call F.witness_name [x21] fun x28 =>
.call F.readback_Normal [x6, (.agg [x21, (i 0)])] fun x29 =>
.l (.okcs [(6, true)]) [x29] fun x30 =>
.l (.lst 7 true) [(.agg [(.str ⟨#[97]⟩), (c 0 x29), (c 1 x29), (c 2 x29), (c 3 x29), (c 4 x29), (c 5 x29)])] fun x31 =>
.callv x26 [(.agg [(c 0 x6), (n xs 1)]), (.agg [x21, (i 0)])] fun x32 =>
.l (.okcs [(1, false), (12, true)]) [x28, x32] fun x33 =>
.l (.lst 14 true) [(.agg [x28, x31, (c 0 x32), (c 1 x32), (c 2 x32), (c 3 x32), (c 4 x32), (c 5 x32), (c 6 x32), (c 7 x32), (c 8 x32), (c 9 x32), (c 10 x32), (c 11 x32)])] fun x34 =>
.l (.app 14 true 240) [(n y18 1), x34] fun x35 =>
.l (.arith .add .i64) [(n y18 0), (i 1)] fun x36 =>
.cont 0 [x36, x35, (n y18 2), (n y18 3), (n y18 4), (n y18 5), (n y18 6), (n y18 7), (n y18 8), (n y18 9), (n y18 10), (n y18 11), (n y18 12), (n y18 13)]) (
.l (.arith .add .i64) [(n y18 0), (i 1)] fun x28 =>
.cont 0 [x28, (n y18 1), (n y18 2), (n y18 3), (n y18 4), (n y18 5), (n y18 6), (n y18 7), (n y18 8), (n y18 9), (n y18 10), (n y18 11), (n y18 12), (n y18 13)])) (
.call F.witness_call [x7, (.str ⟨#[97]⟩)] fun x20 =>
.call F.witness_call [x10, (.str ⟨#[98]⟩)] fun x21 =>
.l (.lst 12 true) [x20, x21] fun x22 =>
.call F.readback_Normal [x6, x7] fun x23 =>
.l (.lst 12 true) [(.agg [(i 7), (.str ⟨#[]⟩), (.str ⟨#[]⟩), (.sl []), (.sl []), (i 0), (i 0), (.str ⟨#[]⟩), (i 0), (.sl []), (.sl []), x22])] fun x24 =>
.l (.okcs [(6, true)]) [x23] fun x25 =>
.call F.scope_Check [(.agg [(n y18 1), (i 6), (.str ⟨#[97]⟩), (.str ⟨#[98]⟩), (.sl []), (.sl []), (c 0 x23), (c 1 x23), (c 2 x23), (c 3 x23), (c 4 x23), (c 5 x23), x24])] fun x26 =>
.l (.okc 2 true) [x26] fun x27 =>
.l (.cmp .neq .i64) [(c 0 x27), (i 0)] fun x28 =>
.ite x28 (
.ret (.tup [(.agg [(.sl []), (i 0), (.str ⟨#[]⟩), (.str ⟨#[]⟩), (.sl []), (.sl []), (i 0), (i 0), (.str ⟨#[]⟩), (i 0), (.sl []), (.sl []), (.sl [])]), (i 2)])) (
.ret (.tup [(.agg [(n y18 1), (i 6), (.str ⟨#[97]⟩), (.str ⟨#[98]⟩), (.sl []), (.sl []), (c 0 x23), (c 1 x23), (c 2 x23), (c 3 x23), (c 4 x23), (c 5 x23), x24]), (i 0)]))))
theorem k_witness_Program : TxOk P F.witness_Program 2 t_witness_Program := txOk_of (H := { wr := [0, 1, 2, 3, 4, 5, 6, 7, 8, 9, 10, 11, 12, 13, 14, 15, 16, 17, 18, 19, 20, 21, 22, 23, 24, 25, 26, 27, 28, 29, 30, 31, 32, 33, 34, 35, 36, 37, 38, 39, 40, 41, 42, 43, 44, 45, 46, 47, 48, 49, 50, 51, 52, 53, 54, 55, 56, 57, 58, 59, 60, 61, 62, 63, 64, 65, 66, 67, 68, 69, 70, 71, 72, 73, 74, 75, 76, 77, 78, 79, 80, 81, 82, 83, 84, 85, 86, 87, 88, 89, 90, 91, 92, 93, 94, 95, 96, 97, 98, 99], ro := [], nl := [], fz := [], da := [], sigs := [(62, sg_slices_Grow_int_int), (26, sg_slices_Concat_int_int), (29, sg_slices_Compact_int_int), (28, sg_slices_Sort_int_int), (63, sg_graph_set_add), (64, sg_slices_pdqsortOrdered_int_Nil), (114, sg_slices_insertionSortOrdered_int), (139, sg_slices_Sort_string_string), (190, sg_slices_pdqsortOrdered_string_Nil), (233, sg_slices_insertionSortOrdered_string)] }) (plans := []) hm Tryz.func9 rfl rfl fun xs => by kernel_rfl
def t_witness_Simple (xs : List PV) : T PV :=
.l (.okc 6 true) [(n xs 0)] fun x0 =>
.call F.typetree_Right [x0] fun x1 =>
.l (.cmp .eql .i64) [x1, (i 0)] fun x2 =>
.ite x2 (
.call F.typetree_Session [x0] fun x3 =>
.ite x3 (
.call F.witness_plain [x0] fun x4 =>
.ret x4) (
.ret (.bool false))) (
.ret (.bool false))
theorem k_witness_Simple : TxOk P F.witness_Simple 1 t_witness_Simple := txOk_of (H := {}) (plans := []) hm Tryz.func10 rfl rfl fun xs => by kernel_rfl
def t_ref26_Simple (xs : List PV) : T PV :=
.l (.okc 6 true) [(n xs 0)] fun x0 =>
.call F.ref02_Right [x0] fun x1 =>
.l (.cmp .eql .i64) [x1, (i 0)] fun x2 =>
.ite x2 (
.call F.ref02_Session [x0] fun x3 =>
.ite x3 (
.call F.ref26_plain [x0] fun x4 =>
.ret x4) (
.ret (.bool false))) (
.ret (.bool false))
theorem k_ref26_Simple : TxOk P F.ref26_Simple 1 t_ref26_Simple := txOk_of (H := {}) (plans := []) hm Tryz.func11 rfl rfl fun xs => by kernel_rfl
def t_witness_Trace (xs : List PV) : T PV :=
.l (.okc 6 true) [(n xs 0)] fun x0 =>
.l (.okc 1 false) [(n xs 2)] fun x1 =>
.call F.witness_build [x0] fun x2 =>
.l (.tc 0) [x2] fun x3 =>
.l (.tc 1) [x2] fun x4 =>
.l (.okc 1 true) [x3] fun x5 =>
.l (.okc 2 true) [x4] fun x6 =>
.l (.cmp .leq .i64) [x1, (i 0)] fun x7 =>
.ite x7 (
.ret (.sl [])) (
.l (.okcs [(1, true), (1, false)]) [x5, (n xs 1)] fun x8 =>
.calls F.witness_maker_events sg_witness_maker_events [(.agg [(c 0 x5), (n xs 1)]), x6] fun z9 =>
.iterS F.witness_maker_events_1 sg_witness_maker_events_1 [(n z9 0), (n z9 1), (n z9 2), (n z9 3)] 1 [(.sl [])] (fun e10 y10 =>
.l (.okc 6 true) [(n e10 0)] fun x11 =>
.l (.lst 6 true) [x11] fun x12 =>
.l (.app 6 true 64) [(n y10 0), x12] fun x13 =>
.l .len [x13] fun x14 =>
.l (.cmp .eql .i64) [x14, x1] fun x15 =>
.ite x15 (
.fail) (
.cont 0 [x13])) (fun e10 y10 =>
.l (.okc 6 true) [(n e10 0)] fun x11 =>
.l (.lst 6 true) [x11] fun x12 =>
.l (.app 6 true 64) [(n y10 0), x12] fun x13 =>
.l .len [x13] fun x14 =>
.l (.cmp .eql .i64) [x14, x1] fun x15 =>
.ite x15 (
.ret x13) (
.fail)) fun y10 =>
.ret (n y10 0))
theorem k_witness_Trace : TxOk P F.witness_Trace 3 t_witness_Trace := txOk_of (H := { wr := [], ro := [], nl := [], fz := [], da := [], sigs := [(52, sg_witness_maker_events), (96, sg_witness_maker_events_1)] }) (plans := []) hm Tryz.func15 rfl rfl fun xs => by kernel_rfl
def t_ref02_Raise (xs : List PV) : T PV :=
.l (.okc 6 true) [(n xs 0)] fun x0 =>
.l (.lst 1 false) [] fun x1 =>
.l (.app 1 false 16) [x1, (c 4 x0)] fun x2 =>
.l (.okcs [(1, false), (1, false), (1, false), (1, false)]) [(c 0 x0), (c 1 x0), (c 2 x0), (c 3 x0)] fun x3 =>
.l (.cmp .geq .i64) [(c 0 x0), (i 4)] fun x4 =>
.ite x4 (
.l (.cmp .leq .i64) [(c 0 x0), (i 7)] fun x5 =>
.ite x5 (
.l (.arith .add .i64) [(c 1 x0), (n xs 1)] fun x6 =>
.l (.okc 1 false) [x6] fun x7 =>
.loop [(i 0), (c 0 x0), x7, (c 2 x0), (c 3 x0), x2, (.sl [])] fun y8 =>
.l .len [(c 5 x0)] fun x9 =>
.l (.cmp .lss .i64) [(n y8 0), x9] fun x10 =>
.ite x10 (
.l (.idx 6 true) [(c 5 x0), (n y8 0)] fun x11 =>
.call F.ref02_Raise [x11, (n xs 1)] fun x12 =>
.l (.lst 6 true) [x12] fun x13 =>
.l (.app 6 true 88) [(n y8 6), x13] fun x14 =>
.l (.arith .add .i64) [(n y8 0), (i 1)] fun x15 =>
.cont 0 [x15, (n y8 1), (n y8 2), (n y8 3), (n y8 4), (n y8 5), x14]) (
.ret (.agg [(n y8 1), (n y8 2), (n y8 3), (n y8 4), (n y8 5), (n y8 6)]))) (
.loop [(i 0), (c 0 x0), (c 1 x0), (c 2 x0), (c 3 x0), x2, (.sl [])] fun y6 =>
.l .len [(c 5 x0)] fun x7 =>
.l (.cmp .lss .i64) [(n y6 0), x7] fun x8 =>
.ite x8 (
.l (.idx 6 true) [(c 5 x0), (n y6 0)] fun x9 =>
.call F.ref02_Raise [x9, (n xs 1)] fun x10 =>
.l (.lst 6 true) [x10] fun x11 =>
.l (.app 6 true 88) [(n y6 6), x11] fun x12 =>
.l (.arith .add .i64) [(n y6 0), (i 1)] fun x13 =>
.cont 0 [x13, (n y6 1), (n y6 2), (n y6 3), (n y6 4), (n y6 5), x12]) (
.ret (.agg [(n y6 1), (n y6 2), (n y6 3), (n y6 4), (n y6 5), (n y6 6)])))) (
.loop [(i 0), (c 0 x0), (c 1 x0), (c 2 x0), (c 3 x0), x2, (.sl [])] fun y5 =>
.l .len [(c 5 x0)] fun x6 =>
.l (.cmp .lss .i64) [(n y5 0), x6] fun x7 =>
.ite x7 (
.l (.idx 6 true) [(c 5 x0), (n y5 0)] fun x8 =>
.call F.ref02_Raise [x8, (n xs 1)] fun x9 =>
.l (.lst 6 true) [x9] fun x10 =>
.l (.app 6 true 88) [(n y5 6), x10] fun x11 =>
.l (.arith .add .i64) [(n y5 0), (i 1)] fun x12 =>
.cont 0 [x12, (n y5 1), (n y5 2), (n y5 3), (n y5 4), (n y5 5), x11]) (
.ret (.agg [(n y5 1), (n y5 2), (n y5 3), (n y5 4), (n y5 5), (n y5 6)])))
theorem k_ref02_Raise : TxOk P F.ref02_Raise 2 t_ref02_Raise := txOk_of (H := { wr := [50], ro := [], nl := [], fz := [], da := [], sigs := [] }) (plans := []) hm Tryz.func17 rfl rfl fun xs => by kernel_rfl
def u_ref02_Raise (xs : List PV) : T PV :=
.l (.okc 6 true) [(n xs 0)] fun x0 =>
.l (.lst 1 false) [] fun x1 =>
.l (.app 1 false 16) [x1, (c 4 x0)] fun x2 =>
.l (.okcs [(1, false), (1, false), (1, false), (1, false)]) [(c 0 x0), (c 1 x0), (c 2 x0), (c 3 x0)] fun x3 =>
.l (.cmp .geq .i64) [(c 0 x0), (i 4)] fun x4 =>
.ite x4 (
.l (.cmp .leq .i64) [(c 0 x0), (i 7)] fun x5 =>
.ite x5 (
.l (.arith .add .i64) [(c 1 x0), (n xs 1)] fun x6 =>
.l (.okc 1 false) [x6] fun x7 =>
.loop [(i 0), (c 0 x0), x7, (c 2 x0), (c 3 x0), x2, (.sl [])] fun y8 =>
.l .len [(c 5 x0)] fun x9 =>
.l (.cmp .lss .i64) [(n y8 0), x9] fun x10 =>
.ite x10 (
.l (.idx 6 true) [(c 5 x0), (n y8 0)] fun x11 =>
.call F.ref02_Raise [x11, (n xs 1)] fun x12 =>
.l (.lst 6 true) [x12] fun x13 =>
.l (.app 6 true 88) [(n y8 6), x13] fun x14 =>
.l (.arith .add .i64) [(n y8 0), (i 1)] fun x15 =>
.cont 0 [x15, (n y8 1), (n y8 2), (n y8 3), (n y8 4), (n y8 5), x14]) (
.ret (.tup [(n y8 1), (n y8 2), (n y8 3), (n y8 4), (n y8 5), (n y8 6)]))) (
.loop [(i 0), (c 0 x0), (c 1 x0), (c 2 x0), (c 3 x0), x2, (.sl [])] fun y6 =>
.l .len [(c 5 x0)] fun x7 =>
.l (.cmp .lss .i64) [(n y6 0), x7] fun x8 =>
.ite x8 (
.l (.idx 6 true) [(c 5 x0), (n y6 0)] fun x9 =>
.call F.ref02_Raise [x9, (n xs 1)] fun x10 =>
.l (.lst 6 true) [x10] fun x11 =>
.l (.app 6 true 88) [(n y6 6), x11] fun x12 =>
.l (.arith .add .i64) [(n y6 0), (i 1)] fun x13 =>
.cont 0 [x13, (n y6 1), (n y6 2), (n y6 3), (n y6 4), (n y6 5), x12]) (
.ret (.tup [(n y6 1), (n y6 2), (n y6 3), (n y6 4), (n y6 5), (n y6 6)])))) (
.loop [(i 0), (c 0 x0), (c 1 x0), (c 2 x0), (c 3 x0), x2, (.sl [])] fun y5 =>
.l .len [(c 5 x0)] fun x6 =>
.l (.cmp .lss .i64) [(n y5 0), x6] fun x7 =>
.ite x7 (
.l (.idx 6 true) [(c 5 x0), (n y5 0)] fun x8 =>
.call F.ref02_Raise [x8, (n xs 1)] fun x9 =>
.l (.lst 6 true) [x9] fun x10 =>
.l (.app 6 true 88) [(n y5 6), x10] fun x11 =>
.l (.arith .add .i64) [(n y5 0), (i 1)] fun x12 =>
.cont 0 [x12, (n y5 1), (n y5 2), (n y5 3), (n y5 4), (n y5 5), x11]) (
.ret (.tup [(n y5 1), (n y5 2), (n y5 3), (n y5 4), (n y5 5), (n y5 6)])))
theorem m_ref02_Raise : TxOkS P F.ref02_Raise sg_ref02_Raise u_ref02_Raise := txOkS_of (H := { wr := [50], ro := [], nl := [], fz := [], da := [], sigs := [] }) (plans := []) hm Tryz.func17 rfl fun xs => by kernel_rfl
def t_ref14_Dual (xs : List PV) : T PV :=
.l (.okc 6 true) [(n xs 0)] fun x0 =>
.call F.ref14_dual [x0, (.sl [])] fun x1 =>
.l (.okc 6 true) [x1] fun x2 =>
.ret x2
theorem k_ref14_Dual : TxOk P F.ref14_Dual 1 t_ref14_Dual := txOk_of (H := {}) (plans := []) hm Tryz.func20 rfl rfl fun xs => by kernel_rfl
def t_step_Text (xs : List PV) : T PV :=
.l (.okc 6 true) [(n xs 0)] fun x0 =>
.call F.config_Name [(c 0 x0), (c 1 x0)] fun x1 =>
.l (.scmp .neq) [(c 2 x0), (.str ⟨#[]⟩)] fun x2 =>
.ite x2 (
.l .cat [x1, (.str ⟨#[46]⟩)] fun x3 =>
.l .cat [x3, (c 2 x0)] fun x4 =>
.ret x4) (
.l .cat [x1, (.str ⟨#[33, 60]⟩)] fun x3 =>
.call F.show_Value [(sb 3 3 x0)] fun x4 =>
.l .cat [x3, x4] fun x5 =>
.l .cat [x5, (.str ⟨#[62]⟩)] fun x6 =>
.ret x6)
theorem k_step_Text : TxOk P F.step_Text 1 t_step_Text := txOk_of (H := {}) (plans := []) hm Tryz.func21 rfl rfl fun xs => by kernel_rfl
def t_ref02_count (xs : List PV) : T PV :=
.l (.okc 6 true) [(n xs 0)] fun x0 =>
.l (.arith .sub .i64) [(n xs 1), (i 1)] fun x1 =>
.loop [(i 0), x1] fun y2 =>
.l .len [(c 5 x0)] fun x3 =>
.l (.cmp .lss .i64) [(n y2 0), x3] fun x4 =>
.ite x4 (
.l (.cmp .geq .i64) [(n y2 1), (i 0)] fun x5 =>
.ite x5 (
.l (.idx 6 true) [(c 5 x0), (n y2 0)] fun x6 =>
.call F.ref02_count [x6, (n y2 1)] fun x7 =>
.l (.arith .add .i64) [(n y2 0), (i 1)] fun x8 =>
.cont 0 [x8, x7]) (
.ret (n y2 1))) (
.ret (n y2 1))
theorem k_ref02_count : TxOk P F.ref02_count 2 t_ref02_count := txOk_of (H := {}) (plans := []) hm Tryz.func22 rfl rfl fun xs => by kernel_rfl
def t_ref02_Depth (xs : List PV) : T PV :=
.l (.okc 6 true) [(n xs 0)] fun x0 =>
.loop [(i 0), (i 0)] fun y1 =>
.l .len [(c 5 x0)] fun x2 =>
.l (.cmp .lss .i64) [(n y1 0), x2] fun x3 =>
.ite x3 (
.l (.idx 6 true) [(c 5 x0), (n y1 0)] fun x4 =>
.call F.ref02_Depth [x4] fun x5 =>
.l (.mx .i64) [(n y1 1), x5] fun x6 =>
.l (.arith .add .i64) [(n y1 0), (i 1)] fun x7 =>
.cont 0 [x7, x6]) (
.l (.arith .add .i64) [(n y1 1), (i 1)] fun x4 =>
.ret x4)
theorem k_ref02_Depth : TxOk P F.ref02_Depth 1 t_ref02_Depth := txOk_of (H := {}) (plans := []) hm Tryz.func23 rfl rfl fun xs => by kernel_rfl
def t_witness_build (xs : List PV) : T PV :=
.l (.okc 6 true) [(n xs 0)] fun x0 =>
.l (.lst 6 true) [x0] fun x1 =>
.call F.graph_Build [x1] fun x2 =>
.l (.tc 0) [x2] fun x3 =>
.l (.tc 1) [x2] fun x4 =>
.l (.okc 1 true) [x3] fun x5 =>
.call F.dual_Close [x5] fun x6 =>
.l (.idx 2 true) [x4, (i 0)] fun x7 =>
.l (.okc 1 true) [x6] fun x8 =>
.l (.okc 2 true) [x7] fun x9 =>
.ret (.tup [x8, x9])
theorem k_witness_build : TxOk P F.witness_build 1 t_witness_build := txOk_of (H := {}) (plans := []) hm Tryz.func24 rfl rfl fun xs => by kernel_rfl
def t_dual_Of (xs : List PV) : T PV :=
.l (.okc 1 true) [(n xs 0)] fun x0 =>
.l (.okc 2 true) [(n xs 1)] fun x1 =>
.l .len [(c 0 x0)] fun x2 =>
.l (.arith .quo .i64) [x2, (i 2)] fun x3 =>
.l (.cmp .lss .i64) [(c 0 x1), x3] fun x4 =>
.ite x4 (
.l (.arith .add .i64) [(c 0 x1), x3] fun x5 =>
.l (.okc 1 false) [x5] fun x6 =>
.ret (.agg [x6, (c 1 x1)])) (
.l (.arith .sub .i64) [(c 0 x1), x3] fun x5 =>
.l (.okc 1 false) [x5] fun x6 =>
.ret (.agg [x6, (c 1 x1)]))
theorem k_dual_Of : TxOk P F.dual_Of 2 t_dual_Of := txOk_of (H := {}) (plans := []) hm Tryz.func25 rfl rfl fun xs => by kernel_rfl
-- NOT TOLD: 26 slices.Concat[[]int,int]: 1
def u_slices_Concat_int_int (xs : List PV) : T PV :=
.l .len [(n xs 0)] fun x0 =>
.loop [(i 0), (i 0)] fun y1 =>
.l (.cmp .lss .i64) [(n y1 0), x0] fun x2 =>
.ite x2 (
.l (.idx 1 false) [(n xs 0), (n y1 0)] fun x3 =>
.l .len [x3] fun x4 =>
.l (.arith .add .i64) [(n y1 1), x4] fun x5 =>
.l (.cmp .lss .i64) [x5, (i 0)] fun x6 =>
.ite x6 (
.fail) (
.l (.arith .add .i64) [(n y1 0), (i 1)] fun x7 =>
.cont 0 [x7, x5])) (
.calls F.slices_Grow_int_int sg_slices_Grow_int_int [(n y1 1)] fun z3 =>
.l .len [(n xs 0)] fun x4 =>
.loop [(i 0), (n z3 0)] fun y5 =>
.l (.cmp .lss .i64) [(n y5 0), x4] fun x6 =>
.ite x6 (
.l (.idx 1 false) [(n xs 0), (n y5 0)] fun x7 =>
.l (.app 1 false 8) [(n y5 1), x7] fun x8 =>
.l (.arith .add .i64) [(n y5 0), (i 1)] fun x9 =>
.cont 1 [x9, x8]) (
.ret (.tup [(n y5 1)])))
theorem m_slices_Concat_int_int : TxOkS P F.slices_Concat_int_int sg_slices_Concat_int_int u_slices_Concat_int_int := txOkS_of (H := { wr := [0, 1, 2, 3, 4, 5, 6, 7, 8, 9, 10, 11, 12, 13, 14, 15, 16, 17, 18, 19, 20, 21, 22, 23, 24, 25, 26, 27, 28, 29, 30, 31, 32, 33, 34, 35, 36, 37, 38, 39], ro := [], nl := [], fz := [], da := [], sigs := [(62, sg_slices_Grow_int_int), (26, sg_slices_Concat_int_int), (29, sg_slices_Compact_int_int), (62, sg_slices_Grow_int_int), (26, sg_slices_Concat_int_int), (29, sg_slices_Compact_int_int)] }) (plans := []) hm Tryz.func26 rfl fun xs => by kernel_rfl
def t_graph_Reach (xs : List PV) : T PV :=
.l (.okc 1 true) [(n xs 0)] fun x0 =>
.l (.okc 2 true) [(n xs 1)] fun x1 =>
.l .len [(c 0 x0)] fun x2 =>
.l (.arith .quo .i64) [x2, (i 64)] fun x3 =>
.l (.arith .add .i64) [x3, (i 1)] fun x4 =>
.l (.rep 1 false 8 (.int .u64 (0))) [x4] fun x5 =>
.calls F.graph_set_add sg_graph_set_add [(c 0 x1), x5] fun z6 =>
.l (.lst 1 false) [(c 0 x1)] fun x7 =>
.loop [(i 0), x7, (n z6 1)] fun y8 =>
.l .len [(n y8 1)] fun x9 =>
.l (.cmp .lss .i64) [(n y8 0), x9] fun x10 =>
.ite x10 (
.l (.idx 1 false) [(n y8 1), (n y8 0)] fun x11 =>
.l (.idx 1 false) [(n y8 1), (n y8 0)] fun x12 =>
.l (.idx 4 true) [(c 0 x0), x12] fun x13 =>
.l .len [(c 3 x13)] fun x14 =>
.loop [(i 0), (n y8 1), (n y8 2)] fun y15 =>
.l (.cmp .lss .i64) [(n y15 0), x14] fun x16 =>
.ite x16 (
.l (.idx 2 true) [(c 3 x13), (n y15 0)] fun x17 =>
.l (.okc 2 true) [x17] fun x18 =>
.calls F.graph_set_add sg_graph_set_add [(c 0 x18), (n y15 2)] fun z19 =>
.ite (n z19 0) (
.l (.lst 1 false) [(c 0 x18)] fun x20 =>
.l (.app 1 false 8) [(n y15 1), x20] fun x21 =>
.l (.arith .add .i64) [(n y15 0), (i 1)] fun x22 =>
.cont 1 [x22, x21, (n z19 1)]) (
.l (.arith .add .i64) [(n y15 0), (i 1)] fun x20 =>
.cont 1 [x20, (n y15 1), (n z19 1)])) (
.l (.arith .add .i64) [(n y8 0), (i 1)] fun x17 =>
.cont 0 [x17, (n y15 1), (n y15 2)])) (
.calls F.slices_Sort_int_int sg_slices_Sort_int_int [(n y8 1)] fun z11 =>
.ret (n z11 1))
theorem k_graph_Reach : TxOk P F.graph_Reach 2 t_graph_Reach := txOk_of (H := { wr := [0, 1, 2, 3, 4, 5, 6, 7, 8, 9, 10, 11, 12, 13, 14, 15, 16, 17, 18, 19, 20, 21, 22, 23, 24, 25, 26, 27, 28, 29, 30, 31, 32, 33, 34, 35, 36, 37, 38, 39, 40, 41, 42, 43, 44, 45, 46, 47, 48, 49, 50, 51, 52, 53, 54, 55, 56, 57, 58, 59, 60, 61, 62, 63, 64, 65, 66, 67, 68, 69, 70, 71, 72, 73, 74, 75, 76, 77, 78, 79, 80, 81, 82, 83, 84, 85, 86, 87, 88, 89, 90, 91, 92, 93, 94, 95, 96, 97, 98, 99], ro := [], nl := [], fz := [], da := [], sigs := [(28, sg_slices_Sort_int_int), (63, sg_graph_set_add), (64, sg_slices_pdqsortOrdered_int_Nil), (114, sg_slices_insertionSortOrdered_int), (139, sg_slices_Sort_string_string), (190, sg_slices_pdqsortOrdered_string_Nil), (233, sg_slices_insertionSortOrdered_string)] }) (plans := []) hm Tryz.func27 rfl rfl fun xs => by kernel_rfl
def t_slices_Sort_int_int (xs : List PV) : T PV :=
.l .len [(n xs 0)] fun x0 =>
.l (.conv .u64) [x0] fun x1 =>
.call F.math_bits_Len [x1] fun x2 =>
.call F.slices_pdqsortOrdered_int [(n xs 0), (i 0), x0, x2] fun x3 =>
.ret (.tup [])
theorem k_slices_Sort_int_int : TxOk P F.slices_Sort_int_int 1 t_slices_Sort_int_int := txOk_of (H := {}) (plans := []) hm Tryz.func28 rfl rfl fun xs => by kernel_rfl
def u_slices_Sort_int_int (xs : List PV) : T PV :=
.l .len [(n xs 0)] fun x0 =>
.l (.conv .u64) [x0] fun x1 =>
.call F.math_bits_Len [x1] fun x2 =>
.calls F.slices_pdqsortOrdered_int sg_slices_pdqsortOrdered_int_Nil [(i 0), x0, x2, (n xs 0)] fun z3 =>
.ret (.tup [(.tup []), (n z3 1)])
theorem m_slices_Sort_int_int : TxOkS P F.slices_Sort_int_int sg_slices_Sort_int_int u_slices_Sort_int_int := txOkS_of (H := { wr := [], ro := [], nl := [], fz := [], da := [], sigs := [(28, sg_slices_Sort_int_int), (63, sg_graph_set_add), (64, sg_slices_pdqsortOrdered_int_Nil), (114, sg_slices_insertionSortOrdered_int), (139, sg_slices_Sort_string_string), (190, sg_slices_pdqsortOrdered_string_Nil), (233, sg_slices_insertionSortOrdered_string)] }) (plans := []) hm Tryz.func28 rfl fun xs => by kernel_rfl
-- NOT TOLD: 29 slices.Compact[[]int,int]: 2
-- NOT TOLD: 29S slices.Compact[[]int,int]: 1
def t_witness_bodies (xs : List PV) : T PV :=
.l (.mset false [.i .i64]) [(.mp [] []), (i 4), (.fn F.witness_maker_send [] [])] fun x0 =>
.l (.mset false [.i .i64]) [x0, (i 5), (.fn F.witness_maker_recv [] [])] fun x1 =>
.l (.mset false [.i .i64]) [x1, (i 6), (.fn F.witness_maker_choose [] [])] fun x2 =>
.l (.mset false [.i .i64]) [x2, (i 7), (.fn F.witness_maker_branch [] [])] fun x3 =>
.l (.mset false [.i .i64]) [x3, (i 3), (.fn F.witness_maker_end [] [])] fun x4 =>
.ret x4
theorem k_witness_bodies : TxOk P F.witness_bodies 0 t_witness_bodies := txOk_of (H := {}) (plans := []) hm Tryz.func30 rfl rfl fun xs => by kernel_rfl
def t_head_Kind (xs : List PV) : T PV :=
.l (.okc 1 true) [(n xs 0)] fun x0 =>
.l (.okc 2 true) [(n xs 1)] fun x1 =>
.l (.idx 4 true) [(c 0 x0), (c 0 x1)] fun x2 =>
.ret (c 0 x2)
theorem k_head_Kind : TxOk P F.head_Kind 2 t_head_Kind := txOk_of (H := {}) (plans := []) hm Tryz.func31 rfl rfl fun xs => by kernel_rfl
def t_witness_name (xs : List PV) : T PV :=
.call F.strconv_Itoa [(n xs 0)] fun x0 =>
.l .cat [(.str ⟨#[80]⟩), x0] fun x1 =>
.ret x1
theorem k_witness_name : TxOk P F.witness_name 1 t_witness_name := txOk_of (H := {}) (plans := []) hm Tryz.func32 rfl rfl fun xs => by kernel_rfl
def t_readback_Normal (xs : List PV) : T PV :=
.l (.okc 1 true) [(n xs 0)] fun x0 =>
.l (.okc 2 true) [(n xs 1)] fun x1 =>
.l (.okcs [(1, true)]) [x0] fun x2 =>
.calls F.readback_reader_tree sg_readback_reader_tree_Nil [x1, (c 0 x0), (.mp [] [])] fun z3 =>
.l (.okc 6 true) [(n z3 0)] fun x4 =>
.ret x4
theorem k_readback_Normal : TxOk P F.readback_Normal 2 t_readback_Normal := txOk_of (H := { wr := [], ro := [], nl := [], fz := [], da := [], sigs := [(72, sg_readback_reader_tree_Nil)] }) (plans := []) hm Tryz.func33 rfl rfl fun xs => by kernel_rfl
def t_witness_call (xs : List PV) : T PV :=
.l (.okc 2 true) [(n xs 0)] fun x0 =>
.call F.witness_name [(c 0 x0)] fun x1 =>
.l (.okcs [(1, false)]) [(n xs 1)] fun x2 =>
.l (.lst 3 true) [(.agg [(i 1), (n xs 1), (i 0)])] fun x3 =>
.l (.okcs [(1, false)]) [x1] fun x4 =>
.ret (.agg [(i 8), x1, (.str ⟨#[]⟩), (.sl []), x3, (i 0), (i 0), (.str ⟨#[]⟩), (i 0), (.sl []), (.sl []), (.sl [])])
theorem k_witness_call : TxOk P F.witness_call 2 t_witness_call := txOk_of (H := {}) (plans := []) hm Tryz.func34 rfl rfl fun xs => by kernel_rfl
def t_scope_Check (xs : List PV) : T PV :=
.l (.okc 13 true) [(n xs 0)] fun x0 =>
.call F.proctree_Program [x0] fun x1 =>
.l (.cmp .neq .i64) [x1, (i 0)] fun x2 =>
.ite x2 (
.l (.okcs [(1, false)]) [x1] fun x3 =>
.ret (.agg [x1, (i 0)])) (
.l .len [(c 0 x0)] fun x3 =>
.loop [(i 0)] fun y4 =>
.l (.cmp .lss .i64) [(n y4 0), x3] fun x5 =>
.ite x5 (
.l (.idx 14 true) [(c 0 x0), (n y4 0)] fun x6 =>
.l (.okc 14 true) [x6] fun x7 =>
.call F.scope_Find [x0, (c 0 x7)] fun x8 =>
.l (.tc 0) [x8] fun x9 =>
.l (.tc 1) [x8] fun x10 =>
.l (.cmp .lss .i64) [x9, (n y4 0)] fun x11 =>
.ite x11 (
.l (.okcs [(1, false)]) [(n y4 0)] fun x12 =>
.ret (.agg [(i 5), (n y4 0)])) (
.calls F.scope_params sg_scope_params [x7] fun z12 =>
.calls F.scope_twice sg_scope_twice [(n z12 0)] fun z13 =>
.ite (n z13 0) (
.l (.okcs [(1, false)]) [(n y4 0)] fun x14 =>
.ret (.agg [(i 5), (n y4 0)])) (
.l (.arith .add .i64) [(n y4 0), (i 1)] fun x14 =>
.cont 0 [x14]))) (
.l .len [(c 0 x0)] fun x6 =>
.loop [(i 0)] fun y7 =>
.l (.cmp .lss .i64) [(n y7 0), x6] fun x8 =>
.ite x8 (
.l (.idx 14 true) [(c 0 x0), (n y7 0)] fun x9 =>
.l (.okc 14 true) [x9] fun x10 =>
.calls F.scope_params sg_scope_params [x10] fun z11 =>
.call F.scope_names_with [(.mp [] []), (n z11 0)] fun x12 =>
.l (.tc 0) [x12] fun x13 =>
.l (.tc 1) [x12] fun x14 =>
.l (.okcs [(13, true)]) [x0] fun x15 =>
.call F.scope_walker_walk [(.agg [(c 0 x0), (c 1 x0), (c 2 x0), (c 3 x0), (c 4 x0), (c 5 x0), (c 6 x0), (c 7 x0), (c 8 x0), (c 9 x0), (c 10 x0), (c 11 x0), (c 12 x0), (.bool false)]), (sb 2 12 x10), x13, (.bool false)] fun x16 =>
.l (.cmp .neq .i64) [x16, (i 0)] fun x17 =>
.ite x17 (
.l (.okcs [(1, false), (1, false)]) [x16, (n y7 0)] fun x18 =>
.ret (.agg [x16, (n y7 0)])) (
.l (.arith .add .i64) [(n y7 0), (i 1)] fun x18 =>
.cont 1 [x18])) (
.l (.okcs [(13, true)]) [x0] fun x9 =>
.call F.scope_walker_walk [(.agg [(c 0 x0), (c 1 x0), (c 2 x0), (c 3 x0), (c 4 x0), (c 5 x0), (c 6 x0), (c 7 x0), (c 8 x0), (c 9 x0), (c 10 x0), (c 11 x0), (c 12 x0), (.bool true)]), (sb 1 12 x0), (.mp [] []), (.bool true)] fun x10 =>
.l (.cmp .neq .i64) [x10, (i 0)] fun x11 =>
.ite x11 (
.l .len [(c 0 x0)] fun x12 =>
.l (.okcs [(1, false), (1, false)]) [x10, x12] fun x13 =>
.ret (.agg [x10, x12])) (
.ret (.agg [(i 0), (i 0)])))))
theorem k_scope_Check : TxOk P F.scope_Check 1 t_scope_Check := txOk_of (H := { wr := [], ro := [], nl := [], fz := [], da := [], sigs := [(141, sg_maps_Clone_scope_names_string_bool), (76, sg_scope_params), (75, sg_scope_twice), (140, sg_slices_Compact_string_string)] }) (plans := []) hm Tryz.func35 rfl rfl fun xs => by kernel_rfl
def t_typetree_Right (xs : List PV) : T PV :=
.l (.okc 6 true) [(n xs 0)] fun x0 =>
.call F.typetree_shallow [x0, (i 100)] fun x1 =>
.l .bnot [x1] fun x2 =>
.ite x2 (
.ret (i 2)) (
.call F.typetree_few [x0, (i 10000)] fun x3 =>
.l .bnot [x3] fun x4 =>
.ite x4 (
.ret (i 2)) (
.call F.typetree_check [x0, (.sl []), (.bool false)] fun x5 =>
.ret x5))
theorem k_typetree_Right : TxOk P F.typetree_Right 1 t_typetree_Right := txOk_of (H := {}) (plans := []) hm Tryz.func36 rfl rfl fun xs => by kernel_rfl
def t_typetree_Session (xs : List PV) : T PV :=
.l (.okc 6 true) [(n xs 0)] fun x0 =>
.l (.cmp .neq .i64) [(c 0 x0), (i 1)] fun x1 =>
.ite x1 (
.l (.cmp .neq .i64) [(c 0 x0), (i 2)] fun x2 =>
.ret x2) (
.ret (.bool false))
theorem k_typetree_Session : TxOk P F.typetree_Session 1 t_typetree_Session := txOk_of (H := {}) (plans := []) hm Tryz.func37 rfl rfl fun xs => by kernel_rfl
def t_witness_plain (xs : List PV) : T PV :=
.l (.okc 6 true) [(n xs 0)] fun x0 =>
.l (.cmp .eql .i64) [(c 0 x0), (i 4)] fun x1 =>
.ite x1 (
.l (.idx 6 true) [(c 5 x0), (i 0)] fun x2 =>
.call F.witness_base [x2] fun x3 =>
.l .bnot [x3] fun x4 =>
.ite x4 (
.ret (.bool false)) (
.call F.slices_ContainsFunc_api_Type_api_Type [(c 5 x0), (.fn F.witness_plain_1 [] [])] fun x5 =>
.l .bnot [x5] fun x6 =>
.ret x6)) (
.l (.cmp .eql .i64) [(c 0 x0), (i 5)] fun x2 =>
.ite x2 (
.l (.idx 6 true) [(c 5 x0), (i 0)] fun x3 =>
.call F.witness_base [x3] fun x4 =>
.l .bnot [x4] fun x5 =>
.ite x5 (
.ret (.bool false)) (
.call F.slices_ContainsFunc_api_Type_api_Type [(c 5 x0), (.fn F.witness_plain_1 [] [])] fun x6 =>
.l .bnot [x6] fun x7 =>
.ret x7)) (
.call F.slices_ContainsFunc_api_Type_api_Type [(c 5 x0), (.fn F.witness_plain_1 [] [])] fun x3 =>
.l .bnot [x3] fun x4 =>
.ret x4))
theorem k_witness_plain : TxOk P F.witness_plain 1 t_witness_plain := txOk_of (H := {}) (plans := []) hm Tryz.func38 rfl rfl fun xs => by kernel_rfl
def t_ref02_Right (xs : List PV) : T PV :=
.l (.okc 6 true) [(n xs 0)] fun x0 =>
.call F.ref02_Depth [x0] fun x1 =>
.l (.cmp .gtr .i64) [x1, (i 100)] fun x2 =>
.ite x2 (
.ret (i 2)) (
.call F.ref02_Size [x0] fun x3 =>
.l (.cmp .gtr .i64) [x3, (i 10000)] fun x4 =>
.ite x4 (
.ret (i 2)) (
.call F.ref02_node [x0, (.sl []), (i 0), (.bool false)] fun x5 =>
.ret x5))
theorem k_ref02_Right : TxOk P F.ref02_Right 1 t_ref02_Right := txOk_of (H := {}) (plans := []) hm Tryz.func39 rfl rfl fun xs => by kernel_rfl
def t_ref02_Session (xs : List PV) : T PV :=
.l (.okc 6 true) [(n xs 0)] fun x0 =>
.l (.cmp .neq .i64) [(c 0 x0), (i 1)] fun x1 =>
.ite x1 (
.l (.cmp .neq .i64) [(c 0 x0), (i 2)] fun x2 =>
.ret x2) (
.ret (.bool false))
theorem k_ref02_Session : TxOk P F.ref02_Session 1 t_ref02_Session := txOk_of (H := {}) (plans := []) hm Tryz.func40 rfl rfl fun xs => by kernel_rfl
def t_ref26_plain (xs : List PV) : T PV :=
.l (.okc 6 true) [(n xs 0)] fun x0 =>
.loop [(i 0)] fun y1 =>
.l .len [(c 5 x0)] fun x2 =>
.l (.cmp .lss .i64) [(n y1 0), x2] fun x3 =>
.ite x3 (
.l (.cmp .eql .i64) [(n y1 0), (i 0)] fun x4 =>
.ite x4 (
.l (.cmp .eql .i64) [(c 0 x0), (i 4)] fun x5 =>
.ite x5 (
.l (.idx 6 true) [(c 5 x0), (i 0)] fun x6 =>
.call F.ref02_Session [x6] fun x7 =>
.ite x7 (
.ret (.bool false)) (
.l (.arith .add .i64) [(n y1 0), (i 1)] fun x8 =>
.cont 0 [x8])) (
.l (.cmp .eql .i64) [(c 0 x0), (i 5)] fun x6 =>
.ite x6 (
.l (.idx 6 true) [(c 5 x0), (i 0)] fun x7 =>
.call F.ref02_Session [x7] fun x8 =>
.ite x8 (
.ret (.bool false)) (
.l (.arith .add .i64) [(n y1 0), (i 1)] fun x9 =>
.cont 0 [x9])) (
.l (.idx 6 true) [(c 5 x0), (n y1 0)] fun x7 =>
.call F.ref26_plain [x7] fun x8 =>
.l .bnot [x8] fun x9 =>
.ite x9 (
.ret (.bool false)) (
.l (.arith .add .i64) [(n y1 0), (i 1)] fun x10 =>
.cont 0 [x10])))) (
.l (.idx 6 true) [(c 5 x0), (n y1 0)] fun x5 =>
.call F.ref26_plain [x5] fun x6 =>
.l .bnot [x6] fun x7 =>
.ite x7 (
.ret (.bool false)) (
.l (.arith .add .i64) [(n y1 0), (i 1)] fun x8 =>
.cont 0 [x8]))) (
.ret (.bool true))
theorem k_ref26_plain : TxOk P F.ref26_plain 1 t_ref26_plain := txOk_of (H := {}) (plans := []) hm Tryz.func41 rfl rfl fun xs => by kernel_rfl
def t_ref07_Build (xs : List PV) : T PV :=
.loop [(i 0), (.sl []), (.sl [])] fun y0 =>
.l .len [(n xs 0)] fun x1 =>
.l (.cmp .lss .i64) [(n y0 0), x1] fun x2 =>
.ite x2 (
.l (.idx 6 true) [(n xs 0), (n y0 0)] fun x3 =>
.l .len [(n y0 2)] fun x4 =>
.call F.ref07_reference [x3, x4, (.sl []), (.sl [])] fun x5 =>
.l (.lst 2 true) [x5] fun x6 =>
.l (.app 2 true 16) [(n y0 1), x6] fun x7 =>
.l (.idx 6 true) [(n xs 0), (n y0 0)] fun x8 =>
.l .len [(n y0 2)] fun x9 =>
.call F.ref07_nodes [x8, x9, (.sl []), (.sl [])] fun x10 =>
.l (.app 4 true 64) [(n y0 2), x10] fun x11 =>
.l (.arith .add .i64) [(n y0 0), (i 1)] fun x12 =>
.cont 0 [x12, x7, x11]) (
.ret (.tup [(n y0 2), (n y0 1)]))
theorem k_ref07_Build : TxOk P F.ref07_Build 1 t_ref07_Build := txOk_of (H := {}) (plans := []) hm Tryz.func42 rfl rfl fun xs => by kernel_rfl
def t_witness_maker_events (xs : List PV) : T PV :=
.l (.okc 2 true) [(n xs 0)] fun x0 =>
.l (.okc 2 true) [(n xs 1)] fun x1 =>
.ret (.fn F.witness_maker_events_1 [] [(.box x0), (.box x1)])
theorem k_witness_maker_events : TxOk P F.witness_maker_events 2 t_witness_maker_events := txOk_of (H := { wr := [2, 3], ro := [], nl := [], fz := [], da := [], sigs := [] }) (plans := []) hm Tryz.func52 rfl rfl fun xs => by kernel_rfl
def u_witness_maker_events (xs : List PV) : T PV :=
.l (.okc 2 true) [(n xs 0)] fun x0 =>
.l (.okc 2 true) [(n xs 1)] fun x1 =>
.ret (.tup [(c 0 x0), (c 1 x0), (c 0 x1), (c 1 x1)])
theorem m_witness_maker_events : TxOkS P F.witness_maker_events sg_witness_maker_events u_witness_maker_events := txOkS_of (H := { wr := [2, 3], ro := [], nl := [], fz := [], da := [], sigs := [(96, sg_witness_maker_events_1)] }) (plans := []) hm Tryz.func52 rfl fun xs => by kernel_rfl
def t_ref14_dual (xs : List PV) : T PV :=
.l (.okc 6 true) [(n xs 0)] fun x0 =>
.calls F.ref02_Raise sg_ref02_Raise [x0, (i 0)] fun z1 =>
.l (.cmp .geq .i64) [(c 0 x0), (i 4)] fun x2 =>
.ite x2 (
.l (.cmp .leq .i64) [(c 0 x0), (i 7)] fun x3 =>
.ite x3 (
.l (.lst 1 false) [(i 5), (i 4), (i 7), (i 6)] fun x4 =>
.l (.arith .sub .i64) [(c 0 x0), (i 4)] fun x5 =>
.l (.idx 1 false) [x4, x5] fun x6 =>
.l (.okc 1 false) [x6] fun x7 =>
.l (.cmp .eql .i64) [(c 0 x0), (i 8)] fun x8 =>
.ite x8 (
.l (.lst 7 true) [] fun x9 =>
.l (.app 7 true 104) [x9, (n xs 1)] fun x10 =>
.call F.ref14_closed [x0, (n xs 1)] fun x11 =>
.l (.okcs [(1, false), (6, true)]) [(c 2 x0), x11] fun x12 =>
.l (.lst 7 true) [(.agg [(c 2 x0), (c 0 x11), (c 1 x11), (c 2 x11), (c 3 x11), (c 4 x11), (c 5 x11)])] fun x13 =>
.l (.app 7 true 104) [x10, x13] fun x14 =>
.loop [(i 0), (n z1 5)] fun y15 =>
.l .len [(c 5 x0)] fun x16 =>
.l (.cmp .lss .i64) [(n y15 0), x16] fun x17 =>
.ite x17 (
.l (.cmp .eql .i64) [(n y15 0), (i 0)] fun x18 =>
.ite x18 (
.l (.cmp .eql .i64) [(c 0 x0), (i 4)] fun x19 =>
.ite x19 (
.l (.idx 6 true) [(c 5 x0), (i 0)] fun x20 =>
.call F.ref14_closed [x20, x14] fun x21 =>
.l (.idx 6 true) [(n y15 1), (i 0)] fun x22 =>
.l (.upd 6 true) [(n y15 1), (i 0), x21] fun x23 =>
.l (.arith .add .i64) [(n y15 0), (i 1)] fun x24 =>
.cont 0 [x24, x23]) (
.l (.cmp .eql .i64) [(c 0 x0), (i 5)] fun x20 =>
.ite x20 (
.l (.idx 6 true) [(c 5 x0), (i 0)] fun x21 =>
.call F.ref14_closed [x21, x14] fun x22 =>
.l (.idx 6 true) [(n y15 1), (i 0)] fun x23 =>
.l (.upd 6 true) [(n y15 1), (i 0), x22] fun x24 =>
.l (.arith .add .i64) [(n y15 0), (i 1)] fun x25 =>
.cont 0 [x25, x24]) (
.l (.idx 6 true) [(c 5 x0), (n y15 0)] fun x21 =>
.call F.ref14_dual [x21, x14] fun x22 =>
.l (.idx 6 true) [(n y15 1), (n y15 0)] fun x23 =>
.l (.upd 6 true) [(n y15 1), (n y15 0), x22] fun x24 =>
.l (.arith .add .i64) [(n y15 0), (i 1)] fun x25 =>
.cont 0 [x25, x24]))) (
.l (.idx 6 true) [(c 5 x0), (n y15 0)] fun x19 =>
.call F.ref14_dual [x19, x14] fun x20 =>
.l (.idx 6 true) [(n y15 1), (n y15 0)] fun x21 =>
.l (.upd 6 true) [(n y15 1), (n y15 0), x20] fun x22 =>
.l (.arith .add .i64) [(n y15 0), (i 1)] fun x23 =>
.cont 0 [x23, x22])) (
.ret (.agg [x7, (n z1 1), (n z1 2), (n z1 3), (n z1 4), (n y15 1)]))) (
.loop [(i 0), (n z1 5)] fun y9 =>
.l .len [(c 5 x0)] fun x10 =>
.l (.cmp .lss .i64) [(n y9 0), x10] fun x11 =>
.ite x11 (
.l (.cmp .eql .i64) [(n y9 0), (i 0)] fun x12 =>
.ite x12 (
.l (.cmp .eql .i64) [(c 0 x0), (i 4)] fun x13 =>
.ite x13 (
.l (.idx 6 true) [(c 5 x0), (i 0)] fun x14 =>
.call F.ref14_closed [x14, (n xs 1)] fun x15 =>
.l (.idx 6 true) [(n y9 1), (i 0)] fun x16 =>
.l (.upd 6 true) [(n y9 1), (i 0), x15] fun x17 =>
.l (.arith .add .i64) [(n y9 0), (i 1)] fun x18 =>
.cont 0 [x18, x17]) (
.l (.cmp .eql .i64) [(c 0 x0), (i 5)] fun x14 =>
.ite x14 (
.l (.idx 6 true) [(c 5 x0), (i 0)] fun x15 =>
.call F.ref14_closed [x15, (n xs 1)] fun x16 =>
.l (.idx 6 true) [(n y9 1), (i 0)] fun x17 =>
.l (.upd 6 true) [(n y9 1), (i 0), x16] fun x18 =>
.l (.arith .add .i64) [(n y9 0), (i 1)] fun x19 =>
.cont 0 [x19, x18]) (
.l (.idx 6 true) [(c 5 x0), (n y9 0)] fun x15 =>
.call F.ref14_dual [x15, (n xs 1)] fun x16 =>
.l (.idx 6 true) [(n y9 1), (n y9 0)] fun x17 =>
.l (.upd 6 true) [(n y9 1), (n y9 0), x16] fun x18 =>
.l (.arith .add .i64) [(n y9 0), (i 1)] fun x19 =>
.cont 0 [x19, x18]))) (
.l (.idx 6 true) [(c 5 x0), (n y9 0)] fun x13 =>
.call F.ref14_dual [x13, (n xs 1)] fun x14 =>
.l (.idx 6 true) [(n y9 1), (n y9 0)] fun x15 =>
.l (.upd 6 true) [(n y9 1), (n y9 0), x14] fun x16 =>
.l (.arith .add .i64) [(n y9 0), (i 1)] fun x17 =>
.cont 0 [x17, x16])) (
.ret (.agg [x7, (n z1 1), (n z1 2), (n z1 3), (n z1 4), (n y9 1)])))) (
.l (.cmp .eql .i64) [(c 0 x0), (i 8)] fun x4 =>
.ite x4 (
.l (.lst 7 true) [] fun x5 =>
.l (.app 7 true 104) [x5, (n xs 1)] fun x6 =>
.call F.ref14_closed [x0, (n xs 1)] fun x7 =>
.l (.okcs [(1, false), (6, true)]) [(c 2 x0), x7] fun x8 =>
.l (.lst 7 true) [(.agg [(c 2 x0), (c 0 x7), (c 1 x7), (c 2 x7), (c 3 x7), (c 4 x7), (c 5 x7)])] fun x9 =>
.l (.app 7 true 104) [x6, x9] fun x10 =>
.loop [(i 0), (n z1 5)] fun y11 =>
.l .len [(c 5 x0)] fun x12 =>
.l (.cmp .lss .i64) [(n y11 0), x12] fun x13 =>
.ite x13 (
.l (.cmp .eql .i64) [(n y11 0), (i 0)] fun x14 =>
.ite x14 (
.l (.cmp .eql .i64) [(c 0 x0), (i 4)] fun x15 =>
.ite x15 (
.l (.idx 6 true) [(c 5 x0), (i 0)] fun x16 =>
.call F.ref14_closed [x16, x10] fun x17 =>
.l (.idx 6 true) [(n y11 1), (i 0)] fun x18 =>
.l (.upd 6 true) [(n y11 1), (i 0), x17] fun x19 =>
.l (.arith .add .i64) [(n y11 0), (i 1)] fun x20 =>
.cont 0 [x20, x19]) (
.l (.cmp .eql .i64) [(c 0 x0), (i 5)] fun x16 =>
.ite x16 (
.l (.idx 6 true) [(c 5 x0), (i 0)] fun x17 =>
.call F.ref14_closed [x17, x10] fun x18 =>
.l (.idx 6 true) [(n y11 1), (i 0)] fun x19 =>
.l (.upd 6 true) [(n y11 1), (i 0), x18] fun x20 =>
.l (.arith .add .i64) [(n y11 0), (i 1)] fun x21 =>
.cont 0 [x21, x20]) (
.l (.idx 6 true) [(c 5 x0), (n y11 0)] fun x17 =>
.call F.ref14_dual [x17, x10] fun x18 =>
.l (.idx 6 true) [(n y11 1), (n y11 0)] fun x19 =>
.l (.upd 6 true) [(n y11 1), (n y11 0), x18] fun x20 =>
.l (.arith .add .i64) [(n y11 0), (i 1)] fun x21 =>
.cont 0 [x21, x20]))) (
.l (.idx 6 true) [(c 5 x0), (n y11 0)] fun x15 =>
.call F.ref14_dual [x15, x10] fun x16 =>
.l (.idx 6 true) [(n y11 1), (n y11 0)] fun x17 =>
.l (.upd 6 true) [(n y11 1), (n y11 0), x16] fun x18 =>
.l (.arith .add .i64) [(n y11 0), (i 1)] fun x19 =>
.cont 0 [x19, x18])) (
.ret (.agg [(n z1 0), (n z1 1), (n z1 2), (n z1 3), (n z1 4), (n y11 1)]))) (
.loop [(i 0), (n z1 5)] fun y5 =>
.l .len [(c 5 x0)] fun x6 =>
.l (.cmp .lss .i64) [(n y5 0), x6] fun x7 =>
.ite x7 (
.l (.cmp .eql .i64) [(n y5 0), (i 0)] fun x8 =>
.ite x8 (
.l (.cmp .eql .i64) [(c 0 x0), (i 4)] fun x9 =>
.ite x9 (
.l (.idx 6 true) [(c 5 x0), (i 0)] fun x10 =>
.call F.ref14_closed [x10, (n xs 1)] fun x11 =>
.l (.idx 6 true) [(n y5 1), (i 0)] fun x12 =>
.l (.upd 6 true) [(n y5 1), (i 0), x11] fun x13 =>
.l (.arith .add .i64) [(n y5 0), (i 1)] fun x14 =>
.cont 0 [x14, x13]) (
.l (.cmp .eql .i64) [(c 0 x0), (i 5)] fun x10 =>
.ite x10 (
.l (.idx 6 true) [(c 5 x0), (i 0)] fun x11 =>
.call F.ref14_closed [x11, (n xs 1)] fun x12 =>
.l (.idx 6 true) [(n y5 1), (i 0)] fun x13 =>
.l (.upd 6 true) [(n y5 1), (i 0), x12] fun x14 =>
.l (.arith .add .i64) [(n y5 0), (i 1)] fun x15 =>
.cont 0 [x15, x14]) (
.l (.idx 6 true) [(c 5 x0), (n y5 0)] fun x11 =>
.call F.ref14_dual [x11, (n xs 1)] fun x12 =>
.l (.idx 6 true) [(n y5 1), (n y5 0)] fun x13 =>
.l (.upd 6 true) [(n y5 1), (n y5 0), x12] fun x14 =>
.l (.arith .add .i64) [(n y5 0), (i 1)] fun x15 =>
.cont 0 [x15, x14]))) (
.l (.idx 6 true) [(c 5 x0), (n y5 0)] fun x9 =>
.call F.ref14_dual [x9, (n xs 1)] fun x10 =>
.l (.idx 6 true) [(n y5 1), (n y5 0)] fun x11 =>
.l (.upd 6 true) [(n y5 1), (n y5 0), x10] fun x12 =>
.l (.arith .add .i64) [(n y5 0), (i 1)] fun x13 =>
.cont 0 [x13, x12])) (
.ret (.agg [(n z1 0), (n z1 1), (n z1 2), (n z1 3), (n z1 4), (n y5 1)]))))) (
.l (.cmp .eql .i64) [(c 0 x0), (i 8)] fun x3 =>
.ite x3 (
.l (.lst 7 true) [] fun x4 =>
.l (.app 7 true 104) [x4, (n xs 1)] fun x5 =>
.call F.ref14_closed [x0, (n xs 1)] fun x6 =>
.l (.okcs [(1, false), (6, true)]) [(c 2 x0), x6] fun x7 =>
.l (.lst 7 true) [(.agg [(c 2 x0), (c 0 x6), (c 1 x6), (c 2 x6), (c 3 x6), (c 4 x6), (c 5 x6)])] fun x8 =>
.l (.app 7 true 104) [x5, x8] fun x9 =>
.loop [(i 0), (n z1 5)] fun y10 =>
.l .len [(c 5 x0)] fun x11 =>
.l (.cmp .lss .i64) [(n y10 0), x11] fun x12 =>
.ite x12 (
.l (.cmp .eql .i64) [(n y10 0), (i 0)] fun x13 =>
.ite x13 (
.l (.cmp .eql .i64) [(c 0 x0), (i 4)] fun x14 =>
.ite x14 (
.l (.idx 6 true) [(c 5 x0), (i 0)] fun x15 =>
.call F.ref14_closed [x15, x9] fun x16 =>
.l (.idx 6 true) [(n y10 1), (i 0)] fun x17 =>
.l (.upd 6 true) [(n y10 1), (i 0), x16] fun x18 =>
.l (.arith .add .i64) [(n y10 0), (i 1)] fun x19 =>
.cont 0 [x19, x18]) (
.l (.cmp .eql .i64) [(c 0 x0), (i 5)] fun x15 =>
.ite x15 (
.l (.idx 6 true) [(c 5 x0), (i 0)] fun x16 =>
.call F.ref14_closed [x16, x9] fun x17 =>
.l (.idx 6 true) [(n y10 1), (i 0)] fun x18 =>
.l (.upd 6 true) [(n y10 1), (i 0), x17] fun x19 =>
.l (.arith .add .i64) [(n y10 0), (i 1)] fun x20 =>
.cont 0 [x20, x19]) (
.l (.idx 6 true) [(c 5 x0), (n y10 0)] fun x16 =>
.call F.ref14_dual [x16, x9] fun x17 =>
.l (.idx 6 true) [(n y10 1), (n y10 0)] fun x18 =>
.l (.upd 6 true) [(n y10 1), (n y10 0), x17] fun x19 =>
.l (.arith .add .i64) [(n y10 0), (i 1)] fun x20 =>
.cont 0 [x20, x19]))) (
.l (.idx 6 true) [(c 5 x0), (n y10 0)] fun x14 =>
.call F.ref14_dual [x14, x9] fun x15 =>
.l (.idx 6 true) [(n y10 1), (n y10 0)] fun x16 =>
.l (.upd 6 true) [(n y10 1), (n y10 0), x15] fun x17 =>
.l (.arith .add .i64) [(n y10 0), (i 1)] fun x18 =>
.cont 0 [x18, x17])) (
.ret (.agg [(n z1 0), (n z1 1), (n z1 2), (n z1 3), (n z1 4), (n y10 1)]))) (
.loop [(i 0), (n z1 5)] fun y4 =>
.l .len [(c 5 x0)] fun x5 =>
.l (.cmp .lss .i64) [(n y4 0), x5] fun x6 =>
.ite x6 (
.l (.cmp .eql .i64) [(n y4 0), (i 0)] fun x7 =>
.ite x7 (
.l (.cmp .eql .i64) [(c 0 x0), (i 4)] fun x8 =>
.ite x8 (
.l (.idx 6 true) [(c 5 x0), (i 0)] fun x9 =>
.call F.ref14_closed [x9, (n xs 1)] fun x10 =>
.l (.idx 6 true) [(n y4 1), (i 0)] fun x11 =>
.l (.upd 6 true) [(n y4 1), (i 0), x10] fun x12 =>
.l (.arith .add .i64) [(n y4 0), (i 1)] fun x13 =>
.cont 0 [x13, x12]) (
.l (.cmp .eql .i64) [(c 0 x0), (i 5)] fun x9 =>
.ite x9 (
.l (.idx 6 true) [(c 5 x0), (i 0)] fun x10 =>
.call F.ref14_closed [x10, (n xs 1)] fun x11 =>
.l (.idx 6 true) [(n y4 1), (i 0)] fun x12 =>
.l (.upd 6 true) [(n y4 1), (i 0), x11] fun x13 =>
.l (.arith .add .i64) [(n y4 0), (i 1)] fun x14 =>
.cont 0 [x14, x13]) (
.l (.idx 6 true) [(c 5 x0), (n y4 0)] fun x10 =>
.call F.ref14_dual [x10, (n xs 1)] fun x11 =>
.l (.idx 6 true) [(n y4 1), (n y4 0)] fun x12 =>
.l (.upd 6 true) [(n y4 1), (n y4 0), x11] fun x13 =>
.l (.arith .add .i64) [(n y4 0), (i 1)] fun x14 =>
.cont 0 [x14, x13]))) (
.l (.idx 6 true) [(c 5 x0), (n y4 0)] fun x8 =>
.call F.ref14_dual [x8, (n xs 1)] fun x9 =>
.l (.idx 6 true) [(n y4 1), (n y4 0)] fun x10 =>
.l (.upd 6 true) [(n y4 1), (n y4 0), x9] fun x11 =>
.l (.arith .add .i64) [(n y4 0), (i 1)] fun x12 =>
.cont 0 [x12, x11])) (
.ret (.agg [(n z1 0), (n z1 1), (n z1 2), (n z1 3), (n z1 4), (n y4 1)]))))
theorem k_ref14_dual : TxOk P F.ref14_dual 2 t_ref14_dual := txOk_of (H := { wr := [], ro := [], nl := [], fz := [], da := [], sigs := [(17, sg_ref02_Raise)] }) (plans := []) hm Tryz.func57 rfl rfl fun xs => by kernel_rfl
def t_config_Name (xs : List PV) : T PV :=
.ite (n xs 1) (
.call F.strconv_Itoa [(n xs 0)] fun x0 =>
.l .cat [x0, (.str ⟨#[43]⟩)] fun x1 =>
.ret x1) (
.call F.strconv_Itoa [(n xs 0)] fun x0 =>
.l .cat [x0, (.str ⟨#[45]⟩)] fun x1 =>
.ret x1)
theorem k_config_Name : TxOk P F.config_Name 2 t_config_Name := txOk_of (H := {}) (plans := []) hm Tryz.func58 rfl rfl fun xs => by kernel_rfl
def t_show_Value (xs : List PV) : T PV :=
.l (.okc 3 true) [(n xs 0)] fun x0 =>
.l (.cmp .eql .i64) [(c 0 x0), (i 2)] fun x1 =>
.ite x1 (
.call F.strconv_FormatInt [(c 2 x0), (i 10)] fun x2 =>
.ret x2) (
.l (.cmp .eql .i64) [(c 0 x0), (i 3)] fun x2 =>
.ite x2 (
.l (.cmp .eql .i64) [(c 2 x0), (i 1)] fun x3 =>
.call F.strconv_FormatBool [x3] fun x4 =>
.ret x4) (
.ret (c 1 x0)))
theorem k_show_Value : TxOk P F.show_Value 1 t_show_Value := txOk_of (H := {}) (plans := []) hm Tryz.func59 rfl rfl fun xs => by kernel_rfl
def t_graph_Build (xs : List PV) : T PV :=
.l .len [(n xs 0)] fun x0 =>
.loop [(i 0), (.sl []), (.sl [])] fun y1 =>
.l (.cmp .lss .i64) [(n y1 0), x0] fun x2 =>
.ite x2 (
.l (.idx 6 true) [(n xs 0), (n y1 0)] fun x3 =>
.l (.okc 6 true) [x3] fun x4 =>
.calls F.graph_builder_build sg_graph_builder_build [x4, (n y1 2), (.mp [] [])] fun z5 =>
.l (.lst 2 true) [(n z5 0)] fun x6 =>
.l (.app 2 true 16) [(n y1 1), x6] fun x7 =>
.l (.arith .add .i64) [(n y1 0), (i 1)] fun x8 =>
.cont 0 [x8, x7, (n z5 1)]) (
.ret (.tup [(.agg [(n y1 2)]), (n y1 1)]))
theorem k_graph_Build : TxOk P F.graph_Build 1 t_graph_Build := txOk_of (H := { wr := [], ro := [], nl := [(4, (0, (126, false)))], fz := [], da := [], sigs := [(104, sg_graph_builder_build), (167, sg_maps_Clone_graph_scope_string_graph_Ref)] }) (plans := []) hm Tryz.func60 rfl rfl fun xs => by kernel_rfl
def t_dual_Close (xs : List PV) : T PV :=
.l (.okc 1 true) [(n xs 0)] fun x0 =>
.l .len [(c 0 x0)] fun x1 =>
.l (.okc 1 false) [x1] fun x2 =>
.calls F.dual_mapped_graph_Node_graph_Node sg_dual_mapped_graph_Node_graph_Node [(c 0 x0), (.fn F.dual_Close_1 [] [])] fun z3 =>
.calls F.dual_mapped_graph_Node_graph_Node sg_dual_mapped_graph_Node_graph_Node [(c 0 x0), (.fn F.dual_Close_2 [] [(.box x2)])] fun z4 =>
.l (.app 4 true 64) [(n z3 0), (n z4 0)] fun x5 =>
.ret (.agg [x5])
theorem k_dual_Close : TxOk P F.dual_Close 1 t_dual_Close := txOk_of (H := { wr := [], ro := [], nl := [], fz := [], da := [], sigs := [(105, sg_dual_mapped_graph_Node_graph_Node)] }) (plans := []) hm Tryz.func61 rfl rfl fun xs => by kernel_rfl
-- NOT TOLD: 62 slices.Grow[[]int,int]: 2
-- NOT TOLD: 62S slices.Grow[[]int,int]: 2
-- NOT TOLD: 63 (duologue/graph.set).add: 1
def u_graph_set_add (xs : List PV) : T PV :=
.l (.arith .quo .i64) [(n xs 0), (i 64)] fun x0 =>
.l (.idx 1 false) [(n xs 1), x0] fun x1 =>
.l (.idx 1 false) [(n xs 1), x0] fun x2 =>
.l (.arith .quo .i64) [(n xs 0), (i 64)] fun x3 =>
.l (.idx 1 false) [(n xs 1), x3] fun x4 =>
.l (.idx 1 false) [(n xs 1), x3] fun x5 =>
.l (.arith .rem .i64) [(n xs 0), (i 64)] fun x6 =>
.l (.arith .shl .u64) [(.int .u64 (1)), x6] fun x7 =>
.l (.arith .or .u64) [x5, x7] fun x8 =>
.l (.idx 1 false) [(n xs 1), x3] fun x9 =>
.l (.upd 1 false) [(n xs 1), x3, x8] fun x10 =>
.l (.arith .quo .i64) [(n xs 0), (i 64)] fun x11 =>
.l (.idx 1 false) [x10, x11] fun x12 =>
.l (.idx 1 false) [x10, x11] fun x13 =>
.l (.cmp .neq .u64) [x2, x13] fun x14 =>
.ret (.tup [x14, x10])
theorem m_graph_set_add : TxOkS P F.graph_set_add sg_graph_set_add u_graph_set_add := txOkS_of (H := { wr := [], ro := [], nl := [], fz := [], da := [], sigs := [(28, sg_slices_Sort_int_int), (63, sg_graph_set_add), (64, sg_slices_pdqsortOrdered_int_Nil), (114, sg_slices_insertionSortOrdered_int), (139, sg_slices_Sort_string_string), (190, sg_slices_pdqsortOrdered_string_Nil), (233, sg_slices_insertionSortOrdered_string)] }) (plans := []) hm Tryz.func63 rfl fun xs => by kernel_rfl
-- NOT TOLD: 64 slices.pdqsortOrdered[int]: 0
def u_slices_pdqsortOrdered_int_Nil (xs : List PV) : T PV :=
.loop [(.bool true), (.bool true), (n xs 0), (n xs 1), (n xs 2), (n xs 3)] fun y0 =>
.l (.arith .sub .i64) [(n y0 3), (n y0 2)] fun x1 =>
.l (.cmp .leq .i64) [x1, (i 12)] fun x2 =>
.ite x2 (
.calls F.slices_insertionSortOrdered_int sg_slices_insertionSortOrdered_int [(n y0 2), (n y0 3), (n y0 5)] fun z3 =>
.ret (.tup [(.tup []), (n z3 1)])) (
.l (.cmp .eql .i64) [(n y0 4), (i 0)] fun x3 =>
.ite x3 (
.call F.slices_heapSortOrdered_int [(n y0 5), (n y0 2), (n y0 3)] fun x4 =>
.fail) (
.l .bnot [(n y0 1)] fun x4 =>
.ite x4 (
.call F.slices_breakPatternsOrdered_int [(n y0 5), (n y0 2), (n y0 3)] fun x5 =>
.l (.arith .sub .i64) [(n y0 4), (i 1)] fun x6 =>
.call F.slices_choosePivotOrdered_int [(n y0 5), (n y0 2), (n y0 3)] fun x7 =>
.l (.tc 0) [x7] fun x8 =>
.l (.tc 1) [x7] fun x9 =>
.l (.cmp .eql .i64) [x9, (i 2)] fun x10 =>
.ite x10 (
.call F.slices_reverseRangeOrdered_int [(n y0 5), (n y0 2), (n y0 3)] fun x11 =>
.l (.arith .sub .i64) [(n y0 3), (i 1)] fun x12 =>
.l (.arith .sub .i64) [x8, (n y0 2)] fun x13 =>
.l (.arith .sub .i64) [x12, x13] fun x14 =>
.ite (n y0 1) (
.ite (n y0 0) (
.l (.cmp .eql .i64) [(i 1), (i 1)] fun x15 =>
.ite x15 (
.call F.slices_partialInsertionSortOrdered_int [(n y0 5), (n y0 2), (n y0 3)] fun x16 =>
.ite x16 (
.fail) (
.l (.cmp .gtr .i64) [(n y0 2), (i 0)] fun x17 =>
.ite x17 (
.l (.arith .sub .i64) [(n y0 2), (i 1)] fun x18 =>
.l (.idx 1 false) [(n y0 5), x18] fun x19 =>
.l (.idx 1 false) [(n y0 5), x14] fun x20 =>
.call F.cmp_Less_int [x19, x20] fun x21 =>
.l .bnot [x21] fun x22 =>
.ite x22 (
.call F.slices_partitionEqualOrdered_int [(n y0 5), (n y0 2), (n y0 3), x14] fun x23 =>
.fail) (
.call F.slices_partitionOrdered_int [(n y0 5), (n y0 2), (n y0 3), x14] fun x23 =>
.l (.tc 0) [x23] fun x24 =>
.l (.tc 1) [x23] fun x25 =>
.l (.arith .sub .i64) [x24, (n y0 2)] fun x26 =>
.l (.arith .sub .i64) [(n y0 3), x24] fun x27 =>
.l (.arith .quo .i64) [x1, (i 8)] fun x28 =>
.l (.cmp .lss .i64) [x26, x27] fun x29 =>
.ite x29 (
.l (.cmp .geq .i64) [x26, x28] fun x30 =>
.fail) (
.l (.cmp .geq .i64) [x27, x28] fun x30 =>
.l (.arith .add .i64) [x24, (i 1)] fun x31 =>
.fail))) (
.call F.slices_partitionOrdered_int [(n y0 5), (n y0 2), (n y0 3), x14] fun x18 =>
.l (.tc 0) [x18] fun x19 =>
.l (.tc 1) [x18] fun x20 =>
.l (.arith .sub .i64) [x19, (n y0 2)] fun x21 =>
.l (.arith .sub .i64) [(n y0 3), x19] fun x22 =>
.l (.arith .quo .i64) [x1, (i 8)] fun x23 =>
.l (.cmp .lss .i64) [x21, x22] fun x24 =>
.ite x24 (
.l (.cmp .geq .i64) [x21, x23] fun x25 =>
.fail) (
.l (.cmp .geq .i64) [x22, x23] fun x25 =>
.l (.arith .add .i64) [x19, (i 1)] fun x26 =>
.fail)))) (
.l (.cmp .gtr .i64) [(n y0 2), (i 0)] fun x16 =>
.ite x16 (
.l (.arith .sub .i64) [(n y0 2), (i 1)] fun x17 =>
.l (.idx 1 false) [(n y0 5), x17] fun x18 =>
.l (.idx 1 false) [(n y0 5), x14] fun x19 =>
.call F.cmp_Less_int [x18, x19] fun x20 =>
.l .bnot [x20] fun x21 =>
.ite x21 (
.call F.slices_partitionEqualOrdered_int [(n y0 5), (n y0 2), (n y0 3), x14] fun x22 =>
.fail) (
.call F.slices_partitionOrdered_int [(n y0 5), (n y0 2), (n y0 3), x14] fun x22 =>
.l (.tc 0) [x22] fun x23 =>
.l (.tc 1) [x22] fun x24 =>
.l (.arith .sub .i64) [x23, (n y0 2)] fun x25 =>
.l (.arith .sub .i64) [(n y0 3), x23] fun x26 =>
.l (.arith .quo .i64) [x1, (i 8)] fun x27 =>
.l (.cmp .lss .i64) [x25, x26] fun x28 =>
.ite x28 (
.l (.cmp .geq .i64) [x25, x27] fun x29 =>
.fail) (
.l (.cmp .geq .i64) [x26, x27] fun x29 =>
.l (.arith .add .i64) [x23, (i 1)] fun x30 =>
.fail))) (
.call F.slices_partitionOrdered_int [(n y0 5), (n y0 2), (n y0 3), x14] fun x17 =>
.l (.tc 0) [x17] fun x18 =>
.l (.tc 1) [x17] fun x19 =>
.l (.arith .sub .i64) [x18, (n y0 2)] fun x20 =>
.l (.arith .sub .i64) [(n y0 3), x18] fun x21 =>
.l (.arith .quo .i64) [x1, (i 8)] fun x22 =>
.l (.cmp .lss .i64) [x20, x21] fun x23 =>
.ite x23 (
.l (.cmp .geq .i64) [x20, x22] fun x24 =>
.fail) (
.l (.cmp .geq .i64) [x21, x22] fun x24 =>
.l (.arith .add .i64) [x18, (i 1)] fun x25 =>
.fail)))) (
.l (.cmp .gtr .i64) [(n y0 2), (i 0)] fun x15 =>
.ite x15 (
.l (.arith .sub .i64) [(n y0 2), (i 1)] fun x16 =>
.l (.idx 1 false) [(n y0 5), x16] fun x17 =>
.l (.idx 1 false) [(n y0 5), x14] fun x18 =>
.call F.cmp_Less_int [x17, x18] fun x19 =>
.l .bnot [x19] fun x20 =>
.ite x20 (
.call F.slices_partitionEqualOrdered_int [(n y0 5), (n y0 2), (n y0 3), x14] fun x21 =>
.fail) (
.call F.slices_partitionOrdered_int [(n y0 5), (n y0 2), (n y0 3), x14] fun x21 =>
.l (.tc 0) [x21] fun x22 =>
.l (.tc 1) [x21] fun x23 =>
.l (.arith .sub .i64) [x22, (n y0 2)] fun x24 =>
.l (.arith .sub .i64) [(n y0 3), x22] fun x25 =>
.l (.arith .quo .i64) [x1, (i 8)] fun x26 =>
.l (.cmp .lss .i64) [x24, x25] fun x27 =>
.ite x27 (
.l (.cmp .geq .i64) [x24, x26] fun x28 =>
.fail) (
.l (.cmp .geq .i64) [x25, x26] fun x28 =>
.l (.arith .add .i64) [x22, (i 1)] fun x29 =>
.fail))) (
.call F.slices_partitionOrdered_int [(n y0 5), (n y0 2), (n y0 3), x14] fun x16 =>
.l (.tc 0) [x16] fun x17 =>
.l (.tc 1) [x16] fun x18 =>
.l (.arith .sub .i64) [x17, (n y0 2)] fun x19 =>
.l (.arith .sub .i64) [(n y0 3), x17] fun x20 =>
.l (.arith .quo .i64) [x1, (i 8)] fun x21 =>
.l (.cmp .lss .i64) [x19, x20] fun x22 =>
.ite x22 (
.l (.cmp .geq .i64) [x19, x21] fun x23 =>
.fail) (
.l (.cmp .geq .i64) [x20, x21] fun x23 =>
.l (.arith .add .i64) [x17, (i 1)] fun x24 =>
.fail)))) (
.l (.cmp .gtr .i64) [(n y0 2), (i 0)] fun x15 =>
.ite x15 (
.l (.arith .sub .i64) [(n y0 2), (i 1)] fun x16 =>
.l (.idx 1 false) [(n y0 5), x16] fun x17 =>
.l (.idx 1 false) [(n y0 5), x14] fun x18 =>
.call F.cmp_Less_int [x17, x18] fun x19 =>
.l .bnot [x19] fun x20 =>
.ite x20 (
.call F.slices_partitionEqualOrdered_int [(n y0 5), (n y0 2), (n y0 3), x14] fun x21 =>
.fail) (
.call F.slices_partitionOrdered_int [(n y0 5), (n y0 2), (n y0 3), x14] fun x21 =>
.l (.tc 0) [x21] fun x22 =>
.l (.tc 1) [x21] fun x23 =>
.l (.arith .sub .i64) [x22, (n y0 2)] fun x24 =>
.l (.arith .sub .i64) [(n y0 3), x22] fun x25 =>
.l (.arith .quo .i64) [x1, (i 8)] fun x26 =>
.l (.cmp .lss .i64) [x24, x25] fun x27 =>
.ite x27 (
.l (.cmp .geq .i64) [x24, x26] fun x28 =>
.fail) (
.l (.cmp .geq .i64) [x25, x26] fun x28 =>
.l (.arith .add .i64) [x22, (i 1)] fun x29 =>
.fail))) (
.call F.slices_partitionOrdered_int [(n y0 5), (n y0 2), (n y0 3), x14] fun x16 =>
.l (.tc 0) [x16] fun x17 =>
.l (.tc 1) [x16] fun x18 =>
.l (.arith .sub .i64) [x17, (n y0 2)] fun x19 =>
.l (.arith .sub .i64) [(n y0 3), x17] fun x20 =>
.l (.arith .quo .i64) [x1, (i 8)] fun x21 =>
.l (.cmp .lss .i64) [x19, x20] fun x22 =>
.ite x22 (
.l (.cmp .geq .i64) [x19, x21] fun x23 =>
.fail) (
.l (.cmp .geq .i64) [x20, x21] fun x23 =>
.l (.arith .add .i64) [x17, (i 1)] fun x24 =>
.fail)))) (
.ite (n y0 1) (
.ite (n y0 0) (
.l (.cmp .eql .i64) [x9, (i 1)] fun x11 =>
.ite x11 (
.call F.slices_partialInsertionSortOrdered_int [(n y0 5), (n y0 2), (n y0 3)] fun x12 =>
.ite x12 (
.fail) (
.l (.cmp .gtr .i64) [(n y0 2), (i 0)] fun x13 =>
.ite x13 (
.l (.arith .sub .i64) [(n y0 2), (i 1)] fun x14 =>
.l (.idx 1 false) [(n y0 5), x14] fun x15 =>
.l (.idx 1 false) [(n y0 5), x8] fun x16 =>
.call F.cmp_Less_int [x15, x16] fun x17 =>
.l .bnot [x17] fun x18 =>
.ite x18 (
.call F.slices_partitionEqualOrdered_int [(n y0 5), (n y0 2), (n y0 3), x8] fun x19 =>
.fail) (
.call F.slices_partitionOrdered_int [(n y0 5), (n y0 2), (n y0 3), x8] fun x19 =>
.l (.tc 0) [x19] fun x20 =>
.l (.tc 1) [x19] fun x21 =>
.l (.arith .sub .i64) [x20, (n y0 2)] fun x22 =>
.l (.arith .sub .i64) [(n y0 3), x20] fun x23 =>
.l (.arith .quo .i64) [x1, (i 8)] fun x24 =>
.l (.cmp .lss .i64) [x22, x23] fun x25 =>
.ite x25 (
.l (.cmp .geq .i64) [x22, x24] fun x26 =>
.fail) (
.l (.cmp .geq .i64) [x23, x24] fun x26 =>
.l (.arith .add .i64) [x20, (i 1)] fun x27 =>
.fail))) (
.call F.slices_partitionOrdered_int [(n y0 5), (n y0 2), (n y0 3), x8] fun x14 =>
.l (.tc 0) [x14] fun x15 =>
.l (.tc 1) [x14] fun x16 =>
.l (.arith .sub .i64) [x15, (n y0 2)] fun x17 =>
.l (.arith .sub .i64) [(n y0 3), x15] fun x18 =>
.l (.arith .quo .i64) [x1, (i 8)] fun x19 =>
.l (.cmp .lss .i64) [x17, x18] fun x20 =>
.ite x20 (
.l (.cmp .geq .i64) [x17, x19] fun x21 =>
.fail) (
.l (.cmp .geq .i64) [x18, x19] fun x21 =>
.l (.arith .add .i64) [x15, (i 1)] fun x22 =>
.fail)))) (
.l (.cmp .gtr .i64) [(n y0 2), (i 0)] fun x12 =>
.ite x12 (
.l (.arith .sub .i64) [(n y0 2), (i 1)] fun x13 =>
.l (.idx 1 false) [(n y0 5), x13] fun x14 =>
.l (.idx 1 false) [(n y0 5), x8] fun x15 =>
.call F.cmp_Less_int [x14, x15] fun x16 =>
.l .bnot [x16] fun x17 =>
.ite x17 (
.call F.slices_partitionEqualOrdered_int [(n y0 5), (n y0 2), (n y0 3), x8] fun x18 =>
.fail) (
.call F.slices_partitionOrdered_int [(n y0 5), (n y0 2), (n y0 3), x8] fun x18 =>
.l (.tc 0) [x18] fun x19 =>
.l (.tc 1) [x18] fun x20 =>
.l (.arith .sub .i64) [x19, (n y0 2)] fun x21 =>
.l (.arith .sub .i64) [(n y0 3), x19] fun x22 =>
.l (.arith .quo .i64) [x1, (i 8)] fun x23 =>
.l (.cmp .lss .i64) [x21, x22] fun x24 =>
.ite x24 (
.l (.cmp .geq .i64) [x21, x23] fun x25 =>
.fail) (
.l (.cmp .geq .i64) [x22, x23] fun x25 =>
.l (.arith .add .i64) [x19, (i 1)] fun x26 =>
.fail))) (
.call F.slices_partitionOrdered_int [(n y0 5), (n y0 2), (n y0 3), x8] fun x13 =>
.l (.tc 0) [x13] fun x14 =>
.l (.tc 1) [x13] fun x15 =>
.l (.arith .sub .i64) [x14, (n y0 2)] fun x16 =>
.l (.arith .sub .i64) [(n y0 3), x14] fun x17 =>
.l (.arith .quo .i64) [x1, (i 8)] fun x18 =>
.l (.cmp .lss .i64) [x16, x17] fun x19 =>
.ite x19 (
.l (.cmp .geq .i64) [x16, x18] fun x20 =>
.fail) (
.l (.cmp .geq .i64) [x17, x18] fun x20 =>
.l (.arith .add .i64) [x14, (i 1)] fun x21 =>
.fail)))) (
.l (.cmp .gtr .i64) [(n y0 2), (i 0)] fun x11 =>
.ite x11 (
.l (.arith .sub .i64) [(n y0 2), (i 1)] fun x12 =>
.l (.idx 1 false) [(n y0 5), x12] fun x13 =>
.l (.idx 1 false) [(n y0 5), x8] fun x14 =>
.call F.cmp_Less_int [x13, x14] fun x15 =>
.l .bnot [x15] fun x16 =>
.ite x16 (
.call F.slices_partitionEqualOrdered_int [(n y0 5), (n y0 2), (n y0 3), x8] fun x17 =>
.fail) (
.call F.slices_partitionOrdered_int [(n y0 5), (n y0 2), (n y0 3), x8] fun x17 =>
.l (.tc 0) [x17] fun x18 =>
.l (.tc 1) [x17] fun x19 =>
.l (.arith .sub .i64) [x18, (n y0 2)] fun x20 =>
.l (.arith .sub .i64) [(n y0 3), x18] fun x21 =>
.l (.arith .quo .i64) [x1, (i 8)] fun x22 =>
.l (.cmp .lss .i64) [x20, x21] fun x23 =>
.ite x23 (
.l (.cmp .geq .i64) [x20, x22] fun x24 =>
.fail) (
.l (.cmp .geq .i64) [x21, x22] fun x24 =>
.l (.arith .add .i64) [x18, (i 1)] fun x25 =>
.fail))) (
.call F.slices_partitionOrdered_int [(n y0 5), (n y0 2), (n y0 3), x8] fun x12 =>
.l (.tc 0) [x12] fun x13 =>
.l (.tc 1) [x12] fun x14 =>
.l (.arith .sub .i64) [x13, (n y0 2)] fun x15 =>
.l (.arith .sub .i64) [(n y0 3), x13] fun x16 =>
.l (.arith .quo .i64) [x1, (i 8)] fun x17 =>
.l (.cmp .lss .i64) [x15, x16] fun x18 =>
.ite x18 (
.l (.cmp .geq .i64) [x15, x17] fun x19 =>
.fail) (
.l (.cmp .geq .i64) [x16, x17] fun x19 =>
.l (.arith .add .i64) [x13, (i 1)] fun x20 =>
.fail)))) (
.l (.cmp .gtr .i64) [(n y0 2), (i 0)] fun x11 =>
.ite x11 (
.l (.arith .sub .i64) [(n y0 2), (i 1)] fun x12 =>
.l (.idx 1 false) [(n y0 5), x12] fun x13 =>
.l (.idx 1 false) [(n y0 5), x8] fun x14 =>
.call F.cmp_Less_int [x13, x14] fun x15 =>
.l .bnot [x15] fun x16 =>
.ite x16 (
.call F.slices_partitionEqualOrdered_int [(n y0 5), (n y0 2), (n y0 3), x8] fun x17 =>
.fail) (
.call F.slices_partitionOrdered_int [(n y0 5), (n y0 2), (n y0 3), x8] fun x17 =>
.l (.tc 0) [x17] fun x18 =>
.l (.tc 1) [x17] fun x19 =>
.l (.arith .sub .i64) [x18, (n y0 2)] fun x20 =>
.l (.arith .sub .i64) [(n y0 3), x18] fun x21 =>
.l (.arith .quo .i64) [x1, (i 8)] fun x22 =>
.l (.cmp .lss .i64) [x20, x21] fun x23 =>
.ite x23 (
.l (.cmp .geq .i64) [x20, x22] fun x24 =>
.fail) (
.l (.cmp .geq .i64) [x21, x22] fun x24 =>
.l (.arith .add .i64) [x18, (i 1)] fun x25 =>
.fail))) (
.call F.slices_partitionOrdered_int [(n y0 5), (n y0 2), (n y0 3), x8] fun x12 =>
.l (.tc 0) [x12] fun x13 =>
.l (.tc 1) [x12] fun x14 =>
.l (.arith .sub .i64) [x13, (n y0 2)] fun x15 =>
.l (.arith .sub .i64) [(n y0 3), x13] fun x16 =>
.l (.arith .quo .i64) [x1, (i 8)] fun x17 =>
.l (.cmp .lss .i64) [x15, x16] fun x18 =>
.ite x18 (
.l (.cmp .geq .i64) [x15, x17] fun x19 =>
.fail) (
.l (.cmp .geq .i64) [x16, x17] fun x19 =>
.l (.arith .add .i64) [x13, (i 1)] fun x20 =>
.fail))))) (
.call F.slices_choosePivotOrdered_int [(n y0 5), (n y0 2), (n y0 3)] fun x5 =>
.l (.tc 0) [x5] fun x6 =>
.l (.tc 1) [x5] fun x7 =>
.l (.cmp .eql .i64) [x7, (i 2)] fun x8 =>
.ite x8 (
.call F.slices_reverseRangeOrdered_int [(n y0 5), (n y0 2), (n y0 3)] fun x9 =>
.l (.arith .sub .i64) [(n y0 3), (i 1)] fun x10 =>
.l (.arith .sub .i64) [x6, (n y0 2)] fun x11 =>
.l (.arith .sub .i64) [x10, x11] fun x12 =>
.ite (n y0 1) (
.ite (n y0 0) (
.l (.cmp .eql .i64) [(i 1), (i 1)] fun x13 =>
.ite x13 (
.call F.slices_partialInsertionSortOrdered_int [(n y0 5), (n y0 2), (n y0 3)] fun x14 =>
.ite x14 (
.fail) (
.l (.cmp .gtr .i64) [(n y0 2), (i 0)] fun x15 =>
.ite x15 (
.l (.arith .sub .i64) [(n y0 2), (i 1)] fun x16 =>
.l (.idx 1 false) [(n y0 5), x16] fun x17 =>
.l (.idx 1 false) [(n y0 5), x12] fun x18 =>
.call F.cmp_Less_int [x17, x18] fun x19 =>
.l .bnot [x19] fun x20 =>
.ite x20 (
.call F.slices_partitionEqualOrdered_int [(n y0 5), (n y0 2), (n y0 3), x12] fun x21 =>
.fail) (
.call F.slices_partitionOrdered_int [(n y0 5), (n y0 2), (n y0 3), x12] fun x21 =>
.l (.tc 0) [x21] fun x22 =>
.l (.tc 1) [x21] fun x23 =>
.l (.arith .sub .i64) [x22, (n y0 2)] fun x24 =>
.l (.arith .sub .i64) [(n y0 3), x22] fun x25 =>
.l (.arith .quo .i64) [x1, (i 8)] fun x26 =>
.l (.cmp .lss .i64) [x24, x25] fun x27 =>
.ite x27 (
.l (.cmp .geq .i64) [x24, x26] fun x28 =>
.fail) (
.l (.cmp .geq .i64) [x25, x26] fun x28 =>
.l (.arith .add .i64) [x22, (i 1)] fun x29 =>
.fail))) (
.call F.slices_partitionOrdered_int [(n y0 5), (n y0 2), (n y0 3), x12] fun x16 =>
.l (.tc 0) [x16] fun x17 =>
.l (.tc 1) [x16] fun x18 =>
.l (.arith .sub .i64) [x17, (n y0 2)] fun x19 =>
.l (.arith .sub .i64) [(n y0 3), x17] fun x20 =>
.l (.arith .quo .i64) [x1, (i 8)] fun x21 =>
.l (.cmp .lss .i64) [x19, x20] fun x22 =>
.ite x22 (
.l (.cmp .geq .i64) [x19, x21] fun x23 =>
.fail) (
.l (.cmp .geq .i64) [x20, x21] fun x23 =>
.l (.arith .add .i64) [x17, (i 1)] fun x24 =>
.fail)))) (
.l (.cmp .gtr .i64) [(n y0 2), (i 0)] fun x14 =>
.ite x14 (
.l (.arith .sub .i64) [(n y0 2), (i 1)] fun x15 =>
.l (.idx 1 false) [(n y0 5), x15] fun x16 =>
.l (.idx 1 false) [(n y0 5), x12] fun x17 =>
.call F.cmp_Less_int [x16, x17] fun x18 =>
.l .bnot [x18] fun x19 =>
.ite x19 (
.call F.slices_partitionEqualOrdered_int [(n y0 5), (n y0 2), (n y0 3), x12] fun x20 =>
.fail) (
.call F.slices_partitionOrdered_int [(n y0 5), (n y0 2), (n y0 3), x12] fun x20 =>
.l (.tc 0) [x20] fun x21 =>
.l (.tc 1) [x20] fun x22 =>
.l (.arith .sub .i64) [x21, (n y0 2)] fun x23 =>
.l (.arith .sub .i64) [(n y0 3), x21] fun x24 =>
.l (.arith .quo .i64) [x1, (i 8)] fun x25 =>
.l (.cmp .lss .i64) [x23, x24] fun x26 =>
.ite x26 (
.l (.cmp .geq .i64) [x23, x25] fun x27 =>
.fail) (
.l (.cmp .geq .i64) [x24, x25] fun x27 =>
.l (.arith .add .i64) [x21, (i 1)] fun x28 =>
.fail))) (
.call F.slices_partitionOrdered_int [(n y0 5), (n y0 2), (n y0 3), x12] fun x15 =>
.l (.tc 0) [x15] fun x16 =>
.l (.tc 1) [x15] fun x17 =>
.l (.arith .sub .i64) [x16, (n y0 2)] fun x18 =>
.l (.arith .sub .i64) [(n y0 3), x16] fun x19 =>
.l (.arith .quo .i64) [x1, (i 8)] fun x20 =>
.l (.cmp .lss .i64) [x18, x19] fun x21 =>
.ite x21 (
.l (.cmp .geq .i64) [x18, x20] fun x22 =>
.fail) (
.l (.cmp .geq .i64) [x19, x20] fun x22 =>
.l (.arith .add .i64) [x16, (i 1)] fun x23 =>
.fail)))) (
.l (.cmp .gtr .i64) [(n y0 2), (i 0)] fun x13 =>
.ite x13 (
.l (.arith .sub .i64) [(n y0 2), (i 1)] fun x14 =>
.l (.idx 1 false) [(n y0 5), x14] fun x15 =>
.l (.idx 1 false) [(n y0 5), x12] fun x16 =>
.call F.cmp_Less_int [x15, x16] fun x17 =>
.l .bnot [x17] fun x18 =>
.ite x18 (
.call F.slices_partitionEqualOrdered_int [(n y0 5), (n y0 2), (n y0 3), x12] fun x19 =>
.fail) (
.call F.slices_partitionOrdered_int [(n y0 5), (n y0 2), (n y0 3), x12] fun x19 =>
.l (.tc 0) [x19] fun x20 =>
.l (.tc 1) [x19] fun x21 =>
.l (.arith .sub .i64) [x20, (n y0 2)] fun x22 =>
.l (.arith .sub .i64) [(n y0 3), x20] fun x23 =>
.l (.arith .quo .i64) [x1, (i 8)] fun x24 =>
.l (.cmp .lss .i64) [x22, x23] fun x25 =>
.ite x25 (
.l (.cmp .geq .i64) [x22, x24] fun x26 =>
.fail) (
.l (.cmp .geq .i64) [x23, x24] fun x26 =>
.l (.arith .add .i64) [x20, (i 1)] fun x27 =>
.fail))) (
.call F.slices_partitionOrdered_int [(n y0 5), (n y0 2), (n y0 3), x12] fun x14 =>
.l (.tc 0) [x14] fun x15 =>
.l (.tc 1) [x14] fun x16 =>
.l (.arith .sub .i64) [x15, (n y0 2)] fun x17 =>
.l (.arith .sub .i64) [(n y0 3), x15] fun x18 =>
.l (.arith .quo .i64) [x1, (i 8)] fun x19 =>
.l (.cmp .lss .i64) [x17, x18] fun x20 =>
.ite x20 (
.l (.cmp .geq .i64) [x17, x19] fun x21 =>
.fail) (
.l (.cmp .geq .i64) [x18, x19] fun x21 =>
.l (.arith .add .i64) [x15, (i 1)] fun x22 =>
.fail)))) (
.l (.cmp .gtr .i64) [(n y0 2), (i 0)] fun x13 =>
.ite x13 (
.l (.arith .sub .i64) [(n y0 2), (i 1)] fun x14 =>
.l (.idx 1 false) [(n y0 5), x14] fun x15 =>
.l (.idx 1 false) [(n y0 5), x12] fun x16 =>
.call F.cmp_Less_int [x15, x16] fun x17 =>
.l .bnot [x17] fun x18 =>
.ite x18 (
.call F.slices_partitionEqualOrdered_int [(n y0 5), (n y0 2), (n y0 3), x12] fun x19 =>
.fail) (
.call F.slices_partitionOrdered_int [(n y0 5), (n y0 2), (n y0 3), x12] fun x19 =>
.l (.tc 0) [x19] fun x20 =>
.l (.tc 1) [x19] fun x21 =>
.l (.arith .sub .i64) [x20, (n y0 2)] fun x22 =>
.l (.arith .sub .i64) [(n y0 3), x20] fun x23 =>
.l (.arith .quo .i64) [x1, (i 8)] fun x24 =>
.l (.cmp .lss .i64) [x22, x23] fun x25 =>
.ite x25 (
.l (.cmp .geq .i64) [x22, x24] fun x26 =>
.fail) (
.l (.cmp .geq .i64) [x23, x24] fun x26 =>
.l (.arith .add .i64) [x20, (i 1)] fun x27 =>
.fail))) (
.call F.slices_partitionOrdered_int [(n y0 5), (n y0 2), (n y0 3), x12] fun x14 =>
.l (.tc 0) [x14] fun x15 =>
.l (.tc 1) [x14] fun x16 =>
.l (.arith .sub .i64) [x15, (n y0 2)] fun x17 =>
.l (.arith .sub .i64) [(n y0 3), x15] fun x18 =>
.l (.arith .quo .i64) [x1, (i 8)] fun x19 =>
.l (.cmp .lss .i64) [x17, x18] fun x20 =>
.ite x20 (
.l (.cmp .geq .i64) [x17, x19] fun x21 =>
.fail) (
.l (.cmp .geq .i64) [x18, x19] fun x21 =>
.l (.arith .add .i64) [x15, (i 1)] fun x22 =>
.fail)))) (
.ite (n y0 1) (
.ite (n y0 0) (
.l (.cmp .eql .i64) [x7, (i 1)] fun x9 =>
.ite x9 (
.call F.slices_partialInsertionSortOrdered_int [(n y0 5), (n y0 2), (n y0 3)] fun x10 =>
.ite x10 (
.fail) (
.l (.cmp .gtr .i64) [(n y0 2), (i 0)] fun x11 =>
.ite x11 (
.l (.arith .sub .i64) [(n y0 2), (i 1)] fun x12 =>
.l (.idx 1 false) [(n y0 5), x12] fun x13 =>
.l (.idx 1 false) [(n y0 5), x6] fun x14 =>
.call F.cmp_Less_int [x13, x14] fun x15 =>
.l .bnot [x15] fun x16 =>
.ite x16 (
.call F.slices_partitionEqualOrdered_int [(n y0 5), (n y0 2), (n y0 3), x6] fun x17 =>
.fail) (
.call F.slices_partitionOrdered_int [(n y0 5), (n y0 2), (n y0 3), x6] fun x17 =>
.l (.tc 0) [x17] fun x18 =>
.l (.tc 1) [x17] fun x19 =>
.l (.arith .sub .i64) [x18, (n y0 2)] fun x20 =>
.l (.arith .sub .i64) [(n y0 3), x18] fun x21 =>
.l (.arith .quo .i64) [x1, (i 8)] fun x22 =>
.l (.cmp .lss .i64) [x20, x21] fun x23 =>
.ite x23 (
.l (.cmp .geq .i64) [x20, x22] fun x24 =>
.fail) (
.l (.cmp .geq .i64) [x21, x22] fun x24 =>
.l (.arith .add .i64) [x18, (i 1)] fun x25 =>
.fail))) (
.call F.slices_partitionOrdered_int [(n y0 5), (n y0 2), (n y0 3), x6] fun x12 =>
.l (.tc 0) [x12] fun x13 =>
.l (.tc 1) [x12] fun x14 =>
.l (.arith .sub .i64) [x13, (n y0 2)] fun x15 =>
.l (.arith .sub .i64) [(n y0 3), x13] fun x16 =>
.l (.arith .quo .i64) [x1, (i 8)] fun x17 =>
.l (.cmp .lss .i64) [x15, x16] fun x18 =>
.ite x18 (
.l (.cmp .geq .i64) [x15, x17] fun x19 =>
.fail) (
.l (.cmp .geq .i64) [x16, x17] fun x19 =>
.l (.arith .add .i64) [x13, (i 1)] fun x20 =>
.fail)))) (
.l (.cmp .gtr .i64) [(n y0 2), (i 0)] fun x10 =>
.ite x10 (
.l (.arith .sub .i64) [(n y0 2), (i 1)] fun x11 =>
.l (.idx 1 false) [(n y0 5), x11] fun x12 =>
.l (.idx 1 false) [(n y0 5), x6] fun x13 =>
.call F.cmp_Less_int [x12, x13] fun x14 =>
.l .bnot [x14] fun x15 =>
.ite x15 (
.call F.slices_partitionEqualOrdered_int [(n y0 5), (n y0 2), (n y0 3), x6] fun x16 =>
.fail) (
.call F.slices_partitionOrdered_int [(n y0 5), (n y0 2), (n y0 3), x6] fun x16 =>
.l (.tc 0) [x16] fun x17 =>
.l (.tc 1) [x16] fun x18 =>
.l (.arith .sub .i64) [x17, (n y0 2)] fun x19 =>
.l (.arith .sub .i64) [(n y0 3), x17] fun x20 =>
.l (.arith .quo .i64) [x1, (i 8)] fun x21 =>
.l (.cmp .lss .i64) [x19, x20] fun x22 =>
.ite x22 (
.l (.cmp .geq .i64) [x19, x21] fun x23 =>
.fail) (
.l (.cmp .geq .i64) [x20, x21] fun x23 =>
.l (.arith .add .i64) [x17, (i 1)] fun x24 =>
.fail))) (
.call F.slices_partitionOrdered_int [(n y0 5), (n y0 2), (n y0 3), x6] fun x11 =>
.l (.tc 0) [x11] fun x12 =>
.l (.tc 1) [x11] fun x13 =>
.l (.arith .sub .i64) [x12, (n y0 2)] fun x14 =>
.l (.arith .sub .i64) [(n y0 3), x12] fun x15 =>
.l (.arith .quo .i64) [x1, (i 8)] fun x16 =>
.l (.cmp .lss .i64) [x14, x15] fun x17 =>
.ite x17 (
.l (.cmp .geq .i64) [x14, x16] fun x18 =>
.fail) (
.l (.cmp .geq .i64) [x15, x16] fun x18 =>
.l (.arith .add .i64) [x12, (i 1)] fun x19 =>
.fail)))) (
.l (.cmp .gtr .i64) [(n y0 2), (i 0)] fun x9 =>
.ite x9 (
.l (.arith .sub .i64) [(n y0 2), (i 1)] fun x10 =>
.l (.idx 1 false) [(n y0 5), x10] fun x11 =>
.l (.idx 1 false) [(n y0 5), x6] fun x12 =>
.call F.cmp_Less_int [x11, x12] fun x13 =>
.l .bnot [x13] fun x14 =>
.ite x14 (
.call F.slices_partitionEqualOrdered_int [(n y0 5), (n y0 2), (n y0 3), x6] fun x15 =>
.fail) (
.call F.slices_partitionOrdered_int [(n y0 5), (n y0 2), (n y0 3), x6] fun x15 =>
.l (.tc 0) [x15] fun x16 =>
.l (.tc 1) [x15] fun x17 =>
.l (.arith .sub .i64) [x16, (n y0 2)] fun x18 =>
.l (.arith .sub .i64) [(n y0 3), x16] fun x19 =>
.l (.arith .quo .i64) [x1, (i 8)] fun x20 =>
.l (.cmp .lss .i64) [x18, x19] fun x21 =>
.ite x21 (
.l (.cmp .geq .i64) [x18, x20] fun x22 =>
.fail) (
.l (.cmp .geq .i64) [x19, x20] fun x22 =>
.l (.arith .add .i64) [x16, (i 1)] fun x23 =>
.fail))) (
.call F.slices_partitionOrdered_int [(n y0 5), (n y0 2), (n y0 3), x6] fun x10 =>
.l (.tc 0) [x10] fun x11 =>
.l (.tc 1) [x10] fun x12 =>
.l (.arith .sub .i64) [x11, (n y0 2)] fun x13 =>
.l (.arith .sub .i64) [(n y0 3), x11] fun x14 =>
.l (.arith .quo .i64) [x1, (i 8)] fun x15 =>
.l (.cmp .lss .i64) [x13, x14] fun x16 =>
.ite x16 (
.l (.cmp .geq .i64) [x13, x15] fun x17 =>
.fail) (
.l (.cmp .geq .i64) [x14, x15] fun x17 =>
.l (.arith .add .i64) [x11, (i 1)] fun x18 =>
.fail)))) (
.l (.cmp .gtr .i64) [(n y0 2), (i 0)] fun x9 =>
.ite x9 (
.l (.arith .sub .i64) [(n y0 2), (i 1)] fun x10 =>
.l (.idx 1 false) [(n y0 5), x10] fun x11 =>
.l (.idx 1 false) [(n y0 5), x6] fun x12 =>
.call F.cmp_Less_int [x11, x12] fun x13 =>
.l .bnot [x13] fun x14 =>
.ite x14 (
.call F.slices_partitionEqualOrdered_int [(n y0 5), (n y0 2), (n y0 3), x6] fun x15 =>
.fail) (
.call F.slices_partitionOrdered_int [(n y0 5), (n y0 2), (n y0 3), x6] fun x15 =>
.l (.tc 0) [x15] fun x16 =>
.l (.tc 1) [x15] fun x17 =>
.l (.arith .sub .i64) [x16, (n y0 2)] fun x18 =>
.l (.arith .sub .i64) [(n y0 3), x16] fun x19 =>
.l (.arith .quo .i64) [x1, (i 8)] fun x20 =>
.l (.cmp .lss .i64) [x18, x19] fun x21 =>
.ite x21 (
.l (.cmp .geq .i64) [x18, x20] fun x22 =>
.fail) (
.l (.cmp .geq .i64) [x19, x20] fun x22 =>
.l (.arith .add .i64) [x16, (i 1)] fun x23 =>
.fail))) (
.call F.slices_partitionOrdered_int [(n y0 5), (n y0 2), (n y0 3), x6] fun x10 =>
.l (.tc 0) [x10] fun x11 =>
.l (.tc 1) [x10] fun x12 =>
.l (.arith .sub .i64) [x11, (n y0 2)] fun x13 =>
.l (.arith .sub .i64) [(n y0 3), x11] fun x14 =>
.l (.arith .quo .i64) [x1, (i 8)] fun x15 =>
.l (.cmp .lss .i64) [x13, x14] fun x16 =>
.ite x16 (
.l (.cmp .geq .i64) [x13, x15] fun x17 =>
.fail) (
.l (.cmp .geq .i64) [x14, x15] fun x17 =>
.l (.arith .add .i64) [x11, (i 1)] fun x18 =>
.fail)))))))
theorem m_slices_pdqsortOrdered_int_Nil : TxOkS P F.slices_pdqsortOrdered_int sg_slices_pdqsortOrdered_int_Nil u_slices_pdqsortOrdered_int_Nil := txOkS_of (H := { wr := [], ro := [], nl := [], fz := [], da := [], sigs := [(28, sg_slices_Sort_int_int), (63, sg_graph_set_add), (64, sg_slices_pdqsortOrdered_int_Nil), (114, sg_slices_insertionSortOrdered_int), (139, sg_slices_Sort_string_string), (190, sg_slices_pdqsortOrdered_string_Nil), (233, sg_slices_insertionSortOrdered_string)] }) (plans := []) hm Tryz.func64 rfl fun xs => by kernel_rfl
def t_math_bits_Len (xs : List PV) : T PV :=
.call F.math_bits_Len64 [(n xs 0)] fun x0 =>
.ret x0
theorem k_math_bits_Len : TxOk P F.math_bits_Len 1 t_math_bits_Len := txOk_of (H := {}) (plans := []) hm Tryz.func65 rfl rfl fun xs => by kernel_rfl
def t_witness_maker_send (xs : List PV) : T PV :=
.l (.okc 2 true) [(n xs 0)] fun x0 =>
.l (.okc 2 true) [(n xs 1)] fun x1 =>
.call F.witness_maker_value [x0, x1] fun x2 =>
.l (.lst 3 true) [x2] fun x3 =>
.call F.witness_maker_next [x0, x1, (i 1)] fun x4 =>
.l (.okcs [(1, false)]) [x4] fun x5 =>
.ret (.agg [(i 2), (.str ⟨#[97]⟩), (.str ⟨#[]⟩), (.sl []), x3, (i 0), (i 0), (.str ⟨#[]⟩), (i 0), (.sl []), (.sl []), x4])
theorem k_witness_maker_send : TxOk P F.witness_maker_send 2 t_witness_maker_send := txOk_of (H := {}) (plans := []) hm Tryz.func66 rfl rfl fun xs => by kernel_rfl
def t_witness_maker_recv (xs : List PV) : T PV :=
.l (.okc 2 true) [(n xs 0)] fun x0 =>
.l (.okc 2 true) [(n xs 1)] fun x1 =>
.call F.witness_maker_next [x0, x1, (i 1)] fun x2 =>
.l (.okcs [(1, false)]) [x2] fun x3 =>
.ret (.agg [(i 3), (.str ⟨#[97]⟩), (.str ⟨#[120]⟩), (.sl []), (.sl []), (i 0), (i 0), (.str ⟨#[]⟩), (i 0), (.sl []), (.sl []), x2])
theorem k_witness_maker_recv : TxOk P F.witness_maker_recv 2 t_witness_maker_recv := txOk_of (H := {}) (plans := []) hm Tryz.func67 rfl rfl fun xs => by kernel_rfl
def t_witness_maker_choose (xs : List PV) : T PV :=
.l (.okc 2 true) [(n xs 0)] fun x0 =>
.l (.okc 2 true) [(n xs 1)] fun x1 =>
.call F.witness_maker_chosen [x0, x1] fun x2 =>
.l (.idx 4 true) [(c 0 x0), (c 0 x1)] fun x3 =>
.l (.arith .add .i64) [x2, (i 1)] fun x4 =>
.l (.slc 1 false) [(c 2 x3), x2, x4] fun x5 =>
.call F.slices_Clone_string_string [x5] fun x6 =>
.call F.witness_maker_next [x0, x1, x2] fun x7 =>
.l (.okcs [(1, false), (1, false)]) [x6, x7] fun x8 =>
.ret (.agg [(i 4), (.str ⟨#[97]⟩), (.str ⟨#[]⟩), x6, (.sl []), (i 0), (i 0), (.str ⟨#[]⟩), (i 0), (.sl []), (.sl []), x7])
theorem k_witness_maker_choose : TxOk P F.witness_maker_choose 2 t_witness_maker_choose := txOk_of (H := {}) (plans := []) hm Tryz.func68 rfl rfl fun xs => by kernel_rfl
def t_witness_maker_branch (xs : List PV) : T PV :=
.l (.okc 2 true) [(n xs 0)] fun x0 =>
.l (.okc 2 true) [(n xs 1)] fun x1 =>
.l (.idx 4 true) [(c 0 x0), (c 0 x1)] fun x2 =>
.call F.slices_Clone_string_string [(c 2 x2)] fun x3 =>
.l (.okcs [(1, false)]) [x3] fun x4 =>
.l .len [x3] fun x5 =>
.loop [(i 0), (i 5), (.str ⟨#[97]⟩), (.str ⟨#[]⟩), x3, (.sl []), (i 0), (i 0), (.str ⟨#[]⟩), (i 0), (.sl []), (.sl []), (.sl [])] fun y6 =>
.l (.cmp .lss .i64) [(n y6 0), x5] fun x7 =>
.ite x7 (
.call F.witness_maker_next [x0, x1, (n y6 0)] fun x8 =>
.l (.app 12 true 200) [(n y6 12), x8] fun x9 =>
.l (.arith .add .i64) [(n y6 0), (i 1)] fun x10 =>
.cont 0 [x10, (n y6 1), (n y6 2), (n y6 3), (n y6 4), (n y6 5), (n y6 6), (n y6 7), (n y6 8), (n y6 9), (n y6 10), (n y6 11), x9]) (
.ret (.agg [(n y6 1), (n y6 2), (n y6 3), (n y6 4), (n y6 5), (n y6 6), (n y6 7), (n y6 8), (n y6 9), (n y6 10), (n y6 11), (n y6 12)]))
theorem k_witness_maker_branch : TxOk P F.witness_maker_branch 2 t_witness_maker_branch := txOk_of (H := {}) (plans := []) hm Tryz.func69 rfl rfl fun xs => by kernel_rfl
def t_witness_maker_end (xs : List PV) : T PV :=
.l (.okc 2 true) [(n xs 0)] fun x0 =>
.l (.okc 2 true) [(n xs 1)] fun x1 =>
.ret (.agg [(i 1), (.str ⟨#[]⟩), (.str ⟨#[]⟩), (.sl []), (.sl []), (i 0), (i 0), (.str ⟨#[]⟩), (i 0), (.sl []), (.sl []), (.sl [])])
theorem k_witness_maker_end : TxOk P F.witness_maker_end 2 t_witness_maker_end := txOk_of (H := {}) (plans := []) hm Tryz.func70 rfl rfl fun xs => by kernel_rfl
def t_strconv_Itoa (xs : List PV) : T PV :=
.call F.internal_strconv_Itoa [(n xs 0)] fun x0 =>
.ret x0
theorem k_strconv_Itoa : TxOk P F.strconv_Itoa 1 t_strconv_Itoa := txOk_of (H := {}) (plans := []) hm Tryz.func71 rfl rfl fun xs => by kernel_rfl
-- NOT TOLD: 72 (*duologue/readback.reader).tree: 2
def u_readback_reader_tree (xs : List PV) : T PV :=
.l (.okc 2 true) [(n xs 0)] fun x0 =>
.call F.head_Prio [(.agg [(n xs 1)]), x0] fun x1 =>
.l (.tc 0) [x1] fun x2 =>
.l (.tc 1) [x1] fun x3 =>
.l .bnot [x3] fun x4 =>
.ite x4 (
.call F.head_Kind [(.agg [(n xs 1)]), x0] fun x5 =>
.l (.okcs [(1, false)]) [x5] fun x6 =>
.ret (.tup [(.agg [x5, (i 0), (.str ⟨#[]⟩), (i 0), (.sl []), (.sl [])]), (n xs 1), (n xs 2), (n xs 3)])) (
.call F.readback_reader_find [(.box (.agg [(n xs 1), (n xs 2), (n xs 3)])), x0] fun x5 =>
.l .gnd [x5] fun x6 =>
.l (.tc 0) [x6] fun x7 =>
.l (.tc 1) [x6] fun x8 =>
.l (.tc 2) [x6] fun x9 =>
.ite x9 (
.l (.mset false [.i .i64]) [(n xs 3), x7, (.bool true)] fun x10 =>
.call F.readback_name [x7] fun x11 =>
.l (.okcs [(1, false), (1, false)]) [x11, x8] fun x12 =>
.ret (.tup [(.agg [(i 9), (i 0), x11, x8, (.sl []), (.sl [])]), (n xs 1), (n xs 2), x10])) (
.l .len [(n xs 2)] fun x10 =>
.l (.lst 2 true) [x0] fun x11 =>
.l (.app 2 true 16) [(n xs 2), x11] fun x12 =>
.l (.idx 4 true) [(n xs 1), (c 0 x0)] fun x13 =>
.l .len [(c 2 x13)] fun x14 =>
.l (.cmp .gtr .i64) [x14, (i 0)] fun x15 =>
.ite x15 (
.callvs (.fn F.readback_reader_choice [] []) sg_readback_reader_tree [x0, (n xs 1), x12, (n xs 3)] fun z16 =>
.l (.okc 6 true) [(n z16 0)] fun x17 =>
.call F.head_Kind [(.agg [(n z16 1)]), x0] fun x18 =>
.l (.okc 1 false) [x18] fun x19 =>
.l (.okc 1 false) [x2] fun x20 =>
.l (.slcT 2 true) [(n z16 2), x10] fun x21 =>
.l (.mget false [.i .i64] (.bool false)) [(n z16 3), x10] fun x22 =>
.ite x22 (
.l (.mdel false [.i .i64]) [(n z16 3), x10] fun x23 =>
.call F.readback_name [x10] fun x24 =>
.l (.lst 6 true) [(.agg [x19, x20, (c 2 x17), (c 3 x17), (c 4 x17), (c 5 x17)])] fun x25 =>
.l (.okcs [(1, false)]) [x24] fun x26 =>
.ret (.tup [(.agg [(i 8), (i 0), x24, (i 0), (.sl []), x25]), (n z16 1), x21, x23])) (
.ret (.tup [(.agg [x19, x20, (c 2 x17), (c 3 x17), (c 4 x17), (c 5 x17)]), (n z16 1), x21, (n z16 3)]))) (
.callvs (.fn F.readback_reader_plain [] []) sg_readback_reader_tree [x0, (n xs 1), x12, (n xs 3)] fun z16 =>
.l (.okc 6 true) [(n z16 0)] fun x17 =>
.call F.head_Kind [(.agg [(n z16 1)]), x0] fun x18 =>
.l (.okc 1 false) [x18] fun x19 =>
.l (.okc 1 false) [x2] fun x20 =>
.l (.slcT 2 true) [(n z16 2), x10] fun x21 =>
.l (.mget false [.i .i64] (.bool false)) [(n z16 3), x10] fun x22 =>
.ite x22 (
.l (.mdel false [.i .i64]) [(n z16 3), x10] fun x23 =>
.call F.readback_name [x10] fun x24 =>
.l (.lst 6 true) [(.agg [x19, x20, (c 2 x17), (c 3 x17), (c 4 x17), (c 5 x17)])] fun x25 =>
.l (.okcs [(1, false)]) [x24] fun x26 =>
.ret (.tup [(.agg [(i 8), (i 0), x24, (i 0), (.sl []), x25]), (n z16 1), x21, x23])) (
.ret (.tup [(.agg [x19, x20, (c 2 x17), (c 3 x17), (c 4 x17), (c 5 x17)]), (n z16 1), x21, (n z16 3)])))))
theorem m_readback_reader_tree : TxOkS P F.readback_reader_tree sg_readback_reader_tree u_readback_reader_tree := txOkS_of (H := { wr := [60], ro := [128], nl := [], fz := [], da := [], sigs := [(1000078, sg_readback_reader_tree), (72, sg_readback_reader_tree), (130, sg_readback_reader_plain), (131, sg_readback_reader_choice)] }) (plans := []) hm Tryz.func72 rfl fun xs => by kernel_rfl
def u_readback_reader_tree_Nil (xs : List PV) : T PV :=
.l (.okc 2 true) [(n xs 0)] fun x0 =>
.call F.head_Prio [(.agg [(n xs 1)]), x0] fun x1 =>
.l (.tc 0) [x1] fun x2 =>
.l (.tc 1) [x1] fun x3 =>
.l .bnot [x3] fun x4 =>
.ite x4 (
.call F.head_Kind [(.agg [(n xs 1)]), x0] fun x5 =>
.l (.okcs [(1, false)]) [x5] fun x6 =>
.ret (.tup [(.agg [x5, (i 0), (.str ⟨#[]⟩), (i 0), (.sl []), (.sl [])])])) (
.call F.readback_reader_find [(.box (.agg [(n xs 1), (.sl []), (n xs 2)])), x0] fun x5 =>
.l .gnd [x5] fun x6 =>
.l (.tc 0) [x6] fun x7 =>
.l (.tc 1) [x6] fun x8 =>
.l (.tc 2) [x6] fun x9 =>
.ite x9 (
.l (.mset false [.i .i64]) [(n xs 2), x7, (.bool true)] fun x10 =>
.call F.readback_name [x7] fun x11 =>
.l (.okcs [(1, false), (1, false)]) [x11, x8] fun x12 =>
.ret (.tup [(.agg [(i 9), (i 0), x11, x8, (.sl []), (.sl [])])])) (
.l .len [(.sl [])] fun x10 =>
.l (.lst 2 true) [x0] fun x11 =>
.l (.app 2 true 16) [(.sl []), x11] fun x12 =>
.l (.idx 4 true) [(n xs 1), (c 0 x0)] fun x13 =>
.l .len [(c 2 x13)] fun x14 =>
.l (.cmp .gtr .i64) [x14, (i 0)] fun x15 =>
.ite x15 (
.callvs (.fn F.readback_reader_choice [] []) sg_readback_reader_tree [x0, (n xs 1), x12, (n xs 2)] fun z16 =>
.l (.okc 6 true) [(n z16 0)] fun x17 =>
.call F.head_Kind [(.agg [(n z16 1)]), x0] fun x18 =>
.l (.okc 1 false) [x18] fun x19 =>
.l (.okc 1 false) [x2] fun x20 =>
.l (.slcT 2 true) [(n z16 2), x10] fun x21 =>
.l (.mget false [.i .i64] (.bool false)) [(n z16 3), x10] fun x22 =>
.ite x22 (
.l (.mdel false [.i .i64]) [(n z16 3), x10] fun x23 =>
.call F.readback_name [x10] fun x24 =>
.l (.lst 6 true) [(.agg [x19, x20, (c 2 x17), (c 3 x17), (c 4 x17), (c 5 x17)])] fun x25 =>
.l (.okcs [(1, false)]) [x24] fun x26 =>
.ret (.tup [(.agg [(i 8), (i 0), x24, (i 0), (.sl []), x25])])) (
.ret (.tup [(.agg [x19, x20, (c 2 x17), (c 3 x17), (c 4 x17), (c 5 x17)])]))) (
.callvs (.fn F.readback_reader_plain [] []) sg_readback_reader_tree [x0, (n xs 1), x12, (n xs 2)] fun z16 =>
.l (.okc 6 true) [(n z16 0)] fun x17 =>
.call F.head_Kind [(.agg [(n z16 1)]), x0] fun x18 =>
.l (.okc 1 false) [x18] fun x19 =>
.l (.okc 1 false) [x2] fun x20 =>
.l (.slcT 2 true) [(n z16 2), x10] fun x21 =>
.l (.mget false [.i .i64] (.bool false)) [(n z16 3), x10] fun x22 =>
.ite x22 (
.l (.mdel false [.i .i64]) [(n z16 3), x10] fun x23 =>
.call F.readback_name [x10] fun x24 =>
.l (.lst 6 true) [(.agg [x19, x20, (c 2 x17), (c 3 x17), (c 4 x17), (c 5 x17)])] fun x25 =>
.l (.okcs [(1, false)]) [x24] fun x26 =>
.ret (.tup [(.agg [(i 8), (i 0), x24, (i 0), (.sl []), x25])])) (
.ret (.tup [(.agg [x19, x20, (c 2 x17), (c 3 x17), (c 4 x17), (c 5 x17)])])))))
theorem m_readback_reader_tree_Nil : TxOkS P F.readback_reader_tree sg_readback_reader_tree_Nil u_readback_reader_tree_Nil := txOkS_of (H := { wr := [60], ro := [128], nl := [], fz := [], da := [], sigs := [(1000078, sg_readback_reader_tree), (72, sg_readback_reader_tree), (130, sg_readback_reader_plain), (131, sg_readback_reader_choice)] }) (plans := []) hm Tryz.func72 rfl fun xs => by kernel_rfl
def t_proctree_Program (xs : List PV) : T PV :=
.l (.okc 13 true) [(n xs 0)] fun x0 =>
.call F.proctree_Total [x0] fun x1 =>
.l (.cmp .gtr .i64) [x1, (i 10000)] fun x2 =>
.ite x2 (
.ret (i 2)) (
.l .len [(c 0 x0)] fun x3 =>
.loop [(i 0)] fun y4 =>
.l (.cmp .lss .i64) [(n y4 0), x3] fun x5 =>
.ite x5 (
.l (.idx 14 true) [(c 0 x0), (n y4 0)] fun x6 =>
.l (.okc 14 true) [x6] fun x7 =>
.call F.proctree_Right [(sb 2 12 x7)] fun x8 =>
.l (.cmp .neq .i64) [x8, (i 0)] fun x9 =>
.ite x9 (
.ret x8) (
.l (.arith .add .i64) [(n y4 0), (i 1)] fun x10 =>
.cont 0 [x10])) (
.call F.proctree_Right [(sb 1 12 x0)] fun x6 =>
.l (.cmp .neq .i64) [x6, (i 0)] fun x7 =>
.ite x7 (
.ret x6) (
.l .len [(c 0 x0)] fun x8 =>
.loop [(i 0)] fun y9 =>
.l (.cmp .lss .i64) [(n y9 0), x8] fun x10 =>
.ite x10 (
.l (.idx 14 true) [(c 0 x0), (n y9 0)] fun x11 =>
.l (.okc 14 true) [x11] fun x12 =>
.call F.lex_Name [(c 0 x12)] fun x13 =>
.l .bnot [x13] fun x14 =>
.ite x14 (
.ret (i 3)) (
.call F.slices_ContainsFunc_api_Param_api_Param [(c 1 x12), (.fn F.proctree_Program_1 [] [])] fun x15 =>
.ite x15 (
.ret (i 3)) (
.l (.arith .add .i64) [(n y9 0), (i 1)] fun x16 =>
.cont 1 [x16]))) (
.ret (i 0)))))
theorem k_proctree_Program : TxOk P F.proctree_Program 1 t_proctree_Program := txOk_of (H := {}) (plans := []) hm Tryz.func73 rfl rfl fun xs => by kernel_rfl
def t_scope_Find (xs : List PV) : T PV :=
.l (.okc 13 true) [(n xs 0)] fun x0 =>
.l (.okc 1 false) [(n xs 1)] fun x1 =>
.call F.slices_IndexFunc_api_Def_api_Def [(c 0 x0), (.fn F.scope_Find_1 [] [(.box x1)])] fun x2 =>
.l (.mx .i64) [x2, (i 0)] fun x3 =>
.l (.cmp .geq .i64) [x2, (i 0)] fun x4 =>
.ret (.tup [x3, x4])
theorem k_scope_Find : TxOk P F.scope_Find 2 t_scope_Find := txOk_of (H := {}) (plans := []) hm Tryz.func74 rfl rfl fun xs => by kernel_rfl
def t_scope_twice (xs : List PV) : T PV :=
.call F.slices_Sort_string_string [(n xs 0)] fun x0 =>
.calls F.slices_Clone_string_string sg_slices_Clone_string_string [(n xs 0)] fun z1 =>
.call F.slices_Compact_string_string [(n z1 0)] fun x2 =>
.l .len [x2] fun x3 =>
.l .len [(n xs 0)] fun x4 =>
.l (.cmp .lss .i64) [x3, x4] fun x5 =>
.ret x5
theorem k_scope_twice : TxOk P F.scope_twice 1 t_scope_twice := txOk_of (H := { wr := [], ro := [], nl := [], fz := [], da := [], sigs := [(107, sg_slices_Clone_string_string), (108, sg_slices_Clone_graph_Ref_graph_Ref), (148, sg_slices_Clone_typetree_bound_typetree_bound)] }) (plans := []) hm Tryz.func75 rfl rfl fun xs => by kernel_rfl
def u_scope_twice (xs : List PV) : T PV :=
.calls F.slices_Sort_string_string sg_slices_Sort_string_string [(n xs 0)] fun z0 =>
.calls F.slices_Clone_string_string sg_slices_Clone_string_string [(n z0 1)] fun z1 =>
.calls F.slices_Compact_string_string sg_slices_Compact_string_string [(n z1 0)] fun z2 =>
.l .len [(n z2 0)] fun x3 =>
.l .len [(n z0 1)] fun x4 =>
.l (.cmp .lss .i64) [x3, x4] fun x5 =>
.ret (.tup [x5])
theorem m_scope_twice : TxOkS P F.scope_twice sg_scope_twice u_scope_twice := txOkS_of (H := { wr := [], ro := [], nl := [], fz := [], da := [], sigs := [(141, sg_maps_Clone_scope_names_string_bool), (76, sg_scope_params), (75, sg_scope_twice), (140, sg_slices_Compact_string_string), (28, sg_slices_Sort_int_int), (63, sg_graph_set_add), (64, sg_slices_pdqsortOrdered_int_Nil), (114, sg_slices_insertionSortOrdered_int), (139, sg_slices_Sort_string_string), (190, sg_slices_pdqsortOrdered_string_Nil), (233, sg_slices_insertionSortOrdered_string), (107, sg_slices_Clone_string_string), (108, sg_slices_Clone_graph_Ref_graph_Ref), (148, sg_slices_Clone_typetree_bound_typetree_bound)] }) (plans := []) hm Tryz.func75 rfl fun xs => by kernel_rfl
def t_scope_params (xs : List PV) : T PV :=
.l (.okc 14 true) [(n xs 0)] fun x0 =>
.l .len [(c 1 x0)] fun x1 =>
.loop [(i 0), (.sl [])] fun y2 =>
.l (.cmp .lss .i64) [(n y2 0), x1] fun x3 =>
.ite x3 (
.l (.idx 7 true) [(c 1 x0), (n y2 0)] fun x4 =>
.l (.okc 7 true) [x4] fun x5 =>
.l (.lst 1 false) [(c 0 x5)] fun x6 =>
.l (.app 1 false 16) [(n y2 1), x6] fun x7 =>
.l (.arith .add .i64) [(n y2 0), (i 1)] fun x8 =>
.cont 0 [x8, x7]) (
.ret (n y2 1))
theorem k_scope_params : TxOk P F.scope_params 1 t_scope_params := txOk_of (H := { wr := [0, 1, 2, 3, 4, 5, 6, 7, 8, 9, 10, 11, 12, 13, 14, 15, 16, 17, 18, 19, 20, 21, 22, 23, 24, 25, 26, 27, 28, 29, 30, 31, 32, 33, 34, 35, 36, 37, 38, 39, 40, 41, 42, 43, 44, 45, 46, 47, 48, 49, 50, 51, 52, 53, 54, 55, 56, 57, 58, 59, 60, 61, 62, 63, 64, 65, 66, 67, 68, 69, 70, 71, 72, 73, 74, 75, 76, 77, 78, 79, 80, 81, 82, 83, 84, 85, 86, 87, 88, 89, 90, 91, 92, 93, 94, 95, 96, 97, 98, 99], ro := [], nl := [], fz := [], da := [], sigs := [] }) (plans := []) hm Tryz.func76 rfl rfl fun xs => by kernel_rfl
def u_scope_params (xs : List PV) : T PV :=
.l (.okc 14 true) [(n xs 0)] fun x0 =>
.l .len [(c 1 x0)] fun x1 =>
.loop [(i 0), (.sl [])] fun y2 =>
.l (.cmp .lss .i64) [(n y2 0), x1] fun x3 =>
.ite x3 (
.l (.idx 7 true) [(c 1 x0), (n y2 0)] fun x4 =>
.l (.okc 7 true) [x4] fun x5 =>
.l (.lst 1 false) [(c 0 x5)] fun x6 =>
.l (.app 1 false 16) [(n y2 1), x6] fun x7 =>
.l (.arith .add .i64) [(n y2 0), (i 1)] fun x8 =>
.cont 0 [x8, x7]) (
.ret (.tup [(n y2 1)]))
theorem m_scope_params : TxOkS P F.scope_params sg_scope_params u_scope_params := txOkS_of (H := { wr := [0, 1, 2, 3, 4, 5, 6, 7, 8, 9, 10, 11, 12, 13, 14, 15, 16, 17, 18, 19, 20, 21, 22, 23, 24, 25, 26, 27, 28, 29, 30, 31, 32, 33, 34, 35, 36, 37, 38, 39, 40, 41, 42, 43, 44, 45, 46, 47, 48, 49, 50, 51, 52, 53, 54, 55, 56, 57, 58, 59, 60, 61, 62, 63, 64, 65, 66, 67, 68, 69, 70, 71, 72, 73, 74, 75, 76, 77, 78, 79, 80, 81, 82, 83, 84, 85, 86, 87, 88, 89, 90, 91, 92, 93, 94, 95, 96, 97, 98, 99], ro := [], nl := [], fz := [], da := [], sigs := [(141, sg_maps_Clone_scope_names_string_bool), (76, sg_scope_params), (75, sg_scope_twice), (140, sg_slices_Compact_string_string), (28, sg_slices_Sort_int_int), (63, sg_graph_set_add), (64, sg_slices_pdqsortOrdered_int_Nil), (114, sg_slices_insertionSortOrdered_int), (139, sg_slices_Sort_string_string), (190, sg_slices_pdqsortOrdered_string_Nil), (233, sg_slices_insertionSortOrdered_string)] }) (plans := []) hm Tryz.func76 rfl fun xs => by kernel_rfl
def t_scope_names_with (xs : List PV) : T PV :=
.calls F.maps_Clone_scope_names_string_bool sg_maps_Clone_scope_names_string_bool [(n xs 0)] fun z0 =>
.l .len [(n xs 1)] fun x1 =>
.loop [(i 0), (.bool true), (n z0 0)] fun y2 =>
.l (.cmp .lss .i64) [(n y2 0), x1] fun x3 =>
.ite x3 (
.l (.idx 1 false) [(n xs 1), (n y2 0)] fun x4 =>
.ite (n y2 1) (
.l (.mget false [.s] (.bool false)) [(n xs 0), x4] fun x5 =>
.l .bnot [x5] fun x6 =>
.l (.mset false [.s]) [(n y2 2), x4, (.bool true)] fun x7 =>
.l (.arith .add .i64) [(n y2 0), (i 1)] fun x8 =>
.cont 0 [x8, x6, x7]) (
.l (.mset false [.s]) [(n y2 2), x4, (.bool true)] fun x5 =>
.l (.arith .add .i64) [(n y2 0), (i 1)] fun x6 =>
.cont 0 [x6, (.bool false), x5])) (
.ret (.tup [(n y2 2), (n y2 1)]))
theorem k_scope_names_with : TxOk P F.scope_names_with 2 t_scope_names_with := txOk_of (H := { wr := [], ro := [], nl := [], fz := [], da := [], sigs := [(141, sg_maps_Clone_scope_names_string_bool), (76, sg_scope_params), (75, sg_scope_twice), (140, sg_slices_Compact_string_string)] }) (plans := []) hm Tryz.func77 rfl rfl fun xs => by kernel_rfl
def t_scope_walker_walk (xs : List PV) : T PV :=
.l (.okc 14 true) [(n xs 0)] fun x0 =>
.l (.okc 12 true) [(n xs 1)] fun x1 =>
.call F.scope_walker_node [x0, x1, (n xs 2), (n xs 3)] fun x2 =>
.l (.tc 0) [x2] fun x3 =>
.l (.tc 1) [x2] fun x4 =>
.l .len [(c 11 x1)] fun x5 =>
.loop [(i 0), x4] fun y6 =>
.l (.cmp .lss .i64) [(n y6 0), x5] fun x7 =>
.ite x7 (
.l (.idx 12 true) [(c 11 x1), (n y6 0)] fun x8 =>
.l (.okc 12 true) [x8] fun x9 =>
.l (.cmp .neq .i64) [(n y6 1), (i 0)] fun x10 =>
.ite x10 (
.ret (n y6 1)) (
.ite (n xs 3) (
.call F.scope_walker_walk [x0, x9, x3, (.bool true)] fun x11 =>
.l (.arith .add .i64) [(n y6 0), (i 1)] fun x12 =>
.cont 0 [x12, x11]) (
.call F.proctree_Prefix [x1] fun x11 =>
.call F.scope_walker_walk [x0, x9, x3, x11] fun x12 =>
.l (.arith .add .i64) [(n y6 0), (i 1)] fun x13 =>
.cont 0 [x13, x12]))) (
.ret (n y6 1))
theorem k_scope_walker_walk : TxOk P F.scope_walker_walk 4 t_scope_walker_walk := txOk_of (H := {}) (plans := []) hm Tryz.func78 rfl rfl fun xs => by kernel_rfl
def t_typetree_shallow (xs : List PV) : T PV :=
.l (.okc 6 true) [(n xs 0)] fun x0 =>
.l (.okc 1 false) [(n xs 1)] fun x1 =>
.l (.cmp .gtr .i64) [x1, (i 0)] fun x2 =>
.ite x2 (
.call F.slices_ContainsFunc_api_Type_api_Type [(c 5 x0), (.fn F.typetree_shallow_1 [] [(.box x1)])] fun x3 =>
.l .bnot [x3] fun x4 =>
.ret x4) (
.ret (.bool false))
theorem k_typetree_shallow : TxOk P F.typetree_shallow 2 t_typetree_shallow := txOk_of (H := {}) (plans := []) hm Tryz.func79 rfl rfl fun xs => by kernel_rfl
def t_typetree_few (xs : List PV) : T PV :=
.l (.okc 6 true) [(n xs 0)] fun x0 =>
.l (.okc 1 false) [(n xs 1)] fun x1 =>
.call F.typetree_nodes [x0] fun x2 =>
.iter x2 1 [x1] (fun e3 y3 =>
.l (.arith .sub .i64) [(n y3 0), (i 1)] fun x4 =>
.l (.okc 1 false) [x4] fun x5 =>
.l (.cmp .lss .i64) [x5, (i 0)] fun x6 =>
.ite x6 (
.fail) (
.cont 0 [x5])) (fun e3 y3 =>
.l (.arith .sub .i64) [(n y3 0), (i 1)] fun x4 =>
.l (.okc 1 false) [x4] fun x5 =>
.l (.cmp .lss .i64) [x5, (i 0)] fun x6 =>
.ite x6 (
.ret (.bool false)) (
.fail)) fun y3 =>
.ret (.bool true)
theorem k_typetree_few : TxOk P F.typetree_few 2 t_typetree_few := txOk_of (H := {}) (plans := []) hm Tryz.func80 rfl rfl fun xs => by kernel_rfl
def t_typetree_check (xs : List PV) : T PV :=
.l (.okc 6 true) [(n xs 0)] fun x0 =>
.call F.typetree_fields [x0] fun x1 =>
.l .bnot [x1] fun x2 =>
.ite x2 (
.ret (i 3)) (
.ite (n xs 2) (
.call F.typetree_Session [x0] fun x3 =>
.l .bnot [x3] fun x4 =>
.ite x4 (
.ret (i 3)) (
.l (.cmp .eql .i64) [(c 0 x0), (i 9)] fun x5 =>
.ite x5 (
.call F.typetree_find [(n xs 1), (c 2 x0)] fun x6 =>
.l (.tc 0) [x6] fun x7 =>
.l (.tc 1) [x6] fun x8 =>
.l (.okc 2 true) [x7] fun x9 =>
.l .bnot [x8] fun x10 =>
.ite x10 (
.ret (i 4)) (
.l .bnot [(c 1 x9)] fun x11 =>
.ite x11 (
.ret (i 3)) (
.l .len [(c 5 x0)] fun x12 =>
.loop [(i 0)] fun y13 =>
.l (.cmp .lss .i64) [(n y13 0), x12] fun x14 =>
.ite x14 (
.l (.idx 6 true) [(c 5 x0), (n y13 0)] fun x15 =>
.l (.okc 6 true) [x15] fun x16 =>
.l (.cmp .eql .i64) [(n y13 0), (i 0)] fun x17 =>
.ite x17 (
.l (.cmp .eql .i64) [(c 0 x0), (i 4)] fun x18 =>
.ite x18 (
.l .bnot [(.bool true)] fun x19 =>
.call F.typetree_check [x16, (n xs 1), x19] fun x20 =>
.l (.cmp .neq .i64) [x20, (i 0)] fun x21 =>
.ite x21 (
.ret x20) (
.l (.arith .add .i64) [(n y13 0), (i 1)] fun x22 =>
.cont 0 [x22])) (
.l (.cmp .eql .i64) [(c 0 x0), (i 5)] fun x19 =>
.l .bnot [x19] fun x20 =>
.call F.typetree_check [x16, (n xs 1), x20] fun x21 =>
.l (.cmp .neq .i64) [x21, (i 0)] fun x22 =>
.ite x22 (
.ret x21) (
.l (.arith .add .i64) [(n y13 0), (i 1)] fun x23 =>
.cont 0 [x23]))) (
.l .bnot [(.bool false)] fun x18 =>
.call F.typetree_check [x16, (n xs 1), x18] fun x19 =>
.l (.cmp .neq .i64) [x19, (i 0)] fun x20 =>
.ite x20 (
.ret x19) (
.l (.arith .add .i64) [(n y13 0), (i 1)] fun x21 =>
.cont 0 [x21]))) (
.ret (i 0))))) (
.l (.cmp .eql .i64) [(c 0 x0), (i 8)] fun x6 =>
.ite x6 (
.calls F.slices_Clone_typetree_bound_typetree_bound sg_slices_Clone_typetree_bound_typetree_bound [(n xs 1)] fun z7 =>
.l (.okcs [(1, false)]) [(c 2 x0)] fun x8 =>
.l (.lst 2 true) [(.agg [(c 2 x0), (.bool false)])] fun x9 =>
.l (.app 2 true 24) [(n z7 0), x9] fun x10 =>
.l .len [(c 5 x0)] fun x11 =>
.loop [(i 0)] fun y12 =>
.l (.cmp .lss .i64) [(n y12 0), x11] fun x13 =>
.ite x13 (
.l (.idx 6 true) [(c 5 x0), (n y12 0)] fun x14 =>
.l (.okc 6 true) [x14] fun x15 =>
.l (.cmp .eql .i64) [(n y12 0), (i 0)] fun x16 =>
.ite x16 (
.l (.cmp .eql .i64) [(c 0 x0), (i 4)] fun x17 =>
.ite x17 (
.l .bnot [(.bool true)] fun x18 =>
.call F.typetree_check [x15, x10, x18] fun x19 =>
.l (.cmp .neq .i64) [x19, (i 0)] fun x20 =>
.ite x20 (
.ret x19) (
.l (.arith .add .i64) [(n y12 0), (i 1)] fun x21 =>
.cont 0 [x21])) (
.l (.cmp .eql .i64) [(c 0 x0), (i 5)] fun x18 =>
.l .bnot [x18] fun x19 =>
.call F.typetree_check [x15, x10, x19] fun x20 =>
.l (.cmp .neq .i64) [x20, (i 0)] fun x21 =>
.ite x21 (
.ret x20) (
.l (.arith .add .i64) [(n y12 0), (i 1)] fun x22 =>
.cont 0 [x22]))) (
.l .bnot [(.bool false)] fun x17 =>
.call F.typetree_check [x15, x10, x17] fun x18 =>
.l (.cmp .neq .i64) [x18, (i 0)] fun x19 =>
.ite x19 (
.ret x18) (
.l (.arith .add .i64) [(n y12 0), (i 1)] fun x20 =>
.cont 0 [x20]))) (
.ret (i 0))) (
.calls F.slices_Clone_typetree_bound_typetree_bound sg_slices_Clone_typetree_bound_typetree_bound [(n xs 1)] fun z7 =>
.l .len [(n z7 0)] fun x8 =>
.loop [(i 0), (n z7 0)] fun y9 =>
.l (.cmp .lss .i64) [(n y9 0), x8] fun x10 =>
.ite x10 (
.l (.idx 2 true) [(n y9 1), (n y9 0)] fun x11 =>
.l (.updF 2 1 1 false) [(n y9 1), (n y9 0), (.bool true)] fun x12 =>
.l (.arith .add .i64) [(n y9 0), (i 1)] fun x13 =>
.cont 0 [x13, x12]) (
.l .len [(c 5 x0)] fun x11 =>
.loop [(i 0)] fun y12 =>
.l (.cmp .lss .i64) [(n y12 0), x11] fun x13 =>
.ite x13 (
.l (.idx 6 true) [(c 5 x0), (n y12 0)] fun x14 =>
.l (.okc 6 true) [x14] fun x15 =>
.l (.cmp .eql .i64) [(n y12 0), (i 0)] fun x16 =>
.ite x16 (
.l (.cmp .eql .i64) [(c 0 x0), (i 4)] fun x17 =>
.ite x17 (
.l .bnot [(.bool true)] fun x18 =>
.call F.typetree_check [x15, (n y9 1), x18] fun x19 =>
.l (.cmp .neq .i64) [x19, (i 0)] fun x20 =>
.ite x20 (
.ret x19) (
.l (.arith .add .i64) [(n y12 0), (i 1)] fun x21 =>
.cont 1 [x21])) (
.l (.cmp .eql .i64) [(c 0 x0), (i 5)] fun x18 =>
.l .bnot [x18] fun x19 =>
.call F.typetree_check [x15, (n y9 1), x19] fun x20 =>
.l (.cmp .neq .i64) [x20, (i 0)] fun x21 =>
.ite x21 (
.ret x20) (
.l (.arith .add .i64) [(n y12 0), (i 1)] fun x22 =>
.cont 1 [x22]))) (
.l .bnot [(.bool false)] fun x17 =>
.call F.typetree_check [x15, (n y9 1), x17] fun x18 =>
.l (.cmp .neq .i64) [x18, (i 0)] fun x19 =>
.ite x19 (
.ret x18) (
.l (.arith .add .i64) [(n y12 0), (i 1)] fun x20 =>
.cont 1 [x20]))) (
.ret (i 0))))))) (
.l (.cmp .eql .i64) [(c 0 x0), (i 9)] fun x3 =>
.ite x3 (
.call F.typetree_find [(n xs 1), (c 2 x0)] fun x4 =>
.l (.tc 0) [x4] fun x5 =>
.l (.tc 1) [x4] fun x6 =>
.l (.okc 2 true) [x5] fun x7 =>
.l .bnot [x6] fun x8 =>
.ite x8 (
.ret (i 4)) (
.l .bnot [(c 1 x7)] fun x9 =>
.ite x9 (
.ret (i 3)) (
.l .len [(c 5 x0)] fun x10 =>
.loop [(i 0)] fun y11 =>
.l (.cmp .lss .i64) [(n y11 0), x10] fun x12 =>
.ite x12 (
.l (.idx 6 true) [(c 5 x0), (n y11 0)] fun x13 =>
.l (.okc 6 true) [x13] fun x14 =>
.l (.cmp .eql .i64) [(n y11 0), (i 0)] fun x15 =>
.ite x15 (
.l (.cmp .eql .i64) [(c 0 x0), (i 4)] fun x16 =>
.ite x16 (
.l .bnot [(.bool true)] fun x17 =>
.call F.typetree_check [x14, (n xs 1), x17] fun x18 =>
.l (.cmp .neq .i64) [x18, (i 0)] fun x19 =>
.ite x19 (
.ret x18) (
.l (.arith .add .i64) [(n y11 0), (i 1)] fun x20 =>
.cont 0 [x20])) (
.l (.cmp .eql .i64) [(c 0 x0), (i 5)] fun x17 =>
.l .bnot [x17] fun x18 =>
.call F.typetree_check [x14, (n xs 1), x18] fun x19 =>
.l (.cmp .neq .i64) [x19, (i 0)] fun x20 =>
.ite x20 (
.ret x19) (
.l (.arith .add .i64) [(n y11 0), (i 1)] fun x21 =>
.cont 0 [x21]))) (
.l .bnot [(.bool false)] fun x16 =>
.call F.typetree_check [x14, (n xs 1), x16] fun x17 =>
.l (.cmp .neq .i64) [x17, (i 0)] fun x18 =>
.ite x18 (
.ret x17) (
.l (.arith .add .i64) [(n y11 0), (i 1)] fun x19 =>
.cont 0 [x19]))) (
.ret (i 0))))) (
.l (.cmp .eql .i64) [(c 0 x0), (i 8)] fun x4 =>
.ite x4 (
.calls F.slices_Clone_typetree_bound_typetree_bound sg_slices_Clone_typetree_bound_typetree_bound [(n xs 1)] fun z5 =>
.l (.okcs [(1, false)]) [(c 2 x0)] fun x6 =>
.l (.lst 2 true) [(.agg [(c 2 x0), (.bool false)])] fun x7 =>
.l (.app 2 true 24) [(n z5 0), x7] fun x8 =>
.l .len [(c 5 x0)] fun x9 =>
.loop [(i 0)] fun y10 =>
.l (.cmp .lss .i64) [(n y10 0), x9] fun x11 =>
.ite x11 (
.l (.idx 6 true) [(c 5 x0), (n y10 0)] fun x12 =>
.l (.okc 6 true) [x12] fun x13 =>
.l (.cmp .eql .i64) [(n y10 0), (i 0)] fun x14 =>
.ite x14 (
.l (.cmp .eql .i64) [(c 0 x0), (i 4)] fun x15 =>
.ite x15 (
.l .bnot [(.bool true)] fun x16 =>
.call F.typetree_check [x13, x8, x16] fun x17 =>
.l (.cmp .neq .i64) [x17, (i 0)] fun x18 =>
.ite x18 (
.ret x17) (
.l (.arith .add .i64) [(n y10 0), (i 1)] fun x19 =>
.cont 0 [x19])) (
.l (.cmp .eql .i64) [(c 0 x0), (i 5)] fun x16 =>
.l .bnot [x16] fun x17 =>
.call F.typetree_check [x13, x8, x17] fun x18 =>
.l (.cmp .neq .i64) [x18, (i 0)] fun x19 =>
.ite x19 (
.ret x18) (
.l (.arith .add .i64) [(n y10 0), (i 1)] fun x20 =>
.cont 0 [x20]))) (
.l .bnot [(.bool false)] fun x15 =>
.call F.typetree_check [x13, x8, x15] fun x16 =>
.l (.cmp .neq .i64) [x16, (i 0)] fun x17 =>
.ite x17 (
.ret x16) (
.l (.arith .add .i64) [(n y10 0), (i 1)] fun x18 =>
.cont 0 [x18]))) (
.ret (i 0))) (
.calls F.slices_Clone_typetree_bound_typetree_bound sg_slices_Clone_typetree_bound_typetree_bound [(n xs 1)] fun z5 =>
.l .len [(n z5 0)] fun x6 =>
.loop [(i 0), (n z5 0)] fun y7 =>
.l (.cmp .lss .i64) [(n y7 0), x6] fun x8 =>
.ite x8 (
.l (.idx 2 true) [(n y7 1), (n y7 0)] fun x9 =>
.l (.updF 2 1 1 false) [(n y7 1), (n y7 0), (.bool true)] fun x10 =>
.l (.arith .add .i64) [(n y7 0), (i 1)] fun x11 =>
.cont 0 [x11, x10]) (
.l .len [(c 5 x0)] fun x9 =>
.loop [(i 0)] fun y10 =>
.l (.cmp .lss .i64) [(n y10 0), x9] fun x11 =>
.ite x11 (
.l (.idx 6 true) [(c 5 x0), (n y10 0)] fun x12 =>
.l (.okc 6 true) [x12] fun x13 =>
.l (.cmp .eql .i64) [(n y10 0), (i 0)] fun x14 =>
.ite x14 (
.l (.cmp .eql .i64) [(c 0 x0), (i 4)] fun x15 =>
.ite x15 (
.l .bnot [(.bool true)] fun x16 =>
.call F.typetree_check [x13, (n y7 1), x16] fun x17 =>
.l (.cmp .neq .i64) [x17, (i 0)] fun x18 =>
.ite x18 (
.ret x17) (
.l (.arith .add .i64) [(n y10 0), (i 1)] fun x19 =>
.cont 1 [x19])) (
.l (.cmp .eql .i64) [(c 0 x0), (i 5)] fun x16 =>
.l .bnot [x16] fun x17 =>
.call F.typetree_check [x13, (n y7 1), x17] fun x18 =>
.l (.cmp .neq .i64) [x18, (i 0)] fun x19 =>
.ite x19 (
.ret x18) (
.l (.arith .add .i64) [(n y10 0), (i 1)] fun x20 =>
.cont 1 [x20]))) (
.l .bnot [(.bool false)] fun x15 =>
.call F.typetree_check [x13, (n y7 1), x15] fun x16 =>
.l (.cmp .neq .i64) [x16, (i 0)] fun x17 =>
.ite x17 (
.ret x16) (
.l (.arith .add .i64) [(n y10 0), (i 1)] fun x18 =>
.cont 1 [x18]))) (
.ret (i 0)))))))
theorem k_typetree_check : TxOk P F.typetree_check 3 t_typetree_check := txOk_of (H := { wr := [], ro := [], nl := [], fz := [(18, 1)], da := [], sigs := [(107, sg_slices_Clone_string_string), (108, sg_slices_Clone_graph_Ref_graph_Ref), (148, sg_slices_Clone_typetree_bound_typetree_bound)] }) (plans := []) hm Tryz.func81 rfl rfl fun xs => by kernel_rfl
def t_witness_base (xs : List PV) : T PV :=
.l (.okc 6 true) [(n xs 0)] fun x0 =>
.call F.typetree_Session [x0] fun x1 =>
.l .bnot [x1] fun x2 =>
.ret x2
theorem k_witness_base : TxOk P F.witness_base 1 t_witness_base := txOk_of (H := {}) (plans := []) hm Tryz.func82 rfl rfl fun xs => by kernel_rfl
def t_slices_ContainsFunc_api_Type_api_Type (xs : List PV) : T PV :=
.call F.slices_IndexFunc_api_Type_api_Type [(n xs 0), (n xs 1)] fun x0 =>
.l (.cmp .geq .i64) [x0, (i 0)] fun x1 =>
.ret x1
theorem k_slices_ContainsFunc_api_Type_api_Type : TxOk P F.slices_ContainsFunc_api_Type_api_Type 2 t_slices_ContainsFunc_api_Type_api_Type := txOk_of (H := {}) (plans := []) hm Tryz.func83 rfl rfl fun xs => by kernel_rfl
def t_witness_plain_1 (xs : List PV) : T PV :=
.l (.okc 6 true) [(n xs 0)] fun x0 =>
.call F.witness_plain [x0] fun x1 =>
.l .bnot [x1] fun x2 =>
.ret x2
theorem k_witness_plain_1 : TxOk P F.witness_plain_1 1 t_witness_plain_1 := txOk_of (H := {}) (plans := []) hm Tryz.func84 rfl rfl fun xs => by kernel_rfl
def t_ref02_Size (xs : List PV) : T PV :=
.l (.okc 6 true) [(n xs 0)] fun x0 =>
.loop [(i 0), (i 1)] fun y1 =>
.l .len [(c 5 x0)] fun x2 =>
.l (.cmp .lss .i64) [(n y1 0), x2] fun x3 =>
.ite x3 (
.l (.idx 6 true) [(c 5 x0), (n y1 0)] fun x4 =>
.call F.ref02_Size [x4] fun x5 =>
.l (.arith .add .i64) [(n y1 1), x5] fun x6 =>
.l (.arith .add .i64) [(n y1 0), (i 1)] fun x7 =>
.cont 0 [x7, x6]) (
.ret (n y1 1))
theorem k_ref02_Size : TxOk P F.ref02_Size 1 t_ref02_Size := txOk_of (H := {}) (plans := []) hm Tryz.func85 rfl rfl fun xs => by kernel_rfl
def t_ref02_node (xs : List PV) : T PV :=
.l (.okc 6 true) [(n xs 0)] fun x0 =>
.call F.ref02_shape [x0] fun x1 =>
.l .bnot [x1] fun x2 =>
.ite x2 (
.ret (i 3)) (
.ite (n xs 3) (
.call F.ref02_Session [x0] fun x3 =>
.l .bnot [x3] fun x4 =>
.ite x4 (
.ret (i 3)) (
.l (.cmp .eql .i64) [(c 0 x0), (i 9)] fun x5 =>
.ite x5 (
.l .len [(n xs 1)] fun x6 =>
.l (.arith .sub .i64) [x6, (i 1)] fun x7 =>
.loop [x7] fun y8 =>
.l (.cmp .geq .i64) [(n y8 0), (i 0)] fun x9 =>
.ite x9 (
.l (.idx 1 false) [(n xs 1), (n y8 0)] fun x10 =>
.l (.scmp .eql) [x10, (c 2 x0)] fun x11 =>
.ite x11 (
.l (.cmp .lss .i64) [(n y8 0), (n xs 2)] fun x12 =>
.ite x12 (
.ret (i 0)) (
.ret (i 3))) (
.l (.arith .sub .i64) [(n y8 0), (i 1)] fun x12 =>
.cont 0 [x12])) (
.ret (i 4))) (
.l (.cmp .eql .i64) [(c 0 x0), (i 8)] fun x6 =>
.ite x6 (
.l (.idx 6 true) [(c 5 x0), (i 0)] fun x7 =>
.l (.lst 1 false) [] fun x8 =>
.l (.app 1 false 16) [x8, (n xs 1)] fun x9 =>
.l (.lst 1 false) [(c 2 x0)] fun x10 =>
.l (.app 1 false 16) [x9, x10] fun x11 =>
.call F.ref02_node [x7, x11, (n xs 2), (.bool true)] fun x12 =>
.ret x12) (
.loop [(i 0)] fun y7 =>
.l .len [(c 5 x0)] fun x8 =>
.l (.cmp .lss .i64) [(n y7 0), x8] fun x9 =>
.ite x9 (
.l (.idx 6 true) [(c 5 x0), (n y7 0)] fun x10 =>
.l .len [(n xs 1)] fun x11 =>
.l (.cmp .gtr .i64) [(n y7 0), (i 0)] fun x12 =>
.ite x12 (
.call F.ref02_node [x10, (n xs 1), x11, (.bool true)] fun x13 =>
.l (.cmp .neq .i64) [x13, (i 0)] fun x14 =>
.ite x14 (
.ret x13) (
.l (.arith .add .i64) [(n y7 0), (i 1)] fun x15 =>
.cont 0 [x15])) (
.l (.cmp .gtr .i64) [(c 0 x0), (i 5)] fun x13 =>
.call F.ref02_node [x10, (n xs 1), x11, x13] fun x14 =>
.l (.cmp .neq .i64) [x14, (i 0)] fun x15 =>
.ite x15 (
.ret x14) (
.l (.arith .add .i64) [(n y7 0), (i 1)] fun x16 =>
.cont 0 [x16]))) (
.ret (i 0)))))) (
.l (.cmp .eql .i64) [(c 0 x0), (i 9)] fun x3 =>
.ite x3 (
.l .len [(n xs 1)] fun x4 =>
.l (.arith .sub .i64) [x4, (i 1)] fun x5 =>
.loop [x5] fun y6 =>
.l (.cmp .geq .i64) [(n y6 0), (i 0)] fun x7 =>
.ite x7 (
.l (.idx 1 false) [(n xs 1), (n y6 0)] fun x8 =>
.l (.scmp .eql) [x8, (c 2 x0)] fun x9 =>
.ite x9 (
.l (.cmp .lss .i64) [(n y6 0), (n xs 2)] fun x10 =>
.ite x10 (
.ret (i 0)) (
.ret (i 3))) (
.l (.arith .sub .i64) [(n y6 0), (i 1)] fun x10 =>
.cont 0 [x10])) (
.ret (i 4))) (
.l (.cmp .eql .i64) [(c 0 x0), (i 8)] fun x4 =>
.ite x4 (
.l (.idx 6 true) [(c 5 x0), (i 0)] fun x5 =>
.l (.lst 1 false) [] fun x6 =>
.l (.app 1 false 16) [x6, (n xs 1)] fun x7 =>
.l (.lst 1 false) [(c 2 x0)] fun x8 =>
.l (.app 1 false 16) [x7, x8] fun x9 =>
.call F.ref02_node [x5, x9, (n xs 2), (.bool true)] fun x10 =>
.ret x10) (
.loop [(i 0)] fun y5 =>
.l .len [(c 5 x0)] fun x6 =>
.l (.cmp .lss .i64) [(n y5 0), x6] fun x7 =>
.ite x7 (
.l (.idx 6 true) [(c 5 x0), (n y5 0)] fun x8 =>
.l .len [(n xs 1)] fun x9 =>
.l (.cmp .gtr .i64) [(n y5 0), (i 0)] fun x10 =>
.ite x10 (
.call F.ref02_node [x8, (n xs 1), x9, (.bool true)] fun x11 =>
.l (.cmp .neq .i64) [x11, (i 0)] fun x12 =>
.ite x12 (
.ret x11) (
.l (.arith .add .i64) [(n y5 0), (i 1)] fun x13 =>
.cont 0 [x13])) (
.l (.cmp .gtr .i64) [(c 0 x0), (i 5)] fun x11 =>
.call F.ref02_node [x8, (n xs 1), x9, x11] fun x12 =>
.l (.cmp .neq .i64) [x12, (i 0)] fun x13 =>
.ite x13 (
.ret x12) (
.l (.arith .add .i64) [(n y5 0), (i 1)] fun x14 =>
.cont 0 [x14]))) (
.ret (i 0))))))
theorem k_ref02_node : TxOk P F.ref02_node 4 t_ref02_node := txOk_of (H := {}) (plans := []) hm Tryz.func86 rfl rfl fun xs => by kernel_rfl
def t_ref07_reference (xs : List PV) : T PV :=
.l (.okc 6 true) [(n xs 0)] fun x0 =>
.l (.cmp .eql .i64) [(c 0 x0), (i 8)] fun x1 =>
.ite x1 (
.l (.idx 6 true) [(c 5 x0), (i 0)] fun x2 =>
.call F.ref07_reference [x2, (n xs 1), (n xs 2), (n xs 3)] fun x3 =>
.l (.okc 2 true) [x3] fun x4 =>
.ret x4) (
.l (.cmp .eql .i64) [(c 0 x0), (i 9)] fun x2 =>
.ite x2 (
.l .len [(n xs 2)] fun x3 =>
.l (.arith .sub .i64) [x3, (i 1)] fun x4 =>
.loop [x4] fun y5 =>
.l (.cmp .geq .i64) [(n y5 0), (i 0)] fun x6 =>
.ite x6 (
.l (.idx 1 false) [(n xs 2), (n y5 0)] fun x7 =>
.l (.scmp .eql) [x7, (c 2 x0)] fun x8 =>
.ite x8 (
.l (.idx 2 true) [(n xs 3), (n y5 0)] fun x9 =>
.l (.idx 2 true) [(n xs 3), (n y5 0)] fun x10 =>
.l (.arith .add .i64) [(c 1 x10), (c 3 x0)] fun x11 =>
.l (.okcs [(1, false), (1, false)]) [(c 0 x9), x11] fun x12 =>
.ret (.agg [(c 0 x9), x11])) (
.l (.arith .sub .i64) [(n y5 0), (i 1)] fun x9 =>
.cont 0 [x9])) (
.l (.okcs [(1, false)]) [(n xs 1)] fun x7 =>
.ret (.agg [(n xs 1), (i 0)]))) (
.l (.okcs [(1, false)]) [(n xs 1)] fun x3 =>
.ret (.agg [(n xs 1), (i 0)])))
theorem k_ref07_reference : TxOk P F.ref07_reference 4 t_ref07_reference := txOk_of (H := {}) (plans := []) hm Tryz.func87 rfl rfl fun xs => by kernel_rfl
def t_ref07_nodes (xs : List PV) : T PV :=
.l (.okc 6 true) [(n xs 0)] fun x0 =>
.l (.cmp .eql .i64) [(c 0 x0), (i 8)] fun x1 =>
.ite x1 (
.call F.ref07_reference [x0, (n xs 1), (n xs 2), (n xs 3)] fun x2 =>
.l (.okc 2 true) [x2] fun x3 =>
.l (.idx 6 true) [(c 5 x0), (i 0)] fun x4 =>
.l (.lst 1 false) [] fun x5 =>
.l (.app 1 false 16) [x5, (n xs 2)] fun x6 =>
.l (.lst 1 false) [(c 2 x0)] fun x7 =>
.l (.app 1 false 16) [x6, x7] fun x8 =>
.l (.lst 2 true) [] fun x9 =>
.l (.app 2 true 16) [x9, (n xs 3)] fun x10 =>
.l (.lst 2 true) [x3] fun x11 =>
.l (.app 2 true 16) [x10, x11] fun x12 =>
.call F.ref07_nodes [x4, (n xs 1), x8, x12] fun x13 =>
.ret x13) (
.l (.cmp .eql .i64) [(c 0 x0), (i 9)] fun x2 =>
.ite x2 (
.ret (.sl [])) (
.l (.okcs [(1, false), (1, false), (1, false)]) [(c 0 x0), (c 1 x0), (c 4 x0)] fun x3 =>
.l (.arith .add .i64) [(n xs 1), (i 1)] fun x4 =>
.loop [(i 0), x4, (.sl []), (c 0 x0), (c 1 x0), (c 4 x0), (.sl [])] fun y5 =>
.l .len [(c 5 x0)] fun x6 =>
.l (.cmp .lss .i64) [(n y5 0), x6] fun x7 =>
.ite x7 (
.l (.idx 6 true) [(c 5 x0), (n y5 0)] fun x8 =>
.call F.ref07_reference [x8, (n y5 1), (n xs 2), (n xs 3)] fun x9 =>
.l (.lst 2 true) [x9] fun x10 =>
.l (.app 2 true 16) [(n y5 6), x10] fun x11 =>
.l (.idx 6 true) [(c 5 x0), (n y5 0)] fun x12 =>
.call F.ref07_nodes [x12, (n y5 1), (n xs 2), (n xs 3)] fun x13 =>
.l (.app 4 true 64) [(n y5 2), x13] fun x14 =>
.l (.idx 6 true) [(c 5 x0), (n y5 0)] fun x15 =>
.call F.ref07_Count [x15] fun x16 =>
.l (.arith .add .i64) [(n y5 1), x16] fun x17 =>
.l (.arith .add .i64) [(n y5 0), (i 1)] fun x18 =>
.cont 0 [x18, x17, x14, (n y5 3), (n y5 4), (n y5 5), x11]) (
.l (.lst 4 true) [(.agg [(n y5 3), (n y5 4), (n y5 5), (n y5 6)])] fun x8 =>
.l (.app 4 true 64) [x8, (n y5 2)] fun x9 =>
.ret x9)))
theorem k_ref07_nodes : TxOk P F.ref07_nodes 4 t_ref07_nodes := txOk_of (H := {}) (plans := []) hm Tryz.func88 rfl rfl fun xs => by kernel_rfl
def w_witness_maker_events_1 (xs : List PV) (x : PV) : T PV :=
.loop [(n xs 2), (n xs 3), x] fun y0 =>
.call F.head_Kind [(.agg [(n xs 0)]), (.agg [(n y0 0), (n y0 1)])] fun x1 =>
.l (.cmp .eql .i64) [x1, (i 3)] fun x2 =>
.ite x2 (
.ret (.tup [(.tup []), (n y0 2)])) (
.l (.cmp .eql .i64) [x1, (i 4)] fun x3 =>
.ite x3 (
.l (.idx 4 true) [(n xs 0), (n y0 0)] fun x4 =>
.l .len [(c 2 x4)] fun x5 =>
.l (.cmp .gtr .i64) [x5, (i 0)] fun x6 =>
.ite x6 (
.call F.witness_maker_chosen [(.agg [(n xs 0), (n xs 1)]), (.agg [(n y0 0), (n y0 1)])] fun x7 =>
.l (.idx 4 true) [(n xs 0), (n y0 0)] fun x8 =>
.l (.idx 1 false) [(c 2 x8), x7] fun x9 =>
.l (.okc 1 false) [x9] fun x10 =>
.call F.head_Next [(.agg [(n xs 0)]), (.agg [(n y0 0), (n y0 1)]), x7] fun x11 =>
.l (.tc 0) [x11] fun x12 =>
.l (.tc 1) [x11] fun x13 =>
.l (.okc 2 true) [x12] fun x14 =>
.yld [(.agg [(i 0), (.bool true), x10, (i 0), (.str ⟨#[]⟩), (i 0)])] (n y0 2) fun x15 s15 =>
.l .bnot [x15] fun x16 =>
.ite x16 (
.ret (.tup [(.tup []), s15])) (
.cont 0 [(c 0 x14), (c 1 x14), s15])) (
.call F.witness_maker_value [(.agg [(n xs 0), (n xs 1)]), (.agg [(n y0 0), (n y0 1)])] fun x7 =>
.l (.okc 3 true) [x7] fun x8 =>
.call F.head_Next [(.agg [(n xs 0)]), (.agg [(n y0 0), (n y0 1)]), (i 1)] fun x9 =>
.l (.tc 0) [x9] fun x10 =>
.l (.tc 1) [x9] fun x11 =>
.l (.okc 2 true) [x10] fun x12 =>
.yld [(.agg [(i 0), (.bool true), (.str ⟨#[]⟩), (c 0 x8), (c 1 x8), (c 2 x8)])] (n y0 2) fun x13 s13 =>
.l .bnot [x13] fun x14 =>
.ite x14 (
.ret (.tup [(.tup []), s13])) (
.cont 0 [(c 0 x12), (c 1 x12), s13]))) (
.l (.cmp .eql .i64) [x1, (i 6)] fun x4 =>
.l (.okcs [(1, false)]) [x4] fun x5 =>
.l (.idx 4 true) [(n xs 0), (n y0 0)] fun x6 =>
.l .len [(c 2 x6)] fun x7 =>
.l (.cmp .gtr .i64) [x7, (i 0)] fun x8 =>
.ite x8 (
.call F.witness_maker_chosen [(.agg [(n xs 0), (n xs 1)]), (.agg [(n y0 0), (n y0 1)])] fun x9 =>
.l (.idx 4 true) [(n xs 0), (n y0 0)] fun x10 =>
.l (.idx 1 false) [(c 2 x10), x9] fun x11 =>
.l (.okc 1 false) [x11] fun x12 =>
.call F.head_Next [(.agg [(n xs 0)]), (.agg [(n y0 0), (n y0 1)]), x9] fun x13 =>
.l (.tc 0) [x13] fun x14 =>
.l (.tc 1) [x13] fun x15 =>
.l (.okc 2 true) [x14] fun x16 =>
.yld [(.agg [(i 0), x4, x12, (i 0), (.str ⟨#[]⟩), (i 0)])] (n y0 2) fun x17 s17 =>
.l .bnot [x17] fun x18 =>
.ite x18 (
.ret (.tup [(.tup []), s17])) (
.cont 0 [(c 0 x16), (c 1 x16), s17])) (
.call F.witness_maker_value [(.agg [(n xs 0), (n xs 1)]), (.agg [(n y0 0), (n y0 1)])] fun x9 =>
.l (.okc 3 true) [x9] fun x10 =>
.call F.head_Next [(.agg [(n xs 0)]), (.agg [(n y0 0), (n y0 1)]), (i 1)] fun x11 =>
.l (.tc 0) [x11] fun x12 =>
.l (.tc 1) [x11] fun x13 =>
.l (.okc 2 true) [x12] fun x14 =>
.yld [(.agg [(i 0), x4, (.str ⟨#[]⟩), (c 0 x10), (c 1 x10), (c 2 x10)])] (n y0 2) fun x15 s15 =>
.l .bnot [x15] fun x16 =>
.ite x16 (
.ret (.tup [(.tup []), s15])) (
.cont 0 [(c 0 x14), (c 1 x14), s15]))))
theorem y_witness_maker_events_1 (X : Xt) (hX : XtC P X) : @TxOkXS { l := gl.l, x := X } P F.witness_maker_events_1 sg_witness_maker_events_1 w_witness_maker_events_1 := @txOkXS_of { l := gl.l, x := X } P (@XC.mk P { l := gl.l, x := X } hX) {} [] _ _ _ _ hm Tryz.func96 rfl fun xs x => by kernel_rfl
-- NOT TOLD: 96S (duologue/witness.maker).events$1: 1
def t_witness_maker_chosen (xs : List PV) : T PV :=
.l (.okc 2 true) [(n xs 0)] fun x0 =>
.l (.okc 2 true) [(n xs 1)] fun x1 =>
.l (.idx 4 true) [(c 0 x0), (c 0 x1)] fun x2 =>
.l .len [(c 2 x2)] fun x3 =>
.l (.arith .rem .i64) [(c 1 x0), x3] fun x4 =>
.l (.arith .add .i64) [x4, x3] fun x5 =>
.l (.arith .rem .i64) [x5, x3] fun x6 =>
.ret x6
theorem k_witness_maker_chosen : TxOk P F.witness_maker_chosen 2 t_witness_maker_chosen := txOk_of (H := {}) (plans := []) hm Tryz.func97 rfl rfl fun xs => by kernel_rfl
def t_witness_maker_value (xs : List PV) : T PV :=
.l (.okc 2 true) [(n xs 0)] fun x0 =>
.l (.okc 2 true) [(n xs 1)] fun x1 =>
.call F.head_Next [(sb 0 1 x0), x1, (i 0)] fun x2 =>
.l (.tc 0) [x2] fun x3 =>
.l (.tc 1) [x2] fun x4 =>
.l (.okc 2 true) [x3] fun x5 =>
.call F.head_Kind [(sb 0 1 x0), x5] fun x6 =>
.l (.cmp .eql .i64) [x6, (i 1)] fun x7 =>
.ite x7 (
.ret (.agg [(i 2), (.str ⟨#[]⟩), (i 0)])) (
.ret (.agg [(i 3), (.str ⟨#[]⟩), (i 1)]))
theorem k_witness_maker_value : TxOk P F.witness_maker_value 2 t_witness_maker_value := txOk_of (H := {}) (plans := []) hm Tryz.func98 rfl rfl fun xs => by kernel_rfl
def t_head_Next (xs : List PV) : T PV :=
.l (.okc 1 true) [(n xs 0)] fun x0 =>
.l (.okc 2 true) [(n xs 1)] fun x1 =>
.l (.idx 4 true) [(c 0 x0), (c 0 x1)] fun x2 =>
.l (.cmp .lss .i64) [(n xs 2), (i 0)] fun x3 =>
.ite x3 (
.ret (.tup [(.agg [(i 0), (i 0)]), (.bool false)])) (
.l .len [(c 3 x2)] fun x4 =>
.l (.cmp .geq .i64) [(n xs 2), x4] fun x5 =>
.ite x5 (
.ret (.tup [(.agg [(i 0), (i 0)]), (.bool false)])) (
.l (.idx 2 true) [(c 3 x2), (n xs 2)] fun x6 =>
.call F.head_Raise [x6, (c 1 x1)] fun x7 =>
.l (.okc 2 true) [x7] fun x8 =>
.ret (.tup [x8, (.bool true)])))
theorem k_head_Next : TxOk P F.head_Next 3 t_head_Next := txOk_of (H := {}) (plans := []) hm Tryz.func99 rfl rfl fun xs => by kernel_rfl
def t_ref14_closed (xs : List PV) : T PV :=
.l (.okc 6 true) [(n xs 0)] fun x0 =>
.l (.cmp .eql .i64) [(c 0 x0), (i 9)] fun x1 =>
.ite x1 (
.l .len [(n xs 1)] fun x2 =>
.l (.arith .sub .i64) [x2, (i 1)] fun x3 =>
.loop [x3] fun y4 =>
.l (.cmp .geq .i64) [(n y4 0), (i 0)] fun x5 =>
.ite x5 (
.l (.idx 7 true) [(n xs 1), (n y4 0)] fun x6 =>
.l (.scmp .eql) [(c 0 x6), (c 2 x0)] fun x7 =>
.ite x7 (
.l (.idx 7 true) [(n xs 1), (n y4 0)] fun x8 =>
.calls F.ref02_Raise sg_ref02_Raise [(sb 1 6 x8), (c 3 x0)] fun z9 =>
.ret (.agg [(n z9 0), (n z9 1), (n z9 2), (n z9 3), (n z9 4), (n z9 5)])) (
.l (.arith .sub .i64) [(n y4 0), (i 1)] fun x8 =>
.cont 0 [x8])) (
.l (.okc 6 true) [x0] fun x6 =>
.ret x6)) (
.calls F.ref02_Raise sg_ref02_Raise [x0, (i 0)] fun z2 =>
.l (.cmp .eql .i64) [(c 0 x0), (i 8)] fun x3 =>
.ite x3 (
.loop [(i 0), (.sl [])] fun y4 =>
.l .len [(n xs 1)] fun x5 =>
.l (.cmp .lss .i64) [(n y4 0), x5] fun x6 =>
.ite x6 (
.l (.idx 7 true) [(n xs 1), (n y4 0)] fun x7 =>
.l (.scmp .neq) [(c 0 x7), (c 2 x0)] fun x8 =>
.ite x8 (
.l (.idx 7 true) [(n xs 1), (n y4 0)] fun x9 =>
.l (.lst 7 true) [x9] fun x10 =>
.l (.app 7 true 104) [(n y4 1), x10] fun x11 =>
.l (.arith .add .i64) [(n y4 0), (i 1)] fun x12 =>
.cont 0 [x12, x11]) (
.l (.arith .add .i64) [(n y4 0), (i 1)] fun x9 =>
.cont 0 [x9, (n y4 1)])) (
.loop [(i 0), (n z2 5)] fun y7 =>
.l .len [(c 5 x0)] fun x8 =>
.l (.cmp .lss .i64) [(n y7 0), x8] fun x9 =>
.ite x9 (
.l (.idx 6 true) [(c 5 x0), (n y7 0)] fun x10 =>
.call F.ref14_closed [x10, (n y4 1)] fun x11 =>
.l (.idx 6 true) [(n y7 1), (n y7 0)] fun x12 =>
.l (.upd 6 true) [(n y7 1), (n y7 0), x11] fun x13 =>
.l (.arith .add .i64) [(n y7 0), (i 1)] fun x14 =>
.cont 1 [x14, x13]) (
.ret (.agg [(n z2 0), (n z2 1), (n z2 2), (n z2 3), (n z2 4), (n y7 1)])))) (
.loop [(i 0), (n z2 5)] fun y4 =>
.l .len [(c 5 x0)] fun x5 =>
.l (.cmp .lss .i64) [(n y4 0), x5] fun x6 =>
.ite x6 (
.l (.idx 6 true) [(c 5 x0), (n y4 0)] fun x7 =>
.call F.ref14_closed [x7, (n xs 1)] fun x8 =>
.l (.idx 6 true) [(n y4 1), (n y4 0)] fun x9 =>
.l (.upd 6 true) [(n y4 1), (n y4 0), x8] fun x10 =>
.l (.arith .add .i64) [(n y4 0), (i 1)] fun x11 =>
.cont 0 [x11, x10]) (
.ret (.agg [(n z2 0), (n z2 1), (n z2 2), (n z2 3), (n z2 4), (n y4 1)]))))
theorem k_ref14_closed : TxOk P F.ref14_closed 2 t_ref14_closed := txOk_of (H := { wr := [], ro := [], nl := [], fz := [], da := [], sigs := [(17, sg_ref02_Raise)] }) (plans := []) hm Tryz.func101 rfl rfl fun xs => by kernel_rfl
def t_strconv_FormatInt (xs : List PV) : T PV :=
.call F.internal_strconv_FormatInt [(n xs 0), (n xs 1)] fun x0 =>
.ret x0
theorem k_strconv_FormatInt : TxOk P F.strconv_FormatInt 2 t_strconv_FormatInt := txOk_of (H := {}) (plans := []) hm Tryz.func102 rfl rfl fun xs => by kernel_rfl
def t_strconv_FormatBool (xs : List PV) : T PV :=
.call F.internal_strconv_FormatBool [(n xs 0)] fun x0 =>
.ret x0
theorem k_strconv_FormatBool : TxOk P F.strconv_FormatBool 1 t_strconv_FormatBool := txOk_of (H := {}) (plans := []) hm Tryz.func103 rfl rfl fun xs => by kernel_rfl
-- NOT TOLD: 104 (*duologue/graph.builder).build: 1
def u_graph_builder_build (xs : List PV) : T PV :=
.l (.okc 6 true) [(n xs 0)] fun x0 =>
.call F.graph_strip [x0] fun x1 =>
.l (.tc 0) [x1] fun x2 =>
.l (.tc 1) [x1] fun x3 =>
.l (.okc 6 true) [x2] fun x4 =>
.l (.cmp .eql .i64) [(c 0 x4), (i 9)] fun x5 =>
.ite x5 (
.l (.mget false [.s] (.agg [(i 0), (i 0)])) [(n xs 2), (c 2 x4)] fun x6 =>
.l (.okc 2 true) [x6] fun x7 =>
.l (.arith .add .i64) [(c 1 x7), (c 3 x4)] fun x8 =>
.l (.okc 1 false) [x8] fun x9 =>
.ret (.tup [(.agg [(c 0 x7), x9]), (n xs 1), (n xs 2)])) (
.l .len [(n xs 1)] fun x6 =>
.call F.slices_Clone_string_string [(c 4 x4)] fun x7 =>
.l (.okcs [(1, false), (1, false), (1, false)]) [(c 0 x4), (c 1 x4), x7] fun x8 =>
.l (.lst 4 true) [(.agg [(c 0 x4), (c 1 x4), x7, (.sl [])])] fun x9 =>
.l (.app 4 true 64) [(n xs 1), x9] fun x10 =>
.l .len [x3] fun x11 =>
.l (.cmp .gtr .i64) [x11, (i 0)] fun x12 =>
.ite x12 (
.calls F.maps_Clone_graph_scope_string_graph_Ref sg_maps_Clone_graph_scope_string_graph_Ref [(n xs 2)] fun z13 =>
.l .len [x3] fun x14 =>
.loop [(i 0), (n z13 1)] fun y15 =>
.l (.cmp .lss .i64) [(n y15 0), x14] fun x16 =>
.ite x16 (
.l (.idx 1 false) [x3, (n y15 0)] fun x17 =>
.l (.okcs [(1, false)]) [x6] fun x18 =>
.l (.mset false [.s]) [(n y15 1), x17, (.agg [x6, (i 0)])] fun x19 =>
.l (.arith .add .i64) [(n y15 0), (i 1)] fun x20 =>
.cont 0 [x20, x19]) (
.l .len [(c 5 x4)] fun x17 =>
.loop [(i 0), (.sl []), x10, (n y15 1)] fun y18 =>
.l (.cmp .lss .i64) [(n y18 0), x17] fun x19 =>
.ite x19 (
.l (.idx 6 true) [(c 5 x4), (n y18 0)] fun x20 =>
.l (.okc 6 true) [x20] fun x21 =>
.calls F.graph_builder_build sg_graph_builder_build [x21, (n y18 2), (n y18 3)] fun z22 =>
.l (.lst 2 true) [(n z22 0)] fun x23 =>
.l (.app 2 true 16) [(n y18 1), x23] fun x24 =>
.l (.arith .add .i64) [(n y18 0), (i 1)] fun x25 =>
.cont 1 [x25, x24, (n z22 1), (n z22 2)]) (
.l (.idx 4 true) [(n y18 2), x6] fun x20 =>
.l (.updF 4 3 1 false) [(n y18 2), x6, (n y18 1)] fun x21 =>
.l (.okcs [(1, false)]) [x6] fun x22 =>
.ret (.tup [(.agg [x6, (i 0)]), x21, (n z13 0)])))) (
.l .len [(c 5 x4)] fun x13 =>
.loop [(i 0), (.sl []), x10, (n xs 2)] fun y14 =>
.l (.cmp .lss .i64) [(n y14 0), x13] fun x15 =>
.ite x15 (
.l (.idx 6 true) [(c 5 x4), (n y14 0)] fun x16 =>
.l (.okc 6 true) [x16] fun x17 =>
.calls F.graph_builder_build sg_graph_builder_build [x17, (n y14 2), (n y14 3)] fun z18 =>
.l (.lst 2 true) [(n z18 0)] fun x19 =>
.l (.app 2 true 16) [(n y14 1), x19] fun x20 =>
.l (.arith .add .i64) [(n y14 0), (i 1)] fun x21 =>
.cont 0 [x21, x20, (n z18 1), (n z18 2)]) (
.l (.idx 4 true) [(n y14 2), x6] fun x16 =>
.l (.updF 4 3 1 false) [(n y14 2), x6, (n y14 1)] fun x17 =>
.l (.okcs [(1, false)]) [x6] fun x18 =>
.ret (.tup [(.agg [x6, (i 0)]), x17, (n y14 3)]))))
theorem m_graph_builder_build : TxOkS P F.graph_builder_build sg_graph_builder_build u_graph_builder_build := txOkS_of (H := { wr := [52, 53], ro := [], nl := [], fz := [], da := [], sigs := [(104, sg_graph_builder_build), (167, sg_maps_Clone_graph_scope_string_graph_Ref)] }) (plans := []) hm Tryz.func104 rfl fun xs => by kernel_rfl
def t_dual_mapped_graph_Node_graph_Node (xs : List PV) : T PV :=
.l .len [(n xs 0)] fun x0 =>
.loop [(i 0), (.sl [])] fun y1 =>
.l (.cmp .lss .i64) [(n y1 0), x0] fun x2 =>
.ite x2 (
.l (.idx 4 true) [(n xs 0), (n y1 0)] fun x3 =>
.l (.okc 4 true) [x3] fun x4 =>
.callv (n xs 1) [(n y1 0), x4] fun x5 =>
.l (.lst 4 true) [x5] fun x6 =>
.l (.app 4 true 64) [(n y1 1), x6] fun x7 =>
.l (.arith .add .i64) [(n y1 0), (i 1)] fun x8 =>
.cont 0 [x8, x7]) (
.ret (n y1 1))
theorem k_dual_mapped_graph_Node_graph_Node : TxOk P F.dual_mapped_graph_Node_graph_Node 2 t_dual_mapped_graph_Node_graph_Node := txOk_of (H := {}) (plans := []) hm Tryz.func105 rfl rfl fun xs => by kernel_rfl
def u_dual_mapped_graph_Node_graph_Node (xs : List PV) : T PV :=
.l .len [(n xs 0)] fun x0 =>
.loop [(i 0), (.sl [])] fun y1 =>
.l (.cmp .lss .i64) [(n y1 0), x0] fun x2 =>
.ite x2 (
.l (.idx 4 true) [(n xs 0), (n y1 0)] fun x3 =>
.l (.okc 4 true) [x3] fun x4 =>
.callv (n xs 1) [(n y1 0), x4] fun x5 =>
.l (.lst 4 true) [x5] fun x6 =>
.l (.app 4 true 64) [(n y1 1), x6] fun x7 =>
.l (.arith .add .i64) [(n y1 0), (i 1)] fun x8 =>
.cont 0 [x8, x7]) (
.ret (.tup [(n y1 1)]))
theorem m_dual_mapped_graph_Node_graph_Node : TxOkS P F.dual_mapped_graph_Node_graph_Node sg_dual_mapped_graph_Node_graph_Node u_dual_mapped_graph_Node_graph_Node := txOkS_of (H := {}) (plans := []) hm Tryz.func105 rfl fun xs => by kernel_rfl
def t_dual_Close_1 (xs : List PV) : T PV :=
.l (.okc 4 true) [(n xs 1)] fun x0 =>
.call F.slices_Clone_string_string [(c 2 x0)] fun x1 =>
.call F.slices_Clone_graph_Ref_graph_Ref [(c 3 x0)] fun x2 =>
.l (.okc 1 false) [x1] fun x3 =>
.l (.okc 1 false) [x2] fun x4 =>
.ret (.agg [(c 0 x0), (c 1 x0), x3, x4])
theorem k_dual_Close_1 : TxOk P F.dual_Close_1 2 t_dual_Close_1 := txOk_of (H := {}) (plans := []) hm Tryz.func106 rfl rfl fun xs => by kernel_rfl
def t_slices_Clone_string_string (xs : List PV) : T PV :=
.nilq (n xs 0) (
.ret (.sl [])) (
.l (.lst 1 false) [] fun x0 =>
.l (.app 1 false 16) [x0, (n xs 0)] fun x1 =>
.ret x1)
theorem k_slices_Clone_string_string : TxOk P F.slices_Clone_string_string 1 t_slices_Clone_string_string := txOk_of (H := { wr := [0, 1, 2, 3, 4, 5, 6, 7, 8, 9, 10, 11, 12, 13, 14, 15, 16, 17, 18, 19, 20, 21, 22, 23, 24, 25, 26, 27, 28, 29, 30, 31, 32, 33, 34, 35, 36, 37, 38, 39], ro := [], nl := [], fz := [], da := [], sigs := [] }) (plans := []) hm Tryz.func107 rfl rfl fun xs => by kernel_rfl
def u_slices_Clone_string_string (xs : List PV) : T PV :=
.nilq (n xs 0) (
.ret (.tup [(.sl [])])) (
.l (.lst 1 false) [] fun x0 =>
.l (.app 1 false 16) [x0, (n xs 0)] fun x1 =>
.ret (.tup [x1]))
theorem m_slices_Clone_string_string : TxOkS P F.slices_Clone_string_string sg_slices_Clone_string_string u_slices_Clone_string_string := txOkS_of (H := { wr := [0, 1, 2, 3, 4, 5, 6, 7, 8, 9, 10, 11, 12, 13, 14, 15, 16, 17, 18, 19, 20, 21, 22, 23, 24, 25, 26, 27, 28, 29, 30, 31, 32, 33, 34, 35, 36, 37, 38, 39], ro := [], nl := [], fz := [], da := [], sigs := [] }) (plans := []) hm Tryz.func107 rfl fun xs => by kernel_rfl
def t_slices_Clone_graph_Ref_graph_Ref (xs : List PV) : T PV :=
.nilq (n xs 0) (
.ret (.sl [])) (
.l (.lst 2 true) [] fun x0 =>
.l (.app 2 true 16) [x0, (n xs 0)] fun x1 =>
.ret x1)
theorem k_slices_Clone_graph_Ref_graph_Ref : TxOk P F.slices_Clone_graph_Ref_graph_Ref 1 t_slices_Clone_graph_Ref_graph_Ref := txOk_of (H := { wr := [0, 1, 2, 3, 4, 5, 6, 7, 8, 9, 10, 11, 12, 13, 14, 15, 16, 17, 18, 19, 20, 21, 22, 23, 24, 25, 26, 27, 28, 29, 30, 31, 32, 33, 34, 35, 36, 37, 38, 39], ro := [], nl := [], fz := [], da := [], sigs := [] }) (plans := []) hm Tryz.func108 rfl rfl fun xs => by kernel_rfl
def u_slices_Clone_graph_Ref_graph_Ref (xs : List PV) : T PV :=
.nilq (n xs 0) (
.ret (.tup [(.sl [])])) (
.l (.lst 2 true) [] fun x0 =>
.l (.app 2 true 16) [x0, (n xs 0)] fun x1 =>
.ret (.tup [x1]))
theorem m_slices_Clone_graph_Ref_graph_Ref : TxOkS P F.slices_Clone_graph_Ref_graph_Ref sg_slices_Clone_graph_Ref_graph_Ref u_slices_Clone_graph_Ref_graph_Ref := txOkS_of (H := { wr := [0, 1, 2, 3, 4, 5, 6, 7, 8, 9, 10, 11, 12, 13, 14, 15, 16, 17, 18, 19, 20, 21, 22, 23, 24, 25, 26, 27, 28, 29, 30, 31, 32, 33, 34, 35, 36, 37, 38, 39], ro := [], nl := [], fz := [], da := [], sigs := [] }) (plans := []) hm Tryz.func108 rfl fun xs => by kernel_rfl
def t_dual_Close_2 (xs : List PV) : T PV :=
.l (.okc 4 true) [(n xs 1)] fun x0 =>
.call F.dual_mapped_graph_Ref_graph_Ref [(c 3 x0), (.fn F.dual_Close_2_1 [] [(.box x0), (n xs 2)])] fun x1 =>
.call F.dual_Kind [(c 0 x0)] fun x2 =>
.call F.slices_Clone_string_string [(c 2 x0)] fun x3 =>
.l (.okcs [(1, false), (1, false), (1, false), (1, false)]) [x2, (c 1 x0), x3, x1] fun x4 =>
.ret (.agg [x2, (c 1 x0), x3, x1])
theorem k_dual_Close_2 : TxOk P F.dual_Close_2 3 t_dual_Close_2 := txOk_of (H := {}) (plans := []) hm Tryz.func109 rfl rfl fun xs => by kernel_rfl
def t_dual_mapped_graph_Ref_graph_Ref (xs : List PV) : T PV :=
.l .len [(n xs 0)] fun x0 =>
.loop [(i 0), (.sl [])] fun y1 =>
.l (.cmp .lss .i64) [(n y1 0), x0] fun x2 =>
.ite x2 (
.l (.idx 2 true) [(n xs 0), (n y1 0)] fun x3 =>
.l (.okc 2 true) [x3] fun x4 =>
.callv (n xs 1) [(n y1 0), x4] fun x5 =>
.l (.lst 2 true) [x5] fun x6 =>
.l (.app 2 true 16) [(n y1 1), x6] fun x7 =>
.l (.arith .add .i64) [(n y1 0), (i 1)] fun x8 =>
.cont 0 [x8, x7]) (
.ret (n y1 1))
theorem k_dual_mapped_graph_Ref_graph_Ref : TxOk P F.dual_mapped_graph_Ref_graph_Ref 2 t_dual_mapped_graph_Ref_graph_Ref := txOk_of (H := {}) (plans := []) hm Tryz.func110 rfl rfl fun xs => by kernel_rfl
def t_dual_Close_2_1 (xs : List PV) : T PV :=
.l (.okc 2 true) [(n xs 1)] fun x0 =>
.l (.unbox 4 true) [(n xs 2)] fun x1 =>
.call F.dual_rest [(c 0 x1), (n xs 0)] fun x2 =>
.ite x2 (
.l (.unbox 1 false) [(n xs 3)] fun x3 =>
.l (.arith .add .i64) [(c 0 x0), x3] fun x4 =>
.l (.okc 1 false) [x4] fun x5 =>
.ret (.agg [x5, (c 1 x0)])) (
.l (.okc 2 true) [x0] fun x3 =>
.ret x3)
theorem k_dual_Close_2_1 : TxOk P F.dual_Close_2_1 4 t_dual_Close_2_1 := txOk_of (H := {}) (plans := []) hm Tryz.func111 rfl rfl fun xs => by kernel_rfl
def t_dual_rest (xs : List PV) : T PV :=
.l (.cmp .gtr .i64) [(n xs 1), (i 0)] fun x0 =>
.ite x0 (
.ret (.bool true)) (
.l (.cmp .eql .i64) [(n xs 0), (i 6)] fun x1 =>
.ite x1 (
.ret (.bool true)) (
.l (.cmp .eql .i64) [(n xs 0), (i 7)] fun x2 =>
.ret x2))
theorem k_dual_rest : TxOk P F.dual_rest 2 t_dual_rest := txOk_of (H := {}) (plans := []) hm Tryz.func112 rfl rfl fun xs => by kernel_rfl
def t_dual_Kind (xs : List PV) : T PV :=
.l (.cmp .lss .i64) [(n xs 0), (i 1)] fun x0 =>
.ite x0 (
.ret (n xs 0)) (
.l (.cmp .geq .i64) [(n xs 0), (i 8)] fun x1 =>
.ite x1 (
.ret (n xs 0)) (
.l (.aidx 8 1 false) [(.agg [(i 0), (i 1), (i 2), (i 3), (i 5), (i 4), (i 7), (i 6)]), (n xs 0)] fun x2 =>
.ret x2))
theorem k_dual_Kind : TxOk P F.dual_Kind 1 t_dual_Kind := txOk_of (H := {}) (plans := []) hm Tryz.func113 rfl rfl fun xs => by kernel_rfl
-- NOT TOLD: 114 slices.insertionSortOrdered[int]: 1
def u_slices_insertionSortOrdered_int (xs : List PV) : T PV :=
.l (.arith .add .i64) [(n xs 0), (i 1)] fun x0 =>
.loop [x0, (n xs 2)] fun y1 =>
.l (.cmp .lss .i64) [(n y1 0), (n xs 1)] fun x2 =>
.ite x2 (
.loop [(n y1 0), (n y1 1)] fun y3 =>
.l (.cmp .gtr .i64) [(n y3 0), (n xs 0)] fun x4 =>
.ite x4 (
.l (.idx 1 false) [(n y3 1), (n y3 0)] fun x5 =>
.l (.idx 1 false) [(n y3 1), (n y3 0)] fun x6 =>
.l (.arith .sub .i64) [(n y3 0), (i 1)] fun x7 =>
.l (.idx 1 false) [(n y3 1), x7] fun x8 =>
.l (.idx 1 false) [(n y3 1), x7] fun x9 =>
.call F.cmp_Less_int [x6, x9] fun x10 =>
.ite x10 (
.l (.arith .sub .i64) [(n y3 0), (i 1)] fun x11 =>
.l (.arith .sub .i64) [(n y3 0), (i 1)] fun x12 =>
.l (.idx 1 false) [(n y3 1), x12] fun x13 =>
.l (.idx 1 false) [(n y3 1), x12] fun x14 =>
.l (.idx 1 false) [(n y3 1), (n y3 0)] fun x15 =>
.l (.idx 1 false) [(n y3 1), (n y3 0)] fun x16 =>
.l (.idx 1 false) [(n y3 1), (n y3 0)] fun x17 =>
.l (.upd 1 false) [(n y3 1), (n y3 0), x14] fun x18 =>
.l (.idx 1 false) [x18, x11] fun x19 =>
.l (.upd 1 false) [x18, x11, x16] fun x20 =>
.l (.arith .sub .i64) [(n y3 0), (i 1)] fun x21 =>
.cont 1 [x21, x20]) (
.l (.arith .add .i64) [(n y1 0), (i 1)] fun x11 =>
.cont 0 [x11, (n y3 1)])) (
.l (.arith .add .i64) [(n y1 0), (i 1)] fun x5 =>
.cont 0 [x5, (n y3 1)])) (
.ret (.tup [(.tup []), (n y1 1)]))
theorem m_slices_insertionSortOrdered_int : TxOkS P F.slices_insertionSortOrdered_int sg_slices_insertionSortOrdered_int u_slices_insertionSortOrdered_int := txOkS_of (H := { wr := [], ro := [], nl := [], fz := [], da := [], sigs := [(28, sg_slices_Sort_int_int), (63, sg_graph_set_add), (64, sg_slices_pdqsortOrdered_int_Nil), (114, sg_slices_insertionSortOrdered_int), (139, sg_slices_Sort_string_string), (190, sg_slices_pdqsortOrdered_string_Nil), (233, sg_slices_insertionSortOrdered_string)] }) (plans := []) hm Tryz.func114 rfl fun xs => by kernel_rfl
-- NOT TOLD: 115 slices.heapSortOrdered[int]: 1
-- NOT TOLD: 116 slices.breakPatternsOrdered[int]: 2
def t_cmp_Less_int (xs : List PV) : T PV :=
.call F.cmp_isNaN_int [(n xs 0)] fun x0 =>
.ite x0 (
.call F.cmp_isNaN_int [(n xs 1)] fun x1 =>
.l .bnot [x1] fun x2 =>
.ite x2 (
.ret (.bool true)) (
.l (.cmp .lss .i64) [(n xs 0), (n xs 1)] fun x3 =>
.ret x3)) (
.l (.cmp .lss .i64) [(n xs 0), (n xs 1)] fun x1 =>
.ret x1)
theorem k_cmp_Less_int : TxOk P F.cmp_Less_int 2 t_cmp_Less_int := txOk_of (H := {}) (plans := []) hm Tryz.func120 rfl rfl fun xs => by kernel_rfl
-- NOT TOLD: 121 slices.partitionEqualOrdered[int]: 1
-- NOT TOLD: 122 slices.partitionOrdered[int]: 1
def t_math_bits_Len64 (xs : List PV) : T PV :=
.l (.cmp .geq .u64) [(n xs 0), (.int .u64 (4294967296))] fun x0 =>
.ite x0 (
.l (.arith .shr .u64) [(n xs 0), (.int .u64 (32))] fun x1 =>
.l (.cmp .geq .u64) [x1, (.int .u64 (65536))] fun x2 =>
.ite x2 (
.l (.arith .shr .u64) [x1, (.int .u64 (16))] fun x3 =>
.l (.arith .add .i64) [(i 32), (i 16)] fun x4 =>
.l (.cmp .geq .u64) [x3, (.int .u64 (256))] fun x5 =>
.ite x5 (
.l (.arith .shr .u64) [x3, (.int .u64 (8))] fun x6 =>
.l (.arith .add .i64) [x4, (i 8)] fun x7 =>
.l (.conv .u8) [x6] fun x8 =>
.l .sidx [(.str ⟨#[0, 1, 2, 2, 3, 3, 3, 3, 4, 4, 4, 4, 4, 4, 4, 4, 5, 5, 5, 5, 5, 5, 5, 5, 5, 5, 5, 5, 5, 5, 5, 5, 6, 6, 6, 6, 6, 6, 6, 6, 6, 6, 6, 6, 6, 6, 6, 6, 6, 6, 6, 6, 6, 6, 6, 6, 6, 6, 6, 6, 6, 6, 6, 6, 7, 7, 7, 7, 7, 7, 7, 7, 7, 7, 7, 7, 7, 7, 7, 7, 7, 7, 7, 7, 7, 7, 7, 7, 7, 7, 7, 7, 7, 7, 7, 7, 7, 7, 7, 7, 7, 7, 7, 7, 7, 7, 7, 7, 7, 7, 7, 7, 7, 7, 7, 7, 7, 7, 7, 7, 7, 7, 7, 7, 7, 7, 7, 7, 8, 8, 8, 8, 8, 8, 8, 8, 8, 8, 8, 8, 8, 8, 8, 8, 8, 8, 8, 8, 8, 8, 8, 8, 8, 8, 8, 8, 8, 8, 8, 8, 8, 8, 8, 8, 8, 8, 8, 8, 8, 8, 8, 8, 8, 8, 8, 8, 8, 8, 8, 8, 8, 8, 8, 8, 8, 8, 8, 8, 8, 8, 8, 8, 8, 8, 8, 8, 8, 8, 8, 8, 8, 8, 8, 8, 8, 8, 8, 8, 8, 8, 8, 8, 8, 8, 8, 8, 8, 8, 8, 8, 8, 8, 8, 8, 8, 8, 8, 8, 8, 8, 8, 8, 8, 8, 8, 8, 8, 8, 8, 8, 8, 8, 8, 8, 8, 8, 8, 8, 8, 8, 8, 8, 8, 8, 8, 8]⟩), x8] fun x9 =>
.l (.conv .i64) [x9] fun x10 =>
.l (.arith .add .i64) [x7, x10] fun x11 =>
.ret x11) (
.l (.conv .u8) [x3] fun x6 =>
.l .sidx [(.str ⟨#[0, 1, 2, 2, 3, 3, 3, 3, 4, 4, 4, 4, 4, 4, 4, 4, 5, 5, 5, 5, 5, 5, 5, 5, 5, 5, 5, 5, 5, 5, 5, 5, 6, 6, 6, 6, 6, 6, 6, 6, 6, 6, 6, 6, 6, 6, 6, 6, 6, 6, 6, 6, 6, 6, 6, 6, 6, 6, 6, 6, 6, 6, 6, 6, 7, 7, 7, 7, 7, 7, 7, 7, 7, 7, 7, 7, 7, 7, 7, 7, 7, 7, 7, 7, 7, 7, 7, 7, 7, 7, 7, 7, 7, 7, 7, 7, 7, 7, 7, 7, 7, 7, 7, 7, 7, 7, 7, 7, 7, 7, 7, 7, 7, 7, 7, 7, 7, 7, 7, 7, 7, 7, 7, 7, 7, 7, 7, 7, 8, 8, 8, 8, 8, 8, 8, 8, 8, 8, 8, 8, 8, 8, 8, 8, 8, 8, 8, 8, 8, 8, 8, 8, 8, 8, 8, 8, 8, 8, 8, 8, 8, 8, 8, 8, 8, 8, 8, 8, 8, 8, 8, 8, 8, 8, 8, 8, 8, 8, 8, 8, 8, 8, 8, 8, 8, 8, 8, 8, 8, 8, 8, 8, 8, 8, 8, 8, 8, 8, 8, 8, 8, 8, 8, 8, 8, 8, 8, 8, 8, 8, 8, 8, 8, 8, 8, 8, 8, 8, 8, 8, 8, 8, 8, 8, 8, 8, 8, 8, 8, 8, 8, 8, 8, 8, 8, 8, 8, 8, 8, 8, 8, 8, 8, 8, 8, 8, 8, 8, 8, 8, 8, 8, 8, 8, 8, 8]⟩), x6] fun x7 =>
.l (.conv .i64) [x7] fun x8 =>
.l (.arith .add .i64) [x4, x8] fun x9 =>
.ret x9)) (
.l (.cmp .geq .u64) [x1, (.int .u64 (256))] fun x3 =>
.ite x3 (
.l (.arith .shr .u64) [x1, (.int .u64 (8))] fun x4 =>
.l (.arith .add .i64) [(i 32), (i 8)] fun x5 =>
.l (.conv .u8) [x4] fun x6 =>
.l .sidx [(.str ⟨#[0, 1, 2, 2, 3, 3, 3, 3, 4, 4, 4, 4, 4, 4, 4, 4, 5, 5, 5, 5, 5, 5, 5, 5, 5, 5, 5, 5, 5, 5, 5, 5, 6, 6, 6, 6, 6, 6, 6, 6, 6, 6, 6, 6, 6, 6, 6, 6, 6, 6, 6, 6, 6, 6, 6, 6, 6, 6, 6, 6, 6, 6, 6, 6, 7, 7, 7, 7, 7, 7, 7, 7, 7, 7, 7, 7, 7, 7, 7, 7, 7, 7, 7, 7, 7, 7, 7, 7, 7, 7, 7, 7, 7, 7, 7, 7, 7, 7, 7, 7, 7, 7, 7, 7, 7, 7, 7, 7, 7, 7, 7, 7, 7, 7, 7, 7, 7, 7, 7, 7, 7, 7, 7, 7, 7, 7, 7, 7, 8, 8, 8, 8, 8, 8, 8, 8, 8, 8, 8, 8, 8, 8, 8, 8, 8, 8, 8, 8, 8, 8, 8, 8, 8, 8, 8, 8, 8, 8, 8, 8, 8, 8, 8, 8, 8, 8, 8, 8, 8, 8, 8, 8, 8, 8, 8, 8, 8, 8, 8, 8, 8, 8, 8, 8, 8, 8, 8, 8, 8, 8, 8, 8, 8, 8, 8, 8, 8, 8, 8, 8, 8, 8, 8, 8, 8, 8, 8, 8, 8, 8, 8, 8, 8, 8, 8, 8, 8, 8, 8, 8, 8, 8, 8, 8, 8, 8, 8, 8, 8, 8, 8, 8, 8, 8, 8, 8, 8, 8, 8, 8, 8, 8, 8, 8, 8, 8, 8, 8, 8, 8, 8, 8, 8, 8, 8, 8]⟩), x6] fun x7 =>
.l (.conv .i64) [x7] fun x8 =>
.l (.arith .add .i64) [x5, x8] fun x9 =>
.ret x9) (
.l (.conv .u8) [x1] fun x4 =>
.l .sidx [(.str ⟨#[0, 1, 2, 2, 3, 3, 3, 3, 4, 4, 4, 4, 4, 4, 4, 4, 5, 5, 5, 5, 5, 5, 5, 5, 5, 5, 5, 5, 5, 5, 5, 5, 6, 6, 6, 6, 6, 6, 6, 6, 6, 6, 6, 6, 6, 6, 6, 6, 6, 6, 6, 6, 6, 6, 6, 6, 6, 6, 6, 6, 6, 6, 6, 6, 7, 7, 7, 7, 7, 7, 7, 7, 7, 7, 7, 7, 7, 7, 7, 7, 7, 7, 7, 7, 7, 7, 7, 7, 7, 7, 7, 7, 7, 7, 7, 7, 7, 7, 7, 7, 7, 7, 7, 7, 7, 7, 7, 7, 7, 7, 7, 7, 7, 7, 7, 7, 7, 7, 7, 7, 7, 7, 7, 7, 7, 7, 7, 7, 8, 8, 8, 8, 8, 8, 8, 8, 8, 8, 8, 8, 8, 8, 8, 8, 8, 8, 8, 8, 8, 8, 8, 8, 8, 8, 8, 8, 8, 8, 8, 8, 8, 8, 8, 8, 8, 8, 8, 8, 8, 8, 8, 8, 8, 8, 8, 8, 8, 8, 8, 8, 8, 8, 8, 8, 8, 8, 8, 8, 8, 8, 8, 8, 8, 8, 8, 8, 8, 8, 8, 8, 8, 8, 8, 8, 8, 8, 8, 8, 8, 8, 8, 8, 8, 8, 8, 8, 8, 8, 8, 8, 8, 8, 8, 8, 8, 8, 8, 8, 8, 8, 8, 8, 8, 8, 8, 8, 8, 8, 8, 8, 8, 8, 8, 8, 8, 8, 8, 8, 8, 8, 8, 8, 8, 8, 8, 8]⟩), x4] fun x5 =>
.l (.conv .i64) [x5] fun x6 =>
.l (.arith .add .i64) [(i 32), x6] fun x7 =>
.ret x7))) (
.l (.cmp .geq .u64) [(n xs 0), (.int .u64 (65536))] fun x1 =>
.ite x1 (
.l (.arith .shr .u64) [(n xs 0), (.int .u64 (16))] fun x2 =>
.l (.arith .add .i64) [(i 0), (i 16)] fun x3 =>
.l (.cmp .geq .u64) [x2, (.int .u64 (256))] fun x4 =>
.ite x4 (
.l (.arith .shr .u64) [x2, (.int .u64 (8))] fun x5 =>
.l (.arith .add .i64) [x3, (i 8)] fun x6 =>
.l (.conv .u8) [x5] fun x7 =>
.l .sidx [(.str ⟨#[0, 1, 2, 2, 3, 3, 3, 3, 4, 4, 4, 4, 4, 4, 4, 4, 5, 5, 5, 5, 5, 5, 5, 5, 5, 5, 5, 5, 5, 5, 5, 5, 6, 6, 6, 6, 6, 6, 6, 6, 6, 6, 6, 6, 6, 6, 6, 6, 6, 6, 6, 6, 6, 6, 6, 6, 6, 6, 6, 6, 6, 6, 6, 6, 7, 7, 7, 7, 7, 7, 7, 7, 7, 7, 7, 7, 7, 7, 7, 7, 7, 7, 7, 7, 7, 7, 7, 7, 7, 7, 7, 7, 7, 7, 7, 7, 7, 7, 7, 7, 7, 7, 7, 7, 7, 7, 7, 7, 7, 7, 7, 7, 7, 7, 7, 7, 7, 7, 7, 7, 7, 7, 7, 7, 7, 7, 7, 7, 8, 8, 8, 8, 8, 8, 8, 8, 8, 8, 8, 8, 8, 8, 8, 8, 8, 8, 8, 8, 8, 8, 8, 8, 8, 8, 8, 8, 8, 8, 8, 8, 8, 8, 8, 8, 8, 8, 8, 8, 8, 8, 8, 8, 8, 8, 8, 8, 8, 8, 8, 8, 8, 8, 8, 8, 8, 8, 8, 8, 8, 8, 8, 8, 8, 8, 8, 8, 8, 8, 8, 8, 8, 8, 8, 8, 8, 8, 8, 8, 8, 8, 8, 8, 8, 8, 8, 8, 8, 8, 8, 8, 8, 8, 8, 8, 8, 8, 8, 8, 8, 8, 8, 8, 8, 8, 8, 8, 8, 8, 8, 8, 8, 8, 8, 8, 8, 8, 8, 8, 8, 8, 8, 8, 8, 8, 8, 8]⟩), x7] fun x8 =>
.l (.conv .i64) [x8] fun x9 =>
.l (.arith .add .i64) [x6, x9] fun x10 =>
.ret x10) (
.l (.conv .u8) [x2] fun x5 =>
.l .sidx [(.str ⟨#[0, 1, 2, 2, 3, 3, 3, 3, 4, 4, 4, 4, 4, 4, 4, 4, 5, 5, 5, 5, 5, 5, 5, 5, 5, 5, 5, 5, 5, 5, 5, 5, 6, 6, 6, 6, 6, 6, 6, 6, 6, 6, 6, 6, 6, 6, 6, 6, 6, 6, 6, 6, 6, 6, 6, 6, 6, 6, 6, 6, 6, 6, 6, 6, 7, 7, 7, 7, 7, 7, 7, 7, 7, 7, 7, 7, 7, 7, 7, 7, 7, 7, 7, 7, 7, 7, 7, 7, 7, 7, 7, 7, 7, 7, 7, 7, 7, 7, 7, 7, 7, 7, 7, 7, 7, 7, 7, 7, 7, 7, 7, 7, 7, 7, 7, 7, 7, 7, 7, 7, 7, 7, 7, 7, 7, 7, 7, 7, 8, 8, 8, 8, 8, 8, 8, 8, 8, 8, 8, 8, 8, 8, 8, 8, 8, 8, 8, 8, 8, 8, 8, 8, 8, 8, 8, 8, 8, 8, 8, 8, 8, 8, 8, 8, 8, 8, 8, 8, 8, 8, 8, 8, 8, 8, 8, 8, 8, 8, 8, 8, 8, 8, 8, 8, 8, 8, 8, 8, 8, 8, 8, 8, 8, 8, 8, 8, 8, 8, 8, 8, 8, 8, 8, 8, 8, 8, 8, 8, 8, 8, 8, 8, 8, 8, 8, 8, 8, 8, 8, 8, 8, 8, 8, 8, 8, 8, 8, 8, 8, 8, 8, 8, 8, 8, 8, 8, 8, 8, 8, 8, 8, 8, 8, 8, 8, 8, 8, 8, 8, 8, 8, 8, 8, 8, 8, 8]⟩), x5] fun x6 =>
.l (.conv .i64) [x6] fun x7 =>
.l (.arith .add .i64) [x3, x7] fun x8 =>
.ret x8)) (
.l (.cmp .geq .u64) [(n xs 0), (.int .u64 (256))] fun x2 =>
.ite x2 (
.l (.arith .shr .u64) [(n xs 0), (.int .u64 (8))] fun x3 =>
.l (.arith .add .i64) [(i 0), (i 8)] fun x4 =>
.l (.conv .u8) [x3] fun x5 =>
.l .sidx [(.str ⟨#[0, 1, 2, 2, 3, 3, 3, 3, 4, 4, 4, 4, 4, 4, 4, 4, 5, 5, 5, 5, 5, 5, 5, 5, 5, 5, 5, 5, 5, 5, 5, 5, 6, 6, 6, 6, 6, 6, 6, 6, 6, 6, 6, 6, 6, 6, 6, 6, 6, 6, 6, 6, 6, 6, 6, 6, 6, 6, 6, 6, 6, 6, 6, 6, 7, 7, 7, 7, 7, 7, 7, 7, 7, 7, 7, 7, 7, 7, 7, 7, 7, 7, 7, 7, 7, 7, 7, 7, 7, 7, 7, 7, 7, 7, 7, 7, 7, 7, 7, 7, 7, 7, 7, 7, 7, 7, 7, 7, 7, 7, 7, 7, 7, 7, 7, 7, 7, 7, 7, 7, 7, 7, 7, 7, 7, 7, 7, 7, 8, 8, 8, 8, 8, 8, 8, 8, 8, 8, 8, 8, 8, 8, 8, 8, 8, 8, 8, 8, 8, 8, 8, 8, 8, 8, 8, 8, 8, 8, 8, 8, 8, 8, 8, 8, 8, 8, 8, 8, 8, 8, 8, 8, 8, 8, 8, 8, 8, 8, 8, 8, 8, 8, 8, 8, 8, 8, 8, 8, 8, 8, 8, 8, 8, 8, 8, 8, 8, 8, 8, 8, 8, 8, 8, 8, 8, 8, 8, 8, 8, 8, 8, 8, 8, 8, 8, 8, 8, 8, 8, 8, 8, 8, 8, 8, 8, 8, 8, 8, 8, 8, 8, 8, 8, 8, 8, 8, 8, 8, 8, 8, 8, 8, 8, 8, 8, 8, 8, 8, 8, 8, 8, 8, 8, 8, 8, 8]⟩), x5] fun x6 =>
.l (.conv .i64) [x6] fun x7 =>
.l (.arith .add .i64) [x4, x7] fun x8 =>
.ret x8) (
.l (.conv .u8) [(n xs 0)] fun x3 =>
.l .sidx [(.str ⟨#[0, 1, 2, 2, 3, 3, 3, 3, 4, 4, 4, 4, 4, 4, 4, 4, 5, 5, 5, 5, 5, 5, 5, 5, 5, 5, 5, 5, 5, 5, 5, 5, 6, 6, 6, 6, 6, 6, 6, 6, 6, 6, 6, 6, 6, 6, 6, 6, 6, 6, 6, 6, 6, 6, 6, 6, 6, 6, 6, 6, 6, 6, 6, 6, 7, 7, 7, 7, 7, 7, 7, 7, 7, 7, 7, 7, 7, 7, 7, 7, 7, 7, 7, 7, 7, 7, 7, 7, 7, 7, 7, 7, 7, 7, 7, 7, 7, 7, 7, 7, 7, 7, 7, 7, 7, 7, 7, 7, 7, 7, 7, 7, 7, 7, 7, 7, 7, 7, 7, 7, 7, 7, 7, 7, 7, 7, 7, 7, 8, 8, 8, 8, 8, 8, 8, 8, 8, 8, 8, 8, 8, 8, 8, 8, 8, 8, 8, 8, 8, 8, 8, 8, 8, 8, 8, 8, 8, 8, 8, 8, 8, 8, 8, 8, 8, 8, 8, 8, 8, 8, 8, 8, 8, 8, 8, 8, 8, 8, 8, 8, 8, 8, 8, 8, 8, 8, 8, 8, 8, 8, 8, 8, 8, 8, 8, 8, 8, 8, 8, 8, 8, 8, 8, 8, 8, 8, 8, 8, 8, 8, 8, 8, 8, 8, 8, 8, 8, 8, 8, 8, 8, 8, 8, 8, 8, 8, 8, 8, 8, 8, 8, 8, 8, 8, 8, 8, 8, 8, 8, 8, 8, 8, 8, 8, 8, 8, 8, 8, 8, 8, 8, 8, 8, 8, 8, 8]⟩), x3] fun x4 =>
.l (.conv .i64) [x4] fun x5 =>
.l (.arith .add .i64) [(i 0), x5] fun x6 =>
.ret x6)))
theorem k_math_bits_Len64 : TxOk P F.math_bits_Len64 1 t_math_bits_Len64 := txOk_of (H := {}) (plans := []) hm Tryz.func124 rfl rfl fun xs => by kernel_rfl
def t_witness_maker_next (xs : List PV) : T PV :=
.l (.okc 2 true) [(n xs 0)] fun x0 =>
.l (.okc 2 true) [(n xs 1)] fun x1 =>
.call F.head_Next [(sb 0 1 x0), x1, (n xs 2)] fun x2 =>
.l (.tc 0) [x2] fun x3 =>
.l (.tc 1) [x2] fun x4 =>
.l (.okc 2 true) [x3] fun x5 =>
.call F.witness_call [x5, (.str ⟨#[97]⟩)] fun x6 =>
.l (.lst 12 true) [x6] fun x7 =>
.ret x7
theorem k_witness_maker_next : TxOk P F.witness_maker_next 3 t_witness_maker_next := txOk_of (H := {}) (plans := []) hm Tryz.func125 rfl rfl fun xs => by kernel_rfl
def t_internal_strconv_Itoa (xs : List PV) : T PV :=
.call F.internal_strconv_FormatInt [(n xs 0), (i 10)] fun x0 =>
.ret x0
theorem k_internal_strconv_Itoa : TxOk P F.internal_strconv_Itoa 1 t_internal_strconv_Itoa := txOk_of (H := {}) (plans := []) hm Tryz.func126 rfl rfl fun xs => by kernel_rfl
def t_head_Prio (xs : List PV) : T PV :=
.l (.okc 1 true) [(n xs 0)] fun x0 =>
.l (.okc 2 true) [(n xs 1)] fun x1 =>
.l (.idx 4 true) [(c 0 x0), (c 0 x1)] fun x2 =>
.l (.okc 4 true) [x2] fun x3 =>
.call F.head_action [(c 0 x3)] fun x4 =>
.l .bnot [x4] fun x5 =>
.ite x5 (
.ret (.tup [(i 0), (.bool false)])) (
.l (.arith .add .i64) [(c 1 x3), (c 1 x1)] fun x6 =>
.ret (.tup [x6, (.bool true)]))
theorem k_head_Prio : TxOk P F.head_Prio 2 t_head_Prio := txOk_of (H := {}) (plans := []) hm Tryz.func127 rfl rfl fun xs => by kernel_rfl
def t_readback_reader_find (xs : List PV) : T PV :=
.l (.okc 2 true) [(n xs 1)] fun x0 =>
.l .notnil [(n xs 0)] fun x1 =>
.l (.unbox 3 true) [x1] fun x2 =>
.l .len [(c 1 x2)] fun x3 =>
.loop [(i 0)] fun y4 =>
.l (.cmp .lss .i64) [(n y4 0), x3] fun x5 =>
.ite x5 (
.l (.idx 2 true) [(c 1 x2), (n y4 0)] fun x6 =>
.l (.okc 2 true) [x6] fun x7 =>
.l .notnil [(n xs 0)] fun x8 =>
.l (.unbox 3 true) [x8] fun x9 =>
.call F.equal_Offset [(sb 0 1 x9), x7, x0] fun x10 =>
.l (.tc 0) [x10] fun x11 =>
.l (.tc 1) [x10] fun x12 =>
.ite x12 (
.ret (.tup [(n y4 0), x11, (.bool true)])) (
.l (.arith .add .i64) [(n y4 0), (i 1)] fun x13 =>
.cont 0 [x13])) (
.ret (.tup [(i 0), (i 0), (.bool false)]))
theorem k_readback_reader_find : TxOk P F.readback_reader_find 2 t_readback_reader_find := txOk_of (H := {}) (plans := []) hm Tryz.func128 rfl rfl fun xs => by kernel_rfl
def t_readback_name (xs : List PV) : T PV :=
.call F.strconv_Itoa [(n xs 0)] fun x0 =>
.l .cat [(.str ⟨#[114]⟩), x0] fun x1 =>
.ret x1
theorem k_readback_name : TxOk P F.readback_name 1 t_readback_name := txOk_of (H := {}) (plans := []) hm Tryz.func129 rfl rfl fun xs => by kernel_rfl
def t_readback_reader_plain (xs : List PV) : T PV :=
.l (.okc 2 true) [(n xs 1)] fun x0 =>
.l .notnil [(n xs 0)] fun x1 =>
.l (.unbox 3 true) [x1] fun x2 =>
.l (.idx 4 true) [(c 0 x2), (c 0 x0)] fun x3 =>
.l .len [(c 3 x3)] fun x4 =>
.loop [(i 0), (i 0), (i 0), (.str ⟨#[]⟩), (i 0), (.sl []), (.sl [])] fun y5 =>
.l (.cmp .lss .i64) [(n y5 0), x4] fun x6 =>
.ite x6 (
.l .notnil [(n xs 0)] fun x7 =>
.l (.unbox 3 true) [x7] fun x8 =>
.call F.head_Next [(sb 0 1 x8), x0, (n y5 0)] fun x9 =>
.l (.tc 0) [x9] fun x10 =>
.l (.tc 1) [x9] fun x11 =>
.l (.okc 2 true) [x10] fun x12 =>
.call F.readback_reader_tree [(n xs 0), x12] fun x13 =>
.l (.lst 6 true) [x13] fun x14 =>
.l (.app 6 true 88) [(n y5 6), x14] fun x15 =>
.l (.arith .add .i64) [(n y5 0), (i 1)] fun x16 =>
.cont 0 [x16, (n y5 1), (n y5 2), (n y5 3), (n y5 4), (n y5 5), x15]) (
.ret (.agg [(n y5 1), (n y5 2), (n y5 3), (n y5 4), (n y5 5), (n y5 6)]))
theorem k_readback_reader_plain : TxOk P F.readback_reader_plain 2 t_readback_reader_plain := txOk_of (H := {}) (plans := []) hm Tryz.func130 rfl rfl fun xs => by kernel_rfl
def u_readback_reader_plain (xs : List PV) : T PV :=
.l (.okc 2 true) [(n xs 0)] fun x0 =>
.l (.idx 4 true) [(n xs 1), (c 0 x0)] fun x1 =>
.l .len [(c 3 x1)] fun x2 =>
.loop [(i 0), (i 0), (i 0), (.str ⟨#[]⟩), (i 0), (.sl []), (.sl []), (n xs 1), (n xs 2), (n xs 3)] fun y3 =>
.l (.cmp .lss .i64) [(n y3 0), x2] fun x4 =>
.ite x4 (
.call F.head_Next [(.agg [(n y3 7)]), x0, (n y3 0)] fun x5 =>
.l (.tc 0) [x5] fun x6 =>
.l (.tc 1) [x5] fun x7 =>
.l (.okc 2 true) [x6] fun x8 =>
.calls F.readback_reader_tree sg_readback_reader_tree [x8, (n y3 7), (n y3 8), (n y3 9)] fun z9 =>
.l (.lst 6 true) [(n z9 0)] fun x10 =>
.l (.app 6 true 88) [(n y3 6), x10] fun x11 =>
.l (.arith .add .i64) [(n y3 0), (i 1)] fun x12 =>
.cont 0 [x12, (n y3 1), (n y3 2), (n y3 3), (n y3 4), (n y3 5), x11, (n z9 1), (n z9 2), (n z9 3)]) (
.ret (.tup [(.agg [(n y3 1), (n y3 2), (n y3 3), (n y3 4), (n y3 5), (n y3 6)]), (n y3 7), (n y3 8), (n y3 9)]))
theorem m_readback_reader_plain : TxOkS P F.readback_reader_plain sg_readback_reader_plain u_readback_reader_plain := txOkS_of (H := { wr := [], ro := [], nl := [], fz := [], da := [], sigs := [(72, sg_readback_reader_tree), (130, sg_readback_reader_plain), (131, sg_readback_reader_choice)] }) (plans := []) hm Tryz.func130 rfl fun xs => by kernel_rfl
def t_readback_reader_choice (xs : List PV) : T PV :=
.l (.okc 2 true) [(n xs 1)] fun x0 =>
.l .notnil [(n xs 0)] fun x1 =>
.l (.unbox 3 true) [x1] fun x2 =>
.call F.head_Labels [(sb 0 1 x2), x0] fun x3 =>
.l (.okcs [(1, false)]) [x3] fun x4 =>
.l .len [x3] fun x5 =>
.loop [(i 0), (i 0), (i 0), (.str ⟨#[]⟩), (i 0), x3, (.sl [])] fun y6 =>
.l (.cmp .lss .i64) [(n y6 0), x5] fun x7 =>
.ite x7 (
.l (.idx 1 false) [x3, (n y6 0)] fun x8 =>
.l .notnil [(n xs 0)] fun x9 =>
.l (.unbox 3 true) [x9] fun x10 =>
.call F.head_Label [(sb 0 1 x10), x0, x8] fun x11 =>
.l (.tc 0) [x11] fun x12 =>
.l (.tc 1) [x11] fun x13 =>
.l (.okc 2 true) [x12] fun x14 =>
.call F.readback_reader_tree [(n xs 0), x14] fun x15 =>
.l (.lst 6 true) [x15] fun x16 =>
.l (.app 6 true 88) [(n y6 6), x16] fun x17 =>
.l (.arith .add .i64) [(n y6 0), (i 1)] fun x18 =>
.cont 0 [x18, (n y6 1), (n y6 2), (n y6 3), (n y6 4), (n y6 5), x17]) (
.ret (.agg [(n y6 1), (n y6 2), (n y6 3), (n y6 4), (n y6 5), (n y6 6)]))
theorem k_readback_reader_choice : TxOk P F.readback_reader_choice 2 t_readback_reader_choice := txOk_of (H := {}) (plans := []) hm Tryz.func131 rfl rfl fun xs => by kernel_rfl
def u_readback_reader_choice (xs : List PV) : T PV :=
.l (.okc 2 true) [(n xs 0)] fun x0 =>
.call F.head_Labels [(.agg [(n xs 1)]), x0] fun x1 =>
.l (.okcs [(1, false)]) [x1] fun x2 =>
.l .len [x1] fun x3 =>
.loop [(i 0), (i 0), (i 0), (.str ⟨#[]⟩), (i 0), x1, (.sl []), (n xs 1), (n xs 2), (n xs 3)] fun y4 =>
.l (.cmp .lss .i64) [(n y4 0), x3] fun x5 =>
.ite x5 (
.l (.idx 1 false) [x1, (n y4 0)] fun x6 =>
.call F.head_Label [(.agg [(n y4 7)]), x0, x6] fun x7 =>
.l (.tc 0) [x7] fun x8 =>
.l (.tc 1) [x7] fun x9 =>
.l (.okc 2 true) [x8] fun x10 =>
.calls F.readback_reader_tree sg_readback_reader_tree [x10, (n y4 7), (n y4 8), (n y4 9)] fun z11 =>
.l (.lst 6 true) [(n z11 0)] fun x12 =>
.l (.app 6 true 88) [(n y4 6), x12] fun x13 =>
.l (.arith .add .i64) [(n y4 0), (i 1)] fun x14 =>
.cont 0 [x14, (n y4 1), (n y4 2), (n y4 3), (n y4 4), (n y4 5), x13, (n z11 1), (n z11 2), (n z11 3)]) (
.ret (.tup [(.agg [(n y4 1), (n y4 2), (n y4 3), (n y4 4), (n y4 5), (n y4 6)]), (n y4 7), (n y4 8), (n y4 9)]))
theorem m_readback_reader_choice : TxOkS P F.readback_reader_choice sg_readback_reader_choice u_readback_reader_choice := txOkS_of (H := { wr := [], ro := [], nl := [], fz := [], da := [], sigs := [(72, sg_readback_reader_tree), (130, sg_readback_reader_plain), (131, sg_readback_reader_choice)] }) (plans := []) hm Tryz.func131 rfl fun xs => by kernel_rfl
def t_proctree_Total (xs : List PV) : T PV :=
.l (.okc 13 true) [(n xs 0)] fun x0 =>
.call F.proctree_weight [(sb 1 12 x0)] fun x1 =>
.l .len [(c 0 x0)] fun x2 =>
.loop [(i 0), x1] fun y3 =>
.l (.cmp .lss .i64) [(n y3 0), x2] fun x4 =>
.ite x4 (
.l (.idx 14 true) [(c 0 x0), (n y3 0)] fun x5 =>
.l (.okc 14 true) [x5] fun x6 =>
.call F.proctree_weight [(sb 2 12 x6)] fun x7 =>
.l (.arith .add .i64) [(n y3 1), x7] fun x8 =>
.l .len [(c 1 x6)] fun x9 =>
.loop [(i 0), x8] fun y10 =>
.l (.cmp .lss .i64) [(n y10 0), x9] fun x11 =>
.ite x11 (
.l (.idx 7 true) [(c 1 x6), (n y10 0)] fun x12 =>
.l (.okc 7 true) [x12] fun x13 =>
.call F.typetree_Size [(sb 1 6 x13)] fun x14 =>
.l (.arith .add .i64) [(n y10 1), x14] fun x15 =>
.l (.arith .add .i64) [(n y10 0), (i 1)] fun x16 =>
.cont 1 [x16, x15]) (
.l (.arith .add .i64) [(n y3 0), (i 1)] fun x12 =>
.cont 0 [x12, (n y10 1)])) (
.ret (n y3 1))
theorem k_proctree_Total : TxOk P F.proctree_Total 1 t_proctree_Total := txOk_of (H := {}) (plans := []) hm Tryz.func132 rfl rfl fun xs => by kernel_rfl
def t_proctree_Right (xs : List PV) : T PV :=
.l (.okc 12 true) [(n xs 0)] fun x0 =>
.call F.proctree_shallow [x0, (i 100)] fun x1 =>
.l .bnot [x1] fun x2 =>
.ite x2 (
.ret (i 2)) (
.call F.proctree_few [x0, (i 10000)] fun x3 =>
.l .bnot [x3] fun x4 =>
.ite x4 (
.ret (i 2)) (
.call F.proctree_all [x0, (.fn F.proctree_shape [] [])] fun x5 =>
.l .bnot [x5] fun x6 =>
.ite x6 (
.ret (i 3)) (
.ret (i 0))))
theorem k_proctree_Right : TxOk P F.proctree_Right 1 t_proctree_Right := txOk_of (H := {}) (plans := []) hm Tryz.func133 rfl rfl fun xs => by kernel_rfl
def t_lex_Name (xs : List PV) : T PV :=
.l (.scmp .neq) [(n xs 0), (.str ⟨#[]⟩)] fun x0 =>
.ite x0 (
.l .sidx [(n xs 0), (i 0)] fun x1 =>
.call F.lex_letter [x1] fun x2 =>
.ite x2 (
.call F.lex_span [(n xs 0), (i 0), (.fn F.lex_Name_1 [] [])] fun x3 =>
.l .slen [(n xs 0)] fun x4 =>
.l (.cmp .eql .i64) [x3, x4] fun x5 =>
.ite x5 (
.call F.lex_Keyword [(n xs 0)] fun x6 =>
.l .bnot [x6] fun x7 =>
.ret x7) (
.ret (.bool false))) (
.ret (.bool false))) (
.ret (.bool false))
theorem k_lex_Name : TxOk P F.lex_Name 1 t_lex_Name := txOk_of (H := {}) (plans := []) hm Tryz.func134 rfl rfl fun xs => by kernel_rfl
def t_slices_ContainsFunc_api_Param_api_Param (xs : List PV) : T PV :=
.call F.slices_IndexFunc_api_Param_api_Param [(n xs 0), (n xs 1)] fun x0 =>
.l (.cmp .geq .i64) [x0, (i 0)] fun x1 =>
.ret x1
theorem k_slices_ContainsFunc_api_Param_api_Param : TxOk P F.slices_ContainsFunc_api_Param_api_Param 2 t_slices_ContainsFunc_api_Param_api_Param := txOk_of (H := {}) (plans := []) hm Tryz.func135 rfl rfl fun xs => by kernel_rfl
def t_proctree_Program_1 (xs : List PV) : T PV :=
.l (.okc 7 true) [(n xs 0)] fun x0 =>
.call F.lex_Name [(c 0 x0)] fun x1 =>
.l .bnot [x1] fun x2 =>
.ite x2 (
.ret (.bool true)) (
.call F.typetree_Right [(sb 1 6 x0)] fun x3 =>
.l (.cmp .neq .i64) [x3, (i 0)] fun x4 =>
.ret x4)
theorem k_proctree_Program_1 : TxOk P F.proctree_Program_1 1 t_proctree_Program_1 := txOk_of (H := {}) (plans := []) hm Tryz.func136 rfl rfl fun xs => by kernel_rfl
def t_slices_IndexFunc_api_Def_api_Def (xs : List PV) : T PV :=
.l .len [(n xs 0)] fun x0 =>
.loop [(i 0)] fun y1 =>
.l (.cmp .lss .i64) [(n y1 0), x0] fun x2 =>
.ite x2 (
.l (.idx 14 true) [(n xs 0), (n y1 0)] fun x3 =>
.callv (n xs 1) [x3] fun x4 =>
.ite x4 (
.ret (n y1 0)) (
.l (.arith .add .i64) [(n y1 0), (i 1)] fun x5 =>
.cont 0 [x5])) (
.ret (i (-1)))
theorem k_slices_IndexFunc_api_Def_api_Def : TxOk P F.slices_IndexFunc_api_Def_api_Def 2 t_slices_IndexFunc_api_Def_api_Def := txOk_of (H := {}) (plans := []) hm Tryz.func137 rfl rfl fun xs => by kernel_rfl
def t_scope_Find_1 (xs : List PV) : T PV :=
.l (.okc 14 true) [(n xs 0)] fun x0 =>
.l (.unbox 1 false) [(n xs 1)] fun x1 =>
.l (.scmp .eql) [(c 0 x0), x1] fun x2 =>
.ret x2
theorem k_scope_Find_1 : TxOk P F.scope_Find_1 2 t_scope_Find_1 := txOk_of (H := {}) (plans := []) hm Tryz.func138 rfl rfl fun xs => by kernel_rfl
def t_slices_Sort_string_string (xs : List PV) : T PV :=
.l .len [(n xs 0)] fun x0 =>
.l (.conv .u64) [x0] fun x1 =>
.call F.math_bits_Len [x1] fun x2 =>
.call F.slices_pdqsortOrdered_string [(n xs 0), (i 0), x0, x2] fun x3 =>
.ret (.tup [])
theorem k_slices_Sort_string_string : TxOk P F.slices_Sort_string_string 1 t_slices_Sort_string_string := txOk_of (H := {}) (plans := []) hm Tryz.func139 rfl rfl fun xs => by kernel_rfl
def u_slices_Sort_string_string (xs : List PV) : T PV :=
.l .len [(n xs 0)] fun x0 =>
.l (.conv .u64) [x0] fun x1 =>
.call F.math_bits_Len [x1] fun x2 =>
.calls F.slices_pdqsortOrdered_string sg_slices_pdqsortOrdered_string_Nil [(i 0), x0, x2, (n xs 0)] fun z3 =>
.ret (.tup [(.tup []), (n z3 1)])
theorem m_slices_Sort_string_string : TxOkS P F.slices_Sort_string_string sg_slices_Sort_string_string u_slices_Sort_string_string := txOkS_of (H := { wr := [], ro := [], nl := [], fz := [], da := [], sigs := [(28, sg_slices_Sort_int_int), (63, sg_graph_set_add), (64, sg_slices_pdqsortOrdered_int_Nil), (114, sg_slices_insertionSortOrdered_int), (139, sg_slices_Sort_string_string), (190, sg_slices_pdqsortOrdered_string_Nil), (233, sg_slices_insertionSortOrdered_string)] }) (plans := []) hm Tryz.func139 rfl fun xs => by kernel_rfl
-- NOT TOLD: 140 slices.Compact[[]string,string]: 2
-- NOT TOLD: 140S slices.Compact[[]string,string]: 1
-- NOT TOLD: 141 maps.Clone[duologue/scope.names,string,bool]: 1
-- NOT TOLD: 141S maps.Clone[duologue/scope.names,string,bool]: 1
def t_scope_walker_node (xs : List PV) : T PV :=
.l (.okc 14 true) [(n xs 0)] fun x0 =>
.l (.okc 12 true) [(n xs 1)] fun x1 =>
.l (.okc 1 false) [(n xs 2)] fun x2 =>
.call F.proctree_Prefix [x1] fun x3 =>
.ite x3 (
.l (.mget false [.s] (.bool false)) [x2, (c 1 x1)] fun x4 =>
.l .bnot [x4] fun x5 =>
.ite x5 (
.ret (.tup [.nilM, (i 4)])) (
.call F.slices_ContainsFunc_api_Value_api_Value [(c 4 x1), (.fn F.scope_walker_node_1 [] [(.box x2)])] fun x6 =>
.ite x6 (
.ret (.tup [.nilM, (i 4)])) (
.call F.scope_bound [x1] fun x7 =>
.call F.scope_names_with [x2, x7] fun x8 =>
.l (.tc 0) [x8] fun x9 =>
.l (.tc 1) [x8] fun x10 =>
.l .bnot [x10] fun x11 =>
.ite x11 (
.ret (.tup [.nilM, (i 5)])) (
.l (.cmp .eql .i64) [(c 0 x1), (i 8)] fun x12 =>
.ite x12 (
.call F.scope_walker_call [x0, x1, (n xs 3)] fun x13 =>
.ret (.tup [x9, x13])) (
.ret (.tup [x9, (i 0)])))))) (
.call F.slices_ContainsFunc_api_Value_api_Value [(c 4 x1), (.fn F.scope_walker_node_1 [] [(.box x2)])] fun x4 =>
.ite x4 (
.ret (.tup [.nilM, (i 4)])) (
.call F.scope_bound [x1] fun x5 =>
.call F.scope_names_with [x2, x5] fun x6 =>
.l (.tc 0) [x6] fun x7 =>
.l (.tc 1) [x6] fun x8 =>
.l .bnot [x8] fun x9 =>
.ite x9 (
.ret (.tup [.nilM, (i 5)])) (
.l (.cmp .eql .i64) [(c 0 x1), (i 8)] fun x10 =>
.ite x10 (
.call F.scope_walker_call [x0, x1, (n xs 3)] fun x11 =>
.ret (.tup [x7, x11])) (
.ret (.tup [x7, (i 0)])))))
theorem k_scope_walker_node : TxOk P F.scope_walker_node 4 t_scope_walker_node := txOk_of (H := {}) (plans := []) hm Tryz.func142 rfl rfl fun xs => by kernel_rfl
def t_proctree_Prefix (xs : List PV) : T PV :=
.l (.okc 12 true) [(n xs 0)] fun x0 =>
.l (.cmp .geq .i64) [(c 0 x0), (i 2)] fun x1 =>
.ite x1 (
.l (.cmp .leq .i64) [(c 0 x0), (i 5)] fun x2 =>
.ret x2) (
.ret (.bool false))
theorem k_proctree_Prefix : TxOk P F.proctree_Prefix 1 t_proctree_Prefix := txOk_of (H := {}) (plans := []) hm Tryz.func143 rfl rfl fun xs => by kernel_rfl
def t_typetree_shallow_1 (xs : List PV) : T PV :=
.l (.okc 6 true) [(n xs 0)] fun x0 =>
.l (.unbox 1 false) [(n xs 1)] fun x1 =>
.l (.arith .sub .i64) [x1, (i 1)] fun x2 =>
.call F.typetree_shallow [x0, x2] fun x3 =>
.l .bnot [x3] fun x4 =>
.ret x4
theorem k_typetree_shallow_1 : TxOk P F.typetree_shallow_1 2 t_typetree_shallow_1 := txOk_of (H := {}) (plans := []) hm Tryz.func144 rfl rfl fun xs => by kernel_rfl
def t_typetree_nodes (xs : List PV) : T PV :=
.l (.okc 6 true) [(n xs 0)] fun x0 =>
.ret (.fn F.typetree_nodes_1 [] [(.box x0)])
theorem k_typetree_nodes : TxOk P F.typetree_nodes 1 t_typetree_nodes := txOk_of (H := {}) (plans := []) hm Tryz.func145 rfl rfl fun xs => by kernel_rfl
def t_typetree_fields (xs : List PV) : T PV :=
.l (.okc 6 true) [(n xs 0)] fun x0 =>
.call F.typetree_rules [] fun x1 =>
.l (.mget2 false [.i .i64] (.agg [(.bool false), (.bool false), (.bool false), (.bool false), (i 0)])) [x1, (c 0 x0)] fun x2 =>
.l (.tc 0) [x2] fun x3 =>
.l (.tc 1) [x2] fun x4 =>
.l (.okc 5 true) [x3] fun x5 =>
.l (.cmp .lss .i64) [(c 4 x5), (i 0)] fun x6 =>
.ite x6 (
.l .len [(c 4 x0)] fun x7 =>
.l (.mx .i64) [(i 1), x7] fun x8 =>
.l .bnot [x4] fun x9 =>
.ite x9 (
.ret (.bool false)) (
.l .len [(c 5 x0)] fun x10 =>
.l (.cmp .neq .i64) [x10, x8] fun x11 =>
.ite x11 (
.ret (.bool false)) (
.call F.typetree_within [(c 1 x0), (c 0 x5)] fun x12 =>
.l .bnot [x12] fun x13 =>
.ite x13 (
.ret (.bool false)) (
.call F.typetree_within [(c 3 x0), (c 2 x5)] fun x14 =>
.l .bnot [x14] fun x15 =>
.ite x15 (
.ret (.bool false)) (
.call F.lex_Name [(c 2 x0)] fun x16 =>
.l (.bcmp .neq) [(c 1 x5), x16] fun x17 =>
.ite x17 (
.ret (.bool false)) (
.l .bnot [(c 1 x5)] fun x18 =>
.ite x18 (
.l (.scmp .neq) [(c 2 x0), (.str ⟨#[]⟩)] fun x19 =>
.ite x19 (
.ret (.bool false)) (
.l .len [(c 4 x0)] fun x20 =>
.l (.cmp .gtr .i64) [x20, (i 0)] fun x21 =>
.l (.bcmp .eql) [(c 3 x5), x21] fun x22 =>
.ite x22 (
.call F.typetree_distinct [(c 4 x0)] fun x23 =>
.ret x23) (
.ret (.bool false)))) (
.l .len [(c 4 x0)] fun x19 =>
.l (.cmp .gtr .i64) [x19, (i 0)] fun x20 =>
.l (.bcmp .eql) [(c 3 x5), x20] fun x21 =>
.ite x21 (
.call F.typetree_distinct [(c 4 x0)] fun x22 =>
.ret x22) (
.ret (.bool false))))))))) (
.l .bnot [x4] fun x7 =>
.ite x7 (
.ret (.bool false)) (
.l .len [(c 5 x0)] fun x8 =>
.l (.cmp .neq .i64) [x8, (c 4 x5)] fun x9 =>
.ite x9 (
.ret (.bool false)) (
.call F.typetree_within [(c 1 x0), (c 0 x5)] fun x10 =>
.l .bnot [x10] fun x11 =>
.ite x11 (
.ret (.bool false)) (
.call F.typetree_within [(c 3 x0), (c 2 x5)] fun x12 =>
.l .bnot [x12] fun x13 =>
.ite x13 (
.ret (.bool false)) (
.call F.lex_Name [(c 2 x0)] fun x14 =>
.l (.bcmp .neq) [(c 1 x5), x14] fun x15 =>
.ite x15 (
.ret (.bool false)) (
.l .bnot [(c 1 x5)] fun x16 =>
.ite x16 (
.l (.scmp .neq) [(c 2 x0), (.str ⟨#[]⟩)] fun x17 =>
.ite x17 (
.ret (.bool false)) (
.l .len [(c 4 x0)] fun x18 =>
.l (.cmp .gtr .i64) [x18, (i 0)] fun x19 =>
.l (.bcmp .eql) [(c 3 x5), x19] fun x20 =>
.ite x20 (
.call F.typetree_distinct [(c 4 x0)] fun x21 =>
.ret x21) (
.ret (.bool false)))) (
.l .len [(c 4 x0)] fun x17 =>
.l (.cmp .gtr .i64) [x17, (i 0)] fun x18 =>
.l (.bcmp .eql) [(c 3 x5), x18] fun x19 =>
.ite x19 (
.call F.typetree_distinct [(c 4 x0)] fun x20 =>
.ret x20) (
.ret (.bool false)))))))))
theorem k_typetree_fields : TxOk P F.typetree_fields 1 t_typetree_fields := txOk_of (H := {}) (plans := []) hm Tryz.func146 rfl rfl fun xs => by kernel_rfl
def t_typetree_find (xs : List PV) : T PV :=
.l (.okc 1 false) [(n xs 1)] fun x0 =>
.call F.slices_Backward_typetree_bound_typetree_bound [(n xs 0)] fun x1 =>
.iter x1 2 [] (fun e2 y2 =>
.l (.okc 2 true) [(n e2 1)] fun x3 =>
.l (.scmp .eql) [(c 0 x3), x0] fun x4 =>
.ite x4 (
.l (.okc 2 true) [x3] fun x5 =>
.fail) (
.cont 0 [])) (fun e2 y2 =>
.l (.okc 2 true) [(n e2 1)] fun x3 =>
.l (.scmp .eql) [(c 0 x3), x0] fun x4 =>
.ite x4 (
.l (.okc 2 true) [x3] fun x5 =>
.ret (.tup [x5, (.bool true)])) (
.fail)) fun y2 =>
.ret (.tup [(.agg [(.str ⟨#[]⟩), (.bool false)]), (.bool false)])
theorem k_typetree_find : TxOk P F.typetree_find 2 t_typetree_find := txOk_of (H := {}) (plans := []) hm Tryz.func147 rfl rfl fun xs => by kernel_rfl
def t_slices_Clone_typetree_bound_typetree_bound (xs : List PV) : T PV :=
.nilq (n xs 0) (
.ret (.sl [])) (
.l (.lst 2 true) [] fun x0 =>
.l (.app 2 true 24) [x0, (n xs 0)] fun x1 =>
.ret x1)
theorem k_slices_Clone_typetree_bound_typetree_bound : TxOk P F.slices_Clone_typetree_bound_typetree_bound 1 t_slices_Clone_typetree_bound_typetree_bound := txOk_of (H := { wr := [0, 1, 2, 3, 4, 5, 6, 7, 8, 9, 10, 11, 12, 13, 14, 15, 16, 17, 18, 19, 20, 21, 22, 23, 24, 25, 26, 27, 28, 29, 30, 31, 32, 33, 34, 35, 36, 37, 38, 39], ro := [], nl := [], fz := [], da := [], sigs := [] }) (plans := []) hm Tryz.func148 rfl rfl fun xs => by kernel_rfl
def u_slices_Clone_typetree_bound_typetree_bound (xs : List PV) : T PV :=
.nilq (n xs 0) (
.ret (.tup [(.sl [])])) (
.l (.lst 2 true) [] fun x0 =>
.l (.app 2 true 24) [x0, (n xs 0)] fun x1 =>
.ret (.tup [x1]))
theorem m_slices_Clone_typetree_bound_typetree_bound : TxOkS P F.slices_Clone_typetree_bound_typetree_bound sg_slices_Clone_typetree_bound_typetree_bound u_slices_Clone_typetree_bound_typetree_bound := txOkS_of (H := { wr := [0, 1, 2, 3, 4, 5, 6, 7, 8, 9, 10, 11, 12, 13, 14, 15, 16, 17, 18, 19, 20, 21, 22, 23, 24, 25, 26, 27, 28, 29, 30, 31, 32, 33, 34, 35, 36, 37, 38, 39], ro := [], nl := [], fz := [], da := [], sigs := [] }) (plans := []) hm Tryz.func148 rfl fun xs => by kernel_rfl
def t_slices_IndexFunc_api_Type_api_Type (xs : List PV) : T PV :=
.l .len [(n xs 0)] fun x0 =>
.loop [(i 0)] fun y1 =>
.l (.cmp .lss .i64) [(n y1 0), x0] fun x2 =>
.ite x2 (
.l (.idx 6 true) [(n xs 0), (n y1 0)] fun x3 =>
.callv (n xs 1) [x3] fun x4 =>
.ite x4 (
.ret (n y1 0)) (
.l (.arith .add .i64) [(n y1 0), (i 1)] fun x5 =>
.cont 0 [x5])) (
.ret (i (-1)))
theorem k_slices_IndexFunc_api_Type_api_Type : TxOk P F.slices_IndexFunc_api_Type_api_Type 2 t_slices_IndexFunc_api_Type_api_Type := txOk_of (H := {}) (plans := []) hm Tryz.func149 rfl rfl fun xs => by kernel_rfl
def t_ref02_shape (xs : List PV) : T PV :=
.l (.okc 6 true) [(n xs 0)] fun x0 =>
.l (.cmp .eql .i64) [(c 0 x0), (i 1)] fun x1 =>
.ite x1 (
.l (.cmp .eql .i64) [(c 1 x0), (i 0)] fun x2 =>
.ite x2 (
.l (.scmp .eql) [(c 2 x0), (.str ⟨#[]⟩)] fun x3 =>
.ite x3 (
.l (.cmp .eql .i64) [(c 3 x0), (i 0)] fun x4 =>
.ite x4 (
.l .len [(c 4 x0)] fun x5 =>
.l (.cmp .eql .i64) [x5, (i 0)] fun x6 =>
.ite x6 (
.l .len [(c 5 x0)] fun x7 =>
.l (.cmp .eql .i64) [x7, (i 0)] fun x8 =>
.ret x8) (
.ret (.bool false))) (
.ret (.bool false))) (
.ret (.bool false))) (
.ret (.bool false))) (
.l (.cmp .eql .i64) [(c 0 x0), (i 2)] fun x2 =>
.ite x2 (
.l (.cmp .eql .i64) [(c 1 x0), (i 0)] fun x3 =>
.ite x3 (
.l (.scmp .eql) [(c 2 x0), (.str ⟨#[]⟩)] fun x4 =>
.ite x4 (
.l (.cmp .eql .i64) [(c 3 x0), (i 0)] fun x5 =>
.ite x5 (
.l .len [(c 4 x0)] fun x6 =>
.l (.cmp .eql .i64) [x6, (i 0)] fun x7 =>
.ite x7 (
.l .len [(c 5 x0)] fun x8 =>
.l (.cmp .eql .i64) [x8, (i 0)] fun x9 =>
.ret x9) (
.ret (.bool false))) (
.ret (.bool false))) (
.ret (.bool false))) (
.ret (.bool false))) (
.l (.cmp .eql .i64) [(c 0 x0), (i 3)] fun x3 =>
.ite x3 (
.l (.cmp .eql .i64) [(c 1 x0), (i 0)] fun x4 =>
.ite x4 (
.l (.scmp .eql) [(c 2 x0), (.str ⟨#[]⟩)] fun x5 =>
.ite x5 (
.l (.cmp .eql .i64) [(c 3 x0), (i 0)] fun x6 =>
.ite x6 (
.l .len [(c 4 x0)] fun x7 =>
.l (.cmp .eql .i64) [x7, (i 0)] fun x8 =>
.ite x8 (
.l .len [(c 5 x0)] fun x9 =>
.l (.cmp .eql .i64) [x9, (i 0)] fun x10 =>
.ret x10) (
.ret (.bool false))) (
.ret (.bool false))) (
.ret (.bool false))) (
.ret (.bool false))) (
.l (.cmp .eql .i64) [(c 0 x0), (i 4)] fun x4 =>
.ite x4 (
.call F.ref02_prio [(c 1 x0)] fun x5 =>
.ite x5 (
.l (.scmp .eql) [(c 2 x0), (.str ⟨#[]⟩)] fun x6 =>
.ite x6 (
.l (.cmp .eql .i64) [(c 3 x0), (i 0)] fun x7 =>
.ite x7 (
.l .len [(c 4 x0)] fun x8 =>
.l (.cmp .eql .i64) [x8, (i 0)] fun x9 =>
.ite x9 (
.l .len [(c 5 x0)] fun x10 =>
.l (.cmp .eql .i64) [x10, (i 2)] fun x11 =>
.ret x11) (
.ret (.bool false))) (
.ret (.bool false))) (
.ret (.bool false))) (
.ret (.bool false))) (
.l (.cmp .eql .i64) [(c 0 x0), (i 5)] fun x5 =>
.ite x5 (
.call F.ref02_prio [(c 1 x0)] fun x6 =>
.ite x6 (
.l (.scmp .eql) [(c 2 x0), (.str ⟨#[]⟩)] fun x7 =>
.ite x7 (
.l (.cmp .eql .i64) [(c 3 x0), (i 0)] fun x8 =>
.ite x8 (
.l .len [(c 4 x0)] fun x9 =>
.l (.cmp .eql .i64) [x9, (i 0)] fun x10 =>
.ite x10 (
.l .len [(c 5 x0)] fun x11 =>
.l (.cmp .eql .i64) [x11, (i 2)] fun x12 =>
.ret x12) (
.ret (.bool false))) (
.ret (.bool false))) (
.ret (.bool false))) (
.ret (.bool false))) (
.l (.cmp .eql .i64) [(c 0 x0), (i 6)] fun x6 =>
.ite x6 (
.call F.ref02_prio [(c 1 x0)] fun x7 =>
.ite x7 (
.l (.scmp .eql) [(c 2 x0), (.str ⟨#[]⟩)] fun x8 =>
.ite x8 (
.l (.cmp .eql .i64) [(c 3 x0), (i 0)] fun x9 =>
.ite x9 (
.l .len [(c 4 x0)] fun x10 =>
.l (.cmp .gtr .i64) [x10, (i 0)] fun x11 =>
.ite x11 (
.call F.ref02_Labels [(c 4 x0)] fun x12 =>
.ite x12 (
.l .len [(c 5 x0)] fun x13 =>
.l .len [(c 4 x0)] fun x14 =>
.l (.cmp .eql .i64) [x13, x14] fun x15 =>
.ret x15) (
.ret (.bool false))) (
.ret (.bool false))) (
.ret (.bool false))) (
.ret (.bool false))) (
.ret (.bool false))) (
.l (.cmp .eql .i64) [(c 0 x0), (i 7)] fun x7 =>
.ite x7 (
.call F.ref02_prio [(c 1 x0)] fun x8 =>
.ite x8 (
.l (.scmp .eql) [(c 2 x0), (.str ⟨#[]⟩)] fun x9 =>
.ite x9 (
.l (.cmp .eql .i64) [(c 3 x0), (i 0)] fun x10 =>
.ite x10 (
.l .len [(c 4 x0)] fun x11 =>
.l (.cmp .gtr .i64) [x11, (i 0)] fun x12 =>
.ite x12 (
.call F.ref02_Labels [(c 4 x0)] fun x13 =>
.ite x13 (
.l .len [(c 5 x0)] fun x14 =>
.l .len [(c 4 x0)] fun x15 =>
.l (.cmp .eql .i64) [x14, x15] fun x16 =>
.ret x16) (
.ret (.bool false))) (
.ret (.bool false))) (
.ret (.bool false))) (
.ret (.bool false))) (
.ret (.bool false))) (
.l (.cmp .eql .i64) [(c 0 x0), (i 8)] fun x8 =>
.ite x8 (
.l (.cmp .eql .i64) [(c 1 x0), (i 0)] fun x9 =>
.ite x9 (
.call F.ref01_Name [(c 2 x0)] fun x10 =>
.ite x10 (
.l (.cmp .eql .i64) [(c 3 x0), (i 0)] fun x11 =>
.ite x11 (
.l .len [(c 4 x0)] fun x12 =>
.l (.cmp .eql .i64) [x12, (i 0)] fun x13 =>
.ite x13 (
.l .len [(c 5 x0)] fun x14 =>
.l (.cmp .eql .i64) [x14, (i 1)] fun x15 =>
.ret x15) (
.ret (.bool false))) (
.ret (.bool false))) (
.ret (.bool false))) (
.ret (.bool false))) (
.l (.cmp .eql .i64) [(c 0 x0), (i 9)] fun x9 =>
.ite x9 (
.l (.cmp .eql .i64) [(c 1 x0), (i 0)] fun x10 =>
.ite x10 (
.call F.ref01_Name [(c 2 x0)] fun x11 =>
.ite x11 (
.call F.ref02_prio [(c 3 x0)] fun x12 =>
.ite x12 (
.l .len [(c 4 x0)] fun x13 =>
.l (.cmp .eql .i64) [x13, (i 0)] fun x14 =>
.ite x14 (
.l .len [(c 5 x0)] fun x15 =>
.l (.cmp .eql .i64) [x15, (i 0)] fun x16 =>
.ret x16) (
.ret (.bool false))) (
.ret (.bool false))) (
.ret (.bool false))) (
.ret (.bool false))) (
.ret (.bool false))))))))))
theorem k_ref02_shape : TxOk P F.ref02_shape 1 t_ref02_shape := txOk_of (H := {}) (plans := []) hm Tryz.func150 rfl rfl fun xs => by kernel_rfl
def t_ref07_Count (xs : List PV) : T PV :=
.l (.okc 6 true) [(n xs 0)] fun x0 =>
.l (.cmp .leq .i64) [(c 0 x0), (i 7)] fun x1 =>
.ite x1 (
.loop [(i 0), (i 1)] fun y2 =>
.l .len [(c 5 x0)] fun x3 =>
.l (.cmp .lss .i64) [(n y2 0), x3] fun x4 =>
.ite x4 (
.l (.idx 6 true) [(c 5 x0), (n y2 0)] fun x5 =>
.call F.ref07_Count [x5] fun x6 =>
.l (.arith .add .i64) [(n y2 1), x6] fun x7 =>
.l (.arith .add .i64) [(n y2 0), (i 1)] fun x8 =>
.cont 0 [x8, x7]) (
.ret (n y2 1))) (
.loop [(i 0), (i 0)] fun y2 =>
.l .len [(c 5 x0)] fun x3 =>
.l (.cmp .lss .i64) [(n y2 0), x3] fun x4 =>
.ite x4 (
.l (.idx 6 true) [(c 5 x0), (n y2 0)] fun x5 =>
.call F.ref07_Count [x5] fun x6 =>
.l (.arith .add .i64) [(n y2 1), x6] fun x7 =>
.l (.arith .add .i64) [(n y2 0), (i 1)] fun x8 =>
.cont 0 [x8, x7]) (
.ret (n y2 1)))
theorem k_ref07_Count : TxOk P F.ref07_Count 1 t_ref07_Count := txOk_of (H := {}) (plans := []) hm Tryz.func151 rfl rfl fun xs => by kernel_rfl
-- NOT TOLD: 152 duologue/duologueref26.fill: 6
def t_head_Raise (xs : List PV) : T PV :=
.l (.okc 2 true) [(n xs 0)] fun x0 =>
.l (.arith .add .i64) [(c 1 x0), (n xs 1)] fun x1 =>
.l (.okc 1 false) [x1] fun x2 =>
.ret (.agg [(c 0 x0), x2])
theorem k_head_Raise : TxOk P F.head_Raise 2 t_head_Raise := txOk_of (H := {}) (plans := []) hm Tryz.func163 rfl rfl fun xs => by kernel_rfl
def t_internal_strconv_FormatInt (xs : List PV) : T PV :=
.l (.cmp .eql .i64) [(n xs 1), (i 10)] fun x0 =>
.ite x0 (
.l (.cmp .leq .i64) [(i 0), (n xs 0)] fun x1 =>
.ite x1 (
.l (.cmp .lss .i64) [(n xs 0), (i 100)] fun x2 =>
.ite x2 (
.call F.internal_strconv_small [(n xs 0)] fun x3 =>
.ret x3) (
.l (.conv .u64) [(n xs 0)] fun x3 =>
.l (.cmp .lss .i64) [(n xs 0), (i 0)] fun x4 =>
.ite x4 (
.l (.neg .u64) [x3] fun x5 =>
.call F.internal_strconv_numDigits [x5] fun x6 =>
.l (.arith .add .i64) [(i 1), x6] fun x7 =>
.fail) (
.call F.internal_strconv_numDigits [x3] fun x5 =>
.l (.arith .add .i64) [(i 1), x5] fun x6 =>
.fail))) (
.l (.conv .u64) [(n xs 0)] fun x2 =>
.l (.cmp .lss .i64) [(n xs 0), (i 0)] fun x3 =>
.ite x3 (
.l (.neg .u64) [x2] fun x4 =>
.call F.internal_strconv_numDigits [x4] fun x5 =>
.l (.arith .add .i64) [(i 1), x5] fun x6 =>
.fail) (
.call F.internal_strconv_numDigits [x2] fun x4 =>
.l (.arith .add .i64) [(i 1), x4] fun x5 =>
.fail))) (
.l (.conv .u64) [(n xs 0)] fun x1 =>
.l (.cmp .lss .i64) [(n xs 0), (i 0)] fun x2 =>
.call F.internal_strconv_formatBits [(.sl []), x1, (n xs 1), x2, (.bool false)] fun x3 =>
.l (.tc 0) [x3] fun x4 =>
.l (.tc 1) [x3] fun x5 =>
.ret x5)
theorem k_internal_strconv_FormatInt : TxOk P F.internal_strconv_FormatInt 2 t_internal_strconv_FormatInt := txOk_of (H := {}) (plans := []) hm Tryz.func164 rfl rfl fun xs => by kernel_rfl
def t_internal_strconv_FormatBool (xs : List PV) : T PV :=
.ite (n xs 0) (
.ret (.str ⟨#[116, 114, 117, 101]⟩)) (
.ret (.str ⟨#[102, 97, 108, 115, 101]⟩))
theorem k_internal_strconv_FormatBool : TxOk P F.internal_strconv_FormatBool 1 t_internal_strconv_FormatBool := txOk_of (H := {}) (plans := []) hm Tryz.func165 rfl rfl fun xs => by kernel_rfl
def t_graph_strip (xs : List PV) : T PV :=
.l (.okc 6 true) [(n xs 0)] fun x0 =>
.loop [(.sl []), x0] fun y1 =>
.l (.cmp .eql .i64) [(c 0 (n y1 1)), (i 8)] fun x2 =>
.ite x2 (
.l (.lst 1 false) [(c 2 (n y1 1))] fun x3 =>
.l (.app 1 false 16) [(n y1 0), x3] fun x4 =>
.l (.idx 6 true) [(c 5 (n y1 1)), (i 0)] fun x5 =>
.l (.okc 6 true) [x5] fun x6 =>
.cont 0 [x4, x6]) (
.l (.okc 6 true) [(n y1 1)] fun x3 =>
.ret (.tup [x3, (n y1 0)]))
theorem k_graph_strip : TxOk P F.graph_strip 1 t_graph_strip := txOk_of (H := {}) (plans := []) hm Tryz.func166 rfl rfl fun xs => by kernel_rfl
-- NOT TOLD: 167 maps.Clone[duologue/graph.scope,string,duologue/graph.Ref]: 1
-- NOT TOLD: 167S maps.Clone[duologue/graph.scope,string,duologue/graph.Ref]: 1
-- NOT TOLD: 168 slices.siftDownOrdered[int]: 3
def t_cmp_isNaN_int (xs : List PV) : T PV :=
.l (.cmp .neq .i64) [(n xs 0), (n xs 0)] fun x0 =>
.ret x0
theorem k_cmp_isNaN_int : TxOk P F.cmp_isNaN_int 1 t_cmp_isNaN_int := txOk_of (H := {}) (plans := []) hm Tryz.func173 rfl rfl fun xs => by kernel_rfl
def t_head_action (xs : List PV) : T PV :=
.l (.cmp .geq .i64) [(n xs 0), (i 4)] fun x0 =>
.ite x0 (
.l (.cmp .leq .i64) [(n xs 0), (i 7)] fun x1 =>
.ret x1) (
.ret (.bool false))
theorem k_head_action : TxOk P F.head_action 1 t_head_action := txOk_of (H := {}) (plans := []) hm Tryz.func174 rfl rfl fun xs => by kernel_rfl
def t_equal_Offset (xs : List PV) : T PV :=
.l (.okc 1 true) [(n xs 0)] fun x0 =>
.l (.okc 2 true) [(n xs 1)] fun x1 =>
.l (.okc 2 true) [(n xs 2)] fun x2 =>
.call F.head_Prio [x0, x1] fun x3 =>
.l (.tc 0) [x3] fun x4 =>
.l (.tc 1) [x3] fun x5 =>
.call F.head_Prio [x0, x2] fun x6 =>
.l (.tc 0) [x6] fun x7 =>
.l (.tc 1) [x6] fun x8 =>
.l (.arith .sub .i64) [x7, x4] fun x9 =>
.l (.arith .sub .i64) [x7, x4] fun x10 =>
.call F.head_Raise [x1, x10] fun x11 =>
.call F.equal_Equal [x0, x11, x2] fun x12 =>
.call F.equal_offset [x9, x12] fun x13 =>
.l (.tc 0) [x13] fun x14 =>
.l (.tc 1) [x13] fun x15 =>
.ret (.tup [x14, x15])
theorem k_equal_Offset : TxOk P F.equal_Offset 3 t_equal_Offset := txOk_of (H := {}) (plans := []) hm Tryz.func175 rfl rfl fun xs => by kernel_rfl
def t_head_Labels (xs : List PV) : T PV :=
.l (.okc 1 true) [(n xs 0)] fun x0 =>
.l (.okc 2 true) [(n xs 1)] fun x1 =>
.l (.idx 4 true) [(c 0 x0), (c 0 x1)] fun x2 =>
.call F.slices_Values_string_string [(c 2 x2)] fun x3 =>
.call F.slices_Sorted_string [x3] fun x4 =>
.ret x4
theorem k_head_Labels : TxOk P F.head_Labels 2 t_head_Labels := txOk_of (H := {}) (plans := []) hm Tryz.func176 rfl rfl fun xs => by kernel_rfl
def t_head_Label (xs : List PV) : T PV :=
.l (.okc 1 true) [(n xs 0)] fun x0 =>
.l (.okc 2 true) [(n xs 1)] fun x1 =>
.l (.idx 4 true) [(c 0 x0), (c 0 x1)] fun x2 =>
.call F.slices_Index_string_string [(c 2 x2), (n xs 2)] fun x3 =>
.call F.head_Next [x0, x1, x3] fun x4 =>
.l (.tc 0) [x4] fun x5 =>
.l (.tc 1) [x4] fun x6 =>
.l (.okc 2 true) [x5] fun x7 =>
.ret (.tup [x7, x6])
theorem k_head_Label : TxOk P F.head_Label 3 t_head_Label := txOk_of (H := {}) (plans := []) hm Tryz.func177 rfl rfl fun xs => by kernel_rfl
def t_proctree_weight (xs : List PV) : T PV :=
.l (.okc 12 true) [(n xs 0)] fun x0 =>
.l (.okc 1 false) [(i 0)] fun x1 =>
.calls F.proctree_all sg_proctree_all_Wg [x0, x1] fun z2 =>
.ret (n z2 1)
theorem k_proctree_weight : TxOk P F.proctree_weight 1 t_proctree_weight := txOk_of (H := { wr := [], ro := [], nl := [], fz := [], da := [], sigs := [(221, sg_proctree_weight_1), (182, sg_proctree_all_Wg)] }) (plans := []) hm Tryz.func178 rfl rfl fun xs => by kernel_rfl
def t_typetree_Size (xs : List PV) : T PV :=
.l (.okc 6 true) [(n xs 0)] fun x0 =>
.l (.okc 1 false) [(i 0)] fun x1 =>
.call F.typetree_nodes [x0] fun x2 =>
.iter x2 1 [x1] (fun e3 y3 =>
.l (.arith .add .i64) [(n y3 0), (i 1)] fun x4 =>
.l (.okc 1 false) [x4] fun x5 =>
.cont 0 [x5]) (fun e3 y3 =>
.l (.arith .add .i64) [(n y3 0), (i 1)] fun x4 =>
.l (.okc 1 false) [x4] fun x5 =>
.fail) fun y3 =>
.ret (n y3 0)
theorem k_typetree_Size : TxOk P F.typetree_Size 1 t_typetree_Size := txOk_of (H := {}) (plans := []) hm Tryz.func179 rfl rfl fun xs => by kernel_rfl
def t_proctree_shallow (xs : List PV) : T PV :=
.l (.okc 12 true) [(n xs 0)] fun x0 =>
.l (.okc 1 false) [(n xs 1)] fun x1 =>
.l (.cmp .gtr .i64) [x1, (i 0)] fun x2 =>
.ite x2 (
.call F.slices_ContainsFunc_api_Proc_api_Proc [(c 11 x0), (.fn F.proctree_shallow_1 [] [(.box x1)])] fun x3 =>
.l .bnot [x3] fun x4 =>
.ret x4) (
.ret (.bool false))
theorem k_proctree_shallow : TxOk P F.proctree_shallow 2 t_proctree_shallow := txOk_of (H := {}) (plans := []) hm Tryz.func180 rfl rfl fun xs => by kernel_rfl
def t_proctree_few (xs : List PV) : T PV :=
.l (.okc 12 true) [(n xs 0)] fun x0 =>
.l (.okc 1 false) [(n xs 1)] fun x1 =>
.calls F.proctree_all sg_proctree_all_Fw [x0, x1] fun z2 =>
.ret (n z2 0)
theorem k_proctree_few : TxOk P F.proctree_few 2 t_proctree_few := txOk_of (H := { wr := [3], ro := [], nl := [], fz := [], da := [], sigs := [(224, sg_proctree_few_1), (182, sg_proctree_all_Fw)] }) (plans := []) hm Tryz.func181 rfl rfl fun xs => by kernel_rfl
def t_proctree_all (xs : List PV) : T PV :=
.l (.okc 12 true) [(n xs 0)] fun x0 =>
.l (.okc 1 false) [(n xs 1)] fun x1 =>
.callv x1 [x0] fun x2 =>
.ite x2 (
.call F.slices_ContainsFunc_api_Proc_api_Proc [(c 11 x0), (.fn F.proctree_all_1 [] [(.box x1)])] fun x3 =>
.l .bnot [x3] fun x4 =>
.ret x4) (
.ret (.bool false))
theorem k_proctree_all : TxOk P F.proctree_all 2 t_proctree_all := txOk_of (H := {}) (plans := []) hm Tryz.func182 rfl rfl fun xs => by kernel_rfl
def u_proctree_all_Wg (xs : List PV) : T PV :=
.l (.okc 12 true) [(n xs 0)] fun x0 =>
.calls F.proctree_weight_1 sg_proctree_weight_1 [x0, (n xs 1)] fun z1 =>
.ite (n z1 0) (
.calls F.slices_ContainsFunc_api_Proc_api_Proc sg_slices_ContainsFunc_api_Proc_api_Proc_Wg [(c 11 x0), (n z1 1)] fun z2 =>
.l .bnot [(n z2 0)] fun x3 =>
.ret (.tup [x3, (n z2 1)])) (
.ret (.tup [(.bool false), (n z1 1)]))
theorem m_proctree_all_Wg : TxOkS P F.proctree_all sg_proctree_all_Wg u_proctree_all_Wg := txOkS_of (H := { wr := [], ro := [], nl := [], fz := [], da := [], sigs := [(221, sg_proctree_weight_1), (225, sg_proctree_all_1_Wg), (222, sg_slices_ContainsFunc_api_Proc_api_Proc_Wg)] }) (plans := []) hm Tryz.func182 rfl fun xs => by kernel_rfl
def u_proctree_all_Fw (xs : List PV) : T PV :=
.l (.okc 12 true) [(n xs 0)] fun x0 =>
.calls F.proctree_few_1 sg_proctree_few_1 [x0, (n xs 1)] fun z1 =>
.ite (n z1 0) (
.calls F.slices_ContainsFunc_api_Proc_api_Proc sg_slices_ContainsFunc_api_Proc_api_Proc_Fw [(c 11 x0), (n z1 1)] fun z2 =>
.l .bnot [(n z2 0)] fun x3 =>
.ret (.tup [x3, (n z2 1)])) (
.ret (.tup [(.bool false), (n z1 1)]))
theorem m_proctree_all_Fw : TxOkS P F.proctree_all sg_proctree_all_Fw u_proctree_all_Fw := txOkS_of (H := { wr := [], ro := [], nl := [], fz := [], da := [], sigs := [(224, sg_proctree_few_1), (225, sg_proctree_all_1_Fw), (222, sg_slices_ContainsFunc_api_Proc_api_Proc_Fw)] }) (plans := []) hm Tryz.func182 rfl fun xs => by kernel_rfl
def t_proctree_shape (xs : List PV) : T PV :=
.l (.okc 12 true) [(n xs 0)] fun x0 =>
.call F.proctree_rules [] fun x1 =>
.l (.mget2 false [.i .i64] (.agg [(.bool false), (.bool false), (.bool false), (i 0), (i 0), .nilF])) [x1, (c 0 x0)] fun x2 =>
.l (.tc 0) [x2] fun x3 =>
.l (.tc 1) [x2] fun x4 =>
.l (.okc 6 true) [x3] fun x5 =>
.ite x4 (
.call F.proctree_named [(c 1 x0), (c 0 x5)] fun x6 =>
.ite x6 (
.call F.proctree_named [(c 2 x0), (c 1 x5)] fun x7 =>
.ite x7 (
.call F.proctree_typed [x0, (c 2 x5)] fun x8 =>
.ite x8 (
.l (.cmp .lss .i64) [(c 3 x5), (i 0)] fun x9 =>
.ite x9 (
.l (.cmp .lss .i64) [(c 4 x5), (i 0)] fun x10 =>
.ite x10 (
.callv (c 5 x5) [x0] fun x11 =>
.ite x11 (
.call F.proctree_distinct [(c 3 x0)] fun x12 =>
.ite x12 (
.call F.slices_ContainsFunc_api_Value_api_Value [(c 4 x0), (.fn F.proctree_shape_1 [] [])] fun x13 =>
.l .bnot [x13] fun x14 =>
.ret x14) (
.ret (.bool false))) (
.ret (.bool false))) (
.l .len [(c 3 x0)] fun x11 =>
.l (.cmp .eql .i64) [x11, (c 4 x5)] fun x12 =>
.ite x12 (
.callv (c 5 x5) [x0] fun x13 =>
.ite x13 (
.call F.proctree_distinct [(c 3 x0)] fun x14 =>
.ite x14 (
.call F.slices_ContainsFunc_api_Value_api_Value [(c 4 x0), (.fn F.proctree_shape_1 [] [])] fun x15 =>
.l .bnot [x15] fun x16 =>
.ret x16) (
.ret (.bool false))) (
.ret (.bool false))) (
.ret (.bool false)))) (
.l .len [(c 4 x0)] fun x10 =>
.l (.cmp .eql .i64) [x10, (c 3 x5)] fun x11 =>
.ite x11 (
.l (.cmp .lss .i64) [(c 4 x5), (i 0)] fun x12 =>
.ite x12 (
.callv (c 5 x5) [x0] fun x13 =>
.ite x13 (
.call F.proctree_distinct [(c 3 x0)] fun x14 =>
.ite x14 (
.call F.slices_ContainsFunc_api_Value_api_Value [(c 4 x0), (.fn F.proctree_shape_1 [] [])] fun x15 =>
.l .bnot [x15] fun x16 =>
.ret x16) (
.ret (.bool false))) (
.ret (.bool false))) (
.l .len [(c 3 x0)] fun x13 =>
.l (.cmp .eql .i64) [x13, (c 4 x5)] fun x14 =>
.ite x14 (
.callv (c 5 x5) [x0] fun x15 =>
.ite x15 (
.call F.proctree_distinct [(c 3 x0)] fun x16 =>
.ite x16 (
.call F.slices_ContainsFunc_api_Value_api_Value [(c 4 x0), (.fn F.proctree_shape_1 [] [])] fun x17 =>
.l .bnot [x17] fun x18 =>
.ret x18) (
.ret (.bool false))) (
.ret (.bool false))) (
.ret (.bool false)))) (
.ret (.bool false)))) (
.ret (.bool false))) (
.ret (.bool false))) (
.ret (.bool false))) (
.ret (.bool false))
theorem k_proctree_shape : TxOk P F.proctree_shape 1 t_proctree_shape := txOk_of (H := {}) (plans := []) hm Tryz.func183 rfl rfl fun xs => by kernel_rfl
def t_lex_letter (xs : List PV) : T PV :=
.l (.arith .or .u8) [(n xs 0), (.int .u8 (32))] fun x0 =>
.l (.conv .i32) [x0] fun x1 =>
.l (.cmp .geq .i32) [x1, (.int .i32 (97))] fun x2 =>
.ite x2 (
.l (.cmp .leq .i32) [x1, (.int .i32 (122))] fun x3 =>
.ite x3 (
.l (.cmp .geq .u8) [(n xs 0), (.int .u8 (65))] fun x4 =>
.ite x4 (
.ret (.bool true)) (
.l (.cmp .eql .u8) [(n xs 0), (.int .u8 (95))] fun x5 =>
.ret x5)) (
.l (.cmp .eql .u8) [(n xs 0), (.int .u8 (95))] fun x4 =>
.ret x4)) (
.l (.cmp .eql .u8) [(n xs 0), (.int .u8 (95))] fun x3 =>
.ret x3)
theorem k_lex_letter : TxOk P F.lex_letter 1 t_lex_letter := txOk_of (H := {}) (plans := []) hm Tryz.func184 rfl rfl fun xs => by kernel_rfl
def t_lex_span (xs : List PV) : T PV :=
.loop [(n xs 1)] fun y0 =>
.l .slen [(n xs 0)] fun x1 =>
.l (.cmp .lss .i64) [(n y0 0), x1] fun x2 =>
.ite x2 (
.l .sidx [(n xs 0), (n y0 0)] fun x3 =>
.callv (n xs 2) [x3] fun x4 =>
.ite x4 (
.l (.arith .add .i64) [(n y0 0), (i 1)] fun x5 =>
.cont 0 [x5]) (
.ret (n y0 0))) (
.ret (n y0 0))
theorem k_lex_span : TxOk P F.lex_span 3 t_lex_span := txOk_of (H := {}) (plans := []) hm Tryz.func185 rfl rfl fun xs => by kernel_rfl
def t_lex_Name_1 (xs : List PV) : T PV :=
.call F.lex_letter [(n xs 0)] fun x0 =>
.ite x0 (
.ret (.bool true)) (
.call F.lex_digit [(n xs 0)] fun x1 =>
.ret x1)
theorem k_lex_Name_1 : TxOk P F.lex_Name_1 1 t_lex_Name_1 := txOk_of (H := {}) (plans := []) hm Tryz.func186 rfl rfl fun xs => by kernel_rfl
def t_lex_digit (xs : List PV) : T PV :=
.l (.cmp .geq .u8) [(n xs 0), (.int .u8 (48))] fun x0 =>
.ite x0 (
.l (.cmp .leq .u8) [(n xs 0), (.int .u8 (57))] fun x1 =>
.ret x1) (
.ret (.bool false))
theorem k_lex_digit : TxOk P F.lex_digit 1 t_lex_digit := txOk_of (H := {}) (plans := []) hm Tryz.func187 rfl rfl fun xs => by kernel_rfl
def t_lex_Keyword (xs : List PV) : T PV :=
.l (.asl 10) [(.agg [(.str ⟨#[100, 101, 102]⟩), (.str ⟨#[109, 97, 105, 110]⟩), (.str ⟨#[115, 116, 111, 112]⟩), (.str ⟨#[110, 101, 119]⟩), (.str ⟨#[105, 110, 116]⟩), (.str ⟨#[98, 111, 111, 108]⟩), (.str ⟨#[101, 110, 100]⟩), (.str ⟨#[114, 101, 99]⟩), (.str ⟨#[116, 114, 117, 101]⟩), (.str ⟨#[102, 97, 108, 115, 101]⟩)])] fun x0 =>
.call F.slices_Contains_string_string [x0, (n xs 0)] fun x1 =>
.ret x1
theorem k_lex_Keyword : TxOk P F.lex_Keyword 1 t_lex_Keyword := txOk_of (H := {}) (plans := []) hm Tryz.func188 rfl rfl fun xs => by kernel_rfl
def t_slices_IndexFunc_api_Param_api_Param (xs : List PV) : T PV :=
.l .len [(n xs 0)] fun x0 =>
.loop [(i 0)] fun y1 =>
.l (.cmp .lss .i64) [(n y1 0), x0] fun x2 =>
.ite x2 (
.l (.idx 7 true) [(n xs 0), (n y1 0)] fun x3 =>
.callv (n xs 1) [x3] fun x4 =>
.ite x4 (
.ret (n y1 0)) (
.l (.arith .add .i64) [(n y1 0), (i 1)] fun x5 =>
.cont 0 [x5])) (
.ret (i (-1)))
theorem k_slices_IndexFunc_api_Param_api_Param : TxOk P F.slices_IndexFunc_api_Param_api_Param 2 t_slices_IndexFunc_api_Param_api_Param := txOk_of (H := {}) (plans := []) hm Tryz.func189 rfl rfl fun xs => by kernel_rfl
-- NOT TOLD: 190 slices.pdqsortOrdered[string]: 0
def u_slices_pdqsortOrdered_string_Nil (xs : List PV) : T PV :=
.loop [(.bool true), (.bool true), (n xs 0), (n xs 1), (n xs 2), (n xs 3)] fun y0 =>
.l (.arith .sub .i64) [(n y0 3), (n y0 2)] fun x1 =>
.l (.cmp .leq .i64) [x1, (i 12)] fun x2 =>
.ite x2 (
.calls F.slices_insertionSortOrdered_string sg_slices_insertionSortOrdered_string [(n y0 2), (n y0 3), (n y0 5)] fun z3 =>
.ret (.tup [(.tup []), (n z3 1)])) (
.l (.cmp .eql .i64) [(n y0 4), (i 0)] fun x3 =>
.ite x3 (
.call F.slices_heapSortOrdered_string [(n y0 5), (n y0 2), (n y0 3)] fun x4 =>
.fail) (
.l .bnot [(n y0 1)] fun x4 =>
.ite x4 (
.call F.slices_breakPatternsOrdered_string [(n y0 5), (n y0 2), (n y0 3)] fun x5 =>
.l (.arith .sub .i64) [(n y0 4), (i 1)] fun x6 =>
.call F.slices_choosePivotOrdered_string [(n y0 5), (n y0 2), (n y0 3)] fun x7 =>
.l (.tc 0) [x7] fun x8 =>
.l (.tc 1) [x7] fun x9 =>
.l (.cmp .eql .i64) [x9, (i 2)] fun x10 =>
.ite x10 (
.call F.slices_reverseRangeOrdered_string [(n y0 5), (n y0 2), (n y0 3)] fun x11 =>
.l (.arith .sub .i64) [(n y0 3), (i 1)] fun x12 =>
.l (.arith .sub .i64) [x8, (n y0 2)] fun x13 =>
.l (.arith .sub .i64) [x12, x13] fun x14 =>
.ite (n y0 1) (
.ite (n y0 0) (
.l (.cmp .eql .i64) [(i 1), (i 1)] fun x15 =>
.ite x15 (
.call F.slices_partialInsertionSortOrdered_string [(n y0 5), (n y0 2), (n y0 3)] fun x16 =>
.ite x16 (
.fail) (
.l (.cmp .gtr .i64) [(n y0 2), (i 0)] fun x17 =>
.ite x17 (
.l (.arith .sub .i64) [(n y0 2), (i 1)] fun x18 =>
.l (.idx 1 false) [(n y0 5), x18] fun x19 =>
.l (.idx 1 false) [(n y0 5), x14] fun x20 =>
.call F.cmp_Less_string [x19, x20] fun x21 =>
.l .bnot [x21] fun x22 =>
.ite x22 (
.call F.slices_partitionEqualOrdered_string [(n y0 5), (n y0 2), (n y0 3), x14] fun x23 =>
.fail) (
.call F.slices_partitionOrdered_string [(n y0 5), (n y0 2), (n y0 3), x14] fun x23 =>
.l (.tc 0) [x23] fun x24 =>
.l (.tc 1) [x23] fun x25 =>
.l (.arith .sub .i64) [x24, (n y0 2)] fun x26 =>
.l (.arith .sub .i64) [(n y0 3), x24] fun x27 =>
.l (.arith .quo .i64) [x1, (i 8)] fun x28 =>
.l (.cmp .lss .i64) [x26, x27] fun x29 =>
.ite x29 (
.l (.cmp .geq .i64) [x26, x28] fun x30 =>
.fail) (
.l (.cmp .geq .i64) [x27, x28] fun x30 =>
.l (.arith .add .i64) [x24, (i 1)] fun x31 =>
.fail))) (
.call F.slices_partitionOrdered_string [(n y0 5), (n y0 2), (n y0 3), x14] fun x18 =>
.l (.tc 0) [x18] fun x19 =>
.l (.tc 1) [x18] fun x20 =>
.l (.arith .sub .i64) [x19, (n y0 2)] fun x21 =>
.l (.arith .sub .i64) [(n y0 3), x19] fun x22 =>
.l (.arith .quo .i64) [x1, (i 8)] fun x23 =>
.l (.cmp .lss .i64) [x21, x22] fun x24 =>
.ite x24 (
.l (.cmp .geq .i64) [x21, x23] fun x25 =>
.fail) (
.l (.cmp .geq .i64) [x22, x23] fun x25 =>
.l (.arith .add .i64) [x19, (i 1)] fun x26 =>
.fail)))) (
.l (.cmp .gtr .i64) [(n y0 2), (i 0)] fun x16 =>
.ite x16 (
.l (.arith .sub .i64) [(n y0 2), (i 1)] fun x17 =>
.l (.idx 1 false) [(n y0 5), x17] fun x18 =>
.l (.idx 1 false) [(n y0 5), x14] fun x19 =>
.call F.cmp_Less_string [x18, x19] fun x20 =>
.l .bnot [x20] fun x21 =>
.ite x21 (
.call F.slices_partitionEqualOrdered_string [(n y0 5), (n y0 2), (n y0 3), x14] fun x22 =>
.fail) (
.call F.slices_partitionOrdered_string [(n y0 5), (n y0 2), (n y0 3), x14] fun x22 =>
.l (.tc 0) [x22] fun x23 =>
.l (.tc 1) [x22] fun x24 =>
.l (.arith .sub .i64) [x23, (n y0 2)] fun x25 =>
.l (.arith .sub .i64) [(n y0 3), x23] fun x26 =>
.l (.arith .quo .i64) [x1, (i 8)] fun x27 =>
.l (.cmp .lss .i64) [x25, x26] fun x28 =>
.ite x28 (
.l (.cmp .geq .i64) [x25, x27] fun x29 =>
.fail) (
.l (.cmp .geq .i64) [x26, x27] fun x29 =>
.l (.arith .add .i64) [x23, (i 1)] fun x30 =>
.fail))) (
.call F.slices_partitionOrdered_string [(n y0 5), (n y0 2), (n y0 3), x14] fun x17 =>
.l (.tc 0) [x17] fun x18 =>
.l (.tc 1) [x17] fun x19 =>
.l (.arith .sub .i64) [x18, (n y0 2)] fun x20 =>
.l (.arith .sub .i64) [(n y0 3), x18] fun x21 =>
.l (.arith .quo .i64) [x1, (i 8)] fun x22 =>
.l (.cmp .lss .i64) [x20, x21] fun x23 =>
.ite x23 (
.l (.cmp .geq .i64) [x20, x22] fun x24 =>
.fail) (
.l (.cmp .geq .i64) [x21, x22] fun x24 =>
.l (.arith .add .i64) [x18, (i 1)] fun x25 =>
.fail)))) (
.l (.cmp .gtr .i64) [(n y0 2), (i 0)] fun x15 =>
.ite x15 (
.l (.arith .sub .i64) [(n y0 2), (i 1)] fun x16 =>
.l (.idx 1 false) [(n y0 5), x16] fun x17 =>
.l (.idx 1 false) [(n y0 5), x14] fun x18 =>
.call F.cmp_Less_string [x17, x18] fun x19 =>
.l .bnot [x19] fun x20 =>
.ite x20 (
.call F.slices_partitionEqualOrdered_string [(n y0 5), (n y0 2), (n y0 3), x14] fun x21 =>
.fail) (
.call F.slices_partitionOrdered_string [(n y0 5), (n y0 2), (n y0 3), x14] fun x21 =>
.l (.tc 0) [x21] fun x22 =>
.l (.tc 1) [x21] fun x23 =>
.l (.arith .sub .i64) [x22, (n y0 2)] fun x24 =>
.l (.arith .sub .i64) [(n y0 3), x22] fun x25 =>
.l (.arith .quo .i64) [x1, (i 8)] fun x26 =>
.l (.cmp .lss .i64) [x24, x25] fun x27 =>
.ite x27 (
.l (.cmp .geq .i64) [x24, x26] fun x28 =>
.fail) (
.l (.cmp .geq .i64) [x25, x26] fun x28 =>
.l (.arith .add .i64) [x22, (i 1)] fun x29 =>
.fail))) (
.call F.slices_partitionOrdered_string [(n y0 5), (n y0 2), (n y0 3), x14] fun x16 =>
.l (.tc 0) [x16] fun x17 =>
.l (.tc 1) [x16] fun x18 =>
.l (.arith .sub .i64) [x17, (n y0 2)] fun x19 =>
.l (.arith .sub .i64) [(n y0 3), x17] fun x20 =>
.l (.arith .quo .i64) [x1, (i 8)] fun x21 =>
.l (.cmp .lss .i64) [x19, x20] fun x22 =>
.ite x22 (
.l (.cmp .geq .i64) [x19, x21] fun x23 =>
.fail) (
.l (.cmp .geq .i64) [x20, x21] fun x23 =>
.l (.arith .add .i64) [x17, (i 1)] fun x24 =>
.fail)))) (
.l (.cmp .gtr .i64) [(n y0 2), (i 0)] fun x15 =>
.ite x15 (
.l (.arith .sub .i64) [(n y0 2), (i 1)] fun x16 =>
.l (.idx 1 false) [(n y0 5), x16] fun x17 =>
.l (.idx 1 false) [(n y0 5), x14] fun x18 =>
.call F.cmp_Less_string [x17, x18] fun x19 =>
.l .bnot [x19] fun x20 =>
.ite x20 (
.call F.slices_partitionEqualOrdered_string [(n y0 5), (n y0 2), (n y0 3), x14] fun x21 =>
.fail) (
.call F.slices_partitionOrdered_string [(n y0 5), (n y0 2), (n y0 3), x14] fun x21 =>
.l (.tc 0) [x21] fun x22 =>
.l (.tc 1) [x21] fun x23 =>
.l (.arith .sub .i64) [x22, (n y0 2)] fun x24 =>
.l (.arith .sub .i64) [(n y0 3), x22] fun x25 =>
.l (.arith .quo .i64) [x1, (i 8)] fun x26 =>
.l (.cmp .lss .i64) [x24, x25] fun x27 =>
.ite x27 (
.l (.cmp .geq .i64) [x24, x26] fun x28 =>
.fail) (
.l (.cmp .geq .i64) [x25, x26] fun x28 =>
.l (.arith .add .i64) [x22, (i 1)] fun x29 =>
.fail))) (
.call F.slices_partitionOrdered_string [(n y0 5), (n y0 2), (n y0 3), x14] fun x16 =>
.l (.tc 0) [x16] fun x17 =>
.l (.tc 1) [x16] fun x18 =>
.l (.arith .sub .i64) [x17, (n y0 2)] fun x19 =>
.l (.arith .sub .i64) [(n y0 3), x17] fun x20 =>
.l (.arith .quo .i64) [x1, (i 8)] fun x21 =>
.l (.cmp .lss .i64) [x19, x20] fun x22 =>
.ite x22 (
.l (.cmp .geq .i64) [x19, x21] fun x23 =>
.fail) (
.l (.cmp .geq .i64) [x20, x21] fun x23 =>
.l (.arith .add .i64) [x17, (i 1)] fun x24 =>
.fail)))) (
.ite (n y0 1) (
.ite (n y0 0) (
.l (.cmp .eql .i64) [x9, (i 1)] fun x11 =>
.ite x11 (
.call F.slices_partialInsertionSortOrdered_string [(n y0 5), (n y0 2), (n y0 3)] fun x12 =>
.ite x12 (
.fail) (
.l (.cmp .gtr .i64) [(n y0 2), (i 0)] fun x13 =>
.ite x13 (
.l (.arith .sub .i64) [(n y0 2), (i 1)] fun x14 =>
.l (.idx 1 false) [(n y0 5), x14] fun x15 =>
.l (.idx 1 false) [(n y0 5), x8] fun x16 =>
.call F.cmp_Less_string [x15, x16] fun x17 =>
.l .bnot [x17] fun x18 =>
.ite x18 (
.call F.slices_partitionEqualOrdered_string [(n y0 5), (n y0 2), (n y0 3), x8] fun x19 =>
.fail) (
.call F.slices_partitionOrdered_string [(n y0 5), (n y0 2), (n y0 3), x8] fun x19 =>
.l (.tc 0) [x19] fun x20 =>
.l (.tc 1) [x19] fun x21 =>
.l (.arith .sub .i64) [x20, (n y0 2)] fun x22 =>
.l (.arith .sub .i64) [(n y0 3), x20] fun x23 =>
.l (.arith .quo .i64) [x1, (i 8)] fun x24 =>
.l (.cmp .lss .i64) [x22, x23] fun x25 =>
.ite x25 (
.l (.cmp .geq .i64) [x22, x24] fun x26 =>
.fail) (
.l (.cmp .geq .i64) [x23, x24] fun x26 =>
.l (.arith .add .i64) [x20, (i 1)] fun x27 =>
.fail))) (
.call F.slices_partitionOrdered_string [(n y0 5), (n y0 2), (n y0 3), x8] fun x14 =>
.l (.tc 0) [x14] fun x15 =>
.l (.tc 1) [x14] fun x16 =>
.l (.arith .sub .i64) [x15, (n y0 2)] fun x17 =>
.l (.arith .sub .i64) [(n y0 3), x15] fun x18 =>
.l (.arith .quo .i64) [x1, (i 8)] fun x19 =>
.l (.cmp .lss .i64) [x17, x18] fun x20 =>
.ite x20 (
.l (.cmp .geq .i64) [x17, x19] fun x21 =>
.fail) (
.l (.cmp .geq .i64) [x18, x19] fun x21 =>
.l (.arith .add .i64) [x15, (i 1)] fun x22 =>
.fail)))) (
.l (.cmp .gtr .i64) [(n y0 2), (i 0)] fun x12 =>
.ite x12 (
.l (.arith .sub .i64) [(n y0 2), (i 1)] fun x13 =>
.l (.idx 1 false) [(n y0 5), x13] fun x14 =>
.l (.idx 1 false) [(n y0 5), x8] fun x15 =>
.call F.cmp_Less_string [x14, x15] fun x16 =>
.l .bnot [x16] fun x17 =>
.ite x17 (
.call F.slices_partitionEqualOrdered_string [(n y0 5), (n y0 2), (n y0 3), x8] fun x18 =>
.fail) (
.call F.slices_partitionOrdered_string [(n y0 5), (n y0 2), (n y0 3), x8] fun x18 =>
.l (.tc 0) [x18] fun x19 =>
.l (.tc 1) [x18] fun x20 =>
.l (.arith .sub .i64) [x19, (n y0 2)] fun x21 =>
.l (.arith .sub .i64) [(n y0 3), x19] fun x22 =>
.l (.arith .quo .i64) [x1, (i 8)] fun x23 =>
.l (.cmp .lss .i64) [x21, x22] fun x24 =>
.ite x24 (
.l (.cmp .geq .i64) [x21, x23] fun x25 =>
.fail) (
.l (.cmp .geq .i64) [x22, x23] fun x25 =>
.l (.arith .add .i64) [x19, (i 1)] fun x26 =>
.fail))) (
.call F.slices_partitionOrdered_string [(n y0 5), (n y0 2), (n y0 3), x8] fun x13 =>
.l (.tc 0) [x13] fun x14 =>
.l (.tc 1) [x13] fun x15 =>
.l (.arith .sub .i64) [x14, (n y0 2)] fun x16 =>
.l (.arith .sub .i64) [(n y0 3), x14] fun x17 =>
.l (.arith .quo .i64) [x1, (i 8)] fun x18 =>
.l (.cmp .lss .i64) [x16, x17] fun x19 =>
.ite x19 (
.l (.cmp .geq .i64) [x16, x18] fun x20 =>
.fail) (
.l (.cmp .geq .i64) [x17, x18] fun x20 =>
.l (.arith .add .i64) [x14, (i 1)] fun x21 =>
.fail)))) (
.l (.cmp .gtr .i64) [(n y0 2), (i 0)] fun x11 =>
.ite x11 (
.l (.arith .sub .i64) [(n y0 2), (i 1)] fun x12 =>
.l (.idx 1 false) [(n y0 5), x12] fun x13 =>
.l (.idx 1 false) [(n y0 5), x8] fun x14 =>
.call F.cmp_Less_string [x13, x14] fun x15 =>
.l .bnot [x15] fun x16 =>
.ite x16 (
.call F.slices_partitionEqualOrdered_string [(n y0 5), (n y0 2), (n y0 3), x8] fun x17 =>
.fail) (
.call F.slices_partitionOrdered_string [(n y0 5), (n y0 2), (n y0 3), x8] fun x17 =>
.l (.tc 0) [x17] fun x18 =>
.l (.tc 1) [x17] fun x19 =>
.l (.arith .sub .i64) [x18, (n y0 2)] fun x20 =>
.l (.arith .sub .i64) [(n y0 3), x18] fun x21 =>
.l (.arith .quo .i64) [x1, (i 8)] fun x22 =>
.l (.cmp .lss .i64) [x20, x21] fun x23 =>
.ite x23 (
.l (.cmp .geq .i64) [x20, x22] fun x24 =>
.fail) (
.l (.cmp .geq .i64) [x21, x22] fun x24 =>
.l (.arith .add .i64) [x18, (i 1)] fun x25 =>
.fail))) (
.call F.slices_partitionOrdered_string [(n y0 5), (n y0 2), (n y0 3), x8] fun x12 =>
.l (.tc 0) [x12] fun x13 =>
.l (.tc 1) [x12] fun x14 =>
.l (.arith .sub .i64) [x13, (n y0 2)] fun x15 =>
.l (.arith .sub .i64) [(n y0 3), x13] fun x16 =>
.l (.arith .quo .i64) [x1, (i 8)] fun x17 =>
.l (.cmp .lss .i64) [x15, x16] fun x18 =>
.ite x18 (
.l (.cmp .geq .i64) [x15, x17] fun x19 =>
.fail) (
.l (.cmp .geq .i64) [x16, x17] fun x19 =>
.l (.arith .add .i64) [x13, (i 1)] fun x20 =>
.fail)))) (
.l (.cmp .gtr .i64) [(n y0 2), (i 0)] fun x11 =>
.ite x11 (
.l (.arith .sub .i64) [(n y0 2), (i 1)] fun x12 =>
.l (.idx 1 false) [(n y0 5), x12] fun x13 =>
.l (.idx 1 false) [(n y0 5), x8] fun x14 =>
.call F.cmp_Less_string [x13, x14] fun x15 =>
.l .bnot [x15] fun x16 =>
.ite x16 (
.call F.slices_partitionEqualOrdered_string [(n y0 5), (n y0 2), (n y0 3), x8] fun x17 =>
.fail) (
.call F.slices_partitionOrdered_string [(n y0 5), (n y0 2), (n y0 3), x8] fun x17 =>
.l (.tc 0) [x17] fun x18 =>
.l (.tc 1) [x17] fun x19 =>
.l (.arith .sub .i64) [x18, (n y0 2)] fun x20 =>
.l (.arith .sub .i64) [(n y0 3), x18] fun x21 =>
.l (.arith .quo .i64) [x1, (i 8)] fun x22 =>
.l (.cmp .lss .i64) [x20, x21] fun x23 =>
.ite x23 (
.l (.cmp .geq .i64) [x20, x22] fun x24 =>
.fail) (
.l (.cmp .geq .i64) [x21, x22] fun x24 =>
.l (.arith .add .i64) [x18, (i 1)] fun x25 =>
.fail))) (
.call F.slices_partitionOrdered_string [(n y0 5), (n y0 2), (n y0 3), x8] fun x12 =>
.l (.tc 0) [x12] fun x13 =>
.l (.tc 1) [x12] fun x14 =>
.l (.arith .sub .i64) [x13, (n y0 2)] fun x15 =>
.l (.arith .sub .i64) [(n y0 3), x13] fun x16 =>
.l (.arith .quo .i64) [x1, (i 8)] fun x17 =>
.l (.cmp .lss .i64) [x15, x16] fun x18 =>
.ite x18 (
.l (.cmp .geq .i64) [x15, x17] fun x19 =>
.fail) (
.l (.cmp .geq .i64) [x16, x17] fun x19 =>
.l (.arith .add .i64) [x13, (i 1)] fun x20 =>
.fail))))) (
.call F.slices_choosePivotOrdered_string [(n y0 5), (n y0 2), (n y0 3)] fun x5 =>
.l (.tc 0) [x5] fun x6 =>
.l (.tc 1) [x5] fun x7 =>
.l (.cmp .eql .i64) [x7, (i 2)] fun x8 =>
.ite x8 (
.call F.slices_reverseRangeOrdered_string [(n y0 5), (n y0 2), (n y0 3)] fun x9 =>
.l (.arith .sub .i64) [(n y0 3), (i 1)] fun x10 =>
.l (.arith .sub .i64) [x6, (n y0 2)] fun x11 =>
.l (.arith .sub .i64) [x10, x11] fun x12 =>
.ite (n y0 1) (
.ite (n y0 0) (
.l (.cmp .eql .i64) [(i 1), (i 1)] fun x13 =>
.ite x13 (
.call F.slices_partialInsertionSortOrdered_string [(n y0 5), (n y0 2), (n y0 3)] fun x14 =>
.ite x14 (
.fail) (
.l (.cmp .gtr .i64) [(n y0 2), (i 0)] fun x15 =>
.ite x15 (
.l (.arith .sub .i64) [(n y0 2), (i 1)] fun x16 =>
.l (.idx 1 false) [(n y0 5), x16] fun x17 =>
.l (.idx 1 false) [(n y0 5), x12] fun x18 =>
.call F.cmp_Less_string [x17, x18] fun x19 =>
.l .bnot [x19] fun x20 =>
.ite x20 (
.call F.slices_partitionEqualOrdered_string [(n y0 5), (n y0 2), (n y0 3), x12] fun x21 =>
.fail) (
.call F.slices_partitionOrdered_string [(n y0 5), (n y0 2), (n y0 3), x12] fun x21 =>
.l (.tc 0) [x21] fun x22 =>
.l (.tc 1) [x21] fun x23 =>
.l (.arith .sub .i64) [x22, (n y0 2)] fun x24 =>
.l (.arith .sub .i64) [(n y0 3), x22] fun x25 =>
.l (.arith .quo .i64) [x1, (i 8)] fun x26 =>
.l (.cmp .lss .i64) [x24, x25] fun x27 =>
.ite x27 (
.l (.cmp .geq .i64) [x24, x26] fun x28 =>
.fail) (
.l (.cmp .geq .i64) [x25, x26] fun x28 =>
.l (.arith .add .i64) [x22, (i 1)] fun x29 =>
.fail))) (
.call F.slices_partitionOrdered_string [(n y0 5), (n y0 2), (n y0 3), x12] fun x16 =>
.l (.tc 0) [x16] fun x17 =>
.l (.tc 1) [x16] fun x18 =>
.l (.arith .sub .i64) [x17, (n y0 2)] fun x19 =>
.l (.arith .sub .i64) [(n y0 3), x17] fun x20 =>
.l (.arith .quo .i64) [x1, (i 8)] fun x21 =>
.l (.cmp .lss .i64) [x19, x20] fun x22 =>
.ite x22 (
.l (.cmp .geq .i64) [x19, x21] fun x23 =>
.fail) (
.l (.cmp .geq .i64) [x20, x21] fun x23 =>
.l (.arith .add .i64) [x17, (i 1)] fun x24 =>
.fail)))) (
.l (.cmp .gtr .i64) [(n y0 2), (i 0)] fun x14 =>
.ite x14 (
.l (.arith .sub .i64) [(n y0 2), (i 1)] fun x15 =>
.l (.idx 1 false) [(n y0 5), x15] fun x16 =>
.l (.idx 1 false) [(n y0 5), x12] fun x17 =>
.call F.cmp_Less_string [x16, x17] fun x18 =>
.l .bnot [x18] fun x19 =>
.ite x19 (
.call F.slices_partitionEqualOrdered_string [(n y0 5), (n y0 2), (n y0 3), x12] fun x20 =>
.fail) (
.call F.slices_partitionOrdered_string [(n y0 5), (n y0 2), (n y0 3), x12] fun x20 =>
.l (.tc 0) [x20] fun x21 =>
.l (.tc 1) [x20] fun x22 =>
.l (.arith .sub .i64) [x21, (n y0 2)] fun x23 =>
.l (.arith .sub .i64) [(n y0 3), x21] fun x24 =>
.l (.arith .quo .i64) [x1, (i 8)] fun x25 =>
.l (.cmp .lss .i64) [x23, x24] fun x26 =>
.ite x26 (
.l (.cmp .geq .i64) [x23, x25] fun x27 =>
.fail) (
.l (.cmp .geq .i64) [x24, x25] fun x27 =>
.l (.arith .add .i64) [x21, (i 1)] fun x28 =>
.fail))) (
.call F.slices_partitionOrdered_string [(n y0 5), (n y0 2), (n y0 3), x12] fun x15 =>
.l (.tc 0) [x15] fun x16 =>
.l (.tc 1) [x15] fun x17 =>
.l (.arith .sub .i64) [x16, (n y0 2)] fun x18 =>
.l (.arith .sub .i64) [(n y0 3), x16] fun x19 =>
.l (.arith .quo .i64) [x1, (i 8)] fun x20 =>
.l (.cmp .lss .i64) [x18, x19] fun x21 =>
.ite x21 (
.l (.cmp .geq .i64) [x18, x20] fun x22 =>
.fail) (
.l (.cmp .geq .i64) [x19, x20] fun x22 =>
.l (.arith .add .i64) [x16, (i 1)] fun x23 =>
.fail)))) (
.l (.cmp .gtr .i64) [(n y0 2), (i 0)] fun x13 =>
.ite x13 (
.l (.arith .sub .i64) [(n y0 2), (i 1)] fun x14 =>
.l (.idx 1 false) [(n y0 5), x14] fun x15 =>
.l (.idx 1 false) [(n y0 5), x12] fun x16 =>
.call F.cmp_Less_string [x15, x16] fun x17 =>
.l .bnot [x17] fun x18 =>
.ite x18 (
.call F.slices_partitionEqualOrdered_string [(n y0 5), (n y0 2), (n y0 3), x12] fun x19 =>
.fail) (
.call F.slices_partitionOrdered_string [(n y0 5), (n y0 2), (n y0 3), x12] fun x19 =>
.l (.tc 0) [x19] fun x20 =>
.l (.tc 1) [x19] fun x21 =>
.l (.arith .sub .i64) [x20, (n y0 2)] fun x22 =>
.l (.arith .sub .i64) [(n y0 3), x20] fun x23 =>
.l (.arith .quo .i64) [x1, (i 8)] fun x24 =>
.l (.cmp .lss .i64) [x22, x23] fun x25 =>
.ite x25 (
.l (.cmp .geq .i64) [x22, x24] fun x26 =>
.fail) (
.l (.cmp .geq .i64) [x23, x24] fun x26 =>
.l (.arith .add .i64) [x20, (i 1)] fun x27 =>
.fail))) (
.call F.slices_partitionOrdered_string [(n y0 5), (n y0 2), (n y0 3), x12] fun x14 =>
.l (.tc 0) [x14] fun x15 =>
.l (.tc 1) [x14] fun x16 =>
.l (.arith .sub .i64) [x15, (n y0 2)] fun x17 =>
.l (.arith .sub .i64) [(n y0 3), x15] fun x18 =>
.l (.arith .quo .i64) [x1, (i 8)] fun x19 =>
.l (.cmp .lss .i64) [x17, x18] fun x20 =>
.ite x20 (
.l (.cmp .geq .i64) [x17, x19] fun x21 =>
.fail) (
.l (.cmp .geq .i64) [x18, x19] fun x21 =>
.l (.arith .add .i64) [x15, (i 1)] fun x22 =>
.fail)))) (
.l (.cmp .gtr .i64) [(n y0 2), (i 0)] fun x13 =>
.ite x13 (
.l (.arith .sub .i64) [(n y0 2), (i 1)] fun x14 =>
.l (.idx 1 false) [(n y0 5), x14] fun x15 =>
.l (.idx 1 false) [(n y0 5), x12] fun x16 =>
.call F.cmp_Less_string [x15, x16] fun x17 =>
.l .bnot [x17] fun x18 =>
.ite x18 (
.call F.slices_partitionEqualOrdered_string [(n y0 5), (n y0 2), (n y0 3), x12] fun x19 =>
.fail) (
.call F.slices_partitionOrdered_string [(n y0 5), (n y0 2), (n y0 3), x12] fun x19 =>
.l (.tc 0) [x19] fun x20 =>
.l (.tc 1) [x19] fun x21 =>
.l (.arith .sub .i64) [x20, (n y0 2)] fun x22 =>
.l (.arith .sub .i64) [(n y0 3), x20] fun x23 =>
.l (.arith .quo .i64) [x1, (i 8)] fun x24 =>
.l (.cmp .lss .i64) [x22, x23] fun x25 =>
.ite x25 (
.l (.cmp .geq .i64) [x22, x24] fun x26 =>
.fail) (
.l (.cmp .geq .i64) [x23, x24] fun x26 =>
.l (.arith .add .i64) [x20, (i 1)] fun x27 =>
.fail))) (
.call F.slices_partitionOrdered_string [(n y0 5), (n y0 2), (n y0 3), x12] fun x14 =>
.l (.tc 0) [x14] fun x15 =>
.l (.tc 1) [x14] fun x16 =>
.l (.arith .sub .i64) [x15, (n y0 2)] fun x17 =>
.l (.arith .sub .i64) [(n y0 3), x15] fun x18 =>
.l (.arith .quo .i64) [x1, (i 8)] fun x19 =>
.l (.cmp .lss .i64) [x17, x18] fun x20 =>
.ite x20 (
.l (.cmp .geq .i64) [x17, x19] fun x21 =>
.fail) (
.l (.cmp .geq .i64) [x18, x19] fun x21 =>
.l (.arith .add .i64) [x15, (i 1)] fun x22 =>
.fail)))) (
.ite (n y0 1) (
.ite (n y0 0) (
.l (.cmp .eql .i64) [x7, (i 1)] fun x9 =>
.ite x9 (
.call F.slices_partialInsertionSortOrdered_string [(n y0 5), (n y0 2), (n y0 3)] fun x10 =>
.ite x10 (
.fail) (
.l (.cmp .gtr .i64) [(n y0 2), (i 0)] fun x11 =>
.ite x11 (
.l (.arith .sub .i64) [(n y0 2), (i 1)] fun x12 =>
.l (.idx 1 false) [(n y0 5), x12] fun x13 =>
.l (.idx 1 false) [(n y0 5), x6] fun x14 =>
.call F.cmp_Less_string [x13, x14] fun x15 =>
.l .bnot [x15] fun x16 =>
.ite x16 (
.call F.slices_partitionEqualOrdered_string [(n y0 5), (n y0 2), (n y0 3), x6] fun x17 =>
.fail) (
.call F.slices_partitionOrdered_string [(n y0 5), (n y0 2), (n y0 3), x6] fun x17 =>
.l (.tc 0) [x17] fun x18 =>
.l (.tc 1) [x17] fun x19 =>
.l (.arith .sub .i64) [x18, (n y0 2)] fun x20 =>
.l (.arith .sub .i64) [(n y0 3), x18] fun x21 =>
.l (.arith .quo .i64) [x1, (i 8)] fun x22 =>
.l (.cmp .lss .i64) [x20, x21] fun x23 =>
.ite x23 (
.l (.cmp .geq .i64) [x20, x22] fun x24 =>
.fail) (
.l (.cmp .geq .i64) [x21, x22] fun x24 =>
.l (.arith .add .i64) [x18, (i 1)] fun x25 =>
.fail))) (
.call F.slices_partitionOrdered_string [(n y0 5), (n y0 2), (n y0 3), x6] fun x12 =>
.l (.tc 0) [x12] fun x13 =>
.l (.tc 1) [x12] fun x14 =>
.l (.arith .sub .i64) [x13, (n y0 2)] fun x15 =>
.l (.arith .sub .i64) [(n y0 3), x13] fun x16 =>
.l (.arith .quo .i64) [x1, (i 8)] fun x17 =>
.l (.cmp .lss .i64) [x15, x16] fun x18 =>
.ite x18 (
.l (.cmp .geq .i64) [x15, x17] fun x19 =>
.fail) (
.l (.cmp .geq .i64) [x16, x17] fun x19 =>
.l (.arith .add .i64) [x13, (i 1)] fun x20 =>
.fail)))) (
.l (.cmp .gtr .i64) [(n y0 2), (i 0)] fun x10 =>
.ite x10 (
.l (.arith .sub .i64) [(n y0 2), (i 1)] fun x11 =>
.l (.idx 1 false) [(n y0 5), x11] fun x12 =>
.l (.idx 1 false) [(n y0 5), x6] fun x13 =>
.call F.cmp_Less_string [x12, x13] fun x14 =>
.l .bnot [x14] fun x15 =>
.ite x15 (
.call F.slices_partitionEqualOrdered_string [(n y0 5), (n y0 2), (n y0 3), x6] fun x16 =>
.fail) (
.call F.slices_partitionOrdered_string [(n y0 5), (n y0 2), (n y0 3), x6] fun x16 =>
.l (.tc 0) [x16] fun x17 =>
.l (.tc 1) [x16] fun x18 =>
.l (.arith .sub .i64) [x17, (n y0 2)] fun x19 =>
.l (.arith .sub .i64) [(n y0 3), x17] fun x20 =>
.l (.arith .quo .i64) [x1, (i 8)] fun x21 =>
.l (.cmp .lss .i64) [x19, x20] fun x22 =>
.ite x22 (
.l (.cmp .geq .i64) [x19, x21] fun x23 =>
.fail) (
.l (.cmp .geq .i64) [x20, x21] fun x23 =>
.l (.arith .add .i64) [x17, (i 1)] fun x24 =>
.fail))) (
.call F.slices_partitionOrdered_string [(n y0 5), (n y0 2), (n y0 3), x6] fun x11 =>
.l (.tc 0) [x11] fun x12 =>
.l (.tc 1) [x11] fun x13 =>
.l (.arith .sub .i64) [x12, (n y0 2)] fun x14 =>
.l (.arith .sub .i64) [(n y0 3), x12] fun x15 =>
.l (.arith .quo .i64) [x1, (i 8)] fun x16 =>
.l (.cmp .lss .i64) [x14, x15] fun x17 =>
.ite x17 (
.l (.cmp .geq .i64) [x14, x16] fun x18 =>
.fail) (
.l (.cmp .geq .i64) [x15, x16] fun x18 =>
.l (.arith .add .i64) [x12, (i 1)] fun x19 =>
.fail)))) (
.l (.cmp .gtr .i64) [(n y0 2), (i 0)] fun x9 =>
.ite x9 (
.l (.arith .sub .i64) [(n y0 2), (i 1)] fun x10 =>
.l (.idx 1 false) [(n y0 5), x10] fun x11 =>
.l (.idx 1 false) [(n y0 5), x6] fun x12 =>
.call F.cmp_Less_string [x11, x12] fun x13 =>
.l .bnot [x13] fun x14 =>
.ite x14 (
.call F.slices_partitionEqualOrdered_string [(n y0 5), (n y0 2), (n y0 3), x6] fun x15 =>
.fail) (
.call F.slices_partitionOrdered_string [(n y0 5), (n y0 2), (n y0 3), x6] fun x15 =>
.l (.tc 0) [x15] fun x16 =>
.l (.tc 1) [x15] fun x17 =>
.l (.arith .sub .i64) [x16, (n y0 2)] fun x18 =>
.l (.arith .sub .i64) [(n y0 3), x16] fun x19 =>
.l (.arith .quo .i64) [x1, (i 8)] fun x20 =>
.l (.cmp .lss .i64) [x18, x19] fun x21 =>
.ite x21 (
.l (.cmp .geq .i64) [x18, x20] fun x22 =>
.fail) (
.l (.cmp .geq .i64) [x19, x20] fun x22 =>
.l (.arith .add .i64) [x16, (i 1)] fun x23 =>
.fail))) (
.call F.slices_partitionOrdered_string [(n y0 5), (n y0 2), (n y0 3), x6] fun x10 =>
.l (.tc 0) [x10] fun x11 =>
.l (.tc 1) [x10] fun x12 =>
.l (.arith .sub .i64) [x11, (n y0 2)] fun x13 =>
.l (.arith .sub .i64) [(n y0 3), x11] fun x14 =>
.l (.arith .quo .i64) [x1, (i 8)] fun x15 =>
.l (.cmp .lss .i64) [x13, x14] fun x16 =>
.ite x16 (
.l (.cmp .geq .i64) [x13, x15] fun x17 =>
.fail) (
.l (.cmp .geq .i64) [x14, x15] fun x17 =>
.l (.arith .add .i64) [x11, (i 1)] fun x18 =>
.fail)))) (
.l (.cmp .gtr .i64) [(n y0 2), (i 0)] fun x9 =>
.ite x9 (
.l (.arith .sub .i64) [(n y0 2), (i 1)] fun x10 =>
.l (.idx 1 false) [(n y0 5), x10] fun x11 =>
.l (.idx 1 false) [(n y0 5), x6] fun x12 =>
.call F.cmp_Less_string [x11, x12] fun x13 =>
.l .bnot [x13] fun x14 =>
.ite x14 (
.call F.slices_partitionEqualOrdered_string [(n y0 5), (n y0 2), (n y0 3), x6] fun x15 =>
.fail) (
.call F.slices_partitionOrdered_string [(n y0 5), (n y0 2), (n y0 3), x6] fun x15 =>
.l (.tc 0) [x15] fun x16 =>
.l (.tc 1) [x15] fun x17 =>
.l (.arith .sub .i64) [x16, (n y0 2)] fun x18 =>
.l (.arith .sub .i64) [(n y0 3), x16] fun x19 =>
.l (.arith .quo .i64) [x1, (i 8)] fun x20 =>
.l (.cmp .lss .i64) [x18, x19] fun x21 =>
.ite x21 (
.l (.cmp .geq .i64) [x18, x20] fun x22 =>
.fail) (
.l (.cmp .geq .i64) [x19, x20] fun x22 =>
.l (.arith .add .i64) [x16, (i 1)] fun x23 =>
.fail))) (
.call F.slices_partitionOrdered_string [(n y0 5), (n y0 2), (n y0 3), x6] fun x10 =>
.l (.tc 0) [x10] fun x11 =>
.l (.tc 1) [x10] fun x12 =>
.l (.arith .sub .i64) [x11, (n y0 2)] fun x13 =>
.l (.arith .sub .i64) [(n y0 3), x11] fun x14 =>
.l (.arith .quo .i64) [x1, (i 8)] fun x15 =>
.l (.cmp .lss .i64) [x13, x14] fun x16 =>
.ite x16 (
.l (.cmp .geq .i64) [x13, x15] fun x17 =>
.fail) (
.l (.cmp .geq .i64) [x14, x15] fun x17 =>
.l (.arith .add .i64) [x11, (i 1)] fun x18 =>
.fail)))))))
theorem m_slices_pdqsortOrdered_string_Nil : TxOkS P F.slices_pdqsortOrdered_string sg_slices_pdqsortOrdered_string_Nil u_slices_pdqsortOrdered_string_Nil := txOkS_of (H := { wr := [], ro := [], nl := [], fz := [], da := [], sigs := [(28, sg_slices_Sort_int_int), (63, sg_graph_set_add), (64, sg_slices_pdqsortOrdered_int_Nil), (114, sg_slices_insertionSortOrdered_int), (139, sg_slices_Sort_string_string), (190, sg_slices_pdqsortOrdered_string_Nil), (233, sg_slices_insertionSortOrdered_string)] }) (plans := []) hm Tryz.func190 rfl fun xs => by kernel_rfl
def t_slices_ContainsFunc_api_Value_api_Value (xs : List PV) : T PV :=
.call F.slices_IndexFunc_api_Value_api_Value [(n xs 0), (n xs 1)] fun x0 =>
.l (.cmp .geq .i64) [x0, (i 0)] fun x1 =>
.ret x1
theorem k_slices_ContainsFunc_api_Value_api_Value : TxOk P F.slices_ContainsFunc_api_Value_api_Value 2 t_slices_ContainsFunc_api_Value_api_Value := txOk_of (H := {}) (plans := []) hm Tryz.func192 rfl rfl fun xs => by kernel_rfl
def t_scope_walker_node_1 (xs : List PV) : T PV :=
.l (.okc 3 true) [(n xs 0)] fun x0 =>
.l (.cmp .eql .i64) [(c 0 x0), (i 1)] fun x1 =>
.ite x1 (
.l (.unbox 1 false) [(n xs 1)] fun x2 =>
.l (.mget false [.s] (.bool false)) [x2, (c 1 x0)] fun x3 =>
.l .bnot [x3] fun x4 =>
.ret x4) (
.ret (.bool false))
theorem k_scope_walker_node_1 : TxOk P F.scope_walker_node_1 2 t_scope_walker_node_1 := txOk_of (H := {}) (plans := []) hm Tryz.func193 rfl rfl fun xs => by kernel_rfl
def t_scope_bound (xs : List PV) : T PV :=
.l (.okc 12 true) [(n xs 0)] fun x0 =>
.l (.cmp .eql .i64) [(c 0 x0), (i 3)] fun x1 =>
.ite x1 (
.l (.lst 1 false) [(c 2 x0)] fun x2 =>
.ret x2) (
.l (.cmp .eql .i64) [(c 0 x0), (i 6)] fun x2 =>
.ite x2 (
.l (.lst 1 false) [(c 1 x0), (c 2 x0)] fun x3 =>
.ret x3) (
.ret (.sl [])))
theorem k_scope_bound : TxOk P F.scope_bound 1 t_scope_bound := txOk_of (H := {}) (plans := []) hm Tryz.func194 rfl rfl fun xs => by kernel_rfl
def t_scope_walker_call (xs : List PV) : T PV :=
.l (.okc 14 true) [(n xs 0)] fun x0 =>
.l (.okc 12 true) [(n xs 1)] fun x1 =>
.call F.scope_Find [(sb 0 13 x0), (c 1 x1)] fun x2 =>
.l (.tc 0) [x2] fun x3 =>
.l (.tc 1) [x2] fun x4 =>
.l .bnot [x4] fun x5 =>
.ite x5 (
.ret (i 4)) (
.l (.idx 14 true) [(c 0 x0), x3] fun x6 =>
.l .len [(c 1 x6)] fun x7 =>
.l .len [(c 4 x1)] fun x8 =>
.l (.cmp .neq .i64) [x7, x8] fun x9 =>
.ite x9 (
.ret (i 6)) (
.l .bnot [(n xs 2)] fun x10 =>
.ite x10 (
.ret (i 7)) (
.ret (i 0))))
theorem k_scope_walker_call : TxOk P F.scope_walker_call 3 t_scope_walker_call := txOk_of (H := {}) (plans := []) hm Tryz.func195 rfl rfl fun xs => by kernel_rfl
def t_typetree_nodes_1 (xs : List PV) : T PV :=
.l (.unbox 6 true) [(n xs 1)] fun x0 =>
.call F.typetree_visit [x0, (n xs 0)] fun x1 =>
.ret (.tup [])
theorem k_typetree_nodes_1 : TxOk P F.typetree_nodes_1 2 t_typetree_nodes_1 := txOk_of (H := {}) (plans := []) hm Tryz.func196 rfl rfl fun xs => by kernel_rfl
def v_typetree_nodes_1 (xs : List PV) : T PV :=
.l (.unbox 6 true) [(n xs 1)] fun x0 =>
.callx F.typetree_visit [(some x0), none] (n xs 2) fun x1 s1 =>
.ret (.tup [(.tup []), s1])
theorem x_typetree_nodes_1 (X : Xt) (hX : XtC P X) : @TxOkX { l := gl.l, x := X } P F.typetree_nodes_1 2 [0] v_typetree_nodes_1 := @txOkX_of { l := gl.l, x := X } P (@XC.mk P { l := gl.l, x := X } hX) {} [] _ _ _ _ _ hm Tryz.func196 rfl rfl fun xs => by kernel_rfl
def t_typetree_visit (xs : List PV) : T PV :=
.l (.okc 6 true) [(n xs 0)] fun x0 =>
.callv (n xs 1) [x0] fun x1 =>
.l .bnot [x1] fun x2 =>
.ite x2 (
.ret (.bool false)) (
.l .len [(c 5 x0)] fun x3 =>
.loop [(i 0)] fun y4 =>
.l (.cmp .lss .i64) [(n y4 0), x3] fun x5 =>
.ite x5 (
.l (.idx 6 true) [(c 5 x0), (n y4 0)] fun x6 =>
.l (.okc 6 true) [x6] fun x7 =>
.call F.typetree_visit [x7, (n xs 1)] fun x8 =>
.l .bnot [x8] fun x9 =>
.ite x9 (
.ret (.bool false)) (
.l (.arith .add .i64) [(n y4 0), (i 1)] fun x10 =>
.cont 0 [x10])) (
.ret (.bool true)))
theorem k_typetree_visit : TxOk P F.typetree_visit 2 t_typetree_visit := txOk_of (H := {}) (plans := []) hm Tryz.func197 rfl rfl fun xs => by kernel_rfl
def v_typetree_visit (xs : List PV) : T PV :=
.l (.okc 6 true) [(n xs 0)] fun x0 =>
.yld [x0] (n xs 2) fun x1 s1 =>
.l .bnot [x1] fun x2 =>
.ite x2 (
.ret (.tup [(.bool false), s1])) (
.l .len [(c 5 x0)] fun x3 =>
.loop [(i 0), s1] fun y4 =>
.l (.cmp .lss .i64) [(n y4 0), x3] fun x5 =>
.ite x5 (
.l (.idx 6 true) [(c 5 x0), (n y4 0)] fun x6 =>
.l (.okc 6 true) [x6] fun x7 =>
.callx F.typetree_visit [(some x7), none] (n y4 1) fun x8 s8 =>
.l .bnot [x8] fun x9 =>
.ite x9 (
.ret (.tup [(.bool false), s8])) (
.l (.arith .add .i64) [(n y4 0), (i 1)] fun x10 =>
.cont 0 [x10, s8])) (
.ret (.tup [(.bool true), (n y4 1)])))
theorem x_typetree_visit (X : Xt) (hX : XtC P X) : @TxOkX { l := gl.l, x := X } P F.typetree_visit 2 [1] v_typetree_visit := @txOkX_of { l := gl.l, x := X } P (@XC.mk P { l := gl.l, x := X } hX) {} [] _ _ _ _ _ hm Tryz.func197 rfl rfl fun xs => by kernel_rfl
def t_typetree_rules (xs : List PV) : T PV :=
.l (.mset false [.i .i64]) [(.mp [] []), (i 1), (.agg [(.bool false), (.bool false), (.bool false), (.bool false), (i 0)])] fun x0 =>
.l (.mset false [.i .i64]) [x0, (i 2), (.agg [(.bool false), (.bool false), (.bool false), (.bool false), (i 0)])] fun x1 =>
.l (.mset false [.i .i64]) [x1, (i 3), (.agg [(.bool false), (.bool false), (.bool false), (.bool false), (i 0)])] fun x2 =>
.l (.mset false [.i .i64]) [x2, (i 4), (.agg [(.bool true), (.bool false), (.bool false), (.bool false), (i 2)])] fun x3 =>
.l (.mset false [.i .i64]) [x3, (i 5), (.agg [(.bool true), (.bool false), (.bool false), (.bool false), (i 2)])] fun x4 =>
.l (.mset false [.i .i64]) [x4, (i 6), (.agg [(.bool true), (.bool false), (.bool false), (.bool true), (i (-1))])] fun x5 =>
.l (.mset false [.i .i64]) [x5, (i 7), (.agg [(.bool true), (.bool false), (.bool false), (.bool true), (i (-1))])] fun x6 =>
.l (.mset false [.i .i64]) [x6, (i 8), (.agg [(.bool false), (.bool true), (.bool false), (.bool false), (i 1)])] fun x7 =>
.l (.mset false [.i .i64]) [x7, (i 9), (.agg [(.bool false), (.bool true), (.bool true), (.bool false), (i 0)])] fun x8 =>
.ret x8
theorem k_typetree_rules : TxOk P F.typetree_rules 0 t_typetree_rules := txOk_of (H := {}) (plans := []) hm Tryz.func198 rfl rfl fun xs => by kernel_rfl
def t_typetree_within (xs : List PV) : T PV :=
.l (.cmp .eql .i64) [(n xs 0), (i 0)] fun x0 =>
.ite x0 (
.ret (.bool true)) (
.ite (n xs 1) (
.l (.cmp .gtr .i64) [(n xs 0), (i 0)] fun x1 =>
.ite x1 (
.l (.cmp .leq .i64) [(n xs 0), (i 1000000)] fun x2 =>
.ret x2) (
.ret (.bool false))) (
.ret (.bool false)))
theorem k_typetree_within : TxOk P F.typetree_within 2 t_typetree_within := txOk_of (H := {}) (plans := []) hm Tryz.func199 rfl rfl fun xs => by kernel_rfl
def t_typetree_distinct (xs : List PV) : T PV :=
.l .len [(n xs 0)] fun x0 =>
.loop [(i 0), (.mp [] [])] fun y1 =>
.l (.cmp .lss .i64) [(n y1 0), x0] fun x2 =>
.ite x2 (
.l (.idx 1 false) [(n xs 0), (n y1 0)] fun x3 =>
.call F.lex_Name [x3] fun x4 =>
.l .bnot [x4] fun x5 =>
.ite x5 (
.ret (.bool false)) (
.l (.mget false [.s] (.bool false)) [(n y1 1), x3] fun x6 =>
.ite x6 (
.ret (.bool false)) (
.l (.mset false [.s]) [(n y1 1), x3, (.bool true)] fun x7 =>
.l (.arith .add .i64) [(n y1 0), (i 1)] fun x8 =>
.cont 0 [x8, x7]))) (
.ret (.bool true))
theorem k_typetree_distinct : TxOk P F.typetree_distinct 1 t_typetree_distinct := txOk_of (H := {}) (plans := []) hm Tryz.func200 rfl rfl fun xs => by kernel_rfl
def t_slices_Backward_typetree_bound_typetree_bound (xs : List PV) : T PV :=
.l (.okc 1 false) [(n xs 0)] fun x0 =>
.ret (.fn F.slices_Backward_typetree_bound_typetree_bound_1 [] [(.box x0)])
theorem k_slices_Backward_typetree_bound_typetree_bound : TxOk P F.slices_Backward_typetree_bound_typetree_bound 1 t_slices_Backward_typetree_bound_typetree_bound := txOk_of (H := {}) (plans := []) hm Tryz.func201 rfl rfl fun xs => by kernel_rfl
def t_ref02_prio (xs : List PV) : T PV :=
.l (.cmp .geq .i64) [(n xs 0), (i 0)] fun x0 =>
.ite x0 (
.l (.cmp .leq .i64) [(n xs 0), (i 1000000)] fun x1 =>
.ret x1) (
.ret (.bool false))
theorem k_ref02_prio : TxOk P F.ref02_prio 1 t_ref02_prio := txOk_of (H := {}) (plans := []) hm Tryz.func202 rfl rfl fun xs => by kernel_rfl
def t_ref02_Labels (xs : List PV) : T PV :=
.loop [(i 0)] fun y0 =>
.l .len [(n xs 0)] fun x1 =>
.l (.cmp .lss .i64) [(n y0 0), x1] fun x2 =>
.ite x2 (
.l (.idx 1 false) [(n xs 0), (n y0 0)] fun x3 =>
.call F.ref01_Name [x3] fun x4 =>
.l .bnot [x4] fun x5 =>
.ite x5 (
.ret (.bool false)) (
.l (.idx 1 false) [(n xs 0), (n y0 0)] fun x6 =>
.l (.slcT 1 false) [(n xs 0), (n y0 0)] fun x7 =>
.call F.ref02_in [x6, x7] fun x8 =>
.ite x8 (
.ret (.bool false)) (
.l (.arith .add .i64) [(n y0 0), (i 1)] fun x9 =>
.cont 0 [x9]))) (
.ret (.bool true))
theorem k_ref02_Labels : TxOk P F.ref02_Labels 1 t_ref02_Labels := txOk_of (H := {}) (plans := []) hm Tryz.func203 rfl rfl fun xs => by kernel_rfl
def t_ref01_Name (xs : List PV) : T PV :=
.call F.ref01_Word [(n xs 0)] fun x0 =>
.ite x0 (
.call F.ref01_Keyword [(n xs 0)] fun x1 =>
.l .bnot [x1] fun x2 =>
.ret x2) (
.ret (.bool false))
theorem k_ref01_Name : TxOk P F.ref01_Name 1 t_ref01_Name := txOk_of (H := {}) (plans := []) hm Tryz.func204 rfl rfl fun xs => by kernel_rfl
def t_internal_strconv_small (xs : List PV) : T PV :=
.l (.cmp .lss .i64) [(n xs 0), (i 10)] fun x0 =>
.ite x0 (
.l (.arith .add .i64) [(n xs 0), (i 1)] fun x1 =>
.l .ssl [(.str ⟨#[48, 49, 50, 51, 52, 53, 54, 55, 56, 57, 97, 98, 99, 100, 101, 102, 103, 104, 105, 106, 107, 108, 109, 110, 111, 112, 113, 114, 115, 116, 117, 118, 119, 120, 121, 122]⟩), (n xs 0), x1] fun x2 =>
.ret x2) (
.l (.arith .mul .i64) [(n xs 0), (i 2)] fun x1 =>
.l (.arith .mul .i64) [(n xs 0), (i 2)] fun x2 =>
.l (.arith .add .i64) [x2, (i 2)] fun x3 =>
.l .ssl [(.str ⟨#[48, 48, 48, 49, 48, 50, 48, 51, 48, 52, 48, 53, 48, 54, 48, 55, 48, 56, 48, 57, 49, 48, 49, 49, 49, 50, 49, 51, 49, 52, 49, 53, 49, 54, 49, 55, 49, 56, 49, 57, 50, 48, 50, 49, 50, 50, 50, 51, 50, 52, 50, 53, 50, 54, 50, 55, 50, 56, 50, 57, 51, 48, 51, 49, 51, 50, 51, 51, 51, 52, 51, 53, 51, 54, 51, 55, 51, 56, 51, 57, 52, 48, 52, 49, 52, 50, 52, 51, 52, 52, 52, 53, 52, 54, 52, 55, 52, 56, 52, 57, 53, 48, 53, 49, 53, 50, 53, 51, 53, 52, 53, 53, 53, 54, 53, 55, 53, 56, 53, 57, 54, 48, 54, 49, 54, 50, 54, 51, 54, 52, 54, 53, 54, 54, 54, 55, 54, 56, 54, 57, 55, 48, 55, 49, 55, 50, 55, 51, 55, 52, 55, 53, 55, 54, 55, 55, 55, 56, 55, 57, 56, 48, 56, 49, 56, 50, 56, 51, 56, 52, 56, 53, 56, 54, 56, 55, 56, 56, 56, 57, 57, 48, 57, 49, 57, 50, 57, 51, 57, 52, 57, 53, 57, 54, 57, 55, 57, 56, 57, 57]⟩), x1, x3] fun x4 =>
.ret x4)
theorem k_internal_strconv_small : TxOk P F.internal_strconv_small 1 t_internal_strconv_small := txOk_of (H := {}) (plans := []) hm Tryz.func211 rfl rfl fun xs => by kernel_rfl
def t_internal_strconv_numDigits (xs : List PV) : T PV :=
.call F.math_bits_Len64 [(n xs 0)] fun x0 =>
.call F.internal_strconv_log10Pow2 [x0] fun x1 =>
.l (.aidx 20 1 false) [(.agg [(.int .u64 (1)), (.int .u64 (10)), (.int .u64 (100)), (.int .u64 (1000)), (.int .u64 (10000)), (.int .u64 (100000)), (.int .u64 (1000000)), (.int .u64 (10000000)), (.int .u64 (100000000)), (.int .u64 (1000000000)), (.int .u64 (10000000000)), (.int .u64 (100000000000)), (.int .u64 (1000000000000)), (.int .u64 (10000000000000)), (.int .u64 (100000000000000)), (.int .u64 (1000000000000000)), (.int .u64 (10000000000000000)), (.int .u64 (100000000000000000)), (.int .u64 (1000000000000000000)), (.int .u64 (10000000000000000000))]), x1] fun x2 =>
.l (.cmp .geq .u64) [(n xs 0), x2] fun x3 =>
.call F.internal_strconv_bool2_int [x3] fun x4 =>
.l (.arith .add .i64) [x1, x4] fun x5 =>
.ret x5
theorem k_internal_strconv_numDigits : TxOk P F.internal_strconv_numDigits 1 t_internal_strconv_numDigits := txOk_of (H := {}) (plans := []) hm Tryz.func212 rfl rfl fun xs => by kernel_rfl
-- NOT TOLD: 213 internal/strconv.formatBase10: 4
-- NOT TOLD: 214 internal/strconv.formatBits: 19
-- NOT TOLD: 215 slices.order2Ordered[int]: 1
def t_equal_offset (xs : List PV) : T PV :=
.l .bnot [(n xs 1)] fun x0 =>
.ite x0 (
.ret (.tup [(i 0), (.bool false)])) (
.ret (.tup [(n xs 0), (.bool true)]))
theorem k_equal_offset : TxOk P F.equal_offset 2 t_equal_offset := txOk_of (H := {}) (plans := []) hm Tryz.func216 rfl rfl fun xs => by kernel_rfl
def t_equal_Equal (xs : List PV) : T PV :=
.l (.okc 1 true) [(n xs 0)] fun x0 =>
.l (.okc 2 true) [(n xs 1)] fun x1 =>
.l (.okc 2 true) [(n xs 2)] fun x2 =>
.l (.okcs [(1, true), (1, false)]) [x0, (.fn F.equal_Equal_1 [] [(.box x0)])] fun x3 =>
.calls F.equal_comparison_equal sg_equal_comparison_equal [x1, x2, (c 0 x0), (.fn F.equal_Equal_1 [] [(.box x0)]), (.bool false), (.mp [] [])] fun z4 =>
.ret (n z4 0)
theorem k_equal_Equal : TxOk P F.equal_Equal 3 t_equal_Equal := txOk_of (H := { wr := [0, 1, 2, 3, 4, 5, 6, 7, 8, 9, 10, 11, 12, 13, 14, 15, 16, 17, 18, 19, 20, 21, 22, 23, 24, 25, 26, 27, 28, 29, 30, 31, 32, 33, 34, 35, 36, 37, 38, 39], ro := [], nl := [], fz := [], da := [], sigs := [(255, sg_equal_comparison_equal)] }) (plans := []) hm Tryz.func217 rfl rfl fun xs => by kernel_rfl
def t_slices_Sorted_string (xs : List PV) : T PV :=
.calls F.slices_Collect_string sg_slices_Collect_string [(n xs 0)] fun z0 =>
.calls F.slices_Sort_string_string sg_slices_Sort_string_string [(n z0 0)] fun z1 =>
.ret (n z1 1)
theorem k_slices_Sorted_string : TxOk P F.slices_Sorted_string 1 t_slices_Sorted_string := txOk_of (H := { wr := [], ro := [], nl := [], fz := [], da := [], sigs := [(28, sg_slices_Sort_int_int), (63, sg_graph_set_add), (64, sg_slices_pdqsortOrdered_int_Nil), (114, sg_slices_insertionSortOrdered_int), (139, sg_slices_Sort_string_string), (190, sg_slices_pdqsortOrdered_string_Nil), (233, sg_slices_insertionSortOrdered_string), (256, sg_slices_Collect_string)] }) (plans := []) hm Tryz.func218 rfl rfl fun xs => by kernel_rfl
def t_slices_Values_string_string (xs : List PV) : T PV :=
.l (.okc 1 false) [(n xs 0)] fun x0 =>
.ret (.fn F.slices_Values_string_string_1 [] [(.box x0)])
theorem k_slices_Values_string_string : TxOk P F.slices_Values_string_string 1 t_slices_Values_string_string := txOk_of (H := {}) (plans := []) hm Tryz.func219 rfl rfl fun xs => by kernel_rfl
def t_slices_Index_string_string (xs : List PV) : T PV :=
.l .len [(n xs 0)] fun x0 =>
.loop [(i 0)] fun y1 =>
.l (.cmp .lss .i64) [(n y1 0), x0] fun x2 =>
.ite x2 (
.l (.idx 1 false) [(n xs 0), (n y1 0)] fun x3 =>
.l (.scmp .eql) [(n xs 1), x3] fun x4 =>
.ite x4 (
.ret (n y1 0)) (
.l (.arith .add .i64) [(n y1 0), (i 1)] fun x5 =>
.cont 0 [x5])) (
.ret (i (-1)))
theorem k_slices_Index_string_string : TxOk P F.slices_Index_string_string 2 t_slices_Index_string_string := txOk_of (H := {}) (plans := []) hm Tryz.func220 rfl rfl fun xs => by kernel_rfl
-- NOT TOLD: 221 duologue/proctree.weight$1: 1
def u_proctree_weight_1 (xs : List PV) : T PV :=
.l (.okc 12 true) [(n xs 0)] fun x0 =>
.l (.arith .add .i64) [(n xs 1), (i 1)] fun x1 =>
.l (.okc 1 false) [x1] fun x2 =>
.l (.cmp .eql .i64) [(c 0 x0), (i 6)] fun x3 =>
.ite x3 (
.call F.typetree_Size [(sb 5 6 x0)] fun x4 =>
.l (.arith .add .i64) [x2, x4] fun x5 =>
.l (.okc 1 false) [x5] fun x6 =>
.ret (.tup [(.bool true), x6])) (
.ret (.tup [(.bool true), x2]))
theorem m_proctree_weight_1 : TxOkS P F.proctree_weight_1 sg_proctree_weight_1 u_proctree_weight_1 := txOkS_of (H := {}) (plans := []) hm Tryz.func221 rfl fun xs => by kernel_rfl
def t_slices_ContainsFunc_api_Proc_api_Proc (xs : List PV) : T PV :=
.call F.slices_IndexFunc_api_Proc_api_Proc [(n xs 0), (n xs 1)] fun x0 =>
.l (.cmp .geq .i64) [x0, (i 0)] fun x1 =>
.ret x1
theorem k_slices_ContainsFunc_api_Proc_api_Proc : TxOk P F.slices_ContainsFunc_api_Proc_api_Proc 2 t_slices_ContainsFunc_api_Proc_api_Proc := txOk_of (H := {}) (plans := []) hm Tryz.func222 rfl rfl fun xs => by kernel_rfl
def u_slices_ContainsFunc_api_Proc_api_Proc_Wg (xs : List PV) : T PV :=
.calls F.slices_IndexFunc_api_Proc_api_Proc sg_slices_IndexFunc_api_Proc_api_Proc_Wg [(n xs 0), (n xs 1)] fun z0 =>
.l (.cmp .geq .i64) [(n z0 0), (i 0)] fun x1 =>
.ret (.tup [x1, (n z0 1)])
theorem m_slices_ContainsFunc_api_Proc_api_Proc_Wg : TxOkS P F.slices_ContainsFunc_api_Proc_api_Proc sg_slices_ContainsFunc_api_Proc_api_Proc_Wg u_slices_ContainsFunc_api_Proc_api_Proc_Wg := txOkS_of (H := { wr := [], ro := [], nl := [], fz := [], da := [], sigs := [(258, sg_slices_IndexFunc_api_Proc_api_Proc_Wg)] }) (plans := []) hm Tryz.func222 rfl fun xs => by kernel_rfl
def u_slices_ContainsFunc_api_Proc_api_Proc_Fw (xs : List PV) : T PV :=
.calls F.slices_IndexFunc_api_Proc_api_Proc sg_slices_IndexFunc_api_Proc_api_Proc_Fw [(n xs 0), (n xs 1)] fun z0 =>
.l (.cmp .geq .i64) [(n z0 0), (i 0)] fun x1 =>
.ret (.tup [x1, (n z0 1)])
theorem m_slices_ContainsFunc_api_Proc_api_Proc_Fw : TxOkS P F.slices_ContainsFunc_api_Proc_api_Proc sg_slices_ContainsFunc_api_Proc_api_Proc_Fw u_slices_ContainsFunc_api_Proc_api_Proc_Fw := txOkS_of (H := { wr := [], ro := [], nl := [], fz := [], da := [], sigs := [(258, sg_slices_IndexFunc_api_Proc_api_Proc_Fw)] }) (plans := []) hm Tryz.func222 rfl fun xs => by kernel_rfl
def t_proctree_shallow_1 (xs : List PV) : T PV :=
.l (.okc 12 true) [(n xs 0)] fun x0 =>
.l (.unbox 1 false) [(n xs 1)] fun x1 =>
.l (.arith .sub .i64) [x1, (i 1)] fun x2 =>
.call F.proctree_shallow [x0, x2] fun x3 =>
.l .bnot [x3] fun x4 =>
.ret x4
theorem k_proctree_shallow_1 : TxOk P F.proctree_shallow_1 2 t_proctree_shallow_1 := txOk_of (H := {}) (plans := []) hm Tryz.func223 rfl rfl fun xs => by kernel_rfl
-- NOT TOLD: 224 duologue/proctree.few$1: 1
def u_proctree_few_1 (xs : List PV) : T PV :=
.l (.okc 12 true) [(n xs 0)] fun x0 =>
.l (.arith .sub .i64) [(n xs 1), (i 1)] fun x1 =>
.l (.okc 1 false) [x1] fun x2 =>
.l (.cmp .geq .i64) [x2, (i 0)] fun x3 =>
.ret (.tup [x3, x2])
theorem m_proctree_few_1 : TxOkS P F.proctree_few_1 sg_proctree_few_1 u_proctree_few_1 := txOkS_of (H := {}) (plans := []) hm Tryz.func224 rfl fun xs => by kernel_rfl
def t_proctree_all_1 (xs : List PV) : T PV :=
.l (.okc 12 true) [(n xs 0)] fun x0 =>
.l (.unbox 1 false) [(n xs 1)] fun x1 =>
.call F.proctree_all [x0, x1] fun x2 =>
.l .bnot [x2] fun x3 =>
.ret x3
theorem k_proctree_all_1 : TxOk P F.proctree_all_1 2 t_proctree_all_1 := txOk_of (H := {}) (plans := []) hm Tryz.func225 rfl rfl fun xs => by kernel_rfl
def u_proctree_all_1_Wg (xs : List PV) : T PV :=
.l (.okc 12 true) [(n xs 0)] fun x0 =>
.calls F.proctree_all sg_proctree_all_Wg [x0, (n xs 1)] fun z1 =>
.l .bnot [(n z1 0)] fun x2 =>
.ret (.tup [x2, (n z1 1)])
theorem m_proctree_all_1_Wg : TxOkS P F.proctree_all_1 sg_proctree_all_1_Wg u_proctree_all_1_Wg := txOkS_of (H := { wr := [], ro := [], nl := [], fz := [], da := [], sigs := [(182, sg_proctree_all_Wg)] }) (plans := []) hm Tryz.func225 rfl fun xs => by kernel_rfl
def u_proctree_all_1_Fw (xs : List PV) : T PV :=
.l (.okc 12 true) [(n xs 0)] fun x0 =>
.calls F.proctree_all sg_proctree_all_Fw [x0, (n xs 1)] fun z1 =>
.l .bnot [(n z1 0)] fun x2 =>
.ret (.tup [x2, (n z1 1)])
theorem m_proctree_all_1_Fw : TxOkS P F.proctree_all_1 sg_proctree_all_1_Fw u_proctree_all_1_Fw := txOkS_of (H := { wr := [], ro := [], nl := [], fz := [], da := [], sigs := [(182, sg_proctree_all_Fw)] }) (plans := []) hm Tryz.func225 rfl fun xs => by kernel_rfl
def t_proctree_rules (xs : List PV) : T PV :=
.call F.proctree_kidsOf [(i 0)] fun x0 =>
.l (.okcs [(1, false)]) [x0] fun x1 =>
.l (.mset false [.i .i64]) [(.mp [] []), (i 1), (.agg [(.bool false), (.bool false), (.bool false), (i 0), (i 0), x0])] fun x2 =>
.call F.proctree_kidsOf [(i 1)] fun x3 =>
.l (.okcs [(1, false)]) [x3] fun x4 =>
.l (.mset false [.i .i64]) [x2, (i 2), (.agg [(.bool true), (.bool false), (.bool false), (i 1), (i 0), x3])] fun x5 =>
.call F.proctree_kidsOf [(i 1)] fun x6 =>
.l (.okcs [(1, false)]) [x6] fun x7 =>
.l (.mset false [.i .i64]) [x5, (i 3), (.agg [(.bool true), (.bool true), (.bool false), (i 0), (i 0), x6])] fun x8 =>
.call F.proctree_kidsOf [(i 1)] fun x9 =>
.l (.okcs [(1, false)]) [x9] fun x10 =>
.l (.mset false [.i .i64]) [x8, (i 4), (.agg [(.bool true), (.bool false), (.bool false), (i 0), (i 1), x9])] fun x11 =>
.l (.okcs [(1, false)]) [(.fn F.proctree_each [] [])] fun x12 =>
.l (.mset false [.i .i64]) [x11, (i 5), (.agg [(.bool true), (.bool false), (.bool false), (i 0), (i (-1)), (.fn F.proctree_each [] [])])] fun x13 =>
.call F.proctree_kidsOf [(i 1)] fun x14 =>
.l (.okcs [(1, false)]) [x14] fun x15 =>
.l (.mset false [.i .i64]) [x13, (i 6), (.agg [(.bool true), (.bool true), (.bool true), (i 0), (i 0), x14])] fun x16 =>
.l (.okcs [(1, false)]) [(.fn F.proctree_several [] [])] fun x17 =>
.l (.mset false [.i .i64]) [x16, (i 7), (.agg [(.bool false), (.bool false), (.bool false), (i 0), (i 0), (.fn F.proctree_several [] [])])] fun x18 =>
.call F.proctree_kidsOf [(i 0)] fun x19 =>
.l (.okcs [(1, false)]) [x19] fun x20 =>
.l (.mset false [.i .i64]) [x18, (i 8), (.agg [(.bool true), (.bool false), (.bool false), (i (-1)), (i 0), x19])] fun x21 =>
.ret x21
theorem k_proctree_rules : TxOk P F.proctree_rules 0 t_proctree_rules := txOk_of (H := {}) (plans := []) hm Tryz.func226 rfl rfl fun xs => by kernel_rfl
def t_proctree_named (xs : List PV) : T PV :=
.ite (n xs 1) (
.call F.lex_Name [(n xs 0)] fun x0 =>
.ret x0) (
.l (.scmp .eql) [(n xs 0), (.str ⟨#[]⟩)] fun x0 =>
.ret x0)
theorem k_proctree_named : TxOk P F.proctree_named 2 t_proctree_named := txOk_of (H := {}) (plans := []) hm Tryz.func227 rfl rfl fun xs => by kernel_rfl
def t_proctree_typed (xs : List PV) : T PV :=
.l (.okc 12 true) [(n xs 0)] fun x0 =>
.ite (n xs 1) (
.call F.typetree_Right [(sb 5 6 x0)] fun x1 =>
.l (.cmp .eql .i64) [x1, (i 0)] fun x2 =>
.ite x2 (
.call F.typetree_Session [(sb 5 6 x0)] fun x3 =>
.ite x3 (
.l (.scmp .neq) [(c 1 x0), (c 2 x0)] fun x4 =>
.ret x4) (
.ret (.bool false))) (
.ret (.bool false))) (
.call F.typetree_Same [(sb 5 6 x0), (.agg [(i 0), (i 0), (.str ⟨#[]⟩), (i 0), (.sl []), (.sl [])])] fun x1 =>
.ret x1)
theorem k_proctree_typed : TxOk P F.proctree_typed 2 t_proctree_typed := txOk_of (H := {}) (plans := []) hm Tryz.func228 rfl rfl fun xs => by kernel_rfl
def t_proctree_distinct (xs : List PV) : T PV :=
.l .len [(n xs 0)] fun x0 =>
.loop [(i 0)] fun y1 =>
.l (.cmp .lss .i64) [(n y1 0), x0] fun x2 =>
.ite x2 (
.l (.idx 1 false) [(n xs 0), (n y1 0)] fun x3 =>
.call F.lex_Name [x3] fun x4 =>
.l .bnot [x4] fun x5 =>
.ite x5 (
.ret (.bool false)) (
.l (.slcT 1 false) [(n xs 0), (n y1 0)] fun x6 =>
.call F.slices_Contains_string_string [x6, x3] fun x7 =>
.ite x7 (
.ret (.bool false)) (
.l (.arith .add .i64) [(n y1 0), (i 1)] fun x8 =>
.cont 0 [x8]))) (
.ret (.bool true))
theorem k_proctree_distinct : TxOk P F.proctree_distinct 1 t_proctree_distinct := txOk_of (H := {}) (plans := []) hm Tryz.func229 rfl rfl fun xs => by kernel_rfl
def t_proctree_shape_1 (xs : List PV) : T PV :=
.l (.okc 3 true) [(n xs 0)] fun x0 =>
.call F.proctree_value [x0] fun x1 =>
.l .bnot [x1] fun x2 =>
.ret x2
theorem k_proctree_shape_1 : TxOk P F.proctree_shape_1 1 t_proctree_shape_1 := txOk_of (H := {}) (plans := []) hm Tryz.func230 rfl rfl fun xs => by kernel_rfl
def t_proctree_value (xs : List PV) : T PV :=
.l (.okc 3 true) [(n xs 0)] fun x0 =>
.l (.cmp .eql .i64) [(c 0 x0), (i 1)] fun x1 =>
.ite x1 (
.call F.lex_Name [(c 1 x0)] fun x2 =>
.ite x2 (
.l (.cmp .eql .i64) [(c 2 x0), (i 0)] fun x3 =>
.ret x3) (
.ret (.bool false))) (
.l (.cmp .eql .i64) [(c 0 x0), (i 2)] fun x2 =>
.ite x2 (
.l (.scmp .eql) [(c 1 x0), (.str ⟨#[]⟩)] fun x3 =>
.ret x3) (
.l (.cmp .eql .i64) [(c 0 x0), (i 3)] fun x3 =>
.ite x3 (
.l (.scmp .eql) [(c 1 x0), (.str ⟨#[]⟩)] fun x4 =>
.ite x4 (
.l (.cmp .eql .i64) [(c 2 x0), (i 0)] fun x5 =>
.ite x5 (
.ret (.bool true)) (
.l (.cmp .eql .i64) [(c 2 x0), (i 1)] fun x6 =>
.ret x6)) (
.ret (.bool false))) (
.ret (.bool false))))
theorem k_proctree_value : TxOk P F.proctree_value 1 t_proctree_value := txOk_of (H := {}) (plans := []) hm Tryz.func231 rfl rfl fun xs => by kernel_rfl
def t_slices_Contains_string_string (xs : List PV) : T PV :=
.call F.slices_Index_string_string [(n xs 0), (n xs 1)] fun x0 =>
.l (.cmp .geq .i64) [x0, (i 0)] fun x1 =>
.ret x1
theorem k_slices_Contains_string_string : TxOk P F.slices_Contains_string_string 2 t_slices_Contains_string_string := txOk_of (H := {}) (plans := []) hm Tryz.func232 rfl rfl fun xs => by kernel_rfl
-- NOT TOLD: 233 slices.insertionSortOrdered[string]: 1
def u_slices_insertionSortOrdered_string (xs : List PV) : T PV :=
.l (.arith .add .i64) [(n xs 0), (i 1)] fun x0 =>
.loop [x0, (n xs 2)] fun y1 =>
.l (.cmp .lss .i64) [(n y1 0), (n xs 1)] fun x2 =>
.ite x2 (
.loop [(n y1 0), (n y1 1)] fun y3 =>
.l (.cmp .gtr .i64) [(n y3 0), (n xs 0)] fun x4 =>
.ite x4 (
.l (.idx 1 false) [(n y3 1), (n y3 0)] fun x5 =>
.l (.idx 1 false) [(n y3 1), (n y3 0)] fun x6 =>
.l (.arith .sub .i64) [(n y3 0), (i 1)] fun x7 =>
.l (.idx 1 false) [(n y3 1), x7] fun x8 =>
.l (.idx 1 false) [(n y3 1), x7] fun x9 =>
.call F.cmp_Less_string [x6, x9] fun x10 =>
.ite x10 (
.l (.arith .sub .i64) [(n y3 0), (i 1)] fun x11 =>
.l (.arith .sub .i64) [(n y3 0), (i 1)] fun x12 =>
.l (.idx 1 false) [(n y3 1), x12] fun x13 =>
.l (.idx 1 false) [(n y3 1), x12] fun x14 =>
.l (.idx 1 false) [(n y3 1), (n y3 0)] fun x15 =>
.l (.idx 1 false) [(n y3 1), (n y3 0)] fun x16 =>
.l (.idx 1 false) [(n y3 1), (n y3 0)] fun x17 =>
.l (.upd 1 false) [(n y3 1), (n y3 0), x14] fun x18 =>
.l (.idx 1 false) [x18, x11] fun x19 =>
.l (.upd 1 false) [x18, x11, x16] fun x20 =>
.l (.arith .sub .i64) [(n y3 0), (i 1)] fun x21 =>
.cont 1 [x21, x20]) (
.l (.arith .add .i64) [(n y1 0), (i 1)] fun x11 =>
.cont 0 [x11, (n y3 1)])) (
.l (.arith .add .i64) [(n y1 0), (i 1)] fun x5 =>
.cont 0 [x5, (n y3 1)])) (
.ret (.tup [(.tup []), (n y1 1)]))
theorem m_slices_insertionSortOrdered_string : TxOkS P F.slices_insertionSortOrdered_string sg_slices_insertionSortOrdered_string u_slices_insertionSortOrdered_string := txOkS_of (H := { wr := [], ro := [], nl := [], fz := [], da := [], sigs := [(28, sg_slices_Sort_int_int), (63, sg_graph_set_add), (64, sg_slices_pdqsortOrdered_int_Nil), (114, sg_slices_insertionSortOrdered_int), (139, sg_slices_Sort_string_string), (190, sg_slices_pdqsortOrdered_string_Nil), (233, sg_slices_insertionSortOrdered_string)] }) (plans := []) hm Tryz.func233 rfl fun xs => by kernel_rfl
-- NOT TOLD: 234 slices.heapSortOrdered[string]: 1
-- NOT TOLD: 235 slices.breakPatternsOrdered[string]: 2
def t_cmp_Less_string (xs : List PV) : T PV :=
.call F.cmp_isNaN_string [(n xs 0)] fun x0 =>
.ite x0 (
.call F.cmp_isNaN_string [(n xs 1)] fun x1 =>
.l .bnot [x1] fun x2 =>
.ite x2 (
.ret (.bool true)) (
.l (.scmp .lss) [(n xs 0), (n xs 1)] fun x3 =>
.ret x3)) (
.l (.scmp .lss) [(n xs 0), (n xs 1)] fun x1 =>
.ret x1)
theorem k_cmp_Less_string : TxOk P F.cmp_Less_string 2 t_cmp_Less_string := txOk_of (H := {}) (plans := []) hm Tryz.func239 rfl rfl fun xs => by kernel_rfl
-- NOT TOLD: 240 slices.partitionEqualOrdered[string]: 1
-- NOT TOLD: 241 slices.partitionOrdered[string]: 1
def t_slices_IndexFunc_api_Value_api_Value (xs : List PV) : T PV :=
.l .len [(n xs 0)] fun x0 =>
.loop [(i 0)] fun y1 =>
.l (.cmp .lss .i64) [(n y1 0), x0] fun x2 =>
.ite x2 (
.l (.idx 3 true) [(n xs 0), (n y1 0)] fun x3 =>
.callv (n xs 1) [x3] fun x4 =>
.ite x4 (
.ret (n y1 0)) (
.l (.arith .add .i64) [(n y1 0), (i 1)] fun x5 =>
.cont 0 [x5])) (
.ret (i (-1)))
theorem k_slices_IndexFunc_api_Value_api_Value : TxOk P F.slices_IndexFunc_api_Value_api_Value 2 t_slices_IndexFunc_api_Value_api_Value := txOk_of (H := {}) (plans := []) hm Tryz.func242 rfl rfl fun xs => by kernel_rfl
def t_slices_Backward_typetree_bound_typetree_bound_1 (xs : List PV) : T PV :=
.l (.unbox 1 false) [(n xs 1)] fun x0 =>
.l .len [x0] fun x1 =>
.l (.arith .sub .i64) [x1, (i 1)] fun x2 =>
.loop [x2] fun y3 =>
.l (.cmp .geq .i64) [(n y3 0), (i 0)] fun x4 =>
.ite x4 (
.l (.unbox 1 false) [(n xs 1)] fun x5 =>
.l (.idx 2 true) [x5, (n y3 0)] fun x6 =>
.callv (n xs 0) [(n y3 0), x6] fun x7 =>
.l .bnot [x7] fun x8 =>
.ite x8 (
.ret (.tup [])) (
.l (.arith .sub .i64) [(n y3 0), (i 1)] fun x9 =>
.cont 0 [x9])) (
.ret (.tup []))
theorem k_slices_Backward_typetree_bound_typetree_bound_1 : TxOk P F.slices_Backward_typetree_bound_typetree_bound_1 2 t_slices_Backward_typetree_bound_typetree_bound_1 := txOk_of (H := {}) (plans := []) hm Tryz.func243 rfl rfl fun xs => by kernel_rfl
def v_slices_Backward_typetree_bound_typetree_bound_1 (xs : List PV) : T PV :=
.l (.unbox 1 false) [(n xs 1)] fun x0 =>
.l .len [x0] fun x1 =>
.l (.arith .sub .i64) [x1, (i 1)] fun x2 =>
.loop [x2, (n xs 2)] fun y3 =>
.l (.cmp .geq .i64) [(n y3 0), (i 0)] fun x4 =>
.ite x4 (
.l (.unbox 1 false) [(n xs 1)] fun x5 =>
.l (.idx 2 true) [x5, (n y3 0)] fun x6 =>
.yld [(n y3 0), x6] (n y3 1) fun x7 s7 =>
.l .bnot [x7] fun x8 =>
.ite x8 (
.ret (.tup [(.tup []), s7])) (
.l (.arith .sub .i64) [(n y3 0), (i 1)] fun x9 =>
.cont 0 [x9, s7])) (
.ret (.tup [(.tup []), (n y3 1)]))
theorem x_slices_Backward_typetree_bound_typetree_bound_1 (X : Xt) (hX : XtC P X) : @TxOkX { l := gl.l, x := X } P F.slices_Backward_typetree_bound_typetree_bound_1 2 [0] v_slices_Backward_typetree_bound_typetree_bound_1 := @txOkX_of { l := gl.l, x := X } P (@XC.mk P { l := gl.l, x := X } hX) {} [] _ _ _ _ _ hm Tryz.func243 rfl rfl fun xs => by kernel_rfl
def t_ref02_in (xs : List PV) : T PV :=
.loop [(i 0)] fun y0 =>
.l .len [(n xs 1)] fun x1 =>
.l (.cmp .lss .i64) [(n y0 0), x1] fun x2 =>
.ite x2 (
.l (.idx 1 false) [(n xs 1), (n y0 0)] fun x3 =>
.l (.scmp .eql) [x3, (n xs 0)] fun x4 =>
.ite x4 (
.ret (.bool true)) (
.l (.arith .add .i64) [(n y0 0), (i 1)] fun x5 =>
.cont 0 [x5])) (
.ret (.bool false))
theorem k_ref02_in : TxOk P F.ref02_in 2 t_ref02_in := txOk_of (H := {}) (plans := []) hm Tryz.func244 rfl rfl fun xs => by kernel_rfl
def t_ref01_Word (xs : List PV) : T PV :=
.l .slen [(n xs 0)] fun x0 =>
.l (.cmp .eql .i64) [x0, (i 0)] fun x1 =>
.ite x1 (
.ret (.bool false)) (
.l .sidx [(n xs 0), (i 0)] fun x2 =>
.call F.ref01_Letters [] fun x3 =>
.call F.ref01_in [x2, x3] fun x4 =>
.l .bnot [x4] fun x5 =>
.ite x5 (
.ret (.bool false)) (
.loop [(i 1)] fun y6 =>
.l .slen [(n xs 0)] fun x7 =>
.l (.cmp .lss .i64) [(n y6 0), x7] fun x8 =>
.ite x8 (
.l .sidx [(n xs 0), (n y6 0)] fun x9 =>
.call F.ref01_Letters [] fun x10 =>
.call F.ref01_in [x9, x10] fun x11 =>
.l .bnot [x11] fun x12 =>
.ite x12 (
.l .sidx [(n xs 0), (n y6 0)] fun x13 =>
.call F.ref01_digits [] fun x14 =>
.call F.ref01_in [x13, x14] fun x15 =>
.l .bnot [x15] fun x16 =>
.ite x16 (
.ret (.bool false)) (
.l (.arith .add .i64) [(n y6 0), (i 1)] fun x17 =>
.cont 0 [x17])) (
.l (.arith .add .i64) [(n y6 0), (i 1)] fun x13 =>
.cont 0 [x13])) (
.ret (.bool true))))
theorem k_ref01_Word : TxOk P F.ref01_Word 1 t_ref01_Word := txOk_of (H := {}) (plans := []) hm Tryz.func245 rfl rfl fun xs => by kernel_rfl
def t_ref01_Keyword (xs : List PV) : T PV :=
.l (.lst 1 false) [(.str ⟨#[100, 101, 102]⟩), (.str ⟨#[109, 97, 105, 110]⟩), (.str ⟨#[115, 116, 111, 112]⟩), (.str ⟨#[110, 101, 119]⟩), (.str ⟨#[105, 110, 116]⟩), (.str ⟨#[98, 111, 111, 108]⟩), (.str ⟨#[101, 110, 100]⟩), (.str ⟨#[114, 101, 99]⟩), (.str ⟨#[116, 114, 117, 101]⟩), (.str ⟨#[102, 97, 108, 115, 101]⟩)] fun x0 =>
.loop [(i 0)] fun y1 =>
.l .len [x0] fun x2 =>
.l (.cmp .lss .i64) [(n y1 0), x2] fun x3 =>
.ite x3 (
.l (.idx 1 false) [x0, (n y1 0)] fun x4 =>
.l (.scmp .eql) [x4, (n xs 0)] fun x5 =>
.ite x5 (
.ret (.bool true)) (
.l (.arith .add .i64) [(n y1 0), (i 1)] fun x6 =>
.cont 0 [x6])) (
.ret (.bool false))
theorem k_ref01_Keyword : TxOk P F.ref01_Keyword 1 t_ref01_Keyword := txOk_of (H := {}) (plans := []) hm Tryz.func246 rfl rfl fun xs => by kernel_rfl
def t_internal_strconv_log10Pow2 (xs : List PV) : T PV :=
.l (.arith .mul .i64) [(n xs 0), (i 78913)] fun x0 =>
.l (.arith .shr .i64) [x0, (.int .u64 (18))] fun x1 =>
.ret x1
theorem k_internal_strconv_log10Pow2 : TxOk P F.internal_strconv_log10Pow2 1 t_internal_strconv_log10Pow2 := txOk_of (H := {}) (plans := []) hm Tryz.func250 rfl rfl fun xs => by kernel_rfl
def t_internal_strconv_bool2_int (xs : List PV) : T PV :=
.ite (n xs 0) (
.ret (i 1)) (
.ret (i 0))
theorem k_internal_strconv_bool2_int : TxOk P F.internal_strconv_bool2_int 1 t_internal_strconv_bool2_int := txOk_of (H := {}) (plans := []) hm Tryz.func251 rfl rfl fun xs => by kernel_rfl
def t_equal_Equal_1 (xs : List PV) : T PV :=
.l (.okc 2 true) [(n xs 0)] fun x0 =>
.l (.okc 2 true) [(n xs 1)] fun x1 =>
.l (.unbox 1 true) [(n xs 2)] fun x2 =>
.call F.head_Prio [x2, x0] fun x3 =>
.l (.tc 0) [x3] fun x4 =>
.l (.tc 1) [x3] fun x5 =>
.l (.unbox 1 true) [(n xs 2)] fun x6 =>
.call F.head_Prio [x6, x1] fun x7 =>
.l (.tc 0) [x7] fun x8 =>
.l (.tc 1) [x7] fun x9 =>
.l (.cmp .eql .i64) [x4, x8] fun x10 =>
.ret x10
theorem k_equal_Equal_1 : TxOk P F.equal_Equal_1 3 t_equal_Equal_1 := txOk_of (H := {}) (plans := []) hm Tryz.func254 rfl rfl fun xs => by kernel_rfl
-- NOT TOLD: 255 (*duologue/equal.comparison).equal: 1
def u_equal_comparison_equal (xs : List PV) : T PV :=
.l (.okc 2 true) [(n xs 0)] fun x0 =>
.l (.okc 2 true) [(n xs 1)] fun x1 =>
.l (.idx 4 true) [(n xs 2), (c 0 x0)] fun x2 =>
.l (.idx 4 true) [(n xs 2), (c 0 x1)] fun x3 =>
.l (.okc 4 true) [x2] fun x4 =>
.l (.okc 4 true) [x3] fun x5 =>
.l (.cmp .neq .i64) [(c 0 x4), (c 0 x5)] fun x6 =>
.ite x6 (
.ret (.tup [(.bool false), (n xs 2), (n xs 3), (n xs 4), (n xs 5)])) (
.l .len [(c 2 x4)] fun x7 =>
.l .len [(c 2 x5)] fun x8 =>
.l (.cmp .neq .i64) [x7, x8] fun x9 =>
.ite x9 (
.ret (.tup [(.bool false), (n xs 2), (n xs 3), (n xs 4), (n xs 5)])) (
.callv (n xs 3) [x0, x1] fun x10 =>
.l .bnot [x10] fun x11 =>
.ite x11 (
.ret (.tup [(.bool false), (n xs 2), (n xs 3), (n xs 4), (n xs 5)])) (
.call F.equal_comparison_key [(.box (.agg [(n xs 2), (n xs 5), (n xs 3), (n xs 4)])), x0, x1] fun x12 =>
.l .gnd [x12] fun x13 =>
.l (.mget true [.i .i64, .i .i64, .i .i64] (.bool false)) [(n xs 5), x13] fun x14 =>
.ite x14 (
.ret (.tup [(.bool true), (n xs 2), (n xs 3), (n xs 4), (n xs 5)])) (
.call F.equal_comparison_key [(.box (.agg [(n xs 2), (n xs 5), (n xs 3), (n xs 4)])), x0, x1] fun x15 =>
.l .gnd [x15] fun x16 =>
.l (.mset true [.i .i64, .i .i64, .i .i64]) [(n xs 5), x16, (.bool true)] fun x17 =>
.l .len [(c 3 x4)] fun x18 =>
.loop [(i 0), (n xs 2), x17, (n xs 3), (n xs 4)] fun y19 =>
.l (.cmp .lss .i64) [(n y19 0), x18] fun x20 =>
.ite x20 (
.l .len [(c 2 x4)] fun x21 =>
.l (.cmp .gtr .i64) [x21, (i 0)] fun x22 =>
.ite x22 (
.l (.idx 1 false) [(c 2 x4), (n y19 0)] fun x23 =>
.call F.slices_Index_string_string [(c 2 x5), x23] fun x24 =>
.call F.head_Next [(.agg [(n y19 1)]), x0, (n y19 0)] fun x25 =>
.l (.tc 0) [x25] fun x26 =>
.l (.tc 1) [x25] fun x27 =>
.l (.okc 2 true) [x26] fun x28 =>
.call F.head_Next [(.agg [(n y19 1)]), x1, x24] fun x29 =>
.l (.tc 0) [x29] fun x30 =>
.l (.tc 1) [x29] fun x31 =>
.l (.okc 2 true) [x30] fun x32 =>
.l .bnot [x31] fun x33 =>
.ite x33 (
.ret (.tup [(.bool false), (n y19 1), (n y19 3), (n y19 4), (n y19 2)])) (
.calls F.equal_comparison_equal sg_equal_comparison_equal [x28, x32, (n y19 1), (n y19 3), (n y19 4), (n y19 2)] fun z34 =>
.l .bnot [(n z34 0)] fun x35 =>
.ite x35 (
.ret (.tup [(.bool false), (n z34 1), (n z34 2), (n z34 3), (n z34 4)])) (
.l (.arith .add .i64) [(n y19 0), (i 1)] fun x36 =>
.cont 0 [x36, (n z34 1), (n z34 4), (n z34 2), (n z34 3)]))) (
.call F.head_Next [(.agg [(n y19 1)]), x0, (n y19 0)] fun x23 =>
.l (.tc 0) [x23] fun x24 =>
.l (.tc 1) [x23] fun x25 =>
.l (.okc 2 true) [x24] fun x26 =>
.call F.head_Next [(.agg [(n y19 1)]), x1, (n y19 0)] fun x27 =>
.l (.tc 0) [x27] fun x28 =>
.l (.tc 1) [x27] fun x29 =>
.l (.okc 2 true) [x28] fun x30 =>
.l .bnot [x29] fun x31 =>
.ite x31 (
.ret (.tup [(.bool false), (n y19 1), (n y19 3), (n y19 4), (n y19 2)])) (
.calls F.equal_comparison_equal sg_equal_comparison_equal [x26, x30, (n y19 1), (n y19 3), (n y19 4), (n y19 2)] fun z32 =>
.l .bnot [(n z32 0)] fun x33 =>
.ite x33 (
.ret (.tup [(.bool false), (n z32 1), (n z32 2), (n z32 3), (n z32 4)])) (
.l (.arith .add .i64) [(n y19 0), (i 1)] fun x34 =>
.cont 0 [x34, (n z32 1), (n z32 4), (n z32 2), (n z32 3)])))) (
.ret (.tup [(.bool true), (n y19 1), (n y19 3), (n y19 4), (n y19 2)]))))))
theorem m_equal_comparison_equal : TxOkS P F.equal_comparison_equal sg_equal_comparison_equal u_equal_comparison_equal := txOkS_of (H := { wr := [], ro := [274], nl := [], fz := [], da := [], sigs := [(255, sg_equal_comparison_equal)] }) (plans := []) hm Tryz.func255 rfl fun xs => by kernel_rfl
def t_slices_Collect_string (xs : List PV) : T PV :=
.calls F.slices_AppendSeq_string_string sg_slices_AppendSeq_string_string [(n xs 0)] fun z0 =>
.ret (n z0 0)
theorem k_slices_Collect_string : TxOk P F.slices_Collect_string 1 t_slices_Collect_string := txOk_of (H := { wr := [], ro := [], nl := [], fz := [], da := [], sigs := [(275, sg_slices_AppendSeq_string_string)] }) (plans := []) hm Tryz.func256 rfl rfl fun xs => by kernel_rfl
def u_slices_Collect_string (xs : List PV) : T PV :=
.calls F.slices_AppendSeq_string_string sg_slices_AppendSeq_string_string [(n xs 0)] fun z0 =>
.ret (.tup [(n z0 0)])
theorem m_slices_Collect_string : TxOkS P F.slices_Collect_string sg_slices_Collect_string u_slices_Collect_string := txOkS_of (H := { wr := [], ro := [], nl := [], fz := [], da := [], sigs := [(275, sg_slices_AppendSeq_string_string)] }) (plans := []) hm Tryz.func256 rfl fun xs => by kernel_rfl
def t_slices_Values_string_string_1 (xs : List PV) : T PV :=
.l (.unbox 1 false) [(n xs 1)] fun x0 =>
.l .len [x0] fun x1 =>
.loop [(i 0)] fun y2 =>
.l (.cmp .lss .i64) [(n y2 0), x1] fun x3 =>
.ite x3 (
.l (.idx 1 false) [x0, (n y2 0)] fun x4 =>
.callv (n xs 0) [x4] fun x5 =>
.l .bnot [x5] fun x6 =>
.ite x6 (
.ret (.tup [])) (
.l (.arith .add .i64) [(n y2 0), (i 1)] fun x7 =>
.cont 0 [x7])) (
.ret (.tup []))
theorem k_slices_Values_string_string_1 : TxOk P F.slices_Values_string_string_1 2 t_slices_Values_string_string_1 := txOk_of (H := {}) (plans := []) hm Tryz.func257 rfl rfl fun xs => by kernel_rfl
def v_slices_Values_string_string_1 (xs : List PV) : T PV :=
.l (.unbox 1 false) [(n xs 1)] fun x0 =>
.l .len [x0] fun x1 =>
.loop [(i 0), (n xs 2)] fun y2 =>
.l (.cmp .lss .i64) [(n y2 0), x1] fun x3 =>
.ite x3 (
.l (.idx 1 false) [x0, (n y2 0)] fun x4 =>
.yld [x4] (n y2 1) fun x5 s5 =>
.l .bnot [x5] fun x6 =>
.ite x6 (
.ret (.tup [(.tup []), s5])) (
.l (.arith .add .i64) [(n y2 0), (i 1)] fun x7 =>
.cont 0 [x7, s5])) (
.ret (.tup [(.tup []), (n y2 1)]))
theorem x_slices_Values_string_string_1 (X : Xt) (hX : XtC P X) : @TxOkX { l := gl.l, x := X } P F.slices_Values_string_string_1 2 [0] v_slices_Values_string_string_1 := @txOkX_of { l := gl.l, x := X } P (@XC.mk P { l := gl.l, x := X } hX) {} [] _ _ _ _ _ hm Tryz.func257 rfl rfl fun xs => by kernel_rfl
def t_slices_IndexFunc_api_Proc_api_Proc (xs : List PV) : T PV :=
.l .len [(n xs 0)] fun x0 =>
.loop [(i 0)] fun y1 =>
.l (.cmp .lss .i64) [(n y1 0), x0] fun x2 =>
.ite x2 (
.l (.idx 12 true) [(n xs 0), (n y1 0)] fun x3 =>
.callv (n xs 1) [x3] fun x4 =>
.ite x4 (
.ret (n y1 0)) (
.l (.arith .add .i64) [(n y1 0), (i 1)] fun x5 =>
.cont 0 [x5])) (
.ret (i (-1)))
theorem k_slices_IndexFunc_api_Proc_api_Proc : TxOk P F.slices_IndexFunc_api_Proc_api_Proc 2 t_slices_IndexFunc_api_Proc_api_Proc := txOk_of (H := {}) (plans := []) hm Tryz.func258 rfl rfl fun xs => by kernel_rfl
def u_slices_IndexFunc_api_Proc_api_Proc_Wg (xs : List PV) : T PV :=
.l .len [(n xs 0)] fun x0 =>
.loop [(i 0), (n xs 1)] fun y1 =>
.l (.cmp .lss .i64) [(n y1 0), x0] fun x2 =>
.ite x2 (
.l (.idx 12 true) [(n xs 0), (n y1 0)] fun x3 =>
.calls F.proctree_all_1 sg_proctree_all_1_Wg [x3, (n y1 1)] fun z4 =>
.ite (n z4 0) (
.ret (.tup [(n y1 0), (n z4 1)])) (
.l (.arith .add .i64) [(n y1 0), (i 1)] fun x5 =>
.cont 0 [x5, (n z4 1)])) (
.ret (.tup [(i (-1)), (n y1 1)]))
theorem m_slices_IndexFunc_api_Proc_api_Proc_Wg : TxOkS P F.slices_IndexFunc_api_Proc_api_Proc sg_slices_IndexFunc_api_Proc_api_Proc_Wg u_slices_IndexFunc_api_Proc_api_Proc_Wg := txOkS_of (H := { wr := [], ro := [], nl := [], fz := [], da := [], sigs := [(225, sg_proctree_all_1_Wg)] }) (plans := []) hm Tryz.func258 rfl fun xs => by kernel_rfl
def u_slices_IndexFunc_api_Proc_api_Proc_Fw (xs : List PV) : T PV :=
.l .len [(n xs 0)] fun x0 =>
.loop [(i 0), (n xs 1)] fun y1 =>
.l (.cmp .lss .i64) [(n y1 0), x0] fun x2 =>
.ite x2 (
.l (.idx 12 true) [(n xs 0), (n y1 0)] fun x3 =>
.calls F.proctree_all_1 sg_proctree_all_1_Fw [x3, (n y1 1)] fun z4 =>
.ite (n z4 0) (
.ret (.tup [(n y1 0), (n z4 1)])) (
.l (.arith .add .i64) [(n y1 0), (i 1)] fun x5 =>
.cont 0 [x5, (n z4 1)])) (
.ret (.tup [(i (-1)), (n y1 1)]))
theorem m_slices_IndexFunc_api_Proc_api_Proc_Fw : TxOkS P F.slices_IndexFunc_api_Proc_api_Proc sg_slices_IndexFunc_api_Proc_api_Proc_Fw u_slices_IndexFunc_api_Proc_api_Proc_Fw := txOkS_of (H := { wr := [], ro := [], nl := [], fz := [], da := [], sigs := [(225, sg_proctree_all_1_Fw)] }) (plans := []) hm Tryz.func258 rfl fun xs => by kernel_rfl
def t_proctree_kidsOf (xs : List PV) : T PV :=
.l (.okc 1 false) [(n xs 0)] fun x0 =>
.ret (.fn F.proctree_kidsOf_1 [] [(.box x0)])
theorem k_proctree_kidsOf : TxOk P F.proctree_kidsOf 1 t_proctree_kidsOf := txOk_of (H := {}) (plans := []) hm Tryz.func259 rfl rfl fun xs => by kernel_rfl
def t_proctree_each (xs : List PV) : T PV :=
.l (.okc 12 true) [(n xs 0)] fun x0 =>
.l .len [(c 11 x0)] fun x1 =>
.l .len [(c 3 x0)] fun x2 =>
.l (.cmp .eql .i64) [x1, x2] fun x3 =>
.ite x3 (
.l .len [(c 3 x0)] fun x4 =>
.l (.cmp .gtr .i64) [x4, (i 0)] fun x5 =>
.ret x5) (
.ret (.bool false))
theorem k_proctree_each : TxOk P F.proctree_each 1 t_proctree_each := txOk_of (H := {}) (plans := []) hm Tryz.func260 rfl rfl fun xs => by kernel_rfl
def t_proctree_several (xs : List PV) : T PV :=
.l (.okc 12 true) [(n xs 0)] fun x0 =>
.l .len [(c 11 x0)] fun x1 =>
.l (.cmp .geq .i64) [x1, (i 2)] fun x2 =>
.ite x2 (
.call F.slices_ContainsFunc_api_Proc_api_Proc [(c 11 x0), (.fn F.proctree_several_1 [] [])] fun x3 =>
.l .bnot [x3] fun x4 =>
.ret x4) (
.ret (.bool false))
theorem k_proctree_several : TxOk P F.proctree_several 1 t_proctree_several := txOk_of (H := {}) (plans := []) hm Tryz.func261 rfl rfl fun xs => by kernel_rfl
def t_typetree_Same (xs : List PV) : T PV :=
.l (.okc 6 true) [(n xs 0)] fun x0 =>
.l (.okc 6 true) [(n xs 1)] fun x1 =>
.l (.cmp .eql .i64) [(c 0 x0), (c 0 x1)] fun x2 =>
.ite x2 (
.l (.cmp .eql .i64) [(c 1 x0), (c 1 x1)] fun x3 =>
.ite x3 (
.l (.scmp .eql) [(c 2 x0), (c 2 x1)] fun x4 =>
.ite x4 (
.l (.cmp .eql .i64) [(c 3 x0), (c 3 x1)] fun x5 =>
.ite x5 (
.call F.slices_Equal_string_string [(c 4 x0), (c 4 x1)] fun x6 =>
.ite x6 (
.call F.slices_EqualFunc_api_Type_api_Type_api_Type_api_Type [(c 5 x0), (c 5 x1), (.fn F.typetree_Same [] [])] fun x7 =>
.ret x7) (
.ret (.bool false))) (
.ret (.bool false))) (
.ret (.bool false))) (
.ret (.bool false))) (
.ret (.bool false))
theorem k_typetree_Same : TxOk P F.typetree_Same 2 t_typetree_Same := txOk_of (H := {}) (plans := []) hm Tryz.func262 rfl rfl fun xs => by kernel_rfl
-- NOT TOLD: 263 slices.siftDownOrdered[string]: 3
def t_cmp_isNaN_string (xs : List PV) : T PV :=
.l (.scmp .neq) [(n xs 0), (n xs 0)] fun x0 =>
.ret x0
theorem k_cmp_isNaN_string : TxOk P F.cmp_isNaN_string 1 t_cmp_isNaN_string := txOk_of (H := {}) (plans := []) hm Tryz.func266 rfl rfl fun xs => by kernel_rfl
def t_ref01_in (xs : List PV) : T PV :=
.loop [(i 0)] fun y0 =>
.l .slen [(n xs 1)] fun x1 =>
.l (.cmp .lss .i64) [(n y0 0), x1] fun x2 =>
.ite x2 (
.l .sidx [(n xs 1), (n y0 0)] fun x3 =>
.l (.cmp .eql .u8) [x3, (n xs 0)] fun x4 =>
.ite x4 (
.ret (.bool true)) (
.l (.arith .add .i64) [(n y0 0), (i 1)] fun x5 =>
.cont 0 [x5])) (
.ret (.bool false))
theorem k_ref01_in : TxOk P F.ref01_in 2 t_ref01_in := txOk_of (H := {}) (plans := []) hm Tryz.func267 rfl rfl fun xs => by kernel_rfl
def t_ref01_Letters (xs : List PV) : T PV :=
.ret (.str ⟨#[65, 66, 67, 68, 69, 70, 71, 72, 73, 74, 75, 76, 77, 78, 79, 80, 81, 82, 83, 84, 85, 86, 87, 88, 89, 90, 97, 98, 99, 100, 101, 102, 103, 104, 105, 106, 107, 108, 109, 110, 111, 112, 113, 114, 115, 116, 117, 118, 119, 120, 121, 122, 95]⟩)
theorem k_ref01_Letters : TxOk P F.ref01_Letters 0 t_ref01_Letters := txOk_of (H := {}) (plans := []) hm Tryz.func268 rfl rfl fun xs => by kernel_rfl
def t_ref01_digits (xs : List PV) : T PV :=
.ret (.str ⟨#[48, 49, 50, 51, 52, 53, 54, 55, 56, 57]⟩)
theorem k_ref01_digits : TxOk P F.ref01_digits 0 t_ref01_digits := txOk_of (H := {}) (plans := []) hm Tryz.func269 rfl rfl fun xs => by kernel_rfl
def t_equal_comparison_key (xs : List PV) : T PV :=
.l (.okc 2 true) [(n xs 1)] fun x0 =>
.l (.okc 2 true) [(n xs 2)] fun x1 =>
.l .notnil [(n xs 0)] fun x2 =>
.l (.unbox 4 true) [x2] fun x3 =>
.ite (c 3 x3) (
.l (.okcs [(1, false), (1, false)]) [(c 0 x0), (c 0 x1)] fun x4 =>
.ret (.agg [(c 0 x0), (c 0 x1), (i 0)])) (
.l (.arith .sub .i64) [(c 1 x0), (c 1 x1)] fun x4 =>
.l (.okcs [(1, false), (1, false), (1, false)]) [(c 0 x0), (c 0 x1), x4] fun x5 =>
.ret (.agg [(c 0 x0), (c 0 x1), x4]))
theorem k_equal_comparison_key : TxOk P F.equal_comparison_key 3 t_equal_comparison_key := txOk_of (H := {}) (plans := []) hm Tryz.func274 rfl rfl fun xs => by kernel_rfl
-- NOT TOLD: 275 slices.AppendSeq[[]string,string]: 1
def u_slices_AppendSeq_string_string (xs : List PV) : T PV :=
.iter (n xs 0) 1 [(.sl [])] (fun e0 y0 =>
.l (.lst 1 false) [(n e0 0)] fun x1 =>
.l (.app 1 false 16) [(n y0 0), x1] fun x2 =>
.cont 0 [x2]) (fun e0 y0 =>
.l (.lst 1 false) [(n e0 0)] fun x1 =>
.l (.app 1 false 16) [(n y0 0), x1] fun x2 =>
.fail) fun y0 =>
.ret (.tup [(n y0 0)])
theorem m_slices_AppendSeq_string_string : TxOkS P F.slices_AppendSeq_string_string sg_slices_AppendSeq_string_string u_slices_AppendSeq_string_string := txOkS_of (H := { wr := [0, 1, 2, 3, 4, 5, 6, 7, 8, 9, 10, 11, 12, 13, 14, 15, 16, 17, 18, 19, 20, 21, 22, 23, 24, 25, 26, 27, 28, 29, 30, 31, 32, 33, 34, 35, 36, 37, 38, 39], ro := [], nl := [], fz := [], da := [], sigs := [] }) (plans := []) hm Tryz.func275 rfl fun xs => by kernel_rfl
def t_proctree_kidsOf_1 (xs : List PV) : T PV :=
.l (.okc 12 true) [(n xs 0)] fun x0 =>
.l .len [(c 11 x0)] fun x1 =>
.l (.unbox 1 false) [(n xs 1)] fun x2 =>
.l (.cmp .eql .i64) [x1, x2] fun x3 =>
.ret x3
theorem k_proctree_kidsOf_1 : TxOk P F.proctree_kidsOf_1 2 t_proctree_kidsOf_1 := txOk_of (H := {}) (plans := []) hm Tryz.func276 rfl rfl fun xs => by kernel_rfl
def t_proctree_several_1 (xs : List PV) : T PV :=
.l (.okc 12 true) [(n xs 0)] fun x0 =>
.l (.cmp .eql .i64) [(c 0 x0), (i 7)] fun x1 =>
.ret x1
theorem k_proctree_several_1 : TxOk P F.proctree_several_1 1 t_proctree_several_1 := txOk_of (H := {}) (plans := []) hm Tryz.func277 rfl rfl fun xs => by kernel_rfl
def t_slices_Equal_string_string (xs : List PV) : T PV :=
.l .len [(n xs 0)] fun x0 =>
.l .len [(n xs 1)] fun x1 =>
.l (.cmp .neq .i64) [x0, x1] fun x2 =>
.ite x2 (
.ret (.bool false)) (
.l .len [(n xs 0)] fun x3 =>
.loop [(i 0)] fun y4 =>
.l (.cmp .lss .i64) [(n y4 0), x3] fun x5 =>
.ite x5 (
.l (.idx 1 false) [(n xs 0), (n y4 0)] fun x6 =>
.l (.idx 1 false) [(n xs 1), (n y4 0)] fun x7 =>
.l (.scmp .neq) [x6, x7] fun x8 =>
.ite x8 (
.ret (.bool false)) (
.l (.arith .add .i64) [(n y4 0), (i 1)] fun x9 =>
.cont 0 [x9])) (
.ret (.bool true)))
theorem k_slices_Equal_string_string : TxOk P F.slices_Equal_string_string 2 t_slices_Equal_string_string := txOk_of (H := {}) (plans := []) hm Tryz.func278 rfl rfl fun xs => by kernel_rfl
def t_slices_EqualFunc_api_Type_api_Type_api_Type_api_Type (xs : List PV) : T PV :=
.l .len [(n xs 0)] fun x0 =>
.l .len [(n xs 1)] fun x1 =>
.l (.cmp .neq .i64) [x0, x1] fun x2 =>
.ite x2 (
.ret (.bool false)) (
.l .len [(n xs 0)] fun x3 =>
.loop [(i 0)] fun y4 =>
.l (.cmp .lss .i64) [(n y4 0), x3] fun x5 =>
.ite x5 (
.l (.idx 6 true) [(n xs 0), (n y4 0)] fun x6 =>
.l (.okc 6 true) [x6] fun x7 =>
.l (.idx 6 true) [(n xs 1), (n y4 0)] fun x8 =>
.l (.okc 6 true) [x8] fun x9 =>
.callv (n xs 2) [x7, x9] fun x10 =>
.l .bnot [x10] fun x11 =>
.ite x11 (
.ret (.bool false)) (
.l (.arith .add .i64) [(n y4 0), (i 1)] fun x12 =>
.cont 0 [x12])) (
.ret (.bool true)))
theorem k_slices_EqualFunc_api_Type_api_Type_api_Type_api_Type : TxOk P F.slices_EqualFunc_api_Type_api_Type_api_Type_api_Type 3 t_slices_EqualFunc_api_Type_api_Type_api_Type_api_Type := txOk_of (H := {}) (plans := []) hm Tryz.func279 rfl rfl fun xs => by kernel_rfl
-- NOT TOLD: 280 slices.order2Ordered[string]: 1
def tb : List (Nat × Tx) := [(F.law26_WitnessDuals, ⟨3, t_law26_WitnessDuals⟩), (F.law26_awake, ⟨0, t_law26_awake⟩), (F.ref02_Few, ⟨2, t_ref02_Few⟩), (F.witness_Program, ⟨2, t_witness_Program⟩), (F.witness_Simple, ⟨1, t_witness_Simple⟩), (F.ref26_Simple, ⟨1, t_ref26_Simple⟩), (F.witness_Trace, ⟨3, t_witness_Trace⟩), (F.ref02_Raise, ⟨2, t_ref02_Raise⟩), (F.ref14_Dual, ⟨1, t_ref14_Dual⟩), (F.step_Text, ⟨1, t_step_Text⟩), (F.ref02_count, ⟨2, t_ref02_count⟩), (F.ref02_Depth, ⟨1, t_ref02_Depth⟩), (F.witness_build, ⟨1, t_witness_build⟩), (F.dual_Of, ⟨2, t_dual_Of⟩), (F.graph_Reach, ⟨2, t_graph_Reach⟩), (F.slices_Sort_int_int, ⟨1, t_slices_Sort_int_int⟩), (F.witness_bodies, ⟨0, t_witness_bodies⟩), (F.head_Kind, ⟨2, t_head_Kind⟩), (F.witness_name, ⟨1, t_witness_name⟩), (F.readback_Normal, ⟨2, t_readback_Normal⟩), (F.witness_call, ⟨2, t_witness_call⟩), (F.scope_Check, ⟨1, t_scope_Check⟩), (F.typetree_Right, ⟨1, t_typetree_Right⟩), (F.typetree_Session, ⟨1, t_typetree_Session⟩), (F.witness_plain, ⟨1, t_witness_plain⟩), (F.ref02_Right, ⟨1, t_ref02_Right⟩), (F.ref02_Session, ⟨1, t_ref02_Session⟩), (F.ref26_plain, ⟨1, t_ref26_plain⟩), (F.ref07_Build, ⟨1, t_ref07_Build⟩), (F.witness_maker_events, ⟨2, t_witness_maker_events⟩), (F.ref14_dual, ⟨2, t_ref14_dual⟩), (F.config_Name, ⟨2, t_config_Name⟩), (F.show_Value, ⟨1, t_show_Value⟩), (F.graph_Build, ⟨1, t_graph_Build⟩), (F.dual_Close, ⟨1, t_dual_Close⟩), (F.math_bits_Len, ⟨1, t_math_bits_Len⟩), (F.witness_maker_send, ⟨2, t_witness_maker_send⟩), (F.witness_maker_recv, ⟨2, t_witness_maker_recv⟩), (F.witness_maker_choose, ⟨2, t_witness_maker_choose⟩), (F.witness_maker_branch, ⟨2, t_witness_maker_branch⟩), (F.witness_maker_end, ⟨2, t_witness_maker_end⟩), (F.strconv_Itoa, ⟨1, t_strconv_Itoa⟩), (F.proctree_Program, ⟨1, t_proctree_Program⟩), (F.scope_Find, ⟨2, t_scope_Find⟩), (F.scope_twice, ⟨1, t_scope_twice⟩), (F.scope_params, ⟨1, t_scope_params⟩), (F.scope_names_with, ⟨2, t_scope_names_with⟩), (F.scope_walker_walk, ⟨4, t_scope_walker_walk⟩), (F.typetree_shallow, ⟨2, t_typetree_shallow⟩), (F.typetree_few, ⟨2, t_typetree_few⟩), (F.typetree_check, ⟨3, t_typetree_check⟩), (F.witness_base, ⟨1, t_witness_base⟩), (F.slices_ContainsFunc_api_Type_api_Type, ⟨2, t_slices_ContainsFunc_api_Type_api_Type⟩), (F.witness_plain_1, ⟨1, t_witness_plain_1⟩), (F.ref02_Size, ⟨1, t_ref02_Size⟩), (F.ref02_node, ⟨4, t_ref02_node⟩), (F.ref07_reference, ⟨4, t_ref07_reference⟩), (F.ref07_nodes, ⟨4, t_ref07_nodes⟩), (F.witness_maker_chosen, ⟨2, t_witness_maker_chosen⟩), (F.witness_maker_value, ⟨2, t_witness_maker_value⟩), (F.head_Next, ⟨3, t_head_Next⟩), (F.ref14_closed, ⟨2, t_ref14_closed⟩), (F.strconv_FormatInt, ⟨2, t_strconv_FormatInt⟩), (F.strconv_FormatBool, ⟨1, t_strconv_FormatBool⟩), (F.dual_mapped_graph_Node_graph_Node, ⟨2, t_dual_mapped_graph_Node_graph_Node⟩), (F.dual_Close_1, ⟨2, t_dual_Close_1⟩), (F.slices_Clone_string_string, ⟨1, t_slices_Clone_string_string⟩), (F.slices_Clone_graph_Ref_graph_Ref, ⟨1, t_slices_Clone_graph_Ref_graph_Ref⟩), (F.dual_Close_2, ⟨3, t_dual_Close_2⟩), (F.dual_mapped_graph_Ref_graph_Ref, ⟨2, t_dual_mapped_graph_Ref_graph_Ref⟩), (F.dual_Close_2_1, ⟨4, t_dual_Close_2_1⟩), (F.dual_rest, ⟨2, t_dual_rest⟩), (F.dual_Kind, ⟨1, t_dual_Kind⟩), (F.cmp_Less_int, ⟨2, t_cmp_Less_int⟩), (F.math_bits_Len64, ⟨1, t_math_bits_Len64⟩), (F.witness_maker_next, ⟨3, t_witness_maker_next⟩), (F.internal_strconv_Itoa, ⟨1, t_internal_strconv_Itoa⟩), (F.head_Prio, ⟨2, t_head_Prio⟩), (F.readback_reader_find, ⟨2, t_readback_reader_find⟩), (F.readback_name, ⟨1, t_readback_name⟩), (F.readback_reader_plain, ⟨2, t_readback_reader_plain⟩), (F.readback_reader_choice, ⟨2, t_readback_reader_choice⟩), (F.proctree_Total, ⟨1, t_proctree_Total⟩), (F.proctree_Right, ⟨1, t_proctree_Right⟩), (F.lex_Name, ⟨1, t_lex_Name⟩), (F.slices_ContainsFunc_api_Param_api_Param, ⟨2, t_slices_ContainsFunc_api_Param_api_Param⟩), (F.proctree_Program_1, ⟨1, t_proctree_Program_1⟩), (F.slices_IndexFunc_api_Def_api_Def, ⟨2, t_slices_IndexFunc_api_Def_api_Def⟩), (F.scope_Find_1, ⟨2, t_scope_Find_1⟩), (F.slices_Sort_string_string, ⟨1, t_slices_Sort_string_string⟩), (F.scope_walker_node, ⟨4, t_scope_walker_node⟩), (F.proctree_Prefix, ⟨1, t_proctree_Prefix⟩), (F.typetree_shallow_1, ⟨2, t_typetree_shallow_1⟩), (F.typetree_nodes, ⟨1, t_typetree_nodes⟩), (F.typetree_fields, ⟨1, t_typetree_fields⟩), (F.typetree_find, ⟨2, t_typetree_find⟩), (F.slices_Clone_typetree_bound_typetree_bound, ⟨1, t_slices_Clone_typetree_bound_typetree_bound⟩), (F.slices_IndexFunc_api_Type_api_Type, ⟨2, t_slices_IndexFunc_api_Type_api_Type⟩), (F.ref02_shape, ⟨1, t_ref02_shape⟩), (F.ref07_Count, ⟨1, t_ref07_Count⟩), (F.head_Raise, ⟨2, t_head_Raise⟩), (F.internal_strconv_FormatInt, ⟨2, t_internal_strconv_FormatInt⟩), (F.internal_strconv_FormatBool, ⟨1, t_internal_strconv_FormatBool⟩), (F.graph_strip, ⟨1, t_graph_strip⟩), (F.cmp_isNaN_int, ⟨1, t_cmp_isNaN_int⟩), (F.head_action, ⟨1, t_head_action⟩), (F.equal_Offset, ⟨3, t_equal_Offset⟩), (F.head_Labels, ⟨2, t_head_Labels⟩), (F.head_Label, ⟨3, t_head_Label⟩), (F.proctree_weight, ⟨1, t_proctree_weight⟩), (F.typetree_Size, ⟨1, t_typetree_Size⟩), (F.proctree_shallow, ⟨2, t_proctree_shallow⟩), (F.proctree_few, ⟨2, t_proctree_few⟩), (F.proctree_all, ⟨2, t_proctree_all⟩), (F.proctree_shape, ⟨1, t_proctree_shape⟩), (F.lex_letter, ⟨1, t_lex_letter⟩), (F.lex_span, ⟨3, t_lex_span⟩), (F.lex_Name_1, ⟨1, t_lex_Name_1⟩), (F.lex_digit, ⟨1, t_lex_digit⟩), (F.lex_Keyword, ⟨1, t_lex_Keyword⟩), (F.slices_IndexFunc_api_Param_api_Param, ⟨2, t_slices_IndexFunc_api_Param_api_Param⟩), (F.slices_ContainsFunc_api_Value_api_Value, ⟨2, t_slices_ContainsFunc_api_Value_api_Value⟩), (F.scope_walker_node_1, ⟨2, t_scope_walker_node_1⟩), (F.scope_bound, ⟨1, t_scope_bound⟩), (F.scope_walker_call, ⟨3, t_scope_walker_call⟩), (F.typetree_nodes_1, ⟨2, t_typetree_nodes_1⟩), (F.typetree_visit, ⟨2, t_typetree_visit⟩), (F.typetree_rules, ⟨0, t_typetree_rules⟩), (F.typetree_within, ⟨2, t_typetree_within⟩), (F.typetree_distinct, ⟨1, t_typetree_distinct⟩), (F.slices_Backward_typetree_bound_typetree_bound, ⟨1, t_slices_Backward_typetree_bound_typetree_bound⟩), (F.ref02_prio, ⟨1, t_ref02_prio⟩), (F.ref02_Labels, ⟨1, t_ref02_Labels⟩), (F.ref01_Name, ⟨1, t_ref01_Name⟩), (F.internal_strconv_small, ⟨1, t_internal_strconv_small⟩), (F.internal_strconv_numDigits, ⟨1, t_internal_strconv_numDigits⟩), (F.equal_offset, ⟨2, t_equal_offset⟩), (F.equal_Equal, ⟨3, t_equal_Equal⟩), (F.slices_Sorted_string, ⟨1, t_slices_Sorted_string⟩), (F.slices_Values_string_string, ⟨1, t_slices_Values_string_string⟩), (F.slices_Index_string_string, ⟨2, t_slices_Index_string_string⟩), (F.slices_ContainsFunc_api_Proc_api_Proc, ⟨2, t_slices_ContainsFunc_api_Proc_api_Proc⟩), (F.proctree_shallow_1, ⟨2, t_proctree_shallow_1⟩), (F.proctree_all_1, ⟨2, t_proctree_all_1⟩), (F.proctree_rules, ⟨0, t_proctree_rules⟩), (F.proctree_named, ⟨2, t_proctree_named⟩), (F.proctree_typed, ⟨2, t_proctree_typed⟩), (F.proctree_distinct, ⟨1, t_proctree_distinct⟩), (F.proctree_shape_1, ⟨1, t_proctree_shape_1⟩), (F.proctree_value, ⟨1, t_proctree_value⟩), (F.slices_Contains_string_string, ⟨2, t_slices_Contains_string_string⟩), (F.cmp_Less_string, ⟨2, t_cmp_Less_string⟩), (F.slices_IndexFunc_api_Value_api_Value, ⟨2, t_slices_IndexFunc_api_Value_api_Value⟩), (F.slices_Backward_typetree_bound_typetree_bound_1, ⟨2, t_slices_Backward_typetree_bound_typetree_bound_1⟩), (F.ref02_in, ⟨2, t_ref02_in⟩), (F.ref01_Word, ⟨1, t_ref01_Word⟩), (F.ref01_Keyword, ⟨1, t_ref01_Keyword⟩), (F.internal_strconv_log10Pow2, ⟨1, t_internal_strconv_log10Pow2⟩), (F.internal_strconv_bool2_int, ⟨1, t_internal_strconv_bool2_int⟩), (F.equal_Equal_1, ⟨3, t_equal_Equal_1⟩), (F.slices_Collect_string, ⟨1, t_slices_Collect_string⟩), (F.slices_Values_string_string_1, ⟨2, t_slices_Values_string_string_1⟩), (F.slices_IndexFunc_api_Proc_api_Proc, ⟨2, t_slices_IndexFunc_api_Proc_api_Proc⟩), (F.proctree_kidsOf, ⟨1, t_proctree_kidsOf⟩), (F.proctree_each, ⟨1, t_proctree_each⟩), (F.proctree_several, ⟨1, t_proctree_several⟩), (F.typetree_Same, ⟨2, t_typetree_Same⟩), (F.cmp_isNaN_string, ⟨1, t_cmp_isNaN_string⟩), (F.ref01_in, ⟨2, t_ref01_in⟩), (F.ref01_Letters, ⟨0, t_ref01_Letters⟩), (F.ref01_digits, ⟨0, t_ref01_digits⟩), (F.equal_comparison_key, ⟨3, t_equal_comparison_key⟩), (F.proctree_kidsOf_1, ⟨2, t_proctree_kidsOf_1⟩), (F.proctree_several_1, ⟨1, t_proctree_several_1⟩), (F.slices_Equal_string_string, ⟨2, t_slices_Equal_string_string⟩), (F.slices_EqualFunc_api_Type_api_Type_api_Type_api_Type, ⟨3, t_slices_EqualFunc_api_Type_api_Type_api_Type_api_Type⟩)]
def tbS : List (Nat × TxS) := [(F.ref02_Raise, ⟨sg_ref02_Raise, u_ref02_Raise⟩), (F.slices_Concat_int_int, ⟨sg_slices_Concat_int_int, u_slices_Concat_int_int⟩), (F.slices_Sort_int_int, ⟨sg_slices_Sort_int_int, u_slices_Sort_int_int⟩), (F.witness_maker_events, ⟨sg_witness_maker_events, u_witness_maker_events⟩), (F.graph_set_add, ⟨sg_graph_set_add, u_graph_set_add⟩), (F.slices_pdqsortOrdered_int, ⟨sg_slices_pdqsortOrdered_int_Nil, u_slices_pdqsortOrdered_int_Nil⟩), (F.readback_reader_tree, ⟨sg_readback_reader_tree, u_readback_reader_tree⟩), (F.readback_reader_tree, ⟨sg_readback_reader_tree_Nil, u_readback_reader_tree_Nil⟩), (F.scope_twice, ⟨sg_scope_twice, u_scope_twice⟩), (F.scope_params, ⟨sg_scope_params, u_scope_params⟩), (F.graph_builder_build, ⟨sg_graph_builder_build, u_graph_builder_build⟩), (F.dual_mapped_graph_Node_graph_Node, ⟨sg_dual_mapped_graph_Node_graph_Node, u_dual_mapped_graph_Node_graph_Node⟩), (F.slices_Clone_string_string, ⟨sg_slices_Clone_string_string, u_slices_Clone_string_string⟩), (F.slices_Clone_graph_Ref_graph_Ref, ⟨sg_slices_Clone_graph_Ref_graph_Ref, u_slices_Clone_graph_Ref_graph_Ref⟩), (F.slices_insertionSortOrdered_int, ⟨sg_slices_insertionSortOrdered_int, u_slices_insertionSortOrdered_int⟩), (F.readback_reader_plain, ⟨sg_readback_reader_plain, u_readback_reader_plain⟩), (F.readback_reader_choice, ⟨sg_readback_reader_choice, u_readback_reader_choice⟩), (F.slices_Sort_string_string, ⟨sg_slices_Sort_string_string, u_slices_Sort_string_string⟩), (F.slices_Clone_typetree_bound_typetree_bound, ⟨sg_slices_Clone_typetree_bound_typetree_bound, u_slices_Clone_typetree_bound_typetree_bound⟩), (F.proctree_all, ⟨sg_proctree_all_Wg, u_proctree_all_Wg⟩), (F.proctree_all, ⟨sg_proctree_all_Fw, u_proctree_all_Fw⟩), (F.slices_pdqsortOrdered_string, ⟨sg_slices_pdqsortOrdered_string_Nil, u_slices_pdqsortOrdered_string_Nil⟩), (F.proctree_weight_1, ⟨sg_proctree_weight_1, u_proctree_weight_1⟩), (F.slices_ContainsFunc_api_Proc_api_Proc, ⟨sg_slices_ContainsFunc_api_Proc_api_Proc_Wg, u_slices_ContainsFunc_api_Proc_api_Proc_Wg⟩), (F.slices_ContainsFunc_api_Proc_api_Proc, ⟨sg_slices_ContainsFunc_api_Proc_api_Proc_Fw, u_slices_ContainsFunc_api_Proc_api_Proc_Fw⟩), (F.proctree_few_1, ⟨sg_proctree_few_1, u_proctree_few_1⟩), (F.proctree_all_1, ⟨sg_proctree_all_1_Wg, u_proctree_all_1_Wg⟩), (F.proctree_all_1, ⟨sg_proctree_all_1_Fw, u_proctree_all_1_Fw⟩), (F.slices_insertionSortOrdered_string, ⟨sg_slices_insertionSortOrdered_string, u_slices_insertionSortOrdered_string⟩), (F.equal_comparison_equal, ⟨sg_equal_comparison_equal, u_equal_comparison_equal⟩), (F.slices_Collect_string, ⟨sg_slices_Collect_string, u_slices_Collect_string⟩), (F.slices_IndexFunc_api_Proc_api_Proc, ⟨sg_slices_IndexFunc_api_Proc_api_Proc_Wg, u_slices_IndexFunc_api_Proc_api_Proc_Wg⟩), (F.slices_IndexFunc_api_Proc_api_Proc, ⟨sg_slices_IndexFunc_api_Proc_api_Proc_Fw, u_slices_IndexFunc_api_Proc_api_Proc_Fw⟩), (F.slices_AppendSeq_string_string, ⟨sg_slices_AppendSeq_string_string, u_slices_AppendSeq_string_string⟩)]
theorem allOk : AllOk P tb := ⟨k_law26_WitnessDuals, k_law26_awake, k_ref02_Few, k_witness_Program, k_witness_Simple, k_ref26_Simple, k_witness_Trace, k_ref02_Raise, k_ref14_Dual, k_step_Text, k_ref02_count, k_ref02_Depth, k_witness_build, k_dual_Of, k_graph_Reach, k_slices_Sort_int_int, k_witness_bodies, k_head_Kind, k_witness_name, k_readback_Normal, k_witness_call, k_scope_Check, k_typetree_Right, k_typetree_Session, k_witness_plain, k_ref02_Right, k_ref02_Session, k_ref26_plain, k_ref07_Build, k_witness_maker_events, k_ref14_dual, k_config_Name, k_show_Value, k_graph_Build, k_dual_Close, k_math_bits_Len, k_witness_maker_send, k_witness_maker_recv, k_witness_maker_choose, k_witness_maker_branch, k_witness_maker_end, k_strconv_Itoa, k_proctree_Program, k_scope_Find, k_scope_twice, k_scope_params, k_scope_names_with, k_scope_walker_walk, k_typetree_shallow, k_typetree_few, k_typetree_check, k_witness_base, k_slices_ContainsFunc_api_Type_api_Type, k_witness_plain_1, k_ref02_Size, k_ref02_node, k_ref07_reference, k_ref07_nodes, k_witness_maker_chosen, k_witness_maker_value, k_head_Next, k_ref14_closed, k_strconv_FormatInt, k_strconv_FormatBool, k_dual_mapped_graph_Node_graph_Node, k_dual_Close_1, k_slices_Clone_string_string, k_slices_Clone_graph_Ref_graph_Ref, k_dual_Close_2, k_dual_mapped_graph_Ref_graph_Ref, k_dual_Close_2_1, k_dual_rest, k_dual_Kind, k_cmp_Less_int, k_math_bits_Len64, k_witness_maker_next, k_internal_strconv_Itoa, k_head_Prio, k_readback_reader_find, k_readback_name, k_readback_reader_plain, k_readback_reader_choice, k_proctree_Total, k_proctree_Right, k_lex_Name, k_slices_ContainsFunc_api_Param_api_Param, k_proctree_Program_1, k_slices_IndexFunc_api_Def_api_Def, k_scope_Find_1, k_slices_Sort_string_string, k_scope_walker_node, k_proctree_Prefix, k_typetree_shallow_1, k_typetree_nodes, k_typetree_fields, k_typetree_find, k_slices_Clone_typetree_bound_typetree_bound, k_slices_IndexFunc_api_Type_api_Type, k_ref02_shape, k_ref07_Count, k_head_Raise, k_internal_strconv_FormatInt, k_internal_strconv_FormatBool, k_graph_strip, k_cmp_isNaN_int, k_head_action, k_equal_Offset, k_head_Labels, k_head_Label, k_proctree_weight, k_typetree_Size, k_proctree_shallow, k_proctree_few, k_proctree_all, k_proctree_shape, k_lex_letter, k_lex_span, k_lex_Name_1, k_lex_digit, k_lex_Keyword, k_slices_IndexFunc_api_Param_api_Param, k_slices_ContainsFunc_api_Value_api_Value, k_scope_walker_node_1, k_scope_bound, k_scope_walker_call, k_typetree_nodes_1, k_typetree_visit, k_typetree_rules, k_typetree_within, k_typetree_distinct, k_slices_Backward_typetree_bound_typetree_bound, k_ref02_prio, k_ref02_Labels, k_ref01_Name, k_internal_strconv_small, k_internal_strconv_numDigits, k_equal_offset, k_equal_Equal, k_slices_Sorted_string, k_slices_Values_string_string, k_slices_Index_string_string, k_slices_ContainsFunc_api_Proc_api_Proc, k_proctree_shallow_1, k_proctree_all_1, k_proctree_rules, k_proctree_named, k_proctree_typed, k_proctree_distinct, k_proctree_shape_1, k_proctree_value, k_slices_Contains_string_string, k_cmp_Less_string, k_slices_IndexFunc_api_Value_api_Value, k_slices_Backward_typetree_bound_typetree_bound_1, k_ref02_in, k_ref01_Word, k_ref01_Keyword, k_internal_strconv_log10Pow2, k_internal_strconv_bool2_int, k_equal_Equal_1, k_slices_Collect_string, k_slices_Values_string_string_1, k_slices_IndexFunc_api_Proc_api_Proc, k_proctree_kidsOf, k_proctree_each, k_proctree_several, k_typetree_Same, k_cmp_isNaN_string, k_ref01_in, k_ref01_Letters, k_ref01_digits, k_equal_comparison_key, k_proctree_kidsOf_1, k_proctree_several_1, k_slices_Equal_string_string, k_slices_EqualFunc_api_Type_api_Type_api_Type_api_Type, trivial⟩
theorem allOkS : AllOkS P tbS := ⟨m_ref02_Raise, m_slices_Concat_int_int, m_slices_Sort_int_int, m_witness_maker_events, m_graph_set_add, m_slices_pdqsortOrdered_int_Nil, m_readback_reader_tree, m_readback_reader_tree_Nil, m_scope_twice, m_scope_params, m_graph_builder_build, m_dual_mapped_graph_Node_graph_Node, m_slices_Clone_string_string, m_slices_Clone_graph_Ref_graph_Ref, m_slices_insertionSortOrdered_int, m_readback_reader_plain, m_readback_reader_choice, m_slices_Sort_string_string, m_slices_Clone_typetree_bound_typetree_bound, m_proctree_all_Wg, m_proctree_all_Fw, m_slices_pdqsortOrdered_string_Nil, m_proctree_weight_1, m_slices_ContainsFunc_api_Proc_api_Proc_Wg, m_slices_ContainsFunc_api_Proc_api_Proc_Fw, m_proctree_few_1, m_proctree_all_1_Wg, m_proctree_all_1_Fw, m_slices_insertionSortOrdered_string, m_equal_comparison_equal, m_slices_Collect_string, m_slices_IndexFunc_api_Proc_api_Proc_Wg, m_slices_IndexFunc_api_Proc_api_Proc_Fw, m_slices_AppendSeq_string_string, trivial⟩
end Go.Proofs.YtkpnmgohbipjjaaGreatDoor.Tx

/- Texts of functions, printed by a program (wip/dev/Gen.lean). -/
import Derived.Test.YtjekkidhbnkiaaaDoorLfD
import Derived.Test.YtjekkidhbnkiaaaDoorChecked
import Derived.KernelRfl
set_option linter.all false
namespace Go.Proofs.YtjekkidhbnkiaaaDoor.Tx
open Go.Lf Go.Lf.S
set_option maxRecDepth 100000
variable [Mk]
instance gl : Gl := { l := [(0, (.agg [(.str ⟨#[100, 101, 102]⟩), (.str ⟨#[109, 97, 105, 110]⟩), (.str ⟨#[115, 116, 111, 112]⟩), (.str ⟨#[110, 101, 119]⟩), (.str ⟨#[105, 110, 116]⟩), (.str ⟨#[98, 111, 111, 108]⟩), (.str ⟨#[101, 110, 100]⟩), (.str ⟨#[114, 101, 99]⟩), (.str ⟨#[116, 114, 117, 101]⟩), (.str ⟨#[102, 97, 108, 115, 101]⟩)]), 10, true)] }
noncomputable abbrev P : Program := Tryd.prog
instance xc : XC P := xc_none rfl
namespace F
abbrev law03_ProctreeFree : Nat := 3
abbrev law03_ProctreeBinds : Nat := 4
abbrev law03_ProctreeKeeps : Nat := 5
abbrev law03_ProctreeSizes : Nat := 6
abbrev law03_awake : Nat := 7
abbrev ref03_Few : Nat := 8
abbrev ref03_Texts : Nat := 9
abbrev proctree_Free : Nat := 10
abbrev ref03_Free : Nat := 11
abbrev ref03_In : Nat := 12
abbrev ref03_Copy : Nat := 13
abbrev proctree_Copy : Nat := 14
abbrev ref03_Same : Nat := 15
abbrev law03_spoil : Nat := 16
abbrev proctree_Size : Nat := 17
abbrev proctree_Depth : Nat := 18
abbrev proctree_Total : Nat := 19
abbrev proctree_Right : Nat := 20
abbrev proctree_Program : Nat := 21
abbrev proctree_Same : Nat := 22
abbrev proctree_Prefix : Nat := 23
abbrev ref03_left : Nat := 24
abbrev ref03_Depth : Nat := 25
abbrev proctree_Free_1 : Nat := 26
abbrev slices_Contains_string_string : Nat := 27
abbrev proctree_Free_2 : Nat := 28
abbrev slices_Clone_string_string : Nat := 29
abbrev ref03_uses : Nat := 30
abbrev ref02_Raise : Nat := 31
abbrev slices_Clone_api_Value_api_Value : Nat := 32
abbrev typetree_Copy : Nat := 33
abbrev ref02_Same : Nat := 34
abbrev proctree_all : Nat := 35
abbrev proctree_Size_1 : Nat := 36
abbrev proctree_weight : Nat := 37
abbrev typetree_Size : Nat := 38
abbrev proctree_shallow : Nat := 39
abbrev proctree_few : Nat := 40
abbrev proctree_shape : Nat := 41
abbrev lex_Name : Nat := 42
abbrev slices_ContainsFunc_api_Param_api_Param : Nat := 43
abbrev proctree_Program_1 : Nat := 44
abbrev typetree_Right : Nat := 45
abbrev slices_Equal_string_string : Nat := 46
abbrev slices_Equal_api_Value_api_Value : Nat := 47
abbrev typetree_Same : Nat := 48
abbrev proctree_equal_api_Proc : Nat := 49
abbrev ref02_Few : Nat := 50
abbrev slices_Index_string_string : Nat := 51
abbrev typetree_mapped : Nat := 52
abbrev ref02_texts : Nat := 53
abbrev slices_ContainsFunc_api_Proc_api_Proc : Nat := 54
abbrev proctree_all_1 : Nat := 55
abbrev proctree_weight_1 : Nat := 56
abbrev typetree_nodes : Nat := 57
abbrev proctree_shallow_1 : Nat := 58
abbrev proctree_few_1 : Nat := 59
abbrev proctree_rules : Nat := 60
abbrev proctree_named : Nat := 61
abbrev proctree_typed : Nat := 62
abbrev proctree_distinct : Nat := 63
abbrev slices_ContainsFunc_api_Value_api_Value : Nat := 64
abbrev proctree_shape_1 : Nat := 65
abbrev proctree_value : Nat := 66
abbrev lex_letter : Nat := 67
abbrev lex_span : Nat := 68
abbrev lex_Name_1 : Nat := 69
abbrev lex_digit : Nat := 70
abbrev lex_Keyword : Nat := 71
abbrev slices_IndexFunc_api_Param_api_Param : Nat := 72
abbrev typetree_shallow : Nat := 73
abbrev typetree_few : Nat := 74
abbrev typetree_check : Nat := 75
abbrev slices_EqualFunc_api_Type_api_Type_api_Type_api_Type : Nat := 76
abbrev slices_EqualFunc_api_Proc_api_Proc_api_Proc_api_Proc : Nat := 77
abbrev ref02_count : Nat := 78
abbrev ref02_Depth : Nat := 79
abbrev slices_IndexFunc_api_Proc_api_Proc : Nat := 80
abbrev typetree_nodes_1 : Nat := 81
abbrev typetree_visit : Nat := 82
abbrev proctree_kidsOf : Nat := 83
abbrev proctree_each : Nat := 84
abbrev proctree_several : Nat := 85
abbrev typetree_Session : Nat := 86
abbrev slices_IndexFunc_api_Value_api_Value : Nat := 87
abbrev slices_ContainsFunc_api_Type_api_Type : Nat := 88
abbrev typetree_shallow_1 : Nat := 89
abbrev typetree_fields : Nat := 90
abbrev typetree_find : Nat := 91
abbrev slices_Clone_typetree_bound_typetree_bound : Nat := 92
abbrev proctree_kidsOf_1 : Nat := 93
abbrev proctree_several_1 : Nat := 94
abbrev slices_IndexFunc_api_Type_api_Type : Nat := 95
abbrev typetree_rules : Nat := 96
abbrev typetree_within : Nat := 97
abbrev typetree_distinct : Nat := 98
abbrev slices_Backward_typetree_bound_typetree_bound : Nat := 99
abbrev slices_Backward_typetree_bound_typetree_bound_1 : Nat := 100
end F
theorem hm : Tryd.prog.follows .mixedOrders = true := by kernel_rfl
/-- duologue/proctree.Free$1, with memory -/
def sg_proctree_Free_1 : Sig := { args := [.at (.dat 0), .at (.dat 1), .at (.ptr 9000 0)], obs := [(9000, .cells false 1 false (.pts [.own 9001])), (9001, .arr true 9 1 false 2)], res := .at (.dat 0), robs := [(9000, .cells false 1 false (.pts [.own 9002])), (9002, .arr true 9 1 false 1)], nout := 2 }
/-- duologue/proctree.Free$2, with memory -/
def sg_proctree_Free_2 : Sig := { args := [.at (.dat 0), .at (.dat 1), .at (.ptr 9010 0), .at (.ptr 9011 0)], obs := [(9010, .cells false 1 false (.pts [.clo 26 [] [(9000, 0)]])), (9011, .cells false 1 false (.pts [.clo 28 [] [(9010, 0), (9011, 0)]])), (9000, .cells false 1 false (.pts [.own 9001])), (9001, .arr true 9 1 false 2)], res := .at (.dat 0), robs := [(9010, .cells false 1 false (.pts [.clo 26 [] [(9000, 0)]])), (9011, .cells false 1 false (.pts [.clo 28 [] [(9010, 0), (9011, 0)]])), (9000, .cells false 1 false (.pts [.own 9002])), (9002, .arr true 9 1 false 1)], nout := 2 }
/-- slices.Clone[[]string,string], with memory -/
def sg_slices_Clone_string_string : Sig := { args := [.at (.dat 0)], obs := [], res := .at (.own 9000), robs := [(9000, .arr false 9 1 false 0)], nout := 1 }
/-- duologue/duologueref02.Raise, with memory -/
def sg_ref02_Raise : Sig := { args := [.at (.dat 0), .at (.dat 1)], obs := [], res := .agg [.dat 0, .dat 1, .dat 2, .dat 3, .dat 4, .own 9000], robs := [(9000, .arr false 26 6 true 5)], nout := 6 }
/-- slices.Clone[[]duologue/api.Value,duologue/api.Value], with memory -/
def sg_slices_Clone_api_Value_api_Value : Sig := { args := [.at (.dat 0)], obs := [], res := .at (.own 9000), robs := [(9000, .arr false 46 3 true 0)], nout := 1 }
/-- duologue/proctree.all, with memory -/
def sg_proctree_all_Sz : Sig := { args := [.at (.dat 0), .at (.clo 36 [] [(9000, 0)])], obs := [(9000, .cells false 1 false (.pts [.dat 1]))], res := .at (.dat 0), robs := [(9000, .cells false 1 false (.pts [.dat 1]))], nout := 2 }
/-- duologue/proctree.all, with memory -/
def sg_proctree_all_Wg : Sig := { args := [.at (.dat 0), .at (.clo 56 [] [(9000, 0)])], obs := [(9000, .cells false 1 false (.pts [.dat 1]))], res := .at (.dat 0), robs := [(9000, .cells false 1 false (.pts [.dat 1]))], nout := 2 }
/-- duologue/proctree.all, with memory -/
def sg_proctree_all_Fw : Sig := { args := [.at (.dat 0), .at (.clo 59 [] [(9000, 0)])], obs := [(9000, .cells false 1 false (.pts [.dat 1]))], res := .at (.dat 0), robs := [(9000, .cells false 1 false (.pts [.dat 1]))], nout := 2 }
/-- duologue/proctree.Size$1, with memory -/
def sg_proctree_Size_1 : Sig := { args := [.at (.dat 0), .at (.ptr 9000 0)], obs := [(9000, .cells false 1 false (.pts [.dat 1]))], res := .at (.dat 0), robs := [(9000, .cells false 1 false (.pts [.dat 1]))], nout := 2 }
/-- slices.ContainsFunc[[]duologue/api.Proc,duologue/api.Proc], with memory -/
def sg_slices_ContainsFunc_api_Proc_api_Proc_Sz : Sig := { args := [.at (.dat 0), .at (.clo 55 [] [(9001, 0)])], obs := [(9001, .cells false 1 false (.pts [.clo 36 [] [(9000, 0)]])), (9000, .cells false 1 false (.pts [.dat 1]))], res := .at (.dat 0), robs := [(9001, .cells false 1 false (.pts [.clo 36 [] [(9000, 0)]])), (9000, .cells false 1 false (.pts [.dat 1]))], nout := 2 }
/-- slices.ContainsFunc[[]duologue/api.Proc,duologue/api.Proc], with memory -/
def sg_slices_ContainsFunc_api_Proc_api_Proc_Wg : Sig := { args := [.at (.dat 0), .at (.clo 55 [] [(9001, 0)])], obs := [(9001, .cells false 1 false (.pts [.clo 56 [] [(9000, 0)]])), (9000, .cells false 1 false (.pts [.dat 1]))], res := .at (.dat 0), robs := [(9001, .cells false 1 false (.pts [.clo 56 [] [(9000, 0)]])), (9000, .cells false 1 false (.pts [.dat 1]))], nout := 2 }
/-- slices.ContainsFunc[[]duologue/api.Proc,duologue/api.Proc], with memory -/
def sg_slices_ContainsFunc_api_Proc_api_Proc_Fw : Sig := { args := [.at (.dat 0), .at (.clo 55 [] [(9001, 0)])], obs := [(9001, .cells false 1 false (.pts [.clo 59 [] [(9000, 0)]])), (9000, .cells false 1 false (.pts [.dat 1]))], res := .at (.dat 0), robs := [(9001, .cells false 1 false (.pts [.clo 59 [] [(9000, 0)]])), (9000, .cells false 1 false (.pts [.dat 1]))], nout := 2 }
/-- duologue/proctree.all$1, with memory -/
def sg_proctree_all_1_Sz : Sig := { args := [.at (.dat 0), .at (.ptr 9001 0)], obs := [(9001, .cells false 1 false (.pts [.clo 36 [] [(9000, 0)]])), (9000, .cells false 1 false (.pts [.dat 1]))], res := .at (.dat 0), robs := [(9001, .cells false 1 false (.pts [.clo 36 [] [(9000, 0)]])), (9000, .cells false 1 false (.pts [.dat 1]))], nout := 2 }
/-- duologue/proctree.all$1, with memory -/
def sg_proctree_all_1_Wg : Sig := { args := [.at (.dat 0), .at (.ptr 9001 0)], obs := [(9001, .cells false 1 false (.pts [.clo 56 [] [(9000, 0)]])), (9000, .cells false 1 false (.pts [.dat 1]))], res := .at (.dat 0), robs := [(9001, .cells false 1 false (.pts [.clo 56 [] [(9000, 0)]])), (9000, .cells false 1 false (.pts [.dat 1]))], nout := 2 }
/-- duologue/proctree.all$1, with memory -/
def sg_proctree_all_1_Fw : Sig := { args := [.at (.dat 0), .at (.ptr 9001 0)], obs := [(9001, .cells false 1 false (.pts [.clo 59 [] [(9000, 0)]])), (9000, .cells false 1 false (.pts [.dat 1]))], res := .at (.dat 0), robs := [(9001, .cells false 1 false (.pts [.clo 59 [] [(9000, 0)]])), (9000, .cells false 1 false (.pts [.dat 1]))], nout := 2 }
/-- duologue/proctree.weight$1, with memory -/
def sg_proctree_weight_1 : Sig := { args := [.at (.dat 0), .at (.ptr 9000 0)], obs := [(9000, .cells false 1 false (.pts [.dat 1]))], res := .at (.dat 0), robs := [(9000, .cells false 1 false (.pts [.dat 1]))], nout := 2 }
/-- duologue/proctree.few$1, with memory -/
def sg_proctree_few_1 : Sig := { args := [.at (.dat 0), .at (.ptr 9000 0)], obs := [(9000, .cells false 1 false (.pts [.dat 1]))], res := .at (.dat 0), robs := [(9000, .cells false 1 false (.pts [.dat 1]))], nout := 2 }
/-- slices.IndexFunc[[]duologue/api.Proc,duologue/api.Proc], with memory -/
def sg_slices_IndexFunc_api_Proc_api_Proc_Sz : Sig := { args := [.at (.dat 0), .at (.clo 55 [] [(9001, 0)])], obs := [(9001, .cells false 1 false (.pts [.clo 36 [] [(9000, 0)]])), (9000, .cells false 1 false (.pts [.dat 1]))], res := .at (.dat 0), robs := [(9001, .cells false 1 false (.pts [.clo 36 [] [(9000, 0)]])), (9000, .cells false 1 false (.pts [.dat 1]))], nout := 2 }
/-- slices.IndexFunc[[]duologue/api.Proc,duologue/api.Proc], with memory -/
def sg_slices_IndexFunc_api_Proc_api_Proc_Wg : Sig := { args := [.at (.dat 0), .at (.clo 55 [] [(9001, 0)])], obs := [(9001, .cells false 1 false (.pts [.clo 56 [] [(9000, 0)]])), (9000, .cells false 1 false (.pts [.dat 1]))], res := .at (.dat 0), robs := [(9001, .cells false 1 false (.pts [.clo 56 [] [(9000, 0)]])), (9000, .cells false 1 false (.pts [.dat 1]))], nout := 2 }
/-- slices.IndexFunc[[]duologue/api.Proc,duologue/api.Proc], with memory -/
def sg_slices_IndexFunc_api_Proc_api_Proc_Fw : Sig := { args := [.at (.dat 0), .at (.clo 55 [] [(9001, 0)])], obs := [(9001, .cells false 1 false (.pts [.clo 59 [] [(9000, 0)]])), (9000, .cells false 1 false (.pts [.dat 1]))], res := .at (.dat 0), robs := [(9001, .cells false 1 false (.pts [.clo 59 [] [(9000, 0)]])), (9000, .cells false 1 false (.pts [.dat 1]))], nout := 2 }
/-- slices.Clone[[]duologue/typetree.bound,duologue/typetree.bound], with memory -/
def sg_slices_Clone_typetree_bound_typetree_bound : Sig := { args := [.at (.dat 0)], obs := [], res := .at (.own 9000), robs := [(9000, .arr false 105 2 true 0)], nout := 1 }
def t_law03_awake (xs : List PV) : T PV :=
.l (.lst 3 true) [(.agg [(i 1), (.str ⟨#[97]⟩), (i 0)])] fun x0 =>
.l (.lst 12 true) [(.agg [(i 1), (.str ⟨#[]⟩), (.str ⟨#[]⟩), (.sl []), (.sl []), (i 0), (i 0), (.str ⟨#[]⟩), (i 0), (.sl []), (.sl []), (.sl [])])] fun x1 =>
.l (.lst 12 true) [(.agg [(i 2), (.str ⟨#[99]⟩), (.str ⟨#[]⟩), (.sl []), x0, (i 0), (i 0), (.str ⟨#[]⟩), (i 0), (.sl []), (.sl []), x1])] fun x2 =>
.l (.lst 3 true) [(.agg [(i 1), (.str ⟨#[98]⟩), (i 0)])] fun x3 =>
.l (.lst 12 true) [(.agg [(i 6), (.str ⟨#[99]⟩), (.str ⟨#[100]⟩), (.sl []), (.sl []), (i 3), (i 0), (.str ⟨#[]⟩), (i 0), (.sl []), (.sl []), x2])] fun x4 =>
.call F.proctree_Right [(.agg [(i 2), (.str ⟨#[97]⟩), (.str ⟨#[]⟩), (.sl []), x3, (i 0), (i 0), (.str ⟨#[]⟩), (i 0), (.sl []), (.sl []), x4])] fun x5 =>
.l (.cmp .eql .i64) [x5, (i 0)] fun x6 =>
.ite x6 (
.call F.proctree_Free [(.agg [(i 2), (.str ⟨#[97]⟩), (.str ⟨#[]⟩), (.sl []), x3, (i 0), (i 0), (.str ⟨#[]⟩), (i 0), (.sl []), (.sl []), x4])] fun x7 =>
.l (.lst 1 false) [(.str ⟨#[97]⟩), (.str ⟨#[98]⟩)] fun x8 =>
.call F.ref03_Texts [x7, x8] fun x9 =>
.ite x9 (
.call F.proctree_Right [(.agg [(i 0), (.str ⟨#[]⟩), (.str ⟨#[]⟩), (.sl []), (.sl []), (i 0), (i 0), (.str ⟨#[]⟩), (i 0), (.sl []), (.sl []), (.sl [])])] fun x10 =>
.l (.cmp .eql .i64) [x10, (i 3)] fun x11 =>
.ite x11 (
.call F.proctree_Size [(.agg [(i 2), (.str ⟨#[97]⟩), (.str ⟨#[]⟩), (.sl []), x3, (i 0), (i 0), (.str ⟨#[]⟩), (i 0), (.sl []), (.sl []), x4])] fun x12 =>
.l (.cmp .eql .i64) [x12, (i 4)] fun x13 =>
.ite x13 (
.call F.proctree_Depth [(.agg [(i 2), (.str ⟨#[97]⟩), (.str ⟨#[]⟩), (.sl []), x3, (i 0), (i 0), (.str ⟨#[]⟩), (i 0), (.sl []), (.sl []), x4])] fun x14 =>
.l (.cmp .eql .i64) [x14, (i 4)] fun x15 =>
.ite x15 (
.call F.proctree_Total [(.agg [(.sl []), (i 2), (.str ⟨#[97]⟩), (.str ⟨#[]⟩), (.sl []), x3, (i 0), (i 0), (.str ⟨#[]⟩), (i 0), (.sl []), (.sl []), x4])] fun x16 =>
.l (.cmp .eql .i64) [x16, (i 5)] fun x17 =>
.ite x17 (
.call F.proctree_Program [(.agg [(.sl []), (i 2), (.str ⟨#[97]⟩), (.str ⟨#[]⟩), (.sl []), x3, (i 0), (i 0), (.str ⟨#[]⟩), (i 0), (.sl []), (.sl []), x4])] fun x18 =>
.l (.cmp .eql .i64) [x18, (i 0)] fun x19 =>
.ite x19 (
.call F.proctree_Same [(.agg [(i 2), (.str ⟨#[97]⟩), (.str ⟨#[]⟩), (.sl []), x3, (i 0), (i 0), (.str ⟨#[]⟩), (i 0), (.sl []), (.sl []), x4]), (.agg [(i 2), (.str ⟨#[97]⟩), (.str ⟨#[]⟩), (.sl []), x3, (i 0), (i 0), (.str ⟨#[]⟩), (i 0), (.sl []), (.sl []), x4])] fun x20 =>
.ite x20 (
.call F.proctree_Same [(.agg [(i 2), (.str ⟨#[97]⟩), (.str ⟨#[]⟩), (.sl []), x3, (i 0), (i 0), (.str ⟨#[]⟩), (i 0), (.sl []), (.sl []), x4]), (.agg [(i 6), (.str ⟨#[99]⟩), (.str ⟨#[100]⟩), (.sl []), (.sl []), (i 3), (i 0), (.str ⟨#[]⟩), (i 0), (.sl []), (.sl []), x2])] fun x21 =>
.l .bnot [x21] fun x22 =>
.ite x22 (
.call F.proctree_Prefix [(.agg [(i 2), (.str ⟨#[97]⟩), (.str ⟨#[]⟩), (.sl []), x3, (i 0), (i 0), (.str ⟨#[]⟩), (i 0), (.sl []), (.sl []), x4])] fun x23 =>
.ite x23 (
.call F.proctree_Prefix [(.agg [(i 6), (.str ⟨#[99]⟩), (.str ⟨#[100]⟩), (.sl []), (.sl []), (i 3), (i 0), (.str ⟨#[]⟩), (i 0), (.sl []), (.sl []), x2])] fun x24 =>
.l .bnot [x24] fun x25 =>
.ite x25 (
.call F.proctree_Copy [(.agg [(i 2), (.str ⟨#[97]⟩), (.str ⟨#[]⟩), (.sl []), x3, (i 0), (i 0), (.str ⟨#[]⟩), (i 0), (.sl []), (.sl []), x4])] fun x26 =>
.call F.ref03_Same [x26, (.agg [(i 2), (.str ⟨#[97]⟩), (.str ⟨#[]⟩), (.sl []), x3, (i 0), (i 0), (.str ⟨#[]⟩), (i 0), (.sl []), (.sl []), x4])] fun x27 =>
.ret x27) (
.ret (.bool false))) (
.ret (.bool false))) (
.ret (.bool false))) (
.ret (.bool false))) (
.ret (.bool false))) (
.ret (.bool false))) (
.ret (.bool false))) (
.ret (.bool false))) (
.ret (.bool false))) (
.ret (.bool false))) (
.ret (.bool false))
theorem k_law03_awake : TxOk P F.law03_awake 0 t_law03_awake := txOk_of (H := {}) (plans := []) hm Tryd.func7 rfl rfl fun xs => by kernel_rfl
def t_ref03_Few (xs : List PV) : T PV :=
.l (.okc 12 true) [(n xs 0)] fun x0 =>
.call F.ref03_left [x0, (n xs 1)] fun x1 =>
.l (.cmp .geq .i64) [x1, (i 0)] fun x2 =>
.ite x2 (
.call F.ref03_Depth [x0] fun x3 =>
.l (.cmp .leq .i64) [x3, (i 150)] fun x4 =>
.ret x4) (
.ret (.bool false))
theorem k_ref03_Few : TxOk P F.ref03_Few 2 t_ref03_Few := txOk_of (H := {}) (plans := []) hm Tryd.func8 rfl rfl fun xs => by kernel_rfl
def t_ref03_Texts (xs : List PV) : T PV :=
.l .len [(n xs 0)] fun x0 =>
.l .len [(n xs 1)] fun x1 =>
.l (.cmp .neq .i64) [x0, x1] fun x2 =>
.ite x2 (
.ret (.bool false)) (
.loop [(i 0)] fun y3 =>
.l .len [(n xs 0)] fun x4 =>
.l (.cmp .lss .i64) [(n y3 0), x4] fun x5 =>
.ite x5 (
.l (.idx 1 false) [(n xs 0), (n y3 0)] fun x6 =>
.l (.idx 1 false) [(n xs 1), (n y3 0)] fun x7 =>
.l (.scmp .neq) [x6, x7] fun x8 =>
.ite x8 (
.ret (.bool false)) (
.l (.arith .add .i64) [(n y3 0), (i 1)] fun x9 =>
.cont 0 [x9])) (
.ret (.bool true)))
theorem k_ref03_Texts : TxOk P F.ref03_Texts 2 t_ref03_Texts := txOk_of (H := {}) (plans := []) hm Tryd.func9 rfl rfl fun xs => by kernel_rfl
def t_proctree_Free (xs : List PV) : T PV :=
.l (.okc 12 true) [(n xs 0)] fun x0 =>
.calls F.proctree_Free_2 sg_proctree_Free_2 [x0, (.sl []), (.sl [])] fun z1 =>
.ret (n z1 1)
theorem k_proctree_Free : TxOk P F.proctree_Free 1 t_proctree_Free := txOk_of (H := { wr := [], ro := [], nl := [(3, (0, (9, true)))], fz := [], da := [], sigs := [(26, sg_proctree_Free_1), (28, sg_proctree_Free_2)] }) (plans := []) hm Tryd.func10 rfl rfl fun xs => by kernel_rfl
def t_ref03_Copy (xs : List PV) : T PV :=
.l (.okc 12 true) [(n xs 0)] fun x0 =>
.l (.okc 12 true) [x0] fun x1 =>
.l (.lst 1 false) [] fun x2 =>
.l (.app 1 false 16) [x2, (c 3 x0)] fun x3 =>
.l (.lst 3 true) [] fun x4 =>
.l (.app 3 true 32) [x4, (c 4 x0)] fun x5 =>
.call F.ref02_Raise [(sb 5 6 x0), (i 0)] fun x6 =>
.l (.okc 6 true) [x6] fun x7 =>
.loop [(i 0), (c 0 x1), (c 1 x1), (c 2 x1), x3, x5, (c 0 x7), (c 1 x7), (c 2 x7), (c 3 x7), (c 4 x7), (c 5 x7), (.sl [])] fun y8 =>
.l .len [(c 11 x0)] fun x9 =>
.l (.cmp .lss .i64) [(n y8 0), x9] fun x10 =>
.ite x10 (
.l (.idx 12 true) [(c 11 x0), (n y8 0)] fun x11 =>
.call F.ref03_Copy [x11] fun x12 =>
.l (.lst 12 true) [x12] fun x13 =>
.l (.app 12 true 200) [(n y8 12), x13] fun x14 =>
.l (.arith .add .i64) [(n y8 0), (i 1)] fun x15 =>
.cont 0 [x15, (n y8 1), (n y8 2), (n y8 3), (n y8 4), (n y8 5), (n y8 6), (n y8 7), (n y8 8), (n y8 9), (n y8 10), (n y8 11), x14]) (
.ret (.agg [(n y8 1), (n y8 2), (n y8 3), (n y8 4), (n y8 5), (n y8 6), (n y8 7), (n y8 8), (n y8 9), (n y8 10), (n y8 11), (n y8 12)]))
theorem k_ref03_Copy : TxOk P F.ref03_Copy 1 t_ref03_Copy := txOk_of (H := {}) (plans := []) hm Tryd.func13 rfl rfl fun xs => by kernel_rfl
def t_proctree_Copy (xs : List PV) : T PV :=
.l (.okc 12 true) [(n xs 0)] fun x0 =>
.call F.slices_Clone_string_string [(c 3 x0)] fun x1 =>
.call F.slices_Clone_api_Value_api_Value [(c 4 x0)] fun x2 =>
.call F.typetree_Copy [(sb 5 6 x0)] fun x3 =>
.l (.okc 1 false) [x1] fun x4 =>
.l (.okc 1 false) [x2] fun x5 =>
.l (.okc 6 true) [x3] fun x6 =>
.l .len [(c 11 x0)] fun x7 =>
.loop [(i 0), (.sl [])] fun y8 =>
.l (.cmp .lss .i64) [(n y8 0), x7] fun x9 =>
.ite x9 (
.l (.idx 12 true) [(c 11 x0), (n y8 0)] fun x10 =>
.l (.okc 12 true) [x10] fun x11 =>
.call F.proctree_Copy [x11] fun x12 =>
.l (.lst 12 true) [x12] fun x13 =>
.l (.app 12 true 200) [(n y8 1), x13] fun x14 =>
.l (.arith .add .i64) [(n y8 0), (i 1)] fun x15 =>
.cont 0 [x15, x14]) (
.ret (.agg [(c 0 x0), (c 1 x0), (c 2 x0), x4, x5, (c 0 x6), (c 1 x6), (c 2 x6), (c 3 x6), (c 4 x6), (c 5 x6), (n y8 1)]))
theorem k_proctree_Copy : TxOk P F.proctree_Copy 1 t_proctree_Copy := txOk_of (H := {}) (plans := []) hm Tryd.func14 rfl rfl fun xs => by kernel_rfl
def t_ref03_Same (xs : List PV) : T PV :=
.l (.okc 12 true) [(n xs 0)] fun x0 =>
.l (.okc 12 true) [(n xs 1)] fun x1 =>
.l (.cmp .neq .i64) [(c 0 x0), (c 0 x1)] fun x2 =>
.ite x2 (
.ret (.bool false)) (
.l (.scmp .neq) [(c 1 x0), (c 1 x1)] fun x3 =>
.ite x3 (
.ret (.bool false)) (
.l (.scmp .neq) [(c 2 x0), (c 2 x1)] fun x4 =>
.ite x4 (
.ret (.bool false)) (
.call F.ref03_Texts [(c 3 x0), (c 3 x1)] fun x5 =>
.l .bnot [x5] fun x6 =>
.ite x6 (
.ret (.bool false)) (
.l .len [(c 4 x0)] fun x7 =>
.l .len [(c 4 x1)] fun x8 =>
.l (.cmp .neq .i64) [x7, x8] fun x9 =>
.ite x9 (
.ret (.bool false)) (
.call F.ref02_Same [(sb 5 6 x0), (sb 5 6 x1)] fun x10 =>
.l .bnot [x10] fun x11 =>
.ite x11 (
.ret (.bool false)) (
.l .len [(c 11 x0)] fun x12 =>
.l .len [(c 11 x1)] fun x13 =>
.l (.cmp .neq .i64) [x12, x13] fun x14 =>
.ite x14 (
.ret (.bool false)) (
.loop [(i 0)] fun y15 =>
.l .len [(c 4 x0)] fun x16 =>
.l (.cmp .lss .i64) [(n y15 0), x16] fun x17 =>
.ite x17 (
.l (.idx 3 true) [(c 4 x0), (n y15 0)] fun x18 =>
.l (.idx 3 true) [(c 4 x1), (n y15 0)] fun x19 =>
.l (.acmp .neq [.i .i64, .s, .i .i64]) [x18, x19] fun x20 =>
.ite x20 (
.ret (.bool false)) (
.l (.arith .add .i64) [(n y15 0), (i 1)] fun x21 =>
.cont 0 [x21])) (
.loop [(i 0)] fun y18 =>
.l .len [(c 11 x0)] fun x19 =>
.l (.cmp .lss .i64) [(n y18 0), x19] fun x20 =>
.ite x20 (
.l (.idx 12 true) [(c 11 x0), (n y18 0)] fun x21 =>
.l (.idx 12 true) [(c 11 x1), (n y18 0)] fun x22 =>
.call F.ref03_Same [x21, x22] fun x23 =>
.l .bnot [x23] fun x24 =>
.ite x24 (
.ret (.bool false)) (
.l (.arith .add .i64) [(n y18 0), (i 1)] fun x25 =>
.cont 1 [x25])) (
.ret (.bool true))))))))))
theorem k_ref03_Same : TxOk P F.ref03_Same 2 t_ref03_Same := txOk_of (H := {}) (plans := []) hm Tryd.func15 rfl rfl fun xs => by kernel_rfl
-- NOT TOLD: 16 duologue/duologuelaw03.spoil: 4
def t_proctree_Size (xs : List PV) : T PV :=
.l (.okc 12 true) [(n xs 0)] fun x0 =>
.l (.okc 1 false) [(i 0)] fun x1 =>
.calls F.proctree_all sg_proctree_all_Sz [x0, x1] fun z2 =>
.ret (n z2 1)
theorem k_proctree_Size : TxOk P F.proctree_Size 1 t_proctree_Size := txOk_of (H := { wr := [], ro := [], nl := [], fz := [], da := [], sigs := [(36, sg_proctree_Size_1), (35, sg_proctree_all_Sz)] }) (plans := []) hm Tryd.func17 rfl rfl fun xs => by kernel_rfl
def t_proctree_Depth (xs : List PV) : T PV :=
.l (.okc 12 true) [(n xs 0)] fun x0 =>
.l .len [(c 11 x0)] fun x1 =>
.loop [(i 0), (i 0)] fun y2 =>
.l (.cmp .lss .i64) [(n y2 0), x1] fun x3 =>
.ite x3 (
.l (.idx 12 true) [(c 11 x0), (n y2 0)] fun x4 =>
.l (.okc 12 true) [x4] fun x5 =>
.call F.proctree_Depth [x5] fun x6 =>
.l (.mx .i64) [(n y2 1), x6] fun x7 =>
.l (.arith .add .i64) [(n y2 0), (i 1)] fun x8 =>
.cont 0 [x8, x7]) (
.l (.arith .add .i64) [(n y2 1), (i 1)] fun x4 =>
.ret x4)
theorem k_proctree_Depth : TxOk P F.proctree_Depth 1 t_proctree_Depth := txOk_of (H := {}) (plans := []) hm Tryd.func18 rfl rfl fun xs => by kernel_rfl
def t_proctree_Total (xs : List PV) : T PV :=
.l (.okc 13 true) [(n xs 0)] fun x0 =>
.call F.proctree_weight [(sb 1 12 x0)] fun x1 =>
.l .len [(c 0 x0)] fun x2 =>
.loop [(i 0), x1] fun y3 =>
.l (.cmp .lss .i64) [(n y3 0), x2] fun x4 =>
.ite x4 (
.l (.idx 14 true) [(c 0 x0), (n y3 0)] fun x5 =>
.l (.okc 14 true) [x5] fun x6 =>
.call F.proctree_weight [(sb 2 12 x6)] fun x7 =>
.l (.arith .add .i64) [(n y3 1), x7] fun x8 =>
.l .len [(c 1 x6)] fun x9 =>
.loop [(i 0), x8] fun y10 =>
.l (.cmp .lss .i64) [(n y10 0), x9] fun x11 =>
.ite x11 (
.l (.idx 7 true) [(c 1 x6), (n y10 0)] fun x12 =>
.l (.okc 7 true) [x12] fun x13 =>
.call F.typetree_Size [(sb 1 6 x13)] fun x14 =>
.l (.arith .add .i64) [(n y10 1), x14] fun x15 =>
.l (.arith .add .i64) [(n y10 0), (i 1)] fun x16 =>
.cont 1 [x16, x15]) (
.l (.arith .add .i64) [(n y3 0), (i 1)] fun x12 =>
.cont 0 [x12, (n y10 1)])) (
.ret (n y3 1))
theorem k_proctree_Total : TxOk P F.proctree_Total 1 t_proctree_Total := txOk_of (H := {}) (plans := []) hm Tryd.func19 rfl rfl fun xs => by kernel_rfl
def t_proctree_Right (xs : List PV) : T PV :=
.l (.okc 12 true) [(n xs 0)] fun x0 =>
.call F.proctree_shallow [x0, (i 100)] fun x1 =>
.l .bnot [x1] fun x2 =>
.ite x2 (
.ret (i 2)) (
.call F.proctree_few [x0, (i 10000)] fun x3 =>
.l .bnot [x3] fun x4 =>
.ite x4 (
.ret (i 2)) (
.call F.proctree_all [x0, (.fn F.proctree_shape [] [])] fun x5 =>
.l .bnot [x5] fun x6 =>
.ite x6 (
.ret (i 3)) (
.ret (i 0))))
theorem k_proctree_Right : TxOk P F.proctree_Right 1 t_proctree_Right := txOk_of (H := {}) (plans := []) hm Tryd.func20 rfl rfl fun xs => by kernel_rfl
def t_proctree_Program (xs : List PV) : T PV :=
.l (.okc 13 true) [(n xs 0)] fun x0 =>
.call F.proctree_Total [x0] fun x1 =>
.l (.cmp .gtr .i64) [x1, (i 10000)] fun x2 =>
.ite x2 (
.ret (i 2)) (
.l .len [(c 0 x0)] fun x3 =>
.loop [(i 0)] fun y4 =>
.l (.cmp .lss .i64) [(n y4 0), x3] fun x5 =>
.ite x5 (
.l (.idx 14 true) [(c 0 x0), (n y4 0)] fun x6 =>
.l (.okc 14 true) [x6] fun x7 =>
.call F.proctree_Right [(sb 2 12 x7)] fun x8 =>
.l (.cmp .neq .i64) [x8, (i 0)] fun x9 =>
.ite x9 (
.ret x8) (
.l (.arith .add .i64) [(n y4 0), (i 1)] fun x10 =>
.cont 0 [x10])) (
.call F.proctree_Right [(sb 1 12 x0)] fun x6 =>
.l (.cmp .neq .i64) [x6, (i 0)] fun x7 =>
.ite x7 (
.ret x6) (
.l .len [(c 0 x0)] fun x8 =>
.loop [(i 0)] fun y9 =>
.l (.cmp .lss .i64) [(n y9 0), x8] fun x10 =>
.ite x10 (
.l (.idx 14 true) [(c 0 x0), (n y9 0)] fun x11 =>
.l (.okc 14 true) [x11] fun x12 =>
.call F.lex_Name [(c 0 x12)] fun x13 =>
.l .bnot [x13] fun x14 =>
.ite x14 (
.ret (i 3)) (
.call F.slices_ContainsFunc_api_Param_api_Param [(c 1 x12), (.fn F.proctree_Program_1 [] [])] fun x15 =>
.ite x15 (
.ret (i 3)) (
.l (.arith .add .i64) [(n y9 0), (i 1)] fun x16 =>
.cont 1 [x16]))) (
.ret (i 0)))))
theorem k_proctree_Program : TxOk P F.proctree_Program 1 t_proctree_Program := txOk_of (H := {}) (plans := []) hm Tryd.func21 rfl rfl fun xs => by kernel_rfl
def t_proctree_Same (xs : List PV) : T PV :=
.l (.okc 12 true) [(n xs 0)] fun x0 =>
.l (.okc 12 true) [(n xs 1)] fun x1 =>
.l (.cmp .eql .i64) [(c 0 x0), (c 0 x1)] fun x2 =>
.ite x2 (
.l (.scmp .eql) [(c 1 x0), (c 1 x1)] fun x3 =>
.ite x3 (
.l (.scmp .eql) [(c 2 x0), (c 2 x1)] fun x4 =>
.ite x4 (
.call F.slices_Equal_string_string [(c 3 x0), (c 3 x1)] fun x5 =>
.ite x5 (
.call F.slices_Equal_api_Value_api_Value [(c 4 x0), (c 4 x1)] fun x6 =>
.ite x6 (
.call F.typetree_Same [(sb 5 6 x0), (sb 5 6 x1)] fun x7 =>
.ite x7 (
.call F.proctree_equal_api_Proc [(c 11 x0), (c 11 x1), (.fn F.proctree_Same [] [])] fun x8 =>
.ret x8) (
.ret (.bool false))) (
.ret (.bool false))) (
.ret (.bool false))) (
.ret (.bool false))) (
.ret (.bool false))) (
.ret (.bool false))
theorem k_proctree_Same : TxOk P F.proctree_Same 2 t_proctree_Same := txOk_of (H := {}) (plans := []) hm Tryd.func22 rfl rfl fun xs => by kernel_rfl
def t_proctree_Prefix (xs : List PV) : T PV :=
.l (.okc 12 true) [(n xs 0)] fun x0 =>
.l (.cmp .geq .i64) [(c 0 x0), (i 2)] fun x1 =>
.ite x1 (
.l (.cmp .leq .i64) [(c 0 x0), (i 5)] fun x2 =>
.ret x2) (
.ret (.bool false))
theorem k_proctree_Prefix : TxOk P F.proctree_Prefix 1 t_proctree_Prefix := txOk_of (H := {}) (plans := []) hm Tryd.func23 rfl rfl fun xs => by kernel_rfl
def t_ref03_left (xs : List PV) : T PV :=
.l (.okc 12 true) [(n xs 0)] fun x0 =>
.l (.arith .sub .i64) [(n xs 1), (i 1)] fun x1 =>
.call F.ref02_Few [(sb 5 6 x0), (i 300)] fun x2 =>
.l .bnot [x2] fun x3 =>
.ite x3 (
.ret (i (-1))) (
.loop [(i 0), x1] fun y4 =>
.l .len [(c 11 x0)] fun x5 =>
.l (.cmp .lss .i64) [(n y4 0), x5] fun x6 =>
.ite x6 (
.l (.cmp .geq .i64) [(n y4 1), (i 0)] fun x7 =>
.ite x7 (
.l (.idx 12 true) [(c 11 x0), (n y4 0)] fun x8 =>
.call F.ref03_left [x8, (n y4 1)] fun x9 =>
.l (.arith .add .i64) [(n y4 0), (i 1)] fun x10 =>
.cont 0 [x10, x9]) (
.ret (n y4 1))) (
.ret (n y4 1)))
theorem k_ref03_left : TxOk P F.ref03_left 2 t_ref03_left := txOk_of (H := {}) (plans := []) hm Tryd.func24 rfl rfl fun xs => by kernel_rfl
def t_ref03_Depth (xs : List PV) : T PV :=
.l (.okc 12 true) [(n xs 0)] fun x0 =>
.loop [(i 0), (i 0)] fun y1 =>
.l .len [(c 11 x0)] fun x2 =>
.l (.cmp .lss .i64) [(n y1 0), x2] fun x3 =>
.ite x3 (
.l (.idx 12 true) [(c 11 x0), (n y1 0)] fun x4 =>
.call F.ref03_Depth [x4] fun x5 =>
.l (.mx .i64) [(n y1 1), x5] fun x6 =>
.l (.arith .add .i64) [(n y1 0), (i 1)] fun x7 =>
.cont 0 [x7, x6]) (
.l (.arith .add .i64) [(n y1 1), (i 1)] fun x4 =>
.ret x4)
theorem k_ref03_Depth : TxOk P F.ref03_Depth 1 t_ref03_Depth := txOk_of (H := {}) (plans := []) hm Tryd.func25 rfl rfl fun xs => by kernel_rfl
-- NOT TOLD: 26 duologue/proctree.Free$1: 1
def u_proctree_Free_1 (xs : List PV) : T PV :=
.call F.slices_Contains_string_string [(n xs 1), (n xs 0)] fun x0 =>
.l .bnot [x0] fun x1 =>
.ite x1 (
.call F.slices_Contains_string_string [(n xs 2), (n xs 0)] fun x2 =>
.l .bnot [x2] fun x3 =>
.ite x3 (
.l (.lst 1 false) [(n xs 0)] fun x4 =>
.l (.app 1 false 16) [(n xs 2), x4] fun x5 =>
.ret (.tup [(.tup []), x5])) (
.ret (.tup [(.tup []), (n xs 2)]))) (
.ret (.tup [(.tup []), (n xs 2)]))
theorem m_proctree_Free_1 : TxOkS P F.proctree_Free_1 sg_proctree_Free_1 u_proctree_Free_1 := txOkS_of (H := {}) (plans := []) hm Tryd.func26 rfl fun xs => by kernel_rfl
def t_slices_Contains_string_string (xs : List PV) : T PV :=
.call F.slices_Index_string_string [(n xs 0), (n xs 1)] fun x0 =>
.l (.cmp .geq .i64) [x0, (i 0)] fun x1 =>
.ret x1
theorem k_slices_Contains_string_string : TxOk P F.slices_Contains_string_string 2 t_slices_Contains_string_string := txOk_of (H := {}) (plans := []) hm Tryd.func27 rfl rfl fun xs => by kernel_rfl
-- NOT TOLD: 28 duologue/proctree.Free$2: 4
def u_proctree_Free_2 (xs : List PV) : T PV :=
.l (.okc 12 true) [(n xs 0)] fun x0 =>
.call F.proctree_Prefix [x0] fun x1 =>
.ite x1 (
.calls F.proctree_Free_1 sg_proctree_Free_1 [(c 1 x0), (n xs 1), (n xs 2)] fun z2 =>
.l .len [(c 4 x0)] fun x3 =>
.loop [(i 0), (n z2 1)] fun y4 =>
.l (.cmp .lss .i64) [(n y4 0), x3] fun x5 =>
.ite x5 (
.l (.idx 3 true) [(c 4 x0), (n y4 0)] fun x6 =>
.l (.okc 3 true) [x6] fun x7 =>
.l (.cmp .eql .i64) [(c 0 x7), (i 1)] fun x8 =>
.ite x8 (
.calls F.proctree_Free_1 sg_proctree_Free_1 [(c 1 x7), (n xs 1), (n y4 1)] fun z9 =>
.l (.arith .add .i64) [(n y4 0), (i 1)] fun x10 =>
.cont 0 [x10, (n z9 1)]) (
.l (.arith .add .i64) [(n y4 0), (i 1)] fun x9 =>
.cont 0 [x9, (n y4 1)])) (
.l (.cmp .eql .i64) [(c 0 x0), (i 3)] fun x6 =>
.ite x6 (
.calls F.slices_Clone_string_string sg_slices_Clone_string_string [(n xs 1)] fun z7 =>
.l (.lst 1 false) [(c 2 x0)] fun x8 =>
.l (.app 1 false 16) [(n z7 0), x8] fun x9 =>
.l .len [(c 11 x0)] fun x10 =>
.loop [(i 0), (n y4 1)] fun y11 =>
.l (.cmp .lss .i64) [(n y11 0), x10] fun x12 =>
.ite x12 (
.l (.idx 12 true) [(c 11 x0), (n y11 0)] fun x13 =>
.l (.okc 12 true) [x13] fun x14 =>
.calls F.proctree_Free_2 sg_proctree_Free_2 [x14, x9, (n y11 1)] fun z15 =>
.l (.arith .add .i64) [(n y11 0), (i 1)] fun x16 =>
.cont 1 [x16, (n z15 1)]) (
.ret (.tup [(.tup []), (n y11 1)]))) (
.l (.cmp .eql .i64) [(c 0 x0), (i 6)] fun x7 =>
.ite x7 (
.calls F.slices_Clone_string_string sg_slices_Clone_string_string [(n xs 1)] fun z8 =>
.l (.lst 1 false) [(c 1 x0), (c 2 x0)] fun x9 =>
.l (.app 1 false 16) [(n z8 0), x9] fun x10 =>
.l .len [(c 11 x0)] fun x11 =>
.loop [(i 0), (n y4 1)] fun y12 =>
.l (.cmp .lss .i64) [(n y12 0), x11] fun x13 =>
.ite x13 (
.l (.idx 12 true) [(c 11 x0), (n y12 0)] fun x14 =>
.l (.okc 12 true) [x14] fun x15 =>
.calls F.proctree_Free_2 sg_proctree_Free_2 [x15, x10, (n y12 1)] fun z16 =>
.l (.arith .add .i64) [(n y12 0), (i 1)] fun x17 =>
.cont 1 [x17, (n z16 1)]) (
.ret (.tup [(.tup []), (n y12 1)]))) (
.l .len [(c 11 x0)] fun x8 =>
.loop [(i 0), (n y4 1)] fun y9 =>
.l (.cmp .lss .i64) [(n y9 0), x8] fun x10 =>
.ite x10 (
.l (.idx 12 true) [(c 11 x0), (n y9 0)] fun x11 =>
.l (.okc 12 true) [x11] fun x12 =>
.calls F.proctree_Free_2 sg_proctree_Free_2 [x12, (n xs 1), (n y9 1)] fun z13 =>
.l (.arith .add .i64) [(n y9 0), (i 1)] fun x14 =>
.cont 1 [x14, (n z13 1)]) (
.ret (.tup [(.tup []), (n y9 1)])))))) (
.l .len [(c 4 x0)] fun x2 =>
.loop [(i 0), (n xs 2)] fun y3 =>
.l (.cmp .lss .i64) [(n y3 0), x2] fun x4 =>
.ite x4 (
.l (.idx 3 true) [(c 4 x0), (n y3 0)] fun x5 =>
.l (.okc 3 true) [x5] fun x6 =>
.l (.cmp .eql .i64) [(c 0 x6), (i 1)] fun x7 =>
.ite x7 (
.calls F.proctree_Free_1 sg_proctree_Free_1 [(c 1 x6), (n xs 1), (n y3 1)] fun z8 =>
.l (.arith .add .i64) [(n y3 0), (i 1)] fun x9 =>
.cont 0 [x9, (n z8 1)]) (
.l (.arith .add .i64) [(n y3 0), (i 1)] fun x8 =>
.cont 0 [x8, (n y3 1)])) (
.l (.cmp .eql .i64) [(c 0 x0), (i 3)] fun x5 =>
.ite x5 (
.calls F.slices_Clone_string_string sg_slices_Clone_string_string [(n xs 1)] fun z6 =>
.l (.lst 1 false) [(c 2 x0)] fun x7 =>
.l (.app 1 false 16) [(n z6 0), x7] fun x8 =>
.l .len [(c 11 x0)] fun x9 =>
.loop [(i 0), (n y3 1)] fun y10 =>
.l (.cmp .lss .i64) [(n y10 0), x9] fun x11 =>
.ite x11 (
.l (.idx 12 true) [(c 11 x0), (n y10 0)] fun x12 =>
.l (.okc 12 true) [x12] fun x13 =>
.calls F.proctree_Free_2 sg_proctree_Free_2 [x13, x8, (n y10 1)] fun z14 =>
.l (.arith .add .i64) [(n y10 0), (i 1)] fun x15 =>
.cont 1 [x15, (n z14 1)]) (
.ret (.tup [(.tup []), (n y10 1)]))) (
.l (.cmp .eql .i64) [(c 0 x0), (i 6)] fun x6 =>
.ite x6 (
.calls F.slices_Clone_string_string sg_slices_Clone_string_string [(n xs 1)] fun z7 =>
.l (.lst 1 false) [(c 1 x0), (c 2 x0)] fun x8 =>
.l (.app 1 false 16) [(n z7 0), x8] fun x9 =>
.l .len [(c 11 x0)] fun x10 =>
.loop [(i 0), (n y3 1)] fun y11 =>
.l (.cmp .lss .i64) [(n y11 0), x10] fun x12 =>
.ite x12 (
.l (.idx 12 true) [(c 11 x0), (n y11 0)] fun x13 =>
.l (.okc 12 true) [x13] fun x14 =>
.calls F.proctree_Free_2 sg_proctree_Free_2 [x14, x9, (n y11 1)] fun z15 =>
.l (.arith .add .i64) [(n y11 0), (i 1)] fun x16 =>
.cont 1 [x16, (n z15 1)]) (
.ret (.tup [(.tup []), (n y11 1)]))) (
.l .len [(c 11 x0)] fun x7 =>
.loop [(i 0), (n y3 1)] fun y8 =>
.l (.cmp .lss .i64) [(n y8 0), x7] fun x9 =>
.ite x9 (
.l (.idx 12 true) [(c 11 x0), (n y8 0)] fun x10 =>
.l (.okc 12 true) [x10] fun x11 =>
.calls F.proctree_Free_2 sg_proctree_Free_2 [x11, (n xs 1), (n y8 1)] fun z12 =>
.l (.arith .add .i64) [(n y8 0), (i 1)] fun x13 =>
.cont 1 [x13, (n z12 1)]) (
.ret (.tup [(.tup []), (n y8 1)]))))))
theorem m_proctree_Free_2 : TxOkS P F.proctree_Free_2 sg_proctree_Free_2 u_proctree_Free_2 := txOkS_of (H := { wr := [], ro := [], nl := [], fz := [(14, 1)], da := [], sigs := [(26, sg_proctree_Free_1), (28, sg_proctree_Free_2), (29, sg_slices_Clone_string_string)] }) (plans := []) hm Tryd.func28 rfl fun xs => by kernel_rfl
def t_slices_Clone_string_string (xs : List PV) : T PV :=
.nilq (n xs 0) (
.ret (.sl [])) (
.l (.lst 1 false) [] fun x0 =>
.l (.app 1 false 16) [x0, (n xs 0)] fun x1 =>
.ret x1)
theorem k_slices_Clone_string_string : TxOk P F.slices_Clone_string_string 1 t_slices_Clone_string_string := txOk_of (H := { wr := [0, 1, 2, 3, 4, 5, 6, 7, 8, 9, 10, 11, 12, 13, 14, 15, 16, 17, 18, 19, 20, 21, 22, 23, 24, 25, 26, 27, 28, 29, 30, 31, 32, 33, 34, 35, 36, 37, 38, 39], ro := [], nl := [], fz := [], da := [], sigs := [] }) (plans := []) hm Tryd.func29 rfl rfl fun xs => by kernel_rfl
def u_slices_Clone_string_string (xs : List PV) : T PV :=
.nilq (n xs 0) (
.ret (.tup [(.sl [])])) (
.l (.lst 1 false) [] fun x0 =>
.l (.app 1 false 16) [x0, (n xs 0)] fun x1 =>
.ret (.tup [x1]))
theorem m_slices_Clone_string_string : TxOkS P F.slices_Clone_string_string sg_slices_Clone_string_string u_slices_Clone_string_string := txOkS_of (H := { wr := [0, 1, 2, 3, 4, 5, 6, 7, 8, 9, 10, 11, 12, 13, 14, 15, 16, 17, 18, 19, 20, 21, 22, 23, 24, 25, 26, 27, 28, 29, 30, 31, 32, 33, 34, 35, 36, 37, 38, 39], ro := [], nl := [], fz := [], da := [], sigs := [] }) (plans := []) hm Tryd.func29 rfl fun xs => by kernel_rfl
def t_ref02_Raise (xs : List PV) : T PV :=
.l (.okc 6 true) [(n xs 0)] fun x0 =>
.l (.lst 1 false) [] fun x1 =>
.l (.app 1 false 16) [x1, (c 4 x0)] fun x2 =>
.l (.okcs [(1, false), (1, false), (1, false), (1, false)]) [(c 0 x0), (c 1 x0), (c 2 x0), (c 3 x0)] fun x3 =>
.l (.cmp .geq .i64) [(c 0 x0), (i 4)] fun x4 =>
.ite x4 (
.l (.cmp .leq .i64) [(c 0 x0), (i 7)] fun x5 =>
.ite x5 (
.l (.arith .add .i64) [(c 1 x0), (n xs 1)] fun x6 =>
.l (.okc 1 false) [x6] fun x7 =>
.loop [(i 0), (c 0 x0), x7, (c 2 x0), (c 3 x0), x2, (.sl [])] fun y8 =>
.l .len [(c 5 x0)] fun x9 =>
.l (.cmp .lss .i64) [(n y8 0), x9] fun x10 =>
.ite x10 (
.l (.idx 6 true) [(c 5 x0), (n y8 0)] fun x11 =>
.call F.ref02_Raise [x11, (n xs 1)] fun x12 =>
.l (.lst 6 true) [x12] fun x13 =>
.l (.app 6 true 88) [(n y8 6), x13] fun x14 =>
.l (.arith .add .i64) [(n y8 0), (i 1)] fun x15 =>
.cont 0 [x15, (n y8 1), (n y8 2), (n y8 3), (n y8 4), (n y8 5), x14]) (
.ret (.agg [(n y8 1), (n y8 2), (n y8 3), (n y8 4), (n y8 5), (n y8 6)]))) (
.loop [(i 0), (c 0 x0), (c 1 x0), (c 2 x0), (c 3 x0), x2, (.sl [])] fun y6 =>
.l .len [(c 5 x0)] fun x7 =>
.l (.cmp .lss .i64) [(n y6 0), x7] fun x8 =>
.ite x8 (
.l (.idx 6 true) [(c 5 x0), (n y6 0)] fun x9 =>
.call F.ref02_Raise [x9, (n xs 1)] fun x10 =>
.l (.lst 6 true) [x10] fun x11 =>
.l (.app 6 true 88) [(n y6 6), x11] fun x12 =>
.l (.arith .add .i64) [(n y6 0), (i 1)] fun x13 =>
.cont 0 [x13, (n y6 1), (n y6 2), (n y6 3), (n y6 4), (n y6 5), x12]) (
.ret (.agg [(n y6 1), (n y6 2), (n y6 3), (n y6 4), (n y6 5), (n y6 6)])))) (
.loop [(i 0), (c 0 x0), (c 1 x0), (c 2 x0), (c 3 x0), x2, (.sl [])] fun y5 =>
.l .len [(c 5 x0)] fun x6 =>
.l (.cmp .lss .i64) [(n y5 0), x6] fun x7 =>
.ite x7 (
.l (.idx 6 true) [(c 5 x0), (n y5 0)] fun x8 =>
.call F.ref02_Raise [x8, (n xs 1)] fun x9 =>
.l (.lst 6 true) [x9] fun x10 =>
.l (.app 6 true 88) [(n y5 6), x10] fun x11 =>
.l (.arith .add .i64) [(n y5 0), (i 1)] fun x12 =>
.cont 0 [x12, (n y5 1), (n y5 2), (n y5 3), (n y5 4), (n y5 5), x11]) (
.ret (.agg [(n y5 1), (n y5 2), (n y5 3), (n y5 4), (n y5 5), (n y5 6)])))
theorem k_ref02_Raise : TxOk P F.ref02_Raise 2 t_ref02_Raise := txOk_of (H := { wr := [50], ro := [], nl := [], fz := [], da := [], sigs := [] }) (plans := []) hm Tryd.func31 rfl rfl fun xs => by kernel_rfl
def u_ref02_Raise (xs : List PV) : T PV :=
.l (.okc 6 true) [(n xs 0)] fun x0 =>
.l (.lst 1 false) [] fun x1 =>
.l (.app 1 false 16) [x1, (c 4 x0)] fun x2 =>
.l (.okcs [(1, false), (1, false), (1, false), (1, false)]) [(c 0 x0), (c 1 x0), (c 2 x0), (c 3 x0)] fun x3 =>
.l (.cmp .geq .i64) [(c 0 x0), (i 4)] fun x4 =>
.ite x4 (
.l (.cmp .leq .i64) [(c 0 x0), (i 7)] fun x5 =>
.ite x5 (
.l (.arith .add .i64) [(c 1 x0), (n xs 1)] fun x6 =>
.l (.okc 1 false) [x6] fun x7 =>
.loop [(i 0), (c 0 x0), x7, (c 2 x0), (c 3 x0), x2, (.sl [])] fun y8 =>
.l .len [(c 5 x0)] fun x9 =>
.l (.cmp .lss .i64) [(n y8 0), x9] fun x10 =>
.ite x10 (
.l (.idx 6 true) [(c 5 x0), (n y8 0)] fun x11 =>
.call F.ref02_Raise [x11, (n xs 1)] fun x12 =>
.l (.lst 6 true) [x12] fun x13 =>
.l (.app 6 true 88) [(n y8 6), x13] fun x14 =>
.l (.arith .add .i64) [(n y8 0), (i 1)] fun x15 =>
.cont 0 [x15, (n y8 1), (n y8 2), (n y8 3), (n y8 4), (n y8 5), x14]) (
.ret (.tup [(n y8 1), (n y8 2), (n y8 3), (n y8 4), (n y8 5), (n y8 6)]))) (
.loop [(i 0), (c 0 x0), (c 1 x0), (c 2 x0), (c 3 x0), x2, (.sl [])] fun y6 =>
.l .len [(c 5 x0)] fun x7 =>
.l (.cmp .lss .i64) [(n y6 0), x7] fun x8 =>
.ite x8 (
.l (.idx 6 true) [(c 5 x0), (n y6 0)] fun x9 =>
.call F.ref02_Raise [x9, (n xs 1)] fun x10 =>
.l (.lst 6 true) [x10] fun x11 =>
.l (.app 6 true 88) [(n y6 6), x11] fun x12 =>
.l (.arith .add .i64) [(n y6 0), (i 1)] fun x13 =>
.cont 0 [x13, (n y6 1), (n y6 2), (n y6 3), (n y6 4), (n y6 5), x12]) (
.ret (.tup [(n y6 1), (n y6 2), (n y6 3), (n y6 4), (n y6 5), (n y6 6)])))) (
.loop [(i 0), (c 0 x0), (c 1 x0), (c 2 x0), (c 3 x0), x2, (.sl [])] fun y5 =>
.l .len [(c 5 x0)] fun x6 =>
.l (.cmp .lss .i64) [(n y5 0), x6] fun x7 =>
.ite x7 (
.l (.idx 6 true) [(c 5 x0), (n y5 0)] fun x8 =>
.call F.ref02_Raise [x8, (n xs 1)] fun x9 =>
.l (.lst 6 true) [x9] fun x10 =>
.l (.app 6 true 88) [(n y5 6), x10] fun x11 =>
.l (.arith .add .i64) [(n y5 0), (i 1)] fun x12 =>
.cont 0 [x12, (n y5 1), (n y5 2), (n y5 3), (n y5 4), (n y5 5), x11]) (
.ret (.tup [(n y5 1), (n y5 2), (n y5 3), (n y5 4), (n y5 5), (n y5 6)])))
theorem m_ref02_Raise : TxOkS P F.ref02_Raise sg_ref02_Raise u_ref02_Raise := txOkS_of (H := { wr := [50], ro := [], nl := [], fz := [], da := [], sigs := [] }) (plans := []) hm Tryd.func31 rfl fun xs => by kernel_rfl
def t_slices_Clone_api_Value_api_Value (xs : List PV) : T PV :=
.nilq (n xs 0) (
.ret (.sl [])) (
.l (.lst 3 true) [] fun x0 =>
.l (.app 3 true 32) [x0, (n xs 0)] fun x1 =>
.ret x1)
theorem k_slices_Clone_api_Value_api_Value : TxOk P F.slices_Clone_api_Value_api_Value 1 t_slices_Clone_api_Value_api_Value := txOk_of (H := { wr := [0, 1, 2, 3, 4, 5, 6, 7, 8, 9, 10, 11, 12, 13, 14, 15, 16, 17, 18, 19, 20, 21, 22, 23, 24, 25, 26, 27, 28, 29, 30, 31, 32, 33, 34, 35, 36, 37, 38, 39], ro := [], nl := [], fz := [], da := [], sigs := [] }) (plans := []) hm Tryd.func32 rfl rfl fun xs => by kernel_rfl
def u_slices_Clone_api_Value_api_Value (xs : List PV) : T PV :=
.nilq (n xs 0) (
.ret (.tup [(.sl [])])) (
.l (.lst 3 true) [] fun x0 =>
.l (.app 3 true 32) [x0, (n xs 0)] fun x1 =>
.ret (.tup [x1]))
theorem m_slices_Clone_api_Value_api_Value : TxOkS P F.slices_Clone_api_Value_api_Value sg_slices_Clone_api_Value_api_Value u_slices_Clone_api_Value_api_Value := txOkS_of (H := { wr := [0, 1, 2, 3, 4, 5, 6, 7, 8, 9, 10, 11, 12, 13, 14, 15, 16, 17, 18, 19, 20, 21, 22, 23, 24, 25, 26, 27, 28, 29, 30, 31, 32, 33, 34, 35, 36, 37, 38, 39], ro := [], nl := [], fz := [], da := [], sigs := [] }) (plans := []) hm Tryd.func32 rfl fun xs => by kernel_rfl
def t_typetree_Copy (xs : List PV) : T PV :=
.l (.okc 6 true) [(n xs 0)] fun x0 =>
.call F.typetree_mapped [x0, (.fn F.typetree_Copy [] [])] fun x1 =>
.l (.okc 6 true) [x1] fun x2 =>
.ret x2
theorem k_typetree_Copy : TxOk P F.typetree_Copy 1 t_typetree_Copy := txOk_of (H := {}) (plans := []) hm Tryd.func33 rfl rfl fun xs => by kernel_rfl
def t_ref02_Same (xs : List PV) : T PV :=
.l (.okc 6 true) [(n xs 0)] fun x0 =>
.l (.okc 6 true) [(n xs 1)] fun x1 =>
.l (.cmp .neq .i64) [(c 0 x0), (c 0 x1)] fun x2 =>
.ite x2 (
.ret (.bool false)) (
.l (.cmp .neq .i64) [(c 1 x0), (c 1 x1)] fun x3 =>
.ite x3 (
.ret (.bool false)) (
.l (.scmp .neq) [(c 2 x0), (c 2 x1)] fun x4 =>
.ite x4 (
.ret (.bool false)) (
.l (.cmp .neq .i64) [(c 3 x0), (c 3 x1)] fun x5 =>
.ite x5 (
.ret (.bool false)) (
.call F.ref02_texts [(c 4 x0), (c 4 x1)] fun x6 =>
.l .bnot [x6] fun x7 =>
.ite x7 (
.ret (.bool false)) (
.l .len [(c 5 x0)] fun x8 =>
.l .len [(c 5 x1)] fun x9 =>
.l (.cmp .neq .i64) [x8, x9] fun x10 =>
.ite x10 (
.ret (.bool false)) (
.loop [(i 0)] fun y11 =>
.l .len [(c 5 x0)] fun x12 =>
.l (.cmp .lss .i64) [(n y11 0), x12] fun x13 =>
.ite x13 (
.l (.idx 6 true) [(c 5 x0), (n y11 0)] fun x14 =>
.l (.idx 6 true) [(c 5 x1), (n y11 0)] fun x15 =>
.call F.ref02_Same [x14, x15] fun x16 =>
.l .bnot [x16] fun x17 =>
.ite x17 (
.ret (.bool false)) (
.l (.arith .add .i64) [(n y11 0), (i 1)] fun x18 =>
.cont 0 [x18])) (
.ret (.bool true))))))))
theorem k_ref02_Same : TxOk P F.ref02_Same 2 t_ref02_Same := txOk_of (H := {}) (plans := []) hm Tryd.func34 rfl rfl fun xs => by kernel_rfl
def t_proctree_all (xs : List PV) : T PV :=
.l (.okc 12 true) [(n xs 0)] fun x0 =>
.l (.okc 1 false) [(n xs 1)] fun x1 =>
.callv x1 [x0] fun x2 =>
.ite x2 (
.call F.slices_ContainsFunc_api_Proc_api_Proc [(c 11 x0), (.fn F.proctree_all_1 [] [(.box x1)])] fun x3 =>
.l .bnot [x3] fun x4 =>
.ret x4) (
.ret (.bool false))
theorem k_proctree_all : TxOk P F.proctree_all 2 t_proctree_all := txOk_of (H := {}) (plans := []) hm Tryd.func35 rfl rfl fun xs => by kernel_rfl
def u_proctree_all_Sz (xs : List PV) : T PV :=
.l (.okc 12 true) [(n xs 0)] fun x0 =>
.calls F.proctree_Size_1 sg_proctree_Size_1 [x0, (n xs 1)] fun z1 =>
.ite (n z1 0) (
.calls F.slices_ContainsFunc_api_Proc_api_Proc sg_slices_ContainsFunc_api_Proc_api_Proc_Sz [(c 11 x0), (n z1 1)] fun z2 =>
.l .bnot [(n z2 0)] fun x3 =>
.ret (.tup [x3, (n z2 1)])) (
.ret (.tup [(.bool false), (n z1 1)]))
theorem m_proctree_all_Sz : TxOkS P F.proctree_all sg_proctree_all_Sz u_proctree_all_Sz := txOkS_of (H := { wr := [], ro := [], nl := [], fz := [], da := [], sigs := [(36, sg_proctree_Size_1), (55, sg_proctree_all_1_Sz), (54, sg_slices_ContainsFunc_api_Proc_api_Proc_Sz)] }) (plans := []) hm Tryd.func35 rfl fun xs => by kernel_rfl
def u_proctree_all_Wg (xs : List PV) : T PV :=
.l (.okc 12 true) [(n xs 0)] fun x0 =>
.calls F.proctree_weight_1 sg_proctree_weight_1 [x0, (n xs 1)] fun z1 =>
.ite (n z1 0) (
.calls F.slices_ContainsFunc_api_Proc_api_Proc sg_slices_ContainsFunc_api_Proc_api_Proc_Wg [(c 11 x0), (n z1 1)] fun z2 =>
.l .bnot [(n z2 0)] fun x3 =>
.ret (.tup [x3, (n z2 1)])) (
.ret (.tup [(.bool false), (n z1 1)]))
theorem m_proctree_all_Wg : TxOkS P F.proctree_all sg_proctree_all_Wg u_proctree_all_Wg := txOkS_of (H := { wr := [], ro := [], nl := [], fz := [], da := [], sigs := [(56, sg_proctree_weight_1), (55, sg_proctree_all_1_Wg), (54, sg_slices_ContainsFunc_api_Proc_api_Proc_Wg)] }) (plans := []) hm Tryd.func35 rfl fun xs => by kernel_rfl
def u_proctree_all_Fw (xs : List PV) : T PV :=
.l (.okc 12 true) [(n xs 0)] fun x0 =>
.calls F.proctree_few_1 sg_proctree_few_1 [x0, (n xs 1)] fun z1 =>
.ite (n z1 0) (
.calls F.slices_ContainsFunc_api_Proc_api_Proc sg_slices_ContainsFunc_api_Proc_api_Proc_Fw [(c 11 x0), (n z1 1)] fun z2 =>
.l .bnot [(n z2 0)] fun x3 =>
.ret (.tup [x3, (n z2 1)])) (
.ret (.tup [(.bool false), (n z1 1)]))
theorem m_proctree_all_Fw : TxOkS P F.proctree_all sg_proctree_all_Fw u_proctree_all_Fw := txOkS_of (H := { wr := [], ro := [], nl := [], fz := [], da := [], sigs := [(59, sg_proctree_few_1), (55, sg_proctree_all_1_Fw), (54, sg_slices_ContainsFunc_api_Proc_api_Proc_Fw)] }) (plans := []) hm Tryd.func35 rfl fun xs => by kernel_rfl
-- NOT TOLD: 36 duologue/proctree.Size$1: 1
def u_proctree_Size_1 (xs : List PV) : T PV :=
.l (.okc 12 true) [(n xs 0)] fun x0 =>
.l (.arith .add .i64) [(n xs 1), (i 1)] fun x1 =>
.l (.okc 1 false) [x1] fun x2 =>
.ret (.tup [(.bool true), x2])
theorem m_proctree_Size_1 : TxOkS P F.proctree_Size_1 sg_proctree_Size_1 u_proctree_Size_1 := txOkS_of (H := {}) (plans := []) hm Tryd.func36 rfl fun xs => by kernel_rfl
def t_proctree_weight (xs : List PV) : T PV :=
.l (.okc 12 true) [(n xs 0)] fun x0 =>
.l (.okc 1 false) [(i 0)] fun x1 =>
.calls F.proctree_all sg_proctree_all_Wg [x0, x1] fun z2 =>
.ret (n z2 1)
theorem k_proctree_weight : TxOk P F.proctree_weight 1 t_proctree_weight := txOk_of (H := { wr := [], ro := [], nl := [], fz := [], da := [], sigs := [(56, sg_proctree_weight_1), (35, sg_proctree_all_Wg)] }) (plans := []) hm Tryd.func37 rfl rfl fun xs => by kernel_rfl
def t_typetree_Size (xs : List PV) : T PV :=
.l (.okc 6 true) [(n xs 0)] fun x0 =>
.l (.okc 1 false) [(i 0)] fun x1 =>
.call F.typetree_nodes [x0] fun x2 =>
.iter x2 1 [x1] (fun e3 y3 =>
.l (.arith .add .i64) [(n y3 0), (i 1)] fun x4 =>
.l (.okc 1 false) [x4] fun x5 =>
.cont 0 [x5]) (fun e3 y3 =>
.l (.arith .add .i64) [(n y3 0), (i 1)] fun x4 =>
.l (.okc 1 false) [x4] fun x5 =>
.fail) fun y3 =>
.ret (n y3 0)
theorem k_typetree_Size : TxOk P F.typetree_Size 1 t_typetree_Size := txOk_of (H := {}) (plans := []) hm Tryd.func38 rfl rfl fun xs => by kernel_rfl
def t_proctree_shallow (xs : List PV) : T PV :=
.l (.okc 12 true) [(n xs 0)] fun x0 =>
.l (.okc 1 false) [(n xs 1)] fun x1 =>
.l (.cmp .gtr .i64) [x1, (i 0)] fun x2 =>
.ite x2 (
.call F.slices_ContainsFunc_api_Proc_api_Proc [(c 11 x0), (.fn F.proctree_shallow_1 [] [(.box x1)])] fun x3 =>
.l .bnot [x3] fun x4 =>
.ret x4) (
.ret (.bool false))
theorem k_proctree_shallow : TxOk P F.proctree_shallow 2 t_proctree_shallow := txOk_of (H := {}) (plans := []) hm Tryd.func39 rfl rfl fun xs => by kernel_rfl
def t_proctree_few (xs : List PV) : T PV :=
.l (.okc 12 true) [(n xs 0)] fun x0 =>
.l (.okc 1 false) [(n xs 1)] fun x1 =>
.calls F.proctree_all sg_proctree_all_Fw [x0, x1] fun z2 =>
.ret (n z2 0)
theorem k_proctree_few : TxOk P F.proctree_few 2 t_proctree_few := txOk_of (H := { wr := [3], ro := [], nl := [], fz := [], da := [], sigs := [(59, sg_proctree_few_1), (35, sg_proctree_all_Fw)] }) (plans := []) hm Tryd.func40 rfl rfl fun xs => by kernel_rfl
def t_proctree_shape (xs : List PV) : T PV :=
.l (.okc 12 true) [(n xs 0)] fun x0 =>
.call F.proctree_rules [] fun x1 =>
.l (.mget2 false [.i .i64] (.agg [(.bool false), (.bool false), (.bool false), (i 0), (i 0), .nilF])) [x1, (c 0 x0)] fun x2 =>
.l (.tc 0) [x2] fun x3 =>
.l (.tc 1) [x2] fun x4 =>
.l (.okc 6 true) [x3] fun x5 =>
.ite x4 (
.call F.proctree_named [(c 1 x0), (c 0 x5)] fun x6 =>
.ite x6 (
.call F.proctree_named [(c 2 x0), (c 1 x5)] fun x7 =>
.ite x7 (
.call F.proctree_typed [x0, (c 2 x5)] fun x8 =>
.ite x8 (
.l (.cmp .lss .i64) [(c 3 x5), (i 0)] fun x9 =>
.ite x9 (
.l (.cmp .lss .i64) [(c 4 x5), (i 0)] fun x10 =>
.ite x10 (
.callv (c 5 x5) [x0] fun x11 =>
.ite x11 (
.call F.proctree_distinct [(c 3 x0)] fun x12 =>
.ite x12 (
.call F.slices_ContainsFunc_api_Value_api_Value [(c 4 x0), (.fn F.proctree_shape_1 [] [])] fun x13 =>
.l .bnot [x13] fun x14 =>
.ret x14) (
.ret (.bool false))) (
.ret (.bool false))) (
.l .len [(c 3 x0)] fun x11 =>
.l (.cmp .eql .i64) [x11, (c 4 x5)] fun x12 =>
.ite x12 (
.callv (c 5 x5) [x0] fun x13 =>
.ite x13 (
.call F.proctree_distinct [(c 3 x0)] fun x14 =>
.ite x14 (
.call F.slices_ContainsFunc_api_Value_api_Value [(c 4 x0), (.fn F.proctree_shape_1 [] [])] fun x15 =>
.l .bnot [x15] fun x16 =>
.ret x16) (
.ret (.bool false))) (
.ret (.bool false))) (
.ret (.bool false)))) (
.l .len [(c 4 x0)] fun x10 =>
.l (.cmp .eql .i64) [x10, (c 3 x5)] fun x11 =>
.ite x11 (
.l (.cmp .lss .i64) [(c 4 x5), (i 0)] fun x12 =>
.ite x12 (
.callv (c 5 x5) [x0] fun x13 =>
.ite x13 (
.call F.proctree_distinct [(c 3 x0)] fun x14 =>
.ite x14 (
.call F.slices_ContainsFunc_api_Value_api_Value [(c 4 x0), (.fn F.proctree_shape_1 [] [])] fun x15 =>
.l .bnot [x15] fun x16 =>
.ret x16) (
.ret (.bool false))) (
.ret (.bool false))) (
.l .len [(c 3 x0)] fun x13 =>
.l (.cmp .eql .i64) [x13, (c 4 x5)] fun x14 =>
.ite x14 (
.callv (c 5 x5) [x0] fun x15 =>
.ite x15 (
.call F.proctree_distinct [(c 3 x0)] fun x16 =>
.ite x16 (
.call F.slices_ContainsFunc_api_Value_api_Value [(c 4 x0), (.fn F.proctree_shape_1 [] [])] fun x17 =>
.l .bnot [x17] fun x18 =>
.ret x18) (
.ret (.bool false))) (
.ret (.bool false))) (
.ret (.bool false)))) (
.ret (.bool false)))) (
.ret (.bool false))) (
.ret (.bool false))) (
.ret (.bool false))) (
.ret (.bool false))
theorem k_proctree_shape : TxOk P F.proctree_shape 1 t_proctree_shape := txOk_of (H := {}) (plans := []) hm Tryd.func41 rfl rfl fun xs => by kernel_rfl
def t_lex_Name (xs : List PV) : T PV :=
.l (.scmp .neq) [(n xs 0), (.str ⟨#[]⟩)] fun x0 =>
.ite x0 (
.l .sidx [(n xs 0), (i 0)] fun x1 =>
.call F.lex_letter [x1] fun x2 =>
.ite x2 (
.call F.lex_span [(n xs 0), (i 0), (.fn F.lex_Name_1 [] [])] fun x3 =>
.l .slen [(n xs 0)] fun x4 =>
.l (.cmp .eql .i64) [x3, x4] fun x5 =>
.ite x5 (
.call F.lex_Keyword [(n xs 0)] fun x6 =>
.l .bnot [x6] fun x7 =>
.ret x7) (
.ret (.bool false))) (
.ret (.bool false))) (
.ret (.bool false))
theorem k_lex_Name : TxOk P F.lex_Name 1 t_lex_Name := txOk_of (H := {}) (plans := []) hm Tryd.func42 rfl rfl fun xs => by kernel_rfl
def t_slices_ContainsFunc_api_Param_api_Param (xs : List PV) : T PV :=
.call F.slices_IndexFunc_api_Param_api_Param [(n xs 0), (n xs 1)] fun x0 =>
.l (.cmp .geq .i64) [x0, (i 0)] fun x1 =>
.ret x1
theorem k_slices_ContainsFunc_api_Param_api_Param : TxOk P F.slices_ContainsFunc_api_Param_api_Param 2 t_slices_ContainsFunc_api_Param_api_Param := txOk_of (H := {}) (plans := []) hm Tryd.func43 rfl rfl fun xs => by kernel_rfl
def t_proctree_Program_1 (xs : List PV) : T PV :=
.l (.okc 7 true) [(n xs 0)] fun x0 =>
.call F.lex_Name [(c 0 x0)] fun x1 =>
.l .bnot [x1] fun x2 =>
.ite x2 (
.ret (.bool true)) (
.call F.typetree_Right [(sb 1 6 x0)] fun x3 =>
.l (.cmp .neq .i64) [x3, (i 0)] fun x4 =>
.ret x4)
theorem k_proctree_Program_1 : TxOk P F.proctree_Program_1 1 t_proctree_Program_1 := txOk_of (H := {}) (plans := []) hm Tryd.func44 rfl rfl fun xs => by kernel_rfl
def t_typetree_Right (xs : List PV) : T PV :=
.l (.okc 6 true) [(n xs 0)] fun x0 =>
.call F.typetree_shallow [x0, (i 100)] fun x1 =>
.l .bnot [x1] fun x2 =>
.ite x2 (
.ret (i 2)) (
.call F.typetree_few [x0, (i 10000)] fun x3 =>
.l .bnot [x3] fun x4 =>
.ite x4 (
.ret (i 2)) (
.call F.typetree_check [x0, (.sl []), (.bool false)] fun x5 =>
.ret x5))
theorem k_typetree_Right : TxOk P F.typetree_Right 1 t_typetree_Right := txOk_of (H := {}) (plans := []) hm Tryd.func45 rfl rfl fun xs => by kernel_rfl
def t_slices_Equal_string_string (xs : List PV) : T PV :=
.l .len [(n xs 0)] fun x0 =>
.l .len [(n xs 1)] fun x1 =>
.l (.cmp .neq .i64) [x0, x1] fun x2 =>
.ite x2 (
.ret (.bool false)) (
.l .len [(n xs 0)] fun x3 =>
.loop [(i 0)] fun y4 =>
.l (.cmp .lss .i64) [(n y4 0), x3] fun x5 =>
.ite x5 (
.l (.idx 1 false) [(n xs 0), (n y4 0)] fun x6 =>
.l (.idx 1 false) [(n xs 1), (n y4 0)] fun x7 =>
.l (.scmp .neq) [x6, x7] fun x8 =>
.ite x8 (
.ret (.bool false)) (
.l (.arith .add .i64) [(n y4 0), (i 1)] fun x9 =>
.cont 0 [x9])) (
.ret (.bool true)))
theorem k_slices_Equal_string_string : TxOk P F.slices_Equal_string_string 2 t_slices_Equal_string_string := txOk_of (H := {}) (plans := []) hm Tryd.func46 rfl rfl fun xs => by kernel_rfl
def t_slices_Equal_api_Value_api_Value (xs : List PV) : T PV :=
.l .len [(n xs 0)] fun x0 =>
.l .len [(n xs 1)] fun x1 =>
.l (.cmp .neq .i64) [x0, x1] fun x2 =>
.ite x2 (
.ret (.bool false)) (
.l .len [(n xs 0)] fun x3 =>
.loop [(i 0)] fun y4 =>
.l (.cmp .lss .i64) [(n y4 0), x3] fun x5 =>
.ite x5 (
.l (.idx 3 true) [(n xs 0), (n y4 0)] fun x6 =>
.l (.idx 3 true) [(n xs 1), (n y4 0)] fun x7 =>
.l (.acmp .neq [.i .i64, .s, .i .i64]) [x6, x7] fun x8 =>
.ite x8 (
.ret (.bool false)) (
.l (.arith .add .i64) [(n y4 0), (i 1)] fun x9 =>
.cont 0 [x9])) (
.ret (.bool true)))
theorem k_slices_Equal_api_Value_api_Value : TxOk P F.slices_Equal_api_Value_api_Value 2 t_slices_Equal_api_Value_api_Value := txOk_of (H := {}) (plans := []) hm Tryd.func47 rfl rfl fun xs => by kernel_rfl
def t_typetree_Same (xs : List PV) : T PV :=
.l (.okc 6 true) [(n xs 0)] fun x0 =>
.l (.okc 6 true) [(n xs 1)] fun x1 =>
.l (.cmp .eql .i64) [(c 0 x0), (c 0 x1)] fun x2 =>
.ite x2 (
.l (.cmp .eql .i64) [(c 1 x0), (c 1 x1)] fun x3 =>
.ite x3 (
.l (.scmp .eql) [(c 2 x0), (c 2 x1)] fun x4 =>
.ite x4 (
.l (.cmp .eql .i64) [(c 3 x0), (c 3 x1)] fun x5 =>
.ite x5 (
.call F.slices_Equal_string_string [(c 4 x0), (c 4 x1)] fun x6 =>
.ite x6 (
.call F.slices_EqualFunc_api_Type_api_Type_api_Type_api_Type [(c 5 x0), (c 5 x1), (.fn F.typetree_Same [] [])] fun x7 =>
.ret x7) (
.ret (.bool false))) (
.ret (.bool false))) (
.ret (.bool false))) (
.ret (.bool false))) (
.ret (.bool false))
theorem k_typetree_Same : TxOk P F.typetree_Same 2 t_typetree_Same := txOk_of (H := {}) (plans := []) hm Tryd.func48 rfl rfl fun xs => by kernel_rfl
def t_proctree_equal_api_Proc (xs : List PV) : T PV :=
.call F.slices_EqualFunc_api_Proc_api_Proc_api_Proc_api_Proc [(n xs 0), (n xs 1), (n xs 2)] fun x0 =>
.ret x0
theorem k_proctree_equal_api_Proc : TxOk P F.proctree_equal_api_Proc 3 t_proctree_equal_api_Proc := txOk_of (H := {}) (plans := []) hm Tryd.func49 rfl rfl fun xs => by kernel_rfl
def t_ref02_Few (xs : List PV) : T PV :=
.l (.okc 6 true) [(n xs 0)] fun x0 =>
.call F.ref02_count [x0, (n xs 1)] fun x1 =>
.l (.cmp .geq .i64) [x1, (i 0)] fun x2 =>
.ite x2 (
.call F.ref02_Depth [x0] fun x3 =>
.l (.cmp .leq .i64) [x3, (i 150)] fun x4 =>
.ret x4) (
.ret (.bool false))
theorem k_ref02_Few : TxOk P F.ref02_Few 2 t_ref02_Few := txOk_of (H := {}) (plans := []) hm Tryd.func50 rfl rfl fun xs => by kernel_rfl
def t_slices_Index_string_string (xs : List PV) : T PV :=
.l .len [(n xs 0)] fun x0 =>
.loop [(i 0)] fun y1 =>
.l (.cmp .lss .i64) [(n y1 0), x0] fun x2 =>
.ite x2 (
.l (.idx 1 false) [(n xs 0), (n y1 0)] fun x3 =>
.l (.scmp .eql) [(n xs 1), x3] fun x4 =>
.ite x4 (
.ret (n y1 0)) (
.l (.arith .add .i64) [(n y1 0), (i 1)] fun x5 =>
.cont 0 [x5])) (
.ret (i (-1)))
theorem k_slices_Index_string_string : TxOk P F.slices_Index_string_string 2 t_slices_Index_string_string := txOk_of (H := {}) (plans := []) hm Tryd.func51 rfl rfl fun xs => by kernel_rfl
def t_typetree_mapped (xs : List PV) : T PV :=
.l (.okc 6 true) [(n xs 0)] fun x0 =>
.call F.slices_Clone_string_string [(c 4 x0)] fun x1 =>
.l (.okc 1 false) [x1] fun x2 =>
.l .len [(c 5 x0)] fun x3 =>
.loop [(i 0), (.sl [])] fun y4 =>
.l (.cmp .lss .i64) [(n y4 0), x3] fun x5 =>
.ite x5 (
.l (.idx 6 true) [(c 5 x0), (n y4 0)] fun x6 =>
.l (.okc 6 true) [x6] fun x7 =>
.callv (n xs 1) [x7] fun x8 =>
.l (.lst 6 true) [x8] fun x9 =>
.l (.app 6 true 88) [(n y4 1), x9] fun x10 =>
.l (.arith .add .i64) [(n y4 0), (i 1)] fun x11 =>
.cont 0 [x11, x10]) (
.ret (.agg [(c 0 x0), (c 1 x0), (c 2 x0), (c 3 x0), x2, (n y4 1)]))
theorem k_typetree_mapped : TxOk P F.typetree_mapped 2 t_typetree_mapped := txOk_of (H := {}) (plans := []) hm Tryd.func52 rfl rfl fun xs => by kernel_rfl
def t_ref02_texts (xs : List PV) : T PV :=
.l .len [(n xs 0)] fun x0 =>
.l .len [(n xs 1)] fun x1 =>
.l (.cmp .neq .i64) [x0, x1] fun x2 =>
.ite x2 (
.ret (.bool false)) (
.loop [(i 0)] fun y3 =>
.l .len [(n xs 0)] fun x4 =>
.l (.cmp .lss .i64) [(n y3 0), x4] fun x5 =>
.ite x5 (
.l (.idx 1 false) [(n xs 0), (n y3 0)] fun x6 =>
.l (.idx 1 false) [(n xs 1), (n y3 0)] fun x7 =>
.l (.scmp .neq) [x6, x7] fun x8 =>
.ite x8 (
.ret (.bool false)) (
.l (.arith .add .i64) [(n y3 0), (i 1)] fun x9 =>
.cont 0 [x9])) (
.ret (.bool true)))
theorem k_ref02_texts : TxOk P F.ref02_texts 2 t_ref02_texts := txOk_of (H := {}) (plans := []) hm Tryd.func53 rfl rfl fun xs => by kernel_rfl
def t_slices_ContainsFunc_api_Proc_api_Proc (xs : List PV) : T PV :=
.call F.slices_IndexFunc_api_Proc_api_Proc [(n xs 0), (n xs 1)] fun x0 =>
.l (.cmp .geq .i64) [x0, (i 0)] fun x1 =>
.ret x1
theorem k_slices_ContainsFunc_api_Proc_api_Proc : TxOk P F.slices_ContainsFunc_api_Proc_api_Proc 2 t_slices_ContainsFunc_api_Proc_api_Proc := txOk_of (H := {}) (plans := []) hm Tryd.func54 rfl rfl fun xs => by kernel_rfl
def u_slices_ContainsFunc_api_Proc_api_Proc_Sz (xs : List PV) : T PV :=
.calls F.slices_IndexFunc_api_Proc_api_Proc sg_slices_IndexFunc_api_Proc_api_Proc_Sz [(n xs 0), (n xs 1)] fun z0 =>
.l (.cmp .geq .i64) [(n z0 0), (i 0)] fun x1 =>
.ret (.tup [x1, (n z0 1)])
theorem m_slices_ContainsFunc_api_Proc_api_Proc_Sz : TxOkS P F.slices_ContainsFunc_api_Proc_api_Proc sg_slices_ContainsFunc_api_Proc_api_Proc_Sz u_slices_ContainsFunc_api_Proc_api_Proc_Sz := txOkS_of (H := { wr := [], ro := [], nl := [], fz := [], da := [], sigs := [(80, sg_slices_IndexFunc_api_Proc_api_Proc_Sz)] }) (plans := []) hm Tryd.func54 rfl fun xs => by kernel_rfl
def u_slices_ContainsFunc_api_Proc_api_Proc_Wg (xs : List PV) : T PV :=
.calls F.slices_IndexFunc_api_Proc_api_Proc sg_slices_IndexFunc_api_Proc_api_Proc_Wg [(n xs 0), (n xs 1)] fun z0 =>
.l (.cmp .geq .i64) [(n z0 0), (i 0)] fun x1 =>
.ret (.tup [x1, (n z0 1)])
theorem m_slices_ContainsFunc_api_Proc_api_Proc_Wg : TxOkS P F.slices_ContainsFunc_api_Proc_api_Proc sg_slices_ContainsFunc_api_Proc_api_Proc_Wg u_slices_ContainsFunc_api_Proc_api_Proc_Wg := txOkS_of (H := { wr := [], ro := [], nl := [], fz := [], da := [], sigs := [(80, sg_slices_IndexFunc_api_Proc_api_Proc_Wg)] }) (plans := []) hm Tryd.func54 rfl fun xs => by kernel_rfl
def u_slices_ContainsFunc_api_Proc_api_Proc_Fw (xs : List PV) : T PV :=
.calls F.slices_IndexFunc_api_Proc_api_Proc sg_slices_IndexFunc_api_Proc_api_Proc_Fw [(n xs 0), (n xs 1)] fun z0 =>
.l (.cmp .geq .i64) [(n z0 0), (i 0)] fun x1 =>
.ret (.tup [x1, (n z0 1)])
theorem m_slices_ContainsFunc_api_Proc_api_Proc_Fw : TxOkS P F.slices_ContainsFunc_api_Proc_api_Proc sg_slices_ContainsFunc_api_Proc_api_Proc_Fw u_slices_ContainsFunc_api_Proc_api_Proc_Fw := txOkS_of (H := { wr := [], ro := [], nl := [], fz := [], da := [], sigs := [(80, sg_slices_IndexFunc_api_Proc_api_Proc_Fw)] }) (plans := []) hm Tryd.func54 rfl fun xs => by kernel_rfl
def t_proctree_all_1 (xs : List PV) : T PV :=
.l (.okc 12 true) [(n xs 0)] fun x0 =>
.l (.unbox 1 false) [(n xs 1)] fun x1 =>
.call F.proctree_all [x0, x1] fun x2 =>
.l .bnot [x2] fun x3 =>
.ret x3
theorem k_proctree_all_1 : TxOk P F.proctree_all_1 2 t_proctree_all_1 := txOk_of (H := {}) (plans := []) hm Tryd.func55 rfl rfl fun xs => by kernel_rfl
def u_proctree_all_1_Sz (xs : List PV) : T PV :=
.l (.okc 12 true) [(n xs 0)] fun x0 =>
.calls F.proctree_all sg_proctree_all_Sz [x0, (n xs 1)] fun z1 =>
.l .bnot [(n z1 0)] fun x2 =>
.ret (.tup [x2, (n z1 1)])
theorem m_proctree_all_1_Sz : TxOkS P F.proctree_all_1 sg_proctree_all_1_Sz u_proctree_all_1_Sz := txOkS_of (H := { wr := [], ro := [], nl := [], fz := [], da := [], sigs := [(35, sg_proctree_all_Sz)] }) (plans := []) hm Tryd.func55 rfl fun xs => by kernel_rfl
def u_proctree_all_1_Wg (xs : List PV) : T PV :=
.l (.okc 12 true) [(n xs 0)] fun x0 =>
.calls F.proctree_all sg_proctree_all_Wg [x0, (n xs 1)] fun z1 =>
.l .bnot [(n z1 0)] fun x2 =>
.ret (.tup [x2, (n z1 1)])
theorem m_proctree_all_1_Wg : TxOkS P F.proctree_all_1 sg_proctree_all_1_Wg u_proctree_all_1_Wg := txOkS_of (H := { wr := [], ro := [], nl := [], fz := [], da := [], sigs := [(35, sg_proctree_all_Wg)] }) (plans := []) hm Tryd.func55 rfl fun xs => by kernel_rfl
def u_proctree_all_1_Fw (xs : List PV) : T PV :=
.l (.okc 12 true) [(n xs 0)] fun x0 =>
.calls F.proctree_all sg_proctree_all_Fw [x0, (n xs 1)] fun z1 =>
.l .bnot [(n z1 0)] fun x2 =>
.ret (.tup [x2, (n z1 1)])
theorem m_proctree_all_1_Fw : TxOkS P F.proctree_all_1 sg_proctree_all_1_Fw u_proctree_all_1_Fw := txOkS_of (H := { wr := [], ro := [], nl := [], fz := [], da := [], sigs := [(35, sg_proctree_all_Fw)] }) (plans := []) hm Tryd.func55 rfl fun xs => by kernel_rfl
-- NOT TOLD: 56 duologue/proctree.weight$1: 1
def u_proctree_weight_1 (xs : List PV) : T PV :=
.l (.okc 12 true) [(n xs 0)] fun x0 =>
.l (.arith .add .i64) [(n xs 1), (i 1)] fun x1 =>
.l (.okc 1 false) [x1] fun x2 =>
.l (.cmp .eql .i64) [(c 0 x0), (i 6)] fun x3 =>
.ite x3 (
.call F.typetree_Size [(sb 5 6 x0)] fun x4 =>
.l (.arith .add .i64) [x2, x4] fun x5 =>
.l (.okc 1 false) [x5] fun x6 =>
.ret (.tup [(.bool true), x6])) (
.ret (.tup [(.bool true), x2]))
theorem m_proctree_weight_1 : TxOkS P F.proctree_weight_1 sg_proctree_weight_1 u_proctree_weight_1 := txOkS_of (H := {}) (plans := []) hm Tryd.func56 rfl fun xs => by kernel_rfl
def t_typetree_nodes (xs : List PV) : T PV :=
.l (.okc 6 true) [(n xs 0)] fun x0 =>
.ret (.fn F.typetree_nodes_1 [] [(.box x0)])
theorem k_typetree_nodes : TxOk P F.typetree_nodes 1 t_typetree_nodes := txOk_of (H := {}) (plans := []) hm Tryd.func57 rfl rfl fun xs => by kernel_rfl
def t_proctree_shallow_1 (xs : List PV) : T PV :=
.l (.okc 12 true) [(n xs 0)] fun x0 =>
.l (.unbox 1 false) [(n xs 1)] fun x1 =>
.l (.arith .sub .i64) [x1, (i 1)] fun x2 =>
.call F.proctree_shallow [x0, x2] fun x3 =>
.l .bnot [x3] fun x4 =>
.ret x4
theorem k_proctree_shallow_1 : TxOk P F.proctree_shallow_1 2 t_proctree_shallow_1 := txOk_of (H := {}) (plans := []) hm Tryd.func58 rfl rfl fun xs => by kernel_rfl
-- NOT TOLD: 59 duologue/proctree.few$1: 1
def u_proctree_few_1 (xs : List PV) : T PV :=
.l (.okc 12 true) [(n xs 0)] fun x0 =>
.l (.arith .sub .i64) [(n xs 1), (i 1)] fun x1 =>
.l (.okc 1 false) [x1] fun x2 =>
.l (.cmp .geq .i64) [x2, (i 0)] fun x3 =>
.ret (.tup [x3, x2])
theorem m_proctree_few_1 : TxOkS P F.proctree_few_1 sg_proctree_few_1 u_proctree_few_1 := txOkS_of (H := {}) (plans := []) hm Tryd.func59 rfl fun xs => by kernel_rfl
def t_proctree_rules (xs : List PV) : T PV :=
.call F.proctree_kidsOf [(i 0)] fun x0 =>
.l (.okcs [(1, false)]) [x0] fun x1 =>
.l (.mset false [.i .i64]) [(.mp [] []), (i 1), (.agg [(.bool false), (.bool false), (.bool false), (i 0), (i 0), x0])] fun x2 =>
.call F.proctree_kidsOf [(i 1)] fun x3 =>
.l (.okcs [(1, false)]) [x3] fun x4 =>
.l (.mset false [.i .i64]) [x2, (i 2), (.agg [(.bool true), (.bool false), (.bool false), (i 1), (i 0), x3])] fun x5 =>
.call F.proctree_kidsOf [(i 1)] fun x6 =>
.l (.okcs [(1, false)]) [x6] fun x7 =>
.l (.mset false [.i .i64]) [x5, (i 3), (.agg [(.bool true), (.bool true), (.bool false), (i 0), (i 0), x6])] fun x8 =>
.call F.proctree_kidsOf [(i 1)] fun x9 =>
.l (.okcs [(1, false)]) [x9] fun x10 =>
.l (.mset false [.i .i64]) [x8, (i 4), (.agg [(.bool true), (.bool false), (.bool false), (i 0), (i 1), x9])] fun x11 =>
.l (.okcs [(1, false)]) [(.fn F.proctree_each [] [])] fun x12 =>
.l (.mset false [.i .i64]) [x11, (i 5), (.agg [(.bool true), (.bool false), (.bool false), (i 0), (i (-1)), (.fn F.proctree_each [] [])])] fun x13 =>
.call F.proctree_kidsOf [(i 1)] fun x14 =>
.l (.okcs [(1, false)]) [x14] fun x15 =>
.l (.mset false [.i .i64]) [x13, (i 6), (.agg [(.bool true), (.bool true), (.bool true), (i 0), (i 0), x14])] fun x16 =>
.l (.okcs [(1, false)]) [(.fn F.proctree_several [] [])] fun x17 =>
.l (.mset false [.i .i64]) [x16, (i 7), (.agg [(.bool false), (.bool false), (.bool false), (i 0), (i 0), (.fn F.proctree_several [] [])])] fun x18 =>
.call F.proctree_kidsOf [(i 0)] fun x19 =>
.l (.okcs [(1, false)]) [x19] fun x20 =>
.l (.mset false [.i .i64]) [x18, (i 8), (.agg [(.bool true), (.bool false), (.bool false), (i (-1)), (i 0), x19])] fun x21 =>
.ret x21
theorem k_proctree_rules : TxOk P F.proctree_rules 0 t_proctree_rules := txOk_of (H := {}) (plans := []) hm Tryd.func60 rfl rfl fun xs => by kernel_rfl
def t_proctree_named (xs : List PV) : T PV :=
.ite (n xs 1) (
.call F.lex_Name [(n xs 0)] fun x0 =>
.ret x0) (
.l (.scmp .eql) [(n xs 0), (.str ⟨#[]⟩)] fun x0 =>
.ret x0)
theorem k_proctree_named : TxOk P F.proctree_named 2 t_proctree_named := txOk_of (H := {}) (plans := []) hm Tryd.func61 rfl rfl fun xs => by kernel_rfl
def t_proctree_typed (xs : List PV) : T PV :=
.l (.okc 12 true) [(n xs 0)] fun x0 =>
.ite (n xs 1) (
.call F.typetree_Right [(sb 5 6 x0)] fun x1 =>
.l (.cmp .eql .i64) [x1, (i 0)] fun x2 =>
.ite x2 (
.call F.typetree_Session [(sb 5 6 x0)] fun x3 =>
.ite x3 (
.l (.scmp .neq) [(c 1 x0), (c 2 x0)] fun x4 =>
.ret x4) (
.ret (.bool false))) (
.ret (.bool false))) (
.call F.typetree_Same [(sb 5 6 x0), (.agg [(i 0), (i 0), (.str ⟨#[]⟩), (i 0), (.sl []), (.sl [])])] fun x1 =>
.ret x1)
theorem k_proctree_typed : TxOk P F.proctree_typed 2 t_proctree_typed := txOk_of (H := {}) (plans := []) hm Tryd.func62 rfl rfl fun xs => by kernel_rfl
def t_proctree_distinct (xs : List PV) : T PV :=
.l .len [(n xs 0)] fun x0 =>
.loop [(i 0)] fun y1 =>
.l (.cmp .lss .i64) [(n y1 0), x0] fun x2 =>
.ite x2 (
.l (.idx 1 false) [(n xs 0), (n y1 0)] fun x3 =>
.call F.lex_Name [x3] fun x4 =>
.l .bnot [x4] fun x5 =>
.ite x5 (
.ret (.bool false)) (
.l (.slcT 1 false) [(n xs 0), (n y1 0)] fun x6 =>
.call F.slices_Contains_string_string [x6, x3] fun x7 =>
.ite x7 (
.ret (.bool false)) (
.l (.arith .add .i64) [(n y1 0), (i 1)] fun x8 =>
.cont 0 [x8]))) (
.ret (.bool true))
theorem k_proctree_distinct : TxOk P F.proctree_distinct 1 t_proctree_distinct := txOk_of (H := {}) (plans := []) hm Tryd.func63 rfl rfl fun xs => by kernel_rfl
def t_slices_ContainsFunc_api_Value_api_Value (xs : List PV) : T PV :=
.call F.slices_IndexFunc_api_Value_api_Value [(n xs 0), (n xs 1)] fun x0 =>
.l (.cmp .geq .i64) [x0, (i 0)] fun x1 =>
.ret x1
theorem k_slices_ContainsFunc_api_Value_api_Value : TxOk P F.slices_ContainsFunc_api_Value_api_Value 2 t_slices_ContainsFunc_api_Value_api_Value := txOk_of (H := {}) (plans := []) hm Tryd.func64 rfl rfl fun xs => by kernel_rfl
def t_proctree_shape_1 (xs : List PV) : T PV :=
.l (.okc 3 true) [(n xs 0)] fun x0 =>
.call F.proctree_value [x0] fun x1 =>
.l .bnot [x1] fun x2 =>
.ret x2
theorem k_proctree_shape_1 : TxOk P F.proctree_shape_1 1 t_proctree_shape_1 := txOk_of (H := {}) (plans := []) hm Tryd.func65 rfl rfl fun xs => by kernel_rfl
def t_proctree_value (xs : List PV) : T PV :=
.l (.okc 3 true) [(n xs 0)] fun x0 =>
.l (.cmp .eql .i64) [(c 0 x0), (i 1)] fun x1 =>
.ite x1 (
.call F.lex_Name [(c 1 x0)] fun x2 =>
.ite x2 (
.l (.cmp .eql .i64) [(c 2 x0), (i 0)] fun x3 =>
.ret x3) (
.ret (.bool false))) (
.l (.cmp .eql .i64) [(c 0 x0), (i 2)] fun x2 =>
.ite x2 (
.l (.scmp .eql) [(c 1 x0), (.str ⟨#[]⟩)] fun x3 =>
.ret x3) (
.l (.cmp .eql .i64) [(c 0 x0), (i 3)] fun x3 =>
.ite x3 (
.l (.scmp .eql) [(c 1 x0), (.str ⟨#[]⟩)] fun x4 =>
.ite x4 (
.l (.cmp .eql .i64) [(c 2 x0), (i 0)] fun x5 =>
.ite x5 (
.ret (.bool true)) (
.l (.cmp .eql .i64) [(c 2 x0), (i 1)] fun x6 =>
.ret x6)) (
.ret (.bool false))) (
.ret (.bool false))))
theorem k_proctree_value : TxOk P F.proctree_value 1 t_proctree_value := txOk_of (H := {}) (plans := []) hm Tryd.func66 rfl rfl fun xs => by kernel_rfl
def t_lex_letter (xs : List PV) : T PV :=
.l (.arith .or .u8) [(n xs 0), (.int .u8 (32))] fun x0 =>
.l (.conv .i32) [x0] fun x1 =>
.l (.cmp .geq .i32) [x1, (.int .i32 (97))] fun x2 =>
.ite x2 (
.l (.cmp .leq .i32) [x1, (.int .i32 (122))] fun x3 =>
.ite x3 (
.l (.cmp .geq .u8) [(n xs 0), (.int .u8 (65))] fun x4 =>
.ite x4 (
.ret (.bool true)) (
.l (.cmp .eql .u8) [(n xs 0), (.int .u8 (95))] fun x5 =>
.ret x5)) (
.l (.cmp .eql .u8) [(n xs 0), (.int .u8 (95))] fun x4 =>
.ret x4)) (
.l (.cmp .eql .u8) [(n xs 0), (.int .u8 (95))] fun x3 =>
.ret x3)
theorem k_lex_letter : TxOk P F.lex_letter 1 t_lex_letter := txOk_of (H := {}) (plans := []) hm Tryd.func67 rfl rfl fun xs => by kernel_rfl
def t_lex_span (xs : List PV) : T PV :=
.loop [(n xs 1)] fun y0 =>
.l .slen [(n xs 0)] fun x1 =>
.l (.cmp .lss .i64) [(n y0 0), x1] fun x2 =>
.ite x2 (
.l .sidx [(n xs 0), (n y0 0)] fun x3 =>
.callv (n xs 2) [x3] fun x4 =>
.ite x4 (
.l (.arith .add .i64) [(n y0 0), (i 1)] fun x5 =>
.cont 0 [x5]) (
.ret (n y0 0))) (
.ret (n y0 0))
theorem k_lex_span : TxOk P F.lex_span 3 t_lex_span := txOk_of (H := {}) (plans := []) hm Tryd.func68 rfl rfl fun xs => by kernel_rfl
def t_lex_Name_1 (xs : List PV) : T PV :=
.call F.lex_letter [(n xs 0)] fun x0 =>
.ite x0 (
.ret (.bool true)) (
.call F.lex_digit [(n xs 0)] fun x1 =>
.ret x1)
theorem k_lex_Name_1 : TxOk P F.lex_Name_1 1 t_lex_Name_1 := txOk_of (H := {}) (plans := []) hm Tryd.func69 rfl rfl fun xs => by kernel_rfl
def t_lex_digit (xs : List PV) : T PV :=
.l (.cmp .geq .u8) [(n xs 0), (.int .u8 (48))] fun x0 =>
.ite x0 (
.l (.cmp .leq .u8) [(n xs 0), (.int .u8 (57))] fun x1 =>
.ret x1) (
.ret (.bool false))
theorem k_lex_digit : TxOk P F.lex_digit 1 t_lex_digit := txOk_of (H := {}) (plans := []) hm Tryd.func70 rfl rfl fun xs => by kernel_rfl
def t_lex_Keyword (xs : List PV) : T PV :=
.l (.asl 10) [(.agg [(.str ⟨#[100, 101, 102]⟩), (.str ⟨#[109, 97, 105, 110]⟩), (.str ⟨#[115, 116, 111, 112]⟩), (.str ⟨#[110, 101, 119]⟩), (.str ⟨#[105, 110, 116]⟩), (.str ⟨#[98, 111, 111, 108]⟩), (.str ⟨#[101, 110, 100]⟩), (.str ⟨#[114, 101, 99]⟩), (.str ⟨#[116, 114, 117, 101]⟩), (.str ⟨#[102, 97, 108, 115, 101]⟩)])] fun x0 =>
.call F.slices_Contains_string_string [x0, (n xs 0)] fun x1 =>
.ret x1
theorem k_lex_Keyword : TxOk P F.lex_Keyword 1 t_lex_Keyword := txOk_of (H := {}) (plans := []) hm Tryd.func71 rfl rfl fun xs => by kernel_rfl
def t_slices_IndexFunc_api_Param_api_Param (xs : List PV) : T PV :=
.l .len [(n xs 0)] fun x0 =>
.loop [(i 0)] fun y1 =>
.l (.cmp .lss .i64) [(n y1 0), x0] fun x2 =>
.ite x2 (
.l (.idx 7 true) [(n xs 0), (n y1 0)] fun x3 =>
.callv (n xs 1) [x3] fun x4 =>
.ite x4 (
.ret (n y1 0)) (
.l (.arith .add .i64) [(n y1 0), (i 1)] fun x5 =>
.cont 0 [x5])) (
.ret (i (-1)))
theorem k_slices_IndexFunc_api_Param_api_Param : TxOk P F.slices_IndexFunc_api_Param_api_Param 2 t_slices_IndexFunc_api_Param_api_Param := txOk_of (H := {}) (plans := []) hm Tryd.func72 rfl rfl fun xs => by kernel_rfl
def t_typetree_shallow (xs : List PV) : T PV :=
.l (.okc 6 true) [(n xs 0)] fun x0 =>
.l (.okc 1 false) [(n xs 1)] fun x1 =>
.l (.cmp .gtr .i64) [x1, (i 0)] fun x2 =>
.ite x2 (
.call F.slices_ContainsFunc_api_Type_api_Type [(c 5 x0), (.fn F.typetree_shallow_1 [] [(.box x1)])] fun x3 =>
.l .bnot [x3] fun x4 =>
.ret x4) (
.ret (.bool false))
theorem k_typetree_shallow : TxOk P F.typetree_shallow 2 t_typetree_shallow := txOk_of (H := {}) (plans := []) hm Tryd.func73 rfl rfl fun xs => by kernel_rfl
def t_typetree_few (xs : List PV) : T PV :=
.l (.okc 6 true) [(n xs 0)] fun x0 =>
.l (.okc 1 false) [(n xs 1)] fun x1 =>
.call F.typetree_nodes [x0] fun x2 =>
.iter x2 1 [x1] (fun e3 y3 =>
.l (.arith .sub .i64) [(n y3 0), (i 1)] fun x4 =>
.l (.okc 1 false) [x4] fun x5 =>
.l (.cmp .lss .i64) [x5, (i 0)] fun x6 =>
.ite x6 (
.fail) (
.cont 0 [x5])) (fun e3 y3 =>
.l (.arith .sub .i64) [(n y3 0), (i 1)] fun x4 =>
.l (.okc 1 false) [x4] fun x5 =>
.l (.cmp .lss .i64) [x5, (i 0)] fun x6 =>
.ite x6 (
.ret (.bool false)) (
.fail)) fun y3 =>
.ret (.bool true)
theorem k_typetree_few : TxOk P F.typetree_few 2 t_typetree_few := txOk_of (H := {}) (plans := []) hm Tryd.func74 rfl rfl fun xs => by kernel_rfl
def t_typetree_check (xs : List PV) : T PV :=
.l (.okc 6 true) [(n xs 0)] fun x0 =>
.call F.typetree_fields [x0] fun x1 =>
.l .bnot [x1] fun x2 =>
.ite x2 (
.ret (i 3)) (
.ite (n xs 2) (
.call F.typetree_Session [x0] fun x3 =>
.l .bnot [x3] fun x4 =>
.ite x4 (
.ret (i 3)) (
.l (.cmp .eql .i64) [(c 0 x0), (i 9)] fun x5 =>
.ite x5 (
.call F.typetree_find [(n xs 1), (c 2 x0)] fun x6 =>
.l (.tc 0) [x6] fun x7 =>
.l (.tc 1) [x6] fun x8 =>
.l (.okc 2 true) [x7] fun x9 =>
.l .bnot [x8] fun x10 =>
.ite x10 (
.ret (i 4)) (
.l .bnot [(c 1 x9)] fun x11 =>
.ite x11 (
.ret (i 3)) (
.l .len [(c 5 x0)] fun x12 =>
.loop [(i 0)] fun y13 =>
.l (.cmp .lss .i64) [(n y13 0), x12] fun x14 =>
.ite x14 (
.l (.idx 6 true) [(c 5 x0), (n y13 0)] fun x15 =>
.l (.okc 6 true) [x15] fun x16 =>
.l (.cmp .eql .i64) [(n y13 0), (i 0)] fun x17 =>
.ite x17 (
.l (.cmp .eql .i64) [(c 0 x0), (i 4)] fun x18 =>
.ite x18 (
.l .bnot [(.bool true)] fun x19 =>
.call F.typetree_check [x16, (n xs 1), x19] fun x20 =>
.l (.cmp .neq .i64) [x20, (i 0)] fun x21 =>
.ite x21 (
.ret x20) (
.l (.arith .add .i64) [(n y13 0), (i 1)] fun x22 =>
.cont 0 [x22])) (
.l (.cmp .eql .i64) [(c 0 x0), (i 5)] fun x19 =>
.l .bnot [x19] fun x20 =>
.call F.typetree_check [x16, (n xs 1), x20] fun x21 =>
.l (.cmp .neq .i64) [x21, (i 0)] fun x22 =>
.ite x22 (
.ret x21) (
.l (.arith .add .i64) [(n y13 0), (i 1)] fun x23 =>
.cont 0 [x23]))) (
.l .bnot [(.bool false)] fun x18 =>
.call F.typetree_check [x16, (n xs 1), x18] fun x19 =>
.l (.cmp .neq .i64) [x19, (i 0)] fun x20 =>
.ite x20 (
.ret x19) (
.l (.arith .add .i64) [(n y13 0), (i 1)] fun x21 =>
.cont 0 [x21]))) (
.ret (i 0))))) (
.l (.cmp .eql .i64) [(c 0 x0), (i 8)] fun x6 =>
.ite x6 (
.calls F.slices_Clone_typetree_bound_typetree_bound sg_slices_Clone_typetree_bound_typetree_bound [(n xs 1)] fun z7 =>
.l (.okcs [(1, false)]) [(c 2 x0)] fun x8 =>
.l (.lst 2 true) [(.agg [(c 2 x0), (.bool false)])] fun x9 =>
.l (.app 2 true 24) [(n z7 0), x9] fun x10 =>
.l .len [(c 5 x0)] fun x11 =>
.loop [(i 0)] fun y12 =>
.l (.cmp .lss .i64) [(n y12 0), x11] fun x13 =>
.ite x13 (
.l (.idx 6 true) [(c 5 x0), (n y12 0)] fun x14 =>
.l (.okc 6 true) [x14] fun x15 =>
.l (.cmp .eql .i64) [(n y12 0), (i 0)] fun x16 =>
.ite x16 (
.l (.cmp .eql .i64) [(c 0 x0), (i 4)] fun x17 =>
.ite x17 (
.l .bnot [(.bool true)] fun x18 =>
.call F.typetree_check [x15, x10, x18] fun x19 =>
.l (.cmp .neq .i64) [x19, (i 0)] fun x20 =>
.ite x20 (
.ret x19) (
.l (.arith .add .i64) [(n y12 0), (i 1)] fun x21 =>
.cont 0 [x21])) (
.l (.cmp .eql .i64) [(c 0 x0), (i 5)] fun x18 =>
.l .bnot [x18] fun x19 =>
.call F.typetree_check [x15, x10, x19] fun x20 =>
.l (.cmp .neq .i64) [x20, (i 0)] fun x21 =>
.ite x21 (
.ret x20) (
.l (.arith .add .i64) [(n y12 0), (i 1)] fun x22 =>
.cont 0 [x22]))) (
.l .bnot [(.bool false)] fun x17 =>
.call F.typetree_check [x15, x10, x17] fun x18 =>
.l (.cmp .neq .i64) [x18, (i 0)] fun x19 =>
.ite x19 (
.ret x18) (
.l (.arith .add .i64) [(n y12 0), (i 1)] fun x20 =>
.cont 0 [x20]))) (
.ret (i 0))) (
.calls F.slices_Clone_typetree_bound_typetree_bound sg_slices_Clone_typetree_bound_typetree_bound [(n xs 1)] fun z7 =>
.l .len [(n z7 0)] fun x8 =>
.loop [(i 0), (n z7 0)] fun y9 =>
.l (.cmp .lss .i64) [(n y9 0), x8] fun x10 =>
.ite x10 (
.l (.idx 2 true) [(n y9 1), (n y9 0)] fun x11 =>
.l (.updF 2 1 1 false) [(n y9 1), (n y9 0), (.bool true)] fun x12 =>
.l (.arith .add .i64) [(n y9 0), (i 1)] fun x13 =>
.cont 0 [x13, x12]) (
.l .len [(c 5 x0)] fun x11 =>
.loop [(i 0)] fun y12 =>
.l (.cmp .lss .i64) [(n y12 0), x11] fun x13 =>
.ite x13 (
.l (.idx 6 true) [(c 5 x0), (n y12 0)] fun x14 =>
.l (.okc 6 true) [x14] fun x15 =>
.l (.cmp .eql .i64) [(n y12 0), (i 0)] fun x16 =>
.ite x16 (
.l (.cmp .eql .i64) [(c 0 x0), (i 4)] fun x17 =>
.ite x17 (
.l .bnot [(.bool true)] fun x18 =>
.call F.typetree_check [x15, (n y9 1), x18] fun x19 =>
.l (.cmp .neq .i64) [x19, (i 0)] fun x20 =>
.ite x20 (
.ret x19) (
.l (.arith .add .i64) [(n y12 0), (i 1)] fun x21 =>
.cont 1 [x21])) (
.l (.cmp .eql .i64) [(c 0 x0), (i 5)] fun x18 =>
.l .bnot [x18] fun x19 =>
.call F.typetree_check [x15, (n y9 1), x19] fun x20 =>
.l (.cmp .neq .i64) [x20, (i 0)] fun x21 =>
.ite x21 (
.ret x20) (
.l (.arith .add .i64) [(n y12 0), (i 1)] fun x22 =>
.cont 1 [x22]))) (
.l .bnot [(.bool false)] fun x17 =>
.call F.typetree_check [x15, (n y9 1), x17] fun x18 =>
.l (.cmp .neq .i64) [x18, (i 0)] fun x19 =>
.ite x19 (
.ret x18) (
.l (.arith .add .i64) [(n y12 0), (i 1)] fun x20 =>
.cont 1 [x20]))) (
.ret (i 0))))))) (
.l (.cmp .eql .i64) [(c 0 x0), (i 9)] fun x3 =>
.ite x3 (
.call F.typetree_find [(n xs 1), (c 2 x0)] fun x4 =>
.l (.tc 0) [x4] fun x5 =>
.l (.tc 1) [x4] fun x6 =>
.l (.okc 2 true) [x5] fun x7 =>
.l .bnot [x6] fun x8 =>
.ite x8 (
.ret (i 4)) (
.l .bnot [(c 1 x7)] fun x9 =>
.ite x9 (
.ret (i 3)) (
.l .len [(c 5 x0)] fun x10 =>
.loop [(i 0)] fun y11 =>
.l (.cmp .lss .i64) [(n y11 0), x10] fun x12 =>
.ite x12 (
.l (.idx 6 true) [(c 5 x0), (n y11 0)] fun x13 =>
.l (.okc 6 true) [x13] fun x14 =>
.l (.cmp .eql .i64) [(n y11 0), (i 0)] fun x15 =>
.ite x15 (
.l (.cmp .eql .i64) [(c 0 x0), (i 4)] fun x16 =>
.ite x16 (
.l .bnot [(.bool true)] fun x17 =>
.call F.typetree_check [x14, (n xs 1), x17] fun x18 =>
.l (.cmp .neq .i64) [x18, (i 0)] fun x19 =>
.ite x19 (
.ret x18) (
.l (.arith .add .i64) [(n y11 0), (i 1)] fun x20 =>
.cont 0 [x20])) (
.l (.cmp .eql .i64) [(c 0 x0), (i 5)] fun x17 =>
.l .bnot [x17] fun x18 =>
.call F.typetree_check [x14, (n xs 1), x18] fun x19 =>
.l (.cmp .neq .i64) [x19, (i 0)] fun x20 =>
.ite x20 (
.ret x19) (
.l (.arith .add .i64) [(n y11 0), (i 1)] fun x21 =>
.cont 0 [x21]))) (
.l .bnot [(.bool false)] fun x16 =>
.call F.typetree_check [x14, (n xs 1), x16] fun x17 =>
.l (.cmp .neq .i64) [x17, (i 0)] fun x18 =>
.ite x18 (
.ret x17) (
.l (.arith .add .i64) [(n y11 0), (i 1)] fun x19 =>
.cont 0 [x19]))) (
.ret (i 0))))) (
.l (.cmp .eql .i64) [(c 0 x0), (i 8)] fun x4 =>
.ite x4 (
.calls F.slices_Clone_typetree_bound_typetree_bound sg_slices_Clone_typetree_bound_typetree_bound [(n xs 1)] fun z5 =>
.l (.okcs [(1, false)]) [(c 2 x0)] fun x6 =>
.l (.lst 2 true) [(.agg [(c 2 x0), (.bool false)])] fun x7 =>
.l (.app 2 true 24) [(n z5 0), x7] fun x8 =>
.l .len [(c 5 x0)] fun x9 =>
.loop [(i 0)] fun y10 =>
.l (.cmp .lss .i64) [(n y10 0), x9] fun x11 =>
.ite x11 (
.l (.idx 6 true) [(c 5 x0), (n y10 0)] fun x12 =>
.l (.okc 6 true) [x12] fun x13 =>
.l (.cmp .eql .i64) [(n y10 0), (i 0)] fun x14 =>
.ite x14 (
.l (.cmp .eql .i64) [(c 0 x0), (i 4)] fun x15 =>
.ite x15 (
.l .bnot [(.bool true)] fun x16 =>
.call F.typetree_check [x13, x8, x16] fun x17 =>
.l (.cmp .neq .i64) [x17, (i 0)] fun x18 =>
.ite x18 (
.ret x17) (
.l (.arith .add .i64) [(n y10 0), (i 1)] fun x19 =>
.cont 0 [x19])) (
.l (.cmp .eql .i64) [(c 0 x0), (i 5)] fun x16 =>
.l .bnot [x16] fun x17 =>
.call F.typetree_check [x13, x8, x17] fun x18 =>
.l (.cmp .neq .i64) [x18, (i 0)] fun x19 =>
.ite x19 (
.ret x18) (
.l (.arith .add .i64) [(n y10 0), (i 1)] fun x20 =>
.cont 0 [x20]))) (
.l .bnot [(.bool false)] fun x15 =>
.call F.typetree_check [x13, x8, x15] fun x16 =>
.l (.cmp .neq .i64) [x16, (i 0)] fun x17 =>
.ite x17 (
.ret x16) (
.l (.arith .add .i64) [(n y10 0), (i 1)] fun x18 =>
.cont 0 [x18]))) (
.ret (i 0))) (
.calls F.slices_Clone_typetree_bound_typetree_bound sg_slices_Clone_typetree_bound_typetree_bound [(n xs 1)] fun z5 =>
.l .len [(n z5 0)] fun x6 =>
.loop [(i 0), (n z5 0)] fun y7 =>
.l (.cmp .lss .i64) [(n y7 0), x6] fun x8 =>
.ite x8 (
.l (.idx 2 true) [(n y7 1), (n y7 0)] fun x9 =>
.l (.updF 2 1 1 false) [(n y7 1), (n y7 0), (.bool true)] fun x10 =>
.l (.arith .add .i64) [(n y7 0), (i 1)] fun x11 =>
.cont 0 [x11, x10]) (
.l .len [(c 5 x0)] fun x9 =>
.loop [(i 0)] fun y10 =>
.l (.cmp .lss .i64) [(n y10 0), x9] fun x11 =>
.ite x11 (
.l (.idx 6 true) [(c 5 x0), (n y10 0)] fun x12 =>
.l (.okc 6 true) [x12] fun x13 =>
.l (.cmp .eql .i64) [(n y10 0), (i 0)] fun x14 =>
.ite x14 (
.l (.cmp .eql .i64) [(c 0 x0), (i 4)] fun x15 =>
.ite x15 (
.l .bnot [(.bool true)] fun x16 =>
.call F.typetree_check [x13, (n y7 1), x16] fun x17 =>
.l (.cmp .neq .i64) [x17, (i 0)] fun x18 =>
.ite x18 (
.ret x17) (
.l (.arith .add .i64) [(n y10 0), (i 1)] fun x19 =>
.cont 1 [x19])) (
.l (.cmp .eql .i64) [(c 0 x0), (i 5)] fun x16 =>
.l .bnot [x16] fun x17 =>
.call F.typetree_check [x13, (n y7 1), x17] fun x18 =>
.l (.cmp .neq .i64) [x18, (i 0)] fun x19 =>
.ite x19 (
.ret x18) (
.l (.arith .add .i64) [(n y10 0), (i 1)] fun x20 =>
.cont 1 [x20]))) (
.l .bnot [(.bool false)] fun x15 =>
.call F.typetree_check [x13, (n y7 1), x15] fun x16 =>
.l (.cmp .neq .i64) [x16, (i 0)] fun x17 =>
.ite x17 (
.ret x16) (
.l (.arith .add .i64) [(n y10 0), (i 1)] fun x18 =>
.cont 1 [x18]))) (
.ret (i 0)))))))
theorem k_typetree_check : TxOk P F.typetree_check 3 t_typetree_check := txOk_of (H := { wr := [], ro := [], nl := [], fz := [(18, 1)], da := [], sigs := [(29, sg_slices_Clone_string_string), (32, sg_slices_Clone_api_Value_api_Value), (92, sg_slices_Clone_typetree_bound_typetree_bound)] }) (plans := []) hm Tryd.func75 rfl rfl fun xs => by kernel_rfl
def t_slices_EqualFunc_api_Type_api_Type_api_Type_api_Type (xs : List PV) : T PV :=
.l .len [(n xs 0)] fun x0 =>
.l .len [(n xs 1)] fun x1 =>
.l (.cmp .neq .i64) [x0, x1] fun x2 =>
.ite x2 (
.ret (.bool false)) (
.l .len [(n xs 0)] fun x3 =>
.loop [(i 0)] fun y4 =>
.l (.cmp .lss .i64) [(n y4 0), x3] fun x5 =>
.ite x5 (
.l (.idx 6 true) [(n xs 0), (n y4 0)] fun x6 =>
.l (.okc 6 true) [x6] fun x7 =>
.l (.idx 6 true) [(n xs 1), (n y4 0)] fun x8 =>
.l (.okc 6 true) [x8] fun x9 =>
.callv (n xs 2) [x7, x9] fun x10 =>
.l .bnot [x10] fun x11 =>
.ite x11 (
.ret (.bool false)) (
.l (.arith .add .i64) [(n y4 0), (i 1)] fun x12 =>
.cont 0 [x12])) (
.ret (.bool true)))
theorem k_slices_EqualFunc_api_Type_api_Type_api_Type_api_Type : TxOk P F.slices_EqualFunc_api_Type_api_Type_api_Type_api_Type 3 t_slices_EqualFunc_api_Type_api_Type_api_Type_api_Type := txOk_of (H := {}) (plans := []) hm Tryd.func76 rfl rfl fun xs => by kernel_rfl
def t_slices_EqualFunc_api_Proc_api_Proc_api_Proc_api_Proc (xs : List PV) : T PV :=
.l .len [(n xs 0)] fun x0 =>
.l .len [(n xs 1)] fun x1 =>
.l (.cmp .neq .i64) [x0, x1] fun x2 =>
.ite x2 (
.ret (.bool false)) (
.l .len [(n xs 0)] fun x3 =>
.loop [(i 0)] fun y4 =>
.l (.cmp .lss .i64) [(n y4 0), x3] fun x5 =>
.ite x5 (
.l (.idx 12 true) [(n xs 0), (n y4 0)] fun x6 =>
.l (.okc 12 true) [x6] fun x7 =>
.l (.idx 12 true) [(n xs 1), (n y4 0)] fun x8 =>
.l (.okc 12 true) [x8] fun x9 =>
.callv (n xs 2) [x7, x9] fun x10 =>
.l .bnot [x10] fun x11 =>
.ite x11 (
.ret (.bool false)) (
.l (.arith .add .i64) [(n y4 0), (i 1)] fun x12 =>
.cont 0 [x12])) (
.ret (.bool true)))
theorem k_slices_EqualFunc_api_Proc_api_Proc_api_Proc_api_Proc : TxOk P F.slices_EqualFunc_api_Proc_api_Proc_api_Proc_api_Proc 3 t_slices_EqualFunc_api_Proc_api_Proc_api_Proc_api_Proc := txOk_of (H := {}) (plans := []) hm Tryd.func77 rfl rfl fun xs => by kernel_rfl
def t_ref02_count (xs : List PV) : T PV :=
.l (.okc 6 true) [(n xs 0)] fun x0 =>
.l (.arith .sub .i64) [(n xs 1), (i 1)] fun x1 =>
.loop [(i 0), x1] fun y2 =>
.l .len [(c 5 x0)] fun x3 =>
.l (.cmp .lss .i64) [(n y2 0), x3] fun x4 =>
.ite x4 (
.l (.cmp .geq .i64) [(n y2 1), (i 0)] fun x5 =>
.ite x5 (
.l (.idx 6 true) [(c 5 x0), (n y2 0)] fun x6 =>
.call F.ref02_count [x6, (n y2 1)] fun x7 =>
.l (.arith .add .i64) [(n y2 0), (i 1)] fun x8 =>
.cont 0 [x8, x7]) (
.ret (n y2 1))) (
.ret (n y2 1))
theorem k_ref02_count : TxOk P F.ref02_count 2 t_ref02_count := txOk_of (H := {}) (plans := []) hm Tryd.func78 rfl rfl fun xs => by kernel_rfl
def t_ref02_Depth (xs : List PV) : T PV :=
.l (.okc 6 true) [(n xs 0)] fun x0 =>
.loop [(i 0), (i 0)] fun y1 =>
.l .len [(c 5 x0)] fun x2 =>
.l (.cmp .lss .i64) [(n y1 0), x2] fun x3 =>
.ite x3 (
.l (.idx 6 true) [(c 5 x0), (n y1 0)] fun x4 =>
.call F.ref02_Depth [x4] fun x5 =>
.l (.mx .i64) [(n y1 1), x5] fun x6 =>
.l (.arith .add .i64) [(n y1 0), (i 1)] fun x7 =>
.cont 0 [x7, x6]) (
.l (.arith .add .i64) [(n y1 1), (i 1)] fun x4 =>
.ret x4)
theorem k_ref02_Depth : TxOk P F.ref02_Depth 1 t_ref02_Depth := txOk_of (H := {}) (plans := []) hm Tryd.func79 rfl rfl fun xs => by kernel_rfl
def t_slices_IndexFunc_api_Proc_api_Proc (xs : List PV) : T PV :=
.l .len [(n xs 0)] fun x0 =>
.loop [(i 0)] fun y1 =>
.l (.cmp .lss .i64) [(n y1 0), x0] fun x2 =>
.ite x2 (
.l (.idx 12 true) [(n xs 0), (n y1 0)] fun x3 =>
.callv (n xs 1) [x3] fun x4 =>
.ite x4 (
.ret (n y1 0)) (
.l (.arith .add .i64) [(n y1 0), (i 1)] fun x5 =>
.cont 0 [x5])) (
.ret (i (-1)))
theorem k_slices_IndexFunc_api_Proc_api_Proc : TxOk P F.slices_IndexFunc_api_Proc_api_Proc 2 t_slices_IndexFunc_api_Proc_api_Proc := txOk_of (H := {}) (plans := []) hm Tryd.func80 rfl rfl fun xs => by kernel_rfl
def u_slices_IndexFunc_api_Proc_api_Proc_Sz (xs : List PV) : T PV :=
.l .len [(n xs 0)] fun x0 =>
.loop [(i 0), (n xs 1)] fun y1 =>
.l (.cmp .lss .i64) [(n y1 0), x0] fun x2 =>
.ite x2 (
.l (.idx 12 true) [(n xs 0), (n y1 0)] fun x3 =>
.calls F.proctree_all_1 sg_proctree_all_1_Sz [x3, (n y1 1)] fun z4 =>
.ite (n z4 0) (
.ret (.tup [(n y1 0), (n z4 1)])) (
.l (.arith .add .i64) [(n y1 0), (i 1)] fun x5 =>
.cont 0 [x5, (n z4 1)])) (
.ret (.tup [(i (-1)), (n y1 1)]))
theorem m_slices_IndexFunc_api_Proc_api_Proc_Sz : TxOkS P F.slices_IndexFunc_api_Proc_api_Proc sg_slices_IndexFunc_api_Proc_api_Proc_Sz u_slices_IndexFunc_api_Proc_api_Proc_Sz := txOkS_of (H := { wr := [], ro := [], nl := [], fz := [], da := [], sigs := [(55, sg_proctree_all_1_Sz)] }) (plans := []) hm Tryd.func80 rfl fun xs => by kernel_rfl
def u_slices_IndexFunc_api_Proc_api_Proc_Wg (xs : List PV) : T PV :=
.l .len [(n xs 0)] fun x0 =>
.loop [(i 0), (n xs 1)] fun y1 =>
.l (.cmp .lss .i64) [(n y1 0), x0] fun x2 =>
.ite x2 (
.l (.idx 12 true) [(n xs 0), (n y1 0)] fun x3 =>
.calls F.proctree_all_1 sg_proctree_all_1_Wg [x3, (n y1 1)] fun z4 =>
.ite (n z4 0) (
.ret (.tup [(n y1 0), (n z4 1)])) (
.l (.arith .add .i64) [(n y1 0), (i 1)] fun x5 =>
.cont 0 [x5, (n z4 1)])) (
.ret (.tup [(i (-1)), (n y1 1)]))
theorem m_slices_IndexFunc_api_Proc_api_Proc_Wg : TxOkS P F.slices_IndexFunc_api_Proc_api_Proc sg_slices_IndexFunc_api_Proc_api_Proc_Wg u_slices_IndexFunc_api_Proc_api_Proc_Wg := txOkS_of (H := { wr := [], ro := [], nl := [], fz := [], da := [], sigs := [(55, sg_proctree_all_1_Wg)] }) (plans := []) hm Tryd.func80 rfl fun xs => by kernel_rfl
def u_slices_IndexFunc_api_Proc_api_Proc_Fw (xs : List PV) : T PV :=
.l .len [(n xs 0)] fun x0 =>
.loop [(i 0), (n xs 1)] fun y1 =>
.l (.cmp .lss .i64) [(n y1 0), x0] fun x2 =>
.ite x2 (
.l (.idx 12 true) [(n xs 0), (n y1 0)] fun x3 =>
.calls F.proctree_all_1 sg_proctree_all_1_Fw [x3, (n y1 1)] fun z4 =>
.ite (n z4 0) (
.ret (.tup [(n y1 0), (n z4 1)])) (
.l (.arith .add .i64) [(n y1 0), (i 1)] fun x5 =>
.cont 0 [x5, (n z4 1)])) (
.ret (.tup [(i (-1)), (n y1 1)]))
theorem m_slices_IndexFunc_api_Proc_api_Proc_Fw : TxOkS P F.slices_IndexFunc_api_Proc_api_Proc sg_slices_IndexFunc_api_Proc_api_Proc_Fw u_slices_IndexFunc_api_Proc_api_Proc_Fw := txOkS_of (H := { wr := [], ro := [], nl := [], fz := [], da := [], sigs := [(55, sg_proctree_all_1_Fw)] }) (plans := []) hm Tryd.func80 rfl fun xs => by kernel_rfl
def t_typetree_nodes_1 (xs : List PV) : T PV :=
.l (.unbox 6 true) [(n xs 1)] fun x0 =>
.call F.typetree_visit [x0, (n xs 0)] fun x1 =>
.ret (.tup [])
theorem k_typetree_nodes_1 : TxOk P F.typetree_nodes_1 2 t_typetree_nodes_1 := txOk_of (H := {}) (plans := []) hm Tryd.func81 rfl rfl fun xs => by kernel_rfl
def v_typetree_nodes_1 (xs : List PV) : T PV :=
.l (.unbox 6 true) [(n xs 1)] fun x0 =>
.callx F.typetree_visit [(some x0), none] (n xs 2) fun x1 s1 =>
.ret (.tup [(.tup []), s1])
theorem x_typetree_nodes_1 (X : Xt) (hX : XtC P X) : @TxOkX inferInstance { l := gl.l, x := X } P F.typetree_nodes_1 2 [0] v_typetree_nodes_1 := @txOkX_of inferInstance { l := gl.l, x := X } P (@XC.mk P inferInstance { l := gl.l, x := X } hX) {} [] _ _ _ _ _ hm Tryd.func81 rfl rfl fun xs => by kernel_rfl
def t_typetree_visit (xs : List PV) : T PV :=
.l (.okc 6 true) [(n xs 0)] fun x0 =>
.callv (n xs 1) [x0] fun x1 =>
.l .bnot [x1] fun x2 =>
.ite x2 (
.ret (.bool false)) (
.l .len [(c 5 x0)] fun x3 =>
.loop [(i 0)] fun y4 =>
.l (.cmp .lss .i64) [(n y4 0), x3] fun x5 =>
.ite x5 (
.l (.idx 6 true) [(c 5 x0), (n y4 0)] fun x6 =>
.l (.okc 6 true) [x6] fun x7 =>
.call F.typetree_visit [x7, (n xs 1)] fun x8 =>
.l .bnot [x8] fun x9 =>
.ite x9 (
.ret (.bool false)) (
.l (.arith .add .i64) [(n y4 0), (i 1)] fun x10 =>
.cont 0 [x10])) (
.ret (.bool true)))
theorem k_typetree_visit : TxOk P F.typetree_visit 2 t_typetree_visit := txOk_of (H := {}) (plans := []) hm Tryd.func82 rfl rfl fun xs => by kernel_rfl
def v_typetree_visit (xs : List PV) : T PV :=
.l (.okc 6 true) [(n xs 0)] fun x0 =>
.yld [x0] (n xs 2) fun x1 s1 =>
.l .bnot [x1] fun x2 =>
.ite x2 (
.ret (.tup [(.bool false), s1])) (
.l .len [(c 5 x0)] fun x3 =>
.loop [(i 0), s1] fun y4 =>
.l (.cmp .lss .i64) [(n y4 0), x3] fun x5 =>
.ite x5 (
.l (.idx 6 true) [(c 5 x0), (n y4 0)] fun x6 =>
.l (.okc 6 true) [x6] fun x7 =>
.callx F.typetree_visit [(some x7), none] (n y4 1) fun x8 s8 =>
.l .bnot [x8] fun x9 =>
.ite x9 (
.ret (.tup [(.bool false), s8])) (
.l (.arith .add .i64) [(n y4 0), (i 1)] fun x10 =>
.cont 0 [x10, s8])) (
.ret (.tup [(.bool true), (n y4 1)])))
theorem x_typetree_visit (X : Xt) (hX : XtC P X) : @TxOkX inferInstance { l := gl.l, x := X } P F.typetree_visit 2 [1] v_typetree_visit := @txOkX_of inferInstance { l := gl.l, x := X } P (@XC.mk P inferInstance { l := gl.l, x := X } hX) {} [] _ _ _ _ _ hm Tryd.func82 rfl rfl fun xs => by kernel_rfl
def t_proctree_kidsOf (xs : List PV) : T PV :=
.l (.okc 1 false) [(n xs 0)] fun x0 =>
.ret (.fn F.proctree_kidsOf_1 [] [(.box x0)])
theorem k_proctree_kidsOf : TxOk P F.proctree_kidsOf 1 t_proctree_kidsOf := txOk_of (H := {}) (plans := []) hm Tryd.func83 rfl rfl fun xs => by kernel_rfl
def t_proctree_each (xs : List PV) : T PV :=
.l (.okc 12 true) [(n xs 0)] fun x0 =>
.l .len [(c 11 x0)] fun x1 =>
.l .len [(c 3 x0)] fun x2 =>
.l (.cmp .eql .i64) [x1, x2] fun x3 =>
.ite x3 (
.l .len [(c 3 x0)] fun x4 =>
.l (.cmp .gtr .i64) [x4, (i 0)] fun x5 =>
.ret x5) (
.ret (.bool false))
theorem k_proctree_each : TxOk P F.proctree_each 1 t_proctree_each := txOk_of (H := {}) (plans := []) hm Tryd.func84 rfl rfl fun xs => by kernel_rfl
def t_proctree_several (xs : List PV) : T PV :=
.l (.okc 12 true) [(n xs 0)] fun x0 =>
.l .len [(c 11 x0)] fun x1 =>
.l (.cmp .geq .i64) [x1, (i 2)] fun x2 =>
.ite x2 (
.call F.slices_ContainsFunc_api_Proc_api_Proc [(c 11 x0), (.fn F.proctree_several_1 [] [])] fun x3 =>
.l .bnot [x3] fun x4 =>
.ret x4) (
.ret (.bool false))
theorem k_proctree_several : TxOk P F.proctree_several 1 t_proctree_several := txOk_of (H := {}) (plans := []) hm Tryd.func85 rfl rfl fun xs => by kernel_rfl
def t_typetree_Session (xs : List PV) : T PV :=
.l (.okc 6 true) [(n xs 0)] fun x0 =>
.l (.cmp .neq .i64) [(c 0 x0), (i 1)] fun x1 =>
.ite x1 (
.l (.cmp .neq .i64) [(c 0 x0), (i 2)] fun x2 =>
.ret x2) (
.ret (.bool false))
theorem k_typetree_Session : TxOk P F.typetree_Session 1 t_typetree_Session := txOk_of (H := {}) (plans := []) hm Tryd.func86 rfl rfl fun xs => by kernel_rfl
def t_slices_IndexFunc_api_Value_api_Value (xs : List PV) : T PV :=
.l .len [(n xs 0)] fun x0 =>
.loop [(i 0)] fun y1 =>
.l (.cmp .lss .i64) [(n y1 0), x0] fun x2 =>
.ite x2 (
.l (.idx 3 true) [(n xs 0), (n y1 0)] fun x3 =>
.callv (n xs 1) [x3] fun x4 =>
.ite x4 (
.ret (n y1 0)) (
.l (.arith .add .i64) [(n y1 0), (i 1)] fun x5 =>
.cont 0 [x5])) (
.ret (i (-1)))
theorem k_slices_IndexFunc_api_Value_api_Value : TxOk P F.slices_IndexFunc_api_Value_api_Value 2 t_slices_IndexFunc_api_Value_api_Value := txOk_of (H := {}) (plans := []) hm Tryd.func87 rfl rfl fun xs => by kernel_rfl
def t_slices_ContainsFunc_api_Type_api_Type (xs : List PV) : T PV :=
.call F.slices_IndexFunc_api_Type_api_Type [(n xs 0), (n xs 1)] fun x0 =>
.l (.cmp .geq .i64) [x0, (i 0)] fun x1 =>
.ret x1
theorem k_slices_ContainsFunc_api_Type_api_Type : TxOk P F.slices_ContainsFunc_api_Type_api_Type 2 t_slices_ContainsFunc_api_Type_api_Type := txOk_of (H := {}) (plans := []) hm Tryd.func88 rfl rfl fun xs => by kernel_rfl
def t_typetree_shallow_1 (xs : List PV) : T PV :=
.l (.okc 6 true) [(n xs 0)] fun x0 =>
.l (.unbox 1 false) [(n xs 1)] fun x1 =>
.l (.arith .sub .i64) [x1, (i 1)] fun x2 =>
.call F.typetree_shallow [x0, x2] fun x3 =>
.l .bnot [x3] fun x4 =>
.ret x4
theorem k_typetree_shallow_1 : TxOk P F.typetree_shallow_1 2 t_typetree_shallow_1 := txOk_of (H := {}) (plans := []) hm Tryd.func89 rfl rfl fun xs => by kernel_rfl
def t_typetree_fields (xs : List PV) : T PV :=
.l (.okc 6 true) [(n xs 0)] fun x0 =>
.call F.typetree_rules [] fun x1 =>
.l (.mget2 false [.i .i64] (.agg [(.bool false), (.bool false), (.bool false), (.bool false), (i 0)])) [x1, (c 0 x0)] fun x2 =>
.l (.tc 0) [x2] fun x3 =>
.l (.tc 1) [x2] fun x4 =>
.l (.okc 5 true) [x3] fun x5 =>
.l (.cmp .lss .i64) [(c 4 x5), (i 0)] fun x6 =>
.ite x6 (
.l .len [(c 4 x0)] fun x7 =>
.l (.mx .i64) [(i 1), x7] fun x8 =>
.l .bnot [x4] fun x9 =>
.ite x9 (
.ret (.bool false)) (
.l .len [(c 5 x0)] fun x10 =>
.l (.cmp .neq .i64) [x10, x8] fun x11 =>
.ite x11 (
.ret (.bool false)) (
.call F.typetree_within [(c 1 x0), (c 0 x5)] fun x12 =>
.l .bnot [x12] fun x13 =>
.ite x13 (
.ret (.bool false)) (
.call F.typetree_within [(c 3 x0), (c 2 x5)] fun x14 =>
.l .bnot [x14] fun x15 =>
.ite x15 (
.ret (.bool false)) (
.call F.lex_Name [(c 2 x0)] fun x16 =>
.l (.bcmp .neq) [(c 1 x5), x16] fun x17 =>
.ite x17 (
.ret (.bool false)) (
.l .bnot [(c 1 x5)] fun x18 =>
.ite x18 (
.l (.scmp .neq) [(c 2 x0), (.str ⟨#[]⟩)] fun x19 =>
.ite x19 (
.ret (.bool false)) (
.l .len [(c 4 x0)] fun x20 =>
.l (.cmp .gtr .i64) [x20, (i 0)] fun x21 =>
.l (.bcmp .eql) [(c 3 x5), x21] fun x22 =>
.ite x22 (
.call F.typetree_distinct [(c 4 x0)] fun x23 =>
.ret x23) (
.ret (.bool false)))) (
.l .len [(c 4 x0)] fun x19 =>
.l (.cmp .gtr .i64) [x19, (i 0)] fun x20 =>
.l (.bcmp .eql) [(c 3 x5), x20] fun x21 =>
.ite x21 (
.call F.typetree_distinct [(c 4 x0)] fun x22 =>
.ret x22) (
.ret (.bool false))))))))) (
.l .bnot [x4] fun x7 =>
.ite x7 (
.ret (.bool false)) (
.l .len [(c 5 x0)] fun x8 =>
.l (.cmp .neq .i64) [x8, (c 4 x5)] fun x9 =>
.ite x9 (
.ret (.bool false)) (
.call F.typetree_within [(c 1 x0), (c 0 x5)] fun x10 =>
.l .bnot [x10] fun x11 =>
.ite x11 (
.ret (.bool false)) (
.call F.typetree_within [(c 3 x0), (c 2 x5)] fun x12 =>
.l .bnot [x12] fun x13 =>
.ite x13 (
.ret (.bool false)) (
.call F.lex_Name [(c 2 x0)] fun x14 =>
.l (.bcmp .neq) [(c 1 x5), x14] fun x15 =>
.ite x15 (
.ret (.bool false)) (
.l .bnot [(c 1 x5)] fun x16 =>
.ite x16 (
.l (.scmp .neq) [(c 2 x0), (.str ⟨#[]⟩)] fun x17 =>
.ite x17 (
.ret (.bool false)) (
.l .len [(c 4 x0)] fun x18 =>
.l (.cmp .gtr .i64) [x18, (i 0)] fun x19 =>
.l (.bcmp .eql) [(c 3 x5), x19] fun x20 =>
.ite x20 (
.call F.typetree_distinct [(c 4 x0)] fun x21 =>
.ret x21) (
.ret (.bool false)))) (
.l .len [(c 4 x0)] fun x17 =>
.l (.cmp .gtr .i64) [x17, (i 0)] fun x18 =>
.l (.bcmp .eql) [(c 3 x5), x18] fun x19 =>
.ite x19 (
.call F.typetree_distinct [(c 4 x0)] fun x20 =>
.ret x20) (
.ret (.bool false)))))))))
theorem k_typetree_fields : TxOk P F.typetree_fields 1 t_typetree_fields := txOk_of (H := {}) (plans := []) hm Tryd.func90 rfl rfl fun xs => by kernel_rfl
def t_typetree_find (xs : List PV) : T PV :=
.l (.okc 1 false) [(n xs 1)] fun x0 =>
.call F.slices_Backward_typetree_bound_typetree_bound [(n xs 0)] fun x1 =>
.iter x1 2 [] (fun e2 y2 =>
.l (.okc 2 true) [(n e2 1)] fun x3 =>
.l (.scmp .eql) [(c 0 x3), x0] fun x4 =>
.ite x4 (
.l (.okc 2 true) [x3] fun x5 =>
.fail) (
.cont 0 [])) (fun e2 y2 =>
.l (.okc 2 true) [(n e2 1)] fun x3 =>
.l (.scmp .eql) [(c 0 x3), x0] fun x4 =>
.ite x4 (
.l (.okc 2 true) [x3] fun x5 =>
.ret (.tup [x5, (.bool true)])) (
.fail)) fun y2 =>
.ret (.tup [(.agg [(.str ⟨#[]⟩), (.bool false)]), (.bool false)])
theorem k_typetree_find : TxOk P F.typetree_find 2 t_typetree_find := txOk_of (H := {}) (plans := []) hm Tryd.func91 rfl rfl fun xs => by kernel_rfl
def t_slices_Clone_typetree_bound_typetree_bound (xs : List PV) : T PV :=
.nilq (n xs 0) (
.ret (.sl [])) (
.l (.lst 2 true) [] fun x0 =>
.l (.app 2 true 24) [x0, (n xs 0)] fun x1 =>
.ret x1)
theorem k_slices_Clone_typetree_bound_typetree_bound : TxOk P F.slices_Clone_typetree_bound_typetree_bound 1 t_slices_Clone_typetree_bound_typetree_bound := txOk_of (H := { wr := [0, 1, 2, 3, 4, 5, 6, 7, 8, 9, 10, 11, 12, 13, 14, 15, 16, 17, 18, 19, 20, 21, 22, 23, 24, 25, 26, 27, 28, 29, 30, 31, 32, 33, 34, 35, 36, 37, 38, 39], ro := [], nl := [], fz := [], da := [], sigs := [] }) (plans := []) hm Tryd.func92 rfl rfl fun xs => by kernel_rfl
def u_slices_Clone_typetree_bound_typetree_bound (xs : List PV) : T PV :=
.nilq (n xs 0) (
.ret (.tup [(.sl [])])) (
.l (.lst 2 true) [] fun x0 =>
.l (.app 2 true 24) [x0, (n xs 0)] fun x1 =>
.ret (.tup [x1]))
theorem m_slices_Clone_typetree_bound_typetree_bound : TxOkS P F.slices_Clone_typetree_bound_typetree_bound sg_slices_Clone_typetree_bound_typetree_bound u_slices_Clone_typetree_bound_typetree_bound := txOkS_of (H := { wr := [0, 1, 2, 3, 4, 5, 6, 7, 8, 9, 10, 11, 12, 13, 14, 15, 16, 17, 18, 19, 20, 21, 22, 23, 24, 25, 26, 27, 28, 29, 30, 31, 32, 33, 34, 35, 36, 37, 38, 39], ro := [], nl := [], fz := [], da := [], sigs := [] }) (plans := []) hm Tryd.func92 rfl fun xs => by kernel_rfl
def t_proctree_kidsOf_1 (xs : List PV) : T PV :=
.l (.okc 12 true) [(n xs 0)] fun x0 =>
.l .len [(c 11 x0)] fun x1 =>
.l (.unbox 1 false) [(n xs 1)] fun x2 =>
.l (.cmp .eql .i64) [x1, x2] fun x3 =>
.ret x3
theorem k_proctree_kidsOf_1 : TxOk P F.proctree_kidsOf_1 2 t_proctree_kidsOf_1 := txOk_of (H := {}) (plans := []) hm Tryd.func93 rfl rfl fun xs => by kernel_rfl
def t_proctree_several_1 (xs : List PV) : T PV :=
.l (.okc 12 true) [(n xs 0)] fun x0 =>
.l (.cmp .eql .i64) [(c 0 x0), (i 7)] fun x1 =>
.ret x1
theorem k_proctree_several_1 : TxOk P F.proctree_several_1 1 t_proctree_several_1 := txOk_of (H := {}) (plans := []) hm Tryd.func94 rfl rfl fun xs => by kernel_rfl
def t_slices_IndexFunc_api_Type_api_Type (xs : List PV) : T PV :=
.l .len [(n xs 0)] fun x0 =>
.loop [(i 0)] fun y1 =>
.l (.cmp .lss .i64) [(n y1 0), x0] fun x2 =>
.ite x2 (
.l (.idx 6 true) [(n xs 0), (n y1 0)] fun x3 =>
.callv (n xs 1) [x3] fun x4 =>
.ite x4 (
.ret (n y1 0)) (
.l (.arith .add .i64) [(n y1 0), (i 1)] fun x5 =>
.cont 0 [x5])) (
.ret (i (-1)))
theorem k_slices_IndexFunc_api_Type_api_Type : TxOk P F.slices_IndexFunc_api_Type_api_Type 2 t_slices_IndexFunc_api_Type_api_Type := txOk_of (H := {}) (plans := []) hm Tryd.func95 rfl rfl fun xs => by kernel_rfl
def t_typetree_rules (xs : List PV) : T PV :=
.l (.mset false [.i .i64]) [(.mp [] []), (i 1), (.agg [(.bool false), (.bool false), (.bool false), (.bool false), (i 0)])] fun x0 =>
.l (.mset false [.i .i64]) [x0, (i 2), (.agg [(.bool false), (.bool false), (.bool false), (.bool false), (i 0)])] fun x1 =>
.l (.mset false [.i .i64]) [x1, (i 3), (.agg [(.bool false), (.bool false), (.bool false), (.bool false), (i 0)])] fun x2 =>
.l (.mset false [.i .i64]) [x2, (i 4), (.agg [(.bool true), (.bool false), (.bool false), (.bool false), (i 2)])] fun x3 =>
.l (.mset false [.i .i64]) [x3, (i 5), (.agg [(.bool true), (.bool false), (.bool false), (.bool false), (i 2)])] fun x4 =>
.l (.mset false [.i .i64]) [x4, (i 6), (.agg [(.bool true), (.bool false), (.bool false), (.bool true), (i (-1))])] fun x5 =>
.l (.mset false [.i .i64]) [x5, (i 7), (.agg [(.bool true), (.bool false), (.bool false), (.bool true), (i (-1))])] fun x6 =>
.l (.mset false [.i .i64]) [x6, (i 8), (.agg [(.bool false), (.bool true), (.bool false), (.bool false), (i 1)])] fun x7 =>
.l (.mset false [.i .i64]) [x7, (i 9), (.agg [(.bool false), (.bool true), (.bool true), (.bool false), (i 0)])] fun x8 =>
.ret x8
theorem k_typetree_rules : TxOk P F.typetree_rules 0 t_typetree_rules := txOk_of (H := {}) (plans := []) hm Tryd.func96 rfl rfl fun xs => by kernel_rfl
def t_typetree_within (xs : List PV) : T PV :=
.l (.cmp .eql .i64) [(n xs 0), (i 0)] fun x0 =>
.ite x0 (
.ret (.bool true)) (
.ite (n xs 1) (
.l (.cmp .gtr .i64) [(n xs 0), (i 0)] fun x1 =>
.ite x1 (
.l (.cmp .leq .i64) [(n xs 0), (i 1000000)] fun x2 =>
.ret x2) (
.ret (.bool false))) (
.ret (.bool false)))
theorem k_typetree_within : TxOk P F.typetree_within 2 t_typetree_within := txOk_of (H := {}) (plans := []) hm Tryd.func97 rfl rfl fun xs => by kernel_rfl
def t_typetree_distinct (xs : List PV) : T PV :=
.l .len [(n xs 0)] fun x0 =>
.loop [(i 0), (.mp [] [])] fun y1 =>
.l (.cmp .lss .i64) [(n y1 0), x0] fun x2 =>
.ite x2 (
.l (.idx 1 false) [(n xs 0), (n y1 0)] fun x3 =>
.call F.lex_Name [x3] fun x4 =>
.l .bnot [x4] fun x5 =>
.ite x5 (
.ret (.bool false)) (
.l (.mget false [.s] (.bool false)) [(n y1 1), x3] fun x6 =>
.ite x6 (
.ret (.bool false)) (
.l (.mset false [.s]) [(n y1 1), x3, (.bool true)] fun x7 =>
.l (.arith .add .i64) [(n y1 0), (i 1)] fun x8 =>
.cont 0 [x8, x7]))) (
.ret (.bool true))
theorem k_typetree_distinct : TxOk P F.typetree_distinct 1 t_typetree_distinct := txOk_of (H := {}) (plans := []) hm Tryd.func98 rfl rfl fun xs => by kernel_rfl
def t_slices_Backward_typetree_bound_typetree_bound (xs : List PV) : T PV :=
.l (.okc 1 false) [(n xs 0)] fun x0 =>
.ret (.fn F.slices_Backward_typetree_bound_typetree_bound_1 [] [(.box x0)])
theorem k_slices_Backward_typetree_bound_typetree_bound : TxOk P F.slices_Backward_typetree_bound_typetree_bound 1 t_slices_Backward_typetree_bound_typetree_bound := txOk_of (H := {}) (plans := []) hm Tryd.func99 rfl rfl fun xs => by kernel_rfl
def t_slices_Backward_typetree_bound_typetree_bound_1 (xs : List PV) : T PV :=
.l (.unbox 1 false) [(n xs 1)] fun x0 =>
.l .len [x0] fun x1 =>
.l (.arith .sub .i64) [x1, (i 1)] fun x2 =>
.loop [x2] fun y3 =>
.l (.cmp .geq .i64) [(n y3 0), (i 0)] fun x4 =>
.ite x4 (
.l (.unbox 1 false) [(n xs 1)] fun x5 =>
.l (.idx 2 true) [x5, (n y3 0)] fun x6 =>
.callv (n xs 0) [(n y3 0), x6] fun x7 =>
.l .bnot [x7] fun x8 =>
.ite x8 (
.ret (.tup [])) (
.l (.arith .sub .i64) [(n y3 0), (i 1)] fun x9 =>
.cont 0 [x9])) (
.ret (.tup []))
theorem k_slices_Backward_typetree_bound_typetree_bound_1 : TxOk P F.slices_Backward_typetree_bound_typetree_bound_1 2 t_slices_Backward_typetree_bound_typetree_bound_1 := txOk_of (H := {}) (plans := []) hm Tryd.func100 rfl rfl fun xs => by kernel_rfl
def v_slices_Backward_typetree_bound_typetree_bound_1 (xs : List PV) : T PV :=
.l (.unbox 1 false) [(n xs 1)] fun x0 =>
.l .len [x0] fun x1 =>
.l (.arith .sub .i64) [x1, (i 1)] fun x2 =>
.loop [x2, (n xs 2)] fun y3 =>
.l (.cmp .geq .i64) [(n y3 0), (i 0)] fun x4 =>
.ite x4 (
.l (.unbox 1 false) [(n xs 1)] fun x5 =>
.l (.idx 2 true) [x5, (n y3 0)] fun x6 =>
.yld [(n y3 0), x6] (n y3 1) fun x7 s7 =>
.l .bnot [x7] fun x8 =>
.ite x8 (
.ret (.tup [(.tup []), s7])) (
.l (.arith .sub .i64) [(n y3 0), (i 1)] fun x9 =>
.cont 0 [x9, s7])) (
.ret (.tup [(.tup []), (n y3 1)]))
theorem x_slices_Backward_typetree_bound_typetree_bound_1 (X : Xt) (hX : XtC P X) : @TxOkX inferInstance { l := gl.l, x := X } P F.slices_Backward_typetree_bound_typetree_bound_1 2 [0] v_slices_Backward_typetree_bound_typetree_bound_1 := @txOkX_of inferInstance { l := gl.l, x := X } P (@XC.mk P inferInstance { l := gl.l, x := X } hX) {} [] _ _ _ _ _ hm Tryd.func100 rfl rfl fun xs => by kernel_rfl
def tb : List (Nat × Tx) := [(F.law03_awake, ⟨0, t_law03_awake⟩), (F.ref03_Few, ⟨2, t_ref03_Few⟩), (F.ref03_Texts, ⟨2, t_ref03_Texts⟩), (F.proctree_Free, ⟨1, t_proctree_Free⟩), (F.ref03_Copy, ⟨1, t_ref03_Copy⟩), (F.proctree_Copy, ⟨1, t_proctree_Copy⟩), (F.ref03_Same, ⟨2, t_ref03_Same⟩), (F.proctree_Size, ⟨1, t_proctree_Size⟩), (F.proctree_Depth, ⟨1, t_proctree_Depth⟩), (F.proctree_Total, ⟨1, t_proctree_Total⟩), (F.proctree_Right, ⟨1, t_proctree_Right⟩), (F.proctree_Program, ⟨1, t_proctree_Program⟩), (F.proctree_Same, ⟨2, t_proctree_Same⟩), (F.proctree_Prefix, ⟨1, t_proctree_Prefix⟩), (F.ref03_left, ⟨2, t_ref03_left⟩), (F.ref03_Depth, ⟨1, t_ref03_Depth⟩), (F.slices_Contains_string_string, ⟨2, t_slices_Contains_string_string⟩), (F.slices_Clone_string_string, ⟨1, t_slices_Clone_string_string⟩), (F.ref02_Raise, ⟨2, t_ref02_Raise⟩), (F.slices_Clone_api_Value_api_Value, ⟨1, t_slices_Clone_api_Value_api_Value⟩), (F.typetree_Copy, ⟨1, t_typetree_Copy⟩), (F.ref02_Same, ⟨2, t_ref02_Same⟩), (F.proctree_all, ⟨2, t_proctree_all⟩), (F.proctree_weight, ⟨1, t_proctree_weight⟩), (F.typetree_Size, ⟨1, t_typetree_Size⟩), (F.proctree_shallow, ⟨2, t_proctree_shallow⟩), (F.proctree_few, ⟨2, t_proctree_few⟩), (F.proctree_shape, ⟨1, t_proctree_shape⟩), (F.lex_Name, ⟨1, t_lex_Name⟩), (F.slices_ContainsFunc_api_Param_api_Param, ⟨2, t_slices_ContainsFunc_api_Param_api_Param⟩), (F.proctree_Program_1, ⟨1, t_proctree_Program_1⟩), (F.typetree_Right, ⟨1, t_typetree_Right⟩), (F.slices_Equal_string_string, ⟨2, t_slices_Equal_string_string⟩), (F.slices_Equal_api_Value_api_Value, ⟨2, t_slices_Equal_api_Value_api_Value⟩), (F.typetree_Same, ⟨2, t_typetree_Same⟩), (F.proctree_equal_api_Proc, ⟨3, t_proctree_equal_api_Proc⟩), (F.ref02_Few, ⟨2, t_ref02_Few⟩), (F.slices_Index_string_string, ⟨2, t_slices_Index_string_string⟩), (F.typetree_mapped, ⟨2, t_typetree_mapped⟩), (F.ref02_texts, ⟨2, t_ref02_texts⟩), (F.slices_ContainsFunc_api_Proc_api_Proc, ⟨2, t_slices_ContainsFunc_api_Proc_api_Proc⟩), (F.proctree_all_1, ⟨2, t_proctree_all_1⟩), (F.typetree_nodes, ⟨1, t_typetree_nodes⟩), (F.proctree_shallow_1, ⟨2, t_proctree_shallow_1⟩), (F.proctree_rules, ⟨0, t_proctree_rules⟩), (F.proctree_named, ⟨2, t_proctree_named⟩), (F.proctree_typed, ⟨2, t_proctree_typed⟩), (F.proctree_distinct, ⟨1, t_proctree_distinct⟩), (F.slices_ContainsFunc_api_Value_api_Value, ⟨2, t_slices_ContainsFunc_api_Value_api_Value⟩), (F.proctree_shape_1, ⟨1, t_proctree_shape_1⟩), (F.proctree_value, ⟨1, t_proctree_value⟩), (F.lex_letter, ⟨1, t_lex_letter⟩), (F.lex_span, ⟨3, t_lex_span⟩), (F.lex_Name_1, ⟨1, t_lex_Name_1⟩), (F.lex_digit, ⟨1, t_lex_digit⟩), (F.lex_Keyword, ⟨1, t_lex_Keyword⟩), (F.slices_IndexFunc_api_Param_api_Param, ⟨2, t_slices_IndexFunc_api_Param_api_Param⟩), (F.typetree_shallow, ⟨2, t_typetree_shallow⟩), (F.typetree_few, ⟨2, t_typetree_few⟩), (F.typetree_check, ⟨3, t_typetree_check⟩), (F.slices_EqualFunc_api_Type_api_Type_api_Type_api_Type, ⟨3, t_slices_EqualFunc_api_Type_api_Type_api_Type_api_Type⟩), (F.slices_EqualFunc_api_Proc_api_Proc_api_Proc_api_Proc, ⟨3, t_slices_EqualFunc_api_Proc_api_Proc_api_Proc_api_Proc⟩), (F.ref02_count, ⟨2, t_ref02_count⟩), (F.ref02_Depth, ⟨1, t_ref02_Depth⟩), (F.slices_IndexFunc_api_Proc_api_Proc, ⟨2, t_slices_IndexFunc_api_Proc_api_Proc⟩), (F.typetree_nodes_1, ⟨2, t_typetree_nodes_1⟩), (F.typetree_visit, ⟨2, t_typetree_visit⟩), (F.proctree_kidsOf, ⟨1, t_proctree_kidsOf⟩), (F.proctree_each, ⟨1, t_proctree_each⟩), (F.proctree_several, ⟨1, t_proctree_several⟩), (F.typetree_Session, ⟨1, t_typetree_Session⟩), (F.slices_IndexFunc_api_Value_api_Value, ⟨2, t_slices_IndexFunc_api_Value_api_Value⟩), (F.slices_ContainsFunc_api_Type_api_Type, ⟨2, t_slices_ContainsFunc_api_Type_api_Type⟩), (F.typetree_shallow_1, ⟨2, t_typetree_shallow_1⟩), (F.typetree_fields, ⟨1, t_typetree_fields⟩), (F.typetree_find, ⟨2, t_typetree_find⟩), (F.slices_Clone_typetree_bound_typetree_bound, ⟨1, t_slices_Clone_typetree_bound_typetree_bound⟩), (F.proctree_kidsOf_1, ⟨2, t_proctree_kidsOf_1⟩), (F.proctree_several_1, ⟨1, t_proctree_several_1⟩), (F.slices_IndexFunc_api_Type_api_Type, ⟨2, t_slices_IndexFunc_api_Type_api_Type⟩), (F.typetree_rules, ⟨0, t_typetree_rules⟩), (F.typetree_within, ⟨2, t_typetree_within⟩), (F.typetree_distinct, ⟨1, t_typetree_distinct⟩), (F.slices_Backward_typetree_bound_typetree_bound, ⟨1, t_slices_Backward_typetree_bound_typetree_bound⟩), (F.slices_Backward_typetree_bound_typetree_bound_1, ⟨2, t_slices_Backward_typetree_bound_typetree_bound_1⟩)]
def tbS : List (Nat × TxS) := [(F.proctree_Free_1, ⟨sg_proctree_Free_1, u_proctree_Free_1⟩), (F.proctree_Free_2, ⟨sg_proctree_Free_2, u_proctree_Free_2⟩), (F.slices_Clone_string_string, ⟨sg_slices_Clone_string_string, u_slices_Clone_string_string⟩), (F.ref02_Raise, ⟨sg_ref02_Raise, u_ref02_Raise⟩), (F.slices_Clone_api_Value_api_Value, ⟨sg_slices_Clone_api_Value_api_Value, u_slices_Clone_api_Value_api_Value⟩), (F.proctree_all, ⟨sg_proctree_all_Sz, u_proctree_all_Sz⟩), (F.proctree_all, ⟨sg_proctree_all_Wg, u_proctree_all_Wg⟩), (F.proctree_all, ⟨sg_proctree_all_Fw, u_proctree_all_Fw⟩), (F.proctree_Size_1, ⟨sg_proctree_Size_1, u_proctree_Size_1⟩), (F.slices_ContainsFunc_api_Proc_api_Proc, ⟨sg_slices_ContainsFunc_api_Proc_api_Proc_Sz, u_slices_ContainsFunc_api_Proc_api_Proc_Sz⟩), (F.slices_ContainsFunc_api_Proc_api_Proc, ⟨sg_slices_ContainsFunc_api_Proc_api_Proc_Wg, u_slices_ContainsFunc_api_Proc_api_Proc_Wg⟩), (F.slices_ContainsFunc_api_Proc_api_Proc, ⟨sg_slices_ContainsFunc_api_Proc_api_Proc_Fw, u_slices_ContainsFunc_api_Proc_api_Proc_Fw⟩), (F.proctree_all_1, ⟨sg_proctree_all_1_Sz, u_proctree_all_1_Sz⟩), (F.proctree_all_1, ⟨sg_proctree_all_1_Wg, u_proctree_all_1_Wg⟩), (F.proctree_all_1, ⟨sg_proctree_all_1_Fw, u_proctree_all_1_Fw⟩), (F.proctree_weight_1, ⟨sg_proctree_weight_1, u_proctree_weight_1⟩), (F.proctree_few_1, ⟨sg_proctree_few_1, u_proctree_few_1⟩), (F.slices_IndexFunc_api_Proc_api_Proc, ⟨sg_slices_IndexFunc_api_Proc_api_Proc_Sz, u_slices_IndexFunc_api_Proc_api_Proc_Sz⟩), (F.slices_IndexFunc_api_Proc_api_Proc, ⟨sg_slices_IndexFunc_api_Proc_api_Proc_Wg, u_slices_IndexFunc_api_Proc_api_Proc_Wg⟩), (F.slices_IndexFunc_api_Proc_api_Proc, ⟨sg_slices_IndexFunc_api_Proc_api_Proc_Fw, u_slices_IndexFunc_api_Proc_api_Proc_Fw⟩), (F.slices_Clone_typetree_bound_typetree_bound, ⟨sg_slices_Clone_typetree_bound_typetree_bound, u_slices_Clone_typetree_bound_typetree_bound⟩)]
theorem allOk : AllOk P tb := ⟨k_law03_awake, k_ref03_Few, k_ref03_Texts, k_proctree_Free, k_ref03_Copy, k_proctree_Copy, k_ref03_Same, k_proctree_Size, k_proctree_Depth, k_proctree_Total, k_proctree_Right, k_proctree_Program, k_proctree_Same, k_proctree_Prefix, k_ref03_left, k_ref03_Depth, k_slices_Contains_string_string, k_slices_Clone_string_string, k_ref02_Raise, k_slices_Clone_api_Value_api_Value, k_typetree_Copy, k_ref02_Same, k_proctree_all, k_proctree_weight, k_typetree_Size, k_proctree_shallow, k_proctree_few, k_proctree_shape, k_lex_Name, k_slices_ContainsFunc_api_Param_api_Param, k_proctree_Program_1, k_typetree_Right, k_slices_Equal_string_string, k_slices_Equal_api_Value_api_Value, k_typetree_Same, k_proctree_equal_api_Proc, k_ref02_Few, k_slices_Index_string_string, k_typetree_mapped, k_ref02_texts, k_slices_ContainsFunc_api_Proc_api_Proc, k_proctree_all_1, k_typetree_nodes, k_proctree_shallow_1, k_proctree_rules, k_proctree_named, k_proctree_typed, k_proctree_distinct, k_slices_ContainsFunc_api_Value_api_Value, k_proctree_shape_1, k_proctree_value, k_lex_letter, k_lex_span, k_lex_Name_1, k_lex_digit, k_lex_Keyword, k_slices_IndexFunc_api_Param_api_Param, k_typetree_shallow, k_typetree_few, k_typetree_check, k_slices_EqualFunc_api_Type_api_Type_api_Type_api_Type, k_slices_EqualFunc_api_Proc_api_Proc_api_Proc_api_Proc, k_ref02_count, k_ref02_Depth, k_slices_IndexFunc_api_Proc_api_Proc, k_typetree_nodes_1, k_typetree_visit, k_proctree_kidsOf, k_proctree_each, k_proctree_several, k_typetree_Session, k_slices_IndexFunc_api_Value_api_Value, k_slices_ContainsFunc_api_Type_api_Type, k_typetree_shallow_1, k_typetree_fields, k_typetree_find, k_slices_Clone_typetree_bound_typetree_bound, k_proctree_kidsOf_1, k_proctree_several_1, k_slices_IndexFunc_api_Type_api_Type, k_typetree_rules, k_typetree_within, k_typetree_distinct, k_slices_Backward_typetree_bound_typetree_bound, k_slices_Backward_typetree_bound_typetree_bound_1, trivial⟩
theorem allOkS : AllOkS P tbS := ⟨m_proctree_Free_1, m_proctree_Free_2, m_slices_Clone_string_string, m_ref02_Raise, m_slices_Clone_api_Value_api_Value, m_proctree_all_Sz, m_proctree_all_Wg, m_proctree_all_Fw, m_proctree_Size_1, m_slices_ContainsFunc_api_Proc_api_Proc_Sz, m_slices_ContainsFunc_api_Proc_api_Proc_Wg, m_slices_ContainsFunc_api_Proc_api_Proc_Fw, m_proctree_all_1_Sz, m_proctree_all_1_Wg, m_proctree_all_1_Fw, m_proctree_weight_1, m_proctree_few_1, m_slices_IndexFunc_api_Proc_api_Proc_Sz, m_slices_IndexFunc_api_Proc_api_Proc_Wg, m_slices_IndexFunc_api_Proc_api_Proc_Fw, m_slices_Clone_typetree_bound_typetree_bound, trivial⟩
end Go.Proofs.YtjekkidhbnkiaaaDoor.Tx

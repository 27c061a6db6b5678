/- Texts of functions, printed by a program (wip/dev/Gen.lean). -/
import Derived.Test.YtbfjpjllaibooaaGreatLfD
import Derived.Test.YtbfjpjllaibooaaGreatChecked
import Derived.KernelRfl
set_option linter.all false
namespace Go.Proofs.YtbfjpjllaibooaaGreat.Tx
open Go.Lf Go.Lf.S
set_option maxRecDepth 100000
variable [Mk]
instance gl : Gl := { l := [] }
noncomputable abbrev P : Program := Tryz.prog
instance xc : XC P := xc_none rfl
namespace F
abbrev law27_AuditMatchesReference : Nat := 3
abbrev law27_AuditKeeps : Nat := 4
abbrev law27_awake : Nat := 5
abbrev ref06_Right : Nat := 6
abbrev ref03_Few : Nat := 7
abbrev ref27_Count : Nat := 8
abbrev ref03_Texts : Nat := 9
abbrev audit_Reached : Nat := 10
abbrev ref27_Reached : Nat := 11
abbrev audit_Unused : Nat := 12
abbrev audit_Loops : Nat := 13
abbrev ref27_Loops : Nat := 14
abbrev ref03_SameProgram : Nat := 15
abbrev audit_Prune : Nat := 16
abbrev ref27_Prune : Nat := 17
abbrev audit_Count : Nat := 18
abbrev ref27_Copy : Nat := 19
abbrev law27_spoil : Nat := 20
abbrev ref04_Program : Nat := 21
abbrev ref03_Little : Nat := 22
abbrev ref06_Check : Nat := 23
abbrev ref03_left : Nat := 24
abbrev ref03_Depth : Nat := 25
abbrev audit_closure : Nat := 26
abbrev scope_Calls : Nat := 27
abbrev audit_named : Nat := 28
abbrev audit_Reached_1 : Nat := 29
abbrev ref27_from : Nat := 30
abbrev ref06_Calls : Nat := 31
abbrev audit_Unused_1 : Nat := 32
abbrev audit_Loops_1 : Nat := 33
abbrev ref03_Same : Nat := 34
abbrev ref02_Same : Nat := 35
abbrev proctree_Copy : Nat := 36
abbrev slices_Contains_string_string : Nat := 37
abbrev audit_copied : Nat := 38
abbrev ref03_In : Nat := 39
abbrev audit_node : Nat := 40
abbrev proctree_Prefix : Nat := 41
abbrev audit_Totals_plus : Nat := 42
abbrev ref03_Copy : Nat := 43
abbrev ref04_start : Nat := 44
abbrev ref04_program : Nat := 45
abbrev ref04_finish : Nat := 46
abbrev ref04_Fits : Nat := 47
abbrev ref02_Few : Nat := 48
abbrev ref03_Program : Nat := 49
abbrev ref06_Find : Nat := 50
abbrev ref06_node : Nat := 51
abbrev audit_closure_1 : Nat := 52
abbrev scope_collect : Nat := 53
abbrev scope_Calls_1 : Nat := 54
abbrev ref02_texts : Nat := 55
abbrev slices_Clone_string_string : Nat := 56
abbrev slices_Clone_api_Value_api_Value : Nat := 57
abbrev typetree_Copy : Nat := 58
abbrev slices_Index_string_string : Nat := 59
abbrev slices_Clone_api_Param_api_Param : Nat := 60
abbrev ref02_Raise : Nat := 61
abbrev ref01_Tokens : Nat := 62
abbrev ref04_text : Nat := 63
abbrev ref04_need : Nat := 64
abbrev ref04_name : Nat := 65
abbrev ref04_anyType : Nat := 66
abbrev ref04_process : Nat := 67
abbrev ref04_fail : Nat := 68
abbrev ref04_deep : Nat := 69
abbrev ref03_Total : Nat := 70
abbrev ref02_Depth : Nat := 71
abbrev ref02_count : Nat := 72
abbrev ref03_Right : Nat := 73
abbrev ref03_name : Nat := 74
abbrev ref02_Right : Nat := 75
abbrev scope_collect_1 : Nat := 76
abbrev typetree_mapped : Nat := 77
abbrev ref01_in : Nat := 78
abbrev ref01_longest : Nat := 79
abbrev ref01_kind : Nat := 80
abbrev ref01_Value : Nat := 81
abbrev ref01_Name : Nat := 82
abbrev ref04_payload : Nat := 83
abbrev ref04_session : Nat := 84
abbrev ref04_single : Nat := 85
abbrev ref03_Size : Nat := 86
abbrev ref03_types : Nat := 87
abbrev ref02_Size : Nat := 88
abbrev ref03_nodes : Nat := 89
abbrev ref02_node : Nat := 90
abbrev ref01_Word : Nat := 91
abbrev ref01_Number : Nat := 92
abbrev ref01_Keyword : Nat := 93
abbrev ref04_variable : Nat := 94
abbrev ref04_transmission : Nat := 95
abbrev ref04_labels : Nat := 96
abbrev ref04_after : Nat := 97
abbrev ref03_node : Nat := 98
abbrev ref02_shape : Nat := 99
abbrev ref02_Session : Nat := 100
abbrev ref01_Letters : Nat := 101
abbrev ref01_digits : Nat := 102
abbrev ref04_small : Nat := 103
abbrev ref04_prio : Nat := 104
abbrev ref04_value : Nat := 105
abbrev ref03_value : Nat := 106
abbrev ref03_plain : Nat := 107
abbrev ref02_Labels : Nat := 108
abbrev ref02_prio : Nat := 109
abbrev ref04_number : Nat := 110
abbrev ref02_in : Nat := 111
end F
theorem hm : Tryz.prog.follows .mixedOrders = true := by kernel_rfl
/-- duologue/duologueref04.start, with memory -/
def sg_ref04_start : Sig := { args := [.at (.dat 0)], obs := [], res := .at (.ptr 9000 0), robs := [(9000, .cells false 5 true (.pts [.dat 0, .dat 1, .dat 2, .dat 3, .dat 4]))], nout := 5 }
/-- duologue/duologueref04.program, with memory -/
def sg_ref04_program : Sig := { args := [.at (.ptr 9000 0)], obs := [(9000, .cells false 5 true (.pts [.dat 0, .dat 1, .dat 2, .dat 3, .dat 4]))], res := .at (.dat 0), robs := [(9000, .cells false 5 true (.pts [.dat 1, .dat 2, .dat 3, .dat 4, .dat 5]))], nout := 6 }
/-- duologue/duologueref04.finish, with memory -/
def sg_ref04_finish : Sig := { args := [.at (.ptr 9000 0), .at (.dat 0)], obs := [(9000, .cells false 5 true (.pts [.dat 1, .dat 2, .dat 3, .dat 4, .dat 5]))], res := .at (.dat 0), robs := [(9000, .cells false 5 true (.pts [.dat 1, .dat 2, .dat 3, .dat 4, .dat 5]))], nout := 6 }
/-- duologue/audit.closure$1, with memory -/
def sg_audit_closure_1 : Sig := { args := [.at (.dat 0), .at (.ptr 9000 0), .at (.ptr 9011 0), .at (.ptr 9001 0)], obs := [(9000, .cells false 1 false (.pts [.mref 9005])), (9011, .cells false 1 false (.pts [.clo 52 [] [(9000, 0), (9011, 0), (9001, 0)]])), (9001, .cells false 1 false (.pts [.mref 9006])), (9005, .map false 1), (9006, .map false 2)], res := .at (.dat 0), robs := [(9000, .cells false 1 false (.pts [.mref 9005])), (9011, .cells false 1 false (.pts [.clo 52 [] [(9000, 0), (9011, 0), (9001, 0)]])), (9001, .cells false 1 false (.pts [.mref 9006])), (9005, .map false 1), (9006, .map false 2)], nout := 3 }
/-- slices.Clone[[]string,string], with memory -/
def sg_slices_Clone_string_string : Sig := { args := [.at (.dat 0)], obs := [], res := .at (.own 9000), robs := [(9000, .arr false 9 1 false 0)], nout := 1 }
/-- slices.Clone[[]duologue/api.Value,duologue/api.Value], with memory -/
def sg_slices_Clone_api_Value_api_Value : Sig := { args := [.at (.dat 0)], obs := [], res := .at (.own 9000), robs := [(9000, .arr false 76 3 true 0)], nout := 1 }
/-- slices.Clone[[]duologue/api.Param,duologue/api.Param], with memory -/
def sg_slices_Clone_api_Param_api_Param : Sig := { args := [.at (.dat 0)], obs := [], res := .at (.own 9000), robs := [(9000, .arr false 52 7 true 0)], nout := 1 }
/-- duologue/duologueref02.Raise, with memory -/
def sg_ref02_Raise : Sig := { args := [.at (.dat 0), .at (.dat 1)], obs := [], res := .agg [.dat 0, .dat 1, .dat 2, .dat 3, .dat 4, .own 9000], robs := [(9000, .arr false 27 6 true 5)], nout := 6 }
/-- duologue/duologueref04.need, with memory -/
def sg_ref04_need : Sig := { args := [.at (.ptr 9000 0), .at (.dat 0)], obs := [(9000, .cells false 5 true (.pts [.dat 1, .dat 2, .dat 3, .dat 4, .dat 5]))], res := .at (.dat 0), robs := [(9000, .cells false 5 true (.pts [.dat 1, .dat 2, .dat 3, .dat 4, .dat 5]))], nout := 6 }
/-- duologue/duologueref04.name, with memory -/
def sg_ref04_name : Sig := { args := [.at (.ptr 9000 0)], obs := [(9000, .cells false 5 true (.pts [.dat 0, .dat 1, .dat 2, .dat 3, .dat 4]))], res := .at (.dat 0), robs := [(9000, .cells false 5 true (.pts [.dat 1, .dat 2, .dat 3, .dat 4, .dat 5]))], nout := 6 }
/-- duologue/duologueref04.anyType, with memory -/
def sg_ref04_anyType : Sig := { args := [.at (.ptr 9000 0)], obs := [(9000, .cells false 5 true (.pts [.dat 0, .dat 1, .dat 2, .dat 3, .dat 4]))], res := .at (.dat 0), robs := [(9000, .cells false 5 true (.pts [.dat 1, .dat 2, .dat 3, .dat 4, .dat 5]))], nout := 6 }
/-- duologue/duologueref04.process, with memory -/
def sg_ref04_process : Sig := { args := [.at (.ptr 9000 0)], obs := [(9000, .cells false 5 true (.pts [.dat 0, .dat 1, .dat 2, .dat 3, .dat 4]))], res := .at (.dat 0), robs := [(9000, .cells false 5 true (.pts [.dat 1, .dat 2, .dat 3, .dat 4, .dat 5]))], nout := 6 }
/-- duologue/duologueref04.fail, with memory -/
def sg_ref04_fail : Sig := { args := [.at (.ptr 9000 0), .at (.dat 0)], obs := [(9000, .cells false 5 true (.pts [.dat 1, .dat 2, .dat 3, .dat 4, .dat 5]))], res := .at (.dat 0), robs := [(9000, .cells false 5 true (.pts [.dat 1, .dat 2, .dat 3, .dat 4, .dat 5]))], nout := 6 }
/-- duologue/scope.collect$1, with memory -/
def sg_scope_collect_1 : Sig := { args := [.at (.dat 0), .at (.ptr 9000 0), .at (.ptr 9012 0), .at (.ptr 9011 0)], obs := [(9000, .cells false 1 false (.pts [.own 9001])), (9012, .cells false 1 false (.pts [.dat 1])), (9011, .cells false 1 false (.pts [.clo 76 [] [(9000, 0), (9012, 0), (9011, 0)]])), (9001, .arr true 9 1 false 2)], res := .at (.dat 0), robs := [(9000, .cells false 1 false (.pts [.own 9002])), (9012, .cells false 1 false (.pts [.dat 1])), (9011, .cells false 1 false (.pts [.clo 76 [] [(9000, 0), (9012, 0), (9011, 0)]])), (9002, .arr true 9 1 false 2)], nout := 3 }
/-- duologue/duologueref04.payload, with memory -/
def sg_ref04_payload : Sig := { args := [.at (.ptr 9000 0)], obs := [(9000, .cells false 5 true (.pts [.dat 0, .dat 1, .dat 2, .dat 3, .dat 4]))], res := .at (.dat 0), robs := [(9000, .cells false 5 true (.pts [.dat 1, .dat 2, .dat 3, .dat 4, .dat 5]))], nout := 6 }
/-- duologue/duologueref04.session, with memory -/
def sg_ref04_session : Sig := { args := [.at (.ptr 9000 0)], obs := [(9000, .cells false 5 true (.pts [.dat 0, .dat 1, .dat 2, .dat 3, .dat 4]))], res := .at (.dat 0), robs := [(9000, .cells false 5 true (.pts [.dat 1, .dat 2, .dat 3, .dat 4, .dat 5]))], nout := 6 }
/-- duologue/duologueref04.single, with memory -/
def sg_ref04_single : Sig := { args := [.at (.ptr 9000 0)], obs := [(9000, .cells false 5 true (.pts [.dat 0, .dat 1, .dat 2, .dat 3, .dat 4]))], res := .at (.dat 0), robs := [(9000, .cells false 5 true (.pts [.dat 1, .dat 2, .dat 3, .dat 4, .dat 5]))], nout := 6 }
/-- duologue/duologueref04.variable, with memory -/
def sg_ref04_variable : Sig := { args := [.at (.ptr 9000 0)], obs := [(9000, .cells false 5 true (.pts [.dat 0, .dat 1, .dat 2, .dat 3, .dat 4]))], res := .at (.dat 0), robs := [(9000, .cells false 5 true (.pts [.dat 1, .dat 2, .dat 3, .dat 4, .dat 5]))], nout := 6 }
/-- duologue/duologueref04.transmission, with memory -/
def sg_ref04_transmission : Sig := { args := [.at (.ptr 9000 0), .at (.dat 0)], obs := [(9000, .cells false 5 true (.pts [.dat 1, .dat 2, .dat 3, .dat 4, .dat 5]))], res := .at (.dat 0), robs := [(9000, .cells false 5 true (.pts [.dat 1, .dat 2, .dat 3, .dat 4, .dat 5]))], nout := 6 }
/-- duologue/duologueref04.labels, with memory -/
def sg_ref04_labels : Sig := { args := [.at (.ptr 9000 0), .at (.dat 0)], obs := [(9000, .cells false 5 true (.pts [.dat 1, .dat 2, .dat 3, .dat 4, .dat 5]))], res := .at (.dat 0), robs := [(9000, .cells false 5 true (.pts [.dat 1, .dat 2, .dat 3, .dat 4, .dat 5]))], nout := 6 }
/-- duologue/duologueref04.after, with memory -/
def sg_ref04_after : Sig := { args := [.at (.ptr 9000 0), .at (.dat 0)], obs := [(9000, .cells false 5 true (.pts [.dat 1, .dat 2, .dat 3, .dat 4, .dat 5]))], res := .at (.dat 0), robs := [(9000, .cells false 5 true (.pts [.dat 1, .dat 2, .dat 3, .dat 4, .dat 5]))], nout := 6 }
/-- duologue/duologueref04.small, with memory -/
def sg_ref04_small : Sig := { args := [.at (.ptr 9000 0)], obs := [(9000, .cells false 5 true (.pts [.dat 0, .dat 1, .dat 2, .dat 3, .dat 4]))], res := .at (.dat 0), robs := [(9000, .cells false 5 true (.pts [.dat 1, .dat 2, .dat 3, .dat 4, .dat 5]))], nout := 6 }
/-- duologue/duologueref04.prio, with memory -/
def sg_ref04_prio : Sig := { args := [.at (.ptr 9000 0)], obs := [(9000, .cells false 5 true (.pts [.dat 0, .dat 1, .dat 2, .dat 3, .dat 4]))], res := .at (.dat 0), robs := [(9000, .cells false 5 true (.pts [.dat 1, .dat 2, .dat 3, .dat 4, .dat 5]))], nout := 6 }
/-- duologue/duologueref04.value, with memory -/
def sg_ref04_value : Sig := { args := [.at (.ptr 9000 0)], obs := [(9000, .cells false 5 true (.pts [.dat 0, .dat 1, .dat 2, .dat 3, .dat 4]))], res := .at (.dat 0), robs := [(9000, .cells false 5 true (.pts [.dat 1, .dat 2, .dat 3, .dat 4, .dat 5]))], nout := 6 }
def t_law27_awake (xs : List PV) : T PV :=
.call F.ref04_Program [(.str ⟨#[100, 101, 102, 32, 88, 40, 97, 58, 32, 101, 110, 100, 41, 32, 61, 32, 97, 33, 60, 49, 62, 46, 88, 60, 97, 62, 59, 32, 100, 101, 102, 32, 89, 40, 41, 32, 61, 32, 115, 116, 111, 112, 59, 32, 109, 97, 105, 110, 32, 61, 32, 89, 60, 62, 59]⟩)] fun x0 =>
.l (.tc 0) [x0] fun x1 =>
.l (.tc 1) [x0] fun x2 =>
.l (.tc 2) [x0] fun x3 =>
.l (.okc 13 true) [x1] fun x4 =>
.call F.audit_Prune [x4] fun x5 =>
.l (.okc 13 true) [x5] fun x6 =>
.call F.audit_Reached [x4] fun x7 =>
.l (.lst 1 false) [(.str ⟨#[89]⟩)] fun x8 =>
.call F.ref03_Texts [x7, x8] fun x9 =>
.ite x9 (
.call F.audit_Unused [x4] fun x10 =>
.l (.lst 1 false) [(.str ⟨#[88]⟩)] fun x11 =>
.call F.ref03_Texts [x10, x11] fun x12 =>
.ite x12 (
.call F.audit_Loops [x4] fun x13 =>
.l (.lst 1 false) [(.str ⟨#[88]⟩)] fun x14 =>
.call F.ref03_Texts [x13, x14] fun x15 =>
.ite x15 (
.l .len [(c 0 x6)] fun x16 =>
.l (.cmp .eql .i64) [x16, (i 1)] fun x17 =>
.ite x17 (
.l (.cmp .eql .i64) [(c 1 x6), (i 8)] fun x18 =>
.ite x18 (
.l (.idx 14 true) [(c 0 x4), (i 0)] fun x19 =>
.call F.audit_Count [(sb 2 12 x19)] fun x20 =>
.l (.acmp .eql [.i .i64, .i .i64, .i .i64, .i .i64]) [x20, (.agg [(i 1), (i 0), (i 1), (i 1)])] fun x21 =>
.ret x21) (
.ret (.bool false))) (
.ret (.bool false))) (
.ret (.bool false))) (
.ret (.bool false))) (
.ret (.bool false))
theorem k_law27_awake : TxOk P F.law27_awake 0 t_law27_awake := txOk_of (H := {}) (plans := []) hm Tryz.func5 rfl rfl fun xs => by kernel_rfl
def t_ref06_Right (xs : List PV) : T PV :=
.l (.okc 13 true) [(n xs 0)] fun x0 =>
.call F.ref03_Little [x0, (n xs 1)] fun x1 =>
.l .bnot [x1] fun x2 =>
.ite x2 (
.ret (.bool false)) (
.call F.ref06_Check [x0] fun x3 =>
.l (.tc 0) [x3] fun x4 =>
.l (.tc 1) [x3] fun x5 =>
.l (.cmp .eql .i64) [x4, (i 0)] fun x6 =>
.ret x6)
theorem k_ref06_Right : TxOk P F.ref06_Right 2 t_ref06_Right := txOk_of (H := {}) (plans := []) hm Tryz.func6 rfl rfl fun xs => by kernel_rfl
def t_ref03_Few (xs : List PV) : T PV :=
.l (.okc 12 true) [(n xs 0)] fun x0 =>
.call F.ref03_left [x0, (n xs 1)] fun x1 =>
.l (.cmp .geq .i64) [x1, (i 0)] fun x2 =>
.ite x2 (
.call F.ref03_Depth [x0] fun x3 =>
.l (.cmp .leq .i64) [x3, (i 150)] fun x4 =>
.ret x4) (
.ret (.bool false))
theorem k_ref03_Few : TxOk P F.ref03_Few 2 t_ref03_Few := txOk_of (H := {}) (plans := []) hm Tryz.func7 rfl rfl fun xs => by kernel_rfl
def t_ref03_Texts (xs : List PV) : T PV :=
.l .len [(n xs 0)] fun x0 =>
.l .len [(n xs 1)] fun x1 =>
.l (.cmp .neq .i64) [x0, x1] fun x2 =>
.ite x2 (
.ret (.bool false)) (
.loop [(i 0)] fun y3 =>
.l .len [(n xs 0)] fun x4 =>
.l (.cmp .lss .i64) [(n y3 0), x4] fun x5 =>
.ite x5 (
.l (.idx 1 false) [(n xs 0), (n y3 0)] fun x6 =>
.l (.idx 1 false) [(n xs 1), (n y3 0)] fun x7 =>
.l (.scmp .neq) [x6, x7] fun x8 =>
.ite x8 (
.ret (.bool false)) (
.l (.arith .add .i64) [(n y3 0), (i 1)] fun x9 =>
.cont 0 [x9])) (
.ret (.bool true)))
theorem k_ref03_Texts : TxOk P F.ref03_Texts 2 t_ref03_Texts := txOk_of (H := {}) (plans := []) hm Tryz.func9 rfl rfl fun xs => by kernel_rfl
def t_audit_Reached (xs : List PV) : T PV :=
.l (.okc 13 true) [(n xs 0)] fun x0 =>
.call F.scope_Calls [(sb 1 12 x0)] fun x1 =>
.call F.audit_closure [x0, x1] fun x2 =>
.l (.okc 1 false) [x2] fun x3 =>
.call F.audit_named [x0, (.fn F.audit_Reached_1 [] [(.box x3)])] fun x4 =>
.ret x4
theorem k_audit_Reached : TxOk P F.audit_Reached 1 t_audit_Reached := txOk_of (H := {}) (plans := []) hm Tryz.func10 rfl rfl fun xs => by kernel_rfl
def t_audit_Unused (xs : List PV) : T PV :=
.l (.okc 13 true) [(n xs 0)] fun x0 =>
.call F.scope_Calls [(sb 1 12 x0)] fun x1 =>
.call F.audit_closure [x0, x1] fun x2 =>
.l (.okc 1 false) [x2] fun x3 =>
.call F.audit_named [x0, (.fn F.audit_Unused_1 [] [(.box x3)])] fun x4 =>
.ret x4
theorem k_audit_Unused : TxOk P F.audit_Unused 1 t_audit_Unused := txOk_of (H := {}) (plans := []) hm Tryz.func12 rfl rfl fun xs => by kernel_rfl
def t_audit_Loops (xs : List PV) : T PV :=
.l (.okc 13 true) [(n xs 0)] fun x0 =>
.call F.audit_named [x0, (.fn F.audit_Loops_1 [] [(.box x0)])] fun x1 =>
.ret x1
theorem k_audit_Loops : TxOk P F.audit_Loops 1 t_audit_Loops := txOk_of (H := {}) (plans := []) hm Tryz.func13 rfl rfl fun xs => by kernel_rfl
def t_ref03_SameProgram (xs : List PV) : T PV :=
.l (.okc 13 true) [(n xs 0)] fun x0 =>
.l (.okc 13 true) [(n xs 1)] fun x1 =>
.l .len [(c 0 x0)] fun x2 =>
.l .len [(c 0 x1)] fun x3 =>
.l (.cmp .neq .i64) [x2, x3] fun x4 =>
.ite x4 (
.ret (.bool false)) (
.call F.ref03_Same [(sb 1 12 x0), (sb 1 12 x1)] fun x5 =>
.l .bnot [x5] fun x6 =>
.ite x6 (
.ret (.bool false)) (
.loop [(i 0)] fun y7 =>
.l .len [(c 0 x0)] fun x8 =>
.l (.cmp .lss .i64) [(n y7 0), x8] fun x9 =>
.ite x9 (
.l (.idx 14 true) [(c 0 x0), (n y7 0)] fun x10 =>
.l (.okc 14 true) [x10] fun x11 =>
.l (.idx 14 true) [(c 0 x1), (n y7 0)] fun x12 =>
.l (.okc 14 true) [x12] fun x13 =>
.l (.scmp .neq) [(c 0 x11), (c 0 x13)] fun x14 =>
.ite x14 (
.ret (.bool false)) (
.l .len [(c 1 x11)] fun x15 =>
.l .len [(c 1 x13)] fun x16 =>
.l (.cmp .neq .i64) [x15, x16] fun x17 =>
.ite x17 (
.ret (.bool false)) (
.call F.ref03_Same [(sb 2 12 x11), (sb 2 12 x13)] fun x18 =>
.l .bnot [x18] fun x19 =>
.ite x19 (
.ret (.bool false)) (
.loop [(i 0)] fun y20 =>
.l .len [(c 1 x11)] fun x21 =>
.l (.cmp .lss .i64) [(n y20 0), x21] fun x22 =>
.ite x22 (
.l (.idx 7 true) [(c 1 x11), (n y20 0)] fun x23 =>
.l (.idx 7 true) [(c 1 x13), (n y20 0)] fun x24 =>
.l (.scmp .neq) [(c 0 x23), (c 0 x24)] fun x25 =>
.ite x25 (
.ret (.bool false)) (
.l (.idx 7 true) [(c 1 x11), (n y20 0)] fun x26 =>
.l (.idx 7 true) [(c 1 x13), (n y20 0)] fun x27 =>
.call F.ref02_Same [(sb 1 6 x26), (sb 1 6 x27)] fun x28 =>
.l .bnot [x28] fun x29 =>
.ite x29 (
.ret (.bool false)) (
.l (.arith .add .i64) [(n y20 0), (i 1)] fun x30 =>
.cont 1 [x30]))) (
.l (.arith .add .i64) [(n y7 0), (i 1)] fun x23 =>
.cont 0 [x23]))))) (
.ret (.bool true))))
theorem k_ref03_SameProgram : TxOk P F.ref03_SameProgram 2 t_ref03_SameProgram := txOk_of (H := {}) (plans := []) hm Tryz.func15 rfl rfl fun xs => by kernel_rfl
def t_audit_Prune (xs : List PV) : T PV :=
.l (.okc 13 true) [(n xs 0)] fun x0 =>
.call F.proctree_Copy [(sb 1 12 x0)] fun x1 =>
.l (.okcs [(12, true)]) [x1] fun x2 =>
.call F.audit_Reached [x0] fun x3 =>
.l .len [(c 0 x0)] fun x4 =>
.loop [(i 0), (.sl []), (c 0 x1), (c 1 x1), (c 2 x1), (c 3 x1), (c 4 x1), (c 5 x1), (c 6 x1), (c 7 x1), (c 8 x1), (c 9 x1), (c 10 x1), (c 11 x1)] fun y5 =>
.l (.cmp .lss .i64) [(n y5 0), x4] fun x6 =>
.ite x6 (
.l (.idx 14 true) [(c 0 x0), (n y5 0)] fun x7 =>
.l (.okc 14 true) [x7] fun x8 =>
.call F.slices_Contains_string_string [x3, (c 0 x8)] fun x9 =>
.ite x9 (
.call F.audit_copied [x8] fun x10 =>
.l (.lst 14 true) [x10] fun x11 =>
.l (.app 14 true 240) [(n y5 1), x11] fun x12 =>
.l (.arith .add .i64) [(n y5 0), (i 1)] fun x13 =>
.cont 0 [x13, x12, (n y5 2), (n y5 3), (n y5 4), (n y5 5), (n y5 6), (n y5 7), (n y5 8), (n y5 9), (n y5 10), (n y5 11), (n y5 12), (n y5 13)]) (
.l (.arith .add .i64) [(n y5 0), (i 1)] fun x10 =>
.cont 0 [x10, (n y5 1), (n y5 2), (n y5 3), (n y5 4), (n y5 5), (n y5 6), (n y5 7), (n y5 8), (n y5 9), (n y5 10), (n y5 11), (n y5 12), (n y5 13)])) (
.ret (.agg [(n y5 1), (n y5 2), (n y5 3), (n y5 4), (n y5 5), (n y5 6), (n y5 7), (n y5 8), (n y5 9), (n y5 10), (n y5 11), (n y5 12), (n y5 13)]))
theorem k_audit_Prune : TxOk P F.audit_Prune 1 t_audit_Prune := txOk_of (H := {}) (plans := []) hm Tryz.func16 rfl rfl fun xs => by kernel_rfl
def t_audit_Count (xs : List PV) : T PV :=
.l (.okc 12 true) [(n xs 0)] fun x0 =>
.call F.audit_node [x0] fun x1 =>
.l (.okc 4 true) [x1] fun x2 =>
.l .len [(c 11 x0)] fun x3 =>
.loop [(i 0), x2] fun y4 =>
.l (.cmp .lss .i64) [(n y4 0), x3] fun x5 =>
.ite x5 (
.l (.idx 12 true) [(c 11 x0), (n y4 0)] fun x6 =>
.l (.okc 12 true) [x6] fun x7 =>
.call F.audit_Count [x7] fun x8 =>
.l (.okc 4 true) [x8] fun x9 =>
.call F.proctree_Prefix [x0] fun x10 =>
.ite x10 (
.l (.okc 1 false) [(i 0)] fun x11 =>
.call F.audit_Totals_plus [(n y4 1), (.agg [(c 0 x9), (c 1 x9), (c 2 x9), x11])] fun x12 =>
.l (.okc 4 true) [x12] fun x13 =>
.l (.arith .add .i64) [(n y4 0), (i 1)] fun x14 =>
.cont 0 [x14, x13]) (
.call F.audit_Totals_plus [(n y4 1), x9] fun x11 =>
.l (.okc 4 true) [x11] fun x12 =>
.l (.arith .add .i64) [(n y4 0), (i 1)] fun x13 =>
.cont 0 [x13, x12])) (
.l (.okc 4 true) [(n y4 1)] fun x6 =>
.ret x6)
theorem k_audit_Count : TxOk P F.audit_Count 1 t_audit_Count := txOk_of (H := {}) (plans := []) hm Tryz.func18 rfl rfl fun xs => by kernel_rfl
def t_ref27_Copy (xs : List PV) : T PV :=
.l (.okc 13 true) [(n xs 0)] fun x0 =>
.call F.ref03_Copy [(sb 1 12 x0)] fun x1 =>
.l (.okcs [(12, true)]) [x1] fun x2 =>
.loop [(i 0), (.sl []), (c 0 x1), (c 1 x1), (c 2 x1), (c 3 x1), (c 4 x1), (c 5 x1), (c 6 x1), (c 7 x1), (c 8 x1), (c 9 x1), (c 10 x1), (c 11 x1)] fun y3 =>
.l .len [(c 0 x0)] fun x4 =>
.l (.cmp .lss .i64) [(n y3 0), x4] fun x5 =>
.ite x5 (
.l (.idx 14 true) [(c 0 x0), (n y3 0)] fun x6 =>
.l (.idx 14 true) [(c 0 x0), (n y3 0)] fun x7 =>
.call F.ref03_Copy [(sb 2 12 x7)] fun x8 =>
.l (.okcs [(1, false), (12, true)]) [(c 0 x6), x8] fun x9 =>
.l (.idx 14 true) [(c 0 x0), (n y3 0)] fun x10 =>
.l (.app 7 true 104) [(.sl []), (c 1 x10)] fun x11 =>
.l (.lst 14 true) [(.agg [(c 0 x6), x11, (c 0 x8), (c 1 x8), (c 2 x8), (c 3 x8), (c 4 x8), (c 5 x8), (c 6 x8), (c 7 x8), (c 8 x8), (c 9 x8), (c 10 x8), (c 11 x8)])] fun x12 =>
.l (.app 14 true 240) [(n y3 1), x12] fun x13 =>
.l (.arith .add .i64) [(n y3 0), (i 1)] fun x14 =>
.cont 0 [x14, x13, (n y3 2), (n y3 3), (n y3 4), (n y3 5), (n y3 6), (n y3 7), (n y3 8), (n y3 9), (n y3 10), (n y3 11), (n y3 12), (n y3 13)]) (
.ret (.agg [(n y3 1), (n y3 2), (n y3 3), (n y3 4), (n y3 5), (n y3 6), (n y3 7), (n y3 8), (n y3 9), (n y3 10), (n y3 11), (n y3 12), (n y3 13)]))
theorem k_ref27_Copy : TxOk P F.ref27_Copy 1 t_ref27_Copy := txOk_of (H := {}) (plans := []) hm Tryz.func19 rfl rfl fun xs => by kernel_rfl
-- NOT TOLD: 20 duologue/duologuelaw27.spoil: 3
def t_ref04_Program (xs : List PV) : T PV :=
.calls F.ref04_start sg_ref04_start [(n xs 0)] fun z0 =>
.calls F.ref04_program sg_ref04_program [(n z0 0), (n z0 1), (n z0 2), (n z0 3), (n z0 4)] fun z1 =>
.l (.okc 13 true) [(n z1 0)] fun x2 =>
.l (.cmp .neq .i64) [(n z1 4), (i 0)] fun x3 =>
.ite x3 (
.calls F.ref04_finish sg_ref04_finish [(.bool true), (n z1 1), (n z1 2), (n z1 3), (n z1 4), (n z1 5)] fun z4 =>
.l (.cmp .neq .i64) [(n z4 4), (i 0)] fun x5 =>
.ite x5 (
.ret (.tup [(.agg [(.sl []), (i 0), (.str ⟨#[]⟩), (.str ⟨#[]⟩), (.sl []), (.sl []), (i 0), (i 0), (.str ⟨#[]⟩), (i 0), (.sl []), (.sl []), (.sl [])]), (n z4 4), (n z4 5)])) (
.l (.okc 13 true) [x2] fun x6 =>
.ret (.tup [x6, (i 0), (i 0)]))) (
.call F.ref04_Fits [x2] fun x4 =>
.calls F.ref04_finish sg_ref04_finish [x4, (n z1 1), (n z1 2), (n z1 3), (n z1 4), (n z1 5)] fun z5 =>
.l (.cmp .neq .i64) [(n z5 4), (i 0)] fun x6 =>
.ite x6 (
.ret (.tup [(.agg [(.sl []), (i 0), (.str ⟨#[]⟩), (.str ⟨#[]⟩), (.sl []), (.sl []), (i 0), (i 0), (.str ⟨#[]⟩), (i 0), (.sl []), (.sl []), (.sl [])]), (n z5 4), (n z5 5)])) (
.l (.okc 13 true) [x2] fun x7 =>
.ret (.tup [x7, (i 0), (i 0)])))
theorem k_ref04_Program : TxOk P F.ref04_Program 1 t_ref04_Program := txOk_of (H := { wr := [], ro := [63, 110], nl := [], fz := [], da := [], sigs := [(45, sg_ref04_program), (46, sg_ref04_finish), (64, sg_ref04_need), (65, sg_ref04_name), (66, sg_ref04_anyType), (67, sg_ref04_process), (68, sg_ref04_fail), (83, sg_ref04_payload), (84, sg_ref04_session), (85, sg_ref04_single), (94, sg_ref04_variable), (95, sg_ref04_transmission), (96, sg_ref04_labels), (97, sg_ref04_after), (103, sg_ref04_small), (104, sg_ref04_prio), (105, sg_ref04_value), (44, sg_ref04_start)] }) (plans := []) hm Tryz.func21 rfl rfl fun xs => by kernel_rfl
def t_ref03_Little (xs : List PV) : T PV :=
.l (.okc 13 true) [(n xs 0)] fun x0 =>
.l .len [(c 0 x0)] fun x1 =>
.l (.cmp .gtr .i64) [x1, (i 20)] fun x2 =>
.ite x2 (
.ret (.bool false)) (
.call F.ref03_Few [(sb 1 12 x0), (n xs 1)] fun x3 =>
.l .bnot [x3] fun x4 =>
.ite x4 (
.ret (.bool false)) (
.loop [(i 0)] fun y5 =>
.l .len [(c 0 x0)] fun x6 =>
.l (.cmp .lss .i64) [(n y5 0), x6] fun x7 =>
.ite x7 (
.l (.idx 14 true) [(c 0 x0), (n y5 0)] fun x8 =>
.call F.ref03_Few [(sb 2 12 x8), (n xs 1)] fun x9 =>
.l .bnot [x9] fun x10 =>
.ite x10 (
.ret (.bool false)) (
.l (.idx 14 true) [(c 0 x0), (n y5 0)] fun x11 =>
.l .len [(c 1 x11)] fun x12 =>
.l (.cmp .gtr .i64) [x12, (i 20)] fun x13 =>
.ite x13 (
.ret (.bool false)) (
.loop [(i 0)] fun y14 =>
.l (.idx 14 true) [(c 0 x0), (n y5 0)] fun x15 =>
.l .len [(c 1 x15)] fun x16 =>
.l (.cmp .lss .i64) [(n y14 0), x16] fun x17 =>
.ite x17 (
.l (.idx 14 true) [(c 0 x0), (n y5 0)] fun x18 =>
.l (.idx 7 true) [(c 1 x18), (n y14 0)] fun x19 =>
.call F.ref02_Few [(sb 1 6 x19), (i 300)] fun x20 =>
.l .bnot [x20] fun x21 =>
.ite x21 (
.ret (.bool false)) (
.l (.arith .add .i64) [(n y14 0), (i 1)] fun x22 =>
.cont 1 [x22])) (
.l (.arith .add .i64) [(n y5 0), (i 1)] fun x18 =>
.cont 0 [x18])))) (
.ret (.bool true))))
theorem k_ref03_Little : TxOk P F.ref03_Little 2 t_ref03_Little := txOk_of (H := {}) (plans := []) hm Tryz.func22 rfl rfl fun xs => by kernel_rfl
def t_ref06_Check (xs : List PV) : T PV :=
.l (.okc 13 true) [(n xs 0)] fun x0 =>
.call F.ref03_Program [x0] fun x1 =>
.l (.cmp .neq .i64) [x1, (i 0)] fun x2 =>
.ite x2 (
.ret (.tup [x1, (i 0)])) (
.loop [(i 0)] fun y3 =>
.l .len [(c 0 x0)] fun x4 =>
.l (.cmp .lss .i64) [(n y3 0), x4] fun x5 =>
.ite x5 (
.l (.idx 14 true) [(c 0 x0), (n y3 0)] fun x6 =>
.l (.okc 14 true) [x6] fun x7 =>
.call F.ref06_Find [x0, (c 0 x7)] fun x8 =>
.l (.cmp .lss .i64) [x8, (n y3 0)] fun x9 =>
.ite x9 (
.ret (.tup [(i 5), (n y3 0)])) (
.loop [(i 0)] fun y10 =>
.l .len [(c 1 x7)] fun x11 =>
.l (.cmp .lss .i64) [(n y10 0), x11] fun x12 =>
.ite x12 (
.loop [(i 0)] fun y13 =>
.l (.cmp .lss .i64) [(n y13 0), (n y10 0)] fun x14 =>
.ite x14 (
.l (.idx 7 true) [(c 1 x7), (n y13 0)] fun x15 =>
.l (.idx 7 true) [(c 1 x7), (n y10 0)] fun x16 =>
.l (.scmp .eql) [(c 0 x15), (c 0 x16)] fun x17 =>
.ite x17 (
.ret (.tup [(i 5), (n y3 0)])) (
.l (.arith .add .i64) [(n y13 0), (i 1)] fun x18 =>
.cont 2 [x18])) (
.l (.arith .add .i64) [(n y10 0), (i 1)] fun x15 =>
.cont 1 [x15])) (
.l (.arith .add .i64) [(n y3 0), (i 1)] fun x13 =>
.cont 0 [x13]))) (
.loop [(i 0)] fun y6 =>
.l .len [(c 0 x0)] fun x7 =>
.l (.cmp .lss .i64) [(n y6 0), x7] fun x8 =>
.ite x8 (
.loop [(i 0), (.sl [])] fun y9 =>
.l (.idx 14 true) [(c 0 x0), (n y6 0)] fun x10 =>
.l .len [(c 1 x10)] fun x11 =>
.l (.cmp .lss .i64) [(n y9 0), x11] fun x12 =>
.ite x12 (
.l (.idx 14 true) [(c 0 x0), (n y6 0)] fun x13 =>
.l (.idx 7 true) [(c 1 x13), (n y9 0)] fun x14 =>
.l (.lst 1 false) [(c 0 x14)] fun x15 =>
.l (.app 1 false 16) [(n y9 1), x15] fun x16 =>
.l (.arith .add .i64) [(n y9 0), (i 1)] fun x17 =>
.cont 2 [x17, x16]) (
.l (.idx 14 true) [(c 0 x0), (n y6 0)] fun x13 =>
.call F.ref06_node [x0, (sb 2 12 x13), (n y9 1), (.bool false)] fun x14 =>
.l (.cmp .neq .i64) [x14, (i 0)] fun x15 =>
.ite x15 (
.ret (.tup [x14, (n y6 0)])) (
.l (.arith .add .i64) [(n y6 0), (i 1)] fun x16 =>
.cont 1 [x16]))) (
.call F.ref06_node [x0, (sb 1 12 x0), (.sl []), (.bool true)] fun x9 =>
.l .len [(c 0 x0)] fun x10 =>
.ret (.tup [x9, x10]))))
theorem k_ref06_Check : TxOk P F.ref06_Check 1 t_ref06_Check := txOk_of (H := {}) (plans := []) hm Tryz.func23 rfl rfl fun xs => by kernel_rfl
def t_ref03_left (xs : List PV) : T PV :=
.l (.okc 12 true) [(n xs 0)] fun x0 =>
.l (.arith .sub .i64) [(n xs 1), (i 1)] fun x1 =>
.call F.ref02_Few [(sb 5 6 x0), (i 300)] fun x2 =>
.l .bnot [x2] fun x3 =>
.ite x3 (
.ret (i (-1))) (
.loop [(i 0), x1] fun y4 =>
.l .len [(c 11 x0)] fun x5 =>
.l (.cmp .lss .i64) [(n y4 0), x5] fun x6 =>
.ite x6 (
.l (.cmp .geq .i64) [(n y4 1), (i 0)] fun x7 =>
.ite x7 (
.l (.idx 12 true) [(c 11 x0), (n y4 0)] fun x8 =>
.call F.ref03_left [x8, (n y4 1)] fun x9 =>
.l (.arith .add .i64) [(n y4 0), (i 1)] fun x10 =>
.cont 0 [x10, x9]) (
.ret (n y4 1))) (
.ret (n y4 1)))
theorem k_ref03_left : TxOk P F.ref03_left 2 t_ref03_left := txOk_of (H := {}) (plans := []) hm Tryz.func24 rfl rfl fun xs => by kernel_rfl
def t_ref03_Depth (xs : List PV) : T PV :=
.l (.okc 12 true) [(n xs 0)] fun x0 =>
.loop [(i 0), (i 0)] fun y1 =>
.l .len [(c 11 x0)] fun x2 =>
.l (.cmp .lss .i64) [(n y1 0), x2] fun x3 =>
.ite x3 (
.l (.idx 12 true) [(c 11 x0), (n y1 0)] fun x4 =>
.call F.ref03_Depth [x4] fun x5 =>
.l (.mx .i64) [(n y1 1), x5] fun x6 =>
.l (.arith .add .i64) [(n y1 0), (i 1)] fun x7 =>
.cont 0 [x7, x6]) (
.l (.arith .add .i64) [(n y1 1), (i 1)] fun x4 =>
.ret x4)
theorem k_ref03_Depth : TxOk P F.ref03_Depth 1 t_ref03_Depth := txOk_of (H := {}) (plans := []) hm Tryz.func25 rfl rfl fun xs => by kernel_rfl
def t_audit_closure (xs : List PV) : T PV :=
.l (.okc 13 true) [(n xs 0)] fun x0 =>
.l .len [(c 0 x0)] fun x1 =>
.loop [(i 0), (.mp [] [])] fun y2 =>
.l (.cmp .lss .i64) [(n y2 0), x1] fun x3 =>
.ite x3 (
.l (.idx 14 true) [(c 0 x0), (n y2 0)] fun x4 =>
.l (.okc 14 true) [x4] fun x5 =>
.call F.scope_Calls [(sb 2 12 x5)] fun x6 =>
.l (.mset false [.s]) [(n y2 1), (c 0 x5), x6] fun x7 =>
.l (.arith .add .i64) [(n y2 0), (i 1)] fun x8 =>
.cont 0 [x8, x7]) (
.calls F.audit_closure_1 sg_audit_closure_1 [(n xs 1), (.mp [] []), (n y2 1)] fun z4 =>
.ret (n z4 1))
theorem k_audit_closure : TxOk P F.audit_closure 2 t_audit_closure := txOk_of (H := { wr := [], ro := [], nl := [], fz := [], da := [], sigs := [(52, sg_audit_closure_1)] }) (plans := []) hm Tryz.func26 rfl rfl fun xs => by kernel_rfl
def t_scope_Calls (xs : List PV) : T PV :=
.l (.okc 12 true) [(n xs 0)] fun x0 =>
.call F.scope_collect [x0, (.fn F.scope_Calls_1 [] [])] fun x1 =>
.ret x1
theorem k_scope_Calls : TxOk P F.scope_Calls 1 t_scope_Calls := txOk_of (H := {}) (plans := []) hm Tryz.func27 rfl rfl fun xs => by kernel_rfl
def t_audit_named (xs : List PV) : T PV :=
.l (.okc 13 true) [(n xs 0)] fun x0 =>
.l .len [(c 0 x0)] fun x1 =>
.loop [(i 0), (.sl [])] fun y2 =>
.l (.cmp .lss .i64) [(n y2 0), x1] fun x3 =>
.ite x3 (
.l (.idx 14 true) [(c 0 x0), (n y2 0)] fun x4 =>
.l (.okc 14 true) [x4] fun x5 =>
.callv (n xs 1) [x5] fun x6 =>
.ite x6 (
.l (.lst 1 false) [(c 0 x5)] fun x7 =>
.l (.app 1 false 16) [(n y2 1), x7] fun x8 =>
.l (.arith .add .i64) [(n y2 0), (i 1)] fun x9 =>
.cont 0 [x9, x8]) (
.l (.arith .add .i64) [(n y2 0), (i 1)] fun x7 =>
.cont 0 [x7, (n y2 1)])) (
.ret (n y2 1))
theorem k_audit_named : TxOk P F.audit_named 2 t_audit_named := txOk_of (H := {}) (plans := []) hm Tryz.func28 rfl rfl fun xs => by kernel_rfl
def t_audit_Reached_1 (xs : List PV) : T PV :=
.l (.okc 14 true) [(n xs 0)] fun x0 =>
.l (.unbox 1 false) [(n xs 1)] fun x1 =>
.l (.mget false [.s] (.bool false)) [x1, (c 0 x0)] fun x2 =>
.ret x2
theorem k_audit_Reached_1 : TxOk P F.audit_Reached_1 2 t_audit_Reached_1 := txOk_of (H := {}) (plans := []) hm Tryz.func29 rfl rfl fun xs => by kernel_rfl
def t_audit_Unused_1 (xs : List PV) : T PV :=
.l (.okc 14 true) [(n xs 0)] fun x0 =>
.l (.unbox 1 false) [(n xs 1)] fun x1 =>
.l (.mget false [.s] (.bool false)) [x1, (c 0 x0)] fun x2 =>
.l .bnot [x2] fun x3 =>
.ret x3
theorem k_audit_Unused_1 : TxOk P F.audit_Unused_1 2 t_audit_Unused_1 := txOk_of (H := {}) (plans := []) hm Tryz.func32 rfl rfl fun xs => by kernel_rfl
def t_audit_Loops_1 (xs : List PV) : T PV :=
.l (.okc 14 true) [(n xs 0)] fun x0 =>
.l (.unbox 13 true) [(n xs 1)] fun x1 =>
.call F.scope_Calls [(sb 2 12 x0)] fun x2 =>
.call F.audit_closure [x1, x2] fun x3 =>
.l (.mget false [.s] (.bool false)) [x3, (c 0 x0)] fun x4 =>
.ret x4
theorem k_audit_Loops_1 : TxOk P F.audit_Loops_1 2 t_audit_Loops_1 := txOk_of (H := {}) (plans := []) hm Tryz.func33 rfl rfl fun xs => by kernel_rfl
def t_ref03_Same (xs : List PV) : T PV :=
.l (.okc 12 true) [(n xs 0)] fun x0 =>
.l (.okc 12 true) [(n xs 1)] fun x1 =>
.l (.cmp .neq .i64) [(c 0 x0), (c 0 x1)] fun x2 =>
.ite x2 (
.ret (.bool false)) (
.l (.scmp .neq) [(c 1 x0), (c 1 x1)] fun x3 =>
.ite x3 (
.ret (.bool false)) (
.l (.scmp .neq) [(c 2 x0), (c 2 x1)] fun x4 =>
.ite x4 (
.ret (.bool false)) (
.call F.ref03_Texts [(c 3 x0), (c 3 x1)] fun x5 =>
.l .bnot [x5] fun x6 =>
.ite x6 (
.ret (.bool false)) (
.l .len [(c 4 x0)] fun x7 =>
.l .len [(c 4 x1)] fun x8 =>
.l (.cmp .neq .i64) [x7, x8] fun x9 =>
.ite x9 (
.ret (.bool false)) (
.call F.ref02_Same [(sb 5 6 x0), (sb 5 6 x1)] fun x10 =>
.l .bnot [x10] fun x11 =>
.ite x11 (
.ret (.bool false)) (
.l .len [(c 11 x0)] fun x12 =>
.l .len [(c 11 x1)] fun x13 =>
.l (.cmp .neq .i64) [x12, x13] fun x14 =>
.ite x14 (
.ret (.bool false)) (
.loop [(i 0)] fun y15 =>
.l .len [(c 4 x0)] fun x16 =>
.l (.cmp .lss .i64) [(n y15 0), x16] fun x17 =>
.ite x17 (
.l (.idx 3 true) [(c 4 x0), (n y15 0)] fun x18 =>
.l (.idx 3 true) [(c 4 x1), (n y15 0)] fun x19 =>
.l (.acmp .neq [.i .i64, .s, .i .i64]) [x18, x19] fun x20 =>
.ite x20 (
.ret (.bool false)) (
.l (.arith .add .i64) [(n y15 0), (i 1)] fun x21 =>
.cont 0 [x21])) (
.loop [(i 0)] fun y18 =>
.l .len [(c 11 x0)] fun x19 =>
.l (.cmp .lss .i64) [(n y18 0), x19] fun x20 =>
.ite x20 (
.l (.idx 12 true) [(c 11 x0), (n y18 0)] fun x21 =>
.l (.idx 12 true) [(c 11 x1), (n y18 0)] fun x22 =>
.call F.ref03_Same [x21, x22] fun x23 =>
.l .bnot [x23] fun x24 =>
.ite x24 (
.ret (.bool false)) (
.l (.arith .add .i64) [(n y18 0), (i 1)] fun x25 =>
.cont 1 [x25])) (
.ret (.bool true))))))))))
theorem k_ref03_Same : TxOk P F.ref03_Same 2 t_ref03_Same := txOk_of (H := {}) (plans := []) hm Tryz.func34 rfl rfl fun xs => by kernel_rfl
def t_ref02_Same (xs : List PV) : T PV :=
.l (.okc 6 true) [(n xs 0)] fun x0 =>
.l (.okc 6 true) [(n xs 1)] fun x1 =>
.l (.cmp .neq .i64) [(c 0 x0), (c 0 x1)] fun x2 =>
.ite x2 (
.ret (.bool false)) (
.l (.cmp .neq .i64) [(c 1 x0), (c 1 x1)] fun x3 =>
.ite x3 (
.ret (.bool false)) (
.l (.scmp .neq) [(c 2 x0), (c 2 x1)] fun x4 =>
.ite x4 (
.ret (.bool false)) (
.l (.cmp .neq .i64) [(c 3 x0), (c 3 x1)] fun x5 =>
.ite x5 (
.ret (.bool false)) (
.call F.ref02_texts [(c 4 x0), (c 4 x1)] fun x6 =>
.l .bnot [x6] fun x7 =>
.ite x7 (
.ret (.bool false)) (
.l .len [(c 5 x0)] fun x8 =>
.l .len [(c 5 x1)] fun x9 =>
.l (.cmp .neq .i64) [x8, x9] fun x10 =>
.ite x10 (
.ret (.bool false)) (
.loop [(i 0)] fun y11 =>
.l .len [(c 5 x0)] fun x12 =>
.l (.cmp .lss .i64) [(n y11 0), x12] fun x13 =>
.ite x13 (
.l (.idx 6 true) [(c 5 x0), (n y11 0)] fun x14 =>
.l (.idx 6 true) [(c 5 x1), (n y11 0)] fun x15 =>
.call F.ref02_Same [x14, x15] fun x16 =>
.l .bnot [x16] fun x17 =>
.ite x17 (
.ret (.bool false)) (
.l (.arith .add .i64) [(n y11 0), (i 1)] fun x18 =>
.cont 0 [x18])) (
.ret (.bool true))))))))
theorem k_ref02_Same : TxOk P F.ref02_Same 2 t_ref02_Same := txOk_of (H := {}) (plans := []) hm Tryz.func35 rfl rfl fun xs => by kernel_rfl
def t_proctree_Copy (xs : List PV) : T PV :=
.l (.okc 12 true) [(n xs 0)] fun x0 =>
.call F.slices_Clone_string_string [(c 3 x0)] fun x1 =>
.call F.slices_Clone_api_Value_api_Value [(c 4 x0)] fun x2 =>
.call F.typetree_Copy [(sb 5 6 x0)] fun x3 =>
.l (.okc 1 false) [x1] fun x4 =>
.l (.okc 1 false) [x2] fun x5 =>
.l (.okc 6 true) [x3] fun x6 =>
.l .len [(c 11 x0)] fun x7 =>
.loop [(i 0), (.sl [])] fun y8 =>
.l (.cmp .lss .i64) [(n y8 0), x7] fun x9 =>
.ite x9 (
.l (.idx 12 true) [(c 11 x0), (n y8 0)] fun x10 =>
.l (.okc 12 true) [x10] fun x11 =>
.call F.proctree_Copy [x11] fun x12 =>
.l (.lst 12 true) [x12] fun x13 =>
.l (.app 12 true 200) [(n y8 1), x13] fun x14 =>
.l (.arith .add .i64) [(n y8 0), (i 1)] fun x15 =>
.cont 0 [x15, x14]) (
.ret (.agg [(c 0 x0), (c 1 x0), (c 2 x0), x4, x5, (c 0 x6), (c 1 x6), (c 2 x6), (c 3 x6), (c 4 x6), (c 5 x6), (n y8 1)]))
theorem k_proctree_Copy : TxOk P F.proctree_Copy 1 t_proctree_Copy := txOk_of (H := {}) (plans := []) hm Tryz.func36 rfl rfl fun xs => by kernel_rfl
def t_slices_Contains_string_string (xs : List PV) : T PV :=
.call F.slices_Index_string_string [(n xs 0), (n xs 1)] fun x0 =>
.l (.cmp .geq .i64) [x0, (i 0)] fun x1 =>
.ret x1
theorem k_slices_Contains_string_string : TxOk P F.slices_Contains_string_string 2 t_slices_Contains_string_string := txOk_of (H := {}) (plans := []) hm Tryz.func37 rfl rfl fun xs => by kernel_rfl
def t_audit_copied (xs : List PV) : T PV :=
.l (.okc 14 true) [(n xs 0)] fun x0 =>
.calls F.slices_Clone_api_Param_api_Param sg_slices_Clone_api_Param_api_Param [(c 1 x0)] fun z1 =>
.l .len [(n z1 0)] fun x2 =>
.loop [(i 0), (n z1 0)] fun y3 =>
.l (.cmp .lss .i64) [(n y3 0), x2] fun x4 =>
.ite x4 (
.l (.idx 7 true) [(n y3 1), (n y3 0)] fun x5 =>
.l (.idx 7 true) [(n y3 1), (n y3 0)] fun x6 =>
.l (.okc 7 true) [x6] fun x7 =>
.call F.typetree_Copy [(sb 1 6 x7)] fun x8 =>
.l (.idx 7 true) [(n y3 1), (n y3 0)] fun x9 =>
.l (.updF 7 1 6 true) [(n y3 1), (n y3 0), x8] fun x10 =>
.l (.arith .add .i64) [(n y3 0), (i 1)] fun x11 =>
.cont 0 [x11, x10]) (
.call F.proctree_Copy [(.agg [(c 2 x0), (c 3 x0), (c 4 x0), (c 5 x0), (c 6 x0), (c 7 x0), (c 8 x0), (c 9 x0), (c 10 x0), (c 11 x0), (c 12 x0), (c 13 x0)])] fun x5 =>
.l (.okc 12 true) [x5] fun x6 =>
.ret (.agg [(c 0 x0), (n y3 1), (c 0 x6), (c 1 x6), (c 2 x6), (c 3 x6), (c 4 x6), (c 5 x6), (c 6 x6), (c 7 x6), (c 8 x6), (c 9 x6), (c 10 x6), (c 11 x6)]))
theorem k_audit_copied : TxOk P F.audit_copied 1 t_audit_copied := txOk_of (H := { wr := [], ro := [], nl := [], fz := [], da := [], sigs := [(60, sg_slices_Clone_api_Param_api_Param)] }) (plans := []) hm Tryz.func38 rfl rfl fun xs => by kernel_rfl
def t_ref03_In (xs : List PV) : T PV :=
.loop [(i 0)] fun y0 =>
.l .len [(n xs 1)] fun x1 =>
.l (.cmp .lss .i64) [(n y0 0), x1] fun x2 =>
.ite x2 (
.l (.idx 1 false) [(n xs 1), (n y0 0)] fun x3 =>
.l (.scmp .eql) [x3, (n xs 0)] fun x4 =>
.ite x4 (
.ret (.bool true)) (
.l (.arith .add .i64) [(n y0 0), (i 1)] fun x5 =>
.cont 0 [x5])) (
.ret (.bool false))
theorem k_ref03_In : TxOk P F.ref03_In 2 t_ref03_In := txOk_of (H := {}) (plans := []) hm Tryz.func39 rfl rfl fun xs => by kernel_rfl
def t_audit_node (xs : List PV) : T PV :=
.l (.okc 12 true) [(n xs 0)] fun x0 =>
.call F.proctree_Prefix [x0] fun x1 =>
.ite x1 (
.ret (.agg [(i 1), (i 0), (i 0), (i 1)])) (
.l (.cmp .eql .i64) [(c 0 x0), (i 6)] fun x2 =>
.ite x2 (
.ret (.agg [(i 0), (i 1), (i 0), (i 0)])) (
.l (.cmp .eql .i64) [(c 0 x0), (i 8)] fun x3 =>
.ite x3 (
.ret (.agg [(i 0), (i 0), (i 1), (i 1)])) (
.ret (.agg [(i 0), (i 0), (i 0), (i 0)]))))
theorem k_audit_node : TxOk P F.audit_node 1 t_audit_node := txOk_of (H := {}) (plans := []) hm Tryz.func40 rfl rfl fun xs => by kernel_rfl
def t_proctree_Prefix (xs : List PV) : T PV :=
.l (.okc 12 true) [(n xs 0)] fun x0 =>
.l (.cmp .geq .i64) [(c 0 x0), (i 2)] fun x1 =>
.ite x1 (
.l (.cmp .leq .i64) [(c 0 x0), (i 5)] fun x2 =>
.ret x2) (
.ret (.bool false))
theorem k_proctree_Prefix : TxOk P F.proctree_Prefix 1 t_proctree_Prefix := txOk_of (H := {}) (plans := []) hm Tryz.func41 rfl rfl fun xs => by kernel_rfl
def t_audit_Totals_plus (xs : List PV) : T PV :=
.l (.okc 4 true) [(n xs 0)] fun x0 =>
.l (.okc 4 true) [(n xs 1)] fun x1 =>
.l (.arith .add .i64) [(c 0 x0), (c 0 x1)] fun x2 =>
.l (.arith .add .i64) [(c 1 x0), (c 1 x1)] fun x3 =>
.l (.arith .add .i64) [(c 2 x0), (c 2 x1)] fun x4 =>
.l (.arith .add .i64) [(c 3 x0), (c 3 x1)] fun x5 =>
.l (.okcs [(1, false), (1, false), (1, false), (1, false)]) [x2, x3, x4, x5] fun x6 =>
.ret (.agg [x2, x3, x4, x5])
theorem k_audit_Totals_plus : TxOk P F.audit_Totals_plus 2 t_audit_Totals_plus := txOk_of (H := {}) (plans := []) hm Tryz.func42 rfl rfl fun xs => by kernel_rfl
def t_ref03_Copy (xs : List PV) : T PV :=
.l (.okc 12 true) [(n xs 0)] fun x0 =>
.l (.okc 12 true) [x0] fun x1 =>
.l (.lst 1 false) [] fun x2 =>
.l (.app 1 false 16) [x2, (c 3 x0)] fun x3 =>
.l (.lst 3 true) [] fun x4 =>
.l (.app 3 true 32) [x4, (c 4 x0)] fun x5 =>
.call F.ref02_Raise [(sb 5 6 x0), (i 0)] fun x6 =>
.l (.okc 6 true) [x6] fun x7 =>
.loop [(i 0), (c 0 x1), (c 1 x1), (c 2 x1), x3, x5, (c 0 x7), (c 1 x7), (c 2 x7), (c 3 x7), (c 4 x7), (c 5 x7), (.sl [])] fun y8 =>
.l .len [(c 11 x0)] fun x9 =>
.l (.cmp .lss .i64) [(n y8 0), x9] fun x10 =>
.ite x10 (
.l (.idx 12 true) [(c 11 x0), (n y8 0)] fun x11 =>
.call F.ref03_Copy [x11] fun x12 =>
.l (.lst 12 true) [x12] fun x13 =>
.l (.app 12 true 200) [(n y8 12), x13] fun x14 =>
.l (.arith .add .i64) [(n y8 0), (i 1)] fun x15 =>
.cont 0 [x15, (n y8 1), (n y8 2), (n y8 3), (n y8 4), (n y8 5), (n y8 6), (n y8 7), (n y8 8), (n y8 9), (n y8 10), (n y8 11), x14]) (
.ret (.agg [(n y8 1), (n y8 2), (n y8 3), (n y8 4), (n y8 5), (n y8 6), (n y8 7), (n y8 8), (n y8 9), (n y8 10), (n y8 11), (n y8 12)]))
theorem k_ref03_Copy : TxOk P F.ref03_Copy 1 t_ref03_Copy := txOk_of (H := {}) (plans := []) hm Tryz.func43 rfl rfl fun xs => by kernel_rfl
def t_ref04_start (xs : List PV) : T PV :=
.call F.ref01_Tokens [(n xs 0)] fun x0 =>
.l (.tc 0) [x0] fun x1 =>
.l (.tc 1) [x0] fun x2 =>
.l (.tc 2) [x0] fun x3 =>
.l .slen [(n xs 0)] fun x4 =>
.l (.okcs [(1, false), (1, false), (1, false), (1, false)]) [x1, x4, x2, x3] fun x5 =>
.ret (.box (.agg [x1, (i 0), x4, x2, x3]))
theorem k_ref04_start : TxOk P F.ref04_start 1 t_ref04_start := txOk_of (H := { wr := [], ro := [63, 110], nl := [], fz := [], da := [], sigs := [] }) (plans := []) hm Tryz.func44 rfl rfl fun xs => by kernel_rfl
def u_ref04_start (xs : List PV) : T PV :=
.call F.ref01_Tokens [(n xs 0)] fun x0 =>
.l (.tc 0) [x0] fun x1 =>
.l (.tc 1) [x0] fun x2 =>
.l (.tc 2) [x0] fun x3 =>
.l .slen [(n xs 0)] fun x4 =>
.l (.okcs [(1, false), (1, false), (1, false), (1, false)]) [x1, x4, x2, x3] fun x5 =>
.ret (.tup [x1, (i 0), x4, x2, x3])
theorem m_ref04_start : TxOkS P F.ref04_start sg_ref04_start u_ref04_start := txOkS_of (H := { wr := [], ro := [63, 110], nl := [], fz := [], da := [], sigs := [(45, sg_ref04_program), (46, sg_ref04_finish), (64, sg_ref04_need), (65, sg_ref04_name), (66, sg_ref04_anyType), (67, sg_ref04_process), (68, sg_ref04_fail), (83, sg_ref04_payload), (84, sg_ref04_session), (85, sg_ref04_single), (94, sg_ref04_variable), (95, sg_ref04_transmission), (96, sg_ref04_labels), (97, sg_ref04_after), (103, sg_ref04_small), (104, sg_ref04_prio), (105, sg_ref04_value), (44, sg_ref04_start)] }) (plans := []) hm Tryz.func44 rfl fun xs => by kernel_rfl
def t_ref04_program (xs : List PV) : T PV :=
.loop [(.sl []), (i 0), (.str ⟨#[]⟩), (.str ⟨#[]⟩), (.sl []), (.sl []), (i 0), (i 0), (.str ⟨#[]⟩), (i 0), (.sl []), (.sl []), (.sl [])] fun y0 =>
.call F.ref04_text [(n xs 0)] fun x1 =>
.l .gnd [x1] fun x2 =>
.l (.scmp .eql) [x2, (.str ⟨#[100, 101, 102]⟩)] fun x3 =>
.ite x3 (
.call F.ref04_need [(n xs 0), (.str ⟨#[100, 101, 102]⟩)] fun x4 =>
.call F.ref04_name [(n xs 0)] fun x5 =>
.l (.okcs [(1, false)]) [x5] fun x6 =>
.call F.ref04_need [(n xs 0), (.str ⟨#[40]⟩)] fun x7 =>
.loop [x5, (.sl []), (i 0), (.str ⟨#[]⟩), (.str ⟨#[]⟩), (.sl []), (.sl []), (i 0), (i 0), (.str ⟨#[]⟩), (i 0), (.sl []), (.sl []), (.sl [])] fun y8 =>
.l .notnil [(n xs 0)] fun x9 =>
.l (.unbox 5 true) [x9] fun x10 =>
.l (.cmp .eql .i64) [(c 3 x10), (i 0)] fun x11 =>
.ite x11 (
.call F.ref04_text [(n xs 0)] fun x12 =>
.l .gnd [x12] fun x13 =>
.l (.scmp .neq) [x13, (.str ⟨#[41]⟩)] fun x14 =>
.ite x14 (
.call F.ref04_name [(n xs 0)] fun x15 =>
.call F.ref04_need [(n xs 0), (.str ⟨#[58]⟩)] fun x16 =>
.call F.ref04_anyType [(n xs 0)] fun x17 =>
.l (.okcs [(1, false), (6, true)]) [x15, x17] fun x18 =>
.l (.lst 7 true) [(.agg [x15, (c 0 x17), (c 1 x17), (c 2 x17), (c 3 x17), (c 4 x17), (c 5 x17)])] fun x19 =>
.l (.app 7 true 104) [(n y8 1), x19] fun x20 =>
.call F.ref04_text [(n xs 0)] fun x21 =>
.l .gnd [x21] fun x22 =>
.l (.scmp .neq) [x22, (.str ⟨#[44]⟩)] fun x23 =>
.ite x23 (
.call F.ref04_need [(n xs 0), (.str ⟨#[41]⟩)] fun x24 =>
.call F.ref04_need [(n xs 0), (.str ⟨#[61]⟩)] fun x25 =>
.call F.ref04_process [(n xs 0)] fun x26 =>
.l (.okc 12 true) [x26] fun x27 =>
.call F.ref04_need [(n xs 0), (.str ⟨#[59]⟩)] fun x28 =>
.l (.lst 14 true) [(.agg [(n y8 0), x20, (c 0 x27), (c 1 x27), (c 2 x27), (c 3 x27), (c 4 x27), (c 5 x27), (c 6 x27), (c 7 x27), (c 8 x27), (c 9 x27), (c 10 x27), (c 11 x27)])] fun x29 =>
.l (.app 14 true 240) [(n y0 0), x29] fun x30 =>
.cont 0 [x30, (n y0 1), (n y0 2), (n y0 3), (n y0 4), (n y0 5), (n y0 6), (n y0 7), (n y0 8), (n y0 9), (n y0 10), (n y0 11), (n y0 12)]) (
.call F.ref04_need [(n xs 0), (.str ⟨#[44]⟩)] fun x24 =>
.cont 1 [(n y8 0), x20, (n y8 2), (n y8 3), (n y8 4), (n y8 5), (n y8 6), (n y8 7), (n y8 8), (n y8 9), (n y8 10), (n y8 11), (n y8 12), (n y8 13)])) (
.l .len [(n y8 1)] fun x15 =>
.l (.cmp .gtr .i64) [x15, (i 0)] fun x16 =>
.ite x16 (
.call F.ref04_name [(n xs 0)] fun x17 =>
.call F.ref04_need [(n xs 0), (.str ⟨#[58]⟩)] fun x18 =>
.call F.ref04_anyType [(n xs 0)] fun x19 =>
.l (.okcs [(1, false), (6, true)]) [x17, x19] fun x20 =>
.l (.lst 7 true) [(.agg [x17, (c 0 x19), (c 1 x19), (c 2 x19), (c 3 x19), (c 4 x19), (c 5 x19)])] fun x21 =>
.l (.app 7 true 104) [(n y8 1), x21] fun x22 =>
.call F.ref04_text [(n xs 0)] fun x23 =>
.l .gnd [x23] fun x24 =>
.l (.scmp .neq) [x24, (.str ⟨#[44]⟩)] fun x25 =>
.ite x25 (
.call F.ref04_need [(n xs 0), (.str ⟨#[41]⟩)] fun x26 =>
.call F.ref04_need [(n xs 0), (.str ⟨#[61]⟩)] fun x27 =>
.call F.ref04_process [(n xs 0)] fun x28 =>
.l (.okc 12 true) [x28] fun x29 =>
.call F.ref04_need [(n xs 0), (.str ⟨#[59]⟩)] fun x30 =>
.l (.lst 14 true) [(.agg [(n y8 0), x22, (c 0 x29), (c 1 x29), (c 2 x29), (c 3 x29), (c 4 x29), (c 5 x29), (c 6 x29), (c 7 x29), (c 8 x29), (c 9 x29), (c 10 x29), (c 11 x29)])] fun x31 =>
.l (.app 14 true 240) [(n y0 0), x31] fun x32 =>
.cont 0 [x32, (n y0 1), (n y0 2), (n y0 3), (n y0 4), (n y0 5), (n y0 6), (n y0 7), (n y0 8), (n y0 9), (n y0 10), (n y0 11), (n y0 12)]) (
.call F.ref04_need [(n xs 0), (.str ⟨#[44]⟩)] fun x26 =>
.cont 1 [(n y8 0), x22, (n y8 2), (n y8 3), (n y8 4), (n y8 5), (n y8 6), (n y8 7), (n y8 8), (n y8 9), (n y8 10), (n y8 11), (n y8 12), (n y8 13)])) (
.call F.ref04_need [(n xs 0), (.str ⟨#[41]⟩)] fun x17 =>
.call F.ref04_need [(n xs 0), (.str ⟨#[61]⟩)] fun x18 =>
.call F.ref04_process [(n xs 0)] fun x19 =>
.l (.okc 12 true) [x19] fun x20 =>
.call F.ref04_need [(n xs 0), (.str ⟨#[59]⟩)] fun x21 =>
.l (.lst 14 true) [(.agg [(n y8 0), (n y8 1), (c 0 x20), (c 1 x20), (c 2 x20), (c 3 x20), (c 4 x20), (c 5 x20), (c 6 x20), (c 7 x20), (c 8 x20), (c 9 x20), (c 10 x20), (c 11 x20)])] fun x22 =>
.l (.app 14 true 240) [(n y0 0), x22] fun x23 =>
.cont 0 [x23, (n y0 1), (n y0 2), (n y0 3), (n y0 4), (n y0 5), (n y0 6), (n y0 7), (n y0 8), (n y0 9), (n y0 10), (n y0 11), (n y0 12)]))) (
.call F.ref04_need [(n xs 0), (.str ⟨#[41]⟩)] fun x12 =>
.call F.ref04_need [(n xs 0), (.str ⟨#[61]⟩)] fun x13 =>
.call F.ref04_process [(n xs 0)] fun x14 =>
.l (.okc 12 true) [x14] fun x15 =>
.call F.ref04_need [(n xs 0), (.str ⟨#[59]⟩)] fun x16 =>
.l (.lst 14 true) [(.agg [(n y8 0), (n y8 1), (c 0 x15), (c 1 x15), (c 2 x15), (c 3 x15), (c 4 x15), (c 5 x15), (c 6 x15), (c 7 x15), (c 8 x15), (c 9 x15), (c 10 x15), (c 11 x15)])] fun x17 =>
.l (.app 14 true 240) [(n y0 0), x17] fun x18 =>
.cont 0 [x18, (n y0 1), (n y0 2), (n y0 3), (n y0 4), (n y0 5), (n y0 6), (n y0 7), (n y0 8), (n y0 9), (n y0 10), (n y0 11), (n y0 12)])) (
.call F.ref04_need [(n xs 0), (.str ⟨#[109, 97, 105, 110]⟩)] fun x4 =>
.call F.ref04_need [(n xs 0), (.str ⟨#[61]⟩)] fun x5 =>
.call F.ref04_process [(n xs 0)] fun x6 =>
.l (.okc 12 true) [x6] fun x7 =>
.call F.ref04_need [(n xs 0), (.str ⟨#[59]⟩)] fun x8 =>
.ret (.agg [(n y0 0), (c 0 x7), (c 1 x7), (c 2 x7), (c 3 x7), (c 4 x7), (c 5 x7), (c 6 x7), (c 7 x7), (c 8 x7), (c 9 x7), (c 10 x7), (c 11 x7)]))
theorem k_ref04_program : TxOk P F.ref04_program 1 t_ref04_program := txOk_of (H := { wr := [], ro := [63, 110], nl := [], fz := [], da := [], sigs := [] }) (plans := []) hm Tryz.func45 rfl rfl fun xs => by kernel_rfl
def u_ref04_program (xs : List PV) : T PV :=
.loop [(.sl []), (i 0), (.str ⟨#[]⟩), (.str ⟨#[]⟩), (.sl []), (.sl []), (i 0), (i 0), (.str ⟨#[]⟩), (i 0), (.sl []), (.sl []), (.sl []), (n xs 0), (n xs 1), (n xs 2), (n xs 3), (n xs 4)] fun y0 =>
.call F.ref04_text [(.box (.agg [(n y0 13), (n y0 14), (n y0 15), (n y0 16), (n y0 17)]))] fun x1 =>
.l .gnd [x1] fun x2 =>
.l (.scmp .eql) [x2, (.str ⟨#[100, 101, 102]⟩)] fun x3 =>
.ite x3 (
.calls F.ref04_need sg_ref04_need [(.str ⟨#[100, 101, 102]⟩), (n y0 13), (n y0 14), (n y0 15), (n y0 16), (n y0 17)] fun z4 =>
.calls F.ref04_name sg_ref04_name [(n z4 1), (n z4 2), (n z4 3), (n z4 4), (n z4 5)] fun z5 =>
.l (.okcs [(1, false)]) [(n z5 0)] fun x6 =>
.calls F.ref04_need sg_ref04_need [(.str ⟨#[40]⟩), (n z5 1), (n z5 2), (n z5 3), (n z5 4), (n z5 5)] fun z7 =>
.loop [(n z5 0), (.sl []), (i 0), (.str ⟨#[]⟩), (.str ⟨#[]⟩), (.sl []), (.sl []), (i 0), (i 0), (.str ⟨#[]⟩), (i 0), (.sl []), (.sl []), (.sl []), (n z7 1), (n z7 2), (n z7 3), (n z7 4), (n z7 5)] fun y8 =>
.l (.cmp .eql .i64) [(n y8 17), (i 0)] fun x9 =>
.ite x9 (
.call F.ref04_text [(.box (.agg [(n y8 14), (n y8 15), (n y8 16), (n y8 17), (n y8 18)]))] fun x10 =>
.l .gnd [x10] fun x11 =>
.l (.scmp .neq) [x11, (.str ⟨#[41]⟩)] fun x12 =>
.ite x12 (
.calls F.ref04_name sg_ref04_name [(n y8 14), (n y8 15), (n y8 16), (n y8 17), (n y8 18)] fun z13 =>
.calls F.ref04_need sg_ref04_need [(.str ⟨#[58]⟩), (n z13 1), (n z13 2), (n z13 3), (n z13 4), (n z13 5)] fun z14 =>
.calls F.ref04_anyType sg_ref04_anyType [(n z14 1), (n z14 2), (n z14 3), (n z14 4), (n z14 5)] fun z15 =>
.l (.okcs [(1, false), (6, true)]) [(n z13 0), (n z15 0)] fun x16 =>
.l (.lst 7 true) [(.agg [(n z13 0), (c 0 (n z15 0)), (c 1 (n z15 0)), (c 2 (n z15 0)), (c 3 (n z15 0)), (c 4 (n z15 0)), (c 5 (n z15 0))])] fun x17 =>
.l (.app 7 true 104) [(n y8 1), x17] fun x18 =>
.call F.ref04_text [(.box (.agg [(n z15 1), (n z15 2), (n z15 3), (n z15 4), (n z15 5)]))] fun x19 =>
.l .gnd [x19] fun x20 =>
.l (.scmp .neq) [x20, (.str ⟨#[44]⟩)] fun x21 =>
.ite x21 (
.calls F.ref04_need sg_ref04_need [(.str ⟨#[41]⟩), (n z15 1), (n z15 2), (n z15 3), (n z15 4), (n z15 5)] fun z22 =>
.calls F.ref04_need sg_ref04_need [(.str ⟨#[61]⟩), (n z22 1), (n z22 2), (n z22 3), (n z22 4), (n z22 5)] fun z23 =>
.calls F.ref04_process sg_ref04_process [(n z23 1), (n z23 2), (n z23 3), (n z23 4), (n z23 5)] fun z24 =>
.l (.okc 12 true) [(n z24 0)] fun x25 =>
.calls F.ref04_need sg_ref04_need [(.str ⟨#[59]⟩), (n z24 1), (n z24 2), (n z24 3), (n z24 4), (n z24 5)] fun z26 =>
.l (.lst 14 true) [(.agg [(n y8 0), x18, (c 0 x25), (c 1 x25), (c 2 x25), (c 3 x25), (c 4 x25), (c 5 x25), (c 6 x25), (c 7 x25), (c 8 x25), (c 9 x25), (c 10 x25), (c 11 x25)])] fun x27 =>
.l (.app 14 true 240) [(n y0 0), x27] fun x28 =>
.cont 0 [x28, (n y0 1), (n y0 2), (n y0 3), (n y0 4), (n y0 5), (n y0 6), (n y0 7), (n y0 8), (n y0 9), (n y0 10), (n y0 11), (n y0 12), (n z26 1), (n z26 2), (n z26 3), (n z26 4), (n z26 5)]) (
.calls F.ref04_need sg_ref04_need [(.str ⟨#[44]⟩), (n z15 1), (n z15 2), (n z15 3), (n z15 4), (n z15 5)] fun z22 =>
.cont 1 [(n y8 0), x18, (n y8 2), (n y8 3), (n y8 4), (n y8 5), (n y8 6), (n y8 7), (n y8 8), (n y8 9), (n y8 10), (n y8 11), (n y8 12), (n y8 13), (n z22 1), (n z22 2), (n z22 3), (n z22 4), (n z22 5)])) (
.l .len [(n y8 1)] fun x13 =>
.l (.cmp .gtr .i64) [x13, (i 0)] fun x14 =>
.ite x14 (
.calls F.ref04_name sg_ref04_name [(n y8 14), (n y8 15), (n y8 16), (n y8 17), (n y8 18)] fun z15 =>
.calls F.ref04_need sg_ref04_need [(.str ⟨#[58]⟩), (n z15 1), (n z15 2), (n z15 3), (n z15 4), (n z15 5)] fun z16 =>
.calls F.ref04_anyType sg_ref04_anyType [(n z16 1), (n z16 2), (n z16 3), (n z16 4), (n z16 5)] fun z17 =>
.l (.okcs [(1, false), (6, true)]) [(n z15 0), (n z17 0)] fun x18 =>
.l (.lst 7 true) [(.agg [(n z15 0), (c 0 (n z17 0)), (c 1 (n z17 0)), (c 2 (n z17 0)), (c 3 (n z17 0)), (c 4 (n z17 0)), (c 5 (n z17 0))])] fun x19 =>
.l (.app 7 true 104) [(n y8 1), x19] fun x20 =>
.call F.ref04_text [(.box (.agg [(n z17 1), (n z17 2), (n z17 3), (n z17 4), (n z17 5)]))] fun x21 =>
.l .gnd [x21] fun x22 =>
.l (.scmp .neq) [x22, (.str ⟨#[44]⟩)] fun x23 =>
.ite x23 (
.calls F.ref04_need sg_ref04_need [(.str ⟨#[41]⟩), (n z17 1), (n z17 2), (n z17 3), (n z17 4), (n z17 5)] fun z24 =>
.calls F.ref04_need sg_ref04_need [(.str ⟨#[61]⟩), (n z24 1), (n z24 2), (n z24 3), (n z24 4), (n z24 5)] fun z25 =>
.calls F.ref04_process sg_ref04_process [(n z25 1), (n z25 2), (n z25 3), (n z25 4), (n z25 5)] fun z26 =>
.l (.okc 12 true) [(n z26 0)] fun x27 =>
.calls F.ref04_need sg_ref04_need [(.str ⟨#[59]⟩), (n z26 1), (n z26 2), (n z26 3), (n z26 4), (n z26 5)] fun z28 =>
.l (.lst 14 true) [(.agg [(n y8 0), x20, (c 0 x27), (c 1 x27), (c 2 x27), (c 3 x27), (c 4 x27), (c 5 x27), (c 6 x27), (c 7 x27), (c 8 x27), (c 9 x27), (c 10 x27), (c 11 x27)])] fun x29 =>
.l (.app 14 true 240) [(n y0 0), x29] fun x30 =>
.cont 0 [x30, (n y0 1), (n y0 2), (n y0 3), (n y0 4), (n y0 5), (n y0 6), (n y0 7), (n y0 8), (n y0 9), (n y0 10), (n y0 11), (n y0 12), (n z28 1), (n z28 2), (n z28 3), (n z28 4), (n z28 5)]) (
.calls F.ref04_need sg_ref04_need [(.str ⟨#[44]⟩), (n z17 1), (n z17 2), (n z17 3), (n z17 4), (n z17 5)] fun z24 =>
.cont 1 [(n y8 0), x20, (n y8 2), (n y8 3), (n y8 4), (n y8 5), (n y8 6), (n y8 7), (n y8 8), (n y8 9), (n y8 10), (n y8 11), (n y8 12), (n y8 13), (n z24 1), (n z24 2), (n z24 3), (n z24 4), (n z24 5)])) (
.calls F.ref04_need sg_ref04_need [(.str ⟨#[41]⟩), (n y8 14), (n y8 15), (n y8 16), (n y8 17), (n y8 18)] fun z15 =>
.calls F.ref04_need sg_ref04_need [(.str ⟨#[61]⟩), (n z15 1), (n z15 2), (n z15 3), (n z15 4), (n z15 5)] fun z16 =>
.calls F.ref04_process sg_ref04_process [(n z16 1), (n z16 2), (n z16 3), (n z16 4), (n z16 5)] fun z17 =>
.l (.okc 12 true) [(n z17 0)] fun x18 =>
.calls F.ref04_need sg_ref04_need [(.str ⟨#[59]⟩), (n z17 1), (n z17 2), (n z17 3), (n z17 4), (n z17 5)] fun z19 =>
.l (.lst 14 true) [(.agg [(n y8 0), (n y8 1), (c 0 x18), (c 1 x18), (c 2 x18), (c 3 x18), (c 4 x18), (c 5 x18), (c 6 x18), (c 7 x18), (c 8 x18), (c 9 x18), (c 10 x18), (c 11 x18)])] fun x20 =>
.l (.app 14 true 240) [(n y0 0), x20] fun x21 =>
.cont 0 [x21, (n y0 1), (n y0 2), (n y0 3), (n y0 4), (n y0 5), (n y0 6), (n y0 7), (n y0 8), (n y0 9), (n y0 10), (n y0 11), (n y0 12), (n z19 1), (n z19 2), (n z19 3), (n z19 4), (n z19 5)]))) (
.calls F.ref04_need sg_ref04_need [(.str ⟨#[41]⟩), (n y8 14), (n y8 15), (n y8 16), (n y8 17), (n y8 18)] fun z10 =>
.calls F.ref04_need sg_ref04_need [(.str ⟨#[61]⟩), (n z10 1), (n z10 2), (n z10 3), (n z10 4), (n z10 5)] fun z11 =>
.calls F.ref04_process sg_ref04_process [(n z11 1), (n z11 2), (n z11 3), (n z11 4), (n z11 5)] fun z12 =>
.l (.okc 12 true) [(n z12 0)] fun x13 =>
.calls F.ref04_need sg_ref04_need [(.str ⟨#[59]⟩), (n z12 1), (n z12 2), (n z12 3), (n z12 4), (n z12 5)] fun z14 =>
.l (.lst 14 true) [(.agg [(n y8 0), (n y8 1), (c 0 x13), (c 1 x13), (c 2 x13), (c 3 x13), (c 4 x13), (c 5 x13), (c 6 x13), (c 7 x13), (c 8 x13), (c 9 x13), (c 10 x13), (c 11 x13)])] fun x15 =>
.l (.app 14 true 240) [(n y0 0), x15] fun x16 =>
.cont 0 [x16, (n y0 1), (n y0 2), (n y0 3), (n y0 4), (n y0 5), (n y0 6), (n y0 7), (n y0 8), (n y0 9), (n y0 10), (n y0 11), (n y0 12), (n z14 1), (n z14 2), (n z14 3), (n z14 4), (n z14 5)])) (
.calls F.ref04_need sg_ref04_need [(.str ⟨#[109, 97, 105, 110]⟩), (n y0 13), (n y0 14), (n y0 15), (n y0 16), (n y0 17)] fun z4 =>
.calls F.ref04_need sg_ref04_need [(.str ⟨#[61]⟩), (n z4 1), (n z4 2), (n z4 3), (n z4 4), (n z4 5)] fun z5 =>
.calls F.ref04_process sg_ref04_process [(n z5 1), (n z5 2), (n z5 3), (n z5 4), (n z5 5)] fun z6 =>
.l (.okc 12 true) [(n z6 0)] fun x7 =>
.calls F.ref04_need sg_ref04_need [(.str ⟨#[59]⟩), (n z6 1), (n z6 2), (n z6 3), (n z6 4), (n z6 5)] fun z8 =>
.ret (.tup [(.agg [(n y0 0), (c 0 x7), (c 1 x7), (c 2 x7), (c 3 x7), (c 4 x7), (c 5 x7), (c 6 x7), (c 7 x7), (c 8 x7), (c 9 x7), (c 10 x7), (c 11 x7)]), (n z8 1), (n z8 2), (n z8 3), (n z8 4), (n z8 5)]))
theorem m_ref04_program : TxOkS P F.ref04_program sg_ref04_program u_ref04_program := txOkS_of (H := { wr := [], ro := [63, 110], nl := [], fz := [], da := [], sigs := [(45, sg_ref04_program), (46, sg_ref04_finish), (64, sg_ref04_need), (65, sg_ref04_name), (66, sg_ref04_anyType), (67, sg_ref04_process), (68, sg_ref04_fail), (83, sg_ref04_payload), (84, sg_ref04_session), (85, sg_ref04_single), (94, sg_ref04_variable), (95, sg_ref04_transmission), (96, sg_ref04_labels), (97, sg_ref04_after), (103, sg_ref04_small), (104, sg_ref04_prio), (105, sg_ref04_value), (44, sg_ref04_start)] }) (plans := []) hm Tryz.func45 rfl fun xs => by kernel_rfl
-- NOT TOLD: 46 duologue/duologueref04.finish: 2
def u_ref04_finish (xs : List PV) : T PV :=
.l .len [(n xs 1)] fun x0 =>
.l (.cmp .lss .i64) [(n xs 2), x0] fun x1 =>
.ite x1 (
.calls F.ref04_fail sg_ref04_fail [(i 1), (n xs 1), (n xs 2), (n xs 3), (n xs 4), (n xs 5)] fun z2 =>
.l (.cmp .eql .i64) [(n z2 4), (i 0)] fun x3 =>
.ite x3 (
.l .bnot [(n xs 0)] fun x4 =>
.ite x4 (
.l (.okc 1 false) [(i 2)] fun x5 =>
.l (.okc 1 false) [(n z2 3)] fun x6 =>
.ret (.tup [(.tup []), (n z2 1), (n z2 2), (n z2 3), x5, x6])) (
.ret (.tup [(.tup []), (n z2 1), (n z2 2), (n z2 3), (n z2 4), (n z2 5)]))) (
.ret (.tup [(.tup []), (n z2 1), (n z2 2), (n z2 3), (n z2 4), (n z2 5)]))) (
.l (.cmp .eql .i64) [(n xs 4), (i 0)] fun x2 =>
.ite x2 (
.l .bnot [(n xs 0)] fun x3 =>
.ite x3 (
.l (.okc 1 false) [(i 2)] fun x4 =>
.l (.okc 1 false) [(n xs 3)] fun x5 =>
.ret (.tup [(.tup []), (n xs 1), (n xs 2), (n xs 3), x4, x5])) (
.ret (.tup [(.tup []), (n xs 1), (n xs 2), (n xs 3), (n xs 4), (n xs 5)]))) (
.ret (.tup [(.tup []), (n xs 1), (n xs 2), (n xs 3), (n xs 4), (n xs 5)])))
theorem m_ref04_finish : TxOkS P F.ref04_finish sg_ref04_finish u_ref04_finish := txOkS_of (H := { wr := [], ro := [63, 110], nl := [], fz := [], da := [], sigs := [(45, sg_ref04_program), (46, sg_ref04_finish), (64, sg_ref04_need), (65, sg_ref04_name), (66, sg_ref04_anyType), (67, sg_ref04_process), (68, sg_ref04_fail), (83, sg_ref04_payload), (84, sg_ref04_session), (85, sg_ref04_single), (94, sg_ref04_variable), (95, sg_ref04_transmission), (96, sg_ref04_labels), (97, sg_ref04_after), (103, sg_ref04_small), (104, sg_ref04_prio), (105, sg_ref04_value), (44, sg_ref04_start)] }) (plans := []) hm Tryz.func46 rfl fun xs => by kernel_rfl
def t_ref04_Fits (xs : List PV) : T PV :=
.l (.okc 13 true) [(n xs 0)] fun x0 =>
.call F.ref04_deep [(sb 1 12 x0)] fun x1 =>
.l (.cmp .gtr .i64) [x1, (i 100)] fun x2 =>
.ite x2 (
.ret (.bool false)) (
.call F.ref03_Total [x0] fun x3 =>
.l (.cmp .gtr .i64) [x3, (i 10000)] fun x4 =>
.ite x4 (
.ret (.bool false)) (
.loop [(i 0)] fun y5 =>
.l .len [(c 0 x0)] fun x6 =>
.l (.cmp .lss .i64) [(n y5 0), x6] fun x7 =>
.ite x7 (
.l (.idx 14 true) [(c 0 x0), (n y5 0)] fun x8 =>
.call F.ref04_deep [(sb 2 12 x8)] fun x9 =>
.l (.cmp .gtr .i64) [x9, (i 100)] fun x10 =>
.ite x10 (
.ret (.bool false)) (
.loop [(i 0)] fun y11 =>
.l (.idx 14 true) [(c 0 x0), (n y5 0)] fun x12 =>
.l .len [(c 1 x12)] fun x13 =>
.l (.cmp .lss .i64) [(n y11 0), x13] fun x14 =>
.ite x14 (
.l (.idx 14 true) [(c 0 x0), (n y5 0)] fun x15 =>
.l (.idx 7 true) [(c 1 x15), (n y11 0)] fun x16 =>
.call F.ref02_Depth [(sb 1 6 x16)] fun x17 =>
.l (.cmp .gtr .i64) [x17, (i 100)] fun x18 =>
.ite x18 (
.ret (.bool false)) (
.l (.arith .add .i64) [(n y11 0), (i 1)] fun x19 =>
.cont 1 [x19])) (
.l (.arith .add .i64) [(n y5 0), (i 1)] fun x15 =>
.cont 0 [x15]))) (
.ret (.bool true))))
theorem k_ref04_Fits : TxOk P F.ref04_Fits 1 t_ref04_Fits := txOk_of (H := { wr := [], ro := [63, 110], nl := [], fz := [], da := [], sigs := [] }) (plans := []) hm Tryz.func47 rfl rfl fun xs => by kernel_rfl
def t_ref02_Few (xs : List PV) : T PV :=
.l (.okc 6 true) [(n xs 0)] fun x0 =>
.call F.ref02_count [x0, (n xs 1)] fun x1 =>
.l (.cmp .geq .i64) [x1, (i 0)] fun x2 =>
.ite x2 (
.call F.ref02_Depth [x0] fun x3 =>
.l (.cmp .leq .i64) [x3, (i 150)] fun x4 =>
.ret x4) (
.ret (.bool false))
theorem k_ref02_Few : TxOk P F.ref02_Few 2 t_ref02_Few := txOk_of (H := {}) (plans := []) hm Tryz.func48 rfl rfl fun xs => by kernel_rfl
def t_ref03_Program (xs : List PV) : T PV :=
.l (.okc 13 true) [(n xs 0)] fun x0 =>
.call F.ref03_Total [x0] fun x1 =>
.l (.cmp .gtr .i64) [x1, (i 10000)] fun x2 =>
.ite x2 (
.ret (i 2)) (
.loop [(i 0)] fun y3 =>
.l .len [(c 0 x0)] fun x4 =>
.l (.cmp .lss .i64) [(n y3 0), x4] fun x5 =>
.ite x5 (
.l (.idx 14 true) [(c 0 x0), (n y3 0)] fun x6 =>
.call F.ref03_Right [(sb 2 12 x6)] fun x7 =>
.l (.cmp .neq .i64) [x7, (i 0)] fun x8 =>
.ite x8 (
.ret x7) (
.l (.arith .add .i64) [(n y3 0), (i 1)] fun x9 =>
.cont 0 [x9])) (
.call F.ref03_Right [(sb 1 12 x0)] fun x6 =>
.l (.cmp .neq .i64) [x6, (i 0)] fun x7 =>
.ite x7 (
.ret x6) (
.loop [(i 0)] fun y8 =>
.l .len [(c 0 x0)] fun x9 =>
.l (.cmp .lss .i64) [(n y8 0), x9] fun x10 =>
.ite x10 (
.l (.idx 14 true) [(c 0 x0), (n y8 0)] fun x11 =>
.l (.okc 14 true) [x11] fun x12 =>
.call F.ref03_name [(c 0 x12)] fun x13 =>
.l .bnot [x13] fun x14 =>
.ite x14 (
.ret (i 3)) (
.loop [(i 0)] fun y15 =>
.l .len [(c 1 x12)] fun x16 =>
.l (.cmp .lss .i64) [(n y15 0), x16] fun x17 =>
.ite x17 (
.l (.idx 7 true) [(c 1 x12), (n y15 0)] fun x18 =>
.call F.ref03_name [(c 0 x18)] fun x19 =>
.l .bnot [x19] fun x20 =>
.ite x20 (
.ret (i 3)) (
.l (.idx 7 true) [(c 1 x12), (n y15 0)] fun x21 =>
.call F.ref02_Right [(sb 1 6 x21)] fun x22 =>
.l (.cmp .neq .i64) [x22, (i 0)] fun x23 =>
.ite x23 (
.ret (i 3)) (
.l (.arith .add .i64) [(n y15 0), (i 1)] fun x24 =>
.cont 2 [x24]))) (
.l (.arith .add .i64) [(n y8 0), (i 1)] fun x18 =>
.cont 1 [x18]))) (
.ret (i 0)))))
theorem k_ref03_Program : TxOk P F.ref03_Program 1 t_ref03_Program := txOk_of (H := {}) (plans := []) hm Tryz.func49 rfl rfl fun xs => by kernel_rfl
def t_ref06_Find (xs : List PV) : T PV :=
.l (.okc 13 true) [(n xs 0)] fun x0 =>
.loop [(i 0)] fun y1 =>
.l .len [(c 0 x0)] fun x2 =>
.l (.cmp .lss .i64) [(n y1 0), x2] fun x3 =>
.ite x3 (
.l (.idx 14 true) [(c 0 x0), (n y1 0)] fun x4 =>
.l (.scmp .eql) [(c 0 x4), (n xs 1)] fun x5 =>
.ite x5 (
.ret (n y1 0)) (
.l (.arith .add .i64) [(n y1 0), (i 1)] fun x6 =>
.cont 0 [x6])) (
.ret (i (-1)))
theorem k_ref06_Find : TxOk P F.ref06_Find 2 t_ref06_Find := txOk_of (H := {}) (plans := []) hm Tryz.func50 rfl rfl fun xs => by kernel_rfl
def t_ref06_node (xs : List PV) : T PV :=
.l (.okc 13 true) [(n xs 0)] fun x0 =>
.l (.okc 12 true) [(n xs 1)] fun x1 =>
.l (.cmp .geq .i64) [(c 0 x1), (i 2)] fun x2 =>
.ite x2 (
.l (.cmp .leq .i64) [(c 0 x1), (i 5)] fun x3 =>
.ite x3 (
.call F.ref03_In [(c 1 x1), (n xs 2)] fun x4 =>
.l .bnot [x4] fun x5 =>
.ite x5 (
.ret (i 4)) (
.loop [(i 0)] fun y6 =>
.l .len [(c 4 x1)] fun x7 =>
.l (.cmp .lss .i64) [(n y6 0), x7] fun x8 =>
.ite x8 (
.l (.idx 3 true) [(c 4 x1), (n y6 0)] fun x9 =>
.l (.cmp .eql .i64) [(c 0 x9), (i 1)] fun x10 =>
.ite x10 (
.l (.idx 3 true) [(c 4 x1), (n y6 0)] fun x11 =>
.call F.ref03_In [(c 1 x11), (n xs 2)] fun x12 =>
.l .bnot [x12] fun x13 =>
.ite x13 (
.ret (i 4)) (
.l (.arith .add .i64) [(n y6 0), (i 1)] fun x14 =>
.cont 0 [x14])) (
.l (.arith .add .i64) [(n y6 0), (i 1)] fun x11 =>
.cont 0 [x11])) (
.l (.lst 1 false) [] fun x9 =>
.l (.app 1 false 16) [x9, (n xs 2)] fun x10 =>
.l (.cmp .eql .i64) [(c 0 x1), (i 3)] fun x11 =>
.ite x11 (
.l (.lst 1 false) [(c 2 x1)] fun x12 =>
.l (.app 1 false 16) [x10, x12] fun x13 =>
.l (.cmp .eql .i64) [(c 0 x1), (i 6)] fun x14 =>
.ite x14 (
.l (.lst 1 false) [(c 1 x1), (c 2 x1)] fun x15 =>
.l (.app 1 false 16) [x13, x15] fun x16 =>
.l .len [(n xs 2)] fun x17 =>
.loop [x17] fun y18 =>
.l .len [x16] fun x19 =>
.l (.cmp .lss .i64) [(n y18 0), x19] fun x20 =>
.ite x20 (
.l (.idx 1 false) [x16, (n y18 0)] fun x21 =>
.call F.ref03_In [x21, (n xs 2)] fun x22 =>
.ite x22 (
.ret (i 5)) (
.l (.arith .add .i64) [(n y18 0), (i 1)] fun x23 =>
.cont 1 [x23])) (
.l (.cmp .eql .i64) [(c 0 x1), (i 8)] fun x21 =>
.ite x21 (
.call F.ref06_Find [x0, (c 1 x1)] fun x22 =>
.l (.cmp .lss .i64) [x22, (i 0)] fun x23 =>
.ite x23 (
.ret (i 4)) (
.l (.idx 14 true) [(c 0 x0), x22] fun x24 =>
.l .len [(c 1 x24)] fun x25 =>
.l .len [(c 4 x1)] fun x26 =>
.l (.cmp .neq .i64) [x25, x26] fun x27 =>
.ite x27 (
.ret (i 6)) (
.l .bnot [(n xs 3)] fun x28 =>
.ite x28 (
.ret (i 7)) (
.loop [(i 0)] fun y29 =>
.l .len [(c 11 x1)] fun x30 =>
.l (.cmp .lss .i64) [(n y29 0), x30] fun x31 =>
.ite x31 (
.l (.idx 12 true) [(c 11 x1), (n y29 0)] fun x32 =>
.ite (n xs 3) (
.call F.ref06_node [x0, x32, x16, (.bool true)] fun x33 =>
.l (.cmp .neq .i64) [x33, (i 0)] fun x34 =>
.ite x34 (
.ret x33) (
.l (.arith .add .i64) [(n y29 0), (i 1)] fun x35 =>
.cont 2 [x35])) (
.l (.cmp .geq .i64) [(c 0 x1), (i 2)] fun x33 =>
.ite x33 (
.l (.cmp .leq .i64) [(c 0 x1), (i 5)] fun x34 =>
.call F.ref06_node [x0, x32, x16, x34] fun x35 =>
.l (.cmp .neq .i64) [x35, (i 0)] fun x36 =>
.ite x36 (
.ret x35) (
.l (.arith .add .i64) [(n y29 0), (i 1)] fun x37 =>
.cont 2 [x37])) (
.call F.ref06_node [x0, x32, x16, (.bool false)] fun x34 =>
.l (.cmp .neq .i64) [x34, (i 0)] fun x35 =>
.ite x35 (
.ret x34) (
.l (.arith .add .i64) [(n y29 0), (i 1)] fun x36 =>
.cont 2 [x36])))) (
.ret (i 0)))))) (
.loop [(i 0)] fun y22 =>
.l .len [(c 11 x1)] fun x23 =>
.l (.cmp .lss .i64) [(n y22 0), x23] fun x24 =>
.ite x24 (
.l (.idx 12 true) [(c 11 x1), (n y22 0)] fun x25 =>
.ite (n xs 3) (
.call F.ref06_node [x0, x25, x16, (.bool true)] fun x26 =>
.l (.cmp .neq .i64) [x26, (i 0)] fun x27 =>
.ite x27 (
.ret x26) (
.l (.arith .add .i64) [(n y22 0), (i 1)] fun x28 =>
.cont 2 [x28])) (
.l (.cmp .geq .i64) [(c 0 x1), (i 2)] fun x26 =>
.ite x26 (
.l (.cmp .leq .i64) [(c 0 x1), (i 5)] fun x27 =>
.call F.ref06_node [x0, x25, x16, x27] fun x28 =>
.l (.cmp .neq .i64) [x28, (i 0)] fun x29 =>
.ite x29 (
.ret x28) (
.l (.arith .add .i64) [(n y22 0), (i 1)] fun x30 =>
.cont 2 [x30])) (
.call F.ref06_node [x0, x25, x16, (.bool false)] fun x27 =>
.l (.cmp .neq .i64) [x27, (i 0)] fun x28 =>
.ite x28 (
.ret x27) (
.l (.arith .add .i64) [(n y22 0), (i 1)] fun x29 =>
.cont 2 [x29])))) (
.ret (i 0))))) (
.l .len [(n xs 2)] fun x15 =>
.loop [x15] fun y16 =>
.l .len [x13] fun x17 =>
.l (.cmp .lss .i64) [(n y16 0), x17] fun x18 =>
.ite x18 (
.l (.idx 1 false) [x13, (n y16 0)] fun x19 =>
.call F.ref03_In [x19, (n xs 2)] fun x20 =>
.ite x20 (
.ret (i 5)) (
.l (.arith .add .i64) [(n y16 0), (i 1)] fun x21 =>
.cont 1 [x21])) (
.l (.cmp .eql .i64) [(c 0 x1), (i 8)] fun x19 =>
.ite x19 (
.call F.ref06_Find [x0, (c 1 x1)] fun x20 =>
.l (.cmp .lss .i64) [x20, (i 0)] fun x21 =>
.ite x21 (
.ret (i 4)) (
.l (.idx 14 true) [(c 0 x0), x20] fun x22 =>
.l .len [(c 1 x22)] fun x23 =>
.l .len [(c 4 x1)] fun x24 =>
.l (.cmp .neq .i64) [x23, x24] fun x25 =>
.ite x25 (
.ret (i 6)) (
.l .bnot [(n xs 3)] fun x26 =>
.ite x26 (
.ret (i 7)) (
.loop [(i 0)] fun y27 =>
.l .len [(c 11 x1)] fun x28 =>
.l (.cmp .lss .i64) [(n y27 0), x28] fun x29 =>
.ite x29 (
.l (.idx 12 true) [(c 11 x1), (n y27 0)] fun x30 =>
.ite (n xs 3) (
.call F.ref06_node [x0, x30, x13, (.bool true)] fun x31 =>
.l (.cmp .neq .i64) [x31, (i 0)] fun x32 =>
.ite x32 (
.ret x31) (
.l (.arith .add .i64) [(n y27 0), (i 1)] fun x33 =>
.cont 2 [x33])) (
.l (.cmp .geq .i64) [(c 0 x1), (i 2)] fun x31 =>
.ite x31 (
.l (.cmp .leq .i64) [(c 0 x1), (i 5)] fun x32 =>
.call F.ref06_node [x0, x30, x13, x32] fun x33 =>
.l (.cmp .neq .i64) [x33, (i 0)] fun x34 =>
.ite x34 (
.ret x33) (
.l (.arith .add .i64) [(n y27 0), (i 1)] fun x35 =>
.cont 2 [x35])) (
.call F.ref06_node [x0, x30, x13, (.bool false)] fun x32 =>
.l (.cmp .neq .i64) [x32, (i 0)] fun x33 =>
.ite x33 (
.ret x32) (
.l (.arith .add .i64) [(n y27 0), (i 1)] fun x34 =>
.cont 2 [x34])))) (
.ret (i 0)))))) (
.loop [(i 0)] fun y20 =>
.l .len [(c 11 x1)] fun x21 =>
.l (.cmp .lss .i64) [(n y20 0), x21] fun x22 =>
.ite x22 (
.l (.idx 12 true) [(c 11 x1), (n y20 0)] fun x23 =>
.ite (n xs 3) (
.call F.ref06_node [x0, x23, x13, (.bool true)] fun x24 =>
.l (.cmp .neq .i64) [x24, (i 0)] fun x25 =>
.ite x25 (
.ret x24) (
.l (.arith .add .i64) [(n y20 0), (i 1)] fun x26 =>
.cont 2 [x26])) (
.l (.cmp .geq .i64) [(c 0 x1), (i 2)] fun x24 =>
.ite x24 (
.l (.cmp .leq .i64) [(c 0 x1), (i 5)] fun x25 =>
.call F.ref06_node [x0, x23, x13, x25] fun x26 =>
.l (.cmp .neq .i64) [x26, (i 0)] fun x27 =>
.ite x27 (
.ret x26) (
.l (.arith .add .i64) [(n y20 0), (i 1)] fun x28 =>
.cont 2 [x28])) (
.call F.ref06_node [x0, x23, x13, (.bool false)] fun x25 =>
.l (.cmp .neq .i64) [x25, (i 0)] fun x26 =>
.ite x26 (
.ret x25) (
.l (.arith .add .i64) [(n y20 0), (i 1)] fun x27 =>
.cont 2 [x27])))) (
.ret (i 0)))))) (
.l (.cmp .eql .i64) [(c 0 x1), (i 6)] fun x12 =>
.ite x12 (
.l (.lst 1 false) [(c 1 x1), (c 2 x1)] fun x13 =>
.l (.app 1 false 16) [x10, x13] fun x14 =>
.l .len [(n xs 2)] fun x15 =>
.loop [x15] fun y16 =>
.l .len [x14] fun x17 =>
.l (.cmp .lss .i64) [(n y16 0), x17] fun x18 =>
.ite x18 (
.l (.idx 1 false) [x14, (n y16 0)] fun x19 =>
.call F.ref03_In [x19, (n xs 2)] fun x20 =>
.ite x20 (
.ret (i 5)) (
.l (.arith .add .i64) [(n y16 0), (i 1)] fun x21 =>
.cont 1 [x21])) (
.l (.cmp .eql .i64) [(c 0 x1), (i 8)] fun x19 =>
.ite x19 (
.call F.ref06_Find [x0, (c 1 x1)] fun x20 =>
.l (.cmp .lss .i64) [x20, (i 0)] fun x21 =>
.ite x21 (
.ret (i 4)) (
.l (.idx 14 true) [(c 0 x0), x20] fun x22 =>
.l .len [(c 1 x22)] fun x23 =>
.l .len [(c 4 x1)] fun x24 =>
.l (.cmp .neq .i64) [x23, x24] fun x25 =>
.ite x25 (
.ret (i 6)) (
.l .bnot [(n xs 3)] fun x26 =>
.ite x26 (
.ret (i 7)) (
.loop [(i 0)] fun y27 =>
.l .len [(c 11 x1)] fun x28 =>
.l (.cmp .lss .i64) [(n y27 0), x28] fun x29 =>
.ite x29 (
.l (.idx 12 true) [(c 11 x1), (n y27 0)] fun x30 =>
.ite (n xs 3) (
.call F.ref06_node [x0, x30, x14, (.bool true)] fun x31 =>
.l (.cmp .neq .i64) [x31, (i 0)] fun x32 =>
.ite x32 (
.ret x31) (
.l (.arith .add .i64) [(n y27 0), (i 1)] fun x33 =>
.cont 2 [x33])) (
.l (.cmp .geq .i64) [(c 0 x1), (i 2)] fun x31 =>
.ite x31 (
.l (.cmp .leq .i64) [(c 0 x1), (i 5)] fun x32 =>
.call F.ref06_node [x0, x30, x14, x32] fun x33 =>
.l (.cmp .neq .i64) [x33, (i 0)] fun x34 =>
.ite x34 (
.ret x33) (
.l (.arith .add .i64) [(n y27 0), (i 1)] fun x35 =>
.cont 2 [x35])) (
.call F.ref06_node [x0, x30, x14, (.bool false)] fun x32 =>
.l (.cmp .neq .i64) [x32, (i 0)] fun x33 =>
.ite x33 (
.ret x32) (
.l (.arith .add .i64) [(n y27 0), (i 1)] fun x34 =>
.cont 2 [x34])))) (
.ret (i 0)))))) (
.loop [(i 0)] fun y20 =>
.l .len [(c 11 x1)] fun x21 =>
.l (.cmp .lss .i64) [(n y20 0), x21] fun x22 =>
.ite x22 (
.l (.idx 12 true) [(c 11 x1), (n y20 0)] fun x23 =>
.ite (n xs 3) (
.call F.ref06_node [x0, x23, x14, (.bool true)] fun x24 =>
.l (.cmp .neq .i64) [x24, (i 0)] fun x25 =>
.ite x25 (
.ret x24) (
.l (.arith .add .i64) [(n y20 0), (i 1)] fun x26 =>
.cont 2 [x26])) (
.l (.cmp .geq .i64) [(c 0 x1), (i 2)] fun x24 =>
.ite x24 (
.l (.cmp .leq .i64) [(c 0 x1), (i 5)] fun x25 =>
.call F.ref06_node [x0, x23, x14, x25] fun x26 =>
.l (.cmp .neq .i64) [x26, (i 0)] fun x27 =>
.ite x27 (
.ret x26) (
.l (.arith .add .i64) [(n y20 0), (i 1)] fun x28 =>
.cont 2 [x28])) (
.call F.ref06_node [x0, x23, x14, (.bool false)] fun x25 =>
.l (.cmp .neq .i64) [x25, (i 0)] fun x26 =>
.ite x26 (
.ret x25) (
.l (.arith .add .i64) [(n y20 0), (i 1)] fun x27 =>
.cont 2 [x27])))) (
.ret (i 0))))) (
.l .len [(n xs 2)] fun x13 =>
.loop [x13] fun y14 =>
.l .len [x10] fun x15 =>
.l (.cmp .lss .i64) [(n y14 0), x15] fun x16 =>
.ite x16 (
.l (.idx 1 false) [x10, (n y14 0)] fun x17 =>
.call F.ref03_In [x17, (n xs 2)] fun x18 =>
.ite x18 (
.ret (i 5)) (
.l (.arith .add .i64) [(n y14 0), (i 1)] fun x19 =>
.cont 1 [x19])) (
.l (.cmp .eql .i64) [(c 0 x1), (i 8)] fun x17 =>
.ite x17 (
.call F.ref06_Find [x0, (c 1 x1)] fun x18 =>
.l (.cmp .lss .i64) [x18, (i 0)] fun x19 =>
.ite x19 (
.ret (i 4)) (
.l (.idx 14 true) [(c 0 x0), x18] fun x20 =>
.l .len [(c 1 x20)] fun x21 =>
.l .len [(c 4 x1)] fun x22 =>
.l (.cmp .neq .i64) [x21, x22] fun x23 =>
.ite x23 (
.ret (i 6)) (
.l .bnot [(n xs 3)] fun x24 =>
.ite x24 (
.ret (i 7)) (
.loop [(i 0)] fun y25 =>
.l .len [(c 11 x1)] fun x26 =>
.l (.cmp .lss .i64) [(n y25 0), x26] fun x27 =>
.ite x27 (
.l (.idx 12 true) [(c 11 x1), (n y25 0)] fun x28 =>
.ite (n xs 3) (
.call F.ref06_node [x0, x28, x10, (.bool true)] fun x29 =>
.l (.cmp .neq .i64) [x29, (i 0)] fun x30 =>
.ite x30 (
.ret x29) (
.l (.arith .add .i64) [(n y25 0), (i 1)] fun x31 =>
.cont 2 [x31])) (
.l (.cmp .geq .i64) [(c 0 x1), (i 2)] fun x29 =>
.ite x29 (
.l (.cmp .leq .i64) [(c 0 x1), (i 5)] fun x30 =>
.call F.ref06_node [x0, x28, x10, x30] fun x31 =>
.l (.cmp .neq .i64) [x31, (i 0)] fun x32 =>
.ite x32 (
.ret x31) (
.l (.arith .add .i64) [(n y25 0), (i 1)] fun x33 =>
.cont 2 [x33])) (
.call F.ref06_node [x0, x28, x10, (.bool false)] fun x30 =>
.l (.cmp .neq .i64) [x30, (i 0)] fun x31 =>
.ite x31 (
.ret x30) (
.l (.arith .add .i64) [(n y25 0), (i 1)] fun x32 =>
.cont 2 [x32])))) (
.ret (i 0)))))) (
.loop [(i 0)] fun y18 =>
.l .len [(c 11 x1)] fun x19 =>
.l (.cmp .lss .i64) [(n y18 0), x19] fun x20 =>
.ite x20 (
.l (.idx 12 true) [(c 11 x1), (n y18 0)] fun x21 =>
.ite (n xs 3) (
.call F.ref06_node [x0, x21, x10, (.bool true)] fun x22 =>
.l (.cmp .neq .i64) [x22, (i 0)] fun x23 =>
.ite x23 (
.ret x22) (
.l (.arith .add .i64) [(n y18 0), (i 1)] fun x24 =>
.cont 2 [x24])) (
.l (.cmp .geq .i64) [(c 0 x1), (i 2)] fun x22 =>
.ite x22 (
.l (.cmp .leq .i64) [(c 0 x1), (i 5)] fun x23 =>
.call F.ref06_node [x0, x21, x10, x23] fun x24 =>
.l (.cmp .neq .i64) [x24, (i 0)] fun x25 =>
.ite x25 (
.ret x24) (
.l (.arith .add .i64) [(n y18 0), (i 1)] fun x26 =>
.cont 2 [x26])) (
.call F.ref06_node [x0, x21, x10, (.bool false)] fun x23 =>
.l (.cmp .neq .i64) [x23, (i 0)] fun x24 =>
.ite x24 (
.ret x23) (
.l (.arith .add .i64) [(n y18 0), (i 1)] fun x25 =>
.cont 2 [x25])))) (
.ret (i 0))))))))) (
.loop [(i 0)] fun y4 =>
.l .len [(c 4 x1)] fun x5 =>
.l (.cmp .lss .i64) [(n y4 0), x5] fun x6 =>
.ite x6 (
.l (.idx 3 true) [(c 4 x1), (n y4 0)] fun x7 =>
.l (.cmp .eql .i64) [(c 0 x7), (i 1)] fun x8 =>
.ite x8 (
.l (.idx 3 true) [(c 4 x1), (n y4 0)] fun x9 =>
.call F.ref03_In [(c 1 x9), (n xs 2)] fun x10 =>
.l .bnot [x10] fun x11 =>
.ite x11 (
.ret (i 4)) (
.l (.arith .add .i64) [(n y4 0), (i 1)] fun x12 =>
.cont 0 [x12])) (
.l (.arith .add .i64) [(n y4 0), (i 1)] fun x9 =>
.cont 0 [x9])) (
.l (.lst 1 false) [] fun x7 =>
.l (.app 1 false 16) [x7, (n xs 2)] fun x8 =>
.l (.cmp .eql .i64) [(c 0 x1), (i 3)] fun x9 =>
.ite x9 (
.l (.lst 1 false) [(c 2 x1)] fun x10 =>
.l (.app 1 false 16) [x8, x10] fun x11 =>
.l (.cmp .eql .i64) [(c 0 x1), (i 6)] fun x12 =>
.ite x12 (
.l (.lst 1 false) [(c 1 x1), (c 2 x1)] fun x13 =>
.l (.app 1 false 16) [x11, x13] fun x14 =>
.l .len [(n xs 2)] fun x15 =>
.loop [x15] fun y16 =>
.l .len [x14] fun x17 =>
.l (.cmp .lss .i64) [(n y16 0), x17] fun x18 =>
.ite x18 (
.l (.idx 1 false) [x14, (n y16 0)] fun x19 =>
.call F.ref03_In [x19, (n xs 2)] fun x20 =>
.ite x20 (
.ret (i 5)) (
.l (.arith .add .i64) [(n y16 0), (i 1)] fun x21 =>
.cont 1 [x21])) (
.l (.cmp .eql .i64) [(c 0 x1), (i 8)] fun x19 =>
.ite x19 (
.call F.ref06_Find [x0, (c 1 x1)] fun x20 =>
.l (.cmp .lss .i64) [x20, (i 0)] fun x21 =>
.ite x21 (
.ret (i 4)) (
.l (.idx 14 true) [(c 0 x0), x20] fun x22 =>
.l .len [(c 1 x22)] fun x23 =>
.l .len [(c 4 x1)] fun x24 =>
.l (.cmp .neq .i64) [x23, x24] fun x25 =>
.ite x25 (
.ret (i 6)) (
.l .bnot [(n xs 3)] fun x26 =>
.ite x26 (
.ret (i 7)) (
.loop [(i 0)] fun y27 =>
.l .len [(c 11 x1)] fun x28 =>
.l (.cmp .lss .i64) [(n y27 0), x28] fun x29 =>
.ite x29 (
.l (.idx 12 true) [(c 11 x1), (n y27 0)] fun x30 =>
.ite (n xs 3) (
.call F.ref06_node [x0, x30, x14, (.bool true)] fun x31 =>
.l (.cmp .neq .i64) [x31, (i 0)] fun x32 =>
.ite x32 (
.ret x31) (
.l (.arith .add .i64) [(n y27 0), (i 1)] fun x33 =>
.cont 2 [x33])) (
.l (.cmp .geq .i64) [(c 0 x1), (i 2)] fun x31 =>
.ite x31 (
.l (.cmp .leq .i64) [(c 0 x1), (i 5)] fun x32 =>
.call F.ref06_node [x0, x30, x14, x32] fun x33 =>
.l (.cmp .neq .i64) [x33, (i 0)] fun x34 =>
.ite x34 (
.ret x33) (
.l (.arith .add .i64) [(n y27 0), (i 1)] fun x35 =>
.cont 2 [x35])) (
.call F.ref06_node [x0, x30, x14, (.bool false)] fun x32 =>
.l (.cmp .neq .i64) [x32, (i 0)] fun x33 =>
.ite x33 (
.ret x32) (
.l (.arith .add .i64) [(n y27 0), (i 1)] fun x34 =>
.cont 2 [x34])))) (
.ret (i 0)))))) (
.loop [(i 0)] fun y20 =>
.l .len [(c 11 x1)] fun x21 =>
.l (.cmp .lss .i64) [(n y20 0), x21] fun x22 =>
.ite x22 (
.l (.idx 12 true) [(c 11 x1), (n y20 0)] fun x23 =>
.ite (n xs 3) (
.call F.ref06_node [x0, x23, x14, (.bool true)] fun x24 =>
.l (.cmp .neq .i64) [x24, (i 0)] fun x25 =>
.ite x25 (
.ret x24) (
.l (.arith .add .i64) [(n y20 0), (i 1)] fun x26 =>
.cont 2 [x26])) (
.l (.cmp .geq .i64) [(c 0 x1), (i 2)] fun x24 =>
.ite x24 (
.l (.cmp .leq .i64) [(c 0 x1), (i 5)] fun x25 =>
.call F.ref06_node [x0, x23, x14, x25] fun x26 =>
.l (.cmp .neq .i64) [x26, (i 0)] fun x27 =>
.ite x27 (
.ret x26) (
.l (.arith .add .i64) [(n y20 0), (i 1)] fun x28 =>
.cont 2 [x28])) (
.call F.ref06_node [x0, x23, x14, (.bool false)] fun x25 =>
.l (.cmp .neq .i64) [x25, (i 0)] fun x26 =>
.ite x26 (
.ret x25) (
.l (.arith .add .i64) [(n y20 0), (i 1)] fun x27 =>
.cont 2 [x27])))) (
.ret (i 0))))) (
.l .len [(n xs 2)] fun x13 =>
.loop [x13] fun y14 =>
.l .len [x11] fun x15 =>
.l (.cmp .lss .i64) [(n y14 0), x15] fun x16 =>
.ite x16 (
.l (.idx 1 false) [x11, (n y14 0)] fun x17 =>
.call F.ref03_In [x17, (n xs 2)] fun x18 =>
.ite x18 (
.ret (i 5)) (
.l (.arith .add .i64) [(n y14 0), (i 1)] fun x19 =>
.cont 1 [x19])) (
.l (.cmp .eql .i64) [(c 0 x1), (i 8)] fun x17 =>
.ite x17 (
.call F.ref06_Find [x0, (c 1 x1)] fun x18 =>
.l (.cmp .lss .i64) [x18, (i 0)] fun x19 =>
.ite x19 (
.ret (i 4)) (
.l (.idx 14 true) [(c 0 x0), x18] fun x20 =>
.l .len [(c 1 x20)] fun x21 =>
.l .len [(c 4 x1)] fun x22 =>
.l (.cmp .neq .i64) [x21, x22] fun x23 =>
.ite x23 (
.ret (i 6)) (
.l .bnot [(n xs 3)] fun x24 =>
.ite x24 (
.ret (i 7)) (
.loop [(i 0)] fun y25 =>
.l .len [(c 11 x1)] fun x26 =>
.l (.cmp .lss .i64) [(n y25 0), x26] fun x27 =>
.ite x27 (
.l (.idx 12 true) [(c 11 x1), (n y25 0)] fun x28 =>
.ite (n xs 3) (
.call F.ref06_node [x0, x28, x11, (.bool true)] fun x29 =>
.l (.cmp .neq .i64) [x29, (i 0)] fun x30 =>
.ite x30 (
.ret x29) (
.l (.arith .add .i64) [(n y25 0), (i 1)] fun x31 =>
.cont 2 [x31])) (
.l (.cmp .geq .i64) [(c 0 x1), (i 2)] fun x29 =>
.ite x29 (
.l (.cmp .leq .i64) [(c 0 x1), (i 5)] fun x30 =>
.call F.ref06_node [x0, x28, x11, x30] fun x31 =>
.l (.cmp .neq .i64) [x31, (i 0)] fun x32 =>
.ite x32 (
.ret x31) (
.l (.arith .add .i64) [(n y25 0), (i 1)] fun x33 =>
.cont 2 [x33])) (
.call F.ref06_node [x0, x28, x11, (.bool false)] fun x30 =>
.l (.cmp .neq .i64) [x30, (i 0)] fun x31 =>
.ite x31 (
.ret x30) (
.l (.arith .add .i64) [(n y25 0), (i 1)] fun x32 =>
.cont 2 [x32])))) (
.ret (i 0)))))) (
.loop [(i 0)] fun y18 =>
.l .len [(c 11 x1)] fun x19 =>
.l (.cmp .lss .i64) [(n y18 0), x19] fun x20 =>
.ite x20 (
.l (.idx 12 true) [(c 11 x1), (n y18 0)] fun x21 =>
.ite (n xs 3) (
.call F.ref06_node [x0, x21, x11, (.bool true)] fun x22 =>
.l (.cmp .neq .i64) [x22, (i 0)] fun x23 =>
.ite x23 (
.ret x22) (
.l (.arith .add .i64) [(n y18 0), (i 1)] fun x24 =>
.cont 2 [x24])) (
.l (.cmp .geq .i64) [(c 0 x1), (i 2)] fun x22 =>
.ite x22 (
.l (.cmp .leq .i64) [(c 0 x1), (i 5)] fun x23 =>
.call F.ref06_node [x0, x21, x11, x23] fun x24 =>
.l (.cmp .neq .i64) [x24, (i 0)] fun x25 =>
.ite x25 (
.ret x24) (
.l (.arith .add .i64) [(n y18 0), (i 1)] fun x26 =>
.cont 2 [x26])) (
.call F.ref06_node [x0, x21, x11, (.bool false)] fun x23 =>
.l (.cmp .neq .i64) [x23, (i 0)] fun x24 =>
.ite x24 (
.ret x23) (
.l (.arith .add .i64) [(n y18 0), (i 1)] fun x25 =>
.cont 2 [x25])))) (
.ret (i 0)))))) (
.l (.cmp .eql .i64) [(c 0 x1), (i 6)] fun x10 =>
.ite x10 (
.l (.lst 1 false) [(c 1 x1), (c 2 x1)] fun x11 =>
.l (.app 1 false 16) [x8, x11] fun x12 =>
.l .len [(n xs 2)] fun x13 =>
.loop [x13] fun y14 =>
.l .len [x12] fun x15 =>
.l (.cmp .lss .i64) [(n y14 0), x15] fun x16 =>
.ite x16 (
.l (.idx 1 false) [x12, (n y14 0)] fun x17 =>
.call F.ref03_In [x17, (n xs 2)] fun x18 =>
.ite x18 (
.ret (i 5)) (
.l (.arith .add .i64) [(n y14 0), (i 1)] fun x19 =>
.cont 1 [x19])) (
.l (.cmp .eql .i64) [(c 0 x1), (i 8)] fun x17 =>
.ite x17 (
.call F.ref06_Find [x0, (c 1 x1)] fun x18 =>
.l (.cmp .lss .i64) [x18, (i 0)] fun x19 =>
.ite x19 (
.ret (i 4)) (
.l (.idx 14 true) [(c 0 x0), x18] fun x20 =>
.l .len [(c 1 x20)] fun x21 =>
.l .len [(c 4 x1)] fun x22 =>
.l (.cmp .neq .i64) [x21, x22] fun x23 =>
.ite x23 (
.ret (i 6)) (
.l .bnot [(n xs 3)] fun x24 =>
.ite x24 (
.ret (i 7)) (
.loop [(i 0)] fun y25 =>
.l .len [(c 11 x1)] fun x26 =>
.l (.cmp .lss .i64) [(n y25 0), x26] fun x27 =>
.ite x27 (
.l (.idx 12 true) [(c 11 x1), (n y25 0)] fun x28 =>
.ite (n xs 3) (
.call F.ref06_node [x0, x28, x12, (.bool true)] fun x29 =>
.l (.cmp .neq .i64) [x29, (i 0)] fun x30 =>
.ite x30 (
.ret x29) (
.l (.arith .add .i64) [(n y25 0), (i 1)] fun x31 =>
.cont 2 [x31])) (
.l (.cmp .geq .i64) [(c 0 x1), (i 2)] fun x29 =>
.ite x29 (
.l (.cmp .leq .i64) [(c 0 x1), (i 5)] fun x30 =>
.call F.ref06_node [x0, x28, x12, x30] fun x31 =>
.l (.cmp .neq .i64) [x31, (i 0)] fun x32 =>
.ite x32 (
.ret x31) (
.l (.arith .add .i64) [(n y25 0), (i 1)] fun x33 =>
.cont 2 [x33])) (
.call F.ref06_node [x0, x28, x12, (.bool false)] fun x30 =>
.l (.cmp .neq .i64) [x30, (i 0)] fun x31 =>
.ite x31 (
.ret x30) (
.l (.arith .add .i64) [(n y25 0), (i 1)] fun x32 =>
.cont 2 [x32])))) (
.ret (i 0)))))) (
.loop [(i 0)] fun y18 =>
.l .len [(c 11 x1)] fun x19 =>
.l (.cmp .lss .i64) [(n y18 0), x19] fun x20 =>
.ite x20 (
.l (.idx 12 true) [(c 11 x1), (n y18 0)] fun x21 =>
.ite (n xs 3) (
.call F.ref06_node [x0, x21, x12, (.bool true)] fun x22 =>
.l (.cmp .neq .i64) [x22, (i 0)] fun x23 =>
.ite x23 (
.ret x22) (
.l (.arith .add .i64) [(n y18 0), (i 1)] fun x24 =>
.cont 2 [x24])) (
.l (.cmp .geq .i64) [(c 0 x1), (i 2)] fun x22 =>
.ite x22 (
.l (.cmp .leq .i64) [(c 0 x1), (i 5)] fun x23 =>
.call F.ref06_node [x0, x21, x12, x23] fun x24 =>
.l (.cmp .neq .i64) [x24, (i 0)] fun x25 =>
.ite x25 (
.ret x24) (
.l (.arith .add .i64) [(n y18 0), (i 1)] fun x26 =>
.cont 2 [x26])) (
.call F.ref06_node [x0, x21, x12, (.bool false)] fun x23 =>
.l (.cmp .neq .i64) [x23, (i 0)] fun x24 =>
.ite x24 (
.ret x23) (
.l (.arith .add .i64) [(n y18 0), (i 1)] fun x25 =>
.cont 2 [x25])))) (
.ret (i 0))))) (
.l .len [(n xs 2)] fun x11 =>
.loop [x11] fun y12 =>
.l .len [x8] fun x13 =>
.l (.cmp .lss .i64) [(n y12 0), x13] fun x14 =>
.ite x14 (
.l (.idx 1 false) [x8, (n y12 0)] fun x15 =>
.call F.ref03_In [x15, (n xs 2)] fun x16 =>
.ite x16 (
.ret (i 5)) (
.l (.arith .add .i64) [(n y12 0), (i 1)] fun x17 =>
.cont 1 [x17])) (
.l (.cmp .eql .i64) [(c 0 x1), (i 8)] fun x15 =>
.ite x15 (
.call F.ref06_Find [x0, (c 1 x1)] fun x16 =>
.l (.cmp .lss .i64) [x16, (i 0)] fun x17 =>
.ite x17 (
.ret (i 4)) (
.l (.idx 14 true) [(c 0 x0), x16] fun x18 =>
.l .len [(c 1 x18)] fun x19 =>
.l .len [(c 4 x1)] fun x20 =>
.l (.cmp .neq .i64) [x19, x20] fun x21 =>
.ite x21 (
.ret (i 6)) (
.l .bnot [(n xs 3)] fun x22 =>
.ite x22 (
.ret (i 7)) (
.loop [(i 0)] fun y23 =>
.l .len [(c 11 x1)] fun x24 =>
.l (.cmp .lss .i64) [(n y23 0), x24] fun x25 =>
.ite x25 (
.l (.idx 12 true) [(c 11 x1), (n y23 0)] fun x26 =>
.ite (n xs 3) (
.call F.ref06_node [x0, x26, x8, (.bool true)] fun x27 =>
.l (.cmp .neq .i64) [x27, (i 0)] fun x28 =>
.ite x28 (
.ret x27) (
.l (.arith .add .i64) [(n y23 0), (i 1)] fun x29 =>
.cont 2 [x29])) (
.l (.cmp .geq .i64) [(c 0 x1), (i 2)] fun x27 =>
.ite x27 (
.l (.cmp .leq .i64) [(c 0 x1), (i 5)] fun x28 =>
.call F.ref06_node [x0, x26, x8, x28] fun x29 =>
.l (.cmp .neq .i64) [x29, (i 0)] fun x30 =>
.ite x30 (
.ret x29) (
.l (.arith .add .i64) [(n y23 0), (i 1)] fun x31 =>
.cont 2 [x31])) (
.call F.ref06_node [x0, x26, x8, (.bool false)] fun x28 =>
.l (.cmp .neq .i64) [x28, (i 0)] fun x29 =>
.ite x29 (
.ret x28) (
.l (.arith .add .i64) [(n y23 0), (i 1)] fun x30 =>
.cont 2 [x30])))) (
.ret (i 0)))))) (
.loop [(i 0)] fun y16 =>
.l .len [(c 11 x1)] fun x17 =>
.l (.cmp .lss .i64) [(n y16 0), x17] fun x18 =>
.ite x18 (
.l (.idx 12 true) [(c 11 x1), (n y16 0)] fun x19 =>
.ite (n xs 3) (
.call F.ref06_node [x0, x19, x8, (.bool true)] fun x20 =>
.l (.cmp .neq .i64) [x20, (i 0)] fun x21 =>
.ite x21 (
.ret x20) (
.l (.arith .add .i64) [(n y16 0), (i 1)] fun x22 =>
.cont 2 [x22])) (
.l (.cmp .geq .i64) [(c 0 x1), (i 2)] fun x20 =>
.ite x20 (
.l (.cmp .leq .i64) [(c 0 x1), (i 5)] fun x21 =>
.call F.ref06_node [x0, x19, x8, x21] fun x22 =>
.l (.cmp .neq .i64) [x22, (i 0)] fun x23 =>
.ite x23 (
.ret x22) (
.l (.arith .add .i64) [(n y16 0), (i 1)] fun x24 =>
.cont 2 [x24])) (
.call F.ref06_node [x0, x19, x8, (.bool false)] fun x21 =>
.l (.cmp .neq .i64) [x21, (i 0)] fun x22 =>
.ite x22 (
.ret x21) (
.l (.arith .add .i64) [(n y16 0), (i 1)] fun x23 =>
.cont 2 [x23])))) (
.ret (i 0))))))))) (
.loop [(i 0)] fun y3 =>
.l .len [(c 4 x1)] fun x4 =>
.l (.cmp .lss .i64) [(n y3 0), x4] fun x5 =>
.ite x5 (
.l (.idx 3 true) [(c 4 x1), (n y3 0)] fun x6 =>
.l (.cmp .eql .i64) [(c 0 x6), (i 1)] fun x7 =>
.ite x7 (
.l (.idx 3 true) [(c 4 x1), (n y3 0)] fun x8 =>
.call F.ref03_In [(c 1 x8), (n xs 2)] fun x9 =>
.l .bnot [x9] fun x10 =>
.ite x10 (
.ret (i 4)) (
.l (.arith .add .i64) [(n y3 0), (i 1)] fun x11 =>
.cont 0 [x11])) (
.l (.arith .add .i64) [(n y3 0), (i 1)] fun x8 =>
.cont 0 [x8])) (
.l (.lst 1 false) [] fun x6 =>
.l (.app 1 false 16) [x6, (n xs 2)] fun x7 =>
.l (.cmp .eql .i64) [(c 0 x1), (i 3)] fun x8 =>
.ite x8 (
.l (.lst 1 false) [(c 2 x1)] fun x9 =>
.l (.app 1 false 16) [x7, x9] fun x10 =>
.l (.cmp .eql .i64) [(c 0 x1), (i 6)] fun x11 =>
.ite x11 (
.l (.lst 1 false) [(c 1 x1), (c 2 x1)] fun x12 =>
.l (.app 1 false 16) [x10, x12] fun x13 =>
.l .len [(n xs 2)] fun x14 =>
.loop [x14] fun y15 =>
.l .len [x13] fun x16 =>
.l (.cmp .lss .i64) [(n y15 0), x16] fun x17 =>
.ite x17 (
.l (.idx 1 false) [x13, (n y15 0)] fun x18 =>
.call F.ref03_In [x18, (n xs 2)] fun x19 =>
.ite x19 (
.ret (i 5)) (
.l (.arith .add .i64) [(n y15 0), (i 1)] fun x20 =>
.cont 1 [x20])) (
.l (.cmp .eql .i64) [(c 0 x1), (i 8)] fun x18 =>
.ite x18 (
.call F.ref06_Find [x0, (c 1 x1)] fun x19 =>
.l (.cmp .lss .i64) [x19, (i 0)] fun x20 =>
.ite x20 (
.ret (i 4)) (
.l (.idx 14 true) [(c 0 x0), x19] fun x21 =>
.l .len [(c 1 x21)] fun x22 =>
.l .len [(c 4 x1)] fun x23 =>
.l (.cmp .neq .i64) [x22, x23] fun x24 =>
.ite x24 (
.ret (i 6)) (
.l .bnot [(n xs 3)] fun x25 =>
.ite x25 (
.ret (i 7)) (
.loop [(i 0)] fun y26 =>
.l .len [(c 11 x1)] fun x27 =>
.l (.cmp .lss .i64) [(n y26 0), x27] fun x28 =>
.ite x28 (
.l (.idx 12 true) [(c 11 x1), (n y26 0)] fun x29 =>
.ite (n xs 3) (
.call F.ref06_node [x0, x29, x13, (.bool true)] fun x30 =>
.l (.cmp .neq .i64) [x30, (i 0)] fun x31 =>
.ite x31 (
.ret x30) (
.l (.arith .add .i64) [(n y26 0), (i 1)] fun x32 =>
.cont 2 [x32])) (
.l (.cmp .geq .i64) [(c 0 x1), (i 2)] fun x30 =>
.ite x30 (
.l (.cmp .leq .i64) [(c 0 x1), (i 5)] fun x31 =>
.call F.ref06_node [x0, x29, x13, x31] fun x32 =>
.l (.cmp .neq .i64) [x32, (i 0)] fun x33 =>
.ite x33 (
.ret x32) (
.l (.arith .add .i64) [(n y26 0), (i 1)] fun x34 =>
.cont 2 [x34])) (
.call F.ref06_node [x0, x29, x13, (.bool false)] fun x31 =>
.l (.cmp .neq .i64) [x31, (i 0)] fun x32 =>
.ite x32 (
.ret x31) (
.l (.arith .add .i64) [(n y26 0), (i 1)] fun x33 =>
.cont 2 [x33])))) (
.ret (i 0)))))) (
.loop [(i 0)] fun y19 =>
.l .len [(c 11 x1)] fun x20 =>
.l (.cmp .lss .i64) [(n y19 0), x20] fun x21 =>
.ite x21 (
.l (.idx 12 true) [(c 11 x1), (n y19 0)] fun x22 =>
.ite (n xs 3) (
.call F.ref06_node [x0, x22, x13, (.bool true)] fun x23 =>
.l (.cmp .neq .i64) [x23, (i 0)] fun x24 =>
.ite x24 (
.ret x23) (
.l (.arith .add .i64) [(n y19 0), (i 1)] fun x25 =>
.cont 2 [x25])) (
.l (.cmp .geq .i64) [(c 0 x1), (i 2)] fun x23 =>
.ite x23 (
.l (.cmp .leq .i64) [(c 0 x1), (i 5)] fun x24 =>
.call F.ref06_node [x0, x22, x13, x24] fun x25 =>
.l (.cmp .neq .i64) [x25, (i 0)] fun x26 =>
.ite x26 (
.ret x25) (
.l (.arith .add .i64) [(n y19 0), (i 1)] fun x27 =>
.cont 2 [x27])) (
.call F.ref06_node [x0, x22, x13, (.bool false)] fun x24 =>
.l (.cmp .neq .i64) [x24, (i 0)] fun x25 =>
.ite x25 (
.ret x24) (
.l (.arith .add .i64) [(n y19 0), (i 1)] fun x26 =>
.cont 2 [x26])))) (
.ret (i 0))))) (
.l .len [(n xs 2)] fun x12 =>
.loop [x12] fun y13 =>
.l .len [x10] fun x14 =>
.l (.cmp .lss .i64) [(n y13 0), x14] fun x15 =>
.ite x15 (
.l (.idx 1 false) [x10, (n y13 0)] fun x16 =>
.call F.ref03_In [x16, (n xs 2)] fun x17 =>
.ite x17 (
.ret (i 5)) (
.l (.arith .add .i64) [(n y13 0), (i 1)] fun x18 =>
.cont 1 [x18])) (
.l (.cmp .eql .i64) [(c 0 x1), (i 8)] fun x16 =>
.ite x16 (
.call F.ref06_Find [x0, (c 1 x1)] fun x17 =>
.l (.cmp .lss .i64) [x17, (i 0)] fun x18 =>
.ite x18 (
.ret (i 4)) (
.l (.idx 14 true) [(c 0 x0), x17] fun x19 =>
.l .len [(c 1 x19)] fun x20 =>
.l .len [(c 4 x1)] fun x21 =>
.l (.cmp .neq .i64) [x20, x21] fun x22 =>
.ite x22 (
.ret (i 6)) (
.l .bnot [(n xs 3)] fun x23 =>
.ite x23 (
.ret (i 7)) (
.loop [(i 0)] fun y24 =>
.l .len [(c 11 x1)] fun x25 =>
.l (.cmp .lss .i64) [(n y24 0), x25] fun x26 =>
.ite x26 (
.l (.idx 12 true) [(c 11 x1), (n y24 0)] fun x27 =>
.ite (n xs 3) (
.call F.ref06_node [x0, x27, x10, (.bool true)] fun x28 =>
.l (.cmp .neq .i64) [x28, (i 0)] fun x29 =>
.ite x29 (
.ret x28) (
.l (.arith .add .i64) [(n y24 0), (i 1)] fun x30 =>
.cont 2 [x30])) (
.l (.cmp .geq .i64) [(c 0 x1), (i 2)] fun x28 =>
.ite x28 (
.l (.cmp .leq .i64) [(c 0 x1), (i 5)] fun x29 =>
.call F.ref06_node [x0, x27, x10, x29] fun x30 =>
.l (.cmp .neq .i64) [x30, (i 0)] fun x31 =>
.ite x31 (
.ret x30) (
.l (.arith .add .i64) [(n y24 0), (i 1)] fun x32 =>
.cont 2 [x32])) (
.call F.ref06_node [x0, x27, x10, (.bool false)] fun x29 =>
.l (.cmp .neq .i64) [x29, (i 0)] fun x30 =>
.ite x30 (
.ret x29) (
.l (.arith .add .i64) [(n y24 0), (i 1)] fun x31 =>
.cont 2 [x31])))) (
.ret (i 0)))))) (
.loop [(i 0)] fun y17 =>
.l .len [(c 11 x1)] fun x18 =>
.l (.cmp .lss .i64) [(n y17 0), x18] fun x19 =>
.ite x19 (
.l (.idx 12 true) [(c 11 x1), (n y17 0)] fun x20 =>
.ite (n xs 3) (
.call F.ref06_node [x0, x20, x10, (.bool true)] fun x21 =>
.l (.cmp .neq .i64) [x21, (i 0)] fun x22 =>
.ite x22 (
.ret x21) (
.l (.arith .add .i64) [(n y17 0), (i 1)] fun x23 =>
.cont 2 [x23])) (
.l (.cmp .geq .i64) [(c 0 x1), (i 2)] fun x21 =>
.ite x21 (
.l (.cmp .leq .i64) [(c 0 x1), (i 5)] fun x22 =>
.call F.ref06_node [x0, x20, x10, x22] fun x23 =>
.l (.cmp .neq .i64) [x23, (i 0)] fun x24 =>
.ite x24 (
.ret x23) (
.l (.arith .add .i64) [(n y17 0), (i 1)] fun x25 =>
.cont 2 [x25])) (
.call F.ref06_node [x0, x20, x10, (.bool false)] fun x22 =>
.l (.cmp .neq .i64) [x22, (i 0)] fun x23 =>
.ite x23 (
.ret x22) (
.l (.arith .add .i64) [(n y17 0), (i 1)] fun x24 =>
.cont 2 [x24])))) (
.ret (i 0)))))) (
.l (.cmp .eql .i64) [(c 0 x1), (i 6)] fun x9 =>
.ite x9 (
.l (.lst 1 false) [(c 1 x1), (c 2 x1)] fun x10 =>
.l (.app 1 false 16) [x7, x10] fun x11 =>
.l .len [(n xs 2)] fun x12 =>
.loop [x12] fun y13 =>
.l .len [x11] fun x14 =>
.l (.cmp .lss .i64) [(n y13 0), x14] fun x15 =>
.ite x15 (
.l (.idx 1 false) [x11, (n y13 0)] fun x16 =>
.call F.ref03_In [x16, (n xs 2)] fun x17 =>
.ite x17 (
.ret (i 5)) (
.l (.arith .add .i64) [(n y13 0), (i 1)] fun x18 =>
.cont 1 [x18])) (
.l (.cmp .eql .i64) [(c 0 x1), (i 8)] fun x16 =>
.ite x16 (
.call F.ref06_Find [x0, (c 1 x1)] fun x17 =>
.l (.cmp .lss .i64) [x17, (i 0)] fun x18 =>
.ite x18 (
.ret (i 4)) (
.l (.idx 14 true) [(c 0 x0), x17] fun x19 =>
.l .len [(c 1 x19)] fun x20 =>
.l .len [(c 4 x1)] fun x21 =>
.l (.cmp .neq .i64) [x20, x21] fun x22 =>
.ite x22 (
.ret (i 6)) (
.l .bnot [(n xs 3)] fun x23 =>
.ite x23 (
.ret (i 7)) (
.loop [(i 0)] fun y24 =>
.l .len [(c 11 x1)] fun x25 =>
.l (.cmp .lss .i64) [(n y24 0), x25] fun x26 =>
.ite x26 (
.l (.idx 12 true) [(c 11 x1), (n y24 0)] fun x27 =>
.ite (n xs 3) (
.call F.ref06_node [x0, x27, x11, (.bool true)] fun x28 =>
.l (.cmp .neq .i64) [x28, (i 0)] fun x29 =>
.ite x29 (
.ret x28) (
.l (.arith .add .i64) [(n y24 0), (i 1)] fun x30 =>
.cont 2 [x30])) (
.l (.cmp .geq .i64) [(c 0 x1), (i 2)] fun x28 =>
.ite x28 (
.l (.cmp .leq .i64) [(c 0 x1), (i 5)] fun x29 =>
.call F.ref06_node [x0, x27, x11, x29] fun x30 =>
.l (.cmp .neq .i64) [x30, (i 0)] fun x31 =>
.ite x31 (
.ret x30) (
.l (.arith .add .i64) [(n y24 0), (i 1)] fun x32 =>
.cont 2 [x32])) (
.call F.ref06_node [x0, x27, x11, (.bool false)] fun x29 =>
.l (.cmp .neq .i64) [x29, (i 0)] fun x30 =>
.ite x30 (
.ret x29) (
.l (.arith .add .i64) [(n y24 0), (i 1)] fun x31 =>
.cont 2 [x31])))) (
.ret (i 0)))))) (
.loop [(i 0)] fun y17 =>
.l .len [(c 11 x1)] fun x18 =>
.l (.cmp .lss .i64) [(n y17 0), x18] fun x19 =>
.ite x19 (
.l (.idx 12 true) [(c 11 x1), (n y17 0)] fun x20 =>
.ite (n xs 3) (
.call F.ref06_node [x0, x20, x11, (.bool true)] fun x21 =>
.l (.cmp .neq .i64) [x21, (i 0)] fun x22 =>
.ite x22 (
.ret x21) (
.l (.arith .add .i64) [(n y17 0), (i 1)] fun x23 =>
.cont 2 [x23])) (
.l (.cmp .geq .i64) [(c 0 x1), (i 2)] fun x21 =>
.ite x21 (
.l (.cmp .leq .i64) [(c 0 x1), (i 5)] fun x22 =>
.call F.ref06_node [x0, x20, x11, x22] fun x23 =>
.l (.cmp .neq .i64) [x23, (i 0)] fun x24 =>
.ite x24 (
.ret x23) (
.l (.arith .add .i64) [(n y17 0), (i 1)] fun x25 =>
.cont 2 [x25])) (
.call F.ref06_node [x0, x20, x11, (.bool false)] fun x22 =>
.l (.cmp .neq .i64) [x22, (i 0)] fun x23 =>
.ite x23 (
.ret x22) (
.l (.arith .add .i64) [(n y17 0), (i 1)] fun x24 =>
.cont 2 [x24])))) (
.ret (i 0))))) (
.l .len [(n xs 2)] fun x10 =>
.loop [x10] fun y11 =>
.l .len [x7] fun x12 =>
.l (.cmp .lss .i64) [(n y11 0), x12] fun x13 =>
.ite x13 (
.l (.idx 1 false) [x7, (n y11 0)] fun x14 =>
.call F.ref03_In [x14, (n xs 2)] fun x15 =>
.ite x15 (
.ret (i 5)) (
.l (.arith .add .i64) [(n y11 0), (i 1)] fun x16 =>
.cont 1 [x16])) (
.l (.cmp .eql .i64) [(c 0 x1), (i 8)] fun x14 =>
.ite x14 (
.call F.ref06_Find [x0, (c 1 x1)] fun x15 =>
.l (.cmp .lss .i64) [x15, (i 0)] fun x16 =>
.ite x16 (
.ret (i 4)) (
.l (.idx 14 true) [(c 0 x0), x15] fun x17 =>
.l .len [(c 1 x17)] fun x18 =>
.l .len [(c 4 x1)] fun x19 =>
.l (.cmp .neq .i64) [x18, x19] fun x20 =>
.ite x20 (
.ret (i 6)) (
.l .bnot [(n xs 3)] fun x21 =>
.ite x21 (
.ret (i 7)) (
.loop [(i 0)] fun y22 =>
.l .len [(c 11 x1)] fun x23 =>
.l (.cmp .lss .i64) [(n y22 0), x23] fun x24 =>
.ite x24 (
.l (.idx 12 true) [(c 11 x1), (n y22 0)] fun x25 =>
.ite (n xs 3) (
.call F.ref06_node [x0, x25, x7, (.bool true)] fun x26 =>
.l (.cmp .neq .i64) [x26, (i 0)] fun x27 =>
.ite x27 (
.ret x26) (
.l (.arith .add .i64) [(n y22 0), (i 1)] fun x28 =>
.cont 2 [x28])) (
.l (.cmp .geq .i64) [(c 0 x1), (i 2)] fun x26 =>
.ite x26 (
.l (.cmp .leq .i64) [(c 0 x1), (i 5)] fun x27 =>
.call F.ref06_node [x0, x25, x7, x27] fun x28 =>
.l (.cmp .neq .i64) [x28, (i 0)] fun x29 =>
.ite x29 (
.ret x28) (
.l (.arith .add .i64) [(n y22 0), (i 1)] fun x30 =>
.cont 2 [x30])) (
.call F.ref06_node [x0, x25, x7, (.bool false)] fun x27 =>
.l (.cmp .neq .i64) [x27, (i 0)] fun x28 =>
.ite x28 (
.ret x27) (
.l (.arith .add .i64) [(n y22 0), (i 1)] fun x29 =>
.cont 2 [x29])))) (
.ret (i 0)))))) (
.loop [(i 0)] fun y15 =>
.l .len [(c 11 x1)] fun x16 =>
.l (.cmp .lss .i64) [(n y15 0), x16] fun x17 =>
.ite x17 (
.l (.idx 12 true) [(c 11 x1), (n y15 0)] fun x18 =>
.ite (n xs 3) (
.call F.ref06_node [x0, x18, x7, (.bool true)] fun x19 =>
.l (.cmp .neq .i64) [x19, (i 0)] fun x20 =>
.ite x20 (
.ret x19) (
.l (.arith .add .i64) [(n y15 0), (i 1)] fun x21 =>
.cont 2 [x21])) (
.l (.cmp .geq .i64) [(c 0 x1), (i 2)] fun x19 =>
.ite x19 (
.l (.cmp .leq .i64) [(c 0 x1), (i 5)] fun x20 =>
.call F.ref06_node [x0, x18, x7, x20] fun x21 =>
.l (.cmp .neq .i64) [x21, (i 0)] fun x22 =>
.ite x22 (
.ret x21) (
.l (.arith .add .i64) [(n y15 0), (i 1)] fun x23 =>
.cont 2 [x23])) (
.call F.ref06_node [x0, x18, x7, (.bool false)] fun x20 =>
.l (.cmp .neq .i64) [x20, (i 0)] fun x21 =>
.ite x21 (
.ret x20) (
.l (.arith .add .i64) [(n y15 0), (i 1)] fun x22 =>
.cont 2 [x22])))) (
.ret (i 0))))))))
theorem k_ref06_node : TxOk P F.ref06_node 4 t_ref06_node := txOk_of (H := {}) (plans := []) hm Tryz.func51 rfl rfl fun xs => by kernel_rfl
-- NOT TOLD: 52 duologue/audit.closure$1: 1
def u_audit_closure_1 (xs : List PV) : T PV :=
.l .len [(n xs 0)] fun x0 =>
.loop [(i 0), (n xs 1), (n xs 2)] fun y1 =>
.l (.cmp .lss .i64) [(n y1 0), x0] fun x2 =>
.ite x2 (
.l (.idx 1 false) [(n xs 0), (n y1 0)] fun x3 =>
.l (.mget false [.s] (.bool false)) [(n y1 1), x3] fun x4 =>
.l .bnot [x4] fun x5 =>
.ite x5 (
.l (.mset false [.s]) [(n y1 1), x3, (.bool true)] fun x6 =>
.l (.mget false [.s] (.sl [])) [(n y1 2), x3] fun x7 =>
.calls F.audit_closure_1 sg_audit_closure_1 [x7, x6, (n y1 2)] fun z8 =>
.l (.arith .add .i64) [(n y1 0), (i 1)] fun x9 =>
.cont 0 [x9, (n z8 1), (n z8 2)]) (
.l (.arith .add .i64) [(n y1 0), (i 1)] fun x6 =>
.cont 0 [x6, (n y1 1), (n y1 2)])) (
.ret (.tup [(.tup []), (n y1 1), (n y1 2)]))
theorem m_audit_closure_1 : TxOkS P F.audit_closure_1 sg_audit_closure_1 u_audit_closure_1 := txOkS_of (H := { wr := [], ro := [], nl := [], fz := [], da := [], sigs := [(52, sg_audit_closure_1)] }) (plans := []) hm Tryz.func52 rfl fun xs => by kernel_rfl
def t_scope_collect (xs : List PV) : T PV :=
.l (.okc 12 true) [(n xs 0)] fun x0 =>
.l (.okc 1 false) [(n xs 1)] fun x1 =>
.calls F.scope_collect_1 sg_scope_collect_1 [x0, x1, (.sl [])] fun z2 =>
.ret (n z2 2)
theorem k_scope_collect : TxOk P F.scope_collect 2 t_scope_collect := txOk_of (H := { wr := [3], ro := [], nl := [(5, (0, (9, true)))], fz := [], da := [], sigs := [(76, sg_scope_collect_1)] }) (plans := []) hm Tryz.func53 rfl rfl fun xs => by kernel_rfl
def t_scope_Calls_1 (xs : List PV) : T PV :=
.l (.okc 12 true) [(n xs 0)] fun x0 =>
.l (.cmp .eql .i64) [(c 0 x0), (i 8)] fun x1 =>
.ite x1 (
.l (.lst 1 false) [(c 1 x0)] fun x2 =>
.ret x2) (
.ret (.sl []))
theorem k_scope_Calls_1 : TxOk P F.scope_Calls_1 1 t_scope_Calls_1 := txOk_of (H := {}) (plans := []) hm Tryz.func54 rfl rfl fun xs => by kernel_rfl
def t_ref02_texts (xs : List PV) : T PV :=
.l .len [(n xs 0)] fun x0 =>
.l .len [(n xs 1)] fun x1 =>
.l (.cmp .neq .i64) [x0, x1] fun x2 =>
.ite x2 (
.ret (.bool false)) (
.loop [(i 0)] fun y3 =>
.l .len [(n xs 0)] fun x4 =>
.l (.cmp .lss .i64) [(n y3 0), x4] fun x5 =>
.ite x5 (
.l (.idx 1 false) [(n xs 0), (n y3 0)] fun x6 =>
.l (.idx 1 false) [(n xs 1), (n y3 0)] fun x7 =>
.l (.scmp .neq) [x6, x7] fun x8 =>
.ite x8 (
.ret (.bool false)) (
.l (.arith .add .i64) [(n y3 0), (i 1)] fun x9 =>
.cont 0 [x9])) (
.ret (.bool true)))
theorem k_ref02_texts : TxOk P F.ref02_texts 2 t_ref02_texts := txOk_of (H := {}) (plans := []) hm Tryz.func55 rfl rfl fun xs => by kernel_rfl
def t_slices_Clone_string_string (xs : List PV) : T PV :=
.nilq (n xs 0) (
.ret (.sl [])) (
.l (.lst 1 false) [] fun x0 =>
.l (.app 1 false 16) [x0, (n xs 0)] fun x1 =>
.ret x1)
theorem k_slices_Clone_string_string : TxOk P F.slices_Clone_string_string 1 t_slices_Clone_string_string := txOk_of (H := { wr := [0, 1, 2, 3, 4, 5, 6, 7, 8, 9, 10, 11, 12, 13, 14, 15, 16, 17, 18, 19, 20, 21, 22, 23, 24, 25, 26, 27, 28, 29, 30, 31, 32, 33, 34, 35, 36, 37, 38, 39], ro := [], nl := [], fz := [], da := [], sigs := [] }) (plans := []) hm Tryz.func56 rfl rfl fun xs => by kernel_rfl
def u_slices_Clone_string_string (xs : List PV) : T PV :=
.nilq (n xs 0) (
.ret (.tup [(.sl [])])) (
.l (.lst 1 false) [] fun x0 =>
.l (.app 1 false 16) [x0, (n xs 0)] fun x1 =>
.ret (.tup [x1]))
theorem m_slices_Clone_string_string : TxOkS P F.slices_Clone_string_string sg_slices_Clone_string_string u_slices_Clone_string_string := txOkS_of (H := { wr := [0, 1, 2, 3, 4, 5, 6, 7, 8, 9, 10, 11, 12, 13, 14, 15, 16, 17, 18, 19, 20, 21, 22, 23, 24, 25, 26, 27, 28, 29, 30, 31, 32, 33, 34, 35, 36, 37, 38, 39], ro := [], nl := [], fz := [], da := [], sigs := [] }) (plans := []) hm Tryz.func56 rfl fun xs => by kernel_rfl
def t_slices_Clone_api_Value_api_Value (xs : List PV) : T PV :=
.nilq (n xs 0) (
.ret (.sl [])) (
.l (.lst 3 true) [] fun x0 =>
.l (.app 3 true 32) [x0, (n xs 0)] fun x1 =>
.ret x1)
theorem k_slices_Clone_api_Value_api_Value : TxOk P F.slices_Clone_api_Value_api_Value 1 t_slices_Clone_api_Value_api_Value := txOk_of (H := { wr := [0, 1, 2, 3, 4, 5, 6, 7, 8, 9, 10, 11, 12, 13, 14, 15, 16, 17, 18, 19, 20, 21, 22, 23, 24, 25, 26, 27, 28, 29, 30, 31, 32, 33, 34, 35, 36, 37, 38, 39], ro := [], nl := [], fz := [], da := [], sigs := [] }) (plans := []) hm Tryz.func57 rfl rfl fun xs => by kernel_rfl
def u_slices_Clone_api_Value_api_Value (xs : List PV) : T PV :=
.nilq (n xs 0) (
.ret (.tup [(.sl [])])) (
.l (.lst 3 true) [] fun x0 =>
.l (.app 3 true 32) [x0, (n xs 0)] fun x1 =>
.ret (.tup [x1]))
theorem m_slices_Clone_api_Value_api_Value : TxOkS P F.slices_Clone_api_Value_api_Value sg_slices_Clone_api_Value_api_Value u_slices_Clone_api_Value_api_Value := txOkS_of (H := { wr := [0, 1, 2, 3, 4, 5, 6, 7, 8, 9, 10, 11, 12, 13, 14, 15, 16, 17, 18, 19, 20, 21, 22, 23, 24, 25, 26, 27, 28, 29, 30, 31, 32, 33, 34, 35, 36, 37, 38, 39], ro := [], nl := [], fz := [], da := [], sigs := [] }) (plans := []) hm Tryz.func57 rfl fun xs => by kernel_rfl
def t_typetree_Copy (xs : List PV) : T PV :=
.l (.okc 6 true) [(n xs 0)] fun x0 =>
.call F.typetree_mapped [x0, (.fn F.typetree_Copy [] [])] fun x1 =>
.l (.okc 6 true) [x1] fun x2 =>
.ret x2
theorem k_typetree_Copy : TxOk P F.typetree_Copy 1 t_typetree_Copy := txOk_of (H := {}) (plans := []) hm Tryz.func58 rfl rfl fun xs => by kernel_rfl
def t_slices_Index_string_string (xs : List PV) : T PV :=
.l .len [(n xs 0)] fun x0 =>
.loop [(i 0)] fun y1 =>
.l (.cmp .lss .i64) [(n y1 0), x0] fun x2 =>
.ite x2 (
.l (.idx 1 false) [(n xs 0), (n y1 0)] fun x3 =>
.l (.scmp .eql) [(n xs 1), x3] fun x4 =>
.ite x4 (
.ret (n y1 0)) (
.l (.arith .add .i64) [(n y1 0), (i 1)] fun x5 =>
.cont 0 [x5])) (
.ret (i (-1)))
theorem k_slices_Index_string_string : TxOk P F.slices_Index_string_string 2 t_slices_Index_string_string := txOk_of (H := {}) (plans := []) hm Tryz.func59 rfl rfl fun xs => by kernel_rfl
def t_slices_Clone_api_Param_api_Param (xs : List PV) : T PV :=
.nilq (n xs 0) (
.ret (.sl [])) (
.l (.lst 7 true) [] fun x0 =>
.l (.app 7 true 104) [x0, (n xs 0)] fun x1 =>
.ret x1)
theorem k_slices_Clone_api_Param_api_Param : TxOk P F.slices_Clone_api_Param_api_Param 1 t_slices_Clone_api_Param_api_Param := txOk_of (H := { wr := [0, 1, 2, 3, 4, 5, 6, 7, 8, 9, 10, 11, 12, 13, 14, 15, 16, 17, 18, 19, 20, 21, 22, 23, 24, 25, 26, 27, 28, 29, 30, 31, 32, 33, 34, 35, 36, 37, 38, 39], ro := [], nl := [], fz := [], da := [], sigs := [] }) (plans := []) hm Tryz.func60 rfl rfl fun xs => by kernel_rfl
def u_slices_Clone_api_Param_api_Param (xs : List PV) : T PV :=
.nilq (n xs 0) (
.ret (.tup [(.sl [])])) (
.l (.lst 7 true) [] fun x0 =>
.l (.app 7 true 104) [x0, (n xs 0)] fun x1 =>
.ret (.tup [x1]))
theorem m_slices_Clone_api_Param_api_Param : TxOkS P F.slices_Clone_api_Param_api_Param sg_slices_Clone_api_Param_api_Param u_slices_Clone_api_Param_api_Param := txOkS_of (H := { wr := [0, 1, 2, 3, 4, 5, 6, 7, 8, 9, 10, 11, 12, 13, 14, 15, 16, 17, 18, 19, 20, 21, 22, 23, 24, 25, 26, 27, 28, 29, 30, 31, 32, 33, 34, 35, 36, 37, 38, 39], ro := [], nl := [], fz := [], da := [], sigs := [] }) (plans := []) hm Tryz.func60 rfl fun xs => by kernel_rfl
def t_ref02_Raise (xs : List PV) : T PV :=
.l (.okc 6 true) [(n xs 0)] fun x0 =>
.l (.lst 1 false) [] fun x1 =>
.l (.app 1 false 16) [x1, (c 4 x0)] fun x2 =>
.l (.okcs [(1, false), (1, false), (1, false), (1, false)]) [(c 0 x0), (c 1 x0), (c 2 x0), (c 3 x0)] fun x3 =>
.l (.cmp .geq .i64) [(c 0 x0), (i 4)] fun x4 =>
.ite x4 (
.l (.cmp .leq .i64) [(c 0 x0), (i 7)] fun x5 =>
.ite x5 (
.l (.arith .add .i64) [(c 1 x0), (n xs 1)] fun x6 =>
.l (.okc 1 false) [x6] fun x7 =>
.loop [(i 0), (c 0 x0), x7, (c 2 x0), (c 3 x0), x2, (.sl [])] fun y8 =>
.l .len [(c 5 x0)] fun x9 =>
.l (.cmp .lss .i64) [(n y8 0), x9] fun x10 =>
.ite x10 (
.l (.idx 6 true) [(c 5 x0), (n y8 0)] fun x11 =>
.call F.ref02_Raise [x11, (n xs 1)] fun x12 =>
.l (.lst 6 true) [x12] fun x13 =>
.l (.app 6 true 88) [(n y8 6), x13] fun x14 =>
.l (.arith .add .i64) [(n y8 0), (i 1)] fun x15 =>
.cont 0 [x15, (n y8 1), (n y8 2), (n y8 3), (n y8 4), (n y8 5), x14]) (
.ret (.agg [(n y8 1), (n y8 2), (n y8 3), (n y8 4), (n y8 5), (n y8 6)]))) (
.loop [(i 0), (c 0 x0), (c 1 x0), (c 2 x0), (c 3 x0), x2, (.sl [])] fun y6 =>
.l .len [(c 5 x0)] fun x7 =>
.l (.cmp .lss .i64) [(n y6 0), x7] fun x8 =>
.ite x8 (
.l (.idx 6 true) [(c 5 x0), (n y6 0)] fun x9 =>
.call F.ref02_Raise [x9, (n xs 1)] fun x10 =>
.l (.lst 6 true) [x10] fun x11 =>
.l (.app 6 true 88) [(n y6 6), x11] fun x12 =>
.l (.arith .add .i64) [(n y6 0), (i 1)] fun x13 =>
.cont 0 [x13, (n y6 1), (n y6 2), (n y6 3), (n y6 4), (n y6 5), x12]) (
.ret (.agg [(n y6 1), (n y6 2), (n y6 3), (n y6 4), (n y6 5), (n y6 6)])))) (
.loop [(i 0), (c 0 x0), (c 1 x0), (c 2 x0), (c 3 x0), x2, (.sl [])] fun y5 =>
.l .len [(c 5 x0)] fun x6 =>
.l (.cmp .lss .i64) [(n y5 0), x6] fun x7 =>
.ite x7 (
.l (.idx 6 true) [(c 5 x0), (n y5 0)] fun x8 =>
.call F.ref02_Raise [x8, (n xs 1)] fun x9 =>
.l (.lst 6 true) [x9] fun x10 =>
.l (.app 6 true 88) [(n y5 6), x10] fun x11 =>
.l (.arith .add .i64) [(n y5 0), (i 1)] fun x12 =>
.cont 0 [x12, (n y5 1), (n y5 2), (n y5 3), (n y5 4), (n y5 5), x11]) (
.ret (.agg [(n y5 1), (n y5 2), (n y5 3), (n y5 4), (n y5 5), (n y5 6)])))
theorem k_ref02_Raise : TxOk P F.ref02_Raise 2 t_ref02_Raise := txOk_of (H := { wr := [50], ro := [], nl := [], fz := [], da := [], sigs := [] }) (plans := []) hm Tryz.func61 rfl rfl fun xs => by kernel_rfl
def u_ref02_Raise (xs : List PV) : T PV :=
.l (.okc 6 true) [(n xs 0)] fun x0 =>
.l (.lst 1 false) [] fun x1 =>
.l (.app 1 false 16) [x1, (c 4 x0)] fun x2 =>
.l (.okcs [(1, false), (1, false), (1, false), (1, false)]) [(c 0 x0), (c 1 x0), (c 2 x0), (c 3 x0)] fun x3 =>
.l (.cmp .geq .i64) [(c 0 x0), (i 4)] fun x4 =>
.ite x4 (
.l (.cmp .leq .i64) [(c 0 x0), (i 7)] fun x5 =>
.ite x5 (
.l (.arith .add .i64) [(c 1 x0), (n xs 1)] fun x6 =>
.l (.okc 1 false) [x6] fun x7 =>
.loop [(i 0), (c 0 x0), x7, (c 2 x0), (c 3 x0), x2, (.sl [])] fun y8 =>
.l .len [(c 5 x0)] fun x9 =>
.l (.cmp .lss .i64) [(n y8 0), x9] fun x10 =>
.ite x10 (
.l (.idx 6 true) [(c 5 x0), (n y8 0)] fun x11 =>
.call F.ref02_Raise [x11, (n xs 1)] fun x12 =>
.l (.lst 6 true) [x12] fun x13 =>
.l (.app 6 true 88) [(n y8 6), x13] fun x14 =>
.l (.arith .add .i64) [(n y8 0), (i 1)] fun x15 =>
.cont 0 [x15, (n y8 1), (n y8 2), (n y8 3), (n y8 4), (n y8 5), x14]) (
.ret (.tup [(n y8 1), (n y8 2), (n y8 3), (n y8 4), (n y8 5), (n y8 6)]))) (
.loop [(i 0), (c 0 x0), (c 1 x0), (c 2 x0), (c 3 x0), x2, (.sl [])] fun y6 =>
.l .len [(c 5 x0)] fun x7 =>
.l (.cmp .lss .i64) [(n y6 0), x7] fun x8 =>
.ite x8 (
.l (.idx 6 true) [(c 5 x0), (n y6 0)] fun x9 =>
.call F.ref02_Raise [x9, (n xs 1)] fun x10 =>
.l (.lst 6 true) [x10] fun x11 =>
.l (.app 6 true 88) [(n y6 6), x11] fun x12 =>
.l (.arith .add .i64) [(n y6 0), (i 1)] fun x13 =>
.cont 0 [x13, (n y6 1), (n y6 2), (n y6 3), (n y6 4), (n y6 5), x12]) (
.ret (.tup [(n y6 1), (n y6 2), (n y6 3), (n y6 4), (n y6 5), (n y6 6)])))) (
.loop [(i 0), (c 0 x0), (c 1 x0), (c 2 x0), (c 3 x0), x2, (.sl [])] fun y5 =>
.l .len [(c 5 x0)] fun x6 =>
.l (.cmp .lss .i64) [(n y5 0), x6] fun x7 =>
.ite x7 (
.l (.idx 6 true) [(c 5 x0), (n y5 0)] fun x8 =>
.call F.ref02_Raise [x8, (n xs 1)] fun x9 =>
.l (.lst 6 true) [x9] fun x10 =>
.l (.app 6 true 88) [(n y5 6), x10] fun x11 =>
.l (.arith .add .i64) [(n y5 0), (i 1)] fun x12 =>
.cont 0 [x12, (n y5 1), (n y5 2), (n y5 3), (n y5 4), (n y5 5), x11]) (
.ret (.tup [(n y5 1), (n y5 2), (n y5 3), (n y5 4), (n y5 5), (n y5 6)])))
theorem m_ref02_Raise : TxOkS P F.ref02_Raise sg_ref02_Raise u_ref02_Raise := txOkS_of (H := { wr := [50], ro := [], nl := [], fz := [], da := [], sigs := [] }) (plans := []) hm Tryz.func61 rfl fun xs => by kernel_rfl
def t_ref01_Tokens (xs : List PV) : T PV :=
.l .slen [(n xs 0)] fun x0 =>
.l (.cmp .gtr .i64) [x0, (i 65536)] fun x1 =>
.ite x1 (
.ret (.tup [(.sl []), (i 2), (i 65536)])) (
.loop [(i 0), (.sl [])] fun y2 =>
.l .slen [(n xs 0)] fun x3 =>
.l (.cmp .lss .i64) [(n y2 0), x3] fun x4 =>
.ite x4 (
.l .sidx [(n xs 0), (n y2 0)] fun x5 =>
.call F.ref01_in [x5, (.str ⟨#[32, 9, 10, 13]⟩)] fun x6 =>
.ite x6 (
.l (.arith .add .i64) [(n y2 0), (i 1)] fun x7 =>
.cont 0 [x7, (n y2 1)]) (
.l .sidx [(n xs 0), (n y2 0)] fun x7 =>
.l (.cmp .eql .u8) [x7, (.int .u8 (35))] fun x8 =>
.ite x8 (
.loop [(n y2 0)] fun y9 =>
.l .slen [(n xs 0)] fun x10 =>
.l (.cmp .lss .i64) [(n y9 0), x10] fun x11 =>
.ite x11 (
.l .sidx [(n xs 0), (n y9 0)] fun x12 =>
.l (.cmp .neq .u8) [x12, (.int .u8 (10))] fun x13 =>
.ite x13 (
.l (.arith .add .i64) [(n y9 0), (i 1)] fun x14 =>
.cont 1 [x14]) (
.cont 0 [(n y9 0), (n y2 1)])) (
.cont 0 [(n y9 0), (n y2 1)])) (
.call F.ref01_longest [(n xs 0), (n y2 0)] fun x9 =>
.l (.cmp .eql .i64) [x9, (n y2 0)] fun x10 =>
.ite x10 (
.ret (.tup [(.sl []), (i 1), (n y2 0)])) (
.l .ssl [(n xs 0), (n y2 0), x9] fun x11 =>
.call F.ref01_kind [x11] fun x12 =>
.l .ssl [(n xs 0), (n y2 0), x9] fun x13 =>
.l (.okcs [(1, false), (1, false), (1, false)]) [x12, x13, (n y2 0)] fun x14 =>
.l (.cmp .eql .i64) [x12, (i 2)] fun x15 =>
.ite x15 (
.call F.ref01_Value [x13] fun x16 =>
.l (.tc 0) [x16] fun x17 =>
.l (.tc 1) [x16] fun x18 =>
.l .bnot [x18] fun x19 =>
.ite x19 (
.ret (.tup [(.sl []), (i 2), (n y2 0)])) (
.l (.okc 1 false) [x17] fun x20 =>
.l (.lst 4 true) [(.agg [x12, x13, x20, (n y2 0)])] fun x21 =>
.l (.app 4 true 40) [(n y2 1), x21] fun x22 =>
.cont 0 [x9, x22])) (
.l (.lst 4 true) [(.agg [x12, x13, (i 0), (n y2 0)])] fun x16 =>
.l (.app 4 true 40) [(n y2 1), x16] fun x17 =>
.cont 0 [x9, x17]))))) (
.ret (.tup [(n y2 1), (i 0), (i 0)])))
theorem k_ref01_Tokens : TxOk P F.ref01_Tokens 1 t_ref01_Tokens := txOk_of (H := {}) (plans := []) hm Tryz.func62 rfl rfl fun xs => by kernel_rfl
def t_ref04_text (xs : List PV) : T PV :=
.l .notnil [(n xs 0)] fun x0 =>
.l (.unbox 5 true) [x0] fun x1 =>
.l (.cmp .neq .i64) [(c 3 x1), (i 0)] fun x2 =>
.ite x2 (
.ret (.str ⟨#[]⟩)) (
.l .notnil [(n xs 0)] fun x3 =>
.l (.unbox 5 true) [x3] fun x4 =>
.l .notnil [(n xs 0)] fun x5 =>
.l (.unbox 5 true) [x5] fun x6 =>
.l .len [(c 0 x6)] fun x7 =>
.l (.cmp .geq .i64) [(c 1 x4), x7] fun x8 =>
.ite x8 (
.ret (.str ⟨#[]⟩)) (
.l .notnil [(n xs 0)] fun x9 =>
.l (.unbox 5 true) [x9] fun x10 =>
.l .notnil [(n xs 0)] fun x11 =>
.l (.unbox 5 true) [x11] fun x12 =>
.l (.idx 4 true) [(c 0 x10), (c 1 x12)] fun x13 =>
.ret (c 1 x13)))
theorem k_ref04_text : TxOk P F.ref04_text 1 t_ref04_text := txOk_of (H := { wr := [], ro := [63, 110], nl := [], fz := [], da := [], sigs := [] }) (plans := []) hm Tryz.func63 rfl rfl fun xs => by kernel_rfl
-- NOT TOLD: 64 duologue/duologueref04.need: 1
def u_ref04_need (xs : List PV) : T PV :=
.l (.cmp .neq .i64) [(n xs 4), (i 0)] fun x0 =>
.ite x0 (
.ret (.tup [(.tup []), (n xs 1), (n xs 2), (n xs 3), (n xs 4), (n xs 5)])) (
.call F.ref04_text [(.box (.agg [(n xs 1), (n xs 2), (n xs 3), (n xs 4), (n xs 5)]))] fun x1 =>
.l .gnd [x1] fun x2 =>
.l (.scmp .neq) [x2, (n xs 0)] fun x3 =>
.ite x3 (
.calls F.ref04_fail sg_ref04_fail [(i 1), (n xs 1), (n xs 2), (n xs 3), (n xs 4), (n xs 5)] fun z4 =>
.ret (.tup [(.tup []), (n z4 1), (n z4 2), (n z4 3), (n z4 4), (n z4 5)])) (
.l (.arith .add .i64) [(n xs 2), (i 1)] fun x4 =>
.l (.okc 1 false) [x4] fun x5 =>
.ret (.tup [(.tup []), (n xs 1), x5, (n xs 3), (n xs 4), (n xs 5)])))
theorem m_ref04_need : TxOkS P F.ref04_need sg_ref04_need u_ref04_need := txOkS_of (H := { wr := [], ro := [63, 110], nl := [], fz := [], da := [], sigs := [(45, sg_ref04_program), (46, sg_ref04_finish), (64, sg_ref04_need), (65, sg_ref04_name), (66, sg_ref04_anyType), (67, sg_ref04_process), (68, sg_ref04_fail), (83, sg_ref04_payload), (84, sg_ref04_session), (85, sg_ref04_single), (94, sg_ref04_variable), (95, sg_ref04_transmission), (96, sg_ref04_labels), (97, sg_ref04_after), (103, sg_ref04_small), (104, sg_ref04_prio), (105, sg_ref04_value), (44, sg_ref04_start)] }) (plans := []) hm Tryz.func64 rfl fun xs => by kernel_rfl
-- NOT TOLD: 65 duologue/duologueref04.name: 1
def u_ref04_name (xs : List PV) : T PV :=
.call F.ref04_text [(.box (.agg [(n xs 0), (n xs 1), (n xs 2), (n xs 3), (n xs 4)]))] fun x0 =>
.l .gnd [x0] fun x1 =>
.call F.ref01_Name [x1] fun x2 =>
.l .bnot [x2] fun x3 =>
.ite x3 (
.calls F.ref04_fail sg_ref04_fail [(i 1), (n xs 0), (n xs 1), (n xs 2), (n xs 3), (n xs 4)] fun z4 =>
.ret (.tup [(.str ⟨#[]⟩), (n z4 1), (n z4 2), (n z4 3), (n z4 4), (n z4 5)])) (
.l (.arith .add .i64) [(n xs 1), (i 1)] fun x4 =>
.l (.okc 1 false) [x4] fun x5 =>
.ret (.tup [x1, (n xs 0), x5, (n xs 2), (n xs 3), (n xs 4)]))
theorem m_ref04_name : TxOkS P F.ref04_name sg_ref04_name u_ref04_name := txOkS_of (H := { wr := [], ro := [63, 110], nl := [], fz := [], da := [], sigs := [(45, sg_ref04_program), (46, sg_ref04_finish), (64, sg_ref04_need), (65, sg_ref04_name), (66, sg_ref04_anyType), (67, sg_ref04_process), (68, sg_ref04_fail), (83, sg_ref04_payload), (84, sg_ref04_session), (85, sg_ref04_single), (94, sg_ref04_variable), (95, sg_ref04_transmission), (96, sg_ref04_labels), (97, sg_ref04_after), (103, sg_ref04_small), (104, sg_ref04_prio), (105, sg_ref04_value), (44, sg_ref04_start)] }) (plans := []) hm Tryz.func65 rfl fun xs => by kernel_rfl
def t_ref04_anyType (xs : List PV) : T PV :=
.call F.ref04_text [(n xs 0)] fun x0 =>
.l .gnd [x0] fun x1 =>
.l (.scmp .eql) [x1, (.str ⟨#[105, 110, 116]⟩)] fun x2 =>
.ite x2 (
.call F.ref04_payload [(n xs 0)] fun x3 =>
.l (.okc 6 true) [x3] fun x4 =>
.ret x4) (
.call F.ref04_text [(n xs 0)] fun x3 =>
.l .gnd [x3] fun x4 =>
.l (.scmp .eql) [x4, (.str ⟨#[98, 111, 111, 108]⟩)] fun x5 =>
.ite x5 (
.call F.ref04_payload [(n xs 0)] fun x6 =>
.l (.okc 6 true) [x6] fun x7 =>
.ret x7) (
.call F.ref04_session [(n xs 0)] fun x6 =>
.l (.okc 6 true) [x6] fun x7 =>
.ret x7))
theorem k_ref04_anyType : TxOk P F.ref04_anyType 1 t_ref04_anyType := txOk_of (H := { wr := [], ro := [63, 110], nl := [], fz := [], da := [], sigs := [] }) (plans := []) hm Tryz.func66 rfl rfl fun xs => by kernel_rfl
def u_ref04_anyType (xs : List PV) : T PV :=
.call F.ref04_text [(.box (.agg [(n xs 0), (n xs 1), (n xs 2), (n xs 3), (n xs 4)]))] fun x0 =>
.l .gnd [x0] fun x1 =>
.l (.scmp .eql) [x1, (.str ⟨#[105, 110, 116]⟩)] fun x2 =>
.ite x2 (
.calls F.ref04_payload sg_ref04_payload [(n xs 0), (n xs 1), (n xs 2), (n xs 3), (n xs 4)] fun z3 =>
.l (.okc 6 true) [(n z3 0)] fun x4 =>
.ret (.tup [x4, (n z3 1), (n z3 2), (n z3 3), (n z3 4), (n z3 5)])) (
.call F.ref04_text [(.box (.agg [(n xs 0), (n xs 1), (n xs 2), (n xs 3), (n xs 4)]))] fun x3 =>
.l .gnd [x3] fun x4 =>
.l (.scmp .eql) [x4, (.str ⟨#[98, 111, 111, 108]⟩)] fun x5 =>
.ite x5 (
.calls F.ref04_payload sg_ref04_payload [(n xs 0), (n xs 1), (n xs 2), (n xs 3), (n xs 4)] fun z6 =>
.l (.okc 6 true) [(n z6 0)] fun x7 =>
.ret (.tup [x7, (n z6 1), (n z6 2), (n z6 3), (n z6 4), (n z6 5)])) (
.calls F.ref04_session sg_ref04_session [(n xs 0), (n xs 1), (n xs 2), (n xs 3), (n xs 4)] fun z6 =>
.l (.okc 6 true) [(n z6 0)] fun x7 =>
.ret (.tup [x7, (n z6 1), (n z6 2), (n z6 3), (n z6 4), (n z6 5)])))
theorem m_ref04_anyType : TxOkS P F.ref04_anyType sg_ref04_anyType u_ref04_anyType := txOkS_of (H := { wr := [], ro := [63, 110], nl := [], fz := [], da := [], sigs := [(45, sg_ref04_program), (46, sg_ref04_finish), (64, sg_ref04_need), (65, sg_ref04_name), (66, sg_ref04_anyType), (67, sg_ref04_process), (68, sg_ref04_fail), (83, sg_ref04_payload), (84, sg_ref04_session), (85, sg_ref04_single), (94, sg_ref04_variable), (95, sg_ref04_transmission), (96, sg_ref04_labels), (97, sg_ref04_after), (103, sg_ref04_small), (104, sg_ref04_prio), (105, sg_ref04_value), (44, sg_ref04_start)] }) (plans := []) hm Tryz.func66 rfl fun xs => by kernel_rfl
def t_ref04_process (xs : List PV) : T PV :=
.call F.ref04_single [(n xs 0)] fun x0 =>
.l (.lst 12 true) [x0] fun x1 =>
.loop [x1] fun y2 =>
.call F.ref04_text [(n xs 0)] fun x3 =>
.l .gnd [x3] fun x4 =>
.l (.scmp .eql) [x4, (.str ⟨#[124]⟩)] fun x5 =>
.ite x5 (
.call F.ref04_need [(n xs 0), (.str ⟨#[124]⟩)] fun x6 =>
.call F.ref04_single [(n xs 0)] fun x7 =>
.l (.lst 12 true) [x7] fun x8 =>
.l (.app 12 true 200) [(n y2 0), x8] fun x9 =>
.cont 0 [x9]) (
.l .len [(n y2 0)] fun x6 =>
.l (.cmp .eql .i64) [x6, (i 1)] fun x7 =>
.ite x7 (
.l (.idx 12 true) [(n y2 0), (i 0)] fun x8 =>
.l (.okc 12 true) [x8] fun x9 =>
.ret x9) (
.loop [(i 0), (i 7), (.str ⟨#[]⟩), (.str ⟨#[]⟩), (.sl []), (.sl []), (i 0), (i 0), (.str ⟨#[]⟩), (i 0), (.sl []), (.sl []), (.sl [])] fun y8 =>
.l .len [(n y2 0)] fun x9 =>
.l (.cmp .lss .i64) [(n y8 0), x9] fun x10 =>
.ite x10 (
.l (.idx 12 true) [(n y2 0), (n y8 0)] fun x11 =>
.l (.cmp .eql .i64) [(c 0 x11), (i 7)] fun x12 =>
.ite x12 (
.l (.idx 12 true) [(n y2 0), (n y8 0)] fun x13 =>
.l (.app 12 true 200) [(n y8 12), (c 11 x13)] fun x14 =>
.l (.arith .add .i64) [(n y8 0), (i 1)] fun x15 =>
.cont 1 [x15, (n y8 1), (n y8 2), (n y8 3), (n y8 4), (n y8 5), (n y8 6), (n y8 7), (n y8 8), (n y8 9), (n y8 10), (n y8 11), x14]) (
.l (.idx 12 true) [(n y2 0), (n y8 0)] fun x13 =>
.l (.lst 12 true) [x13] fun x14 =>
.l (.app 12 true 200) [(n y8 12), x14] fun x15 =>
.l (.arith .add .i64) [(n y8 0), (i 1)] fun x16 =>
.cont 1 [x16, (n y8 1), (n y8 2), (n y8 3), (n y8 4), (n y8 5), (n y8 6), (n y8 7), (n y8 8), (n y8 9), (n y8 10), (n y8 11), x15])) (
.ret (.agg [(n y8 1), (n y8 2), (n y8 3), (n y8 4), (n y8 5), (n y8 6), (n y8 7), (n y8 8), (n y8 9), (n y8 10), (n y8 11), (n y8 12)]))))
theorem k_ref04_process : TxOk P F.ref04_process 1 t_ref04_process := txOk_of (H := { wr := [], ro := [63, 110], nl := [], fz := [], da := [], sigs := [] }) (plans := []) hm Tryz.func67 rfl rfl fun xs => by kernel_rfl
def u_ref04_process (xs : List PV) : T PV :=
.calls F.ref04_single sg_ref04_single [(n xs 0), (n xs 1), (n xs 2), (n xs 3), (n xs 4)] fun z0 =>
.l (.lst 12 true) [(n z0 0)] fun x1 =>
.loop [x1, (n z0 1), (n z0 2), (n z0 3), (n z0 4), (n z0 5)] fun y2 =>
.call F.ref04_text [(.box (.agg [(n y2 1), (n y2 2), (n y2 3), (n y2 4), (n y2 5)]))] fun x3 =>
.l .gnd [x3] fun x4 =>
.l (.scmp .eql) [x4, (.str ⟨#[124]⟩)] fun x5 =>
.ite x5 (
.calls F.ref04_need sg_ref04_need [(.str ⟨#[124]⟩), (n y2 1), (n y2 2), (n y2 3), (n y2 4), (n y2 5)] fun z6 =>
.calls F.ref04_single sg_ref04_single [(n z6 1), (n z6 2), (n z6 3), (n z6 4), (n z6 5)] fun z7 =>
.l (.lst 12 true) [(n z7 0)] fun x8 =>
.l (.app 12 true 200) [(n y2 0), x8] fun x9 =>
.cont 0 [x9, (n z7 1), (n z7 2), (n z7 3), (n z7 4), (n z7 5)]) (
.l .len [(n y2 0)] fun x6 =>
.l (.cmp .eql .i64) [x6, (i 1)] fun x7 =>
.ite x7 (
.l (.idx 12 true) [(n y2 0), (i 0)] fun x8 =>
.l (.okc 12 true) [x8] fun x9 =>
.ret (.tup [x9, (n y2 1), (n y2 2), (n y2 3), (n y2 4), (n y2 5)])) (
.loop [(i 0), (i 7), (.str ⟨#[]⟩), (.str ⟨#[]⟩), (.sl []), (.sl []), (i 0), (i 0), (.str ⟨#[]⟩), (i 0), (.sl []), (.sl []), (.sl [])] fun y8 =>
.l .len [(n y2 0)] fun x9 =>
.l (.cmp .lss .i64) [(n y8 0), x9] fun x10 =>
.ite x10 (
.l (.idx 12 true) [(n y2 0), (n y8 0)] fun x11 =>
.l (.cmp .eql .i64) [(c 0 x11), (i 7)] fun x12 =>
.ite x12 (
.l (.idx 12 true) [(n y2 0), (n y8 0)] fun x13 =>
.l (.app 12 true 200) [(n y8 12), (c 11 x13)] fun x14 =>
.l (.arith .add .i64) [(n y8 0), (i 1)] fun x15 =>
.cont 1 [x15, (n y8 1), (n y8 2), (n y8 3), (n y8 4), (n y8 5), (n y8 6), (n y8 7), (n y8 8), (n y8 9), (n y8 10), (n y8 11), x14]) (
.l (.idx 12 true) [(n y2 0), (n y8 0)] fun x13 =>
.l (.lst 12 true) [x13] fun x14 =>
.l (.app 12 true 200) [(n y8 12), x14] fun x15 =>
.l (.arith .add .i64) [(n y8 0), (i 1)] fun x16 =>
.cont 1 [x16, (n y8 1), (n y8 2), (n y8 3), (n y8 4), (n y8 5), (n y8 6), (n y8 7), (n y8 8), (n y8 9), (n y8 10), (n y8 11), x15])) (
.ret (.tup [(.agg [(n y8 1), (n y8 2), (n y8 3), (n y8 4), (n y8 5), (n y8 6), (n y8 7), (n y8 8), (n y8 9), (n y8 10), (n y8 11), (n y8 12)]), (n y2 1), (n y2 2), (n y2 3), (n y2 4), (n y2 5)]))))
theorem m_ref04_process : TxOkS P F.ref04_process sg_ref04_process u_ref04_process := txOkS_of (H := { wr := [], ro := [63, 110], nl := [], fz := [], da := [], sigs := [(45, sg_ref04_program), (46, sg_ref04_finish), (64, sg_ref04_need), (65, sg_ref04_name), (66, sg_ref04_anyType), (67, sg_ref04_process), (68, sg_ref04_fail), (83, sg_ref04_payload), (84, sg_ref04_session), (85, sg_ref04_single), (94, sg_ref04_variable), (95, sg_ref04_transmission), (96, sg_ref04_labels), (97, sg_ref04_after), (103, sg_ref04_small), (104, sg_ref04_prio), (105, sg_ref04_value), (44, sg_ref04_start)] }) (plans := []) hm Tryz.func67 rfl fun xs => by kernel_rfl
-- NOT TOLD: 68 duologue/duologueref04.fail: 1
def u_ref04_fail (xs : List PV) : T PV :=
.l (.cmp .neq .i64) [(n xs 4), (i 0)] fun x0 =>
.ite x0 (
.ret (.tup [(.tup []), (n xs 1), (n xs 2), (n xs 3), (n xs 4), (n xs 5)])) (
.l (.okc 1 false) [(n xs 0)] fun x1 =>
.l (.okc 1 false) [(n xs 3)] fun x2 =>
.l .len [(n xs 1)] fun x3 =>
.l (.cmp .lss .i64) [(n xs 2), x3] fun x4 =>
.ite x4 (
.l (.idx 4 true) [(n xs 1), (n xs 2)] fun x5 =>
.l (.okc 1 false) [(c 3 x5)] fun x6 =>
.ret (.tup [(.tup []), (n xs 1), (n xs 2), (n xs 3), x1, x6])) (
.ret (.tup [(.tup []), (n xs 1), (n xs 2), (n xs 3), x1, x2])))
theorem m_ref04_fail : TxOkS P F.ref04_fail sg_ref04_fail u_ref04_fail := txOkS_of (H := { wr := [], ro := [63, 110], nl := [], fz := [], da := [], sigs := [(45, sg_ref04_program), (46, sg_ref04_finish), (64, sg_ref04_need), (65, sg_ref04_name), (66, sg_ref04_anyType), (67, sg_ref04_process), (68, sg_ref04_fail), (83, sg_ref04_payload), (84, sg_ref04_session), (85, sg_ref04_single), (94, sg_ref04_variable), (95, sg_ref04_transmission), (96, sg_ref04_labels), (97, sg_ref04_after), (103, sg_ref04_small), (104, sg_ref04_prio), (105, sg_ref04_value), (44, sg_ref04_start)] }) (plans := []) hm Tryz.func68 rfl fun xs => by kernel_rfl
def t_ref04_deep (xs : List PV) : T PV :=
.l (.okc 12 true) [(n xs 0)] fun x0 =>
.call F.ref03_Depth [x0] fun x1 =>
.call F.ref02_Depth [(sb 5 6 x0)] fun x2 =>
.l (.mx .i64) [x1, x2] fun x3 =>
.loop [(i 0), x3] fun y4 =>
.l .len [(c 11 x0)] fun x5 =>
.l (.cmp .lss .i64) [(n y4 0), x5] fun x6 =>
.ite x6 (
.l (.idx 12 true) [(c 11 x0), (n y4 0)] fun x7 =>
.call F.ref04_deep [x7] fun x8 =>
.l (.mx .i64) [(n y4 1), x8] fun x9 =>
.l (.arith .add .i64) [(n y4 0), (i 1)] fun x10 =>
.cont 0 [x10, x9]) (
.ret (n y4 1))
theorem k_ref04_deep : TxOk P F.ref04_deep 1 t_ref04_deep := txOk_of (H := { wr := [], ro := [63, 110], nl := [], fz := [], da := [], sigs := [] }) (plans := []) hm Tryz.func69 rfl rfl fun xs => by kernel_rfl
def t_ref03_Total (xs : List PV) : T PV :=
.l (.okc 13 true) [(n xs 0)] fun x0 =>
.call F.ref03_Size [(sb 1 12 x0)] fun x1 =>
.call F.ref03_types [(sb 1 12 x0)] fun x2 =>
.l (.arith .add .i64) [x1, x2] fun x3 =>
.loop [(i 0), x3] fun y4 =>
.l .len [(c 0 x0)] fun x5 =>
.l (.cmp .lss .i64) [(n y4 0), x5] fun x6 =>
.ite x6 (
.l (.idx 14 true) [(c 0 x0), (n y4 0)] fun x7 =>
.call F.ref03_Size [(sb 2 12 x7)] fun x8 =>
.l (.arith .add .i64) [(n y4 1), x8] fun x9 =>
.l (.idx 14 true) [(c 0 x0), (n y4 0)] fun x10 =>
.call F.ref03_types [(sb 2 12 x10)] fun x11 =>
.l (.arith .add .i64) [x9, x11] fun x12 =>
.loop [(i 0), x12] fun y13 =>
.l (.idx 14 true) [(c 0 x0), (n y4 0)] fun x14 =>
.l .len [(c 1 x14)] fun x15 =>
.l (.cmp .lss .i64) [(n y13 0), x15] fun x16 =>
.ite x16 (
.l (.idx 14 true) [(c 0 x0), (n y4 0)] fun x17 =>
.l (.idx 7 true) [(c 1 x17), (n y13 0)] fun x18 =>
.call F.ref02_Size [(sb 1 6 x18)] fun x19 =>
.l (.arith .add .i64) [(n y13 1), x19] fun x20 =>
.l (.arith .add .i64) [(n y13 0), (i 1)] fun x21 =>
.cont 1 [x21, x20]) (
.l (.arith .add .i64) [(n y4 0), (i 1)] fun x17 =>
.cont 0 [x17, (n y13 1)])) (
.ret (n y4 1))
theorem k_ref03_Total : TxOk P F.ref03_Total 1 t_ref03_Total := txOk_of (H := {}) (plans := []) hm Tryz.func70 rfl rfl fun xs => by kernel_rfl
def t_ref02_Depth (xs : List PV) : T PV :=
.l (.okc 6 true) [(n xs 0)] fun x0 =>
.loop [(i 0), (i 0)] fun y1 =>
.l .len [(c 5 x0)] fun x2 =>
.l (.cmp .lss .i64) [(n y1 0), x2] fun x3 =>
.ite x3 (
.l (.idx 6 true) [(c 5 x0), (n y1 0)] fun x4 =>
.call F.ref02_Depth [x4] fun x5 =>
.l (.mx .i64) [(n y1 1), x5] fun x6 =>
.l (.arith .add .i64) [(n y1 0), (i 1)] fun x7 =>
.cont 0 [x7, x6]) (
.l (.arith .add .i64) [(n y1 1), (i 1)] fun x4 =>
.ret x4)
theorem k_ref02_Depth : TxOk P F.ref02_Depth 1 t_ref02_Depth := txOk_of (H := {}) (plans := []) hm Tryz.func71 rfl rfl fun xs => by kernel_rfl
def t_ref02_count (xs : List PV) : T PV :=
.l (.okc 6 true) [(n xs 0)] fun x0 =>
.l (.arith .sub .i64) [(n xs 1), (i 1)] fun x1 =>
.loop [(i 0), x1] fun y2 =>
.l .len [(c 5 x0)] fun x3 =>
.l (.cmp .lss .i64) [(n y2 0), x3] fun x4 =>
.ite x4 (
.l (.cmp .geq .i64) [(n y2 1), (i 0)] fun x5 =>
.ite x5 (
.l (.idx 6 true) [(c 5 x0), (n y2 0)] fun x6 =>
.call F.ref02_count [x6, (n y2 1)] fun x7 =>
.l (.arith .add .i64) [(n y2 0), (i 1)] fun x8 =>
.cont 0 [x8, x7]) (
.ret (n y2 1))) (
.ret (n y2 1))
theorem k_ref02_count : TxOk P F.ref02_count 2 t_ref02_count := txOk_of (H := {}) (plans := []) hm Tryz.func72 rfl rfl fun xs => by kernel_rfl
def t_ref03_Right (xs : List PV) : T PV :=
.l (.okc 12 true) [(n xs 0)] fun x0 =>
.call F.ref03_Depth [x0] fun x1 =>
.l (.cmp .gtr .i64) [x1, (i 100)] fun x2 =>
.ite x2 (
.ret (i 2)) (
.call F.ref03_Size [x0] fun x3 =>
.l (.cmp .gtr .i64) [x3, (i 10000)] fun x4 =>
.ite x4 (
.ret (i 2)) (
.call F.ref03_nodes [x0] fun x5 =>
.l .bnot [x5] fun x6 =>
.ite x6 (
.ret (i 3)) (
.ret (i 0))))
theorem k_ref03_Right : TxOk P F.ref03_Right 1 t_ref03_Right := txOk_of (H := {}) (plans := []) hm Tryz.func73 rfl rfl fun xs => by kernel_rfl
def t_ref03_name (xs : List PV) : T PV :=
.call F.ref01_Name [(n xs 0)] fun x0 =>
.ret x0
theorem k_ref03_name : TxOk P F.ref03_name 1 t_ref03_name := txOk_of (H := {}) (plans := []) hm Tryz.func74 rfl rfl fun xs => by kernel_rfl
def t_ref02_Right (xs : List PV) : T PV :=
.l (.okc 6 true) [(n xs 0)] fun x0 =>
.call F.ref02_Depth [x0] fun x1 =>
.l (.cmp .gtr .i64) [x1, (i 100)] fun x2 =>
.ite x2 (
.ret (i 2)) (
.call F.ref02_Size [x0] fun x3 =>
.l (.cmp .gtr .i64) [x3, (i 10000)] fun x4 =>
.ite x4 (
.ret (i 2)) (
.call F.ref02_node [x0, (.sl []), (i 0), (.bool false)] fun x5 =>
.ret x5))
theorem k_ref02_Right : TxOk P F.ref02_Right 1 t_ref02_Right := txOk_of (H := {}) (plans := []) hm Tryz.func75 rfl rfl fun xs => by kernel_rfl
-- NOT TOLD: 76 duologue/scope.collect$1: 1
def u_scope_collect_1 (xs : List PV) : T PV :=
.l (.okc 12 true) [(n xs 0)] fun x0 =>
.callv (n xs 1) [x0] fun x1 =>
.l (.app 1 false 16) [(n xs 2), x1] fun x2 =>
.l .len [(c 11 x0)] fun x3 =>
.loop [(i 0), x2, (n xs 1)] fun y4 =>
.l (.cmp .lss .i64) [(n y4 0), x3] fun x5 =>
.ite x5 (
.l (.idx 12 true) [(c 11 x0), (n y4 0)] fun x6 =>
.l (.okc 12 true) [x6] fun x7 =>
.calls F.scope_collect_1 sg_scope_collect_1 [x7, (n y4 2), (n y4 1)] fun z8 =>
.l (.arith .add .i64) [(n y4 0), (i 1)] fun x9 =>
.cont 0 [x9, (n z8 2), (n z8 1)]) (
.ret (.tup [(.tup []), (n y4 2), (n y4 1)]))
theorem m_scope_collect_1 : TxOkS P F.scope_collect_1 sg_scope_collect_1 u_scope_collect_1 := txOkS_of (H := { wr := [], ro := [], nl := [], fz := [], da := [], sigs := [(76, sg_scope_collect_1)] }) (plans := []) hm Tryz.func76 rfl fun xs => by kernel_rfl
def t_typetree_mapped (xs : List PV) : T PV :=
.l (.okc 6 true) [(n xs 0)] fun x0 =>
.call F.slices_Clone_string_string [(c 4 x0)] fun x1 =>
.l (.okc 1 false) [x1] fun x2 =>
.l .len [(c 5 x0)] fun x3 =>
.loop [(i 0), (.sl [])] fun y4 =>
.l (.cmp .lss .i64) [(n y4 0), x3] fun x5 =>
.ite x5 (
.l (.idx 6 true) [(c 5 x0), (n y4 0)] fun x6 =>
.l (.okc 6 true) [x6] fun x7 =>
.callv (n xs 1) [x7] fun x8 =>
.l (.lst 6 true) [x8] fun x9 =>
.l (.app 6 true 88) [(n y4 1), x9] fun x10 =>
.l (.arith .add .i64) [(n y4 0), (i 1)] fun x11 =>
.cont 0 [x11, x10]) (
.ret (.agg [(c 0 x0), (c 1 x0), (c 2 x0), (c 3 x0), x2, (n y4 1)]))
theorem k_typetree_mapped : TxOk P F.typetree_mapped 2 t_typetree_mapped := txOk_of (H := {}) (plans := []) hm Tryz.func77 rfl rfl fun xs => by kernel_rfl
def t_ref01_in (xs : List PV) : T PV :=
.loop [(i 0)] fun y0 =>
.l .slen [(n xs 1)] fun x1 =>
.l (.cmp .lss .i64) [(n y0 0), x1] fun x2 =>
.ite x2 (
.l .sidx [(n xs 1), (n y0 0)] fun x3 =>
.l (.cmp .eql .u8) [x3, (n xs 0)] fun x4 =>
.ite x4 (
.ret (.bool true)) (
.l (.arith .add .i64) [(n y0 0), (i 1)] fun x5 =>
.cont 0 [x5])) (
.ret (.bool false))
theorem k_ref01_in : TxOk P F.ref01_in 2 t_ref01_in := txOk_of (H := {}) (plans := []) hm Tryz.func78 rfl rfl fun xs => by kernel_rfl
def t_ref01_longest (xs : List PV) : T PV :=
.l (.arith .add .i64) [(n xs 1), (i 1)] fun x0 =>
.loop [x0, (n xs 1)] fun y1 =>
.l .slen [(n xs 0)] fun x2 =>
.l (.cmp .leq .i64) [(n y1 0), x2] fun x3 =>
.ite x3 (
.l .ssl [(n xs 0), (n xs 1), (n y1 0)] fun x4 =>
.call F.ref01_kind [x4] fun x5 =>
.l (.cmp .gtr .i64) [x5, (i 0)] fun x6 =>
.ite x6 (
.l (.arith .add .i64) [(n y1 0), (i 1)] fun x7 =>
.cont 0 [x7, (n y1 0)]) (
.l (.arith .add .i64) [(n xs 1), (i 1)] fun x7 =>
.l (.cmp .gtr .i64) [(n y1 0), x7] fun x8 =>
.ite x8 (
.ret (n y1 1)) (
.l (.arith .add .i64) [(n y1 0), (i 1)] fun x9 =>
.cont 0 [x9, (n y1 1)]))) (
.ret (n y1 1))
theorem k_ref01_longest : TxOk P F.ref01_longest 2 t_ref01_longest := txOk_of (H := {}) (plans := []) hm Tryz.func79 rfl rfl fun xs => by kernel_rfl
def t_ref01_kind (xs : List PV) : T PV :=
.call F.ref01_Word [(n xs 0)] fun x0 =>
.ite x0 (
.ret (i 1)) (
.call F.ref01_Number [(n xs 0)] fun x1 =>
.ite x1 (
.ret (i 2)) (
.l .slen [(n xs 0)] fun x2 =>
.l (.cmp .eql .i64) [x2, (i 1)] fun x3 =>
.ite x3 (
.l .sidx [(n xs 0), (i 0)] fun x4 =>
.call F.ref01_in [x4, (.str ⟨#[33, 63, 46, 40, 41, 123, 125, 60, 62, 44, 58, 59, 124, 38, 43, 61]⟩)] fun x5 =>
.ite x5 (
.ret (i 3)) (
.ret (i 0))) (
.ret (i 0))))
theorem k_ref01_kind : TxOk P F.ref01_kind 1 t_ref01_kind := txOk_of (H := {}) (plans := []) hm Tryz.func80 rfl rfl fun xs => by kernel_rfl
def t_ref01_Value (xs : List PV) : T PV :=
.l .sidx [(n xs 0), (i 0)] fun x0 =>
.l (.cmp .eql .u8) [x0, (.int .u8 (45))] fun x1 =>
.ite x1 (
.loop [(i 1), (i 0)] fun y2 =>
.l .slen [(n xs 0)] fun x3 =>
.l (.cmp .lss .i64) [(n y2 0), x3] fun x4 =>
.ite x4 (
.l .sidx [(n xs 0), (n y2 0)] fun x5 =>
.l (.conv .i64) [x5] fun x6 =>
.l (.arith .sub .i64) [x6, (i 48)] fun x7 =>
.l (.arith .add .i64) [(i (-9223372036854775808)), x7] fun x8 =>
.l (.arith .quo .i64) [x8, (i 10)] fun x9 =>
.l (.cmp .lss .i64) [(n y2 1), x9] fun x10 =>
.ite x10 (
.ret (.tup [(i 0), (.bool false)])) (
.l (.arith .mul .i64) [(i 10), (n y2 1)] fun x11 =>
.l (.arith .sub .i64) [x11, x7] fun x12 =>
.l (.arith .add .i64) [(n y2 0), (i 1)] fun x13 =>
.cont 0 [x13, x12])) (
.ret (.tup [(n y2 1), (.bool true)]))) (
.loop [(i 0), (i 0)] fun y2 =>
.l .slen [(n xs 0)] fun x3 =>
.l (.cmp .lss .i64) [(n y2 0), x3] fun x4 =>
.ite x4 (
.l .sidx [(n xs 0), (n y2 0)] fun x5 =>
.l (.conv .i64) [x5] fun x6 =>
.l (.arith .sub .i64) [x6, (i 48)] fun x7 =>
.l (.arith .sub .i64) [(i 9223372036854775807), x7] fun x8 =>
.l (.arith .quo .i64) [x8, (i 10)] fun x9 =>
.l (.cmp .gtr .i64) [(n y2 1), x9] fun x10 =>
.ite x10 (
.ret (.tup [(i 0), (.bool false)])) (
.l (.arith .mul .i64) [(i 10), (n y2 1)] fun x11 =>
.l (.arith .add .i64) [x11, x7] fun x12 =>
.l (.arith .add .i64) [(n y2 0), (i 1)] fun x13 =>
.cont 0 [x13, x12])) (
.ret (.tup [(n y2 1), (.bool true)])))
theorem k_ref01_Value : TxOk P F.ref01_Value 1 t_ref01_Value := txOk_of (H := {}) (plans := []) hm Tryz.func81 rfl rfl fun xs => by kernel_rfl
def t_ref01_Name (xs : List PV) : T PV :=
.call F.ref01_Word [(n xs 0)] fun x0 =>
.ite x0 (
.call F.ref01_Keyword [(n xs 0)] fun x1 =>
.l .bnot [x1] fun x2 =>
.ret x2) (
.ret (.bool false))
theorem k_ref01_Name : TxOk P F.ref01_Name 1 t_ref01_Name := txOk_of (H := {}) (plans := []) hm Tryz.func82 rfl rfl fun xs => by kernel_rfl
def t_ref04_payload (xs : List PV) : T PV :=
.call F.ref04_text [(n xs 0)] fun x0 =>
.l .gnd [x0] fun x1 =>
.l (.scmp .eql) [x1, (.str ⟨#[105, 110, 116]⟩)] fun x2 =>
.ite x2 (
.call F.ref04_need [(n xs 0), (.str ⟨#[105, 110, 116]⟩)] fun x3 =>
.ret (.agg [(i 1), (i 0), (.str ⟨#[]⟩), (i 0), (.sl []), (.sl [])])) (
.l (.scmp .eql) [x1, (.str ⟨#[98, 111, 111, 108]⟩)] fun x3 =>
.ite x3 (
.call F.ref04_need [(n xs 0), (.str ⟨#[98, 111, 111, 108]⟩)] fun x4 =>
.ret (.agg [(i 2), (i 0), (.str ⟨#[]⟩), (i 0), (.sl []), (.sl [])])) (
.l (.scmp .eql) [x1, (.str ⟨#[101, 110, 100]⟩)] fun x4 =>
.ite x4 (
.call F.ref04_need [(n xs 0), (.str ⟨#[101, 110, 100]⟩)] fun x5 =>
.ret (.agg [(i 3), (i 0), (.str ⟨#[]⟩), (i 0), (.sl []), (.sl [])])) (
.l (.scmp .eql) [x1, (.str ⟨#[40]⟩)] fun x5 =>
.ite x5 (
.call F.ref04_session [(n xs 0)] fun x6 =>
.l (.okc 6 true) [x6] fun x7 =>
.ret x7) (
.call F.ref04_variable [(n xs 0)] fun x6 =>
.l (.okc 6 true) [x6] fun x7 =>
.ret x7))))
theorem k_ref04_payload : TxOk P F.ref04_payload 1 t_ref04_payload := txOk_of (H := { wr := [], ro := [63, 110], nl := [], fz := [], da := [], sigs := [] }) (plans := []) hm Tryz.func83 rfl rfl fun xs => by kernel_rfl
def u_ref04_payload (xs : List PV) : T PV :=
.call F.ref04_text [(.box (.agg [(n xs 0), (n xs 1), (n xs 2), (n xs 3), (n xs 4)]))] fun x0 =>
.l .gnd [x0] fun x1 =>
.l (.scmp .eql) [x1, (.str ⟨#[105, 110, 116]⟩)] fun x2 =>
.ite x2 (
.calls F.ref04_need sg_ref04_need [(.str ⟨#[105, 110, 116]⟩), (n xs 0), (n xs 1), (n xs 2), (n xs 3), (n xs 4)] fun z3 =>
.ret (.tup [(.agg [(i 1), (i 0), (.str ⟨#[]⟩), (i 0), (.sl []), (.sl [])]), (n z3 1), (n z3 2), (n z3 3), (n z3 4), (n z3 5)])) (
.l (.scmp .eql) [x1, (.str ⟨#[98, 111, 111, 108]⟩)] fun x3 =>
.ite x3 (
.calls F.ref04_need sg_ref04_need [(.str ⟨#[98, 111, 111, 108]⟩), (n xs 0), (n xs 1), (n xs 2), (n xs 3), (n xs 4)] fun z4 =>
.ret (.tup [(.agg [(i 2), (i 0), (.str ⟨#[]⟩), (i 0), (.sl []), (.sl [])]), (n z4 1), (n z4 2), (n z4 3), (n z4 4), (n z4 5)])) (
.l (.scmp .eql) [x1, (.str ⟨#[101, 110, 100]⟩)] fun x4 =>
.ite x4 (
.calls F.ref04_need sg_ref04_need [(.str ⟨#[101, 110, 100]⟩), (n xs 0), (n xs 1), (n xs 2), (n xs 3), (n xs 4)] fun z5 =>
.ret (.tup [(.agg [(i 3), (i 0), (.str ⟨#[]⟩), (i 0), (.sl []), (.sl [])]), (n z5 1), (n z5 2), (n z5 3), (n z5 4), (n z5 5)])) (
.l (.scmp .eql) [x1, (.str ⟨#[40]⟩)] fun x5 =>
.ite x5 (
.calls F.ref04_session sg_ref04_session [(n xs 0), (n xs 1), (n xs 2), (n xs 3), (n xs 4)] fun z6 =>
.l (.okc 6 true) [(n z6 0)] fun x7 =>
.ret (.tup [x7, (n z6 1), (n z6 2), (n z6 3), (n z6 4), (n z6 5)])) (
.calls F.ref04_variable sg_ref04_variable [(n xs 0), (n xs 1), (n xs 2), (n xs 3), (n xs 4)] fun z6 =>
.l (.okc 6 true) [(n z6 0)] fun x7 =>
.ret (.tup [x7, (n z6 1), (n z6 2), (n z6 3), (n z6 4), (n z6 5)])))))
theorem m_ref04_payload : TxOkS P F.ref04_payload sg_ref04_payload u_ref04_payload := txOkS_of (H := { wr := [], ro := [63, 110], nl := [], fz := [], da := [], sigs := [(45, sg_ref04_program), (46, sg_ref04_finish), (64, sg_ref04_need), (65, sg_ref04_name), (66, sg_ref04_anyType), (67, sg_ref04_process), (68, sg_ref04_fail), (83, sg_ref04_payload), (84, sg_ref04_session), (85, sg_ref04_single), (94, sg_ref04_variable), (95, sg_ref04_transmission), (96, sg_ref04_labels), (97, sg_ref04_after), (103, sg_ref04_small), (104, sg_ref04_prio), (105, sg_ref04_value), (44, sg_ref04_start)] }) (plans := []) hm Tryz.func83 rfl fun xs => by kernel_rfl
def t_ref04_session (xs : List PV) : T PV :=
.l .notnil [(n xs 0)] fun x0 =>
.l (.unbox 5 true) [x0] fun x1 =>
.l (.cmp .neq .i64) [(c 3 x1), (i 0)] fun x2 =>
.ite x2 (
.ret (.agg [(i 0), (i 0), (.str ⟨#[]⟩), (i 0), (.sl []), (.sl [])])) (
.call F.ref04_text [(n xs 0)] fun x3 =>
.l .gnd [x3] fun x4 =>
.l (.scmp .eql) [x4, (.str ⟨#[101, 110, 100]⟩)] fun x5 =>
.ite x5 (
.call F.ref04_need [(n xs 0), x4] fun x6 =>
.ret (.agg [(i 3), (i 0), (.str ⟨#[]⟩), (i 0), (.sl []), (.sl [])])) (
.l (.scmp .eql) [x4, (.str ⟨#[33]⟩)] fun x6 =>
.ite x6 (
.call F.ref04_need [(n xs 0), x4] fun x7 =>
.call F.ref04_transmission [(n xs 0), (i 4)] fun x8 =>
.l (.okc 6 true) [x8] fun x9 =>
.ret x9) (
.l (.scmp .eql) [x4, (.str ⟨#[63]⟩)] fun x7 =>
.ite x7 (
.call F.ref04_need [(n xs 0), x4] fun x8 =>
.call F.ref04_transmission [(n xs 0), (i 5)] fun x9 =>
.l (.okc 6 true) [x9] fun x10 =>
.ret x10) (
.l (.scmp .eql) [x4, (.str ⟨#[43]⟩)] fun x8 =>
.ite x8 (
.call F.ref04_need [(n xs 0), x4] fun x9 =>
.call F.ref04_labels [(n xs 0), (i 6)] fun x10 =>
.l (.okc 6 true) [x10] fun x11 =>
.ret x11) (
.l (.scmp .eql) [x4, (.str ⟨#[38]⟩)] fun x9 =>
.ite x9 (
.call F.ref04_need [(n xs 0), x4] fun x10 =>
.call F.ref04_labels [(n xs 0), (i 7)] fun x11 =>
.l (.okc 6 true) [x11] fun x12 =>
.ret x12) (
.l (.scmp .eql) [x4, (.str ⟨#[114, 101, 99]⟩)] fun x10 =>
.ite x10 (
.call F.ref04_need [(n xs 0), x4] fun x11 =>
.call F.ref04_name [(n xs 0)] fun x12 =>
.call F.ref04_need [(n xs 0), (.str ⟨#[46]⟩)] fun x13 =>
.call F.ref04_session [(n xs 0)] fun x14 =>
.l (.lst 6 true) [x14] fun x15 =>
.l (.okcs [(1, false)]) [x12] fun x16 =>
.ret (.agg [(i 8), (i 0), x12, (i 0), (.sl []), x15])) (
.l (.scmp .eql) [x4, (.str ⟨#[40]⟩)] fun x11 =>
.ite x11 (
.call F.ref04_need [(n xs 0), x4] fun x12 =>
.call F.ref04_session [(n xs 0)] fun x13 =>
.l (.okc 6 true) [x13] fun x14 =>
.call F.ref04_need [(n xs 0), (.str ⟨#[41]⟩)] fun x15 =>
.l (.okc 6 true) [x14] fun x16 =>
.ret x16) (
.call F.ref04_variable [(n xs 0)] fun x12 =>
.l (.okc 6 true) [x12] fun x13 =>
.ret x13))))))))
theorem k_ref04_session : TxOk P F.ref04_session 1 t_ref04_session := txOk_of (H := { wr := [], ro := [63, 110], nl := [], fz := [], da := [], sigs := [] }) (plans := []) hm Tryz.func84 rfl rfl fun xs => by kernel_rfl
def u_ref04_session (xs : List PV) : T PV :=
.l (.cmp .neq .i64) [(n xs 3), (i 0)] fun x0 =>
.ite x0 (
.ret (.tup [(.agg [(i 0), (i 0), (.str ⟨#[]⟩), (i 0), (.sl []), (.sl [])]), (n xs 0), (n xs 1), (n xs 2), (n xs 3), (n xs 4)])) (
.call F.ref04_text [(.box (.agg [(n xs 0), (n xs 1), (n xs 2), (n xs 3), (n xs 4)]))] fun x1 =>
.l .gnd [x1] fun x2 =>
.l (.scmp .eql) [x2, (.str ⟨#[101, 110, 100]⟩)] fun x3 =>
.ite x3 (
.calls F.ref04_need sg_ref04_need [x2, (n xs 0), (n xs 1), (n xs 2), (n xs 3), (n xs 4)] fun z4 =>
.ret (.tup [(.agg [(i 3), (i 0), (.str ⟨#[]⟩), (i 0), (.sl []), (.sl [])]), (n z4 1), (n z4 2), (n z4 3), (n z4 4), (n z4 5)])) (
.l (.scmp .eql) [x2, (.str ⟨#[33]⟩)] fun x4 =>
.ite x4 (
.calls F.ref04_need sg_ref04_need [x2, (n xs 0), (n xs 1), (n xs 2), (n xs 3), (n xs 4)] fun z5 =>
.calls F.ref04_transmission sg_ref04_transmission [(i 4), (n z5 1), (n z5 2), (n z5 3), (n z5 4), (n z5 5)] fun z6 =>
.l (.okc 6 true) [(n z6 0)] fun x7 =>
.ret (.tup [x7, (n z6 1), (n z6 2), (n z6 3), (n z6 4), (n z6 5)])) (
.l (.scmp .eql) [x2, (.str ⟨#[63]⟩)] fun x5 =>
.ite x5 (
.calls F.ref04_need sg_ref04_need [x2, (n xs 0), (n xs 1), (n xs 2), (n xs 3), (n xs 4)] fun z6 =>
.calls F.ref04_transmission sg_ref04_transmission [(i 5), (n z6 1), (n z6 2), (n z6 3), (n z6 4), (n z6 5)] fun z7 =>
.l (.okc 6 true) [(n z7 0)] fun x8 =>
.ret (.tup [x8, (n z7 1), (n z7 2), (n z7 3), (n z7 4), (n z7 5)])) (
.l (.scmp .eql) [x2, (.str ⟨#[43]⟩)] fun x6 =>
.ite x6 (
.calls F.ref04_need sg_ref04_need [x2, (n xs 0), (n xs 1), (n xs 2), (n xs 3), (n xs 4)] fun z7 =>
.calls F.ref04_labels sg_ref04_labels [(i 6), (n z7 1), (n z7 2), (n z7 3), (n z7 4), (n z7 5)] fun z8 =>
.l (.okc 6 true) [(n z8 0)] fun x9 =>
.ret (.tup [x9, (n z8 1), (n z8 2), (n z8 3), (n z8 4), (n z8 5)])) (
.l (.scmp .eql) [x2, (.str ⟨#[38]⟩)] fun x7 =>
.ite x7 (
.calls F.ref04_need sg_ref04_need [x2, (n xs 0), (n xs 1), (n xs 2), (n xs 3), (n xs 4)] fun z8 =>
.calls F.ref04_labels sg_ref04_labels [(i 7), (n z8 1), (n z8 2), (n z8 3), (n z8 4), (n z8 5)] fun z9 =>
.l (.okc 6 true) [(n z9 0)] fun x10 =>
.ret (.tup [x10, (n z9 1), (n z9 2), (n z9 3), (n z9 4), (n z9 5)])) (
.l (.scmp .eql) [x2, (.str ⟨#[114, 101, 99]⟩)] fun x8 =>
.ite x8 (
.calls F.ref04_need sg_ref04_need [x2, (n xs 0), (n xs 1), (n xs 2), (n xs 3), (n xs 4)] fun z9 =>
.calls F.ref04_name sg_ref04_name [(n z9 1), (n z9 2), (n z9 3), (n z9 4), (n z9 5)] fun z10 =>
.calls F.ref04_need sg_ref04_need [(.str ⟨#[46]⟩), (n z10 1), (n z10 2), (n z10 3), (n z10 4), (n z10 5)] fun z11 =>
.calls F.ref04_session sg_ref04_session [(n z11 1), (n z11 2), (n z11 3), (n z11 4), (n z11 5)] fun z12 =>
.l (.lst 6 true) [(n z12 0)] fun x13 =>
.l (.okcs [(1, false)]) [(n z10 0)] fun x14 =>
.ret (.tup [(.agg [(i 8), (i 0), (n z10 0), (i 0), (.sl []), x13]), (n z12 1), (n z12 2), (n z12 3), (n z12 4), (n z12 5)])) (
.l (.scmp .eql) [x2, (.str ⟨#[40]⟩)] fun x9 =>
.ite x9 (
.calls F.ref04_need sg_ref04_need [x2, (n xs 0), (n xs 1), (n xs 2), (n xs 3), (n xs 4)] fun z10 =>
.calls F.ref04_session sg_ref04_session [(n z10 1), (n z10 2), (n z10 3), (n z10 4), (n z10 5)] fun z11 =>
.l (.okc 6 true) [(n z11 0)] fun x12 =>
.calls F.ref04_need sg_ref04_need [(.str ⟨#[41]⟩), (n z11 1), (n z11 2), (n z11 3), (n z11 4), (n z11 5)] fun z13 =>
.l (.okc 6 true) [x12] fun x14 =>
.ret (.tup [x14, (n z13 1), (n z13 2), (n z13 3), (n z13 4), (n z13 5)])) (
.calls F.ref04_variable sg_ref04_variable [(n xs 0), (n xs 1), (n xs 2), (n xs 3), (n xs 4)] fun z10 =>
.l (.okc 6 true) [(n z10 0)] fun x11 =>
.ret (.tup [x11, (n z10 1), (n z10 2), (n z10 3), (n z10 4), (n z10 5)])))))))))
theorem m_ref04_session : TxOkS P F.ref04_session sg_ref04_session u_ref04_session := txOkS_of (H := { wr := [], ro := [63, 110], nl := [], fz := [], da := [], sigs := [(45, sg_ref04_program), (46, sg_ref04_finish), (64, sg_ref04_need), (65, sg_ref04_name), (66, sg_ref04_anyType), (67, sg_ref04_process), (68, sg_ref04_fail), (83, sg_ref04_payload), (84, sg_ref04_session), (85, sg_ref04_single), (94, sg_ref04_variable), (95, sg_ref04_transmission), (96, sg_ref04_labels), (97, sg_ref04_after), (103, sg_ref04_small), (104, sg_ref04_prio), (105, sg_ref04_value), (44, sg_ref04_start)] }) (plans := []) hm Tryz.func84 rfl fun xs => by kernel_rfl
def t_ref04_single (xs : List PV) : T PV :=
.l .notnil [(n xs 0)] fun x0 =>
.l (.unbox 5 true) [x0] fun x1 =>
.l (.cmp .neq .i64) [(c 3 x1), (i 0)] fun x2 =>
.ite x2 (
.ret (.agg [(i 0), (.str ⟨#[]⟩), (.str ⟨#[]⟩), (.sl []), (.sl []), (i 0), (i 0), (.str ⟨#[]⟩), (i 0), (.sl []), (.sl []), (.sl [])])) (
.call F.ref04_text [(n xs 0)] fun x3 =>
.l .gnd [x3] fun x4 =>
.l (.scmp .eql) [x4, (.str ⟨#[115, 116, 111, 112]⟩)] fun x5 =>
.ite x5 (
.call F.ref04_need [(n xs 0), (.str ⟨#[115, 116, 111, 112]⟩)] fun x6 =>
.ret (.agg [(i 1), (.str ⟨#[]⟩), (.str ⟨#[]⟩), (.sl []), (.sl []), (i 0), (i 0), (.str ⟨#[]⟩), (i 0), (.sl []), (.sl []), (.sl [])])) (
.l (.scmp .eql) [x4, (.str ⟨#[40]⟩)] fun x6 =>
.ite x6 (
.call F.ref04_need [(n xs 0), (.str ⟨#[40]⟩)] fun x7 =>
.call F.ref04_process [(n xs 0)] fun x8 =>
.l (.okc 12 true) [x8] fun x9 =>
.call F.ref04_need [(n xs 0), (.str ⟨#[41]⟩)] fun x10 =>
.l (.okc 12 true) [x9] fun x11 =>
.ret x11) (
.l (.scmp .eql) [x4, (.str ⟨#[110, 101, 119]⟩)] fun x7 =>
.ite x7 (
.call F.ref04_need [(n xs 0), (.str ⟨#[110, 101, 119]⟩)] fun x8 =>
.call F.ref04_need [(n xs 0), (.str ⟨#[40]⟩)] fun x9 =>
.call F.ref04_name [(n xs 0)] fun x10 =>
.l (.okc 1 false) [x10] fun x11 =>
.call F.ref04_need [(n xs 0), (.str ⟨#[44]⟩)] fun x12 =>
.call F.ref04_name [(n xs 0)] fun x13 =>
.l (.okc 1 false) [x13] fun x14 =>
.call F.ref04_need [(n xs 0), (.str ⟨#[58]⟩)] fun x15 =>
.call F.ref04_session [(n xs 0)] fun x16 =>
.l (.okc 6 true) [x16] fun x17 =>
.call F.ref04_need [(n xs 0), (.str ⟨#[41]⟩)] fun x18 =>
.call F.ref04_single [(n xs 0)] fun x19 =>
.l (.lst 12 true) [x19] fun x20 =>
.ret (.agg [(i 6), x11, x14, (.sl []), (.sl []), (c 0 x17), (c 1 x17), (c 2 x17), (c 3 x17), (c 4 x17), (c 5 x17), x20])) (
.call F.ref04_name [(n xs 0)] fun x8 =>
.call F.ref04_after [(n xs 0), x8] fun x9 =>
.l (.okc 12 true) [x9] fun x10 =>
.ret x10))))
theorem k_ref04_single : TxOk P F.ref04_single 1 t_ref04_single := txOk_of (H := { wr := [], ro := [63, 110], nl := [], fz := [], da := [], sigs := [] }) (plans := []) hm Tryz.func85 rfl rfl fun xs => by kernel_rfl
def u_ref04_single (xs : List PV) : T PV :=
.l (.cmp .neq .i64) [(n xs 3), (i 0)] fun x0 =>
.ite x0 (
.ret (.tup [(.agg [(i 0), (.str ⟨#[]⟩), (.str ⟨#[]⟩), (.sl []), (.sl []), (i 0), (i 0), (.str ⟨#[]⟩), (i 0), (.sl []), (.sl []), (.sl [])]), (n xs 0), (n xs 1), (n xs 2), (n xs 3), (n xs 4)])) (
.call F.ref04_text [(.box (.agg [(n xs 0), (n xs 1), (n xs 2), (n xs 3), (n xs 4)]))] fun x1 =>
.l .gnd [x1] fun x2 =>
.l (.scmp .eql) [x2, (.str ⟨#[115, 116, 111, 112]⟩)] fun x3 =>
.ite x3 (
.calls F.ref04_need sg_ref04_need [(.str ⟨#[115, 116, 111, 112]⟩), (n xs 0), (n xs 1), (n xs 2), (n xs 3), (n xs 4)] fun z4 =>
.ret (.tup [(.agg [(i 1), (.str ⟨#[]⟩), (.str ⟨#[]⟩), (.sl []), (.sl []), (i 0), (i 0), (.str ⟨#[]⟩), (i 0), (.sl []), (.sl []), (.sl [])]), (n z4 1), (n z4 2), (n z4 3), (n z4 4), (n z4 5)])) (
.l (.scmp .eql) [x2, (.str ⟨#[40]⟩)] fun x4 =>
.ite x4 (
.calls F.ref04_need sg_ref04_need [(.str ⟨#[40]⟩), (n xs 0), (n xs 1), (n xs 2), (n xs 3), (n xs 4)] fun z5 =>
.calls F.ref04_process sg_ref04_process [(n z5 1), (n z5 2), (n z5 3), (n z5 4), (n z5 5)] fun z6 =>
.l (.okc 12 true) [(n z6 0)] fun x7 =>
.calls F.ref04_need sg_ref04_need [(.str ⟨#[41]⟩), (n z6 1), (n z6 2), (n z6 3), (n z6 4), (n z6 5)] fun z8 =>
.l (.okc 12 true) [x7] fun x9 =>
.ret (.tup [x9, (n z8 1), (n z8 2), (n z8 3), (n z8 4), (n z8 5)])) (
.l (.scmp .eql) [x2, (.str ⟨#[110, 101, 119]⟩)] fun x5 =>
.ite x5 (
.calls F.ref04_need sg_ref04_need [(.str ⟨#[110, 101, 119]⟩), (n xs 0), (n xs 1), (n xs 2), (n xs 3), (n xs 4)] fun z6 =>
.calls F.ref04_need sg_ref04_need [(.str ⟨#[40]⟩), (n z6 1), (n z6 2), (n z6 3), (n z6 4), (n z6 5)] fun z7 =>
.calls F.ref04_name sg_ref04_name [(n z7 1), (n z7 2), (n z7 3), (n z7 4), (n z7 5)] fun z8 =>
.l (.okc 1 false) [(n z8 0)] fun x9 =>
.calls F.ref04_need sg_ref04_need [(.str ⟨#[44]⟩), (n z8 1), (n z8 2), (n z8 3), (n z8 4), (n z8 5)] fun z10 =>
.calls F.ref04_name sg_ref04_name [(n z10 1), (n z10 2), (n z10 3), (n z10 4), (n z10 5)] fun z11 =>
.l (.okc 1 false) [(n z11 0)] fun x12 =>
.calls F.ref04_need sg_ref04_need [(.str ⟨#[58]⟩), (n z11 1), (n z11 2), (n z11 3), (n z11 4), (n z11 5)] fun z13 =>
.calls F.ref04_session sg_ref04_session [(n z13 1), (n z13 2), (n z13 3), (n z13 4), (n z13 5)] fun z14 =>
.l (.okc 6 true) [(n z14 0)] fun x15 =>
.calls F.ref04_need sg_ref04_need [(.str ⟨#[41]⟩), (n z14 1), (n z14 2), (n z14 3), (n z14 4), (n z14 5)] fun z16 =>
.calls F.ref04_single sg_ref04_single [(n z16 1), (n z16 2), (n z16 3), (n z16 4), (n z16 5)] fun z17 =>
.l (.lst 12 true) [(n z17 0)] fun x18 =>
.ret (.tup [(.agg [(i 6), x9, x12, (.sl []), (.sl []), (c 0 x15), (c 1 x15), (c 2 x15), (c 3 x15), (c 4 x15), (c 5 x15), x18]), (n z17 1), (n z17 2), (n z17 3), (n z17 4), (n z17 5)])) (
.calls F.ref04_name sg_ref04_name [(n xs 0), (n xs 1), (n xs 2), (n xs 3), (n xs 4)] fun z6 =>
.calls F.ref04_after sg_ref04_after [(n z6 0), (n z6 1), (n z6 2), (n z6 3), (n z6 4), (n z6 5)] fun z7 =>
.l (.okc 12 true) [(n z7 0)] fun x8 =>
.ret (.tup [x8, (n z7 1), (n z7 2), (n z7 3), (n z7 4), (n z7 5)])))))
theorem m_ref04_single : TxOkS P F.ref04_single sg_ref04_single u_ref04_single := txOkS_of (H := { wr := [], ro := [63, 110], nl := [], fz := [], da := [], sigs := [(45, sg_ref04_program), (46, sg_ref04_finish), (64, sg_ref04_need), (65, sg_ref04_name), (66, sg_ref04_anyType), (67, sg_ref04_process), (68, sg_ref04_fail), (83, sg_ref04_payload), (84, sg_ref04_session), (85, sg_ref04_single), (94, sg_ref04_variable), (95, sg_ref04_transmission), (96, sg_ref04_labels), (97, sg_ref04_after), (103, sg_ref04_small), (104, sg_ref04_prio), (105, sg_ref04_value), (44, sg_ref04_start)] }) (plans := []) hm Tryz.func85 rfl fun xs => by kernel_rfl
def t_ref03_Size (xs : List PV) : T PV :=
.l (.okc 12 true) [(n xs 0)] fun x0 =>
.loop [(i 0), (i 1)] fun y1 =>
.l .len [(c 11 x0)] fun x2 =>
.l (.cmp .lss .i64) [(n y1 0), x2] fun x3 =>
.ite x3 (
.l (.idx 12 true) [(c 11 x0), (n y1 0)] fun x4 =>
.call F.ref03_Size [x4] fun x5 =>
.l (.arith .add .i64) [(n y1 1), x5] fun x6 =>
.l (.arith .add .i64) [(n y1 0), (i 1)] fun x7 =>
.cont 0 [x7, x6]) (
.ret (n y1 1))
theorem k_ref03_Size : TxOk P F.ref03_Size 1 t_ref03_Size := txOk_of (H := {}) (plans := []) hm Tryz.func86 rfl rfl fun xs => by kernel_rfl
def t_ref03_types (xs : List PV) : T PV :=
.l (.okc 12 true) [(n xs 0)] fun x0 =>
.l (.cmp .eql .i64) [(c 0 x0), (i 6)] fun x1 =>
.ite x1 (
.call F.ref02_Size [(sb 5 6 x0)] fun x2 =>
.loop [(i 0), x2] fun y3 =>
.l .len [(c 11 x0)] fun x4 =>
.l (.cmp .lss .i64) [(n y3 0), x4] fun x5 =>
.ite x5 (
.l (.idx 12 true) [(c 11 x0), (n y3 0)] fun x6 =>
.call F.ref03_types [x6] fun x7 =>
.l (.arith .add .i64) [(n y3 1), x7] fun x8 =>
.l (.arith .add .i64) [(n y3 0), (i 1)] fun x9 =>
.cont 0 [x9, x8]) (
.ret (n y3 1))) (
.loop [(i 0), (i 0)] fun y2 =>
.l .len [(c 11 x0)] fun x3 =>
.l (.cmp .lss .i64) [(n y2 0), x3] fun x4 =>
.ite x4 (
.l (.idx 12 true) [(c 11 x0), (n y2 0)] fun x5 =>
.call F.ref03_types [x5] fun x6 =>
.l (.arith .add .i64) [(n y2 1), x6] fun x7 =>
.l (.arith .add .i64) [(n y2 0), (i 1)] fun x8 =>
.cont 0 [x8, x7]) (
.ret (n y2 1)))
theorem k_ref03_types : TxOk P F.ref03_types 1 t_ref03_types := txOk_of (H := {}) (plans := []) hm Tryz.func87 rfl rfl fun xs => by kernel_rfl
def t_ref02_Size (xs : List PV) : T PV :=
.l (.okc 6 true) [(n xs 0)] fun x0 =>
.loop [(i 0), (i 1)] fun y1 =>
.l .len [(c 5 x0)] fun x2 =>
.l (.cmp .lss .i64) [(n y1 0), x2] fun x3 =>
.ite x3 (
.l (.idx 6 true) [(c 5 x0), (n y1 0)] fun x4 =>
.call F.ref02_Size [x4] fun x5 =>
.l (.arith .add .i64) [(n y1 1), x5] fun x6 =>
.l (.arith .add .i64) [(n y1 0), (i 1)] fun x7 =>
.cont 0 [x7, x6]) (
.ret (n y1 1))
theorem k_ref02_Size : TxOk P F.ref02_Size 1 t_ref02_Size := txOk_of (H := {}) (plans := []) hm Tryz.func88 rfl rfl fun xs => by kernel_rfl
def t_ref03_nodes (xs : List PV) : T PV :=
.l (.okc 12 true) [(n xs 0)] fun x0 =>
.call F.ref03_node [x0] fun x1 =>
.l .bnot [x1] fun x2 =>
.ite x2 (
.ret (.bool false)) (
.loop [(i 0)] fun y3 =>
.l .len [(c 11 x0)] fun x4 =>
.l (.cmp .lss .i64) [(n y3 0), x4] fun x5 =>
.ite x5 (
.l (.idx 12 true) [(c 11 x0), (n y3 0)] fun x6 =>
.call F.ref03_nodes [x6] fun x7 =>
.l .bnot [x7] fun x8 =>
.ite x8 (
.ret (.bool false)) (
.l (.arith .add .i64) [(n y3 0), (i 1)] fun x9 =>
.cont 0 [x9])) (
.ret (.bool true)))
theorem k_ref03_nodes : TxOk P F.ref03_nodes 1 t_ref03_nodes := txOk_of (H := {}) (plans := []) hm Tryz.func89 rfl rfl fun xs => by kernel_rfl
def t_ref02_node (xs : List PV) : T PV :=
.l (.okc 6 true) [(n xs 0)] fun x0 =>
.call F.ref02_shape [x0] fun x1 =>
.l .bnot [x1] fun x2 =>
.ite x2 (
.ret (i 3)) (
.ite (n xs 3) (
.call F.ref02_Session [x0] fun x3 =>
.l .bnot [x3] fun x4 =>
.ite x4 (
.ret (i 3)) (
.l (.cmp .eql .i64) [(c 0 x0), (i 9)] fun x5 =>
.ite x5 (
.l .len [(n xs 1)] fun x6 =>
.l (.arith .sub .i64) [x6, (i 1)] fun x7 =>
.loop [x7] fun y8 =>
.l (.cmp .geq .i64) [(n y8 0), (i 0)] fun x9 =>
.ite x9 (
.l (.idx 1 false) [(n xs 1), (n y8 0)] fun x10 =>
.l (.scmp .eql) [x10, (c 2 x0)] fun x11 =>
.ite x11 (
.l (.cmp .lss .i64) [(n y8 0), (n xs 2)] fun x12 =>
.ite x12 (
.ret (i 0)) (
.ret (i 3))) (
.l (.arith .sub .i64) [(n y8 0), (i 1)] fun x12 =>
.cont 0 [x12])) (
.ret (i 4))) (
.l (.cmp .eql .i64) [(c 0 x0), (i 8)] fun x6 =>
.ite x6 (
.l (.idx 6 true) [(c 5 x0), (i 0)] fun x7 =>
.l (.lst 1 false) [] fun x8 =>
.l (.app 1 false 16) [x8, (n xs 1)] fun x9 =>
.l (.lst 1 false) [(c 2 x0)] fun x10 =>
.l (.app 1 false 16) [x9, x10] fun x11 =>
.call F.ref02_node [x7, x11, (n xs 2), (.bool true)] fun x12 =>
.ret x12) (
.loop [(i 0)] fun y7 =>
.l .len [(c 5 x0)] fun x8 =>
.l (.cmp .lss .i64) [(n y7 0), x8] fun x9 =>
.ite x9 (
.l (.idx 6 true) [(c 5 x0), (n y7 0)] fun x10 =>
.l .len [(n xs 1)] fun x11 =>
.l (.cmp .gtr .i64) [(n y7 0), (i 0)] fun x12 =>
.ite x12 (
.call F.ref02_node [x10, (n xs 1), x11, (.bool true)] fun x13 =>
.l (.cmp .neq .i64) [x13, (i 0)] fun x14 =>
.ite x14 (
.ret x13) (
.l (.arith .add .i64) [(n y7 0), (i 1)] fun x15 =>
.cont 0 [x15])) (
.l (.cmp .gtr .i64) [(c 0 x0), (i 5)] fun x13 =>
.call F.ref02_node [x10, (n xs 1), x11, x13] fun x14 =>
.l (.cmp .neq .i64) [x14, (i 0)] fun x15 =>
.ite x15 (
.ret x14) (
.l (.arith .add .i64) [(n y7 0), (i 1)] fun x16 =>
.cont 0 [x16]))) (
.ret (i 0)))))) (
.l (.cmp .eql .i64) [(c 0 x0), (i 9)] fun x3 =>
.ite x3 (
.l .len [(n xs 1)] fun x4 =>
.l (.arith .sub .i64) [x4, (i 1)] fun x5 =>
.loop [x5] fun y6 =>
.l (.cmp .geq .i64) [(n y6 0), (i 0)] fun x7 =>
.ite x7 (
.l (.idx 1 false) [(n xs 1), (n y6 0)] fun x8 =>
.l (.scmp .eql) [x8, (c 2 x0)] fun x9 =>
.ite x9 (
.l (.cmp .lss .i64) [(n y6 0), (n xs 2)] fun x10 =>
.ite x10 (
.ret (i 0)) (
.ret (i 3))) (
.l (.arith .sub .i64) [(n y6 0), (i 1)] fun x10 =>
.cont 0 [x10])) (
.ret (i 4))) (
.l (.cmp .eql .i64) [(c 0 x0), (i 8)] fun x4 =>
.ite x4 (
.l (.idx 6 true) [(c 5 x0), (i 0)] fun x5 =>
.l (.lst 1 false) [] fun x6 =>
.l (.app 1 false 16) [x6, (n xs 1)] fun x7 =>
.l (.lst 1 false) [(c 2 x0)] fun x8 =>
.l (.app 1 false 16) [x7, x8] fun x9 =>
.call F.ref02_node [x5, x9, (n xs 2), (.bool true)] fun x10 =>
.ret x10) (
.loop [(i 0)] fun y5 =>
.l .len [(c 5 x0)] fun x6 =>
.l (.cmp .lss .i64) [(n y5 0), x6] fun x7 =>
.ite x7 (
.l (.idx 6 true) [(c 5 x0), (n y5 0)] fun x8 =>
.l .len [(n xs 1)] fun x9 =>
.l (.cmp .gtr .i64) [(n y5 0), (i 0)] fun x10 =>
.ite x10 (
.call F.ref02_node [x8, (n xs 1), x9, (.bool true)] fun x11 =>
.l (.cmp .neq .i64) [x11, (i 0)] fun x12 =>
.ite x12 (
.ret x11) (
.l (.arith .add .i64) [(n y5 0), (i 1)] fun x13 =>
.cont 0 [x13])) (
.l (.cmp .gtr .i64) [(c 0 x0), (i 5)] fun x11 =>
.call F.ref02_node [x8, (n xs 1), x9, x11] fun x12 =>
.l (.cmp .neq .i64) [x12, (i 0)] fun x13 =>
.ite x13 (
.ret x12) (
.l (.arith .add .i64) [(n y5 0), (i 1)] fun x14 =>
.cont 0 [x14]))) (
.ret (i 0))))))
theorem k_ref02_node : TxOk P F.ref02_node 4 t_ref02_node := txOk_of (H := {}) (plans := []) hm Tryz.func90 rfl rfl fun xs => by kernel_rfl
def t_ref01_Word (xs : List PV) : T PV :=
.l .slen [(n xs 0)] fun x0 =>
.l (.cmp .eql .i64) [x0, (i 0)] fun x1 =>
.ite x1 (
.ret (.bool false)) (
.l .sidx [(n xs 0), (i 0)] fun x2 =>
.call F.ref01_Letters [] fun x3 =>
.call F.ref01_in [x2, x3] fun x4 =>
.l .bnot [x4] fun x5 =>
.ite x5 (
.ret (.bool false)) (
.loop [(i 1)] fun y6 =>
.l .slen [(n xs 0)] fun x7 =>
.l (.cmp .lss .i64) [(n y6 0), x7] fun x8 =>
.ite x8 (
.l .sidx [(n xs 0), (n y6 0)] fun x9 =>
.call F.ref01_Letters [] fun x10 =>
.call F.ref01_in [x9, x10] fun x11 =>
.l .bnot [x11] fun x12 =>
.ite x12 (
.l .sidx [(n xs 0), (n y6 0)] fun x13 =>
.call F.ref01_digits [] fun x14 =>
.call F.ref01_in [x13, x14] fun x15 =>
.l .bnot [x15] fun x16 =>
.ite x16 (
.ret (.bool false)) (
.l (.arith .add .i64) [(n y6 0), (i 1)] fun x17 =>
.cont 0 [x17])) (
.l (.arith .add .i64) [(n y6 0), (i 1)] fun x13 =>
.cont 0 [x13])) (
.ret (.bool true))))
theorem k_ref01_Word : TxOk P F.ref01_Word 1 t_ref01_Word := txOk_of (H := {}) (plans := []) hm Tryz.func91 rfl rfl fun xs => by kernel_rfl
def t_ref01_Number (xs : List PV) : T PV :=
.l (.scmp .eql) [(n xs 0), (.str ⟨#[48]⟩)] fun x0 =>
.ite x0 (
.ret (.bool true)) (
.l .slen [(n xs 0)] fun x1 =>
.l (.cmp .gtr .i64) [x1, (i 0)] fun x2 =>
.ite x2 (
.l .sidx [(n xs 0), (i 0)] fun x3 =>
.l (.cmp .eql .u8) [x3, (.int .u8 (45))] fun x4 =>
.ite x4 (
.l .sslF [(n xs 0), (i 1)] fun x5 =>
.l .slen [x5] fun x6 =>
.l (.cmp .eql .i64) [x6, (i 0)] fun x7 =>
.ite x7 (
.ret (.bool false)) (
.l .sidx [x5, (i 0)] fun x8 =>
.l (.cmp .eql .u8) [x8, (.int .u8 (48))] fun x9 =>
.ite x9 (
.ret (.bool false)) (
.loop [(i 0)] fun y10 =>
.l .slen [x5] fun x11 =>
.l (.cmp .lss .i64) [(n y10 0), x11] fun x12 =>
.ite x12 (
.l .sidx [x5, (n y10 0)] fun x13 =>
.call F.ref01_digits [] fun x14 =>
.call F.ref01_in [x13, x14] fun x15 =>
.l .bnot [x15] fun x16 =>
.ite x16 (
.ret (.bool false)) (
.l (.arith .add .i64) [(n y10 0), (i 1)] fun x17 =>
.cont 0 [x17])) (
.ret (.bool true))))) (
.l .slen [(n xs 0)] fun x5 =>
.l (.cmp .eql .i64) [x5, (i 0)] fun x6 =>
.ite x6 (
.ret (.bool false)) (
.l .sidx [(n xs 0), (i 0)] fun x7 =>
.l (.cmp .eql .u8) [x7, (.int .u8 (48))] fun x8 =>
.ite x8 (
.ret (.bool false)) (
.loop [(i 0)] fun y9 =>
.l .slen [(n xs 0)] fun x10 =>
.l (.cmp .lss .i64) [(n y9 0), x10] fun x11 =>
.ite x11 (
.l .sidx [(n xs 0), (n y9 0)] fun x12 =>
.call F.ref01_digits [] fun x13 =>
.call F.ref01_in [x12, x13] fun x14 =>
.l .bnot [x14] fun x15 =>
.ite x15 (
.ret (.bool false)) (
.l (.arith .add .i64) [(n y9 0), (i 1)] fun x16 =>
.cont 0 [x16])) (
.ret (.bool true)))))) (
.l .slen [(n xs 0)] fun x3 =>
.l (.cmp .eql .i64) [x3, (i 0)] fun x4 =>
.ite x4 (
.ret (.bool false)) (
.l .sidx [(n xs 0), (i 0)] fun x5 =>
.l (.cmp .eql .u8) [x5, (.int .u8 (48))] fun x6 =>
.ite x6 (
.ret (.bool false)) (
.loop [(i 0)] fun y7 =>
.l .slen [(n xs 0)] fun x8 =>
.l (.cmp .lss .i64) [(n y7 0), x8] fun x9 =>
.ite x9 (
.l .sidx [(n xs 0), (n y7 0)] fun x10 =>
.call F.ref01_digits [] fun x11 =>
.call F.ref01_in [x10, x11] fun x12 =>
.l .bnot [x12] fun x13 =>
.ite x13 (
.ret (.bool false)) (
.l (.arith .add .i64) [(n y7 0), (i 1)] fun x14 =>
.cont 0 [x14])) (
.ret (.bool true))))))
theorem k_ref01_Number : TxOk P F.ref01_Number 1 t_ref01_Number := txOk_of (H := {}) (plans := []) hm Tryz.func92 rfl rfl fun xs => by kernel_rfl
def t_ref01_Keyword (xs : List PV) : T PV :=
.l (.lst 1 false) [(.str ⟨#[100, 101, 102]⟩), (.str ⟨#[109, 97, 105, 110]⟩), (.str ⟨#[115, 116, 111, 112]⟩), (.str ⟨#[110, 101, 119]⟩), (.str ⟨#[105, 110, 116]⟩), (.str ⟨#[98, 111, 111, 108]⟩), (.str ⟨#[101, 110, 100]⟩), (.str ⟨#[114, 101, 99]⟩), (.str ⟨#[116, 114, 117, 101]⟩), (.str ⟨#[102, 97, 108, 115, 101]⟩)] fun x0 =>
.loop [(i 0)] fun y1 =>
.l .len [x0] fun x2 =>
.l (.cmp .lss .i64) [(n y1 0), x2] fun x3 =>
.ite x3 (
.l (.idx 1 false) [x0, (n y1 0)] fun x4 =>
.l (.scmp .eql) [x4, (n xs 0)] fun x5 =>
.ite x5 (
.ret (.bool true)) (
.l (.arith .add .i64) [(n y1 0), (i 1)] fun x6 =>
.cont 0 [x6])) (
.ret (.bool false))
theorem k_ref01_Keyword : TxOk P F.ref01_Keyword 1 t_ref01_Keyword := txOk_of (H := {}) (plans := []) hm Tryz.func93 rfl rfl fun xs => by kernel_rfl
def t_ref04_variable (xs : List PV) : T PV :=
.call F.ref04_name [(n xs 0)] fun x0 =>
.l (.okcs [(1, false)]) [x0] fun x1 =>
.call F.ref04_text [(n xs 0)] fun x2 =>
.l .gnd [x2] fun x3 =>
.l (.scmp .eql) [x3, (.str ⟨#[43]⟩)] fun x4 =>
.ite x4 (
.call F.ref04_need [(n xs 0), (.str ⟨#[43]⟩)] fun x5 =>
.call F.ref04_small [(n xs 0)] fun x6 =>
.l (.okc 1 false) [x6] fun x7 =>
.ret (.agg [(i 9), (i 0), x0, x7, (.sl []), (.sl [])])) (
.ret (.agg [(i 9), (i 0), x0, (i 0), (.sl []), (.sl [])]))
theorem k_ref04_variable : TxOk P F.ref04_variable 1 t_ref04_variable := txOk_of (H := { wr := [], ro := [63, 110], nl := [], fz := [], da := [], sigs := [] }) (plans := []) hm Tryz.func94 rfl rfl fun xs => by kernel_rfl
def u_ref04_variable (xs : List PV) : T PV :=
.calls F.ref04_name sg_ref04_name [(n xs 0), (n xs 1), (n xs 2), (n xs 3), (n xs 4)] fun z0 =>
.l (.okcs [(1, false)]) [(n z0 0)] fun x1 =>
.call F.ref04_text [(.box (.agg [(n z0 1), (n z0 2), (n z0 3), (n z0 4), (n z0 5)]))] fun x2 =>
.l .gnd [x2] fun x3 =>
.l (.scmp .eql) [x3, (.str ⟨#[43]⟩)] fun x4 =>
.ite x4 (
.calls F.ref04_need sg_ref04_need [(.str ⟨#[43]⟩), (n z0 1), (n z0 2), (n z0 3), (n z0 4), (n z0 5)] fun z5 =>
.calls F.ref04_small sg_ref04_small [(n z5 1), (n z5 2), (n z5 3), (n z5 4), (n z5 5)] fun z6 =>
.l (.okc 1 false) [(n z6 0)] fun x7 =>
.ret (.tup [(.agg [(i 9), (i 0), (n z0 0), x7, (.sl []), (.sl [])]), (n z6 1), (n z6 2), (n z6 3), (n z6 4), (n z6 5)])) (
.ret (.tup [(.agg [(i 9), (i 0), (n z0 0), (i 0), (.sl []), (.sl [])]), (n z0 1), (n z0 2), (n z0 3), (n z0 4), (n z0 5)]))
theorem m_ref04_variable : TxOkS P F.ref04_variable sg_ref04_variable u_ref04_variable := txOkS_of (H := { wr := [], ro := [63, 110], nl := [], fz := [], da := [], sigs := [(45, sg_ref04_program), (46, sg_ref04_finish), (64, sg_ref04_need), (65, sg_ref04_name), (66, sg_ref04_anyType), (67, sg_ref04_process), (68, sg_ref04_fail), (83, sg_ref04_payload), (84, sg_ref04_session), (85, sg_ref04_single), (94, sg_ref04_variable), (95, sg_ref04_transmission), (96, sg_ref04_labels), (97, sg_ref04_after), (103, sg_ref04_small), (104, sg_ref04_prio), (105, sg_ref04_value), (44, sg_ref04_start)] }) (plans := []) hm Tryz.func94 rfl fun xs => by kernel_rfl
def t_ref04_transmission (xs : List PV) : T PV :=
.call F.ref04_prio [(n xs 0)] fun x0 =>
.l (.okcs [(1, false), (1, false)]) [(n xs 1), x0] fun x1 =>
.call F.ref04_payload [(n xs 0)] fun x2 =>
.l (.okc 6 true) [x2] fun x3 =>
.call F.ref04_need [(n xs 0), (.str ⟨#[46]⟩)] fun x4 =>
.call F.ref04_session [(n xs 0)] fun x5 =>
.l (.lst 6 true) [x3, x5] fun x6 =>
.ret (.agg [(n xs 1), x0, (.str ⟨#[]⟩), (i 0), (.sl []), x6])
theorem k_ref04_transmission : TxOk P F.ref04_transmission 2 t_ref04_transmission := txOk_of (H := { wr := [], ro := [63, 110], nl := [], fz := [], da := [], sigs := [] }) (plans := []) hm Tryz.func95 rfl rfl fun xs => by kernel_rfl
def u_ref04_transmission (xs : List PV) : T PV :=
.calls F.ref04_prio sg_ref04_prio [(n xs 1), (n xs 2), (n xs 3), (n xs 4), (n xs 5)] fun z0 =>
.l (.okcs [(1, false), (1, false)]) [(n xs 0), (n z0 0)] fun x1 =>
.calls F.ref04_payload sg_ref04_payload [(n z0 1), (n z0 2), (n z0 3), (n z0 4), (n z0 5)] fun z2 =>
.l (.okc 6 true) [(n z2 0)] fun x3 =>
.calls F.ref04_need sg_ref04_need [(.str ⟨#[46]⟩), (n z2 1), (n z2 2), (n z2 3), (n z2 4), (n z2 5)] fun z4 =>
.calls F.ref04_session sg_ref04_session [(n z4 1), (n z4 2), (n z4 3), (n z4 4), (n z4 5)] fun z5 =>
.l (.lst 6 true) [x3, (n z5 0)] fun x6 =>
.ret (.tup [(.agg [(n xs 0), (n z0 0), (.str ⟨#[]⟩), (i 0), (.sl []), x6]), (n z5 1), (n z5 2), (n z5 3), (n z5 4), (n z5 5)])
theorem m_ref04_transmission : TxOkS P F.ref04_transmission sg_ref04_transmission u_ref04_transmission := txOkS_of (H := { wr := [], ro := [63, 110], nl := [], fz := [], da := [], sigs := [(45, sg_ref04_program), (46, sg_ref04_finish), (64, sg_ref04_need), (65, sg_ref04_name), (66, sg_ref04_anyType), (67, sg_ref04_process), (68, sg_ref04_fail), (83, sg_ref04_payload), (84, sg_ref04_session), (85, sg_ref04_single), (94, sg_ref04_variable), (95, sg_ref04_transmission), (96, sg_ref04_labels), (97, sg_ref04_after), (103, sg_ref04_small), (104, sg_ref04_prio), (105, sg_ref04_value), (44, sg_ref04_start)] }) (plans := []) hm Tryz.func95 rfl fun xs => by kernel_rfl
def t_ref04_labels (xs : List PV) : T PV :=
.call F.ref04_prio [(n xs 0)] fun x0 =>
.l (.okcs [(1, false), (1, false)]) [(n xs 1), x0] fun x1 =>
.call F.ref04_need [(n xs 0), (.str ⟨#[123]⟩)] fun x2 =>
.loop [(n xs 1), x0, (.str ⟨#[]⟩), (i 0), (.sl []), (.sl [])] fun y3 =>
.l .notnil [(n xs 0)] fun x4 =>
.l (.unbox 5 true) [x4] fun x5 =>
.l (.cmp .eql .i64) [(c 3 x5), (i 0)] fun x6 =>
.ite x6 (
.call F.ref04_name [(n xs 0)] fun x7 =>
.l (.lst 1 false) [x7] fun x8 =>
.l (.app 1 false 16) [(n y3 4), x8] fun x9 =>
.call F.ref04_need [(n xs 0), (.str ⟨#[58]⟩)] fun x10 =>
.call F.ref04_session [(n xs 0)] fun x11 =>
.l (.lst 6 true) [x11] fun x12 =>
.l (.app 6 true 88) [(n y3 5), x12] fun x13 =>
.call F.ref04_text [(n xs 0)] fun x14 =>
.l .gnd [x14] fun x15 =>
.l (.scmp .neq) [x15, (.str ⟨#[44]⟩)] fun x16 =>
.ite x16 (
.call F.ref04_need [(n xs 0), (.str ⟨#[125]⟩)] fun x17 =>
.ret (.agg [(n y3 0), (n y3 1), (n y3 2), (n y3 3), x9, x13])) (
.call F.ref04_need [(n xs 0), (.str ⟨#[44]⟩)] fun x17 =>
.cont 0 [(n y3 0), (n y3 1), (n y3 2), (n y3 3), x9, x13])) (
.call F.ref04_need [(n xs 0), (.str ⟨#[125]⟩)] fun x7 =>
.ret (.agg [(n y3 0), (n y3 1), (n y3 2), (n y3 3), (n y3 4), (n y3 5)]))
theorem k_ref04_labels : TxOk P F.ref04_labels 2 t_ref04_labels := txOk_of (H := { wr := [], ro := [63, 110], nl := [], fz := [], da := [], sigs := [] }) (plans := []) hm Tryz.func96 rfl rfl fun xs => by kernel_rfl
def u_ref04_labels (xs : List PV) : T PV :=
.calls F.ref04_prio sg_ref04_prio [(n xs 1), (n xs 2), (n xs 3), (n xs 4), (n xs 5)] fun z0 =>
.l (.okcs [(1, false), (1, false)]) [(n xs 0), (n z0 0)] fun x1 =>
.calls F.ref04_need sg_ref04_need [(.str ⟨#[123]⟩), (n z0 1), (n z0 2), (n z0 3), (n z0 4), (n z0 5)] fun z2 =>
.loop [(n xs 0), (n z0 0), (.str ⟨#[]⟩), (i 0), (.sl []), (.sl []), (n z2 1), (n z2 2), (n z2 3), (n z2 4), (n z2 5)] fun y3 =>
.l (.cmp .eql .i64) [(n y3 9), (i 0)] fun x4 =>
.ite x4 (
.calls F.ref04_name sg_ref04_name [(n y3 6), (n y3 7), (n y3 8), (n y3 9), (n y3 10)] fun z5 =>
.l (.lst 1 false) [(n z5 0)] fun x6 =>
.l (.app 1 false 16) [(n y3 4), x6] fun x7 =>
.calls F.ref04_need sg_ref04_need [(.str ⟨#[58]⟩), (n z5 1), (n z5 2), (n z5 3), (n z5 4), (n z5 5)] fun z8 =>
.calls F.ref04_session sg_ref04_session [(n z8 1), (n z8 2), (n z8 3), (n z8 4), (n z8 5)] fun z9 =>
.l (.lst 6 true) [(n z9 0)] fun x10 =>
.l (.app 6 true 88) [(n y3 5), x10] fun x11 =>
.call F.ref04_text [(.box (.agg [(n z9 1), (n z9 2), (n z9 3), (n z9 4), (n z9 5)]))] fun x12 =>
.l .gnd [x12] fun x13 =>
.l (.scmp .neq) [x13, (.str ⟨#[44]⟩)] fun x14 =>
.ite x14 (
.calls F.ref04_need sg_ref04_need [(.str ⟨#[125]⟩), (n z9 1), (n z9 2), (n z9 3), (n z9 4), (n z9 5)] fun z15 =>
.ret (.tup [(.agg [(n y3 0), (n y3 1), (n y3 2), (n y3 3), x7, x11]), (n z15 1), (n z15 2), (n z15 3), (n z15 4), (n z15 5)])) (
.calls F.ref04_need sg_ref04_need [(.str ⟨#[44]⟩), (n z9 1), (n z9 2), (n z9 3), (n z9 4), (n z9 5)] fun z15 =>
.cont 0 [(n y3 0), (n y3 1), (n y3 2), (n y3 3), x7, x11, (n z15 1), (n z15 2), (n z15 3), (n z15 4), (n z15 5)])) (
.calls F.ref04_need sg_ref04_need [(.str ⟨#[125]⟩), (n y3 6), (n y3 7), (n y3 8), (n y3 9), (n y3 10)] fun z5 =>
.ret (.tup [(.agg [(n y3 0), (n y3 1), (n y3 2), (n y3 3), (n y3 4), (n y3 5)]), (n z5 1), (n z5 2), (n z5 3), (n z5 4), (n z5 5)]))
theorem m_ref04_labels : TxOkS P F.ref04_labels sg_ref04_labels u_ref04_labels := txOkS_of (H := { wr := [], ro := [63, 110], nl := [], fz := [], da := [], sigs := [(45, sg_ref04_program), (46, sg_ref04_finish), (64, sg_ref04_need), (65, sg_ref04_name), (66, sg_ref04_anyType), (67, sg_ref04_process), (68, sg_ref04_fail), (83, sg_ref04_payload), (84, sg_ref04_session), (85, sg_ref04_single), (94, sg_ref04_variable), (95, sg_ref04_transmission), (96, sg_ref04_labels), (97, sg_ref04_after), (103, sg_ref04_small), (104, sg_ref04_prio), (105, sg_ref04_value), (44, sg_ref04_start)] }) (plans := []) hm Tryz.func96 rfl fun xs => by kernel_rfl
def t_ref04_after (xs : List PV) : T PV :=
.l (.okcs [(1, false)]) [(n xs 1)] fun x0 =>
.call F.ref04_text [(n xs 0)] fun x1 =>
.l .gnd [x1] fun x2 =>
.l (.scmp .eql) [x2, (.str ⟨#[33]⟩)] fun x3 =>
.ite x3 (
.call F.ref04_need [(n xs 0), (.str ⟨#[33]⟩)] fun x4 =>
.call F.ref04_need [(n xs 0), (.str ⟨#[60]⟩)] fun x5 =>
.l (.okc 1 false) [(i 2)] fun x6 =>
.call F.ref04_value [(n xs 0)] fun x7 =>
.l (.lst 3 true) [x7] fun x8 =>
.call F.ref04_need [(n xs 0), (.str ⟨#[62]⟩)] fun x9 =>
.call F.ref04_need [(n xs 0), (.str ⟨#[46]⟩)] fun x10 =>
.call F.ref04_single [(n xs 0)] fun x11 =>
.l (.lst 12 true) [x11] fun x12 =>
.ret (.agg [x6, (n xs 1), (.str ⟨#[]⟩), (.sl []), x8, (i 0), (i 0), (.str ⟨#[]⟩), (i 0), (.sl []), (.sl []), x12])) (
.l (.scmp .eql) [x2, (.str ⟨#[63]⟩)] fun x4 =>
.ite x4 (
.call F.ref04_need [(n xs 0), (.str ⟨#[63]⟩)] fun x5 =>
.call F.ref04_need [(n xs 0), (.str ⟨#[40]⟩)] fun x6 =>
.l (.okc 1 false) [(i 3)] fun x7 =>
.call F.ref04_name [(n xs 0)] fun x8 =>
.l (.okc 1 false) [x8] fun x9 =>
.call F.ref04_need [(n xs 0), (.str ⟨#[41]⟩)] fun x10 =>
.call F.ref04_need [(n xs 0), (.str ⟨#[46]⟩)] fun x11 =>
.call F.ref04_single [(n xs 0)] fun x12 =>
.l (.lst 12 true) [x12] fun x13 =>
.ret (.agg [x7, (n xs 1), x9, (.sl []), (.sl []), (i 0), (i 0), (.str ⟨#[]⟩), (i 0), (.sl []), (.sl []), x13])) (
.l (.scmp .eql) [x2, (.str ⟨#[46]⟩)] fun x5 =>
.ite x5 (
.call F.ref04_need [(n xs 0), (.str ⟨#[46]⟩)] fun x6 =>
.l (.okc 1 false) [(i 4)] fun x7 =>
.call F.ref04_name [(n xs 0)] fun x8 =>
.l (.lst 1 false) [x8] fun x9 =>
.call F.ref04_need [(n xs 0), (.str ⟨#[46]⟩)] fun x10 =>
.call F.ref04_single [(n xs 0)] fun x11 =>
.l (.lst 12 true) [x11] fun x12 =>
.ret (.agg [x7, (n xs 1), (.str ⟨#[]⟩), x9, (.sl []), (i 0), (i 0), (.str ⟨#[]⟩), (i 0), (.sl []), (.sl []), x12])) (
.l (.scmp .eql) [x2, (.str ⟨#[38]⟩)] fun x6 =>
.ite x6 (
.call F.ref04_need [(n xs 0), (.str ⟨#[38]⟩)] fun x7 =>
.call F.ref04_need [(n xs 0), (.str ⟨#[123]⟩)] fun x8 =>
.l (.okc 1 false) [(i 5)] fun x9 =>
.loop [x9, (n xs 1), (.str ⟨#[]⟩), (.sl []), (.sl []), (i 0), (i 0), (.str ⟨#[]⟩), (i 0), (.sl []), (.sl []), (.sl [])] fun y10 =>
.l .notnil [(n xs 0)] fun x11 =>
.l (.unbox 5 true) [x11] fun x12 =>
.l (.cmp .eql .i64) [(c 3 x12), (i 0)] fun x13 =>
.ite x13 (
.call F.ref04_name [(n xs 0)] fun x14 =>
.l (.lst 1 false) [x14] fun x15 =>
.l (.app 1 false 16) [(n y10 3), x15] fun x16 =>
.call F.ref04_need [(n xs 0), (.str ⟨#[58]⟩)] fun x17 =>
.call F.ref04_process [(n xs 0)] fun x18 =>
.l (.lst 12 true) [x18] fun x19 =>
.l (.app 12 true 200) [(n y10 11), x19] fun x20 =>
.call F.ref04_text [(n xs 0)] fun x21 =>
.l .gnd [x21] fun x22 =>
.l (.scmp .neq) [x22, (.str ⟨#[44]⟩)] fun x23 =>
.ite x23 (
.call F.ref04_need [(n xs 0), (.str ⟨#[125]⟩)] fun x24 =>
.ret (.agg [(n y10 0), (n y10 1), (n y10 2), x16, (n y10 4), (n y10 5), (n y10 6), (n y10 7), (n y10 8), (n y10 9), (n y10 10), x20])) (
.call F.ref04_need [(n xs 0), (.str ⟨#[44]⟩)] fun x24 =>
.cont 0 [(n y10 0), (n y10 1), (n y10 2), x16, (n y10 4), (n y10 5), (n y10 6), (n y10 7), (n y10 8), (n y10 9), (n y10 10), x20])) (
.call F.ref04_need [(n xs 0), (.str ⟨#[125]⟩)] fun x14 =>
.ret (.agg [(n y10 0), (n y10 1), (n y10 2), (n y10 3), (n y10 4), (n y10 5), (n y10 6), (n y10 7), (n y10 8), (n y10 9), (n y10 10), (n y10 11)]))) (
.l (.scmp .eql) [x2, (.str ⟨#[60]⟩)] fun x7 =>
.ite x7 (
.call F.ref04_need [(n xs 0), (.str ⟨#[60]⟩)] fun x8 =>
.l (.okc 1 false) [(i 8)] fun x9 =>
.call F.ref04_text [(n xs 0)] fun x10 =>
.l .gnd [x10] fun x11 =>
.l (.scmp .eql) [x11, (.str ⟨#[62]⟩)] fun x12 =>
.ite x12 (
.call F.ref04_need [(n xs 0), (.str ⟨#[62]⟩)] fun x13 =>
.ret (.agg [x9, (n xs 1), (.str ⟨#[]⟩), (.sl []), (.sl []), (i 0), (i 0), (.str ⟨#[]⟩), (i 0), (.sl []), (.sl []), (.sl [])])) (
.call F.ref04_value [(n xs 0)] fun x13 =>
.l (.lst 3 true) [x13] fun x14 =>
.loop [x9, (n xs 1), (.str ⟨#[]⟩), (.sl []), x14, (i 0), (i 0), (.str ⟨#[]⟩), (i 0), (.sl []), (.sl []), (.sl [])] fun y15 =>
.call F.ref04_text [(n xs 0)] fun x16 =>
.l .gnd [x16] fun x17 =>
.l (.scmp .eql) [x17, (.str ⟨#[44]⟩)] fun x18 =>
.ite x18 (
.call F.ref04_need [(n xs 0), (.str ⟨#[44]⟩)] fun x19 =>
.call F.ref04_value [(n xs 0)] fun x20 =>
.l (.lst 3 true) [x20] fun x21 =>
.l (.app 3 true 32) [(n y15 4), x21] fun x22 =>
.cont 0 [(n y15 0), (n y15 1), (n y15 2), (n y15 3), x22, (n y15 5), (n y15 6), (n y15 7), (n y15 8), (n y15 9), (n y15 10), (n y15 11)]) (
.call F.ref04_need [(n xs 0), (.str ⟨#[62]⟩)] fun x19 =>
.ret (.agg [(n y15 0), (n y15 1), (n y15 2), (n y15 3), (n y15 4), (n y15 5), (n y15 6), (n y15 7), (n y15 8), (n y15 9), (n y15 10), (n y15 11)])))) (
.call F.ref04_fail [(n xs 0), (i 1)] fun x8 =>
.call F.ref04_need [(n xs 0), (.str ⟨#[46]⟩)] fun x9 =>
.call F.ref04_single [(n xs 0)] fun x10 =>
.l (.lst 12 true) [x10] fun x11 =>
.ret (.agg [(i 0), (n xs 1), (.str ⟨#[]⟩), (.sl []), (.sl []), (i 0), (i 0), (.str ⟨#[]⟩), (i 0), (.sl []), (.sl []), x11]))))))
theorem k_ref04_after : TxOk P F.ref04_after 2 t_ref04_after := txOk_of (H := { wr := [], ro := [63, 110], nl := [], fz := [], da := [], sigs := [] }) (plans := []) hm Tryz.func97 rfl rfl fun xs => by kernel_rfl
def u_ref04_after (xs : List PV) : T PV :=
.l (.okcs [(1, false)]) [(n xs 0)] fun x0 =>
.call F.ref04_text [(.box (.agg [(n xs 1), (n xs 2), (n xs 3), (n xs 4), (n xs 5)]))] fun x1 =>
.l .gnd [x1] fun x2 =>
.l (.scmp .eql) [x2, (.str ⟨#[33]⟩)] fun x3 =>
.ite x3 (
.calls F.ref04_need sg_ref04_need [(.str ⟨#[33]⟩), (n xs 1), (n xs 2), (n xs 3), (n xs 4), (n xs 5)] fun z4 =>
.calls F.ref04_need sg_ref04_need [(.str ⟨#[60]⟩), (n z4 1), (n z4 2), (n z4 3), (n z4 4), (n z4 5)] fun z5 =>
.l (.okc 1 false) [(i 2)] fun x6 =>
.calls F.ref04_value sg_ref04_value [(n z5 1), (n z5 2), (n z5 3), (n z5 4), (n z5 5)] fun z7 =>
.l (.lst 3 true) [(n z7 0)] fun x8 =>
.calls F.ref04_need sg_ref04_need [(.str ⟨#[62]⟩), (n z7 1), (n z7 2), (n z7 3), (n z7 4), (n z7 5)] fun z9 =>
.calls F.ref04_need sg_ref04_need [(.str ⟨#[46]⟩), (n z9 1), (n z9 2), (n z9 3), (n z9 4), (n z9 5)] fun z10 =>
.calls F.ref04_single sg_ref04_single [(n z10 1), (n z10 2), (n z10 3), (n z10 4), (n z10 5)] fun z11 =>
.l (.lst 12 true) [(n z11 0)] fun x12 =>
.ret (.tup [(.agg [x6, (n xs 0), (.str ⟨#[]⟩), (.sl []), x8, (i 0), (i 0), (.str ⟨#[]⟩), (i 0), (.sl []), (.sl []), x12]), (n z11 1), (n z11 2), (n z11 3), (n z11 4), (n z11 5)])) (
.l (.scmp .eql) [x2, (.str ⟨#[63]⟩)] fun x4 =>
.ite x4 (
.calls F.ref04_need sg_ref04_need [(.str ⟨#[63]⟩), (n xs 1), (n xs 2), (n xs 3), (n xs 4), (n xs 5)] fun z5 =>
.calls F.ref04_need sg_ref04_need [(.str ⟨#[40]⟩), (n z5 1), (n z5 2), (n z5 3), (n z5 4), (n z5 5)] fun z6 =>
.l (.okc 1 false) [(i 3)] fun x7 =>
.calls F.ref04_name sg_ref04_name [(n z6 1), (n z6 2), (n z6 3), (n z6 4), (n z6 5)] fun z8 =>
.l (.okc 1 false) [(n z8 0)] fun x9 =>
.calls F.ref04_need sg_ref04_need [(.str ⟨#[41]⟩), (n z8 1), (n z8 2), (n z8 3), (n z8 4), (n z8 5)] fun z10 =>
.calls F.ref04_need sg_ref04_need [(.str ⟨#[46]⟩), (n z10 1), (n z10 2), (n z10 3), (n z10 4), (n z10 5)] fun z11 =>
.calls F.ref04_single sg_ref04_single [(n z11 1), (n z11 2), (n z11 3), (n z11 4), (n z11 5)] fun z12 =>
.l (.lst 12 true) [(n z12 0)] fun x13 =>
.ret (.tup [(.agg [x7, (n xs 0), x9, (.sl []), (.sl []), (i 0), (i 0), (.str ⟨#[]⟩), (i 0), (.sl []), (.sl []), x13]), (n z12 1), (n z12 2), (n z12 3), (n z12 4), (n z12 5)])) (
.l (.scmp .eql) [x2, (.str ⟨#[46]⟩)] fun x5 =>
.ite x5 (
.calls F.ref04_need sg_ref04_need [(.str ⟨#[46]⟩), (n xs 1), (n xs 2), (n xs 3), (n xs 4), (n xs 5)] fun z6 =>
.l (.okc 1 false) [(i 4)] fun x7 =>
.calls F.ref04_name sg_ref04_name [(n z6 1), (n z6 2), (n z6 3), (n z6 4), (n z6 5)] fun z8 =>
.l (.lst 1 false) [(n z8 0)] fun x9 =>
.calls F.ref04_need sg_ref04_need [(.str ⟨#[46]⟩), (n z8 1), (n z8 2), (n z8 3), (n z8 4), (n z8 5)] fun z10 =>
.calls F.ref04_single sg_ref04_single [(n z10 1), (n z10 2), (n z10 3), (n z10 4), (n z10 5)] fun z11 =>
.l (.lst 12 true) [(n z11 0)] fun x12 =>
.ret (.tup [(.agg [x7, (n xs 0), (.str ⟨#[]⟩), x9, (.sl []), (i 0), (i 0), (.str ⟨#[]⟩), (i 0), (.sl []), (.sl []), x12]), (n z11 1), (n z11 2), (n z11 3), (n z11 4), (n z11 5)])) (
.l (.scmp .eql) [x2, (.str ⟨#[38]⟩)] fun x6 =>
.ite x6 (
.calls F.ref04_need sg_ref04_need [(.str ⟨#[38]⟩), (n xs 1), (n xs 2), (n xs 3), (n xs 4), (n xs 5)] fun z7 =>
.calls F.ref04_need sg_ref04_need [(.str ⟨#[123]⟩), (n z7 1), (n z7 2), (n z7 3), (n z7 4), (n z7 5)] fun z8 =>
.l (.okc 1 false) [(i 5)] fun x9 =>
.loop [x9, (n xs 0), (.str ⟨#[]⟩), (.sl []), (.sl []), (i 0), (i 0), (.str ⟨#[]⟩), (i 0), (.sl []), (.sl []), (.sl []), (n z8 1), (n z8 2), (n z8 3), (n z8 4), (n z8 5)] fun y10 =>
.l (.cmp .eql .i64) [(n y10 15), (i 0)] fun x11 =>
.ite x11 (
.calls F.ref04_name sg_ref04_name [(n y10 12), (n y10 13), (n y10 14), (n y10 15), (n y10 16)] fun z12 =>
.l (.lst 1 false) [(n z12 0)] fun x13 =>
.l (.app 1 false 16) [(n y10 3), x13] fun x14 =>
.calls F.ref04_need sg_ref04_need [(.str ⟨#[58]⟩), (n z12 1), (n z12 2), (n z12 3), (n z12 4), (n z12 5)] fun z15 =>
.calls F.ref04_process sg_ref04_process [(n z15 1), (n z15 2), (n z15 3), (n z15 4), (n z15 5)] fun z16 =>
.l (.lst 12 true) [(n z16 0)] fun x17 =>
.l (.app 12 true 200) [(n y10 11), x17] fun x18 =>
.call F.ref04_text [(.box (.agg [(n z16 1), (n z16 2), (n z16 3), (n z16 4), (n z16 5)]))] fun x19 =>
.l .gnd [x19] fun x20 =>
.l (.scmp .neq) [x20, (.str ⟨#[44]⟩)] fun x21 =>
.ite x21 (
.calls F.ref04_need sg_ref04_need [(.str ⟨#[125]⟩), (n z16 1), (n z16 2), (n z16 3), (n z16 4), (n z16 5)] fun z22 =>
.ret (.tup [(.agg [(n y10 0), (n y10 1), (n y10 2), x14, (n y10 4), (n y10 5), (n y10 6), (n y10 7), (n y10 8), (n y10 9), (n y10 10), x18]), (n z22 1), (n z22 2), (n z22 3), (n z22 4), (n z22 5)])) (
.calls F.ref04_need sg_ref04_need [(.str ⟨#[44]⟩), (n z16 1), (n z16 2), (n z16 3), (n z16 4), (n z16 5)] fun z22 =>
.cont 0 [(n y10 0), (n y10 1), (n y10 2), x14, (n y10 4), (n y10 5), (n y10 6), (n y10 7), (n y10 8), (n y10 9), (n y10 10), x18, (n z22 1), (n z22 2), (n z22 3), (n z22 4), (n z22 5)])) (
.calls F.ref04_need sg_ref04_need [(.str ⟨#[125]⟩), (n y10 12), (n y10 13), (n y10 14), (n y10 15), (n y10 16)] fun z12 =>
.ret (.tup [(.agg [(n y10 0), (n y10 1), (n y10 2), (n y10 3), (n y10 4), (n y10 5), (n y10 6), (n y10 7), (n y10 8), (n y10 9), (n y10 10), (n y10 11)]), (n z12 1), (n z12 2), (n z12 3), (n z12 4), (n z12 5)]))) (
.l (.scmp .eql) [x2, (.str ⟨#[60]⟩)] fun x7 =>
.ite x7 (
.calls F.ref04_need sg_ref04_need [(.str ⟨#[60]⟩), (n xs 1), (n xs 2), (n xs 3), (n xs 4), (n xs 5)] fun z8 =>
.l (.okc 1 false) [(i 8)] fun x9 =>
.call F.ref04_text [(.box (.agg [(n z8 1), (n z8 2), (n z8 3), (n z8 4), (n z8 5)]))] fun x10 =>
.l .gnd [x10] fun x11 =>
.l (.scmp .eql) [x11, (.str ⟨#[62]⟩)] fun x12 =>
.ite x12 (
.calls F.ref04_need sg_ref04_need [(.str ⟨#[62]⟩), (n z8 1), (n z8 2), (n z8 3), (n z8 4), (n z8 5)] fun z13 =>
.ret (.tup [(.agg [x9, (n xs 0), (.str ⟨#[]⟩), (.sl []), (.sl []), (i 0), (i 0), (.str ⟨#[]⟩), (i 0), (.sl []), (.sl []), (.sl [])]), (n z13 1), (n z13 2), (n z13 3), (n z13 4), (n z13 5)])) (
.calls F.ref04_value sg_ref04_value [(n z8 1), (n z8 2), (n z8 3), (n z8 4), (n z8 5)] fun z13 =>
.l (.lst 3 true) [(n z13 0)] fun x14 =>
.loop [x9, (n xs 0), (.str ⟨#[]⟩), (.sl []), x14, (i 0), (i 0), (.str ⟨#[]⟩), (i 0), (.sl []), (.sl []), (.sl []), (n z13 1), (n z13 2), (n z13 3), (n z13 4), (n z13 5)] fun y15 =>
.call F.ref04_text [(.box (.agg [(n y15 12), (n y15 13), (n y15 14), (n y15 15), (n y15 16)]))] fun x16 =>
.l .gnd [x16] fun x17 =>
.l (.scmp .eql) [x17, (.str ⟨#[44]⟩)] fun x18 =>
.ite x18 (
.calls F.ref04_need sg_ref04_need [(.str ⟨#[44]⟩), (n y15 12), (n y15 13), (n y15 14), (n y15 15), (n y15 16)] fun z19 =>
.calls F.ref04_value sg_ref04_value [(n z19 1), (n z19 2), (n z19 3), (n z19 4), (n z19 5)] fun z20 =>
.l (.lst 3 true) [(n z20 0)] fun x21 =>
.l (.app 3 true 32) [(n y15 4), x21] fun x22 =>
.cont 0 [(n y15 0), (n y15 1), (n y15 2), (n y15 3), x22, (n y15 5), (n y15 6), (n y15 7), (n y15 8), (n y15 9), (n y15 10), (n y15 11), (n z20 1), (n z20 2), (n z20 3), (n z20 4), (n z20 5)]) (
.calls F.ref04_need sg_ref04_need [(.str ⟨#[62]⟩), (n y15 12), (n y15 13), (n y15 14), (n y15 15), (n y15 16)] fun z19 =>
.ret (.tup [(.agg [(n y15 0), (n y15 1), (n y15 2), (n y15 3), (n y15 4), (n y15 5), (n y15 6), (n y15 7), (n y15 8), (n y15 9), (n y15 10), (n y15 11)]), (n z19 1), (n z19 2), (n z19 3), (n z19 4), (n z19 5)])))) (
.calls F.ref04_fail sg_ref04_fail [(i 1), (n xs 1), (n xs 2), (n xs 3), (n xs 4), (n xs 5)] fun z8 =>
.calls F.ref04_need sg_ref04_need [(.str ⟨#[46]⟩), (n z8 1), (n z8 2), (n z8 3), (n z8 4), (n z8 5)] fun z9 =>
.calls F.ref04_single sg_ref04_single [(n z9 1), (n z9 2), (n z9 3), (n z9 4), (n z9 5)] fun z10 =>
.l (.lst 12 true) [(n z10 0)] fun x11 =>
.ret (.tup [(.agg [(i 0), (n xs 0), (.str ⟨#[]⟩), (.sl []), (.sl []), (i 0), (i 0), (.str ⟨#[]⟩), (i 0), (.sl []), (.sl []), x11]), (n z10 1), (n z10 2), (n z10 3), (n z10 4), (n z10 5)]))))))
theorem m_ref04_after : TxOkS P F.ref04_after sg_ref04_after u_ref04_after := txOkS_of (H := { wr := [], ro := [63, 110], nl := [], fz := [], da := [], sigs := [(45, sg_ref04_program), (46, sg_ref04_finish), (64, sg_ref04_need), (65, sg_ref04_name), (66, sg_ref04_anyType), (67, sg_ref04_process), (68, sg_ref04_fail), (83, sg_ref04_payload), (84, sg_ref04_session), (85, sg_ref04_single), (94, sg_ref04_variable), (95, sg_ref04_transmission), (96, sg_ref04_labels), (97, sg_ref04_after), (103, sg_ref04_small), (104, sg_ref04_prio), (105, sg_ref04_value), (44, sg_ref04_start)] }) (plans := []) hm Tryz.func97 rfl fun xs => by kernel_rfl
def t_ref03_node (xs : List PV) : T PV :=
.l (.okc 12 true) [(n xs 0)] fun x0 =>
.loop [(i 0)] fun y1 =>
.l .len [(c 4 x0)] fun x2 =>
.l (.cmp .lss .i64) [(n y1 0), x2] fun x3 =>
.ite x3 (
.l (.idx 3 true) [(c 4 x0), (n y1 0)] fun x4 =>
.call F.ref03_value [x4] fun x5 =>
.l .bnot [x5] fun x6 =>
.ite x6 (
.ret (.bool false)) (
.l (.arith .add .i64) [(n y1 0), (i 1)] fun x7 =>
.cont 0 [x7])) (
.l .len [(c 4 x0)] fun x4 =>
.l .len [(c 3 x0)] fun x5 =>
.l .len [(c 11 x0)] fun x6 =>
.l (.cmp .eql .i64) [(c 0 x0), (i 1)] fun x7 =>
.ite x7 (
.l (.scmp .eql) [(c 1 x0), (.str ⟨#[]⟩)] fun x8 =>
.ite x8 (
.l (.scmp .eql) [(c 2 x0), (.str ⟨#[]⟩)] fun x9 =>
.ite x9 (
.l (.cmp .eql .i64) [x4, (i 0)] fun x10 =>
.ite x10 (
.l (.cmp .eql .i64) [x5, (i 0)] fun x11 =>
.ite x11 (
.l (.cmp .eql .i64) [x6, (i 0)] fun x12 =>
.ite x12 (
.call F.ref03_plain [x0] fun x13 =>
.ret x13) (
.ret (.bool false))) (
.ret (.bool false))) (
.ret (.bool false))) (
.ret (.bool false))) (
.ret (.bool false))) (
.l (.cmp .eql .i64) [(c 0 x0), (i 2)] fun x8 =>
.ite x8 (
.call F.ref03_name [(c 1 x0)] fun x9 =>
.ite x9 (
.l (.scmp .eql) [(c 2 x0), (.str ⟨#[]⟩)] fun x10 =>
.ite x10 (
.l (.cmp .eql .i64) [x4, (i 1)] fun x11 =>
.ite x11 (
.l (.cmp .eql .i64) [x5, (i 0)] fun x12 =>
.ite x12 (
.l (.cmp .eql .i64) [x6, (i 1)] fun x13 =>
.ite x13 (
.call F.ref03_plain [x0] fun x14 =>
.ret x14) (
.ret (.bool false))) (
.ret (.bool false))) (
.ret (.bool false))) (
.ret (.bool false))) (
.ret (.bool false))) (
.l (.cmp .eql .i64) [(c 0 x0), (i 3)] fun x9 =>
.ite x9 (
.call F.ref03_name [(c 1 x0)] fun x10 =>
.ite x10 (
.call F.ref03_name [(c 2 x0)] fun x11 =>
.ite x11 (
.l (.cmp .eql .i64) [x4, (i 0)] fun x12 =>
.ite x12 (
.l (.cmp .eql .i64) [x5, (i 0)] fun x13 =>
.ite x13 (
.l (.cmp .eql .i64) [x6, (i 1)] fun x14 =>
.ite x14 (
.call F.ref03_plain [x0] fun x15 =>
.ret x15) (
.ret (.bool false))) (
.ret (.bool false))) (
.ret (.bool false))) (
.ret (.bool false))) (
.ret (.bool false))) (
.l (.cmp .eql .i64) [(c 0 x0), (i 4)] fun x10 =>
.ite x10 (
.call F.ref03_name [(c 1 x0)] fun x11 =>
.ite x11 (
.l (.scmp .eql) [(c 2 x0), (.str ⟨#[]⟩)] fun x12 =>
.ite x12 (
.l (.cmp .eql .i64) [x4, (i 0)] fun x13 =>
.ite x13 (
.l (.cmp .eql .i64) [x5, (i 1)] fun x14 =>
.ite x14 (
.l (.idx 1 false) [(c 3 x0), (i 0)] fun x15 =>
.call F.ref03_name [x15] fun x16 =>
.ite x16 (
.l (.cmp .eql .i64) [x6, (i 1)] fun x17 =>
.ite x17 (
.call F.ref03_plain [x0] fun x18 =>
.ret x18) (
.ret (.bool false))) (
.ret (.bool false))) (
.ret (.bool false))) (
.ret (.bool false))) (
.ret (.bool false))) (
.ret (.bool false))) (
.l (.cmp .eql .i64) [(c 0 x0), (i 5)] fun x11 =>
.ite x11 (
.call F.ref03_name [(c 1 x0)] fun x12 =>
.ite x12 (
.l (.scmp .eql) [(c 2 x0), (.str ⟨#[]⟩)] fun x13 =>
.ite x13 (
.l (.cmp .eql .i64) [x4, (i 0)] fun x14 =>
.ite x14 (
.l (.cmp .gtr .i64) [x5, (i 0)] fun x15 =>
.ite x15 (
.call F.ref02_Labels [(c 3 x0)] fun x16 =>
.ite x16 (
.l (.cmp .eql .i64) [x6, x5] fun x17 =>
.ite x17 (
.call F.ref03_plain [x0] fun x18 =>
.ret x18) (
.ret (.bool false))) (
.ret (.bool false))) (
.ret (.bool false))) (
.ret (.bool false))) (
.ret (.bool false))) (
.ret (.bool false))) (
.l (.cmp .eql .i64) [(c 0 x0), (i 6)] fun x12 =>
.ite x12 (
.call F.ref03_name [(c 1 x0)] fun x13 =>
.ite x13 (
.call F.ref03_name [(c 2 x0)] fun x14 =>
.ite x14 (
.l (.scmp .neq) [(c 1 x0), (c 2 x0)] fun x15 =>
.ite x15 (
.l (.cmp .eql .i64) [x4, (i 0)] fun x16 =>
.ite x16 (
.l (.cmp .eql .i64) [x5, (i 0)] fun x17 =>
.ite x17 (
.l (.cmp .eql .i64) [x6, (i 1)] fun x18 =>
.ite x18 (
.call F.ref02_Right [(sb 5 6 x0)] fun x19 =>
.l (.cmp .eql .i64) [x19, (i 0)] fun x20 =>
.ite x20 (
.call F.ref02_Session [(sb 5 6 x0)] fun x21 =>
.ret x21) (
.ret (.bool false))) (
.ret (.bool false))) (
.ret (.bool false))) (
.ret (.bool false))) (
.ret (.bool false))) (
.ret (.bool false))) (
.ret (.bool false))) (
.l (.cmp .eql .i64) [(c 0 x0), (i 7)] fun x13 =>
.ite x13 (
.loop [(i 0)] fun y14 =>
.l (.cmp .lss .i64) [(n y14 0), x6] fun x15 =>
.ite x15 (
.l (.idx 12 true) [(c 11 x0), (n y14 0)] fun x16 =>
.l (.cmp .eql .i64) [(c 0 x16), (i 7)] fun x17 =>
.ite x17 (
.ret (.bool false)) (
.l (.arith .add .i64) [(n y14 0), (i 1)] fun x18 =>
.cont 1 [x18])) (
.l (.scmp .eql) [(c 1 x0), (.str ⟨#[]⟩)] fun x16 =>
.ite x16 (
.l (.scmp .eql) [(c 2 x0), (.str ⟨#[]⟩)] fun x17 =>
.ite x17 (
.l (.cmp .eql .i64) [x4, (i 0)] fun x18 =>
.ite x18 (
.l (.cmp .eql .i64) [x5, (i 0)] fun x19 =>
.ite x19 (
.l (.cmp .geq .i64) [x6, (i 2)] fun x20 =>
.ite x20 (
.call F.ref03_plain [x0] fun x21 =>
.ret x21) (
.ret (.bool false))) (
.ret (.bool false))) (
.ret (.bool false))) (
.ret (.bool false))) (
.ret (.bool false)))) (
.l (.cmp .eql .i64) [(c 0 x0), (i 8)] fun x14 =>
.ite x14 (
.call F.ref03_name [(c 1 x0)] fun x15 =>
.ite x15 (
.l (.scmp .eql) [(c 2 x0), (.str ⟨#[]⟩)] fun x16 =>
.ite x16 (
.l (.cmp .eql .i64) [x5, (i 0)] fun x17 =>
.ite x17 (
.l (.cmp .eql .i64) [x6, (i 0)] fun x18 =>
.ite x18 (
.call F.ref03_plain [x0] fun x19 =>
.ret x19) (
.ret (.bool false))) (
.ret (.bool false))) (
.ret (.bool false))) (
.ret (.bool false))) (
.ret (.bool false))))))))))
theorem k_ref03_node : TxOk P F.ref03_node 1 t_ref03_node := txOk_of (H := {}) (plans := []) hm Tryz.func98 rfl rfl fun xs => by kernel_rfl
def t_ref02_shape (xs : List PV) : T PV :=
.l (.okc 6 true) [(n xs 0)] fun x0 =>
.l (.cmp .eql .i64) [(c 0 x0), (i 1)] fun x1 =>
.ite x1 (
.l (.cmp .eql .i64) [(c 1 x0), (i 0)] fun x2 =>
.ite x2 (
.l (.scmp .eql) [(c 2 x0), (.str ⟨#[]⟩)] fun x3 =>
.ite x3 (
.l (.cmp .eql .i64) [(c 3 x0), (i 0)] fun x4 =>
.ite x4 (
.l .len [(c 4 x0)] fun x5 =>
.l (.cmp .eql .i64) [x5, (i 0)] fun x6 =>
.ite x6 (
.l .len [(c 5 x0)] fun x7 =>
.l (.cmp .eql .i64) [x7, (i 0)] fun x8 =>
.ret x8) (
.ret (.bool false))) (
.ret (.bool false))) (
.ret (.bool false))) (
.ret (.bool false))) (
.l (.cmp .eql .i64) [(c 0 x0), (i 2)] fun x2 =>
.ite x2 (
.l (.cmp .eql .i64) [(c 1 x0), (i 0)] fun x3 =>
.ite x3 (
.l (.scmp .eql) [(c 2 x0), (.str ⟨#[]⟩)] fun x4 =>
.ite x4 (
.l (.cmp .eql .i64) [(c 3 x0), (i 0)] fun x5 =>
.ite x5 (
.l .len [(c 4 x0)] fun x6 =>
.l (.cmp .eql .i64) [x6, (i 0)] fun x7 =>
.ite x7 (
.l .len [(c 5 x0)] fun x8 =>
.l (.cmp .eql .i64) [x8, (i 0)] fun x9 =>
.ret x9) (
.ret (.bool false))) (
.ret (.bool false))) (
.ret (.bool false))) (
.ret (.bool false))) (
.l (.cmp .eql .i64) [(c 0 x0), (i 3)] fun x3 =>
.ite x3 (
.l (.cmp .eql .i64) [(c 1 x0), (i 0)] fun x4 =>
.ite x4 (
.l (.scmp .eql) [(c 2 x0), (.str ⟨#[]⟩)] fun x5 =>
.ite x5 (
.l (.cmp .eql .i64) [(c 3 x0), (i 0)] fun x6 =>
.ite x6 (
.l .len [(c 4 x0)] fun x7 =>
.l (.cmp .eql .i64) [x7, (i 0)] fun x8 =>
.ite x8 (
.l .len [(c 5 x0)] fun x9 =>
.l (.cmp .eql .i64) [x9, (i 0)] fun x10 =>
.ret x10) (
.ret (.bool false))) (
.ret (.bool false))) (
.ret (.bool false))) (
.ret (.bool false))) (
.l (.cmp .eql .i64) [(c 0 x0), (i 4)] fun x4 =>
.ite x4 (
.call F.ref02_prio [(c 1 x0)] fun x5 =>
.ite x5 (
.l (.scmp .eql) [(c 2 x0), (.str ⟨#[]⟩)] fun x6 =>
.ite x6 (
.l (.cmp .eql .i64) [(c 3 x0), (i 0)] fun x7 =>
.ite x7 (
.l .len [(c 4 x0)] fun x8 =>
.l (.cmp .eql .i64) [x8, (i 0)] fun x9 =>
.ite x9 (
.l .len [(c 5 x0)] fun x10 =>
.l (.cmp .eql .i64) [x10, (i 2)] fun x11 =>
.ret x11) (
.ret (.bool false))) (
.ret (.bool false))) (
.ret (.bool false))) (
.ret (.bool false))) (
.l (.cmp .eql .i64) [(c 0 x0), (i 5)] fun x5 =>
.ite x5 (
.call F.ref02_prio [(c 1 x0)] fun x6 =>
.ite x6 (
.l (.scmp .eql) [(c 2 x0), (.str ⟨#[]⟩)] fun x7 =>
.ite x7 (
.l (.cmp .eql .i64) [(c 3 x0), (i 0)] fun x8 =>
.ite x8 (
.l .len [(c 4 x0)] fun x9 =>
.l (.cmp .eql .i64) [x9, (i 0)] fun x10 =>
.ite x10 (
.l .len [(c 5 x0)] fun x11 =>
.l (.cmp .eql .i64) [x11, (i 2)] fun x12 =>
.ret x12) (
.ret (.bool false))) (
.ret (.bool false))) (
.ret (.bool false))) (
.ret (.bool false))) (
.l (.cmp .eql .i64) [(c 0 x0), (i 6)] fun x6 =>
.ite x6 (
.call F.ref02_prio [(c 1 x0)] fun x7 =>
.ite x7 (
.l (.scmp .eql) [(c 2 x0), (.str ⟨#[]⟩)] fun x8 =>
.ite x8 (
.l (.cmp .eql .i64) [(c 3 x0), (i 0)] fun x9 =>
.ite x9 (
.l .len [(c 4 x0)] fun x10 =>
.l (.cmp .gtr .i64) [x10, (i 0)] fun x11 =>
.ite x11 (
.call F.ref02_Labels [(c 4 x0)] fun x12 =>
.ite x12 (
.l .len [(c 5 x0)] fun x13 =>
.l .len [(c 4 x0)] fun x14 =>
.l (.cmp .eql .i64) [x13, x14] fun x15 =>
.ret x15) (
.ret (.bool false))) (
.ret (.bool false))) (
.ret (.bool false))) (
.ret (.bool false))) (
.ret (.bool false))) (
.l (.cmp .eql .i64) [(c 0 x0), (i 7)] fun x7 =>
.ite x7 (
.call F.ref02_prio [(c 1 x0)] fun x8 =>
.ite x8 (
.l (.scmp .eql) [(c 2 x0), (.str ⟨#[]⟩)] fun x9 =>
.ite x9 (
.l (.cmp .eql .i64) [(c 3 x0), (i 0)] fun x10 =>
.ite x10 (
.l .len [(c 4 x0)] fun x11 =>
.l (.cmp .gtr .i64) [x11, (i 0)] fun x12 =>
.ite x12 (
.call F.ref02_Labels [(c 4 x0)] fun x13 =>
.ite x13 (
.l .len [(c 5 x0)] fun x14 =>
.l .len [(c 4 x0)] fun x15 =>
.l (.cmp .eql .i64) [x14, x15] fun x16 =>
.ret x16) (
.ret (.bool false))) (
.ret (.bool false))) (
.ret (.bool false))) (
.ret (.bool false))) (
.ret (.bool false))) (
.l (.cmp .eql .i64) [(c 0 x0), (i 8)] fun x8 =>
.ite x8 (
.l (.cmp .eql .i64) [(c 1 x0), (i 0)] fun x9 =>
.ite x9 (
.call F.ref01_Name [(c 2 x0)] fun x10 =>
.ite x10 (
.l (.cmp .eql .i64) [(c 3 x0), (i 0)] fun x11 =>
.ite x11 (
.l .len [(c 4 x0)] fun x12 =>
.l (.cmp .eql .i64) [x12, (i 0)] fun x13 =>
.ite x13 (
.l .len [(c 5 x0)] fun x14 =>
.l (.cmp .eql .i64) [x14, (i 1)] fun x15 =>
.ret x15) (
.ret (.bool false))) (
.ret (.bool false))) (
.ret (.bool false))) (
.ret (.bool false))) (
.l (.cmp .eql .i64) [(c 0 x0), (i 9)] fun x9 =>
.ite x9 (
.l (.cmp .eql .i64) [(c 1 x0), (i 0)] fun x10 =>
.ite x10 (
.call F.ref01_Name [(c 2 x0)] fun x11 =>
.ite x11 (
.call F.ref02_prio [(c 3 x0)] fun x12 =>
.ite x12 (
.l .len [(c 4 x0)] fun x13 =>
.l (.cmp .eql .i64) [x13, (i 0)] fun x14 =>
.ite x14 (
.l .len [(c 5 x0)] fun x15 =>
.l (.cmp .eql .i64) [x15, (i 0)] fun x16 =>
.ret x16) (
.ret (.bool false))) (
.ret (.bool false))) (
.ret (.bool false))) (
.ret (.bool false))) (
.ret (.bool false))))))))))
theorem k_ref02_shape : TxOk P F.ref02_shape 1 t_ref02_shape := txOk_of (H := {}) (plans := []) hm Tryz.func99 rfl rfl fun xs => by kernel_rfl
def t_ref02_Session (xs : List PV) : T PV :=
.l (.okc 6 true) [(n xs 0)] fun x0 =>
.l (.cmp .neq .i64) [(c 0 x0), (i 1)] fun x1 =>
.ite x1 (
.l (.cmp .neq .i64) [(c 0 x0), (i 2)] fun x2 =>
.ret x2) (
.ret (.bool false))
theorem k_ref02_Session : TxOk P F.ref02_Session 1 t_ref02_Session := txOk_of (H := {}) (plans := []) hm Tryz.func100 rfl rfl fun xs => by kernel_rfl
def t_ref01_Letters (xs : List PV) : T PV :=
.ret (.str ⟨#[65, 66, 67, 68, 69, 70, 71, 72, 73, 74, 75, 76, 77, 78, 79, 80, 81, 82, 83, 84, 85, 86, 87, 88, 89, 90, 97, 98, 99, 100, 101, 102, 103, 104, 105, 106, 107, 108, 109, 110, 111, 112, 113, 114, 115, 116, 117, 118, 119, 120, 121, 122, 95]⟩)
theorem k_ref01_Letters : TxOk P F.ref01_Letters 0 t_ref01_Letters := txOk_of (H := {}) (plans := []) hm Tryz.func101 rfl rfl fun xs => by kernel_rfl
def t_ref01_digits (xs : List PV) : T PV :=
.ret (.str ⟨#[48, 49, 50, 51, 52, 53, 54, 55, 56, 57]⟩)
theorem k_ref01_digits : TxOk P F.ref01_digits 0 t_ref01_digits := txOk_of (H := {}) (plans := []) hm Tryz.func102 rfl rfl fun xs => by kernel_rfl
-- NOT TOLD: 103 duologue/duologueref04.small: 1
def u_ref04_small (xs : List PV) : T PV :=
.call F.ref04_number [(.box (.agg [(n xs 0), (n xs 1), (n xs 2), (n xs 3), (n xs 4)]))] fun x0 =>
.l .gnd [x0] fun x1 =>
.l .bnot [x1] fun x2 =>
.ite x2 (
.calls F.ref04_fail sg_ref04_fail [(i 1), (n xs 0), (n xs 1), (n xs 2), (n xs 3), (n xs 4)] fun z3 =>
.ret (.tup [(i 0), (n z3 1), (n z3 2), (n z3 3), (n z3 4), (n z3 5)])) (
.l (.idx 4 true) [(n xs 0), (n xs 1)] fun x3 =>
.l (.cmp .lss .i64) [(c 2 x3), (i 0)] fun x4 =>
.ite x4 (
.calls F.ref04_fail sg_ref04_fail [(i 1), (n xs 0), (n xs 1), (n xs 2), (n xs 3), (n xs 4)] fun z5 =>
.ret (.tup [(i 0), (n z5 1), (n z5 2), (n z5 3), (n z5 4), (n z5 5)])) (
.l (.idx 4 true) [(n xs 0), (n xs 1)] fun x5 =>
.l (.cmp .gtr .i64) [(c 2 x5), (i 1000000)] fun x6 =>
.ite x6 (
.calls F.ref04_fail sg_ref04_fail [(i 2), (n xs 0), (n xs 1), (n xs 2), (n xs 3), (n xs 4)] fun z7 =>
.ret (.tup [(i 0), (n z7 1), (n z7 2), (n z7 3), (n z7 4), (n z7 5)])) (
.l (.arith .add .i64) [(n xs 1), (i 1)] fun x7 =>
.l (.okc 1 false) [x7] fun x8 =>
.l (.arith .sub .i64) [x8, (i 1)] fun x9 =>
.l (.idx 4 true) [(n xs 0), x9] fun x10 =>
.ret (.tup [(c 2 x10), (n xs 0), x8, (n xs 2), (n xs 3), (n xs 4)]))))
theorem m_ref04_small : TxOkS P F.ref04_small sg_ref04_small u_ref04_small := txOkS_of (H := { wr := [], ro := [63, 110], nl := [], fz := [], da := [], sigs := [(45, sg_ref04_program), (46, sg_ref04_finish), (64, sg_ref04_need), (65, sg_ref04_name), (66, sg_ref04_anyType), (67, sg_ref04_process), (68, sg_ref04_fail), (83, sg_ref04_payload), (84, sg_ref04_session), (85, sg_ref04_single), (94, sg_ref04_variable), (95, sg_ref04_transmission), (96, sg_ref04_labels), (97, sg_ref04_after), (103, sg_ref04_small), (104, sg_ref04_prio), (105, sg_ref04_value), (44, sg_ref04_start)] }) (plans := []) hm Tryz.func103 rfl fun xs => by kernel_rfl
def t_ref04_prio (xs : List PV) : T PV :=
.call F.ref04_number [(n xs 0)] fun x0 =>
.l .gnd [x0] fun x1 =>
.ite x1 (
.call F.ref04_small [(n xs 0)] fun x2 =>
.ret x2) (
.ret (i 0))
theorem k_ref04_prio : TxOk P F.ref04_prio 1 t_ref04_prio := txOk_of (H := { wr := [], ro := [63, 110], nl := [], fz := [], da := [], sigs := [] }) (plans := []) hm Tryz.func104 rfl rfl fun xs => by kernel_rfl
def u_ref04_prio (xs : List PV) : T PV :=
.call F.ref04_number [(.box (.agg [(n xs 0), (n xs 1), (n xs 2), (n xs 3), (n xs 4)]))] fun x0 =>
.l .gnd [x0] fun x1 =>
.ite x1 (
.calls F.ref04_small sg_ref04_small [(n xs 0), (n xs 1), (n xs 2), (n xs 3), (n xs 4)] fun z2 =>
.ret (.tup [(n z2 0), (n z2 1), (n z2 2), (n z2 3), (n z2 4), (n z2 5)])) (
.ret (.tup [(i 0), (n xs 0), (n xs 1), (n xs 2), (n xs 3), (n xs 4)]))
theorem m_ref04_prio : TxOkS P F.ref04_prio sg_ref04_prio u_ref04_prio := txOkS_of (H := { wr := [], ro := [63, 110], nl := [], fz := [], da := [], sigs := [(45, sg_ref04_program), (46, sg_ref04_finish), (64, sg_ref04_need), (65, sg_ref04_name), (66, sg_ref04_anyType), (67, sg_ref04_process), (68, sg_ref04_fail), (83, sg_ref04_payload), (84, sg_ref04_session), (85, sg_ref04_single), (94, sg_ref04_variable), (95, sg_ref04_transmission), (96, sg_ref04_labels), (97, sg_ref04_after), (103, sg_ref04_small), (104, sg_ref04_prio), (105, sg_ref04_value), (44, sg_ref04_start)] }) (plans := []) hm Tryz.func104 rfl fun xs => by kernel_rfl
-- NOT TOLD: 105 duologue/duologueref04.value: 1
def u_ref04_value (xs : List PV) : T PV :=
.call F.ref04_number [(.box (.agg [(n xs 0), (n xs 1), (n xs 2), (n xs 3), (n xs 4)]))] fun x0 =>
.l .gnd [x0] fun x1 =>
.ite x1 (
.l (.arith .add .i64) [(n xs 1), (i 1)] fun x2 =>
.l (.okc 1 false) [x2] fun x3 =>
.l (.arith .sub .i64) [x3, (i 1)] fun x4 =>
.l (.idx 4 true) [(n xs 0), x4] fun x5 =>
.l (.okcs [(1, false)]) [(c 2 x5)] fun x6 =>
.ret (.tup [(.agg [(i 2), (.str ⟨#[]⟩), (c 2 x5)]), (n xs 0), x3, (n xs 2), (n xs 3), (n xs 4)])) (
.call F.ref04_text [(.box (.agg [(n xs 0), (n xs 1), (n xs 2), (n xs 3), (n xs 4)]))] fun x2 =>
.l .gnd [x2] fun x3 =>
.l (.scmp .eql) [x3, (.str ⟨#[116, 114, 117, 101]⟩)] fun x4 =>
.ite x4 (
.calls F.ref04_need sg_ref04_need [(.str ⟨#[116, 114, 117, 101]⟩), (n xs 0), (n xs 1), (n xs 2), (n xs 3), (n xs 4)] fun z5 =>
.ret (.tup [(.agg [(i 3), (.str ⟨#[]⟩), (i 1)]), (n z5 1), (n z5 2), (n z5 3), (n z5 4), (n z5 5)])) (
.call F.ref04_text [(.box (.agg [(n xs 0), (n xs 1), (n xs 2), (n xs 3), (n xs 4)]))] fun x5 =>
.l .gnd [x5] fun x6 =>
.l (.scmp .eql) [x6, (.str ⟨#[102, 97, 108, 115, 101]⟩)] fun x7 =>
.ite x7 (
.calls F.ref04_need sg_ref04_need [(.str ⟨#[102, 97, 108, 115, 101]⟩), (n xs 0), (n xs 1), (n xs 2), (n xs 3), (n xs 4)] fun z8 =>
.ret (.tup [(.agg [(i 3), (.str ⟨#[]⟩), (i 0)]), (n z8 1), (n z8 2), (n z8 3), (n z8 4), (n z8 5)])) (
.calls F.ref04_name sg_ref04_name [(n xs 0), (n xs 1), (n xs 2), (n xs 3), (n xs 4)] fun z8 =>
.l (.okcs [(1, false)]) [(n z8 0)] fun x9 =>
.ret (.tup [(.agg [(i 1), (n z8 0), (i 0)]), (n z8 1), (n z8 2), (n z8 3), (n z8 4), (n z8 5)]))))
theorem m_ref04_value : TxOkS P F.ref04_value sg_ref04_value u_ref04_value := txOkS_of (H := { wr := [], ro := [63, 110], nl := [], fz := [], da := [], sigs := [(45, sg_ref04_program), (46, sg_ref04_finish), (64, sg_ref04_need), (65, sg_ref04_name), (66, sg_ref04_anyType), (67, sg_ref04_process), (68, sg_ref04_fail), (83, sg_ref04_payload), (84, sg_ref04_session), (85, sg_ref04_single), (94, sg_ref04_variable), (95, sg_ref04_transmission), (96, sg_ref04_labels), (97, sg_ref04_after), (103, sg_ref04_small), (104, sg_ref04_prio), (105, sg_ref04_value), (44, sg_ref04_start)] }) (plans := []) hm Tryz.func105 rfl fun xs => by kernel_rfl
def t_ref03_value (xs : List PV) : T PV :=
.l (.okc 3 true) [(n xs 0)] fun x0 =>
.l (.cmp .eql .i64) [(c 0 x0), (i 1)] fun x1 =>
.ite x1 (
.call F.ref03_name [(c 1 x0)] fun x2 =>
.ite x2 (
.l (.cmp .eql .i64) [(c 2 x0), (i 0)] fun x3 =>
.ite x3 (
.ret (.bool true)) (
.l (.cmp .eql .i64) [(c 0 x0), (i 2)] fun x4 =>
.ite x4 (
.l (.scmp .eql) [(c 1 x0), (.str ⟨#[]⟩)] fun x5 =>
.ite x5 (
.ret (.bool true)) (
.l (.cmp .eql .i64) [(c 0 x0), (i 3)] fun x6 =>
.ite x6 (
.l (.scmp .eql) [(c 1 x0), (.str ⟨#[]⟩)] fun x7 =>
.ite x7 (
.l (.cmp .eql .i64) [(c 2 x0), (i 0)] fun x8 =>
.ite x8 (
.ret (.bool true)) (
.l (.cmp .eql .i64) [(c 2 x0), (i 1)] fun x9 =>
.ret x9)) (
.ret (.bool false))) (
.ret (.bool false)))) (
.l (.cmp .eql .i64) [(c 0 x0), (i 3)] fun x5 =>
.ite x5 (
.l (.scmp .eql) [(c 1 x0), (.str ⟨#[]⟩)] fun x6 =>
.ite x6 (
.l (.cmp .eql .i64) [(c 2 x0), (i 0)] fun x7 =>
.ite x7 (
.ret (.bool true)) (
.l (.cmp .eql .i64) [(c 2 x0), (i 1)] fun x8 =>
.ret x8)) (
.ret (.bool false))) (
.ret (.bool false))))) (
.l (.cmp .eql .i64) [(c 0 x0), (i 2)] fun x3 =>
.ite x3 (
.l (.scmp .eql) [(c 1 x0), (.str ⟨#[]⟩)] fun x4 =>
.ite x4 (
.ret (.bool true)) (
.l (.cmp .eql .i64) [(c 0 x0), (i 3)] fun x5 =>
.ite x5 (
.l (.scmp .eql) [(c 1 x0), (.str ⟨#[]⟩)] fun x6 =>
.ite x6 (
.l (.cmp .eql .i64) [(c 2 x0), (i 0)] fun x7 =>
.ite x7 (
.ret (.bool true)) (
.l (.cmp .eql .i64) [(c 2 x0), (i 1)] fun x8 =>
.ret x8)) (
.ret (.bool false))) (
.ret (.bool false)))) (
.l (.cmp .eql .i64) [(c 0 x0), (i 3)] fun x4 =>
.ite x4 (
.l (.scmp .eql) [(c 1 x0), (.str ⟨#[]⟩)] fun x5 =>
.ite x5 (
.l (.cmp .eql .i64) [(c 2 x0), (i 0)] fun x6 =>
.ite x6 (
.ret (.bool true)) (
.l (.cmp .eql .i64) [(c 2 x0), (i 1)] fun x7 =>
.ret x7)) (
.ret (.bool false))) (
.ret (.bool false))))) (
.l (.cmp .eql .i64) [(c 0 x0), (i 2)] fun x2 =>
.ite x2 (
.l (.scmp .eql) [(c 1 x0), (.str ⟨#[]⟩)] fun x3 =>
.ite x3 (
.ret (.bool true)) (
.l (.cmp .eql .i64) [(c 0 x0), (i 3)] fun x4 =>
.ite x4 (
.l (.scmp .eql) [(c 1 x0), (.str ⟨#[]⟩)] fun x5 =>
.ite x5 (
.l (.cmp .eql .i64) [(c 2 x0), (i 0)] fun x6 =>
.ite x6 (
.ret (.bool true)) (
.l (.cmp .eql .i64) [(c 2 x0), (i 1)] fun x7 =>
.ret x7)) (
.ret (.bool false))) (
.ret (.bool false)))) (
.l (.cmp .eql .i64) [(c 0 x0), (i 3)] fun x3 =>
.ite x3 (
.l (.scmp .eql) [(c 1 x0), (.str ⟨#[]⟩)] fun x4 =>
.ite x4 (
.l (.cmp .eql .i64) [(c 2 x0), (i 0)] fun x5 =>
.ite x5 (
.ret (.bool true)) (
.l (.cmp .eql .i64) [(c 2 x0), (i 1)] fun x6 =>
.ret x6)) (
.ret (.bool false))) (
.ret (.bool false))))
theorem k_ref03_value : TxOk P F.ref03_value 1 t_ref03_value := txOk_of (H := {}) (plans := []) hm Tryz.func106 rfl rfl fun xs => by kernel_rfl
def t_ref03_plain (xs : List PV) : T PV :=
.l (.okc 12 true) [(n xs 0)] fun x0 =>
.call F.ref02_Same [(sb 5 6 x0), (.agg [(i 0), (i 0), (.str ⟨#[]⟩), (i 0), (.sl []), (.sl [])])] fun x1 =>
.ret x1
theorem k_ref03_plain : TxOk P F.ref03_plain 1 t_ref03_plain := txOk_of (H := {}) (plans := []) hm Tryz.func107 rfl rfl fun xs => by kernel_rfl
def t_ref02_Labels (xs : List PV) : T PV :=
.loop [(i 0)] fun y0 =>
.l .len [(n xs 0)] fun x1 =>
.l (.cmp .lss .i64) [(n y0 0), x1] fun x2 =>
.ite x2 (
.l (.idx 1 false) [(n xs 0), (n y0 0)] fun x3 =>
.call F.ref01_Name [x3] fun x4 =>
.l .bnot [x4] fun x5 =>
.ite x5 (
.ret (.bool false)) (
.l (.idx 1 false) [(n xs 0), (n y0 0)] fun x6 =>
.l (.slcT 1 false) [(n xs 0), (n y0 0)] fun x7 =>
.call F.ref02_in [x6, x7] fun x8 =>
.ite x8 (
.ret (.bool false)) (
.l (.arith .add .i64) [(n y0 0), (i 1)] fun x9 =>
.cont 0 [x9]))) (
.ret (.bool true))
theorem k_ref02_Labels : TxOk P F.ref02_Labels 1 t_ref02_Labels := txOk_of (H := {}) (plans := []) hm Tryz.func108 rfl rfl fun xs => by kernel_rfl
def t_ref02_prio (xs : List PV) : T PV :=
.l (.cmp .geq .i64) [(n xs 0), (i 0)] fun x0 =>
.ite x0 (
.l (.cmp .leq .i64) [(n xs 0), (i 1000000)] fun x1 =>
.ret x1) (
.ret (.bool false))
theorem k_ref02_prio : TxOk P F.ref02_prio 1 t_ref02_prio := txOk_of (H := {}) (plans := []) hm Tryz.func109 rfl rfl fun xs => by kernel_rfl
def t_ref04_number (xs : List PV) : T PV :=
.l .notnil [(n xs 0)] fun x0 =>
.l (.unbox 5 true) [x0] fun x1 =>
.l (.cmp .eql .i64) [(c 3 x1), (i 0)] fun x2 =>
.ite x2 (
.l .notnil [(n xs 0)] fun x3 =>
.l (.unbox 5 true) [x3] fun x4 =>
.l .notnil [(n xs 0)] fun x5 =>
.l (.unbox 5 true) [x5] fun x6 =>
.l .len [(c 0 x6)] fun x7 =>
.l (.cmp .lss .i64) [(c 1 x4), x7] fun x8 =>
.ite x8 (
.l .notnil [(n xs 0)] fun x9 =>
.l (.unbox 5 true) [x9] fun x10 =>
.l .notnil [(n xs 0)] fun x11 =>
.l (.unbox 5 true) [x11] fun x12 =>
.l (.idx 4 true) [(c 0 x10), (c 1 x12)] fun x13 =>
.l (.cmp .eql .i64) [(c 0 x13), (i 2)] fun x14 =>
.ret x14) (
.ret (.bool false))) (
.ret (.bool false))
theorem k_ref04_number : TxOk P F.ref04_number 1 t_ref04_number := txOk_of (H := { wr := [], ro := [63, 110], nl := [], fz := [], da := [], sigs := [] }) (plans := []) hm Tryz.func110 rfl rfl fun xs => by kernel_rfl
def t_ref02_in (xs : List PV) : T PV :=
.loop [(i 0)] fun y0 =>
.l .len [(n xs 1)] fun x1 =>
.l (.cmp .lss .i64) [(n y0 0), x1] fun x2 =>
.ite x2 (
.l (.idx 1 false) [(n xs 1), (n y0 0)] fun x3 =>
.l (.scmp .eql) [x3, (n xs 0)] fun x4 =>
.ite x4 (
.ret (.bool true)) (
.l (.arith .add .i64) [(n y0 0), (i 1)] fun x5 =>
.cont 0 [x5])) (
.ret (.bool false))
theorem k_ref02_in : TxOk P F.ref02_in 2 t_ref02_in := txOk_of (H := {}) (plans := []) hm Tryz.func111 rfl rfl fun xs => by kernel_rfl
def tb : List (Nat × Tx) := [(F.law27_awake, ⟨0, t_law27_awake⟩), (F.ref06_Right, ⟨2, t_ref06_Right⟩), (F.ref03_Few, ⟨2, t_ref03_Few⟩), (F.ref03_Texts, ⟨2, t_ref03_Texts⟩), (F.audit_Reached, ⟨1, t_audit_Reached⟩), (F.audit_Unused, ⟨1, t_audit_Unused⟩), (F.audit_Loops, ⟨1, t_audit_Loops⟩), (F.ref03_SameProgram, ⟨2, t_ref03_SameProgram⟩), (F.audit_Prune, ⟨1, t_audit_Prune⟩), (F.audit_Count, ⟨1, t_audit_Count⟩), (F.ref27_Copy, ⟨1, t_ref27_Copy⟩), (F.ref04_Program, ⟨1, t_ref04_Program⟩), (F.ref03_Little, ⟨2, t_ref03_Little⟩), (F.ref06_Check, ⟨1, t_ref06_Check⟩), (F.ref03_left, ⟨2, t_ref03_left⟩), (F.ref03_Depth, ⟨1, t_ref03_Depth⟩), (F.audit_closure, ⟨2, t_audit_closure⟩), (F.scope_Calls, ⟨1, t_scope_Calls⟩), (F.audit_named, ⟨2, t_audit_named⟩), (F.audit_Reached_1, ⟨2, t_audit_Reached_1⟩), (F.audit_Unused_1, ⟨2, t_audit_Unused_1⟩), (F.audit_Loops_1, ⟨2, t_audit_Loops_1⟩), (F.ref03_Same, ⟨2, t_ref03_Same⟩), (F.ref02_Same, ⟨2, t_ref02_Same⟩), (F.proctree_Copy, ⟨1, t_proctree_Copy⟩), (F.slices_Contains_string_string, ⟨2, t_slices_Contains_string_string⟩), (F.audit_copied, ⟨1, t_audit_copied⟩), (F.ref03_In, ⟨2, t_ref03_In⟩), (F.audit_node, ⟨1, t_audit_node⟩), (F.proctree_Prefix, ⟨1, t_proctree_Prefix⟩), (F.audit_Totals_plus, ⟨2, t_audit_Totals_plus⟩), (F.ref03_Copy, ⟨1, t_ref03_Copy⟩), (F.ref04_start, ⟨1, t_ref04_start⟩), (F.ref04_program, ⟨1, t_ref04_program⟩), (F.ref04_Fits, ⟨1, t_ref04_Fits⟩), (F.ref02_Few, ⟨2, t_ref02_Few⟩), (F.ref03_Program, ⟨1, t_ref03_Program⟩), (F.ref06_Find, ⟨2, t_ref06_Find⟩), (F.ref06_node, ⟨4, t_ref06_node⟩), (F.scope_collect, ⟨2, t_scope_collect⟩), (F.scope_Calls_1, ⟨1, t_scope_Calls_1⟩), (F.ref02_texts, ⟨2, t_ref02_texts⟩), (F.slices_Clone_string_string, ⟨1, t_slices_Clone_string_string⟩), (F.slices_Clone_api_Value_api_Value, ⟨1, t_slices_Clone_api_Value_api_Value⟩), (F.typetree_Copy, ⟨1, t_typetree_Copy⟩), (F.slices_Index_string_string, ⟨2, t_slices_Index_string_string⟩), (F.slices_Clone_api_Param_api_Param, ⟨1, t_slices_Clone_api_Param_api_Param⟩), (F.ref02_Raise, ⟨2, t_ref02_Raise⟩), (F.ref01_Tokens, ⟨1, t_ref01_Tokens⟩), (F.ref04_text, ⟨1, t_ref04_text⟩), (F.ref04_anyType, ⟨1, t_ref04_anyType⟩), (F.ref04_process, ⟨1, t_ref04_process⟩), (F.ref04_deep, ⟨1, t_ref04_deep⟩), (F.ref03_Total, ⟨1, t_ref03_Total⟩), (F.ref02_Depth, ⟨1, t_ref02_Depth⟩), (F.ref02_count, ⟨2, t_ref02_count⟩), (F.ref03_Right, ⟨1, t_ref03_Right⟩), (F.ref03_name, ⟨1, t_ref03_name⟩), (F.ref02_Right, ⟨1, t_ref02_Right⟩), (F.typetree_mapped, ⟨2, t_typetree_mapped⟩), (F.ref01_in, ⟨2, t_ref01_in⟩), (F.ref01_longest, ⟨2, t_ref01_longest⟩), (F.ref01_kind, ⟨1, t_ref01_kind⟩), (F.ref01_Value, ⟨1, t_ref01_Value⟩), (F.ref01_Name, ⟨1, t_ref01_Name⟩), (F.ref04_payload, ⟨1, t_ref04_payload⟩), (F.ref04_session, ⟨1, t_ref04_session⟩), (F.ref04_single, ⟨1, t_ref04_single⟩), (F.ref03_Size, ⟨1, t_ref03_Size⟩), (F.ref03_types, ⟨1, t_ref03_types⟩), (F.ref02_Size, ⟨1, t_ref02_Size⟩), (F.ref03_nodes, ⟨1, t_ref03_nodes⟩), (F.ref02_node, ⟨4, t_ref02_node⟩), (F.ref01_Word, ⟨1, t_ref01_Word⟩), (F.ref01_Number, ⟨1, t_ref01_Number⟩), (F.ref01_Keyword, ⟨1, t_ref01_Keyword⟩), (F.ref04_variable, ⟨1, t_ref04_variable⟩), (F.ref04_transmission, ⟨2, t_ref04_transmission⟩), (F.ref04_labels, ⟨2, t_ref04_labels⟩), (F.ref04_after, ⟨2, t_ref04_after⟩), (F.ref03_node, ⟨1, t_ref03_node⟩), (F.ref02_shape, ⟨1, t_ref02_shape⟩), (F.ref02_Session, ⟨1, t_ref02_Session⟩), (F.ref01_Letters, ⟨0, t_ref01_Letters⟩), (F.ref01_digits, ⟨0, t_ref01_digits⟩), (F.ref04_prio, ⟨1, t_ref04_prio⟩), (F.ref03_value, ⟨1, t_ref03_value⟩), (F.ref03_plain, ⟨1, t_ref03_plain⟩), (F.ref02_Labels, ⟨1, t_ref02_Labels⟩), (F.ref02_prio, ⟨1, t_ref02_prio⟩), (F.ref04_number, ⟨1, t_ref04_number⟩), (F.ref02_in, ⟨2, t_ref02_in⟩)]
def tbS : List (Nat × TxS) := [(F.ref04_start, ⟨sg_ref04_start, u_ref04_start⟩), (F.ref04_program, ⟨sg_ref04_program, u_ref04_program⟩), (F.ref04_finish, ⟨sg_ref04_finish, u_ref04_finish⟩), (F.audit_closure_1, ⟨sg_audit_closure_1, u_audit_closure_1⟩), (F.slices_Clone_string_string, ⟨sg_slices_Clone_string_string, u_slices_Clone_string_string⟩), (F.slices_Clone_api_Value_api_Value, ⟨sg_slices_Clone_api_Value_api_Value, u_slices_Clone_api_Value_api_Value⟩), (F.slices_Clone_api_Param_api_Param, ⟨sg_slices_Clone_api_Param_api_Param, u_slices_Clone_api_Param_api_Param⟩), (F.ref02_Raise, ⟨sg_ref02_Raise, u_ref02_Raise⟩), (F.ref04_need, ⟨sg_ref04_need, u_ref04_need⟩), (F.ref04_name, ⟨sg_ref04_name, u_ref04_name⟩), (F.ref04_anyType, ⟨sg_ref04_anyType, u_ref04_anyType⟩), (F.ref04_process, ⟨sg_ref04_process, u_ref04_process⟩), (F.ref04_fail, ⟨sg_ref04_fail, u_ref04_fail⟩), (F.scope_collect_1, ⟨sg_scope_collect_1, u_scope_collect_1⟩), (F.ref04_payload, ⟨sg_ref04_payload, u_ref04_payload⟩), (F.ref04_session, ⟨sg_ref04_session, u_ref04_session⟩), (F.ref04_single, ⟨sg_ref04_single, u_ref04_single⟩), (F.ref04_variable, ⟨sg_ref04_variable, u_ref04_variable⟩), (F.ref04_transmission, ⟨sg_ref04_transmission, u_ref04_transmission⟩), (F.ref04_labels, ⟨sg_ref04_labels, u_ref04_labels⟩), (F.ref04_after, ⟨sg_ref04_after, u_ref04_after⟩), (F.ref04_small, ⟨sg_ref04_small, u_ref04_small⟩), (F.ref04_prio, ⟨sg_ref04_prio, u_ref04_prio⟩), (F.ref04_value, ⟨sg_ref04_value, u_ref04_value⟩)]
theorem allOk : AllOk P tb := ⟨k_law27_awake, k_ref06_Right, k_ref03_Few, k_ref03_Texts, k_audit_Reached, k_audit_Unused, k_audit_Loops, k_ref03_SameProgram, k_audit_Prune, k_audit_Count, k_ref27_Copy, k_ref04_Program, k_ref03_Little, k_ref06_Check, k_ref03_left, k_ref03_Depth, k_audit_closure, k_scope_Calls, k_audit_named, k_audit_Reached_1, k_audit_Unused_1, k_audit_Loops_1, k_ref03_Same, k_ref02_Same, k_proctree_Copy, k_slices_Contains_string_string, k_audit_copied, k_ref03_In, k_audit_node, k_proctree_Prefix, k_audit_Totals_plus, k_ref03_Copy, k_ref04_start, k_ref04_program, k_ref04_Fits, k_ref02_Few, k_ref03_Program, k_ref06_Find, k_ref06_node, k_scope_collect, k_scope_Calls_1, k_ref02_texts, k_slices_Clone_string_string, k_slices_Clone_api_Value_api_Value, k_typetree_Copy, k_slices_Index_string_string, k_slices_Clone_api_Param_api_Param, k_ref02_Raise, k_ref01_Tokens, k_ref04_text, k_ref04_anyType, k_ref04_process, k_ref04_deep, k_ref03_Total, k_ref02_Depth, k_ref02_count, k_ref03_Right, k_ref03_name, k_ref02_Right, k_typetree_mapped, k_ref01_in, k_ref01_longest, k_ref01_kind, k_ref01_Value, k_ref01_Name, k_ref04_payload, k_ref04_session, k_ref04_single, k_ref03_Size, k_ref03_types, k_ref02_Size, k_ref03_nodes, k_ref02_node, k_ref01_Word, k_ref01_Number, k_ref01_Keyword, k_ref04_variable, k_ref04_transmission, k_ref04_labels, k_ref04_after, k_ref03_node, k_ref02_shape, k_ref02_Session, k_ref01_Letters, k_ref01_digits, k_ref04_prio, k_ref03_value, k_ref03_plain, k_ref02_Labels, k_ref02_prio, k_ref04_number, k_ref02_in, trivial⟩
theorem allOkS : AllOkS P tbS := ⟨m_ref04_start, m_ref04_program, m_ref04_finish, m_audit_closure_1, m_slices_Clone_string_string, m_slices_Clone_api_Value_api_Value, m_slices_Clone_api_Param_api_Param, m_ref02_Raise, m_ref04_need, m_ref04_name, m_ref04_anyType, m_ref04_process, m_ref04_fail, m_scope_collect_1, m_ref04_payload, m_ref04_session, m_ref04_single, m_ref04_variable, m_ref04_transmission, m_ref04_labels, m_ref04_after, m_ref04_small, m_ref04_prio, m_ref04_value, trivial⟩
end Go.Proofs.YtbfjpjllaibooaaGreat.Tx

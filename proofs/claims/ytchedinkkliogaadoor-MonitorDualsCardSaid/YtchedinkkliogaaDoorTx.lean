/- Texts of functions, printed by a program (wip/dev/Gen.lean). -/
import Derived.Test.YtchedinkkliogaaDoorLfD
import Derived.Test.YtchedinkkliogaaDoorChecked
import Derived.KernelRfl
set_option linter.all false
namespace Go.Proofs.YtchedinkkliogaaDoor.Tx
open Go.Lf Go.Lf.S
set_option maxRecDepth 100000
instance gl : Gl := { l := [(0, (.agg [(i 4), (i 6)]), 2, true), (1, (.agg [(i 0), (i 1), (i 2), (i 3), (i 5), (i 4), (i 7), (i 6)]), 8, true)] }
noncomputable abbrev P : Program := Tryd.prog
instance xc : XC P := xc_none rfl
namespace F
abbrev law21_MonitorDuals : Nat := 3
abbrev law21_MonitorApart : Nat := 4
abbrev law21_awake : Nat := 5
abbrev ref21_Right : Nat := 6
abbrev ref14_Dual : Nat := 7
abbrev monitor_New : Nat := 8
abbrev ref21_Blown : Nat := 9
abbrev ref21_Observe : Nat := 10
abbrev monitor_Monitor_Observe : Nat := 11
abbrev monitor_Monitor_Settled : Nat := 12
abbrev law21_states : Nat := 13
abbrev ref02_Same : Nat := 14
abbrev monitor_Monitor_State : Nat := 15
abbrev monitor_Monitor_Len : Nat := 16
abbrev ref02_Small : Nat := 17
abbrev ref02_Session : Nat := 18
abbrev ref14_dual : Nat := 19
abbrev monitor_Monitor_Add : Nat := 20
abbrev ref02_Few : Nat := 21
abbrev ref02_Unfold : Nat := 22
abbrev monitor_Monitor_has : Nat := 23
abbrev monitor_want : Nat := 24
abbrev slices_Index_string_string : Nat := 25
abbrev monitor_fits : Nat := 26
abbrev typetree_Unfold : Nat := 27
abbrev slices_ContainsFunc_api_Type_api_Type : Nat := 28
abbrev monitor_Monitor_Settled_1 : Nat := 29
abbrev ref02_texts : Nat := 30
abbrev typetree_Copy : Nat := 31
abbrev ref02_Right : Nat := 32
abbrev ref02_Raise : Nat := 33
abbrev ref14_closed : Nat := 34
abbrev ref02_count : Nat := 35
abbrev ref02_Depth : Nat := 36
abbrev ref02_put : Nat := 37
abbrev dual_Kind : Nat := 38
abbrev monitor_values : Nat := 39
abbrev typetree_replace : Nat := 40
abbrev slices_IndexFunc_api_Type_api_Type : Nat := 41
abbrev typetree_mapped : Nat := 42
abbrev ref02_Size : Nat := 43
abbrev ref02_node : Nat := 44
abbrev typetree_Raise : Nat := 45
abbrev typetree_replace_1 : Nat := 46
abbrev slices_Clone_string_string : Nat := 47
abbrev ref02_shape : Nat := 48
abbrev typetree_Raise_1 : Nat := 49
abbrev ref02_prio : Nat := 50
abbrev ref02_Labels : Nat := 51
abbrev ref01_Name : Nat := 52
abbrev ref02_in : Nat := 53
abbrev ref01_Word : Nat := 54
abbrev ref01_Keyword : Nat := 55
abbrev ref01_in : Nat := 56
abbrev ref01_Letters : Nat := 57
abbrev ref01_digits : Nat := 58
end F
theorem hm : Tryd.prog.follows .mixedOrders = true := by kernel_rfl
/-- duologue/monitor.New, with memory -/
def sg_monitor_New : Sig := { args := [.at (.dat 0)], obs := [], res := .at (.ptr 9000 0), robs := [(9000, .cells false 1 true (.pts [.own 9001])), (9001, .arr false 25 6 true 0)], nout := 1 }
/-- (*duologue/monitor.Monitor).Observe, with memory -/
def sg_monitor_Monitor_Observe : Sig := { args := [.at (.ptr 9000 0), .at (.dat 0)], obs := [(9000, .cells false 1 true (.pts [.own 9001])), (9001, .arr false 25 6 true 1)], res := .at (.dat 0), robs := [(9000, .cells false 1 true (.pts [.own 9001])), (9001, .arr false 25 6 true 1)], nout := 2 }
/-- (*duologue/monitor.Monitor).Observe, with memory -/
def sg_monitor_Monitor_Observe_Nil : Sig := { args := [.at (.dat 0), .at (.dat 1)], obs := [], res := .at (.dat 0), robs := [], nout := 1 }
/-- duologue/duologuelaw21.states, with memory -/
def sg_law21_states : Sig := { args := [.at (.ptr 9000 0)], obs := [(9000, .cells false 1 true (.pts [.own 9001])), (9001, .arr false 25 6 true 0)], res := .at (.dat 0), robs := [(9000, .cells false 1 true (.pts [.own 9001])), (9001, .arr false 25 6 true 1)], nout := 2 }
/-- (*duologue/monitor.Monitor).State, with memory -/
def sg_monitor_Monitor_State : Sig := { args := [.at (.ptr 9000 0), .at (.dat 0)], obs := [(9000, .cells false 1 true (.pts [.own 9001])), (9001, .arr false 25 6 true 1)], res := .at (.dat 0), robs := [(9000, .cells false 1 true (.pts [.own 9001])), (9001, .arr false 25 6 true 1)], nout := 2 }
/-- (*duologue/monitor.Monitor).Add, with memory -/
def sg_monitor_Monitor_Add : Sig := { args := [.at (.ptr 9000 0), .at (.dat 0)], obs := [(9000, .cells false 1 true (.pts [.own 9001])), (9001, .arr false 25 6 true 1)], res := .at (.dat 0), robs := [(9000, .cells false 1 true (.pts [.own 9002])), (9002, .arr false 25 6 true 1)], nout := 2 }
/-- duologue/duologueref02.Raise, with memory -/
def sg_ref02_Raise : Sig := { args := [.at (.dat 0), .at (.dat 1)], obs := [], res := .agg [.dat 0, .dat 1, .dat 2, .dat 3, .dat 4, .own 9000], robs := [(9000, .arr false 25 6 true 5)], nout := 6 }
/-- slices.Clone[[]string,string], with memory -/
def sg_slices_Clone_string_string : Sig := { args := [.at (.dat 0)], obs := [], res := .at (.own 9000), robs := [(9000, .arr false 9 1 false 0)], nout := 1 }
def t_law21_MonitorDuals (xs : List PV) : T PV :=
.l (.okc 6 true) [(n xs 0)] fun x0 =>
.call F.law21_awake [] fun x1 =>
.l .bnot [x1] fun x2 =>
.ite x2 (
 .call F.law21_awake [] fun x3 =>
 .ret x3) (
 .l (.lst 6 true) [x0] fun x3 =>
 .call F.ref21_Right [x3] fun x4 =>
 .l .bnot [x4] fun x5 =>
 .ite x5 (
  .call F.law21_awake [] fun x6 =>
  .ret x6) (
  .l .len [(n xs 1)] fun x6 =>
  .l (.cmp .gtr .i64) [x6, (i 30)] fun x7 =>
  .ite x7 (
   .call F.law21_awake [] fun x8 =>
   .ret x8) (
   .call F.ref14_Dual [x0] fun x8 =>
   .l (.lst 6 true) [x8] fun x9 =>
   .call F.ref21_Right [x9] fun x10 =>
   .l .bnot [x10] fun x11 =>
   .ite x11 (
    .call F.law21_awake [] fun x12 =>
    .ret x12) (
    .l (.lst 6 true) [x0] fun x12 =>
    .calls F.monitor_New sg_monitor_New [x12] fun z13 =>
    .call F.ref14_Dual [x0] fun x14 =>
    .l (.lst 6 true) [x14] fun x15 =>
    .calls F.monitor_New sg_monitor_New [x15] fun z16 =>
    .l (.lst 6 true) [x0] fun x17 =>
    .loop [(i 0), x17, (n z13 0), (n z16 0)] fun y18 =>
    .l .len [(n xs 1)] fun x19 =>
    .l (.cmp .lss .i64) [(n y18 0), x19] fun x20 =>
    .ite x20 (
     .call F.ref21_Blown [(n y18 1)] fun x21 =>
     .ite x21 (
      .ret (.bool true)) (
      .l (.idx 6 true) [(n xs 1), (n y18 0)] fun x22 =>
      .call F.ref21_Observe [(n y18 1), x22] fun x23 =>
      .l (.tc 0) [x23] fun x24 =>
      .l (.tc 1) [x23] fun x25 =>
      .l (.idx 6 true) [(n xs 1), (n y18 0)] fun x26 =>
      .l (.okc 6 true) [x26] fun x27 =>
      .l (.okc 6 true) [x27] fun x28 =>
      .l .bnot [(c 1 x27)] fun x29 =>
      .l (.okc 1 false) [x29] fun x30 =>
      .calls F.monitor_Monitor_Observe sg_monitor_Monitor_Observe [x27, (n y18 2)] fun z31 =>
      .calls F.monitor_Monitor_Observe sg_monitor_Monitor_Observe [(.agg [(c 0 x28), x30, (c 2 x28), (c 3 x28), (c 4 x28), (c 5 x28)]), (n y18 3)] fun z32 =>
      .l (.cmp .neq .i64) [(n z31 0), (n z32 0)] fun x33 =>
      .ite x33 (
       .ret (.bool false)) (
       .l (.arith .add .i64) [(n y18 0), (i 1)] fun x34 =>
       .cont 0 [x34, x24, (n z31 1), (n z32 1)]))) (
     .call F.monitor_Monitor_Settled [(.box (.agg [(n y18 2)]))] fun x21 =>
     .l .gnd [x21] fun x22 =>
     .call F.monitor_Monitor_Settled [(.box (.agg [(n y18 3)]))] fun x23 =>
     .l .gnd [x23] fun x24 =>
     .l (.bcmp .eql) [x22, x24] fun x25 =>
     .ret x25)))))
theorem k_law21_MonitorDuals : TxOk P F.law21_MonitorDuals 2 t_law21_MonitorDuals := txOk_of (H := { wr := [], ro := [12, 16, 23, 29], nl := [], fz := [], da := [7], sigs := [(8, sg_monitor_New), (20, sg_monitor_Monitor_Add), (11, sg_monitor_Monitor_Observe), (15, sg_monitor_Monitor_State), (13, sg_law21_states)] }) (plans := []) hm Tryd.func3 rfl rfl fun xs => by kernel_rfl
def t_law21_MonitorApart (xs : List PV) : T PV :=
.l (.okc 6 true) [(n xs 1)] fun x0 =>
.call F.law21_awake [] fun x1 =>
.l .bnot [x1] fun x2 =>
.ite x2 (
 .call F.law21_awake [] fun x3 =>
 .ret x3) (
 .call F.ref21_Right [(n xs 0)] fun x3 =>
 .l .bnot [x3] fun x4 =>
 .ite x4 (
  .call F.law21_awake [] fun x5 =>
  .ret x5) (
  .calls F.monitor_New sg_monitor_New [(n xs 0)] fun z5 =>
  .calls F.law21_states sg_law21_states [(n z5 0)] fun z6 =>
  .calls F.monitor_Monitor_Observe sg_monitor_Monitor_Observe [x0, (n z6 1)] fun z7 =>
  .calls F.law21_states sg_law21_states [(n z7 1)] fun z8 =>
  .l .len [(n z6 0)] fun x9 =>
  .l .len [(n xs 0)] fun x10 =>
  .l (.cmp .neq .i64) [x9, x10] fun x11 =>
  .ite x11 (
   .ret (.bool false)) (
   .l .len [(n z8 0)] fun x12 =>
   .l .len [(n xs 0)] fun x13 =>
   .l (.cmp .neq .i64) [x12, x13] fun x14 =>
   .ite x14 (
    .ret (.bool false)) (
    .loop [(i 0)] fun y15 =>
    .l .len [(n xs 0)] fun x16 =>
    .l (.cmp .lss .i64) [(n y15 0), x16] fun x17 =>
    .ite x17 (
     .l (.cmp .neq .i64) [(n y15 0), (c 0 x0)] fun x18 =>
     .ite x18 (
      .l (.idx 6 true) [(n z6 0), (n y15 0)] fun x19 =>
      .l (.idx 6 true) [(n z8 0), (n y15 0)] fun x20 =>
      .call F.ref02_Same [x19, x20] fun x21 =>
      .l .bnot [x21] fun x22 =>
      .ite x22 (
       .ret (.bool false)) (
       .l (.arith .add .i64) [(n y15 0), (i 1)] fun x23 =>
       .cont 0 [x23])) (
      .l (.cmp .neq .i64) [(n z7 0), (i 0)] fun x19 =>
      .ite x19 (
       .l (.idx 6 true) [(n z6 0), (n y15 0)] fun x20 =>
       .l (.idx 6 true) [(n z8 0), (n y15 0)] fun x21 =>
       .call F.ref02_Same [x20, x21] fun x22 =>
       .l .bnot [x22] fun x23 =>
       .ite x23 (
        .ret (.bool false)) (
        .l (.arith .add .i64) [(n y15 0), (i 1)] fun x24 =>
        .cont 0 [x24])) (
       .l (.arith .add .i64) [(n y15 0), (i 1)] fun x20 =>
       .cont 0 [x20]))) (
     .l (.cmp .neq .i64) [(n z7 0), (i 0)] fun x18 =>
     .ite x18 (
      .ret (.bool true)) (
      .l (.cmp .geq .i64) [(c 0 x0), (i 0)] fun x19 =>
      .ite x19 (
       .l .len [(n xs 0)] fun x20 =>
       .l (.cmp .lss .i64) [(c 0 x0), x20] fun x21 =>
       .ret x21) (
       .ret (.bool false))))))))
theorem k_law21_MonitorApart : TxOk P F.law21_MonitorApart 2 t_law21_MonitorApart := txOk_of (H := { wr := [], ro := [12, 16, 23, 29], nl := [], fz := [], da := [], sigs := [(8, sg_monitor_New), (20, sg_monitor_Monitor_Add), (11, sg_monitor_Monitor_Observe), (15, sg_monitor_Monitor_State), (13, sg_law21_states)] }) (plans := []) hm Tryd.func4 rfl rfl fun xs => by kernel_rfl
def t_law21_awake (xs : List PV) : T PV :=
.l (.lst 6 true) [(.agg [(i 2), (i 0), (.str ⟨#[]⟩), (i 0), (.sl []), (.sl [])]), (.agg [(i 3), (i 0), (.str ⟨#[]⟩), (i 0), (.sl []), (.sl [])])] fun x0 =>
.l (.lst 6 true) [(.agg [(i 1), (i 0), (.str ⟨#[]⟩), (i 0), (.sl []), (.sl [])]), (.agg [(i 5), (i 0), (.str ⟨#[]⟩), (i 0), (.sl []), x0])] fun x1 =>
.l (.lst 6 true) [(.agg [(i 4), (i 0), (.str ⟨#[]⟩), (i 0), (.sl []), x1])] fun x2 =>
.calls F.monitor_New sg_monitor_New [x2] fun z3 =>
.calls F.monitor_Monitor_Observe sg_monitor_Monitor_Observe [(.agg [(i 0), (.bool false), (.str ⟨#[]⟩), (i 3), (.str ⟨#[]⟩), (i 1)]), (n z3 0)] fun z4 =>
.calls F.monitor_Monitor_Observe sg_monitor_Monitor_Observe [(.agg [(i 0), (.bool true), (.str ⟨#[]⟩), (i 2), (.str ⟨#[]⟩), (i 5)]), (n z4 1)] fun z5 =>
.call F.monitor_Monitor_Settled [(.box (.agg [(n z5 1)]))] fun x6 =>
.l .gnd [x6] fun x7 =>
.calls F.monitor_Monitor_Observe sg_monitor_Monitor_Observe [(.agg [(i 0), (.bool false), (.str ⟨#[]⟩), (i 3), (.str ⟨#[]⟩), (i 1)]), (n z5 1)] fun z8 =>
.calls F.monitor_Monitor_State sg_monitor_Monitor_State [(i 0), (n z8 1)] fun z9 =>
.l (.tc 0) [(n z9 0)] fun x10 =>
.l (.tc 1) [(n z9 0)] fun x11 =>
.l (.okc 6 true) [x10] fun x12 =>
.l (.cmp .eql .i64) [(n z4 0), (i 8)] fun x13 =>
.ite x13 (
 .l (.cmp .eql .i64) [(n z5 0), (i 0)] fun x14 =>
 .ite x14 (
  .l (.cmp .eql .i64) [(n z8 0), (i 0)] fun x15 =>
  .ite x15 (
   .l .bnot [x7] fun x16 =>
   .ite x16 (
    .call F.monitor_Monitor_Settled [(.box (.agg [(n z9 1)]))] fun x17 =>
    .l .gnd [x17] fun x18 =>
    .ite x18 (
     .l (.cmp .eql .i64) [(c 0 x12), (i 3)] fun x19 =>
     .ite x19 (
      .ite x11 (
       .call F.monitor_Monitor_Len [(.box (.agg [(n z9 1)]))] fun x20 =>
       .l .gnd [x20] fun x21 =>
       .l (.cmp .eql .i64) [x21, (i 1)] fun x22 =>
       .ite x22 (
        .calls F.monitor_Monitor_Observe sg_monitor_Monitor_Observe_Nil [.nilP, (.agg [(i 0), (.bool false), (.str ⟨#[]⟩), (i 3), (.str ⟨#[]⟩), (i 1)])] fun z23 =>
        .l (.cmp .eql .i64) [(n z23 0), (i 12)] fun x24 =>
        .ite x24 (
         .call F.monitor_Monitor_Len [.nilP] fun x25 =>
         .l .gnd [x25] fun x26 =>
         .l (.cmp .eql .i64) [x26, (i 0)] fun x27 =>
         .ret x27) (
         .ret (.bool false))) (
        .ret (.bool false))) (
       .ret (.bool false))) (
      .ret (.bool false))) (
     .ret (.bool false))) (
    .ret (.bool false))) (
   .ret (.bool false))) (
  .ret (.bool false))) (
 .ret (.bool false))
theorem k_law21_awake : TxOk P F.law21_awake 0 t_law21_awake := txOk_of (H := { wr := [], ro := [12, 16, 23, 29], nl := [], fz := [], da := [], sigs := [(2000076, sg_monitor_Monitor_Observe_Nil), (8, sg_monitor_New), (20, sg_monitor_Monitor_Add), (11, sg_monitor_Monitor_Observe), (15, sg_monitor_Monitor_State), (13, sg_law21_states)] }) (plans := []) hm Tryd.func5 rfl rfl fun xs => by kernel_rfl
def t_ref21_Right (xs : List PV) : T PV :=
.loop [(i 0)] fun y0 =>
.l .len [(n xs 0)] fun x1 =>
.l (.cmp .lss .i64) [(n y0 0), x1] fun x2 =>
.ite x2 (
 .l (.cmp .leq .i64) [(n y0 0), (i 8)] fun x3 =>
 .ite x3 (
  .l (.idx 6 true) [(n xs 0), (n y0 0)] fun x4 =>
  .call F.ref02_Small [x4, (i 25)] fun x5 =>
  .l .bnot [x5] fun x6 =>
  .ite x6 (
   .ret (.bool false)) (
   .l (.idx 6 true) [(n xs 0), (n y0 0)] fun x7 =>
   .call F.ref02_Session [x7] fun x8 =>
   .l .bnot [x8] fun x9 =>
   .ite x9 (
    .ret (.bool false)) (
    .l (.arith .add .i64) [(n y0 0), (i 1)] fun x10 =>
    .cont 0 [x10]))) (
  .l .len [(n xs 0)] fun x4 =>
  .l (.cmp .leq .i64) [x4, (i 8)] fun x5 =>
  .ret x5)) (
 .l .len [(n xs 0)] fun x3 =>
 .l (.cmp .leq .i64) [x3, (i 8)] fun x4 =>
 .ret x4)
theorem k_ref21_Right : TxOk P F.ref21_Right 1 t_ref21_Right := txOk_of (H := {}) (plans := []) hm Tryd.func6 rfl rfl fun xs => by kernel_rfl
def t_ref14_Dual (xs : List PV) : T PV :=
.l (.okc 6 true) [(n xs 0)] fun x0 =>
.call F.ref14_dual [x0, (.sl [])] fun x1 =>
.l (.okc 6 true) [x1] fun x2 =>
.ret x2
theorem k_ref14_Dual : TxOk P F.ref14_Dual 1 t_ref14_Dual := txOk_of (H := {}) (plans := []) hm Tryd.func7 rfl rfl fun xs => by kernel_rfl
-- NOT TOLD: 8 duologue/monitor.New: 1
def u_monitor_New (xs : List PV) : T PV :=
.calls F.monitor_Monitor_Add sg_monitor_Monitor_Add [(n xs 0), (.sl [])] fun z0 =>
.ret (.tup [(n z0 1)])
theorem m_monitor_New : TxOkS P F.monitor_New sg_monitor_New u_monitor_New := txOkS_of (H := { wr := [], ro := [], nl := [(4, (0, (25, false)))], fz := [], da := [], sigs := [(8, sg_monitor_New), (20, sg_monitor_Monitor_Add), (11, sg_monitor_Monitor_Observe), (15, sg_monitor_Monitor_State), (13, sg_law21_states)] }) (plans := []) hm Tryd.func8 rfl fun xs => by kernel_rfl
def t_ref21_Blown (xs : List PV) : T PV :=
.loop [(i 0)] fun y0 =>
.l .len [(n xs 0)] fun x1 =>
.l (.cmp .lss .i64) [(n y0 0), x1] fun x2 =>
.ite x2 (
 .l (.idx 6 true) [(n xs 0), (n y0 0)] fun x3 =>
 .call F.ref02_Unfold [x3] fun x4 =>
 .call F.ref02_Few [x4, (i 2000)] fun x5 =>
 .l .bnot [x5] fun x6 =>
 .ite x6 (
  .ret (.bool true)) (
  .l (.arith .add .i64) [(n y0 0), (i 1)] fun x7 =>
  .cont 0 [x7])) (
 .ret (.bool false))
theorem k_ref21_Blown : TxOk P F.ref21_Blown 1 t_ref21_Blown := txOk_of (H := {}) (plans := []) hm Tryd.func9 rfl rfl fun xs => by kernel_rfl
def t_ref21_Observe (xs : List PV) : T PV :=
.l (.okc 6 true) [(n xs 1)] fun x0 =>
.l (.cmp .lss .i64) [(c 0 x0), (i 0)] fun x1 =>
.ite x1 (
 .ret (.tup [(n xs 0), (i 12)])) (
 .l .len [(n xs 0)] fun x2 =>
 .l (.cmp .geq .i64) [(c 0 x0), x2] fun x3 =>
 .ite x3 (
  .ret (.tup [(n xs 0), (i 12)])) (
  .l (.idx 6 true) [(n xs 0), (c 0 x0)] fun x4 =>
  .call F.ref02_Unfold [x4] fun x5 =>
  .l (.okc 6 true) [x5] fun x6 =>
  .l (.scmp .neq) [(c 2 x0), (.str ⟨#[]⟩)] fun x7 =>
  .ite x7 (
   .l .bnot [(c 1 x0)] fun x8 =>
   .ite x8 (
    .l (.arith .add .i64) [(i 6), (i 1)] fun x9 =>
    .l (.cmp .neq .i64) [(c 0 x6), x9] fun x10 =>
    .ite x10 (
     .ret (.tup [(n xs 0), (i 8)])) (
     .l (.scmp .eql) [(c 2 x0), (.str ⟨#[]⟩)] fun x11 =>
     .ite x11 (
      .l (.idx 6 true) [(c 5 x6), (i 0)] fun x12 =>
      .l (.cmp .eql .i64) [(c 0 x12), (i 1)] fun x13 =>
      .ite x13 (
       .l (.cmp .neq .i64) [(c 3 x0), (i 2)] fun x14 =>
       .ite x14 (
        .ret (.tup [(n xs 0), (i 8)])) (
        .l (.cmp .eql .i64) [(c 0 x12), (i 2)] fun x15 =>
        .ite x15 (
         .l (.cmp .neq .i64) [(c 3 x0), (i 3)] fun x16 =>
         .ite x16 (
          .ret (.tup [(n xs 0), (i 8)])) (
          .l (.cmp .gtr .i64) [(c 0 x12), (i 2)] fun x17 =>
          .ite x17 (
           .l (.cmp .neq .i64) [(c 3 x0), (i 1)] fun x18 =>
           .ite x18 (
            .ret (.tup [(n xs 0), (i 8)])) (
            .loop [(i 0), (i 1)] fun y19 =>
            .l .len [(c 4 x6)] fun x20 =>
            .l (.cmp .lss .i64) [(n y19 0), x20] fun x21 =>
            .ite x21 (
             .l (.idx 1 false) [(c 4 x6), (n y19 0)] fun x22 =>
             .l (.scmp .eql) [x22, (c 2 x0)] fun x23 =>
             .ite x23 (
              .l (.arith .add .i64) [(n y19 0), (i 1)] fun x24 =>
              .cont 0 [x24, (n y19 0)]) (
              .l (.arith .add .i64) [(n y19 0), (i 1)] fun x24 =>
              .cont 0 [x24, (n y19 1)])) (
             .l (.cmp .lss .i64) [(n y19 1), (i 0)] fun x22 =>
             .ite x22 (
              .ret (.tup [(n xs 0), (i 9)])) (
              .l (.lst 6 true) [] fun x23 =>
              .l (.app 6 true 88) [x23, (n xs 0)] fun x24 =>
              .l (.idx 6 true) [(c 5 x6), (n y19 1)] fun x25 =>
              .l (.idx 6 true) [x24, (c 0 x0)] fun x26 =>
              .l (.upd 6 true) [x24, (c 0 x0), x25] fun x27 =>
              .ret (.tup [x27, (i 0)]))))) (
           .loop [(i 0), (i 1)] fun y18 =>
           .l .len [(c 4 x6)] fun x19 =>
           .l (.cmp .lss .i64) [(n y18 0), x19] fun x20 =>
           .ite x20 (
            .l (.idx 1 false) [(c 4 x6), (n y18 0)] fun x21 =>
            .l (.scmp .eql) [x21, (c 2 x0)] fun x22 =>
            .ite x22 (
             .l (.arith .add .i64) [(n y18 0), (i 1)] fun x23 =>
             .cont 0 [x23, (n y18 0)]) (
             .l (.arith .add .i64) [(n y18 0), (i 1)] fun x23 =>
             .cont 0 [x23, (n y18 1)])) (
            .l (.cmp .lss .i64) [(n y18 1), (i 0)] fun x21 =>
            .ite x21 (
             .ret (.tup [(n xs 0), (i 9)])) (
             .l (.lst 6 true) [] fun x22 =>
             .l (.app 6 true 88) [x22, (n xs 0)] fun x23 =>
             .l (.idx 6 true) [(c 5 x6), (n y18 1)] fun x24 =>
             .l (.idx 6 true) [x23, (c 0 x0)] fun x25 =>
             .l (.upd 6 true) [x23, (c 0 x0), x24] fun x26 =>
             .ret (.tup [x26, (i 0)])))))) (
         .l (.cmp .gtr .i64) [(c 0 x12), (i 2)] fun x16 =>
         .ite x16 (
          .l (.cmp .neq .i64) [(c 3 x0), (i 1)] fun x17 =>
          .ite x17 (
           .ret (.tup [(n xs 0), (i 8)])) (
           .loop [(i 0), (i 1)] fun y18 =>
           .l .len [(c 4 x6)] fun x19 =>
           .l (.cmp .lss .i64) [(n y18 0), x19] fun x20 =>
           .ite x20 (
            .l (.idx 1 false) [(c 4 x6), (n y18 0)] fun x21 =>
            .l (.scmp .eql) [x21, (c 2 x0)] fun x22 =>
            .ite x22 (
             .l (.arith .add .i64) [(n y18 0), (i 1)] fun x23 =>
             .cont 0 [x23, (n y18 0)]) (
             .l (.arith .add .i64) [(n y18 0), (i 1)] fun x23 =>
             .cont 0 [x23, (n y18 1)])) (
            .l (.cmp .lss .i64) [(n y18 1), (i 0)] fun x21 =>
            .ite x21 (
             .ret (.tup [(n xs 0), (i 9)])) (
             .l (.lst 6 true) [] fun x22 =>
             .l (.app 6 true 88) [x22, (n xs 0)] fun x23 =>
             .l (.idx 6 true) [(c 5 x6), (n y18 1)] fun x24 =>
             .l (.idx 6 true) [x23, (c 0 x0)] fun x25 =>
             .l (.upd 6 true) [x23, (c 0 x0), x24] fun x26 =>
             .ret (.tup [x26, (i 0)]))))) (
          .loop [(i 0), (i 1)] fun y17 =>
          .l .len [(c 4 x6)] fun x18 =>
          .l (.cmp .lss .i64) [(n y17 0), x18] fun x19 =>
          .ite x19 (
           .l (.idx 1 false) [(c 4 x6), (n y17 0)] fun x20 =>
           .l (.scmp .eql) [x20, (c 2 x0)] fun x21 =>
           .ite x21 (
            .l (.arith .add .i64) [(n y17 0), (i 1)] fun x22 =>
            .cont 0 [x22, (n y17 0)]) (
            .l (.arith .add .i64) [(n y17 0), (i 1)] fun x22 =>
            .cont 0 [x22, (n y17 1)])) (
           .l (.cmp .lss .i64) [(n y17 1), (i 0)] fun x20 =>
           .ite x20 (
            .ret (.tup [(n xs 0), (i 9)])) (
            .l (.lst 6 true) [] fun x21 =>
            .l (.app 6 true 88) [x21, (n xs 0)] fun x22 =>
            .l (.idx 6 true) [(c 5 x6), (n y17 1)] fun x23 =>
            .l (.idx 6 true) [x22, (c 0 x0)] fun x24 =>
            .l (.upd 6 true) [x22, (c 0 x0), x23] fun x25 =>
            .ret (.tup [x25, (i 0)]))))))) (
       .l (.cmp .eql .i64) [(c 0 x12), (i 2)] fun x14 =>
       .ite x14 (
        .l (.cmp .neq .i64) [(c 3 x0), (i 3)] fun x15 =>
        .ite x15 (
         .ret (.tup [(n xs 0), (i 8)])) (
         .l (.cmp .gtr .i64) [(c 0 x12), (i 2)] fun x16 =>
         .ite x16 (
          .l (.cmp .neq .i64) [(c 3 x0), (i 1)] fun x17 =>
          .ite x17 (
           .ret (.tup [(n xs 0), (i 8)])) (
           .loop [(i 0), (i 1)] fun y18 =>
           .l .len [(c 4 x6)] fun x19 =>
           .l (.cmp .lss .i64) [(n y18 0), x19] fun x20 =>
           .ite x20 (
            .l (.idx 1 false) [(c 4 x6), (n y18 0)] fun x21 =>
            .l (.scmp .eql) [x21, (c 2 x0)] fun x22 =>
            .ite x22 (
             .l (.arith .add .i64) [(n y18 0), (i 1)] fun x23 =>
             .cont 0 [x23, (n y18 0)]) (
             .l (.arith .add .i64) [(n y18 0), (i 1)] fun x23 =>
             .cont 0 [x23, (n y18 1)])) (
            .l (.cmp .lss .i64) [(n y18 1), (i 0)] fun x21 =>
            .ite x21 (
             .ret (.tup [(n xs 0), (i 9)])) (
             .l (.lst 6 true) [] fun x22 =>
             .l (.app 6 true 88) [x22, (n xs 0)] fun x23 =>
             .l (.idx 6 true) [(c 5 x6), (n y18 1)] fun x24 =>
             .l (.idx 6 true) [x23, (c 0 x0)] fun x25 =>
             .l (.upd 6 true) [x23, (c 0 x0), x24] fun x26 =>
             .ret (.tup [x26, (i 0)]))))) (
          .loop [(i 0), (i 1)] fun y17 =>
          .l .len [(c 4 x6)] fun x18 =>
          .l (.cmp .lss .i64) [(n y17 0), x18] fun x19 =>
          .ite x19 (
           .l (.idx 1 false) [(c 4 x6), (n y17 0)] fun x20 =>
           .l (.scmp .eql) [x20, (c 2 x0)] fun x21 =>
           .ite x21 (
            .l (.arith .add .i64) [(n y17 0), (i 1)] fun x22 =>
            .cont 0 [x22, (n y17 0)]) (
            .l (.arith .add .i64) [(n y17 0), (i 1)] fun x22 =>
            .cont 0 [x22, (n y17 1)])) (
           .l (.cmp .lss .i64) [(n y17 1), (i 0)] fun x20 =>
           .ite x20 (
            .ret (.tup [(n xs 0), (i 9)])) (
            .l (.lst 6 true) [] fun x21 =>
            .l (.app 6 true 88) [x21, (n xs 0)] fun x22 =>
            .l (.idx 6 true) [(c 5 x6), (n y17 1)] fun x23 =>
            .l (.idx 6 true) [x22, (c 0 x0)] fun x24 =>
            .l (.upd 6 true) [x22, (c 0 x0), x23] fun x25 =>
            .ret (.tup [x25, (i 0)])))))) (
        .l (.cmp .gtr .i64) [(c 0 x12), (i 2)] fun x15 =>
        .ite x15 (
         .l (.cmp .neq .i64) [(c 3 x0), (i 1)] fun x16 =>
         .ite x16 (
          .ret (.tup [(n xs 0), (i 8)])) (
          .loop [(i 0), (i 1)] fun y17 =>
          .l .len [(c 4 x6)] fun x18 =>
          .l (.cmp .lss .i64) [(n y17 0), x18] fun x19 =>
          .ite x19 (
           .l (.idx 1 false) [(c 4 x6), (n y17 0)] fun x20 =>
           .l (.scmp .eql) [x20, (c 2 x0)] fun x21 =>
           .ite x21 (
            .l (.arith .add .i64) [(n y17 0), (i 1)] fun x22 =>
            .cont 0 [x22, (n y17 0)]) (
            .l (.arith .add .i64) [(n y17 0), (i 1)] fun x22 =>
            .cont 0 [x22, (n y17 1)])) (
           .l (.cmp .lss .i64) [(n y17 1), (i 0)] fun x20 =>
           .ite x20 (
            .ret (.tup [(n xs 0), (i 9)])) (
            .l (.lst 6 true) [] fun x21 =>
            .l (.app 6 true 88) [x21, (n xs 0)] fun x22 =>
            .l (.idx 6 true) [(c 5 x6), (n y17 1)] fun x23 =>
            .l (.idx 6 true) [x22, (c 0 x0)] fun x24 =>
            .l (.upd 6 true) [x22, (c 0 x0), x23] fun x25 =>
            .ret (.tup [x25, (i 0)]))))) (
         .loop [(i 0), (i 1)] fun y16 =>
         .l .len [(c 4 x6)] fun x17 =>
         .l (.cmp .lss .i64) [(n y16 0), x17] fun x18 =>
         .ite x18 (
          .l (.idx 1 false) [(c 4 x6), (n y16 0)] fun x19 =>
          .l (.scmp .eql) [x19, (c 2 x0)] fun x20 =>
          .ite x20 (
           .l (.arith .add .i64) [(n y16 0), (i 1)] fun x21 =>
           .cont 0 [x21, (n y16 0)]) (
           .l (.arith .add .i64) [(n y16 0), (i 1)] fun x21 =>
           .cont 0 [x21, (n y16 1)])) (
          .l (.cmp .lss .i64) [(n y16 1), (i 0)] fun x19 =>
          .ite x19 (
           .ret (.tup [(n xs 0), (i 9)])) (
           .l (.lst 6 true) [] fun x20 =>
           .l (.app 6 true 88) [x20, (n xs 0)] fun x21 =>
           .l (.idx 6 true) [(c 5 x6), (n y16 1)] fun x22 =>
           .l (.idx 6 true) [x21, (c 0 x0)] fun x23 =>
           .l (.upd 6 true) [x21, (c 0 x0), x22] fun x24 =>
           .ret (.tup [x24, (i 0)]))))))) (
      .loop [(i 0), (i (-1))] fun y12 =>
      .l .len [(c 4 x6)] fun x13 =>
      .l (.cmp .lss .i64) [(n y12 0), x13] fun x14 =>
      .ite x14 (
       .l (.idx 1 false) [(c 4 x6), (n y12 0)] fun x15 =>
       .l (.scmp .eql) [x15, (c 2 x0)] fun x16 =>
       .ite x16 (
        .l (.arith .add .i64) [(n y12 0), (i 1)] fun x17 =>
        .cont 0 [x17, (n y12 0)]) (
        .l (.arith .add .i64) [(n y12 0), (i 1)] fun x17 =>
        .cont 0 [x17, (n y12 1)])) (
       .l (.cmp .lss .i64) [(n y12 1), (i 0)] fun x15 =>
       .ite x15 (
        .ret (.tup [(n xs 0), (i 9)])) (
        .l (.lst 6 true) [] fun x16 =>
        .l (.app 6 true 88) [x16, (n xs 0)] fun x17 =>
        .l (.idx 6 true) [(c 5 x6), (n y12 1)] fun x18 =>
        .l (.idx 6 true) [x17, (c 0 x0)] fun x19 =>
        .l (.upd 6 true) [x17, (c 0 x0), x18] fun x20 =>
        .ret (.tup [x20, (i 0)])))))) (
    .l (.cmp .neq .i64) [(c 0 x6), (i 6)] fun x9 =>
    .ite x9 (
     .ret (.tup [(n xs 0), (i 8)])) (
     .l (.scmp .eql) [(c 2 x0), (.str ⟨#[]⟩)] fun x10 =>
     .ite x10 (
      .l (.idx 6 true) [(c 5 x6), (i 0)] fun x11 =>
      .l (.cmp .eql .i64) [(c 0 x11), (i 1)] fun x12 =>
      .ite x12 (
       .l (.cmp .neq .i64) [(c 3 x0), (i 2)] fun x13 =>
       .ite x13 (
        .ret (.tup [(n xs 0), (i 8)])) (
        .l (.cmp .eql .i64) [(c 0 x11), (i 2)] fun x14 =>
        .ite x14 (
         .l (.cmp .neq .i64) [(c 3 x0), (i 3)] fun x15 =>
         .ite x15 (
          .ret (.tup [(n xs 0), (i 8)])) (
          .l (.cmp .gtr .i64) [(c 0 x11), (i 2)] fun x16 =>
          .ite x16 (
           .l (.cmp .neq .i64) [(c 3 x0), (i 1)] fun x17 =>
           .ite x17 (
            .ret (.tup [(n xs 0), (i 8)])) (
            .loop [(i 0), (i 1)] fun y18 =>
            .l .len [(c 4 x6)] fun x19 =>
            .l (.cmp .lss .i64) [(n y18 0), x19] fun x20 =>
            .ite x20 (
             .l (.idx 1 false) [(c 4 x6), (n y18 0)] fun x21 =>
             .l (.scmp .eql) [x21, (c 2 x0)] fun x22 =>
             .ite x22 (
              .l (.arith .add .i64) [(n y18 0), (i 1)] fun x23 =>
              .cont 0 [x23, (n y18 0)]) (
              .l (.arith .add .i64) [(n y18 0), (i 1)] fun x23 =>
              .cont 0 [x23, (n y18 1)])) (
             .l (.cmp .lss .i64) [(n y18 1), (i 0)] fun x21 =>
             .ite x21 (
              .ret (.tup [(n xs 0), (i 9)])) (
              .l (.lst 6 true) [] fun x22 =>
              .l (.app 6 true 88) [x22, (n xs 0)] fun x23 =>
              .l (.idx 6 true) [(c 5 x6), (n y18 1)] fun x24 =>
              .l (.idx 6 true) [x23, (c 0 x0)] fun x25 =>
              .l (.upd 6 true) [x23, (c 0 x0), x24] fun x26 =>
              .ret (.tup [x26, (i 0)]))))) (
           .loop [(i 0), (i 1)] fun y17 =>
           .l .len [(c 4 x6)] fun x18 =>
           .l (.cmp .lss .i64) [(n y17 0), x18] fun x19 =>
           .ite x19 (
            .l (.idx 1 false) [(c 4 x6), (n y17 0)] fun x20 =>
            .l (.scmp .eql) [x20, (c 2 x0)] fun x21 =>
            .ite x21 (
             .l (.arith .add .i64) [(n y17 0), (i 1)] fun x22 =>
             .cont 0 [x22, (n y17 0)]) (
             .l (.arith .add .i64) [(n y17 0), (i 1)] fun x22 =>
             .cont 0 [x22, (n y17 1)])) (
            .l (.cmp .lss .i64) [(n y17 1), (i 0)] fun x20 =>
            .ite x20 (
             .ret (.tup [(n xs 0), (i 9)])) (
             .l (.lst 6 true) [] fun x21 =>
             .l (.app 6 true 88) [x21, (n xs 0)] fun x22 =>
             .l (.idx 6 true) [(c 5 x6), (n y17 1)] fun x23 =>
             .l (.idx 6 true) [x22, (c 0 x0)] fun x24 =>
             .l (.upd 6 true) [x22, (c 0 x0), x23] fun x25 =>
             .ret (.tup [x25, (i 0)])))))) (
         .l (.cmp .gtr .i64) [(c 0 x11), (i 2)] fun x15 =>
         .ite x15 (
          .l (.cmp .neq .i64) [(c 3 x0), (i 1)] fun x16 =>
          .ite x16 (
           .ret (.tup [(n xs 0), (i 8)])) (
           .loop [(i 0), (i 1)] fun y17 =>
           .l .len [(c 4 x6)] fun x18 =>
           .l (.cmp .lss .i64) [(n y17 0), x18] fun x19 =>
           .ite x19 (
            .l (.idx 1 false) [(c 4 x6), (n y17 0)] fun x20 =>
            .l (.scmp .eql) [x20, (c 2 x0)] fun x21 =>
            .ite x21 (
             .l (.arith .add .i64) [(n y17 0), (i 1)] fun x22 =>
             .cont 0 [x22, (n y17 0)]) (
             .l (.arith .add .i64) [(n y17 0), (i 1)] fun x22 =>
             .cont 0 [x22, (n y17 1)])) (
            .l (.cmp .lss .i64) [(n y17 1), (i 0)] fun x20 =>
            .ite x20 (
             .ret (.tup [(n xs 0), (i 9)])) (
             .l (.lst 6 true) [] fun x21 =>
             .l (.app 6 true 88) [x21, (n xs 0)] fun x22 =>
             .l (.idx 6 true) [(c 5 x6), (n y17 1)] fun x23 =>
             .l (.idx 6 true) [x22, (c 0 x0)] fun x24 =>
             .l (.upd 6 true) [x22, (c 0 x0), x23] fun x25 =>
             .ret (.tup [x25, (i 0)]))))) (
          .loop [(i 0), (i 1)] fun y16 =>
          .l .len [(c 4 x6)] fun x17 =>
          .l (.cmp .lss .i64) [(n y16 0), x17] fun x18 =>
          .ite x18 (
           .l (.idx 1 false) [(c 4 x6), (n y16 0)] fun x19 =>
           .l (.scmp .eql) [x19, (c 2 x0)] fun x20 =>
           .ite x20 (
            .l (.arith .add .i64) [(n y16 0), (i 1)] fun x21 =>
            .cont 0 [x21, (n y16 0)]) (
            .l (.arith .add .i64) [(n y16 0), (i 1)] fun x21 =>
            .cont 0 [x21, (n y16 1)])) (
           .l (.cmp .lss .i64) [(n y16 1), (i 0)] fun x19 =>
           .ite x19 (
            .ret (.tup [(n xs 0), (i 9)])) (
            .l (.lst 6 true) [] fun x20 =>
            .l (.app 6 true 88) [x20, (n xs 0)] fun x21 =>
            .l (.idx 6 true) [(c 5 x6), (n y16 1)] fun x22 =>
            .l (.idx 6 true) [x21, (c 0 x0)] fun x23 =>
            .l (.upd 6 true) [x21, (c 0 x0), x22] fun x24 =>
            .ret (.tup [x24, (i 0)]))))))) (
       .l (.cmp .eql .i64) [(c 0 x11), (i 2)] fun x13 =>
       .ite x13 (
        .l (.cmp .neq .i64) [(c 3 x0), (i 3)] fun x14 =>
        .ite x14 (
         .ret (.tup [(n xs 0), (i 8)])) (
         .l (.cmp .gtr .i64) [(c 0 x11), (i 2)] fun x15 =>
         .ite x15 (
          .l (.cmp .neq .i64) [(c 3 x0), (i 1)] fun x16 =>
          .ite x16 (
           .ret (.tup [(n xs 0), (i 8)])) (
           .loop [(i 0), (i 1)] fun y17 =>
           .l .len [(c 4 x6)] fun x18 =>
           .l (.cmp .lss .i64) [(n y17 0), x18] fun x19 =>
           .ite x19 (
            .l (.idx 1 false) [(c 4 x6), (n y17 0)] fun x20 =>
            .l (.scmp .eql) [x20, (c 2 x0)] fun x21 =>
            .ite x21 (
             .l (.arith .add .i64) [(n y17 0), (i 1)] fun x22 =>
             .cont 0 [x22, (n y17 0)]) (
             .l (.arith .add .i64) [(n y17 0), (i 1)] fun x22 =>
             .cont 0 [x22, (n y17 1)])) (
            .l (.cmp .lss .i64) [(n y17 1), (i 0)] fun x20 =>
            .ite x20 (
             .ret (.tup [(n xs 0), (i 9)])) (
             .l (.lst 6 true) [] fun x21 =>
             .l (.app 6 true 88) [x21, (n xs 0)] fun x22 =>
             .l (.idx 6 true) [(c 5 x6), (n y17 1)] fun x23 =>
             .l (.idx 6 true) [x22, (c 0 x0)] fun x24 =>
             .l (.upd 6 true) [x22, (c 0 x0), x23] fun x25 =>
             .ret (.tup [x25, (i 0)]))))) (
          .loop [(i 0), (i 1)] fun y16 =>
          .l .len [(c 4 x6)] fun x17 =>
          .l (.cmp .lss .i64) [(n y16 0), x17] fun x18 =>
          .ite x18 (
           .l (.idx 1 false) [(c 4 x6), (n y16 0)] fun x19 =>
           .l (.scmp .eql) [x19, (c 2 x0)] fun x20 =>
           .ite x20 (
            .l (.arith .add .i64) [(n y16 0), (i 1)] fun x21 =>
            .cont 0 [x21, (n y16 0)]) (
            .l (.arith .add .i64) [(n y16 0), (i 1)] fun x21 =>
            .cont 0 [x21, (n y16 1)])) (
           .l (.cmp .lss .i64) [(n y16 1), (i 0)] fun x19 =>
           .ite x19 (
            .ret (.tup [(n xs 0), (i 9)])) (
            .l (.lst 6 true) [] fun x20 =>
            .l (.app 6 true 88) [x20, (n xs 0)] fun x21 =>
            .l (.idx 6 true) [(c 5 x6), (n y16 1)] fun x22 =>
            .l (.idx 6 true) [x21, (c 0 x0)] fun x23 =>
            .l (.upd 6 true) [x21, (c 0 x0), x22] fun x24 =>
            .ret (.tup [x24, (i 0)])))))) (
        .l (.cmp .gtr .i64) [(c 0 x11), (i 2)] fun x14 =>
        .ite x14 (
         .l (.cmp .neq .i64) [(c 3 x0), (i 1)] fun x15 =>
         .ite x15 (
          .ret (.tup [(n xs 0), (i 8)])) (
          .loop [(i 0), (i 1)] fun y16 =>
          .l .len [(c 4 x6)] fun x17 =>
          .l (.cmp .lss .i64) [(n y16 0), x17] fun x18 =>
          .ite x18 (
           .l (.idx 1 false) [(c 4 x6), (n y16 0)] fun x19 =>
           .l (.scmp .eql) [x19, (c 2 x0)] fun x20 =>
           .ite x20 (
            .l (.arith .add .i64) [(n y16 0), (i 1)] fun x21 =>
            .cont 0 [x21, (n y16 0)]) (
            .l (.arith .add .i64) [(n y16 0), (i 1)] fun x21 =>
            .cont 0 [x21, (n y16 1)])) (
           .l (.cmp .lss .i64) [(n y16 1), (i 0)] fun x19 =>
           .ite x19 (
            .ret (.tup [(n xs 0), (i 9)])) (
            .l (.lst 6 true) [] fun x20 =>
            .l (.app 6 true 88) [x20, (n xs 0)] fun x21 =>
            .l (.idx 6 true) [(c 5 x6), (n y16 1)] fun x22 =>
            .l (.idx 6 true) [x21, (c 0 x0)] fun x23 =>
            .l (.upd 6 true) [x21, (c 0 x0), x22] fun x24 =>
            .ret (.tup [x24, (i 0)]))))) (
         .loop [(i 0), (i 1)] fun y15 =>
         .l .len [(c 4 x6)] fun x16 =>
         .l (.cmp .lss .i64) [(n y15 0), x16] fun x17 =>
         .ite x17 (
          .l (.idx 1 false) [(c 4 x6), (n y15 0)] fun x18 =>
          .l (.scmp .eql) [x18, (c 2 x0)] fun x19 =>
          .ite x19 (
           .l (.arith .add .i64) [(n y15 0), (i 1)] fun x20 =>
           .cont 0 [x20, (n y15 0)]) (
           .l (.arith .add .i64) [(n y15 0), (i 1)] fun x20 =>
           .cont 0 [x20, (n y15 1)])) (
          .l (.cmp .lss .i64) [(n y15 1), (i 0)] fun x18 =>
          .ite x18 (
           .ret (.tup [(n xs 0), (i 9)])) (
           .l (.lst 6 true) [] fun x19 =>
           .l (.app 6 true 88) [x19, (n xs 0)] fun x20 =>
           .l (.idx 6 true) [(c 5 x6), (n y15 1)] fun x21 =>
           .l (.idx 6 true) [x20, (c 0 x0)] fun x22 =>
           .l (.upd 6 true) [x20, (c 0 x0), x21] fun x23 =>
           .ret (.tup [x23, (i 0)]))))))) (
      .loop [(i 0), (i (-1))] fun y11 =>
      .l .len [(c 4 x6)] fun x12 =>
      .l (.cmp .lss .i64) [(n y11 0), x12] fun x13 =>
      .ite x13 (
       .l (.idx 1 false) [(c 4 x6), (n y11 0)] fun x14 =>
       .l (.scmp .eql) [x14, (c 2 x0)] fun x15 =>
       .ite x15 (
        .l (.arith .add .i64) [(n y11 0), (i 1)] fun x16 =>
        .cont 0 [x16, (n y11 0)]) (
        .l (.arith .add .i64) [(n y11 0), (i 1)] fun x16 =>
        .cont 0 [x16, (n y11 1)])) (
       .l (.cmp .lss .i64) [(n y11 1), (i 0)] fun x14 =>
       .ite x14 (
        .ret (.tup [(n xs 0), (i 9)])) (
        .l (.lst 6 true) [] fun x15 =>
        .l (.app 6 true 88) [x15, (n xs 0)] fun x16 =>
        .l (.idx 6 true) [(c 5 x6), (n y11 1)] fun x17 =>
        .l (.idx 6 true) [x16, (c 0 x0)] fun x18 =>
        .l (.upd 6 true) [x16, (c 0 x0), x17] fun x19 =>
        .ret (.tup [x19, (i 0)]))))))) (
   .l .bnot [(c 1 x0)] fun x8 =>
   .ite x8 (
    .l (.arith .add .i64) [(i 4), (i 1)] fun x9 =>
    .l (.cmp .neq .i64) [(c 0 x6), x9] fun x10 =>
    .ite x10 (
     .ret (.tup [(n xs 0), (i 8)])) (
     .l (.scmp .eql) [(c 2 x0), (.str ⟨#[]⟩)] fun x11 =>
     .ite x11 (
      .l (.idx 6 true) [(c 5 x6), (i 0)] fun x12 =>
      .l (.cmp .eql .i64) [(c 0 x12), (i 1)] fun x13 =>
      .ite x13 (
       .l (.cmp .neq .i64) [(c 3 x0), (i 2)] fun x14 =>
       .ite x14 (
        .ret (.tup [(n xs 0), (i 8)])) (
        .l (.cmp .eql .i64) [(c 0 x12), (i 2)] fun x15 =>
        .ite x15 (
         .l (.cmp .neq .i64) [(c 3 x0), (i 3)] fun x16 =>
         .ite x16 (
          .ret (.tup [(n xs 0), (i 8)])) (
          .l (.cmp .gtr .i64) [(c 0 x12), (i 2)] fun x17 =>
          .ite x17 (
           .l (.cmp .neq .i64) [(c 3 x0), (i 1)] fun x18 =>
           .ite x18 (
            .ret (.tup [(n xs 0), (i 8)])) (
            .loop [(i 0), (i 1)] fun y19 =>
            .l .len [(c 4 x6)] fun x20 =>
            .l (.cmp .lss .i64) [(n y19 0), x20] fun x21 =>
            .ite x21 (
             .l (.idx 1 false) [(c 4 x6), (n y19 0)] fun x22 =>
             .l (.scmp .eql) [x22, (c 2 x0)] fun x23 =>
             .ite x23 (
              .l (.arith .add .i64) [(n y19 0), (i 1)] fun x24 =>
              .cont 0 [x24, (n y19 0)]) (
              .l (.arith .add .i64) [(n y19 0), (i 1)] fun x24 =>
              .cont 0 [x24, (n y19 1)])) (
             .l (.cmp .lss .i64) [(n y19 1), (i 0)] fun x22 =>
             .ite x22 (
              .ret (.tup [(n xs 0), (i 9)])) (
              .l (.lst 6 true) [] fun x23 =>
              .l (.app 6 true 88) [x23, (n xs 0)] fun x24 =>
              .l (.idx 6 true) [(c 5 x6), (n y19 1)] fun x25 =>
              .l (.idx 6 true) [x24, (c 0 x0)] fun x26 =>
              .l (.upd 6 true) [x24, (c 0 x0), x25] fun x27 =>
              .ret (.tup [x27, (i 0)]))))) (
           .loop [(i 0), (i 1)] fun y18 =>
           .l .len [(c 4 x6)] fun x19 =>
           .l (.cmp .lss .i64) [(n y18 0), x19] fun x20 =>
           .ite x20 (
            .l (.idx 1 false) [(c 4 x6), (n y18 0)] fun x21 =>
            .l (.scmp .eql) [x21, (c 2 x0)] fun x22 =>
            .ite x22 (
             .l (.arith .add .i64) [(n y18 0), (i 1)] fun x23 =>
             .cont 0 [x23, (n y18 0)]) (
             .l (.arith .add .i64) [(n y18 0), (i 1)] fun x23 =>
             .cont 0 [x23, (n y18 1)])) (
            .l (.cmp .lss .i64) [(n y18 1), (i 0)] fun x21 =>
            .ite x21 (
             .ret (.tup [(n xs 0), (i 9)])) (
             .l (.lst 6 true) [] fun x22 =>
             .l (.app 6 true 88) [x22, (n xs 0)] fun x23 =>
             .l (.idx 6 true) [(c 5 x6), (n y18 1)] fun x24 =>
             .l (.idx 6 true) [x23, (c 0 x0)] fun x25 =>
             .l (.upd 6 true) [x23, (c 0 x0), x24] fun x26 =>
             .ret (.tup [x26, (i 0)])))))) (
         .l (.cmp .gtr .i64) [(c 0 x12), (i 2)] fun x16 =>
         .ite x16 (
          .l (.cmp .neq .i64) [(c 3 x0), (i 1)] fun x17 =>
          .ite x17 (
           .ret (.tup [(n xs 0), (i 8)])) (
           .loop [(i 0), (i 1)] fun y18 =>
           .l .len [(c 4 x6)] fun x19 =>
           .l (.cmp .lss .i64) [(n y18 0), x19] fun x20 =>
           .ite x20 (
            .l (.idx 1 false) [(c 4 x6), (n y18 0)] fun x21 =>
            .l (.scmp .eql) [x21, (c 2 x0)] fun x22 =>
            .ite x22 (
             .l (.arith .add .i64) [(n y18 0), (i 1)] fun x23 =>
             .cont 0 [x23, (n y18 0)]) (
             .l (.arith .add .i64) [(n y18 0), (i 1)] fun x23 =>
             .cont 0 [x23, (n y18 1)])) (
            .l (.cmp .lss .i64) [(n y18 1), (i 0)] fun x21 =>
            .ite x21 (
             .ret (.tup [(n xs 0), (i 9)])) (
             .l (.lst 6 true) [] fun x22 =>
             .l (.app 6 true 88) [x22, (n xs 0)] fun x23 =>
             .l (.idx 6 true) [(c 5 x6), (n y18 1)] fun x24 =>
             .l (.idx 6 true) [x23, (c 0 x0)] fun x25 =>
             .l (.upd 6 true) [x23, (c 0 x0), x24] fun x26 =>
             .ret (.tup [x26, (i 0)]))))) (
          .loop [(i 0), (i 1)] fun y17 =>
          .l .len [(c 4 x6)] fun x18 =>
          .l (.cmp .lss .i64) [(n y17 0), x18] fun x19 =>
          .ite x19 (
           .l (.idx 1 false) [(c 4 x6), (n y17 0)] fun x20 =>
           .l (.scmp .eql) [x20, (c 2 x0)] fun x21 =>
           .ite x21 (
            .l (.arith .add .i64) [(n y17 0), (i 1)] fun x22 =>
            .cont 0 [x22, (n y17 0)]) (
            .l (.arith .add .i64) [(n y17 0), (i 1)] fun x22 =>
            .cont 0 [x22, (n y17 1)])) (
           .l (.cmp .lss .i64) [(n y17 1), (i 0)] fun x20 =>
           .ite x20 (
            .ret (.tup [(n xs 0), (i 9)])) (
            .l (.lst 6 true) [] fun x21 =>
            .l (.app 6 true 88) [x21, (n xs 0)] fun x22 =>
            .l (.idx 6 true) [(c 5 x6), (n y17 1)] fun x23 =>
            .l (.idx 6 true) [x22, (c 0 x0)] fun x24 =>
            .l (.upd 6 true) [x22, (c 0 x0), x23] fun x25 =>
            .ret (.tup [x25, (i 0)]))))))) (
       .l (.cmp .eql .i64) [(c 0 x12), (i 2)] fun x14 =>
       .ite x14 (
        .l (.cmp .neq .i64) [(c 3 x0), (i 3)] fun x15 =>
        .ite x15 (
         .ret (.tup [(n xs 0), (i 8)])) (
         .l (.cmp .gtr .i64) [(c 0 x12), (i 2)] fun x16 =>
         .ite x16 (
          .l (.cmp .neq .i64) [(c 3 x0), (i 1)] fun x17 =>
          .ite x17 (
           .ret (.tup [(n xs 0), (i 8)])) (
           .loop [(i 0), (i 1)] fun y18 =>
           .l .len [(c 4 x6)] fun x19 =>
           .l (.cmp .lss .i64) [(n y18 0), x19] fun x20 =>
           .ite x20 (
            .l (.idx 1 false) [(c 4 x6), (n y18 0)] fun x21 =>
            .l (.scmp .eql) [x21, (c 2 x0)] fun x22 =>
            .ite x22 (
             .l (.arith .add .i64) [(n y18 0), (i 1)] fun x23 =>
             .cont 0 [x23, (n y18 0)]) (
             .l (.arith .add .i64) [(n y18 0), (i 1)] fun x23 =>
             .cont 0 [x23, (n y18 1)])) (
            .l (.cmp .lss .i64) [(n y18 1), (i 0)] fun x21 =>
            .ite x21 (
             .ret (.tup [(n xs 0), (i 9)])) (
             .l (.lst 6 true) [] fun x22 =>
             .l (.app 6 true 88) [x22, (n xs 0)] fun x23 =>
             .l (.idx 6 true) [(c 5 x6), (n y18 1)] fun x24 =>
             .l (.idx 6 true) [x23, (c 0 x0)] fun x25 =>
             .l (.upd 6 true) [x23, (c 0 x0), x24] fun x26 =>
             .ret (.tup [x26, (i 0)]))))) (
          .loop [(i 0), (i 1)] fun y17 =>
          .l .len [(c 4 x6)] fun x18 =>
          .l (.cmp .lss .i64) [(n y17 0), x18] fun x19 =>
          .ite x19 (
           .l (.idx 1 false) [(c 4 x6), (n y17 0)] fun x20 =>
           .l (.scmp .eql) [x20, (c 2 x0)] fun x21 =>
           .ite x21 (
            .l (.arith .add .i64) [(n y17 0), (i 1)] fun x22 =>
            .cont 0 [x22, (n y17 0)]) (
            .l (.arith .add .i64) [(n y17 0), (i 1)] fun x22 =>
            .cont 0 [x22, (n y17 1)])) (
           .l (.cmp .lss .i64) [(n y17 1), (i 0)] fun x20 =>
           .ite x20 (
            .ret (.tup [(n xs 0), (i 9)])) (
            .l (.lst 6 true) [] fun x21 =>
            .l (.app 6 true 88) [x21, (n xs 0)] fun x22 =>
            .l (.idx 6 true) [(c 5 x6), (n y17 1)] fun x23 =>
            .l (.idx 6 true) [x22, (c 0 x0)] fun x24 =>
            .l (.upd 6 true) [x22, (c 0 x0), x23] fun x25 =>
            .ret (.tup [x25, (i 0)])))))) (
        .l (.cmp .gtr .i64) [(c 0 x12), (i 2)] fun x15 =>
        .ite x15 (
         .l (.cmp .neq .i64) [(c 3 x0), (i 1)] fun x16 =>
         .ite x16 (
          .ret (.tup [(n xs 0), (i 8)])) (
          .loop [(i 0), (i 1)] fun y17 =>
          .l .len [(c 4 x6)] fun x18 =>
          .l (.cmp .lss .i64) [(n y17 0), x18] fun x19 =>
          .ite x19 (
           .l (.idx 1 false) [(c 4 x6), (n y17 0)] fun x20 =>
           .l (.scmp .eql) [x20, (c 2 x0)] fun x21 =>
           .ite x21 (
            .l (.arith .add .i64) [(n y17 0), (i 1)] fun x22 =>
            .cont 0 [x22, (n y17 0)]) (
            .l (.arith .add .i64) [(n y17 0), (i 1)] fun x22 =>
            .cont 0 [x22, (n y17 1)])) (
           .l (.cmp .lss .i64) [(n y17 1), (i 0)] fun x20 =>
           .ite x20 (
            .ret (.tup [(n xs 0), (i 9)])) (
            .l (.lst 6 true) [] fun x21 =>
            .l (.app 6 true 88) [x21, (n xs 0)] fun x22 =>
            .l (.idx 6 true) [(c 5 x6), (n y17 1)] fun x23 =>
            .l (.idx 6 true) [x22, (c 0 x0)] fun x24 =>
            .l (.upd 6 true) [x22, (c 0 x0), x23] fun x25 =>
            .ret (.tup [x25, (i 0)]))))) (
         .loop [(i 0), (i 1)] fun y16 =>
         .l .len [(c 4 x6)] fun x17 =>
         .l (.cmp .lss .i64) [(n y16 0), x17] fun x18 =>
         .ite x18 (
          .l (.idx 1 false) [(c 4 x6), (n y16 0)] fun x19 =>
          .l (.scmp .eql) [x19, (c 2 x0)] fun x20 =>
          .ite x20 (
           .l (.arith .add .i64) [(n y16 0), (i 1)] fun x21 =>
           .cont 0 [x21, (n y16 0)]) (
           .l (.arith .add .i64) [(n y16 0), (i 1)] fun x21 =>
           .cont 0 [x21, (n y16 1)])) (
          .l (.cmp .lss .i64) [(n y16 1), (i 0)] fun x19 =>
          .ite x19 (
           .ret (.tup [(n xs 0), (i 9)])) (
           .l (.lst 6 true) [] fun x20 =>
           .l (.app 6 true 88) [x20, (n xs 0)] fun x21 =>
           .l (.idx 6 true) [(c 5 x6), (n y16 1)] fun x22 =>
           .l (.idx 6 true) [x21, (c 0 x0)] fun x23 =>
           .l (.upd 6 true) [x21, (c 0 x0), x22] fun x24 =>
           .ret (.tup [x24, (i 0)]))))))) (
      .loop [(i 0), (i (-1))] fun y12 =>
      .l .len [(c 4 x6)] fun x13 =>
      .l (.cmp .lss .i64) [(n y12 0), x13] fun x14 =>
      .ite x14 (
       .l (.idx 1 false) [(c 4 x6), (n y12 0)] fun x15 =>
       .l (.scmp .eql) [x15, (c 2 x0)] fun x16 =>
       .ite x16 (
        .l (.arith .add .i64) [(n y12 0), (i 1)] fun x17 =>
        .cont 0 [x17, (n y12 0)]) (
        .l (.arith .add .i64) [(n y12 0), (i 1)] fun x17 =>
        .cont 0 [x17, (n y12 1)])) (
       .l (.cmp .lss .i64) [(n y12 1), (i 0)] fun x15 =>
       .ite x15 (
        .ret (.tup [(n xs 0), (i 9)])) (
        .l (.lst 6 true) [] fun x16 =>
        .l (.app 6 true 88) [x16, (n xs 0)] fun x17 =>
        .l (.idx 6 true) [(c 5 x6), (n y12 1)] fun x18 =>
        .l (.idx 6 true) [x17, (c 0 x0)] fun x19 =>
        .l (.upd 6 true) [x17, (c 0 x0), x18] fun x20 =>
        .ret (.tup [x20, (i 0)])))))) (
    .l (.cmp .neq .i64) [(c 0 x6), (i 4)] fun x9 =>
    .ite x9 (
     .ret (.tup [(n xs 0), (i 8)])) (
     .l (.scmp .eql) [(c 2 x0), (.str ⟨#[]⟩)] fun x10 =>
     .ite x10 (
      .l (.idx 6 true) [(c 5 x6), (i 0)] fun x11 =>
      .l (.cmp .eql .i64) [(c 0 x11), (i 1)] fun x12 =>
      .ite x12 (
       .l (.cmp .neq .i64) [(c 3 x0), (i 2)] fun x13 =>
       .ite x13 (
        .ret (.tup [(n xs 0), (i 8)])) (
        .l (.cmp .eql .i64) [(c 0 x11), (i 2)] fun x14 =>
        .ite x14 (
         .l (.cmp .neq .i64) [(c 3 x0), (i 3)] fun x15 =>
         .ite x15 (
          .ret (.tup [(n xs 0), (i 8)])) (
          .l (.cmp .gtr .i64) [(c 0 x11), (i 2)] fun x16 =>
          .ite x16 (
           .l (.cmp .neq .i64) [(c 3 x0), (i 1)] fun x17 =>
           .ite x17 (
            .ret (.tup [(n xs 0), (i 8)])) (
            .loop [(i 0), (i 1)] fun y18 =>
            .l .len [(c 4 x6)] fun x19 =>
            .l (.cmp .lss .i64) [(n y18 0), x19] fun x20 =>
            .ite x20 (
             .l (.idx 1 false) [(c 4 x6), (n y18 0)] fun x21 =>
             .l (.scmp .eql) [x21, (c 2 x0)] fun x22 =>
             .ite x22 (
              .l (.arith .add .i64) [(n y18 0), (i 1)] fun x23 =>
              .cont 0 [x23, (n y18 0)]) (
              .l (.arith .add .i64) [(n y18 0), (i 1)] fun x23 =>
              .cont 0 [x23, (n y18 1)])) (
             .l (.cmp .lss .i64) [(n y18 1), (i 0)] fun x21 =>
             .ite x21 (
              .ret (.tup [(n xs 0), (i 9)])) (
              .l (.lst 6 true) [] fun x22 =>
              .l (.app 6 true 88) [x22, (n xs 0)] fun x23 =>
              .l (.idx 6 true) [(c 5 x6), (n y18 1)] fun x24 =>
              .l (.idx 6 true) [x23, (c 0 x0)] fun x25 =>
              .l (.upd 6 true) [x23, (c 0 x0), x24] fun x26 =>
              .ret (.tup [x26, (i 0)]))))) (
           .loop [(i 0), (i 1)] fun y17 =>
           .l .len [(c 4 x6)] fun x18 =>
           .l (.cmp .lss .i64) [(n y17 0), x18] fun x19 =>
           .ite x19 (
            .l (.idx 1 false) [(c 4 x6), (n y17 0)] fun x20 =>
            .l (.scmp .eql) [x20, (c 2 x0)] fun x21 =>
            .ite x21 (
             .l (.arith .add .i64) [(n y17 0), (i 1)] fun x22 =>
             .cont 0 [x22, (n y17 0)]) (
             .l (.arith .add .i64) [(n y17 0), (i 1)] fun x22 =>
             .cont 0 [x22, (n y17 1)])) (
            .l (.cmp .lss .i64) [(n y17 1), (i 0)] fun x20 =>
            .ite x20 (
             .ret (.tup [(n xs 0), (i 9)])) (
             .l (.lst 6 true) [] fun x21 =>
             .l (.app 6 true 88) [x21, (n xs 0)] fun x22 =>
             .l (.idx 6 true) [(c 5 x6), (n y17 1)] fun x23 =>
             .l (.idx 6 true) [x22, (c 0 x0)] fun x24 =>
             .l (.upd 6 true) [x22, (c 0 x0), x23] fun x25 =>
             .ret (.tup [x25, (i 0)])))))) (
         .l (.cmp .gtr .i64) [(c 0 x11), (i 2)] fun x15 =>
         .ite x15 (
          .l (.cmp .neq .i64) [(c 3 x0), (i 1)] fun x16 =>
          .ite x16 (
           .ret (.tup [(n xs 0), (i 8)])) (
           .loop [(i 0), (i 1)] fun y17 =>
           .l .len [(c 4 x6)] fun x18 =>
           .l (.cmp .lss .i64) [(n y17 0), x18] fun x19 =>
           .ite x19 (
            .l (.idx 1 false) [(c 4 x6), (n y17 0)] fun x20 =>
            .l (.scmp .eql) [x20, (c 2 x0)] fun x21 =>
            .ite x21 (
             .l (.arith .add .i64) [(n y17 0), (i 1)] fun x22 =>
             .cont 0 [x22, (n y17 0)]) (
             .l (.arith .add .i64) [(n y17 0), (i 1)] fun x22 =>
             .cont 0 [x22, (n y17 1)])) (
            .l (.cmp .lss .i64) [(n y17 1), (i 0)] fun x20 =>
            .ite x20 (
             .ret (.tup [(n xs 0), (i 9)])) (
             .l (.lst 6 true) [] fun x21 =>
             .l (.app 6 true 88) [x21, (n xs 0)] fun x22 =>
             .l (.idx 6 true) [(c 5 x6), (n y17 1)] fun x23 =>
             .l (.idx 6 true) [x22, (c 0 x0)] fun x24 =>
             .l (.upd 6 true) [x22, (c 0 x0), x23] fun x25 =>
             .ret (.tup [x25, (i 0)]))))) (
          .loop [(i 0), (i 1)] fun y16 =>
          .l .len [(c 4 x6)] fun x17 =>
          .l (.cmp .lss .i64) [(n y16 0), x17] fun x18 =>
          .ite x18 (
           .l (.idx 1 false) [(c 4 x6), (n y16 0)] fun x19 =>
           .l (.scmp .eql) [x19, (c 2 x0)] fun x20 =>
           .ite x20 (
            .l (.arith .add .i64) [(n y16 0), (i 1)] fun x21 =>
            .cont 0 [x21, (n y16 0)]) (
            .l (.arith .add .i64) [(n y16 0), (i 1)] fun x21 =>
            .cont 0 [x21, (n y16 1)])) (
           .l (.cmp .lss .i64) [(n y16 1), (i 0)] fun x19 =>
           .ite x19 (
            .ret (.tup [(n xs 0), (i 9)])) (
            .l (.lst 6 true) [] fun x20 =>
            .l (.app 6 true 88) [x20, (n xs 0)] fun x21 =>
            .l (.idx 6 true) [(c 5 x6), (n y16 1)] fun x22 =>
            .l (.idx 6 true) [x21, (c 0 x0)] fun x23 =>
            .l (.upd 6 true) [x21, (c 0 x0), x22] fun x24 =>
            .ret (.tup [x24, (i 0)]))))))) (
       .l (.cmp .eql .i64) [(c 0 x11), (i 2)] fun x13 =>
       .ite x13 (
        .l (.cmp .neq .i64) [(c 3 x0), (i 3)] fun x14 =>
        .ite x14 (
         .ret (.tup [(n xs 0), (i 8)])) (
         .l (.cmp .gtr .i64) [(c 0 x11), (i 2)] fun x15 =>
         .ite x15 (
          .l (.cmp .neq .i64) [(c 3 x0), (i 1)] fun x16 =>
          .ite x16 (
           .ret (.tup [(n xs 0), (i 8)])) (
           .loop [(i 0), (i 1)] fun y17 =>
           .l .len [(c 4 x6)] fun x18 =>
           .l (.cmp .lss .i64) [(n y17 0), x18] fun x19 =>
           .ite x19 (
            .l (.idx 1 false) [(c 4 x6), (n y17 0)] fun x20 =>
            .l (.scmp .eql) [x20, (c 2 x0)] fun x21 =>
            .ite x21 (
             .l (.arith .add .i64) [(n y17 0), (i 1)] fun x22 =>
             .cont 0 [x22, (n y17 0)]) (
             .l (.arith .add .i64) [(n y17 0), (i 1)] fun x22 =>
             .cont 0 [x22, (n y17 1)])) (
            .l (.cmp .lss .i64) [(n y17 1), (i 0)] fun x20 =>
            .ite x20 (
             .ret (.tup [(n xs 0), (i 9)])) (
             .l (.lst 6 true) [] fun x21 =>
             .l (.app 6 true 88) [x21, (n xs 0)] fun x22 =>
             .l (.idx 6 true) [(c 5 x6), (n y17 1)] fun x23 =>
             .l (.idx 6 true) [x22, (c 0 x0)] fun x24 =>
             .l (.upd 6 true) [x22, (c 0 x0), x23] fun x25 =>
             .ret (.tup [x25, (i 0)]))))) (
          .loop [(i 0), (i 1)] fun y16 =>
          .l .len [(c 4 x6)] fun x17 =>
          .l (.cmp .lss .i64) [(n y16 0), x17] fun x18 =>
          .ite x18 (
           .l (.idx 1 false) [(c 4 x6), (n y16 0)] fun x19 =>
           .l (.scmp .eql) [x19, (c 2 x0)] fun x20 =>
           .ite x20 (
            .l (.arith .add .i64) [(n y16 0), (i 1)] fun x21 =>
            .cont 0 [x21, (n y16 0)]) (
            .l (.arith .add .i64) [(n y16 0), (i 1)] fun x21 =>
            .cont 0 [x21, (n y16 1)])) (
           .l (.cmp .lss .i64) [(n y16 1), (i 0)] fun x19 =>
           .ite x19 (
            .ret (.tup [(n xs 0), (i 9)])) (
            .l (.lst 6 true) [] fun x20 =>
            .l (.app 6 true 88) [x20, (n xs 0)] fun x21 =>
            .l (.idx 6 true) [(c 5 x6), (n y16 1)] fun x22 =>
            .l (.idx 6 true) [x21, (c 0 x0)] fun x23 =>
            .l (.upd 6 true) [x21, (c 0 x0), x22] fun x24 =>
            .ret (.tup [x24, (i 0)])))))) (
        .l (.cmp .gtr .i64) [(c 0 x11), (i 2)] fun x14 =>
        .ite x14 (
         .l (.cmp .neq .i64) [(c 3 x0), (i 1)] fun x15 =>
         .ite x15 (
          .ret (.tup [(n xs 0), (i 8)])) (
          .loop [(i 0), (i 1)] fun y16 =>
          .l .len [(c 4 x6)] fun x17 =>
          .l (.cmp .lss .i64) [(n y16 0), x17] fun x18 =>
          .ite x18 (
           .l (.idx 1 false) [(c 4 x6), (n y16 0)] fun x19 =>
           .l (.scmp .eql) [x19, (c 2 x0)] fun x20 =>
           .ite x20 (
            .l (.arith .add .i64) [(n y16 0), (i 1)] fun x21 =>
            .cont 0 [x21, (n y16 0)]) (
            .l (.arith .add .i64) [(n y16 0), (i 1)] fun x21 =>
            .cont 0 [x21, (n y16 1)])) (
           .l (.cmp .lss .i64) [(n y16 1), (i 0)] fun x19 =>
           .ite x19 (
            .ret (.tup [(n xs 0), (i 9)])) (
            .l (.lst 6 true) [] fun x20 =>
            .l (.app 6 true 88) [x20, (n xs 0)] fun x21 =>
            .l (.idx 6 true) [(c 5 x6), (n y16 1)] fun x22 =>
            .l (.idx 6 true) [x21, (c 0 x0)] fun x23 =>
            .l (.upd 6 true) [x21, (c 0 x0), x22] fun x24 =>
            .ret (.tup [x24, (i 0)]))))) (
         .loop [(i 0), (i 1)] fun y15 =>
         .l .len [(c 4 x6)] fun x16 =>
         .l (.cmp .lss .i64) [(n y15 0), x16] fun x17 =>
         .ite x17 (
          .l (.idx 1 false) [(c 4 x6), (n y15 0)] fun x18 =>
          .l (.scmp .eql) [x18, (c 2 x0)] fun x19 =>
          .ite x19 (
           .l (.arith .add .i64) [(n y15 0), (i 1)] fun x20 =>
           .cont 0 [x20, (n y15 0)]) (
           .l (.arith .add .i64) [(n y15 0), (i 1)] fun x20 =>
           .cont 0 [x20, (n y15 1)])) (
          .l (.cmp .lss .i64) [(n y15 1), (i 0)] fun x18 =>
          .ite x18 (
           .ret (.tup [(n xs 0), (i 9)])) (
           .l (.lst 6 true) [] fun x19 =>
           .l (.app 6 true 88) [x19, (n xs 0)] fun x20 =>
           .l (.idx 6 true) [(c 5 x6), (n y15 1)] fun x21 =>
           .l (.idx 6 true) [x20, (c 0 x0)] fun x22 =>
           .l (.upd 6 true) [x20, (c 0 x0), x21] fun x23 =>
           .ret (.tup [x23, (i 0)]))))))) (
      .loop [(i 0), (i (-1))] fun y11 =>
      .l .len [(c 4 x6)] fun x12 =>
      .l (.cmp .lss .i64) [(n y11 0), x12] fun x13 =>
      .ite x13 (
       .l (.idx 1 false) [(c 4 x6), (n y11 0)] fun x14 =>
       .l (.scmp .eql) [x14, (c 2 x0)] fun x15 =>
       .ite x15 (
        .l (.arith .add .i64) [(n y11 0), (i 1)] fun x16 =>
        .cont 0 [x16, (n y11 0)]) (
        .l (.arith .add .i64) [(n y11 0), (i 1)] fun x16 =>
        .cont 0 [x16, (n y11 1)])) (
       .l (.cmp .lss .i64) [(n y11 1), (i 0)] fun x14 =>
       .ite x14 (
        .ret (.tup [(n xs 0), (i 9)])) (
        .l (.lst 6 true) [] fun x15 =>
        .l (.app 6 true 88) [x15, (n xs 0)] fun x16 =>
        .l (.idx 6 true) [(c 5 x6), (n y11 1)] fun x17 =>
        .l (.idx 6 true) [x16, (c 0 x0)] fun x18 =>
        .l (.upd 6 true) [x16, (c 0 x0), x17] fun x19 =>
        .ret (.tup [x19, (i 0)])))))))))
theorem k_ref21_Observe : TxOk P F.ref21_Observe 2 t_ref21_Observe := txOk_of (H := { wr := [0, 1, 2, 3, 4, 5, 6, 7, 8, 9, 10, 11, 12, 13, 14, 15, 16, 17, 18, 19, 20, 21, 22, 23, 24, 25, 26, 27, 28, 29, 30, 31, 32, 33, 34, 35, 36, 37, 38, 39, 40, 41, 42, 43, 44, 45, 46, 47, 48, 49, 50, 51, 52, 53, 54, 55, 56, 57, 58, 59, 60, 61, 62, 63, 64, 65, 66, 67, 68, 69, 70, 71, 72, 73, 74, 75, 76, 77, 78, 79, 80, 81, 82, 83, 84, 85, 86, 87, 88, 89, 90, 91, 92, 93, 94, 95, 96, 97, 98, 99, 100, 101, 102, 103, 104, 105, 106, 107, 108, 109, 110, 111, 112, 113, 114, 115, 116, 117, 118, 119, 120, 121, 122, 123, 124, 125, 126, 127, 128, 129, 130, 131, 132, 133, 134, 135, 136, 137, 138, 139, 140, 141, 142, 143, 144, 145, 146, 147, 148, 149, 150, 151, 152, 153, 154, 155, 156, 157, 158, 159, 160, 161, 162, 163, 164, 165, 166, 167, 168, 169, 170, 171, 172, 173, 174, 175, 176, 177, 178, 179, 180, 181, 182, 183, 184, 185, 186, 187, 188, 189, 190, 191, 192, 193, 194, 195, 196, 197, 198, 199, 200, 201, 202, 203, 204, 205, 206, 207, 208, 209, 210, 211, 212, 213, 214, 215, 216, 217, 218, 219, 220, 221, 222, 223, 224, 225, 226, 227, 228, 229, 230, 231, 232, 233, 234, 235, 236, 237, 238, 239, 240, 241, 242, 243, 244, 245, 246, 247, 248, 249, 250, 251, 252, 253, 254, 255, 256, 257, 258, 259, 260, 261, 262, 263, 264, 265, 266, 267, 268, 269, 270, 271, 272, 273, 274, 275, 276, 277, 278, 279, 280, 281, 282, 283, 284, 285, 286, 287, 288, 289, 290, 291, 292, 293, 294, 295, 296, 297, 298, 299], ro := [], nl := [], fz := [], da := [], sigs := [] }) (plans := []) hm Tryd.func10 rfl rfl fun xs => by kernel_rfl
-- NOT TOLD: 11 (*duologue/monitor.Monitor).Observe: 2
def u_monitor_Monitor_Observe (xs : List PV) : T PV :=
.l (.okc 6 true) [(n xs 0)] fun x0 =>
.call F.monitor_Monitor_has [(.box (.agg [(n xs 1)])), (c 0 x0)] fun x1 =>
.l .gnd [x1] fun x2 =>
.l .bnot [x2] fun x3 =>
.ite x3 (
 .ret (.tup [(i 12), (n xs 1)])) (
 .l (.idx 6 true) [(n xs 1), (c 0 x0)] fun x4 =>
 .l (.idx 6 true) [(n xs 1), (c 0 x0)] fun x5 =>
 .l (.okc 6 true) [x5] fun x6 =>
 .call F.monitor_want [x0] fun x7 =>
 .l (.cmp .neq .i64) [(c 0 x6), x7] fun x8 =>
 .ite x8 (
  .ret (.tup [(i 8), (n xs 1)])) (
  .l (.scmp .neq) [(c 2 x0), (.str ⟨#[]⟩)] fun x9 =>
  .ite x9 (
   .call F.slices_Index_string_string [(c 4 x6), (c 2 x0)] fun x10 =>
   .l (.cmp .lss .i64) [x10, (i 0)] fun x11 =>
   .ite x11 (
    .ret (.tup [(i 9), (n xs 1)])) (
    .l (.idx 6 true) [(c 5 x6), x10] fun x12 =>
    .call F.typetree_Unfold [x12] fun x13 =>
    .l (.idx 6 true) [(n xs 1), (c 0 x0)] fun x14 =>
    .l (.upd 6 true) [(n xs 1), (c 0 x0), x13] fun x15 =>
    .ret (.tup [(i 0), x15]))) (
   .l (.idx 6 true) [(c 5 x6), (i 0)] fun x10 =>
   .call F.monitor_fits [(sb 3 3 x0), x10] fun x11 =>
   .l .bnot [x11] fun x12 =>
   .ite x12 (
    .ret (.tup [(i 8), (n xs 1)])) (
    .l (.idx 6 true) [(c 5 x6), (i 1)] fun x13 =>
    .call F.typetree_Unfold [x13] fun x14 =>
    .l (.idx 6 true) [(n xs 1), (c 0 x0)] fun x15 =>
    .l (.upd 6 true) [(n xs 1), (c 0 x0), x14] fun x16 =>
    .ret (.tup [(i 0), x16])))))
theorem m_monitor_Monitor_Observe : TxOkS P F.monitor_Monitor_Observe sg_monitor_Monitor_Observe u_monitor_Monitor_Observe := txOkS_of (H := { wr := [], ro := [12, 16, 23, 29], nl := [], fz := [], da := [], sigs := [] }) (plans := []) hm Tryd.func11 rfl fun xs => by kernel_rfl
def u_monitor_Monitor_Observe_Nil (xs : List PV) : T PV :=
.l (.okc 6 true) [(n xs 1)] fun x0 =>
.call F.monitor_Monitor_has [(n xs 0), (c 0 x0)] fun x1 =>
.l .gnd [x1] fun x2 =>
.l .bnot [x2] fun x3 =>
.ite x3 (
 .ret (.tup [(i 12)])) (
 .l .notnil [(n xs 0)] fun x4 =>
 .l (.unbox 1 true) [x4] fun x5 =>
 .l (.idx 6 true) [(c 0 x5), (c 0 x0)] fun x6 =>
 .l (.okc 6 true) [x6] fun x7 =>
 .call F.monitor_want [x0] fun x8 =>
 .l (.cmp .neq .i64) [(c 0 x7), x8] fun x9 =>
 .ite x9 (
  .ret (.tup [(i 8)])) (
  .l (.scmp .neq) [(c 2 x0), (.str ⟨#[]⟩)] fun x10 =>
  .ite x10 (
   .call F.slices_Index_string_string [(c 4 x7), (c 2 x0)] fun x11 =>
   .l (.cmp .lss .i64) [x11, (i 0)] fun x12 =>
   .ite x12 (
    .ret (.tup [(i 9)])) (
    .l .notnil [(n xs 0)] fun x13 =>
    .l (.unbox 1 true) [x13] fun x14 =>
    .l (.idx 6 true) [(c 5 x7), x11] fun x15 =>
    .call F.typetree_Unfold [x15] fun x16 =>
    .l (.idx 6 true) [(c 0 x14), (c 0 x0)] fun x17 =>
    .fail)) (
   .l (.idx 6 true) [(c 5 x7), (i 0)] fun x11 =>
   .call F.monitor_fits [(sb 3 3 x0), x11] fun x12 =>
   .l .bnot [x12] fun x13 =>
   .ite x13 (
    .ret (.tup [(i 8)])) (
    .l .notnil [(n xs 0)] fun x14 =>
    .l (.unbox 1 true) [x14] fun x15 =>
    .l (.idx 6 true) [(c 5 x7), (i 1)] fun x16 =>
    .call F.typetree_Unfold [x16] fun x17 =>
    .l (.idx 6 true) [(c 0 x15), (c 0 x0)] fun x18 =>
    .fail))))
theorem m_monitor_Monitor_Observe_Nil : TxOkS P F.monitor_Monitor_Observe sg_monitor_Monitor_Observe_Nil u_monitor_Monitor_Observe_Nil := txOkS_of (H := { wr := [], ro := [12, 16, 23, 29], nl := [], fz := [], da := [], sigs := [] }) (plans := []) hm Tryd.func11 rfl fun xs => by kernel_rfl
def t_monitor_Monitor_Settled (xs : List PV) : T PV :=
.l (.pnil false) [(n xs 0)] fun x0 =>
.ite x0 (
 .l .notnil [(n xs 0)] fun x1 =>
 .l (.unbox 1 true) [x1] fun x2 =>
 .call F.slices_ContainsFunc_api_Type_api_Type [(c 0 x2), (.fn F.monitor_Monitor_Settled_1 [] [])] fun x3 =>
 .l .bnot [x3] fun x4 =>
 .ret x4) (
 .ret (.bool false))
theorem k_monitor_Monitor_Settled : TxOk P F.monitor_Monitor_Settled 1 t_monitor_Monitor_Settled := txOk_of (H := {}) (plans := []) hm Tryd.func12 rfl rfl fun xs => by kernel_rfl
def t_law21_states (xs : List PV) : T PV :=
.loop [(i 0), (.sl [])] fun y0 =>
.call F.monitor_Monitor_Len [(n xs 0)] fun x1 =>
.l .gnd [x1] fun x2 =>
.l (.cmp .lss .i64) [(n y0 0), x2] fun x3 =>
.ite x3 (
 .l (.cmp .lss .i64) [(n y0 0), (i 100)] fun x4 =>
 .ite x4 (
  .call F.monitor_Monitor_State [(n xs 0), (n y0 0)] fun x5 =>
  .l (.tc 0) [x5] fun x6 =>
  .l (.tc 1) [x5] fun x7 =>
  .l (.okc 6 true) [x6] fun x8 =>
  .l (.lst 6 true) [x8] fun x9 =>
  .l (.app 6 true 88) [(n y0 1), x9] fun x10 =>
  .l (.arith .add .i64) [(n y0 0), (i 1)] fun x11 =>
  .cont 0 [x11, x10]) (
  .ret (n y0 1))) (
 .ret (n y0 1))
theorem k_law21_states : TxOk P F.law21_states 1 t_law21_states := txOk_of (H := { wr := [], ro := [12, 16, 23, 29], nl := [], fz := [], da := [], sigs := [] }) (plans := []) hm Tryd.func13 rfl rfl fun xs => by kernel_rfl
def u_law21_states (xs : List PV) : T PV :=
.loop [(i 0), (.sl []), (n xs 0)] fun y0 =>
.call F.monitor_Monitor_Len [(.box (.agg [(n y0 2)]))] fun x1 =>
.l .gnd [x1] fun x2 =>
.l (.cmp .lss .i64) [(n y0 0), x2] fun x3 =>
.ite x3 (
 .l (.cmp .lss .i64) [(n y0 0), (i 100)] fun x4 =>
 .ite x4 (
  .calls F.monitor_Monitor_State sg_monitor_Monitor_State [(n y0 0), (n y0 2)] fun z5 =>
  .l (.tc 0) [(n z5 0)] fun x6 =>
  .l (.tc 1) [(n z5 0)] fun x7 =>
  .l (.okc 6 true) [x6] fun x8 =>
  .l (.lst 6 true) [x8] fun x9 =>
  .l (.app 6 true 88) [(n y0 1), x9] fun x10 =>
  .l (.arith .add .i64) [(n y0 0), (i 1)] fun x11 =>
  .cont 0 [x11, x10, (n z5 1)]) (
  .ret (.tup [(n y0 1), (n y0 2)]))) (
 .ret (.tup [(n y0 1), (n y0 2)]))
theorem m_law21_states : TxOkS P F.law21_states sg_law21_states u_law21_states := txOkS_of (H := { wr := [], ro := [12, 16, 23, 29], nl := [], fz := [], da := [], sigs := [(8, sg_monitor_New), (20, sg_monitor_Monitor_Add), (11, sg_monitor_Monitor_Observe), (15, sg_monitor_Monitor_State), (13, sg_law21_states)] }) (plans := []) hm Tryd.func13 rfl fun xs => by kernel_rfl
def t_ref02_Same (xs : List PV) : T PV :=
.l (.okc 6 true) [(n xs 0)] fun x0 =>
.l (.okc 6 true) [(n xs 1)] fun x1 =>
.l (.cmp .neq .i64) [(c 0 x0), (c 0 x1)] fun x2 =>
.ite x2 (
 .ret (.bool false)) (
 .l (.cmp .neq .i64) [(c 1 x0), (c 1 x1)] fun x3 =>
 .ite x3 (
  .ret (.bool false)) (
  .l (.scmp .neq) [(c 2 x0), (c 2 x1)] fun x4 =>
  .ite x4 (
   .ret (.bool false)) (
   .l (.cmp .neq .i64) [(c 3 x0), (c 3 x1)] fun x5 =>
   .ite x5 (
    .ret (.bool false)) (
    .call F.ref02_texts [(c 4 x0), (c 4 x1)] fun x6 =>
    .l .bnot [x6] fun x7 =>
    .ite x7 (
     .ret (.bool false)) (
     .l .len [(c 5 x0)] fun x8 =>
     .l .len [(c 5 x1)] fun x9 =>
     .l (.cmp .neq .i64) [x8, x9] fun x10 =>
     .ite x10 (
      .ret (.bool false)) (
      .loop [(i 0)] fun y11 =>
      .l .len [(c 5 x0)] fun x12 =>
      .l (.cmp .lss .i64) [(n y11 0), x12] fun x13 =>
      .ite x13 (
       .l (.idx 6 true) [(c 5 x0), (n y11 0)] fun x14 =>
       .l (.idx 6 true) [(c 5 x1), (n y11 0)] fun x15 =>
       .call F.ref02_Same [x14, x15] fun x16 =>
       .l .bnot [x16] fun x17 =>
       .ite x17 (
        .ret (.bool false)) (
        .l (.arith .add .i64) [(n y11 0), (i 1)] fun x18 =>
        .cont 0 [x18])) (
       .ret (.bool true))))))))
theorem k_ref02_Same : TxOk P F.ref02_Same 2 t_ref02_Same := txOk_of (H := {}) (plans := []) hm Tryd.func14 rfl rfl fun xs => by kernel_rfl
def t_monitor_Monitor_State (xs : List PV) : T PV :=
.call F.monitor_Monitor_has [(n xs 0), (n xs 1)] fun x0 =>
.l .gnd [x0] fun x1 =>
.l .bnot [x1] fun x2 =>
.ite x2 (
 .ret (.tup [(.agg [(i 0), (i 0), (.str ⟨#[]⟩), (i 0), (.sl []), (.sl [])]), (.bool false)])) (
 .l .notnil [(n xs 0)] fun x3 =>
 .l (.unbox 1 true) [x3] fun x4 =>
 .l (.idx 6 true) [(c 0 x4), (n xs 1)] fun x5 =>
 .call F.typetree_Copy [x5] fun x6 =>
 .l (.okc 6 true) [x6] fun x7 =>
 .ret (.tup [x7, (.bool true)]))
theorem k_monitor_Monitor_State : TxOk P F.monitor_Monitor_State 2 t_monitor_Monitor_State := txOk_of (H := { wr := [], ro := [12, 16, 23, 29], nl := [], fz := [], da := [], sigs := [] }) (plans := []) hm Tryd.func15 rfl rfl fun xs => by kernel_rfl
def u_monitor_Monitor_State (xs : List PV) : T PV :=
.call F.monitor_Monitor_has [(.box (.agg [(n xs 1)])), (n xs 0)] fun x0 =>
.l .gnd [x0] fun x1 =>
.l .bnot [x1] fun x2 =>
.ite x2 (
 .ret (.tup [(.tup [(.agg [(i 0), (i 0), (.str ⟨#[]⟩), (i 0), (.sl []), (.sl [])]), (.bool false)]), (n xs 1)])) (
 .l (.idx 6 true) [(n xs 1), (n xs 0)] fun x3 =>
 .l (.idx 6 true) [(n xs 1), (n xs 0)] fun x4 =>
 .call F.typetree_Copy [x4] fun x5 =>
 .l (.okc 6 true) [x5] fun x6 =>
 .ret (.tup [(.tup [x6, (.bool true)]), (n xs 1)]))
theorem m_monitor_Monitor_State : TxOkS P F.monitor_Monitor_State sg_monitor_Monitor_State u_monitor_Monitor_State := txOkS_of (H := { wr := [], ro := [12, 16, 23, 29], nl := [], fz := [], da := [], sigs := [] }) (plans := []) hm Tryd.func15 rfl fun xs => by kernel_rfl
def t_monitor_Monitor_Len (xs : List PV) : T PV :=
.l (.pnil true) [(n xs 0)] fun x0 =>
.ite x0 (
 .ret (i 0)) (
 .l .notnil [(n xs 0)] fun x1 =>
 .l (.unbox 1 true) [x1] fun x2 =>
 .l .len [(c 0 x2)] fun x3 =>
 .ret x3)
theorem k_monitor_Monitor_Len : TxOk P F.monitor_Monitor_Len 1 t_monitor_Monitor_Len := txOk_of (H := {}) (plans := []) hm Tryd.func16 rfl rfl fun xs => by kernel_rfl
def t_ref02_Small (xs : List PV) : T PV :=
.l (.okc 6 true) [(n xs 0)] fun x0 =>
.call F.ref02_Few [x0, (n xs 1)] fun x1 =>
.ite x1 (
 .call F.ref02_Right [x0] fun x2 =>
 .l (.cmp .eql .i64) [x2, (i 0)] fun x3 =>
 .ret x3) (
 .ret (.bool false))
theorem k_ref02_Small : TxOk P F.ref02_Small 2 t_ref02_Small := txOk_of (H := {}) (plans := []) hm Tryd.func17 rfl rfl fun xs => by kernel_rfl
def t_ref02_Session (xs : List PV) : T PV :=
.l (.okc 6 true) [(n xs 0)] fun x0 =>
.l (.cmp .neq .i64) [(c 0 x0), (i 1)] fun x1 =>
.ite x1 (
 .l (.cmp .neq .i64) [(c 0 x0), (i 2)] fun x2 =>
 .ret x2) (
 .ret (.bool false))
theorem k_ref02_Session : TxOk P F.ref02_Session 1 t_ref02_Session := txOk_of (H := {}) (plans := []) hm Tryd.func18 rfl rfl fun xs => by kernel_rfl
def t_ref14_dual (xs : List PV) : T PV :=
.l (.okc 6 true) [(n xs 0)] fun x0 =>
.calls F.ref02_Raise sg_ref02_Raise [x0, (i 0)] fun z1 =>
.l (.cmp .geq .i64) [(c 0 x0), (i 4)] fun x2 =>
.ite x2 (
 .l (.cmp .leq .i64) [(c 0 x0), (i 7)] fun x3 =>
 .ite x3 (
  .l (.lst 1 false) [(i 5), (i 4), (i 7), (i 6)] fun x4 =>
  .l (.arith .sub .i64) [(c 0 x0), (i 4)] fun x5 =>
  .l (.idx 1 false) [x4, x5] fun x6 =>
  .l (.okc 1 false) [x6] fun x7 =>
  .l (.cmp .eql .i64) [(c 0 x0), (i 8)] fun x8 =>
  .ite x8 (
   .l (.lst 7 true) [] fun x9 =>
   .l (.app 7 true 104) [x9, (n xs 1)] fun x10 =>
   .call F.ref14_closed [x0, (n xs 1)] fun x11 =>
   .l (.okcs [(1, false), (6, true)]) [(c 2 x0), x11] fun x12 =>
   .l (.lst 7 true) [(.agg [(c 2 x0), (c 0 x11), (c 1 x11), (c 2 x11), (c 3 x11), (c 4 x11), (c 5 x11)])] fun x13 =>
   .l (.app 7 true 104) [x10, x13] fun x14 =>
   .loop [(i 0), (n z1 5)] fun y15 =>
   .l .len [(c 5 x0)] fun x16 =>
   .l (.cmp .lss .i64) [(n y15 0), x16] fun x17 =>
   .ite x17 (
    .l (.cmp .eql .i64) [(n y15 0), (i 0)] fun x18 =>
    .ite x18 (
     .l (.cmp .eql .i64) [(c 0 x0), (i 4)] fun x19 =>
     .ite x19 (
      .l (.idx 6 true) [(c 5 x0), (i 0)] fun x20 =>
      .call F.ref14_closed [x20, x14] fun x21 =>
      .l (.idx 6 true) [(n y15 1), (i 0)] fun x22 =>
      .l (.upd 6 true) [(n y15 1), (i 0), x21] fun x23 =>
      .l (.arith .add .i64) [(n y15 0), (i 1)] fun x24 =>
      .cont 0 [x24, x23]) (
      .l (.cmp .eql .i64) [(c 0 x0), (i 5)] fun x20 =>
      .ite x20 (
       .l (.idx 6 true) [(c 5 x0), (i 0)] fun x21 =>
       .call F.ref14_closed [x21, x14] fun x22 =>
       .l (.idx 6 true) [(n y15 1), (i 0)] fun x23 =>
       .l (.upd 6 true) [(n y15 1), (i 0), x22] fun x24 =>
       .l (.arith .add .i64) [(n y15 0), (i 1)] fun x25 =>
       .cont 0 [x25, x24]) (
       .l (.idx 6 true) [(c 5 x0), (n y15 0)] fun x21 =>
       .call F.ref14_dual [x21, x14] fun x22 =>
       .l (.idx 6 true) [(n y15 1), (n y15 0)] fun x23 =>
       .l (.upd 6 true) [(n y15 1), (n y15 0), x22] fun x24 =>
       .l (.arith .add .i64) [(n y15 0), (i 1)] fun x25 =>
       .cont 0 [x25, x24]))) (
     .l (.idx 6 true) [(c 5 x0), (n y15 0)] fun x19 =>
     .call F.ref14_dual [x19, x14] fun x20 =>
     .l (.idx 6 true) [(n y15 1), (n y15 0)] fun x21 =>
     .l (.upd 6 true) [(n y15 1), (n y15 0), x20] fun x22 =>
     .l (.arith .add .i64) [(n y15 0), (i 1)] fun x23 =>
     .cont 0 [x23, x22])) (
    .ret (.agg [x7, (n z1 1), (n z1 2), (n z1 3), (n z1 4), (n y15 1)]))) (
   .loop [(i 0), (n z1 5)] fun y9 =>
   .l .len [(c 5 x0)] fun x10 =>
   .l (.cmp .lss .i64) [(n y9 0), x10] fun x11 =>
   .ite x11 (
    .l (.cmp .eql .i64) [(n y9 0), (i 0)] fun x12 =>
    .ite x12 (
     .l (.cmp .eql .i64) [(c 0 x0), (i 4)] fun x13 =>
     .ite x13 (
      .l (.idx 6 true) [(c 5 x0), (i 0)] fun x14 =>
      .call F.ref14_closed [x14, (n xs 1)] fun x15 =>
      .l (.idx 6 true) [(n y9 1), (i 0)] fun x16 =>
      .l (.upd 6 true) [(n y9 1), (i 0), x15] fun x17 =>
      .l (.arith .add .i64) [(n y9 0), (i 1)] fun x18 =>
      .cont 0 [x18, x17]) (
      .l (.cmp .eql .i64) [(c 0 x0), (i 5)] fun x14 =>
      .ite x14 (
       .l (.idx 6 true) [(c 5 x0), (i 0)] fun x15 =>
       .call F.ref14_closed [x15, (n xs 1)] fun x16 =>
       .l (.idx 6 true) [(n y9 1), (i 0)] fun x17 =>
       .l (.upd 6 true) [(n y9 1), (i 0), x16] fun x18 =>
       .l (.arith .add .i64) [(n y9 0), (i 1)] fun x19 =>
       .cont 0 [x19, x18]) (
       .l (.idx 6 true) [(c 5 x0), (n y9 0)] fun x15 =>
       .call F.ref14_dual [x15, (n xs 1)] fun x16 =>
       .l (.idx 6 true) [(n y9 1), (n y9 0)] fun x17 =>
       .l (.upd 6 true) [(n y9 1), (n y9 0), x16] fun x18 =>
       .l (.arith .add .i64) [(n y9 0), (i 1)] fun x19 =>
       .cont 0 [x19, x18]))) (
     .l (.idx 6 true) [(c 5 x0), (n y9 0)] fun x13 =>
     .call F.ref14_dual [x13, (n xs 1)] fun x14 =>
     .l (.idx 6 true) [(n y9 1), (n y9 0)] fun x15 =>
     .l (.upd 6 true) [(n y9 1), (n y9 0), x14] fun x16 =>
     .l (.arith .add .i64) [(n y9 0), (i 1)] fun x17 =>
     .cont 0 [x17, x16])) (
    .ret (.agg [x7, (n z1 1), (n z1 2), (n z1 3), (n z1 4), (n y9 1)])))) (
  .l (.cmp .eql .i64) [(c 0 x0), (i 8)] fun x4 =>
  .ite x4 (
   .l (.lst 7 true) [] fun x5 =>
   .l (.app 7 true 104) [x5, (n xs 1)] fun x6 =>
   .call F.ref14_closed [x0, (n xs 1)] fun x7 =>
   .l (.okcs [(1, false), (6, true)]) [(c 2 x0), x7] fun x8 =>
   .l (.lst 7 true) [(.agg [(c 2 x0), (c 0 x7), (c 1 x7), (c 2 x7), (c 3 x7), (c 4 x7), (c 5 x7)])] fun x9 =>
   .l (.app 7 true 104) [x6, x9] fun x10 =>
   .loop [(i 0), (n z1 5)] fun y11 =>
   .l .len [(c 5 x0)] fun x12 =>
   .l (.cmp .lss .i64) [(n y11 0), x12] fun x13 =>
   .ite x13 (
    .l (.cmp .eql .i64) [(n y11 0), (i 0)] fun x14 =>
    .ite x14 (
     .l (.cmp .eql .i64) [(c 0 x0), (i 4)] fun x15 =>
     .ite x15 (
      .l (.idx 6 true) [(c 5 x0), (i 0)] fun x16 =>
      .call F.ref14_closed [x16, x10] fun x17 =>
      .l (.idx 6 true) [(n y11 1), (i 0)] fun x18 =>
      .l (.upd 6 true) [(n y11 1), (i 0), x17] fun x19 =>
      .l (.arith .add .i64) [(n y11 0), (i 1)] fun x20 =>
      .cont 0 [x20, x19]) (
      .l (.cmp .eql .i64) [(c 0 x0), (i 5)] fun x16 =>
      .ite x16 (
       .l (.idx 6 true) [(c 5 x0), (i 0)] fun x17 =>
       .call F.ref14_closed [x17, x10] fun x18 =>
       .l (.idx 6 true) [(n y11 1), (i 0)] fun x19 =>
       .l (.upd 6 true) [(n y11 1), (i 0), x18] fun x20 =>
       .l (.arith .add .i64) [(n y11 0), (i 1)] fun x21 =>
       .cont 0 [x21, x20]) (
       .l (.idx 6 true) [(c 5 x0), (n y11 0)] fun x17 =>
       .call F.ref14_dual [x17, x10] fun x18 =>
       .l (.idx 6 true) [(n y11 1), (n y11 0)] fun x19 =>
       .l (.upd 6 true) [(n y11 1), (n y11 0), x18] fun x20 =>
       .l (.arith .add .i64) [(n y11 0), (i 1)] fun x21 =>
       .cont 0 [x21, x20]))) (
     .l (.idx 6 true) [(c 5 x0), (n y11 0)] fun x15 =>
     .call F.ref14_dual [x15, x10] fun x16 =>
     .l (.idx 6 true) [(n y11 1), (n y11 0)] fun x17 =>
     .l (.upd 6 true) [(n y11 1), (n y11 0), x16] fun x18 =>
     .l (.arith .add .i64) [(n y11 0), (i 1)] fun x19 =>
     .cont 0 [x19, x18])) (
    .ret (.agg [(n z1 0), (n z1 1), (n z1 2), (n z1 3), (n z1 4), (n y11 1)]))) (
   .loop [(i 0), (n z1 5)] fun y5 =>
   .l .len [(c 5 x0)] fun x6 =>
   .l (.cmp .lss .i64) [(n y5 0), x6] fun x7 =>
   .ite x7 (
    .l (.cmp .eql .i64) [(n y5 0), (i 0)] fun x8 =>
    .ite x8 (
     .l (.cmp .eql .i64) [(c 0 x0), (i 4)] fun x9 =>
     .ite x9 (
      .l (.idx 6 true) [(c 5 x0), (i 0)] fun x10 =>
      .call F.ref14_closed [x10, (n xs 1)] fun x11 =>
      .l (.idx 6 true) [(n y5 1), (i 0)] fun x12 =>
      .l (.upd 6 true) [(n y5 1), (i 0), x11] fun x13 =>
      .l (.arith .add .i64) [(n y5 0), (i 1)] fun x14 =>
      .cont 0 [x14, x13]) (
      .l (.cmp .eql .i64) [(c 0 x0), (i 5)] fun x10 =>
      .ite x10 (
       .l (.idx 6 true) [(c 5 x0), (i 0)] fun x11 =>
       .call F.ref14_closed [x11, (n xs 1)] fun x12 =>
       .l (.idx 6 true) [(n y5 1), (i 0)] fun x13 =>
       .l (.upd 6 true) [(n y5 1), (i 0), x12] fun x14 =>
       .l (.arith .add .i64) [(n y5 0), (i 1)] fun x15 =>
       .cont 0 [x15, x14]) (
       .l (.idx 6 true) [(c 5 x0), (n y5 0)] fun x11 =>
       .call F.ref14_dual [x11, (n xs 1)] fun x12 =>
       .l (.idx 6 true) [(n y5 1), (n y5 0)] fun x13 =>
       .l (.upd 6 true) [(n y5 1), (n y5 0), x12] fun x14 =>
       .l (.arith .add .i64) [(n y5 0), (i 1)] fun x15 =>
       .cont 0 [x15, x14]))) (
     .l (.idx 6 true) [(c 5 x0), (n y5 0)] fun x9 =>
     .call F.ref14_dual [x9, (n xs 1)] fun x10 =>
     .l (.idx 6 true) [(n y5 1), (n y5 0)] fun x11 =>
     .l (.upd 6 true) [(n y5 1), (n y5 0), x10] fun x12 =>
     .l (.arith .add .i64) [(n y5 0), (i 1)] fun x13 =>
     .cont 0 [x13, x12])) (
    .ret (.agg [(n z1 0), (n z1 1), (n z1 2), (n z1 3), (n z1 4), (n y5 1)]))))) (
 .l (.cmp .eql .i64) [(c 0 x0), (i 8)] fun x3 =>
 .ite x3 (
  .l (.lst 7 true) [] fun x4 =>
  .l (.app 7 true 104) [x4, (n xs 1)] fun x5 =>
  .call F.ref14_closed [x0, (n xs 1)] fun x6 =>
  .l (.okcs [(1, false), (6, true)]) [(c 2 x0), x6] fun x7 =>
  .l (.lst 7 true) [(.agg [(c 2 x0), (c 0 x6), (c 1 x6), (c 2 x6), (c 3 x6), (c 4 x6), (c 5 x6)])] fun x8 =>
  .l (.app 7 true 104) [x5, x8] fun x9 =>
  .loop [(i 0), (n z1 5)] fun y10 =>
  .l .len [(c 5 x0)] fun x11 =>
  .l (.cmp .lss .i64) [(n y10 0), x11] fun x12 =>
  .ite x12 (
   .l (.cmp .eql .i64) [(n y10 0), (i 0)] fun x13 =>
   .ite x13 (
    .l (.cmp .eql .i64) [(c 0 x0), (i 4)] fun x14 =>
    .ite x14 (
     .l (.idx 6 true) [(c 5 x0), (i 0)] fun x15 =>
     .call F.ref14_closed [x15, x9] fun x16 =>
     .l (.idx 6 true) [(n y10 1), (i 0)] fun x17 =>
     .l (.upd 6 true) [(n y10 1), (i 0), x16] fun x18 =>
     .l (.arith .add .i64) [(n y10 0), (i 1)] fun x19 =>
     .cont 0 [x19, x18]) (
     .l (.cmp .eql .i64) [(c 0 x0), (i 5)] fun x15 =>
     .ite x15 (
      .l (.idx 6 true) [(c 5 x0), (i 0)] fun x16 =>
      .call F.ref14_closed [x16, x9] fun x17 =>
      .l (.idx 6 true) [(n y10 1), (i 0)] fun x18 =>
      .l (.upd 6 true) [(n y10 1), (i 0), x17] fun x19 =>
      .l (.arith .add .i64) [(n y10 0), (i 1)] fun x20 =>
      .cont 0 [x20, x19]) (
      .l (.idx 6 true) [(c 5 x0), (n y10 0)] fun x16 =>
      .call F.ref14_dual [x16, x9] fun x17 =>
      .l (.idx 6 true) [(n y10 1), (n y10 0)] fun x18 =>
      .l (.upd 6 true) [(n y10 1), (n y10 0), x17] fun x19 =>
      .l (.arith .add .i64) [(n y10 0), (i 1)] fun x20 =>
      .cont 0 [x20, x19]))) (
    .l (.idx 6 true) [(c 5 x0), (n y10 0)] fun x14 =>
    .call F.ref14_dual [x14, x9] fun x15 =>
    .l (.idx 6 true) [(n y10 1), (n y10 0)] fun x16 =>
    .l (.upd 6 true) [(n y10 1), (n y10 0), x15] fun x17 =>
    .l (.arith .add .i64) [(n y10 0), (i 1)] fun x18 =>
    .cont 0 [x18, x17])) (
   .ret (.agg [(n z1 0), (n z1 1), (n z1 2), (n z1 3), (n z1 4), (n y10 1)]))) (
  .loop [(i 0), (n z1 5)] fun y4 =>
  .l .len [(c 5 x0)] fun x5 =>
  .l (.cmp .lss .i64) [(n y4 0), x5] fun x6 =>
  .ite x6 (
   .l (.cmp .eql .i64) [(n y4 0), (i 0)] fun x7 =>
   .ite x7 (
    .l (.cmp .eql .i64) [(c 0 x0), (i 4)] fun x8 =>
    .ite x8 (
     .l (.idx 6 true) [(c 5 x0), (i 0)] fun x9 =>
     .call F.ref14_closed [x9, (n xs 1)] fun x10 =>
     .l (.idx 6 true) [(n y4 1), (i 0)] fun x11 =>
     .l (.upd 6 true) [(n y4 1), (i 0), x10] fun x12 =>
     .l (.arith .add .i64) [(n y4 0), (i 1)] fun x13 =>
     .cont 0 [x13, x12]) (
     .l (.cmp .eql .i64) [(c 0 x0), (i 5)] fun x9 =>
     .ite x9 (
      .l (.idx 6 true) [(c 5 x0), (i 0)] fun x10 =>
      .call F.ref14_closed [x10, (n xs 1)] fun x11 =>
      .l (.idx 6 true) [(n y4 1), (i 0)] fun x12 =>
      .l (.upd 6 true) [(n y4 1), (i 0), x11] fun x13 =>
      .l (.arith .add .i64) [(n y4 0), (i 1)] fun x14 =>
      .cont 0 [x14, x13]) (
      .l (.idx 6 true) [(c 5 x0), (n y4 0)] fun x10 =>
      .call F.ref14_dual [x10, (n xs 1)] fun x11 =>
      .l (.idx 6 true) [(n y4 1), (n y4 0)] fun x12 =>
      .l (.upd 6 true) [(n y4 1), (n y4 0), x11] fun x13 =>
      .l (.arith .add .i64) [(n y4 0), (i 1)] fun x14 =>
      .cont 0 [x14, x13]))) (
    .l (.idx 6 true) [(c 5 x0), (n y4 0)] fun x8 =>
    .call F.ref14_dual [x8, (n xs 1)] fun x9 =>
    .l (.idx 6 true) [(n y4 1), (n y4 0)] fun x10 =>
    .l (.upd 6 true) [(n y4 1), (n y4 0), x9] fun x11 =>
    .l (.arith .add .i64) [(n y4 0), (i 1)] fun x12 =>
    .cont 0 [x12, x11])) (
   .ret (.agg [(n z1 0), (n z1 1), (n z1 2), (n z1 3), (n z1 4), (n y4 1)]))))
theorem k_ref14_dual : TxOk P F.ref14_dual 2 t_ref14_dual := txOk_of (H := { wr := [], ro := [], nl := [], fz := [], da := [], sigs := [(33, sg_ref02_Raise)] }) (plans := []) hm Tryd.func19 rfl rfl fun xs => by kernel_rfl
-- NOT TOLD: 20 (*duologue/monitor.Monitor).Add: 1
def u_monitor_Monitor_Add (xs : List PV) : T PV :=
.l .len [(n xs 0)] fun x0 =>
.loop [(i 0), (n xs 1)] fun y1 =>
.l (.cmp .lss .i64) [(n y1 0), x0] fun x2 =>
.ite x2 (
 .l (.idx 6 true) [(n xs 0), (n y1 0)] fun x3 =>
 .l (.okc 6 true) [x3] fun x4 =>
 .call F.typetree_Unfold [x4] fun x5 =>
 .l .len [(n y1 1)] fun x6 =>
 .l (.lst 6 true) [(.agg [(i 0), (i 0), (.str ⟨#[]⟩), (i 0), (.sl []), (.sl [])])] fun x7 =>
 .l (.app 6 true 88) [(n y1 1), x7] fun x8 =>
 .l (.idx 6 true) [x8, x6] fun x9 =>
 .l (.upd 6 true) [x8, x6, x5] fun x10 =>
 .l (.arith .add .i64) [(n y1 0), (i 1)] fun x11 =>
 .cont 0 [x11, x10]) (
 .ret (.tup [(.tup []), (n y1 1)]))
theorem m_monitor_Monitor_Add : TxOkS P F.monitor_Monitor_Add sg_monitor_Monitor_Add u_monitor_Monitor_Add := txOkS_of (H := { wr := [0, 1, 2, 3, 4, 5, 6, 7, 8, 9, 10, 11, 12, 13, 14, 15, 16, 17, 18, 19, 20, 21, 22, 23, 24, 25, 26, 27, 28, 29, 30, 31, 32, 33, 34, 35, 36, 37, 38, 39, 40, 41, 42, 43, 44, 45, 46, 47, 48, 49, 50, 51, 52, 53, 54, 55, 56, 57, 58, 59, 60, 61, 62, 63, 64, 65, 66, 67, 68, 69, 70, 71, 72, 73, 74, 75, 76, 77, 78, 79, 80, 81, 82, 83, 84, 85, 86, 87, 88, 89, 90, 91, 92, 93, 94, 95, 96, 97, 98, 99], ro := [], nl := [], fz := [], da := [], sigs := [] }) (plans := []) hm Tryd.func20 rfl fun xs => by kernel_rfl
def t_ref02_Few (xs : List PV) : T PV :=
.l (.okc 6 true) [(n xs 0)] fun x0 =>
.call F.ref02_count [x0, (n xs 1)] fun x1 =>
.l (.cmp .geq .i64) [x1, (i 0)] fun x2 =>
.ite x2 (
 .call F.ref02_Depth [x0] fun x3 =>
 .l (.cmp .leq .i64) [x3, (i 150)] fun x4 =>
 .ret x4) (
 .ret (.bool false))
theorem k_ref02_Few : TxOk P F.ref02_Few 2 t_ref02_Few := txOk_of (H := {}) (plans := []) hm Tryd.func21 rfl rfl fun xs => by kernel_rfl
def t_ref02_Unfold (xs : List PV) : T PV :=
.l (.okc 6 true) [(n xs 0)] fun x0 =>
.l (.cmp .eql .i64) [(c 0 x0), (i 8)] fun x1 =>
.ite x1 (
 .l (.idx 6 true) [(c 5 x0), (i 0)] fun x2 =>
 .call F.ref02_put [x2, (c 2 x0), x0] fun x3 =>
 .call F.ref02_Unfold [x3] fun x4 =>
 .l (.okc 6 true) [x4] fun x5 =>
 .ret x5) (
 .call F.ref02_Raise [x0, (i 0)] fun x2 =>
 .l (.okc 6 true) [x2] fun x3 =>
 .ret x3)
theorem k_ref02_Unfold : TxOk P F.ref02_Unfold 1 t_ref02_Unfold := txOk_of (H := {}) (plans := []) hm Tryd.func22 rfl rfl fun xs => by kernel_rfl
def t_monitor_Monitor_has (xs : List PV) : T PV :=
.l (.pnil false) [(n xs 0)] fun x0 =>
.ite x0 (
 .l (.cmp .geq .i64) [(n xs 1), (i 0)] fun x1 =>
 .ite x1 (
  .l .notnil [(n xs 0)] fun x2 =>
  .l (.unbox 1 true) [x2] fun x3 =>
  .l .len [(c 0 x3)] fun x4 =>
  .l (.cmp .lss .i64) [(n xs 1), x4] fun x5 =>
  .ret x5) (
  .ret (.bool false))) (
 .ret (.bool false))
theorem k_monitor_Monitor_has : TxOk P F.monitor_Monitor_has 2 t_monitor_Monitor_has := txOk_of (H := {}) (plans := []) hm Tryd.func23 rfl rfl fun xs => by kernel_rfl
def t_monitor_want (xs : List PV) : T PV :=
.l (.okc 6 true) [(n xs 0)] fun x0 =>
.l (.aidx 2 1 false) [(.agg [(i 4), (i 6)]), (i 0)] fun x1 =>
.l (.scmp .neq) [(c 2 x0), (.str ⟨#[]⟩)] fun x2 =>
.ite x2 (
 .l (.aidx 2 1 false) [(.agg [(i 4), (i 6)]), (i 1)] fun x3 =>
 .l .bnot [(c 1 x0)] fun x4 =>
 .ite x4 (
  .call F.dual_Kind [x3] fun x5 =>
  .ret x5) (
  .ret x3)) (
 .l .bnot [(c 1 x0)] fun x3 =>
 .ite x3 (
  .call F.dual_Kind [x1] fun x4 =>
  .ret x4) (
  .ret x1))
theorem k_monitor_want : TxOk P F.monitor_want 1 t_monitor_want := txOk_of (H := {}) (plans := []) hm Tryd.func24 rfl rfl fun xs => by kernel_rfl
def t_slices_Index_string_string (xs : List PV) : T PV :=
.l .len [(n xs 0)] fun x0 =>
.loop [(i 0)] fun y1 =>
.l (.cmp .lss .i64) [(n y1 0), x0] fun x2 =>
.ite x2 (
 .l (.idx 1 false) [(n xs 0), (n y1 0)] fun x3 =>
 .l (.scmp .eql) [(n xs 1), x3] fun x4 =>
 .ite x4 (
  .ret (n y1 0)) (
  .l (.arith .add .i64) [(n y1 0), (i 1)] fun x5 =>
  .cont 0 [x5])) (
 .ret (i (-1)))
theorem k_slices_Index_string_string : TxOk P F.slices_Index_string_string 2 t_slices_Index_string_string := txOk_of (H := {}) (plans := []) hm Tryd.func25 rfl rfl fun xs => by kernel_rfl
def t_monitor_fits (xs : List PV) : T PV :=
.l (.okc 3 true) [(n xs 0)] fun x0 =>
.l (.okc 6 true) [(n xs 1)] fun x1 =>
.call F.monitor_values [] fun x2 =>
.l (.mget2 false [.i .i64] (i 0)) [x2, (c 0 x1)] fun x3 =>
.l (.tc 0) [x3] fun x4 =>
.l (.tc 1) [x3] fun x5 =>
.l .bnot [x5] fun x6 =>
.ite x6 (
 .l (.cmp .eql .i64) [(c 0 x0), (i 1)] fun x7 =>
 .ret x7) (
 .l (.cmp .eql .i64) [(c 0 x0), x4] fun x7 =>
 .ret x7)
theorem k_monitor_fits : TxOk P F.monitor_fits 2 t_monitor_fits := txOk_of (H := {}) (plans := []) hm Tryd.func26 rfl rfl fun xs => by kernel_rfl
def t_typetree_Unfold (xs : List PV) : T PV :=
.l (.okc 6 true) [(n xs 0)] fun x0 =>
.loop [x0] fun y1 =>
.l (.cmp .eql .i64) [(c 0 (n y1 0)), (i 8)] fun x2 =>
.ite x2 (
 .l .len [(c 5 (n y1 0))] fun x3 =>
 .l (.cmp .eql .i64) [x3, (i 1)] fun x4 =>
 .ite x4 (
  .l (.idx 6 true) [(c 5 (n y1 0)), (i 0)] fun x5 =>
  .call F.typetree_replace [x5, (c 2 (n y1 0)), (n y1 0)] fun x6 =>
  .l (.okc 6 true) [x6] fun x7 =>
  .cont 0 [x7]) (
  .call F.typetree_Copy [(n y1 0)] fun x5 =>
  .l (.okc 6 true) [x5] fun x6 =>
  .ret x6)) (
 .call F.typetree_Copy [(n y1 0)] fun x3 =>
 .l (.okc 6 true) [x3] fun x4 =>
 .ret x4)
theorem k_typetree_Unfold : TxOk P F.typetree_Unfold 1 t_typetree_Unfold := txOk_of (H := {}) (plans := []) hm Tryd.func27 rfl rfl fun xs => by kernel_rfl
def t_slices_ContainsFunc_api_Type_api_Type (xs : List PV) : T PV :=
.call F.slices_IndexFunc_api_Type_api_Type [(n xs 0), (n xs 1)] fun x0 =>
.l (.cmp .geq .i64) [x0, (i 0)] fun x1 =>
.ret x1
theorem k_slices_ContainsFunc_api_Type_api_Type : TxOk P F.slices_ContainsFunc_api_Type_api_Type 2 t_slices_ContainsFunc_api_Type_api_Type := txOk_of (H := {}) (plans := []) hm Tryd.func28 rfl rfl fun xs => by kernel_rfl
def t_monitor_Monitor_Settled_1 (xs : List PV) : T PV :=
.l (.okc 6 true) [(n xs 0)] fun x0 =>
.l (.cmp .neq .i64) [(c 0 x0), (i 3)] fun x1 =>
.ret x1
theorem k_monitor_Monitor_Settled_1 : TxOk P F.monitor_Monitor_Settled_1 1 t_monitor_Monitor_Settled_1 := txOk_of (H := {}) (plans := []) hm Tryd.func29 rfl rfl fun xs => by kernel_rfl
def t_ref02_texts (xs : List PV) : T PV :=
.l .len [(n xs 0)] fun x0 =>
.l .len [(n xs 1)] fun x1 =>
.l (.cmp .neq .i64) [x0, x1] fun x2 =>
.ite x2 (
 .ret (.bool false)) (
 .loop [(i 0)] fun y3 =>
 .l .len [(n xs 0)] fun x4 =>
 .l (.cmp .lss .i64) [(n y3 0), x4] fun x5 =>
 .ite x5 (
  .l (.idx 1 false) [(n xs 0), (n y3 0)] fun x6 =>
  .l (.idx 1 false) [(n xs 1), (n y3 0)] fun x7 =>
  .l (.scmp .neq) [x6, x7] fun x8 =>
  .ite x8 (
   .ret (.bool false)) (
   .l (.arith .add .i64) [(n y3 0), (i 1)] fun x9 =>
   .cont 0 [x9])) (
  .ret (.bool true)))
theorem k_ref02_texts : TxOk P F.ref02_texts 2 t_ref02_texts := txOk_of (H := {}) (plans := []) hm Tryd.func30 rfl rfl fun xs => by kernel_rfl
def t_typetree_Copy (xs : List PV) : T PV :=
.l (.okc 6 true) [(n xs 0)] fun x0 =>
.call F.typetree_mapped [x0, (.fn F.typetree_Copy [] [])] fun x1 =>
.l (.okc 6 true) [x1] fun x2 =>
.ret x2
theorem k_typetree_Copy : TxOk P F.typetree_Copy 1 t_typetree_Copy := txOk_of (H := {}) (plans := []) hm Tryd.func31 rfl rfl fun xs => by kernel_rfl
def t_ref02_Right (xs : List PV) : T PV :=
.l (.okc 6 true) [(n xs 0)] fun x0 =>
.call F.ref02_Depth [x0] fun x1 =>
.l (.cmp .gtr .i64) [x1, (i 100)] fun x2 =>
.ite x2 (
 .ret (i 2)) (
 .call F.ref02_Size [x0] fun x3 =>
 .l (.cmp .gtr .i64) [x3, (i 10000)] fun x4 =>
 .ite x4 (
  .ret (i 2)) (
  .call F.ref02_node [x0, (.sl []), (i 0), (.bool false)] fun x5 =>
  .ret x5))
theorem k_ref02_Right : TxOk P F.ref02_Right 1 t_ref02_Right := txOk_of (H := {}) (plans := []) hm Tryd.func32 rfl rfl fun xs => by kernel_rfl
def t_ref02_Raise (xs : List PV) : T PV :=
.l (.okc 6 true) [(n xs 0)] fun x0 =>
.l (.lst 1 false) [] fun x1 =>
.l (.app 1 false 16) [x1, (c 4 x0)] fun x2 =>
.l (.okcs [(1, false), (1, false), (1, false), (1, false)]) [(c 0 x0), (c 1 x0), (c 2 x0), (c 3 x0)] fun x3 =>
.l (.cmp .geq .i64) [(c 0 x0), (i 4)] fun x4 =>
.ite x4 (
 .l (.cmp .leq .i64) [(c 0 x0), (i 7)] fun x5 =>
 .ite x5 (
  .l (.arith .add .i64) [(c 1 x0), (n xs 1)] fun x6 =>
  .l (.okc 1 false) [x6] fun x7 =>
  .loop [(i 0), (c 0 x0), x7, (c 2 x0), (c 3 x0), x2, (.sl [])] fun y8 =>
  .l .len [(c 5 x0)] fun x9 =>
  .l (.cmp .lss .i64) [(n y8 0), x9] fun x10 =>
  .ite x10 (
   .l (.idx 6 true) [(c 5 x0), (n y8 0)] fun x11 =>
   .call F.ref02_Raise [x11, (n xs 1)] fun x12 =>
   .l (.lst 6 true) [x12] fun x13 =>
   .l (.app 6 true 88) [(n y8 6), x13] fun x14 =>
   .l (.arith .add .i64) [(n y8 0), (i 1)] fun x15 =>
   .cont 0 [x15, (n y8 1), (n y8 2), (n y8 3), (n y8 4), (n y8 5), x14]) (
   .ret (.agg [(n y8 1), (n y8 2), (n y8 3), (n y8 4), (n y8 5), (n y8 6)]))) (
  .loop [(i 0), (c 0 x0), (c 1 x0), (c 2 x0), (c 3 x0), x2, (.sl [])] fun y6 =>
  .l .len [(c 5 x0)] fun x7 =>
  .l (.cmp .lss .i64) [(n y6 0), x7] fun x8 =>
  .ite x8 (
   .l (.idx 6 true) [(c 5 x0), (n y6 0)] fun x9 =>
   .call F.ref02_Raise [x9, (n xs 1)] fun x10 =>
   .l (.lst 6 true) [x10] fun x11 =>
   .l (.app 6 true 88) [(n y6 6), x11] fun x12 =>
   .l (.arith .add .i64) [(n y6 0), (i 1)] fun x13 =>
   .cont 0 [x13, (n y6 1), (n y6 2), (n y6 3), (n y6 4), (n y6 5), x12]) (
   .ret (.agg [(n y6 1), (n y6 2), (n y6 3), (n y6 4), (n y6 5), (n y6 6)])))) (
 .loop [(i 0), (c 0 x0), (c 1 x0), (c 2 x0), (c 3 x0), x2, (.sl [])] fun y5 =>
 .l .len [(c 5 x0)] fun x6 =>
 .l (.cmp .lss .i64) [(n y5 0), x6] fun x7 =>
 .ite x7 (
  .l (.idx 6 true) [(c 5 x0), (n y5 0)] fun x8 =>
  .call F.ref02_Raise [x8, (n xs 1)] fun x9 =>
  .l (.lst 6 true) [x9] fun x10 =>
  .l (.app 6 true 88) [(n y5 6), x10] fun x11 =>
  .l (.arith .add .i64) [(n y5 0), (i 1)] fun x12 =>
  .cont 0 [x12, (n y5 1), (n y5 2), (n y5 3), (n y5 4), (n y5 5), x11]) (
  .ret (.agg [(n y5 1), (n y5 2), (n y5 3), (n y5 4), (n y5 5), (n y5 6)])))
theorem k_ref02_Raise : TxOk P F.ref02_Raise 2 t_ref02_Raise := txOk_of (H := { wr := [50], ro := [], nl := [], fz := [], da := [], sigs := [] }) (plans := []) hm Tryd.func33 rfl rfl fun xs => by kernel_rfl
def u_ref02_Raise (xs : List PV) : T PV :=
.l (.okc 6 true) [(n xs 0)] fun x0 =>
.l (.lst 1 false) [] fun x1 =>
.l (.app 1 false 16) [x1, (c 4 x0)] fun x2 =>
.l (.okcs [(1, false), (1, false), (1, false), (1, false)]) [(c 0 x0), (c 1 x0), (c 2 x0), (c 3 x0)] fun x3 =>
.l (.cmp .geq .i64) [(c 0 x0), (i 4)] fun x4 =>
.ite x4 (
 .l (.cmp .leq .i64) [(c 0 x0), (i 7)] fun x5 =>
 .ite x5 (
  .l (.arith .add .i64) [(c 1 x0), (n xs 1)] fun x6 =>
  .l (.okc 1 false) [x6] fun x7 =>
  .loop [(i 0), (c 0 x0), x7, (c 2 x0), (c 3 x0), x2, (.sl [])] fun y8 =>
  .l .len [(c 5 x0)] fun x9 =>
  .l (.cmp .lss .i64) [(n y8 0), x9] fun x10 =>
  .ite x10 (
   .l (.idx 6 true) [(c 5 x0), (n y8 0)] fun x11 =>
   .call F.ref02_Raise [x11, (n xs 1)] fun x12 =>
   .l (.lst 6 true) [x12] fun x13 =>
   .l (.app 6 true 88) [(n y8 6), x13] fun x14 =>
   .l (.arith .add .i64) [(n y8 0), (i 1)] fun x15 =>
   .cont 0 [x15, (n y8 1), (n y8 2), (n y8 3), (n y8 4), (n y8 5), x14]) (
   .ret (.tup [(n y8 1), (n y8 2), (n y8 3), (n y8 4), (n y8 5), (n y8 6)]))) (
  .loop [(i 0), (c 0 x0), (c 1 x0), (c 2 x0), (c 3 x0), x2, (.sl [])] fun y6 =>
  .l .len [(c 5 x0)] fun x7 =>
  .l (.cmp .lss .i64) [(n y6 0), x7] fun x8 =>
  .ite x8 (
   .l (.idx 6 true) [(c 5 x0), (n y6 0)] fun x9 =>
   .call F.ref02_Raise [x9, (n xs 1)] fun x10 =>
   .l (.lst 6 true) [x10] fun x11 =>
   .l (.app 6 true 88) [(n y6 6), x11] fun x12 =>
   .l (.arith .add .i64) [(n y6 0), (i 1)] fun x13 =>
   .cont 0 [x13, (n y6 1), (n y6 2), (n y6 3), (n y6 4), (n y6 5), x12]) (
   .ret (.tup [(n y6 1), (n y6 2), (n y6 3), (n y6 4), (n y6 5), (n y6 6)])))) (
 .loop [(i 0), (c 0 x0), (c 1 x0), (c 2 x0), (c 3 x0), x2, (.sl [])] fun y5 =>
 .l .len [(c 5 x0)] fun x6 =>
 .l (.cmp .lss .i64) [(n y5 0), x6] fun x7 =>
 .ite x7 (
  .l (.idx 6 true) [(c 5 x0), (n y5 0)] fun x8 =>
  .call F.ref02_Raise [x8, (n xs 1)] fun x9 =>
  .l (.lst 6 true) [x9] fun x10 =>
  .l (.app 6 true 88) [(n y5 6), x10] fun x11 =>
  .l (.arith .add .i64) [(n y5 0), (i 1)] fun x12 =>
  .cont 0 [x12, (n y5 1), (n y5 2), (n y5 3), (n y5 4), (n y5 5), x11]) (
  .ret (.tup [(n y5 1), (n y5 2), (n y5 3), (n y5 4), (n y5 5), (n y5 6)])))
theorem m_ref02_Raise : TxOkS P F.ref02_Raise sg_ref02_Raise u_ref02_Raise := txOkS_of (H := { wr := [50], ro := [], nl := [], fz := [], da := [], sigs := [] }) (plans := []) hm Tryd.func33 rfl fun xs => by kernel_rfl
def t_ref14_closed (xs : List PV) : T PV :=
.l (.okc 6 true) [(n xs 0)] fun x0 =>
.l (.cmp .eql .i64) [(c 0 x0), (i 9)] fun x1 =>
.ite x1 (
 .l .len [(n xs 1)] fun x2 =>
 .l (.arith .sub .i64) [x2, (i 1)] fun x3 =>
 .loop [x3] fun y4 =>
 .l (.cmp .geq .i64) [(n y4 0), (i 0)] fun x5 =>
 .ite x5 (
  .l (.idx 7 true) [(n xs 1), (n y4 0)] fun x6 =>
  .l (.scmp .eql) [(c 0 x6), (c 2 x0)] fun x7 =>
  .ite x7 (
   .l (.idx 7 true) [(n xs 1), (n y4 0)] fun x8 =>
   .calls F.ref02_Raise sg_ref02_Raise [(sb 1 6 x8), (c 3 x0)] fun z9 =>
   .ret (.agg [(n z9 0), (n z9 1), (n z9 2), (n z9 3), (n z9 4), (n z9 5)])) (
   .l (.arith .sub .i64) [(n y4 0), (i 1)] fun x8 =>
   .cont 0 [x8])) (
  .l (.okc 6 true) [x0] fun x6 =>
  .ret x6)) (
 .calls F.ref02_Raise sg_ref02_Raise [x0, (i 0)] fun z2 =>
 .l (.cmp .eql .i64) [(c 0 x0), (i 8)] fun x3 =>
 .ite x3 (
  .loop [(i 0), (.sl [])] fun y4 =>
  .l .len [(n xs 1)] fun x5 =>
  .l (.cmp .lss .i64) [(n y4 0), x5] fun x6 =>
  .ite x6 (
   .l (.idx 7 true) [(n xs 1), (n y4 0)] fun x7 =>
   .l (.scmp .neq) [(c 0 x7), (c 2 x0)] fun x8 =>
   .ite x8 (
    .l (.idx 7 true) [(n xs 1), (n y4 0)] fun x9 =>
    .l (.lst 7 true) [x9] fun x10 =>
    .l (.app 7 true 104) [(n y4 1), x10] fun x11 =>
    .l (.arith .add .i64) [(n y4 0), (i 1)] fun x12 =>
    .cont 0 [x12, x11]) (
    .l (.arith .add .i64) [(n y4 0), (i 1)] fun x9 =>
    .cont 0 [x9, (n y4 1)])) (
   .loop [(i 0), (n z2 5)] fun y7 =>
   .l .len [(c 5 x0)] fun x8 =>
   .l (.cmp .lss .i64) [(n y7 0), x8] fun x9 =>
   .ite x9 (
    .l (.idx 6 true) [(c 5 x0), (n y7 0)] fun x10 =>
    .call F.ref14_closed [x10, (n y4 1)] fun x11 =>
    .l (.idx 6 true) [(n y7 1), (n y7 0)] fun x12 =>
    .l (.upd 6 true) [(n y7 1), (n y7 0), x11] fun x13 =>
    .l (.arith .add .i64) [(n y7 0), (i 1)] fun x14 =>
    .cont 1 [x14, x13]) (
    .ret (.agg [(n z2 0), (n z2 1), (n z2 2), (n z2 3), (n z2 4), (n y7 1)])))) (
  .loop [(i 0), (n z2 5)] fun y4 =>
  .l .len [(c 5 x0)] fun x5 =>
  .l (.cmp .lss .i64) [(n y4 0), x5] fun x6 =>
  .ite x6 (
   .l (.idx 6 true) [(c 5 x0), (n y4 0)] fun x7 =>
   .call F.ref14_closed [x7, (n xs 1)] fun x8 =>
   .l (.idx 6 true) [(n y4 1), (n y4 0)] fun x9 =>
   .l (.upd 6 true) [(n y4 1), (n y4 0), x8] fun x10 =>
   .l (.arith .add .i64) [(n y4 0), (i 1)] fun x11 =>
   .cont 0 [x11, x10]) (
   .ret (.agg [(n z2 0), (n z2 1), (n z2 2), (n z2 3), (n z2 4), (n y4 1)]))))
theorem k_ref14_closed : TxOk P F.ref14_closed 2 t_ref14_closed := txOk_of (H := { wr := [], ro := [], nl := [], fz := [], da := [], sigs := [(33, sg_ref02_Raise)] }) (plans := []) hm Tryd.func34 rfl rfl fun xs => by kernel_rfl
def t_ref02_count (xs : List PV) : T PV :=
.l (.okc 6 true) [(n xs 0)] fun x0 =>
.l (.arith .sub .i64) [(n xs 1), (i 1)] fun x1 =>
.loop [(i 0), x1] fun y2 =>
.l .len [(c 5 x0)] fun x3 =>
.l (.cmp .lss .i64) [(n y2 0), x3] fun x4 =>
.ite x4 (
 .l (.cmp .geq .i64) [(n y2 1), (i 0)] fun x5 =>
 .ite x5 (
  .l (.idx 6 true) [(c 5 x0), (n y2 0)] fun x6 =>
  .call F.ref02_count [x6, (n y2 1)] fun x7 =>
  .l (.arith .add .i64) [(n y2 0), (i 1)] fun x8 =>
  .cont 0 [x8, x7]) (
  .ret (n y2 1))) (
 .ret (n y2 1))
theorem k_ref02_count : TxOk P F.ref02_count 2 t_ref02_count := txOk_of (H := {}) (plans := []) hm Tryd.func35 rfl rfl fun xs => by kernel_rfl
def t_ref02_Depth (xs : List PV) : T PV :=
.l (.okc 6 true) [(n xs 0)] fun x0 =>
.loop [(i 0), (i 0)] fun y1 =>
.l .len [(c 5 x0)] fun x2 =>
.l (.cmp .lss .i64) [(n y1 0), x2] fun x3 =>
.ite x3 (
 .l (.idx 6 true) [(c 5 x0), (n y1 0)] fun x4 =>
 .call F.ref02_Depth [x4] fun x5 =>
 .l (.mx .i64) [(n y1 1), x5] fun x6 =>
 .l (.arith .add .i64) [(n y1 0), (i 1)] fun x7 =>
 .cont 0 [x7, x6]) (
 .l (.arith .add .i64) [(n y1 1), (i 1)] fun x4 =>
 .ret x4)
theorem k_ref02_Depth : TxOk P F.ref02_Depth 1 t_ref02_Depth := txOk_of (H := {}) (plans := []) hm Tryd.func36 rfl rfl fun xs => by kernel_rfl
def t_ref02_put (xs : List PV) : T PV :=
.l (.okc 6 true) [(n xs 0)] fun x0 =>
.l (.okc 6 true) [(n xs 2)] fun x1 =>
.l (.cmp .eql .i64) [(c 0 x0), (i 9)] fun x2 =>
.ite x2 (
 .l (.scmp .eql) [(c 2 x0), (n xs 1)] fun x3 =>
 .ite x3 (
  .calls F.ref02_Raise sg_ref02_Raise [x1, (c 3 x0)] fun z4 =>
  .ret (.agg [(n z4 0), (n z4 1), (n z4 2), (n z4 3), (n z4 4), (n z4 5)])) (
  .calls F.ref02_Raise sg_ref02_Raise [x0, (i 0)] fun z4 =>
  .l (.cmp .eql .i64) [(c 0 x0), (i 8)] fun x5 =>
  .ite x5 (
   .l (.scmp .eql) [(c 2 x0), (n xs 1)] fun x6 =>
   .ite x6 (
    .ret (.agg [(n z4 0), (n z4 1), (n z4 2), (n z4 3), (n z4 4), (n z4 5)])) (
    .loop [(i 0), (n z4 5)] fun y7 =>
    .l .len [(c 5 x0)] fun x8 =>
    .l (.cmp .lss .i64) [(n y7 0), x8] fun x9 =>
    .ite x9 (
     .l (.idx 6 true) [(c 5 x0), (n y7 0)] fun x10 =>
     .call F.ref02_put [x10, (n xs 1), x1] fun x11 =>
     .l (.idx 6 true) [(n y7 1), (n y7 0)] fun x12 =>
     .l (.upd 6 true) [(n y7 1), (n y7 0), x11] fun x13 =>
     .l (.arith .add .i64) [(n y7 0), (i 1)] fun x14 =>
     .cont 0 [x14, x13]) (
     .ret (.agg [(n z4 0), (n z4 1), (n z4 2), (n z4 3), (n z4 4), (n y7 1)])))) (
   .loop [(i 0), (n z4 5)] fun y6 =>
   .l .len [(c 5 x0)] fun x7 =>
   .l (.cmp .lss .i64) [(n y6 0), x7] fun x8 =>
   .ite x8 (
    .l (.idx 6 true) [(c 5 x0), (n y6 0)] fun x9 =>
    .call F.ref02_put [x9, (n xs 1), x1] fun x10 =>
    .l (.idx 6 true) [(n y6 1), (n y6 0)] fun x11 =>
    .l (.upd 6 true) [(n y6 1), (n y6 0), x10] fun x12 =>
    .l (.arith .add .i64) [(n y6 0), (i 1)] fun x13 =>
    .cont 0 [x13, x12]) (
    .ret (.agg [(n z4 0), (n z4 1), (n z4 2), (n z4 3), (n z4 4), (n y6 1)]))))) (
 .calls F.ref02_Raise sg_ref02_Raise [x0, (i 0)] fun z3 =>
 .l (.cmp .eql .i64) [(c 0 x0), (i 8)] fun x4 =>
 .ite x4 (
  .l (.scmp .eql) [(c 2 x0), (n xs 1)] fun x5 =>
  .ite x5 (
   .ret (.agg [(n z3 0), (n z3 1), (n z3 2), (n z3 3), (n z3 4), (n z3 5)])) (
   .loop [(i 0), (n z3 5)] fun y6 =>
   .l .len [(c 5 x0)] fun x7 =>
   .l (.cmp .lss .i64) [(n y6 0), x7] fun x8 =>
   .ite x8 (
    .l (.idx 6 true) [(c 5 x0), (n y6 0)] fun x9 =>
    .call F.ref02_put [x9, (n xs 1), x1] fun x10 =>
    .l (.idx 6 true) [(n y6 1), (n y6 0)] fun x11 =>
    .l (.upd 6 true) [(n y6 1), (n y6 0), x10] fun x12 =>
    .l (.arith .add .i64) [(n y6 0), (i 1)] fun x13 =>
    .cont 0 [x13, x12]) (
    .ret (.agg [(n z3 0), (n z3 1), (n z3 2), (n z3 3), (n z3 4), (n y6 1)])))) (
  .loop [(i 0), (n z3 5)] fun y5 =>
  .l .len [(c 5 x0)] fun x6 =>
  .l (.cmp .lss .i64) [(n y5 0), x6] fun x7 =>
  .ite x7 (
   .l (.idx 6 true) [(c 5 x0), (n y5 0)] fun x8 =>
   .call F.ref02_put [x8, (n xs 1), x1] fun x9 =>
   .l (.idx 6 true) [(n y5 1), (n y5 0)] fun x10 =>
   .l (.upd 6 true) [(n y5 1), (n y5 0), x9] fun x11 =>
   .l (.arith .add .i64) [(n y5 0), (i 1)] fun x12 =>
   .cont 0 [x12, x11]) (
   .ret (.agg [(n z3 0), (n z3 1), (n z3 2), (n z3 3), (n z3 4), (n y5 1)]))))
theorem k_ref02_put : TxOk P F.ref02_put 3 t_ref02_put := txOk_of (H := { wr := [], ro := [], nl := [], fz := [], da := [], sigs := [(33, sg_ref02_Raise)] }) (plans := []) hm Tryd.func37 rfl rfl fun xs => by kernel_rfl
def t_dual_Kind (xs : List PV) : T PV :=
.l (.cmp .lss .i64) [(n xs 0), (i 1)] fun x0 =>
.ite x0 (
 .ret (n xs 0)) (
 .l (.cmp .geq .i64) [(n xs 0), (i 8)] fun x1 =>
 .ite x1 (
  .ret (n xs 0)) (
  .l (.aidx 8 1 false) [(.agg [(i 0), (i 1), (i 2), (i 3), (i 5), (i 4), (i 7), (i 6)]), (n xs 0)] fun x2 =>
  .ret x2))
theorem k_dual_Kind : TxOk P F.dual_Kind 1 t_dual_Kind := txOk_of (H := {}) (plans := []) hm Tryd.func38 rfl rfl fun xs => by kernel_rfl
def t_monitor_values (xs : List PV) : T PV :=
.l (.mset false [.i .i64]) [(.mp [] []), (i 1), (i 2)] fun x0 =>
.l (.mset false [.i .i64]) [x0, (i 2), (i 3)] fun x1 =>
.ret x1
theorem k_monitor_values : TxOk P F.monitor_values 0 t_monitor_values := txOk_of (H := {}) (plans := []) hm Tryd.func39 rfl rfl fun xs => by kernel_rfl
def t_typetree_replace (xs : List PV) : T PV :=
.l (.okc 6 true) [(n xs 0)] fun x0 =>
.l (.okc 1 false) [(n xs 1)] fun x1 =>
.l (.okc 6 true) [(n xs 2)] fun x2 =>
.l (.cmp .eql .i64) [(c 0 x0), (i 9)] fun x3 =>
.ite x3 (
 .l (.scmp .eql) [(c 2 x0), x1] fun x4 =>
 .ite x4 (
  .call F.typetree_Raise [x2, (c 3 x0)] fun x5 =>
  .l (.okc 6 true) [x5] fun x6 =>
  .ret x6) (
  .l (.cmp .eql .i64) [(c 0 x0), (i 8)] fun x5 =>
  .ite x5 (
   .l (.scmp .eql) [(c 2 x0), x1] fun x6 =>
   .ite x6 (
    .call F.typetree_Copy [x0] fun x7 =>
    .l (.okc 6 true) [x7] fun x8 =>
    .ret x8) (
    .call F.typetree_mapped [x0, (.fn F.typetree_replace_1 [] [(.box x1), (.box x2)])] fun x7 =>
    .l (.okc 6 true) [x7] fun x8 =>
    .ret x8)) (
   .call F.typetree_mapped [x0, (.fn F.typetree_replace_1 [] [(.box x1), (.box x2)])] fun x6 =>
   .l (.okc 6 true) [x6] fun x7 =>
   .ret x7))) (
 .l (.cmp .eql .i64) [(c 0 x0), (i 8)] fun x4 =>
 .ite x4 (
  .l (.scmp .eql) [(c 2 x0), x1] fun x5 =>
  .ite x5 (
   .call F.typetree_Copy [x0] fun x6 =>
   .l (.okc 6 true) [x6] fun x7 =>
   .ret x7) (
   .call F.typetree_mapped [x0, (.fn F.typetree_replace_1 [] [(.box x1), (.box x2)])] fun x6 =>
   .l (.okc 6 true) [x6] fun x7 =>
   .ret x7)) (
  .call F.typetree_mapped [x0, (.fn F.typetree_replace_1 [] [(.box x1), (.box x2)])] fun x5 =>
  .l (.okc 6 true) [x5] fun x6 =>
  .ret x6))
theorem k_typetree_replace : TxOk P F.typetree_replace 3 t_typetree_replace := txOk_of (H := {}) (plans := []) hm Tryd.func40 rfl rfl fun xs => by kernel_rfl
def t_slices_IndexFunc_api_Type_api_Type (xs : List PV) : T PV :=
.l .len [(n xs 0)] fun x0 =>
.loop [(i 0)] fun y1 =>
.l (.cmp .lss .i64) [(n y1 0), x0] fun x2 =>
.ite x2 (
 .l (.idx 6 true) [(n xs 0), (n y1 0)] fun x3 =>
 .callv (n xs 1) [x3] fun x4 =>
 .ite x4 (
  .ret (n y1 0)) (
  .l (.arith .add .i64) [(n y1 0), (i 1)] fun x5 =>
  .cont 0 [x5])) (
 .ret (i (-1)))
theorem k_slices_IndexFunc_api_Type_api_Type : TxOk P F.slices_IndexFunc_api_Type_api_Type 2 t_slices_IndexFunc_api_Type_api_Type := txOk_of (H := {}) (plans := []) hm Tryd.func41 rfl rfl fun xs => by kernel_rfl
def t_typetree_mapped (xs : List PV) : T PV :=
.l (.okc 6 true) [(n xs 0)] fun x0 =>
.call F.slices_Clone_string_string [(c 4 x0)] fun x1 =>
.l (.okc 1 false) [x1] fun x2 =>
.l .len [(c 5 x0)] fun x3 =>
.loop [(i 0), (.sl [])] fun y4 =>
.l (.cmp .lss .i64) [(n y4 0), x3] fun x5 =>
.ite x5 (
 .l (.idx 6 true) [(c 5 x0), (n y4 0)] fun x6 =>
 .l (.okc 6 true) [x6] fun x7 =>
 .callv (n xs 1) [x7] fun x8 =>
 .l (.lst 6 true) [x8] fun x9 =>
 .l (.app 6 true 88) [(n y4 1), x9] fun x10 =>
 .l (.arith .add .i64) [(n y4 0), (i 1)] fun x11 =>
 .cont 0 [x11, x10]) (
 .ret (.agg [(c 0 x0), (c 1 x0), (c 2 x0), (c 3 x0), x2, (n y4 1)]))
theorem k_typetree_mapped : TxOk P F.typetree_mapped 2 t_typetree_mapped := txOk_of (H := {}) (plans := []) hm Tryd.func42 rfl rfl fun xs => by kernel_rfl
def t_ref02_Size (xs : List PV) : T PV :=
.l (.okc 6 true) [(n xs 0)] fun x0 =>
.loop [(i 0), (i 1)] fun y1 =>
.l .len [(c 5 x0)] fun x2 =>
.l (.cmp .lss .i64) [(n y1 0), x2] fun x3 =>
.ite x3 (
 .l (.idx 6 true) [(c 5 x0), (n y1 0)] fun x4 =>
 .call F.ref02_Size [x4] fun x5 =>
 .l (.arith .add .i64) [(n y1 1), x5] fun x6 =>
 .l (.arith .add .i64) [(n y1 0), (i 1)] fun x7 =>
 .cont 0 [x7, x6]) (
 .ret (n y1 1))
theorem k_ref02_Size : TxOk P F.ref02_Size 1 t_ref02_Size := txOk_of (H := {}) (plans := []) hm Tryd.func43 rfl rfl fun xs => by kernel_rfl
def t_ref02_node (xs : List PV) : T PV :=
.l (.okc 6 true) [(n xs 0)] fun x0 =>
.call F.ref02_shape [x0] fun x1 =>
.l .bnot [x1] fun x2 =>
.ite x2 (
 .ret (i 3)) (
 .ite (n xs 3) (
  .call F.ref02_Session [x0] fun x3 =>
  .l .bnot [x3] fun x4 =>
  .ite x4 (
   .ret (i 3)) (
   .l (.cmp .eql .i64) [(c 0 x0), (i 9)] fun x5 =>
   .ite x5 (
    .l .len [(n xs 1)] fun x6 =>
    .l (.arith .sub .i64) [x6, (i 1)] fun x7 =>
    .loop [x7] fun y8 =>
    .l (.cmp .geq .i64) [(n y8 0), (i 0)] fun x9 =>
    .ite x9 (
     .l (.idx 1 false) [(n xs 1), (n y8 0)] fun x10 =>
     .l (.scmp .eql) [x10, (c 2 x0)] fun x11 =>
     .ite x11 (
      .l (.cmp .lss .i64) [(n y8 0), (n xs 2)] fun x12 =>
      .ite x12 (
       .ret (i 0)) (
       .ret (i 3))) (
      .l (.arith .sub .i64) [(n y8 0), (i 1)] fun x12 =>
      .cont 0 [x12])) (
     .ret (i 4))) (
    .l (.cmp .eql .i64) [(c 0 x0), (i 8)] fun x6 =>
    .ite x6 (
     .l (.idx 6 true) [(c 5 x0), (i 0)] fun x7 =>
     .l (.lst 1 false) [] fun x8 =>
     .l (.app 1 false 16) [x8, (n xs 1)] fun x9 =>
     .l (.lst 1 false) [(c 2 x0)] fun x10 =>
     .l (.app 1 false 16) [x9, x10] fun x11 =>
     .call F.ref02_node [x7, x11, (n xs 2), (.bool true)] fun x12 =>
     .ret x12) (
     .loop [(i 0)] fun y7 =>
     .l .len [(c 5 x0)] fun x8 =>
     .l (.cmp .lss .i64) [(n y7 0), x8] fun x9 =>
     .ite x9 (
      .l (.idx 6 true) [(c 5 x0), (n y7 0)] fun x10 =>
      .l .len [(n xs 1)] fun x11 =>
      .l (.cmp .gtr .i64) [(n y7 0), (i 0)] fun x12 =>
      .ite x12 (
       .call F.ref02_node [x10, (n xs 1), x11, (.bool true)] fun x13 =>
       .l (.cmp .neq .i64) [x13, (i 0)] fun x14 =>
       .ite x14 (
        .ret x13) (
        .l (.arith .add .i64) [(n y7 0), (i 1)] fun x15 =>
        .cont 0 [x15])) (
       .l (.cmp .gtr .i64) [(c 0 x0), (i 5)] fun x13 =>
       .call F.ref02_node [x10, (n xs 1), x11, x13] fun x14 =>
       .l (.cmp .neq .i64) [x14, (i 0)] fun x15 =>
       .ite x15 (
        .ret x14) (
        .l (.arith .add .i64) [(n y7 0), (i 1)] fun x16 =>
        .cont 0 [x16]))) (
      .ret (i 0)))))) (
  .l (.cmp .eql .i64) [(c 0 x0), (i 9)] fun x3 =>
  .ite x3 (
   .l .len [(n xs 1)] fun x4 =>
   .l (.arith .sub .i64) [x4, (i 1)] fun x5 =>
   .loop [x5] fun y6 =>
   .l (.cmp .geq .i64) [(n y6 0), (i 0)] fun x7 =>
   .ite x7 (
    .l (.idx 1 false) [(n xs 1), (n y6 0)] fun x8 =>
    .l (.scmp .eql) [x8, (c 2 x0)] fun x9 =>
    .ite x9 (
     .l (.cmp .lss .i64) [(n y6 0), (n xs 2)] fun x10 =>
     .ite x10 (
      .ret (i 0)) (
      .ret (i 3))) (
     .l (.arith .sub .i64) [(n y6 0), (i 1)] fun x10 =>
     .cont 0 [x10])) (
    .ret (i 4))) (
   .l (.cmp .eql .i64) [(c 0 x0), (i 8)] fun x4 =>
   .ite x4 (
    .l (.idx 6 true) [(c 5 x0), (i 0)] fun x5 =>
    .l (.lst 1 false) [] fun x6 =>
    .l (.app 1 false 16) [x6, (n xs 1)] fun x7 =>
    .l (.lst 1 false) [(c 2 x0)] fun x8 =>
    .l (.app 1 false 16) [x7, x8] fun x9 =>
    .call F.ref02_node [x5, x9, (n xs 2), (.bool true)] fun x10 =>
    .ret x10) (
    .loop [(i 0)] fun y5 =>
    .l .len [(c 5 x0)] fun x6 =>
    .l (.cmp .lss .i64) [(n y5 0), x6] fun x7 =>
    .ite x7 (
     .l (.idx 6 true) [(c 5 x0), (n y5 0)] fun x8 =>
     .l .len [(n xs 1)] fun x9 =>
     .l (.cmp .gtr .i64) [(n y5 0), (i 0)] fun x10 =>
     .ite x10 (
      .call F.ref02_node [x8, (n xs 1), x9, (.bool true)] fun x11 =>
      .l (.cmp .neq .i64) [x11, (i 0)] fun x12 =>
      .ite x12 (
       .ret x11) (
       .l (.arith .add .i64) [(n y5 0), (i 1)] fun x13 =>
       .cont 0 [x13])) (
      .l (.cmp .gtr .i64) [(c 0 x0), (i 5)] fun x11 =>
      .call F.ref02_node [x8, (n xs 1), x9, x11] fun x12 =>
      .l (.cmp .neq .i64) [x12, (i 0)] fun x13 =>
      .ite x13 (
       .ret x12) (
       .l (.arith .add .i64) [(n y5 0), (i 1)] fun x14 =>
       .cont 0 [x14]))) (
     .ret (i 0))))))
theorem k_ref02_node : TxOk P F.ref02_node 4 t_ref02_node := txOk_of (H := {}) (plans := []) hm Tryd.func44 rfl rfl fun xs => by kernel_rfl
def t_typetree_Raise (xs : List PV) : T PV :=
.l (.okc 6 true) [(n xs 0)] fun x0 =>
.l (.okc 1 false) [(n xs 1)] fun x1 =>
.call F.typetree_mapped [x0, (.fn F.typetree_Raise_1 [] [(.box x1)])] fun x2 =>
.l (.okc 6 true) [x2] fun x3 =>
.l (.cmp .geq .i64) [(c 0 x0), (i 4)] fun x4 =>
.ite x4 (
 .l (.cmp .leq .i64) [(c 0 x0), (i 7)] fun x5 =>
 .ite x5 (
  .l (.arith .add .i64) [(c 1 x3), x1] fun x6 =>
  .l (.okc 1 false) [x6] fun x7 =>
  .ret (.agg [(c 0 x3), x7, (c 2 x3), (c 3 x3), (c 4 x3), (c 5 x3)])) (
  .l (.okc 6 true) [x3] fun x6 =>
  .ret x6)) (
 .l (.okc 6 true) [x3] fun x5 =>
 .ret x5)
theorem k_typetree_Raise : TxOk P F.typetree_Raise 2 t_typetree_Raise := txOk_of (H := {}) (plans := []) hm Tryd.func45 rfl rfl fun xs => by kernel_rfl
def t_typetree_replace_1 (xs : List PV) : T PV :=
.l (.okc 6 true) [(n xs 0)] fun x0 =>
.l (.unbox 1 false) [(n xs 1)] fun x1 =>
.l (.unbox 6 true) [(n xs 2)] fun x2 =>
.call F.typetree_replace [x0, x1, x2] fun x3 =>
.l (.okc 6 true) [x3] fun x4 =>
.ret x4
theorem k_typetree_replace_1 : TxOk P F.typetree_replace_1 3 t_typetree_replace_1 := txOk_of (H := {}) (plans := []) hm Tryd.func46 rfl rfl fun xs => by kernel_rfl
def t_slices_Clone_string_string (xs : List PV) : T PV :=
.nilq (n xs 0) (
 .ret (.sl [])) (
 .l (.lst 1 false) [] fun x0 =>
 .l (.app 1 false 16) [x0, (n xs 0)] fun x1 =>
 .ret x1)
theorem k_slices_Clone_string_string : TxOk P F.slices_Clone_string_string 1 t_slices_Clone_string_string := txOk_of (H := { wr := [0, 1, 2, 3, 4, 5, 6, 7, 8, 9, 10, 11, 12, 13, 14, 15, 16, 17, 18, 19, 20, 21, 22, 23, 24, 25, 26, 27, 28, 29, 30, 31, 32, 33, 34, 35, 36, 37, 38, 39], ro := [], nl := [], fz := [], da := [], sigs := [] }) (plans := []) hm Tryd.func47 rfl rfl fun xs => by kernel_rfl
def u_slices_Clone_string_string (xs : List PV) : T PV :=
.nilq (n xs 0) (
 .ret (.tup [(.sl [])])) (
 .l (.lst 1 false) [] fun x0 =>
 .l (.app 1 false 16) [x0, (n xs 0)] fun x1 =>
 .ret (.tup [x1]))
theorem m_slices_Clone_string_string : TxOkS P F.slices_Clone_string_string sg_slices_Clone_string_string u_slices_Clone_string_string := txOkS_of (H := { wr := [0, 1, 2, 3, 4, 5, 6, 7, 8, 9, 10, 11, 12, 13, 14, 15, 16, 17, 18, 19, 20, 21, 22, 23, 24, 25, 26, 27, 28, 29, 30, 31, 32, 33, 34, 35, 36, 37, 38, 39], ro := [], nl := [], fz := [], da := [], sigs := [] }) (plans := []) hm Tryd.func47 rfl fun xs => by kernel_rfl
def t_ref02_shape (xs : List PV) : T PV :=
.l (.okc 6 true) [(n xs 0)] fun x0 =>
.l (.cmp .eql .i64) [(c 0 x0), (i 1)] fun x1 =>
.ite x1 (
 .l (.cmp .eql .i64) [(c 1 x0), (i 0)] fun x2 =>
 .ite x2 (
  .l (.scmp .eql) [(c 2 x0), (.str ⟨#[]⟩)] fun x3 =>
  .ite x3 (
   .l (.cmp .eql .i64) [(c 3 x0), (i 0)] fun x4 =>
   .ite x4 (
    .l .len [(c 4 x0)] fun x5 =>
    .l (.cmp .eql .i64) [x5, (i 0)] fun x6 =>
    .ite x6 (
     .l .len [(c 5 x0)] fun x7 =>
     .l (.cmp .eql .i64) [x7, (i 0)] fun x8 =>
     .ret x8) (
     .ret (.bool false))) (
    .ret (.bool false))) (
   .ret (.bool false))) (
  .ret (.bool false))) (
 .l (.cmp .eql .i64) [(c 0 x0), (i 2)] fun x2 =>
 .ite x2 (
  .l (.cmp .eql .i64) [(c 1 x0), (i 0)] fun x3 =>
  .ite x3 (
   .l (.scmp .eql) [(c 2 x0), (.str ⟨#[]⟩)] fun x4 =>
   .ite x4 (
    .l (.cmp .eql .i64) [(c 3 x0), (i 0)] fun x5 =>
    .ite x5 (
     .l .len [(c 4 x0)] fun x6 =>
     .l (.cmp .eql .i64) [x6, (i 0)] fun x7 =>
     .ite x7 (
      .l .len [(c 5 x0)] fun x8 =>
      .l (.cmp .eql .i64) [x8, (i 0)] fun x9 =>
      .ret x9) (
      .ret (.bool false))) (
     .ret (.bool false))) (
    .ret (.bool false))) (
   .ret (.bool false))) (
  .l (.cmp .eql .i64) [(c 0 x0), (i 3)] fun x3 =>
  .ite x3 (
   .l (.cmp .eql .i64) [(c 1 x0), (i 0)] fun x4 =>
   .ite x4 (
    .l (.scmp .eql) [(c 2 x0), (.str ⟨#[]⟩)] fun x5 =>
    .ite x5 (
     .l (.cmp .eql .i64) [(c 3 x0), (i 0)] fun x6 =>
     .ite x6 (
      .l .len [(c 4 x0)] fun x7 =>
      .l (.cmp .eql .i64) [x7, (i 0)] fun x8 =>
      .ite x8 (
       .l .len [(c 5 x0)] fun x9 =>
       .l (.cmp .eql .i64) [x9, (i 0)] fun x10 =>
       .ret x10) (
       .ret (.bool false))) (
      .ret (.bool false))) (
     .ret (.bool false))) (
    .ret (.bool false))) (
   .l (.cmp .eql .i64) [(c 0 x0), (i 4)] fun x4 =>
   .ite x4 (
    .call F.ref02_prio [(c 1 x0)] fun x5 =>
    .ite x5 (
     .l (.scmp .eql) [(c 2 x0), (.str ⟨#[]⟩)] fun x6 =>
     .ite x6 (
      .l (.cmp .eql .i64) [(c 3 x0), (i 0)] fun x7 =>
      .ite x7 (
       .l .len [(c 4 x0)] fun x8 =>
       .l (.cmp .eql .i64) [x8, (i 0)] fun x9 =>
       .ite x9 (
        .l .len [(c 5 x0)] fun x10 =>
        .l (.cmp .eql .i64) [x10, (i 2)] fun x11 =>
        .ret x11) (
        .ret (.bool false))) (
       .ret (.bool false))) (
      .ret (.bool false))) (
     .ret (.bool false))) (
    .l (.cmp .eql .i64) [(c 0 x0), (i 5)] fun x5 =>
    .ite x5 (
     .call F.ref02_prio [(c 1 x0)] fun x6 =>
     .ite x6 (
      .l (.scmp .eql) [(c 2 x0), (.str ⟨#[]⟩)] fun x7 =>
      .ite x7 (
       .l (.cmp .eql .i64) [(c 3 x0), (i 0)] fun x8 =>
       .ite x8 (
        .l .len [(c 4 x0)] fun x9 =>
        .l (.cmp .eql .i64) [x9, (i 0)] fun x10 =>
        .ite x10 (
         .l .len [(c 5 x0)] fun x11 =>
         .l (.cmp .eql .i64) [x11, (i 2)] fun x12 =>
         .ret x12) (
         .ret (.bool false))) (
        .ret (.bool false))) (
       .ret (.bool false))) (
      .ret (.bool false))) (
     .l (.cmp .eql .i64) [(c 0 x0), (i 6)] fun x6 =>
     .ite x6 (
      .call F.ref02_prio [(c 1 x0)] fun x7 =>
      .ite x7 (
       .l (.scmp .eql) [(c 2 x0), (.str ⟨#[]⟩)] fun x8 =>
       .ite x8 (
        .l (.cmp .eql .i64) [(c 3 x0), (i 0)] fun x9 =>
        .ite x9 (
         .l .len [(c 4 x0)] fun x10 =>
         .l (.cmp .gtr .i64) [x10, (i 0)] fun x11 =>
         .ite x11 (
          .call F.ref02_Labels [(c 4 x0)] fun x12 =>
          .ite x12 (
           .l .len [(c 5 x0)] fun x13 =>
           .l .len [(c 4 x0)] fun x14 =>
           .l (.cmp .eql .i64) [x13, x14] fun x15 =>
           .ret x15) (
           .ret (.bool false))) (
          .ret (.bool false))) (
         .ret (.bool false))) (
        .ret (.bool false))) (
       .ret (.bool false))) (
      .l (.cmp .eql .i64) [(c 0 x0), (i 7)] fun x7 =>
      .ite x7 (
       .call F.ref02_prio [(c 1 x0)] fun x8 =>
       .ite x8 (
        .l (.scmp .eql) [(c 2 x0), (.str ⟨#[]⟩)] fun x9 =>
        .ite x9 (
         .l (.cmp .eql .i64) [(c 3 x0), (i 0)] fun x10 =>
         .ite x10 (
          .l .len [(c 4 x0)] fun x11 =>
          .l (.cmp .gtr .i64) [x11, (i 0)] fun x12 =>
          .ite x12 (
           .call F.ref02_Labels [(c 4 x0)] fun x13 =>
           .ite x13 (
            .l .len [(c 5 x0)] fun x14 =>
            .l .len [(c 4 x0)] fun x15 =>
            .l (.cmp .eql .i64) [x14, x15] fun x16 =>
            .ret x16) (
            .ret (.bool false))) (
           .ret (.bool false))) (
          .ret (.bool false))) (
         .ret (.bool false))) (
        .ret (.bool false))) (
       .l (.cmp .eql .i64) [(c 0 x0), (i 8)] fun x8 =>
       .ite x8 (
        .l (.cmp .eql .i64) [(c 1 x0), (i 0)] fun x9 =>
        .ite x9 (
         .call F.ref01_Name [(c 2 x0)] fun x10 =>
         .ite x10 (
          .l (.cmp .eql .i64) [(c 3 x0), (i 0)] fun x11 =>
          .ite x11 (
           .l .len [(c 4 x0)] fun x12 =>
           .l (.cmp .eql .i64) [x12, (i 0)] fun x13 =>
           .ite x13 (
            .l .len [(c 5 x0)] fun x14 =>
            .l (.cmp .eql .i64) [x14, (i 1)] fun x15 =>
            .ret x15) (
            .ret (.bool false))) (
           .ret (.bool false))) (
          .ret (.bool false))) (
         .ret (.bool false))) (
        .l (.cmp .eql .i64) [(c 0 x0), (i 9)] fun x9 =>
        .ite x9 (
         .l (.cmp .eql .i64) [(c 1 x0), (i 0)] fun x10 =>
         .ite x10 (
          .call F.ref01_Name [(c 2 x0)] fun x11 =>
          .ite x11 (
           .call F.ref02_prio [(c 3 x0)] fun x12 =>
           .ite x12 (
            .l .len [(c 4 x0)] fun x13 =>
            .l (.cmp .eql .i64) [x13, (i 0)] fun x14 =>
            .ite x14 (
             .l .len [(c 5 x0)] fun x15 =>
             .l (.cmp .eql .i64) [x15, (i 0)] fun x16 =>
             .ret x16) (
             .ret (.bool false))) (
            .ret (.bool false))) (
           .ret (.bool false))) (
          .ret (.bool false))) (
         .ret (.bool false))))))))))
theorem k_ref02_shape : TxOk P F.ref02_shape 1 t_ref02_shape := txOk_of (H := {}) (plans := []) hm Tryd.func48 rfl rfl fun xs => by kernel_rfl
def t_typetree_Raise_1 (xs : List PV) : T PV :=
.l (.okc 6 true) [(n xs 0)] fun x0 =>
.l (.unbox 1 false) [(n xs 1)] fun x1 =>
.call F.typetree_Raise [x0, x1] fun x2 =>
.l (.okc 6 true) [x2] fun x3 =>
.ret x3
theorem k_typetree_Raise_1 : TxOk P F.typetree_Raise_1 2 t_typetree_Raise_1 := txOk_of (H := {}) (plans := []) hm Tryd.func49 rfl rfl fun xs => by kernel_rfl
def t_ref02_prio (xs : List PV) : T PV :=
.l (.cmp .geq .i64) [(n xs 0), (i 0)] fun x0 =>
.ite x0 (
 .l (.cmp .leq .i64) [(n xs 0), (i 1000000)] fun x1 =>
 .ret x1) (
 .ret (.bool false))
theorem k_ref02_prio : TxOk P F.ref02_prio 1 t_ref02_prio := txOk_of (H := {}) (plans := []) hm Tryd.func50 rfl rfl fun xs => by kernel_rfl
def t_ref02_Labels (xs : List PV) : T PV :=
.loop [(i 0)] fun y0 =>
.l .len [(n xs 0)] fun x1 =>
.l (.cmp .lss .i64) [(n y0 0), x1] fun x2 =>
.ite x2 (
 .l (.idx 1 false) [(n xs 0), (n y0 0)] fun x3 =>
 .call F.ref01_Name [x3] fun x4 =>
 .l .bnot [x4] fun x5 =>
 .ite x5 (
  .ret (.bool false)) (
  .l (.idx 1 false) [(n xs 0), (n y0 0)] fun x6 =>
  .l (.slcT 1 false) [(n xs 0), (n y0 0)] fun x7 =>
  .call F.ref02_in [x6, x7] fun x8 =>
  .ite x8 (
   .ret (.bool false)) (
   .l (.arith .add .i64) [(n y0 0), (i 1)] fun x9 =>
   .cont 0 [x9]))) (
 .ret (.bool true))
theorem k_ref02_Labels : TxOk P F.ref02_Labels 1 t_ref02_Labels := txOk_of (H := {}) (plans := []) hm Tryd.func51 rfl rfl fun xs => by kernel_rfl
def t_ref01_Name (xs : List PV) : T PV :=
.call F.ref01_Word [(n xs 0)] fun x0 =>
.ite x0 (
 .call F.ref01_Keyword [(n xs 0)] fun x1 =>
 .l .bnot [x1] fun x2 =>
 .ret x2) (
 .ret (.bool false))
theorem k_ref01_Name : TxOk P F.ref01_Name 1 t_ref01_Name := txOk_of (H := {}) (plans := []) hm Tryd.func52 rfl rfl fun xs => by kernel_rfl
def t_ref02_in (xs : List PV) : T PV :=
.loop [(i 0)] fun y0 =>
.l .len [(n xs 1)] fun x1 =>
.l (.cmp .lss .i64) [(n y0 0), x1] fun x2 =>
.ite x2 (
 .l (.idx 1 false) [(n xs 1), (n y0 0)] fun x3 =>
 .l (.scmp .eql) [x3, (n xs 0)] fun x4 =>
 .ite x4 (
  .ret (.bool true)) (
  .l (.arith .add .i64) [(n y0 0), (i 1)] fun x5 =>
  .cont 0 [x5])) (
 .ret (.bool false))
theorem k_ref02_in : TxOk P F.ref02_in 2 t_ref02_in := txOk_of (H := {}) (plans := []) hm Tryd.func53 rfl rfl fun xs => by kernel_rfl
def t_ref01_Word (xs : List PV) : T PV :=
.l .slen [(n xs 0)] fun x0 =>
.l (.cmp .eql .i64) [x0, (i 0)] fun x1 =>
.ite x1 (
 .ret (.bool false)) (
 .l .sidx [(n xs 0), (i 0)] fun x2 =>
 .call F.ref01_Letters [] fun x3 =>
 .call F.ref01_in [x2, x3] fun x4 =>
 .l .bnot [x4] fun x5 =>
 .ite x5 (
  .ret (.bool false)) (
  .loop [(i 1)] fun y6 =>
  .l .slen [(n xs 0)] fun x7 =>
  .l (.cmp .lss .i64) [(n y6 0), x7] fun x8 =>
  .ite x8 (
   .l .sidx [(n xs 0), (n y6 0)] fun x9 =>
   .call F.ref01_Letters [] fun x10 =>
   .call F.ref01_in [x9, x10] fun x11 =>
   .l .bnot [x11] fun x12 =>
   .ite x12 (
    .l .sidx [(n xs 0), (n y6 0)] fun x13 =>
    .call F.ref01_digits [] fun x14 =>
    .call F.ref01_in [x13, x14] fun x15 =>
    .l .bnot [x15] fun x16 =>
    .ite x16 (
     .ret (.bool false)) (
     .l (.arith .add .i64) [(n y6 0), (i 1)] fun x17 =>
     .cont 0 [x17])) (
    .l (.arith .add .i64) [(n y6 0), (i 1)] fun x13 =>
    .cont 0 [x13])) (
   .ret (.bool true))))
theorem k_ref01_Word : TxOk P F.ref01_Word 1 t_ref01_Word := txOk_of (H := {}) (plans := []) hm Tryd.func54 rfl rfl fun xs => by kernel_rfl
def t_ref01_Keyword (xs : List PV) : T PV :=
.l (.lst 1 false) [(.str ⟨#[100, 101, 102]⟩), (.str ⟨#[109, 97, 105, 110]⟩), (.str ⟨#[115, 116, 111, 112]⟩), (.str ⟨#[110, 101, 119]⟩), (.str ⟨#[105, 110, 116]⟩), (.str ⟨#[98, 111, 111, 108]⟩), (.str ⟨#[101, 110, 100]⟩), (.str ⟨#[114, 101, 99]⟩), (.str ⟨#[116, 114, 117, 101]⟩), (.str ⟨#[102, 97, 108, 115, 101]⟩)] fun x0 =>
.loop [(i 0)] fun y1 =>
.l .len [x0] fun x2 =>
.l (.cmp .lss .i64) [(n y1 0), x2] fun x3 =>
.ite x3 (
 .l (.idx 1 false) [x0, (n y1 0)] fun x4 =>
 .l (.scmp .eql) [x4, (n xs 0)] fun x5 =>
 .ite x5 (
  .ret (.bool true)) (
  .l (.arith .add .i64) [(n y1 0), (i 1)] fun x6 =>
  .cont 0 [x6])) (
 .ret (.bool false))
theorem k_ref01_Keyword : TxOk P F.ref01_Keyword 1 t_ref01_Keyword := txOk_of (H := {}) (plans := []) hm Tryd.func55 rfl rfl fun xs => by kernel_rfl
def t_ref01_in (xs : List PV) : T PV :=
.loop [(i 0)] fun y0 =>
.l .slen [(n xs 1)] fun x1 =>
.l (.cmp .lss .i64) [(n y0 0), x1] fun x2 =>
.ite x2 (
 .l .sidx [(n xs 1), (n y0 0)] fun x3 =>
 .l (.cmp .eql .u8) [x3, (n xs 0)] fun x4 =>
 .ite x4 (
  .ret (.bool true)) (
  .l (.arith .add .i64) [(n y0 0), (i 1)] fun x5 =>
  .cont 0 [x5])) (
 .ret (.bool false))
theorem k_ref01_in : TxOk P F.ref01_in 2 t_ref01_in := txOk_of (H := {}) (plans := []) hm Tryd.func56 rfl rfl fun xs => by kernel_rfl
def t_ref01_Letters (xs : List PV) : T PV :=
.ret (.str ⟨#[65, 66, 67, 68, 69, 70, 71, 72, 73, 74, 75, 76, 77, 78, 79, 80, 81, 82, 83, 84, 85, 86, 87, 88, 89, 90, 97, 98, 99, 100, 101, 102, 103, 104, 105, 106, 107, 108, 109, 110, 111, 112, 113, 114, 115, 116, 117, 118, 119, 120, 121, 122, 95]⟩)
theorem k_ref01_Letters : TxOk P F.ref01_Letters 0 t_ref01_Letters := txOk_of (H := {}) (plans := []) hm Tryd.func57 rfl rfl fun xs => by kernel_rfl
def t_ref01_digits (xs : List PV) : T PV :=
.ret (.str ⟨#[48, 49, 50, 51, 52, 53, 54, 55, 56, 57]⟩)
theorem k_ref01_digits : TxOk P F.ref01_digits 0 t_ref01_digits := txOk_of (H := {}) (plans := []) hm Tryd.func58 rfl rfl fun xs => by kernel_rfl
def tb : List (Nat × Tx) := [(F.law21_MonitorDuals, ⟨2, t_law21_MonitorDuals⟩), (F.law21_MonitorApart, ⟨2, t_law21_MonitorApart⟩), (F.law21_awake, ⟨0, t_law21_awake⟩), (F.ref21_Right, ⟨1, t_ref21_Right⟩), (F.ref14_Dual, ⟨1, t_ref14_Dual⟩), (F.ref21_Blown, ⟨1, t_ref21_Blown⟩), (F.ref21_Observe, ⟨2, t_ref21_Observe⟩), (F.monitor_Monitor_Settled, ⟨1, t_monitor_Monitor_Settled⟩), (F.law21_states, ⟨1, t_law21_states⟩), (F.ref02_Same, ⟨2, t_ref02_Same⟩), (F.monitor_Monitor_State, ⟨2, t_monitor_Monitor_State⟩), (F.monitor_Monitor_Len, ⟨1, t_monitor_Monitor_Len⟩), (F.ref02_Small, ⟨2, t_ref02_Small⟩), (F.ref02_Session, ⟨1, t_ref02_Session⟩), (F.ref14_dual, ⟨2, t_ref14_dual⟩), (F.ref02_Few, ⟨2, t_ref02_Few⟩), (F.ref02_Unfold, ⟨1, t_ref02_Unfold⟩), (F.monitor_Monitor_has, ⟨2, t_monitor_Monitor_has⟩), (F.monitor_want, ⟨1, t_monitor_want⟩), (F.slices_Index_string_string, ⟨2, t_slices_Index_string_string⟩), (F.monitor_fits, ⟨2, t_monitor_fits⟩), (F.typetree_Unfold, ⟨1, t_typetree_Unfold⟩), (F.slices_ContainsFunc_api_Type_api_Type, ⟨2, t_slices_ContainsFunc_api_Type_api_Type⟩), (F.monitor_Monitor_Settled_1, ⟨1, t_monitor_Monitor_Settled_1⟩), (F.ref02_texts, ⟨2, t_ref02_texts⟩), (F.typetree_Copy, ⟨1, t_typetree_Copy⟩), (F.ref02_Right, ⟨1, t_ref02_Right⟩), (F.ref02_Raise, ⟨2, t_ref02_Raise⟩), (F.ref14_closed, ⟨2, t_ref14_closed⟩), (F.ref02_count, ⟨2, t_ref02_count⟩), (F.ref02_Depth, ⟨1, t_ref02_Depth⟩), (F.ref02_put, ⟨3, t_ref02_put⟩), (F.dual_Kind, ⟨1, t_dual_Kind⟩), (F.monitor_values, ⟨0, t_monitor_values⟩), (F.typetree_replace, ⟨3, t_typetree_replace⟩), (F.slices_IndexFunc_api_Type_api_Type, ⟨2, t_slices_IndexFunc_api_Type_api_Type⟩), (F.typetree_mapped, ⟨2, t_typetree_mapped⟩), (F.ref02_Size, ⟨1, t_ref02_Size⟩), (F.ref02_node, ⟨4, t_ref02_node⟩), (F.typetree_Raise, ⟨2, t_typetree_Raise⟩), (F.typetree_replace_1, ⟨3, t_typetree_replace_1⟩), (F.slices_Clone_string_string, ⟨1, t_slices_Clone_string_string⟩), (F.ref02_shape, ⟨1, t_ref02_shape⟩), (F.typetree_Raise_1, ⟨2, t_typetree_Raise_1⟩), (F.ref02_prio, ⟨1, t_ref02_prio⟩), (F.ref02_Labels, ⟨1, t_ref02_Labels⟩), (F.ref01_Name, ⟨1, t_ref01_Name⟩), (F.ref02_in, ⟨2, t_ref02_in⟩), (F.ref01_Word, ⟨1, t_ref01_Word⟩), (F.ref01_Keyword, ⟨1, t_ref01_Keyword⟩), (F.ref01_in, ⟨2, t_ref01_in⟩), (F.ref01_Letters, ⟨0, t_ref01_Letters⟩), (F.ref01_digits, ⟨0, t_ref01_digits⟩)]
def tbS : List (Nat × TxS) := [(F.monitor_New, ⟨sg_monitor_New, u_monitor_New⟩), (F.monitor_Monitor_Observe, ⟨sg_monitor_Monitor_Observe, u_monitor_Monitor_Observe⟩), (F.monitor_Monitor_Observe, ⟨sg_monitor_Monitor_Observe_Nil, u_monitor_Monitor_Observe_Nil⟩), (F.law21_states, ⟨sg_law21_states, u_law21_states⟩), (F.monitor_Monitor_State, ⟨sg_monitor_Monitor_State, u_monitor_Monitor_State⟩), (F.monitor_Monitor_Add, ⟨sg_monitor_Monitor_Add, u_monitor_Monitor_Add⟩), (F.ref02_Raise, ⟨sg_ref02_Raise, u_ref02_Raise⟩), (F.slices_Clone_string_string, ⟨sg_slices_Clone_string_string, u_slices_Clone_string_string⟩)]
theorem allOk : AllOk P tb := ⟨k_law21_MonitorDuals, k_law21_MonitorApart, k_law21_awake, k_ref21_Right, k_ref14_Dual, k_ref21_Blown, k_ref21_Observe, k_monitor_Monitor_Settled, k_law21_states, k_ref02_Same, k_monitor_Monitor_State, k_monitor_Monitor_Len, k_ref02_Small, k_ref02_Session, k_ref14_dual, k_ref02_Few, k_ref02_Unfold, k_monitor_Monitor_has, k_monitor_want, k_slices_Index_string_string, k_monitor_fits, k_typetree_Unfold, k_slices_ContainsFunc_api_Type_api_Type, k_monitor_Monitor_Settled_1, k_ref02_texts, k_typetree_Copy, k_ref02_Right, k_ref02_Raise, k_ref14_closed, k_ref02_count, k_ref02_Depth, k_ref02_put, k_dual_Kind, k_monitor_values, k_typetree_replace, k_slices_IndexFunc_api_Type_api_Type, k_typetree_mapped, k_ref02_Size, k_ref02_node, k_typetree_Raise, k_typetree_replace_1, k_slices_Clone_string_string, k_ref02_shape, k_typetree_Raise_1, k_ref02_prio, k_ref02_Labels, k_ref01_Name, k_ref02_in, k_ref01_Word, k_ref01_Keyword, k_ref01_in, k_ref01_Letters, k_ref01_digits, trivial⟩
theorem allOkS : AllOkS P tbS := ⟨m_monitor_New, m_monitor_Monitor_Observe, m_monitor_Monitor_Observe_Nil, m_law21_states, m_monitor_Monitor_State, m_monitor_Monitor_Add, m_ref02_Raise, m_slices_Clone_string_string, trivial⟩
end Go.Proofs.YtchedinkkliogaaDoor.Tx

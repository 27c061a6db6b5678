/- Texts of functions, printed by a program (wip/dev/Gen.lean). -/
import Derived.Test.YtkihijbeknphpaaDoorLfD
import Derived.Test.YtkihijbeknphpaaDoorChecked
import Derived.KernelRfl
set_option linter.all false
namespace Go.Proofs.YtkihijbeknphpaaDoor.Tx
open Go.Lf Go.Lf.S
set_option maxRecDepth 100000
instance gl : Gl := { l := [(0, (.agg [(.str ⟨#[100, 101, 102]⟩), (.str ⟨#[109, 97, 105, 110]⟩), (.str ⟨#[115, 116, 111, 112]⟩), (.str ⟨#[110, 101, 119]⟩), (.str ⟨#[105, 110, 116]⟩), (.str ⟨#[98, 111, 111, 108]⟩), (.str ⟨#[101, 110, 100]⟩), (.str ⟨#[114, 101, 99]⟩), (.str ⟨#[116, 114, 117, 101]⟩), (.str ⟨#[102, 97, 108, 115, 101]⟩)]), 10, true)] }
noncomputable abbrev P : Program := Tryd.prog
instance xc : XC P := xc_none rfl
namespace F
abbrev law02_TypetreeRight : Nat := 3
abbrev law02_TypetreeMeasures : Nat := 4
abbrev law02_awake : Nat := 5
abbrev ref02_Few : Nat := 6
abbrev typetree_Right : Nat := 7
abbrev ref02_Right : Nat := 8
abbrev typetree_Size : Nat := 9
abbrev ref02_Size : Nat := 10
abbrev typetree_Depth : Nat := 11
abbrev ref02_Depth : Nat := 12
abbrev typetree_Same : Nat := 13
abbrev ref02_Same : Nat := 14
abbrev typetree_Session : Nat := 15
abbrev ref02_Session : Nat := 16
abbrev law02_loop : Nat := 17
abbrev law02_send : Nat := 18
abbrev typetree_Unfold : Nat := 19
abbrev typetree_Raise : Nat := 20
abbrev ref02_count : Nat := 21
abbrev typetree_shallow : Nat := 22
abbrev typetree_few : Nat := 23
abbrev typetree_check : Nat := 24
abbrev ref02_node : Nat := 25
abbrev typetree_nodes : Nat := 26
abbrev slices_Equal_string_string : Nat := 27
abbrev slices_EqualFunc_api_Type_api_Type_api_Type_api_Type : Nat := 28
abbrev ref02_texts : Nat := 29
abbrev typetree_replace : Nat := 30
abbrev typetree_Copy : Nat := 31
abbrev typetree_mapped : Nat := 32
abbrev typetree_Raise_1 : Nat := 33
abbrev slices_ContainsFunc_api_Type_api_Type : Nat := 34
abbrev typetree_shallow_1 : Nat := 35
abbrev typetree_fields : Nat := 36
abbrev typetree_find : Nat := 37
abbrev slices_Clone_typetree_bound_typetree_bound : Nat := 38
abbrev ref02_shape : Nat := 39
abbrev typetree_nodes_1 : Nat := 40
abbrev typetree_visit : Nat := 41
abbrev typetree_replace_1 : Nat := 42
abbrev slices_Clone_string_string : Nat := 43
abbrev slices_IndexFunc_api_Type_api_Type : Nat := 44
abbrev typetree_rules : Nat := 45
abbrev typetree_within : Nat := 46
abbrev lex_Name : Nat := 47
abbrev typetree_distinct : Nat := 48
abbrev slices_Backward_typetree_bound_typetree_bound : Nat := 49
abbrev ref02_prio : Nat := 50
abbrev ref02_Labels : Nat := 51
abbrev ref01_Name : Nat := 52
abbrev lex_letter : Nat := 53
abbrev lex_span : Nat := 54
abbrev lex_Name_1 : Nat := 55
abbrev lex_digit : Nat := 56
abbrev lex_Keyword : Nat := 57
abbrev slices_Backward_typetree_bound_typetree_bound_1 : Nat := 58
abbrev ref02_in : Nat := 59
abbrev ref01_Word : Nat := 60
abbrev ref01_Keyword : Nat := 61
abbrev slices_Contains_string_string : Nat := 62
abbrev ref01_in : Nat := 63
abbrev ref01_Letters : Nat := 64
abbrev ref01_digits : Nat := 65
abbrev slices_Index_string_string : Nat := 66
end F
theorem hm : Tryd.prog.follows .mixedOrders = true := by kernel_rfl
/-- slices.Clone[[]duologue/typetree.bound,duologue/typetree.bound], with memory -/
def sg_slices_Clone_typetree_bound_typetree_bound : Sig := { args := [.at (.dat 0)], obs := [], res := .at (.own 9000), robs := [(9000, .arr false 50 2 true 0)], nout := 1 }
/-- slices.Clone[[]string,string], with memory -/
def sg_slices_Clone_string_string : Sig := { args := [.at (.dat 0)], obs := [], res := .at (.own 9000), robs := [(9000, .arr false 9 1 false 0)], nout := 1 }
def t_law02_TypetreeRight (xs : List PV) : T PV :=
.l (.okc 6 true) [(n xs 0)] fun x0 =>
.call F.law02_awake [] fun x1 =>
.l .bnot [x1] fun x2 =>
.ite x2 (
 .call F.law02_awake [] fun x3 =>
 .ret x3) (
 .call F.ref02_Few [x0, (i 12000)] fun x3 =>
 .l .bnot [x3] fun x4 =>
 .ite x4 (
  .call F.law02_awake [] fun x5 =>
  .ret x5) (
  .call F.typetree_Right [x0] fun x5 =>
  .call F.ref02_Right [x0] fun x6 =>
  .l (.cmp .eql .i64) [x5, x6] fun x7 =>
  .ret x7))
theorem k_law02_TypetreeRight : TxOk P F.law02_TypetreeRight 1 t_law02_TypetreeRight := txOk_of (H := {}) (plans := []) hm Tryd.func3 rfl rfl fun xs => by kernel_rfl
def t_law02_TypetreeMeasures (xs : List PV) : T PV :=
.l (.okc 6 true) [(n xs 0)] fun x0 =>
.l (.okc 6 true) [(n xs 1)] fun x1 =>
.call F.law02_awake [] fun x2 =>
.l .bnot [x2] fun x3 =>
.ite x3 (
 .call F.law02_awake [] fun x4 =>
 .ret x4) (
 .call F.ref02_Few [x0, (i 2000)] fun x4 =>
 .l .bnot [x4] fun x5 =>
 .ite x5 (
  .call F.law02_awake [] fun x6 =>
  .ret x6) (
  .call F.ref02_Few [x1, (i 2000)] fun x6 =>
  .l .bnot [x6] fun x7 =>
  .ite x7 (
   .call F.law02_awake [] fun x8 =>
   .ret x8) (
   .call F.typetree_Size [x0] fun x8 =>
   .call F.ref02_Size [x0] fun x9 =>
   .l (.cmp .eql .i64) [x8, x9] fun x10 =>
   .ite x10 (
    .call F.typetree_Depth [x0] fun x11 =>
    .call F.ref02_Depth [x0] fun x12 =>
    .l (.cmp .eql .i64) [x11, x12] fun x13 =>
    .ite x13 (
     .call F.typetree_Same [x0, x1] fun x14 =>
     .call F.ref02_Same [x0, x1] fun x15 =>
     .l (.bcmp .eql) [x14, x15] fun x16 =>
     .ite x16 (
      .call F.typetree_Same [x1, x0] fun x17 =>
      .call F.ref02_Same [x0, x1] fun x18 =>
      .l (.bcmp .eql) [x17, x18] fun x19 =>
      .ite x19 (
       .call F.typetree_Same [x0, x0] fun x20 =>
       .ite x20 (
        .call F.typetree_Session [x0] fun x21 =>
        .call F.ref02_Session [x0] fun x22 =>
        .l (.bcmp .eql) [x21, x22] fun x23 =>
        .ret x23) (
        .ret (.bool false))) (
       .ret (.bool false))) (
      .ret (.bool false))) (
     .ret (.bool false))) (
    .ret (.bool false)))))
theorem k_law02_TypetreeMeasures : TxOk P F.law02_TypetreeMeasures 2 t_law02_TypetreeMeasures := txOk_of (H := {}) (plans := []) hm Tryd.func4 rfl rfl fun xs => by kernel_rfl
def t_law02_awake (xs : List PV) : T PV :=
.call F.law02_loop [(i 0), (i 2)] fun x0 =>
.l (.okc 6 true) [x0] fun x1 =>
.l (.lst 6 true) [(.agg [(i 9), (i 0), (.str ⟨#[116]⟩), (i 0), (.sl []), (.sl [])])] fun x2 =>
.call F.typetree_Right [x1] fun x3 =>
.l (.cmp .eql .i64) [x3, (i 0)] fun x4 =>
.ite x4 (
 .call F.typetree_Right [(.agg [(i 9), (i 0), (.str ⟨#[116]⟩), (i 0), (.sl []), (.sl [])])] fun x5 =>
 .l (.cmp .eql .i64) [x5, (i 4)] fun x6 =>
 .ite x6 (
  .call F.typetree_Right [(.agg [(i 8), (i 0), (.str ⟨#[116]⟩), (i 0), (.sl []), x2])] fun x7 =>
  .l (.cmp .eql .i64) [x7, (i 3)] fun x8 =>
  .ite x8 (
   .call F.typetree_Right [(.agg [(i 1), (i 0), (.str ⟨#[]⟩), (i 0), (.sl []), (.sl [])])] fun x9 =>
   .l (.cmp .eql .i64) [x9, (i 0)] fun x10 =>
   .ite x10 (
    .call F.law02_send [(i 0), (.agg [(i 1), (i 0), (.str ⟨#[]⟩), (i 0), (.sl []), (.sl [])])] fun x11 =>
    .call F.typetree_Right [x11] fun x12 =>
    .l (.cmp .eql .i64) [x12, (i 3)] fun x13 =>
    .ite x13 (
     .call F.typetree_Unfold [x1] fun x14 =>
     .call F.law02_loop [(i 2), (i 2)] fun x15 =>
     .call F.law02_send [(i 0), x15] fun x16 =>
     .call F.ref02_Same [x14, x16] fun x17 =>
     .ite x17 (
      .call F.typetree_Size [x1] fun x18 =>
      .l (.cmp .eql .i64) [x18, (i 4)] fun x19 =>
      .ite x19 (
       .call F.typetree_Depth [x1] fun x20 =>
       .l (.cmp .eql .i64) [x20, (i 3)] fun x21 =>
       .ite x21 (
        .call F.typetree_Same [x1, x1] fun x22 =>
        .ite x22 (
         .call F.typetree_Same [x1, (.agg [(i 9), (i 0), (.str ⟨#[116]⟩), (i 0), (.sl []), (.sl [])])] fun x23 =>
         .l .bnot [x23] fun x24 =>
         .ite x24 (
          .call F.typetree_Raise [x1, (i 3)] fun x25 =>
          .call F.law02_loop [(i 3), (i 2)] fun x26 =>
          .call F.ref02_Same [x25, x26] fun x27 =>
          .ite x27 (
           .call F.typetree_Session [(.agg [(i 2), (i 0), (.str ⟨#[]⟩), (i 0), (.sl []), (.sl [])])] fun x28 =>
           .l .bnot [x28] fun x29 =>
           .ret x29) (
           .ret (.bool false))) (
          .ret (.bool false))) (
         .ret (.bool false))) (
        .ret (.bool false))) (
       .ret (.bool false))) (
      .ret (.bool false))) (
     .ret (.bool false))) (
    .ret (.bool false))) (
   .ret (.bool false))) (
  .ret (.bool false))) (
 .ret (.bool false))
theorem k_law02_awake : TxOk P F.law02_awake 0 t_law02_awake := txOk_of (H := {}) (plans := []) hm Tryd.func5 rfl rfl fun xs => by kernel_rfl
def t_ref02_Few (xs : List PV) : T PV :=
.l (.okc 6 true) [(n xs 0)] fun x0 =>
.call F.ref02_count [x0, (n xs 1)] fun x1 =>
.l (.cmp .geq .i64) [x1, (i 0)] fun x2 =>
.ite x2 (
 .call F.ref02_Depth [x0] fun x3 =>
 .l (.cmp .leq .i64) [x3, (i 150)] fun x4 =>
 .ret x4) (
 .ret (.bool false))
theorem k_ref02_Few : TxOk P F.ref02_Few 2 t_ref02_Few := txOk_of (H := {}) (plans := []) hm Tryd.func6 rfl rfl fun xs => by kernel_rfl
def t_typetree_Right (xs : List PV) : T PV :=
.l (.okc 6 true) [(n xs 0)] fun x0 =>
.call F.typetree_shallow [x0, (i 100)] fun x1 =>
.l .bnot [x1] fun x2 =>
.ite x2 (
 .ret (i 2)) (
 .call F.typetree_few [x0, (i 10000)] fun x3 =>
 .l .bnot [x3] fun x4 =>
 .ite x4 (
  .ret (i 2)) (
  .call F.typetree_check [x0, (.sl []), (.bool false)] fun x5 =>
  .ret x5))
theorem k_typetree_Right : TxOk P F.typetree_Right 1 t_typetree_Right := txOk_of (H := {}) (plans := []) hm Tryd.func7 rfl rfl fun xs => by kernel_rfl
def t_ref02_Right (xs : List PV) : T PV :=
.l (.okc 6 true) [(n xs 0)] fun x0 =>
.call F.ref02_Depth [x0] fun x1 =>
.l (.cmp .gtr .i64) [x1, (i 100)] fun x2 =>
.ite x2 (
 .ret (i 2)) (
 .call F.ref02_Size [x0] fun x3 =>
 .l (.cmp .gtr .i64) [x3, (i 10000)] fun x4 =>
 .ite x4 (
  .ret (i 2)) (
  .call F.ref02_node [x0, (.sl []), (i 0), (.bool false)] fun x5 =>
  .ret x5))
theorem k_ref02_Right : TxOk P F.ref02_Right 1 t_ref02_Right := txOk_of (H := {}) (plans := []) hm Tryd.func8 rfl rfl fun xs => by kernel_rfl
def t_typetree_Size (xs : List PV) : T PV :=
.l (.okc 6 true) [(n xs 0)] fun x0 =>
.l (.okc 1 false) [(i 0)] fun x1 =>
.call F.typetree_nodes [x0] fun x2 =>
.iter x2 1 [x1] (fun e3 y3 =>
 .l (.arith .add .i64) [(n y3 0), (i 1)] fun x4 =>
 .l (.okc 1 false) [x4] fun x5 =>
 .cont 0 [x5]) (fun e3 y3 =>
 .l (.arith .add .i64) [(n y3 0), (i 1)] fun x4 =>
 .l (.okc 1 false) [x4] fun x5 =>
 .fail) fun y3 =>
.ret (n y3 0)
theorem k_typetree_Size : TxOk P F.typetree_Size 1 t_typetree_Size := txOk_of (H := {}) (plans := []) hm Tryd.func9 rfl rfl fun xs => by kernel_rfl
def t_ref02_Size (xs : List PV) : T PV :=
.l (.okc 6 true) [(n xs 0)] fun x0 =>
.loop [(i 0), (i 1)] fun y1 =>
.l .len [(c 5 x0)] fun x2 =>
.l (.cmp .lss .i64) [(n y1 0), x2] fun x3 =>
.ite x3 (
 .l (.idx 6 true) [(c 5 x0), (n y1 0)] fun x4 =>
 .call F.ref02_Size [x4] fun x5 =>
 .l (.arith .add .i64) [(n y1 1), x5] fun x6 =>
 .l (.arith .add .i64) [(n y1 0), (i 1)] fun x7 =>
 .cont 0 [x7, x6]) (
 .ret (n y1 1))
theorem k_ref02_Size : TxOk P F.ref02_Size 1 t_ref02_Size := txOk_of (H := {}) (plans := []) hm Tryd.func10 rfl rfl fun xs => by kernel_rfl
def t_typetree_Depth (xs : List PV) : T PV :=
.l (.okc 6 true) [(n xs 0)] fun x0 =>
.l .len [(c 5 x0)] fun x1 =>
.loop [(i 0), (i 0)] fun y2 =>
.l (.cmp .lss .i64) [(n y2 0), x1] fun x3 =>
.ite x3 (
 .l (.idx 6 true) [(c 5 x0), (n y2 0)] fun x4 =>
 .l (.okc 6 true) [x4] fun x5 =>
 .call F.typetree_Depth [x5] fun x6 =>
 .l (.mx .i64) [(n y2 1), x6] fun x7 =>
 .l (.arith .add .i64) [(n y2 0), (i 1)] fun x8 =>
 .cont 0 [x8, x7]) (
 .l (.arith .add .i64) [(n y2 1), (i 1)] fun x4 =>
 .ret x4)
theorem k_typetree_Depth : TxOk P F.typetree_Depth 1 t_typetree_Depth := txOk_of (H := {}) (plans := []) hm Tryd.func11 rfl rfl fun xs => by kernel_rfl
def t_ref02_Depth (xs : List PV) : T PV :=
.l (.okc 6 true) [(n xs 0)] fun x0 =>
.loop [(i 0), (i 0)] fun y1 =>
.l .len [(c 5 x0)] fun x2 =>
.l (.cmp .lss .i64) [(n y1 0), x2] fun x3 =>
.ite x3 (
 .l (.idx 6 true) [(c 5 x0), (n y1 0)] fun x4 =>
 .call F.ref02_Depth [x4] fun x5 =>
 .l (.mx .i64) [(n y1 1), x5] fun x6 =>
 .l (.arith .add .i64) [(n y1 0), (i 1)] fun x7 =>
 .cont 0 [x7, x6]) (
 .l (.arith .add .i64) [(n y1 1), (i 1)] fun x4 =>
 .ret x4)
theorem k_ref02_Depth : TxOk P F.ref02_Depth 1 t_ref02_Depth := txOk_of (H := {}) (plans := []) hm Tryd.func12 rfl rfl fun xs => by kernel_rfl
def t_typetree_Same (xs : List PV) : T PV :=
.l (.okc 6 true) [(n xs 0)] fun x0 =>
.l (.okc 6 true) [(n xs 1)] fun x1 =>
.l (.cmp .eql .i64) [(c 0 x0), (c 0 x1)] fun x2 =>
.ite x2 (
 .l (.cmp .eql .i64) [(c 1 x0), (c 1 x1)] fun x3 =>
 .ite x3 (
  .l (.scmp .eql) [(c 2 x0), (c 2 x1)] fun x4 =>
  .ite x4 (
   .l (.cmp .eql .i64) [(c 3 x0), (c 3 x1)] fun x5 =>
   .ite x5 (
    .call F.slices_Equal_string_string [(c 4 x0), (c 4 x1)] fun x6 =>
    .ite x6 (
     .call F.slices_EqualFunc_api_Type_api_Type_api_Type_api_Type [(c 5 x0), (c 5 x1), (.fn F.typetree_Same [] [])] fun x7 =>
     .ret x7) (
     .ret (.bool false))) (
    .ret (.bool false))) (
   .ret (.bool false))) (
  .ret (.bool false))) (
 .ret (.bool false))
theorem k_typetree_Same : TxOk P F.typetree_Same 2 t_typetree_Same := txOk_of (H := {}) (plans := []) hm Tryd.func13 rfl rfl fun xs => by kernel_rfl
def t_ref02_Same (xs : List PV) : T PV :=
.l (.okc 6 true) [(n xs 0)] fun x0 =>
.l (.okc 6 true) [(n xs 1)] fun x1 =>
.l (.cmp .neq .i64) [(c 0 x0), (c 0 x1)] fun x2 =>
.ite x2 (
 .ret (.bool false)) (
 .l (.cmp .neq .i64) [(c 1 x0), (c 1 x1)] fun x3 =>
 .ite x3 (
  .ret (.bool false)) (
  .l (.scmp .neq) [(c 2 x0), (c 2 x1)] fun x4 =>
  .ite x4 (
   .ret (.bool false)) (
   .l (.cmp .neq .i64) [(c 3 x0), (c 3 x1)] fun x5 =>
   .ite x5 (
    .ret (.bool false)) (
    .call F.ref02_texts [(c 4 x0), (c 4 x1)] fun x6 =>
    .l .bnot [x6] fun x7 =>
    .ite x7 (
     .ret (.bool false)) (
     .l .len [(c 5 x0)] fun x8 =>
     .l .len [(c 5 x1)] fun x9 =>
     .l (.cmp .neq .i64) [x8, x9] fun x10 =>
     .ite x10 (
      .ret (.bool false)) (
      .loop [(i 0)] fun y11 =>
      .l .len [(c 5 x0)] fun x12 =>
      .l (.cmp .lss .i64) [(n y11 0), x12] fun x13 =>
      .ite x13 (
       .l (.idx 6 true) [(c 5 x0), (n y11 0)] fun x14 =>
       .l (.idx 6 true) [(c 5 x1), (n y11 0)] fun x15 =>
       .call F.ref02_Same [x14, x15] fun x16 =>
       .l .bnot [x16] fun x17 =>
       .ite x17 (
        .ret (.bool false)) (
        .l (.arith .add .i64) [(n y11 0), (i 1)] fun x18 =>
        .cont 0 [x18])) (
       .ret (.bool true))))))))
theorem k_ref02_Same : TxOk P F.ref02_Same 2 t_ref02_Same := txOk_of (H := {}) (plans := []) hm Tryd.func14 rfl rfl fun xs => by kernel_rfl
def t_typetree_Session (xs : List PV) : T PV :=
.l (.okc 6 true) [(n xs 0)] fun x0 =>
.l (.cmp .neq .i64) [(c 0 x0), (i 1)] fun x1 =>
.ite x1 (
 .l (.cmp .neq .i64) [(c 0 x0), (i 2)] fun x2 =>
 .ret x2) (
 .ret (.bool false))
theorem k_typetree_Session : TxOk P F.typetree_Session 1 t_typetree_Session := txOk_of (H := {}) (plans := []) hm Tryd.func15 rfl rfl fun xs => by kernel_rfl
def t_ref02_Session (xs : List PV) : T PV :=
.l (.okc 6 true) [(n xs 0)] fun x0 =>
.l (.cmp .neq .i64) [(c 0 x0), (i 1)] fun x1 =>
.ite x1 (
 .l (.cmp .neq .i64) [(c 0 x0), (i 2)] fun x2 =>
 .ret x2) (
 .ret (.bool false))
theorem k_ref02_Session : TxOk P F.ref02_Session 1 t_ref02_Session := txOk_of (H := {}) (plans := []) hm Tryd.func16 rfl rfl fun xs => by kernel_rfl
def t_law02_loop (xs : List PV) : T PV :=
.l (.okcs [(1, false)]) [(n xs 1)] fun x0 =>
.call F.law02_send [(n xs 0), (.agg [(i 9), (i 0), (.str ⟨#[116]⟩), (n xs 1), (.sl []), (.sl [])])] fun x1 =>
.l (.lst 6 true) [x1] fun x2 =>
.ret (.agg [(i 8), (i 0), (.str ⟨#[116]⟩), (i 0), (.sl []), x2])
theorem k_law02_loop : TxOk P F.law02_loop 2 t_law02_loop := txOk_of (H := {}) (plans := []) hm Tryd.func17 rfl rfl fun xs => by kernel_rfl
def t_law02_send (xs : List PV) : T PV :=
.l (.okc 6 true) [(n xs 1)] fun x0 =>
.l (.lst 6 true) [(.agg [(i 1), (i 0), (.str ⟨#[]⟩), (i 0), (.sl []), (.sl [])]), x0] fun x1 =>
.l (.okcs [(1, false)]) [(n xs 0)] fun x2 =>
.ret (.agg [(i 4), (n xs 0), (.str ⟨#[]⟩), (i 0), (.sl []), x1])
theorem k_law02_send : TxOk P F.law02_send 2 t_law02_send := txOk_of (H := {}) (plans := []) hm Tryd.func18 rfl rfl fun xs => by kernel_rfl
def t_typetree_Unfold (xs : List PV) : T PV :=
.l (.okc 6 true) [(n xs 0)] fun x0 =>
.loop [x0] fun y1 =>
.l (.cmp .eql .i64) [(c 0 (n y1 0)), (i 8)] fun x2 =>
.ite x2 (
 .l .len [(c 5 (n y1 0))] fun x3 =>
 .l (.cmp .eql .i64) [x3, (i 1)] fun x4 =>
 .ite x4 (
  .l (.idx 6 true) [(c 5 (n y1 0)), (i 0)] fun x5 =>
  .call F.typetree_replace [x5, (c 2 (n y1 0)), (n y1 0)] fun x6 =>
  .l (.okc 6 true) [x6] fun x7 =>
  .cont 0 [x7]) (
  .call F.typetree_Copy [(n y1 0)] fun x5 =>
  .l (.okc 6 true) [x5] fun x6 =>
  .ret x6)) (
 .call F.typetree_Copy [(n y1 0)] fun x3 =>
 .l (.okc 6 true) [x3] fun x4 =>
 .ret x4)
theorem k_typetree_Unfold : TxOk P F.typetree_Unfold 1 t_typetree_Unfold := txOk_of (H := {}) (plans := []) hm Tryd.func19 rfl rfl fun xs => by kernel_rfl
def t_typetree_Raise (xs : List PV) : T PV :=
.l (.okc 6 true) [(n xs 0)] fun x0 =>
.l (.okc 1 false) [(n xs 1)] fun x1 =>
.call F.typetree_mapped [x0, (.fn F.typetree_Raise_1 [] [(.box x1)])] fun x2 =>
.l (.okc 6 true) [x2] fun x3 =>
.l (.cmp .geq .i64) [(c 0 x0), (i 4)] fun x4 =>
.ite x4 (
 .l (.cmp .leq .i64) [(c 0 x0), (i 7)] fun x5 =>
 .ite x5 (
  .l (.arith .add .i64) [(c 1 x3), x1] fun x6 =>
  .l (.okc 1 false) [x6] fun x7 =>
  .ret (.agg [(c 0 x3), x7, (c 2 x3), (c 3 x3), (c 4 x3), (c 5 x3)])) (
  .l (.okc 6 true) [x3] fun x6 =>
  .ret x6)) (
 .l (.okc 6 true) [x3] fun x5 =>
 .ret x5)
theorem k_typetree_Raise : TxOk P F.typetree_Raise 2 t_typetree_Raise := txOk_of (H := {}) (plans := []) hm Tryd.func20 rfl rfl fun xs => by kernel_rfl
def t_ref02_count (xs : List PV) : T PV :=
.l (.okc 6 true) [(n xs 0)] fun x0 =>
.l (.arith .sub .i64) [(n xs 1), (i 1)] fun x1 =>
.loop [(i 0), x1] fun y2 =>
.l .len [(c 5 x0)] fun x3 =>
.l (.cmp .lss .i64) [(n y2 0), x3] fun x4 =>
.ite x4 (
 .l (.cmp .geq .i64) [(n y2 1), (i 0)] fun x5 =>
 .ite x5 (
  .l (.idx 6 true) [(c 5 x0), (n y2 0)] fun x6 =>
  .call F.ref02_count [x6, (n y2 1)] fun x7 =>
  .l (.arith .add .i64) [(n y2 0), (i 1)] fun x8 =>
  .cont 0 [x8, x7]) (
  .ret (n y2 1))) (
 .ret (n y2 1))
theorem k_ref02_count : TxOk P F.ref02_count 2 t_ref02_count := txOk_of (H := {}) (plans := []) hm Tryd.func21 rfl rfl fun xs => by kernel_rfl
def t_typetree_shallow (xs : List PV) : T PV :=
.l (.okc 6 true) [(n xs 0)] fun x0 =>
.l (.okc 1 false) [(n xs 1)] fun x1 =>
.l (.cmp .gtr .i64) [x1, (i 0)] fun x2 =>
.ite x2 (
 .call F.slices_ContainsFunc_api_Type_api_Type [(c 5 x0), (.fn F.typetree_shallow_1 [] [(.box x1)])] fun x3 =>
 .l .bnot [x3] fun x4 =>
 .ret x4) (
 .ret (.bool false))
theorem k_typetree_shallow : TxOk P F.typetree_shallow 2 t_typetree_shallow := txOk_of (H := {}) (plans := []) hm Tryd.func22 rfl rfl fun xs => by kernel_rfl
def t_typetree_few (xs : List PV) : T PV :=
.l (.okc 6 true) [(n xs 0)] fun x0 =>
.l (.okc 1 false) [(n xs 1)] fun x1 =>
.call F.typetree_nodes [x0] fun x2 =>
.iter x2 1 [x1] (fun e3 y3 =>
 .l (.arith .sub .i64) [(n y3 0), (i 1)] fun x4 =>
 .l (.okc 1 false) [x4] fun x5 =>
 .l (.cmp .lss .i64) [x5, (i 0)] fun x6 =>
 .ite x6 (
  .fail) (
  .cont 0 [x5])) (fun e3 y3 =>
 .l (.arith .sub .i64) [(n y3 0), (i 1)] fun x4 =>
 .l (.okc 1 false) [x4] fun x5 =>
 .l (.cmp .lss .i64) [x5, (i 0)] fun x6 =>
 .ite x6 (
  .ret (.bool false)) (
  .fail)) fun y3 =>
.ret (.bool true)
theorem k_typetree_few : TxOk P F.typetree_few 2 t_typetree_few := txOk_of (H := {}) (plans := []) hm Tryd.func23 rfl rfl fun xs => by kernel_rfl
def t_typetree_check (xs : List PV) : T PV :=
.l (.okc 6 true) [(n xs 0)] fun x0 =>
.call F.typetree_fields [x0] fun x1 =>
.l .bnot [x1] fun x2 =>
.ite x2 (
 .ret (i 3)) (
 .ite (n xs 2) (
  .call F.typetree_Session [x0] fun x3 =>
  .l .bnot [x3] fun x4 =>
  .ite x4 (
   .ret (i 3)) (
   .l (.cmp .eql .i64) [(c 0 x0), (i 9)] fun x5 =>
   .ite x5 (
    .call F.typetree_find [(n xs 1), (c 2 x0)] fun x6 =>
    .l (.tc 0) [x6] fun x7 =>
    .l (.tc 1) [x6] fun x8 =>
    .l (.okc 2 true) [x7] fun x9 =>
    .l .bnot [x8] fun x10 =>
    .ite x10 (
     .ret (i 4)) (
     .l .bnot [(c 1 x9)] fun x11 =>
     .ite x11 (
      .ret (i 3)) (
      .l .len [(c 5 x0)] fun x12 =>
      .loop [(i 0)] fun y13 =>
      .l (.cmp .lss .i64) [(n y13 0), x12] fun x14 =>
      .ite x14 (
       .l (.idx 6 true) [(c 5 x0), (n y13 0)] fun x15 =>
       .l (.okc 6 true) [x15] fun x16 =>
       .l (.cmp .eql .i64) [(n y13 0), (i 0)] fun x17 =>
       .ite x17 (
        .l (.cmp .eql .i64) [(c 0 x0), (i 4)] fun x18 =>
        .ite x18 (
         .l .bnot [(.bool true)] fun x19 =>
         .call F.typetree_check [x16, (n xs 1), x19] fun x20 =>
         .l (.cmp .neq .i64) [x20, (i 0)] fun x21 =>
         .ite x21 (
          .ret x20) (
          .l (.arith .add .i64) [(n y13 0), (i 1)] fun x22 =>
          .cont 0 [x22])) (
         .l (.cmp .eql .i64) [(c 0 x0), (i 5)] fun x19 =>
         .l .bnot [x19] fun x20 =>
         .call F.typetree_check [x16, (n xs 1), x20] fun x21 =>
         .l (.cmp .neq .i64) [x21, (i 0)] fun x22 =>
         .ite x22 (
          .ret x21) (
          .l (.arith .add .i64) [(n y13 0), (i 1)] fun x23 =>
          .cont 0 [x23]))) (
        .l .bnot [(.bool false)] fun x18 =>
        .call F.typetree_check [x16, (n xs 1), x18] fun x19 =>
        .l (.cmp .neq .i64) [x19, (i 0)] fun x20 =>
        .ite x20 (
         .ret x19) (
         .l (.arith .add .i64) [(n y13 0), (i 1)] fun x21 =>
         .cont 0 [x21]))) (
       .ret (i 0))))) (
    .l (.cmp .eql .i64) [(c 0 x0), (i 8)] fun x6 =>
    .ite x6 (
     .calls F.slices_Clone_typetree_bound_typetree_bound sg_slices_Clone_typetree_bound_typetree_bound [(n xs 1)] fun z7 =>
     .l (.okcs [(1, false)]) [(c 2 x0)] fun x8 =>
     .l (.lst 2 true) [(.agg [(c 2 x0), (.bool false)])] fun x9 =>
     .l (.app 2 true 24) [(n z7 0), x9] fun x10 =>
     .l .len [(c 5 x0)] fun x11 =>
     .loop [(i 0)] fun y12 =>
     .l (.cmp .lss .i64) [(n y12 0), x11] fun x13 =>
     .ite x13 (
      .l (.idx 6 true) [(c 5 x0), (n y12 0)] fun x14 =>
      .l (.okc 6 true) [x14] fun x15 =>
      .l (.cmp .eql .i64) [(n y12 0), (i 0)] fun x16 =>
      .ite x16 (
       .l (.cmp .eql .i64) [(c 0 x0), (i 4)] fun x17 =>
       .ite x17 (
        .l .bnot [(.bool true)] fun x18 =>
        .call F.typetree_check [x15, x10, x18] fun x19 =>
        .l (.cmp .neq .i64) [x19, (i 0)] fun x20 =>
        .ite x20 (
         .ret x19) (
         .l (.arith .add .i64) [(n y12 0), (i 1)] fun x21 =>
         .cont 0 [x21])) (
        .l (.cmp .eql .i64) [(c 0 x0), (i 5)] fun x18 =>
        .l .bnot [x18] fun x19 =>
        .call F.typetree_check [x15, x10, x19] fun x20 =>
        .l (.cmp .neq .i64) [x20, (i 0)] fun x21 =>
        .ite x21 (
         .ret x20) (
         .l (.arith .add .i64) [(n y12 0), (i 1)] fun x22 =>
         .cont 0 [x22]))) (
       .l .bnot [(.bool false)] fun x17 =>
       .call F.typetree_check [x15, x10, x17] fun x18 =>
       .l (.cmp .neq .i64) [x18, (i 0)] fun x19 =>
       .ite x19 (
        .ret x18) (
        .l (.arith .add .i64) [(n y12 0), (i 1)] fun x20 =>
        .cont 0 [x20]))) (
      .ret (i 0))) (
     .calls F.slices_Clone_typetree_bound_typetree_bound sg_slices_Clone_typetree_bound_typetree_bound [(n xs 1)] fun z7 =>
     .l .len [(n z7 0)] fun x8 =>
     .loop [(i 0), (n z7 0)] fun y9 =>
     .l (.cmp .lss .i64) [(n y9 0), x8] fun x10 =>
     .ite x10 (
      .l (.idx 2 true) [(n y9 1), (n y9 0)] fun x11 =>
      .l (.updF 2 1 1 false) [(n y9 1), (n y9 0), (.bool true)] fun x12 =>
      .l (.arith .add .i64) [(n y9 0), (i 1)] fun x13 =>
      .cont 0 [x13, x12]) (
      .l .len [(c 5 x0)] fun x11 =>
      .loop [(i 0)] fun y12 =>
      .l (.cmp .lss .i64) [(n y12 0), x11] fun x13 =>
      .ite x13 (
       .l (.idx 6 true) [(c 5 x0), (n y12 0)] fun x14 =>
       .l (.okc 6 true) [x14] fun x15 =>
       .l (.cmp .eql .i64) [(n y12 0), (i 0)] fun x16 =>
       .ite x16 (
        .l (.cmp .eql .i64) [(c 0 x0), (i 4)] fun x17 =>
        .ite x17 (
         .l .bnot [(.bool true)] fun x18 =>
         .call F.typetree_check [x15, (n y9 1), x18] fun x19 =>
         .l (.cmp .neq .i64) [x19, (i 0)] fun x20 =>
         .ite x20 (
          .ret x19) (
          .l (.arith .add .i64) [(n y12 0), (i 1)] fun x21 =>
          .cont 1 [x21])) (
         .l (.cmp .eql .i64) [(c 0 x0), (i 5)] fun x18 =>
         .l .bnot [x18] fun x19 =>
         .call F.typetree_check [x15, (n y9 1), x19] fun x20 =>
         .l (.cmp .neq .i64) [x20, (i 0)] fun x21 =>
         .ite x21 (
          .ret x20) (
          .l (.arith .add .i64) [(n y12 0), (i 1)] fun x22 =>
          .cont 1 [x22]))) (
        .l .bnot [(.bool false)] fun x17 =>
        .call F.typetree_check [x15, (n y9 1), x17] fun x18 =>
        .l (.cmp .neq .i64) [x18, (i 0)] fun x19 =>
        .ite x19 (
         .ret x18) (
         .l (.arith .add .i64) [(n y12 0), (i 1)] fun x20 =>
         .cont 1 [x20]))) (
       .ret (i 0))))))) (
  .l (.cmp .eql .i64) [(c 0 x0), (i 9)] fun x3 =>
  .ite x3 (
   .call F.typetree_find [(n xs 1), (c 2 x0)] fun x4 =>
   .l (.tc 0) [x4] fun x5 =>
   .l (.tc 1) [x4] fun x6 =>
   .l (.okc 2 true) [x5] fun x7 =>
   .l .bnot [x6] fun x8 =>
   .ite x8 (
    .ret (i 4)) (
    .l .bnot [(c 1 x7)] fun x9 =>
    .ite x9 (
     .ret (i 3)) (
     .l .len [(c 5 x0)] fun x10 =>
     .loop [(i 0)] fun y11 =>
     .l (.cmp .lss .i64) [(n y11 0), x10] fun x12 =>
     .ite x12 (
      .l (.idx 6 true) [(c 5 x0), (n y11 0)] fun x13 =>
      .l (.okc 6 true) [x13] fun x14 =>
      .l (.cmp .eql .i64) [(n y11 0), (i 0)] fun x15 =>
      .ite x15 (
       .l (.cmp .eql .i64) [(c 0 x0), (i 4)] fun x16 =>
       .ite x16 (
        .l .bnot [(.bool true)] fun x17 =>
        .call F.typetree_check [x14, (n xs 1), x17] fun x18 =>
        .l (.cmp .neq .i64) [x18, (i 0)] fun x19 =>
        .ite x19 (
         .ret x18) (
         .l (.arith .add .i64) [(n y11 0), (i 1)] fun x20 =>
         .cont 0 [x20])) (
        .l (.cmp .eql .i64) [(c 0 x0), (i 5)] fun x17 =>
        .l .bnot [x17] fun x18 =>
        .call F.typetree_check [x14, (n xs 1), x18] fun x19 =>
        .l (.cmp .neq .i64) [x19, (i 0)] fun x20 =>
        .ite x20 (
         .ret x19) (
         .l (.arith .add .i64) [(n y11 0), (i 1)] fun x21 =>
         .cont 0 [x21]))) (
       .l .bnot [(.bool false)] fun x16 =>
       .call F.typetree_check [x14, (n xs 1), x16] fun x17 =>
       .l (.cmp .neq .i64) [x17, (i 0)] fun x18 =>
       .ite x18 (
        .ret x17) (
        .l (.arith .add .i64) [(n y11 0), (i 1)] fun x19 =>
        .cont 0 [x19]))) (
      .ret (i 0))))) (
   .l (.cmp .eql .i64) [(c 0 x0), (i 8)] fun x4 =>
   .ite x4 (
    .calls F.slices_Clone_typetree_bound_typetree_bound sg_slices_Clone_typetree_bound_typetree_bound [(n xs 1)] fun z5 =>
    .l (.okcs [(1, false)]) [(c 2 x0)] fun x6 =>
    .l (.lst 2 true) [(.agg [(c 2 x0), (.bool false)])] fun x7 =>
    .l (.app 2 true 24) [(n z5 0), x7] fun x8 =>
    .l .len [(c 5 x0)] fun x9 =>
    .loop [(i 0)] fun y10 =>
    .l (.cmp .lss .i64) [(n y10 0), x9] fun x11 =>
    .ite x11 (
     .l (.idx 6 true) [(c 5 x0), (n y10 0)] fun x12 =>
     .l (.okc 6 true) [x12] fun x13 =>
     .l (.cmp .eql .i64) [(n y10 0), (i 0)] fun x14 =>
     .ite x14 (
      .l (.cmp .eql .i64) [(c 0 x0), (i 4)] fun x15 =>
      .ite x15 (
       .l .bnot [(.bool true)] fun x16 =>
       .call F.typetree_check [x13, x8, x16] fun x17 =>
       .l (.cmp .neq .i64) [x17, (i 0)] fun x18 =>
       .ite x18 (
        .ret x17) (
        .l (.arith .add .i64) [(n y10 0), (i 1)] fun x19 =>
        .cont 0 [x19])) (
       .l (.cmp .eql .i64) [(c 0 x0), (i 5)] fun x16 =>
       .l .bnot [x16] fun x17 =>
       .call F.typetree_check [x13, x8, x17] fun x18 =>
       .l (.cmp .neq .i64) [x18, (i 0)] fun x19 =>
       .ite x19 (
        .ret x18) (
        .l (.arith .add .i64) [(n y10 0), (i 1)] fun x20 =>
        .cont 0 [x20]))) (
      .l .bnot [(.bool false)] fun x15 =>
      .call F.typetree_check [x13, x8, x15] fun x16 =>
      .l (.cmp .neq .i64) [x16, (i 0)] fun x17 =>
      .ite x17 (
       .ret x16) (
       .l (.arith .add .i64) [(n y10 0), (i 1)] fun x18 =>
       .cont 0 [x18]))) (
     .ret (i 0))) (
    .calls F.slices_Clone_typetree_bound_typetree_bound sg_slices_Clone_typetree_bound_typetree_bound [(n xs 1)] fun z5 =>
    .l .len [(n z5 0)] fun x6 =>
    .loop [(i 0), (n z5 0)] fun y7 =>
    .l (.cmp .lss .i64) [(n y7 0), x6] fun x8 =>
    .ite x8 (
     .l (.idx 2 true) [(n y7 1), (n y7 0)] fun x9 =>
     .l (.updF 2 1 1 false) [(n y7 1), (n y7 0), (.bool true)] fun x10 =>
     .l (.arith .add .i64) [(n y7 0), (i 1)] fun x11 =>
     .cont 0 [x11, x10]) (
     .l .len [(c 5 x0)] fun x9 =>
     .loop [(i 0)] fun y10 =>
     .l (.cmp .lss .i64) [(n y10 0), x9] fun x11 =>
     .ite x11 (
      .l (.idx 6 true) [(c 5 x0), (n y10 0)] fun x12 =>
      .l (.okc 6 true) [x12] fun x13 =>
      .l (.cmp .eql .i64) [(n y10 0), (i 0)] fun x14 =>
      .ite x14 (
       .l (.cmp .eql .i64) [(c 0 x0), (i 4)] fun x15 =>
       .ite x15 (
        .l .bnot [(.bool true)] fun x16 =>
        .call F.typetree_check [x13, (n y7 1), x16] fun x17 =>
        .l (.cmp .neq .i64) [x17, (i 0)] fun x18 =>
        .ite x18 (
         .ret x17) (
         .l (.arith .add .i64) [(n y10 0), (i 1)] fun x19 =>
         .cont 1 [x19])) (
        .l (.cmp .eql .i64) [(c 0 x0), (i 5)] fun x16 =>
        .l .bnot [x16] fun x17 =>
        .call F.typetree_check [x13, (n y7 1), x17] fun x18 =>
        .l (.cmp .neq .i64) [x18, (i 0)] fun x19 =>
        .ite x19 (
         .ret x18) (
         .l (.arith .add .i64) [(n y10 0), (i 1)] fun x20 =>
         .cont 1 [x20]))) (
       .l .bnot [(.bool false)] fun x15 =>
       .call F.typetree_check [x13, (n y7 1), x15] fun x16 =>
       .l (.cmp .neq .i64) [x16, (i 0)] fun x17 =>
       .ite x17 (
        .ret x16) (
        .l (.arith .add .i64) [(n y10 0), (i 1)] fun x18 =>
        .cont 1 [x18]))) (
      .ret (i 0)))))))
theorem k_typetree_check : TxOk P F.typetree_check 3 t_typetree_check := txOk_of (H := { wr := [], ro := [], nl := [], fz := [(18, 1)], sigs := [(38, sg_slices_Clone_typetree_bound_typetree_bound), (43, sg_slices_Clone_string_string)] }) (plans := []) hm Tryd.func24 rfl rfl fun xs => by kernel_rfl
def t_ref02_node (xs : List PV) : T PV :=
.l (.okc 6 true) [(n xs 0)] fun x0 =>
.call F.ref02_shape [x0] fun x1 =>
.l .bnot [x1] fun x2 =>
.ite x2 (
 .ret (i 3)) (
 .ite (n xs 3) (
  .call F.ref02_Session [x0] fun x3 =>
  .l .bnot [x3] fun x4 =>
  .ite x4 (
   .ret (i 3)) (
   .l (.cmp .eql .i64) [(c 0 x0), (i 9)] fun x5 =>
   .ite x5 (
    .l .len [(n xs 1)] fun x6 =>
    .l (.arith .sub .i64) [x6, (i 1)] fun x7 =>
    .loop [x7] fun y8 =>
    .l (.cmp .geq .i64) [(n y8 0), (i 0)] fun x9 =>
    .ite x9 (
     .l (.idx 1 false) [(n xs 1), (n y8 0)] fun x10 =>
     .l (.scmp .eql) [x10, (c 2 x0)] fun x11 =>
     .ite x11 (
      .l (.cmp .lss .i64) [(n y8 0), (n xs 2)] fun x12 =>
      .ite x12 (
       .ret (i 0)) (
       .ret (i 3))) (
      .l (.arith .sub .i64) [(n y8 0), (i 1)] fun x12 =>
      .cont 0 [x12])) (
     .ret (i 4))) (
    .l (.cmp .eql .i64) [(c 0 x0), (i 8)] fun x6 =>
    .ite x6 (
     .l (.idx 6 true) [(c 5 x0), (i 0)] fun x7 =>
     .l (.lst 1 false) [] fun x8 =>
     .l (.app 1 false 16) [x8, (n xs 1)] fun x9 =>
     .l (.lst 1 false) [(c 2 x0)] fun x10 =>
     .l (.app 1 false 16) [x9, x10] fun x11 =>
     .call F.ref02_node [x7, x11, (n xs 2), (.bool true)] fun x12 =>
     .ret x12) (
     .loop [(i 0)] fun y7 =>
     .l .len [(c 5 x0)] fun x8 =>
     .l (.cmp .lss .i64) [(n y7 0), x8] fun x9 =>
     .ite x9 (
      .l (.idx 6 true) [(c 5 x0), (n y7 0)] fun x10 =>
      .l .len [(n xs 1)] fun x11 =>
      .l (.cmp .gtr .i64) [(n y7 0), (i 0)] fun x12 =>
      .ite x12 (
       .call F.ref02_node [x10, (n xs 1), x11, (.bool true)] fun x13 =>
       .l (.cmp .neq .i64) [x13, (i 0)] fun x14 =>
       .ite x14 (
        .ret x13) (
        .l (.arith .add .i64) [(n y7 0), (i 1)] fun x15 =>
        .cont 0 [x15])) (
       .l (.cmp .gtr .i64) [(c 0 x0), (i 5)] fun x13 =>
       .call F.ref02_node [x10, (n xs 1), x11, x13] fun x14 =>
       .l (.cmp .neq .i64) [x14, (i 0)] fun x15 =>
       .ite x15 (
        .ret x14) (
        .l (.arith .add .i64) [(n y7 0), (i 1)] fun x16 =>
        .cont 0 [x16]))) (
      .ret (i 0)))))) (
  .l (.cmp .eql .i64) [(c 0 x0), (i 9)] fun x3 =>
  .ite x3 (
   .l .len [(n xs 1)] fun x4 =>
   .l (.arith .sub .i64) [x4, (i 1)] fun x5 =>
   .loop [x5] fun y6 =>
   .l (.cmp .geq .i64) [(n y6 0), (i 0)] fun x7 =>
   .ite x7 (
    .l (.idx 1 false) [(n xs 1), (n y6 0)] fun x8 =>
    .l (.scmp .eql) [x8, (c 2 x0)] fun x9 =>
    .ite x9 (
     .l (.cmp .lss .i64) [(n y6 0), (n xs 2)] fun x10 =>
     .ite x10 (
      .ret (i 0)) (
      .ret (i 3))) (
     .l (.arith .sub .i64) [(n y6 0), (i 1)] fun x10 =>
     .cont 0 [x10])) (
    .ret (i 4))) (
   .l (.cmp .eql .i64) [(c 0 x0), (i 8)] fun x4 =>
   .ite x4 (
    .l (.idx 6 true) [(c 5 x0), (i 0)] fun x5 =>
    .l (.lst 1 false) [] fun x6 =>
    .l (.app 1 false 16) [x6, (n xs 1)] fun x7 =>
    .l (.lst 1 false) [(c 2 x0)] fun x8 =>
    .l (.app 1 false 16) [x7, x8] fun x9 =>
    .call F.ref02_node [x5, x9, (n xs 2), (.bool true)] fun x10 =>
    .ret x10) (
    .loop [(i 0)] fun y5 =>
    .l .len [(c 5 x0)] fun x6 =>
    .l (.cmp .lss .i64) [(n y5 0), x6] fun x7 =>
    .ite x7 (
     .l (.idx 6 true) [(c 5 x0), (n y5 0)] fun x8 =>
     .l .len [(n xs 1)] fun x9 =>
     .l (.cmp .gtr .i64) [(n y5 0), (i 0)] fun x10 =>
     .ite x10 (
      .call F.ref02_node [x8, (n xs 1), x9, (.bool true)] fun x11 =>
      .l (.cmp .neq .i64) [x11, (i 0)] fun x12 =>
      .ite x12 (
       .ret x11) (
       .l (.arith .add .i64) [(n y5 0), (i 1)] fun x13 =>
       .cont 0 [x13])) (
      .l (.cmp .gtr .i64) [(c 0 x0), (i 5)] fun x11 =>
      .call F.ref02_node [x8, (n xs 1), x9, x11] fun x12 =>
      .l (.cmp .neq .i64) [x12, (i 0)] fun x13 =>
      .ite x13 (
       .ret x12) (
       .l (.arith .add .i64) [(n y5 0), (i 1)] fun x14 =>
       .cont 0 [x14]))) (
     .ret (i 0))))))
theorem k_ref02_node : TxOk P F.ref02_node 4 t_ref02_node := txOk_of (H := {}) (plans := []) hm Tryd.func25 rfl rfl fun xs => by kernel_rfl
def t_typetree_nodes (xs : List PV) : T PV :=
.l (.okc 6 true) [(n xs 0)] fun x0 =>
.ret (.fn F.typetree_nodes_1 [] [(.box x0)])
theorem k_typetree_nodes : TxOk P F.typetree_nodes 1 t_typetree_nodes := txOk_of (H := {}) (plans := []) hm Tryd.func26 rfl rfl fun xs => by kernel_rfl
def t_slices_Equal_string_string (xs : List PV) : T PV :=
.l .len [(n xs 0)] fun x0 =>
.l .len [(n xs 1)] fun x1 =>
.l (.cmp .neq .i64) [x0, x1] fun x2 =>
.ite x2 (
 .ret (.bool false)) (
 .l .len [(n xs 0)] fun x3 =>
 .loop [(i 0)] fun y4 =>
 .l (.cmp .lss .i64) [(n y4 0), x3] fun x5 =>
 .ite x5 (
  .l (.idx 1 false) [(n xs 0), (n y4 0)] fun x6 =>
  .l (.idx 1 false) [(n xs 1), (n y4 0)] fun x7 =>
  .l (.scmp .neq) [x6, x7] fun x8 =>
  .ite x8 (
   .ret (.bool false)) (
   .l (.arith .add .i64) [(n y4 0), (i 1)] fun x9 =>
   .cont 0 [x9])) (
  .ret (.bool true)))
theorem k_slices_Equal_string_string : TxOk P F.slices_Equal_string_string 2 t_slices_Equal_string_string := txOk_of (H := {}) (plans := []) hm Tryd.func27 rfl rfl fun xs => by kernel_rfl
def t_slices_EqualFunc_api_Type_api_Type_api_Type_api_Type (xs : List PV) : T PV :=
.l .len [(n xs 0)] fun x0 =>
.l .len [(n xs 1)] fun x1 =>
.l (.cmp .neq .i64) [x0, x1] fun x2 =>
.ite x2 (
 .ret (.bool false)) (
 .l .len [(n xs 0)] fun x3 =>
 .loop [(i 0)] fun y4 =>
 .l (.cmp .lss .i64) [(n y4 0), x3] fun x5 =>
 .ite x5 (
  .l (.idx 6 true) [(n xs 0), (n y4 0)] fun x6 =>
  .l (.okc 6 true) [x6] fun x7 =>
  .l (.idx 6 true) [(n xs 1), (n y4 0)] fun x8 =>
  .l (.okc 6 true) [x8] fun x9 =>
  .callv (n xs 2) [x7, x9] fun x10 =>
  .l .bnot [x10] fun x11 =>
  .ite x11 (
   .ret (.bool false)) (
   .l (.arith .add .i64) [(n y4 0), (i 1)] fun x12 =>
   .cont 0 [x12])) (
  .ret (.bool true)))
theorem k_slices_EqualFunc_api_Type_api_Type_api_Type_api_Type : TxOk P F.slices_EqualFunc_api_Type_api_Type_api_Type_api_Type 3 t_slices_EqualFunc_api_Type_api_Type_api_Type_api_Type := txOk_of (H := {}) (plans := []) hm Tryd.func28 rfl rfl fun xs => by kernel_rfl
def t_ref02_texts (xs : List PV) : T PV :=
.l .len [(n xs 0)] fun x0 =>
.l .len [(n xs 1)] fun x1 =>
.l (.cmp .neq .i64) [x0, x1] fun x2 =>
.ite x2 (
 .ret (.bool false)) (
 .loop [(i 0)] fun y3 =>
 .l .len [(n xs 0)] fun x4 =>
 .l (.cmp .lss .i64) [(n y3 0), x4] fun x5 =>
 .ite x5 (
  .l (.idx 1 false) [(n xs 0), (n y3 0)] fun x6 =>
  .l (.idx 1 false) [(n xs 1), (n y3 0)] fun x7 =>
  .l (.scmp .neq) [x6, x7] fun x8 =>
  .ite x8 (
   .ret (.bool false)) (
   .l (.arith .add .i64) [(n y3 0), (i 1)] fun x9 =>
   .cont 0 [x9])) (
  .ret (.bool true)))
theorem k_ref02_texts : TxOk P F.ref02_texts 2 t_ref02_texts := txOk_of (H := {}) (plans := []) hm Tryd.func29 rfl rfl fun xs => by kernel_rfl
def t_typetree_replace (xs : List PV) : T PV :=
.l (.okc 6 true) [(n xs 0)] fun x0 =>
.l (.okc 1 false) [(n xs 1)] fun x1 =>
.l (.okc 6 true) [(n xs 2)] fun x2 =>
.l (.cmp .eql .i64) [(c 0 x0), (i 9)] fun x3 =>
.ite x3 (
 .l (.scmp .eql) [(c 2 x0), x1] fun x4 =>
 .ite x4 (
  .call F.typetree_Raise [x2, (c 3 x0)] fun x5 =>
  .l (.okc 6 true) [x5] fun x6 =>
  .ret x6) (
  .l (.cmp .eql .i64) [(c 0 x0), (i 8)] fun x5 =>
  .ite x5 (
   .l (.scmp .eql) [(c 2 x0), x1] fun x6 =>
   .ite x6 (
    .call F.typetree_Copy [x0] fun x7 =>
    .l (.okc 6 true) [x7] fun x8 =>
    .ret x8) (
    .call F.typetree_mapped [x0, (.fn F.typetree_replace_1 [] [(.box x1), (.box x2)])] fun x7 =>
    .l (.okc 6 true) [x7] fun x8 =>
    .ret x8)) (
   .call F.typetree_mapped [x0, (.fn F.typetree_replace_1 [] [(.box x1), (.box x2)])] fun x6 =>
   .l (.okc 6 true) [x6] fun x7 =>
   .ret x7))) (
 .l (.cmp .eql .i64) [(c 0 x0), (i 8)] fun x4 =>
 .ite x4 (
  .l (.scmp .eql) [(c 2 x0), x1] fun x5 =>
  .ite x5 (
   .call F.typetree_Copy [x0] fun x6 =>
   .l (.okc 6 true) [x6] fun x7 =>
   .ret x7) (
   .call F.typetree_mapped [x0, (.fn F.typetree_replace_1 [] [(.box x1), (.box x2)])] fun x6 =>
   .l (.okc 6 true) [x6] fun x7 =>
   .ret x7)) (
  .call F.typetree_mapped [x0, (.fn F.typetree_replace_1 [] [(.box x1), (.box x2)])] fun x5 =>
  .l (.okc 6 true) [x5] fun x6 =>
  .ret x6))
theorem k_typetree_replace : TxOk P F.typetree_replace 3 t_typetree_replace := txOk_of (H := {}) (plans := []) hm Tryd.func30 rfl rfl fun xs => by kernel_rfl
def t_typetree_Copy (xs : List PV) : T PV :=
.l (.okc 6 true) [(n xs 0)] fun x0 =>
.call F.typetree_mapped [x0, (.fn F.typetree_Copy [] [])] fun x1 =>
.l (.okc 6 true) [x1] fun x2 =>
.ret x2
theorem k_typetree_Copy : TxOk P F.typetree_Copy 1 t_typetree_Copy := txOk_of (H := {}) (plans := []) hm Tryd.func31 rfl rfl fun xs => by kernel_rfl
def t_typetree_mapped (xs : List PV) : T PV :=
.l (.okc 6 true) [(n xs 0)] fun x0 =>
.call F.slices_Clone_string_string [(c 4 x0)] fun x1 =>
.l (.okc 1 false) [x1] fun x2 =>
.l .len [(c 5 x0)] fun x3 =>
.loop [(i 0), (.sl [])] fun y4 =>
.l (.cmp .lss .i64) [(n y4 0), x3] fun x5 =>
.ite x5 (
 .l (.idx 6 true) [(c 5 x0), (n y4 0)] fun x6 =>
 .l (.okc 6 true) [x6] fun x7 =>
 .callv (n xs 1) [x7] fun x8 =>
 .l (.lst 6 true) [x8] fun x9 =>
 .l (.app 6 true 88) [(n y4 1), x9] fun x10 =>
 .l (.arith .add .i64) [(n y4 0), (i 1)] fun x11 =>
 .cont 0 [x11, x10]) (
 .ret (.agg [(c 0 x0), (c 1 x0), (c 2 x0), (c 3 x0), x2, (n y4 1)]))
theorem k_typetree_mapped : TxOk P F.typetree_mapped 2 t_typetree_mapped := txOk_of (H := {}) (plans := []) hm Tryd.func32 rfl rfl fun xs => by kernel_rfl
def t_typetree_Raise_1 (xs : List PV) : T PV :=
.l (.okc 6 true) [(n xs 0)] fun x0 =>
.l (.unbox 1 false) [(n xs 1)] fun x1 =>
.call F.typetree_Raise [x0, x1] fun x2 =>
.l (.okc 6 true) [x2] fun x3 =>
.ret x3
theorem k_typetree_Raise_1 : TxOk P F.typetree_Raise_1 2 t_typetree_Raise_1 := txOk_of (H := {}) (plans := []) hm Tryd.func33 rfl rfl fun xs => by kernel_rfl
def t_slices_ContainsFunc_api_Type_api_Type (xs : List PV) : T PV :=
.call F.slices_IndexFunc_api_Type_api_Type [(n xs 0), (n xs 1)] fun x0 =>
.l (.cmp .geq .i64) [x0, (i 0)] fun x1 =>
.ret x1
theorem k_slices_ContainsFunc_api_Type_api_Type : TxOk P F.slices_ContainsFunc_api_Type_api_Type 2 t_slices_ContainsFunc_api_Type_api_Type := txOk_of (H := {}) (plans := []) hm Tryd.func34 rfl rfl fun xs => by kernel_rfl
def t_typetree_shallow_1 (xs : List PV) : T PV :=
.l (.okc 6 true) [(n xs 0)] fun x0 =>
.l (.unbox 1 false) [(n xs 1)] fun x1 =>
.l (.arith .sub .i64) [x1, (i 1)] fun x2 =>
.call F.typetree_shallow [x0, x2] fun x3 =>
.l .bnot [x3] fun x4 =>
.ret x4
theorem k_typetree_shallow_1 : TxOk P F.typetree_shallow_1 2 t_typetree_shallow_1 := txOk_of (H := {}) (plans := []) hm Tryd.func35 rfl rfl fun xs => by kernel_rfl
def t_typetree_fields (xs : List PV) : T PV :=
.l (.okc 6 true) [(n xs 0)] fun x0 =>
.call F.typetree_rules [] fun x1 =>
.l (.mget2 false [.i .i64] (.agg [(.bool false), (.bool false), (.bool false), (.bool false), (i 0)])) [x1, (c 0 x0)] fun x2 =>
.l (.tc 0) [x2] fun x3 =>
.l (.tc 1) [x2] fun x4 =>
.l (.okc 5 true) [x3] fun x5 =>
.l (.cmp .lss .i64) [(c 4 x5), (i 0)] fun x6 =>
.ite x6 (
 .l .len [(c 4 x0)] fun x7 =>
 .l (.mx .i64) [(i 1), x7] fun x8 =>
 .l .bnot [x4] fun x9 =>
 .ite x9 (
  .ret (.bool false)) (
  .l .len [(c 5 x0)] fun x10 =>
  .l (.cmp .neq .i64) [x10, x8] fun x11 =>
  .ite x11 (
   .ret (.bool false)) (
   .call F.typetree_within [(c 1 x0), (c 0 x5)] fun x12 =>
   .l .bnot [x12] fun x13 =>
   .ite x13 (
    .ret (.bool false)) (
    .call F.typetree_within [(c 3 x0), (c 2 x5)] fun x14 =>
    .l .bnot [x14] fun x15 =>
    .ite x15 (
     .ret (.bool false)) (
     .call F.lex_Name [(c 2 x0)] fun x16 =>
     .l (.bcmp .neq) [(c 1 x5), x16] fun x17 =>
     .ite x17 (
      .ret (.bool false)) (
      .l .bnot [(c 1 x5)] fun x18 =>
      .ite x18 (
       .l (.scmp .neq) [(c 2 x0), (.str ⟨#[]⟩)] fun x19 =>
       .ite x19 (
        .ret (.bool false)) (
        .l .len [(c 4 x0)] fun x20 =>
        .l (.cmp .gtr .i64) [x20, (i 0)] fun x21 =>
        .l (.bcmp .eql) [(c 3 x5), x21] fun x22 =>
        .ite x22 (
         .call F.typetree_distinct [(c 4 x0)] fun x23 =>
         .ret x23) (
         .ret (.bool false)))) (
       .l .len [(c 4 x0)] fun x19 =>
       .l (.cmp .gtr .i64) [x19, (i 0)] fun x20 =>
       .l (.bcmp .eql) [(c 3 x5), x20] fun x21 =>
       .ite x21 (
        .call F.typetree_distinct [(c 4 x0)] fun x22 =>
        .ret x22) (
        .ret (.bool false))))))))) (
 .l .bnot [x4] fun x7 =>
 .ite x7 (
  .ret (.bool false)) (
  .l .len [(c 5 x0)] fun x8 =>
  .l (.cmp .neq .i64) [x8, (c 4 x5)] fun x9 =>
  .ite x9 (
   .ret (.bool false)) (
   .call F.typetree_within [(c 1 x0), (c 0 x5)] fun x10 =>
   .l .bnot [x10] fun x11 =>
   .ite x11 (
    .ret (.bool false)) (
    .call F.typetree_within [(c 3 x0), (c 2 x5)] fun x12 =>
    .l .bnot [x12] fun x13 =>
    .ite x13 (
     .ret (.bool false)) (
     .call F.lex_Name [(c 2 x0)] fun x14 =>
     .l (.bcmp .neq) [(c 1 x5), x14] fun x15 =>
     .ite x15 (
      .ret (.bool false)) (
      .l .bnot [(c 1 x5)] fun x16 =>
      .ite x16 (
       .l (.scmp .neq) [(c 2 x0), (.str ⟨#[]⟩)] fun x17 =>
       .ite x17 (
        .ret (.bool false)) (
        .l .len [(c 4 x0)] fun x18 =>
        .l (.cmp .gtr .i64) [x18, (i 0)] fun x19 =>
        .l (.bcmp .eql) [(c 3 x5), x19] fun x20 =>
        .ite x20 (
         .call F.typetree_distinct [(c 4 x0)] fun x21 =>
         .ret x21) (
         .ret (.bool false)))) (
       .l .len [(c 4 x0)] fun x17 =>
       .l (.cmp .gtr .i64) [x17, (i 0)] fun x18 =>
       .l (.bcmp .eql) [(c 3 x5), x18] fun x19 =>
       .ite x19 (
        .call F.typetree_distinct [(c 4 x0)] fun x20 =>
        .ret x20) (
        .ret (.bool false)))))))))
theorem k_typetree_fields : TxOk P F.typetree_fields 1 t_typetree_fields := txOk_of (H := {}) (plans := []) hm Tryd.func36 rfl rfl fun xs => by kernel_rfl
def t_typetree_find (xs : List PV) : T PV :=
.l (.okc 1 false) [(n xs 1)] fun x0 =>
.call F.slices_Backward_typetree_bound_typetree_bound [(n xs 0)] fun x1 =>
.iter x1 2 [] (fun e2 y2 =>
 .l (.okc 2 true) [(n e2 1)] fun x3 =>
 .l (.scmp .eql) [(c 0 x3), x0] fun x4 =>
 .ite x4 (
  .l (.okc 2 true) [x3] fun x5 =>
  .fail) (
  .cont 0 [])) (fun e2 y2 =>
 .l (.okc 2 true) [(n e2 1)] fun x3 =>
 .l (.scmp .eql) [(c 0 x3), x0] fun x4 =>
 .ite x4 (
  .l (.okc 2 true) [x3] fun x5 =>
  .ret (.tup [x5, (.bool true)])) (
  .fail)) fun y2 =>
.ret (.tup [(.agg [(.str ⟨#[]⟩), (.bool false)]), (.bool false)])
theorem k_typetree_find : TxOk P F.typetree_find 2 t_typetree_find := txOk_of (H := {}) (plans := []) hm Tryd.func37 rfl rfl fun xs => by kernel_rfl
def t_slices_Clone_typetree_bound_typetree_bound (xs : List PV) : T PV :=
.nilq (n xs 0) (
 .ret (.sl [])) (
 .l (.lst 2 true) [] fun x0 =>
 .l (.app 2 true 24) [x0, (n xs 0)] fun x1 =>
 .ret x1)
theorem k_slices_Clone_typetree_bound_typetree_bound : TxOk P F.slices_Clone_typetree_bound_typetree_bound 1 t_slices_Clone_typetree_bound_typetree_bound := txOk_of (H := { wr := [0, 1, 2, 3, 4, 5, 6, 7, 8, 9, 10, 11, 12, 13, 14, 15, 16, 17, 18, 19, 20, 21, 22, 23, 24, 25, 26, 27, 28, 29, 30, 31, 32, 33, 34, 35, 36, 37, 38, 39], ro := [], nl := [], fz := [], sigs := [] }) (plans := []) hm Tryd.func38 rfl rfl fun xs => by kernel_rfl
def u_slices_Clone_typetree_bound_typetree_bound (xs : List PV) : T PV :=
.nilq (n xs 0) (
 .ret (.tup [(.sl [])])) (
 .l (.lst 2 true) [] fun x0 =>
 .l (.app 2 true 24) [x0, (n xs 0)] fun x1 =>
 .ret (.tup [x1]))
theorem m_slices_Clone_typetree_bound_typetree_bound : TxOkS P F.slices_Clone_typetree_bound_typetree_bound sg_slices_Clone_typetree_bound_typetree_bound u_slices_Clone_typetree_bound_typetree_bound := txOkS_of (H := { wr := [0, 1, 2, 3, 4, 5, 6, 7, 8, 9, 10, 11, 12, 13, 14, 15, 16, 17, 18, 19, 20, 21, 22, 23, 24, 25, 26, 27, 28, 29, 30, 31, 32, 33, 34, 35, 36, 37, 38, 39], ro := [], nl := [], fz := [], sigs := [] }) (plans := []) hm Tryd.func38 rfl fun xs => by kernel_rfl
def t_ref02_shape (xs : List PV) : T PV :=
.l (.okc 6 true) [(n xs 0)] fun x0 =>
.l (.cmp .eql .i64) [(c 0 x0), (i 1)] fun x1 =>
.ite x1 (
 .l (.cmp .eql .i64) [(c 1 x0), (i 0)] fun x2 =>
 .ite x2 (
  .l (.scmp .eql) [(c 2 x0), (.str ⟨#[]⟩)] fun x3 =>
  .ite x3 (
   .l (.cmp .eql .i64) [(c 3 x0), (i 0)] fun x4 =>
   .ite x4 (
    .l .len [(c 4 x0)] fun x5 =>
    .l (.cmp .eql .i64) [x5, (i 0)] fun x6 =>
    .ite x6 (
     .l .len [(c 5 x0)] fun x7 =>
     .l (.cmp .eql .i64) [x7, (i 0)] fun x8 =>
     .ret x8) (
     .ret (.bool false))) (
    .ret (.bool false))) (
   .ret (.bool false))) (
  .ret (.bool false))) (
 .l (.cmp .eql .i64) [(c 0 x0), (i 2)] fun x2 =>
 .ite x2 (
  .l (.cmp .eql .i64) [(c 1 x0), (i 0)] fun x3 =>
  .ite x3 (
   .l (.scmp .eql) [(c 2 x0), (.str ⟨#[]⟩)] fun x4 =>
   .ite x4 (
    .l (.cmp .eql .i64) [(c 3 x0), (i 0)] fun x5 =>
    .ite x5 (
     .l .len [(c 4 x0)] fun x6 =>
     .l (.cmp .eql .i64) [x6, (i 0)] fun x7 =>
     .ite x7 (
      .l .len [(c 5 x0)] fun x8 =>
      .l (.cmp .eql .i64) [x8, (i 0)] fun x9 =>
      .ret x9) (
      .ret (.bool false))) (
     .ret (.bool false))) (
    .ret (.bool false))) (
   .ret (.bool false))) (
  .l (.cmp .eql .i64) [(c 0 x0), (i 3)] fun x3 =>
  .ite x3 (
   .l (.cmp .eql .i64) [(c 1 x0), (i 0)] fun x4 =>
   .ite x4 (
    .l (.scmp .eql) [(c 2 x0), (.str ⟨#[]⟩)] fun x5 =>
    .ite x5 (
     .l (.cmp .eql .i64) [(c 3 x0), (i 0)] fun x6 =>
     .ite x6 (
      .l .len [(c 4 x0)] fun x7 =>
      .l (.cmp .eql .i64) [x7, (i 0)] fun x8 =>
      .ite x8 (
       .l .len [(c 5 x0)] fun x9 =>
       .l (.cmp .eql .i64) [x9, (i 0)] fun x10 =>
       .ret x10) (
       .ret (.bool false))) (
      .ret (.bool false))) (
     .ret (.bool false))) (
    .ret (.bool false))) (
   .l (.cmp .eql .i64) [(c 0 x0), (i 4)] fun x4 =>
   .ite x4 (
    .call F.ref02_prio [(c 1 x0)] fun x5 =>
    .ite x5 (
     .l (.scmp .eql) [(c 2 x0), (.str ⟨#[]⟩)] fun x6 =>
     .ite x6 (
      .l (.cmp .eql .i64) [(c 3 x0), (i 0)] fun x7 =>
      .ite x7 (
       .l .len [(c 4 x0)] fun x8 =>
       .l (.cmp .eql .i64) [x8, (i 0)] fun x9 =>
       .ite x9 (
        .l .len [(c 5 x0)] fun x10 =>
        .l (.cmp .eql .i64) [x10, (i 2)] fun x11 =>
        .ret x11) (
        .ret (.bool false))) (
       .ret (.bool false))) (
      .ret (.bool false))) (
     .ret (.bool false))) (
    .l (.cmp .eql .i64) [(c 0 x0), (i 5)] fun x5 =>
    .ite x5 (
     .call F.ref02_prio [(c 1 x0)] fun x6 =>
     .ite x6 (
      .l (.scmp .eql) [(c 2 x0), (.str ⟨#[]⟩)] fun x7 =>
      .ite x7 (
       .l (.cmp .eql .i64) [(c 3 x0), (i 0)] fun x8 =>
       .ite x8 (
        .l .len [(c 4 x0)] fun x9 =>
        .l (.cmp .eql .i64) [x9, (i 0)] fun x10 =>
        .ite x10 (
         .l .len [(c 5 x0)] fun x11 =>
         .l (.cmp .eql .i64) [x11, (i 2)] fun x12 =>
         .ret x12) (
         .ret (.bool false))) (
        .ret (.bool false))) (
       .ret (.bool false))) (
      .ret (.bool false))) (
     .l (.cmp .eql .i64) [(c 0 x0), (i 6)] fun x6 =>
     .ite x6 (
      .call F.ref02_prio [(c 1 x0)] fun x7 =>
      .ite x7 (
       .l (.scmp .eql) [(c 2 x0), (.str ⟨#[]⟩)] fun x8 =>
       .ite x8 (
        .l (.cmp .eql .i64) [(c 3 x0), (i 0)] fun x9 =>
        .ite x9 (
         .l .len [(c 4 x0)] fun x10 =>
         .l (.cmp .gtr .i64) [x10, (i 0)] fun x11 =>
         .ite x11 (
          .call F.ref02_Labels [(c 4 x0)] fun x12 =>
          .ite x12 (
           .l .len [(c 5 x0)] fun x13 =>
           .l .len [(c 4 x0)] fun x14 =>
           .l (.cmp .eql .i64) [x13, x14] fun x15 =>
           .ret x15) (
           .ret (.bool false))) (
          .ret (.bool false))) (
         .ret (.bool false))) (
        .ret (.bool false))) (
       .ret (.bool false))) (
      .l (.cmp .eql .i64) [(c 0 x0), (i 7)] fun x7 =>
      .ite x7 (
       .call F.ref02_prio [(c 1 x0)] fun x8 =>
       .ite x8 (
        .l (.scmp .eql) [(c 2 x0), (.str ⟨#[]⟩)] fun x9 =>
        .ite x9 (
         .l (.cmp .eql .i64) [(c 3 x0), (i 0)] fun x10 =>
         .ite x10 (
          .l .len [(c 4 x0)] fun x11 =>
          .l (.cmp .gtr .i64) [x11, (i 0)] fun x12 =>
          .ite x12 (
           .call F.ref02_Labels [(c 4 x0)] fun x13 =>
           .ite x13 (
            .l .len [(c 5 x0)] fun x14 =>
            .l .len [(c 4 x0)] fun x15 =>
            .l (.cmp .eql .i64) [x14, x15] fun x16 =>
            .ret x16) (
            .ret (.bool false))) (
           .ret (.bool false))) (
          .ret (.bool false))) (
         .ret (.bool false))) (
        .ret (.bool false))) (
       .l (.cmp .eql .i64) [(c 0 x0), (i 8)] fun x8 =>
       .ite x8 (
        .l (.cmp .eql .i64) [(c 1 x0), (i 0)] fun x9 =>
        .ite x9 (
         .call F.ref01_Name [(c 2 x0)] fun x10 =>
         .ite x10 (
          .l (.cmp .eql .i64) [(c 3 x0), (i 0)] fun x11 =>
          .ite x11 (
           .l .len [(c 4 x0)] fun x12 =>
           .l (.cmp .eql .i64) [x12, (i 0)] fun x13 =>
           .ite x13 (
            .l .len [(c 5 x0)] fun x14 =>
            .l (.cmp .eql .i64) [x14, (i 1)] fun x15 =>
            .ret x15) (
            .ret (.bool false))) (
           .ret (.bool false))) (
          .ret (.bool false))) (
         .ret (.bool false))) (
        .l (.cmp .eql .i64) [(c 0 x0), (i 9)] fun x9 =>
        .ite x9 (
         .l (.cmp .eql .i64) [(c 1 x0), (i 0)] fun x10 =>
         .ite x10 (
          .call F.ref01_Name [(c 2 x0)] fun x11 =>
          .ite x11 (
           .call F.ref02_prio [(c 3 x0)] fun x12 =>
           .ite x12 (
            .l .len [(c 4 x0)] fun x13 =>
            .l (.cmp .eql .i64) [x13, (i 0)] fun x14 =>
            .ite x14 (
             .l .len [(c 5 x0)] fun x15 =>
             .l (.cmp .eql .i64) [x15, (i 0)] fun x16 =>
             .ret x16) (
             .ret (.bool false))) (
            .ret (.bool false))) (
           .ret (.bool false))) (
          .ret (.bool false))) (
         .ret (.bool false))))))))))
theorem k_ref02_shape : TxOk P F.ref02_shape 1 t_ref02_shape := txOk_of (H := {}) (plans := []) hm Tryd.func39 rfl rfl fun xs => by kernel_rfl
def t_typetree_nodes_1 (xs : List PV) : T PV :=
.l (.unbox 6 true) [(n xs 1)] fun x0 =>
.call F.typetree_visit [x0, (n xs 0)] fun x1 =>
.ret (.tup [])
theorem k_typetree_nodes_1 : TxOk P F.typetree_nodes_1 2 t_typetree_nodes_1 := txOk_of (H := {}) (plans := []) hm Tryd.func40 rfl rfl fun xs => by kernel_rfl
def v_typetree_nodes_1 (xs : List PV) : T PV :=
.l (.unbox 6 true) [(n xs 1)] fun x0 =>
.callx F.typetree_visit [(some x0), none] (n xs 2) fun x1 s1 =>
.ret (.tup [(.tup []), s1])
theorem x_typetree_nodes_1 (X : Xt) (hX : XtC P X) : @TxOkX { l := gl.l, x := X } P F.typetree_nodes_1 2 [0] v_typetree_nodes_1 := @txOkX_of { l := gl.l, x := X } P (@XC.mk P { l := gl.l, x := X } hX) {} [] _ _ _ _ _ hm Tryd.func40 rfl rfl fun xs => by kernel_rfl
def t_typetree_visit (xs : List PV) : T PV :=
.l (.okc 6 true) [(n xs 0)] fun x0 =>
.callv (n xs 1) [x0] fun x1 =>
.l .bnot [x1] fun x2 =>
.ite x2 (
 .ret (.bool false)) (
 .l .len [(c 5 x0)] fun x3 =>
 .loop [(i 0)] fun y4 =>
 .l (.cmp .lss .i64) [(n y4 0), x3] fun x5 =>
 .ite x5 (
  .l (.idx 6 true) [(c 5 x0), (n y4 0)] fun x6 =>
  .l (.okc 6 true) [x6] fun x7 =>
  .call F.typetree_visit [x7, (n xs 1)] fun x8 =>
  .l .bnot [x8] fun x9 =>
  .ite x9 (
   .ret (.bool false)) (
   .l (.arith .add .i64) [(n y4 0), (i 1)] fun x10 =>
   .cont 0 [x10])) (
  .ret (.bool true)))
theorem k_typetree_visit : TxOk P F.typetree_visit 2 t_typetree_visit := txOk_of (H := {}) (plans := []) hm Tryd.func41 rfl rfl fun xs => by kernel_rfl
def v_typetree_visit (xs : List PV) : T PV :=
.l (.okc 6 true) [(n xs 0)] fun x0 =>
.yld [x0] (n xs 2) fun x1 s1 =>
.l .bnot [x1] fun x2 =>
.ite x2 (
 .ret (.tup [(.bool false), s1])) (
 .l .len [(c 5 x0)] fun x3 =>
 .loop [(i 0), s1] fun y4 =>
 .l (.cmp .lss .i64) [(n y4 0), x3] fun x5 =>
 .ite x5 (
  .l (.idx 6 true) [(c 5 x0), (n y4 0)] fun x6 =>
  .l (.okc 6 true) [x6] fun x7 =>
  .callx F.typetree_visit [(some x7), none] (n y4 1) fun x8 s8 =>
  .l .bnot [x8] fun x9 =>
  .ite x9 (
   .ret (.tup [(.bool false), s8])) (
   .l (.arith .add .i64) [(n y4 0), (i 1)] fun x10 =>
   .cont 0 [x10, s8])) (
  .ret (.tup [(.bool true), (n y4 1)])))
theorem x_typetree_visit (X : Xt) (hX : XtC P X) : @TxOkX { l := gl.l, x := X } P F.typetree_visit 2 [1] v_typetree_visit := @txOkX_of { l := gl.l, x := X } P (@XC.mk P { l := gl.l, x := X } hX) {} [] _ _ _ _ _ hm Tryd.func41 rfl rfl fun xs => by kernel_rfl
def t_typetree_replace_1 (xs : List PV) : T PV :=
.l (.okc 6 true) [(n xs 0)] fun x0 =>
.l (.unbox 1 false) [(n xs 1)] fun x1 =>
.l (.unbox 6 true) [(n xs 2)] fun x2 =>
.call F.typetree_replace [x0, x1, x2] fun x3 =>
.l (.okc 6 true) [x3] fun x4 =>
.ret x4
theorem k_typetree_replace_1 : TxOk P F.typetree_replace_1 3 t_typetree_replace_1 := txOk_of (H := {}) (plans := []) hm Tryd.func42 rfl rfl fun xs => by kernel_rfl
def t_slices_Clone_string_string (xs : List PV) : T PV :=
.nilq (n xs 0) (
 .ret (.sl [])) (
 .l (.lst 1 false) [] fun x0 =>
 .l (.app 1 false 16) [x0, (n xs 0)] fun x1 =>
 .ret x1)
theorem k_slices_Clone_string_string : TxOk P F.slices_Clone_string_string 1 t_slices_Clone_string_string := txOk_of (H := { wr := [0, 1, 2, 3, 4, 5, 6, 7, 8, 9, 10, 11, 12, 13, 14, 15, 16, 17, 18, 19, 20, 21, 22, 23, 24, 25, 26, 27, 28, 29, 30, 31, 32, 33, 34, 35, 36, 37, 38, 39], ro := [], nl := [], fz := [], sigs := [] }) (plans := []) hm Tryd.func43 rfl rfl fun xs => by kernel_rfl
def u_slices_Clone_string_string (xs : List PV) : T PV :=
.nilq (n xs 0) (
 .ret (.tup [(.sl [])])) (
 .l (.lst 1 false) [] fun x0 =>
 .l (.app 1 false 16) [x0, (n xs 0)] fun x1 =>
 .ret (.tup [x1]))
theorem m_slices_Clone_string_string : TxOkS P F.slices_Clone_string_string sg_slices_Clone_string_string u_slices_Clone_string_string := txOkS_of (H := { wr := [0, 1, 2, 3, 4, 5, 6, 7, 8, 9, 10, 11, 12, 13, 14, 15, 16, 17, 18, 19, 20, 21, 22, 23, 24, 25, 26, 27, 28, 29, 30, 31, 32, 33, 34, 35, 36, 37, 38, 39], ro := [], nl := [], fz := [], sigs := [] }) (plans := []) hm Tryd.func43 rfl fun xs => by kernel_rfl
def t_slices_IndexFunc_api_Type_api_Type (xs : List PV) : T PV :=
.l .len [(n xs 0)] fun x0 =>
.loop [(i 0)] fun y1 =>
.l (.cmp .lss .i64) [(n y1 0), x0] fun x2 =>
.ite x2 (
 .l (.idx 6 true) [(n xs 0), (n y1 0)] fun x3 =>
 .callv (n xs 1) [x3] fun x4 =>
 .ite x4 (
  .ret (n y1 0)) (
  .l (.arith .add .i64) [(n y1 0), (i 1)] fun x5 =>
  .cont 0 [x5])) (
 .ret (i (-1)))
theorem k_slices_IndexFunc_api_Type_api_Type : TxOk P F.slices_IndexFunc_api_Type_api_Type 2 t_slices_IndexFunc_api_Type_api_Type := txOk_of (H := {}) (plans := []) hm Tryd.func44 rfl rfl fun xs => by kernel_rfl
def t_typetree_rules (xs : List PV) : T PV :=
.l (.mset false [.i .i64]) [(.mp [] []), (i 1), (.agg [(.bool false), (.bool false), (.bool false), (.bool false), (i 0)])] fun x0 =>
.l (.mset false [.i .i64]) [x0, (i 2), (.agg [(.bool false), (.bool false), (.bool false), (.bool false), (i 0)])] fun x1 =>
.l (.mset false [.i .i64]) [x1, (i 3), (.agg [(.bool false), (.bool false), (.bool false), (.bool false), (i 0)])] fun x2 =>
.l (.mset false [.i .i64]) [x2, (i 4), (.agg [(.bool true), (.bool false), (.bool false), (.bool false), (i 2)])] fun x3 =>
.l (.mset false [.i .i64]) [x3, (i 5), (.agg [(.bool true), (.bool false), (.bool false), (.bool false), (i 2)])] fun x4 =>
.l (.mset false [.i .i64]) [x4, (i 6), (.agg [(.bool true), (.bool false), (.bool false), (.bool true), (i (-1))])] fun x5 =>
.l (.mset false [.i .i64]) [x5, (i 7), (.agg [(.bool true), (.bool false), (.bool false), (.bool true), (i (-1))])] fun x6 =>
.l (.mset false [.i .i64]) [x6, (i 8), (.agg [(.bool false), (.bool true), (.bool false), (.bool false), (i 1)])] fun x7 =>
.l (.mset false [.i .i64]) [x7, (i 9), (.agg [(.bool false), (.bool true), (.bool true), (.bool false), (i 0)])] fun x8 =>
.ret x8
theorem k_typetree_rules : TxOk P F.typetree_rules 0 t_typetree_rules := txOk_of (H := {}) (plans := []) hm Tryd.func45 rfl rfl fun xs => by kernel_rfl
def t_typetree_within (xs : List PV) : T PV :=
.l (.cmp .eql .i64) [(n xs 0), (i 0)] fun x0 =>
.ite x0 (
 .ret (.bool true)) (
 .ite (n xs 1) (
  .l (.cmp .gtr .i64) [(n xs 0), (i 0)] fun x1 =>
  .ite x1 (
   .l (.cmp .leq .i64) [(n xs 0), (i 1000000)] fun x2 =>
   .ret x2) (
   .ret (.bool false))) (
  .ret (.bool false)))
theorem k_typetree_within : TxOk P F.typetree_within 2 t_typetree_within := txOk_of (H := {}) (plans := []) hm Tryd.func46 rfl rfl fun xs => by kernel_rfl
def t_lex_Name (xs : List PV) : T PV :=
.l (.scmp .neq) [(n xs 0), (.str ⟨#[]⟩)] fun x0 =>
.ite x0 (
 .l .sidx [(n xs 0), (i 0)] fun x1 =>
 .call F.lex_letter [x1] fun x2 =>
 .ite x2 (
  .call F.lex_span [(n xs 0), (i 0), (.fn F.lex_Name_1 [] [])] fun x3 =>
  .l .slen [(n xs 0)] fun x4 =>
  .l (.cmp .eql .i64) [x3, x4] fun x5 =>
  .ite x5 (
   .call F.lex_Keyword [(n xs 0)] fun x6 =>
   .l .bnot [x6] fun x7 =>
   .ret x7) (
   .ret (.bool false))) (
  .ret (.bool false))) (
 .ret (.bool false))
theorem k_lex_Name : TxOk P F.lex_Name 1 t_lex_Name := txOk_of (H := {}) (plans := []) hm Tryd.func47 rfl rfl fun xs => by kernel_rfl
def t_typetree_distinct (xs : List PV) : T PV :=
.l .len [(n xs 0)] fun x0 =>
.loop [(i 0), (.mp [] [])] fun y1 =>
.l (.cmp .lss .i64) [(n y1 0), x0] fun x2 =>
.ite x2 (
 .l (.idx 1 false) [(n xs 0), (n y1 0)] fun x3 =>
 .call F.lex_Name [x3] fun x4 =>
 .l .bnot [x4] fun x5 =>
 .ite x5 (
  .ret (.bool false)) (
  .l (.mget false [.s] (.bool false)) [(n y1 1), x3] fun x6 =>
  .ite x6 (
   .ret (.bool false)) (
   .l (.mset false [.s]) [(n y1 1), x3, (.bool true)] fun x7 =>
   .l (.arith .add .i64) [(n y1 0), (i 1)] fun x8 =>
   .cont 0 [x8, x7]))) (
 .ret (.bool true))
theorem k_typetree_distinct : TxOk P F.typetree_distinct 1 t_typetree_distinct := txOk_of (H := {}) (plans := []) hm Tryd.func48 rfl rfl fun xs => by kernel_rfl
def t_slices_Backward_typetree_bound_typetree_bound (xs : List PV) : T PV :=
.l (.okc 1 false) [(n xs 0)] fun x0 =>
.ret (.fn F.slices_Backward_typetree_bound_typetree_bound_1 [] [(.box x0)])
theorem k_slices_Backward_typetree_bound_typetree_bound : TxOk P F.slices_Backward_typetree_bound_typetree_bound 1 t_slices_Backward_typetree_bound_typetree_bound := txOk_of (H := {}) (plans := []) hm Tryd.func49 rfl rfl fun xs => by kernel_rfl
def t_ref02_prio (xs : List PV) : T PV :=
.l (.cmp .geq .i64) [(n xs 0), (i 0)] fun x0 =>
.ite x0 (
 .l (.cmp .leq .i64) [(n xs 0), (i 1000000)] fun x1 =>
 .ret x1) (
 .ret (.bool false))
theorem k_ref02_prio : TxOk P F.ref02_prio 1 t_ref02_prio := txOk_of (H := {}) (plans := []) hm Tryd.func50 rfl rfl fun xs => by kernel_rfl
def t_ref02_Labels (xs : List PV) : T PV :=
.loop [(i 0)] fun y0 =>
.l .len [(n xs 0)] fun x1 =>
.l (.cmp .lss .i64) [(n y0 0), x1] fun x2 =>
.ite x2 (
 .l (.idx 1 false) [(n xs 0), (n y0 0)] fun x3 =>
 .call F.ref01_Name [x3] fun x4 =>
 .l .bnot [x4] fun x5 =>
 .ite x5 (
  .ret (.bool false)) (
  .l (.idx 1 false) [(n xs 0), (n y0 0)] fun x6 =>
  .l (.slcT 1 false) [(n xs 0), (n y0 0)] fun x7 =>
  .call F.ref02_in [x6, x7] fun x8 =>
  .ite x8 (
   .ret (.bool false)) (
   .l (.arith .add .i64) [(n y0 0), (i 1)] fun x9 =>
   .cont 0 [x9]))) (
 .ret (.bool true))
theorem k_ref02_Labels : TxOk P F.ref02_Labels 1 t_ref02_Labels := txOk_of (H := {}) (plans := []) hm Tryd.func51 rfl rfl fun xs => by kernel_rfl
def t_ref01_Name (xs : List PV) : T PV :=
.call F.ref01_Word [(n xs 0)] fun x0 =>
.ite x0 (
 .call F.ref01_Keyword [(n xs 0)] fun x1 =>
 .l .bnot [x1] fun x2 =>
 .ret x2) (
 .ret (.bool false))
theorem k_ref01_Name : TxOk P F.ref01_Name 1 t_ref01_Name := txOk_of (H := {}) (plans := []) hm Tryd.func52 rfl rfl fun xs => by kernel_rfl
def t_lex_letter (xs : List PV) : T PV :=
.l (.arith .or .u8) [(n xs 0), (.int .u8 (32))] fun x0 =>
.l (.conv .i32) [x0] fun x1 =>
.l (.cmp .geq .i32) [x1, (.int .i32 (97))] fun x2 =>
.ite x2 (
 .l (.cmp .leq .i32) [x1, (.int .i32 (122))] fun x3 =>
 .ite x3 (
  .l (.cmp .geq .u8) [(n xs 0), (.int .u8 (65))] fun x4 =>
  .ite x4 (
   .ret (.bool true)) (
   .l (.cmp .eql .u8) [(n xs 0), (.int .u8 (95))] fun x5 =>
   .ret x5)) (
  .l (.cmp .eql .u8) [(n xs 0), (.int .u8 (95))] fun x4 =>
  .ret x4)) (
 .l (.cmp .eql .u8) [(n xs 0), (.int .u8 (95))] fun x3 =>
 .ret x3)
theorem k_lex_letter : TxOk P F.lex_letter 1 t_lex_letter := txOk_of (H := {}) (plans := []) hm Tryd.func53 rfl rfl fun xs => by kernel_rfl
def t_lex_span (xs : List PV) : T PV :=
.loop [(n xs 1)] fun y0 =>
.l .slen [(n xs 0)] fun x1 =>
.l (.cmp .lss .i64) [(n y0 0), x1] fun x2 =>
.ite x2 (
 .l .sidx [(n xs 0), (n y0 0)] fun x3 =>
 .callv (n xs 2) [x3] fun x4 =>
 .ite x4 (
  .l (.arith .add .i64) [(n y0 0), (i 1)] fun x5 =>
  .cont 0 [x5]) (
  .ret (n y0 0))) (
 .ret (n y0 0))
theorem k_lex_span : TxOk P F.lex_span 3 t_lex_span := txOk_of (H := {}) (plans := []) hm Tryd.func54 rfl rfl fun xs => by kernel_rfl
def t_lex_Name_1 (xs : List PV) : T PV :=
.call F.lex_letter [(n xs 0)] fun x0 =>
.ite x0 (
 .ret (.bool true)) (
 .call F.lex_digit [(n xs 0)] fun x1 =>
 .ret x1)
theorem k_lex_Name_1 : TxOk P F.lex_Name_1 1 t_lex_Name_1 := txOk_of (H := {}) (plans := []) hm Tryd.func55 rfl rfl fun xs => by kernel_rfl
def t_lex_digit (xs : List PV) : T PV :=
.l (.cmp .geq .u8) [(n xs 0), (.int .u8 (48))] fun x0 =>
.ite x0 (
 .l (.cmp .leq .u8) [(n xs 0), (.int .u8 (57))] fun x1 =>
 .ret x1) (
 .ret (.bool false))
theorem k_lex_digit : TxOk P F.lex_digit 1 t_lex_digit := txOk_of (H := {}) (plans := []) hm Tryd.func56 rfl rfl fun xs => by kernel_rfl
def t_lex_Keyword (xs : List PV) : T PV :=
.l (.asl 10) [(.agg [(.str ⟨#[100, 101, 102]⟩), (.str ⟨#[109, 97, 105, 110]⟩), (.str ⟨#[115, 116, 111, 112]⟩), (.str ⟨#[110, 101, 119]⟩), (.str ⟨#[105, 110, 116]⟩), (.str ⟨#[98, 111, 111, 108]⟩), (.str ⟨#[101, 110, 100]⟩), (.str ⟨#[114, 101, 99]⟩), (.str ⟨#[116, 114, 117, 101]⟩), (.str ⟨#[102, 97, 108, 115, 101]⟩)])] fun x0 =>
.call F.slices_Contains_string_string [x0, (n xs 0)] fun x1 =>
.ret x1
theorem k_lex_Keyword : TxOk P F.lex_Keyword 1 t_lex_Keyword := txOk_of (H := {}) (plans := []) hm Tryd.func57 rfl rfl fun xs => by kernel_rfl
def t_slices_Backward_typetree_bound_typetree_bound_1 (xs : List PV) : T PV :=
.l (.unbox 1 false) [(n xs 1)] fun x0 =>
.l .len [x0] fun x1 =>
.l (.arith .sub .i64) [x1, (i 1)] fun x2 =>
.loop [x2] fun y3 =>
.l (.cmp .geq .i64) [(n y3 0), (i 0)] fun x4 =>
.ite x4 (
 .l (.unbox 1 false) [(n xs 1)] fun x5 =>
 .l (.idx 2 true) [x5, (n y3 0)] fun x6 =>
 .callv (n xs 0) [(n y3 0), x6] fun x7 =>
 .l .bnot [x7] fun x8 =>
 .ite x8 (
  .ret (.tup [])) (
  .l (.arith .sub .i64) [(n y3 0), (i 1)] fun x9 =>
  .cont 0 [x9])) (
 .ret (.tup []))
theorem k_slices_Backward_typetree_bound_typetree_bound_1 : TxOk P F.slices_Backward_typetree_bound_typetree_bound_1 2 t_slices_Backward_typetree_bound_typetree_bound_1 := txOk_of (H := {}) (plans := []) hm Tryd.func58 rfl rfl fun xs => by kernel_rfl
def v_slices_Backward_typetree_bound_typetree_bound_1 (xs : List PV) : T PV :=
.l (.unbox 1 false) [(n xs 1)] fun x0 =>
.l .len [x0] fun x1 =>
.l (.arith .sub .i64) [x1, (i 1)] fun x2 =>
.loop [x2, (n xs 2)] fun y3 =>
.l (.cmp .geq .i64) [(n y3 0), (i 0)] fun x4 =>
.ite x4 (
 .l (.unbox 1 false) [(n xs 1)] fun x5 =>
 .l (.idx 2 true) [x5, (n y3 0)] fun x6 =>
 .yld [(n y3 0), x6] (n y3 1) fun x7 s7 =>
 .l .bnot [x7] fun x8 =>
 .ite x8 (
  .ret (.tup [(.tup []), s7])) (
  .l (.arith .sub .i64) [(n y3 0), (i 1)] fun x9 =>
  .cont 0 [x9, s7])) (
 .ret (.tup [(.tup []), (n y3 1)]))
theorem x_slices_Backward_typetree_bound_typetree_bound_1 (X : Xt) (hX : XtC P X) : @TxOkX { l := gl.l, x := X } P F.slices_Backward_typetree_bound_typetree_bound_1 2 [0] v_slices_Backward_typetree_bound_typetree_bound_1 := @txOkX_of { l := gl.l, x := X } P (@XC.mk P { l := gl.l, x := X } hX) {} [] _ _ _ _ _ hm Tryd.func58 rfl rfl fun xs => by kernel_rfl
def t_ref02_in (xs : List PV) : T PV :=
.loop [(i 0)] fun y0 =>
.l .len [(n xs 1)] fun x1 =>
.l (.cmp .lss .i64) [(n y0 0), x1] fun x2 =>
.ite x2 (
 .l (.idx 1 false) [(n xs 1), (n y0 0)] fun x3 =>
 .l (.scmp .eql) [x3, (n xs 0)] fun x4 =>
 .ite x4 (
  .ret (.bool true)) (
  .l (.arith .add .i64) [(n y0 0), (i 1)] fun x5 =>
  .cont 0 [x5])) (
 .ret (.bool false))
theorem k_ref02_in : TxOk P F.ref02_in 2 t_ref02_in := txOk_of (H := {}) (plans := []) hm Tryd.func59 rfl rfl fun xs => by kernel_rfl
def t_ref01_Word (xs : List PV) : T PV :=
.l .slen [(n xs 0)] fun x0 =>
.l (.cmp .eql .i64) [x0, (i 0)] fun x1 =>
.ite x1 (
 .ret (.bool false)) (
 .l .sidx [(n xs 0), (i 0)] fun x2 =>
 .call F.ref01_Letters [] fun x3 =>
 .call F.ref01_in [x2, x3] fun x4 =>
 .l .bnot [x4] fun x5 =>
 .ite x5 (
  .ret (.bool false)) (
  .loop [(i 1)] fun y6 =>
  .l .slen [(n xs 0)] fun x7 =>
  .l (.cmp .lss .i64) [(n y6 0), x7] fun x8 =>
  .ite x8 (
   .l .sidx [(n xs 0), (n y6 0)] fun x9 =>
   .call F.ref01_Letters [] fun x10 =>
   .call F.ref01_in [x9, x10] fun x11 =>
   .l .bnot [x11] fun x12 =>
   .ite x12 (
    .l .sidx [(n xs 0), (n y6 0)] fun x13 =>
    .call F.ref01_digits [] fun x14 =>
    .call F.ref01_in [x13, x14] fun x15 =>
    .l .bnot [x15] fun x16 =>
    .ite x16 (
     .ret (.bool false)) (
     .l (.arith .add .i64) [(n y6 0), (i 1)] fun x17 =>
     .cont 0 [x17])) (
    .l (.arith .add .i64) [(n y6 0), (i 1)] fun x13 =>
    .cont 0 [x13])) (
   .ret (.bool true))))
theorem k_ref01_Word : TxOk P F.ref01_Word 1 t_ref01_Word := txOk_of (H := {}) (plans := []) hm Tryd.func60 rfl rfl fun xs => by kernel_rfl
def t_ref01_Keyword (xs : List PV) : T PV :=
.l (.lst 1 false) [(.str ⟨#[100, 101, 102]⟩), (.str ⟨#[109, 97, 105, 110]⟩), (.str ⟨#[115, 116, 111, 112]⟩), (.str ⟨#[110, 101, 119]⟩), (.str ⟨#[105, 110, 116]⟩), (.str ⟨#[98, 111, 111, 108]⟩), (.str ⟨#[101, 110, 100]⟩), (.str ⟨#[114, 101, 99]⟩), (.str ⟨#[116, 114, 117, 101]⟩), (.str ⟨#[102, 97, 108, 115, 101]⟩)] fun x0 =>
.loop [(i 0)] fun y1 =>
.l .len [x0] fun x2 =>
.l (.cmp .lss .i64) [(n y1 0), x2] fun x3 =>
.ite x3 (
 .l (.idx 1 false) [x0, (n y1 0)] fun x4 =>
 .l (.scmp .eql) [x4, (n xs 0)] fun x5 =>
 .ite x5 (
  .ret (.bool true)) (
  .l (.arith .add .i64) [(n y1 0), (i 1)] fun x6 =>
  .cont 0 [x6])) (
 .ret (.bool false))
theorem k_ref01_Keyword : TxOk P F.ref01_Keyword 1 t_ref01_Keyword := txOk_of (H := {}) (plans := []) hm Tryd.func61 rfl rfl fun xs => by kernel_rfl
def t_slices_Contains_string_string (xs : List PV) : T PV :=
.call F.slices_Index_string_string [(n xs 0), (n xs 1)] fun x0 =>
.l (.cmp .geq .i64) [x0, (i 0)] fun x1 =>
.ret x1
theorem k_slices_Contains_string_string : TxOk P F.slices_Contains_string_string 2 t_slices_Contains_string_string := txOk_of (H := {}) (plans := []) hm Tryd.func62 rfl rfl fun xs => by kernel_rfl
def t_ref01_in (xs : List PV) : T PV :=
.loop [(i 0)] fun y0 =>
.l .slen [(n xs 1)] fun x1 =>
.l (.cmp .lss .i64) [(n y0 0), x1] fun x2 =>
.ite x2 (
 .l .sidx [(n xs 1), (n y0 0)] fun x3 =>
 .l (.cmp .eql .u8) [x3, (n xs 0)] fun x4 =>
 .ite x4 (
  .ret (.bool true)) (
  .l (.arith .add .i64) [(n y0 0), (i 1)] fun x5 =>
  .cont 0 [x5])) (
 .ret (.bool false))
theorem k_ref01_in : TxOk P F.ref01_in 2 t_ref01_in := txOk_of (H := {}) (plans := []) hm Tryd.func63 rfl rfl fun xs => by kernel_rfl
def t_ref01_Letters (xs : List PV) : T PV :=
.ret (.str ⟨#[65, 66, 67, 68, 69, 70, 71, 72, 73, 74, 75, 76, 77, 78, 79, 80, 81, 82, 83, 84, 85, 86, 87, 88, 89, 90, 97, 98, 99, 100, 101, 102, 103, 104, 105, 106, 107, 108, 109, 110, 111, 112, 113, 114, 115, 116, 117, 118, 119, 120, 121, 122, 95]⟩)
theorem k_ref01_Letters : TxOk P F.ref01_Letters 0 t_ref01_Letters := txOk_of (H := {}) (plans := []) hm Tryd.func64 rfl rfl fun xs => by kernel_rfl
def t_ref01_digits (xs : List PV) : T PV :=
.ret (.str ⟨#[48, 49, 50, 51, 52, 53, 54, 55, 56, 57]⟩)
theorem k_ref01_digits : TxOk P F.ref01_digits 0 t_ref01_digits := txOk_of (H := {}) (plans := []) hm Tryd.func65 rfl rfl fun xs => by kernel_rfl
def t_slices_Index_string_string (xs : List PV) : T PV :=
.l .len [(n xs 0)] fun x0 =>
.loop [(i 0)] fun y1 =>
.l (.cmp .lss .i64) [(n y1 0), x0] fun x2 =>
.ite x2 (
 .l (.idx 1 false) [(n xs 0), (n y1 0)] fun x3 =>
 .l (.scmp .eql) [(n xs 1), x3] fun x4 =>
 .ite x4 (
  .ret (n y1 0)) (
  .l (.arith .add .i64) [(n y1 0), (i 1)] fun x5 =>
  .cont 0 [x5])) (
 .ret (i (-1)))
theorem k_slices_Index_string_string : TxOk P F.slices_Index_string_string 2 t_slices_Index_string_string := txOk_of (H := {}) (plans := []) hm Tryd.func66 rfl rfl fun xs => by kernel_rfl
def tb : List (Nat × Tx) := [(F.law02_TypetreeRight, ⟨1, t_law02_TypetreeRight⟩), (F.law02_TypetreeMeasures, ⟨2, t_law02_TypetreeMeasures⟩), (F.law02_awake, ⟨0, t_law02_awake⟩), (F.ref02_Few, ⟨2, t_ref02_Few⟩), (F.typetree_Right, ⟨1, t_typetree_Right⟩), (F.ref02_Right, ⟨1, t_ref02_Right⟩), (F.typetree_Size, ⟨1, t_typetree_Size⟩), (F.ref02_Size, ⟨1, t_ref02_Size⟩), (F.typetree_Depth, ⟨1, t_typetree_Depth⟩), (F.ref02_Depth, ⟨1, t_ref02_Depth⟩), (F.typetree_Same, ⟨2, t_typetree_Same⟩), (F.ref02_Same, ⟨2, t_ref02_Same⟩), (F.typetree_Session, ⟨1, t_typetree_Session⟩), (F.ref02_Session, ⟨1, t_ref02_Session⟩), (F.law02_loop, ⟨2, t_law02_loop⟩), (F.law02_send, ⟨2, t_law02_send⟩), (F.typetree_Unfold, ⟨1, t_typetree_Unfold⟩), (F.typetree_Raise, ⟨2, t_typetree_Raise⟩), (F.ref02_count, ⟨2, t_ref02_count⟩), (F.typetree_shallow, ⟨2, t_typetree_shallow⟩), (F.typetree_few, ⟨2, t_typetree_few⟩), (F.typetree_check, ⟨3, t_typetree_check⟩), (F.ref02_node, ⟨4, t_ref02_node⟩), (F.typetree_nodes, ⟨1, t_typetree_nodes⟩), (F.slices_Equal_string_string, ⟨2, t_slices_Equal_string_string⟩), (F.slices_EqualFunc_api_Type_api_Type_api_Type_api_Type, ⟨3, t_slices_EqualFunc_api_Type_api_Type_api_Type_api_Type⟩), (F.ref02_texts, ⟨2, t_ref02_texts⟩), (F.typetree_replace, ⟨3, t_typetree_replace⟩), (F.typetree_Copy, ⟨1, t_typetree_Copy⟩), (F.typetree_mapped, ⟨2, t_typetree_mapped⟩), (F.typetree_Raise_1, ⟨2, t_typetree_Raise_1⟩), (F.slices_ContainsFunc_api_Type_api_Type, ⟨2, t_slices_ContainsFunc_api_Type_api_Type⟩), (F.typetree_shallow_1, ⟨2, t_typetree_shallow_1⟩), (F.typetree_fields, ⟨1, t_typetree_fields⟩), (F.typetree_find, ⟨2, t_typetree_find⟩), (F.slices_Clone_typetree_bound_typetree_bound, ⟨1, t_slices_Clone_typetree_bound_typetree_bound⟩), (F.ref02_shape, ⟨1, t_ref02_shape⟩), (F.typetree_nodes_1, ⟨2, t_typetree_nodes_1⟩), (F.typetree_visit, ⟨2, t_typetree_visit⟩), (F.typetree_replace_1, ⟨3, t_typetree_replace_1⟩), (F.slices_Clone_string_string, ⟨1, t_slices_Clone_string_string⟩), (F.slices_IndexFunc_api_Type_api_Type, ⟨2, t_slices_IndexFunc_api_Type_api_Type⟩), (F.typetree_rules, ⟨0, t_typetree_rules⟩), (F.typetree_within, ⟨2, t_typetree_within⟩), (F.lex_Name, ⟨1, t_lex_Name⟩), (F.typetree_distinct, ⟨1, t_typetree_distinct⟩), (F.slices_Backward_typetree_bound_typetree_bound, ⟨1, t_slices_Backward_typetree_bound_typetree_bound⟩), (F.ref02_prio, ⟨1, t_ref02_prio⟩), (F.ref02_Labels, ⟨1, t_ref02_Labels⟩), (F.ref01_Name, ⟨1, t_ref01_Name⟩), (F.lex_letter, ⟨1, t_lex_letter⟩), (F.lex_span, ⟨3, t_lex_span⟩), (F.lex_Name_1, ⟨1, t_lex_Name_1⟩), (F.lex_digit, ⟨1, t_lex_digit⟩), (F.lex_Keyword, ⟨1, t_lex_Keyword⟩), (F.slices_Backward_typetree_bound_typetree_bound_1, ⟨2, t_slices_Backward_typetree_bound_typetree_bound_1⟩), (F.ref02_in, ⟨2, t_ref02_in⟩), (F.ref01_Word, ⟨1, t_ref01_Word⟩), (F.ref01_Keyword, ⟨1, t_ref01_Keyword⟩), (F.slices_Contains_string_string, ⟨2, t_slices_Contains_string_string⟩), (F.ref01_in, ⟨2, t_ref01_in⟩), (F.ref01_Letters, ⟨0, t_ref01_Letters⟩), (F.ref01_digits, ⟨0, t_ref01_digits⟩), (F.slices_Index_string_string, ⟨2, t_slices_Index_string_string⟩)]
def tbS : List (Nat × TxS) := [(F.slices_Clone_typetree_bound_typetree_bound, ⟨sg_slices_Clone_typetree_bound_typetree_bound, u_slices_Clone_typetree_bound_typetree_bound⟩), (F.slices_Clone_string_string, ⟨sg_slices_Clone_string_string, u_slices_Clone_string_string⟩)]
theorem allOk : AllOk P tb := ⟨k_law02_TypetreeRight, k_law02_TypetreeMeasures, k_law02_awake, k_ref02_Few, k_typetree_Right, k_ref02_Right, k_typetree_Size, k_ref02_Size, k_typetree_Depth, k_ref02_Depth, k_typetree_Same, k_ref02_Same, k_typetree_Session, k_ref02_Session, k_law02_loop, k_law02_send, k_typetree_Unfold, k_typetree_Raise, k_ref02_count, k_typetree_shallow, k_typetree_few, k_typetree_check, k_ref02_node, k_typetree_nodes, k_slices_Equal_string_string, k_slices_EqualFunc_api_Type_api_Type_api_Type_api_Type, k_ref02_texts, k_typetree_replace, k_typetree_Copy, k_typetree_mapped, k_typetree_Raise_1, k_slices_ContainsFunc_api_Type_api_Type, k_typetree_shallow_1, k_typetree_fields, k_typetree_find, k_slices_Clone_typetree_bound_typetree_bound, k_ref02_shape, k_typetree_nodes_1, k_typetree_visit, k_typetree_replace_1, k_slices_Clone_string_string, k_slices_IndexFunc_api_Type_api_Type, k_typetree_rules, k_typetree_within, k_lex_Name, k_typetree_distinct, k_slices_Backward_typetree_bound_typetree_bound, k_ref02_prio, k_ref02_Labels, k_ref01_Name, k_lex_letter, k_lex_span, k_lex_Name_1, k_lex_digit, k_lex_Keyword, k_slices_Backward_typetree_bound_typetree_bound_1, k_ref02_in, k_ref01_Word, k_ref01_Keyword, k_slices_Contains_string_string, k_ref01_in, k_ref01_Letters, k_ref01_digits, k_slices_Index_string_string, trivial⟩
theorem allOkS : AllOkS P tbS := ⟨m_slices_Clone_typetree_bound_typetree_bound, m_slices_Clone_string_string, trivial⟩
end Go.Proofs.YtkihijbeknphpaaDoor.Tx

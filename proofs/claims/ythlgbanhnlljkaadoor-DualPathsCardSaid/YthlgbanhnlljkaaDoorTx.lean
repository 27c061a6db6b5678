/- Texts of functions, printed by a program (wip/dev/Gen.lean). -/
import Derived.Test.YthlgbanhnlljkaaDoorLfC
import Derived.Test.YthlgbanhnlljkaaDoorChecked
import Derived.KernelRfl
set_option linter.all false
namespace Go.Proofs.YthlgbanhnlljkaaDoor.Tx
open Go.Lf Go.Lf.S
set_option maxRecDepth 100000
instance gl : Gl := ⟨[(0, (.agg [(i 0), (i 1), (i 2), (i 3), (i 5), (i 4), (i 7), (i 6)]), 8, true)]⟩
noncomputable abbrev P : Program := Tryd.prog
namespace F
abbrev law09_DualMatchesReference : Nat := 3
abbrev law09_DualInvolution : Nat := 4
abbrev law09_DualKinds : Nat := 5
abbrev law09_DualPaths : Nat := 6
abbrev law09_awake : Nat := 7
abbrev ref07_Few : Nat := 8
abbrev law08_Graph : Nat := 9
abbrev ref07_Build : Nat := 10
abbrev law09_same : Nat := 11
abbrev dual_Close : Nat := 12
abbrev ref09_Close : Nat := 13
abbrev dual_Kind : Nat := 14
abbrev ref09_Kind : Nat := 15
abbrev dual_Of : Nat := 16
abbrev ref02_Small : Nat := 17
abbrev ref02_Session : Nat := 18
abbrev law09_back : Nat := 19
abbrev ref07_reference : Nat := 20
abbrev ref07_nodes : Nat := 21
abbrev ref03_Texts : Nat := 22
abbrev dual_mapped_graph_Node_graph_Node : Nat := 23
abbrev dual_Close_1 : Nat := 24
abbrev slices_Clone_string_string : Nat := 25
abbrev slices_Clone_graph_Ref_graph_Ref : Nat := 26
abbrev dual_Close_2 : Nat := 27
abbrev dual_mapped_graph_Ref_graph_Ref : Nat := 28
abbrev dual_Close_2_1 : Nat := 29
abbrev dual_rest : Nat := 30
abbrev ref02_Few : Nat := 31
abbrev ref02_Right : Nat := 32
abbrev ref07_Count : Nat := 33
abbrev ref02_count : Nat := 34
abbrev ref02_Depth : Nat := 35
abbrev ref02_Size : Nat := 36
abbrev ref02_node : Nat := 37
abbrev ref02_shape : Nat := 38
abbrev ref02_prio : Nat := 39
abbrev ref02_Labels : Nat := 40
abbrev ref01_Name : Nat := 41
abbrev ref02_in : Nat := 42
abbrev ref01_Word : Nat := 43
abbrev ref01_Keyword : Nat := 44
abbrev ref01_in : Nat := 45
abbrev ref01_Letters : Nat := 46
abbrev ref01_digits : Nat := 47
end F
theorem hm : Tryd.prog.follows .mixedOrders = true := by kernel_rfl
/-- duologue/dual.mapped[duologue/graph.Node,duologue/graph.Node], with memory -/
def sg_dual_mapped_graph_Node_graph_Node : Sig := { args := [.at (.dat 0), .at (.dat 1)], obs := [], res := .at (.own 9000), robs := [(9000, .arr true 46 4 true 0)], nout := 1 }
/-- slices.Clone[[]string,string], with memory -/
def sg_slices_Clone_string_string : Sig := { args := [.at (.dat 0)], obs := [], res := .at (.own 9000), robs := [(9000, .arr true 9 1 false 0)], nout := 1 }
/-- slices.Clone[[]duologue/graph.Ref,duologue/graph.Ref], with memory -/
def sg_slices_Clone_graph_Ref_graph_Ref : Sig := { args := [.at (.dat 0)], obs := [], res := .at (.own 9000), robs := [(9000, .arr true 42 2 true 0)], nout := 1 }
def t_law09_DualMatchesReference (xs : List PV) : T PV :=
.call F.law09_awake [] fun x0 =>
.l .bnot [x0] fun x1 =>
.ite x1 (
 .call F.law09_awake [] fun x2 =>
 .ret x2) (
 .call F.ref07_Few [(n xs 0), (i 10), (i 200)] fun x2 =>
 .l .bnot [x2] fun x3 =>
 .ite x3 (
  .call F.law09_awake [] fun x4 =>
  .ret x4) (
  .call F.law08_Graph [(n xs 0)] fun x4 =>
  .l (.tc 0) [x4] fun x5 =>
  .l (.tc 1) [x4] fun x6 =>
  .l (.okc 1 true) [x5] fun x7 =>
  .call F.ref07_Build [(n xs 0)] fun x8 =>
  .l (.tc 0) [x8] fun x9 =>
  .l (.tc 1) [x8] fun x10 =>
  .call F.dual_Close [x7] fun x11 =>
  .call F.ref09_Close [x9] fun x12 =>
  .call F.law09_same [x11, x12] fun x13 =>
  .ite x13 (
   .call F.law09_same [x7, x9] fun x14 =>
   .ite x14 (
    .call F.dual_Kind [(n xs 1)] fun x15 =>
    .call F.ref09_Kind [(n xs 1)] fun x16 =>
    .l (.cmp .eql .i64) [x15, x16] fun x17 =>
    .ret x17) (
    .ret (.bool false))) (
   .ret (.bool false))))
theorem k_law09_DualMatchesReference : TxOk P F.law09_DualMatchesReference 2 t_law09_DualMatchesReference := txOk_of (H := {}) (plans := []) hm Tryd.func3 rfl rfl fun xs => by kernel_rfl
def t_law09_DualInvolution (xs : List PV) : T PV :=
.call F.law09_awake [] fun x0 =>
.l .bnot [x0] fun x1 =>
.ite x1 (
 .call F.law09_awake [] fun x2 =>
 .ret x2) (
 .call F.ref07_Few [(n xs 0), (i 5), (i 60)] fun x2 =>
 .l .bnot [x2] fun x3 =>
 .ite x3 (
  .call F.law09_awake [] fun x4 =>
  .ret x4) (
  .l .len [(n xs 0)] fun x4 =>
  .l (.cmp .eql .i64) [x4, (i 0)] fun x5 =>
  .ite x5 (
   .call F.law09_awake [] fun x6 =>
   .ret x6) (
   .call F.law08_Graph [(n xs 0)] fun x6 =>
   .l (.tc 0) [x6] fun x7 =>
   .l (.tc 1) [x6] fun x8 =>
   .l (.okc 1 true) [x7] fun x9 =>
   .call F.dual_Close [x9] fun x10 =>
   .l (.okc 1 true) [x10] fun x11 =>
   .l .len [(c 0 x11)] fun x12 =>
   .l .len [(c 0 x9)] fun x13 =>
   .l (.arith .mul .i64) [(i 2), x13] fun x14 =>
   .l (.cmp .neq .i64) [x12, x14] fun x15 =>
   .ite x15 (
    .ret (.bool false)) (
    .l (.conv .i64) [(n xs 1)] fun x16 =>
    .l .len [(c 0 x11)] fun x17 =>
    .l (.arith .rem .i64) [x16, x17] fun x18 =>
    .l (.conv .i64) [(n xs 2)] fun x19 =>
    .l (.okcs [(1, false), (1, false)]) [x18, x19] fun x20 =>
    .call F.dual_Of [x11, (.agg [x18, x19])] fun x21 =>
    .l (.okc 2 true) [x21] fun x22 =>
    .l (.cmp .lss .i64) [(c 0 x22), (i 0)] fun x23 =>
    .ite x23 (
     .ret (.bool false)) (
     .l .len [(c 0 x11)] fun x24 =>
     .l (.cmp .geq .i64) [(c 0 x22), x24] fun x25 =>
     .ite x25 (
      .ret (.bool false)) (
      .call F.dual_Of [x11, x22] fun x26 =>
      .l (.acmp .eql [.i .i64, .i .i64]) [x26, (.agg [x18, x19])] fun x27 =>
      .ite x27 (
       .l (.cmp .eql .i64) [(c 1 x22), x19] fun x28 =>
       .ite x28 (
        .l (.cmp .neq .i64) [(c 0 x22), x18] fun x29 =>
        .ite x29 (
         .l (.idx 4 true) [(c 0 x11), (c 0 x22)] fun x30 =>
         .l (.idx 4 true) [(c 0 x11), x18] fun x31 =>
         .call F.dual_Kind [(c 0 x31)] fun x32 =>
         .l (.cmp .eql .i64) [(c 0 x30), x32] fun x33 =>
         .ite x33 (
          .l (.idx 4 true) [(c 0 x11), (c 0 x22)] fun x34 =>
          .l (.idx 4 true) [(c 0 x11), x18] fun x35 =>
          .l (.cmp .eql .i64) [(c 1 x34), (c 1 x35)] fun x36 =>
          .ret x36) (
          .ret (.bool false))) (
         .ret (.bool false))) (
        .ret (.bool false))) (
       .ret (.bool false))))))))
theorem k_law09_DualInvolution : TxOk P F.law09_DualInvolution 3 t_law09_DualInvolution := txOk_of (H := {}) (plans := []) hm Tryd.func4 rfl rfl fun xs => by kernel_rfl
def t_law09_DualKinds (xs : List PV) : T PV :=
.call F.law09_awake [] fun x0 =>
.ite x0 (
 .call F.dual_Kind [(n xs 0)] fun x1 =>
 .call F.dual_Kind [x1] fun x2 =>
 .l (.cmp .eql .i64) [x2, (n xs 0)] fun x3 =>
 .ite x3 (
  .call F.dual_Kind [(n xs 0)] fun x4 =>
  .l (.cmp .eql .i64) [x4, (n xs 0)] fun x5 =>
  .l (.cmp .lss .i64) [(n xs 0), (i 4)] fun x6 =>
  .ite x6 (
   .l (.bcmp .eql) [x5, (.bool true)] fun x7 =>
   .ret x7) (
   .l (.cmp .gtr .i64) [(n xs 0), (i 7)] fun x7 =>
   .l (.bcmp .eql) [x5, x7] fun x8 =>
   .ret x8)) (
  .ret (.bool false))) (
 .ret (.bool false))
theorem k_law09_DualKinds : TxOk P F.law09_DualKinds 1 t_law09_DualKinds := txOk_of (H := {}) (plans := []) hm Tryd.func5 rfl rfl fun xs => by kernel_rfl
def t_law09_DualPaths (xs : List PV) : T PV :=
.l (.okc 6 true) [(n xs 0)] fun x0 =>
.call F.law09_awake [] fun x1 =>
.l .bnot [x1] fun x2 =>
.ite x2 (
 .call F.law09_awake [] fun x3 =>
 .ret x3) (
 .call F.ref02_Small [x0, (i 60)] fun x3 =>
 .l .bnot [x3] fun x4 =>
 .ite x4 (
  .call F.law09_awake [] fun x5 =>
  .ret x5) (
  .call F.ref02_Session [x0] fun x5 =>
  .l .bnot [x5] fun x6 =>
  .ite x6 (
   .call F.law09_awake [] fun x7 =>
   .ret x7) (
   .l .len [(n xs 1)] fun x7 =>
   .l (.cmp .gtr .i64) [x7, (i 20)] fun x8 =>
   .ite x8 (
    .call F.law09_awake [] fun x9 =>
    .ret x9) (
    .l (.lst 6 true) [x0] fun x9 =>
    .call F.law08_Graph [x9] fun x10 =>
    .l (.tc 0) [x10] fun x11 =>
    .l (.tc 1) [x10] fun x12 =>
    .l (.okc 1 true) [x11] fun x13 =>
    .call F.dual_Close [x13] fun x14 =>
    .l (.okc 1 true) [x14] fun x15 =>
    .call F.law09_back [x15] fun x16 =>
    .l (.tc 0) [x16] fun x17 =>
    .l (.tc 1) [x16] fun x18 =>
    .l .bnot [x18] fun x19 =>
    .ite x19 (
     .ret (.bool false)) (
     .l .len [(c 0 x15)] fun x20 =>
     .l .len [(c 0 x13)] fun x21 =>
     .l (.arith .mul .i64) [(i 2), x21] fun x22 =>
     .l (.cmp .neq .i64) [x20, x22] fun x23 =>
     .ite x23 (
      .ret (.bool false)) (
      .l (.idx 2 true) [x12, (i 0)] fun x24 =>
      .l (.okc 2 true) [x24] fun x25 =>
      .call F.dual_Of [x15, x25] fun x26 =>
      .l (.okc 2 true) [x26] fun x27 =>
      .loop [(i 0), x25, x27] fun y28 =>
      .l .len [(n xs 1)] fun x29 =>
      .l (.cmp .lss .i64) [(n y28 0), x29] fun x30 =>
      .ite x30 (
       .l (.cmp .lss .i64) [(c 0 (n y28 2)), (i 0)] fun x31 =>
       .ite x31 (
        .ret (.bool false)) (
        .l .len [(c 0 x15)] fun x32 =>
        .l (.cmp .geq .i64) [(c 0 (n y28 2)), x32] fun x33 =>
        .ite x33 (
         .ret (.bool false)) (
         .l (.cmp .lss .i64) [(c 0 (n y28 1)), (i 0)] fun x34 =>
         .ite x34 (
          .ret (.bool false)) (
          .l .len [(c 0 x15)] fun x35 =>
          .l (.cmp .geq .i64) [(c 0 (n y28 1)), x35] fun x36 =>
          .ite x36 (
           .ret (.bool false)) (
           .l (.idx 4 true) [(c 0 x15), (c 0 (n y28 1))] fun x37 =>
           .l .len [(c 3 x37)] fun x38 =>
           .l (.idx 4 true) [(c 0 x15), (c 0 (n y28 2))] fun x39 =>
           .l .len [(c 3 x39)] fun x40 =>
           .l (.cmp .neq .i64) [x38, x40] fun x41 =>
           .ite x41 (
            .ret (.bool false)) (
            .l (.idx 4 true) [(c 0 x15), (c 0 (n y28 1))] fun x42 =>
            .l .len [(c 3 x42)] fun x43 =>
            .l (.cmp .eql .i64) [x43, (i 0)] fun x44 =>
            .ite x44 (
             .ret (.bool true)) (
             .l (.idx 1 false) [(n xs 1), (n y28 0)] fun x45 =>
             .l (.conv .i64) [x45] fun x46 =>
             .l (.arith .rem .i64) [x46, x43] fun x47 =>
             .l (.idx 4 true) [(c 0 x15), (c 0 (n y28 1))] fun x48 =>
             .l .len [(c 2 x48)] fun x49 =>
             .l (.cmp .eql .i64) [x49, (i 0)] fun x50 =>
             .ite x50 (
              .l (.arith .sub .i64) [x43, (i 1)] fun x51 =>
              .l (.idx 4 true) [(c 0 x15), (c 0 (n y28 1))] fun x52 =>
              .l (.idx 2 true) [(c 3 x52), x51] fun x53 =>
              .l (.okc 2 true) [x53] fun x54 =>
              .l (.idx 4 true) [(c 0 x15), (c 0 (n y28 2))] fun x55 =>
              .l (.idx 2 true) [(c 3 x55), x51] fun x56 =>
              .l (.okc 2 true) [x56] fun x57 =>
              .l (.arith .add .i64) [(c 1 x54), (c 1 (n y28 1))] fun x58 =>
              .l (.okcs [(1, false), (1, false)]) [(c 0 x54), x58] fun x59 =>
              .l (.arith .add .i64) [(c 1 x57), (c 1 (n y28 2))] fun x60 =>
              .l (.okcs [(1, false), (1, false)]) [(c 0 x57), x60] fun x61 =>
              .call F.dual_Of [x15, (.agg [(c 0 x54), x58])] fun x62 =>
              .l (.acmp .neq [.i .i64, .i .i64]) [x62, (.agg [(c 0 x57), x60])] fun x63 =>
              .ite x63 (
               .ret (.bool false)) (
               .l (.arith .add .i64) [(n y28 0), (i 1)] fun x64 =>
               .cont 0 [x64, (.agg [(c 0 x54), x58]), (.agg [(c 0 x57), x60])])) (
              .l (.idx 4 true) [(c 0 x15), (c 0 (n y28 1))] fun x51 =>
              .l (.idx 2 true) [(c 3 x51), x47] fun x52 =>
              .l (.okc 2 true) [x52] fun x53 =>
              .l (.idx 4 true) [(c 0 x15), (c 0 (n y28 2))] fun x54 =>
              .l (.idx 2 true) [(c 3 x54), x47] fun x55 =>
              .l (.okc 2 true) [x55] fun x56 =>
              .l (.arith .add .i64) [(c 1 x53), (c 1 (n y28 1))] fun x57 =>
              .l (.okcs [(1, false), (1, false)]) [(c 0 x53), x57] fun x58 =>
              .l (.arith .add .i64) [(c 1 x56), (c 1 (n y28 2))] fun x59 =>
              .l (.okcs [(1, false), (1, false)]) [(c 0 x56), x59] fun x60 =>
              .call F.dual_Of [x15, (.agg [(c 0 x53), x57])] fun x61 =>
              .l (.acmp .neq [.i .i64, .i .i64]) [x61, (.agg [(c 0 x56), x59])] fun x62 =>
              .ite x62 (
               .ret (.bool false)) (
               .l (.arith .add .i64) [(n y28 0), (i 1)] fun x63 =>
               .cont 0 [x63, (.agg [(c 0 x53), x57]), (.agg [(c 0 x56), x59])]))))))))) (
       .ret (.bool true))))))))
theorem k_law09_DualPaths : TxOk P F.law09_DualPaths 2 t_law09_DualPaths := txOk_of (H := {}) (plans := []) hm Tryd.func6 rfl rfl fun xs => by kernel_rfl
def t_law09_awake (xs : List PV) : T PV :=
.l (.lst 6 true) [(.agg [(i 1), (i 0), (.str ⟨#[]⟩), (i 0), (.sl []), (.sl [])]), (.agg [(i 3), (i 0), (.str ⟨#[]⟩), (i 0), (.sl []), (.sl [])])] fun x0 =>
.l (.lst 6 true) [(.agg [(i 5), (i 1), (.str ⟨#[]⟩), (i 0), (.sl []), x0]), (.agg [(i 9), (i 0), (.str ⟨#[116]⟩), (i 1), (.sl []), (.sl [])])] fun x1 =>
.l (.lst 6 true) [(.agg [(i 4), (i 3), (.str ⟨#[]⟩), (i 0), (.sl []), x1])] fun x2 =>
.l (.lst 6 true) [(.agg [(i 8), (i 0), (.str ⟨#[116]⟩), (i 0), (.sl []), x2])] fun x3 =>
.call F.law08_Graph [x3] fun x4 =>
.l (.tc 0) [x4] fun x5 =>
.l (.tc 1) [x4] fun x6 =>
.l (.okc 1 true) [x5] fun x7 =>
.call F.dual_Close [x7] fun x8 =>
.l (.okc 1 true) [x8] fun x9 =>
.l .len [(c 0 x9)] fun x10 =>
.l (.cmp .neq .i64) [x10, (i 8)] fun x11 =>
.ite x11 (
 .ret (.bool false)) (
 .l (.idx 4 true) [(c 0 x9), (i 4)] fun x12 =>
 .l .len [(c 3 x12)] fun x13 =>
 .l (.cmp .neq .i64) [x13, (i 2)] fun x14 =>
 .ite x14 (
  .ret (.bool false)) (
  .l (.idx 2 true) [x6, (i 0)] fun x15 =>
  .call F.dual_Of [x9, x15] fun x16 =>
  .l (.okc 2 true) [x16] fun x17 =>
  .l (.acmp .eql [.i .i64, .i .i64]) [x17, (.agg [(i 4), (i 0)])] fun x18 =>
  .ite x18 (
   .call F.dual_Of [x9, x17] fun x19 =>
   .l (.idx 2 true) [x6, (i 0)] fun x20 =>
   .l (.acmp .eql [.i .i64, .i .i64]) [x19, x20] fun x21 =>
   .ite x21 (
    .l (.idx 4 true) [(c 0 x9), (i 4)] fun x22 =>
    .l (.cmp .eql .i64) [(c 0 x22), (i 5)] fun x23 =>
    .ite x23 (
     .l (.idx 4 true) [(c 0 x9), (i 4)] fun x24 =>
     .l (.cmp .eql .i64) [(c 1 x24), (i 3)] fun x25 =>
     .ite x25 (
      .l (.idx 4 true) [(c 0 x9), (i 4)] fun x26 =>
      .l (.idx 2 true) [(c 3 x26), (i 0)] fun x27 =>
      .l (.acmp .eql [.i .i64, .i .i64]) [x27, (.agg [(i 1), (i 0)])] fun x28 =>
      .ite x28 (
       .l (.idx 4 true) [(c 0 x9), (i 4)] fun x29 =>
       .l (.idx 2 true) [(c 3 x29), (i 1)] fun x30 =>
       .l (.acmp .eql [.i .i64, .i .i64]) [x30, (.agg [(i 4), (i 1)])] fun x31 =>
       .ite x31 (
        .call F.dual_Kind [(i 6)] fun x32 =>
        .l (.cmp .eql .i64) [x32, (i 7)] fun x33 =>
        .ite x33 (
         .call F.dual_Kind [(i 99)] fun x34 =>
         .l (.cmp .eql .i64) [x34, (i 99)] fun x35 =>
         .ite x35 (
          .call F.dual_Kind [(i (-1))] fun x36 =>
          .l (.cmp .eql .i64) [x36, (i (-1))] fun x37 =>
          .ret x37) (
          .ret (.bool false))) (
         .ret (.bool false))) (
        .ret (.bool false))) (
       .ret (.bool false))) (
      .ret (.bool false))) (
     .ret (.bool false))) (
    .ret (.bool false))) (
   .ret (.bool false))))
theorem k_law09_awake : TxOk P F.law09_awake 0 t_law09_awake := txOk_of (H := {}) (plans := []) hm Tryd.func7 rfl rfl fun xs => by kernel_rfl
def t_ref07_Few (xs : List PV) : T PV :=
.l .len [(n xs 0)] fun x0 =>
.l (.cmp .gtr .i64) [x0, (n xs 1)] fun x1 =>
.ite x1 (
 .ret (.bool false)) (
 .loop [(i 0)] fun y2 =>
 .l .len [(n xs 0)] fun x3 =>
 .l (.cmp .lss .i64) [(n y2 0), x3] fun x4 =>
 .ite x4 (
  .l (.idx 6 true) [(n xs 0), (n y2 0)] fun x5 =>
  .call F.ref02_Small [x5, (n xs 2)] fun x6 =>
  .l .bnot [x6] fun x7 =>
  .ite x7 (
   .ret (.bool false)) (
   .l (.arith .add .i64) [(n y2 0), (i 1)] fun x8 =>
   .cont 0 [x8])) (
  .ret (.bool true)))
theorem k_ref07_Few : TxOk P F.ref07_Few 3 t_ref07_Few := txOk_of (H := {}) (plans := []) hm Tryd.func8 rfl rfl fun xs => by kernel_rfl
def t_law08_Graph (xs : List PV) : T PV :=
.call F.ref07_Build [(n xs 0)] fun x0 =>
.l (.tc 0) [x0] fun x1 =>
.l (.tc 1) [x0] fun x2 =>
.loop [(i 0), (.sl [])] fun y3 =>
.l .len [x1] fun x4 =>
.l (.cmp .lss .i64) [(n y3 0), x4] fun x5 =>
.ite x5 (
 .l (.idx 4 true) [x1, (n y3 0)] fun x6 =>
 .l (.idx 4 true) [x1, (n y3 0)] fun x7 =>
 .l (.lst 1 false) [] fun x8 =>
 .l (.idx 4 true) [x1, (n y3 0)] fun x9 =>
 .l (.app 1 false 16) [x8, (c 2 x9)] fun x10 =>
 .l (.okcs [(1, false), (1, false)]) [(c 0 x6), (c 1 x7)] fun x11 =>
 .loop [(i 0), (c 0 x6), (c 1 x7), x10, (.sl [])] fun y12 =>
 .l (.idx 4 true) [x1, (n y3 0)] fun x13 =>
 .l .len [(c 3 x13)] fun x14 =>
 .l (.cmp .lss .i64) [(n y12 0), x14] fun x15 =>
 .ite x15 (
  .l (.idx 4 true) [x1, (n y3 0)] fun x16 =>
  .l (.idx 2 true) [(c 3 x16), (n y12 0)] fun x17 =>
  .l (.idx 4 true) [x1, (n y3 0)] fun x18 =>
  .l (.idx 2 true) [(c 3 x18), (n y12 0)] fun x19 =>
  .l (.okcs [(1, false), (1, false)]) [(c 0 x17), (c 1 x19)] fun x20 =>
  .l (.lst 2 true) [(.agg [(c 0 x17), (c 1 x19)])] fun x21 =>
  .l (.app 2 true 16) [(n y12 4), x21] fun x22 =>
  .l (.arith .add .i64) [(n y12 0), (i 1)] fun x23 =>
  .cont 1 [x23, (n y12 1), (n y12 2), (n y12 3), x22]) (
  .l (.lst 4 true) [(.agg [(n y12 1), (n y12 2), (n y12 3), (n y12 4)])] fun x16 =>
  .l (.app 4 true 64) [(n y3 1), x16] fun x17 =>
  .l (.arith .add .i64) [(n y3 0), (i 1)] fun x18 =>
  .cont 0 [x18, x17])) (
 .loop [(i 0), (.sl [])] fun y6 =>
 .l .len [x2] fun x7 =>
 .l (.cmp .lss .i64) [(n y6 0), x7] fun x8 =>
 .ite x8 (
  .l (.idx 2 true) [x2, (n y6 0)] fun x9 =>
  .l (.idx 2 true) [x2, (n y6 0)] fun x10 =>
  .l (.okcs [(1, false), (1, false)]) [(c 0 x9), (c 1 x10)] fun x11 =>
  .l (.lst 2 true) [(.agg [(c 0 x9), (c 1 x10)])] fun x12 =>
  .l (.app 2 true 16) [(n y6 1), x12] fun x13 =>
  .l (.arith .add .i64) [(n y6 0), (i 1)] fun x14 =>
  .cont 1 [x14, x13]) (
  .ret (.tup [(.agg [(n y3 1)]), (n y6 1)])))
theorem k_law08_Graph : TxOk P F.law08_Graph 1 t_law08_Graph := txOk_of (H := {}) (plans := []) hm Tryd.func9 rfl rfl fun xs => by kernel_rfl
def t_ref07_Build (xs : List PV) : T PV :=
.loop [(i 0), (.sl []), (.sl [])] fun y0 =>
.l .len [(n xs 0)] fun x1 =>
.l (.cmp .lss .i64) [(n y0 0), x1] fun x2 =>
.ite x2 (
 .l (.idx 6 true) [(n xs 0), (n y0 0)] fun x3 =>
 .l .len [(n y0 2)] fun x4 =>
 .call F.ref07_reference [x3, x4, (.sl []), (.sl [])] fun x5 =>
 .l (.lst 2 true) [x5] fun x6 =>
 .l (.app 2 true 16) [(n y0 1), x6] fun x7 =>
 .l (.idx 6 true) [(n xs 0), (n y0 0)] fun x8 =>
 .l .len [(n y0 2)] fun x9 =>
 .call F.ref07_nodes [x8, x9, (.sl []), (.sl [])] fun x10 =>
 .l (.app 4 true 64) [(n y0 2), x10] fun x11 =>
 .l (.arith .add .i64) [(n y0 0), (i 1)] fun x12 =>
 .cont 0 [x12, x7, x11]) (
 .ret (.tup [(n y0 2), (n y0 1)]))
theorem k_ref07_Build : TxOk P F.ref07_Build 1 t_ref07_Build := txOk_of (H := {}) (plans := []) hm Tryd.func10 rfl rfl fun xs => by kernel_rfl
def t_law09_same (xs : List PV) : T PV :=
.l (.okc 1 true) [(n xs 0)] fun x0 =>
.l .len [(c 0 x0)] fun x1 =>
.l .len [(n xs 1)] fun x2 =>
.l (.cmp .neq .i64) [x1, x2] fun x3 =>
.ite x3 (
 .ret (.bool false)) (
 .loop [(i 0)] fun y4 =>
 .l .len [(n xs 1)] fun x5 =>
 .l (.cmp .lss .i64) [(n y4 0), x5] fun x6 =>
 .ite x6 (
  .l (.idx 4 true) [(c 0 x0), (n y4 0)] fun x7 =>
  .l (.okc 4 true) [x7] fun x8 =>
  .l (.idx 4 true) [(n xs 1), (n y4 0)] fun x9 =>
  .l (.cmp .neq .i64) [(c 0 x8), (c 0 x9)] fun x10 =>
  .ite x10 (
   .ret (.bool false)) (
   .l (.idx 4 true) [(n xs 1), (n y4 0)] fun x11 =>
   .l (.cmp .neq .i64) [(c 1 x8), (c 1 x11)] fun x12 =>
   .ite x12 (
    .ret (.bool false)) (
    .l (.idx 4 true) [(n xs 1), (n y4 0)] fun x13 =>
    .call F.ref03_Texts [(c 2 x8), (c 2 x13)] fun x14 =>
    .l .bnot [x14] fun x15 =>
    .ite x15 (
     .ret (.bool false)) (
     .l .len [(c 3 x8)] fun x16 =>
     .l (.idx 4 true) [(n xs 1), (n y4 0)] fun x17 =>
     .l .len [(c 3 x17)] fun x18 =>
     .l (.cmp .neq .i64) [x16, x18] fun x19 =>
     .ite x19 (
      .ret (.bool false)) (
      .loop [(i 0)] fun y20 =>
      .l .len [(c 3 x8)] fun x21 =>
      .l (.cmp .lss .i64) [(n y20 0), x21] fun x22 =>
      .ite x22 (
       .l (.idx 2 true) [(c 3 x8), (n y20 0)] fun x23 =>
       .l (.idx 4 true) [(n xs 1), (n y4 0)] fun x24 =>
       .l (.idx 2 true) [(c 3 x24), (n y20 0)] fun x25 =>
       .l (.idx 4 true) [(n xs 1), (n y4 0)] fun x26 =>
       .l (.idx 2 true) [(c 3 x26), (n y20 0)] fun x27 =>
       .l (.okcs [(1, false), (1, false)]) [(c 0 x25), (c 1 x27)] fun x28 =>
       .l (.acmp .neq [.i .i64, .i .i64]) [x23, (.agg [(c 0 x25), (c 1 x27)])] fun x29 =>
       .ite x29 (
        .ret (.bool false)) (
        .l (.arith .add .i64) [(n y20 0), (i 1)] fun x30 =>
        .cont 1 [x30])) (
       .l (.arith .add .i64) [(n y4 0), (i 1)] fun x23 =>
       .cont 0 [x23])))))) (
  .ret (.bool true)))
theorem k_law09_same : TxOk P F.law09_same 2 t_law09_same := txOk_of (H := {}) (plans := []) hm Tryd.func11 rfl rfl fun xs => by kernel_rfl
def t_dual_Close (xs : List PV) : T PV :=
.l (.okc 1 true) [(n xs 0)] fun x0 =>
.l .len [(c 0 x0)] fun x1 =>
.l (.okc 1 false) [x1] fun x2 =>
.calls F.dual_mapped_graph_Node_graph_Node sg_dual_mapped_graph_Node_graph_Node [(c 0 x0), (.fn F.dual_Close_1 [] [])] fun z3 =>
.calls F.dual_mapped_graph_Node_graph_Node sg_dual_mapped_graph_Node_graph_Node [(c 0 x0), (.fn F.dual_Close_2 [] [(.box x2)])] fun z4 =>
.l (.app 4 true 64) [(n z3 0), (n z4 0)] fun x5 =>
.ret (.agg [x5])
theorem k_dual_Close : TxOk P F.dual_Close 1 t_dual_Close := txOk_of (H := { sigs := [(23, sg_dual_mapped_graph_Node_graph_Node)] }) (plans := []) hm Tryd.func12 rfl rfl fun xs => by kernel_rfl
def t_ref09_Close (xs : List PV) : T PV :=
.l (.lst 4 true) [] fun x0 =>
.l (.app 4 true 64) [x0, (n xs 0)] fun x1 =>
.loop [(i 0), x1] fun y2 =>
.l .len [(n xs 0)] fun x3 =>
.l (.cmp .lss .i64) [(n y2 0), x3] fun x4 =>
.ite x4 (
 .l (.idx 4 true) [(n xs 0), (n y2 0)] fun x5 =>
 .call F.ref09_Kind [(c 0 x5)] fun x6 =>
 .l (.idx 4 true) [(n xs 0), (n y2 0)] fun x7 =>
 .l (.idx 4 true) [(n xs 0), (n y2 0)] fun x8 =>
 .l (.okcs [(1, false), (1, false), (1, false)]) [x6, (c 1 x7), (c 2 x8)] fun x9 =>
 .loop [(i 0), x6, (c 1 x7), (c 2 x8), (.sl [])] fun y10 =>
 .l (.idx 4 true) [(n xs 0), (n y2 0)] fun x11 =>
 .l .len [(c 3 x11)] fun x12 =>
 .l (.cmp .lss .i64) [(n y10 0), x12] fun x13 =>
 .ite x13 (
  .l (.idx 4 true) [(n xs 0), (n y2 0)] fun x14 =>
  .l (.idx 2 true) [(c 3 x14), (n y10 0)] fun x15 =>
  .l (.okc 2 true) [x15] fun x16 =>
  .l (.cmp .eql .i64) [(n y10 0), (i 1)] fun x17 =>
  .ite x17 (
   .l .len [(n xs 0)] fun x18 =>
   .l (.arith .add .i64) [(c 0 x16), x18] fun x19 =>
   .l (.okc 1 false) [x19] fun x20 =>
   .l (.lst 2 true) [(.agg [x20, (c 1 x16)])] fun x21 =>
   .l (.app 2 true 16) [(n y10 4), x21] fun x22 =>
   .l (.arith .add .i64) [(n y10 0), (i 1)] fun x23 =>
   .cont 1 [x23, (n y10 1), (n y10 2), (n y10 3), x22]) (
   .l (.idx 4 true) [(n xs 0), (n y2 0)] fun x18 =>
   .l (.cmp .geq .i64) [(c 0 x18), (i 6)] fun x19 =>
   .ite x19 (
    .l .len [(n xs 0)] fun x20 =>
    .l (.arith .add .i64) [(c 0 x16), x20] fun x21 =>
    .l (.okc 1 false) [x21] fun x22 =>
    .l (.lst 2 true) [(.agg [x22, (c 1 x16)])] fun x23 =>
    .l (.app 2 true 16) [(n y10 4), x23] fun x24 =>
    .l (.arith .add .i64) [(n y10 0), (i 1)] fun x25 =>
    .cont 1 [x25, (n y10 1), (n y10 2), (n y10 3), x24]) (
    .l (.lst 2 true) [x16] fun x20 =>
    .l (.app 2 true 16) [(n y10 4), x20] fun x21 =>
    .l (.arith .add .i64) [(n y10 0), (i 1)] fun x22 =>
    .cont 1 [x22, (n y10 1), (n y10 2), (n y10 3), x21]))) (
  .l (.lst 4 true) [(.agg [(n y10 1), (n y10 2), (n y10 3), (n y10 4)])] fun x14 =>
  .l (.app 4 true 64) [(n y2 1), x14] fun x15 =>
  .l (.arith .add .i64) [(n y2 0), (i 1)] fun x16 =>
  .cont 0 [x16, x15])) (
 .ret (n y2 1))
theorem k_ref09_Close : TxOk P F.ref09_Close 1 t_ref09_Close := txOk_of (H := {}) (plans := []) hm Tryd.func13 rfl rfl fun xs => by kernel_rfl
def t_dual_Kind (xs : List PV) : T PV :=
.l (.cmp .lss .i64) [(n xs 0), (i 1)] fun x0 =>
.ite x0 (
 .ret (n xs 0)) (
 .l (.cmp .geq .i64) [(n xs 0), (i 8)] fun x1 =>
 .ite x1 (
  .ret (n xs 0)) (
  .l (.aidx 8 1 false) [(.agg [(i 0), (i 1), (i 2), (i 3), (i 5), (i 4), (i 7), (i 6)]), (n xs 0)] fun x2 =>
  .ret x2))
theorem k_dual_Kind : TxOk P F.dual_Kind 1 t_dual_Kind := txOk_of (H := {}) (plans := []) hm Tryd.func14 rfl rfl fun xs => by kernel_rfl
def t_ref09_Kind (xs : List PV) : T PV :=
.l (.cmp .eql .i64) [(n xs 0), (i 4)] fun x0 =>
.ite x0 (
 .ret (i 5)) (
 .l (.cmp .eql .i64) [(n xs 0), (i 5)] fun x1 =>
 .ite x1 (
  .ret (i 4)) (
  .l (.cmp .eql .i64) [(n xs 0), (i 6)] fun x2 =>
  .ite x2 (
   .ret (i 7)) (
   .l (.cmp .eql .i64) [(n xs 0), (i 7)] fun x3 =>
   .ite x3 (
    .ret (i 6)) (
    .ret (n xs 0)))))
theorem k_ref09_Kind : TxOk P F.ref09_Kind 1 t_ref09_Kind := txOk_of (H := {}) (plans := []) hm Tryd.func15 rfl rfl fun xs => by kernel_rfl
def t_dual_Of (xs : List PV) : T PV :=
.l (.okc 1 true) [(n xs 0)] fun x0 =>
.l (.okc 2 true) [(n xs 1)] fun x1 =>
.l .len [(c 0 x0)] fun x2 =>
.l (.arith .quo .i64) [x2, (i 2)] fun x3 =>
.l (.cmp .lss .i64) [(c 0 x1), x3] fun x4 =>
.ite x4 (
 .l (.arith .add .i64) [(c 0 x1), x3] fun x5 =>
 .l (.okc 1 false) [x5] fun x6 =>
 .ret (.agg [x6, (c 1 x1)])) (
 .l (.arith .sub .i64) [(c 0 x1), x3] fun x5 =>
 .l (.okc 1 false) [x5] fun x6 =>
 .ret (.agg [x6, (c 1 x1)]))
theorem k_dual_Of : TxOk P F.dual_Of 2 t_dual_Of := txOk_of (H := {}) (plans := []) hm Tryd.func16 rfl rfl fun xs => by kernel_rfl
def t_ref02_Small (xs : List PV) : T PV :=
.l (.okc 6 true) [(n xs 0)] fun x0 =>
.call F.ref02_Few [x0, (n xs 1)] fun x1 =>
.ite x1 (
 .call F.ref02_Right [x0] fun x2 =>
 .l (.cmp .eql .i64) [x2, (i 0)] fun x3 =>
 .ret x3) (
 .ret (.bool false))
theorem k_ref02_Small : TxOk P F.ref02_Small 2 t_ref02_Small := txOk_of (H := {}) (plans := []) hm Tryd.func17 rfl rfl fun xs => by kernel_rfl
def t_ref02_Session (xs : List PV) : T PV :=
.l (.okc 6 true) [(n xs 0)] fun x0 =>
.l (.cmp .neq .i64) [(c 0 x0), (i 1)] fun x1 =>
.ite x1 (
 .l (.cmp .neq .i64) [(c 0 x0), (i 2)] fun x2 =>
 .ret x2) (
 .ret (.bool false))
theorem k_ref02_Session : TxOk P F.ref02_Session 1 t_ref02_Session := txOk_of (H := {}) (plans := []) hm Tryd.func18 rfl rfl fun xs => by kernel_rfl
def t_law09_back (xs : List PV) : T PV :=
.l (.okc 1 true) [(n xs 0)] fun x0 =>
.loop [(i 0), (.sl [])] fun y1 =>
.l .len [(c 0 x0)] fun x2 =>
.l (.cmp .lss .i64) [(n y1 0), x2] fun x3 =>
.ite x3 (
 .l (.idx 4 true) [(c 0 x0), (n y1 0)] fun x4 =>
 .l (.idx 4 true) [(c 0 x0), (n y1 0)] fun x5 =>
 .l (.idx 4 true) [(c 0 x0), (n y1 0)] fun x6 =>
 .l (.okcs [(1, false), (1, false), (1, false)]) [(c 0 x4), (c 1 x5), (c 2 x6)] fun x7 =>
 .loop [(i 0), (c 0 x4), (c 1 x5), (c 2 x6), (.sl [])] fun y8 =>
 .l (.idx 4 true) [(c 0 x0), (n y1 0)] fun x9 =>
 .l .len [(c 3 x9)] fun x10 =>
 .l (.cmp .lss .i64) [(n y8 0), x10] fun x11 =>
 .ite x11 (
  .l (.idx 4 true) [(c 0 x0), (n y1 0)] fun x12 =>
  .l (.idx 2 true) [(c 3 x12), (n y8 0)] fun x13 =>
  .l (.okc 2 true) [x13] fun x14 =>
  .l (.cmp .lss .i64) [(c 0 x14), (i 0)] fun x15 =>
  .ite x15 (
   .ret (.tup [(.sl []), (.bool false)])) (
   .l .len [(c 0 x0)] fun x16 =>
   .l (.cmp .geq .i64) [(c 0 x14), x16] fun x17 =>
   .ite x17 (
    .ret (.tup [(.sl []), (.bool false)])) (
    .l (.okcs [(1, false), (1, false)]) [(c 0 x14), (c 1 x14)] fun x18 =>
    .l (.lst 2 true) [(.agg [(c 0 x14), (c 1 x14)])] fun x19 =>
    .l (.app 2 true 16) [(n y8 4), x19] fun x20 =>
    .l (.arith .add .i64) [(n y8 0), (i 1)] fun x21 =>
    .cont 1 [x21, (n y8 1), (n y8 2), (n y8 3), x20]))) (
  .l (.lst 4 true) [(.agg [(n y8 1), (n y8 2), (n y8 3), (n y8 4)])] fun x12 =>
  .l (.app 4 true 64) [(n y1 1), x12] fun x13 =>
  .l (.arith .add .i64) [(n y1 0), (i 1)] fun x14 =>
  .cont 0 [x14, x13])) (
 .ret (.tup [(n y1 1), (.bool true)]))
theorem k_law09_back : TxOk P F.law09_back 1 t_law09_back := txOk_of (H := {}) (plans := []) hm Tryd.func19 rfl rfl fun xs => by kernel_rfl
def t_ref07_reference (xs : List PV) : T PV :=
.l (.okc 6 true) [(n xs 0)] fun x0 =>
.l (.cmp .eql .i64) [(c 0 x0), (i 8)] fun x1 =>
.ite x1 (
 .l (.idx 6 true) [(c 5 x0), (i 0)] fun x2 =>
 .call F.ref07_reference [x2, (n xs 1), (n xs 2), (n xs 3)] fun x3 =>
 .l (.okc 2 true) [x3] fun x4 =>
 .ret x4) (
 .l (.cmp .eql .i64) [(c 0 x0), (i 9)] fun x2 =>
 .ite x2 (
  .l .len [(n xs 2)] fun x3 =>
  .l (.arith .sub .i64) [x3, (i 1)] fun x4 =>
  .loop [x4] fun y5 =>
  .l (.cmp .geq .i64) [(n y5 0), (i 0)] fun x6 =>
  .ite x6 (
   .l (.idx 1 false) [(n xs 2), (n y5 0)] fun x7 =>
   .l (.scmp .eql) [x7, (c 2 x0)] fun x8 =>
   .ite x8 (
    .l (.idx 2 true) [(n xs 3), (n y5 0)] fun x9 =>
    .l (.idx 2 true) [(n xs 3), (n y5 0)] fun x10 =>
    .l (.arith .add .i64) [(c 1 x10), (c 3 x0)] fun x11 =>
    .l (.okcs [(1, false), (1, false)]) [(c 0 x9), x11] fun x12 =>
    .ret (.agg [(c 0 x9), x11])) (
    .l (.arith .sub .i64) [(n y5 0), (i 1)] fun x9 =>
    .cont 0 [x9])) (
   .l (.okcs [(1, false)]) [(n xs 1)] fun x7 =>
   .ret (.agg [(n xs 1), (i 0)]))) (
  .l (.okcs [(1, false)]) [(n xs 1)] fun x3 =>
  .ret (.agg [(n xs 1), (i 0)])))
theorem k_ref07_reference : TxOk P F.ref07_reference 4 t_ref07_reference := txOk_of (H := {}) (plans := []) hm Tryd.func20 rfl rfl fun xs => by kernel_rfl
def t_ref07_nodes (xs : List PV) : T PV :=
.l (.okc 6 true) [(n xs 0)] fun x0 =>
.l (.cmp .eql .i64) [(c 0 x0), (i 8)] fun x1 =>
.ite x1 (
 .call F.ref07_reference [x0, (n xs 1), (n xs 2), (n xs 3)] fun x2 =>
 .l (.okc 2 true) [x2] fun x3 =>
 .l (.idx 6 true) [(c 5 x0), (i 0)] fun x4 =>
 .l (.lst 1 false) [] fun x5 =>
 .l (.app 1 false 16) [x5, (n xs 2)] fun x6 =>
 .l (.lst 1 false) [(c 2 x0)] fun x7 =>
 .l (.app 1 false 16) [x6, x7] fun x8 =>
 .l (.lst 2 true) [] fun x9 =>
 .l (.app 2 true 16) [x9, (n xs 3)] fun x10 =>
 .l (.lst 2 true) [x3] fun x11 =>
 .l (.app 2 true 16) [x10, x11] fun x12 =>
 .call F.ref07_nodes [x4, (n xs 1), x8, x12] fun x13 =>
 .ret x13) (
 .l (.cmp .eql .i64) [(c 0 x0), (i 9)] fun x2 =>
 .ite x2 (
  .ret (.sl [])) (
  .l (.okcs [(1, false), (1, false), (1, false)]) [(c 0 x0), (c 1 x0), (c 4 x0)] fun x3 =>
  .l (.arith .add .i64) [(n xs 1), (i 1)] fun x4 =>
  .loop [(i 0), x4, (.sl []), (c 0 x0), (c 1 x0), (c 4 x0), (.sl [])] fun y5 =>
  .l .len [(c 5 x0)] fun x6 =>
  .l (.cmp .lss .i64) [(n y5 0), x6] fun x7 =>
  .ite x7 (
   .l (.idx 6 true) [(c 5 x0), (n y5 0)] fun x8 =>
   .call F.ref07_reference [x8, (n y5 1), (n xs 2), (n xs 3)] fun x9 =>
   .l (.lst 2 true) [x9] fun x10 =>
   .l (.app 2 true 16) [(n y5 6), x10] fun x11 =>
   .l (.idx 6 true) [(c 5 x0), (n y5 0)] fun x12 =>
   .call F.ref07_nodes [x12, (n y5 1), (n xs 2), (n xs 3)] fun x13 =>
   .l (.app 4 true 64) [(n y5 2), x13] fun x14 =>
   .l (.idx 6 true) [(c 5 x0), (n y5 0)] fun x15 =>
   .call F.ref07_Count [x15] fun x16 =>
   .l (.arith .add .i64) [(n y5 1), x16] fun x17 =>
   .l (.arith .add .i64) [(n y5 0), (i 1)] fun x18 =>
   .cont 0 [x18, x17, x14, (n y5 3), (n y5 4), (n y5 5), x11]) (
   .l (.lst 4 true) [(.agg [(n y5 3), (n y5 4), (n y5 5), (n y5 6)])] fun x8 =>
   .l (.app 4 true 64) [x8, (n y5 2)] fun x9 =>
   .ret x9)))
theorem k_ref07_nodes : TxOk P F.ref07_nodes 4 t_ref07_nodes := txOk_of (H := {}) (plans := []) hm Tryd.func21 rfl rfl fun xs => by kernel_rfl
def t_ref03_Texts (xs : List PV) : T PV :=
.l .len [(n xs 0)] fun x0 =>
.l .len [(n xs 1)] fun x1 =>
.l (.cmp .neq .i64) [x0, x1] fun x2 =>
.ite x2 (
 .ret (.bool false)) (
 .loop [(i 0)] fun y3 =>
 .l .len [(n xs 0)] fun x4 =>
 .l (.cmp .lss .i64) [(n y3 0), x4] fun x5 =>
 .ite x5 (
  .l (.idx 1 false) [(n xs 0), (n y3 0)] fun x6 =>
  .l (.idx 1 false) [(n xs 1), (n y3 0)] fun x7 =>
  .l (.scmp .neq) [x6, x7] fun x8 =>
  .ite x8 (
   .ret (.bool false)) (
   .l (.arith .add .i64) [(n y3 0), (i 1)] fun x9 =>
   .cont 0 [x9])) (
  .ret (.bool true)))
theorem k_ref03_Texts : TxOk P F.ref03_Texts 2 t_ref03_Texts := txOk_of (H := {}) (plans := []) hm Tryd.func22 rfl rfl fun xs => by kernel_rfl
def t_dual_mapped_graph_Node_graph_Node (xs : List PV) : T PV :=
.l .len [(n xs 0)] fun x0 =>
.loop [(i 0), (.sl [])] fun y1 =>
.l (.cmp .lss .i64) [(n y1 0), x0] fun x2 =>
.ite x2 (
 .l (.idx 4 true) [(n xs 0), (n y1 0)] fun x3 =>
 .l (.okc 4 true) [x3] fun x4 =>
 .callv (n xs 1) [(n y1 0), x4] fun x5 =>
 .l (.lst 4 true) [x5] fun x6 =>
 .l (.app 4 true 64) [(n y1 1), x6] fun x7 =>
 .l (.arith .add .i64) [(n y1 0), (i 1)] fun x8 =>
 .cont 0 [x8, x7]) (
 .ret (n y1 1))
theorem k_dual_mapped_graph_Node_graph_Node : TxOk P F.dual_mapped_graph_Node_graph_Node 2 t_dual_mapped_graph_Node_graph_Node := txOk_of (H := {}) (plans := []) hm Tryd.func23 rfl rfl fun xs => by kernel_rfl
def u_dual_mapped_graph_Node_graph_Node (xs : List PV) : T PV :=
.l .len [(n xs 0)] fun x0 =>
.loop [(i 0), (.sl [])] fun y1 =>
.l (.cmp .lss .i64) [(n y1 0), x0] fun x2 =>
.ite x2 (
 .l (.idx 4 true) [(n xs 0), (n y1 0)] fun x3 =>
 .l (.okc 4 true) [x3] fun x4 =>
 .callv (n xs 1) [(n y1 0), x4] fun x5 =>
 .l (.lst 4 true) [x5] fun x6 =>
 .l (.app 4 true 64) [(n y1 1), x6] fun x7 =>
 .l (.arith .add .i64) [(n y1 0), (i 1)] fun x8 =>
 .cont 0 [x8, x7]) (
 .ret (.tup [(n y1 1)]))
theorem m_dual_mapped_graph_Node_graph_Node : TxOkS P F.dual_mapped_graph_Node_graph_Node sg_dual_mapped_graph_Node_graph_Node u_dual_mapped_graph_Node_graph_Node := txOkS_of (H := {}) (plans := []) hm Tryd.func23 rfl fun xs => by kernel_rfl
def t_dual_Close_1 (xs : List PV) : T PV :=
.l (.okc 4 true) [(n xs 1)] fun x0 =>
.call F.slices_Clone_string_string [(c 2 x0)] fun x1 =>
.call F.slices_Clone_graph_Ref_graph_Ref [(c 3 x0)] fun x2 =>
.l (.okc 1 false) [x1] fun x3 =>
.l (.okc 1 false) [x2] fun x4 =>
.ret (.agg [(c 0 x0), (c 1 x0), x3, x4])
theorem k_dual_Close_1 : TxOk P F.dual_Close_1 2 t_dual_Close_1 := txOk_of (H := {}) (plans := []) hm Tryd.func24 rfl rfl fun xs => by kernel_rfl
def t_slices_Clone_string_string (xs : List PV) : T PV :=
.nilq (n xs 0) (
 .ret (.sl [])) (
 .l (.lst 1 false) [] fun x0 =>
 .l (.app 1 false 16) [x0, (n xs 0)] fun x1 =>
 .ret x1)
theorem k_slices_Clone_string_string : TxOk P F.slices_Clone_string_string 1 t_slices_Clone_string_string := txOk_of (H := {}) (plans := []) hm Tryd.func25 rfl rfl fun xs => by kernel_rfl
-- NOT TOLD: 25S slices.Clone[[]string,string]: 1
def t_slices_Clone_graph_Ref_graph_Ref (xs : List PV) : T PV :=
.nilq (n xs 0) (
 .ret (.sl [])) (
 .l (.lst 2 true) [] fun x0 =>
 .l (.app 2 true 16) [x0, (n xs 0)] fun x1 =>
 .ret x1)
theorem k_slices_Clone_graph_Ref_graph_Ref : TxOk P F.slices_Clone_graph_Ref_graph_Ref 1 t_slices_Clone_graph_Ref_graph_Ref := txOk_of (H := {}) (plans := []) hm Tryd.func26 rfl rfl fun xs => by kernel_rfl
-- NOT TOLD: 26S slices.Clone[[]duologue/graph.Ref,duologue/graph.Ref]: 1
def t_dual_Close_2 (xs : List PV) : T PV :=
.l (.okc 4 true) [(n xs 1)] fun x0 =>
.call F.dual_mapped_graph_Ref_graph_Ref [(c 3 x0), (.fn F.dual_Close_2_1 [] [(.box x0), (n xs 2)])] fun x1 =>
.call F.dual_Kind [(c 0 x0)] fun x2 =>
.call F.slices_Clone_string_string [(c 2 x0)] fun x3 =>
.l (.okcs [(1, false), (1, false), (1, false), (1, false)]) [x2, (c 1 x0), x3, x1] fun x4 =>
.ret (.agg [x2, (c 1 x0), x3, x1])
theorem k_dual_Close_2 : TxOk P F.dual_Close_2 3 t_dual_Close_2 := txOk_of (H := {}) (plans := []) hm Tryd.func27 rfl rfl fun xs => by kernel_rfl
def t_dual_mapped_graph_Ref_graph_Ref (xs : List PV) : T PV :=
.l .len [(n xs 0)] fun x0 =>
.loop [(i 0), (.sl [])] fun y1 =>
.l (.cmp .lss .i64) [(n y1 0), x0] fun x2 =>
.ite x2 (
 .l (.idx 2 true) [(n xs 0), (n y1 0)] fun x3 =>
 .l (.okc 2 true) [x3] fun x4 =>
 .callv (n xs 1) [(n y1 0), x4] fun x5 =>
 .l (.lst 2 true) [x5] fun x6 =>
 .l (.app 2 true 16) [(n y1 1), x6] fun x7 =>
 .l (.arith .add .i64) [(n y1 0), (i 1)] fun x8 =>
 .cont 0 [x8, x7]) (
 .ret (n y1 1))
theorem k_dual_mapped_graph_Ref_graph_Ref : TxOk P F.dual_mapped_graph_Ref_graph_Ref 2 t_dual_mapped_graph_Ref_graph_Ref := txOk_of (H := {}) (plans := []) hm Tryd.func28 rfl rfl fun xs => by kernel_rfl
def t_dual_Close_2_1 (xs : List PV) : T PV :=
.l (.okc 2 true) [(n xs 1)] fun x0 =>
.l (.unbox 4 true) [(n xs 2)] fun x1 =>
.call F.dual_rest [(c 0 x1), (n xs 0)] fun x2 =>
.ite x2 (
 .l (.unbox 1 false) [(n xs 3)] fun x3 =>
 .l (.arith .add .i64) [(c 0 x0), x3] fun x4 =>
 .l (.okc 1 false) [x4] fun x5 =>
 .ret (.agg [x5, (c 1 x0)])) (
 .l (.okc 2 true) [x0] fun x3 =>
 .ret x3)
theorem k_dual_Close_2_1 : TxOk P F.dual_Close_2_1 4 t_dual_Close_2_1 := txOk_of (H := {}) (plans := []) hm Tryd.func29 rfl rfl fun xs => by kernel_rfl
def t_dual_rest (xs : List PV) : T PV :=
.l (.cmp .gtr .i64) [(n xs 1), (i 0)] fun x0 =>
.ite x0 (
 .ret (.bool true)) (
 .l (.cmp .eql .i64) [(n xs 0), (i 6)] fun x1 =>
 .ite x1 (
  .ret (.bool true)) (
  .l (.cmp .eql .i64) [(n xs 0), (i 7)] fun x2 =>
  .ret x2))
theorem k_dual_rest : TxOk P F.dual_rest 2 t_dual_rest := txOk_of (H := {}) (plans := []) hm Tryd.func30 rfl rfl fun xs => by kernel_rfl
def t_ref02_Few (xs : List PV) : T PV :=
.l (.okc 6 true) [(n xs 0)] fun x0 =>
.call F.ref02_count [x0, (n xs 1)] fun x1 =>
.l (.cmp .geq .i64) [x1, (i 0)] fun x2 =>
.ite x2 (
 .call F.ref02_Depth [x0] fun x3 =>
 .l (.cmp .leq .i64) [x3, (i 150)] fun x4 =>
 .ret x4) (
 .ret (.bool false))
theorem k_ref02_Few : TxOk P F.ref02_Few 2 t_ref02_Few := txOk_of (H := {}) (plans := []) hm Tryd.func31 rfl rfl fun xs => by kernel_rfl
def t_ref02_Right (xs : List PV) : T PV :=
.l (.okc 6 true) [(n xs 0)] fun x0 =>
.call F.ref02_Depth [x0] fun x1 =>
.l (.cmp .gtr .i64) [x1, (i 100)] fun x2 =>
.ite x2 (
 .ret (i 2)) (
 .call F.ref02_Size [x0] fun x3 =>
 .l (.cmp .gtr .i64) [x3, (i 10000)] fun x4 =>
 .ite x4 (
  .ret (i 2)) (
  .call F.ref02_node [x0, (.sl []), (i 0), (.bool false)] fun x5 =>
  .ret x5))
theorem k_ref02_Right : TxOk P F.ref02_Right 1 t_ref02_Right := txOk_of (H := {}) (plans := []) hm Tryd.func32 rfl rfl fun xs => by kernel_rfl
def t_ref07_Count (xs : List PV) : T PV :=
.l (.okc 6 true) [(n xs 0)] fun x0 =>
.l (.cmp .leq .i64) [(c 0 x0), (i 7)] fun x1 =>
.ite x1 (
 .loop [(i 0), (i 1)] fun y2 =>
 .l .len [(c 5 x0)] fun x3 =>
 .l (.cmp .lss .i64) [(n y2 0), x3] fun x4 =>
 .ite x4 (
  .l (.idx 6 true) [(c 5 x0), (n y2 0)] fun x5 =>
  .call F.ref07_Count [x5] fun x6 =>
  .l (.arith .add .i64) [(n y2 1), x6] fun x7 =>
  .l (.arith .add .i64) [(n y2 0), (i 1)] fun x8 =>
  .cont 0 [x8, x7]) (
  .ret (n y2 1))) (
 .loop [(i 0), (i 0)] fun y2 =>
 .l .len [(c 5 x0)] fun x3 =>
 .l (.cmp .lss .i64) [(n y2 0), x3] fun x4 =>
 .ite x4 (
  .l (.idx 6 true) [(c 5 x0), (n y2 0)] fun x5 =>
  .call F.ref07_Count [x5] fun x6 =>
  .l (.arith .add .i64) [(n y2 1), x6] fun x7 =>
  .l (.arith .add .i64) [(n y2 0), (i 1)] fun x8 =>
  .cont 0 [x8, x7]) (
  .ret (n y2 1)))
theorem k_ref07_Count : TxOk P F.ref07_Count 1 t_ref07_Count := txOk_of (H := {}) (plans := []) hm Tryd.func33 rfl rfl fun xs => by kernel_rfl
def t_ref02_count (xs : List PV) : T PV :=
.l (.okc 6 true) [(n xs 0)] fun x0 =>
.l (.arith .sub .i64) [(n xs 1), (i 1)] fun x1 =>
.loop [(i 0), x1] fun y2 =>
.l .len [(c 5 x0)] fun x3 =>
.l (.cmp .lss .i64) [(n y2 0), x3] fun x4 =>
.ite x4 (
 .l (.cmp .geq .i64) [(n y2 1), (i 0)] fun x5 =>
 .ite x5 (
  .l (.idx 6 true) [(c 5 x0), (n y2 0)] fun x6 =>
  .call F.ref02_count [x6, (n y2 1)] fun x7 =>
  .l (.arith .add .i64) [(n y2 0), (i 1)] fun x8 =>
  .cont 0 [x8, x7]) (
  .ret (n y2 1))) (
 .ret (n y2 1))
theorem k_ref02_count : TxOk P F.ref02_count 2 t_ref02_count := txOk_of (H := {}) (plans := []) hm Tryd.func34 rfl rfl fun xs => by kernel_rfl
def t_ref02_Depth (xs : List PV) : T PV :=
.l (.okc 6 true) [(n xs 0)] fun x0 =>
.loop [(i 0), (i 0)] fun y1 =>
.l .len [(c 5 x0)] fun x2 =>
.l (.cmp .lss .i64) [(n y1 0), x2] fun x3 =>
.ite x3 (
 .l (.idx 6 true) [(c 5 x0), (n y1 0)] fun x4 =>
 .call F.ref02_Depth [x4] fun x5 =>
 .l (.mx .i64) [(n y1 1), x5] fun x6 =>
 .l (.arith .add .i64) [(n y1 0), (i 1)] fun x7 =>
 .cont 0 [x7, x6]) (
 .l (.arith .add .i64) [(n y1 1), (i 1)] fun x4 =>
 .ret x4)
theorem k_ref02_Depth : TxOk P F.ref02_Depth 1 t_ref02_Depth := txOk_of (H := {}) (plans := []) hm Tryd.func35 rfl rfl fun xs => by kernel_rfl
def t_ref02_Size (xs : List PV) : T PV :=
.l (.okc 6 true) [(n xs 0)] fun x0 =>
.loop [(i 0), (i 1)] fun y1 =>
.l .len [(c 5 x0)] fun x2 =>
.l (.cmp .lss .i64) [(n y1 0), x2] fun x3 =>
.ite x3 (
 .l (.idx 6 true) [(c 5 x0), (n y1 0)] fun x4 =>
 .call F.ref02_Size [x4] fun x5 =>
 .l (.arith .add .i64) [(n y1 1), x5] fun x6 =>
 .l (.arith .add .i64) [(n y1 0), (i 1)] fun x7 =>
 .cont 0 [x7, x6]) (
 .ret (n y1 1))
theorem k_ref02_Size : TxOk P F.ref02_Size 1 t_ref02_Size := txOk_of (H := {}) (plans := []) hm Tryd.func36 rfl rfl fun xs => by kernel_rfl
def t_ref02_node (xs : List PV) : T PV :=
.l (.okc 6 true) [(n xs 0)] fun x0 =>
.call F.ref02_shape [x0] fun x1 =>
.l .bnot [x1] fun x2 =>
.ite x2 (
 .ret (i 3)) (
 .ite (n xs 3) (
  .call F.ref02_Session [x0] fun x3 =>
  .l .bnot [x3] fun x4 =>
  .ite x4 (
   .ret (i 3)) (
   .l (.cmp .eql .i64) [(c 0 x0), (i 9)] fun x5 =>
   .ite x5 (
    .l .len [(n xs 1)] fun x6 =>
    .l (.arith .sub .i64) [x6, (i 1)] fun x7 =>
    .loop [x7] fun y8 =>
    .l (.cmp .geq .i64) [(n y8 0), (i 0)] fun x9 =>
    .ite x9 (
     .l (.idx 1 false) [(n xs 1), (n y8 0)] fun x10 =>
     .l (.scmp .eql) [x10, (c 2 x0)] fun x11 =>
     .ite x11 (
      .l (.cmp .lss .i64) [(n y8 0), (n xs 2)] fun x12 =>
      .ite x12 (
       .ret (i 0)) (
       .ret (i 3))) (
      .l (.arith .sub .i64) [(n y8 0), (i 1)] fun x12 =>
      .cont 0 [x12])) (
     .ret (i 4))) (
    .l (.cmp .eql .i64) [(c 0 x0), (i 8)] fun x6 =>
    .ite x6 (
     .l (.idx 6 true) [(c 5 x0), (i 0)] fun x7 =>
     .l (.lst 1 false) [] fun x8 =>
     .l (.app 1 false 16) [x8, (n xs 1)] fun x9 =>
     .l (.lst 1 false) [(c 2 x0)] fun x10 =>
     .l (.app 1 false 16) [x9, x10] fun x11 =>
     .call F.ref02_node [x7, x11, (n xs 2), (.bool true)] fun x12 =>
     .ret x12) (
     .loop [(i 0)] fun y7 =>
     .l .len [(c 5 x0)] fun x8 =>
     .l (.cmp .lss .i64) [(n y7 0), x8] fun x9 =>
     .ite x9 (
      .l (.idx 6 true) [(c 5 x0), (n y7 0)] fun x10 =>
      .l .len [(n xs 1)] fun x11 =>
      .l (.cmp .gtr .i64) [(n y7 0), (i 0)] fun x12 =>
      .ite x12 (
       .call F.ref02_node [x10, (n xs 1), x11, (.bool true)] fun x13 =>
       .l (.cmp .neq .i64) [x13, (i 0)] fun x14 =>
       .ite x14 (
        .ret x13) (
        .l (.arith .add .i64) [(n y7 0), (i 1)] fun x15 =>
        .cont 0 [x15])) (
       .l (.cmp .gtr .i64) [(c 0 x0), (i 5)] fun x13 =>
       .call F.ref02_node [x10, (n xs 1), x11, x13] fun x14 =>
       .l (.cmp .neq .i64) [x14, (i 0)] fun x15 =>
       .ite x15 (
        .ret x14) (
        .l (.arith .add .i64) [(n y7 0), (i 1)] fun x16 =>
        .cont 0 [x16]))) (
      .ret (i 0)))))) (
  .l (.cmp .eql .i64) [(c 0 x0), (i 9)] fun x3 =>
  .ite x3 (
   .l .len [(n xs 1)] fun x4 =>
   .l (.arith .sub .i64) [x4, (i 1)] fun x5 =>
   .loop [x5] fun y6 =>
   .l (.cmp .geq .i64) [(n y6 0), (i 0)] fun x7 =>
   .ite x7 (
    .l (.idx 1 false) [(n xs 1), (n y6 0)] fun x8 =>
    .l (.scmp .eql) [x8, (c 2 x0)] fun x9 =>
    .ite x9 (
     .l (.cmp .lss .i64) [(n y6 0), (n xs 2)] fun x10 =>
     .ite x10 (
      .ret (i 0)) (
      .ret (i 3))) (
     .l (.arith .sub .i64) [(n y6 0), (i 1)] fun x10 =>
     .cont 0 [x10])) (
    .ret (i 4))) (
   .l (.cmp .eql .i64) [(c 0 x0), (i 8)] fun x4 =>
   .ite x4 (
    .l (.idx 6 true) [(c 5 x0), (i 0)] fun x5 =>
    .l (.lst 1 false) [] fun x6 =>
    .l (.app 1 false 16) [x6, (n xs 1)] fun x7 =>
    .l (.lst 1 false) [(c 2 x0)] fun x8 =>
    .l (.app 1 false 16) [x7, x8] fun x9 =>
    .call F.ref02_node [x5, x9, (n xs 2), (.bool true)] fun x10 =>
    .ret x10) (
    .loop [(i 0)] fun y5 =>
    .l .len [(c 5 x0)] fun x6 =>
    .l (.cmp .lss .i64) [(n y5 0), x6] fun x7 =>
    .ite x7 (
     .l (.idx 6 true) [(c 5 x0), (n y5 0)] fun x8 =>
     .l .len [(n xs 1)] fun x9 =>
     .l (.cmp .gtr .i64) [(n y5 0), (i 0)] fun x10 =>
     .ite x10 (
      .call F.ref02_node [x8, (n xs 1), x9, (.bool true)] fun x11 =>
      .l (.cmp .neq .i64) [x11, (i 0)] fun x12 =>
      .ite x12 (
       .ret x11) (
       .l (.arith .add .i64) [(n y5 0), (i 1)] fun x13 =>
       .cont 0 [x13])) (
      .l (.cmp .gtr .i64) [(c 0 x0), (i 5)] fun x11 =>
      .call F.ref02_node [x8, (n xs 1), x9, x11] fun x12 =>
      .l (.cmp .neq .i64) [x12, (i 0)] fun x13 =>
      .ite x13 (
       .ret x12) (
       .l (.arith .add .i64) [(n y5 0), (i 1)] fun x14 =>
       .cont 0 [x14]))) (
     .ret (i 0))))))
theorem k_ref02_node : TxOk P F.ref02_node 4 t_ref02_node := txOk_of (H := {}) (plans := []) hm Tryd.func37 rfl rfl fun xs => by kernel_rfl
def t_ref02_shape (xs : List PV) : T PV :=
.l (.okc 6 true) [(n xs 0)] fun x0 =>
.l (.cmp .eql .i64) [(c 0 x0), (i 1)] fun x1 =>
.ite x1 (
 .l (.cmp .eql .i64) [(c 1 x0), (i 0)] fun x2 =>
 .ite x2 (
  .l (.scmp .eql) [(c 2 x0), (.str ⟨#[]⟩)] fun x3 =>
  .ite x3 (
   .l (.cmp .eql .i64) [(c 3 x0), (i 0)] fun x4 =>
   .ite x4 (
    .l .len [(c 4 x0)] fun x5 =>
    .l (.cmp .eql .i64) [x5, (i 0)] fun x6 =>
    .ite x6 (
     .l .len [(c 5 x0)] fun x7 =>
     .l (.cmp .eql .i64) [x7, (i 0)] fun x8 =>
     .ret x8) (
     .ret (.bool false))) (
    .ret (.bool false))) (
   .ret (.bool false))) (
  .ret (.bool false))) (
 .l (.cmp .eql .i64) [(c 0 x0), (i 2)] fun x2 =>
 .ite x2 (
  .l (.cmp .eql .i64) [(c 1 x0), (i 0)] fun x3 =>
  .ite x3 (
   .l (.scmp .eql) [(c 2 x0), (.str ⟨#[]⟩)] fun x4 =>
   .ite x4 (
    .l (.cmp .eql .i64) [(c 3 x0), (i 0)] fun x5 =>
    .ite x5 (
     .l .len [(c 4 x0)] fun x6 =>
     .l (.cmp .eql .i64) [x6, (i 0)] fun x7 =>
     .ite x7 (
      .l .len [(c 5 x0)] fun x8 =>
      .l (.cmp .eql .i64) [x8, (i 0)] fun x9 =>
      .ret x9) (
      .ret (.bool false))) (
     .ret (.bool false))) (
    .ret (.bool false))) (
   .ret (.bool false))) (
  .l (.cmp .eql .i64) [(c 0 x0), (i 3)] fun x3 =>
  .ite x3 (
   .l (.cmp .eql .i64) [(c 1 x0), (i 0)] fun x4 =>
   .ite x4 (
    .l (.scmp .eql) [(c 2 x0), (.str ⟨#[]⟩)] fun x5 =>
    .ite x5 (
     .l (.cmp .eql .i64) [(c 3 x0), (i 0)] fun x6 =>
     .ite x6 (
      .l .len [(c 4 x0)] fun x7 =>
      .l (.cmp .eql .i64) [x7, (i 0)] fun x8 =>
      .ite x8 (
       .l .len [(c 5 x0)] fun x9 =>
       .l (.cmp .eql .i64) [x9, (i 0)] fun x10 =>
       .ret x10) (
       .ret (.bool false))) (
      .ret (.bool false))) (
     .ret (.bool false))) (
    .ret (.bool false))) (
   .l (.cmp .eql .i64) [(c 0 x0), (i 4)] fun x4 =>
   .ite x4 (
    .call F.ref02_prio [(c 1 x0)] fun x5 =>
    .ite x5 (
     .l (.scmp .eql) [(c 2 x0), (.str ⟨#[]⟩)] fun x6 =>
     .ite x6 (
      .l (.cmp .eql .i64) [(c 3 x0), (i 0)] fun x7 =>
      .ite x7 (
       .l .len [(c 4 x0)] fun x8 =>
       .l (.cmp .eql .i64) [x8, (i 0)] fun x9 =>
       .ite x9 (
        .l .len [(c 5 x0)] fun x10 =>
        .l (.cmp .eql .i64) [x10, (i 2)] fun x11 =>
        .ret x11) (
        .ret (.bool false))) (
       .ret (.bool false))) (
      .ret (.bool false))) (
     .ret (.bool false))) (
    .l (.cmp .eql .i64) [(c 0 x0), (i 5)] fun x5 =>
    .ite x5 (
     .call F.ref02_prio [(c 1 x0)] fun x6 =>
     .ite x6 (
      .l (.scmp .eql) [(c 2 x0), (.str ⟨#[]⟩)] fun x7 =>
      .ite x7 (
       .l (.cmp .eql .i64) [(c 3 x0), (i 0)] fun x8 =>
       .ite x8 (
        .l .len [(c 4 x0)] fun x9 =>
        .l (.cmp .eql .i64) [x9, (i 0)] fun x10 =>
        .ite x10 (
         .l .len [(c 5 x0)] fun x11 =>
         .l (.cmp .eql .i64) [x11, (i 2)] fun x12 =>
         .ret x12) (
         .ret (.bool false))) (
        .ret (.bool false))) (
       .ret (.bool false))) (
      .ret (.bool false))) (
     .l (.cmp .eql .i64) [(c 0 x0), (i 6)] fun x6 =>
     .ite x6 (
      .call F.ref02_prio [(c 1 x0)] fun x7 =>
      .ite x7 (
       .l (.scmp .eql) [(c 2 x0), (.str ⟨#[]⟩)] fun x8 =>
       .ite x8 (
        .l (.cmp .eql .i64) [(c 3 x0), (i 0)] fun x9 =>
        .ite x9 (
         .l .len [(c 4 x0)] fun x10 =>
         .l (.cmp .gtr .i64) [x10, (i 0)] fun x11 =>
         .ite x11 (
          .call F.ref02_Labels [(c 4 x0)] fun x12 =>
          .ite x12 (
           .l .len [(c 5 x0)] fun x13 =>
           .l .len [(c 4 x0)] fun x14 =>
           .l (.cmp .eql .i64) [x13, x14] fun x15 =>
           .ret x15) (
           .ret (.bool false))) (
          .ret (.bool false))) (
         .ret (.bool false))) (
        .ret (.bool false))) (
       .ret (.bool false))) (
      .l (.cmp .eql .i64) [(c 0 x0), (i 7)] fun x7 =>
      .ite x7 (
       .call F.ref02_prio [(c 1 x0)] fun x8 =>
       .ite x8 (
        .l (.scmp .eql) [(c 2 x0), (.str ⟨#[]⟩)] fun x9 =>
        .ite x9 (
         .l (.cmp .eql .i64) [(c 3 x0), (i 0)] fun x10 =>
         .ite x10 (
          .l .len [(c 4 x0)] fun x11 =>
          .l (.cmp .gtr .i64) [x11, (i 0)] fun x12 =>
          .ite x12 (
           .call F.ref02_Labels [(c 4 x0)] fun x13 =>
           .ite x13 (
            .l .len [(c 5 x0)] fun x14 =>
            .l .len [(c 4 x0)] fun x15 =>
            .l (.cmp .eql .i64) [x14, x15] fun x16 =>
            .ret x16) (
            .ret (.bool false))) (
           .ret (.bool false))) (
          .ret (.bool false))) (
         .ret (.bool false))) (
        .ret (.bool false))) (
       .l (.cmp .eql .i64) [(c 0 x0), (i 8)] fun x8 =>
       .ite x8 (
        .l (.cmp .eql .i64) [(c 1 x0), (i 0)] fun x9 =>
        .ite x9 (
         .call F.ref01_Name [(c 2 x0)] fun x10 =>
         .ite x10 (
          .l (.cmp .eql .i64) [(c 3 x0), (i 0)] fun x11 =>
          .ite x11 (
           .l .len [(c 4 x0)] fun x12 =>
           .l (.cmp .eql .i64) [x12, (i 0)] fun x13 =>
           .ite x13 (
            .l .len [(c 5 x0)] fun x14 =>
            .l (.cmp .eql .i64) [x14, (i 1)] fun x15 =>
            .ret x15) (
            .ret (.bool false))) (
           .ret (.bool false))) (
          .ret (.bool false))) (
         .ret (.bool false))) (
        .l (.cmp .eql .i64) [(c 0 x0), (i 9)] fun x9 =>
        .ite x9 (
         .l (.cmp .eql .i64) [(c 1 x0), (i 0)] fun x10 =>
         .ite x10 (
          .call F.ref01_Name [(c 2 x0)] fun x11 =>
          .ite x11 (
           .call F.ref02_prio [(c 3 x0)] fun x12 =>
           .ite x12 (
            .l .len [(c 4 x0)] fun x13 =>
            .l (.cmp .eql .i64) [x13, (i 0)] fun x14 =>
            .ite x14 (
             .l .len [(c 5 x0)] fun x15 =>
             .l (.cmp .eql .i64) [x15, (i 0)] fun x16 =>
             .ret x16) (
             .ret (.bool false))) (
            .ret (.bool false))) (
           .ret (.bool false))) (
          .ret (.bool false))) (
         .ret (.bool false))))))))))
theorem k_ref02_shape : TxOk P F.ref02_shape 1 t_ref02_shape := txOk_of (H := {}) (plans := []) hm Tryd.func38 rfl rfl fun xs => by kernel_rfl
def t_ref02_prio (xs : List PV) : T PV :=
.l (.cmp .geq .i64) [(n xs 0), (i 0)] fun x0 =>
.ite x0 (
 .l (.cmp .leq .i64) [(n xs 0), (i 1000000)] fun x1 =>
 .ret x1) (
 .ret (.bool false))
theorem k_ref02_prio : TxOk P F.ref02_prio 1 t_ref02_prio := txOk_of (H := {}) (plans := []) hm Tryd.func39 rfl rfl fun xs => by kernel_rfl
def t_ref02_Labels (xs : List PV) : T PV :=
.loop [(i 0)] fun y0 =>
.l .len [(n xs 0)] fun x1 =>
.l (.cmp .lss .i64) [(n y0 0), x1] fun x2 =>
.ite x2 (
 .l (.idx 1 false) [(n xs 0), (n y0 0)] fun x3 =>
 .call F.ref01_Name [x3] fun x4 =>
 .l .bnot [x4] fun x5 =>
 .ite x5 (
  .ret (.bool false)) (
  .l (.idx 1 false) [(n xs 0), (n y0 0)] fun x6 =>
  .l (.slcT 1 false) [(n xs 0), (n y0 0)] fun x7 =>
  .call F.ref02_in [x6, x7] fun x8 =>
  .ite x8 (
   .ret (.bool false)) (
   .l (.arith .add .i64) [(n y0 0), (i 1)] fun x9 =>
   .cont 0 [x9]))) (
 .ret (.bool true))
theorem k_ref02_Labels : TxOk P F.ref02_Labels 1 t_ref02_Labels := txOk_of (H := {}) (plans := []) hm Tryd.func40 rfl rfl fun xs => by kernel_rfl
def t_ref01_Name (xs : List PV) : T PV :=
.call F.ref01_Word [(n xs 0)] fun x0 =>
.ite x0 (
 .call F.ref01_Keyword [(n xs 0)] fun x1 =>
 .l .bnot [x1] fun x2 =>
 .ret x2) (
 .ret (.bool false))
theorem k_ref01_Name : TxOk P F.ref01_Name 1 t_ref01_Name := txOk_of (H := {}) (plans := []) hm Tryd.func41 rfl rfl fun xs => by kernel_rfl
def t_ref02_in (xs : List PV) : T PV :=
.loop [(i 0)] fun y0 =>
.l .len [(n xs 1)] fun x1 =>
.l (.cmp .lss .i64) [(n y0 0), x1] fun x2 =>
.ite x2 (
 .l (.idx 1 false) [(n xs 1), (n y0 0)] fun x3 =>
 .l (.scmp .eql) [x3, (n xs 0)] fun x4 =>
 .ite x4 (
  .ret (.bool true)) (
  .l (.arith .add .i64) [(n y0 0), (i 1)] fun x5 =>
  .cont 0 [x5])) (
 .ret (.bool false))
theorem k_ref02_in : TxOk P F.ref02_in 2 t_ref02_in := txOk_of (H := {}) (plans := []) hm Tryd.func42 rfl rfl fun xs => by kernel_rfl
def t_ref01_Word (xs : List PV) : T PV :=
.l .slen [(n xs 0)] fun x0 =>
.l (.cmp .eql .i64) [x0, (i 0)] fun x1 =>
.ite x1 (
 .ret (.bool false)) (
 .l .sidx [(n xs 0), (i 0)] fun x2 =>
 .call F.ref01_Letters [] fun x3 =>
 .call F.ref01_in [x2, x3] fun x4 =>
 .l .bnot [x4] fun x5 =>
 .ite x5 (
  .ret (.bool false)) (
  .loop [(i 1)] fun y6 =>
  .l .slen [(n xs 0)] fun x7 =>
  .l (.cmp .lss .i64) [(n y6 0), x7] fun x8 =>
  .ite x8 (
   .l .sidx [(n xs 0), (n y6 0)] fun x9 =>
   .call F.ref01_Letters [] fun x10 =>
   .call F.ref01_in [x9, x10] fun x11 =>
   .l .bnot [x11] fun x12 =>
   .ite x12 (
    .l .sidx [(n xs 0), (n y6 0)] fun x13 =>
    .call F.ref01_digits [] fun x14 =>
    .call F.ref01_in [x13, x14] fun x15 =>
    .l .bnot [x15] fun x16 =>
    .ite x16 (
     .ret (.bool false)) (
     .l (.arith .add .i64) [(n y6 0), (i 1)] fun x17 =>
     .cont 0 [x17])) (
    .l (.arith .add .i64) [(n y6 0), (i 1)] fun x13 =>
    .cont 0 [x13])) (
   .ret (.bool true))))
theorem k_ref01_Word : TxOk P F.ref01_Word 1 t_ref01_Word := txOk_of (H := {}) (plans := []) hm Tryd.func43 rfl rfl fun xs => by kernel_rfl
def t_ref01_Keyword (xs : List PV) : T PV :=
.l (.lst 1 false) [(.str ⟨#[100, 101, 102]⟩), (.str ⟨#[109, 97, 105, 110]⟩), (.str ⟨#[115, 116, 111, 112]⟩), (.str ⟨#[110, 101, 119]⟩), (.str ⟨#[105, 110, 116]⟩), (.str ⟨#[98, 111, 111, 108]⟩), (.str ⟨#[101, 110, 100]⟩), (.str ⟨#[114, 101, 99]⟩), (.str ⟨#[116, 114, 117, 101]⟩), (.str ⟨#[102, 97, 108, 115, 101]⟩)] fun x0 =>
.loop [(i 0)] fun y1 =>
.l .len [x0] fun x2 =>
.l (.cmp .lss .i64) [(n y1 0), x2] fun x3 =>
.ite x3 (
 .l (.idx 1 false) [x0, (n y1 0)] fun x4 =>
 .l (.scmp .eql) [x4, (n xs 0)] fun x5 =>
 .ite x5 (
  .ret (.bool true)) (
  .l (.arith .add .i64) [(n y1 0), (i 1)] fun x6 =>
  .cont 0 [x6])) (
 .ret (.bool false))
theorem k_ref01_Keyword : TxOk P F.ref01_Keyword 1 t_ref01_Keyword := txOk_of (H := {}) (plans := []) hm Tryd.func44 rfl rfl fun xs => by kernel_rfl
def t_ref01_in (xs : List PV) : T PV :=
.loop [(i 0)] fun y0 =>
.l .slen [(n xs 1)] fun x1 =>
.l (.cmp .lss .i64) [(n y0 0), x1] fun x2 =>
.ite x2 (
 .l .sidx [(n xs 1), (n y0 0)] fun x3 =>
 .l (.cmp .eql .u8) [x3, (n xs 0)] fun x4 =>
 .ite x4 (
  .ret (.bool true)) (
  .l (.arith .add .i64) [(n y0 0), (i 1)] fun x5 =>
  .cont 0 [x5])) (
 .ret (.bool false))
theorem k_ref01_in : TxOk P F.ref01_in 2 t_ref01_in := txOk_of (H := {}) (plans := []) hm Tryd.func45 rfl rfl fun xs => by kernel_rfl
def t_ref01_Letters (xs : List PV) : T PV :=
.ret (.str ⟨#[65, 66, 67, 68, 69, 70, 71, 72, 73, 74, 75, 76, 77, 78, 79, 80, 81, 82, 83, 84, 85, 86, 87, 88, 89, 90, 97, 98, 99, 100, 101, 102, 103, 104, 105, 106, 107, 108, 109, 110, 111, 112, 113, 114, 115, 116, 117, 118, 119, 120, 121, 122, 95]⟩)
theorem k_ref01_Letters : TxOk P F.ref01_Letters 0 t_ref01_Letters := txOk_of (H := {}) (plans := []) hm Tryd.func46 rfl rfl fun xs => by kernel_rfl
def t_ref01_digits (xs : List PV) : T PV :=
.ret (.str ⟨#[48, 49, 50, 51, 52, 53, 54, 55, 56, 57]⟩)
theorem k_ref01_digits : TxOk P F.ref01_digits 0 t_ref01_digits := txOk_of (H := {}) (plans := []) hm Tryd.func47 rfl rfl fun xs => by kernel_rfl
def tb : List (Nat × Tx) := [(F.law09_DualMatchesReference, ⟨2, t_law09_DualMatchesReference⟩), (F.law09_DualInvolution, ⟨3, t_law09_DualInvolution⟩), (F.law09_DualKinds, ⟨1, t_law09_DualKinds⟩), (F.law09_DualPaths, ⟨2, t_law09_DualPaths⟩), (F.law09_awake, ⟨0, t_law09_awake⟩), (F.ref07_Few, ⟨3, t_ref07_Few⟩), (F.law08_Graph, ⟨1, t_law08_Graph⟩), (F.ref07_Build, ⟨1, t_ref07_Build⟩), (F.law09_same, ⟨2, t_law09_same⟩), (F.dual_Close, ⟨1, t_dual_Close⟩), (F.ref09_Close, ⟨1, t_ref09_Close⟩), (F.dual_Kind, ⟨1, t_dual_Kind⟩), (F.ref09_Kind, ⟨1, t_ref09_Kind⟩), (F.dual_Of, ⟨2, t_dual_Of⟩), (F.ref02_Small, ⟨2, t_ref02_Small⟩), (F.ref02_Session, ⟨1, t_ref02_Session⟩), (F.law09_back, ⟨1, t_law09_back⟩), (F.ref07_reference, ⟨4, t_ref07_reference⟩), (F.ref07_nodes, ⟨4, t_ref07_nodes⟩), (F.ref03_Texts, ⟨2, t_ref03_Texts⟩), (F.dual_mapped_graph_Node_graph_Node, ⟨2, t_dual_mapped_graph_Node_graph_Node⟩), (F.dual_Close_1, ⟨2, t_dual_Close_1⟩), (F.slices_Clone_string_string, ⟨1, t_slices_Clone_string_string⟩), (F.slices_Clone_graph_Ref_graph_Ref, ⟨1, t_slices_Clone_graph_Ref_graph_Ref⟩), (F.dual_Close_2, ⟨3, t_dual_Close_2⟩), (F.dual_mapped_graph_Ref_graph_Ref, ⟨2, t_dual_mapped_graph_Ref_graph_Ref⟩), (F.dual_Close_2_1, ⟨4, t_dual_Close_2_1⟩), (F.dual_rest, ⟨2, t_dual_rest⟩), (F.ref02_Few, ⟨2, t_ref02_Few⟩), (F.ref02_Right, ⟨1, t_ref02_Right⟩), (F.ref07_Count, ⟨1, t_ref07_Count⟩), (F.ref02_count, ⟨2, t_ref02_count⟩), (F.ref02_Depth, ⟨1, t_ref02_Depth⟩), (F.ref02_Size, ⟨1, t_ref02_Size⟩), (F.ref02_node, ⟨4, t_ref02_node⟩), (F.ref02_shape, ⟨1, t_ref02_shape⟩), (F.ref02_prio, ⟨1, t_ref02_prio⟩), (F.ref02_Labels, ⟨1, t_ref02_Labels⟩), (F.ref01_Name, ⟨1, t_ref01_Name⟩), (F.ref02_in, ⟨2, t_ref02_in⟩), (F.ref01_Word, ⟨1, t_ref01_Word⟩), (F.ref01_Keyword, ⟨1, t_ref01_Keyword⟩), (F.ref01_in, ⟨2, t_ref01_in⟩), (F.ref01_Letters, ⟨0, t_ref01_Letters⟩), (F.ref01_digits, ⟨0, t_ref01_digits⟩)]
def tbS : List (Nat × TxS) := [(F.dual_mapped_graph_Node_graph_Node, ⟨sg_dual_mapped_graph_Node_graph_Node, u_dual_mapped_graph_Node_graph_Node⟩)]
theorem allOk : AllOk P tb := ⟨k_law09_DualMatchesReference, k_law09_DualInvolution, k_law09_DualKinds, k_law09_DualPaths, k_law09_awake, k_ref07_Few, k_law08_Graph, k_ref07_Build, k_law09_same, k_dual_Close, k_ref09_Close, k_dual_Kind, k_ref09_Kind, k_dual_Of, k_ref02_Small, k_ref02_Session, k_law09_back, k_ref07_reference, k_ref07_nodes, k_ref03_Texts, k_dual_mapped_graph_Node_graph_Node, k_dual_Close_1, k_slices_Clone_string_string, k_slices_Clone_graph_Ref_graph_Ref, k_dual_Close_2, k_dual_mapped_graph_Ref_graph_Ref, k_dual_Close_2_1, k_dual_rest, k_ref02_Few, k_ref02_Right, k_ref07_Count, k_ref02_count, k_ref02_Depth, k_ref02_Size, k_ref02_node, k_ref02_shape, k_ref02_prio, k_ref02_Labels, k_ref01_Name, k_ref02_in, k_ref01_Word, k_ref01_Keyword, k_ref01_in, k_ref01_Letters, k_ref01_digits, trivial⟩
theorem allOkS : AllOkS P tbS := ⟨m_dual_mapped_graph_Node_graph_Node, trivial⟩
end Go.Proofs.YthlgbanhnlljkaaDoor.Tx

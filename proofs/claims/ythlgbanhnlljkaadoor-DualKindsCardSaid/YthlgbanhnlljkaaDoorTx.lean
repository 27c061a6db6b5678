/- Texts of functions, printed by a program (wip/dev/Gen.lean). -/
import Derived.Test.YthlgbanhnlljkaaDoorLfC
import Derived.Test.YthlgbanhnlljkaaDoorChecked
import Derived.KernelRfl
set_option linter.all false
namespace Go.Proofs.YthlgbanhnlljkaaDoor.Tx
open Go.Lf Go.Lf.S
set_option maxRecDepth 100000
instance gl : Gl := ⟨[(0, (.agg [(i 0), (i 1), (i 2), (i 3), (i 5), (i 4), (i 7), (i 6)]), 8, true)]⟩
theorem hm : Tryd.prog.follows .mixedOrders = true := by kernel_rfl
/-- duologue/dual.mapped[duologue/graph.Node,duologue/graph.Node], with memory -/
def sg23 : Sig := { args := [.at (.dat 0), .at (.dat 1)], obs := [], res := .at (.own 9000), robs := [(9000, .arr true 46 4 true 0)], nout := 1 }
/-- slices.Clone[[]string,string], with memory -/
def sg25 : Sig := { args := [.at (.dat 0)], obs := [], res := .at (.own 9000), robs := [(9000, .arr true 9 1 false 0)], nout := 1 }
/-- slices.Clone[[]duologue/graph.Ref,duologue/graph.Ref], with memory -/
def sg26 : Sig := { args := [.at (.dat 0)], obs := [], res := .at (.own 9000), robs := [(9000, .arr true 42 2 true 0)], nout := 1 }
/- duologue/duologuelaw09.DualMatchesReference -/
def t3 (xs : List PV) : T PV :=
.call 7 [] fun x0 =>
.l .bnot [x0] fun x1 =>
.ite x1 (
 .call 7 [] fun x2 =>
 .ret x2) (
 .call 8 [(n xs 0), (i 10), (i 200)] fun x2 =>
 .l .bnot [x2] fun x3 =>
 .ite x3 (
  .call 7 [] fun x4 =>
  .ret x4) (
  .call 9 [(n xs 0)] fun x4 =>
  .l (.tc 0) [x4] fun x5 =>
  .l (.tc 1) [x4] fun x6 =>
  .l (.okc 1 true) [x5] fun x7 =>
  .call 10 [(n xs 0)] fun x8 =>
  .l (.tc 0) [x8] fun x9 =>
  .l (.tc 1) [x8] fun x10 =>
  .call 12 [x7] fun x11 =>
  .call 13 [x9] fun x12 =>
  .call 11 [x11, x12] fun x13 =>
  .ite x13 (
   .call 11 [x7, x9] fun x14 =>
   .ite x14 (
    .call 14 [(n xs 1)] fun x15 =>
    .call 15 [(n xs 1)] fun x16 =>
    .l (.cmp .eql .i64) [x15, x16] fun x17 =>
    .ret x17) (
    .ret (.bool false))) (
   .ret (.bool false))))
theorem k3 : TxOk Tryd.prog 3 2 t3 := txOk_of (H := {}) (plans := []) hm Tryd.func3 rfl rfl fun xs => by kernel_rfl
/- duologue/duologuelaw09.DualInvolution -/
def t4 (xs : List PV) : T PV :=
.call 7 [] fun x0 =>
.l .bnot [x0] fun x1 =>
.ite x1 (
 .call 7 [] fun x2 =>
 .ret x2) (
 .call 8 [(n xs 0), (i 5), (i 60)] fun x2 =>
 .l .bnot [x2] fun x3 =>
 .ite x3 (
  .call 7 [] fun x4 =>
  .ret x4) (
  .l .len [(n xs 0)] fun x4 =>
  .l (.cmp .eql .i64) [x4, (i 0)] fun x5 =>
  .ite x5 (
   .call 7 [] fun x6 =>
   .ret x6) (
   .call 9 [(n xs 0)] fun x6 =>
   .l (.tc 0) [x6] fun x7 =>
   .l (.tc 1) [x6] fun x8 =>
   .l (.okc 1 true) [x7] fun x9 =>
   .call 12 [x9] fun x10 =>
   .l (.okc 1 true) [x10] fun x11 =>
   .l .len [(c 0 x11)] fun x12 =>
   .l .len [(c 0 x9)] fun x13 =>
   .l (.arith .mul .i64) [(i 2), x13] fun x14 =>
   .l (.cmp .neq .i64) [x12, x14] fun x15 =>
   .ite x15 (
    .ret (.bool false)) (
    .l (.conv .i64) [(n xs 1)] fun x16 =>
    .l .len [(c 0 x11)] fun x17 =>
    .l (.arith .rem .i64) [x16, x17] fun x18 =>
    .l (.conv .i64) [(n xs 2)] fun x19 =>
    .l (.okcs [(1, false), (1, false)]) [x18, x19] fun x20 =>
    .call 16 [x11, (.agg [x18, x19])] fun x21 =>
    .l (.okc 2 true) [x21] fun x22 =>
    .l (.cmp .lss .i64) [(c 0 x22), (i 0)] fun x23 =>
    .ite x23 (
     .ret (.bool false)) (
     .l .len [(c 0 x11)] fun x24 =>
     .l (.cmp .geq .i64) [(c 0 x22), x24] fun x25 =>
     .ite x25 (
      .ret (.bool false)) (
      .call 16 [x11, x22] fun x26 =>
      .l (.acmp .eql [.i .i64, .i .i64]) [x26, (.agg [x18, x19])] fun x27 =>
      .ite x27 (
       .l (.cmp .eql .i64) [(c 1 x22), x19] fun x28 =>
       .ite x28 (
        .l (.cmp .neq .i64) [(c 0 x22), x18] fun x29 =>
        .ite x29 (
         .l (.idx 4 true) [(c 0 x11), (c 0 x22)] fun x30 =>
         .l (.idx 4 true) [(c 0 x11), x18] fun x31 =>
         .call 14 [(c 0 x31)] fun x32 =>
         .l (.cmp .eql .i64) [(c 0 x30), x32] fun x33 =>
         .ite x33 (
          .l (.idx 4 true) [(c 0 x11), (c 0 x22)] fun x34 =>
          .l (.idx 4 true) [(c 0 x11), x18] fun x35 =>
          .l (.cmp .eql .i64) [(c 1 x34), (c 1 x35)] fun x36 =>
          .ret x36) (
          .ret (.bool false))) (
         .ret (.bool false))) (
        .ret (.bool false))) (
       .ret (.bool false))))))))
theorem k4 : TxOk Tryd.prog 4 3 t4 := txOk_of (H := {}) (plans := []) hm Tryd.func4 rfl rfl fun xs => by kernel_rfl
/- duologue/duologuelaw09.DualKinds -/
def t5 (xs : List PV) : T PV :=
.call 7 [] fun x0 =>
.ite x0 (
 .call 14 [(n xs 0)] fun x1 =>
 .call 14 [x1] fun x2 =>
 .l (.cmp .eql .i64) [x2, (n xs 0)] fun x3 =>
 .ite x3 (
  .call 14 [(n xs 0)] fun x4 =>
  .l (.cmp .eql .i64) [x4, (n xs 0)] fun x5 =>
  .l (.cmp .lss .i64) [(n xs 0), (i 4)] fun x6 =>
  .ite x6 (
   .l (.bcmp .eql) [x5, (.bool true)] fun x7 =>
   .ret x7) (
   .l (.cmp .gtr .i64) [(n xs 0), (i 7)] fun x7 =>
   .l (.bcmp .eql) [x5, x7] fun x8 =>
   .ret x8)) (
  .ret (.bool false))) (
 .ret (.bool false))
theorem k5 : TxOk Tryd.prog 5 1 t5 := txOk_of (H := {}) (plans := []) hm Tryd.func5 rfl rfl fun xs => by kernel_rfl
/- duologue/duologuelaw09.DualPaths -/
def t6 (xs : List PV) : T PV :=
.l (.okc 6 true) [(n xs 0)] fun x0 =>
.call 7 [] fun x1 =>
.l .bnot [x1] fun x2 =>
.ite x2 (
 .call 7 [] fun x3 =>
 .ret x3) (
 .call 17 [x0, (i 60)] fun x3 =>
 .l .bnot [x3] fun x4 =>
 .ite x4 (
  .call 7 [] fun x5 =>
  .ret x5) (
  .call 18 [x0] fun x5 =>
  .l .bnot [x5] fun x6 =>
  .ite x6 (
   .call 7 [] fun x7 =>
   .ret x7) (
   .l .len [(n xs 1)] fun x7 =>
   .l (.cmp .gtr .i64) [x7, (i 20)] fun x8 =>
   .ite x8 (
    .call 7 [] fun x9 =>
    .ret x9) (
    .l (.lst 6 true) [x0] fun x9 =>
    .call 9 [x9] fun x10 =>
    .l (.tc 0) [x10] fun x11 =>
    .l (.tc 1) [x10] fun x12 =>
    .l (.okc 1 true) [x11] fun x13 =>
    .call 12 [x13] fun x14 =>
    .l (.okc 1 true) [x14] fun x15 =>
    .call 19 [x15] fun x16 =>
    .l (.tc 0) [x16] fun x17 =>
    .l (.tc 1) [x16] fun x18 =>
    .l .bnot [x18] fun x19 =>
    .ite x19 (
     .ret (.bool false)) (
     .l .len [(c 0 x15)] fun x20 =>
     .l .len [(c 0 x13)] fun x21 =>
     .l (.arith .mul .i64) [(i 2), x21] fun x22 =>
     .l (.cmp .neq .i64) [x20, x22] fun x23 =>
     .ite x23 (
      .ret (.bool false)) (
      .l (.idx 2 true) [x12, (i 0)] fun x24 =>
      .l (.okc 2 true) [x24] fun x25 =>
      .call 16 [x15, x25] fun x26 =>
      .l (.okc 2 true) [x26] fun x27 =>
      .loop [(i 0), x25, x27] fun y28 =>
      .l .len [(n xs 1)] fun x29 =>
      .l (.cmp .lss .i64) [(n y28 0), x29] fun x30 =>
      .ite x30 (
       .l (.cmp .lss .i64) [(c 0 (n y28 2)), (i 0)] fun x31 =>
       .ite x31 (
        .ret (.bool false)) (
        .l .len [(c 0 x15)] fun x32 =>
        .l (.cmp .geq .i64) [(c 0 (n y28 2)), x32] fun x33 =>
        .ite x33 (
         .ret (.bool false)) (
         .l (.cmp .lss .i64) [(c 0 (n y28 1)), (i 0)] fun x34 =>
         .ite x34 (
          .ret (.bool false)) (
          .l .len [(c 0 x15)] fun x35 =>
          .l (.cmp .geq .i64) [(c 0 (n y28 1)), x35] fun x36 =>
          .ite x36 (
           .ret (.bool false)) (
           .l (.idx 4 true) [(c 0 x15), (c 0 (n y28 1))] fun x37 =>
           .l .len [(c 3 x37)] fun x38 =>
           .l (.idx 4 true) [(c 0 x15), (c 0 (n y28 2))] fun x39 =>
           .l .len [(c 3 x39)] fun x40 =>
           .l (.cmp .neq .i64) [x38, x40] fun x41 =>
           .ite x41 (
            .ret (.bool false)) (
            .l (.idx 4 true) [(c 0 x15), (c 0 (n y28 1))] fun x42 =>
            .l .len [(c 3 x42)] fun x43 =>
            .l (.cmp .eql .i64) [x43, (i 0)] fun x44 =>
            .ite x44 (
             .ret (.bool true)) (
             .l (.idx 1 false) [(n xs 1), (n y28 0)] fun x45 =>
             .l (.conv .i64) [x45] fun x46 =>
             .l (.arith .rem .i64) [x46, x43] fun x47 =>
             .l (.idx 4 true) [(c 0 x15), (c 0 (n y28 1))] fun x48 =>
             .l .len [(c 2 x48)] fun x49 =>
             .l (.cmp .eql .i64) [x49, (i 0)] fun x50 =>
             .ite x50 (
              .l (.arith .sub .i64) [x43, (i 1)] fun x51 =>
              .l (.idx 4 true) [(c 0 x15), (c 0 (n y28 1))] fun x52 =>
              .l (.idx 2 true) [(c 3 x52), x51] fun x53 =>
              .l (.okc 2 true) [x53] fun x54 =>
              .l (.idx 4 true) [(c 0 x15), (c 0 (n y28 2))] fun x55 =>
              .l (.idx 2 true) [(c 3 x55), x51] fun x56 =>
              .l (.okc 2 true) [x56] fun x57 =>
              .l (.arith .add .i64) [(c 1 x54), (c 1 (n y28 1))] fun x58 =>
              .l (.okcs [(1, false), (1, false)]) [(c 0 x54), x58] fun x59 =>
              .l (.arith .add .i64) [(c 1 x57), (c 1 (n y28 2))] fun x60 =>
              .l (.okcs [(1, false), (1, false)]) [(c 0 x57), x60] fun x61 =>
              .call 16 [x15, (.agg [(c 0 x54), x58])] fun x62 =>
              .l (.acmp .neq [.i .i64, .i .i64]) [x62, (.agg [(c 0 x57), x60])] fun x63 =>
              .ite x63 (
               .ret (.bool false)) (
               .l (.arith .add .i64) [(n y28 0), (i 1)] fun x64 =>
               .cont 0 [x64, (.agg [(c 0 x54), x58]), (.agg [(c 0 x57), x60])])) (
              .l (.idx 4 true) [(c 0 x15), (c 0 (n y28 1))] fun x51 =>
              .l (.idx 2 true) [(c 3 x51), x47] fun x52 =>
              .l (.okc 2 true) [x52] fun x53 =>
              .l (.idx 4 true) [(c 0 x15), (c 0 (n y28 2))] fun x54 =>
              .l (.idx 2 true) [(c 3 x54), x47] fun x55 =>
              .l (.okc 2 true) [x55] fun x56 =>
              .l (.arith .add .i64) [(c 1 x53), (c 1 (n y28 1))] fun x57 =>
              .l (.okcs [(1, false), (1, false)]) [(c 0 x53), x57] fun x58 =>
              .l (.arith .add .i64) [(c 1 x56), (c 1 (n y28 2))] fun x59 =>
              .l (.okcs [(1, false), (1, false)]) [(c 0 x56), x59] fun x60 =>
              .call 16 [x15, (.agg [(c 0 x53), x57])] fun x61 =>
              .l (.acmp .neq [.i .i64, .i .i64]) [x61, (.agg [(c 0 x56), x59])] fun x62 =>
              .ite x62 (
               .ret (.bool false)) (
               .l (.arith .add .i64) [(n y28 0), (i 1)] fun x63 =>
               .cont 0 [x63, (.agg [(c 0 x53), x57]), (.agg [(c 0 x56), x59])]))))))))) (
       .ret (.bool true))))))))
theorem k6 : TxOk Tryd.prog 6 2 t6 := txOk_of (H := {}) (plans := []) hm Tryd.func6 rfl rfl fun xs => by kernel_rfl
/- duologue/duologuelaw09.awake -/
def t7 (xs : List PV) : T PV :=
.l (.lst 6 true) [(.agg [(i 1), (i 0), (.str ⟨#[]⟩), (i 0), (.sl []), (.sl [])]), (.agg [(i 3), (i 0), (.str ⟨#[]⟩), (i 0), (.sl []), (.sl [])])] fun x0 =>
.l (.lst 6 true) [(.agg [(i 5), (i 1), (.str ⟨#[]⟩), (i 0), (.sl []), x0]), (.agg [(i 9), (i 0), (.str ⟨#[116]⟩), (i 1), (.sl []), (.sl [])])] fun x1 =>
.l (.lst 6 true) [(.agg [(i 4), (i 3), (.str ⟨#[]⟩), (i 0), (.sl []), x1])] fun x2 =>
.l (.lst 6 true) [(.agg [(i 8), (i 0), (.str ⟨#[116]⟩), (i 0), (.sl []), x2])] fun x3 =>
.call 9 [x3] fun x4 =>
.l (.tc 0) [x4] fun x5 =>
.l (.tc 1) [x4] fun x6 =>
.l (.okc 1 true) [x5] fun x7 =>
.call 12 [x7] fun x8 =>
.l (.okc 1 true) [x8] fun x9 =>
.l .len [(c 0 x9)] fun x10 =>
.l (.cmp .neq .i64) [x10, (i 8)] fun x11 =>
.ite x11 (
 .ret (.bool false)) (
 .l (.idx 4 true) [(c 0 x9), (i 4)] fun x12 =>
 .l .len [(c 3 x12)] fun x13 =>
 .l (.cmp .neq .i64) [x13, (i 2)] fun x14 =>
 .ite x14 (
  .ret (.bool false)) (
  .l (.idx 2 true) [x6, (i 0)] fun x15 =>
  .call 16 [x9, x15] fun x16 =>
  .l (.okc 2 true) [x16] fun x17 =>
  .l (.acmp .eql [.i .i64, .i .i64]) [x17, (.agg [(i 4), (i 0)])] fun x18 =>
  .ite x18 (
   .call 16 [x9, x17] fun x19 =>
   .l (.idx 2 true) [x6, (i 0)] fun x20 =>
   .l (.acmp .eql [.i .i64, .i .i64]) [x19, x20] fun x21 =>
   .ite x21 (
    .l (.idx 4 true) [(c 0 x9), (i 4)] fun x22 =>
    .l (.cmp .eql .i64) [(c 0 x22), (i 5)] fun x23 =>
    .ite x23 (
     .l (.idx 4 true) [(c 0 x9), (i 4)] fun x24 =>
     .l (.cmp .eql .i64) [(c 1 x24), (i 3)] fun x25 =>
     .ite x25 (
      .l (.idx 4 true) [(c 0 x9), (i 4)] fun x26 =>
      .l (.idx 2 true) [(c 3 x26), (i 0)] fun x27 =>
      .l (.acmp .eql [.i .i64, .i .i64]) [x27, (.agg [(i 1), (i 0)])] fun x28 =>
      .ite x28 (
       .l (.idx 4 true) [(c 0 x9), (i 4)] fun x29 =>
       .l (.idx 2 true) [(c 3 x29), (i 1)] fun x30 =>
       .l (.acmp .eql [.i .i64, .i .i64]) [x30, (.agg [(i 4), (i 1)])] fun x31 =>
       .ite x31 (
        .call 14 [(i 6)] fun x32 =>
        .l (.cmp .eql .i64) [x32, (i 7)] fun x33 =>
        .ite x33 (
         .call 14 [(i 99)] fun x34 =>
         .l (.cmp .eql .i64) [x34, (i 99)] fun x35 =>
         .ite x35 (
          .call 14 [(i (-1))] fun x36 =>
          .l (.cmp .eql .i64) [x36, (i (-1))] fun x37 =>
          .ret x37) (
          .ret (.bool false))) (
         .ret (.bool false))) (
        .ret (.bool false))) (
       .ret (.bool false))) (
      .ret (.bool false))) (
     .ret (.bool false))) (
    .ret (.bool false))) (
   .ret (.bool false))))
theorem k7 : TxOk Tryd.prog 7 0 t7 := txOk_of (H := {}) (plans := []) hm Tryd.func7 rfl rfl fun xs => by kernel_rfl
/- duologue/duologueref07.Few -/
def t8 (xs : List PV) : T PV :=
.l .len [(n xs 0)] fun x0 =>
.l (.cmp .gtr .i64) [x0, (n xs 1)] fun x1 =>
.ite x1 (
 .ret (.bool false)) (
 .loop [(i 0)] fun y2 =>
 .l .len [(n xs 0)] fun x3 =>
 .l (.cmp .lss .i64) [(n y2 0), x3] fun x4 =>
 .ite x4 (
  .l (.idx 6 true) [(n xs 0), (n y2 0)] fun x5 =>
  .call 17 [x5, (n xs 2)] fun x6 =>
  .l .bnot [x6] fun x7 =>
  .ite x7 (
   .ret (.bool false)) (
   .l (.arith .add .i64) [(n y2 0), (i 1)] fun x8 =>
   .cont 0 [x8])) (
  .ret (.bool true)))
theorem k8 : TxOk Tryd.prog 8 3 t8 := txOk_of (H := {}) (plans := []) hm Tryd.func8 rfl rfl fun xs => by kernel_rfl
/- duologue/duologuelaw08.Graph -/
def t9 (xs : List PV) : T PV :=
.call 10 [(n xs 0)] fun x0 =>
.l (.tc 0) [x0] fun x1 =>
.l (.tc 1) [x0] fun x2 =>
.loop [(i 0), (.sl [])] fun y3 =>
.l .len [x1] fun x4 =>
.l (.cmp .lss .i64) [(n y3 0), x4] fun x5 =>
.ite x5 (
 .l (.idx 4 true) [x1, (n y3 0)] fun x6 =>
 .l (.idx 4 true) [x1, (n y3 0)] fun x7 =>
 .l (.lst 1 false) [] fun x8 =>
 .l (.idx 4 true) [x1, (n y3 0)] fun x9 =>
 .l (.app 1 false 16) [x8, (c 2 x9)] fun x10 =>
 .l (.okcs [(1, false), (1, false)]) [(c 0 x6), (c 1 x7)] fun x11 =>
 .loop [(i 0), (c 0 x6), (c 1 x7), x10, (.sl [])] fun y12 =>
 .l (.idx 4 true) [x1, (n y3 0)] fun x13 =>
 .l .len [(c 3 x13)] fun x14 =>
 .l (.cmp .lss .i64) [(n y12 0), x14] fun x15 =>
 .ite x15 (
  .l (.idx 4 true) [x1, (n y3 0)] fun x16 =>
  .l (.idx 2 true) [(c 3 x16), (n y12 0)] fun x17 =>
  .l (.idx 4 true) [x1, (n y3 0)] fun x18 =>
  .l (.idx 2 true) [(c 3 x18), (n y12 0)] fun x19 =>
  .l (.okcs [(1, false), (1, false)]) [(c 0 x17), (c 1 x19)] fun x20 =>
  .l (.lst 2 true) [(.agg [(c 0 x17), (c 1 x19)])] fun x21 =>
  .l (.app 2 true 16) [(n y12 4), x21] fun x22 =>
  .l (.arith .add .i64) [(n y12 0), (i 1)] fun x23 =>
  .cont 1 [x23, (n y12 1), (n y12 2), (n y12 3), x22]) (
  .l (.lst 4 true) [(.agg [(n y12 1), (n y12 2), (n y12 3), (n y12 4)])] fun x16 =>
  .l (.app 4 true 64) [(n y3 1), x16] fun x17 =>
  .l (.arith .add .i64) [(n y3 0), (i 1)] fun x18 =>
  .cont 0 [x18, x17])) (
 .loop [(i 0), (.sl [])] fun y6 =>
 .l .len [x2] fun x7 =>
 .l (.cmp .lss .i64) [(n y6 0), x7] fun x8 =>
 .ite x8 (
  .l (.idx 2 true) [x2, (n y6 0)] fun x9 =>
  .l (.idx 2 true) [x2, (n y6 0)] fun x10 =>
  .l (.okcs [(1, false), (1, false)]) [(c 0 x9), (c 1 x10)] fun x11 =>
  .l (.lst 2 true) [(.agg [(c 0 x9), (c 1 x10)])] fun x12 =>
  .l (.app 2 true 16) [(n y6 1), x12] fun x13 =>
  .l (.arith .add .i64) [(n y6 0), (i 1)] fun x14 =>
  .cont 1 [x14, x13]) (
  .ret (.tup [(.agg [(n y3 1)]), (n y6 1)])))
theorem k9 : TxOk Tryd.prog 9 1 t9 := txOk_of (H := {}) (plans := []) hm Tryd.func9 rfl rfl fun xs => by kernel_rfl
/- duologue/duologueref07.Build -/
def t10 (xs : List PV) : T PV :=
.loop [(i 0), (.sl []), (.sl [])] fun y0 =>
.l .len [(n xs 0)] fun x1 =>
.l (.cmp .lss .i64) [(n y0 0), x1] fun x2 =>
.ite x2 (
 .l (.idx 6 true) [(n xs 0), (n y0 0)] fun x3 =>
 .l .len [(n y0 2)] fun x4 =>
 .call 20 [x3, x4, (.sl []), (.sl [])] fun x5 =>
 .l (.lst 2 true) [x5] fun x6 =>
 .l (.app 2 true 16) [(n y0 1), x6] fun x7 =>
 .l (.idx 6 true) [(n xs 0), (n y0 0)] fun x8 =>
 .l .len [(n y0 2)] fun x9 =>
 .call 21 [x8, x9, (.sl []), (.sl [])] fun x10 =>
 .l (.app 4 true 64) [(n y0 2), x10] fun x11 =>
 .l (.arith .add .i64) [(n y0 0), (i 1)] fun x12 =>
 .cont 0 [x12, x7, x11]) (
 .ret (.tup [(n y0 2), (n y0 1)]))
theorem k10 : TxOk Tryd.prog 10 1 t10 := txOk_of (H := {}) (plans := []) hm Tryd.func10 rfl rfl fun xs => by kernel_rfl
/- duologue/duologuelaw09.same -/
def t11 (xs : List PV) : T PV :=
.l (.okc 1 true) [(n xs 0)] fun x0 =>
.l .len [(c 0 x0)] fun x1 =>
.l .len [(n xs 1)] fun x2 =>
.l (.cmp .neq .i64) [x1, x2] fun x3 =>
.ite x3 (
 .ret (.bool false)) (
 .loop [(i 0)] fun y4 =>
 .l .len [(n xs 1)] fun x5 =>
 .l (.cmp .lss .i64) [(n y4 0), x5] fun x6 =>
 .ite x6 (
  .l (.idx 4 true) [(c 0 x0), (n y4 0)] fun x7 =>
  .l (.okc 4 true) [x7] fun x8 =>
  .l (.idx 4 true) [(n xs 1), (n y4 0)] fun x9 =>
  .l (.cmp .neq .i64) [(c 0 x8), (c 0 x9)] fun x10 =>
  .ite x10 (
   .ret (.bool false)) (
   .l (.idx 4 true) [(n xs 1), (n y4 0)] fun x11 =>
   .l (.cmp .neq .i64) [(c 1 x8), (c 1 x11)] fun x12 =>
   .ite x12 (
    .ret (.bool false)) (
    .l (.idx 4 true) [(n xs 1), (n y4 0)] fun x13 =>
    .call 22 [(c 2 x8), (c 2 x13)] fun x14 =>
    .l .bnot [x14] fun x15 =>
    .ite x15 (
     .ret (.bool false)) (
     .l .len [(c 3 x8)] fun x16 =>
     .l (.idx 4 true) [(n xs 1), (n y4 0)] fun x17 =>
     .l .len [(c 3 x17)] fun x18 =>
     .l (.cmp .neq .i64) [x16, x18] fun x19 =>
     .ite x19 (
      .ret (.bool false)) (
      .loop [(i 0)] fun y20 =>
      .l .len [(c 3 x8)] fun x21 =>
      .l (.cmp .lss .i64) [(n y20 0), x21] fun x22 =>
      .ite x22 (
       .l (.idx 2 true) [(c 3 x8), (n y20 0)] fun x23 =>
       .l (.idx 4 true) [(n xs 1), (n y4 0)] fun x24 =>
       .l (.idx 2 true) [(c 3 x24), (n y20 0)] fun x25 =>
       .l (.idx 4 true) [(n xs 1), (n y4 0)] fun x26 =>
       .l (.idx 2 true) [(c 3 x26), (n y20 0)] fun x27 =>
       .l (.okcs [(1, false), (1, false)]) [(c 0 x25), (c 1 x27)] fun x28 =>
       .l (.acmp .neq [.i .i64, .i .i64]) [x23, (.agg [(c 0 x25), (c 1 x27)])] fun x29 =>
       .ite x29 (
        .ret (.bool false)) (
        .l (.arith .add .i64) [(n y20 0), (i 1)] fun x30 =>
        .cont 1 [x30])) (
       .l (.arith .add .i64) [(n y4 0), (i 1)] fun x23 =>
       .cont 0 [x23])))))) (
  .ret (.bool true)))
theorem k11 : TxOk Tryd.prog 11 2 t11 := txOk_of (H := {}) (plans := []) hm Tryd.func11 rfl rfl fun xs => by kernel_rfl
/- duologue/dual.Close -/
def t12 (xs : List PV) : T PV :=
.l (.okc 1 true) [(n xs 0)] fun x0 =>
.l .len [(c 0 x0)] fun x1 =>
.l (.okc 1 false) [x1] fun x2 =>
.calls 23 sg23 [(c 0 x0), (.fn 24 [] [])] fun z3 =>
.calls 23 sg23 [(c 0 x0), (.fn 27 [] [(.box x2)])] fun z4 =>
.l (.app 4 true 64) [(n z3 0), (n z4 0)] fun x5 =>
.ret (.agg [x5])
theorem k12 : TxOk Tryd.prog 12 1 t12 := txOk_of (H := { sigs := [(23, sg23)] }) (plans := []) hm Tryd.func12 rfl rfl fun xs => by kernel_rfl
/- duologue/duologueref09.Close -/
def t13 (xs : List PV) : T PV :=
.l (.lst 4 true) [] fun x0 =>
.l (.app 4 true 64) [x0, (n xs 0)] fun x1 =>
.loop [(i 0), x1] fun y2 =>
.l .len [(n xs 0)] fun x3 =>
.l (.cmp .lss .i64) [(n y2 0), x3] fun x4 =>
.ite x4 (
 .l (.idx 4 true) [(n xs 0), (n y2 0)] fun x5 =>
 .call 15 [(c 0 x5)] fun x6 =>
 .l (.idx 4 true) [(n xs 0), (n y2 0)] fun x7 =>
 .l (.idx 4 true) [(n xs 0), (n y2 0)] fun x8 =>
 .l (.okcs [(1, false), (1, false), (1, false)]) [x6, (c 1 x7), (c 2 x8)] fun x9 =>
 .loop [(i 0), x6, (c 1 x7), (c 2 x8), (.sl [])] fun y10 =>
 .l (.idx 4 true) [(n xs 0), (n y2 0)] fun x11 =>
 .l .len [(c 3 x11)] fun x12 =>
 .l (.cmp .lss .i64) [(n y10 0), x12] fun x13 =>
 .ite x13 (
  .l (.idx 4 true) [(n xs 0), (n y2 0)] fun x14 =>
  .l (.idx 2 true) [(c 3 x14), (n y10 0)] fun x15 =>
  .l (.okc 2 true) [x15] fun x16 =>
  .l (.cmp .eql .i64) [(n y10 0), (i 1)] fun x17 =>
  .ite x17 (
   .l .len [(n xs 0)] fun x18 =>
   .l (.arith .add .i64) [(c 0 x16), x18] fun x19 =>
   .l (.okc 1 false) [x19] fun x20 =>
   .l (.lst 2 true) [(.agg [x20, (c 1 x16)])] fun x21 =>
   .l (.app 2 true 16) [(n y10 4), x21] fun x22 =>
   .l (.arith .add .i64) [(n y10 0), (i 1)] fun x23 =>
   .cont 1 [x23, (n y10 1), (n y10 2), (n y10 3), x22]) (
   .l (.idx 4 true) [(n xs 0), (n y2 0)] fun x18 =>
   .l (.cmp .geq .i64) [(c 0 x18), (i 6)] fun x19 =>
   .ite x19 (
    .l .len [(n xs 0)] fun x20 =>
    .l (.arith .add .i64) [(c 0 x16), x20] fun x21 =>
    .l (.okc 1 false) [x21] fun x22 =>
    .l (.lst 2 true) [(.agg [x22, (c 1 x16)])] fun x23 =>
    .l (.app 2 true 16) [(n y10 4), x23] fun x24 =>
    .l (.arith .add .i64) [(n y10 0), (i 1)] fun x25 =>
    .cont 1 [x25, (n y10 1), (n y10 2), (n y10 3), x24]) (
    .l (.lst 2 true) [x16] fun x20 =>
    .l (.app 2 true 16) [(n y10 4), x20] fun x21 =>
    .l (.arith .add .i64) [(n y10 0), (i 1)] fun x22 =>
    .cont 1 [x22, (n y10 1), (n y10 2), (n y10 3), x21]))) (
  .l (.lst 4 true) [(.agg [(n y10 1), (n y10 2), (n y10 3), (n y10 4)])] fun x14 =>
  .l (.app 4 true 64) [(n y2 1), x14] fun x15 =>
  .l (.arith .add .i64) [(n y2 0), (i 1)] fun x16 =>
  .cont 0 [x16, x15])) (
 .ret (n y2 1))
theorem k13 : TxOk Tryd.prog 13 1 t13 := txOk_of (H := {}) (plans := []) hm Tryd.func13 rfl rfl fun xs => by kernel_rfl
/- duologue/dual.Kind -/
def t14 (xs : List PV) : T PV :=
.l (.cmp .lss .i64) [(n xs 0), (i 1)] fun x0 =>
.ite x0 (
 .ret (n xs 0)) (
 .l (.cmp .geq .i64) [(n xs 0), (i 8)] fun x1 =>
 .ite x1 (
  .ret (n xs 0)) (
  .l (.aidx 8 1 false) [(.agg [(i 0), (i 1), (i 2), (i 3), (i 5), (i 4), (i 7), (i 6)]), (n xs 0)] fun x2 =>
  .ret x2))
theorem k14 : TxOk Tryd.prog 14 1 t14 := txOk_of (H := {}) (plans := []) hm Tryd.func14 rfl rfl fun xs => by kernel_rfl
/- duologue/duologueref09.Kind -/
def t15 (xs : List PV) : T PV :=
.l (.cmp .eql .i64) [(n xs 0), (i 4)] fun x0 =>
.ite x0 (
 .ret (i 5)) (
 .l (.cmp .eql .i64) [(n xs 0), (i 5)] fun x1 =>
 .ite x1 (
  .ret (i 4)) (
  .l (.cmp .eql .i64) [(n xs 0), (i 6)] fun x2 =>
  .ite x2 (
   .ret (i 7)) (
   .l (.cmp .eql .i64) [(n xs 0), (i 7)] fun x3 =>
   .ite x3 (
    .ret (i 6)) (
    .ret (n xs 0)))))
theorem k15 : TxOk Tryd.prog 15 1 t15 := txOk_of (H := {}) (plans := []) hm Tryd.func15 rfl rfl fun xs => by kernel_rfl
/- duologue/dual.Of -/
def t16 (xs : List PV) : T PV :=
.l (.okc 1 true) [(n xs 0)] fun x0 =>
.l (.okc 2 true) [(n xs 1)] fun x1 =>
.l .len [(c 0 x0)] fun x2 =>
.l (.arith .quo .i64) [x2, (i 2)] fun x3 =>
.l (.cmp .lss .i64) [(c 0 x1), x3] fun x4 =>
.ite x4 (
 .l (.arith .add .i64) [(c 0 x1), x3] fun x5 =>
 .l (.okc 1 false) [x5] fun x6 =>
 .ret (.agg [x6, (c 1 x1)])) (
 .l (.arith .sub .i64) [(c 0 x1), x3] fun x5 =>
 .l (.okc 1 false) [x5] fun x6 =>
 .ret (.agg [x6, (c 1 x1)]))
theorem k16 : TxOk Tryd.prog 16 2 t16 := txOk_of (H := {}) (plans := []) hm Tryd.func16 rfl rfl fun xs => by kernel_rfl
/- duologue/duologueref02.Small -/
def t17 (xs : List PV) : T PV :=
.l (.okc 6 true) [(n xs 0)] fun x0 =>
.call 31 [x0, (n xs 1)] fun x1 =>
.ite x1 (
 .call 32 [x0] fun x2 =>
 .l (.cmp .eql .i64) [x2, (i 0)] fun x3 =>
 .ret x3) (
 .ret (.bool false))
theorem k17 : TxOk Tryd.prog 17 2 t17 := txOk_of (H := {}) (plans := []) hm Tryd.func17 rfl rfl fun xs => by kernel_rfl
/- duologue/duologueref02.Session -/
def t18 (xs : List PV) : T PV :=
.l (.okc 6 true) [(n xs 0)] fun x0 =>
.l (.cmp .neq .i64) [(c 0 x0), (i 1)] fun x1 =>
.ite x1 (
 .l (.cmp .neq .i64) [(c 0 x0), (i 2)] fun x2 =>
 .ret x2) (
 .ret (.bool false))
theorem k18 : TxOk Tryd.prog 18 1 t18 := txOk_of (H := {}) (plans := []) hm Tryd.func18 rfl rfl fun xs => by kernel_rfl
/- duologue/duologuelaw09.back -/
def t19 (xs : List PV) : T PV :=
.l (.okc 1 true) [(n xs 0)] fun x0 =>
.loop [(i 0), (.sl [])] fun y1 =>
.l .len [(c 0 x0)] fun x2 =>
.l (.cmp .lss .i64) [(n y1 0), x2] fun x3 =>
.ite x3 (
 .l (.idx 4 true) [(c 0 x0), (n y1 0)] fun x4 =>
 .l (.idx 4 true) [(c 0 x0), (n y1 0)] fun x5 =>
 .l (.idx 4 true) [(c 0 x0), (n y1 0)] fun x6 =>
 .l (.okcs [(1, false), (1, false), (1, false)]) [(c 0 x4), (c 1 x5), (c 2 x6)] fun x7 =>
 .loop [(i 0), (c 0 x4), (c 1 x5), (c 2 x6), (.sl [])] fun y8 =>
 .l (.idx 4 true) [(c 0 x0), (n y1 0)] fun x9 =>
 .l .len [(c 3 x9)] fun x10 =>
 .l (.cmp .lss .i64) [(n y8 0), x10] fun x11 =>
 .ite x11 (
  .l (.idx 4 true) [(c 0 x0), (n y1 0)] fun x12 =>
  .l (.idx 2 true) [(c 3 x12), (n y8 0)] fun x13 =>
  .l (.okc 2 true) [x13] fun x14 =>
  .l (.cmp .lss .i64) [(c 0 x14), (i 0)] fun x15 =>
  .ite x15 (
   .ret (.tup [(.sl []), (.bool false)])) (
   .l .len [(c 0 x0)] fun x16 =>
   .l (.cmp .geq .i64) [(c 0 x14), x16] fun x17 =>
   .ite x17 (
    .ret (.tup [(.sl []), (.bool false)])) (
    .l (.okcs [(1, false), (1, false)]) [(c 0 x14), (c 1 x14)] fun x18 =>
    .l (.lst 2 true) [(.agg [(c 0 x14), (c 1 x14)])] fun x19 =>
    .l (.app 2 true 16) [(n y8 4), x19] fun x20 =>
    .l (.arith .add .i64) [(n y8 0), (i 1)] fun x21 =>
    .cont 1 [x21, (n y8 1), (n y8 2), (n y8 3), x20]))) (
  .l (.lst 4 true) [(.agg [(n y8 1), (n y8 2), (n y8 3), (n y8 4)])] fun x12 =>
  .l (.app 4 true 64) [(n y1 1), x12] fun x13 =>
  .l (.arith .add .i64) [(n y1 0), (i 1)] fun x14 =>
  .cont 0 [x14, x13])) (
 .ret (.tup [(n y1 1), (.bool true)]))
theorem k19 : TxOk Tryd.prog 19 1 t19 := txOk_of (H := {}) (plans := []) hm Tryd.func19 rfl rfl fun xs => by kernel_rfl
/- duologue/duologueref07.reference -/
def t20 (xs : List PV) : T PV :=
.l (.okc 6 true) [(n xs 0)] fun x0 =>
.l (.cmp .eql .i64) [(c 0 x0), (i 8)] fun x1 =>
.ite x1 (
 .l (.idx 6 true) [(c 5 x0), (i 0)] fun x2 =>
 .call 20 [x2, (n xs 1), (n xs 2), (n xs 3)] fun x3 =>
 .l (.okc 2 true) [x3] fun x4 =>
 .ret x4) (
 .l (.cmp .eql .i64) [(c 0 x0), (i 9)] fun x2 =>
 .ite x2 (
  .l .len [(n xs 2)] fun x3 =>
  .l (.arith .sub .i64) [x3, (i 1)] fun x4 =>
  .loop [x4] fun y5 =>
  .l (.cmp .geq .i64) [(n y5 0), (i 0)] fun x6 =>
  .ite x6 (
   .l (.idx 1 false) [(n xs 2), (n y5 0)] fun x7 =>
   .l (.scmp .eql) [x7, (c 2 x0)] fun x8 =>
   .ite x8 (
    .l (.idx 2 true) [(n xs 3), (n y5 0)] fun x9 =>
    .l (.idx 2 true) [(n xs 3), (n y5 0)] fun x10 =>
    .l (.arith .add .i64) [(c 1 x10), (c 3 x0)] fun x11 =>
    .l (.okcs [(1, false), (1, false)]) [(c 0 x9), x11] fun x12 =>
    .ret (.agg [(c 0 x9), x11])) (
    .l (.arith .sub .i64) [(n y5 0), (i 1)] fun x9 =>
    .cont 0 [x9])) (
   .l (.okcs [(1, false)]) [(n xs 1)] fun x7 =>
   .ret (.agg [(n xs 1), (i 0)]))) (
  .l (.okcs [(1, false)]) [(n xs 1)] fun x3 =>
  .ret (.agg [(n xs 1), (i 0)])))
theorem k20 : TxOk Tryd.prog 20 4 t20 := txOk_of (H := {}) (plans := []) hm Tryd.func20 rfl rfl fun xs => by kernel_rfl
/- duologue/duologueref07.nodes -/
def t21 (xs : List PV) : T PV :=
.l (.okc 6 true) [(n xs 0)] fun x0 =>
.l (.cmp .eql .i64) [(c 0 x0), (i 8)] fun x1 =>
.ite x1 (
 .call 20 [x0, (n xs 1), (n xs 2), (n xs 3)] fun x2 =>
 .l (.okc 2 true) [x2] fun x3 =>
 .l (.idx 6 true) [(c 5 x0), (i 0)] fun x4 =>
 .l (.lst 1 false) [] fun x5 =>
 .l (.app 1 false 16) [x5, (n xs 2)] fun x6 =>
 .l (.lst 1 false) [(c 2 x0)] fun x7 =>
 .l (.app 1 false 16) [x6, x7] fun x8 =>
 .l (.lst 2 true) [] fun x9 =>
 .l (.app 2 true 16) [x9, (n xs 3)] fun x10 =>
 .l (.lst 2 true) [x3] fun x11 =>
 .l (.app 2 true 16) [x10, x11] fun x12 =>
 .call 21 [x4, (n xs 1), x8, x12] fun x13 =>
 .ret x13) (
 .l (.cmp .eql .i64) [(c 0 x0), (i 9)] fun x2 =>
 .ite x2 (
  .ret (.sl [])) (
  .l (.okcs [(1, false), (1, false), (1, false)]) [(c 0 x0), (c 1 x0), (c 4 x0)] fun x3 =>
  .l (.arith .add .i64) [(n xs 1), (i 1)] fun x4 =>
  .loop [(i 0), x4, (.sl []), (c 0 x0), (c 1 x0), (c 4 x0), (.sl [])] fun y5 =>
  .l .len [(c 5 x0)] fun x6 =>
  .l (.cmp .lss .i64) [(n y5 0), x6] fun x7 =>
  .ite x7 (
   .l (.idx 6 true) [(c 5 x0), (n y5 0)] fun x8 =>
   .call 20 [x8, (n y5 1), (n xs 2), (n xs 3)] fun x9 =>
   .l (.lst 2 true) [x9] fun x10 =>
   .l (.app 2 true 16) [(n y5 6), x10] fun x11 =>
   .l (.idx 6 true) [(c 5 x0), (n y5 0)] fun x12 =>
   .call 21 [x12, (n y5 1), (n xs 2), (n xs 3)] fun x13 =>
   .l (.app 4 true 64) [(n y5 2), x13] fun x14 =>
   .l (.idx 6 true) [(c 5 x0), (n y5 0)] fun x15 =>
   .call 33 [x15] fun x16 =>
   .l (.arith .add .i64) [(n y5 1), x16] fun x17 =>
   .l (.arith .add .i64) [(n y5 0), (i 1)] fun x18 =>
   .cont 0 [x18, x17, x14, (n y5 3), (n y5 4), (n y5 5), x11]) (
   .l (.lst 4 true) [(.agg [(n y5 3), (n y5 4), (n y5 5), (n y5 6)])] fun x8 =>
   .l (.app 4 true 64) [x8, (n y5 2)] fun x9 =>
   .ret x9)))
theorem k21 : TxOk Tryd.prog 21 4 t21 := txOk_of (H := {}) (plans := []) hm Tryd.func21 rfl rfl fun xs => by kernel_rfl
/- duologue/duologueref03.Texts -/
def t22 (xs : List PV) : T PV :=
.l .len [(n xs 0)] fun x0 =>
.l .len [(n xs 1)] fun x1 =>
.l (.cmp .neq .i64) [x0, x1] fun x2 =>
.ite x2 (
 .ret (.bool false)) (
 .loop [(i 0)] fun y3 =>
 .l .len [(n xs 0)] fun x4 =>
 .l (.cmp .lss .i64) [(n y3 0), x4] fun x5 =>
 .ite x5 (
  .l (.idx 1 false) [(n xs 0), (n y3 0)] fun x6 =>
  .l (.idx 1 false) [(n xs 1), (n y3 0)] fun x7 =>
  .l (.scmp .neq) [x6, x7] fun x8 =>
  .ite x8 (
   .ret (.bool false)) (
   .l (.arith .add .i64) [(n y3 0), (i 1)] fun x9 =>
   .cont 0 [x9])) (
  .ret (.bool true)))
theorem k22 : TxOk Tryd.prog 22 2 t22 := txOk_of (H := {}) (plans := []) hm Tryd.func22 rfl rfl fun xs => by kernel_rfl
/- duologue/dual.mapped[duologue/graph.Node,duologue/graph.Node] -/
def t23 (xs : List PV) : T PV :=
.l .len [(n xs 0)] fun x0 =>
.loop [(i 0), (.sl [])] fun y1 =>
.l (.cmp .lss .i64) [(n y1 0), x0] fun x2 =>
.ite x2 (
 .l (.idx 4 true) [(n xs 0), (n y1 0)] fun x3 =>
 .l (.okc 4 true) [x3] fun x4 =>
 .callv (n xs 1) [(n y1 0), x4] fun x5 =>
 .l (.lst 4 true) [x5] fun x6 =>
 .l (.app 4 true 64) [(n y1 1), x6] fun x7 =>
 .l (.arith .add .i64) [(n y1 0), (i 1)] fun x8 =>
 .cont 0 [x8, x7]) (
 .ret (n y1 1))
theorem k23 : TxOk Tryd.prog 23 2 t23 := txOk_of (H := {}) (plans := []) hm Tryd.func23 rfl rfl fun xs => by kernel_rfl
/- duologue/dual.mapped[duologue/graph.Node,duologue/graph.Node], with memory -/
def u23 (xs : List PV) : T PV :=
.l .len [(n xs 0)] fun x0 =>
.loop [(i 0), (.sl [])] fun y1 =>
.l (.cmp .lss .i64) [(n y1 0), x0] fun x2 =>
.ite x2 (
 .l (.idx 4 true) [(n xs 0), (n y1 0)] fun x3 =>
 .l (.okc 4 true) [x3] fun x4 =>
 .callv (n xs 1) [(n y1 0), x4] fun x5 =>
 .l (.lst 4 true) [x5] fun x6 =>
 .l (.app 4 true 64) [(n y1 1), x6] fun x7 =>
 .l (.arith .add .i64) [(n y1 0), (i 1)] fun x8 =>
 .cont 0 [x8, x7]) (
 .ret (.tup [(n y1 1)]))
theorem m23 : TxOkS Tryd.prog 23 sg23 u23 := txOkS_of (H := {}) (plans := []) hm Tryd.func23 rfl fun xs => by kernel_rfl
/- duologue/dual.Close$1 -/
def t24 (xs : List PV) : T PV :=
.l (.okc 4 true) [(n xs 1)] fun x0 =>
.call 25 [(c 2 x0)] fun x1 =>
.call 26 [(c 3 x0)] fun x2 =>
.l (.okc 1 false) [x1] fun x3 =>
.l (.okc 1 false) [x2] fun x4 =>
.ret (.agg [(c 0 x0), (c 1 x0), x3, x4])
theorem k24 : TxOk Tryd.prog 24 2 t24 := txOk_of (H := {}) (plans := []) hm Tryd.func24 rfl rfl fun xs => by kernel_rfl
/- slices.Clone[[]string,string] -/
def t25 (xs : List PV) : T PV :=
.nilq (n xs 0) (
 .ret (.sl [])) (
 .l (.lst 1 false) [] fun x0 =>
 .l (.app 1 false 16) [x0, (n xs 0)] fun x1 =>
 .ret x1)
theorem k25 : TxOk Tryd.prog 25 1 t25 := txOk_of (H := {}) (plans := []) hm Tryd.func25 rfl rfl fun xs => by kernel_rfl
-- NOT TOLD: 25S slices.Clone[[]string,string]: 1
/- slices.Clone[[]duologue/graph.Ref,duologue/graph.Ref] -/
def t26 (xs : List PV) : T PV :=
.nilq (n xs 0) (
 .ret (.sl [])) (
 .l (.lst 2 true) [] fun x0 =>
 .l (.app 2 true 16) [x0, (n xs 0)] fun x1 =>
 .ret x1)
theorem k26 : TxOk Tryd.prog 26 1 t26 := txOk_of (H := {}) (plans := []) hm Tryd.func26 rfl rfl fun xs => by kernel_rfl
-- NOT TOLD: 26S slices.Clone[[]duologue/graph.Ref,duologue/graph.Ref]: 1
/- duologue/dual.Close$2 -/
def t27 (xs : List PV) : T PV :=
.l (.okc 4 true) [(n xs 1)] fun x0 =>
.call 28 [(c 3 x0), (.fn 29 [] [(.box x0), (n xs 2)])] fun x1 =>
.call 14 [(c 0 x0)] fun x2 =>
.call 25 [(c 2 x0)] fun x3 =>
.l (.okcs [(1, false), (1, false), (1, false), (1, false)]) [x2, (c 1 x0), x3, x1] fun x4 =>
.ret (.agg [x2, (c 1 x0), x3, x1])
theorem k27 : TxOk Tryd.prog 27 3 t27 := txOk_of (H := {}) (plans := []) hm Tryd.func27 rfl rfl fun xs => by kernel_rfl
/- duologue/dual.mapped[duologue/graph.Ref,duologue/graph.Ref] -/
def t28 (xs : List PV) : T PV :=
.l .len [(n xs 0)] fun x0 =>
.loop [(i 0), (.sl [])] fun y1 =>
.l (.cmp .lss .i64) [(n y1 0), x0] fun x2 =>
.ite x2 (
 .l (.idx 2 true) [(n xs 0), (n y1 0)] fun x3 =>
 .l (.okc 2 true) [x3] fun x4 =>
 .callv (n xs 1) [(n y1 0), x4] fun x5 =>
 .l (.lst 2 true) [x5] fun x6 =>
 .l (.app 2 true 16) [(n y1 1), x6] fun x7 =>
 .l (.arith .add .i64) [(n y1 0), (i 1)] fun x8 =>
 .cont 0 [x8, x7]) (
 .ret (n y1 1))
theorem k28 : TxOk Tryd.prog 28 2 t28 := txOk_of (H := {}) (plans := []) hm Tryd.func28 rfl rfl fun xs => by kernel_rfl
/- duologue/dual.Close$2$1 -/
def t29 (xs : List PV) : T PV :=
.l (.okc 2 true) [(n xs 1)] fun x0 =>
.l (.unbox 4 true) [(n xs 2)] fun x1 =>
.call 30 [(c 0 x1), (n xs 0)] fun x2 =>
.ite x2 (
 .l (.unbox 1 false) [(n xs 3)] fun x3 =>
 .l (.arith .add .i64) [(c 0 x0), x3] fun x4 =>
 .l (.okc 1 false) [x4] fun x5 =>
 .ret (.agg [x5, (c 1 x0)])) (
 .l (.okc 2 true) [x0] fun x3 =>
 .ret x3)
theorem k29 : TxOk Tryd.prog 29 4 t29 := txOk_of (H := {}) (plans := []) hm Tryd.func29 rfl rfl fun xs => by kernel_rfl
/- duologue/dual.rest -/
def t30 (xs : List PV) : T PV :=
.l (.cmp .gtr .i64) [(n xs 1), (i 0)] fun x0 =>
.ite x0 (
 .ret (.bool true)) (
 .l (.cmp .eql .i64) [(n xs 0), (i 6)] fun x1 =>
 .ite x1 (
  .ret (.bool true)) (
  .l (.cmp .eql .i64) [(n xs 0), (i 7)] fun x2 =>
  .ret x2))
theorem k30 : TxOk Tryd.prog 30 2 t30 := txOk_of (H := {}) (plans := []) hm Tryd.func30 rfl rfl fun xs => by kernel_rfl
/- duologue/duologueref02.Few -/
def t31 (xs : List PV) : T PV :=
.l (.okc 6 true) [(n xs 0)] fun x0 =>
.call 34 [x0, (n xs 1)] fun x1 =>
.l (.cmp .geq .i64) [x1, (i 0)] fun x2 =>
.ite x2 (
 .call 35 [x0] fun x3 =>
 .l (.cmp .leq .i64) [x3, (i 150)] fun x4 =>
 .ret x4) (
 .ret (.bool false))
theorem k31 : TxOk Tryd.prog 31 2 t31 := txOk_of (H := {}) (plans := []) hm Tryd.func31 rfl rfl fun xs => by kernel_rfl
/- duologue/duologueref02.Right -/
def t32 (xs : List PV) : T PV :=
.l (.okc 6 true) [(n xs 0)] fun x0 =>
.call 35 [x0] fun x1 =>
.l (.cmp .gtr .i64) [x1, (i 100)] fun x2 =>
.ite x2 (
 .ret (i 2)) (
 .call 36 [x0] fun x3 =>
 .l (.cmp .gtr .i64) [x3, (i 10000)] fun x4 =>
 .ite x4 (
  .ret (i 2)) (
  .call 37 [x0, (.sl []), (i 0), (.bool false)] fun x5 =>
  .ret x5))
theorem k32 : TxOk Tryd.prog 32 1 t32 := txOk_of (H := {}) (plans := []) hm Tryd.func32 rfl rfl fun xs => by kernel_rfl
/- duologue/duologueref07.Count -/
def t33 (xs : List PV) : T PV :=
.l (.okc 6 true) [(n xs 0)] fun x0 =>
.l (.cmp .leq .i64) [(c 0 x0), (i 7)] fun x1 =>
.ite x1 (
 .loop [(i 0), (i 1)] fun y2 =>
 .l .len [(c 5 x0)] fun x3 =>
 .l (.cmp .lss .i64) [(n y2 0), x3] fun x4 =>
 .ite x4 (
  .l (.idx 6 true) [(c 5 x0), (n y2 0)] fun x5 =>
  .call 33 [x5] fun x6 =>
  .l (.arith .add .i64) [(n y2 1), x6] fun x7 =>
  .l (.arith .add .i64) [(n y2 0), (i 1)] fun x8 =>
  .cont 0 [x8, x7]) (
  .ret (n y2 1))) (
 .loop [(i 0), (i 0)] fun y2 =>
 .l .len [(c 5 x0)] fun x3 =>
 .l (.cmp .lss .i64) [(n y2 0), x3] fun x4 =>
 .ite x4 (
  .l (.idx 6 true) [(c 5 x0), (n y2 0)] fun x5 =>
  .call 33 [x5] fun x6 =>
  .l (.arith .add .i64) [(n y2 1), x6] fun x7 =>
  .l (.arith .add .i64) [(n y2 0), (i 1)] fun x8 =>
  .cont 0 [x8, x7]) (
  .ret (n y2 1)))
theorem k33 : TxOk Tryd.prog 33 1 t33 := txOk_of (H := {}) (plans := []) hm Tryd.func33 rfl rfl fun xs => by kernel_rfl
/- duologue/duologueref02.count -/
def t34 (xs : List PV) : T PV :=
.l (.okc 6 true) [(n xs 0)] fun x0 =>
.l (.arith .sub .i64) [(n xs 1), (i 1)] fun x1 =>
.loop [(i 0), x1] fun y2 =>
.l .len [(c 5 x0)] fun x3 =>
.l (.cmp .lss .i64) [(n y2 0), x3] fun x4 =>
.ite x4 (
 .l (.cmp .geq .i64) [(n y2 1), (i 0)] fun x5 =>
 .ite x5 (
  .l (.idx 6 true) [(c 5 x0), (n y2 0)] fun x6 =>
  .call 34 [x6, (n y2 1)] fun x7 =>
  .l (.arith .add .i64) [(n y2 0), (i 1)] fun x8 =>
  .cont 0 [x8, x7]) (
  .ret (n y2 1))) (
 .ret (n y2 1))
theorem k34 : TxOk Tryd.prog 34 2 t34 := txOk_of (H := {}) (plans := []) hm Tryd.func34 rfl rfl fun xs => by kernel_rfl
/- duologue/duologueref02.Depth -/
def t35 (xs : List PV) : T PV :=
.l (.okc 6 true) [(n xs 0)] fun x0 =>
.loop [(i 0), (i 0)] fun y1 =>
.l .len [(c 5 x0)] fun x2 =>
.l (.cmp .lss .i64) [(n y1 0), x2] fun x3 =>
.ite x3 (
 .l (.idx 6 true) [(c 5 x0), (n y1 0)] fun x4 =>
 .call 35 [x4] fun x5 =>
 .l (.mx .i64) [(n y1 1), x5] fun x6 =>
 .l (.arith .add .i64) [(n y1 0), (i 1)] fun x7 =>
 .cont 0 [x7, x6]) (
 .l (.arith .add .i64) [(n y1 1), (i 1)] fun x4 =>
 .ret x4)
theorem k35 : TxOk Tryd.prog 35 1 t35 := txOk_of (H := {}) (plans := []) hm Tryd.func35 rfl rfl fun xs => by kernel_rfl
/- duologue/duologueref02.Size -/
def t36 (xs : List PV) : T PV :=
.l (.okc 6 true) [(n xs 0)] fun x0 =>
.loop [(i 0), (i 1)] fun y1 =>
.l .len [(c 5 x0)] fun x2 =>
.l (.cmp .lss .i64) [(n y1 0), x2] fun x3 =>
.ite x3 (
 .l (.idx 6 true) [(c 5 x0), (n y1 0)] fun x4 =>
 .call 36 [x4] fun x5 =>
 .l (.arith .add .i64) [(n y1 1), x5] fun x6 =>
 .l (.arith .add .i64) [(n y1 0), (i 1)] fun x7 =>
 .cont 0 [x7, x6]) (
 .ret (n y1 1))
theorem k36 : TxOk Tryd.prog 36 1 t36 := txOk_of (H := {}) (plans := []) hm Tryd.func36 rfl rfl fun xs => by kernel_rfl
/- duologue/duologueref02.node -/
def t37 (xs : List PV) : T PV :=
.l (.okc 6 true) [(n xs 0)] fun x0 =>
.call 38 [x0] fun x1 =>
.l .bnot [x1] fun x2 =>
.ite x2 (
 .ret (i 3)) (
 .ite (n xs 3) (
  .call 18 [x0] fun x3 =>
  .l .bnot [x3] fun x4 =>
  .ite x4 (
   .ret (i 3)) (
   .l (.cmp .eql .i64) [(c 0 x0), (i 9)] fun x5 =>
   .ite x5 (
    .l .len [(n xs 1)] fun x6 =>
    .l (.arith .sub .i64) [x6, (i 1)] fun x7 =>
    .loop [x7] fun y8 =>
    .l (.cmp .geq .i64) [(n y8 0), (i 0)] fun x9 =>
    .ite x9 (
     .l (.idx 1 false) [(n xs 1), (n y8 0)] fun x10 =>
     .l (.scmp .eql) [x10, (c 2 x0)] fun x11 =>
     .ite x11 (
      .l (.cmp .lss .i64) [(n y8 0), (n xs 2)] fun x12 =>
      .ite x12 (
       .ret (i 0)) (
       .ret (i 3))) (
      .l (.arith .sub .i64) [(n y8 0), (i 1)] fun x12 =>
      .cont 0 [x12])) (
     .ret (i 4))) (
    .l (.cmp .eql .i64) [(c 0 x0), (i 8)] fun x6 =>
    .ite x6 (
     .l (.idx 6 true) [(c 5 x0), (i 0)] fun x7 =>
     .l (.lst 1 false) [] fun x8 =>
     .l (.app 1 false 16) [x8, (n xs 1)] fun x9 =>
     .l (.lst 1 false) [(c 2 x0)] fun x10 =>
     .l (.app 1 false 16) [x9, x10] fun x11 =>
     .call 37 [x7, x11, (n xs 2), (.bool true)] fun x12 =>
     .ret x12) (
     .loop [(i 0)] fun y7 =>
     .l .len [(c 5 x0)] fun x8 =>
     .l (.cmp .lss .i64) [(n y7 0), x8] fun x9 =>
     .ite x9 (
      .l (.idx 6 true) [(c 5 x0), (n y7 0)] fun x10 =>
      .l .len [(n xs 1)] fun x11 =>
      .l (.cmp .gtr .i64) [(n y7 0), (i 0)] fun x12 =>
      .ite x12 (
       .call 37 [x10, (n xs 1), x11, (.bool true)] fun x13 =>
       .l (.cmp .neq .i64) [x13, (i 0)] fun x14 =>
       .ite x14 (
        .ret x13) (
        .l (.arith .add .i64) [(n y7 0), (i 1)] fun x15 =>
        .cont 0 [x15])) (
       .l (.cmp .gtr .i64) [(c 0 x0), (i 5)] fun x13 =>
       .call 37 [x10, (n xs 1), x11, x13] fun x14 =>
       .l (.cmp .neq .i64) [x14, (i 0)] fun x15 =>
       .ite x15 (
        .ret x14) (
        .l (.arith .add .i64) [(n y7 0), (i 1)] fun x16 =>
        .cont 0 [x16]))) (
      .ret (i 0)))))) (
  .l (.cmp .eql .i64) [(c 0 x0), (i 9)] fun x3 =>
  .ite x3 (
   .l .len [(n xs 1)] fun x4 =>
   .l (.arith .sub .i64) [x4, (i 1)] fun x5 =>
   .loop [x5] fun y6 =>
   .l (.cmp .geq .i64) [(n y6 0), (i 0)] fun x7 =>
   .ite x7 (
    .l (.idx 1 false) [(n xs 1), (n y6 0)] fun x8 =>
    .l (.scmp .eql) [x8, (c 2 x0)] fun x9 =>
    .ite x9 (
     .l (.cmp .lss .i64) [(n y6 0), (n xs 2)] fun x10 =>
     .ite x10 (
      .ret (i 0)) (
      .ret (i 3))) (
     .l (.arith .sub .i64) [(n y6 0), (i 1)] fun x10 =>
     .cont 0 [x10])) (
    .ret (i 4))) (
   .l (.cmp .eql .i64) [(c 0 x0), (i 8)] fun x4 =>
   .ite x4 (
    .l (.idx 6 true) [(c 5 x0), (i 0)] fun x5 =>
    .l (.lst 1 false) [] fun x6 =>
    .l (.app 1 false 16) [x6, (n xs 1)] fun x7 =>
    .l (.lst 1 false) [(c 2 x0)] fun x8 =>
    .l (.app 1 false 16) [x7, x8] fun x9 =>
    .call 37 [x5, x9, (n xs 2), (.bool true)] fun x10 =>
    .ret x10) (
    .loop [(i 0)] fun y5 =>
    .l .len [(c 5 x0)] fun x6 =>
    .l (.cmp .lss .i64) [(n y5 0), x6] fun x7 =>
    .ite x7 (
     .l (.idx 6 true) [(c 5 x0), (n y5 0)] fun x8 =>
     .l .len [(n xs 1)] fun x9 =>
     .l (.cmp .gtr .i64) [(n y5 0), (i 0)] fun x10 =>
     .ite x10 (
      .call 37 [x8, (n xs 1), x9, (.bool true)] fun x11 =>
      .l (.cmp .neq .i64) [x11, (i 0)] fun x12 =>
      .ite x12 (
       .ret x11) (
       .l (.arith .add .i64) [(n y5 0), (i 1)] fun x13 =>
       .cont 0 [x13])) (
      .l (.cmp .gtr .i64) [(c 0 x0), (i 5)] fun x11 =>
      .call 37 [x8, (n xs 1), x9, x11] fun x12 =>
      .l (.cmp .neq .i64) [x12, (i 0)] fun x13 =>
      .ite x13 (
       .ret x12) (
       .l (.arith .add .i64) [(n y5 0), (i 1)] fun x14 =>
       .cont 0 [x14]))) (
     .ret (i 0))))))
theorem k37 : TxOk Tryd.prog 37 4 t37 := txOk_of (H := {}) (plans := []) hm Tryd.func37 rfl rfl fun xs => by kernel_rfl
/- duologue/duologueref02.shape -/
def t38 (xs : List PV) : T PV :=
.l (.okc 6 true) [(n xs 0)] fun x0 =>
.l (.cmp .eql .i64) [(c 0 x0), (i 1)] fun x1 =>
.ite x1 (
 .l (.cmp .eql .i64) [(c 1 x0), (i 0)] fun x2 =>
 .ite x2 (
  .l (.scmp .eql) [(c 2 x0), (.str ⟨#[]⟩)] fun x3 =>
  .ite x3 (
   .l (.cmp .eql .i64) [(c 3 x0), (i 0)] fun x4 =>
   .ite x4 (
    .l .len [(c 4 x0)] fun x5 =>
    .l (.cmp .eql .i64) [x5, (i 0)] fun x6 =>
    .ite x6 (
     .l .len [(c 5 x0)] fun x7 =>
     .l (.cmp .eql .i64) [x7, (i 0)] fun x8 =>
     .ret x8) (
     .ret (.bool false))) (
    .ret (.bool false))) (
   .ret (.bool false))) (
  .ret (.bool false))) (
 .l (.cmp .eql .i64) [(c 0 x0), (i 2)] fun x2 =>
 .ite x2 (
  .l (.cmp .eql .i64) [(c 1 x0), (i 0)] fun x3 =>
  .ite x3 (
   .l (.scmp .eql) [(c 2 x0), (.str ⟨#[]⟩)] fun x4 =>
   .ite x4 (
    .l (.cmp .eql .i64) [(c 3 x0), (i 0)] fun x5 =>
    .ite x5 (
     .l .len [(c 4 x0)] fun x6 =>
     .l (.cmp .eql .i64) [x6, (i 0)] fun x7 =>
     .ite x7 (
      .l .len [(c 5 x0)] fun x8 =>
      .l (.cmp .eql .i64) [x8, (i 0)] fun x9 =>
      .ret x9) (
      .ret (.bool false))) (
     .ret (.bool false))) (
    .ret (.bool false))) (
   .ret (.bool false))) (
  .l (.cmp .eql .i64) [(c 0 x0), (i 3)] fun x3 =>
  .ite x3 (
   .l (.cmp .eql .i64) [(c 1 x0), (i 0)] fun x4 =>
   .ite x4 (
    .l (.scmp .eql) [(c 2 x0), (.str ⟨#[]⟩)] fun x5 =>
    .ite x5 (
     .l (.cmp .eql .i64) [(c 3 x0), (i 0)] fun x6 =>
     .ite x6 (
      .l .len [(c 4 x0)] fun x7 =>
      .l (.cmp .eql .i64) [x7, (i 0)] fun x8 =>
      .ite x8 (
       .l .len [(c 5 x0)] fun x9 =>
       .l (.cmp .eql .i64) [x9, (i 0)] fun x10 =>
       .ret x10) (
       .ret (.bool false))) (
      .ret (.bool false))) (
     .ret (.bool false))) (
    .ret (.bool false))) (
   .l (.cmp .eql .i64) [(c 0 x0), (i 4)] fun x4 =>
   .ite x4 (
    .call 39 [(c 1 x0)] fun x5 =>
    .ite x5 (
     .l (.scmp .eql) [(c 2 x0), (.str ⟨#[]⟩)] fun x6 =>
     .ite x6 (
      .l (.cmp .eql .i64) [(c 3 x0), (i 0)] fun x7 =>
      .ite x7 (
       .l .len [(c 4 x0)] fun x8 =>
       .l (.cmp .eql .i64) [x8, (i 0)] fun x9 =>
       .ite x9 (
        .l .len [(c 5 x0)] fun x10 =>
        .l (.cmp .eql .i64) [x10, (i 2)] fun x11 =>
        .ret x11) (
        .ret (.bool false))) (
       .ret (.bool false))) (
      .ret (.bool false))) (
     .ret (.bool false))) (
    .l (.cmp .eql .i64) [(c 0 x0), (i 5)] fun x5 =>
    .ite x5 (
     .call 39 [(c 1 x0)] fun x6 =>
     .ite x6 (
      .l (.scmp .eql) [(c 2 x0), (.str ⟨#[]⟩)] fun x7 =>
      .ite x7 (
       .l (.cmp .eql .i64) [(c 3 x0), (i 0)] fun x8 =>
       .ite x8 (
        .l .len [(c 4 x0)] fun x9 =>
        .l (.cmp .eql .i64) [x9, (i 0)] fun x10 =>
        .ite x10 (
         .l .len [(c 5 x0)] fun x11 =>
         .l (.cmp .eql .i64) [x11, (i 2)] fun x12 =>
         .ret x12) (
         .ret (.bool false))) (
        .ret (.bool false))) (
       .ret (.bool false))) (
      .ret (.bool false))) (
     .l (.cmp .eql .i64) [(c 0 x0), (i 6)] fun x6 =>
     .ite x6 (
      .call 39 [(c 1 x0)] fun x7 =>
      .ite x7 (
       .l (.scmp .eql) [(c 2 x0), (.str ⟨#[]⟩)] fun x8 =>
       .ite x8 (
        .l (.cmp .eql .i64) [(c 3 x0), (i 0)] fun x9 =>
        .ite x9 (
         .l .len [(c 4 x0)] fun x10 =>
         .l (.cmp .gtr .i64) [x10, (i 0)] fun x11 =>
         .ite x11 (
          .call 40 [(c 4 x0)] fun x12 =>
          .ite x12 (
           .l .len [(c 5 x0)] fun x13 =>
           .l .len [(c 4 x0)] fun x14 =>
           .l (.cmp .eql .i64) [x13, x14] fun x15 =>
           .ret x15) (
           .ret (.bool false))) (
          .ret (.bool false))) (
         .ret (.bool false))) (
        .ret (.bool false))) (
       .ret (.bool false))) (
      .l (.cmp .eql .i64) [(c 0 x0), (i 7)] fun x7 =>
      .ite x7 (
       .call 39 [(c 1 x0)] fun x8 =>
       .ite x8 (
        .l (.scmp .eql) [(c 2 x0), (.str ⟨#[]⟩)] fun x9 =>
        .ite x9 (
         .l (.cmp .eql .i64) [(c 3 x0), (i 0)] fun x10 =>
         .ite x10 (
          .l .len [(c 4 x0)] fun x11 =>
          .l (.cmp .gtr .i64) [x11, (i 0)] fun x12 =>
          .ite x12 (
           .call 40 [(c 4 x0)] fun x13 =>
           .ite x13 (
            .l .len [(c 5 x0)] fun x14 =>
            .l .len [(c 4 x0)] fun x15 =>
            .l (.cmp .eql .i64) [x14, x15] fun x16 =>
            .ret x16) (
            .ret (.bool false))) (
           .ret (.bool false))) (
          .ret (.bool false))) (
         .ret (.bool false))) (
        .ret (.bool false))) (
       .l (.cmp .eql .i64) [(c 0 x0), (i 8)] fun x8 =>
       .ite x8 (
        .l (.cmp .eql .i64) [(c 1 x0), (i 0)] fun x9 =>
        .ite x9 (
         .call 41 [(c 2 x0)] fun x10 =>
         .ite x10 (
          .l (.cmp .eql .i64) [(c 3 x0), (i 0)] fun x11 =>
          .ite x11 (
           .l .len [(c 4 x0)] fun x12 =>
           .l (.cmp .eql .i64) [x12, (i 0)] fun x13 =>
           .ite x13 (
            .l .len [(c 5 x0)] fun x14 =>
            .l (.cmp .eql .i64) [x14, (i 1)] fun x15 =>
            .ret x15) (
            .ret (.bool false))) (
           .ret (.bool false))) (
          .ret (.bool false))) (
         .ret (.bool false))) (
        .l (.cmp .eql .i64) [(c 0 x0), (i 9)] fun x9 =>
        .ite x9 (
         .l (.cmp .eql .i64) [(c 1 x0), (i 0)] fun x10 =>
         .ite x10 (
          .call 41 [(c 2 x0)] fun x11 =>
          .ite x11 (
           .call 39 [(c 3 x0)] fun x12 =>
           .ite x12 (
            .l .len [(c 4 x0)] fun x13 =>
            .l (.cmp .eql .i64) [x13, (i 0)] fun x14 =>
            .ite x14 (
             .l .len [(c 5 x0)] fun x15 =>
             .l (.cmp .eql .i64) [x15, (i 0)] fun x16 =>
             .ret x16) (
             .ret (.bool false))) (
            .ret (.bool false))) (
           .ret (.bool false))) (
          .ret (.bool false))) (
         .ret (.bool false))))))))))
theorem k38 : TxOk Tryd.prog 38 1 t38 := txOk_of (H := {}) (plans := []) hm Tryd.func38 rfl rfl fun xs => by kernel_rfl
/- duologue/duologueref02.prio -/
def t39 (xs : List PV) : T PV :=
.l (.cmp .geq .i64) [(n xs 0), (i 0)] fun x0 =>
.ite x0 (
 .l (.cmp .leq .i64) [(n xs 0), (i 1000000)] fun x1 =>
 .ret x1) (
 .ret (.bool false))
theorem k39 : TxOk Tryd.prog 39 1 t39 := txOk_of (H := {}) (plans := []) hm Tryd.func39 rfl rfl fun xs => by kernel_rfl
/- duologue/duologueref02.Labels -/
def t40 (xs : List PV) : T PV :=
.loop [(i 0)] fun y0 =>
.l .len [(n xs 0)] fun x1 =>
.l (.cmp .lss .i64) [(n y0 0), x1] fun x2 =>
.ite x2 (
 .l (.idx 1 false) [(n xs 0), (n y0 0)] fun x3 =>
 .call 41 [x3] fun x4 =>
 .l .bnot [x4] fun x5 =>
 .ite x5 (
  .ret (.bool false)) (
  .l (.idx 1 false) [(n xs 0), (n y0 0)] fun x6 =>
  .l (.slcT 1 false) [(n xs 0), (n y0 0)] fun x7 =>
  .call 42 [x6, x7] fun x8 =>
  .ite x8 (
   .ret (.bool false)) (
   .l (.arith .add .i64) [(n y0 0), (i 1)] fun x9 =>
   .cont 0 [x9]))) (
 .ret (.bool true))
theorem k40 : TxOk Tryd.prog 40 1 t40 := txOk_of (H := {}) (plans := []) hm Tryd.func40 rfl rfl fun xs => by kernel_rfl
/- duologue/duologueref01.Name -/
def t41 (xs : List PV) : T PV :=
.call 43 [(n xs 0)] fun x0 =>
.ite x0 (
 .call 44 [(n xs 0)] fun x1 =>
 .l .bnot [x1] fun x2 =>
 .ret x2) (
 .ret (.bool false))
theorem k41 : TxOk Tryd.prog 41 1 t41 := txOk_of (H := {}) (plans := []) hm Tryd.func41 rfl rfl fun xs => by kernel_rfl
/- duologue/duologueref02.in -/
def t42 (xs : List PV) : T PV :=
.loop [(i 0)] fun y0 =>
.l .len [(n xs 1)] fun x1 =>
.l (.cmp .lss .i64) [(n y0 0), x1] fun x2 =>
.ite x2 (
 .l (.idx 1 false) [(n xs 1), (n y0 0)] fun x3 =>
 .l (.scmp .eql) [x3, (n xs 0)] fun x4 =>
 .ite x4 (
  .ret (.bool true)) (
  .l (.arith .add .i64) [(n y0 0), (i 1)] fun x5 =>
  .cont 0 [x5])) (
 .ret (.bool false))
theorem k42 : TxOk Tryd.prog 42 2 t42 := txOk_of (H := {}) (plans := []) hm Tryd.func42 rfl rfl fun xs => by kernel_rfl
/- duologue/duologueref01.Word -/
def t43 (xs : List PV) : T PV :=
.l .slen [(n xs 0)] fun x0 =>
.l (.cmp .eql .i64) [x0, (i 0)] fun x1 =>
.ite x1 (
 .ret (.bool false)) (
 .l .sidx [(n xs 0), (i 0)] fun x2 =>
 .call 46 [] fun x3 =>
 .call 45 [x2, x3] fun x4 =>
 .l .bnot [x4] fun x5 =>
 .ite x5 (
  .ret (.bool false)) (
  .loop [(i 1)] fun y6 =>
  .l .slen [(n xs 0)] fun x7 =>
  .l (.cmp .lss .i64) [(n y6 0), x7] fun x8 =>
  .ite x8 (
   .l .sidx [(n xs 0), (n y6 0)] fun x9 =>
   .call 46 [] fun x10 =>
   .call 45 [x9, x10] fun x11 =>
   .l .bnot [x11] fun x12 =>
   .ite x12 (
    .l .sidx [(n xs 0), (n y6 0)] fun x13 =>
    .call 47 [] fun x14 =>
    .call 45 [x13, x14] fun x15 =>
    .l .bnot [x15] fun x16 =>
    .ite x16 (
     .ret (.bool false)) (
     .l (.arith .add .i64) [(n y6 0), (i 1)] fun x17 =>
     .cont 0 [x17])) (
    .l (.arith .add .i64) [(n y6 0), (i 1)] fun x13 =>
    .cont 0 [x13])) (
   .ret (.bool true))))
theorem k43 : TxOk Tryd.prog 43 1 t43 := txOk_of (H := {}) (plans := []) hm Tryd.func43 rfl rfl fun xs => by kernel_rfl
/- duologue/duologueref01.Keyword -/
def t44 (xs : List PV) : T PV :=
.l (.lst 1 false) [(.str ⟨#[100, 101, 102]⟩), (.str ⟨#[109, 97, 105, 110]⟩), (.str ⟨#[115, 116, 111, 112]⟩), (.str ⟨#[110, 101, 119]⟩), (.str ⟨#[105, 110, 116]⟩), (.str ⟨#[98, 111, 111, 108]⟩), (.str ⟨#[101, 110, 100]⟩), (.str ⟨#[114, 101, 99]⟩), (.str ⟨#[116, 114, 117, 101]⟩), (.str ⟨#[102, 97, 108, 115, 101]⟩)] fun x0 =>
.loop [(i 0)] fun y1 =>
.l .len [x0] fun x2 =>
.l (.cmp .lss .i64) [(n y1 0), x2] fun x3 =>
.ite x3 (
 .l (.idx 1 false) [x0, (n y1 0)] fun x4 =>
 .l (.scmp .eql) [x4, (n xs 0)] fun x5 =>
 .ite x5 (
  .ret (.bool true)) (
  .l (.arith .add .i64) [(n y1 0), (i 1)] fun x6 =>
  .cont 0 [x6])) (
 .ret (.bool false))
theorem k44 : TxOk Tryd.prog 44 1 t44 := txOk_of (H := {}) (plans := []) hm Tryd.func44 rfl rfl fun xs => by kernel_rfl
/- duologue/duologueref01.in -/
def t45 (xs : List PV) : T PV :=
.loop [(i 0)] fun y0 =>
.l .slen [(n xs 1)] fun x1 =>
.l (.cmp .lss .i64) [(n y0 0), x1] fun x2 =>
.ite x2 (
 .l .sidx [(n xs 1), (n y0 0)] fun x3 =>
 .l (.cmp .eql .u8) [x3, (n xs 0)] fun x4 =>
 .ite x4 (
  .ret (.bool true)) (
  .l (.arith .add .i64) [(n y0 0), (i 1)] fun x5 =>
  .cont 0 [x5])) (
 .ret (.bool false))
theorem k45 : TxOk Tryd.prog 45 2 t45 := txOk_of (H := {}) (plans := []) hm Tryd.func45 rfl rfl fun xs => by kernel_rfl
/- duologue/duologueref01.Letters -/
def t46 (xs : List PV) : T PV :=
.ret (.str ⟨#[65, 66, 67, 68, 69, 70, 71, 72, 73, 74, 75, 76, 77, 78, 79, 80, 81, 82, 83, 84, 85, 86, 87, 88, 89, 90, 97, 98, 99, 100, 101, 102, 103, 104, 105, 106, 107, 108, 109, 110, 111, 112, 113, 114, 115, 116, 117, 118, 119, 120, 121, 122, 95]⟩)
theorem k46 : TxOk Tryd.prog 46 0 t46 := txOk_of (H := {}) (plans := []) hm Tryd.func46 rfl rfl fun xs => by kernel_rfl
/- duologue/duologueref01.digits -/
def t47 (xs : List PV) : T PV :=
.ret (.str ⟨#[48, 49, 50, 51, 52, 53, 54, 55, 56, 57]⟩)
theorem k47 : TxOk Tryd.prog 47 0 t47 := txOk_of (H := {}) (plans := []) hm Tryd.func47 rfl rfl fun xs => by kernel_rfl
def tb : List (Nat × Tx) := [(3, ⟨2, t3⟩), (4, ⟨3, t4⟩), (5, ⟨1, t5⟩), (6, ⟨2, t6⟩), (7, ⟨0, t7⟩), (8, ⟨3, t8⟩), (9, ⟨1, t9⟩), (10, ⟨1, t10⟩), (11, ⟨2, t11⟩), (12, ⟨1, t12⟩), (13, ⟨1, t13⟩), (14, ⟨1, t14⟩), (15, ⟨1, t15⟩), (16, ⟨2, t16⟩), (17, ⟨2, t17⟩), (18, ⟨1, t18⟩), (19, ⟨1, t19⟩), (20, ⟨4, t20⟩), (21, ⟨4, t21⟩), (22, ⟨2, t22⟩), (23, ⟨2, t23⟩), (24, ⟨2, t24⟩), (25, ⟨1, t25⟩), (26, ⟨1, t26⟩), (27, ⟨3, t27⟩), (28, ⟨2, t28⟩), (29, ⟨4, t29⟩), (30, ⟨2, t30⟩), (31, ⟨2, t31⟩), (32, ⟨1, t32⟩), (33, ⟨1, t33⟩), (34, ⟨2, t34⟩), (35, ⟨1, t35⟩), (36, ⟨1, t36⟩), (37, ⟨4, t37⟩), (38, ⟨1, t38⟩), (39, ⟨1, t39⟩), (40, ⟨1, t40⟩), (41, ⟨1, t41⟩), (42, ⟨2, t42⟩), (43, ⟨1, t43⟩), (44, ⟨1, t44⟩), (45, ⟨2, t45⟩), (46, ⟨0, t46⟩), (47, ⟨0, t47⟩)]
def tbS : List (Nat × TxS) := [(23, ⟨sg23, u23⟩)]
theorem allOk : AllOk Tryd.prog tb := ⟨k3, k4, k5, k6, k7, k8, k9, k10, k11, k12, k13, k14, k15, k16, k17, k18, k19, k20, k21, k22, k23, k24, k25, k26, k27, k28, k29, k30, k31, k32, k33, k34, k35, k36, k37, k38, k39, k40, k41, k42, k43, k44, k45, k46, k47, trivial⟩
theorem allOkS : AllOkS Tryd.prog tbS := ⟨m23, trivial⟩
end Go.Proofs.YthlgbanhnlljkaaDoor.Tx

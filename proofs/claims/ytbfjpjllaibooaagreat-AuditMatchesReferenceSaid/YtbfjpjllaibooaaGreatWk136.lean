/- The reference of the package scope: one node and what is below it, exactly. -/
import Derived.Test.YtbfjpjllaibooaaGreatWk131
set_option linter.all false
namespace Go.Proofs.YtbfjpjllaibooaaGreat.Tx
open Go.Lf Go.Lf.S Go.Lf.Duo
set_option maxRecDepth 100000

/-! the text, its repeated tails named -/
def n6kids (w k ks g inner : PV) : T PV :=
  .loop [(i 0)] fun y => .l .len [ks] fun x30 => .l (.cmp .lss .i64) [(n y 0), x30] fun x31 => .ite x31
    (.l (.idx 12 true) [ks, (n y 0)] fun x32 => .ite g
      (.call F.ref06_node [w, x32, inner, (.bool true)] fun x33 => .l (.cmp .neq .i64) [x33, (i 0)] fun x34 => .ite x34 (.ret x33) (.l (.arith .add .i64) [(n y 0), (i 1)] fun x35 => .cont 2 [x35]))
      (.l (.cmp .geq .i64) [k, (i 2)] fun x33 => .ite x33
        (.l (.cmp .leq .i64) [k, (i 5)] fun x34 => .call F.ref06_node [w, x32, inner, x34] fun x35 => .l (.cmp .neq .i64) [x35, (i 0)] fun x36 => .ite x36 (.ret x35) (.l (.arith .add .i64) [(n y 0), (i 1)] fun x37 => .cont 2 [x37]))
        (.call F.ref06_node [w, x32, inner, (.bool false)] fun x34 => .l (.cmp .neq .i64) [x34, (i 0)] fun x35 => .ite x35 (.ret x34) (.l (.arith .add .i64) [(n y 0), (i 1)] fun x36 => .cont 2 [x36]))))
    (.ret (i 0))
def n6call (w k ch ar ks g inner : PV) : T PV :=
  .l (.cmp .eql .i64) [k, (i 8)] fun x21 => .ite x21
    (.call F.ref06_Find [w, ch] fun x22 => .l (.cmp .lss .i64) [x22, (i 0)] fun x23 => .ite x23 (.ret (i 4))
      (.l (.idx 14 true) [(c 0 w), x22] fun x24 => .l .len [(c 1 x24)] fun x25 => .l .len [ar] fun x26 => .l (.cmp .neq .i64) [x25, x26] fun x27 => .ite x27 (.ret (i 6))
        (.l .bnot [g] fun x28 => .ite x28 (.ret (i 7)) (n6kids w k ks g inner))))
    (n6kids w k ks g inner)
def n6chk (w k ch ar ks g sc inner : PV) : T PV :=
  .l .len [sc] fun x17 => .loop [x17] fun y18 => .l .len [inner] fun x19 => .l (.cmp .lss .i64) [(n y18 0), x19] fun x20 => .ite x20
    (.l (.idx 1 false) [inner, (n y18 0)] fun x21 => .call F.ref03_In [x21, sc] fun x22 => .ite x22 (.ret (i 5)) (.l (.arith .add .i64) [(n y18 0), (i 1)] fun x23 => .cont 1 [x23]))
    (n6call w k ch ar ks g inner)
def n6inn (w k ch v ar ks g sc : PV) : T PV :=
  .l (.lst 1 false) [] fun x9 => .l (.app 1 false 16) [x9, sc] fun x10 => .l (.cmp .eql .i64) [k, (i 3)] fun x11 => .ite x11
    (.l (.lst 1 false) [v] fun x12 => .l (.app 1 false 16) [x10, x12] fun x13 => .l (.cmp .eql .i64) [k, (i 6)] fun x14 => .ite x14
      (.l (.lst 1 false) [ch, v] fun x15 => .l (.app 1 false 16) [x13, x15] fun x16 => n6chk w k ch ar ks g sc x16)
      (n6chk w k ch ar ks g sc x13))
    (.l (.cmp .eql .i64) [k, (i 6)] fun x12 => .ite x12
      (.l (.lst 1 false) [ch, v] fun x13 => .l (.app 1 false 16) [x10, x13] fun x14 => n6chk w k ch ar ks g sc x14)
      (n6chk w k ch ar ks g sc x10))
def n6args (w k ch v ar ks g sc : PV) : T PV :=
  .loop [(i 0)] fun y6 => .l .len [ar] fun x7 => .l (.cmp .lss .i64) [(n y6 0), x7] fun x8 => .ite x8
    (.l (.idx 3 true) [ar, (n y6 0)] fun x9 => .l (.cmp .eql .i64) [(c 0 x9), (i 1)] fun x10 => .ite x10
      (.l (.idx 3 true) [ar, (n y6 0)] fun x11 => .call F.ref03_In [(c 1 x11), sc] fun x12 => .l .bnot [x12] fun x13 => .ite x13 (.ret (i 4)) (.l (.arith .add .i64) [(n y6 0), (i 1)] fun x14 => .cont 0 [x14]))
      (.l (.arith .add .i64) [(n y6 0), (i 1)] fun x11 => .cont 0 [x11]))
    (n6inn w k ch v ar ks g sc)
def n6T (xs : List PV) : T PV :=
  .l (.okc 13 true) [(n xs 0)] fun x0 => .l (.okc 12 true) [(n xs 1)] fun x1 => .l (.cmp .geq .i64) [(c 0 x1), (i 2)] fun x2 => .ite x2
    (.l (.cmp .leq .i64) [(c 0 x1), (i 5)] fun x3 => .ite x3
      (.call F.ref03_In [(c 1 x1), (n xs 2)] fun x4 => .l .bnot [x4] fun x5 => .ite x5 (.ret (i 4)) (n6args x0 (c 0 x1) (c 1 x1) (c 2 x1) (c 4 x1) (c 11 x1) (n xs 3) (n xs 2)))
      (n6args x0 (c 0 x1) (c 1 x1) (c 2 x1) (c 4 x1) (c 11 x1) (n xs 3) (n xs 2)))
    (n6args x0 (c 0 x1) (c 1 x1) (c 2 x1) (c 4 x1) (c 11 x1) (n xs 3) (n xs 2))
theorem hN6 : TxOk P F.ref06_node 4 n6T := k_ref06_node
end Go.Proofs.YtbfjpjllaibooaaGreat.Tx

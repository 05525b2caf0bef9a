/- S22Fns: functions of the cut, as code of the idealised machine. Written by a program (ImCompile). -/
import Derived.Test.YtljcnoifjhifcaaDoorImSem
namespace Go.Proofs.YtljcnoifjhifcaaDoor.Im
open Go Go.Im

/-- silo/silolaw22.JudgeAnswers (checked) -/
def a4 : AF := ⟨[ARes.t 6],
  (.seq
  (.region [] [⟨some 3, AOp.boxL 6 (AX.t 0), none⟩,
    ⟨some 4, AOp.boxL 6 (AX.t 1), none⟩,
    ⟨some 5, AOp.boxL 5 (AX.t 2), none⟩,
    ⟨some 6, AOp.mov (AX.c (AV.bool false)), none⟩] [3, 4, 5])
  (.seq
  (.region [0, 1, 2, 3, 5, 6, 4, 7, 8, 9, 10, 11, 12, 13, 14, 15, 16, 17, 19, 20, 18, 21, 22, 23, 24] [⟨some 7, AOp.call 8 [], none⟩,
    ⟨some 8, AOp.mov (AX.t 7), none⟩,
    ⟨some 9, AOp.loadL true 6 (AX.t 3), some (8, true)⟩,
    ⟨some 10, AOp.loadL true 6 (AX.t 4), some (8, true)⟩,
    ⟨some 12, AOp.loadL true 6 (AX.t 3), some (8, true)⟩,
    ⟨some 13, AOp.loadL true 6 (AX.t 4), some (8, true)⟩,
    ⟨some 11, AOp.call 13 [AX.t 9, AX.t 10], some (8, true)⟩,
    ⟨some 14, AOp.call 12 [AX.t 12, AX.t 13], some (8, true)⟩,
    ⟨some 15, AOp.eql false false [CK.b] (AX.t 11) (AX.t 14), some (8, true)⟩,
    ⟨some 16, AOp.pick (AX.t 8) (AX.t 15) (AX.c (AV.bool false)), none⟩,
    ⟨some 17, AOp.mov (AX.t 16), none⟩,
    ⟨some 18, AOp.loadL true 6 (AX.t 3), some (17, true)⟩,
    ⟨some 19, AOp.loadL true 6 (AX.t 3), some (17, true)⟩,
    ⟨some 20, AOp.call 13 [AX.t 18, AX.t 19], some (17, true)⟩,
    ⟨some 21, AOp.pick (AX.t 17) (AX.t 20) (AX.c (AV.bool false)), none⟩,
    ⟨some 22, AOp.mov (AX.t 21), none⟩,
    ⟨some 23, AOp.loadL true 5 (AX.t 5), some (22, true)⟩,
    ⟨some 24, AOp.loadL true 6 (AX.t 3), some (22, true)⟩,
    ⟨some 26, AOp.loadL true 5 (AX.t 5), some (22, true)⟩,
    ⟨some 27, AOp.loadL true 6 (AX.t 3), some (22, true)⟩,
    ⟨some 25, AOp.call 14 [AX.t 23, AX.t 24], some (22, true)⟩,
    ⟨some 28, AOp.call 15 [AX.t 26, AX.t 27], some (22, true)⟩,
    ⟨some 29, AOp.eql false false [CK.b] (AX.t 25) (AX.t 28), some (22, true)⟩,
    ⟨some 30, AOp.pick (AX.t 22) (AX.t 29) (AX.c (AV.bool false)), none⟩,
    ⟨some 6, AOp.mov (AX.t 30), none⟩] [6])
  AC.ret))⟩

/-- silo/silolaw22.awake (checked) -/
def a8 : AF := ⟨[ARes.t 0],
  (.seq
  (.region [] [⟨some 0, AOp.mov (AX.c (AV.bool false)), none⟩] [])
  (.seq
  (.region [] [⟨some 9, AOp.lit [AV.int (IntKind.i64) 0, AV.int (IntKind.i64) 0, AV.int (IntKind.i64) 0, AV.str [], AV.nils] [(0, 1, AX.c (AV.int (IntKind.i64) 1))], none⟩,
    ⟨some 1, AOp.allocL (AV.agg [AV.int (IntKind.i64) 0, AV.int (IntKind.i64) 0, AV.int (IntKind.i64) 0, AV.str [], AV.nils]), none⟩,
    ⟨none, AOp.store 5 (AX.t 1) (AX.t 9), none⟩] [1])
  (.seq
  (.region [] [⟨some 10, AOp.loadL true 5 (AX.t 1), none⟩,
    ⟨some 11, AOp.lit [AV.int (IntKind.i64) 0, AV.bool false, AV.int (IntKind.i64) 0, AV.int (IntKind.i64) 0, AV.int (IntKind.i64) 0, AV.str [], AV.nils, AV.int (IntKind.i64) 0, AV.int (IntKind.i64) 0, AV.nils, AV.nils, AV.nils, AV.nils] [(2, 5, AX.t 10)], none⟩,
    ⟨some 12, AOp.lit [AV.int (IntKind.i64) 0, AV.int (IntKind.i64) 0, AV.nils, AV.nils, AV.nils, AV.nils] [(1, 1, AX.c (AV.int (IntKind.i64) 1))], none⟩,
    ⟨some 13, AOp.lit [AV.int (IntKind.i64) 0, AV.bool false, AV.int (IntKind.i64) 0, AV.int (IntKind.i64) 0, AV.int (IntKind.i64) 0, AV.str [], AV.nils, AV.int (IntKind.i64) 0, AV.int (IntKind.i64) 0, AV.nils, AV.nils, AV.nils, AV.nils] [(1, 1, AX.c (AV.bool true)), (7, 6, AX.t 12)], none⟩,
    ⟨some 14, AOp.loadL true 5 (AX.t 1), none⟩,
    ⟨some 15, AOp.lit [AV.int (IntKind.i64) 0, AV.bool false, AV.int (IntKind.i64) 0, AV.int (IntKind.i64) 0, AV.int (IntKind.i64) 0, AV.str [], AV.nils, AV.int (IntKind.i64) 0, AV.int (IntKind.i64) 0, AV.nils, AV.nils, AV.nils, AV.nils] [(0, 1, AX.c (AV.int (IntKind.i64) 1)), (2, 5, AX.t 14)], none⟩,
    ⟨some 16, AOp.lit [AV.int (IntKind.i64) 0, AV.int (IntKind.i64) 0, AV.nils, AV.nils, AV.nils, AV.nils] [(1, 1, AX.c (AV.int (IntKind.i64) 1))], none⟩,
    ⟨some 17, AOp.lit [AV.int (IntKind.i64) 0, AV.bool false, AV.int (IntKind.i64) 0, AV.int (IntKind.i64) 0, AV.int (IntKind.i64) 0, AV.str [], AV.nils, AV.int (IntKind.i64) 0, AV.int (IntKind.i64) 0, AV.nils, AV.nils, AV.nils, AV.nils] [(0, 1, AX.c (AV.int (IntKind.i64) 1)), (1, 1, AX.c (AV.bool true)), (7, 6, AX.t 16)], none⟩,
    ⟨some 18, AOp.litS true 13 (AV.agg [AV.int (IntKind.i64) 0, AV.bool false, AV.int (IntKind.i64) 0, AV.int (IntKind.i64) 0, AV.int (IntKind.i64) 0, AV.str [], AV.nils, AV.int (IntKind.i64) 0, AV.int (IntKind.i64) 0, AV.nils, AV.nils, AV.nils, AV.nils]) 4 [(0, AX.t 11), (1, AX.t 13), (2, AX.t 15), (3, AX.t 17)], none⟩,
    ⟨some 2, AOp.mov (AX.t 18), none⟩] [1, 2])
  (.seq
  (.region [] [⟨some 20, AOp.mov (AX.t 2), none⟩,
    ⟨some 21, AOp.call 17 [AX.t 20], none⟩,
    ⟨some 19, AOp.mov (AX.t 21), none⟩,
    ⟨some 22, AOp.extract (AX.t 19) 0, none⟩,
    ⟨some 23, AOp.extract (AX.t 19) 1, none⟩,
    ⟨some 3, AOp.mov (AX.t 22), none⟩,
    ⟨some 4, AOp.mov (AX.t 23), none⟩] [1, 2, 3, 4])
  (.seq
  (.region [] [⟨some 24, AOp.mov (AX.t 2), none⟩,
    ⟨some 25, AOp.indexS 13 (AX.t 24) (AX.c (AV.int (IntKind.i64) 3)), none⟩,
    ⟨some 26, AOp.fieldA 7 6 true (AX.t 25), none⟩,
    ⟨some 27, AOp.fieldA 1 1 false (AX.t 26), none⟩,
    ⟨none, AOp.store 1 (AX.t 27) (AX.c (AV.int (IntKind.i64) 2)), none⟩] [1, 2, 3, 4])
  (.seq
  (.region [] [⟨some 29, AOp.mov (AX.t 2), none⟩,
    ⟨some 30, AOp.call 17 [AX.t 29], none⟩,
    ⟨some 28, AOp.mov (AX.t 30), none⟩,
    ⟨some 31, AOp.extract (AX.t 28) 0, none⟩,
    ⟨some 32, AOp.extract (AX.t 28) 1, none⟩,
    ⟨some 5, AOp.mov (AX.t 31), none⟩,
    ⟨some 6, AOp.mov (AX.t 32), none⟩] [1, 3, 4, 5, 6])
  (.seq
  (.region [] [⟨some 34, AOp.lit [AV.int (IntKind.i64) 0, AV.nils] [], none⟩,
    ⟨some 35, AOp.loadL true 5 (AX.t 1), none⟩,
    ⟨some 36, AOp.call 10 [AX.t 34, AX.t 35], none⟩,
    ⟨some 33, AOp.mov (AX.t 36), none⟩,
    ⟨some 37, AOp.extract (AX.t 33) 0, none⟩,
    ⟨some 38, AOp.extract (AX.t 33) 1, none⟩,
    ⟨some 7, AOp.allocL (AV.agg [AV.int (IntKind.i64) 0, AV.nils]), none⟩,
    ⟨some 8, AOp.allocL (AV.agg [AV.int (IntKind.i64) 0, AV.int (IntKind.i64) 0, AV.nils, AV.nils, AV.nils, AV.nils]), none⟩,
    ⟨none, AOp.store 2 (AX.t 7) (AX.t 37), none⟩,
    ⟨none, AOp.store 6 (AX.t 8) (AX.t 38), none⟩] [3, 4, 5, 6, 8])
  (.seq
  (.region [] [⟨some 39, AOp.mov (AX.t 3), none⟩,
    ⟨some 40, AOp.un (UnOp.not) (AX.t 39), none⟩,
    ⟨some 41, AOp.mov (AX.t 40), none⟩,
    ⟨some 42, AOp.mov (AX.t 5), some (41, true)⟩,
    ⟨some 43, AOp.pick (AX.t 41) (AX.t 42) (AX.c (AV.bool false)), none⟩,
    ⟨some 44, AOp.mov (AX.t 43), none⟩,
    ⟨some 45, AOp.mov (AX.t 4), some (44, true)⟩,
    ⟨some 46, AOp.bin (BinOp.eql) (AX.t 45) (AX.c (AV.int (IntKind.i64) 0)), some (44, true)⟩,
    ⟨some 47, AOp.pick (AX.t 44) (AX.t 46) (AX.c (AV.bool false)), none⟩,
    ⟨some 48, AOp.mov (AX.t 47), none⟩,
    ⟨some 49, AOp.mov (AX.t 6), some (48, true)⟩,
    ⟨some 50, AOp.bin (BinOp.eql) (AX.t 49) (AX.c (AV.int (IntKind.i64) 0)), some (48, true)⟩,
    ⟨some 51, AOp.pick (AX.t 48) (AX.t 50) (AX.c (AV.bool false)), none⟩,
    ⟨some 52, AOp.mov (AX.t 51), none⟩,
    ⟨some 53, AOp.fieldA 1 1 false (AX.t 8), some (52, true)⟩,
    ⟨some 54, AOp.loadL false 1 (AX.t 53), some (52, true)⟩,
    ⟨some 55, AOp.bin (BinOp.eql) (AX.t 54) (AX.c (AV.int (IntKind.i64) 1)), some (52, true)⟩,
    ⟨some 56, AOp.pick (AX.t 52) (AX.t 55) (AX.c (AV.bool false)), none⟩,
    ⟨some 57, AOp.mov (AX.t 56), none⟩,
    ⟨some 58, AOp.fieldA 0 1 false (AX.t 8), some (57, true)⟩,
    ⟨some 59, AOp.loadL false 1 (AX.t 58), some (57, true)⟩,
    ⟨some 60, AOp.bin (BinOp.eql) (AX.t 59) (AX.c (AV.int (IntKind.i64) 0)), some (57, true)⟩,
    ⟨some 61, AOp.pick (AX.t 57) (AX.t 60) (AX.c (AV.bool false)), none⟩,
    ⟨some 0, AOp.mov (AX.t 61), none⟩] [0])
  AC.ret))))))))⟩

/-- (silo/judge.Store).Do (checked) -/
def a10 : AF := ⟨[ARes.cell 4 true 2, ARes.cell 5 true 6],
  (.seq
  (.region [] [⟨some 2, AOp.boxL 2 (AX.t 0), none⟩,
    ⟨some 3, AOp.boxL 5 (AX.t 1), none⟩,
    ⟨some 4, AOp.allocL (AV.agg [AV.int (IntKind.i64) 0, AV.nils]), none⟩,
    ⟨some 5, AOp.allocL (AV.agg [AV.int (IntKind.i64) 0, AV.int (IntKind.i64) 0, AV.nils, AV.nils, AV.nils, AV.nils]), none⟩] [2, 3, 4, 5])
  (.seq
  (.seq
  (.region [] [⟨some 10, AOp.fieldA 0 1 false (AX.t 3), none⟩,
    ⟨some 11, AOp.loadL false 1 (AX.t 10), none⟩,
    ⟨some 12, AOp.bin (BinOp.eql) (AX.t 11) (AX.c (AV.int (IntKind.i64) 1)), none⟩] [2, 3, 4, 5, 12])
  (.cond (AX.t 12)
    (.seq
    (.region [] [⟨some 13, AOp.loadL true 2 (AX.t 2), none⟩,
      ⟨some 14, AOp.fieldA 4 1 false (AX.t 3), none⟩,
      ⟨some 15, AOp.loadL false 1 (AX.t 14), none⟩,
      ⟨some 16, AOp.call 18 [AX.t 13, AX.t 15], none⟩,
      ⟨some 17, AOp.extract (AX.t 16) 0, none⟩,
      ⟨some 18, AOp.extract (AX.t 16) 1, none⟩,
      ⟨none, AOp.store 2 (AX.t 4) (AX.t 17), none⟩,
      ⟨none, AOp.store 6 (AX.t 5) (AX.t 18), none⟩] [4, 5])
    AC.ret)
    AC.skip))
  (.seq
  (.seq
  (.region [] [⟨some 19, AOp.fieldA 0 1 false (AX.t 3), none⟩,
    ⟨some 20, AOp.loadL false 1 (AX.t 19), none⟩,
    ⟨some 21, AOp.bin (BinOp.eql) (AX.t 20) (AX.c (AV.int (IntKind.i64) 8)), none⟩] [2, 3, 4, 5, 21])
  (.cond (AX.t 21)
    (.seq
    (.region [] [⟨some 6, AOp.allocL (AV.agg [AV.int (IntKind.i64) 0, AV.int (IntKind.i64) 0, AV.nils, AV.nils, AV.nils, AV.nils]), none⟩] [2, 4, 5, 6])
    (.seq
    (.seq
    (.region [] [⟨some 22, AOp.fieldA 1 1 false (AX.t 2), none⟩,
      ⟨some 23, AOp.loadL false 1 (AX.t 22), none⟩,
      ⟨some 24, AOp.lenS (AX.t 23), none⟩,
      ⟨some 25, AOp.mov (AX.c (AV.int (IntKind.i64) 0)), none⟩] [2, 4, 5, 6, 23, 24, 25])
    (.block 0
      (.loop
        (.seq
        (.region [] [⟨some 26, AOp.bin (BinOp.lss) (AX.t 25) (AX.t 24), none⟩] [2, 4, 5, 6, 23, 24, 25, 26])
        (.seq
        (.cond (AX.t 26)
          AC.skip
          (.exit 0))
        (.seq
        (.block 1
          (.seq
          (.region [] [⟨some 27, AOp.indexS 4 (AX.t 23) (AX.t 25), none⟩,
            ⟨some 28, AOp.load true 4 (AX.t 27), none⟩,
            ⟨some 8, AOp.allocL (AV.agg [AV.int (IntKind.i64) 0, AV.bool false, AV.str [], AV.nils]), none⟩,
            ⟨none, AOp.store 4 (AX.t 8) (AX.t 28), none⟩] [2, 4, 5, 6, 8, 23, 24, 25])
          (.region [] [⟨some 29, AOp.fieldA 5 1 false (AX.t 6), none⟩,
            ⟨some 30, AOp.loadL false 1 (AX.t 29), none⟩,
            ⟨some 31, AOp.fieldA 0 1 false (AX.t 8), none⟩,
            ⟨some 32, AOp.loadL false 1 (AX.t 31), none⟩,
            ⟨some 33, AOp.litS false 1 (AV.int (IntKind.i64) 0) 1 [(0, AX.t 32)], none⟩,
            ⟨some 34, AOp.append true false 1 8 (AX.t 30) (AX.t 33), none⟩,
            ⟨some 35, AOp.fieldA 5 1 false (AX.t 6), none⟩,
            ⟨none, AOp.store 1 (AX.t 35) (AX.t 34), none⟩] [2, 4, 5, 6, 23, 24, 25])))
        (.region [] [⟨some 36, AOp.bin (BinOp.add) (AX.t 25) (AX.c (AV.int (IntKind.i64) 1)), none⟩,
          ⟨some 25, AOp.mov (AX.t 36), none⟩] [2, 4, 5, 6, 23, 24, 25])))))))
    (.seq
    (.regionA [[0, 2, 1, 3], [0, 1, 2, 3]] [⟨some 37, AOp.loadL true 2 (AX.t 2), none⟩,
      ⟨some 38, AOp.loadL true 6 (AX.t 6), none⟩,
      ⟨none, AOp.store 2 (AX.t 4) (AX.t 37), none⟩,
      ⟨none, AOp.store 6 (AX.t 5) (AX.t 38), none⟩] [4, 5])
    AC.ret)))
    AC.skip))
  (.seq
  (.region [] [⟨some 39, AOp.loadL true 2 (AX.t 2), none⟩,
    ⟨some 40, AOp.fieldA 1 1 false (AX.t 3), none⟩,
    ⟨some 41, AOp.loadL false 1 (AX.t 40), none⟩,
    ⟨some 42, AOp.call 19 [AX.t 39, AX.t 41], none⟩,
    ⟨some 9, AOp.mov (AX.t 42), none⟩] [2, 3, 4, 5, 9])
  (.seq
  (.block 2
    (.seq
    (.region [] [⟨some 44, AOp.fieldA 0 1 false (AX.t 3), none⟩,
      ⟨some 45, AOp.loadL false 1 (AX.t 44), none⟩,
      ⟨some 46, AOp.bin (BinOp.lss) (AX.t 45) (AX.c (AV.int (IntKind.i64) 1)), none⟩,
      ⟨some 47, AOp.mov (AX.t 46), none⟩,
      ⟨some 48, AOp.fieldA 0 1 false (AX.t 3), some (47, false)⟩,
      ⟨some 49, AOp.loadL false 1 (AX.t 48), some (47, false)⟩,
      ⟨some 50, AOp.bin (BinOp.gtr) (AX.t 49) (AX.c (AV.int (IntKind.i64) 8)), some (47, false)⟩,
      ⟨some 51, AOp.pick (AX.t 47) (AX.c (AV.bool true)) (AX.t 50), none⟩,
      ⟨some 43, AOp.mov (AX.t 51), none⟩] [2, 3, 4, 5, 9, 43])
    (.cond (AX.t 43)
      (.seq
      (.region [] [⟨some 52, AOp.loadL true 2 (AX.t 2), none⟩,
        ⟨some 53, AOp.lit [AV.int (IntKind.i64) 0, AV.int (IntKind.i64) 0, AV.nils, AV.nils, AV.nils, AV.nils] [(0, 1, AX.c (AV.int (IntKind.i64) 1))], none⟩,
        ⟨none, AOp.store 2 (AX.t 4) (AX.t 52), none⟩,
        ⟨none, AOp.store 6 (AX.t 5) (AX.t 53), none⟩] [4, 5])
      AC.ret)
      (.seq
      (.region [] [⟨some 55, AOp.mov (AX.t 9), none⟩,
        ⟨some 56, AOp.bin (BinOp.lss) (AX.t 55) (AX.c (AV.int (IntKind.i64) 0)), none⟩,
        ⟨some 54, AOp.mov (AX.t 56), none⟩] [2, 3, 4, 5, 9, 54])
      (.cond (AX.t 54)
        (.seq
        (.region [] [⟨some 57, AOp.loadL true 2 (AX.t 2), none⟩,
          ⟨some 58, AOp.lit [AV.int (IntKind.i64) 0, AV.int (IntKind.i64) 0, AV.nils, AV.nils, AV.nils, AV.nils] [(0, 1, AX.c (AV.int (IntKind.i64) 9))], none⟩,
          ⟨none, AOp.store 2 (AX.t 4) (AX.t 57), none⟩,
          ⟨none, AOp.store 6 (AX.t 5) (AX.t 58), none⟩] [4, 5])
        AC.ret)
        (.seq
        (.region [] [⟨some 60, AOp.fieldA 0 1 false (AX.t 3), none⟩,
          ⟨some 61, AOp.loadL false 1 (AX.t 60), none⟩,
          ⟨some 62, AOp.bin (BinOp.geq) (AX.t 61) (AX.c (AV.int (IntKind.i64) 5)), none⟩,
          ⟨some 59, AOp.mov (AX.t 62), none⟩] [2, 3, 4, 5, 9, 59])
        (.cond (AX.t 59)
          (.seq
          (.region [] [⟨some 63, AOp.loadL true 2 (AX.t 2), none⟩,
            ⟨some 64, AOp.fieldA 0 1 false (AX.t 3), none⟩,
            ⟨some 65, AOp.loadL false 1 (AX.t 64), none⟩,
            ⟨some 66, AOp.mov (AX.t 9), none⟩,
            ⟨some 67, AOp.call 20 [AX.t 63, AX.t 65, AX.t 66], none⟩,
            ⟨some 68, AOp.extract (AX.t 67) 0, none⟩,
            ⟨some 69, AOp.extract (AX.t 67) 1, none⟩,
            ⟨none, AOp.store 2 (AX.t 4) (AX.t 68), none⟩,
            ⟨none, AOp.store 6 (AX.t 5) (AX.t 69), none⟩] [4, 5])
          AC.ret)
          AC.skip)))))))
  (.seq
  (.region [0, 1, 2, 3, 4, 5, 6, 7, 8, 9, 10] [⟨some 70, AOp.loadL true 2 (AX.t 2), none⟩,
    ⟨some 71, AOp.loadL true 2 (AX.t 2), none⟩,
    ⟨some 72, AOp.loadL true 5 (AX.t 3), none⟩,
    ⟨some 73, AOp.fieldA 1 1 false (AX.t 2), none⟩,
    ⟨some 74, AOp.loadL false 1 (AX.t 73), none⟩,
    ⟨some 75, AOp.mov (AX.t 9), none⟩,
    ⟨some 76, AOp.indexS 4 (AX.t 74) (AX.t 75), none⟩,
    ⟨some 77, AOp.load true 4 (AX.t 76), none⟩,
    ⟨some 78, AOp.call 21 [AX.t 71, AX.t 72, AX.t 77], none⟩,
    ⟨none, AOp.store 2 (AX.t 4) (AX.t 70), none⟩,
    ⟨none, AOp.store 6 (AX.t 5) (AX.t 78), none⟩] [4, 5])
  AC.ret))))))⟩

/-- silo/siloref22.Same (checked) -/
def a12 : AF := ⟨[ARes.t 4],
  (.seq
  (.region [] [⟨some 2, AOp.boxL 6 (AX.t 0), none⟩,
    ⟨some 3, AOp.boxL 6 (AX.t 1), none⟩,
    ⟨some 4, AOp.mov (AX.c (AV.bool false)), none⟩] [2, 3])
  (.seq
  (.seq
  (.region [] [⟨some 7, AOp.fieldA 0 1 false (AX.t 2), none⟩,
    ⟨some 8, AOp.loadL false 1 (AX.t 7), none⟩,
    ⟨some 9, AOp.fieldA 0 1 false (AX.t 3), none⟩,
    ⟨some 10, AOp.loadL false 1 (AX.t 9), none⟩,
    ⟨some 11, AOp.bin (BinOp.neq) (AX.t 8) (AX.t 10), none⟩,
    ⟨some 12, AOp.mov (AX.t 11), none⟩,
    ⟨some 13, AOp.fieldA 1 1 false (AX.t 2), some (12, false)⟩,
    ⟨some 14, AOp.loadL false 1 (AX.t 13), some (12, false)⟩,
    ⟨some 15, AOp.fieldA 1 1 false (AX.t 3), some (12, false)⟩,
    ⟨some 16, AOp.loadL false 1 (AX.t 15), some (12, false)⟩,
    ⟨some 17, AOp.bin (BinOp.neq) (AX.t 14) (AX.t 16), some (12, false)⟩,
    ⟨some 18, AOp.pick (AX.t 12) (AX.c (AV.bool true)) (AX.t 17), none⟩,
    ⟨some 19, AOp.mov (AX.t 18), none⟩,
    ⟨some 20, AOp.fieldA 2 1 false (AX.t 2), some (19, false)⟩,
    ⟨some 21, AOp.loadL false 1 (AX.t 20), some (19, false)⟩,
    ⟨some 22, AOp.bytesToStr (AX.t 21), some (19, false)⟩,
    ⟨some 23, AOp.fieldA 2 1 false (AX.t 3), some (19, false)⟩,
    ⟨some 24, AOp.loadL false 1 (AX.t 23), some (19, false)⟩,
    ⟨some 25, AOp.bytesToStr (AX.t 24), some (19, false)⟩,
    ⟨some 26, AOp.bin (BinOp.neq) (AX.t 22) (AX.t 25), some (19, false)⟩,
    ⟨some 27, AOp.pick (AX.t 19) (AX.c (AV.bool true)) (AX.t 26), none⟩,
    ⟨some 28, AOp.mov (AX.t 27), none⟩,
    ⟨some 29, AOp.fieldA 3 1 false (AX.t 2), some (28, false)⟩,
    ⟨some 30, AOp.loadL false 1 (AX.t 29), some (28, false)⟩,
    ⟨some 31, AOp.lenS (AX.t 30), some (28, false)⟩,
    ⟨some 32, AOp.fieldA 3 1 false (AX.t 3), some (28, false)⟩,
    ⟨some 33, AOp.loadL false 1 (AX.t 32), some (28, false)⟩,
    ⟨some 34, AOp.lenS (AX.t 33), some (28, false)⟩,
    ⟨some 35, AOp.bin (BinOp.neq) (AX.t 31) (AX.t 34), some (28, false)⟩,
    ⟨some 36, AOp.pick (AX.t 28) (AX.c (AV.bool true)) (AX.t 35), none⟩,
    ⟨some 37, AOp.mov (AX.t 36), none⟩,
    ⟨some 38, AOp.fieldA 5 1 false (AX.t 2), some (37, false)⟩,
    ⟨some 39, AOp.loadL false 1 (AX.t 38), some (37, false)⟩,
    ⟨some 40, AOp.lenS (AX.t 39), some (37, false)⟩,
    ⟨some 41, AOp.fieldA 5 1 false (AX.t 3), some (37, false)⟩,
    ⟨some 42, AOp.loadL false 1 (AX.t 41), some (37, false)⟩,
    ⟨some 43, AOp.lenS (AX.t 42), some (37, false)⟩,
    ⟨some 44, AOp.bin (BinOp.neq) (AX.t 40) (AX.t 43), some (37, false)⟩,
    ⟨some 45, AOp.pick (AX.t 37) (AX.c (AV.bool true)) (AX.t 44), none⟩,
    ⟨some 46, AOp.mov (AX.t 45), none⟩,
    ⟨some 47, AOp.fieldA 4 1 false (AX.t 2), some (46, false)⟩,
    ⟨some 48, AOp.loadL false 1 (AX.t 47), some (46, false)⟩,
    ⟨some 49, AOp.fieldA 4 1 false (AX.t 3), some (46, false)⟩,
    ⟨some 50, AOp.loadL false 1 (AX.t 49), some (46, false)⟩,
    ⟨some 51, AOp.call 26 [AX.t 48, AX.t 50], some (46, false)⟩,
    ⟨some 52, AOp.un (UnOp.not) (AX.t 51), some (46, false)⟩,
    ⟨some 53, AOp.pick (AX.t 46) (AX.c (AV.bool true)) (AX.t 52), none⟩] [2, 3, 53])
  (.cond (AX.t 53)
    (.seq
    (.region [] [⟨some 4, AOp.mov (AX.c (AV.bool false)), none⟩] [4])
    AC.ret)
    AC.skip))
  (.seq
  (.seq
  (.region [] [⟨some 5, AOp.mov (AX.c (AV.int (IntKind.i64) 0)), none⟩] [2, 3, 5])
  (.block 0
    (.loop
      (.seq
      (.seq
      (.region [] [⟨some 54, AOp.mov (AX.t 5), none⟩,
        ⟨some 55, AOp.fieldA 3 1 false (AX.t 2), none⟩,
        ⟨some 56, AOp.loadL false 1 (AX.t 55), none⟩,
        ⟨some 57, AOp.lenS (AX.t 56), none⟩,
        ⟨some 58, AOp.bin (BinOp.lss) (AX.t 54) (AX.t 57), none⟩] [2, 3, 5, 58])
      (.cond (AX.t 58)
        AC.skip
        (.exit 0)))
      (.seq
      (.block 1
        (.seq
        (.region [0, 1, 2, 3, 4, 5, 6, 7, 8, 9, 10] [⟨some 61, AOp.fieldA 3 1 false (AX.t 2), none⟩,
          ⟨some 62, AOp.loadL false 1 (AX.t 61), none⟩,
          ⟨some 63, AOp.mov (AX.t 5), none⟩,
          ⟨some 64, AOp.indexS 1 (AX.t 62) (AX.t 63), none⟩,
          ⟨some 65, AOp.load false 1 (AX.t 64), none⟩,
          ⟨some 66, AOp.fieldA 3 1 false (AX.t 3), none⟩,
          ⟨some 67, AOp.loadL false 1 (AX.t 66), none⟩,
          ⟨some 68, AOp.mov (AX.t 5), none⟩,
          ⟨some 69, AOp.indexS 1 (AX.t 67) (AX.t 68), none⟩,
          ⟨some 70, AOp.load false 1 (AX.t 69), none⟩,
          ⟨some 71, AOp.bin (BinOp.neq) (AX.t 65) (AX.t 70), none⟩] [2, 3, 5, 71])
        (.cond (AX.t 71)
          (.seq
          (.region [] [⟨some 4, AOp.mov (AX.c (AV.bool false)), none⟩] [4])
          AC.ret)
          AC.skip)))
      (.region [] [⟨some 59, AOp.mov (AX.t 5), none⟩,
        ⟨some 60, AOp.bin (BinOp.add) (AX.t 59) (AX.c (AV.int (IntKind.i64) 1)), none⟩,
        ⟨some 5, AOp.mov (AX.t 60), none⟩] [2, 3, 5]))))))
  (.seq
  (.seq
  (.region [] [⟨some 6, AOp.mov (AX.c (AV.int (IntKind.i64) 0)), none⟩] [2, 3, 6])
  (.block 2
    (.loop
      (.seq
      (.seq
      (.region [] [⟨some 72, AOp.mov (AX.t 6), none⟩,
        ⟨some 73, AOp.fieldA 5 1 false (AX.t 2), none⟩,
        ⟨some 74, AOp.loadL false 1 (AX.t 73), none⟩,
        ⟨some 75, AOp.lenS (AX.t 74), none⟩,
        ⟨some 76, AOp.bin (BinOp.lss) (AX.t 72) (AX.t 75), none⟩] [2, 3, 6, 76])
      (.cond (AX.t 76)
        AC.skip
        (.exit 2)))
      (.seq
      (.block 3
        (.seq
        (.region [0, 1, 2, 3, 4, 5, 6, 7, 8, 9, 10] [⟨some 79, AOp.fieldA 5 1 false (AX.t 2), none⟩,
          ⟨some 80, AOp.loadL false 1 (AX.t 79), none⟩,
          ⟨some 81, AOp.mov (AX.t 6), none⟩,
          ⟨some 82, AOp.indexS 1 (AX.t 80) (AX.t 81), none⟩,
          ⟨some 83, AOp.load false 1 (AX.t 82), none⟩,
          ⟨some 84, AOp.fieldA 5 1 false (AX.t 3), none⟩,
          ⟨some 85, AOp.loadL false 1 (AX.t 84), none⟩,
          ⟨some 86, AOp.mov (AX.t 6), none⟩,
          ⟨some 87, AOp.indexS 1 (AX.t 85) (AX.t 86), none⟩,
          ⟨some 88, AOp.load false 1 (AX.t 87), none⟩,
          ⟨some 89, AOp.bin (BinOp.neq) (AX.t 83) (AX.t 88), none⟩] [2, 3, 6, 89])
        (.cond (AX.t 89)
          (.seq
          (.region [] [⟨some 4, AOp.mov (AX.c (AV.bool false)), none⟩] [4])
          AC.ret)
          AC.skip)))
      (.region [] [⟨some 77, AOp.mov (AX.t 6), none⟩,
        ⟨some 78, AOp.bin (BinOp.add) (AX.t 77) (AX.c (AV.int (IntKind.i64) 1)), none⟩,
        ⟨some 6, AOp.mov (AX.t 78), none⟩] [2, 3, 6]))))))
  (.seq
  (.region [] [⟨some 4, AOp.mov (AX.c (AV.bool true)), none⟩] [4])
  AC.ret)))))⟩

/-- silo/judge.Same (checked) -/
def a13 : AF := ⟨[ARes.t 4],
  (.seq
  (.region [] [⟨some 2, AOp.boxL 6 (AX.t 0), none⟩,
    ⟨some 3, AOp.boxL 6 (AX.t 1), none⟩,
    ⟨some 4, AOp.mov (AX.c (AV.bool false)), none⟩] [2, 3])
  (.seq
  (.region [] [⟨some 5, AOp.fieldA 0 1 false (AX.t 2), none⟩,
    ⟨some 6, AOp.loadL false 1 (AX.t 5), none⟩,
    ⟨some 7, AOp.fieldA 0 1 false (AX.t 3), none⟩,
    ⟨some 8, AOp.loadL false 1 (AX.t 7), none⟩,
    ⟨some 9, AOp.bin (BinOp.eql) (AX.t 6) (AX.t 8), none⟩,
    ⟨some 10, AOp.mov (AX.t 9), none⟩,
    ⟨some 11, AOp.fieldA 1 1 false (AX.t 2), some (10, true)⟩,
    ⟨some 12, AOp.loadL false 1 (AX.t 11), some (10, true)⟩,
    ⟨some 13, AOp.fieldA 1 1 false (AX.t 3), some (10, true)⟩,
    ⟨some 14, AOp.loadL false 1 (AX.t 13), some (10, true)⟩,
    ⟨some 15, AOp.bin (BinOp.eql) (AX.t 12) (AX.t 14), some (10, true)⟩,
    ⟨some 16, AOp.pick (AX.t 10) (AX.t 15) (AX.c (AV.bool false)), none⟩,
    ⟨some 17, AOp.mov (AX.t 16), none⟩,
    ⟨some 18, AOp.fieldA 2 1 false (AX.t 2), some (17, true)⟩,
    ⟨some 19, AOp.loadL false 1 (AX.t 18), some (17, true)⟩,
    ⟨some 20, AOp.fieldA 2 1 false (AX.t 3), some (17, true)⟩,
    ⟨some 21, AOp.loadL false 1 (AX.t 20), some (17, true)⟩,
    ⟨some 22, AOp.call 27 [AX.t 19, AX.t 21], some (17, true)⟩,
    ⟨some 23, AOp.pick (AX.t 17) (AX.t 22) (AX.c (AV.bool false)), none⟩,
    ⟨some 24, AOp.mov (AX.t 23), none⟩,
    ⟨some 25, AOp.fieldA 3 1 false (AX.t 2), some (24, true)⟩,
    ⟨some 26, AOp.loadL false 1 (AX.t 25), some (24, true)⟩,
    ⟨some 27, AOp.fieldA 3 1 false (AX.t 3), some (24, true)⟩,
    ⟨some 28, AOp.loadL false 1 (AX.t 27), some (24, true)⟩,
    ⟨some 29, AOp.call 28 [AX.t 26, AX.t 28], some (24, true)⟩,
    ⟨some 30, AOp.pick (AX.t 24) (AX.t 29) (AX.c (AV.bool false)), none⟩,
    ⟨some 31, AOp.mov (AX.t 30), none⟩,
    ⟨some 32, AOp.fieldA 4 1 false (AX.t 2), some (31, true)⟩,
    ⟨some 33, AOp.loadL false 1 (AX.t 32), some (31, true)⟩,
    ⟨some 34, AOp.fieldA 4 1 false (AX.t 3), some (31, true)⟩,
    ⟨some 35, AOp.loadL false 1 (AX.t 34), some (31, true)⟩,
    ⟨some 36, AOp.call 29 [AX.t 33, AX.t 35], some (31, true)⟩,
    ⟨some 37, AOp.pick (AX.t 31) (AX.t 36) (AX.c (AV.bool false)), none⟩,
    ⟨some 38, AOp.mov (AX.t 37), none⟩,
    ⟨some 39, AOp.fieldA 5 1 false (AX.t 2), some (38, true)⟩,
    ⟨some 40, AOp.loadL false 1 (AX.t 39), some (38, true)⟩,
    ⟨some 41, AOp.fieldA 5 1 false (AX.t 3), some (38, true)⟩,
    ⟨some 42, AOp.loadL false 1 (AX.t 41), some (38, true)⟩,
    ⟨some 43, AOp.call 30 [AX.t 40, AX.t 42], some (38, true)⟩,
    ⟨some 44, AOp.pick (AX.t 38) (AX.t 43) (AX.c (AV.bool false)), none⟩,
    ⟨some 4, AOp.mov (AX.t 44), none⟩] [4])
  AC.ret))⟩

/-- silo/judge.None (checked) -/
def a14 : AF := ⟨[ARes.t 4],
  (.seq
  (.region [] [⟨some 2, AOp.boxL 5 (AX.t 0), none⟩,
    ⟨some 3, AOp.boxL 6 (AX.t 1), none⟩,
    ⟨some 4, AOp.mov (AX.c (AV.bool false)), none⟩] [2, 3])
  (.seq
  (.region [] [⟨some 6, AOp.fieldA 0 1 false (AX.t 2), none⟩,
    ⟨some 7, AOp.loadL false 1 (AX.t 6), none⟩,
    ⟨some 8, AOp.bin (BinOp.eql) (AX.t 7) (AX.c (AV.int (IntKind.i64) 1)), none⟩,
    ⟨some 9, AOp.mov (AX.t 8), none⟩,
    ⟨some 10, AOp.fieldA 0 1 false (AX.t 2), some (9, false)⟩,
    ⟨some 11, AOp.loadL false 1 (AX.t 10), some (9, false)⟩,
    ⟨some 12, AOp.bin (BinOp.eql) (AX.t 11) (AX.c (AV.int (IntKind.i64) 5)), some (9, false)⟩,
    ⟨some 13, AOp.pick (AX.t 9) (AX.c (AV.bool true)) (AX.t 12), none⟩,
    ⟨some 14, AOp.mov (AX.t 13), none⟩,
    ⟨some 15, AOp.fieldA 0 1 false (AX.t 2), some (14, false)⟩,
    ⟨some 16, AOp.loadL false 1 (AX.t 15), some (14, false)⟩,
    ⟨some 17, AOp.bin (BinOp.eql) (AX.t 16) (AX.c (AV.int (IntKind.i64) 6)), some (14, false)⟩,
    ⟨some 18, AOp.pick (AX.t 14) (AX.c (AV.bool true)) (AX.t 17), none⟩,
    ⟨some 19, AOp.mov (AX.t 18), none⟩,
    ⟨some 20, AOp.fieldA 0 1 false (AX.t 2), some (19, false)⟩,
    ⟨some 21, AOp.loadL false 1 (AX.t 20), some (19, false)⟩,
    ⟨some 22, AOp.bin (BinOp.eql) (AX.t 21) (AX.c (AV.int (IntKind.i64) 7)), some (19, false)⟩,
    ⟨some 23, AOp.pick (AX.t 19) (AX.c (AV.bool true)) (AX.t 22), none⟩,
    ⟨some 5, AOp.mov (AX.t 23), none⟩] [3, 5])
  (.seq
  (.region [] [⟨some 24, AOp.mov (AX.t 5), none⟩,
    ⟨some 25, AOp.mov (AX.t 24), none⟩,
    ⟨some 26, AOp.loadL true 6 (AX.t 3), some (25, true)⟩,
    ⟨some 27, AOp.lit [AV.int (IntKind.i64) 0, AV.int (IntKind.i64) 0, AV.nils, AV.nils, AV.nils, AV.nils] [(0, 1, AX.c (AV.int (IntKind.i64) 7))], some (25, true)⟩,
    ⟨some 28, AOp.call 13 [AX.t 26, AX.t 27], some (25, true)⟩,
    ⟨some 29, AOp.pick (AX.t 25) (AX.t 28) (AX.c (AV.bool false)), none⟩,
    ⟨some 4, AOp.mov (AX.t 29), none⟩] [4])
  AC.ret)))⟩

/-- silo/siloref22.None (checked) -/
def a15 : AF := ⟨[ARes.t 4],
  (.seq
  (.region [] [⟨some 2, AOp.boxL 5 (AX.t 0), none⟩,
    ⟨some 3, AOp.boxL 6 (AX.t 1), none⟩,
    ⟨some 4, AOp.mov (AX.c (AV.bool false)), none⟩] [2, 3])
  (.seq
  (.region [] [⟨some 5, AOp.fieldA 0 1 false (AX.t 2), none⟩,
    ⟨some 6, AOp.loadL false 1 (AX.t 5), none⟩,
    ⟨some 7, AOp.bin (BinOp.eql) (AX.t 6) (AX.c (AV.int (IntKind.i64) 1)), none⟩,
    ⟨some 8, AOp.mov (AX.t 7), none⟩,
    ⟨some 9, AOp.fieldA 0 1 false (AX.t 2), some (8, false)⟩,
    ⟨some 10, AOp.loadL false 1 (AX.t 9), some (8, false)⟩,
    ⟨some 11, AOp.bin (BinOp.eql) (AX.t 10) (AX.c (AV.int (IntKind.i64) 5)), some (8, false)⟩,
    ⟨some 12, AOp.pick (AX.t 8) (AX.c (AV.bool true)) (AX.t 11), none⟩,
    ⟨some 13, AOp.mov (AX.t 12), none⟩,
    ⟨some 14, AOp.fieldA 0 1 false (AX.t 2), some (13, false)⟩,
    ⟨some 15, AOp.loadL false 1 (AX.t 14), some (13, false)⟩,
    ⟨some 16, AOp.bin (BinOp.eql) (AX.t 15) (AX.c (AV.int (IntKind.i64) 6)), some (13, false)⟩,
    ⟨some 17, AOp.pick (AX.t 13) (AX.c (AV.bool true)) (AX.t 16), none⟩,
    ⟨some 18, AOp.mov (AX.t 17), none⟩,
    ⟨some 19, AOp.fieldA 0 1 false (AX.t 2), some (18, false)⟩,
    ⟨some 20, AOp.loadL false 1 (AX.t 19), some (18, false)⟩,
    ⟨some 21, AOp.bin (BinOp.eql) (AX.t 20) (AX.c (AV.int (IntKind.i64) 7)), some (18, false)⟩,
    ⟨some 22, AOp.pick (AX.t 18) (AX.c (AV.bool true)) (AX.t 21), none⟩,
    ⟨some 23, AOp.mov (AX.t 22), none⟩,
    ⟨some 24, AOp.loadL true 6 (AX.t 3), some (23, true)⟩,
    ⟨some 25, AOp.lit [AV.int (IntKind.i64) 0, AV.int (IntKind.i64) 0, AV.nils, AV.nils, AV.nils, AV.nils] [(0, 1, AX.c (AV.int (IntKind.i64) 7))], some (23, true)⟩,
    ⟨some 26, AOp.call 12 [AX.t 24, AX.t 25], some (23, true)⟩,
    ⟨some 27, AOp.pick (AX.t 23) (AX.t 26) (AX.c (AV.bool false)), none⟩,
    ⟨some 4, AOp.mov (AX.t 27), none⟩] [4])
  AC.ret))⟩

/-- silo/judge.Linear (checked) -/
def a17 : AF := ⟨[ARes.t 2, ARes.t 3],
  (.seq
  (.region [] [⟨some 2, AOp.mov (AX.c (AV.bool false)), none⟩,
    ⟨some 3, AOp.mov (AX.c (AV.int (IntKind.i64) 0)), none⟩] [0])
  (.seq
  (.seq
  (.region [] [⟨some 9, AOp.mov (AX.t 0), none⟩,
    ⟨some 10, AOp.call 32 [AX.t 9], none⟩,
    ⟨some 4, AOp.mov (AX.t 10), none⟩] [0, 4])
  (.seq
  (.region [] [⟨some 11, AOp.mov (AX.t 4), none⟩,
    ⟨some 12, AOp.bin (BinOp.neq) (AX.t 11) (AX.c (AV.int (IntKind.i64) 0)), none⟩] [0, 4, 12])
  (.cond (AX.t 12)
    (.seq
    (.region [] [⟨some 13, AOp.mov (AX.t 4), none⟩,
      ⟨some 2, AOp.mov (AX.c (AV.bool false)), none⟩,
      ⟨some 3, AOp.mov (AX.t 13), none⟩] [2, 3])
    AC.ret)
    AC.skip)))
  (.seq
  (.region [] [⟨some 14, AOp.mkSlice true 10 40 (AV.agg [AV.int (IntKind.i64) 0, AV.nils, AV.bool false, AV.bool false, AV.bool false, AV.bool false, AV.bool false, AV.bool false, AV.bool false, AV.bool false]) (AX.c (AV.int (IntKind.i64) 1)) (AX.c (AV.int (IntKind.i64) 1)), none⟩,
    ⟨some 15, AOp.mkMap, none⟩,
    ⟨some 16, AOp.lit [AV.nils, AV.nilp, AV.nilp, AV.nilp, AV.nilp, AV.nilp, AV.nilp, AV.nilp, AV.nilp, AV.nilm] [(0, 1, AX.t 14), (9, 1, AX.t 15)], none⟩,
    ⟨some 17, AOp.boxH 10 (AX.t 16), none⟩,
    ⟨some 5, AOp.mov (AX.t 17), none⟩] [0, 5])
  (.seq
  (.seq
  (.region [] [⟨some 18, AOp.mov (AX.t 0), none⟩,
    ⟨some 19, AOp.lenS (AX.t 18), none⟩,
    ⟨some 20, AOp.mov (AX.c (AV.int (IntKind.i64) 0)), none⟩] [0, 5, 18, 19, 20])
  (.block 0
    (.loop
      (.seq
      (.region [] [⟨some 21, AOp.bin (BinOp.lss) (AX.t 20) (AX.t 19), none⟩] [0, 5, 18, 19, 20, 21])
      (.seq
      (.cond (AX.t 21)
        AC.skip
        (.exit 0))
      (.seq
      (.block 1
        (.seq
        (.region [] [⟨some 22, AOp.mov (AX.t 20), none⟩,
          ⟨some 23, AOp.indexS 13 (AX.t 18) (AX.t 20), none⟩,
          ⟨some 24, AOp.load true 13 (AX.t 23), none⟩,
          ⟨some 7, AOp.allocL (AV.agg [AV.int (IntKind.i64) 0, AV.bool false, AV.int (IntKind.i64) 0, AV.int (IntKind.i64) 0, AV.int (IntKind.i64) 0, AV.str [], AV.nils, AV.int (IntKind.i64) 0, AV.int (IntKind.i64) 0, AV.nils, AV.nils, AV.nils, AV.nils]), none⟩,
          ⟨some 6, AOp.mov (AX.t 22), none⟩,
          ⟨none, AOp.store 13 (AX.t 7) (AX.t 24), none⟩] [0, 5, 6, 7, 18, 19, 20])
        (.seq
        (.block 2
          (.seq
          (.region [] [⟨some 32, AOp.fieldA 0 1 false (AX.t 7), none⟩,
            ⟨some 33, AOp.loadL false 1 (AX.t 32), none⟩,
            ⟨some 34, AOp.bin (BinOp.lss) (AX.t 33) (AX.c (AV.int (IntKind.i64) 0)), none⟩,
            ⟨some 31, AOp.mov (AX.t 34), none⟩] [0, 5, 6, 7, 18, 19, 20, 31])
          (.cond (AX.t 31)
            (.seq
            (.region [] [⟨some 35, AOp.mov (AX.t 5), none⟩,
              ⟨some 36, AOp.call 33 [AX.t 35], none⟩] [0, 5, 18, 19, 20])
            (.seq
            (.region [] [⟨some 37, AOp.mov (AX.t 5), none⟩,
              ⟨some 38, AOp.lit [AV.nilp, AV.nilp, AV.nilp, AV.nilp, AV.nilp, AV.nilp, AV.nilp, AV.nilp] [], none⟩,
              ⟨some 39, AOp.nilCheck (AX.t 37), none⟩,
              ⟨some 40, AOp.fieldA 1 8 true (AX.t 39), none⟩,
              ⟨none, AOp.store 8 (AX.t 40) (AX.t 38), none⟩] [0, 5, 18, 19, 20])
            (.seq
            (.seq
            (.region [] [⟨some 41, AOp.mov (AX.t 5), none⟩,
              ⟨some 42, AOp.nilCheck (AX.t 41), none⟩,
              ⟨some 43, AOp.fieldA 0 1 false (AX.t 42), none⟩,
              ⟨some 44, AOp.load false 1 (AX.t 43), none⟩,
              ⟨some 45, AOp.lenS (AX.t 44), none⟩,
              ⟨some 46, AOp.mov (AX.c (AV.int (IntKind.i64) 0)), none⟩] [0, 5, 18, 19, 20, 45, 46])
            (.block 3
              (.loop
                (.seq
                (.region [] [⟨some 47, AOp.bin (BinOp.lss) (AX.t 46) (AX.t 45), none⟩] [0, 5, 18, 19, 20, 45, 46, 47])
                (.seq
                (.cond (AX.t 47)
                  AC.skip
                  (.exit 3))
                (.seq
                (.block 4
                  (.seq
                  (.region [] [⟨some 48, AOp.mov (AX.t 46), none⟩,
                    ⟨some 8, AOp.mov (AX.t 48), none⟩] [0, 5, 8, 18, 19, 20, 45, 46])
                  (.region [] [⟨some 49, AOp.mov (AX.t 5), none⟩,
                    ⟨some 50, AOp.nilCheck (AX.t 49), none⟩,
                    ⟨some 51, AOp.fieldA 0 1 false (AX.t 50), none⟩,
                    ⟨some 52, AOp.load false 1 (AX.t 51), none⟩,
                    ⟨some 53, AOp.mov (AX.t 8), none⟩,
                    ⟨some 54, AOp.lit [AV.bool false, AV.bool false, AV.bool false, AV.bool false, AV.bool false, AV.bool false, AV.bool false, AV.bool false] [], none⟩,
                    ⟨some 55, AOp.indexS 10 (AX.t 52) (AX.t 53), none⟩,
                    ⟨some 56, AOp.fieldA 2 8 true (AX.t 55), none⟩,
                    ⟨none, AOp.store 8 (AX.t 56) (AX.t 54), none⟩] [0, 5, 18, 19, 20, 45, 46])))
                (.region [] [⟨some 57, AOp.bin (BinOp.add) (AX.t 46) (AX.c (AV.int (IntKind.i64) 1)), none⟩,
                  ⟨some 46, AOp.mov (AX.t 57), none⟩] [0, 5, 18, 19, 20, 45, 46])))))))
            (.region [] [⟨some 58, AOp.mov (AX.t 5), none⟩,
              ⟨some 59, AOp.call 34 [AX.t 58], none⟩] [0, 5, 18, 19, 20]))))
            (.seq
            (.region [] [⟨some 61, AOp.fieldA 1 1 false (AX.t 7), none⟩,
              ⟨some 62, AOp.loadL false 1 (AX.t 61), none⟩,
              ⟨some 63, AOp.un (UnOp.not) (AX.t 62), none⟩,
              ⟨some 60, AOp.mov (AX.t 63), none⟩] [0, 5, 6, 7, 18, 19, 20, 60])
            (.cond (AX.t 60)
              (.region [0, 1, 2, 3, 4, 5, 7, 8, 6, 9, 10] [⟨some 64, AOp.mov (AX.t 5), none⟩,
                ⟨some 65, AOp.fieldA 0 1 false (AX.t 7), none⟩,
                ⟨some 66, AOp.loadL false 1 (AX.t 65), none⟩,
                ⟨some 67, AOp.mov (AX.t 0), none⟩,
                ⟨some 68, AOp.mov (AX.t 6), none⟩,
                ⟨some 69, AOp.slice (some 13) (AX.t 67) (some (AX.t 68)) none none, none⟩,
                ⟨some 71, AOp.nilCheck (AX.t 64), none⟩,
                ⟨some 72, AOp.fieldA 1 8 true (AX.t 71), none⟩,
                ⟨some 70, AOp.call 35 [AX.t 69], none⟩,
                ⟨some 73, AOp.indexA 8 1 false (AX.t 72) (AX.t 66), none⟩,
                ⟨none, AOp.store 1 (AX.t 73) (AX.t 70), none⟩] [0, 5, 18, 19, 20])
              (.seq
              (.region [] [⟨some 25, AOp.mov (AX.t 5), none⟩,
                ⟨some 26, AOp.call 33 [AX.t 25], none⟩] [0, 5, 7, 18, 19, 20])
              (.region [] [⟨some 27, AOp.mov (AX.t 5), none⟩,
                ⟨some 28, AOp.fieldA 0 1 false (AX.t 7), none⟩,
                ⟨some 29, AOp.loadL false 1 (AX.t 28), none⟩,
                ⟨some 30, AOp.call 36 [AX.t 27, AX.t 29], none⟩] [0, 5, 18, 19, 20])))))))
        (.seq
        (.region [] [⟨some 74, AOp.mov (AX.t 5), none⟩,
          ⟨some 75, AOp.nilCheck (AX.t 74), none⟩,
          ⟨some 76, AOp.fieldA 0 1 false (AX.t 75), none⟩,
          ⟨some 77, AOp.load false 1 (AX.t 76), none⟩,
          ⟨some 78, AOp.lenS (AX.t 77), none⟩,
          ⟨some 79, AOp.bin (BinOp.eql) (AX.t 78) (AX.c (AV.int (IntKind.i64) 0)), none⟩] [0, 5, 18, 19, 20, 79])
        (.cond (AX.t 79)
          (.seq
          (.region [] [⟨some 2, AOp.mov (AX.c (AV.bool false)), none⟩,
            ⟨some 3, AOp.mov (AX.c (AV.int (IntKind.i64) 0)), none⟩] [2, 3])
          AC.ret)
          AC.skip)))))
      (.region [] [⟨some 80, AOp.bin (BinOp.add) (AX.t 20) (AX.c (AV.int (IntKind.i64) 1)), none⟩,
        ⟨some 20, AOp.mov (AX.t 80), none⟩] [0, 5, 18, 19, 20])))))))
  (.seq
  (.region [] [⟨some 2, AOp.mov (AX.c (AV.bool true)), none⟩,
    ⟨some 3, AOp.mov (AX.c (AV.int (IntKind.i64) 0)), none⟩] [2, 3])
  AC.ret)))))⟩

/-- (silo/judge.Store).commit (checked) -/
def a18 : AF := ⟨[ARes.cell 4 true 2, ARes.cell 5 true 6],
  (.seq
  (.region [] [⟨some 2, AOp.boxL 2 (AX.t 0), none⟩,
    ⟨some 4, AOp.allocL (AV.agg [AV.int (IntKind.i64) 0, AV.nils]), none⟩,
    ⟨some 5, AOp.allocL (AV.agg [AV.int (IntKind.i64) 0, AV.int (IntKind.i64) 0, AV.nils, AV.nils, AV.nils, AV.nils]), none⟩] [1, 2, 4, 5])
  (.seq
  (.seq
  (.region [] [⟨some 11, AOp.mov (AX.t 1), none⟩,
    ⟨some 12, AOp.call 37 [AX.t 11], none⟩,
    ⟨some 6, AOp.mov (AX.t 12), none⟩] [1, 2, 4, 5, 6])
  (.seq
  (.region [] [⟨some 13, AOp.mov (AX.t 6), none⟩,
    ⟨some 14, AOp.bin (BinOp.neq) (AX.t 13) (AX.c (AV.int (IntKind.i64) 0)), none⟩] [1, 2, 4, 5, 6, 14])
  (.cond (AX.t 14)
    (.seq
    (.region [] [⟨some 15, AOp.loadL true 2 (AX.t 2), none⟩,
      ⟨some 16, AOp.mov (AX.t 6), none⟩,
      ⟨some 17, AOp.lit [AV.int (IntKind.i64) 0, AV.int (IntKind.i64) 0, AV.nils, AV.nils, AV.nils, AV.nils] [(0, 1, AX.t 16)], none⟩,
      ⟨none, AOp.store 2 (AX.t 4) (AX.t 15), none⟩,
      ⟨none, AOp.store 6 (AX.t 5) (AX.t 17), none⟩] [4, 5])
    AC.ret)
    AC.skip)))
  (.seq
  (.region [] [⟨some 18, AOp.fieldA 0 1 false (AX.t 2), none⟩,
    ⟨some 19, AOp.loadL false 1 (AX.t 18), none⟩,
    ⟨some 20, AOp.bin (BinOp.add) (AX.t 19) (AX.c (AV.int (IntKind.i64) 1)), none⟩,
    ⟨some 21, AOp.lit [AV.int (IntKind.i64) 0, AV.bool false, AV.str [], AV.nils] [(0, 1, AX.t 20)], none⟩,
    ⟨some 7, AOp.allocL (AV.agg [AV.int (IntKind.i64) 0, AV.bool false, AV.str [], AV.nils]), none⟩,
    ⟨none, AOp.store 4 (AX.t 7) (AX.t 21), none⟩] [1, 2, 4, 5, 7])
  (.seq
  (.seq
  (.region [] [⟨some 22, AOp.mov (AX.t 1), none⟩,
    ⟨some 23, AOp.lenS (AX.t 22), none⟩,
    ⟨some 24, AOp.mov (AX.c (AV.int (IntKind.i64) 0)), none⟩] [2, 4, 5, 7, 22, 23, 24])
  (.block 0
    (.loop
      (.seq
      (.region [] [⟨some 25, AOp.bin (BinOp.lss) (AX.t 24) (AX.t 23), none⟩] [2, 4, 5, 7, 22, 23, 24, 25])
      (.seq
      (.cond (AX.t 25)
        AC.skip
        (.exit 0))
      (.seq
      (.block 1
        (.seq
        (.region [] [⟨some 26, AOp.indexS 2 (AX.t 22) (AX.t 24), none⟩,
          ⟨some 27, AOp.load true 2 (AX.t 26), none⟩,
          ⟨some 9, AOp.allocL (AV.agg [AV.str [], AV.nils]), none⟩,
          ⟨none, AOp.store 2 (AX.t 9) (AX.t 27), none⟩] [2, 4, 5, 7, 9, 22, 23, 24])
        (.region [0, 1, 2, 3, 4, 5, 6, 7, 8, 9, 10, 11] [⟨some 28, AOp.fieldA 3 1 false (AX.t 7), none⟩,
          ⟨some 29, AOp.loadL false 1 (AX.t 28), none⟩,
          ⟨some 30, AOp.fieldA 0 1 false (AX.t 9), none⟩,
          ⟨some 31, AOp.loadL false 1 (AX.t 30), none⟩,
          ⟨some 32, AOp.fieldA 1 1 false (AX.t 9), none⟩,
          ⟨some 33, AOp.loadL false 1 (AX.t 32), none⟩,
          ⟨some 34, AOp.call 38 [AX.t 33], none⟩,
          ⟨some 35, AOp.lit [AV.str [], AV.nils] [(0, 1, AX.t 31), (1, 1, AX.t 34)], none⟩,
          ⟨some 36, AOp.litS false 2 (AV.agg [AV.str [], AV.nils]) 1 [(0, AX.t 35)], none⟩,
          ⟨some 37, AOp.append true false 2 40 (AX.t 29) (AX.t 36), none⟩,
          ⟨some 38, AOp.fieldA 3 1 false (AX.t 7), none⟩,
          ⟨none, AOp.store 1 (AX.t 38) (AX.t 37), none⟩] [2, 4, 5, 7, 22, 23, 24])))
      (.region [] [⟨some 39, AOp.bin (BinOp.add) (AX.t 24) (AX.c (AV.int (IntKind.i64) 1)), none⟩,
        ⟨some 24, AOp.mov (AX.t 39), none⟩] [2, 4, 5, 7, 22, 23, 24])))))))
  (.seq
  (.region [] [⟨some 40, AOp.fieldA 3 1 false (AX.t 7), none⟩,
    ⟨some 41, AOp.loadL false 1 (AX.t 40), none⟩,
    ⟨some 42, AOp.call 39 [AX.t 41, AX.c (AV.fn (Fn.func 40) [] [])], none⟩] [2, 4, 5, 7])
  (.seq
  (.region [] [⟨some 43, AOp.call 42 [], none⟩,
    ⟨some 10, AOp.mov (AX.t 43), none⟩] [2, 4, 5, 7, 10])
  (.seq
  (.region [] [⟨some 44, AOp.mov (AX.t 10), none⟩,
    ⟨some 45, AOp.fieldA 3 1 false (AX.t 7), none⟩,
    ⟨some 46, AOp.loadL false 1 (AX.t 45), none⟩,
    ⟨some 47, AOp.call 43 [AX.t 44, AX.t 46, AX.c (AV.fn (Fn.func 44) [] [])], none⟩] [2, 4, 5, 7, 10])
  (.seq
  (.region [] [⟨some 48, AOp.mov (AX.t 10), none⟩,
    ⟨some 49, AOp.call 46 [AX.t 48], none⟩,
    ⟨some 50, AOp.fieldA 2 1 false (AX.t 7), none⟩,
    ⟨none, AOp.store 1 (AX.t 50) (AX.t 49), none⟩] [2, 4, 5, 7])
  (.seq
  (.regionA [[0, 1, 2, 3, 5, 6, 9, 4, 7, 8, 12, 10, 11, 13], [0, 1, 2, 3, 5, 6, 9, 10, 11, 4, 7, 8, 12, 13]] [⟨some 51, AOp.fieldA 0 1 false (AX.t 7), none⟩,
    ⟨some 52, AOp.loadL false 1 (AX.t 51), none⟩,
    ⟨some 53, AOp.fieldA 1 1 false (AX.t 2), none⟩,
    ⟨some 54, AOp.loadL false 1 (AX.t 53), none⟩,
    ⟨some 55, AOp.call 47 [AX.t 54], none⟩,
    ⟨some 56, AOp.loadL true 4 (AX.t 7), none⟩,
    ⟨some 57, AOp.litS false 4 (AV.agg [AV.int (IntKind.i64) 0, AV.bool false, AV.str [], AV.nils]) 1 [(0, AX.t 56)], none⟩,
    ⟨some 58, AOp.append true false 4 56 (AX.t 55) (AX.t 57), none⟩,
    ⟨some 59, AOp.lit [AV.int (IntKind.i64) 0, AV.nils] [(0, 1, AX.t 52), (1, 1, AX.t 58)], none⟩,
    ⟨some 60, AOp.fieldA 0 1 false (AX.t 7), none⟩,
    ⟨some 61, AOp.loadL false 1 (AX.t 60), none⟩,
    ⟨some 62, AOp.lit [AV.int (IntKind.i64) 0, AV.int (IntKind.i64) 0, AV.nils, AV.nils, AV.nils, AV.nils] [(1, 1, AX.t 61)], none⟩,
    ⟨none, AOp.store 2 (AX.t 4) (AX.t 59), none⟩,
    ⟨none, AOp.store 6 (AX.t 5) (AX.t 62), none⟩] [4, 5])
  AC.ret)))))))))⟩

/-- (silo/judge.Store).find (checked) -/
def a19 : AF := ⟨[ARes.t 4],
  (.seq
  (.region [] [⟨some 2, AOp.boxL 2 (AX.t 0), none⟩,
    ⟨some 3, AOp.boxH 1 (AX.t 1), none⟩,
    ⟨some 4, AOp.mov (AX.c (AV.int (IntKind.i64) 0)), none⟩] [2, 3])
  (.seq
  (.region [] [⟨some 5, AOp.fieldA 1 1 false (AX.t 2), none⟩,
    ⟨some 6, AOp.loadL false 1 (AX.t 5), none⟩,
    ⟨some 7, AOp.mkFunc (Fn.func 49) [] [AX.t 3], none⟩,
    ⟨some 8, AOp.call 48 [AX.t 6, AX.t 7], none⟩,
    ⟨some 4, AOp.mov (AX.t 8), none⟩] [4])
  AC.ret))⟩

/-- (silo/judge.Store).turn (checked) -/
def a20 : AF := ⟨[ARes.cell 6 true 2, ARes.cell 7 true 6],
  (.seq
  (.region [] [⟨some 3, AOp.boxL 2 (AX.t 0), none⟩,
    ⟨some 6, AOp.allocL (AV.agg [AV.int (IntKind.i64) 0, AV.nils]), none⟩,
    ⟨some 7, AOp.allocL (AV.agg [AV.int (IntKind.i64) 0, AV.int (IntKind.i64) 0, AV.nils, AV.nils, AV.nils, AV.nils]), none⟩] [1, 2, 3, 6, 7])
  (.seq
  (.region [] [⟨some 9, AOp.fieldA 1 1 false (AX.t 3), none⟩,
    ⟨some 10, AOp.loadL false 1 (AX.t 9), none⟩,
    ⟨some 11, AOp.mov (AX.t 2), none⟩,
    ⟨some 12, AOp.indexS 4 (AX.t 10) (AX.t 11), none⟩,
    ⟨some 13, AOp.fieldA 1 1 false (AX.t 12), none⟩,
    ⟨some 14, AOp.load false 1 (AX.t 13), none⟩,
    ⟨some 8, AOp.mov (AX.t 14), none⟩] [1, 2, 3, 6, 7, 8])
  (.seq
  (.block 0
    (.seq
    (.region [] [⟨some 16, AOp.mov (AX.t 1), none⟩,
      ⟨some 17, AOp.bin (BinOp.eql) (AX.t 16) (AX.c (AV.int (IntKind.i64) 5)), none⟩,
      ⟨some 18, AOp.mov (AX.t 17), none⟩,
      ⟨some 19, AOp.mov (AX.t 8), some (18, true)⟩,
      ⟨some 20, AOp.pick (AX.t 18) (AX.t 19) (AX.c (AV.bool false)), none⟩,
      ⟨some 15, AOp.mov (AX.t 20), none⟩] [1, 2, 3, 6, 7, 8, 15])
    (.cond (AX.t 15)
      (.seq
      (.region [] [⟨some 21, AOp.loadL true 2 (AX.t 3), none⟩,
        ⟨some 22, AOp.lit [AV.int (IntKind.i64) 0, AV.int (IntKind.i64) 0, AV.nils, AV.nils, AV.nils, AV.nils] [(0, 1, AX.c (AV.int (IntKind.i64) 13))], none⟩,
        ⟨none, AOp.store 2 (AX.t 6) (AX.t 21), none⟩,
        ⟨none, AOp.store 6 (AX.t 7) (AX.t 22), none⟩] [6, 7])
      AC.ret)
      (.seq
      (.region [] [⟨some 24, AOp.mov (AX.t 1), none⟩,
        ⟨some 25, AOp.bin (BinOp.neq) (AX.t 24) (AX.c (AV.int (IntKind.i64) 5)), none⟩,
        ⟨some 26, AOp.mov (AX.t 25), none⟩,
        ⟨some 27, AOp.mov (AX.t 8), some (26, true)⟩,
        ⟨some 28, AOp.mov (AX.t 1), some (26, true)⟩,
        ⟨some 29, AOp.bin (BinOp.eql) (AX.t 28) (AX.c (AV.int (IntKind.i64) 6)), some (26, true)⟩,
        ⟨some 30, AOp.eql false false [CK.b] (AX.t 27) (AX.t 29), some (26, true)⟩,
        ⟨some 31, AOp.pick (AX.t 26) (AX.t 30) (AX.c (AV.bool false)), none⟩,
        ⟨some 23, AOp.mov (AX.t 31), none⟩] [1, 2, 3, 6, 7, 8, 23])
      (.cond (AX.t 23)
        (.seq
        (.region [] [⟨some 32, AOp.loadL true 2 (AX.t 3), none⟩,
          ⟨some 33, AOp.lit [AV.int (IntKind.i64) 0, AV.int (IntKind.i64) 0, AV.nils, AV.nils, AV.nils, AV.nils] [(0, 1, AX.c (AV.int (IntKind.i64) 11))], none⟩,
          ⟨none, AOp.store 2 (AX.t 6) (AX.t 32), none⟩,
          ⟨none, AOp.store 6 (AX.t 7) (AX.t 33), none⟩] [6, 7])
        AC.ret)
        AC.skip)))))
  (.seq
  (.region [] [⟨some 34, AOp.fieldA 1 1 false (AX.t 3), none⟩,
    ⟨some 35, AOp.loadL false 1 (AX.t 34), none⟩,
    ⟨some 36, AOp.call 50 [AX.t 35], none⟩,
    ⟨some 37, AOp.fieldA 1 1 false (AX.t 3), none⟩,
    ⟨none, AOp.store 1 (AX.t 37) (AX.t 36), none⟩] [1, 2, 3, 6, 7, 8])
  (.seq
  (.seq
  (.region [] [⟨some 38, AOp.mov (AX.t 1), none⟩,
    ⟨some 39, AOp.bin (BinOp.eql) (AX.t 38) (AX.c (AV.int (IntKind.i64) 5)), none⟩] [2, 3, 6, 7, 8, 39])
  (.cond (AX.t 39)
    (.region [] [⟨some 40, AOp.fieldA 1 1 false (AX.t 3), none⟩,
      ⟨some 41, AOp.loadL false 1 (AX.t 40), none⟩,
      ⟨some 42, AOp.mov (AX.t 2), none⟩,
      ⟨some 43, AOp.mov (AX.t 2), none⟩,
      ⟨some 44, AOp.bin (BinOp.add) (AX.t 43) (AX.c (AV.int (IntKind.i64) 1)), none⟩,
      ⟨some 45, AOp.call 51 [AX.t 41, AX.t 42, AX.t 44], none⟩,
      ⟨some 46, AOp.fieldA 1 1 false (AX.t 3), none⟩,
      ⟨none, AOp.store 1 (AX.t 46) (AX.t 45), none⟩] [3, 6, 7])
    (.region [] [⟨some 47, AOp.fieldA 1 1 false (AX.t 3), none⟩,
      ⟨some 48, AOp.loadL false 1 (AX.t 47), none⟩,
      ⟨some 49, AOp.mov (AX.t 2), none⟩,
      ⟨some 50, AOp.mov (AX.t 8), none⟩,
      ⟨some 51, AOp.un (UnOp.not) (AX.t 50), none⟩,
      ⟨some 52, AOp.indexS 4 (AX.t 48) (AX.t 49), none⟩,
      ⟨some 53, AOp.fieldA 1 1 false (AX.t 52), none⟩,
      ⟨none, AOp.store 1 (AX.t 53) (AX.t 51), none⟩] [3, 6, 7])))
  (.seq
  (.region [] [⟨some 54, AOp.loadL true 2 (AX.t 3), none⟩,
    ⟨some 55, AOp.lit [AV.int (IntKind.i64) 0, AV.int (IntKind.i64) 0, AV.nils, AV.nils, AV.nils, AV.nils] [], none⟩,
    ⟨none, AOp.store 2 (AX.t 6) (AX.t 54), none⟩,
    ⟨none, AOp.store 6 (AX.t 7) (AX.t 55), none⟩] [6, 7])
  AC.ret))))))⟩

/-- (silo/judge.Store).read (checked) -/
def a21 : AF := ⟨[ARes.cell 6 true 6],
  (.seq
  (.region [] [⟨some 3, AOp.boxL 2 (AX.t 0), none⟩,
    ⟨some 4, AOp.boxH 5 (AX.t 1), none⟩,
    ⟨some 5, AOp.boxL 4 (AX.t 2), none⟩,
    ⟨some 6, AOp.allocL (AV.agg [AV.int (IntKind.i64) 0, AV.int (IntKind.i64) 0, AV.nils, AV.nils, AV.nils, AV.nils]), none⟩] [3, 4, 5, 6])
  (.seq
  (.seq
  (.region [] [⟨some 11, AOp.fieldA 0 1 false (AX.t 4), none⟩,
    ⟨some 12, AOp.load false 1 (AX.t 11), none⟩] [3, 4, 5, 6, 12])
  (.block 0
    (.seq
    (.region [] [⟨some 14, AOp.bin (BinOp.eql) (AX.t 12) (AX.c (AV.int (IntKind.i64) 2)), none⟩,
      ⟨some 13, AOp.mov (AX.t 14), none⟩] [3, 4, 5, 6, 12, 13])
    (.cond (AX.t 13)
      (.seq
      (.region [] [⟨some 15, AOp.fieldA 3 1 false (AX.t 5), none⟩,
        ⟨some 16, AOp.loadL false 1 (AX.t 15), none⟩,
        ⟨some 17, AOp.mkFunc (Fn.func 53) [] [AX.t 4], none⟩,
        ⟨some 18, AOp.call 52 [AX.t 16, AX.t 17], none⟩,
        ⟨some 7, AOp.mov (AX.t 18), none⟩] [5, 6, 7])
      (.seq
      (.seq
      (.region [] [⟨some 19, AOp.mov (AX.t 7), none⟩,
        ⟨some 20, AOp.bin (BinOp.lss) (AX.t 19) (AX.c (AV.int (IntKind.i64) 0)), none⟩] [5, 6, 7, 20])
      (.cond (AX.t 20)
        (.seq
        (.region [] [⟨some 21, AOp.lit [AV.int (IntKind.i64) 0, AV.int (IntKind.i64) 0, AV.nils, AV.nils, AV.nils, AV.nils] [(0, 1, AX.c (AV.int (IntKind.i64) 9))], none⟩,
          ⟨none, AOp.store 6 (AX.t 6) (AX.t 21), none⟩] [6])
        AC.ret)
        AC.skip))
      (.region [] [⟨some 22, AOp.fieldA 3 1 false (AX.t 5), none⟩,
        ⟨some 23, AOp.loadL false 1 (AX.t 22), none⟩,
        ⟨some 24, AOp.mov (AX.t 7), none⟩,
        ⟨some 25, AOp.indexS 2 (AX.t 23) (AX.t 24), none⟩,
        ⟨some 26, AOp.fieldA 1 1 false (AX.t 25), none⟩,
        ⟨some 27, AOp.load false 1 (AX.t 26), none⟩,
        ⟨some 28, AOp.call 38 [AX.t 27], none⟩,
        ⟨some 29, AOp.fieldA 2 1 false (AX.t 6), none⟩,
        ⟨none, AOp.store 1 (AX.t 29) (AX.t 28), none⟩] [6])))
      (.seq
      (.region [] [⟨some 31, AOp.bin (BinOp.eql) (AX.t 12) (AX.c (AV.int (IntKind.i64) 3)), none⟩,
        ⟨some 30, AOp.mov (AX.t 31), none⟩] [3, 4, 5, 6, 12, 30])
      (.cond (AX.t 30)
        (.seq
        (.region [] [⟨some 32, AOp.fieldA 3 1 false (AX.t 5), none⟩,
          ⟨some 33, AOp.loadL false 1 (AX.t 32), none⟩,
          ⟨some 34, AOp.lenS (AX.t 33), none⟩,
          ⟨some 35, AOp.mov (AX.c (AV.int (IntKind.i64) 0)), none⟩] [4, 6, 33, 34, 35])
        (.block 1
          (.loop
            (.seq
            (.region [] [⟨some 36, AOp.bin (BinOp.lss) (AX.t 35) (AX.t 34), none⟩] [4, 6, 33, 34, 35, 36])
            (.seq
            (.cond (AX.t 36)
              AC.skip
              (.exit 1))
            (.seq
            (.block 2
              (.seq
              (.region [] [⟨some 37, AOp.indexS 2 (AX.t 33) (AX.t 35), none⟩,
                ⟨some 38, AOp.load true 2 (AX.t 37), none⟩,
                ⟨some 9, AOp.allocL (AV.agg [AV.str [], AV.nils]), none⟩,
                ⟨none, AOp.store 2 (AX.t 9) (AX.t 38), none⟩] [4, 6, 9, 33, 34, 35])
              (.seq
              (.region [] [⟨some 39, AOp.fieldA 0 1 false (AX.t 9), none⟩,
                ⟨some 40, AOp.loadL false 1 (AX.t 39), none⟩,
                ⟨some 41, AOp.fieldA 3 1 false (AX.t 4), none⟩,
                ⟨some 42, AOp.load false 1 (AX.t 41), none⟩,
                ⟨some 43, AOp.call 54 [AX.t 40, AX.t 42], none⟩] [4, 6, 9, 33, 34, 35, 43])
              (.cond (AX.t 43)
                (.region [] [⟨some 44, AOp.fieldA 3 1 false (AX.t 6), none⟩,
                  ⟨some 45, AOp.loadL false 1 (AX.t 44), none⟩,
                  ⟨some 46, AOp.fieldA 0 1 false (AX.t 9), none⟩,
                  ⟨some 47, AOp.loadL false 1 (AX.t 46), none⟩,
                  ⟨some 48, AOp.litS false 1 (AV.str []) 1 [(0, AX.t 47)], none⟩,
                  ⟨some 49, AOp.append true false 1 16 (AX.t 45) (AX.t 48), none⟩,
                  ⟨some 50, AOp.fieldA 3 1 false (AX.t 6), none⟩,
                  ⟨none, AOp.store 1 (AX.t 50) (AX.t 49), none⟩] [4, 6, 33, 34, 35])
                AC.skip))))
            (.region [] [⟨some 51, AOp.bin (BinOp.add) (AX.t 35) (AX.c (AV.int (IntKind.i64) 1)), none⟩,
              ⟨some 35, AOp.mov (AX.t 51), none⟩] [4, 6, 33, 34, 35])))))))
        (.seq
        (.region [] [⟨some 53, AOp.bin (BinOp.eql) (AX.t 12) (AX.c (AV.int (IntKind.i64) 4)), none⟩,
          ⟨some 52, AOp.mov (AX.t 53), none⟩] [3, 4, 5, 6, 52])
        (.cond (AX.t 52)
          (.seq
          (.region [] [⟨some 54, AOp.loadL true 2 (AX.t 3), none⟩,
            ⟨some 55, AOp.fieldA 2 1 false (AX.t 4), none⟩,
            ⟨some 56, AOp.load false 1 (AX.t 55), none⟩,
            ⟨some 57, AOp.call 19 [AX.t 54, AX.t 56], none⟩,
            ⟨some 10, AOp.mov (AX.t 57), none⟩] [3, 5, 6, 10])
          (.seq
          (.seq
          (.region [] [⟨some 58, AOp.mov (AX.t 10), none⟩,
            ⟨some 59, AOp.bin (BinOp.lss) (AX.t 58) (AX.c (AV.int (IntKind.i64) 0)), none⟩] [3, 5, 6, 10, 59])
          (.cond (AX.t 59)
            (.seq
            (.region [] [⟨some 60, AOp.lit [AV.int (IntKind.i64) 0, AV.int (IntKind.i64) 0, AV.nils, AV.nils, AV.nils, AV.nils] [(0, 1, AX.c (AV.int (IntKind.i64) 9))], none⟩,
              ⟨none, AOp.store 6 (AX.t 6) (AX.t 60), none⟩] [6])
            AC.ret)
            AC.skip))
          (.region [0, 1, 2, 3, 4, 5, 6, 7, 8, 9, 10] [⟨some 61, AOp.fieldA 3 1 false (AX.t 5), none⟩,
            ⟨some 62, AOp.loadL false 1 (AX.t 61), none⟩,
            ⟨some 63, AOp.fieldA 1 1 false (AX.t 3), none⟩,
            ⟨some 64, AOp.loadL false 1 (AX.t 63), none⟩,
            ⟨some 65, AOp.mov (AX.t 10), none⟩,
            ⟨some 66, AOp.indexS 4 (AX.t 64) (AX.t 65), none⟩,
            ⟨some 67, AOp.fieldA 3 1 false (AX.t 66), none⟩,
            ⟨some 68, AOp.load false 1 (AX.t 67), none⟩,
            ⟨some 69, AOp.call 55 [AX.t 62, AX.t 68], none⟩,
            ⟨some 70, AOp.fieldA 4 1 false (AX.t 6), none⟩,
            ⟨none, AOp.store 1 (AX.t 70) (AX.t 69), none⟩] [6])))
          AC.skip))))))))
  (.seq
  (.region [] [⟨some 71, AOp.loadL true 6 (AX.t 6), none⟩,
    ⟨none, AOp.store 6 (AX.t 6) (AX.t 71), none⟩] [6])
  AC.ret)))⟩

/-- silo/siloref21.SameChanges (checked) -/
def a26 : AF := ⟨[ARes.t 4],
  (.seq
  (.region [] [⟨some 4, AOp.mov (AX.c (AV.bool false)), none⟩] [0, 1])
  (.seq
  (.seq
  (.region [] [⟨some 6, AOp.mov (AX.t 0), none⟩,
    ⟨some 7, AOp.lenS (AX.t 6), none⟩,
    ⟨some 8, AOp.mov (AX.t 1), none⟩,
    ⟨some 9, AOp.lenS (AX.t 8), none⟩,
    ⟨some 10, AOp.bin (BinOp.neq) (AX.t 7) (AX.t 9), none⟩] [0, 1, 10])
  (.cond (AX.t 10)
    (.seq
    (.region [] [⟨some 4, AOp.mov (AX.c (AV.bool false)), none⟩] [4])
    AC.ret)
    AC.skip))
  (.seq
  (.seq
  (.region [] [⟨some 5, AOp.mov (AX.c (AV.int (IntKind.i64) 0)), none⟩] [0, 1, 5])
  (.block 0
    (.loop
      (.seq
      (.seq
      (.region [] [⟨some 11, AOp.mov (AX.t 5), none⟩,
        ⟨some 12, AOp.mov (AX.t 0), none⟩,
        ⟨some 13, AOp.lenS (AX.t 12), none⟩,
        ⟨some 14, AOp.bin (BinOp.lss) (AX.t 11) (AX.t 13), none⟩] [0, 1, 5, 14])
      (.cond (AX.t 14)
        AC.skip
        (.exit 0)))
      (.seq
      (.block 1
        (.seq
        (.region [0, 1, 2, 3, 4, 5, 6, 7, 8] [⟨some 17, AOp.mov (AX.t 0), none⟩,
          ⟨some 18, AOp.mov (AX.t 5), none⟩,
          ⟨some 19, AOp.indexS 3 (AX.t 17) (AX.t 18), none⟩,
          ⟨some 20, AOp.load true 3 (AX.t 19), none⟩,
          ⟨some 21, AOp.mov (AX.t 1), none⟩,
          ⟨some 22, AOp.mov (AX.t 5), none⟩,
          ⟨some 23, AOp.indexS 3 (AX.t 21) (AX.t 22), none⟩,
          ⟨some 24, AOp.load true 3 (AX.t 23), none⟩,
          ⟨some 25, AOp.eql true true [CK.s, CK.b, CK.b] (AX.t 20) (AX.t 24), none⟩] [0, 1, 5, 25])
        (.cond (AX.t 25)
          (.seq
          (.region [] [⟨some 4, AOp.mov (AX.c (AV.bool false)), none⟩] [4])
          AC.ret)
          AC.skip)))
      (.region [] [⟨some 15, AOp.mov (AX.t 5), none⟩,
        ⟨some 16, AOp.bin (BinOp.add) (AX.t 15) (AX.c (AV.int (IntKind.i64) 1)), none⟩,
        ⟨some 5, AOp.mov (AX.t 16), none⟩] [0, 1, 5]))))))
  (.seq
  (.region [] [⟨some 4, AOp.mov (AX.c (AV.bool true)), none⟩] [4])
  AC.ret))))⟩

/-- bytes.Equal (checked) -/
def a27 : AF := ⟨[ARes.t 4],
  (.seq
  (.region [] [⟨some 4, AOp.mov (AX.c (AV.bool false)), none⟩] [0, 1])
  (.seq
  (.region [] [⟨some 5, AOp.mov (AX.t 0), none⟩,
    ⟨some 6, AOp.bytesToStr (AX.t 5), none⟩,
    ⟨some 7, AOp.mov (AX.t 1), none⟩,
    ⟨some 8, AOp.bytesToStr (AX.t 7), none⟩,
    ⟨some 9, AOp.bin (BinOp.eql) (AX.t 6) (AX.t 8), none⟩,
    ⟨some 4, AOp.mov (AX.t 9), none⟩] [4])
  AC.ret))⟩

/-- slices.Equal[[]string,string] (checked) -/
def a28 : AF := ⟨[ARes.t 4],
  (.seq
  (.region [] [⟨some 4, AOp.mov (AX.c (AV.bool false)), none⟩] [0, 1])
  (.seq
  (.seq
  (.region [] [⟨some 6, AOp.mov (AX.t 0), none⟩,
    ⟨some 7, AOp.lenS (AX.t 6), none⟩,
    ⟨some 8, AOp.mov (AX.t 1), none⟩,
    ⟨some 9, AOp.lenS (AX.t 8), none⟩,
    ⟨some 10, AOp.bin (BinOp.neq) (AX.t 7) (AX.t 9), none⟩] [0, 1, 10])
  (.cond (AX.t 10)
    (.seq
    (.region [] [⟨some 4, AOp.mov (AX.c (AV.bool false)), none⟩] [4])
    AC.ret)
    AC.skip))
  (.seq
  (.seq
  (.region [] [⟨some 11, AOp.mov (AX.t 0), none⟩,
    ⟨some 12, AOp.lenS (AX.t 11), none⟩,
    ⟨some 13, AOp.mov (AX.c (AV.int (IntKind.i64) 0)), none⟩] [0, 1, 12, 13])
  (.block 0
    (.loop
      (.seq
      (.region [] [⟨some 14, AOp.bin (BinOp.lss) (AX.t 13) (AX.t 12), none⟩] [0, 1, 12, 13, 14])
      (.seq
      (.cond (AX.t 14)
        AC.skip
        (.exit 0))
      (.seq
      (.block 1
        (.seq
        (.region [] [⟨some 15, AOp.mov (AX.t 13), none⟩,
          ⟨some 5, AOp.mov (AX.t 15), none⟩] [0, 1, 5, 12, 13])
        (.seq
        (.region [0, 1, 2, 3, 4, 5, 6, 7, 8] [⟨some 16, AOp.mov (AX.t 0), none⟩,
          ⟨some 17, AOp.mov (AX.t 5), none⟩,
          ⟨some 18, AOp.indexS 1 (AX.t 16) (AX.t 17), none⟩,
          ⟨some 19, AOp.load false 1 (AX.t 18), none⟩,
          ⟨some 20, AOp.mov (AX.t 1), none⟩,
          ⟨some 21, AOp.mov (AX.t 5), none⟩,
          ⟨some 22, AOp.indexS 1 (AX.t 20) (AX.t 21), none⟩,
          ⟨some 23, AOp.load false 1 (AX.t 22), none⟩,
          ⟨some 24, AOp.bin (BinOp.neq) (AX.t 19) (AX.t 23), none⟩] [0, 1, 12, 13, 24])
        (.cond (AX.t 24)
          (.seq
          (.region [] [⟨some 4, AOp.mov (AX.c (AV.bool false)), none⟩] [4])
          AC.ret)
          AC.skip))))
      (.region [] [⟨some 25, AOp.bin (BinOp.add) (AX.t 13) (AX.c (AV.int (IntKind.i64) 1)), none⟩,
        ⟨some 13, AOp.mov (AX.t 25), none⟩] [0, 1, 12, 13])))))))
  (.seq
  (.region [] [⟨some 4, AOp.mov (AX.c (AV.bool true)), none⟩] [4])
  AC.ret))))⟩

/-- slices.Equal[[]silo/api.Change,silo/api.Change] (checked) -/
def a29 : AF := ⟨[ARes.t 4],
  (.seq
  (.region [] [⟨some 4, AOp.mov (AX.c (AV.bool false)), none⟩] [0, 1])
  (.seq
  (.seq
  (.region [] [⟨some 6, AOp.mov (AX.t 0), none⟩,
    ⟨some 7, AOp.lenS (AX.t 6), none⟩,
    ⟨some 8, AOp.mov (AX.t 1), none⟩,
    ⟨some 9, AOp.lenS (AX.t 8), none⟩,
    ⟨some 10, AOp.bin (BinOp.neq) (AX.t 7) (AX.t 9), none⟩] [0, 1, 10])
  (.cond (AX.t 10)
    (.seq
    (.region [] [⟨some 4, AOp.mov (AX.c (AV.bool false)), none⟩] [4])
    AC.ret)
    AC.skip))
  (.seq
  (.seq
  (.region [] [⟨some 11, AOp.mov (AX.t 0), none⟩,
    ⟨some 12, AOp.lenS (AX.t 11), none⟩,
    ⟨some 13, AOp.mov (AX.c (AV.int (IntKind.i64) 0)), none⟩] [0, 1, 12, 13])
  (.block 0
    (.loop
      (.seq
      (.region [] [⟨some 14, AOp.bin (BinOp.lss) (AX.t 13) (AX.t 12), none⟩] [0, 1, 12, 13, 14])
      (.seq
      (.cond (AX.t 14)
        AC.skip
        (.exit 0))
      (.seq
      (.block 1
        (.seq
        (.region [] [⟨some 15, AOp.mov (AX.t 13), none⟩,
          ⟨some 5, AOp.mov (AX.t 15), none⟩] [0, 1, 5, 12, 13])
        (.seq
        (.region [0, 1, 2, 3, 4, 5, 6, 7, 8] [⟨some 16, AOp.mov (AX.t 0), none⟩,
          ⟨some 17, AOp.mov (AX.t 5), none⟩,
          ⟨some 18, AOp.indexS 3 (AX.t 16) (AX.t 17), none⟩,
          ⟨some 19, AOp.load true 3 (AX.t 18), none⟩,
          ⟨some 20, AOp.mov (AX.t 1), none⟩,
          ⟨some 21, AOp.mov (AX.t 5), none⟩,
          ⟨some 22, AOp.indexS 3 (AX.t 20) (AX.t 21), none⟩,
          ⟨some 23, AOp.load true 3 (AX.t 22), none⟩,
          ⟨some 24, AOp.eql true true [CK.s, CK.b, CK.b] (AX.t 19) (AX.t 23), none⟩] [0, 1, 12, 13, 24])
        (.cond (AX.t 24)
          (.seq
          (.region [] [⟨some 4, AOp.mov (AX.c (AV.bool false)), none⟩] [4])
          AC.ret)
          AC.skip))))
      (.region [] [⟨some 25, AOp.bin (BinOp.add) (AX.t 13) (AX.c (AV.int (IntKind.i64) 1)), none⟩,
        ⟨some 13, AOp.mov (AX.t 25), none⟩] [0, 1, 12, 13])))))))
  (.seq
  (.region [] [⟨some 4, AOp.mov (AX.c (AV.bool true)), none⟩] [4])
  AC.ret))))⟩

/-- slices.Equal[[]int,int] (checked) -/
def a30 : AF := ⟨[ARes.t 4],
  (.seq
  (.region [] [⟨some 4, AOp.mov (AX.c (AV.bool false)), none⟩] [0, 1])
  (.seq
  (.seq
  (.region [] [⟨some 6, AOp.mov (AX.t 0), none⟩,
    ⟨some 7, AOp.lenS (AX.t 6), none⟩,
    ⟨some 8, AOp.mov (AX.t 1), none⟩,
    ⟨some 9, AOp.lenS (AX.t 8), none⟩,
    ⟨some 10, AOp.bin (BinOp.neq) (AX.t 7) (AX.t 9), none⟩] [0, 1, 10])
  (.cond (AX.t 10)
    (.seq
    (.region [] [⟨some 4, AOp.mov (AX.c (AV.bool false)), none⟩] [4])
    AC.ret)
    AC.skip))
  (.seq
  (.seq
  (.region [] [⟨some 11, AOp.mov (AX.t 0), none⟩,
    ⟨some 12, AOp.lenS (AX.t 11), none⟩,
    ⟨some 13, AOp.mov (AX.c (AV.int (IntKind.i64) 0)), none⟩] [0, 1, 12, 13])
  (.block 0
    (.loop
      (.seq
      (.region [] [⟨some 14, AOp.bin (BinOp.lss) (AX.t 13) (AX.t 12), none⟩] [0, 1, 12, 13, 14])
      (.seq
      (.cond (AX.t 14)
        AC.skip
        (.exit 0))
      (.seq
      (.block 1
        (.seq
        (.region [] [⟨some 15, AOp.mov (AX.t 13), none⟩,
          ⟨some 5, AOp.mov (AX.t 15), none⟩] [0, 1, 5, 12, 13])
        (.seq
        (.region [0, 1, 2, 3, 4, 5, 6, 7, 8] [⟨some 16, AOp.mov (AX.t 0), none⟩,
          ⟨some 17, AOp.mov (AX.t 5), none⟩,
          ⟨some 18, AOp.indexS 1 (AX.t 16) (AX.t 17), none⟩,
          ⟨some 19, AOp.load false 1 (AX.t 18), none⟩,
          ⟨some 20, AOp.mov (AX.t 1), none⟩,
          ⟨some 21, AOp.mov (AX.t 5), none⟩,
          ⟨some 22, AOp.indexS 1 (AX.t 20) (AX.t 21), none⟩,
          ⟨some 23, AOp.load false 1 (AX.t 22), none⟩,
          ⟨some 24, AOp.bin (BinOp.neq) (AX.t 19) (AX.t 23), none⟩] [0, 1, 12, 13, 24])
        (.cond (AX.t 24)
          (.seq
          (.region [] [⟨some 4, AOp.mov (AX.c (AV.bool false)), none⟩] [4])
          AC.ret)
          AC.skip))))
      (.region [] [⟨some 25, AOp.bin (BinOp.add) (AX.t 13) (AX.c (AV.int (IntKind.i64) 1)), none⟩,
        ⟨some 13, AOp.mov (AX.t 25), none⟩] [0, 1, 12, 13])))))))
  (.seq
  (.region [] [⟨some 4, AOp.mov (AX.c (AV.bool true)), none⟩] [4])
  AC.ret))))⟩

/-- silo/judge.check (checked) -/
def a32 : AF := ⟨[ARes.t 2],
  (.seq
  (.region [] [⟨some 2, AOp.mov (AX.c (AV.int (IntKind.i64) 0)), none⟩] [0])
  (.seq
  (.region [] [⟨some 3, AOp.allocL (AV.agg [AV.bool false, AV.bool false, AV.bool false, AV.bool false, AV.bool false, AV.bool false, AV.bool false, AV.bool false]), none⟩,
    ⟨some 4, AOp.allocL (AV.agg [AV.bool false, AV.bool false, AV.bool false, AV.bool false, AV.bool false, AV.bool false, AV.bool false, AV.bool false]), none⟩] [0, 3, 4])
  (.seq
  (.seq
  (.region [] [⟨some 12, AOp.mov (AX.t 0), none⟩,
    ⟨some 13, AOp.lenS (AX.t 12), none⟩,
    ⟨some 14, AOp.mov (AX.c (AV.int (IntKind.i64) 0)), none⟩] [0, 3, 4, 12, 13, 14])
  (.block 0
    (.loop
      (.seq
      (.region [] [⟨some 15, AOp.bin (BinOp.lss) (AX.t 14) (AX.t 13), none⟩] [0, 3, 4, 12, 13, 14, 15])
      (.seq
      (.cond (AX.t 15)
        AC.skip
        (.exit 0))
      (.seq
      (.block 1
        (.seq
        (.region [] [⟨some 16, AOp.mov (AX.t 14), none⟩,
          ⟨some 17, AOp.indexS 13 (AX.t 12) (AX.t 14), none⟩,
          ⟨some 18, AOp.load true 13 (AX.t 17), none⟩,
          ⟨some 6, AOp.allocL (AV.agg [AV.int (IntKind.i64) 0, AV.bool false, AV.int (IntKind.i64) 0, AV.int (IntKind.i64) 0, AV.int (IntKind.i64) 0, AV.str [], AV.nils, AV.int (IntKind.i64) 0, AV.int (IntKind.i64) 0, AV.nils, AV.nils, AV.nils, AV.nils]), none⟩,
          ⟨some 5, AOp.mov (AX.t 16), none⟩,
          ⟨none, AOp.store 13 (AX.t 6) (AX.t 18), none⟩] [0, 3, 4, 5, 6, 12, 13, 14])
        (.seq
        (.block 2
          (.seq
          (.region [] [⟨some 20, AOp.fieldA 0 1 false (AX.t 6), none⟩,
            ⟨some 21, AOp.loadL false 1 (AX.t 20), none⟩,
            ⟨some 22, AOp.bin (BinOp.eql) (AX.t 21) (AX.c (AV.int (IntKind.i64) (-1))), none⟩,
            ⟨some 23, AOp.mov (AX.t 22), none⟩,
            ⟨some 24, AOp.fieldA 1 1 false (AX.t 6), some (23, true)⟩,
            ⟨some 25, AOp.loadL false 1 (AX.t 24), some (23, true)⟩,
            ⟨some 26, AOp.pick (AX.t 23) (AX.t 25) (AX.c (AV.bool false)), none⟩,
            ⟨some 19, AOp.mov (AX.t 26), none⟩] [0, 3, 4, 5, 6, 12, 13, 14, 19])
          (.cond (AX.t 19)
            (.seq
            (.region [] [⟨some 27, AOp.lit [AV.bool false, AV.bool false, AV.bool false, AV.bool false, AV.bool false, AV.bool false, AV.bool false, AV.bool false] [], none⟩,
              ⟨some 28, AOp.lit [AV.bool false, AV.bool false, AV.bool false, AV.bool false, AV.bool false, AV.bool false, AV.bool false, AV.bool false] [], none⟩,
              ⟨none, AOp.store 8 (AX.t 3) (AX.t 27), none⟩,
              ⟨none, AOp.store 8 (AX.t 4) (AX.t 28), none⟩] [0, 3, 4, 12, 13, 14])
            (.exit 1))
            (.seq
            (.region [0, 1, 2, 3, 4, 5, 6, 7, 8, 9, 10, 11, 12, 13, 14, 15, 16, 17] [⟨some 30, AOp.fieldA 0 1 false (AX.t 6), none⟩,
              ⟨some 31, AOp.loadL false 1 (AX.t 30), none⟩,
              ⟨some 32, AOp.bin (BinOp.lss) (AX.t 31) (AX.c (AV.int (IntKind.i64) 0)), none⟩,
              ⟨some 33, AOp.mov (AX.t 32), none⟩,
              ⟨some 34, AOp.fieldA 0 1 false (AX.t 6), some (33, false)⟩,
              ⟨some 35, AOp.loadL false 1 (AX.t 34), some (33, false)⟩,
              ⟨some 36, AOp.bin (BinOp.geq) (AX.t 35) (AX.c (AV.int (IntKind.i64) 8)), some (33, false)⟩,
              ⟨some 37, AOp.pick (AX.t 33) (AX.c (AV.bool true)) (AX.t 36), none⟩,
              ⟨some 38, AOp.mov (AX.t 37), none⟩,
              ⟨some 39, AOp.fieldA 0 1 false (AX.t 6), some (38, false)⟩,
              ⟨some 40, AOp.loadL false 1 (AX.t 39), some (38, false)⟩,
              ⟨some 41, AOp.indexA 8 1 false (AX.t 3) (AX.t 40), some (38, false)⟩,
              ⟨some 42, AOp.loadL false 1 (AX.t 41), some (38, false)⟩,
              ⟨some 43, AOp.fieldA 1 1 false (AX.t 6), some (38, false)⟩,
              ⟨some 44, AOp.loadL false 1 (AX.t 43), some (38, false)⟩,
              ⟨some 45, AOp.eql true false [CK.b] (AX.t 42) (AX.t 44), some (38, false)⟩,
              ⟨some 46, AOp.pick (AX.t 38) (AX.c (AV.bool true)) (AX.t 45), none⟩,
              ⟨some 29, AOp.mov (AX.t 46), none⟩] [0, 3, 4, 5, 6, 12, 13, 14, 29])
            (.cond (AX.t 29)
              (.seq
              (.region [] [⟨some 2, AOp.mov (AX.c (AV.int (IntKind.i64) 1)), none⟩] [2])
              AC.ret)
              AC.skip)))))
        (.seq
        (.region [] [⟨some 47, AOp.fieldA 0 1 false (AX.t 6), none⟩,
          ⟨some 48, AOp.loadL false 1 (AX.t 47), none⟩,
          ⟨some 49, AOp.fieldA 1 1 false (AX.t 6), none⟩,
          ⟨some 50, AOp.loadL false 1 (AX.t 49), none⟩,
          ⟨some 51, AOp.un (UnOp.not) (AX.t 50), none⟩,
          ⟨some 52, AOp.indexA 8 1 false (AX.t 3) (AX.t 48), none⟩,
          ⟨none, AOp.store 1 (AX.t 52) (AX.t 51), none⟩] [0, 3, 4, 5, 6, 12, 13, 14])
        (.seq
        (.region [] [⟨some 53, AOp.fieldA 1 1 false (AX.t 6), none⟩,
          ⟨some 54, AOp.loadL false 1 (AX.t 53), none⟩,
          ⟨some 55, AOp.un (UnOp.not) (AX.t 54), none⟩] [0, 3, 4, 5, 6, 12, 13, 14, 55])
        (.cond (AX.t 55)
          (.region [0, 1, 2, 3, 4, 5, 6, 7, 8, 9, 10, 11] [⟨some 56, AOp.fieldA 0 1 false (AX.t 6), none⟩,
            ⟨some 57, AOp.loadL false 1 (AX.t 56), none⟩,
            ⟨some 58, AOp.mov (AX.t 0), none⟩,
            ⟨some 59, AOp.mov (AX.t 5), none⟩,
            ⟨some 60, AOp.slice (some 13) (AX.t 58) (some (AX.t 59)) none none, none⟩,
            ⟨some 61, AOp.call 35 [AX.t 60], none⟩,
            ⟨some 62, AOp.nilCheck (AX.t 61), none⟩,
            ⟨some 63, AOp.fieldA 5 1 false (AX.t 62), none⟩,
            ⟨some 64, AOp.load false 1 (AX.t 63), none⟩,
            ⟨some 65, AOp.un (UnOp.not) (AX.t 64), none⟩,
            ⟨some 66, AOp.indexA 8 1 false (AX.t 4) (AX.t 57), none⟩,
            ⟨none, AOp.store 1 (AX.t 66) (AX.t 65), none⟩] [0, 3, 4, 12, 13, 14])
          AC.skip))))))
      (.region [] [⟨some 67, AOp.bin (BinOp.add) (AX.t 14) (AX.c (AV.int (IntKind.i64) 1)), none⟩,
        ⟨some 14, AOp.mov (AX.t 67), none⟩] [0, 3, 4, 12, 13, 14])))))))
  (.seq
  (.seq
  (.region [] [⟨some 68, AOp.mov (AX.t 0), none⟩,
    ⟨some 69, AOp.lenS (AX.t 68), none⟩,
    ⟨some 70, AOp.mov (AX.c (AV.int (IntKind.i64) 0)), none⟩] [0, 4, 68, 69, 70])
  (.block 3
    (.loop
      (.seq
      (.region [] [⟨some 71, AOp.bin (BinOp.lss) (AX.t 70) (AX.t 69), none⟩] [0, 4, 68, 69, 70, 71])
      (.seq
      (.cond (AX.t 71)
        AC.skip
        (.exit 3))
      (.seq
      (.block 4
        (.seq
        (.region [] [⟨some 72, AOp.mov (AX.t 70), none⟩,
          ⟨some 73, AOp.indexS 13 (AX.t 68) (AX.t 70), none⟩,
          ⟨some 74, AOp.load true 13 (AX.t 73), none⟩,
          ⟨some 8, AOp.allocL (AV.agg [AV.int (IntKind.i64) 0, AV.bool false, AV.int (IntKind.i64) 0, AV.int (IntKind.i64) 0, AV.int (IntKind.i64) 0, AV.str [], AV.nils, AV.int (IntKind.i64) 0, AV.int (IntKind.i64) 0, AV.nils, AV.nils, AV.nils, AV.nils]), none⟩,
          ⟨some 7, AOp.mov (AX.t 72), none⟩,
          ⟨none, AOp.store 13 (AX.t 8) (AX.t 74), none⟩] [0, 4, 7, 8, 68, 69, 70])
        (.seq
        (.seq
        (.region [] [⟨some 75, AOp.fieldA 0 1 false (AX.t 8), none⟩,
          ⟨some 76, AOp.loadL false 1 (AX.t 75), none⟩,
          ⟨some 77, AOp.bin (BinOp.lss) (AX.t 76) (AX.c (AV.int (IntKind.i64) 0)), none⟩] [0, 4, 7, 8, 68, 69, 70, 77])
        (.cond (AX.t 77)
          (.seq
          (.region [] [⟨some 78, AOp.lit [AV.bool false, AV.bool false, AV.bool false, AV.bool false, AV.bool false, AV.bool false, AV.bool false, AV.bool false] [], none⟩,
            ⟨none, AOp.store 8 (AX.t 4) (AX.t 78), none⟩] [0, 4, 68, 69, 70])
          (.exit 4))
          AC.skip))
        (.seq
        (.region [0, 1, 2, 3, 4, 5, 6, 7, 8, 9, 10, 11, 12, 13, 14, 15, 16] [⟨some 79, AOp.fieldA 0 1 false (AX.t 8), none⟩,
          ⟨some 80, AOp.loadL false 1 (AX.t 79), none⟩,
          ⟨some 81, AOp.fieldA 1 1 false (AX.t 8), none⟩,
          ⟨some 82, AOp.loadL false 1 (AX.t 81), none⟩,
          ⟨some 83, AOp.un (UnOp.not) (AX.t 82), none⟩,
          ⟨some 84, AOp.mov (AX.t 83), none⟩,
          ⟨some 85, AOp.mov (AX.t 0), some (84, true)⟩,
          ⟨some 86, AOp.mov (AX.t 7), some (84, true)⟩,
          ⟨some 87, AOp.slice (some 13) (AX.t 85) (some (AX.t 86)) none none, some (84, true)⟩,
          ⟨some 88, AOp.call 35 [AX.t 87], some (84, true)⟩,
          ⟨some 89, AOp.nilCheck (AX.t 88), some (84, true)⟩,
          ⟨some 90, AOp.fieldA 5 1 false (AX.t 89), some (84, true)⟩,
          ⟨some 91, AOp.load false 1 (AX.t 90), some (84, true)⟩,
          ⟨some 92, AOp.un (UnOp.not) (AX.t 91), some (84, true)⟩,
          ⟨some 93, AOp.pick (AX.t 84) (AX.t 92) (AX.c (AV.bool false)), none⟩,
          ⟨some 94, AOp.indexA 8 1 false (AX.t 4) (AX.t 80), none⟩,
          ⟨none, AOp.store 1 (AX.t 94) (AX.t 93), none⟩] [0, 4, 68, 69, 70])
        (.seq
        (.region [] [⟨some 9, AOp.mov (AX.c (AV.int (IntKind.i64) 0)), none⟩] [0, 4, 9, 68, 69, 70])
        (.seq
        (.seq
        (.region [] [⟨some 95, AOp.loadL true 8 (AX.t 4), none⟩,
          ⟨some 96, AOp.mov (AX.c (AV.int (IntKind.i64) 0)), none⟩] [0, 4, 9, 68, 69, 70, 95, 96])
        (.block 5
          (.loop
            (.seq
            (.region [] [⟨some 97, AOp.bin (BinOp.lss) (AX.t 96) (AX.c (AV.int (IntKind.i64) 8)), none⟩] [0, 4, 9, 68, 69, 70, 95, 96, 97])
            (.seq
            (.cond (AX.t 97)
              AC.skip
              (.exit 5))
            (.seq
            (.block 6
              (.seq
              (.region [] [⟨some 98, AOp.indexV 8 1 false (AX.t 95) (AX.t 96), none⟩,
                ⟨some 11, AOp.mov (AX.t 98), none⟩] [0, 4, 9, 11, 68, 69, 70, 95, 96])
              (.seq
              (.region [] [⟨some 99, AOp.mov (AX.t 11), none⟩] [0, 4, 9, 68, 69, 70, 95, 96, 99])
              (.cond (AX.t 99)
                (.region [] [⟨some 100, AOp.mov (AX.t 9), none⟩,
                  ⟨some 101, AOp.bin (BinOp.add) (AX.t 100) (AX.c (AV.int (IntKind.i64) 1)), none⟩,
                  ⟨some 9, AOp.mov (AX.t 101), none⟩] [0, 4, 9, 68, 69, 70, 95, 96])
                AC.skip))))
            (.region [] [⟨some 102, AOp.bin (BinOp.add) (AX.t 96) (AX.c (AV.int (IntKind.i64) 1)), none⟩,
              ⟨some 96, AOp.mov (AX.t 102), none⟩] [0, 4, 9, 68, 69, 70, 95, 96])))))))
        (.seq
        (.region [] [⟨some 103, AOp.mov (AX.t 9), none⟩,
          ⟨some 104, AOp.bin (BinOp.gtr) (AX.t 103) (AX.c (AV.int (IntKind.i64) 5)), none⟩] [0, 4, 68, 69, 70, 104])
        (.cond (AX.t 104)
          (.seq
          (.region [] [⟨some 2, AOp.mov (AX.c (AV.int (IntKind.i64) 6)), none⟩] [2])
          AC.ret)
          AC.skip))))))))
      (.region [] [⟨some 105, AOp.bin (BinOp.add) (AX.t 70) (AX.c (AV.int (IntKind.i64) 1)), none⟩,
        ⟨some 70, AOp.mov (AX.t 105), none⟩] [0, 4, 68, 69, 70])))))))
  (.seq
  (.region [] [⟨some 2, AOp.mov (AX.c (AV.int (IntKind.i64) 0)), none⟩] [2])
  AC.ret)))))⟩

/-- (*silo/judge.court).spread (checked) -/
def a33 : AF := ⟨[],
  (.seq
  (.region [] [⟨some 12, AOp.mkMap, none⟩,
    ⟨some 2, AOp.mov (AX.t 12), none⟩] [0, 2])
  (.seq
  (.seq
  (.region [] [⟨some 13, AOp.mov (AX.t 0), none⟩,
    ⟨some 14, AOp.nilCheck (AX.t 13), none⟩,
    ⟨some 15, AOp.fieldA 0 1 false (AX.t 14), none⟩,
    ⟨some 16, AOp.load false 1 (AX.t 15), none⟩,
    ⟨some 17, AOp.lenS (AX.t 16), none⟩,
    ⟨some 18, AOp.mov (AX.c (AV.int (IntKind.i64) 0)), none⟩] [0, 2, 16, 17, 18])
  (.block 0
    (.loop
      (.seq
      (.region [] [⟨some 19, AOp.bin (BinOp.lss) (AX.t 18) (AX.t 17), none⟩] [0, 2, 16, 17, 18, 19])
      (.seq
      (.cond (AX.t 19)
        AC.skip
        (.exit 0))
      (.seq
      (.block 1
        (.seq
        (.region [] [⟨some 20, AOp.indexS 10 (AX.t 16) (AX.t 18), none⟩,
          ⟨some 21, AOp.load true 10 (AX.t 20), none⟩,
          ⟨some 4, AOp.allocL (AV.agg [AV.int (IntKind.i64) 0, AV.nils, AV.bool false, AV.bool false, AV.bool false, AV.bool false, AV.bool false, AV.bool false, AV.bool false, AV.bool false]), none⟩,
          ⟨none, AOp.store 10 (AX.t 4) (AX.t 21), none⟩] [0, 2, 4, 16, 17, 18])
        (.region [] [⟨some 22, AOp.mov (AX.t 2), none⟩,
          ⟨some 23, AOp.mov (AX.t 0), none⟩,
          ⟨some 24, AOp.loadL true 10 (AX.t 4), none⟩,
          ⟨some 25, AOp.call 58 [AX.t 23, AX.t 24], none⟩,
          ⟨none, AOp.mapUpd false [CK.s] (AX.t 22) (AX.t 25) (AX.c (AV.bool true)), none⟩] [0, 2, 16, 17, 18])))
      (.region [] [⟨some 26, AOp.bin (BinOp.add) (AX.t 18) (AX.c (AV.int (IntKind.i64) 1)), none⟩,
        ⟨some 18, AOp.mov (AX.t 26), none⟩] [0, 2, 16, 17, 18])))))))
  (.seq
  (.region [] [⟨some 5, AOp.mov (AX.c (AV.int (IntKind.i64) 0)), none⟩] [0, 2, 5])
  (.block 2
    (.loop
      (.seq
      (.seq
      (.region [] [⟨some 27, AOp.mov (AX.t 5), none⟩,
        ⟨some 28, AOp.mov (AX.t 0), none⟩,
        ⟨some 29, AOp.nilCheck (AX.t 28), none⟩,
        ⟨some 30, AOp.fieldA 0 1 false (AX.t 29), none⟩,
        ⟨some 31, AOp.load false 1 (AX.t 30), none⟩,
        ⟨some 32, AOp.lenS (AX.t 31), none⟩,
        ⟨some 33, AOp.bin (BinOp.lss) (AX.t 27) (AX.t 32), none⟩] [0, 2, 5, 33])
      (.cond (AX.t 33)
        AC.skip
        (.exit 2)))
      (.seq
      (.block 3
        (.seq
        (.region [] [⟨some 36, AOp.mov (AX.t 0), none⟩,
          ⟨some 37, AOp.nilCheck (AX.t 36), none⟩,
          ⟨some 38, AOp.fieldA 1 8 true (AX.t 37), none⟩,
          ⟨some 39, AOp.load true 8 (AX.t 38), none⟩,
          ⟨some 40, AOp.mov (AX.c (AV.int (IntKind.i64) 0)), none⟩] [0, 2, 5, 39, 40])
        (.block 4
          (.loop
            (.seq
            (.region [] [⟨some 41, AOp.bin (BinOp.lss) (AX.t 40) (AX.c (AV.int (IntKind.i64) 8)), none⟩] [0, 2, 5, 39, 40, 41])
            (.seq
            (.cond (AX.t 41)
              AC.skip
              (.exit 4))
            (.seq
            (.block 5
              (.seq
              (.region [] [⟨some 42, AOp.mov (AX.t 40), none⟩,
                ⟨some 43, AOp.indexV 8 1 false (AX.t 39) (AX.t 40), none⟩,
                ⟨some 6, AOp.mov (AX.t 42), none⟩,
                ⟨some 7, AOp.mov (AX.t 43), none⟩] [0, 2, 5, 6, 7, 39, 40])
              (.seq
              (.seq
              (.region [] [⟨some 44, AOp.mov (AX.t 7), none⟩,
                ⟨some 45, AOp.eqNil false (NK.p) (AX.t 44), none⟩,
                ⟨some 46, AOp.mov (AX.t 45), none⟩,
                ⟨some 47, AOp.mov (AX.t 0), some (46, false)⟩,
                ⟨some 48, AOp.nilCheck (AX.t 47), some (46, false)⟩,
                ⟨some 49, AOp.fieldA 0 1 false (AX.t 48), some (46, false)⟩,
                ⟨some 50, AOp.load false 1 (AX.t 49), some (46, false)⟩,
                ⟨some 51, AOp.mov (AX.t 5), some (46, false)⟩,
                ⟨some 52, AOp.mov (AX.t 6), some (46, false)⟩,
                ⟨some 53, AOp.indexS 10 (AX.t 50) (AX.t 51), some (46, false)⟩,
                ⟨some 54, AOp.fieldA 2 8 true (AX.t 53), some (46, false)⟩,
                ⟨some 55, AOp.indexA 8 1 false (AX.t 54) (AX.t 52), some (46, false)⟩,
                ⟨some 56, AOp.load false 1 (AX.t 55), some (46, false)⟩,
                ⟨some 57, AOp.pick (AX.t 46) (AX.c (AV.bool true)) (AX.t 56), none⟩] [0, 2, 5, 6, 7, 39, 40, 57])
              (.cond (AX.t 57)
                (.exit 5)
                AC.skip))
              (.seq
              (.region [] [⟨some 58, AOp.mov (AX.t 0), none⟩,
                ⟨some 59, AOp.nilCheck (AX.t 58), none⟩,
                ⟨some 60, AOp.fieldA 0 1 false (AX.t 59), none⟩,
                ⟨some 61, AOp.load false 1 (AX.t 60), none⟩,
                ⟨some 62, AOp.mov (AX.t 5), none⟩,
                ⟨some 63, AOp.indexS 10 (AX.t 61) (AX.t 62), none⟩,
                ⟨some 64, AOp.load true 10 (AX.t 63), none⟩,
                ⟨some 8, AOp.allocL (AV.agg [AV.int (IntKind.i64) 0, AV.nils, AV.bool false, AV.bool false, AV.bool false, AV.bool false, AV.bool false, AV.bool false, AV.bool false, AV.bool false]), none⟩,
                ⟨none, AOp.store 10 (AX.t 8) (AX.t 64), none⟩] [0, 2, 5, 6, 7, 8, 39, 40])
              (.seq
              (.region [] [⟨some 65, AOp.mov (AX.t 6), none⟩,
                ⟨some 66, AOp.fieldA 2 8 true (AX.t 8), none⟩,
                ⟨some 67, AOp.indexA 8 1 false (AX.t 66) (AX.t 65), none⟩,
                ⟨none, AOp.store 1 (AX.t 67) (AX.c (AV.bool true)), none⟩] [0, 2, 5, 7, 8, 39, 40])
              (.seq
              (.region [0, 1, 2, 3, 4, 5, 10, 11, 6, 7, 8, 9, 12, 13] [⟨some 69, AOp.fieldA 0 2 true (AX.t 8), none⟩,
                ⟨some 70, AOp.loadL true 2 (AX.t 69), none⟩,
                ⟨some 71, AOp.mov (AX.t 7), none⟩,
                ⟨some 72, AOp.nilCheck (AX.t 71), none⟩,
                ⟨some 73, AOp.fieldA 0 5 true (AX.t 72), none⟩,
                ⟨some 74, AOp.load true 5 (AX.t 73), none⟩,
                ⟨some 9, AOp.allocL (AV.agg [AV.int (IntKind.i64) 0, AV.nils]), none⟩,
                ⟨some 10, AOp.allocL (AV.agg [AV.int (IntKind.i64) 0, AV.int (IntKind.i64) 0, AV.nils, AV.nils, AV.nils, AV.nils]), none⟩,
                ⟨some 75, AOp.call 10 [AX.t 70, AX.t 74], none⟩,
                ⟨some 68, AOp.mov (AX.t 75), none⟩,
                ⟨some 76, AOp.extract (AX.t 68) 0, none⟩,
                ⟨some 77, AOp.extract (AX.t 68) 1, none⟩,
                ⟨none, AOp.store 2 (AX.t 9) (AX.t 76), none⟩,
                ⟨none, AOp.store 6 (AX.t 10) (AX.t 77), none⟩] [0, 2, 5, 7, 8, 9, 10, 39, 40])
              (.seq
              (.block 6
                (.seq
                (.region [0, 1, 2, 3, 4, 5, 6, 7, 8, 9, 10, 11, 12, 13, 14, 15] [⟨some 79, AOp.mov (AX.t 7), none⟩,
                  ⟨some 80, AOp.nilCheck (AX.t 79), none⟩,
                  ⟨some 81, AOp.fieldA 5 1 false (AX.t 80), none⟩,
                  ⟨some 82, AOp.load false 1 (AX.t 81), none⟩,
                  ⟨some 83, AOp.mov (AX.t 82), none⟩,
                  ⟨some 84, AOp.mov (AX.t 7), some (83, true)⟩,
                  ⟨some 85, AOp.nilCheck (AX.t 84), some (83, true)⟩,
                  ⟨some 86, AOp.fieldA 0 5 true (AX.t 85), some (83, true)⟩,
                  ⟨some 87, AOp.load true 5 (AX.t 86), some (83, true)⟩,
                  ⟨some 88, AOp.mov (AX.t 7), some (83, true)⟩,
                  ⟨some 89, AOp.nilCheck (AX.t 88), some (83, true)⟩,
                  ⟨some 90, AOp.fieldA 6 6 true (AX.t 89), some (83, true)⟩,
                  ⟨some 91, AOp.load true 6 (AX.t 90), some (83, true)⟩,
                  ⟨some 92, AOp.call 14 [AX.t 87, AX.t 91], some (83, true)⟩,
                  ⟨some 93, AOp.pick (AX.t 83) (AX.t 92) (AX.c (AV.bool false)), none⟩,
                  ⟨some 78, AOp.mov (AX.t 93), none⟩] [0, 2, 5, 7, 8, 9, 10, 39, 40, 78])
                (.cond (AX.t 78)
                  AC.skip
                  (.seq
                  (.region [0, 1, 2, 3, 4, 5, 6, 7, 8, 9, 10, 11, 12, 13] [⟨some 95, AOp.mov (AX.t 7), none⟩,
                    ⟨some 96, AOp.nilCheck (AX.t 95), none⟩,
                    ⟨some 97, AOp.fieldA 5 1 false (AX.t 96), none⟩,
                    ⟨some 98, AOp.load false 1 (AX.t 97), none⟩,
                    ⟨some 99, AOp.un (UnOp.not) (AX.t 98), none⟩,
                    ⟨some 100, AOp.mov (AX.t 99), none⟩,
                    ⟨some 101, AOp.loadL true 6 (AX.t 10), some (100, false)⟩,
                    ⟨some 102, AOp.mov (AX.t 7), some (100, false)⟩,
                    ⟨some 103, AOp.nilCheck (AX.t 102), some (100, false)⟩,
                    ⟨some 104, AOp.fieldA 6 6 true (AX.t 103), some (100, false)⟩,
                    ⟨some 105, AOp.load true 6 (AX.t 104), some (100, false)⟩,
                    ⟨some 106, AOp.call 13 [AX.t 101, AX.t 105], some (100, false)⟩,
                    ⟨some 107, AOp.pick (AX.t 100) (AX.c (AV.bool true)) (AX.t 106), none⟩,
                    ⟨some 94, AOp.mov (AX.t 107), none⟩] [0, 2, 5, 8, 9, 39, 40, 94])
                  (.cond (AX.t 94)
                    (.region [] [⟨some 108, AOp.loadL true 2 (AX.t 9), none⟩,
                      ⟨some 109, AOp.fieldA 0 2 true (AX.t 8), none⟩,
                      ⟨none, AOp.store 2 (AX.t 109) (AX.t 108), none⟩] [0, 2, 5, 8, 39, 40])
                    (.exit 5))))))
              (.seq
              (.region [] [⟨some 110, AOp.mov (AX.t 0), none⟩,
                ⟨some 111, AOp.loadL true 10 (AX.t 8), none⟩,
                ⟨some 112, AOp.call 58 [AX.t 110, AX.t 111], none⟩,
                ⟨some 11, AOp.mov (AX.t 112), none⟩] [0, 2, 5, 8, 11, 39, 40])
              (.seq
              (.region [] [⟨some 113, AOp.mov (AX.t 2), none⟩,
                ⟨some 114, AOp.mov (AX.t 11), none⟩,
                ⟨some 115, AOp.lookup false [CK.s] (AV.bool false) false (AX.t 113) (AX.t 114), none⟩,
                ⟨some 116, AOp.un (UnOp.not) (AX.t 115), none⟩] [0, 2, 5, 8, 11, 39, 40, 116])
              (.cond (AX.t 116)
                (.seq
                (.region [] [⟨some 117, AOp.mov (AX.t 2), none⟩,
                  ⟨some 118, AOp.mov (AX.t 11), none⟩,
                  ⟨none, AOp.mapUpd false [CK.s] (AX.t 117) (AX.t 118) (AX.c (AV.bool true)), none⟩] [0, 2, 5, 8, 39, 40])
                (.region [0, 1, 2, 3, 4, 5, 6, 7, 8, 9, 10] [⟨some 119, AOp.mov (AX.t 0), none⟩,
                  ⟨some 120, AOp.mov (AX.t 0), none⟩,
                  ⟨some 121, AOp.nilCheck (AX.t 120), none⟩,
                  ⟨some 122, AOp.fieldA 0 1 false (AX.t 121), none⟩,
                  ⟨some 123, AOp.load false 1 (AX.t 122), none⟩,
                  ⟨some 124, AOp.loadL true 10 (AX.t 8), none⟩,
                  ⟨some 125, AOp.litS true 10 (AV.agg [AV.int (IntKind.i64) 0, AV.nils, AV.bool false, AV.bool false, AV.bool false, AV.bool false, AV.bool false, AV.bool false, AV.bool false, AV.bool false]) 1 [(0, AX.t 124)], none⟩,
                  ⟨some 126, AOp.append false true 10 40 (AX.t 123) (AX.t 125), none⟩,
                  ⟨some 127, AOp.nilCheck (AX.t 119), none⟩,
                  ⟨some 128, AOp.fieldA 0 1 false (AX.t 127), none⟩,
                  ⟨none, AOp.store 1 (AX.t 128) (AX.t 126), none⟩] [0, 2, 5, 39, 40]))
                AC.skip))))))))))
            (.region [] [⟨some 129, AOp.bin (BinOp.add) (AX.t 40) (AX.c (AV.int (IntKind.i64) 1)), none⟩,
              ⟨some 40, AOp.mov (AX.t 129), none⟩] [0, 2, 5, 39, 40]))))))))
      (.region [] [⟨some 34, AOp.mov (AX.t 5), none⟩,
        ⟨some 35, AOp.bin (BinOp.add) (AX.t 34) (AX.c (AV.int (IntKind.i64) 1)), none⟩,
        ⟨some 5, AOp.mov (AX.t 35), none⟩] [0, 2, 5]))))))))⟩

/-- (*silo/judge.court).merge (checked) -/
def a34 : AF := ⟨[],
  (.seq
  (.region [] [⟨some 1, AOp.boxH 1 (AX.t 0), none⟩] [1])
  (.seq
  (.region [] [⟨some 3, AOp.mkMap, none⟩,
    ⟨some 2, AOp.allocH 1 (AV.nilm), none⟩,
    ⟨none, AOp.store 1 (AX.t 2) (AX.t 3), none⟩] [1, 2])
  (.regionA [[1, 2, 3, 4, 5, 6, 0, 7, 8, 9], [0, 1, 2, 3, 4, 5, 6, 7, 8, 9]] [⟨some 4, AOp.load false 1 (AX.t 1), none⟩,
    ⟨some 5, AOp.load false 1 (AX.t 1), none⟩,
    ⟨some 6, AOp.nilCheck (AX.t 5), none⟩,
    ⟨some 7, AOp.fieldA 0 1 false (AX.t 6), none⟩,
    ⟨some 8, AOp.load false 1 (AX.t 7), none⟩,
    ⟨some 9, AOp.mkFunc (Fn.func 60) [] [AX.t 1, AX.t 2], none⟩,
    ⟨some 10, AOp.call 59 [AX.t 8, AX.t 9], none⟩,
    ⟨some 11, AOp.nilCheck (AX.t 4), none⟩,
    ⟨some 12, AOp.fieldA 0 1 false (AX.t 11), none⟩,
    ⟨none, AOp.store 1 (AX.t 12) (AX.t 10), none⟩] [])))⟩

/-- silo/judge.begun (checked) -/
def a35 : AF := ⟨[ARes.t 2],
  (.seq
  (.region [] [⟨some 2, AOp.mov (AX.c (AV.nilp)), none⟩] [0])
  (.seq
  (.region [] [⟨some 6, AOp.mov (AX.t 0), none⟩,
    ⟨some 7, AOp.indexS 13 (AX.t 6) (AX.c (AV.int (IntKind.i64) 0)), none⟩,
    ⟨some 8, AOp.fieldA 2 5 true (AX.t 7), none⟩,
    ⟨some 9, AOp.load true 5 (AX.t 8), none⟩,
    ⟨some 10, AOp.lit [AV.int (IntKind.i64) 0, AV.int (IntKind.i64) 0, AV.int (IntKind.i64) 0, AV.str [], AV.nils, AV.bool false, AV.int (IntKind.i64) 0, AV.int (IntKind.i64) 0, AV.nils, AV.nils, AV.nils, AV.nils] [(0, 5, AX.t 9)], none⟩,
    ⟨some 11, AOp.boxH 12 (AX.t 10), none⟩,
    ⟨some 3, AOp.mov (AX.t 11), none⟩] [0, 3])
  (.seq
  (.seq
  (.region [] [⟨some 12, AOp.mov (AX.t 0), none⟩,
    ⟨some 13, AOp.slice (some 13) (AX.t 12) (some (AX.c (AV.int (IntKind.i64) 1))) none none, none⟩,
    ⟨some 14, AOp.lenS (AX.t 13), none⟩,
    ⟨some 15, AOp.mov (AX.c (AV.int (IntKind.i64) 0)), none⟩] [0, 3, 13, 14, 15])
  (.block 0
    (.loop
      (.seq
      (.region [] [⟨some 16, AOp.bin (BinOp.lss) (AX.t 15) (AX.t 14), none⟩] [0, 3, 13, 14, 15, 16])
      (.seq
      (.cond (AX.t 16)
        AC.skip
        (.exit 0))
      (.seq
      (.block 1
        (.seq
        (.region [] [⟨some 17, AOp.indexS 13 (AX.t 13) (AX.t 15), none⟩,
          ⟨some 18, AOp.load true 13 (AX.t 17), none⟩,
          ⟨some 5, AOp.allocL (AV.agg [AV.int (IntKind.i64) 0, AV.bool false, AV.int (IntKind.i64) 0, AV.int (IntKind.i64) 0, AV.int (IntKind.i64) 0, AV.str [], AV.nils, AV.int (IntKind.i64) 0, AV.int (IntKind.i64) 0, AV.nils, AV.nils, AV.nils, AV.nils]), none⟩,
          ⟨none, AOp.store 13 (AX.t 5) (AX.t 18), none⟩] [0, 3, 5, 13, 14, 15])
        (.seq
        (.seq
        (.region [] [⟨some 19, AOp.fieldA 0 1 false (AX.t 5), none⟩,
          ⟨some 20, AOp.loadL false 1 (AX.t 19), none⟩,
          ⟨some 21, AOp.bin (BinOp.lss) (AX.t 20) (AX.c (AV.int (IntKind.i64) 0)), none⟩] [0, 3, 5, 13, 14, 15, 21])
        (.cond (AX.t 21)
          (.exit 0)
          AC.skip))
        (.seq
        (.region [0, 1, 2, 3, 4, 5, 6] [⟨some 22, AOp.fieldA 0 1 false (AX.t 5), none⟩,
          ⟨some 23, AOp.loadL false 1 (AX.t 22), none⟩,
          ⟨some 24, AOp.mov (AX.t 0), none⟩,
          ⟨some 25, AOp.indexS 13 (AX.t 24) (AX.c (AV.int (IntKind.i64) 0)), none⟩,
          ⟨some 26, AOp.fieldA 0 1 false (AX.t 25), none⟩,
          ⟨some 27, AOp.load false 1 (AX.t 26), none⟩,
          ⟨some 28, AOp.bin (BinOp.eql) (AX.t 23) (AX.t 27), none⟩] [0, 3, 5, 13, 14, 15, 28])
        (.cond (AX.t 28)
          (.seq
          (.regionA [[0, 1, 2, 4, 5, 6, 3, 7, 8, 9], [0, 1, 2, 3, 4, 5, 6, 7, 8, 9]] [⟨some 29, AOp.mov (AX.t 3), none⟩,
            ⟨some 30, AOp.mov (AX.t 3), none⟩,
            ⟨some 31, AOp.fieldA 7 6 true (AX.t 5), none⟩,
            ⟨some 32, AOp.loadL true 6 (AX.t 31), none⟩,
            ⟨some 33, AOp.nilCheck (AX.t 29), none⟩,
            ⟨some 34, AOp.fieldA 5 1 false (AX.t 33), none⟩,
            ⟨none, AOp.store 1 (AX.t 34) (AX.c (AV.bool true)), none⟩,
            ⟨some 35, AOp.nilCheck (AX.t 30), none⟩,
            ⟨some 36, AOp.fieldA 6 6 true (AX.t 35), none⟩,
            ⟨none, AOp.store 6 (AX.t 36) (AX.t 32), none⟩] [3])
          (.exit 0))
          AC.skip)))))
      (.region [] [⟨some 37, AOp.bin (BinOp.add) (AX.t 15) (AX.c (AV.int (IntKind.i64) 1)), none⟩,
        ⟨some 15, AOp.mov (AX.t 37), none⟩] [0, 3, 13, 14, 15])))))))
  (.seq
  (.region [] [⟨some 38, AOp.mov (AX.t 3), none⟩,
    ⟨some 2, AOp.mov (AX.t 38), none⟩] [2])
  AC.ret))))⟩

/-- (*silo/judge.court).ended (checked) -/
def a36 : AF := ⟨[],
  (.seq
  (.region [] [⟨some 4, AOp.mov (AX.c (AV.nils)), none⟩] [0, 1, 4])
  (.seq
  (.seq
  (.region [] [⟨some 7, AOp.mov (AX.t 0), none⟩,
    ⟨some 8, AOp.nilCheck (AX.t 7), none⟩,
    ⟨some 9, AOp.fieldA 0 1 false (AX.t 8), none⟩,
    ⟨some 10, AOp.load false 1 (AX.t 9), none⟩,
    ⟨some 11, AOp.lenS (AX.t 10), none⟩,
    ⟨some 12, AOp.mov (AX.c (AV.int (IntKind.i64) 0)), none⟩] [0, 1, 4, 10, 11, 12])
  (.block 0
    (.loop
      (.seq
      (.region [] [⟨some 13, AOp.bin (BinOp.lss) (AX.t 12) (AX.t 11), none⟩] [0, 1, 4, 10, 11, 12, 13])
      (.seq
      (.cond (AX.t 13)
        AC.skip
        (.exit 0))
      (.seq
      (.block 1
        (.seq
        (.region [] [⟨some 14, AOp.indexS 10 (AX.t 10) (AX.t 12), none⟩,
          ⟨some 15, AOp.load true 10 (AX.t 14), none⟩,
          ⟨some 6, AOp.allocL (AV.agg [AV.int (IntKind.i64) 0, AV.nils, AV.bool false, AV.bool false, AV.bool false, AV.bool false, AV.bool false, AV.bool false, AV.bool false, AV.bool false]), none⟩,
          ⟨none, AOp.store 10 (AX.t 6) (AX.t 15), none⟩] [0, 1, 4, 6, 10, 11, 12])
        (.seq
        (.region [] [⟨some 16, AOp.mov (AX.t 1), none⟩,
          ⟨some 17, AOp.fieldA 2 8 true (AX.t 6), none⟩,
          ⟨some 18, AOp.indexA 8 1 false (AX.t 17) (AX.t 16), none⟩,
          ⟨some 19, AOp.loadL false 1 (AX.t 18), none⟩] [0, 1, 4, 6, 10, 11, 12, 19])
        (.cond (AX.t 19)
          (.seq
          (.region [] [⟨some 20, AOp.mov (AX.t 1), none⟩,
            ⟨some 21, AOp.fieldA 2 8 true (AX.t 6), none⟩,
            ⟨some 22, AOp.indexA 8 1 false (AX.t 21) (AX.t 20), none⟩,
            ⟨none, AOp.store 1 (AX.t 22) (AX.c (AV.bool false)), none⟩] [0, 1, 4, 6, 10, 11, 12])
          (.region [] [⟨some 23, AOp.mov (AX.t 4), none⟩,
            ⟨some 24, AOp.loadL true 10 (AX.t 6), none⟩,
            ⟨some 25, AOp.litS true 10 (AV.agg [AV.int (IntKind.i64) 0, AV.nils, AV.bool false, AV.bool false, AV.bool false, AV.bool false, AV.bool false, AV.bool false, AV.bool false, AV.bool false]) 1 [(0, AX.t 24)], none⟩,
            ⟨some 26, AOp.append false true 10 40 (AX.t 23) (AX.t 25), none⟩,
            ⟨some 4, AOp.mov (AX.t 26), none⟩] [0, 1, 4, 10, 11, 12]))
          AC.skip))))
      (.region [] [⟨some 27, AOp.bin (BinOp.add) (AX.t 12) (AX.c (AV.int (IntKind.i64) 1)), none⟩,
        ⟨some 12, AOp.mov (AX.t 27), none⟩] [0, 1, 4, 10, 11, 12])))))))
  (.seq
  (.region [] [⟨some 28, AOp.mov (AX.t 0), none⟩,
    ⟨some 29, AOp.mov (AX.t 4), none⟩,
    ⟨some 30, AOp.nilCheck (AX.t 28), none⟩,
    ⟨some 31, AOp.fieldA 0 1 false (AX.t 30), none⟩,
    ⟨none, AOp.store 1 (AX.t 31) (AX.t 29), none⟩] [0, 1])
  (.seq
  (.region [] [⟨some 32, AOp.mov (AX.t 0), none⟩,
    ⟨some 33, AOp.mov (AX.t 1), none⟩,
    ⟨some 34, AOp.nilCheck (AX.t 32), none⟩,
    ⟨some 35, AOp.fieldA 1 8 true (AX.t 34), none⟩,
    ⟨some 36, AOp.indexA 8 1 false (AX.t 35) (AX.t 33), none⟩,
    ⟨none, AOp.store 1 (AX.t 36) (AX.c (AV.nilp)), none⟩] [0])
  (.region [] [⟨some 37, AOp.mov (AX.t 0), none⟩,
    ⟨some 38, AOp.call 34 [AX.t 37], none⟩] [])))))⟩

/-- silo/tree.Check (checked) -/
def a37 : AF := ⟨[ARes.t 2],
  (.seq
  (.region [] [⟨some 2, AOp.mov (AX.c (AV.int (IntKind.i64) 0)), none⟩] [0])
  (.seq
  (.region [] [⟨some 3, AOp.mov (AX.c (AV.nils)), none⟩] [0, 3])
  (.seq
  (.region [] [⟨some 4, AOp.mov (AX.c (AV.int (IntKind.i64) 0)), none⟩] [0, 3, 4])
  (.seq
  (.seq
  (.region [] [⟨some 7, AOp.mov (AX.t 0), none⟩,
    ⟨some 8, AOp.call 61 [AX.t 7], none⟩,
    ⟨some 9, AOp.lenS (AX.t 8), none⟩,
    ⟨some 10, AOp.mov (AX.c (AV.int (IntKind.i64) 0)), none⟩] [3, 4, 8, 9, 10])
  (.block 0
    (.loop
      (.seq
      (.region [] [⟨some 11, AOp.bin (BinOp.lss) (AX.t 10) (AX.t 9), none⟩] [3, 4, 8, 9, 10, 11])
      (.seq
      (.cond (AX.t 11)
        AC.skip
        (.exit 0))
      (.seq
      (.block 1
        (.seq
        (.region [] [⟨some 12, AOp.indexS 2 (AX.t 8) (AX.t 10), none⟩,
          ⟨some 13, AOp.load true 2 (AX.t 12), none⟩,
          ⟨some 6, AOp.allocL (AV.agg [AV.str [], AV.nils]), none⟩,
          ⟨none, AOp.store 2 (AX.t 6) (AX.t 13), none⟩] [3, 4, 6, 8, 9, 10])
        (.seq
        (.region [] [⟨some 14, AOp.mov (AX.t 3), none⟩,
          ⟨some 15, AOp.fieldA 0 1 false (AX.t 6), none⟩,
          ⟨some 16, AOp.loadL false 1 (AX.t 15), none⟩,
          ⟨some 17, AOp.litS false 1 (AV.str []) 1 [(0, AX.t 16)], none⟩,
          ⟨some 18, AOp.append true false 1 16 (AX.t 14) (AX.t 17), none⟩,
          ⟨some 3, AOp.mov (AX.t 18), none⟩] [3, 4, 6, 8, 9, 10])
        (.region [] [⟨some 19, AOp.mov (AX.t 4), none⟩,
          ⟨some 20, AOp.fieldA 1 1 false (AX.t 6), none⟩,
          ⟨some 21, AOp.loadL false 1 (AX.t 20), none⟩,
          ⟨some 22, AOp.lenS (AX.t 21), none⟩,
          ⟨some 23, AOp.bin (BinOp.add) (AX.t 19) (AX.t 22), none⟩,
          ⟨some 4, AOp.mov (AX.t 23), none⟩] [3, 4, 8, 9, 10]))))
      (.region [] [⟨some 24, AOp.bin (BinOp.add) (AX.t 10) (AX.c (AV.int (IntKind.i64) 1)), none⟩,
        ⟨some 10, AOp.mov (AX.t 24), none⟩] [3, 4, 8, 9, 10])))))))
  (.seq
  (.block 2
    (.seq
    (.region [] [⟨some 26, AOp.mov (AX.t 3), none⟩,
      ⟨some 27, AOp.call 62 [AX.t 26], none⟩,
      ⟨some 28, AOp.un (UnOp.not) (AX.t 27), none⟩,
      ⟨some 25, AOp.mov (AX.t 28), none⟩] [4, 25])
    (.cond (AX.t 25)
      (.seq
      (.region [] [⟨some 2, AOp.mov (AX.c (AV.int (IntKind.i64) 1)), none⟩] [2])
      AC.ret)
      (.seq
      (.region [] [⟨some 30, AOp.mov (AX.t 4), none⟩,
        ⟨some 31, AOp.bin (BinOp.gtr) (AX.t 30) (AX.c (AV.int (IntKind.i64) 16384)), none⟩,
        ⟨some 29, AOp.mov (AX.t 31), none⟩] [29])
      (.cond (AX.t 29)
        (.seq
        (.region [] [⟨some 2, AOp.mov (AX.c (AV.int (IntKind.i64) 6)), none⟩] [2])
        AC.ret)
        AC.skip)))))
  (.seq
  (.region [] [⟨some 2, AOp.mov (AX.c (AV.int (IntKind.i64) 0)), none⟩] [2])
  AC.ret))))))⟩

/-- slices.Clone[[]byte,byte] (checked) -/
def a38 : AF := ⟨[ARes.t 2],
  (.seq
  (.region [] [⟨some 2, AOp.mov (AX.c (AV.nils)), none⟩] [0])
  (.seq
  (.seq
  (.region [] [⟨some 3, AOp.mov (AX.t 0), none⟩,
    ⟨some 4, AOp.eqNil false (NK.s) (AX.t 3), none⟩] [0, 4])
  (.cond (AX.t 4)
    (.seq
    (.region [] [⟨some 2, AOp.mov (AX.c (AV.nils)), none⟩] [2])
    AC.ret)
    AC.skip))
  (.seq
  (.region [] [⟨some 5, AOp.litS false 1 (AV.int (IntKind.u8) 0) 0 [], none⟩,
    ⟨some 6, AOp.mov (AX.t 0), none⟩,
    ⟨some 7, AOp.append true false 1 1 (AX.t 5) (AX.t 6), none⟩,
    ⟨some 2, AOp.mov (AX.t 7), none⟩] [2])
  AC.ret)))⟩

/-- slices.SortFunc[[]silo/api.File,silo/api.File] (checked) -/
def a39 : AF := ⟨[],
  (.seq
  (.region [] [⟨some 5, AOp.mov (AX.t 0), none⟩,
    ⟨some 6, AOp.lenS (AX.t 5), none⟩,
    ⟨some 4, AOp.mov (AX.t 6), none⟩] [0, 1, 4])
  (.region [] [⟨some 7, AOp.mov (AX.t 0), none⟩,
    ⟨some 8, AOp.mov (AX.t 4), none⟩,
    ⟨some 9, AOp.mov (AX.t 4), none⟩,
    ⟨some 10, AOp.convI (IntKind.u64) (AX.t 9), none⟩,
    ⟨some 11, AOp.call 64 [AX.t 10], none⟩,
    ⟨some 12, AOp.mov (AX.t 1), none⟩,
    ⟨some 13, AOp.call 63 [AX.t 7, AX.c (AV.int (IntKind.i64) 0), AX.t 8, AX.t 11, AX.t 12], none⟩] []))⟩

/-- (silo/judge.Store).commit$1 (checked) -/
def a40 : AF := ⟨[ARes.t 4],
  (.seq
  (.region [] [⟨some 2, AOp.boxL 2 (AX.t 0), none⟩,
    ⟨some 3, AOp.boxL 2 (AX.t 1), none⟩,
    ⟨some 4, AOp.mov (AX.c (AV.int (IntKind.i64) 0)), none⟩] [2, 3])
  (.seq
  (.region [] [⟨some 5, AOp.fieldA 0 1 false (AX.t 2), none⟩,
    ⟨some 6, AOp.loadL false 1 (AX.t 5), none⟩,
    ⟨some 7, AOp.fieldA 0 1 false (AX.t 3), none⟩,
    ⟨some 8, AOp.loadL false 1 (AX.t 7), none⟩,
    ⟨some 9, AOp.call 41 [AX.t 6, AX.t 8], none⟩,
    ⟨some 4, AOp.mov (AX.t 9), none⟩] [4])
  AC.ret))⟩

/-- strings.Compare (checked) -/
def a41 : AF := ⟨[ARes.t 4],
  (.seq
  (.region [] [⟨some 4, AOp.mov (AX.c (AV.int (IntKind.i64) 0)), none⟩] [0, 1])
  (.seq
  (.region [] [⟨some 5, AOp.mov (AX.t 0), none⟩,
    ⟨some 6, AOp.mov (AX.t 1), none⟩,
    ⟨some 7, AOp.call 65 [AX.t 5, AX.t 6], none⟩,
    ⟨some 4, AOp.mov (AX.t 7), none⟩] [4])
  AC.ret))⟩

/-- silo/six.New (checked) -/
def a42 : AF := ⟨[ARes.t 0],
  (.seq
  (.region [] [⟨some 0, AOp.mov (AX.c (AV.nilp)), none⟩] [])
  (.seq
  (.region [] [⟨some 1, AOp.lit [AV.nils] [], none⟩,
    ⟨some 2, AOp.boxH 1 (AX.t 1), none⟩,
    ⟨some 0, AOp.mov (AX.t 2), none⟩] [0])
  AC.ret))⟩

/-- silo/six.PutList[silo/api.File] (checked) -/
def a43 : AF := ⟨[ARes.t 6],
  (.seq
  (.region [] [⟨some 6, AOp.mov (AX.c (AV.int (IntKind.i64) 0)), none⟩] [0, 1, 2])
  (.seq
  (.seq
  (.region [] [⟨some 9, AOp.mov (AX.t 0), none⟩,
    ⟨some 10, AOp.eqNil false (NK.p) (AX.t 9), none⟩,
    ⟨some 11, AOp.mov (AX.t 10), none⟩,
    ⟨some 12, AOp.mov (AX.t 2), some (11, false)⟩,
    ⟨some 13, AOp.eqNil false (NK.f) (AX.t 12), some (11, false)⟩,
    ⟨some 14, AOp.pick (AX.t 11) (AX.c (AV.bool true)) (AX.t 13), none⟩] [0, 1, 2, 14])
  (.cond (AX.t 14)
    (.seq
    (.region [] [⟨some 6, AOp.mov (AX.c (AV.int (IntKind.i64) 1)), none⟩] [6])
    AC.ret)
    AC.skip))
  (.seq
  (.region [] [⟨some 15, AOp.mov (AX.t 0), none⟩,
    ⟨some 16, AOp.mov (AX.t 1), none⟩,
    ⟨some 17, AOp.lenS (AX.t 16), none⟩,
    ⟨some 18, AOp.call 66 [AX.t 15, AX.t 17], none⟩] [0, 1, 2])
  (.seq
  (.seq
  (.region [] [⟨some 19, AOp.mov (AX.t 1), none⟩,
    ⟨some 20, AOp.lenS (AX.t 19), none⟩,
    ⟨some 21, AOp.mov (AX.c (AV.int (IntKind.i64) 0)), none⟩] [0, 2, 19, 20, 21])
  (.block 0
    (.loop
      (.seq
      (.region [] [⟨some 22, AOp.bin (BinOp.lss) (AX.t 21) (AX.t 20), none⟩] [0, 2, 19, 20, 21, 22])
      (.seq
      (.cond (AX.t 22)
        AC.skip
        (.exit 0))
      (.seq
      (.block 1
        (.seq
        (.region [] [⟨some 23, AOp.indexS 2 (AX.t 19) (AX.t 21), none⟩,
          ⟨some 24, AOp.load true 2 (AX.t 23), none⟩,
          ⟨some 8, AOp.allocL (AV.agg [AV.str [], AV.nils]), none⟩,
          ⟨none, AOp.store 2 (AX.t 8) (AX.t 24), none⟩] [0, 2, 8, 19, 20, 21])
        (.region [] [⟨some 25, AOp.mov (AX.t 2), none⟩,
          ⟨some 26, AOp.mov (AX.t 0), none⟩,
          ⟨some 27, AOp.loadL true 2 (AX.t 8), none⟩,
          ⟨some 28, AOp.callV (AX.t 25) [AX.t 26, AX.t 27], none⟩] [0, 2, 19, 20, 21])))
      (.region [] [⟨some 29, AOp.bin (BinOp.add) (AX.t 21) (AX.c (AV.int (IntKind.i64) 1)), none⟩,
        ⟨some 21, AOp.mov (AX.t 29), none⟩] [0, 2, 19, 20, 21])))))))
  (.seq
  (.region [] [⟨some 6, AOp.mov (AX.c (AV.int (IntKind.i64) 0)), none⟩] [6])
  AC.ret)))))⟩

/-- (silo/judge.Store).commit$2 (checked) -/
def a44 : AF := ⟨[],
  (.seq
  (.region [] [⟨some 3, AOp.boxL 2 (AX.t 1), none⟩] [0, 3])
  (.seq
  (.region [] [⟨some 4, AOp.mov (AX.t 0), none⟩,
    ⟨some 5, AOp.fieldA 0 1 false (AX.t 3), none⟩,
    ⟨some 6, AOp.loadL false 1 (AX.t 5), none⟩,
    ⟨some 7, AOp.call 45 [AX.t 4, AX.t 6], none⟩] [0, 3])
  (.region [] [⟨some 8, AOp.mov (AX.t 0), none⟩,
    ⟨some 9, AOp.fieldA 1 1 false (AX.t 3), none⟩,
    ⟨some 10, AOp.loadL false 1 (AX.t 9), none⟩,
    ⟨some 11, AOp.bytesToStr (AX.t 10), none⟩,
    ⟨some 12, AOp.call 45 [AX.t 8, AX.t 11], none⟩] [])))⟩

/-- (*silo/six.Writer).Text (checked) -/
def a45 : AF := ⟨[ARes.t 4],
  (.seq
  (.region [] [⟨some 4, AOp.mov (AX.c (AV.int (IntKind.i64) 0)), none⟩] [0, 1])
  (.seq
  (.seq
  (.region [] [⟨some 5, AOp.mov (AX.t 0), none⟩,
    ⟨some 6, AOp.eqNil false (NK.p) (AX.t 5), none⟩] [0, 1, 6])
  (.cond (AX.t 6)
    (.seq
    (.region [] [⟨some 4, AOp.mov (AX.c (AV.int (IntKind.i64) 1)), none⟩] [4])
    AC.ret)
    AC.skip))
  (.seq
  (.region [] [⟨some 7, AOp.mov (AX.t 0), none⟩,
    ⟨some 8, AOp.mov (AX.t 0), none⟩,
    ⟨some 9, AOp.nilCheck (AX.t 8), none⟩,
    ⟨some 10, AOp.fieldA 0 1 false (AX.t 9), none⟩,
    ⟨some 11, AOp.load false 1 (AX.t 10), none⟩,
    ⟨some 12, AOp.mov (AX.t 1), none⟩,
    ⟨some 13, AOp.lenStr (AX.t 12), none⟩,
    ⟨some 14, AOp.convI (IntKind.u64) (AX.t 13), none⟩,
    ⟨some 15, AOp.call 67 [AX.t 11, AX.t 14, AX.c (AV.int (IntKind.u8) 64)], none⟩,
    ⟨some 16, AOp.mov (AX.t 1), none⟩,
    ⟨some 17, AOp.append true false 1 1 (AX.t 15) (AX.t 16), none⟩,
    ⟨some 18, AOp.nilCheck (AX.t 7), none⟩,
    ⟨some 19, AOp.fieldA 0 1 false (AX.t 18), none⟩,
    ⟨none, AOp.store 1 (AX.t 19) (AX.t 17), none⟩] [])
  (.seq
  (.region [] [⟨some 4, AOp.mov (AX.c (AV.int (IntKind.i64) 0)), none⟩] [4])
  AC.ret))))⟩

/-- (*silo/six.Writer).Bytes (checked) -/
def a46 : AF := ⟨[ARes.t 2],
  (.seq
  (.region [] [⟨some 2, AOp.mov (AX.c (AV.str [])), none⟩] [0])
  (.seq
  (.seq
  (.region [] [⟨some 3, AOp.mov (AX.t 0), none⟩,
    ⟨some 4, AOp.eqNil false (NK.p) (AX.t 3), none⟩] [0, 4])
  (.cond (AX.t 4)
    (.seq
    (.region [] [⟨some 2, AOp.mov (AX.c (AV.str [])), none⟩] [2])
    AC.ret)
    AC.skip))
  (.seq
  (.region [] [⟨some 5, AOp.mov (AX.t 0), none⟩,
    ⟨some 6, AOp.nilCheck (AX.t 5), none⟩,
    ⟨some 7, AOp.fieldA 0 1 false (AX.t 6), none⟩,
    ⟨some 8, AOp.load false 1 (AX.t 7), none⟩,
    ⟨some 9, AOp.bytesToStr (AX.t 8), none⟩,
    ⟨some 2, AOp.mov (AX.t 9), none⟩] [2])
  AC.ret)))⟩

/-- slices.Clip[[]silo/judge.snap,silo/judge.snap] (checked) -/
def a47 : AF := ⟨[ARes.t 2],
  (.seq
  (.region [] [⟨some 2, AOp.mov (AX.c (AV.nils)), none⟩] [0])
  (.seq
  (.region [] [⟨some 3, AOp.mov (AX.t 0), none⟩,
    ⟨some 4, AOp.mov (AX.t 0), none⟩,
    ⟨some 5, AOp.lenS (AX.t 4), none⟩,
    ⟨some 6, AOp.mov (AX.t 0), none⟩,
    ⟨some 7, AOp.lenS (AX.t 6), none⟩,
    ⟨some 8, AOp.slice (some 4) (AX.t 3) none (some (AX.t 5)) (some (AX.t 7)), none⟩,
    ⟨some 2, AOp.mov (AX.t 8), none⟩] [2])
  AC.ret))⟩

/-- slices.IndexFunc[[]silo/judge.snap,silo/judge.snap] (checked) -/
def a48 : AF := ⟨[ARes.t 4],
  (.seq
  (.region [] [⟨some 4, AOp.mov (AX.c (AV.int (IntKind.i64) 0)), none⟩] [0, 1])
  (.seq
  (.seq
  (.region [] [⟨some 6, AOp.mov (AX.t 0), none⟩,
    ⟨some 7, AOp.lenS (AX.t 6), none⟩,
    ⟨some 8, AOp.mov (AX.c (AV.int (IntKind.i64) 0)), none⟩] [0, 1, 7, 8])
  (.block 0
    (.loop
      (.seq
      (.region [] [⟨some 9, AOp.bin (BinOp.lss) (AX.t 8) (AX.t 7), none⟩] [0, 1, 7, 8, 9])
      (.seq
      (.cond (AX.t 9)
        AC.skip
        (.exit 0))
      (.seq
      (.block 1
        (.seq
        (.region [] [⟨some 10, AOp.mov (AX.t 8), none⟩,
          ⟨some 5, AOp.mov (AX.t 10), none⟩] [0, 1, 5, 7, 8])
        (.seq
        (.region [] [⟨some 11, AOp.mov (AX.t 1), none⟩,
          ⟨some 12, AOp.mov (AX.t 0), none⟩,
          ⟨some 13, AOp.mov (AX.t 5), none⟩,
          ⟨some 14, AOp.indexS 4 (AX.t 12) (AX.t 13), none⟩,
          ⟨some 15, AOp.load true 4 (AX.t 14), none⟩,
          ⟨some 16, AOp.callV (AX.t 11) [AX.t 15], none⟩] [0, 1, 5, 7, 8, 16])
        (.cond (AX.t 16)
          (.seq
          (.region [] [⟨some 17, AOp.mov (AX.t 5), none⟩,
            ⟨some 4, AOp.mov (AX.t 17), none⟩] [4])
          AC.ret)
          AC.skip))))
      (.region [] [⟨some 18, AOp.bin (BinOp.add) (AX.t 8) (AX.c (AV.int (IntKind.i64) 1)), none⟩,
        ⟨some 8, AOp.mov (AX.t 18), none⟩] [0, 1, 7, 8])))))))
  (.seq
  (.region [] [⟨some 4, AOp.mov (AX.c (AV.int (IntKind.i64) (-1))), none⟩] [4])
  AC.ret)))⟩

/-- (silo/judge.Store).find$1 (checked) -/
def a49 : AF := ⟨[ARes.t 3],
  (.seq
  (.region [] [⟨some 2, AOp.boxL 4 (AX.t 0), none⟩,
    ⟨some 3, AOp.mov (AX.c (AV.bool false)), none⟩] [1, 2])
  (.seq
  (.region [] [⟨some 4, AOp.fieldA 0 1 false (AX.t 2), none⟩,
    ⟨some 5, AOp.loadL false 1 (AX.t 4), none⟩,
    ⟨some 6, AOp.load false 1 (AX.t 1), none⟩,
    ⟨some 7, AOp.bin (BinOp.eql) (AX.t 5) (AX.t 6), none⟩,
    ⟨some 3, AOp.mov (AX.t 7), none⟩] [3])
  AC.ret))⟩

/-- slices.Clone[[]silo/judge.snap,silo/judge.snap] (checked) -/
def a50 : AF := ⟨[ARes.t 2],
  (.seq
  (.region [] [⟨some 2, AOp.mov (AX.c (AV.nils)), none⟩] [0])
  (.seq
  (.seq
  (.region [] [⟨some 3, AOp.mov (AX.t 0), none⟩,
    ⟨some 4, AOp.eqNil false (NK.s) (AX.t 3), none⟩] [0, 4])
  (.cond (AX.t 4)
    (.seq
    (.region [] [⟨some 2, AOp.mov (AX.c (AV.nils)), none⟩] [2])
    AC.ret)
    AC.skip))
  (.seq
  (.region [] [⟨some 5, AOp.litS false 4 (AV.agg [AV.int (IntKind.i64) 0, AV.bool false, AV.str [], AV.nils]) 0 [], none⟩,
    ⟨some 6, AOp.mov (AX.t 0), none⟩,
    ⟨some 7, AOp.append true false 4 56 (AX.t 5) (AX.t 6), none⟩,
    ⟨some 2, AOp.mov (AX.t 7), none⟩] [2])
  AC.ret)))⟩

/-- slices.Delete[[]silo/judge.snap,silo/judge.snap] (checked) -/
def a51 : AF := ⟨[ARes.t 6],
  (.seq
  (.region [] [⟨some 6, AOp.mov (AX.c (AV.nils)), none⟩] [0, 1, 2])
  (.seq
  (.region [] [⟨some 8, AOp.mov (AX.t 0), none⟩,
    ⟨some 9, AOp.mov (AX.t 1), none⟩,
    ⟨some 10, AOp.mov (AX.t 2), none⟩,
    ⟨some 11, AOp.mov (AX.t 0), none⟩,
    ⟨some 12, AOp.lenS (AX.t 11), none⟩,
    ⟨some 13, AOp.slice (some 4) (AX.t 8) (some (AX.t 9)) (some (AX.t 10)) (some (AX.t 12)), none⟩] [0, 1, 2])
  (.seq
  (.seq
  (.region [] [⟨some 14, AOp.mov (AX.t 1), none⟩,
    ⟨some 15, AOp.mov (AX.t 2), none⟩,
    ⟨some 16, AOp.bin (BinOp.eql) (AX.t 14) (AX.t 15), none⟩] [0, 1, 2, 16])
  (.cond (AX.t 16)
    (.seq
    (.region [] [⟨some 17, AOp.mov (AX.t 0), none⟩,
      ⟨some 6, AOp.mov (AX.t 17), none⟩] [6])
    AC.ret)
    AC.skip))
  (.seq
  (.region [] [⟨some 18, AOp.mov (AX.t 0), none⟩,
    ⟨some 19, AOp.lenS (AX.t 18), none⟩,
    ⟨some 7, AOp.mov (AX.t 19), none⟩] [0, 1, 2, 7])
  (.seq
  (.region [0, 1, 2, 3, 4, 5, 6, 7] [⟨some 20, AOp.mov (AX.t 0), none⟩,
    ⟨some 21, AOp.mov (AX.t 1), none⟩,
    ⟨some 22, AOp.slice (some 4) (AX.t 20) none (some (AX.t 21)) none, none⟩,
    ⟨some 23, AOp.mov (AX.t 0), none⟩,
    ⟨some 24, AOp.mov (AX.t 2), none⟩,
    ⟨some 25, AOp.slice (some 4) (AX.t 23) (some (AX.t 24)) none none, none⟩,
    ⟨some 26, AOp.append true false 4 56 (AX.t 22) (AX.t 25), none⟩,
    ⟨some 0, AOp.mov (AX.t 26), none⟩] [0, 7])
  (.seq
  (.region [] [⟨some 27, AOp.mov (AX.t 0), none⟩,
    ⟨some 28, AOp.mov (AX.t 0), none⟩,
    ⟨some 29, AOp.lenS (AX.t 28), none⟩,
    ⟨some 30, AOp.mov (AX.t 7), none⟩,
    ⟨some 31, AOp.slice (some 4) (AX.t 27) (some (AX.t 29)) (some (AX.t 30)) none, none⟩,
    ⟨none, AOp.clearS (AV.agg [AV.int (IntKind.i64) 0, AV.bool false, AV.str [], AV.nils]) (AX.t 31), none⟩] [0])
  (.seq
  (.region [] [⟨some 32, AOp.mov (AX.t 0), none⟩,
    ⟨some 6, AOp.mov (AX.t 32), none⟩] [6])
  AC.ret)))))))⟩

/-- slices.IndexFunc[[]silo/api.File,silo/api.File] (checked) -/
def a52 : AF := ⟨[ARes.t 4],
  (.seq
  (.region [] [⟨some 4, AOp.mov (AX.c (AV.int (IntKind.i64) 0)), none⟩] [0, 1])
  (.seq
  (.seq
  (.region [] [⟨some 6, AOp.mov (AX.t 0), none⟩,
    ⟨some 7, AOp.lenS (AX.t 6), none⟩,
    ⟨some 8, AOp.mov (AX.c (AV.int (IntKind.i64) 0)), none⟩] [0, 1, 7, 8])
  (.block 0
    (.loop
      (.seq
      (.region [] [⟨some 9, AOp.bin (BinOp.lss) (AX.t 8) (AX.t 7), none⟩] [0, 1, 7, 8, 9])
      (.seq
      (.cond (AX.t 9)
        AC.skip
        (.exit 0))
      (.seq
      (.block 1
        (.seq
        (.region [] [⟨some 10, AOp.mov (AX.t 8), none⟩,
          ⟨some 5, AOp.mov (AX.t 10), none⟩] [0, 1, 5, 7, 8])
        (.seq
        (.region [] [⟨some 11, AOp.mov (AX.t 1), none⟩,
          ⟨some 12, AOp.mov (AX.t 0), none⟩,
          ⟨some 13, AOp.mov (AX.t 5), none⟩,
          ⟨some 14, AOp.indexS 2 (AX.t 12) (AX.t 13), none⟩,
          ⟨some 15, AOp.load true 2 (AX.t 14), none⟩,
          ⟨some 16, AOp.callV (AX.t 11) [AX.t 15], none⟩] [0, 1, 5, 7, 8, 16])
        (.cond (AX.t 16)
          (.seq
          (.region [] [⟨some 17, AOp.mov (AX.t 5), none⟩,
            ⟨some 4, AOp.mov (AX.t 17), none⟩] [4])
          AC.ret)
          AC.skip))))
      (.region [] [⟨some 18, AOp.bin (BinOp.add) (AX.t 8) (AX.c (AV.int (IntKind.i64) 1)), none⟩,
        ⟨some 8, AOp.mov (AX.t 18), none⟩] [0, 1, 7, 8])))))))
  (.seq
  (.region [] [⟨some 4, AOp.mov (AX.c (AV.int (IntKind.i64) (-1))), none⟩] [4])
  AC.ret)))⟩

/-- (silo/judge.Store).read$1 (checked) -/
def a53 : AF := ⟨[ARes.t 3],
  (.seq
  (.region [] [⟨some 2, AOp.boxL 2 (AX.t 0), none⟩,
    ⟨some 3, AOp.mov (AX.c (AV.bool false)), none⟩] [1, 2])
  (.seq
  (.region [] [⟨some 4, AOp.fieldA 0 1 false (AX.t 2), none⟩,
    ⟨some 5, AOp.loadL false 1 (AX.t 4), none⟩,
    ⟨some 6, AOp.fieldA 3 1 false (AX.t 1), none⟩,
    ⟨some 7, AOp.load false 1 (AX.t 6), none⟩,
    ⟨some 8, AOp.bin (BinOp.eql) (AX.t 5) (AX.t 7), none⟩,
    ⟨some 3, AOp.mov (AX.t 8), none⟩] [3])
  AC.ret))⟩

/-- strings.HasPrefix (checked) -/
def a54 : AF := ⟨[ARes.t 4],
  (.seq
  (.region [] [⟨some 4, AOp.mov (AX.c (AV.bool false)), none⟩] [0, 1])
  (.seq
  (.region [] [⟨some 5, AOp.mov (AX.t 0), none⟩,
    ⟨some 6, AOp.mov (AX.t 1), none⟩,
    ⟨some 7, AOp.call 68 [AX.t 5, AX.t 6], none⟩,
    ⟨some 4, AOp.mov (AX.t 7), none⟩] [4])
  AC.ret))⟩

/-- silo/judge.differ (checked) -/
def a55 : AF := ⟨[ARes.t 4],
  (.seq
  (.region [] [⟨some 4, AOp.mov (AX.c (AV.nils)), none⟩] [0, 1])
  (.seq
  (.region [] [⟨some 5, AOp.mov (AX.c (AV.nils)), none⟩] [0, 1, 5])
  (.seq
  (.block 0
    (.loop
      (.seq
      (.seq
      (.region [] [⟨some 6, AOp.mov (AX.t 0), none⟩,
        ⟨some 7, AOp.lenS (AX.t 6), none⟩,
        ⟨some 8, AOp.bin (BinOp.gtr) (AX.t 7) (AX.c (AV.int (IntKind.i64) 0)), none⟩,
        ⟨some 9, AOp.mov (AX.t 8), none⟩,
        ⟨some 10, AOp.mov (AX.t 1), some (9, false)⟩,
        ⟨some 11, AOp.lenS (AX.t 10), some (9, false)⟩,
        ⟨some 12, AOp.bin (BinOp.gtr) (AX.t 11) (AX.c (AV.int (IntKind.i64) 0)), some (9, false)⟩,
        ⟨some 13, AOp.pick (AX.t 9) (AX.c (AV.bool true)) (AX.t 12), none⟩] [0, 1, 5, 13])
      (.cond (AX.t 13)
        AC.skip
        (.exit 0)))
      (.block 1
        (.block 2
          (.seq
          (.region [0, 1, 2, 3, 4, 5, 6, 7, 8, 9, 10, 11, 12, 13, 14, 15, 16, 17, 18, 19] [⟨some 37, AOp.mov (AX.t 1), none⟩,
            ⟨some 38, AOp.lenS (AX.t 37), none⟩,
            ⟨some 39, AOp.bin (BinOp.eql) (AX.t 38) (AX.c (AV.int (IntKind.i64) 0)), none⟩,
            ⟨some 40, AOp.mov (AX.t 39), none⟩,
            ⟨some 41, AOp.mov (AX.t 0), some (40, false)⟩,
            ⟨some 42, AOp.lenS (AX.t 41), some (40, false)⟩,
            ⟨some 43, AOp.bin (BinOp.gtr) (AX.t 42) (AX.c (AV.int (IntKind.i64) 0)), some (40, false)⟩,
            ⟨some 44, AOp.mov (AX.t 43), some (40, false)⟩,
            ⟨some 45, AOp.mov (AX.t 0), some (44, true)⟩,
            ⟨some 46, AOp.indexS 2 (AX.t 45) (AX.c (AV.int (IntKind.i64) 0)), some (44, true)⟩,
            ⟨some 47, AOp.fieldA 0 1 false (AX.t 46), some (44, true)⟩,
            ⟨some 48, AOp.load false 1 (AX.t 47), some (44, true)⟩,
            ⟨some 49, AOp.mov (AX.t 1), some (44, true)⟩,
            ⟨some 50, AOp.indexS 2 (AX.t 49) (AX.c (AV.int (IntKind.i64) 0)), some (44, true)⟩,
            ⟨some 51, AOp.fieldA 0 1 false (AX.t 50), some (44, true)⟩,
            ⟨some 52, AOp.load false 1 (AX.t 51), some (44, true)⟩,
            ⟨some 53, AOp.bin (BinOp.lss) (AX.t 48) (AX.t 52), some (44, true)⟩,
            ⟨some 54, AOp.pick (AX.t 44) (AX.t 53) (AX.c (AV.bool false)), some (40, false)⟩,
            ⟨some 55, AOp.pick (AX.t 40) (AX.c (AV.bool true)) (AX.t 54), none⟩,
            ⟨some 36, AOp.mov (AX.t 55), none⟩] [0, 1, 5, 36])
          (.cond (AX.t 36)
            (.seq
            (.region [] [⟨some 56, AOp.mov (AX.t 5), none⟩,
              ⟨some 57, AOp.mov (AX.t 0), none⟩,
              ⟨some 58, AOp.indexS 2 (AX.t 57) (AX.c (AV.int (IntKind.i64) 0)), none⟩,
              ⟨some 59, AOp.fieldA 0 1 false (AX.t 58), none⟩,
              ⟨some 60, AOp.load false 1 (AX.t 59), none⟩,
              ⟨some 61, AOp.lit [AV.str [], AV.bool false, AV.bool false] [(0, 1, AX.t 60), (1, 1, AX.c (AV.bool true))], none⟩,
              ⟨some 62, AOp.litS false 3 (AV.agg [AV.str [], AV.bool false, AV.bool false]) 1 [(0, AX.t 61)], none⟩,
              ⟨some 63, AOp.append true false 3 24 (AX.t 56) (AX.t 62), none⟩,
              ⟨some 5, AOp.mov (AX.t 63), none⟩] [0, 1, 5])
            (.region [] [⟨some 64, AOp.mov (AX.t 0), none⟩,
              ⟨some 65, AOp.slice (some 2) (AX.t 64) (some (AX.c (AV.int (IntKind.i64) 1))) none none, none⟩,
              ⟨some 0, AOp.mov (AX.t 65), none⟩] [0, 1, 5]))
            (.seq
            (.region [0, 1, 2, 3, 4, 5, 6, 7, 8, 9, 10, 11, 12, 13, 14] [⟨some 67, AOp.mov (AX.t 0), none⟩,
              ⟨some 68, AOp.lenS (AX.t 67), none⟩,
              ⟨some 69, AOp.bin (BinOp.eql) (AX.t 68) (AX.c (AV.int (IntKind.i64) 0)), none⟩,
              ⟨some 70, AOp.mov (AX.t 69), none⟩,
              ⟨some 71, AOp.mov (AX.t 0), some (70, false)⟩,
              ⟨some 72, AOp.indexS 2 (AX.t 71) (AX.c (AV.int (IntKind.i64) 0)), some (70, false)⟩,
              ⟨some 73, AOp.fieldA 0 1 false (AX.t 72), some (70, false)⟩,
              ⟨some 74, AOp.load false 1 (AX.t 73), some (70, false)⟩,
              ⟨some 75, AOp.mov (AX.t 1), some (70, false)⟩,
              ⟨some 76, AOp.indexS 2 (AX.t 75) (AX.c (AV.int (IntKind.i64) 0)), some (70, false)⟩,
              ⟨some 77, AOp.fieldA 0 1 false (AX.t 76), some (70, false)⟩,
              ⟨some 78, AOp.load false 1 (AX.t 77), some (70, false)⟩,
              ⟨some 79, AOp.bin (BinOp.gtr) (AX.t 74) (AX.t 78), some (70, false)⟩,
              ⟨some 80, AOp.pick (AX.t 70) (AX.c (AV.bool true)) (AX.t 79), none⟩,
              ⟨some 66, AOp.mov (AX.t 80), none⟩] [0, 1, 5, 66])
            (.cond (AX.t 66)
              (.seq
              (.region [] [⟨some 81, AOp.mov (AX.t 5), none⟩,
                ⟨some 82, AOp.mov (AX.t 1), none⟩,
                ⟨some 83, AOp.indexS 2 (AX.t 82) (AX.c (AV.int (IntKind.i64) 0)), none⟩,
                ⟨some 84, AOp.fieldA 0 1 false (AX.t 83), none⟩,
                ⟨some 85, AOp.load false 1 (AX.t 84), none⟩,
                ⟨some 86, AOp.lit [AV.str [], AV.bool false, AV.bool false] [(0, 1, AX.t 85), (2, 1, AX.c (AV.bool true))], none⟩,
                ⟨some 87, AOp.litS false 3 (AV.agg [AV.str [], AV.bool false, AV.bool false]) 1 [(0, AX.t 86)], none⟩,
                ⟨some 88, AOp.append true false 3 24 (AX.t 81) (AX.t 87), none⟩,
                ⟨some 5, AOp.mov (AX.t 88), none⟩] [0, 1, 5])
              (.region [] [⟨some 89, AOp.mov (AX.t 1), none⟩,
                ⟨some 90, AOp.slice (some 2) (AX.t 89) (some (AX.c (AV.int (IntKind.i64) 1))) none none, none⟩,
                ⟨some 1, AOp.mov (AX.t 90), none⟩] [0, 1, 5]))
              (.seq
              (.seq
              (.region [0, 1, 2, 3, 4, 5, 6, 7, 8, 9] [⟨some 14, AOp.mov (AX.t 0), none⟩,
                ⟨some 15, AOp.indexS 2 (AX.t 14) (AX.c (AV.int (IntKind.i64) 0)), none⟩,
                ⟨some 16, AOp.fieldA 1 1 false (AX.t 15), none⟩,
                ⟨some 17, AOp.load false 1 (AX.t 16), none⟩,
                ⟨some 18, AOp.mov (AX.t 1), none⟩,
                ⟨some 19, AOp.indexS 2 (AX.t 18) (AX.c (AV.int (IntKind.i64) 0)), none⟩,
                ⟨some 20, AOp.fieldA 1 1 false (AX.t 19), none⟩,
                ⟨some 21, AOp.load false 1 (AX.t 20), none⟩,
                ⟨some 22, AOp.call 27 [AX.t 17, AX.t 21], none⟩,
                ⟨some 23, AOp.un (UnOp.not) (AX.t 22), none⟩] [0, 1, 5, 23])
              (.cond (AX.t 23)
                (.region [] [⟨some 24, AOp.mov (AX.t 5), none⟩,
                  ⟨some 25, AOp.mov (AX.t 0), none⟩,
                  ⟨some 26, AOp.indexS 2 (AX.t 25) (AX.c (AV.int (IntKind.i64) 0)), none⟩,
                  ⟨some 27, AOp.fieldA 0 1 false (AX.t 26), none⟩,
                  ⟨some 28, AOp.load false 1 (AX.t 27), none⟩,
                  ⟨some 29, AOp.lit [AV.str [], AV.bool false, AV.bool false] [(0, 1, AX.t 28), (1, 1, AX.c (AV.bool true)), (2, 1, AX.c (AV.bool true))], none⟩,
                  ⟨some 30, AOp.litS false 3 (AV.agg [AV.str [], AV.bool false, AV.bool false]) 1 [(0, AX.t 29)], none⟩,
                  ⟨some 31, AOp.append true false 3 24 (AX.t 24) (AX.t 30), none⟩,
                  ⟨some 5, AOp.mov (AX.t 31), none⟩] [0, 1, 5])
                AC.skip))
              (.region [0, 1, 2, 3, 4, 5] [⟨some 32, AOp.mov (AX.t 0), none⟩,
                ⟨some 33, AOp.slice (some 2) (AX.t 32) (some (AX.c (AV.int (IntKind.i64) 1))) none none, none⟩,
                ⟨some 34, AOp.mov (AX.t 1), none⟩,
                ⟨some 35, AOp.slice (some 2) (AX.t 34) (some (AX.c (AV.int (IntKind.i64) 1))) none none, none⟩,
                ⟨some 0, AOp.mov (AX.t 33), none⟩,
                ⟨some 1, AOp.mov (AX.t 35), none⟩] [0, 1, 5])))))))))))
  (.seq
  (.region [] [⟨some 91, AOp.mov (AX.t 5), none⟩,
    ⟨some 4, AOp.mov (AX.t 91), none⟩] [4])
  AC.ret))))⟩

/-- (*silo/judge.court).name (checked) -/
def a58 : AF := ⟨[ARes.t 4],
  (.seq
  (.region [] [⟨some 3, AOp.boxL 10 (AX.t 1), none⟩,
    ⟨some 4, AOp.mov (AX.c (AV.str [])), none⟩] [0, 3])
  (.seq
  (.region [] [⟨some 13, AOp.call 42 [], none⟩,
    ⟨some 5, AOp.mov (AX.t 13), none⟩] [0, 3, 5])
  (.seq
  (.seq
  (.region [] [⟨some 14, AOp.fieldA 2 8 true (AX.t 3), none⟩,
    ⟨some 15, AOp.loadL true 8 (AX.t 14), none⟩,
    ⟨some 16, AOp.mov (AX.c (AV.int (IntKind.i64) 0)), none⟩] [0, 3, 5, 15, 16])
  (.block 0
    (.loop
      (.seq
      (.region [] [⟨some 17, AOp.bin (BinOp.lss) (AX.t 16) (AX.c (AV.int (IntKind.i64) 8)), none⟩] [0, 3, 5, 15, 16, 17])
      (.seq
      (.cond (AX.t 17)
        AC.skip
        (.exit 0))
      (.seq
      (.block 1
        (.seq
        (.region [] [⟨some 18, AOp.indexV 8 1 false (AX.t 15) (AX.t 16), none⟩,
          ⟨some 7, AOp.mov (AX.t 18), none⟩] [0, 3, 5, 7, 15, 16])
        (.seq
        (.region [] [⟨some 19, AOp.mov (AX.t 7), none⟩] [0, 3, 5, 15, 16, 19])
        (.cond (AX.t 19)
          (.region [] [⟨some 20, AOp.mov (AX.t 5), none⟩,
            ⟨some 21, AOp.call 66 [AX.t 20, AX.c (AV.int (IntKind.i64) 1)], none⟩] [0, 3, 5, 15, 16])
          (.region [] [⟨some 22, AOp.mov (AX.t 5), none⟩,
            ⟨some 23, AOp.call 66 [AX.t 22, AX.c (AV.int (IntKind.i64) 0)], none⟩] [0, 3, 5, 15, 16])))))
      (.region [] [⟨some 24, AOp.bin (BinOp.add) (AX.t 16) (AX.c (AV.int (IntKind.i64) 1)), none⟩,
        ⟨some 16, AOp.mov (AX.t 24), none⟩] [0, 3, 5, 15, 16])))))))
  (.seq
  (.region [] [⟨some 25, AOp.mov (AX.t 5), none⟩,
    ⟨some 26, AOp.fieldA 0 2 true (AX.t 3), none⟩,
    ⟨some 27, AOp.fieldA 0 1 false (AX.t 26), none⟩,
    ⟨some 28, AOp.loadL false 1 (AX.t 27), none⟩,
    ⟨some 29, AOp.call 70 [AX.t 25, AX.t 28], none⟩] [0, 3, 5])
  (.seq
  (.seq
  (.region [] [⟨some 30, AOp.fieldA 0 2 true (AX.t 3), none⟩,
    ⟨some 31, AOp.fieldA 1 1 false (AX.t 30), none⟩,
    ⟨some 32, AOp.loadL false 1 (AX.t 31), none⟩,
    ⟨some 33, AOp.lenS (AX.t 32), none⟩,
    ⟨some 34, AOp.mov (AX.c (AV.int (IntKind.i64) 0)), none⟩] [0, 5, 32, 33, 34])
  (.block 2
    (.loop
      (.seq
      (.region [] [⟨some 35, AOp.bin (BinOp.lss) (AX.t 34) (AX.t 33), none⟩] [0, 5, 32, 33, 34, 35])
      (.seq
      (.cond (AX.t 35)
        AC.skip
        (.exit 2))
      (.seq
      (.block 3
        (.seq
        (.region [] [⟨some 36, AOp.indexS 4 (AX.t 32) (AX.t 34), none⟩,
          ⟨some 37, AOp.load true 4 (AX.t 36), none⟩,
          ⟨some 9, AOp.allocL (AV.agg [AV.int (IntKind.i64) 0, AV.bool false, AV.str [], AV.nils]), none⟩,
          ⟨none, AOp.store 4 (AX.t 9) (AX.t 37), none⟩] [0, 5, 9, 32, 33, 34])
        (.seq
        (.seq
        (.region [0, 1, 2, 3, 4, 5, 6, 7, 8, 9, 10, 11] [⟨some 39, AOp.mov (AX.t 0), none⟩,
          ⟨some 40, AOp.nilCheck (AX.t 39), none⟩,
          ⟨some 41, AOp.fieldA 9 1 false (AX.t 40), none⟩,
          ⟨some 42, AOp.load false 1 (AX.t 41), none⟩,
          ⟨some 43, AOp.fieldA 2 1 false (AX.t 9), none⟩,
          ⟨some 44, AOp.loadL false 1 (AX.t 43), none⟩,
          ⟨some 45, AOp.lookup false [CK.s] (AV.int (IntKind.i64) 0) true (AX.t 42) (AX.t 44), none⟩,
          ⟨some 38, AOp.mov (AX.t 45), none⟩,
          ⟨some 46, AOp.extract (AX.t 38) 0, none⟩,
          ⟨some 47, AOp.extract (AX.t 38) 1, none⟩,
          ⟨some 10, AOp.mov (AX.t 46), none⟩,
          ⟨some 11, AOp.mov (AX.t 47), none⟩] [0, 5, 9, 11, 32, 33, 34])
        (.seq
        (.region [] [⟨some 48, AOp.mov (AX.t 11), none⟩,
          ⟨some 49, AOp.un (UnOp.not) (AX.t 48), none⟩] [0, 5, 9, 32, 33, 34, 49])
        (.cond (AX.t 49)
          (.region [0, 1, 2, 3, 4, 5, 6, 7, 8, 9, 10, 11] [⟨some 50, AOp.mov (AX.t 0), none⟩,
            ⟨some 51, AOp.nilCheck (AX.t 50), none⟩,
            ⟨some 52, AOp.fieldA 9 1 false (AX.t 51), none⟩,
            ⟨some 53, AOp.load false 1 (AX.t 52), none⟩,
            ⟨some 54, AOp.fieldA 2 1 false (AX.t 9), none⟩,
            ⟨some 55, AOp.loadL false 1 (AX.t 54), none⟩,
            ⟨some 56, AOp.mov (AX.t 0), none⟩,
            ⟨some 57, AOp.nilCheck (AX.t 56), none⟩,
            ⟨some 58, AOp.fieldA 9 1 false (AX.t 57), none⟩,
            ⟨some 59, AOp.load false 1 (AX.t 58), none⟩,
            ⟨some 60, AOp.lenM (AX.t 59), none⟩,
            ⟨none, AOp.mapUpd false [CK.s] (AX.t 53) (AX.t 55) (AX.t 60), none⟩] [0, 5, 9, 32, 33, 34])
          AC.skip)))
        (.seq
        (.region [0, 1, 2, 3, 4, 5, 6, 7, 8] [⟨some 61, AOp.mov (AX.t 0), none⟩,
          ⟨some 62, AOp.nilCheck (AX.t 61), none⟩,
          ⟨some 63, AOp.fieldA 9 1 false (AX.t 62), none⟩,
          ⟨some 64, AOp.load false 1 (AX.t 63), none⟩,
          ⟨some 65, AOp.fieldA 2 1 false (AX.t 9), none⟩,
          ⟨some 66, AOp.loadL false 1 (AX.t 65), none⟩,
          ⟨some 67, AOp.lookup false [CK.s] (AV.int (IntKind.i64) 0) false (AX.t 64) (AX.t 66), none⟩,
          ⟨some 68, AOp.bin (BinOp.mul) (AX.c (AV.int (IntKind.i64) 2)) (AX.t 67), none⟩,
          ⟨some 12, AOp.mov (AX.t 68), none⟩] [0, 5, 9, 12, 32, 33, 34])
        (.seq
        (.seq
        (.region [] [⟨some 69, AOp.fieldA 1 1 false (AX.t 9), none⟩,
          ⟨some 70, AOp.loadL false 1 (AX.t 69), none⟩] [0, 5, 9, 12, 32, 33, 34, 70])
        (.cond (AX.t 70)
          (.region [] [⟨some 71, AOp.mov (AX.t 12), none⟩,
            ⟨some 72, AOp.bin (BinOp.add) (AX.t 71) (AX.c (AV.int (IntKind.i64) 1)), none⟩,
            ⟨some 12, AOp.mov (AX.t 72), none⟩] [0, 5, 9, 12, 32, 33, 34])
          AC.skip))
        (.seq
        (.region [] [⟨some 73, AOp.mov (AX.t 5), none⟩,
          ⟨some 74, AOp.fieldA 0 1 false (AX.t 9), none⟩,
          ⟨some 75, AOp.loadL false 1 (AX.t 74), none⟩,
          ⟨some 76, AOp.call 70 [AX.t 73, AX.t 75], none⟩] [0, 5, 12, 32, 33, 34])
        (.region [] [⟨some 77, AOp.mov (AX.t 5), none⟩,
          ⟨some 78, AOp.mov (AX.t 12), none⟩,
          ⟨some 79, AOp.call 70 [AX.t 77, AX.t 78], none⟩] [0, 5, 32, 33, 34])))))))
      (.region [] [⟨some 80, AOp.bin (BinOp.add) (AX.t 34) (AX.c (AV.int (IntKind.i64) 1)), none⟩,
        ⟨some 34, AOp.mov (AX.t 80), none⟩] [0, 5, 32, 33, 34])))))))
  (.seq
  (.region [] [⟨some 81, AOp.mov (AX.t 5), none⟩,
    ⟨some 82, AOp.call 46 [AX.t 81], none⟩,
    ⟨some 4, AOp.mov (AX.t 82), none⟩] [4])
  AC.ret))))))⟩

/-- slices.DeleteFunc[[]silo/judge.world,silo/judge.world] (checked) -/
def a59 : AF := ⟨[ARes.t 4],
  (.seq
  (.region [] [⟨some 4, AOp.mov (AX.c (AV.nils)), none⟩] [0, 1])
  (.seq
  (.region [] [⟨some 8, AOp.mov (AX.t 0), none⟩,
    ⟨some 9, AOp.mov (AX.t 1), none⟩,
    ⟨some 10, AOp.call 71 [AX.t 8, AX.t 9], none⟩,
    ⟨some 5, AOp.mov (AX.t 10), none⟩] [0, 1, 5])
  (.seq
  (.seq
  (.region [] [⟨some 11, AOp.mov (AX.t 5), none⟩,
    ⟨some 12, AOp.bin (BinOp.eql) (AX.t 11) (AX.c (AV.int (IntKind.i64) (-1))), none⟩] [0, 1, 5, 12])
  (.cond (AX.t 12)
    (.seq
    (.region [] [⟨some 13, AOp.mov (AX.t 0), none⟩,
      ⟨some 4, AOp.mov (AX.t 13), none⟩] [4])
    AC.ret)
    AC.skip))
  (.seq
  (.seq
  (.region [] [⟨some 14, AOp.mov (AX.t 5), none⟩,
    ⟨some 15, AOp.bin (BinOp.add) (AX.t 14) (AX.c (AV.int (IntKind.i64) 1)), none⟩,
    ⟨some 6, AOp.mov (AX.t 15), none⟩] [0, 1, 5, 6])
  (.block 0
    (.loop
      (.seq
      (.seq
      (.region [] [⟨some 16, AOp.mov (AX.t 6), none⟩,
        ⟨some 17, AOp.mov (AX.t 0), none⟩,
        ⟨some 18, AOp.lenS (AX.t 17), none⟩,
        ⟨some 19, AOp.bin (BinOp.lss) (AX.t 16) (AX.t 18), none⟩] [0, 1, 5, 6, 19])
      (.cond (AX.t 19)
        AC.skip
        (.exit 0)))
      (.seq
      (.block 1
        (.seq
        (.region [] [⟨some 22, AOp.mov (AX.t 0), none⟩,
          ⟨some 23, AOp.mov (AX.t 6), none⟩,
          ⟨some 24, AOp.indexS 10 (AX.t 22) (AX.t 23), none⟩,
          ⟨some 25, AOp.load true 10 (AX.t 24), none⟩,
          ⟨some 7, AOp.allocL (AV.agg [AV.int (IntKind.i64) 0, AV.nils, AV.bool false, AV.bool false, AV.bool false, AV.bool false, AV.bool false, AV.bool false, AV.bool false, AV.bool false]), none⟩,
          ⟨none, AOp.store 10 (AX.t 7) (AX.t 25), none⟩] [0, 1, 5, 6, 7])
        (.seq
        (.region [] [⟨some 26, AOp.mov (AX.t 1), none⟩,
          ⟨some 27, AOp.loadL true 10 (AX.t 7), none⟩,
          ⟨some 28, AOp.callV (AX.t 26) [AX.t 27], none⟩,
          ⟨some 29, AOp.un (UnOp.not) (AX.t 28), none⟩] [0, 1, 5, 6, 7, 29])
        (.cond (AX.t 29)
          (.seq
          (.region [] [⟨some 30, AOp.mov (AX.t 0), none⟩,
            ⟨some 31, AOp.mov (AX.t 5), none⟩,
            ⟨some 32, AOp.loadL true 10 (AX.t 7), none⟩,
            ⟨some 33, AOp.indexS 10 (AX.t 30) (AX.t 31), none⟩,
            ⟨none, AOp.store 10 (AX.t 33) (AX.t 32), none⟩] [0, 1, 5, 6])
          (.region [] [⟨some 34, AOp.mov (AX.t 5), none⟩,
            ⟨some 35, AOp.bin (BinOp.add) (AX.t 34) (AX.c (AV.int (IntKind.i64) 1)), none⟩,
            ⟨some 5, AOp.mov (AX.t 35), none⟩] [0, 1, 5, 6]))
          AC.skip))))
      (.region [] [⟨some 20, AOp.mov (AX.t 6), none⟩,
        ⟨some 21, AOp.bin (BinOp.add) (AX.t 20) (AX.c (AV.int (IntKind.i64) 1)), none⟩,
        ⟨some 6, AOp.mov (AX.t 21), none⟩] [0, 1, 5, 6]))))))
  (.seq
  (.region [] [⟨some 36, AOp.mov (AX.t 0), none⟩,
    ⟨some 37, AOp.mov (AX.t 5), none⟩,
    ⟨some 38, AOp.slice (some 10) (AX.t 36) (some (AX.t 37)) none none, none⟩,
    ⟨none, AOp.clearS (AV.agg [AV.int (IntKind.i64) 0, AV.nils, AV.bool false, AV.bool false, AV.bool false, AV.bool false, AV.bool false, AV.bool false, AV.bool false, AV.bool false]) (AX.t 38), none⟩] [0, 5])
  (.seq
  (.region [] [⟨some 39, AOp.mov (AX.t 0), none⟩,
    ⟨some 40, AOp.mov (AX.t 5), none⟩,
    ⟨some 41, AOp.slice (some 10) (AX.t 39) none (some (AX.t 40)) none, none⟩,
    ⟨some 4, AOp.mov (AX.t 41), none⟩] [4])
  AC.ret))))))⟩

/-- (*silo/judge.court).merge$1 (checked) -/
def a60 : AF := ⟨[ARes.t 4],
  (.seq
  (.region [] [⟨some 3, AOp.boxL 10 (AX.t 0), none⟩,
    ⟨some 4, AOp.mov (AX.c (AV.bool false)), none⟩] [1, 2, 3])
  (.seq
  (.region [] [⟨some 7, AOp.load false 1 (AX.t 1), none⟩,
    ⟨some 8, AOp.loadL true 10 (AX.t 3), none⟩,
    ⟨some 9, AOp.call 58 [AX.t 7, AX.t 8], none⟩,
    ⟨some 5, AOp.mov (AX.t 9), none⟩] [2, 5])
  (.seq
  (.region [] [⟨some 10, AOp.load false 1 (AX.t 2), none⟩,
    ⟨some 11, AOp.mov (AX.t 5), none⟩,
    ⟨some 12, AOp.lookup false [CK.s] (AV.bool false) false (AX.t 10) (AX.t 11), none⟩,
    ⟨some 6, AOp.mov (AX.t 12), none⟩] [2, 5, 6])
  (.seq
  (.region [] [⟨some 13, AOp.load false 1 (AX.t 2), none⟩,
    ⟨some 14, AOp.mov (AX.t 5), none⟩,
    ⟨none, AOp.mapUpd false [CK.s] (AX.t 13) (AX.t 14) (AX.c (AV.bool true)), none⟩] [6])
  (.seq
  (.region [] [⟨some 15, AOp.mov (AX.t 6), none⟩,
    ⟨some 4, AOp.mov (AX.t 15), none⟩] [4])
  AC.ret)))))⟩

/-- silo/tree.sorted (checked) -/
def a61 : AF := ⟨[ARes.t 2],
  (.seq
  (.region [] [⟨some 2, AOp.mov (AX.c (AV.nils)), none⟩] [0])
  (.seq
  (.region [] [⟨some 4, AOp.mov (AX.t 0), none⟩,
    ⟨some 5, AOp.call 72 [AX.t 4], none⟩,
    ⟨some 3, AOp.mov (AX.t 5), none⟩] [3])
  (.seq
  (.region [] [⟨some 6, AOp.mov (AX.t 3), none⟩,
    ⟨some 7, AOp.call 73 [AX.t 6, AX.c (AV.fn (Fn.func 74) [] [])], none⟩] [3])
  (.seq
  (.region [] [⟨some 8, AOp.mov (AX.t 3), none⟩,
    ⟨some 2, AOp.mov (AX.t 8), none⟩] [2])
  AC.ret))))⟩

/-- silo/tree.paths (checked) -/
def a62 : AF := ⟨[ARes.t 2],
  (.seq
  (.region [] [⟨some 2, AOp.mov (AX.c (AV.bool false)), none⟩] [0])
  (.seq
  (.region [] [⟨some 10, AOp.mkMap, none⟩,
    ⟨some 3, AOp.mov (AX.t 10), none⟩] [0, 3])
  (.seq
  (.seq
  (.region [] [⟨some 11, AOp.mov (AX.t 0), none⟩,
    ⟨some 12, AOp.lenS (AX.t 11), none⟩,
    ⟨some 13, AOp.mov (AX.c (AV.int (IntKind.i64) 0)), none⟩] [0, 3, 11, 12, 13])
  (.block 0
    (.loop
      (.seq
      (.region [] [⟨some 14, AOp.bin (BinOp.lss) (AX.t 13) (AX.t 12), none⟩] [0, 3, 11, 12, 13, 14])
      (.seq
      (.cond (AX.t 14)
        AC.skip
        (.exit 0))
      (.seq
      (.block 1
        (.seq
        (.region [] [⟨some 15, AOp.mov (AX.t 13), none⟩,
          ⟨some 16, AOp.indexS 1 (AX.t 11) (AX.t 13), none⟩,
          ⟨some 17, AOp.load false 1 (AX.t 16), none⟩,
          ⟨some 4, AOp.mov (AX.t 15), none⟩,
          ⟨some 5, AOp.mov (AX.t 17), none⟩] [0, 3, 4, 5, 11, 12, 13])
        (.seq
        (.seq
        (.region [] [⟨some 18, AOp.mov (AX.t 5), none⟩,
          ⟨some 19, AOp.call 75 [AX.t 18], none⟩,
          ⟨some 20, AOp.un (UnOp.not) (AX.t 19), none⟩,
          ⟨some 21, AOp.mov (AX.t 20), none⟩,
          ⟨some 22, AOp.mov (AX.t 4), some (21, false)⟩,
          ⟨some 23, AOp.bin (BinOp.gtr) (AX.t 22) (AX.c (AV.int (IntKind.i64) 0)), some (21, false)⟩,
          ⟨some 24, AOp.mov (AX.t 23), some (21, false)⟩,
          ⟨some 25, AOp.mov (AX.t 0), some (24, true)⟩,
          ⟨some 26, AOp.mov (AX.t 4), some (24, true)⟩,
          ⟨some 27, AOp.bin (BinOp.sub) (AX.t 26) (AX.c (AV.int (IntKind.i64) 1)), some (24, true)⟩,
          ⟨some 28, AOp.indexS 1 (AX.t 25) (AX.t 27), some (24, true)⟩,
          ⟨some 29, AOp.load false 1 (AX.t 28), some (24, true)⟩,
          ⟨some 30, AOp.mov (AX.t 5), some (24, true)⟩,
          ⟨some 31, AOp.bin (BinOp.geq) (AX.t 29) (AX.t 30), some (24, true)⟩,
          ⟨some 32, AOp.pick (AX.t 24) (AX.t 31) (AX.c (AV.bool false)), some (21, false)⟩,
          ⟨some 33, AOp.pick (AX.t 21) (AX.c (AV.bool true)) (AX.t 32), none⟩] [0, 3, 5, 11, 12, 13, 33])
        (.cond (AX.t 33)
          (.seq
          (.region [] [⟨some 2, AOp.mov (AX.c (AV.bool false)), none⟩] [2])
          AC.ret)
          AC.skip))
        (.region [] [⟨some 34, AOp.mov (AX.t 3), none⟩,
          ⟨some 35, AOp.mov (AX.t 5), none⟩,
          ⟨none, AOp.mapUpd false [CK.s] (AX.t 34) (AX.t 35) (AX.c (AV.bool true)), none⟩] [0, 3, 11, 12, 13]))))
      (.region [] [⟨some 36, AOp.bin (BinOp.add) (AX.t 13) (AX.c (AV.int (IntKind.i64) 1)), none⟩,
        ⟨some 13, AOp.mov (AX.t 36), none⟩] [0, 3, 11, 12, 13])))))))
  (.seq
  (.seq
  (.region [] [⟨some 37, AOp.mov (AX.t 0), none⟩,
    ⟨some 38, AOp.lenS (AX.t 37), none⟩,
    ⟨some 39, AOp.mov (AX.c (AV.int (IntKind.i64) 0)), none⟩] [0, 3, 37, 38, 39])
  (.block 2
    (.loop
      (.seq
      (.region [] [⟨some 40, AOp.bin (BinOp.lss) (AX.t 39) (AX.t 38), none⟩] [0, 3, 37, 38, 39, 40])
      (.seq
      (.cond (AX.t 40)
        AC.skip
        (.exit 2))
      (.seq
      (.block 3
        (.seq
        (.region [] [⟨some 41, AOp.indexS 1 (AX.t 37) (AX.t 39), none⟩,
          ⟨some 42, AOp.load false 1 (AX.t 41), none⟩,
          ⟨some 7, AOp.mov (AX.t 42), none⟩] [0, 3, 7, 37, 38, 39])
        (.seq
        (.region [] [⟨some 43, AOp.mov (AX.t 7), none⟩,
          ⟨some 44, AOp.strToBytes false (AX.t 43), none⟩,
          ⟨some 45, AOp.lenS (AX.t 44), none⟩,
          ⟨some 46, AOp.mov (AX.c (AV.int (IntKind.i64) 0)), none⟩] [0, 3, 7, 37, 38, 39, 44, 45, 46])
        (.block 4
          (.loop
            (.seq
            (.region [] [⟨some 47, AOp.bin (BinOp.lss) (AX.t 46) (AX.t 45), none⟩] [0, 3, 7, 37, 38, 39, 44, 45, 46, 47])
            (.seq
            (.cond (AX.t 47)
              AC.skip
              (.exit 4))
            (.seq
            (.block 5
              (.seq
              (.region [] [⟨some 48, AOp.mov (AX.t 46), none⟩,
                ⟨some 49, AOp.indexS 1 (AX.t 44) (AX.t 46), none⟩,
                ⟨some 50, AOp.load false 1 (AX.t 49), none⟩,
                ⟨some 8, AOp.mov (AX.t 48), none⟩,
                ⟨some 9, AOp.mov (AX.t 50), none⟩] [0, 3, 7, 8, 9, 37, 38, 39, 44, 45, 46])
              (.seq
              (.region [] [⟨some 51, AOp.mov (AX.t 9), none⟩,
                ⟨some 52, AOp.bin (BinOp.eql) (AX.t 51) (AX.c (AV.int (IntKind.u8) 47)), none⟩,
                ⟨some 53, AOp.mov (AX.t 52), none⟩,
                ⟨some 54, AOp.mov (AX.t 3), some (53, true)⟩,
                ⟨some 55, AOp.mov (AX.t 7), some (53, true)⟩,
                ⟨some 56, AOp.mov (AX.t 8), some (53, true)⟩,
                ⟨some 57, AOp.slice none (AX.t 55) none (some (AX.t 56)) none, some (53, true)⟩,
                ⟨some 58, AOp.lookup false [CK.s] (AV.bool false) false (AX.t 54) (AX.t 57), some (53, true)⟩,
                ⟨some 59, AOp.pick (AX.t 53) (AX.t 58) (AX.c (AV.bool false)), none⟩] [0, 3, 7, 37, 38, 39, 44, 45, 46, 59])
              (.cond (AX.t 59)
                (.seq
                (.region [] [⟨some 2, AOp.mov (AX.c (AV.bool false)), none⟩] [2])
                AC.ret)
                AC.skip))))
            (.region [] [⟨some 60, AOp.bin (BinOp.add) (AX.t 46) (AX.c (AV.int (IntKind.i64) 1)), none⟩,
              ⟨some 46, AOp.mov (AX.t 60), none⟩] [0, 3, 7, 37, 38, 39, 44, 45, 46])))))))))
      (.region [] [⟨some 61, AOp.bin (BinOp.add) (AX.t 39) (AX.c (AV.int (IntKind.i64) 1)), none⟩,
        ⟨some 39, AOp.mov (AX.t 61), none⟩] [0, 3, 37, 38, 39])))))))
  (.seq
  (.region [] [⟨some 62, AOp.mov (AX.t 0), none⟩,
    ⟨some 63, AOp.lenS (AX.t 62), none⟩,
    ⟨some 64, AOp.bin (BinOp.leq) (AX.t 63) (AX.c (AV.int (IntKind.i64) 64)), none⟩,
    ⟨some 2, AOp.mov (AX.t 64), none⟩] [2])
  AC.ret)))))⟩

/-- slices.pdqsortCmpFunc[silo/api.File] (checked) -/
def a63 : AF := ⟨[],
  (.seq
  (.region [] [⟨some 10, AOp.mov (AX.c (AV.bool true)), none⟩] [0, 1, 2, 3, 4, 10])
  (.seq
  (.region [] [⟨some 11, AOp.mov (AX.c (AV.bool true)), none⟩] [0, 1, 2, 3, 4, 10, 11])
  (.block 0
    (.loop
      (.block 1
        (.seq
        (.region [] [⟨some 21, AOp.mov (AX.t 2), none⟩,
          ⟨some 22, AOp.mov (AX.t 1), none⟩,
          ⟨some 23, AOp.bin (BinOp.sub) (AX.t 21) (AX.t 22), none⟩,
          ⟨some 12, AOp.mov (AX.t 23), none⟩] [0, 1, 2, 3, 4, 10, 11, 12])
        (.seq
        (.seq
        (.region [] [⟨some 24, AOp.mov (AX.t 12), none⟩,
          ⟨some 25, AOp.bin (BinOp.leq) (AX.t 24) (AX.c (AV.int (IntKind.i64) 12)), none⟩] [0, 1, 2, 3, 4, 10, 11, 12, 25])
        (.cond (AX.t 25)
          (.seq
          (.region [] [⟨some 26, AOp.mov (AX.t 0), none⟩,
            ⟨some 27, AOp.mov (AX.t 1), none⟩,
            ⟨some 28, AOp.mov (AX.t 2), none⟩,
            ⟨some 29, AOp.mov (AX.t 4), none⟩,
            ⟨some 30, AOp.call 76 [AX.t 26, AX.t 27, AX.t 28, AX.t 29], none⟩] [])
          AC.ret)
          AC.skip))
        (.seq
        (.seq
        (.region [] [⟨some 31, AOp.mov (AX.t 3), none⟩,
          ⟨some 32, AOp.bin (BinOp.eql) (AX.t 31) (AX.c (AV.int (IntKind.i64) 0)), none⟩] [0, 1, 2, 3, 4, 10, 11, 12, 32])
        (.cond (AX.t 32)
          (.seq
          (.region [] [⟨some 33, AOp.mov (AX.t 0), none⟩,
            ⟨some 34, AOp.mov (AX.t 1), none⟩,
            ⟨some 35, AOp.mov (AX.t 2), none⟩,
            ⟨some 36, AOp.mov (AX.t 4), none⟩,
            ⟨some 37, AOp.call 77 [AX.t 33, AX.t 34, AX.t 35, AX.t 36], none⟩] [])
          AC.ret)
          AC.skip))
        (.seq
        (.seq
        (.region [] [⟨some 38, AOp.mov (AX.t 10), none⟩,
          ⟨some 39, AOp.un (UnOp.not) (AX.t 38), none⟩] [0, 1, 2, 3, 4, 10, 11, 12, 39])
        (.cond (AX.t 39)
          (.seq
          (.region [] [⟨some 40, AOp.mov (AX.t 0), none⟩,
            ⟨some 41, AOp.mov (AX.t 1), none⟩,
            ⟨some 42, AOp.mov (AX.t 2), none⟩,
            ⟨some 43, AOp.mov (AX.t 4), none⟩,
            ⟨some 44, AOp.call 78 [AX.t 40, AX.t 41, AX.t 42, AX.t 43], none⟩] [0, 1, 2, 3, 4, 10, 11, 12])
          (.region [] [⟨some 45, AOp.mov (AX.t 3), none⟩,
            ⟨some 46, AOp.bin (BinOp.sub) (AX.t 45) (AX.c (AV.int (IntKind.i64) 1)), none⟩,
            ⟨some 3, AOp.mov (AX.t 46), none⟩] [0, 1, 2, 3, 4, 10, 11, 12]))
          AC.skip))
        (.seq
        (.region [] [⟨some 48, AOp.mov (AX.t 0), none⟩,
          ⟨some 49, AOp.mov (AX.t 1), none⟩,
          ⟨some 50, AOp.mov (AX.t 2), none⟩,
          ⟨some 51, AOp.mov (AX.t 4), none⟩,
          ⟨some 52, AOp.call 79 [AX.t 48, AX.t 49, AX.t 50, AX.t 51], none⟩,
          ⟨some 47, AOp.mov (AX.t 52), none⟩,
          ⟨some 53, AOp.extract (AX.t 47) 0, none⟩,
          ⟨some 54, AOp.extract (AX.t 47) 1, none⟩,
          ⟨some 13, AOp.mov (AX.t 53), none⟩,
          ⟨some 14, AOp.mov (AX.t 54), none⟩] [0, 1, 2, 3, 4, 10, 11, 12, 13, 14])
        (.seq
        (.seq
        (.region [] [⟨some 55, AOp.mov (AX.t 14), none⟩,
          ⟨some 56, AOp.bin (BinOp.eql) (AX.t 55) (AX.c (AV.int (IntKind.i64) 2)), none⟩] [0, 1, 2, 3, 4, 10, 11, 12, 13, 14, 56])
        (.cond (AX.t 56)
          (.seq
          (.region [] [⟨some 57, AOp.mov (AX.t 0), none⟩,
            ⟨some 58, AOp.mov (AX.t 1), none⟩,
            ⟨some 59, AOp.mov (AX.t 2), none⟩,
            ⟨some 60, AOp.mov (AX.t 4), none⟩,
            ⟨some 61, AOp.call 80 [AX.t 57, AX.t 58, AX.t 59, AX.t 60], none⟩] [0, 1, 2, 3, 4, 10, 11, 12, 13])
          (.seq
          (.region [] [⟨some 62, AOp.mov (AX.t 2), none⟩,
            ⟨some 63, AOp.bin (BinOp.sub) (AX.t 62) (AX.c (AV.int (IntKind.i64) 1)), none⟩,
            ⟨some 64, AOp.mov (AX.t 13), none⟩,
            ⟨some 65, AOp.mov (AX.t 1), none⟩,
            ⟨some 66, AOp.bin (BinOp.sub) (AX.t 64) (AX.t 65), none⟩,
            ⟨some 67, AOp.bin (BinOp.sub) (AX.t 63) (AX.t 66), none⟩,
            ⟨some 13, AOp.mov (AX.t 67), none⟩] [0, 1, 2, 3, 4, 10, 11, 12, 13])
          (.region [] [⟨some 14, AOp.mov (AX.c (AV.int (IntKind.i64) 1)), none⟩] [0, 1, 2, 3, 4, 10, 11, 12, 13, 14])))
          AC.skip))
        (.seq
        (.seq
        (.region [] [⟨some 68, AOp.mov (AX.t 10), none⟩,
          ⟨some 69, AOp.mov (AX.t 68), none⟩,
          ⟨some 70, AOp.mov (AX.t 11), some (69, true)⟩,
          ⟨some 71, AOp.pick (AX.t 69) (AX.t 70) (AX.c (AV.bool false)), none⟩,
          ⟨some 72, AOp.mov (AX.t 71), none⟩,
          ⟨some 73, AOp.mov (AX.t 14), some (72, true)⟩,
          ⟨some 74, AOp.bin (BinOp.eql) (AX.t 73) (AX.c (AV.int (IntKind.i64) 1)), some (72, true)⟩,
          ⟨some 75, AOp.pick (AX.t 72) (AX.t 74) (AX.c (AV.bool false)), none⟩] [0, 1, 2, 3, 4, 10, 11, 12, 13, 75])
        (.cond (AX.t 75)
          (.seq
          (.region [] [⟨some 76, AOp.mov (AX.t 0), none⟩,
            ⟨some 77, AOp.mov (AX.t 1), none⟩,
            ⟨some 78, AOp.mov (AX.t 2), none⟩,
            ⟨some 79, AOp.mov (AX.t 4), none⟩,
            ⟨some 80, AOp.call 81 [AX.t 76, AX.t 77, AX.t 78, AX.t 79], none⟩] [0, 1, 2, 3, 4, 10, 11, 12, 13, 80])
          (.cond (AX.t 80)
            AC.ret
            AC.skip))
          AC.skip))
        (.seq
        (.seq
        (.region [0, 1, 2, 3, 4, 5, 6, 7, 8, 9, 10, 11, 12, 13, 14, 15, 16] [⟨some 81, AOp.mov (AX.t 1), none⟩,
          ⟨some 82, AOp.bin (BinOp.gtr) (AX.t 81) (AX.c (AV.int (IntKind.i64) 0)), none⟩,
          ⟨some 83, AOp.mov (AX.t 82), none⟩,
          ⟨some 84, AOp.mov (AX.t 4), some (83, true)⟩,
          ⟨some 85, AOp.mov (AX.t 0), some (83, true)⟩,
          ⟨some 86, AOp.mov (AX.t 1), some (83, true)⟩,
          ⟨some 87, AOp.bin (BinOp.sub) (AX.t 86) (AX.c (AV.int (IntKind.i64) 1)), some (83, true)⟩,
          ⟨some 88, AOp.indexS 2 (AX.t 85) (AX.t 87), some (83, true)⟩,
          ⟨some 89, AOp.load true 2 (AX.t 88), some (83, true)⟩,
          ⟨some 90, AOp.mov (AX.t 0), some (83, true)⟩,
          ⟨some 91, AOp.mov (AX.t 13), some (83, true)⟩,
          ⟨some 92, AOp.indexS 2 (AX.t 90) (AX.t 91), some (83, true)⟩,
          ⟨some 93, AOp.load true 2 (AX.t 92), some (83, true)⟩,
          ⟨some 94, AOp.callV (AX.t 84) [AX.t 89, AX.t 93], some (83, true)⟩,
          ⟨some 95, AOp.bin (BinOp.lss) (AX.t 94) (AX.c (AV.int (IntKind.i64) 0)), some (83, true)⟩,
          ⟨some 96, AOp.un (UnOp.not) (AX.t 95), some (83, true)⟩,
          ⟨some 97, AOp.pick (AX.t 83) (AX.t 96) (AX.c (AV.bool false)), none⟩] [0, 1, 2, 3, 4, 10, 11, 12, 13, 97])
        (.cond (AX.t 97)
          (.seq
          (.region [] [⟨some 98, AOp.mov (AX.t 0), none⟩,
            ⟨some 99, AOp.mov (AX.t 1), none⟩,
            ⟨some 100, AOp.mov (AX.t 2), none⟩,
            ⟨some 101, AOp.mov (AX.t 13), none⟩,
            ⟨some 102, AOp.mov (AX.t 4), none⟩,
            ⟨some 103, AOp.call 82 [AX.t 98, AX.t 99, AX.t 100, AX.t 101, AX.t 102], none⟩,
            ⟨some 15, AOp.mov (AX.t 103), none⟩] [0, 2, 3, 4, 10, 11, 15])
          (.seq
          (.region [] [⟨some 104, AOp.mov (AX.t 15), none⟩,
            ⟨some 1, AOp.mov (AX.t 104), none⟩] [0, 1, 2, 3, 4, 10, 11])
          (.exit 1)))
          AC.skip))
        (.seq
        (.region [] [⟨some 106, AOp.mov (AX.t 0), none⟩,
          ⟨some 107, AOp.mov (AX.t 1), none⟩,
          ⟨some 108, AOp.mov (AX.t 2), none⟩,
          ⟨some 109, AOp.mov (AX.t 13), none⟩,
          ⟨some 110, AOp.mov (AX.t 4), none⟩,
          ⟨some 111, AOp.call 83 [AX.t 106, AX.t 107, AX.t 108, AX.t 109, AX.t 110], none⟩,
          ⟨some 105, AOp.mov (AX.t 111), none⟩,
          ⟨some 112, AOp.extract (AX.t 105) 0, none⟩,
          ⟨some 113, AOp.extract (AX.t 105) 1, none⟩,
          ⟨some 16, AOp.mov (AX.t 112), none⟩,
          ⟨some 17, AOp.mov (AX.t 113), none⟩] [0, 1, 2, 3, 4, 12, 16, 17])
        (.seq
        (.region [] [⟨some 114, AOp.mov (AX.t 17), none⟩,
          ⟨some 11, AOp.mov (AX.t 114), none⟩] [0, 1, 2, 3, 4, 11, 12, 16])
        (.seq
        (.region [] [⟨some 115, AOp.mov (AX.t 16), none⟩,
          ⟨some 116, AOp.mov (AX.t 1), none⟩,
          ⟨some 117, AOp.bin (BinOp.sub) (AX.t 115) (AX.t 116), none⟩,
          ⟨some 118, AOp.mov (AX.t 2), none⟩,
          ⟨some 119, AOp.mov (AX.t 16), none⟩,
          ⟨some 120, AOp.bin (BinOp.sub) (AX.t 118) (AX.t 119), none⟩,
          ⟨some 18, AOp.mov (AX.t 117), none⟩,
          ⟨some 19, AOp.mov (AX.t 120), none⟩] [0, 1, 2, 3, 4, 11, 12, 16, 18, 19])
        (.seq
        (.region [] [⟨some 121, AOp.mov (AX.t 12), none⟩,
          ⟨some 122, AOp.bin (BinOp.quo) (AX.t 121) (AX.c (AV.int (IntKind.i64) 8)), none⟩,
          ⟨some 20, AOp.mov (AX.t 122), none⟩] [0, 1, 2, 3, 4, 11, 16, 18, 19, 20])
        (.seq
        (.region [] [⟨some 123, AOp.mov (AX.t 18), none⟩,
          ⟨some 124, AOp.mov (AX.t 19), none⟩,
          ⟨some 125, AOp.bin (BinOp.lss) (AX.t 123) (AX.t 124), none⟩] [0, 1, 2, 3, 4, 11, 16, 18, 19, 20, 125])
        (.cond (AX.t 125)
          (.seq
          (.region [] [⟨some 126, AOp.mov (AX.t 18), none⟩,
            ⟨some 127, AOp.mov (AX.t 20), none⟩,
            ⟨some 128, AOp.bin (BinOp.geq) (AX.t 126) (AX.t 127), none⟩,
            ⟨some 10, AOp.mov (AX.t 128), none⟩] [0, 1, 2, 3, 4, 10, 11, 16])
          (.seq
          (.region [] [⟨some 129, AOp.mov (AX.t 0), none⟩,
            ⟨some 130, AOp.mov (AX.t 1), none⟩,
            ⟨some 131, AOp.mov (AX.t 16), none⟩,
            ⟨some 132, AOp.mov (AX.t 3), none⟩,
            ⟨some 133, AOp.mov (AX.t 4), none⟩,
            ⟨some 134, AOp.call 63 [AX.t 129, AX.t 130, AX.t 131, AX.t 132, AX.t 133], none⟩] [0, 2, 3, 4, 10, 11, 16])
          (.region [] [⟨some 135, AOp.mov (AX.t 16), none⟩,
            ⟨some 136, AOp.bin (BinOp.add) (AX.t 135) (AX.c (AV.int (IntKind.i64) 1)), none⟩,
            ⟨some 1, AOp.mov (AX.t 136), none⟩] [0, 1, 2, 3, 4, 10, 11])))
          (.seq
          (.region [] [⟨some 137, AOp.mov (AX.t 19), none⟩,
            ⟨some 138, AOp.mov (AX.t 20), none⟩,
            ⟨some 139, AOp.bin (BinOp.geq) (AX.t 137) (AX.t 138), none⟩,
            ⟨some 10, AOp.mov (AX.t 139), none⟩] [0, 1, 2, 3, 4, 10, 11, 16])
          (.seq
          (.region [] [⟨some 140, AOp.mov (AX.t 0), none⟩,
            ⟨some 141, AOp.mov (AX.t 16), none⟩,
            ⟨some 142, AOp.bin (BinOp.add) (AX.t 141) (AX.c (AV.int (IntKind.i64) 1)), none⟩,
            ⟨some 143, AOp.mov (AX.t 2), none⟩,
            ⟨some 144, AOp.mov (AX.t 3), none⟩,
            ⟨some 145, AOp.mov (AX.t 4), none⟩,
            ⟨some 146, AOp.call 63 [AX.t 140, AX.t 142, AX.t 143, AX.t 144, AX.t 145], none⟩] [0, 1, 3, 4, 10, 11, 16])
          (.region [] [⟨some 147, AOp.mov (AX.t 16), none⟩,
            ⟨some 2, AOp.mov (AX.t 147), none⟩] [0, 1, 2, 3, 4, 10, 11]))))))))))))))))))))))⟩

/-- math/bits.Len (checked) -/
def a64 : AF := ⟨[ARes.t 2],
  (.seq
  (.region [] [⟨some 2, AOp.mov (AX.c (AV.int (IntKind.i64) 0)), none⟩] [0])
  (.seq
  (.cond (AX.c (AV.bool false))
    (.seq
    (.region [] [⟨some 3, AOp.mov (AX.t 0), none⟩,
      ⟨some 4, AOp.convI (IntKind.u32) (AX.t 3), none⟩,
      ⟨some 5, AOp.call 84 [AX.t 4], none⟩,
      ⟨some 2, AOp.mov (AX.t 5), none⟩] [2])
    AC.ret)
    AC.skip)
  (.seq
  (.region [] [⟨some 6, AOp.mov (AX.t 0), none⟩,
    ⟨some 7, AOp.call 85 [AX.t 6], none⟩,
    ⟨some 2, AOp.mov (AX.t 7), none⟩] [2])
  AC.ret)))⟩

/-- internal/bytealg.CompareString (checked) -/
def a65 : AF := ⟨[ARes.t 4],
  (.seq
  (.region [] [⟨some 4, AOp.mov (AX.c (AV.int (IntKind.i64) 0)), none⟩] [0, 1])
  (.seq
  (.region [] [⟨some 5, AOp.mov (AX.t 0), none⟩,
    ⟨some 6, AOp.mov (AX.t 1), none⟩,
    ⟨some 7, AOp.call 86 [AX.t 5, AX.t 6], none⟩,
    ⟨some 4, AOp.mov (AX.t 7), none⟩] [4])
  AC.ret))⟩

/-- (*silo/six.Writer).Count (checked) -/
def a66 : AF := ⟨[ARes.t 4],
  (.seq
  (.region [] [⟨some 4, AOp.mov (AX.c (AV.int (IntKind.i64) 0)), none⟩] [0, 1])
  (.seq
  (.seq
  (.region [] [⟨some 5, AOp.mov (AX.t 0), none⟩,
    ⟨some 6, AOp.eqNil false (NK.p) (AX.t 5), none⟩,
    ⟨some 7, AOp.mov (AX.t 6), none⟩,
    ⟨some 8, AOp.mov (AX.t 1), some (7, false)⟩,
    ⟨some 9, AOp.bin (BinOp.lss) (AX.t 8) (AX.c (AV.int (IntKind.i64) 0)), some (7, false)⟩,
    ⟨some 10, AOp.pick (AX.t 7) (AX.c (AV.bool true)) (AX.t 9), none⟩] [0, 1, 10])
  (.cond (AX.t 10)
    (.seq
    (.region [] [⟨some 4, AOp.mov (AX.c (AV.int (IntKind.i64) 1)), none⟩] [4])
    AC.ret)
    AC.skip))
  (.seq
  (.region [] [⟨some 11, AOp.mov (AX.t 0), none⟩,
    ⟨some 12, AOp.mov (AX.t 0), none⟩,
    ⟨some 13, AOp.nilCheck (AX.t 12), none⟩,
    ⟨some 14, AOp.fieldA 0 1 false (AX.t 13), none⟩,
    ⟨some 15, AOp.load false 1 (AX.t 14), none⟩,
    ⟨some 16, AOp.mov (AX.t 1), none⟩,
    ⟨some 17, AOp.convI (IntKind.u64) (AX.t 16), none⟩,
    ⟨some 18, AOp.call 67 [AX.t 15, AX.t 17, AX.c (AV.int (IntKind.u8) 64)], none⟩,
    ⟨some 19, AOp.nilCheck (AX.t 11), none⟩,
    ⟨some 20, AOp.fieldA 0 1 false (AX.t 19), none⟩,
    ⟨none, AOp.store 1 (AX.t 20) (AX.t 18), none⟩] [])
  (.seq
  (.region [] [⟨some 4, AOp.mov (AX.c (AV.int (IntKind.i64) 0)), none⟩] [4])
  AC.ret))))⟩

/-- silo/six.groups (checked) -/
def a67 : AF := ⟨[ARes.t 6],
  (.seq
  (.region [] [⟨some 6, AOp.mov (AX.c (AV.nils)), none⟩] [0, 1, 2])
  (.seq
  (.region [] [⟨some 7, AOp.mov (AX.c (AV.int (IntKind.i64) 0)), none⟩] [0, 1, 2, 7])
  (.seq
  (.block 0
    (.loop
      (.seq
      (.seq
      (.region [] [⟨some 8, AOp.mov (AX.t 1), none⟩,
        ⟨some 9, AOp.mov (AX.t 7), none⟩,
        ⟨some 10, AOp.bin (BinOp.shr) (AX.t 8) (AX.t 9), none⟩,
        ⟨some 11, AOp.bin (BinOp.gtr) (AX.t 10) (AX.c (AV.int (IntKind.u64) 63)), none⟩] [0, 1, 2, 7, 11])
      (.cond (AX.t 11)
        AC.skip
        (.exit 0)))
      (.block 1
        (.region [] [⟨some 12, AOp.mov (AX.t 7), none⟩,
          ⟨some 13, AOp.bin (BinOp.add) (AX.t 12) (AX.c (AV.int (IntKind.i64) 6)), none⟩,
          ⟨some 7, AOp.mov (AX.t 13), none⟩] [0, 1, 2, 7])))))
  (.seq
  (.block 2
    (.loop
      (.seq
      (.seq
      (.region [] [⟨some 14, AOp.mov (AX.t 7), none⟩,
        ⟨some 15, AOp.bin (BinOp.gtr) (AX.t 14) (AX.c (AV.int (IntKind.i64) 0)), none⟩] [0, 1, 2, 7, 15])
      (.cond (AX.t 15)
        AC.skip
        (.exit 2)))
      (.seq
      (.block 3
        (.region [] [⟨some 18, AOp.mov (AX.t 0), none⟩,
          ⟨some 19, AOp.mov (AX.t 1), none⟩,
          ⟨some 20, AOp.mov (AX.t 7), none⟩,
          ⟨some 21, AOp.bin (BinOp.shr) (AX.t 19) (AX.t 20), none⟩,
          ⟨some 22, AOp.bin (BinOp.and) (AX.t 21) (AX.c (AV.int (IntKind.u64) 63)), none⟩,
          ⟨some 23, AOp.convI (IntKind.u8) (AX.t 22), none⟩,
          ⟨some 24, AOp.litS false 1 (AV.int (IntKind.u8) 0) 1 [(0, AX.t 23)], none⟩,
          ⟨some 25, AOp.append true false 1 1 (AX.t 18) (AX.t 24), none⟩,
          ⟨some 0, AOp.mov (AX.t 25), none⟩] [0, 1, 2, 7]))
      (.region [] [⟨some 16, AOp.mov (AX.t 7), none⟩,
        ⟨some 17, AOp.bin (BinOp.sub) (AX.t 16) (AX.c (AV.int (IntKind.i64) 6)), none⟩,
        ⟨some 7, AOp.mov (AX.t 17), none⟩] [0, 1, 2, 7])))))
  (.seq
  (.region [] [⟨some 26, AOp.mov (AX.t 0), none⟩,
    ⟨some 27, AOp.mov (AX.t 2), none⟩,
    ⟨some 28, AOp.mov (AX.t 1), none⟩,
    ⟨some 29, AOp.bin (BinOp.and) (AX.t 28) (AX.c (AV.int (IntKind.u64) 63)), none⟩,
    ⟨some 30, AOp.convI (IntKind.u8) (AX.t 29), none⟩,
    ⟨some 31, AOp.bin (BinOp.add) (AX.t 27) (AX.t 30), none⟩,
    ⟨some 32, AOp.litS false 1 (AV.int (IntKind.u8) 0) 1 [(0, AX.t 31)], none⟩,
    ⟨some 33, AOp.append true false 1 1 (AX.t 26) (AX.t 32), none⟩,
    ⟨some 6, AOp.mov (AX.t 33), none⟩] [6])
  AC.ret)))))⟩

/-- internal/stringslite.HasPrefix (checked) -/
def a68 : AF := ⟨[ARes.t 4],
  (.seq
  (.region [] [⟨some 4, AOp.mov (AX.c (AV.bool false)), none⟩] [0, 1])
  (.seq
  (.region [] [⟨some 5, AOp.mov (AX.t 0), none⟩,
    ⟨some 6, AOp.lenStr (AX.t 5), none⟩,
    ⟨some 7, AOp.mov (AX.t 1), none⟩,
    ⟨some 8, AOp.lenStr (AX.t 7), none⟩,
    ⟨some 9, AOp.bin (BinOp.geq) (AX.t 6) (AX.t 8), none⟩,
    ⟨some 10, AOp.mov (AX.t 9), none⟩,
    ⟨some 11, AOp.mov (AX.t 0), some (10, true)⟩,
    ⟨some 12, AOp.mov (AX.t 1), some (10, true)⟩,
    ⟨some 13, AOp.lenStr (AX.t 12), some (10, true)⟩,
    ⟨some 14, AOp.slice none (AX.t 11) none (some (AX.t 13)) none, some (10, true)⟩,
    ⟨some 15, AOp.mov (AX.t 1), some (10, true)⟩,
    ⟨some 16, AOp.bin (BinOp.eql) (AX.t 14) (AX.t 15), some (10, true)⟩,
    ⟨some 17, AOp.pick (AX.t 10) (AX.t 16) (AX.c (AV.bool false)), none⟩,
    ⟨some 4, AOp.mov (AX.t 17), none⟩] [4])
  AC.ret))⟩

/-- (*silo/six.Writer).Whole (checked) -/
def a70 : AF := ⟨[ARes.t 4],
  (.seq
  (.region [] [⟨some 4, AOp.mov (AX.c (AV.int (IntKind.i64) 0)), none⟩] [0, 1])
  (.seq
  (.seq
  (.region [] [⟨some 5, AOp.mov (AX.t 0), none⟩,
    ⟨some 6, AOp.eqNil false (NK.p) (AX.t 5), none⟩] [0, 1, 6])
  (.cond (AX.t 6)
    (.seq
    (.region [] [⟨some 4, AOp.mov (AX.c (AV.int (IntKind.i64) 1)), none⟩] [4])
    AC.ret)
    AC.skip))
  (.seq
  (.seq
  (.region [] [⟨some 7, AOp.mov (AX.t 1), none⟩,
    ⟨some 8, AOp.bin (BinOp.lss) (AX.t 7) (AX.c (AV.int (IntKind.i64) 0)), none⟩] [0, 1, 8])
  (.cond (AX.t 8)
    (.seq
    (.region [] [⟨some 9, AOp.mov (AX.t 0), none⟩,
      ⟨some 10, AOp.mov (AX.t 0), none⟩,
      ⟨some 11, AOp.nilCheck (AX.t 10), none⟩,
      ⟨some 12, AOp.fieldA 0 1 false (AX.t 11), none⟩,
      ⟨some 13, AOp.load false 1 (AX.t 12), none⟩,
      ⟨some 14, AOp.mov (AX.t 1), none⟩,
      ⟨some 15, AOp.bin (BinOp.add) (AX.t 14) (AX.c (AV.int (IntKind.i64) 1)), none⟩,
      ⟨some 16, AOp.un (UnOp.neg) (AX.t 15), none⟩,
      ⟨some 17, AOp.convI (IntKind.u64) (AX.t 16), none⟩,
      ⟨some 18, AOp.call 67 [AX.t 13, AX.t 17, AX.c (AV.int (IntKind.u8) 128)], none⟩,
      ⟨some 19, AOp.nilCheck (AX.t 9), none⟩,
      ⟨some 20, AOp.fieldA 0 1 false (AX.t 19), none⟩,
      ⟨none, AOp.store 1 (AX.t 20) (AX.t 18), none⟩] [])
    (.seq
    (.region [] [⟨some 4, AOp.mov (AX.c (AV.int (IntKind.i64) 0)), none⟩] [4])
    AC.ret))
    AC.skip))
  (.seq
  (.region [] [⟨some 21, AOp.mov (AX.t 0), none⟩,
    ⟨some 22, AOp.mov (AX.t 0), none⟩,
    ⟨some 23, AOp.nilCheck (AX.t 22), none⟩,
    ⟨some 24, AOp.fieldA 0 1 false (AX.t 23), none⟩,
    ⟨some 25, AOp.load false 1 (AX.t 24), none⟩,
    ⟨some 26, AOp.mov (AX.t 1), none⟩,
    ⟨some 27, AOp.convI (IntKind.u64) (AX.t 26), none⟩,
    ⟨some 28, AOp.call 67 [AX.t 25, AX.t 27, AX.c (AV.int (IntKind.u8) 64)], none⟩,
    ⟨some 29, AOp.nilCheck (AX.t 21), none⟩,
    ⟨some 30, AOp.fieldA 0 1 false (AX.t 29), none⟩,
    ⟨none, AOp.store 1 (AX.t 30) (AX.t 28), none⟩] [])
  (.seq
  (.region [] [⟨some 4, AOp.mov (AX.c (AV.int (IntKind.i64) 0)), none⟩] [4])
  AC.ret)))))⟩

/-- slices.IndexFunc[[]silo/judge.world,silo/judge.world] (checked) -/
def a71 : AF := ⟨[ARes.t 4],
  (.seq
  (.region [] [⟨some 4, AOp.mov (AX.c (AV.int (IntKind.i64) 0)), none⟩] [0, 1])
  (.seq
  (.seq
  (.region [] [⟨some 6, AOp.mov (AX.t 0), none⟩,
    ⟨some 7, AOp.lenS (AX.t 6), none⟩,
    ⟨some 8, AOp.mov (AX.c (AV.int (IntKind.i64) 0)), none⟩] [0, 1, 7, 8])
  (.block 0
    (.loop
      (.seq
      (.region [] [⟨some 9, AOp.bin (BinOp.lss) (AX.t 8) (AX.t 7), none⟩] [0, 1, 7, 8, 9])
      (.seq
      (.cond (AX.t 9)
        AC.skip
        (.exit 0))
      (.seq
      (.block 1
        (.seq
        (.region [] [⟨some 10, AOp.mov (AX.t 8), none⟩,
          ⟨some 5, AOp.mov (AX.t 10), none⟩] [0, 1, 5, 7, 8])
        (.seq
        (.region [] [⟨some 11, AOp.mov (AX.t 1), none⟩,
          ⟨some 12, AOp.mov (AX.t 0), none⟩,
          ⟨some 13, AOp.mov (AX.t 5), none⟩,
          ⟨some 14, AOp.indexS 10 (AX.t 12) (AX.t 13), none⟩,
          ⟨some 15, AOp.load true 10 (AX.t 14), none⟩,
          ⟨some 16, AOp.callV (AX.t 11) [AX.t 15], none⟩] [0, 1, 5, 7, 8, 16])
        (.cond (AX.t 16)
          (.seq
          (.region [] [⟨some 17, AOp.mov (AX.t 5), none⟩,
            ⟨some 4, AOp.mov (AX.t 17), none⟩] [4])
          AC.ret)
          AC.skip))))
      (.region [] [⟨some 18, AOp.bin (BinOp.add) (AX.t 8) (AX.c (AV.int (IntKind.i64) 1)), none⟩,
        ⟨some 8, AOp.mov (AX.t 18), none⟩] [0, 1, 7, 8])))))))
  (.seq
  (.region [] [⟨some 4, AOp.mov (AX.c (AV.int (IntKind.i64) (-1))), none⟩] [4])
  AC.ret)))⟩

/-- slices.Clone[[]silo/api.File,silo/api.File] (checked) -/
def a72 : AF := ⟨[ARes.t 2],
  (.seq
  (.region [] [⟨some 2, AOp.mov (AX.c (AV.nils)), none⟩] [0])
  (.seq
  (.seq
  (.region [] [⟨some 3, AOp.mov (AX.t 0), none⟩,
    ⟨some 4, AOp.eqNil false (NK.s) (AX.t 3), none⟩] [0, 4])
  (.cond (AX.t 4)
    (.seq
    (.region [] [⟨some 2, AOp.mov (AX.c (AV.nils)), none⟩] [2])
    AC.ret)
    AC.skip))
  (.seq
  (.region [] [⟨some 5, AOp.litS false 2 (AV.agg [AV.str [], AV.nils]) 0 [], none⟩,
    ⟨some 6, AOp.mov (AX.t 0), none⟩,
    ⟨some 7, AOp.append true false 2 40 (AX.t 5) (AX.t 6), none⟩,
    ⟨some 2, AOp.mov (AX.t 7), none⟩] [2])
  AC.ret)))⟩

/-- slices.SortStableFunc[[]silo/api.File,silo/api.File] (checked) -/
def a73 : AF := ⟨[],
  (.region [] [⟨some 4, AOp.mov (AX.t 0), none⟩,
    ⟨some 5, AOp.mov (AX.t 0), none⟩,
    ⟨some 6, AOp.lenS (AX.t 5), none⟩,
    ⟨some 7, AOp.mov (AX.t 1), none⟩,
    ⟨some 8, AOp.call 87 [AX.t 4, AX.t 6, AX.t 7], none⟩] [])⟩

/-- silo/tree.sorted$1 (checked) -/
def a74 : AF := ⟨[ARes.t 4],
  (.seq
  (.region [] [⟨some 2, AOp.boxL 2 (AX.t 0), none⟩,
    ⟨some 3, AOp.boxL 2 (AX.t 1), none⟩,
    ⟨some 4, AOp.mov (AX.c (AV.int (IntKind.i64) 0)), none⟩] [2, 3])
  (.seq
  (.region [] [⟨some 5, AOp.fieldA 0 1 false (AX.t 2), none⟩,
    ⟨some 6, AOp.loadL false 1 (AX.t 5), none⟩,
    ⟨some 7, AOp.fieldA 0 1 false (AX.t 3), none⟩,
    ⟨some 8, AOp.loadL false 1 (AX.t 7), none⟩,
    ⟨some 9, AOp.call 41 [AX.t 6, AX.t 8], none⟩,
    ⟨some 4, AOp.mov (AX.t 9), none⟩] [4])
  AC.ret))⟩

/-- slices.insertionSortCmpFunc[silo/api.File] (checked) -/
def a76 : AF := ⟨[],
  (.seq
  (.region [] [⟨some 10, AOp.mov (AX.t 1), none⟩,
    ⟨some 11, AOp.bin (BinOp.add) (AX.t 10) (AX.c (AV.int (IntKind.i64) 1)), none⟩,
    ⟨some 8, AOp.mov (AX.t 11), none⟩] [0, 1, 2, 3, 8])
  (.block 0
    (.loop
      (.seq
      (.seq
      (.region [] [⟨some 12, AOp.mov (AX.t 8), none⟩,
        ⟨some 13, AOp.mov (AX.t 2), none⟩,
        ⟨some 14, AOp.bin (BinOp.lss) (AX.t 12) (AX.t 13), none⟩] [0, 1, 2, 3, 8, 14])
      (.cond (AX.t 14)
        AC.skip
        (.exit 0)))
      (.seq
      (.block 1
        (.seq
        (.region [] [⟨some 17, AOp.mov (AX.t 8), none⟩,
          ⟨some 9, AOp.mov (AX.t 17), none⟩] [0, 1, 2, 3, 8, 9])
        (.block 2
          (.loop
            (.seq
            (.seq
            (.region [0, 1, 2, 3, 4, 5, 6, 7, 8, 9, 10, 11, 12, 13, 14, 15, 16] [⟨some 18, AOp.mov (AX.t 9), none⟩,
              ⟨some 19, AOp.mov (AX.t 1), none⟩,
              ⟨some 20, AOp.bin (BinOp.gtr) (AX.t 18) (AX.t 19), none⟩,
              ⟨some 21, AOp.mov (AX.t 20), none⟩,
              ⟨some 22, AOp.mov (AX.t 3), some (21, true)⟩,
              ⟨some 23, AOp.mov (AX.t 0), some (21, true)⟩,
              ⟨some 24, AOp.mov (AX.t 9), some (21, true)⟩,
              ⟨some 25, AOp.indexS 2 (AX.t 23) (AX.t 24), some (21, true)⟩,
              ⟨some 26, AOp.load true 2 (AX.t 25), some (21, true)⟩,
              ⟨some 27, AOp.mov (AX.t 0), some (21, true)⟩,
              ⟨some 28, AOp.mov (AX.t 9), some (21, true)⟩,
              ⟨some 29, AOp.bin (BinOp.sub) (AX.t 28) (AX.c (AV.int (IntKind.i64) 1)), some (21, true)⟩,
              ⟨some 30, AOp.indexS 2 (AX.t 27) (AX.t 29), some (21, true)⟩,
              ⟨some 31, AOp.load true 2 (AX.t 30), some (21, true)⟩,
              ⟨some 32, AOp.callV (AX.t 22) [AX.t 26, AX.t 31], some (21, true)⟩,
              ⟨some 33, AOp.bin (BinOp.lss) (AX.t 32) (AX.c (AV.int (IntKind.i64) 0)), some (21, true)⟩,
              ⟨some 34, AOp.pick (AX.t 21) (AX.t 33) (AX.c (AV.bool false)), none⟩] [0, 1, 2, 3, 8, 9, 34])
            (.cond (AX.t 34)
              AC.skip
              (.exit 2)))
            (.seq
            (.block 3
              (.region [0, 1, 2, 3, 4, 5, 6, 7, 8, 9, 10, 11, 12, 13, 14, 15, 16, 17] [⟨some 37, AOp.mov (AX.t 0), none⟩,
                ⟨some 38, AOp.mov (AX.t 9), none⟩,
                ⟨some 39, AOp.mov (AX.t 0), none⟩,
                ⟨some 40, AOp.mov (AX.t 9), none⟩,
                ⟨some 41, AOp.bin (BinOp.sub) (AX.t 40) (AX.c (AV.int (IntKind.i64) 1)), none⟩,
                ⟨some 42, AOp.mov (AX.t 0), none⟩,
                ⟨some 43, AOp.mov (AX.t 9), none⟩,
                ⟨some 44, AOp.bin (BinOp.sub) (AX.t 43) (AX.c (AV.int (IntKind.i64) 1)), none⟩,
                ⟨some 45, AOp.indexS 2 (AX.t 42) (AX.t 44), none⟩,
                ⟨some 46, AOp.load true 2 (AX.t 45), none⟩,
                ⟨some 47, AOp.mov (AX.t 0), none⟩,
                ⟨some 48, AOp.mov (AX.t 9), none⟩,
                ⟨some 49, AOp.indexS 2 (AX.t 47) (AX.t 48), none⟩,
                ⟨some 50, AOp.load true 2 (AX.t 49), none⟩,
                ⟨some 51, AOp.indexS 2 (AX.t 37) (AX.t 38), none⟩,
                ⟨none, AOp.store 2 (AX.t 51) (AX.t 46), none⟩,
                ⟨some 52, AOp.indexS 2 (AX.t 39) (AX.t 41), none⟩,
                ⟨none, AOp.store 2 (AX.t 52) (AX.t 50), none⟩] [0, 1, 2, 3, 8, 9]))
            (.region [] [⟨some 35, AOp.mov (AX.t 9), none⟩,
              ⟨some 36, AOp.bin (BinOp.sub) (AX.t 35) (AX.c (AV.int (IntKind.i64) 1)), none⟩,
              ⟨some 9, AOp.mov (AX.t 36), none⟩] [0, 1, 2, 3, 8, 9])))))))
      (.region [] [⟨some 15, AOp.mov (AX.t 8), none⟩,
        ⟨some 16, AOp.bin (BinOp.add) (AX.t 15) (AX.c (AV.int (IntKind.i64) 1)), none⟩,
        ⟨some 8, AOp.mov (AX.t 16), none⟩] [0, 1, 2, 3, 8]))))))⟩

/-- slices.heapSortCmpFunc[silo/api.File] (checked) -/
def a77 : AF := ⟨[],
  (.seq
  (.region [] [⟨some 13, AOp.mov (AX.t 1), none⟩,
    ⟨some 8, AOp.mov (AX.t 13), none⟩] [0, 1, 2, 3, 8])
  (.seq
  (.region [] [⟨some 9, AOp.mov (AX.c (AV.int (IntKind.i64) 0)), none⟩] [0, 1, 2, 3, 8, 9])
  (.seq
  (.region [] [⟨some 14, AOp.mov (AX.t 2), none⟩,
    ⟨some 15, AOp.mov (AX.t 1), none⟩,
    ⟨some 16, AOp.bin (BinOp.sub) (AX.t 14) (AX.t 15), none⟩,
    ⟨some 10, AOp.mov (AX.t 16), none⟩] [0, 3, 8, 9, 10])
  (.seq
  (.seq
  (.region [] [⟨some 17, AOp.mov (AX.t 10), none⟩,
    ⟨some 18, AOp.bin (BinOp.sub) (AX.t 17) (AX.c (AV.int (IntKind.i64) 1)), none⟩,
    ⟨some 19, AOp.bin (BinOp.quo) (AX.t 18) (AX.c (AV.int (IntKind.i64) 2)), none⟩,
    ⟨some 11, AOp.mov (AX.t 19), none⟩] [0, 3, 8, 9, 10, 11])
  (.block 0
    (.loop
      (.seq
      (.seq
      (.region [] [⟨some 20, AOp.mov (AX.t 11), none⟩,
        ⟨some 21, AOp.bin (BinOp.geq) (AX.t 20) (AX.c (AV.int (IntKind.i64) 0)), none⟩] [0, 3, 8, 9, 10, 11, 21])
      (.cond (AX.t 21)
        AC.skip
        (.exit 0)))
      (.seq
      (.block 1
        (.region [] [⟨some 24, AOp.mov (AX.t 0), none⟩,
          ⟨some 25, AOp.mov (AX.t 11), none⟩,
          ⟨some 26, AOp.mov (AX.t 10), none⟩,
          ⟨some 27, AOp.mov (AX.t 8), none⟩,
          ⟨some 28, AOp.mov (AX.t 3), none⟩,
          ⟨some 29, AOp.call 89 [AX.t 24, AX.t 25, AX.t 26, AX.t 27, AX.t 28], none⟩] [0, 3, 8, 9, 10, 11]))
      (.region [] [⟨some 22, AOp.mov (AX.t 11), none⟩,
        ⟨some 23, AOp.bin (BinOp.sub) (AX.t 22) (AX.c (AV.int (IntKind.i64) 1)), none⟩,
        ⟨some 11, AOp.mov (AX.t 23), none⟩] [0, 3, 8, 9, 10, 11]))))))
  (.seq
  (.region [] [⟨some 30, AOp.mov (AX.t 10), none⟩,
    ⟨some 31, AOp.bin (BinOp.sub) (AX.t 30) (AX.c (AV.int (IntKind.i64) 1)), none⟩,
    ⟨some 12, AOp.mov (AX.t 31), none⟩] [0, 3, 8, 9, 12])
  (.block 2
    (.loop
      (.seq
      (.seq
      (.region [] [⟨some 32, AOp.mov (AX.t 12), none⟩,
        ⟨some 33, AOp.bin (BinOp.geq) (AX.t 32) (AX.c (AV.int (IntKind.i64) 0)), none⟩] [0, 3, 8, 9, 12, 33])
      (.cond (AX.t 33)
        AC.skip
        (.exit 2)))
      (.seq
      (.block 3
        (.seq
        (.region [0, 1, 2, 3, 4, 5, 6, 7, 8, 9, 10, 11, 12, 13, 14, 15, 16, 17, 18, 19] [⟨some 36, AOp.mov (AX.t 0), none⟩,
          ⟨some 37, AOp.mov (AX.t 8), none⟩,
          ⟨some 38, AOp.mov (AX.t 0), none⟩,
          ⟨some 39, AOp.mov (AX.t 8), none⟩,
          ⟨some 40, AOp.mov (AX.t 12), none⟩,
          ⟨some 41, AOp.bin (BinOp.add) (AX.t 39) (AX.t 40), none⟩,
          ⟨some 42, AOp.mov (AX.t 0), none⟩,
          ⟨some 43, AOp.mov (AX.t 8), none⟩,
          ⟨some 44, AOp.mov (AX.t 12), none⟩,
          ⟨some 45, AOp.bin (BinOp.add) (AX.t 43) (AX.t 44), none⟩,
          ⟨some 46, AOp.indexS 2 (AX.t 42) (AX.t 45), none⟩,
          ⟨some 47, AOp.load true 2 (AX.t 46), none⟩,
          ⟨some 48, AOp.mov (AX.t 0), none⟩,
          ⟨some 49, AOp.mov (AX.t 8), none⟩,
          ⟨some 50, AOp.indexS 2 (AX.t 48) (AX.t 49), none⟩,
          ⟨some 51, AOp.load true 2 (AX.t 50), none⟩,
          ⟨some 52, AOp.indexS 2 (AX.t 36) (AX.t 37), none⟩,
          ⟨none, AOp.store 2 (AX.t 52) (AX.t 47), none⟩,
          ⟨some 53, AOp.indexS 2 (AX.t 38) (AX.t 41), none⟩,
          ⟨none, AOp.store 2 (AX.t 53) (AX.t 51), none⟩] [0, 3, 8, 9, 12])
        (.region [] [⟨some 54, AOp.mov (AX.t 0), none⟩,
          ⟨some 55, AOp.mov (AX.t 9), none⟩,
          ⟨some 56, AOp.mov (AX.t 12), none⟩,
          ⟨some 57, AOp.mov (AX.t 8), none⟩,
          ⟨some 58, AOp.mov (AX.t 3), none⟩,
          ⟨some 59, AOp.call 89 [AX.t 54, AX.t 55, AX.t 56, AX.t 57, AX.t 58], none⟩] [0, 3, 8, 9, 12])))
      (.region [] [⟨some 34, AOp.mov (AX.t 12), none⟩,
        ⟨some 35, AOp.bin (BinOp.sub) (AX.t 34) (AX.c (AV.int (IntKind.i64) 1)), none⟩,
        ⟨some 12, AOp.mov (AX.t 35), none⟩] [0, 3, 8, 9, 12]))))))))))⟩

/-- slices.breakPatternsCmpFunc[silo/api.File] (checked) -/
def a78 : AF := ⟨[],
  (.seq
  (.region [] [⟨some 13, AOp.mov (AX.t 2), none⟩,
    ⟨some 14, AOp.mov (AX.t 1), none⟩,
    ⟨some 15, AOp.bin (BinOp.sub) (AX.t 13) (AX.t 14), none⟩,
    ⟨some 8, AOp.mov (AX.t 15), none⟩] [0, 1, 8])
  (.seq
  (.region [] [⟨some 16, AOp.mov (AX.t 8), none⟩,
    ⟨some 17, AOp.bin (BinOp.geq) (AX.t 16) (AX.c (AV.int (IntKind.i64) 8)), none⟩] [0, 1, 8, 17])
  (.cond (AX.t 17)
    (.seq
    (.region [] [⟨some 18, AOp.mov (AX.t 8), none⟩,
      ⟨some 19, AOp.convI (IntKind.u64) (AX.t 18), none⟩,
      ⟨some 9, AOp.allocH 1 (AV.int (IntKind.u64) 0), none⟩,
      ⟨none, AOp.store 1 (AX.t 9) (AX.t 19), none⟩] [0, 1, 8, 9])
    (.seq
    (.region [] [⟨some 20, AOp.mov (AX.t 8), none⟩,
      ⟨some 21, AOp.call 90 [AX.t 20], none⟩,
      ⟨some 10, AOp.mov (AX.t 21), none⟩] [0, 1, 8, 9, 10])
    (.seq
    (.region [] [⟨some 22, AOp.mov (AX.t 1), none⟩,
      ⟨some 23, AOp.mov (AX.t 8), none⟩,
      ⟨some 24, AOp.bin (BinOp.quo) (AX.t 23) (AX.c (AV.int (IntKind.i64) 4)), none⟩,
      ⟨some 25, AOp.bin (BinOp.mul) (AX.t 24) (AX.c (AV.int (IntKind.i64) 2)), none⟩,
      ⟨some 26, AOp.bin (BinOp.add) (AX.t 22) (AX.t 25), none⟩,
      ⟨some 27, AOp.bin (BinOp.sub) (AX.t 26) (AX.c (AV.int (IntKind.i64) 1)), none⟩,
      ⟨some 11, AOp.mov (AX.t 27), none⟩] [0, 1, 8, 9, 10, 11])
    (.block 0
      (.loop
        (.seq
        (.seq
        (.region [] [⟨some 28, AOp.mov (AX.t 11), none⟩,
          ⟨some 29, AOp.mov (AX.t 1), none⟩,
          ⟨some 30, AOp.mov (AX.t 8), none⟩,
          ⟨some 31, AOp.bin (BinOp.quo) (AX.t 30) (AX.c (AV.int (IntKind.i64) 4)), none⟩,
          ⟨some 32, AOp.bin (BinOp.mul) (AX.t 31) (AX.c (AV.int (IntKind.i64) 2)), none⟩,
          ⟨some 33, AOp.bin (BinOp.add) (AX.t 29) (AX.t 32), none⟩,
          ⟨some 34, AOp.bin (BinOp.add) (AX.t 33) (AX.c (AV.int (IntKind.i64) 1)), none⟩,
          ⟨some 35, AOp.bin (BinOp.leq) (AX.t 28) (AX.t 34), none⟩] [0, 1, 8, 9, 10, 11, 35])
        (.cond (AX.t 35)
          AC.skip
          (.exit 0)))
        (.seq
        (.block 1
          (.seq
          (.region [] [⟨some 38, AOp.call 91 [AX.t 9], none⟩,
            ⟨some 39, AOp.mov (AX.t 10), none⟩,
            ⟨some 40, AOp.bin (BinOp.sub) (AX.t 39) (AX.c (AV.int (IntKind.u64) 1)), none⟩,
            ⟨some 41, AOp.bin (BinOp.and) (AX.t 38) (AX.t 40), none⟩,
            ⟨some 42, AOp.convI (IntKind.i64) (AX.t 41), none⟩,
            ⟨some 12, AOp.mov (AX.t 42), none⟩] [0, 1, 8, 9, 10, 11, 12])
          (.seq
          (.seq
          (.region [] [⟨some 43, AOp.mov (AX.t 12), none⟩,
            ⟨some 44, AOp.mov (AX.t 8), none⟩,
            ⟨some 45, AOp.bin (BinOp.geq) (AX.t 43) (AX.t 44), none⟩] [0, 1, 8, 9, 10, 11, 12, 45])
          (.cond (AX.t 45)
            (.region [] [⟨some 46, AOp.mov (AX.t 12), none⟩,
              ⟨some 47, AOp.mov (AX.t 8), none⟩,
              ⟨some 48, AOp.bin (BinOp.sub) (AX.t 46) (AX.t 47), none⟩,
              ⟨some 12, AOp.mov (AX.t 48), none⟩] [0, 1, 8, 9, 10, 11, 12])
            AC.skip))
          (.region [0, 1, 2, 3, 4, 5, 6, 7, 8, 9, 10, 11, 12, 13, 14, 15, 16, 17, 18, 19] [⟨some 49, AOp.mov (AX.t 0), none⟩,
            ⟨some 50, AOp.mov (AX.t 11), none⟩,
            ⟨some 51, AOp.mov (AX.t 0), none⟩,
            ⟨some 52, AOp.mov (AX.t 1), none⟩,
            ⟨some 53, AOp.mov (AX.t 12), none⟩,
            ⟨some 54, AOp.bin (BinOp.add) (AX.t 52) (AX.t 53), none⟩,
            ⟨some 55, AOp.mov (AX.t 0), none⟩,
            ⟨some 56, AOp.mov (AX.t 1), none⟩,
            ⟨some 57, AOp.mov (AX.t 12), none⟩,
            ⟨some 58, AOp.bin (BinOp.add) (AX.t 56) (AX.t 57), none⟩,
            ⟨some 59, AOp.indexS 2 (AX.t 55) (AX.t 58), none⟩,
            ⟨some 60, AOp.load true 2 (AX.t 59), none⟩,
            ⟨some 61, AOp.mov (AX.t 0), none⟩,
            ⟨some 62, AOp.mov (AX.t 11), none⟩,
            ⟨some 63, AOp.indexS 2 (AX.t 61) (AX.t 62), none⟩,
            ⟨some 64, AOp.load true 2 (AX.t 63), none⟩,
            ⟨some 65, AOp.indexS 2 (AX.t 49) (AX.t 50), none⟩,
            ⟨none, AOp.store 2 (AX.t 65) (AX.t 60), none⟩,
            ⟨some 66, AOp.indexS 2 (AX.t 51) (AX.t 54), none⟩,
            ⟨none, AOp.store 2 (AX.t 66) (AX.t 64), none⟩] [0, 1, 8, 9, 10, 11]))))
        (.region [] [⟨some 36, AOp.mov (AX.t 11), none⟩,
          ⟨some 37, AOp.bin (BinOp.add) (AX.t 36) (AX.c (AV.int (IntKind.i64) 1)), none⟩,
          ⟨some 11, AOp.mov (AX.t 37), none⟩] [0, 1, 8, 9, 10, 11]))))))))
    AC.skip)))⟩

/-- slices.choosePivotCmpFunc[silo/api.File] (checked) -/
def a79 : AF := ⟨[ARes.t 8, ARes.t 9],
  (.seq
  (.region [] [⟨some 8, AOp.mov (AX.c (AV.int (IntKind.i64) 0)), none⟩,
    ⟨some 9, AOp.mov (AX.c (AV.int (IntKind.i64) 0)), none⟩] [0, 1, 2, 3])
  (.seq
  (.region [] [⟨some 15, AOp.mov (AX.t 2), none⟩,
    ⟨some 16, AOp.mov (AX.t 1), none⟩,
    ⟨some 17, AOp.bin (BinOp.sub) (AX.t 15) (AX.t 16), none⟩,
    ⟨some 10, AOp.mov (AX.t 17), none⟩] [0, 1, 3, 10])
  (.seq
  (.region [] [⟨some 11, AOp.allocH 1 (AV.int (IntKind.i64) 0), none⟩] [0, 1, 3, 10, 11])
  (.seq
  (.region [] [⟨some 18, AOp.mov (AX.t 1), none⟩,
    ⟨some 19, AOp.mov (AX.t 10), none⟩,
    ⟨some 20, AOp.bin (BinOp.quo) (AX.t 19) (AX.c (AV.int (IntKind.i64) 4)), none⟩,
    ⟨some 21, AOp.bin (BinOp.mul) (AX.t 20) (AX.c (AV.int (IntKind.i64) 1)), none⟩,
    ⟨some 22, AOp.bin (BinOp.add) (AX.t 18) (AX.t 21), none⟩,
    ⟨some 12, AOp.mov (AX.t 22), none⟩] [0, 1, 3, 10, 11, 12])
  (.seq
  (.region [] [⟨some 23, AOp.mov (AX.t 1), none⟩,
    ⟨some 24, AOp.mov (AX.t 10), none⟩,
    ⟨some 25, AOp.bin (BinOp.quo) (AX.t 24) (AX.c (AV.int (IntKind.i64) 4)), none⟩,
    ⟨some 26, AOp.bin (BinOp.mul) (AX.t 25) (AX.c (AV.int (IntKind.i64) 2)), none⟩,
    ⟨some 27, AOp.bin (BinOp.add) (AX.t 23) (AX.t 26), none⟩,
    ⟨some 13, AOp.mov (AX.t 27), none⟩] [0, 1, 3, 10, 11, 12, 13])
  (.seq
  (.region [] [⟨some 28, AOp.mov (AX.t 1), none⟩,
    ⟨some 29, AOp.mov (AX.t 10), none⟩,
    ⟨some 30, AOp.bin (BinOp.quo) (AX.t 29) (AX.c (AV.int (IntKind.i64) 4)), none⟩,
    ⟨some 31, AOp.bin (BinOp.mul) (AX.t 30) (AX.c (AV.int (IntKind.i64) 3)), none⟩,
    ⟨some 32, AOp.bin (BinOp.add) (AX.t 28) (AX.t 31), none⟩,
    ⟨some 14, AOp.mov (AX.t 32), none⟩] [0, 3, 10, 11, 12, 13, 14])
  (.seq
  (.seq
  (.region [] [⟨some 33, AOp.mov (AX.t 10), none⟩,
    ⟨some 34, AOp.bin (BinOp.geq) (AX.t 33) (AX.c (AV.int (IntKind.i64) 8)), none⟩] [0, 3, 10, 11, 12, 13, 14, 34])
  (.cond (AX.t 34)
    (.seq
    (.seq
    (.region [] [⟨some 35, AOp.mov (AX.t 10), none⟩,
      ⟨some 36, AOp.bin (BinOp.geq) (AX.t 35) (AX.c (AV.int (IntKind.i64) 50)), none⟩] [0, 3, 11, 12, 13, 14, 36])
    (.cond (AX.t 36)
      (.seq
      (.region [] [⟨some 37, AOp.mov (AX.t 0), none⟩,
        ⟨some 38, AOp.mov (AX.t 12), none⟩,
        ⟨some 39, AOp.mov (AX.t 3), none⟩,
        ⟨some 40, AOp.call 92 [AX.t 37, AX.t 38, AX.t 11, AX.t 39], none⟩,
        ⟨some 12, AOp.mov (AX.t 40), none⟩] [0, 3, 11, 12, 13, 14])
      (.seq
      (.region [] [⟨some 41, AOp.mov (AX.t 0), none⟩,
        ⟨some 42, AOp.mov (AX.t 13), none⟩,
        ⟨some 43, AOp.mov (AX.t 3), none⟩,
        ⟨some 44, AOp.call 92 [AX.t 41, AX.t 42, AX.t 11, AX.t 43], none⟩,
        ⟨some 13, AOp.mov (AX.t 44), none⟩] [0, 3, 11, 12, 13, 14])
      (.region [] [⟨some 45, AOp.mov (AX.t 0), none⟩,
        ⟨some 46, AOp.mov (AX.t 14), none⟩,
        ⟨some 47, AOp.mov (AX.t 3), none⟩,
        ⟨some 48, AOp.call 92 [AX.t 45, AX.t 46, AX.t 11, AX.t 47], none⟩,
        ⟨some 14, AOp.mov (AX.t 48), none⟩] [0, 3, 11, 12, 13, 14])))
      AC.skip))
    (.region [] [⟨some 49, AOp.mov (AX.t 0), none⟩,
      ⟨some 50, AOp.mov (AX.t 12), none⟩,
      ⟨some 51, AOp.mov (AX.t 13), none⟩,
      ⟨some 52, AOp.mov (AX.t 14), none⟩,
      ⟨some 53, AOp.mov (AX.t 3), none⟩,
      ⟨some 54, AOp.call 93 [AX.t 49, AX.t 50, AX.t 51, AX.t 52, AX.t 11, AX.t 53], none⟩,
      ⟨some 13, AOp.mov (AX.t 54), none⟩] [11, 13]))
    AC.skip))
  (.seq
  (.region [] [⟨some 55, AOp.load false 1 (AX.t 11), none⟩] [13, 55])
  (.block 0
    (.seq
    (.region [] [⟨some 58, AOp.bin (BinOp.eql) (AX.t 55) (AX.c (AV.int (IntKind.i64) 0)), none⟩,
      ⟨some 57, AOp.mov (AX.t 58), none⟩] [13, 55, 57])
    (.cond (AX.t 57)
      (.seq
      (.region [] [⟨some 59, AOp.mov (AX.t 13), none⟩,
        ⟨some 8, AOp.mov (AX.t 59), none⟩,
        ⟨some 9, AOp.mov (AX.c (AV.int (IntKind.i64) 1)), none⟩] [8, 9])
      AC.ret)
      (.seq
      (.region [] [⟨some 61, AOp.bin (BinOp.eql) (AX.t 55) (AX.c (AV.int (IntKind.i64) 12)), none⟩,
        ⟨some 60, AOp.mov (AX.t 61), none⟩] [13, 60])
      (.cond (AX.t 60)
        (.seq
        (.region [] [⟨some 62, AOp.mov (AX.t 13), none⟩,
          ⟨some 8, AOp.mov (AX.t 62), none⟩,
          ⟨some 9, AOp.mov (AX.c (AV.int (IntKind.i64) 2)), none⟩] [8, 9])
        AC.ret)
        (.seq
        (.region [] [⟨some 56, AOp.mov (AX.t 13), none⟩,
          ⟨some 8, AOp.mov (AX.t 56), none⟩,
          ⟨some 9, AOp.mov (AX.c (AV.int (IntKind.i64) 0)), none⟩] [8, 9])
        AC.ret))))))))))))))⟩

/-- slices.reverseRangeCmpFunc[silo/api.File] (checked) -/
def a80 : AF := ⟨[],
  (.seq
  (.region [] [⟨some 10, AOp.mov (AX.t 1), none⟩,
    ⟨some 8, AOp.mov (AX.t 10), none⟩] [0, 2, 8])
  (.seq
  (.region [] [⟨some 11, AOp.mov (AX.t 2), none⟩,
    ⟨some 12, AOp.bin (BinOp.sub) (AX.t 11) (AX.c (AV.int (IntKind.i64) 1)), none⟩,
    ⟨some 9, AOp.mov (AX.t 12), none⟩] [0, 8, 9])
  (.block 0
    (.loop
      (.seq
      (.seq
      (.region [] [⟨some 13, AOp.mov (AX.t 8), none⟩,
        ⟨some 14, AOp.mov (AX.t 9), none⟩,
        ⟨some 15, AOp.bin (BinOp.lss) (AX.t 13) (AX.t 14), none⟩] [0, 8, 9, 15])
      (.cond (AX.t 15)
        AC.skip
        (.exit 0)))
      (.block 1
        (.seq
        (.region [0, 1, 2, 3, 4, 5, 6, 7, 8, 9, 10, 11, 12, 13, 14, 15] [⟨some 16, AOp.mov (AX.t 0), none⟩,
          ⟨some 17, AOp.mov (AX.t 8), none⟩,
          ⟨some 18, AOp.mov (AX.t 0), none⟩,
          ⟨some 19, AOp.mov (AX.t 9), none⟩,
          ⟨some 20, AOp.mov (AX.t 0), none⟩,
          ⟨some 21, AOp.mov (AX.t 9), none⟩,
          ⟨some 22, AOp.indexS 2 (AX.t 20) (AX.t 21), none⟩,
          ⟨some 23, AOp.load true 2 (AX.t 22), none⟩,
          ⟨some 24, AOp.mov (AX.t 0), none⟩,
          ⟨some 25, AOp.mov (AX.t 8), none⟩,
          ⟨some 26, AOp.indexS 2 (AX.t 24) (AX.t 25), none⟩,
          ⟨some 27, AOp.load true 2 (AX.t 26), none⟩,
          ⟨some 28, AOp.indexS 2 (AX.t 16) (AX.t 17), none⟩,
          ⟨none, AOp.store 2 (AX.t 28) (AX.t 23), none⟩,
          ⟨some 29, AOp.indexS 2 (AX.t 18) (AX.t 19), none⟩,
          ⟨none, AOp.store 2 (AX.t 29) (AX.t 27), none⟩] [0, 8, 9])
        (.seq
        (.region [] [⟨some 30, AOp.mov (AX.t 8), none⟩,
          ⟨some 31, AOp.bin (BinOp.add) (AX.t 30) (AX.c (AV.int (IntKind.i64) 1)), none⟩,
          ⟨some 8, AOp.mov (AX.t 31), none⟩] [0, 8, 9])
        (.region [] [⟨some 32, AOp.mov (AX.t 9), none⟩,
          ⟨some 33, AOp.bin (BinOp.sub) (AX.t 32) (AX.c (AV.int (IntKind.i64) 1)), none⟩,
          ⟨some 9, AOp.mov (AX.t 33), none⟩] [0, 8, 9])))))))))⟩

/-- slices.partialInsertionSortCmpFunc[silo/api.File] (checked) -/
def a81 : AF := ⟨[ARes.t 8],
  (.seq
  (.region [] [⟨some 8, AOp.mov (AX.c (AV.bool false)), none⟩] [0, 1, 2, 3])
  (.seq
  (.region [] [⟨some 13, AOp.mov (AX.t 1), none⟩,
    ⟨some 14, AOp.bin (BinOp.add) (AX.t 13) (AX.c (AV.int (IntKind.i64) 1)), none⟩,
    ⟨some 9, AOp.mov (AX.t 14), none⟩] [0, 1, 2, 3, 9])
  (.seq
  (.seq
  (.region [] [⟨some 10, AOp.mov (AX.c (AV.int (IntKind.i64) 0)), none⟩] [0, 1, 2, 3, 9, 10])
  (.block 0
    (.loop
      (.seq
      (.seq
      (.region [] [⟨some 15, AOp.mov (AX.t 10), none⟩,
        ⟨some 16, AOp.bin (BinOp.lss) (AX.t 15) (AX.c (AV.int (IntKind.i64) 5)), none⟩] [0, 1, 2, 3, 9, 10, 16])
      (.cond (AX.t 16)
        AC.skip
        (.exit 0)))
      (.seq
      (.block 1
        (.seq
        (.block 2
          (.loop
            (.seq
            (.seq
            (.region [0, 1, 2, 3, 4, 5, 6, 7, 8, 9, 10, 11, 12, 13, 14, 15, 16, 17] [⟨some 19, AOp.mov (AX.t 9), none⟩,
              ⟨some 20, AOp.mov (AX.t 2), none⟩,
              ⟨some 21, AOp.bin (BinOp.lss) (AX.t 19) (AX.t 20), none⟩,
              ⟨some 22, AOp.mov (AX.t 21), none⟩,
              ⟨some 23, AOp.mov (AX.t 3), some (22, true)⟩,
              ⟨some 24, AOp.mov (AX.t 0), some (22, true)⟩,
              ⟨some 25, AOp.mov (AX.t 9), some (22, true)⟩,
              ⟨some 26, AOp.indexS 2 (AX.t 24) (AX.t 25), some (22, true)⟩,
              ⟨some 27, AOp.load true 2 (AX.t 26), some (22, true)⟩,
              ⟨some 28, AOp.mov (AX.t 0), some (22, true)⟩,
              ⟨some 29, AOp.mov (AX.t 9), some (22, true)⟩,
              ⟨some 30, AOp.bin (BinOp.sub) (AX.t 29) (AX.c (AV.int (IntKind.i64) 1)), some (22, true)⟩,
              ⟨some 31, AOp.indexS 2 (AX.t 28) (AX.t 30), some (22, true)⟩,
              ⟨some 32, AOp.load true 2 (AX.t 31), some (22, true)⟩,
              ⟨some 33, AOp.callV (AX.t 23) [AX.t 27, AX.t 32], some (22, true)⟩,
              ⟨some 34, AOp.bin (BinOp.lss) (AX.t 33) (AX.c (AV.int (IntKind.i64) 0)), some (22, true)⟩,
              ⟨some 35, AOp.un (UnOp.not) (AX.t 34), some (22, true)⟩,
              ⟨some 36, AOp.pick (AX.t 22) (AX.t 35) (AX.c (AV.bool false)), none⟩] [0, 1, 2, 3, 9, 10, 36])
            (.cond (AX.t 36)
              AC.skip
              (.exit 2)))
            (.block 3
              (.region [] [⟨some 37, AOp.mov (AX.t 9), none⟩,
                ⟨some 38, AOp.bin (BinOp.add) (AX.t 37) (AX.c (AV.int (IntKind.i64) 1)), none⟩,
                ⟨some 9, AOp.mov (AX.t 38), none⟩] [0, 1, 2, 3, 9, 10])))))
        (.seq
        (.seq
        (.region [] [⟨some 39, AOp.mov (AX.t 9), none⟩,
          ⟨some 40, AOp.mov (AX.t 2), none⟩,
          ⟨some 41, AOp.bin (BinOp.eql) (AX.t 39) (AX.t 40), none⟩] [0, 1, 2, 3, 9, 10, 41])
        (.cond (AX.t 41)
          (.seq
          (.region [] [⟨some 8, AOp.mov (AX.c (AV.bool true)), none⟩] [8])
          AC.ret)
          AC.skip))
        (.seq
        (.seq
        (.region [] [⟨some 42, AOp.mov (AX.t 2), none⟩,
          ⟨some 43, AOp.mov (AX.t 1), none⟩,
          ⟨some 44, AOp.bin (BinOp.sub) (AX.t 42) (AX.t 43), none⟩,
          ⟨some 45, AOp.bin (BinOp.lss) (AX.t 44) (AX.c (AV.int (IntKind.i64) 50)), none⟩] [0, 1, 2, 3, 9, 10, 45])
        (.cond (AX.t 45)
          (.seq
          (.region [] [⟨some 8, AOp.mov (AX.c (AV.bool false)), none⟩] [8])
          AC.ret)
          AC.skip))
        (.seq
        (.region [0, 1, 2, 3, 4, 5, 6, 7, 8, 9, 10, 11, 12, 13, 14, 15, 16, 17] [⟨some 46, AOp.mov (AX.t 0), none⟩,
          ⟨some 47, AOp.mov (AX.t 9), none⟩,
          ⟨some 48, AOp.mov (AX.t 0), none⟩,
          ⟨some 49, AOp.mov (AX.t 9), none⟩,
          ⟨some 50, AOp.bin (BinOp.sub) (AX.t 49) (AX.c (AV.int (IntKind.i64) 1)), none⟩,
          ⟨some 51, AOp.mov (AX.t 0), none⟩,
          ⟨some 52, AOp.mov (AX.t 9), none⟩,
          ⟨some 53, AOp.bin (BinOp.sub) (AX.t 52) (AX.c (AV.int (IntKind.i64) 1)), none⟩,
          ⟨some 54, AOp.indexS 2 (AX.t 51) (AX.t 53), none⟩,
          ⟨some 55, AOp.load true 2 (AX.t 54), none⟩,
          ⟨some 56, AOp.mov (AX.t 0), none⟩,
          ⟨some 57, AOp.mov (AX.t 9), none⟩,
          ⟨some 58, AOp.indexS 2 (AX.t 56) (AX.t 57), none⟩,
          ⟨some 59, AOp.load true 2 (AX.t 58), none⟩,
          ⟨some 60, AOp.indexS 2 (AX.t 46) (AX.t 47), none⟩,
          ⟨none, AOp.store 2 (AX.t 60) (AX.t 55), none⟩,
          ⟨some 61, AOp.indexS 2 (AX.t 48) (AX.t 50), none⟩,
          ⟨none, AOp.store 2 (AX.t 61) (AX.t 59), none⟩] [0, 1, 2, 3, 9, 10])
        (.seq
        (.seq
        (.region [] [⟨some 62, AOp.mov (AX.t 9), none⟩,
          ⟨some 63, AOp.mov (AX.t 1), none⟩,
          ⟨some 64, AOp.bin (BinOp.sub) (AX.t 62) (AX.t 63), none⟩,
          ⟨some 65, AOp.bin (BinOp.geq) (AX.t 64) (AX.c (AV.int (IntKind.i64) 2)), none⟩] [0, 1, 2, 3, 9, 10, 65])
        (.cond (AX.t 65)
          (.seq
          (.region [] [⟨some 66, AOp.mov (AX.t 9), none⟩,
            ⟨some 67, AOp.bin (BinOp.sub) (AX.t 66) (AX.c (AV.int (IntKind.i64) 1)), none⟩,
            ⟨some 11, AOp.mov (AX.t 67), none⟩] [0, 1, 2, 3, 9, 10, 11])
          (.block 4
            (.loop
              (.seq
              (.seq
              (.region [] [⟨some 68, AOp.mov (AX.t 11), none⟩,
                ⟨some 69, AOp.bin (BinOp.geq) (AX.t 68) (AX.c (AV.int (IntKind.i64) 1)), none⟩] [0, 1, 2, 3, 9, 10, 11, 69])
              (.cond (AX.t 69)
                AC.skip
                (.exit 4)))
              (.seq
              (.block 5
                (.seq
                (.seq
                (.region [0, 1, 2, 3, 4, 5, 6, 7, 8, 9, 10, 11, 12] [⟨some 72, AOp.mov (AX.t 3), none⟩,
                  ⟨some 73, AOp.mov (AX.t 0), none⟩,
                  ⟨some 74, AOp.mov (AX.t 11), none⟩,
                  ⟨some 75, AOp.indexS 2 (AX.t 73) (AX.t 74), none⟩,
                  ⟨some 76, AOp.load true 2 (AX.t 75), none⟩,
                  ⟨some 77, AOp.mov (AX.t 0), none⟩,
                  ⟨some 78, AOp.mov (AX.t 11), none⟩,
                  ⟨some 79, AOp.bin (BinOp.sub) (AX.t 78) (AX.c (AV.int (IntKind.i64) 1)), none⟩,
                  ⟨some 80, AOp.indexS 2 (AX.t 77) (AX.t 79), none⟩,
                  ⟨some 81, AOp.load true 2 (AX.t 80), none⟩,
                  ⟨some 82, AOp.callV (AX.t 72) [AX.t 76, AX.t 81], none⟩,
                  ⟨some 83, AOp.bin (BinOp.lss) (AX.t 82) (AX.c (AV.int (IntKind.i64) 0)), none⟩,
                  ⟨some 84, AOp.un (UnOp.not) (AX.t 83), none⟩] [0, 1, 2, 3, 9, 10, 11, 84])
                (.cond (AX.t 84)
                  (.exit 4)
                  AC.skip))
                (.region [0, 1, 2, 3, 4, 5, 6, 7, 8, 9, 10, 11, 12, 13, 14, 15, 16, 17] [⟨some 85, AOp.mov (AX.t 0), none⟩,
                  ⟨some 86, AOp.mov (AX.t 11), none⟩,
                  ⟨some 87, AOp.mov (AX.t 0), none⟩,
                  ⟨some 88, AOp.mov (AX.t 11), none⟩,
                  ⟨some 89, AOp.bin (BinOp.sub) (AX.t 88) (AX.c (AV.int (IntKind.i64) 1)), none⟩,
                  ⟨some 90, AOp.mov (AX.t 0), none⟩,
                  ⟨some 91, AOp.mov (AX.t 11), none⟩,
                  ⟨some 92, AOp.bin (BinOp.sub) (AX.t 91) (AX.c (AV.int (IntKind.i64) 1)), none⟩,
                  ⟨some 93, AOp.indexS 2 (AX.t 90) (AX.t 92), none⟩,
                  ⟨some 94, AOp.load true 2 (AX.t 93), none⟩,
                  ⟨some 95, AOp.mov (AX.t 0), none⟩,
                  ⟨some 96, AOp.mov (AX.t 11), none⟩,
                  ⟨some 97, AOp.indexS 2 (AX.t 95) (AX.t 96), none⟩,
                  ⟨some 98, AOp.load true 2 (AX.t 97), none⟩,
                  ⟨some 99, AOp.indexS 2 (AX.t 85) (AX.t 86), none⟩,
                  ⟨none, AOp.store 2 (AX.t 99) (AX.t 94), none⟩,
                  ⟨some 100, AOp.indexS 2 (AX.t 87) (AX.t 89), none⟩,
                  ⟨none, AOp.store 2 (AX.t 100) (AX.t 98), none⟩] [0, 1, 2, 3, 9, 10, 11])))
              (.region [] [⟨some 70, AOp.mov (AX.t 11), none⟩,
                ⟨some 71, AOp.bin (BinOp.sub) (AX.t 70) (AX.c (AV.int (IntKind.i64) 1)), none⟩,
                ⟨some 11, AOp.mov (AX.t 71), none⟩] [0, 1, 2, 3, 9, 10, 11]))))))
          AC.skip))
        (.seq
        (.region [] [⟨some 101, AOp.mov (AX.t 2), none⟩,
          ⟨some 102, AOp.mov (AX.t 9), none⟩,
          ⟨some 103, AOp.bin (BinOp.sub) (AX.t 101) (AX.t 102), none⟩,
          ⟨some 104, AOp.bin (BinOp.geq) (AX.t 103) (AX.c (AV.int (IntKind.i64) 2)), none⟩] [0, 1, 2, 3, 9, 10, 104])
        (.cond (AX.t 104)
          (.seq
          (.region [] [⟨some 105, AOp.mov (AX.t 9), none⟩,
            ⟨some 106, AOp.bin (BinOp.add) (AX.t 105) (AX.c (AV.int (IntKind.i64) 1)), none⟩,
            ⟨some 12, AOp.mov (AX.t 106), none⟩] [0, 1, 2, 3, 9, 10, 12])
          (.block 6
            (.loop
              (.seq
              (.seq
              (.region [] [⟨some 107, AOp.mov (AX.t 12), none⟩,
                ⟨some 108, AOp.mov (AX.t 2), none⟩,
                ⟨some 109, AOp.bin (BinOp.lss) (AX.t 107) (AX.t 108), none⟩] [0, 1, 2, 3, 9, 10, 12, 109])
              (.cond (AX.t 109)
                AC.skip
                (.exit 6)))
              (.seq
              (.block 7
                (.seq
                (.seq
                (.region [0, 1, 2, 3, 4, 5, 6, 7, 8, 9, 10, 11, 12] [⟨some 112, AOp.mov (AX.t 3), none⟩,
                  ⟨some 113, AOp.mov (AX.t 0), none⟩,
                  ⟨some 114, AOp.mov (AX.t 12), none⟩,
                  ⟨some 115, AOp.indexS 2 (AX.t 113) (AX.t 114), none⟩,
                  ⟨some 116, AOp.load true 2 (AX.t 115), none⟩,
                  ⟨some 117, AOp.mov (AX.t 0), none⟩,
                  ⟨some 118, AOp.mov (AX.t 12), none⟩,
                  ⟨some 119, AOp.bin (BinOp.sub) (AX.t 118) (AX.c (AV.int (IntKind.i64) 1)), none⟩,
                  ⟨some 120, AOp.indexS 2 (AX.t 117) (AX.t 119), none⟩,
                  ⟨some 121, AOp.load true 2 (AX.t 120), none⟩,
                  ⟨some 122, AOp.callV (AX.t 112) [AX.t 116, AX.t 121], none⟩,
                  ⟨some 123, AOp.bin (BinOp.lss) (AX.t 122) (AX.c (AV.int (IntKind.i64) 0)), none⟩,
                  ⟨some 124, AOp.un (UnOp.not) (AX.t 123), none⟩] [0, 1, 2, 3, 9, 10, 12, 124])
                (.cond (AX.t 124)
                  (.exit 6)
                  AC.skip))
                (.region [0, 1, 2, 3, 4, 5, 6, 7, 8, 9, 10, 11, 12, 13, 14, 15, 16, 17] [⟨some 125, AOp.mov (AX.t 0), none⟩,
                  ⟨some 126, AOp.mov (AX.t 12), none⟩,
                  ⟨some 127, AOp.mov (AX.t 0), none⟩,
                  ⟨some 128, AOp.mov (AX.t 12), none⟩,
                  ⟨some 129, AOp.bin (BinOp.sub) (AX.t 128) (AX.c (AV.int (IntKind.i64) 1)), none⟩,
                  ⟨some 130, AOp.mov (AX.t 0), none⟩,
                  ⟨some 131, AOp.mov (AX.t 12), none⟩,
                  ⟨some 132, AOp.bin (BinOp.sub) (AX.t 131) (AX.c (AV.int (IntKind.i64) 1)), none⟩,
                  ⟨some 133, AOp.indexS 2 (AX.t 130) (AX.t 132), none⟩,
                  ⟨some 134, AOp.load true 2 (AX.t 133), none⟩,
                  ⟨some 135, AOp.mov (AX.t 0), none⟩,
                  ⟨some 136, AOp.mov (AX.t 12), none⟩,
                  ⟨some 137, AOp.indexS 2 (AX.t 135) (AX.t 136), none⟩,
                  ⟨some 138, AOp.load true 2 (AX.t 137), none⟩,
                  ⟨some 139, AOp.indexS 2 (AX.t 125) (AX.t 126), none⟩,
                  ⟨none, AOp.store 2 (AX.t 139) (AX.t 134), none⟩,
                  ⟨some 140, AOp.indexS 2 (AX.t 127) (AX.t 129), none⟩,
                  ⟨none, AOp.store 2 (AX.t 140) (AX.t 138), none⟩] [0, 1, 2, 3, 9, 10, 12])))
              (.region [] [⟨some 110, AOp.mov (AX.t 12), none⟩,
                ⟨some 111, AOp.bin (BinOp.add) (AX.t 110) (AX.c (AV.int (IntKind.i64) 1)), none⟩,
                ⟨some 12, AOp.mov (AX.t 111), none⟩] [0, 1, 2, 3, 9, 10, 12]))))))
          AC.skip))))))))
      (.region [] [⟨some 17, AOp.mov (AX.t 10), none⟩,
        ⟨some 18, AOp.bin (BinOp.add) (AX.t 17) (AX.c (AV.int (IntKind.i64) 1)), none⟩,
        ⟨some 10, AOp.mov (AX.t 18), none⟩] [0, 1, 2, 3, 9, 10]))))))
  (.seq
  (.region [] [⟨some 8, AOp.mov (AX.c (AV.bool false)), none⟩] [8])
  AC.ret))))⟩

/-- slices.partitionEqualCmpFunc[silo/api.File] (checked) -/
def a82 : AF := ⟨[ARes.t 10],
  (.seq
  (.region [] [⟨some 10, AOp.mov (AX.c (AV.int (IntKind.i64) 0)), none⟩] [0, 1, 2, 3, 4])
  (.seq
  (.region [0, 1, 2, 3, 4, 5, 6, 7, 8, 9, 10, 11, 12, 13, 14, 15] [⟨some 13, AOp.mov (AX.t 0), none⟩,
    ⟨some 14, AOp.mov (AX.t 1), none⟩,
    ⟨some 15, AOp.mov (AX.t 0), none⟩,
    ⟨some 16, AOp.mov (AX.t 3), none⟩,
    ⟨some 17, AOp.mov (AX.t 0), none⟩,
    ⟨some 18, AOp.mov (AX.t 3), none⟩,
    ⟨some 19, AOp.indexS 2 (AX.t 17) (AX.t 18), none⟩,
    ⟨some 20, AOp.load true 2 (AX.t 19), none⟩,
    ⟨some 21, AOp.mov (AX.t 0), none⟩,
    ⟨some 22, AOp.mov (AX.t 1), none⟩,
    ⟨some 23, AOp.indexS 2 (AX.t 21) (AX.t 22), none⟩,
    ⟨some 24, AOp.load true 2 (AX.t 23), none⟩,
    ⟨some 25, AOp.indexS 2 (AX.t 13) (AX.t 14), none⟩,
    ⟨none, AOp.store 2 (AX.t 25) (AX.t 20), none⟩,
    ⟨some 26, AOp.indexS 2 (AX.t 15) (AX.t 16), none⟩,
    ⟨none, AOp.store 2 (AX.t 26) (AX.t 24), none⟩] [0, 1, 2, 4])
  (.seq
  (.region [] [⟨some 27, AOp.mov (AX.t 1), none⟩,
    ⟨some 28, AOp.bin (BinOp.add) (AX.t 27) (AX.c (AV.int (IntKind.i64) 1)), none⟩,
    ⟨some 29, AOp.mov (AX.t 2), none⟩,
    ⟨some 30, AOp.bin (BinOp.sub) (AX.t 29) (AX.c (AV.int (IntKind.i64) 1)), none⟩,
    ⟨some 11, AOp.mov (AX.t 28), none⟩,
    ⟨some 12, AOp.mov (AX.t 30), none⟩] [0, 1, 4, 11, 12])
  (.seq
  (.block 0
    (.loop
      (.block 1
        (.seq
        (.block 2
          (.loop
            (.seq
            (.seq
            (.region [0, 1, 2, 3, 4, 5, 6, 7, 8, 9, 10, 11, 12, 13, 14, 15, 16] [⟨some 31, AOp.mov (AX.t 11), none⟩,
              ⟨some 32, AOp.mov (AX.t 12), none⟩,
              ⟨some 33, AOp.bin (BinOp.leq) (AX.t 31) (AX.t 32), none⟩,
              ⟨some 34, AOp.mov (AX.t 33), none⟩,
              ⟨some 35, AOp.mov (AX.t 4), some (34, true)⟩,
              ⟨some 36, AOp.mov (AX.t 0), some (34, true)⟩,
              ⟨some 37, AOp.mov (AX.t 1), some (34, true)⟩,
              ⟨some 38, AOp.indexS 2 (AX.t 36) (AX.t 37), some (34, true)⟩,
              ⟨some 39, AOp.load true 2 (AX.t 38), some (34, true)⟩,
              ⟨some 40, AOp.mov (AX.t 0), some (34, true)⟩,
              ⟨some 41, AOp.mov (AX.t 11), some (34, true)⟩,
              ⟨some 42, AOp.indexS 2 (AX.t 40) (AX.t 41), some (34, true)⟩,
              ⟨some 43, AOp.load true 2 (AX.t 42), some (34, true)⟩,
              ⟨some 44, AOp.callV (AX.t 35) [AX.t 39, AX.t 43], some (34, true)⟩,
              ⟨some 45, AOp.bin (BinOp.lss) (AX.t 44) (AX.c (AV.int (IntKind.i64) 0)), some (34, true)⟩,
              ⟨some 46, AOp.un (UnOp.not) (AX.t 45), some (34, true)⟩,
              ⟨some 47, AOp.pick (AX.t 34) (AX.t 46) (AX.c (AV.bool false)), none⟩] [0, 1, 4, 11, 12, 47])
            (.cond (AX.t 47)
              AC.skip
              (.exit 2)))
            (.block 3
              (.region [] [⟨some 48, AOp.mov (AX.t 11), none⟩,
                ⟨some 49, AOp.bin (BinOp.add) (AX.t 48) (AX.c (AV.int (IntKind.i64) 1)), none⟩,
                ⟨some 11, AOp.mov (AX.t 49), none⟩] [0, 1, 4, 11, 12])))))
        (.seq
        (.block 4
          (.loop
            (.seq
            (.seq
            (.region [0, 1, 2, 3, 4, 5, 6, 7, 8, 9, 10, 11, 12, 13, 14, 15] [⟨some 50, AOp.mov (AX.t 11), none⟩,
              ⟨some 51, AOp.mov (AX.t 12), none⟩,
              ⟨some 52, AOp.bin (BinOp.leq) (AX.t 50) (AX.t 51), none⟩,
              ⟨some 53, AOp.mov (AX.t 52), none⟩,
              ⟨some 54, AOp.mov (AX.t 4), some (53, true)⟩,
              ⟨some 55, AOp.mov (AX.t 0), some (53, true)⟩,
              ⟨some 56, AOp.mov (AX.t 1), some (53, true)⟩,
              ⟨some 57, AOp.indexS 2 (AX.t 55) (AX.t 56), some (53, true)⟩,
              ⟨some 58, AOp.load true 2 (AX.t 57), some (53, true)⟩,
              ⟨some 59, AOp.mov (AX.t 0), some (53, true)⟩,
              ⟨some 60, AOp.mov (AX.t 12), some (53, true)⟩,
              ⟨some 61, AOp.indexS 2 (AX.t 59) (AX.t 60), some (53, true)⟩,
              ⟨some 62, AOp.load true 2 (AX.t 61), some (53, true)⟩,
              ⟨some 63, AOp.callV (AX.t 54) [AX.t 58, AX.t 62], some (53, true)⟩,
              ⟨some 64, AOp.bin (BinOp.lss) (AX.t 63) (AX.c (AV.int (IntKind.i64) 0)), some (53, true)⟩,
              ⟨some 65, AOp.pick (AX.t 53) (AX.t 64) (AX.c (AV.bool false)), none⟩] [0, 1, 4, 11, 12, 65])
            (.cond (AX.t 65)
              AC.skip
              (.exit 4)))
            (.block 5
              (.region [] [⟨some 66, AOp.mov (AX.t 12), none⟩,
                ⟨some 67, AOp.bin (BinOp.sub) (AX.t 66) (AX.c (AV.int (IntKind.i64) 1)), none⟩,
                ⟨some 12, AOp.mov (AX.t 67), none⟩] [0, 1, 4, 11, 12])))))
        (.seq
        (.seq
        (.region [] [⟨some 68, AOp.mov (AX.t 11), none⟩,
          ⟨some 69, AOp.mov (AX.t 12), none⟩,
          ⟨some 70, AOp.bin (BinOp.gtr) (AX.t 68) (AX.t 69), none⟩] [0, 1, 4, 11, 12, 70])
        (.cond (AX.t 70)
          (.exit 0)
          AC.skip))
        (.seq
        (.region [0, 1, 2, 3, 4, 5, 6, 7, 8, 9, 10, 11, 12, 13, 14, 15] [⟨some 71, AOp.mov (AX.t 0), none⟩,
          ⟨some 72, AOp.mov (AX.t 11), none⟩,
          ⟨some 73, AOp.mov (AX.t 0), none⟩,
          ⟨some 74, AOp.mov (AX.t 12), none⟩,
          ⟨some 75, AOp.mov (AX.t 0), none⟩,
          ⟨some 76, AOp.mov (AX.t 12), none⟩,
          ⟨some 77, AOp.indexS 2 (AX.t 75) (AX.t 76), none⟩,
          ⟨some 78, AOp.load true 2 (AX.t 77), none⟩,
          ⟨some 79, AOp.mov (AX.t 0), none⟩,
          ⟨some 80, AOp.mov (AX.t 11), none⟩,
          ⟨some 81, AOp.indexS 2 (AX.t 79) (AX.t 80), none⟩,
          ⟨some 82, AOp.load true 2 (AX.t 81), none⟩,
          ⟨some 83, AOp.indexS 2 (AX.t 71) (AX.t 72), none⟩,
          ⟨none, AOp.store 2 (AX.t 83) (AX.t 78), none⟩,
          ⟨some 84, AOp.indexS 2 (AX.t 73) (AX.t 74), none⟩,
          ⟨none, AOp.store 2 (AX.t 84) (AX.t 82), none⟩] [0, 1, 4, 11, 12])
        (.seq
        (.region [] [⟨some 85, AOp.mov (AX.t 11), none⟩,
          ⟨some 86, AOp.bin (BinOp.add) (AX.t 85) (AX.c (AV.int (IntKind.i64) 1)), none⟩,
          ⟨some 11, AOp.mov (AX.t 86), none⟩] [0, 1, 4, 11, 12])
        (.region [] [⟨some 87, AOp.mov (AX.t 12), none⟩,
          ⟨some 88, AOp.bin (BinOp.sub) (AX.t 87) (AX.c (AV.int (IntKind.i64) 1)), none⟩,
          ⟨some 12, AOp.mov (AX.t 88), none⟩] [0, 1, 4, 11, 12])))))))))
  (.seq
  (.region [] [⟨some 89, AOp.mov (AX.t 11), none⟩,
    ⟨some 10, AOp.mov (AX.t 89), none⟩] [10])
  AC.ret)))))⟩

/-- slices.partitionCmpFunc[silo/api.File] (checked) -/
def a83 : AF := ⟨[ARes.t 10, ARes.t 11],
  (.seq
  (.region [] [⟨some 10, AOp.mov (AX.c (AV.int (IntKind.i64) 0)), none⟩,
    ⟨some 11, AOp.mov (AX.c (AV.bool false)), none⟩] [0, 1, 2, 3, 4])
  (.seq
  (.region [0, 1, 2, 3, 4, 5, 6, 7, 8, 9, 10, 11, 12, 13, 14, 15] [⟨some 14, AOp.mov (AX.t 0), none⟩,
    ⟨some 15, AOp.mov (AX.t 1), none⟩,
    ⟨some 16, AOp.mov (AX.t 0), none⟩,
    ⟨some 17, AOp.mov (AX.t 3), none⟩,
    ⟨some 18, AOp.mov (AX.t 0), none⟩,
    ⟨some 19, AOp.mov (AX.t 3), none⟩,
    ⟨some 20, AOp.indexS 2 (AX.t 18) (AX.t 19), none⟩,
    ⟨some 21, AOp.load true 2 (AX.t 20), none⟩,
    ⟨some 22, AOp.mov (AX.t 0), none⟩,
    ⟨some 23, AOp.mov (AX.t 1), none⟩,
    ⟨some 24, AOp.indexS 2 (AX.t 22) (AX.t 23), none⟩,
    ⟨some 25, AOp.load true 2 (AX.t 24), none⟩,
    ⟨some 26, AOp.indexS 2 (AX.t 14) (AX.t 15), none⟩,
    ⟨none, AOp.store 2 (AX.t 26) (AX.t 21), none⟩,
    ⟨some 27, AOp.indexS 2 (AX.t 16) (AX.t 17), none⟩,
    ⟨none, AOp.store 2 (AX.t 27) (AX.t 25), none⟩] [0, 1, 2, 4])
  (.seq
  (.region [] [⟨some 28, AOp.mov (AX.t 1), none⟩,
    ⟨some 29, AOp.bin (BinOp.add) (AX.t 28) (AX.c (AV.int (IntKind.i64) 1)), none⟩,
    ⟨some 30, AOp.mov (AX.t 2), none⟩,
    ⟨some 31, AOp.bin (BinOp.sub) (AX.t 30) (AX.c (AV.int (IntKind.i64) 1)), none⟩,
    ⟨some 12, AOp.mov (AX.t 29), none⟩,
    ⟨some 13, AOp.mov (AX.t 31), none⟩] [0, 1, 4, 12, 13])
  (.seq
  (.block 0
    (.loop
      (.seq
      (.seq
      (.region [0, 1, 2, 3, 4, 5, 6, 7, 8, 9, 10, 11, 12, 13, 14, 15] [⟨some 32, AOp.mov (AX.t 12), none⟩,
        ⟨some 33, AOp.mov (AX.t 13), none⟩,
        ⟨some 34, AOp.bin (BinOp.leq) (AX.t 32) (AX.t 33), none⟩,
        ⟨some 35, AOp.mov (AX.t 34), none⟩,
        ⟨some 36, AOp.mov (AX.t 4), some (35, true)⟩,
        ⟨some 37, AOp.mov (AX.t 0), some (35, true)⟩,
        ⟨some 38, AOp.mov (AX.t 12), some (35, true)⟩,
        ⟨some 39, AOp.indexS 2 (AX.t 37) (AX.t 38), some (35, true)⟩,
        ⟨some 40, AOp.load true 2 (AX.t 39), some (35, true)⟩,
        ⟨some 41, AOp.mov (AX.t 0), some (35, true)⟩,
        ⟨some 42, AOp.mov (AX.t 1), some (35, true)⟩,
        ⟨some 43, AOp.indexS 2 (AX.t 41) (AX.t 42), some (35, true)⟩,
        ⟨some 44, AOp.load true 2 (AX.t 43), some (35, true)⟩,
        ⟨some 45, AOp.callV (AX.t 36) [AX.t 40, AX.t 44], some (35, true)⟩,
        ⟨some 46, AOp.bin (BinOp.lss) (AX.t 45) (AX.c (AV.int (IntKind.i64) 0)), some (35, true)⟩,
        ⟨some 47, AOp.pick (AX.t 35) (AX.t 46) (AX.c (AV.bool false)), none⟩] [0, 1, 4, 12, 13, 47])
      (.cond (AX.t 47)
        AC.skip
        (.exit 0)))
      (.block 1
        (.region [] [⟨some 48, AOp.mov (AX.t 12), none⟩,
          ⟨some 49, AOp.bin (BinOp.add) (AX.t 48) (AX.c (AV.int (IntKind.i64) 1)), none⟩,
          ⟨some 12, AOp.mov (AX.t 49), none⟩] [0, 1, 4, 12, 13])))))
  (.seq
  (.block 2
    (.loop
      (.seq
      (.seq
      (.region [0, 1, 2, 3, 4, 5, 6, 7, 8, 9, 10, 11, 12, 13, 14, 15, 16] [⟨some 50, AOp.mov (AX.t 12), none⟩,
        ⟨some 51, AOp.mov (AX.t 13), none⟩,
        ⟨some 52, AOp.bin (BinOp.leq) (AX.t 50) (AX.t 51), none⟩,
        ⟨some 53, AOp.mov (AX.t 52), none⟩,
        ⟨some 54, AOp.mov (AX.t 4), some (53, true)⟩,
        ⟨some 55, AOp.mov (AX.t 0), some (53, true)⟩,
        ⟨some 56, AOp.mov (AX.t 13), some (53, true)⟩,
        ⟨some 57, AOp.indexS 2 (AX.t 55) (AX.t 56), some (53, true)⟩,
        ⟨some 58, AOp.load true 2 (AX.t 57), some (53, true)⟩,
        ⟨some 59, AOp.mov (AX.t 0), some (53, true)⟩,
        ⟨some 60, AOp.mov (AX.t 1), some (53, true)⟩,
        ⟨some 61, AOp.indexS 2 (AX.t 59) (AX.t 60), some (53, true)⟩,
        ⟨some 62, AOp.load true 2 (AX.t 61), some (53, true)⟩,
        ⟨some 63, AOp.callV (AX.t 54) [AX.t 58, AX.t 62], some (53, true)⟩,
        ⟨some 64, AOp.bin (BinOp.lss) (AX.t 63) (AX.c (AV.int (IntKind.i64) 0)), some (53, true)⟩,
        ⟨some 65, AOp.un (UnOp.not) (AX.t 64), some (53, true)⟩,
        ⟨some 66, AOp.pick (AX.t 53) (AX.t 65) (AX.c (AV.bool false)), none⟩] [0, 1, 4, 12, 13, 66])
      (.cond (AX.t 66)
        AC.skip
        (.exit 2)))
      (.block 3
        (.region [] [⟨some 67, AOp.mov (AX.t 13), none⟩,
          ⟨some 68, AOp.bin (BinOp.sub) (AX.t 67) (AX.c (AV.int (IntKind.i64) 1)), none⟩,
          ⟨some 13, AOp.mov (AX.t 68), none⟩] [0, 1, 4, 12, 13])))))
  (.seq
  (.seq
  (.region [] [⟨some 69, AOp.mov (AX.t 12), none⟩,
    ⟨some 70, AOp.mov (AX.t 13), none⟩,
    ⟨some 71, AOp.bin (BinOp.gtr) (AX.t 69) (AX.t 70), none⟩] [0, 1, 4, 12, 13, 71])
  (.cond (AX.t 71)
    (.seq
    (.region [0, 1, 2, 3, 4, 5, 6, 7, 8, 9, 10, 11, 12, 13, 14, 15] [⟨some 72, AOp.mov (AX.t 0), none⟩,
      ⟨some 73, AOp.mov (AX.t 13), none⟩,
      ⟨some 74, AOp.mov (AX.t 0), none⟩,
      ⟨some 75, AOp.mov (AX.t 1), none⟩,
      ⟨some 76, AOp.mov (AX.t 0), none⟩,
      ⟨some 77, AOp.mov (AX.t 1), none⟩,
      ⟨some 78, AOp.indexS 2 (AX.t 76) (AX.t 77), none⟩,
      ⟨some 79, AOp.load true 2 (AX.t 78), none⟩,
      ⟨some 80, AOp.mov (AX.t 0), none⟩,
      ⟨some 81, AOp.mov (AX.t 13), none⟩,
      ⟨some 82, AOp.indexS 2 (AX.t 80) (AX.t 81), none⟩,
      ⟨some 83, AOp.load true 2 (AX.t 82), none⟩,
      ⟨some 84, AOp.indexS 2 (AX.t 72) (AX.t 73), none⟩,
      ⟨none, AOp.store 2 (AX.t 84) (AX.t 79), none⟩,
      ⟨some 85, AOp.indexS 2 (AX.t 74) (AX.t 75), none⟩,
      ⟨none, AOp.store 2 (AX.t 85) (AX.t 83), none⟩] [13])
    (.seq
    (.region [] [⟨some 86, AOp.mov (AX.t 13), none⟩,
      ⟨some 10, AOp.mov (AX.t 86), none⟩,
      ⟨some 11, AOp.mov (AX.c (AV.bool true)), none⟩] [10, 11])
    AC.ret))
    AC.skip))
  (.seq
  (.region [0, 1, 2, 3, 4, 5, 6, 7, 8, 9, 10, 11, 12, 13, 14, 15] [⟨some 87, AOp.mov (AX.t 0), none⟩,
    ⟨some 88, AOp.mov (AX.t 12), none⟩,
    ⟨some 89, AOp.mov (AX.t 0), none⟩,
    ⟨some 90, AOp.mov (AX.t 13), none⟩,
    ⟨some 91, AOp.mov (AX.t 0), none⟩,
    ⟨some 92, AOp.mov (AX.t 13), none⟩,
    ⟨some 93, AOp.indexS 2 (AX.t 91) (AX.t 92), none⟩,
    ⟨some 94, AOp.load true 2 (AX.t 93), none⟩,
    ⟨some 95, AOp.mov (AX.t 0), none⟩,
    ⟨some 96, AOp.mov (AX.t 12), none⟩,
    ⟨some 97, AOp.indexS 2 (AX.t 95) (AX.t 96), none⟩,
    ⟨some 98, AOp.load true 2 (AX.t 97), none⟩,
    ⟨some 99, AOp.indexS 2 (AX.t 87) (AX.t 88), none⟩,
    ⟨none, AOp.store 2 (AX.t 99) (AX.t 94), none⟩,
    ⟨some 100, AOp.indexS 2 (AX.t 89) (AX.t 90), none⟩,
    ⟨none, AOp.store 2 (AX.t 100) (AX.t 98), none⟩] [0, 1, 4, 12, 13])
  (.seq
  (.region [] [⟨some 101, AOp.mov (AX.t 12), none⟩,
    ⟨some 102, AOp.bin (BinOp.add) (AX.t 101) (AX.c (AV.int (IntKind.i64) 1)), none⟩,
    ⟨some 12, AOp.mov (AX.t 102), none⟩] [0, 1, 4, 12, 13])
  (.seq
  (.region [] [⟨some 103, AOp.mov (AX.t 13), none⟩,
    ⟨some 104, AOp.bin (BinOp.sub) (AX.t 103) (AX.c (AV.int (IntKind.i64) 1)), none⟩,
    ⟨some 13, AOp.mov (AX.t 104), none⟩] [0, 1, 4, 12, 13])
  (.seq
  (.block 4
    (.loop
      (.block 5
        (.seq
        (.block 6
          (.loop
            (.seq
            (.seq
            (.region [0, 1, 2, 3, 4, 5, 6, 7, 8, 9, 10, 11, 12, 13, 14, 15] [⟨some 105, AOp.mov (AX.t 12), none⟩,
              ⟨some 106, AOp.mov (AX.t 13), none⟩,
              ⟨some 107, AOp.bin (BinOp.leq) (AX.t 105) (AX.t 106), none⟩,
              ⟨some 108, AOp.mov (AX.t 107), none⟩,
              ⟨some 109, AOp.mov (AX.t 4), some (108, true)⟩,
              ⟨some 110, AOp.mov (AX.t 0), some (108, true)⟩,
              ⟨some 111, AOp.mov (AX.t 12), some (108, true)⟩,
              ⟨some 112, AOp.indexS 2 (AX.t 110) (AX.t 111), some (108, true)⟩,
              ⟨some 113, AOp.load true 2 (AX.t 112), some (108, true)⟩,
              ⟨some 114, AOp.mov (AX.t 0), some (108, true)⟩,
              ⟨some 115, AOp.mov (AX.t 1), some (108, true)⟩,
              ⟨some 116, AOp.indexS 2 (AX.t 114) (AX.t 115), some (108, true)⟩,
              ⟨some 117, AOp.load true 2 (AX.t 116), some (108, true)⟩,
              ⟨some 118, AOp.callV (AX.t 109) [AX.t 113, AX.t 117], some (108, true)⟩,
              ⟨some 119, AOp.bin (BinOp.lss) (AX.t 118) (AX.c (AV.int (IntKind.i64) 0)), some (108, true)⟩,
              ⟨some 120, AOp.pick (AX.t 108) (AX.t 119) (AX.c (AV.bool false)), none⟩] [0, 1, 4, 12, 13, 120])
            (.cond (AX.t 120)
              AC.skip
              (.exit 6)))
            (.block 7
              (.region [] [⟨some 121, AOp.mov (AX.t 12), none⟩,
                ⟨some 122, AOp.bin (BinOp.add) (AX.t 121) (AX.c (AV.int (IntKind.i64) 1)), none⟩,
                ⟨some 12, AOp.mov (AX.t 122), none⟩] [0, 1, 4, 12, 13])))))
        (.seq
        (.block 8
          (.loop
            (.seq
            (.seq
            (.region [0, 1, 2, 3, 4, 5, 6, 7, 8, 9, 10, 11, 12, 13, 14, 15, 16] [⟨some 123, AOp.mov (AX.t 12), none⟩,
              ⟨some 124, AOp.mov (AX.t 13), none⟩,
              ⟨some 125, AOp.bin (BinOp.leq) (AX.t 123) (AX.t 124), none⟩,
              ⟨some 126, AOp.mov (AX.t 125), none⟩,
              ⟨some 127, AOp.mov (AX.t 4), some (126, true)⟩,
              ⟨some 128, AOp.mov (AX.t 0), some (126, true)⟩,
              ⟨some 129, AOp.mov (AX.t 13), some (126, true)⟩,
              ⟨some 130, AOp.indexS 2 (AX.t 128) (AX.t 129), some (126, true)⟩,
              ⟨some 131, AOp.load true 2 (AX.t 130), some (126, true)⟩,
              ⟨some 132, AOp.mov (AX.t 0), some (126, true)⟩,
              ⟨some 133, AOp.mov (AX.t 1), some (126, true)⟩,
              ⟨some 134, AOp.indexS 2 (AX.t 132) (AX.t 133), some (126, true)⟩,
              ⟨some 135, AOp.load true 2 (AX.t 134), some (126, true)⟩,
              ⟨some 136, AOp.callV (AX.t 127) [AX.t 131, AX.t 135], some (126, true)⟩,
              ⟨some 137, AOp.bin (BinOp.lss) (AX.t 136) (AX.c (AV.int (IntKind.i64) 0)), some (126, true)⟩,
              ⟨some 138, AOp.un (UnOp.not) (AX.t 137), some (126, true)⟩,
              ⟨some 139, AOp.pick (AX.t 126) (AX.t 138) (AX.c (AV.bool false)), none⟩] [0, 1, 4, 12, 13, 139])
            (.cond (AX.t 139)
              AC.skip
              (.exit 8)))
            (.block 9
              (.region [] [⟨some 140, AOp.mov (AX.t 13), none⟩,
                ⟨some 141, AOp.bin (BinOp.sub) (AX.t 140) (AX.c (AV.int (IntKind.i64) 1)), none⟩,
                ⟨some 13, AOp.mov (AX.t 141), none⟩] [0, 1, 4, 12, 13])))))
        (.seq
        (.seq
        (.region [] [⟨some 142, AOp.mov (AX.t 12), none⟩,
          ⟨some 143, AOp.mov (AX.t 13), none⟩,
          ⟨some 144, AOp.bin (BinOp.gtr) (AX.t 142) (AX.t 143), none⟩] [0, 1, 4, 12, 13, 144])
        (.cond (AX.t 144)
          (.exit 4)
          AC.skip))
        (.seq
        (.region [0, 1, 2, 3, 4, 5, 6, 7, 8, 9, 10, 11, 12, 13, 14, 15] [⟨some 145, AOp.mov (AX.t 0), none⟩,
          ⟨some 146, AOp.mov (AX.t 12), none⟩,
          ⟨some 147, AOp.mov (AX.t 0), none⟩,
          ⟨some 148, AOp.mov (AX.t 13), none⟩,
          ⟨some 149, AOp.mov (AX.t 0), none⟩,
          ⟨some 150, AOp.mov (AX.t 13), none⟩,
          ⟨some 151, AOp.indexS 2 (AX.t 149) (AX.t 150), none⟩,
          ⟨some 152, AOp.load true 2 (AX.t 151), none⟩,
          ⟨some 153, AOp.mov (AX.t 0), none⟩,
          ⟨some 154, AOp.mov (AX.t 12), none⟩,
          ⟨some 155, AOp.indexS 2 (AX.t 153) (AX.t 154), none⟩,
          ⟨some 156, AOp.load true 2 (AX.t 155), none⟩,
          ⟨some 157, AOp.indexS 2 (AX.t 145) (AX.t 146), none⟩,
          ⟨none, AOp.store 2 (AX.t 157) (AX.t 152), none⟩,
          ⟨some 158, AOp.indexS 2 (AX.t 147) (AX.t 148), none⟩,
          ⟨none, AOp.store 2 (AX.t 158) (AX.t 156), none⟩] [0, 1, 4, 12, 13])
        (.seq
        (.region [] [⟨some 159, AOp.mov (AX.t 12), none⟩,
          ⟨some 160, AOp.bin (BinOp.add) (AX.t 159) (AX.c (AV.int (IntKind.i64) 1)), none⟩,
          ⟨some 12, AOp.mov (AX.t 160), none⟩] [0, 1, 4, 12, 13])
        (.region [] [⟨some 161, AOp.mov (AX.t 13), none⟩,
          ⟨some 162, AOp.bin (BinOp.sub) (AX.t 161) (AX.c (AV.int (IntKind.i64) 1)), none⟩,
          ⟨some 13, AOp.mov (AX.t 162), none⟩] [0, 1, 4, 12, 13])))))))))
  (.seq
  (.region [0, 1, 2, 3, 4, 5, 6, 7, 8, 9, 10, 11, 12, 13, 14, 15] [⟨some 163, AOp.mov (AX.t 0), none⟩,
    ⟨some 164, AOp.mov (AX.t 13), none⟩,
    ⟨some 165, AOp.mov (AX.t 0), none⟩,
    ⟨some 166, AOp.mov (AX.t 1), none⟩,
    ⟨some 167, AOp.mov (AX.t 0), none⟩,
    ⟨some 168, AOp.mov (AX.t 1), none⟩,
    ⟨some 169, AOp.indexS 2 (AX.t 167) (AX.t 168), none⟩,
    ⟨some 170, AOp.load true 2 (AX.t 169), none⟩,
    ⟨some 171, AOp.mov (AX.t 0), none⟩,
    ⟨some 172, AOp.mov (AX.t 13), none⟩,
    ⟨some 173, AOp.indexS 2 (AX.t 171) (AX.t 172), none⟩,
    ⟨some 174, AOp.load true 2 (AX.t 173), none⟩,
    ⟨some 175, AOp.indexS 2 (AX.t 163) (AX.t 164), none⟩,
    ⟨none, AOp.store 2 (AX.t 175) (AX.t 170), none⟩,
    ⟨some 176, AOp.indexS 2 (AX.t 165) (AX.t 166), none⟩,
    ⟨none, AOp.store 2 (AX.t 176) (AX.t 174), none⟩] [13])
  (.seq
  (.region [] [⟨some 177, AOp.mov (AX.t 13), none⟩,
    ⟨some 10, AOp.mov (AX.t 177), none⟩,
    ⟨some 11, AOp.mov (AX.c (AV.bool false)), none⟩] [10, 11])
  AC.ret))))))))))))⟩

/-- math/bits.Len32 (checked) -/
def a84 : AF := ⟨[ARes.t 2],
  (.seq
  (.region [] [⟨some 2, AOp.mov (AX.c (AV.int (IntKind.i64) 0)), none⟩] [0, 2])
  (.seq
  (.seq
  (.region [] [⟨some 3, AOp.mov (AX.t 0), none⟩,
    ⟨some 4, AOp.bin (BinOp.geq) (AX.t 3) (AX.c (AV.int (IntKind.u32) 65536)), none⟩] [0, 2, 4])
  (.cond (AX.t 4)
    (.seq
    (.region [] [⟨some 5, AOp.mov (AX.t 0), none⟩,
      ⟨some 6, AOp.bin (BinOp.shr) (AX.t 5) (AX.c (AV.int (IntKind.u64) 16)), none⟩,
      ⟨some 0, AOp.mov (AX.t 6), none⟩] [0])
    (.region [] [⟨some 2, AOp.mov (AX.c (AV.int (IntKind.i64) 16)), none⟩] [0, 2]))
    AC.skip))
  (.seq
  (.seq
  (.region [] [⟨some 7, AOp.mov (AX.t 0), none⟩,
    ⟨some 8, AOp.bin (BinOp.geq) (AX.t 7) (AX.c (AV.int (IntKind.u32) 256)), none⟩] [0, 2, 8])
  (.cond (AX.t 8)
    (.seq
    (.region [] [⟨some 9, AOp.mov (AX.t 0), none⟩,
      ⟨some 10, AOp.bin (BinOp.shr) (AX.t 9) (AX.c (AV.int (IntKind.u64) 8)), none⟩,
      ⟨some 0, AOp.mov (AX.t 10), none⟩] [0, 2])
    (.region [] [⟨some 11, AOp.mov (AX.t 2), none⟩,
      ⟨some 12, AOp.bin (BinOp.add) (AX.t 11) (AX.c (AV.int (IntKind.i64) 8)), none⟩,
      ⟨some 2, AOp.mov (AX.t 12), none⟩] [0, 2]))
    AC.skip))
  (.seq
  (.region [] [⟨some 13, AOp.mov (AX.t 2), none⟩,
    ⟨some 14, AOp.mov (AX.t 0), none⟩,
    ⟨some 15, AOp.convI (IntKind.u8) (AX.t 14), none⟩,
    ⟨some 16, AOp.indexStr (AX.c (AV.str [0, 1, 2, 2, 3, 3, 3, 3, 4, 4, 4, 4, 4, 4, 4, 4, 5, 5, 5, 5, 5, 5, 5, 5, 5, 5, 5, 5, 5, 5, 5, 5, 6, 6, 6, 6, 6, 6, 6, 6, 6, 6, 6, 6, 6, 6, 6, 6, 6, 6, 6, 6, 6, 6, 6, 6, 6, 6, 6, 6, 6, 6, 6, 6, 7, 7, 7, 7, 7, 7, 7, 7, 7, 7, 7, 7, 7, 7, 7, 7, 7, 7, 7, 7, 7, 7, 7, 7, 7, 7, 7, 7, 7, 7, 7, 7, 7, 7, 7, 7, 7, 7, 7, 7, 7, 7, 7, 7, 7, 7, 7, 7, 7, 7, 7, 7, 7, 7, 7, 7, 7, 7, 7, 7, 7, 7, 7, 7, 8, 8, 8, 8, 8, 8, 8, 8, 8, 8, 8, 8, 8, 8, 8, 8, 8, 8, 8, 8, 8, 8, 8, 8, 8, 8, 8, 8, 8, 8, 8, 8, 8, 8, 8, 8, 8, 8, 8, 8, 8, 8, 8, 8, 8, 8, 8, 8, 8, 8, 8, 8, 8, 8, 8, 8, 8, 8, 8, 8, 8, 8, 8, 8, 8, 8, 8, 8, 8, 8, 8, 8, 8, 8, 8, 8, 8, 8, 8, 8, 8, 8, 8, 8, 8, 8, 8, 8, 8, 8, 8, 8, 8, 8, 8, 8, 8, 8, 8, 8, 8, 8, 8, 8, 8, 8, 8, 8, 8, 8, 8, 8, 8, 8, 8, 8, 8, 8, 8, 8, 8, 8, 8, 8, 8, 8, 8, 8])) (AX.t 15), none⟩,
    ⟨some 17, AOp.convI (IntKind.i64) (AX.t 16), none⟩,
    ⟨some 18, AOp.bin (BinOp.add) (AX.t 13) (AX.t 17), none⟩,
    ⟨some 2, AOp.mov (AX.t 18), none⟩] [2])
  AC.ret))))⟩

/-- math/bits.Len64 (checked) -/
def a85 : AF := ⟨[ARes.t 2],
  (.seq
  (.region [] [⟨some 2, AOp.mov (AX.c (AV.int (IntKind.i64) 0)), none⟩] [0, 2])
  (.seq
  (.seq
  (.region [] [⟨some 3, AOp.mov (AX.t 0), none⟩,
    ⟨some 4, AOp.bin (BinOp.geq) (AX.t 3) (AX.c (AV.int (IntKind.u64) 4294967296)), none⟩] [0, 2, 4])
  (.cond (AX.t 4)
    (.seq
    (.region [] [⟨some 5, AOp.mov (AX.t 0), none⟩,
      ⟨some 6, AOp.bin (BinOp.shr) (AX.t 5) (AX.c (AV.int (IntKind.u64) 32)), none⟩,
      ⟨some 0, AOp.mov (AX.t 6), none⟩] [0])
    (.region [] [⟨some 2, AOp.mov (AX.c (AV.int (IntKind.i64) 32)), none⟩] [0, 2]))
    AC.skip))
  (.seq
  (.seq
  (.region [] [⟨some 7, AOp.mov (AX.t 0), none⟩,
    ⟨some 8, AOp.bin (BinOp.geq) (AX.t 7) (AX.c (AV.int (IntKind.u64) 65536)), none⟩] [0, 2, 8])
  (.cond (AX.t 8)
    (.seq
    (.region [] [⟨some 9, AOp.mov (AX.t 0), none⟩,
      ⟨some 10, AOp.bin (BinOp.shr) (AX.t 9) (AX.c (AV.int (IntKind.u64) 16)), none⟩,
      ⟨some 0, AOp.mov (AX.t 10), none⟩] [0, 2])
    (.region [] [⟨some 11, AOp.mov (AX.t 2), none⟩,
      ⟨some 12, AOp.bin (BinOp.add) (AX.t 11) (AX.c (AV.int (IntKind.i64) 16)), none⟩,
      ⟨some 2, AOp.mov (AX.t 12), none⟩] [0, 2]))
    AC.skip))
  (.seq
  (.seq
  (.region [] [⟨some 13, AOp.mov (AX.t 0), none⟩,
    ⟨some 14, AOp.bin (BinOp.geq) (AX.t 13) (AX.c (AV.int (IntKind.u64) 256)), none⟩] [0, 2, 14])
  (.cond (AX.t 14)
    (.seq
    (.region [] [⟨some 15, AOp.mov (AX.t 0), none⟩,
      ⟨some 16, AOp.bin (BinOp.shr) (AX.t 15) (AX.c (AV.int (IntKind.u64) 8)), none⟩,
      ⟨some 0, AOp.mov (AX.t 16), none⟩] [0, 2])
    (.region [] [⟨some 17, AOp.mov (AX.t 2), none⟩,
      ⟨some 18, AOp.bin (BinOp.add) (AX.t 17) (AX.c (AV.int (IntKind.i64) 8)), none⟩,
      ⟨some 2, AOp.mov (AX.t 18), none⟩] [0, 2]))
    AC.skip))
  (.seq
  (.region [] [⟨some 19, AOp.mov (AX.t 2), none⟩,
    ⟨some 20, AOp.mov (AX.t 0), none⟩,
    ⟨some 21, AOp.convI (IntKind.u8) (AX.t 20), none⟩,
    ⟨some 22, AOp.indexStr (AX.c (AV.str [0, 1, 2, 2, 3, 3, 3, 3, 4, 4, 4, 4, 4, 4, 4, 4, 5, 5, 5, 5, 5, 5, 5, 5, 5, 5, 5, 5, 5, 5, 5, 5, 6, 6, 6, 6, 6, 6, 6, 6, 6, 6, 6, 6, 6, 6, 6, 6, 6, 6, 6, 6, 6, 6, 6, 6, 6, 6, 6, 6, 6, 6, 6, 6, 7, 7, 7, 7, 7, 7, 7, 7, 7, 7, 7, 7, 7, 7, 7, 7, 7, 7, 7, 7, 7, 7, 7, 7, 7, 7, 7, 7, 7, 7, 7, 7, 7, 7, 7, 7, 7, 7, 7, 7, 7, 7, 7, 7, 7, 7, 7, 7, 7, 7, 7, 7, 7, 7, 7, 7, 7, 7, 7, 7, 7, 7, 7, 7, 8, 8, 8, 8, 8, 8, 8, 8, 8, 8, 8, 8, 8, 8, 8, 8, 8, 8, 8, 8, 8, 8, 8, 8, 8, 8, 8, 8, 8, 8, 8, 8, 8, 8, 8, 8, 8, 8, 8, 8, 8, 8, 8, 8, 8, 8, 8, 8, 8, 8, 8, 8, 8, 8, 8, 8, 8, 8, 8, 8, 8, 8, 8, 8, 8, 8, 8, 8, 8, 8, 8, 8, 8, 8, 8, 8, 8, 8, 8, 8, 8, 8, 8, 8, 8, 8, 8, 8, 8, 8, 8, 8, 8, 8, 8, 8, 8, 8, 8, 8, 8, 8, 8, 8, 8, 8, 8, 8, 8, 8, 8, 8, 8, 8, 8, 8, 8, 8, 8, 8, 8, 8, 8, 8, 8, 8, 8, 8])) (AX.t 21), none⟩,
    ⟨some 23, AOp.convI (IntKind.i64) (AX.t 22), none⟩,
    ⟨some 24, AOp.bin (BinOp.add) (AX.t 19) (AX.t 23), none⟩,
    ⟨some 2, AOp.mov (AX.t 24), none⟩] [2])
  AC.ret)))))⟩

/-- slices.stableCmpFunc[silo/api.File] (checked) -/
def a87 : AF := ⟨[],
  (.seq
  (.region [] [⟨some 6, AOp.mov (AX.c (AV.int (IntKind.i64) 20)), none⟩] [0, 1, 2, 6])
  (.seq
  (.region [] [⟨some 10, AOp.mov (AX.t 6), none⟩,
    ⟨some 7, AOp.mov (AX.c (AV.int (IntKind.i64) 0)), none⟩,
    ⟨some 8, AOp.mov (AX.t 10), none⟩] [0, 1, 2, 6, 7, 8])
  (.seq
  (.block 0
    (.loop
      (.seq
      (.seq
      (.region [] [⟨some 11, AOp.mov (AX.t 8), none⟩,
        ⟨some 12, AOp.mov (AX.t 1), none⟩,
        ⟨some 13, AOp.bin (BinOp.leq) (AX.t 11) (AX.t 12), none⟩] [0, 1, 2, 6, 7, 8, 13])
      (.cond (AX.t 13)
        AC.skip
        (.exit 0)))
      (.block 1
        (.seq
        (.region [] [⟨some 14, AOp.mov (AX.t 0), none⟩,
          ⟨some 15, AOp.mov (AX.t 7), none⟩,
          ⟨some 16, AOp.mov (AX.t 8), none⟩,
          ⟨some 17, AOp.mov (AX.t 2), none⟩,
          ⟨some 18, AOp.call 76 [AX.t 14, AX.t 15, AX.t 16, AX.t 17], none⟩] [0, 1, 2, 6, 8])
        (.seq
        (.region [] [⟨some 19, AOp.mov (AX.t 8), none⟩,
          ⟨some 7, AOp.mov (AX.t 19), none⟩] [0, 1, 2, 6, 7, 8])
        (.region [] [⟨some 20, AOp.mov (AX.t 8), none⟩,
          ⟨some 21, AOp.mov (AX.t 6), none⟩,
          ⟨some 22, AOp.bin (BinOp.add) (AX.t 20) (AX.t 21), none⟩,
          ⟨some 8, AOp.mov (AX.t 22), none⟩] [0, 1, 2, 6, 7, 8])))))))
  (.seq
  (.region [] [⟨some 23, AOp.mov (AX.t 0), none⟩,
    ⟨some 24, AOp.mov (AX.t 7), none⟩,
    ⟨some 25, AOp.mov (AX.t 1), none⟩,
    ⟨some 26, AOp.mov (AX.t 2), none⟩,
    ⟨some 27, AOp.call 76 [AX.t 23, AX.t 24, AX.t 25, AX.t 26], none⟩] [0, 1, 2, 6])
  (.block 2
    (.loop
      (.seq
      (.seq
      (.region [] [⟨some 28, AOp.mov (AX.t 6), none⟩,
        ⟨some 29, AOp.mov (AX.t 1), none⟩,
        ⟨some 30, AOp.bin (BinOp.lss) (AX.t 28) (AX.t 29), none⟩] [0, 1, 2, 6, 30])
      (.cond (AX.t 30)
        AC.skip
        (.exit 2)))
      (.block 3
        (.seq
        (.region [] [⟨some 31, AOp.mov (AX.t 6), none⟩,
          ⟨some 32, AOp.bin (BinOp.mul) (AX.c (AV.int (IntKind.i64) 2)) (AX.t 31), none⟩,
          ⟨some 7, AOp.mov (AX.c (AV.int (IntKind.i64) 0)), none⟩,
          ⟨some 8, AOp.mov (AX.t 32), none⟩] [0, 1, 2, 6, 7, 8])
        (.seq
        (.block 4
          (.loop
            (.seq
            (.seq
            (.region [] [⟨some 33, AOp.mov (AX.t 8), none⟩,
              ⟨some 34, AOp.mov (AX.t 1), none⟩,
              ⟨some 35, AOp.bin (BinOp.leq) (AX.t 33) (AX.t 34), none⟩] [0, 1, 2, 6, 7, 8, 35])
            (.cond (AX.t 35)
              AC.skip
              (.exit 4)))
            (.block 5
              (.seq
              (.region [] [⟨some 36, AOp.mov (AX.t 0), none⟩,
                ⟨some 37, AOp.mov (AX.t 7), none⟩,
                ⟨some 38, AOp.mov (AX.t 7), none⟩,
                ⟨some 39, AOp.mov (AX.t 6), none⟩,
                ⟨some 40, AOp.bin (BinOp.add) (AX.t 38) (AX.t 39), none⟩,
                ⟨some 41, AOp.mov (AX.t 8), none⟩,
                ⟨some 42, AOp.mov (AX.t 2), none⟩,
                ⟨some 43, AOp.call 94 [AX.t 36, AX.t 37, AX.t 40, AX.t 41, AX.t 42], none⟩] [0, 1, 2, 6, 8])
              (.seq
              (.region [] [⟨some 44, AOp.mov (AX.t 8), none⟩,
                ⟨some 7, AOp.mov (AX.t 44), none⟩] [0, 1, 2, 6, 7, 8])
              (.region [] [⟨some 45, AOp.mov (AX.t 8), none⟩,
                ⟨some 46, AOp.mov (AX.t 6), none⟩,
                ⟨some 47, AOp.bin (BinOp.mul) (AX.c (AV.int (IntKind.i64) 2)) (AX.t 46), none⟩,
                ⟨some 48, AOp.bin (BinOp.add) (AX.t 45) (AX.t 47), none⟩,
                ⟨some 8, AOp.mov (AX.t 48), none⟩] [0, 1, 2, 6, 7, 8])))))))
        (.seq
        (.seq
        (.region [] [⟨some 49, AOp.mov (AX.t 7), none⟩,
          ⟨some 50, AOp.mov (AX.t 6), none⟩,
          ⟨some 51, AOp.bin (BinOp.add) (AX.t 49) (AX.t 50), none⟩,
          ⟨some 9, AOp.mov (AX.t 51), none⟩] [0, 1, 2, 6, 7, 9])
        (.seq
        (.region [] [⟨some 52, AOp.mov (AX.t 9), none⟩,
          ⟨some 53, AOp.mov (AX.t 1), none⟩,
          ⟨some 54, AOp.bin (BinOp.lss) (AX.t 52) (AX.t 53), none⟩] [0, 1, 2, 6, 7, 9, 54])
        (.cond (AX.t 54)
          (.region [] [⟨some 55, AOp.mov (AX.t 0), none⟩,
            ⟨some 56, AOp.mov (AX.t 7), none⟩,
            ⟨some 57, AOp.mov (AX.t 9), none⟩,
            ⟨some 58, AOp.mov (AX.t 1), none⟩,
            ⟨some 59, AOp.mov (AX.t 2), none⟩,
            ⟨some 60, AOp.call 94 [AX.t 55, AX.t 56, AX.t 57, AX.t 58, AX.t 59], none⟩] [0, 1, 2, 6])
          AC.skip)))
        (.region [] [⟨some 61, AOp.mov (AX.t 6), none⟩,
          ⟨some 62, AOp.bin (BinOp.mul) (AX.t 61) (AX.c (AV.int (IntKind.i64) 2)), none⟩,
          ⟨some 6, AOp.mov (AX.t 62), none⟩] [0, 1, 2, 6]))))))))))))⟩

/-- slices.siftDownCmpFunc[silo/api.File] (checked) -/
def a89 : AF := ⟨[],
  (.seq
  (.region [] [⟨some 12, AOp.mov (AX.t 1), none⟩,
    ⟨some 10, AOp.mov (AX.t 12), none⟩] [0, 2, 3, 4, 10])
  (.block 0
    (.loop
      (.block 1
        (.seq
        (.region [] [⟨some 13, AOp.mov (AX.t 10), none⟩,
          ⟨some 14, AOp.bin (BinOp.mul) (AX.c (AV.int (IntKind.i64) 2)) (AX.t 13), none⟩,
          ⟨some 15, AOp.bin (BinOp.add) (AX.t 14) (AX.c (AV.int (IntKind.i64) 1)), none⟩,
          ⟨some 11, AOp.mov (AX.t 15), none⟩] [0, 2, 3, 4, 10, 11])
        (.seq
        (.seq
        (.region [] [⟨some 16, AOp.mov (AX.t 11), none⟩,
          ⟨some 17, AOp.mov (AX.t 2), none⟩,
          ⟨some 18, AOp.bin (BinOp.geq) (AX.t 16) (AX.t 17), none⟩] [0, 2, 3, 4, 10, 11, 18])
        (.cond (AX.t 18)
          (.exit 0)
          AC.skip))
        (.seq
        (.seq
        (.region [0, 1, 2, 3, 4, 5, 6, 7, 8, 9, 10, 11, 12, 13, 14, 15, 16, 17, 18, 19, 20, 21] [⟨some 19, AOp.mov (AX.t 11), none⟩,
          ⟨some 20, AOp.bin (BinOp.add) (AX.t 19) (AX.c (AV.int (IntKind.i64) 1)), none⟩,
          ⟨some 21, AOp.mov (AX.t 2), none⟩,
          ⟨some 22, AOp.bin (BinOp.lss) (AX.t 20) (AX.t 21), none⟩,
          ⟨some 23, AOp.mov (AX.t 22), none⟩,
          ⟨some 24, AOp.mov (AX.t 4), some (23, true)⟩,
          ⟨some 25, AOp.mov (AX.t 0), some (23, true)⟩,
          ⟨some 26, AOp.mov (AX.t 3), some (23, true)⟩,
          ⟨some 27, AOp.mov (AX.t 11), some (23, true)⟩,
          ⟨some 28, AOp.bin (BinOp.add) (AX.t 26) (AX.t 27), some (23, true)⟩,
          ⟨some 29, AOp.indexS 2 (AX.t 25) (AX.t 28), some (23, true)⟩,
          ⟨some 30, AOp.load true 2 (AX.t 29), some (23, true)⟩,
          ⟨some 31, AOp.mov (AX.t 0), some (23, true)⟩,
          ⟨some 32, AOp.mov (AX.t 3), some (23, true)⟩,
          ⟨some 33, AOp.mov (AX.t 11), some (23, true)⟩,
          ⟨some 34, AOp.bin (BinOp.add) (AX.t 32) (AX.t 33), some (23, true)⟩,
          ⟨some 35, AOp.bin (BinOp.add) (AX.t 34) (AX.c (AV.int (IntKind.i64) 1)), some (23, true)⟩,
          ⟨some 36, AOp.indexS 2 (AX.t 31) (AX.t 35), some (23, true)⟩,
          ⟨some 37, AOp.load true 2 (AX.t 36), some (23, true)⟩,
          ⟨some 38, AOp.callV (AX.t 24) [AX.t 30, AX.t 37], some (23, true)⟩,
          ⟨some 39, AOp.bin (BinOp.lss) (AX.t 38) (AX.c (AV.int (IntKind.i64) 0)), some (23, true)⟩,
          ⟨some 40, AOp.pick (AX.t 23) (AX.t 39) (AX.c (AV.bool false)), none⟩] [0, 2, 3, 4, 10, 11, 40])
        (.cond (AX.t 40)
          (.region [] [⟨some 41, AOp.mov (AX.t 11), none⟩,
            ⟨some 42, AOp.bin (BinOp.add) (AX.t 41) (AX.c (AV.int (IntKind.i64) 1)), none⟩,
            ⟨some 11, AOp.mov (AX.t 42), none⟩] [0, 2, 3, 4, 10, 11])
          AC.skip))
        (.seq
        (.seq
        (.region [0, 1, 2, 3, 4, 5, 6, 7, 8, 9, 10, 11, 12, 13, 14, 15] [⟨some 43, AOp.mov (AX.t 4), none⟩,
          ⟨some 44, AOp.mov (AX.t 0), none⟩,
          ⟨some 45, AOp.mov (AX.t 3), none⟩,
          ⟨some 46, AOp.mov (AX.t 10), none⟩,
          ⟨some 47, AOp.bin (BinOp.add) (AX.t 45) (AX.t 46), none⟩,
          ⟨some 48, AOp.indexS 2 (AX.t 44) (AX.t 47), none⟩,
          ⟨some 49, AOp.load true 2 (AX.t 48), none⟩,
          ⟨some 50, AOp.mov (AX.t 0), none⟩,
          ⟨some 51, AOp.mov (AX.t 3), none⟩,
          ⟨some 52, AOp.mov (AX.t 11), none⟩,
          ⟨some 53, AOp.bin (BinOp.add) (AX.t 51) (AX.t 52), none⟩,
          ⟨some 54, AOp.indexS 2 (AX.t 50) (AX.t 53), none⟩,
          ⟨some 55, AOp.load true 2 (AX.t 54), none⟩,
          ⟨some 56, AOp.callV (AX.t 43) [AX.t 49, AX.t 55], none⟩,
          ⟨some 57, AOp.bin (BinOp.lss) (AX.t 56) (AX.c (AV.int (IntKind.i64) 0)), none⟩,
          ⟨some 58, AOp.un (UnOp.not) (AX.t 57), none⟩] [0, 2, 3, 4, 10, 11, 58])
        (.cond (AX.t 58)
          AC.ret
          AC.skip))
        (.seq
        (.region [0, 1, 2, 3, 4, 5, 6, 7, 8, 9, 10, 11, 12, 13, 14, 15, 16, 17, 18, 19, 20, 21, 22, 23] [⟨some 59, AOp.mov (AX.t 0), none⟩,
          ⟨some 60, AOp.mov (AX.t 3), none⟩,
          ⟨some 61, AOp.mov (AX.t 10), none⟩,
          ⟨some 62, AOp.bin (BinOp.add) (AX.t 60) (AX.t 61), none⟩,
          ⟨some 63, AOp.mov (AX.t 0), none⟩,
          ⟨some 64, AOp.mov (AX.t 3), none⟩,
          ⟨some 65, AOp.mov (AX.t 11), none⟩,
          ⟨some 66, AOp.bin (BinOp.add) (AX.t 64) (AX.t 65), none⟩,
          ⟨some 67, AOp.mov (AX.t 0), none⟩,
          ⟨some 68, AOp.mov (AX.t 3), none⟩,
          ⟨some 69, AOp.mov (AX.t 11), none⟩,
          ⟨some 70, AOp.bin (BinOp.add) (AX.t 68) (AX.t 69), none⟩,
          ⟨some 71, AOp.indexS 2 (AX.t 67) (AX.t 70), none⟩,
          ⟨some 72, AOp.load true 2 (AX.t 71), none⟩,
          ⟨some 73, AOp.mov (AX.t 0), none⟩,
          ⟨some 74, AOp.mov (AX.t 3), none⟩,
          ⟨some 75, AOp.mov (AX.t 10), none⟩,
          ⟨some 76, AOp.bin (BinOp.add) (AX.t 74) (AX.t 75), none⟩,
          ⟨some 77, AOp.indexS 2 (AX.t 73) (AX.t 76), none⟩,
          ⟨some 78, AOp.load true 2 (AX.t 77), none⟩,
          ⟨some 79, AOp.indexS 2 (AX.t 59) (AX.t 62), none⟩,
          ⟨none, AOp.store 2 (AX.t 79) (AX.t 72), none⟩,
          ⟨some 80, AOp.indexS 2 (AX.t 63) (AX.t 66), none⟩,
          ⟨none, AOp.store 2 (AX.t 80) (AX.t 78), none⟩] [0, 2, 3, 4, 11])
        (.region [] [⟨some 81, AOp.mov (AX.t 11), none⟩,
          ⟨some 10, AOp.mov (AX.t 81), none⟩] [0, 2, 3, 4, 10]))))))))))⟩

/-- slices.nextPowerOfTwo (checked) -/
def a90 : AF := ⟨[ARes.t 2],
  (.seq
  (.region [] [⟨some 2, AOp.mov (AX.c (AV.int (IntKind.u64) 0)), none⟩] [0])
  (.seq
  (.region [] [⟨some 3, AOp.mov (AX.t 0), none⟩,
    ⟨some 4, AOp.convI (IntKind.u64) (AX.t 3), none⟩,
    ⟨some 5, AOp.call 64 [AX.t 4], none⟩,
    ⟨some 6, AOp.bin (BinOp.shl) (AX.c (AV.int (IntKind.u64) 1)) (AX.t 5), none⟩,
    ⟨some 2, AOp.mov (AX.t 6), none⟩] [2])
  AC.ret))⟩

/-- (*slices.xorshift).Next (checked) -/
def a91 : AF := ⟨[ARes.t 2],
  (.seq
  (.region [] [⟨some 2, AOp.mov (AX.c (AV.int (IntKind.u64) 0)), none⟩] [0])
  (.seq
  (.region [0, 1, 2, 3, 4, 5, 6, 7, 8, 9] [⟨some 3, AOp.mov (AX.t 0), none⟩,
    ⟨some 4, AOp.nilCheck (AX.t 3), none⟩,
    ⟨some 5, AOp.load false 1 (AX.t 4), none⟩,
    ⟨some 6, AOp.mov (AX.t 0), none⟩,
    ⟨some 7, AOp.nilCheck (AX.t 6), none⟩,
    ⟨some 8, AOp.load false 1 (AX.t 7), none⟩,
    ⟨some 9, AOp.bin (BinOp.shl) (AX.t 8) (AX.c (AV.int (IntKind.u64) 13)), none⟩,
    ⟨some 10, AOp.bin (BinOp.xor) (AX.t 5) (AX.t 9), none⟩,
    ⟨some 11, AOp.nilCheck (AX.t 3), none⟩,
    ⟨none, AOp.store 1 (AX.t 11) (AX.t 10), none⟩] [0])
  (.seq
  (.region [0, 1, 2, 3, 4, 5, 6, 7, 8, 9] [⟨some 12, AOp.mov (AX.t 0), none⟩,
    ⟨some 13, AOp.nilCheck (AX.t 12), none⟩,
    ⟨some 14, AOp.load false 1 (AX.t 13), none⟩,
    ⟨some 15, AOp.mov (AX.t 0), none⟩,
    ⟨some 16, AOp.nilCheck (AX.t 15), none⟩,
    ⟨some 17, AOp.load false 1 (AX.t 16), none⟩,
    ⟨some 18, AOp.bin (BinOp.shr) (AX.t 17) (AX.c (AV.int (IntKind.u64) 7)), none⟩,
    ⟨some 19, AOp.bin (BinOp.xor) (AX.t 14) (AX.t 18), none⟩,
    ⟨some 20, AOp.nilCheck (AX.t 12), none⟩,
    ⟨none, AOp.store 1 (AX.t 20) (AX.t 19), none⟩] [0])
  (.seq
  (.region [0, 1, 2, 3, 4, 5, 6, 7, 8, 9] [⟨some 21, AOp.mov (AX.t 0), none⟩,
    ⟨some 22, AOp.nilCheck (AX.t 21), none⟩,
    ⟨some 23, AOp.load false 1 (AX.t 22), none⟩,
    ⟨some 24, AOp.mov (AX.t 0), none⟩,
    ⟨some 25, AOp.nilCheck (AX.t 24), none⟩,
    ⟨some 26, AOp.load false 1 (AX.t 25), none⟩,
    ⟨some 27, AOp.bin (BinOp.shl) (AX.t 26) (AX.c (AV.int (IntKind.u64) 17)), none⟩,
    ⟨some 28, AOp.bin (BinOp.xor) (AX.t 23) (AX.t 27), none⟩,
    ⟨some 29, AOp.nilCheck (AX.t 21), none⟩,
    ⟨none, AOp.store 1 (AX.t 29) (AX.t 28), none⟩] [0])
  (.seq
  (.region [] [⟨some 30, AOp.mov (AX.t 0), none⟩,
    ⟨some 31, AOp.nilCheck (AX.t 30), none⟩,
    ⟨some 32, AOp.load false 1 (AX.t 31), none⟩,
    ⟨some 2, AOp.mov (AX.t 32), none⟩] [2])
  AC.ret)))))⟩

/-- slices.medianAdjacentCmpFunc[silo/api.File] (checked) -/
def a92 : AF := ⟨[ARes.t 8],
  (.seq
  (.region [] [⟨some 8, AOp.mov (AX.c (AV.int (IntKind.i64) 0)), none⟩] [0, 1, 2, 3])
  (.seq
  (.region [] [⟨some 9, AOp.mov (AX.t 0), none⟩,
    ⟨some 10, AOp.mov (AX.t 1), none⟩,
    ⟨some 11, AOp.bin (BinOp.sub) (AX.t 10) (AX.c (AV.int (IntKind.i64) 1)), none⟩,
    ⟨some 12, AOp.mov (AX.t 1), none⟩,
    ⟨some 13, AOp.mov (AX.t 1), none⟩,
    ⟨some 14, AOp.bin (BinOp.add) (AX.t 13) (AX.c (AV.int (IntKind.i64) 1)), none⟩,
    ⟨some 15, AOp.mov (AX.t 2), none⟩,
    ⟨some 16, AOp.mov (AX.t 3), none⟩,
    ⟨some 17, AOp.call 93 [AX.t 9, AX.t 11, AX.t 12, AX.t 14, AX.t 15, AX.t 16], none⟩,
    ⟨some 8, AOp.mov (AX.t 17), none⟩] [8])
  AC.ret))⟩

/-- slices.medianCmpFunc[silo/api.File] (checked) -/
def a93 : AF := ⟨[ARes.t 12],
  (.seq
  (.region [] [⟨some 12, AOp.mov (AX.c (AV.int (IntKind.i64) 0)), none⟩] [0, 1, 2, 3, 4, 5])
  (.seq
  (.region [] [⟨some 14, AOp.mov (AX.t 0), none⟩,
    ⟨some 15, AOp.mov (AX.t 1), none⟩,
    ⟨some 16, AOp.mov (AX.t 2), none⟩,
    ⟨some 17, AOp.mov (AX.t 4), none⟩,
    ⟨some 18, AOp.mov (AX.t 5), none⟩,
    ⟨some 19, AOp.call 96 [AX.t 14, AX.t 15, AX.t 16, AX.t 17, AX.t 18], none⟩,
    ⟨some 13, AOp.mov (AX.t 19), none⟩,
    ⟨some 20, AOp.extract (AX.t 13) 0, none⟩,
    ⟨some 21, AOp.extract (AX.t 13) 1, none⟩,
    ⟨some 1, AOp.mov (AX.t 20), none⟩,
    ⟨some 2, AOp.mov (AX.t 21), none⟩] [0, 1, 2, 3, 4, 5])
  (.seq
  (.region [] [⟨some 23, AOp.mov (AX.t 0), none⟩,
    ⟨some 24, AOp.mov (AX.t 2), none⟩,
    ⟨some 25, AOp.mov (AX.t 3), none⟩,
    ⟨some 26, AOp.mov (AX.t 4), none⟩,
    ⟨some 27, AOp.mov (AX.t 5), none⟩,
    ⟨some 28, AOp.call 96 [AX.t 23, AX.t 24, AX.t 25, AX.t 26, AX.t 27], none⟩,
    ⟨some 22, AOp.mov (AX.t 28), none⟩,
    ⟨some 29, AOp.extract (AX.t 22) 0, none⟩,
    ⟨some 30, AOp.extract (AX.t 22) 1, none⟩,
    ⟨some 2, AOp.mov (AX.t 29), none⟩,
    ⟨some 3, AOp.mov (AX.t 30), none⟩] [0, 1, 2, 4, 5])
  (.seq
  (.region [] [⟨some 32, AOp.mov (AX.t 0), none⟩,
    ⟨some 33, AOp.mov (AX.t 1), none⟩,
    ⟨some 34, AOp.mov (AX.t 2), none⟩,
    ⟨some 35, AOp.mov (AX.t 4), none⟩,
    ⟨some 36, AOp.mov (AX.t 5), none⟩,
    ⟨some 37, AOp.call 96 [AX.t 32, AX.t 33, AX.t 34, AX.t 35, AX.t 36], none⟩,
    ⟨some 31, AOp.mov (AX.t 37), none⟩,
    ⟨some 38, AOp.extract (AX.t 31) 0, none⟩,
    ⟨some 39, AOp.extract (AX.t 31) 1, none⟩,
    ⟨some 1, AOp.mov (AX.t 38), none⟩,
    ⟨some 2, AOp.mov (AX.t 39), none⟩] [2])
  (.seq
  (.region [] [⟨some 40, AOp.mov (AX.t 2), none⟩,
    ⟨some 12, AOp.mov (AX.t 40), none⟩] [12])
  AC.ret)))))⟩

/-- slices.symMergeCmpFunc[silo/api.File] (checked) -/
def a94 : AF := ⟨[],
  (.seq
  (.seq
  (.region [] [⟨some 25, AOp.mov (AX.t 2), none⟩,
    ⟨some 26, AOp.mov (AX.t 1), none⟩,
    ⟨some 27, AOp.bin (BinOp.sub) (AX.t 25) (AX.t 26), none⟩,
    ⟨some 28, AOp.bin (BinOp.eql) (AX.t 27) (AX.c (AV.int (IntKind.i64) 1)), none⟩] [0, 1, 2, 3, 4, 28])
  (.cond (AX.t 28)
    (.seq
    (.region [] [⟨some 29, AOp.mov (AX.t 2), none⟩,
      ⟨some 10, AOp.mov (AX.t 29), none⟩] [0, 1, 3, 4, 10])
    (.seq
    (.region [] [⟨some 30, AOp.mov (AX.t 3), none⟩,
      ⟨some 11, AOp.mov (AX.t 30), none⟩] [0, 1, 4, 10, 11])
    (.seq
    (.block 0
      (.loop
        (.seq
        (.seq
        (.region [] [⟨some 31, AOp.mov (AX.t 10), none⟩,
          ⟨some 32, AOp.mov (AX.t 11), none⟩,
          ⟨some 33, AOp.bin (BinOp.lss) (AX.t 31) (AX.t 32), none⟩] [0, 1, 4, 10, 11, 33])
        (.cond (AX.t 33)
          AC.skip
          (.exit 0)))
        (.block 1
          (.seq
          (.region [] [⟨some 34, AOp.mov (AX.t 10), none⟩,
            ⟨some 35, AOp.mov (AX.t 11), none⟩,
            ⟨some 36, AOp.bin (BinOp.add) (AX.t 34) (AX.t 35), none⟩,
            ⟨some 37, AOp.convI (IntKind.u64) (AX.t 36), none⟩,
            ⟨some 38, AOp.bin (BinOp.shr) (AX.t 37) (AX.c (AV.int (IntKind.u64) 1)), none⟩,
            ⟨some 39, AOp.convI (IntKind.i64) (AX.t 38), none⟩,
            ⟨some 12, AOp.mov (AX.t 39), none⟩] [0, 1, 4, 10, 11, 12])
          (.seq
          (.region [0, 1, 2, 3, 4, 5, 6, 7, 8, 9, 10] [⟨some 40, AOp.mov (AX.t 4), none⟩,
            ⟨some 41, AOp.mov (AX.t 0), none⟩,
            ⟨some 42, AOp.mov (AX.t 12), none⟩,
            ⟨some 43, AOp.indexS 2 (AX.t 41) (AX.t 42), none⟩,
            ⟨some 44, AOp.load true 2 (AX.t 43), none⟩,
            ⟨some 45, AOp.mov (AX.t 0), none⟩,
            ⟨some 46, AOp.mov (AX.t 1), none⟩,
            ⟨some 47, AOp.indexS 2 (AX.t 45) (AX.t 46), none⟩,
            ⟨some 48, AOp.load true 2 (AX.t 47), none⟩,
            ⟨some 49, AOp.callV (AX.t 40) [AX.t 44, AX.t 48], none⟩,
            ⟨some 50, AOp.bin (BinOp.lss) (AX.t 49) (AX.c (AV.int (IntKind.i64) 0)), none⟩] [0, 1, 4, 10, 11, 12, 50])
          (.cond (AX.t 50)
            (.region [] [⟨some 51, AOp.mov (AX.t 12), none⟩,
              ⟨some 52, AOp.bin (BinOp.add) (AX.t 51) (AX.c (AV.int (IntKind.i64) 1)), none⟩,
              ⟨some 10, AOp.mov (AX.t 52), none⟩] [0, 1, 4, 10, 11])
            (.region [] [⟨some 53, AOp.mov (AX.t 12), none⟩,
              ⟨some 11, AOp.mov (AX.t 53), none⟩] [0, 1, 4, 10, 11]))))))))
    (.seq
    (.seq
    (.region [] [⟨some 54, AOp.mov (AX.t 1), none⟩,
      ⟨some 13, AOp.mov (AX.t 54), none⟩] [0, 10, 13])
    (.block 2
      (.loop
        (.seq
        (.seq
        (.region [] [⟨some 55, AOp.mov (AX.t 13), none⟩,
          ⟨some 56, AOp.mov (AX.t 10), none⟩,
          ⟨some 57, AOp.bin (BinOp.sub) (AX.t 56) (AX.c (AV.int (IntKind.i64) 1)), none⟩,
          ⟨some 58, AOp.bin (BinOp.lss) (AX.t 55) (AX.t 57), none⟩] [0, 10, 13, 58])
        (.cond (AX.t 58)
          AC.skip
          (.exit 2)))
        (.seq
        (.block 3
          (.region [0, 1, 2, 3, 4, 5, 6, 7, 8, 9, 10, 11, 12, 13, 14, 15, 16, 17] [⟨some 61, AOp.mov (AX.t 0), none⟩,
            ⟨some 62, AOp.mov (AX.t 13), none⟩,
            ⟨some 63, AOp.mov (AX.t 0), none⟩,
            ⟨some 64, AOp.mov (AX.t 13), none⟩,
            ⟨some 65, AOp.bin (BinOp.add) (AX.t 64) (AX.c (AV.int (IntKind.i64) 1)), none⟩,
            ⟨some 66, AOp.mov (AX.t 0), none⟩,
            ⟨some 67, AOp.mov (AX.t 13), none⟩,
            ⟨some 68, AOp.bin (BinOp.add) (AX.t 67) (AX.c (AV.int (IntKind.i64) 1)), none⟩,
            ⟨some 69, AOp.indexS 2 (AX.t 66) (AX.t 68), none⟩,
            ⟨some 70, AOp.load true 2 (AX.t 69), none⟩,
            ⟨some 71, AOp.mov (AX.t 0), none⟩,
            ⟨some 72, AOp.mov (AX.t 13), none⟩,
            ⟨some 73, AOp.indexS 2 (AX.t 71) (AX.t 72), none⟩,
            ⟨some 74, AOp.load true 2 (AX.t 73), none⟩,
            ⟨some 75, AOp.indexS 2 (AX.t 61) (AX.t 62), none⟩,
            ⟨none, AOp.store 2 (AX.t 75) (AX.t 70), none⟩,
            ⟨some 76, AOp.indexS 2 (AX.t 63) (AX.t 65), none⟩,
            ⟨none, AOp.store 2 (AX.t 76) (AX.t 74), none⟩] [0, 10, 13]))
        (.region [] [⟨some 59, AOp.mov (AX.t 13), none⟩,
          ⟨some 60, AOp.bin (BinOp.add) (AX.t 59) (AX.c (AV.int (IntKind.i64) 1)), none⟩,
          ⟨some 13, AOp.mov (AX.t 60), none⟩] [0, 10, 13]))))))
    AC.ret))))
    AC.skip))
  (.seq
  (.seq
  (.region [] [⟨some 77, AOp.mov (AX.t 3), none⟩,
    ⟨some 78, AOp.mov (AX.t 2), none⟩,
    ⟨some 79, AOp.bin (BinOp.sub) (AX.t 77) (AX.t 78), none⟩,
    ⟨some 80, AOp.bin (BinOp.eql) (AX.t 79) (AX.c (AV.int (IntKind.i64) 1)), none⟩] [0, 1, 2, 3, 4, 80])
  (.cond (AX.t 80)
    (.seq
    (.region [] [⟨some 81, AOp.mov (AX.t 1), none⟩,
      ⟨some 14, AOp.mov (AX.t 81), none⟩] [0, 2, 4, 14])
    (.seq
    (.region [] [⟨some 82, AOp.mov (AX.t 2), none⟩,
      ⟨some 15, AOp.mov (AX.t 82), none⟩] [0, 2, 4, 14, 15])
    (.seq
    (.block 4
      (.loop
        (.seq
        (.seq
        (.region [] [⟨some 83, AOp.mov (AX.t 14), none⟩,
          ⟨some 84, AOp.mov (AX.t 15), none⟩,
          ⟨some 85, AOp.bin (BinOp.lss) (AX.t 83) (AX.t 84), none⟩] [0, 2, 4, 14, 15, 85])
        (.cond (AX.t 85)
          AC.skip
          (.exit 4)))
        (.block 5
          (.seq
          (.region [] [⟨some 86, AOp.mov (AX.t 14), none⟩,
            ⟨some 87, AOp.mov (AX.t 15), none⟩,
            ⟨some 88, AOp.bin (BinOp.add) (AX.t 86) (AX.t 87), none⟩,
            ⟨some 89, AOp.convI (IntKind.u64) (AX.t 88), none⟩,
            ⟨some 90, AOp.bin (BinOp.shr) (AX.t 89) (AX.c (AV.int (IntKind.u64) 1)), none⟩,
            ⟨some 91, AOp.convI (IntKind.i64) (AX.t 90), none⟩,
            ⟨some 16, AOp.mov (AX.t 91), none⟩] [0, 2, 4, 14, 15, 16])
          (.seq
          (.region [0, 1, 2, 3, 4, 5, 6, 7, 8, 9, 10, 11] [⟨some 92, AOp.mov (AX.t 4), none⟩,
            ⟨some 93, AOp.mov (AX.t 0), none⟩,
            ⟨some 94, AOp.mov (AX.t 2), none⟩,
            ⟨some 95, AOp.indexS 2 (AX.t 93) (AX.t 94), none⟩,
            ⟨some 96, AOp.load true 2 (AX.t 95), none⟩,
            ⟨some 97, AOp.mov (AX.t 0), none⟩,
            ⟨some 98, AOp.mov (AX.t 16), none⟩,
            ⟨some 99, AOp.indexS 2 (AX.t 97) (AX.t 98), none⟩,
            ⟨some 100, AOp.load true 2 (AX.t 99), none⟩,
            ⟨some 101, AOp.callV (AX.t 92) [AX.t 96, AX.t 100], none⟩,
            ⟨some 102, AOp.bin (BinOp.lss) (AX.t 101) (AX.c (AV.int (IntKind.i64) 0)), none⟩,
            ⟨some 103, AOp.un (UnOp.not) (AX.t 102), none⟩] [0, 2, 4, 14, 15, 16, 103])
          (.cond (AX.t 103)
            (.region [] [⟨some 104, AOp.mov (AX.t 16), none⟩,
              ⟨some 105, AOp.bin (BinOp.add) (AX.t 104) (AX.c (AV.int (IntKind.i64) 1)), none⟩,
              ⟨some 14, AOp.mov (AX.t 105), none⟩] [0, 2, 4, 14, 15])
            (.region [] [⟨some 106, AOp.mov (AX.t 16), none⟩,
              ⟨some 15, AOp.mov (AX.t 106), none⟩] [0, 2, 4, 14, 15]))))))))
    (.seq
    (.seq
    (.region [] [⟨some 107, AOp.mov (AX.t 2), none⟩,
      ⟨some 17, AOp.mov (AX.t 107), none⟩] [0, 14, 17])
    (.block 6
      (.loop
        (.seq
        (.seq
        (.region [] [⟨some 108, AOp.mov (AX.t 17), none⟩,
          ⟨some 109, AOp.mov (AX.t 14), none⟩,
          ⟨some 110, AOp.bin (BinOp.gtr) (AX.t 108) (AX.t 109), none⟩] [0, 14, 17, 110])
        (.cond (AX.t 110)
          AC.skip
          (.exit 6)))
        (.seq
        (.block 7
          (.region [0, 1, 2, 3, 4, 5, 6, 7, 8, 9, 10, 11, 12, 13, 14, 15, 16, 17] [⟨some 113, AOp.mov (AX.t 0), none⟩,
            ⟨some 114, AOp.mov (AX.t 17), none⟩,
            ⟨some 115, AOp.mov (AX.t 0), none⟩,
            ⟨some 116, AOp.mov (AX.t 17), none⟩,
            ⟨some 117, AOp.bin (BinOp.sub) (AX.t 116) (AX.c (AV.int (IntKind.i64) 1)), none⟩,
            ⟨some 118, AOp.mov (AX.t 0), none⟩,
            ⟨some 119, AOp.mov (AX.t 17), none⟩,
            ⟨some 120, AOp.bin (BinOp.sub) (AX.t 119) (AX.c (AV.int (IntKind.i64) 1)), none⟩,
            ⟨some 121, AOp.indexS 2 (AX.t 118) (AX.t 120), none⟩,
            ⟨some 122, AOp.load true 2 (AX.t 121), none⟩,
            ⟨some 123, AOp.mov (AX.t 0), none⟩,
            ⟨some 124, AOp.mov (AX.t 17), none⟩,
            ⟨some 125, AOp.indexS 2 (AX.t 123) (AX.t 124), none⟩,
            ⟨some 126, AOp.load true 2 (AX.t 125), none⟩,
            ⟨some 127, AOp.indexS 2 (AX.t 113) (AX.t 114), none⟩,
            ⟨none, AOp.store 2 (AX.t 127) (AX.t 122), none⟩,
            ⟨some 128, AOp.indexS 2 (AX.t 115) (AX.t 117), none⟩,
            ⟨none, AOp.store 2 (AX.t 128) (AX.t 126), none⟩] [0, 14, 17]))
        (.region [] [⟨some 111, AOp.mov (AX.t 17), none⟩,
          ⟨some 112, AOp.bin (BinOp.sub) (AX.t 111) (AX.c (AV.int (IntKind.i64) 1)), none⟩,
          ⟨some 17, AOp.mov (AX.t 112), none⟩] [0, 14, 17]))))))
    AC.ret))))
    AC.skip))
  (.seq
  (.region [] [⟨some 129, AOp.mov (AX.t 1), none⟩,
    ⟨some 130, AOp.mov (AX.t 3), none⟩,
    ⟨some 131, AOp.bin (BinOp.add) (AX.t 129) (AX.t 130), none⟩,
    ⟨some 132, AOp.convI (IntKind.u64) (AX.t 131), none⟩,
    ⟨some 133, AOp.bin (BinOp.shr) (AX.t 132) (AX.c (AV.int (IntKind.u64) 1)), none⟩,
    ⟨some 134, AOp.convI (IntKind.i64) (AX.t 133), none⟩,
    ⟨some 18, AOp.mov (AX.t 134), none⟩] [0, 1, 2, 3, 4, 18])
  (.seq
  (.region [] [⟨some 135, AOp.mov (AX.t 18), none⟩,
    ⟨some 136, AOp.mov (AX.t 2), none⟩,
    ⟨some 137, AOp.bin (BinOp.add) (AX.t 135) (AX.t 136), none⟩,
    ⟨some 19, AOp.mov (AX.t 137), none⟩] [0, 1, 2, 3, 4, 18, 19])
  (.seq
  (.region [] [⟨some 20, AOp.mov (AX.c (AV.int (IntKind.i64) 0)), none⟩,
    ⟨some 21, AOp.mov (AX.c (AV.int (IntKind.i64) 0)), none⟩] [0, 1, 2, 3, 4, 18, 19])
  (.seq
  (.seq
  (.region [] [⟨some 138, AOp.mov (AX.t 2), none⟩,
    ⟨some 139, AOp.mov (AX.t 18), none⟩,
    ⟨some 140, AOp.bin (BinOp.gtr) (AX.t 138) (AX.t 139), none⟩] [0, 1, 2, 3, 4, 18, 19, 140])
  (.cond (AX.t 140)
    (.seq
    (.region [] [⟨some 141, AOp.mov (AX.t 19), none⟩,
      ⟨some 142, AOp.mov (AX.t 3), none⟩,
      ⟨some 143, AOp.bin (BinOp.sub) (AX.t 141) (AX.t 142), none⟩,
      ⟨some 20, AOp.mov (AX.t 143), none⟩] [0, 1, 2, 3, 4, 18, 19, 20])
    (.region [] [⟨some 144, AOp.mov (AX.t 18), none⟩,
      ⟨some 21, AOp.mov (AX.t 144), none⟩] [0, 1, 2, 3, 4, 18, 19, 20, 21]))
    (.seq
    (.region [] [⟨some 145, AOp.mov (AX.t 1), none⟩,
      ⟨some 20, AOp.mov (AX.t 145), none⟩] [0, 1, 2, 3, 4, 18, 19, 20])
    (.region [] [⟨some 146, AOp.mov (AX.t 2), none⟩,
      ⟨some 21, AOp.mov (AX.t 146), none⟩] [0, 1, 2, 3, 4, 18, 19, 20, 21]))))
  (.seq
  (.region [] [⟨some 147, AOp.mov (AX.t 19), none⟩,
    ⟨some 148, AOp.bin (BinOp.sub) (AX.t 147) (AX.c (AV.int (IntKind.i64) 1)), none⟩,
    ⟨some 22, AOp.mov (AX.t 148), none⟩] [0, 1, 2, 3, 4, 18, 19, 20, 21, 22])
  (.seq
  (.block 8
    (.loop
      (.seq
      (.seq
      (.region [] [⟨some 149, AOp.mov (AX.t 20), none⟩,
        ⟨some 150, AOp.mov (AX.t 21), none⟩,
        ⟨some 151, AOp.bin (BinOp.lss) (AX.t 149) (AX.t 150), none⟩] [0, 1, 2, 3, 4, 18, 19, 20, 21, 22, 151])
      (.cond (AX.t 151)
        AC.skip
        (.exit 8)))
      (.block 9
        (.seq
        (.region [] [⟨some 152, AOp.mov (AX.t 20), none⟩,
          ⟨some 153, AOp.mov (AX.t 21), none⟩,
          ⟨some 154, AOp.bin (BinOp.add) (AX.t 152) (AX.t 153), none⟩,
          ⟨some 155, AOp.convI (IntKind.u64) (AX.t 154), none⟩,
          ⟨some 156, AOp.bin (BinOp.shr) (AX.t 155) (AX.c (AV.int (IntKind.u64) 1)), none⟩,
          ⟨some 157, AOp.convI (IntKind.i64) (AX.t 156), none⟩,
          ⟨some 23, AOp.mov (AX.t 157), none⟩] [0, 1, 2, 3, 4, 18, 19, 20, 21, 22, 23])
        (.seq
        (.region [0, 1, 2, 3, 4, 5, 6, 7, 8, 9, 10, 11, 12, 13] [⟨some 158, AOp.mov (AX.t 4), none⟩,
          ⟨some 159, AOp.mov (AX.t 0), none⟩,
          ⟨some 160, AOp.mov (AX.t 22), none⟩,
          ⟨some 161, AOp.mov (AX.t 23), none⟩,
          ⟨some 162, AOp.bin (BinOp.sub) (AX.t 160) (AX.t 161), none⟩,
          ⟨some 163, AOp.indexS 2 (AX.t 159) (AX.t 162), none⟩,
          ⟨some 164, AOp.load true 2 (AX.t 163), none⟩,
          ⟨some 165, AOp.mov (AX.t 0), none⟩,
          ⟨some 166, AOp.mov (AX.t 23), none⟩,
          ⟨some 167, AOp.indexS 2 (AX.t 165) (AX.t 166), none⟩,
          ⟨some 168, AOp.load true 2 (AX.t 167), none⟩,
          ⟨some 169, AOp.callV (AX.t 158) [AX.t 164, AX.t 168], none⟩,
          ⟨some 170, AOp.bin (BinOp.lss) (AX.t 169) (AX.c (AV.int (IntKind.i64) 0)), none⟩,
          ⟨some 171, AOp.un (UnOp.not) (AX.t 170), none⟩] [0, 1, 2, 3, 4, 18, 19, 20, 21, 22, 23, 171])
        (.cond (AX.t 171)
          (.region [] [⟨some 172, AOp.mov (AX.t 23), none⟩,
            ⟨some 173, AOp.bin (BinOp.add) (AX.t 172) (AX.c (AV.int (IntKind.i64) 1)), none⟩,
            ⟨some 20, AOp.mov (AX.t 173), none⟩] [0, 1, 2, 3, 4, 18, 19, 20, 21, 22])
          (.region [] [⟨some 174, AOp.mov (AX.t 23), none⟩,
            ⟨some 21, AOp.mov (AX.t 174), none⟩] [0, 1, 2, 3, 4, 18, 19, 20, 21, 22]))))))))
  (.seq
  (.region [] [⟨some 175, AOp.mov (AX.t 19), none⟩,
    ⟨some 176, AOp.mov (AX.t 20), none⟩,
    ⟨some 177, AOp.bin (BinOp.sub) (AX.t 175) (AX.t 176), none⟩,
    ⟨some 24, AOp.mov (AX.t 177), none⟩] [0, 1, 2, 3, 4, 18, 20, 24])
  (.seq
  (.seq
  (.region [] [⟨some 178, AOp.mov (AX.t 20), none⟩,
    ⟨some 179, AOp.mov (AX.t 2), none⟩,
    ⟨some 180, AOp.bin (BinOp.lss) (AX.t 178) (AX.t 179), none⟩,
    ⟨some 181, AOp.mov (AX.t 180), none⟩,
    ⟨some 182, AOp.mov (AX.t 2), some (181, true)⟩,
    ⟨some 183, AOp.mov (AX.t 24), some (181, true)⟩,
    ⟨some 184, AOp.bin (BinOp.lss) (AX.t 182) (AX.t 183), some (181, true)⟩,
    ⟨some 185, AOp.pick (AX.t 181) (AX.t 184) (AX.c (AV.bool false)), none⟩] [0, 1, 2, 3, 4, 18, 20, 24, 185])
  (.cond (AX.t 185)
    (.region [] [⟨some 186, AOp.mov (AX.t 0), none⟩,
      ⟨some 187, AOp.mov (AX.t 20), none⟩,
      ⟨some 188, AOp.mov (AX.t 2), none⟩,
      ⟨some 189, AOp.mov (AX.t 24), none⟩,
      ⟨some 190, AOp.mov (AX.t 4), none⟩,
      ⟨some 191, AOp.call 97 [AX.t 186, AX.t 187, AX.t 188, AX.t 189, AX.t 190], none⟩] [0, 1, 3, 4, 18, 20, 24])
    AC.skip))
  (.seq
  (.seq
  (.region [] [⟨some 192, AOp.mov (AX.t 1), none⟩,
    ⟨some 193, AOp.mov (AX.t 20), none⟩,
    ⟨some 194, AOp.bin (BinOp.lss) (AX.t 192) (AX.t 193), none⟩,
    ⟨some 195, AOp.mov (AX.t 194), none⟩,
    ⟨some 196, AOp.mov (AX.t 20), some (195, true)⟩,
    ⟨some 197, AOp.mov (AX.t 18), some (195, true)⟩,
    ⟨some 198, AOp.bin (BinOp.lss) (AX.t 196) (AX.t 197), some (195, true)⟩,
    ⟨some 199, AOp.pick (AX.t 195) (AX.t 198) (AX.c (AV.bool false)), none⟩] [0, 1, 3, 4, 18, 20, 24, 199])
  (.cond (AX.t 199)
    (.region [] [⟨some 200, AOp.mov (AX.t 0), none⟩,
      ⟨some 201, AOp.mov (AX.t 1), none⟩,
      ⟨some 202, AOp.mov (AX.t 20), none⟩,
      ⟨some 203, AOp.mov (AX.t 18), none⟩,
      ⟨some 204, AOp.mov (AX.t 4), none⟩,
      ⟨some 205, AOp.call 94 [AX.t 200, AX.t 201, AX.t 202, AX.t 203, AX.t 204], none⟩] [0, 3, 4, 18, 24])
    AC.skip))
  (.seq
  (.region [] [⟨some 206, AOp.mov (AX.t 18), none⟩,
    ⟨some 207, AOp.mov (AX.t 24), none⟩,
    ⟨some 208, AOp.bin (BinOp.lss) (AX.t 206) (AX.t 207), none⟩,
    ⟨some 209, AOp.mov (AX.t 208), none⟩,
    ⟨some 210, AOp.mov (AX.t 24), some (209, true)⟩,
    ⟨some 211, AOp.mov (AX.t 3), some (209, true)⟩,
    ⟨some 212, AOp.bin (BinOp.lss) (AX.t 210) (AX.t 211), some (209, true)⟩,
    ⟨some 213, AOp.pick (AX.t 209) (AX.t 212) (AX.c (AV.bool false)), none⟩] [0, 3, 4, 18, 24, 213])
  (.cond (AX.t 213)
    (.region [] [⟨some 214, AOp.mov (AX.t 0), none⟩,
      ⟨some 215, AOp.mov (AX.t 18), none⟩,
      ⟨some 216, AOp.mov (AX.t 24), none⟩,
      ⟨some 217, AOp.mov (AX.t 3), none⟩,
      ⟨some 218, AOp.mov (AX.t 4), none⟩,
      ⟨some 219, AOp.call 94 [AX.t 214, AX.t 215, AX.t 216, AX.t 217, AX.t 218], none⟩] [])
    AC.skip)))))))))))))⟩

/-- slices.order2CmpFunc[silo/api.File] (checked) -/
def a96 : AF := ⟨[ARes.t 10, ARes.t 11],
  (.seq
  (.region [] [⟨some 10, AOp.mov (AX.c (AV.int (IntKind.i64) 0)), none⟩,
    ⟨some 11, AOp.mov (AX.c (AV.int (IntKind.i64) 0)), none⟩] [0, 1, 2, 3, 4])
  (.seq
  (.seq
  (.region [0, 1, 2, 3, 4, 5, 6, 7, 8, 9, 10] [⟨some 12, AOp.mov (AX.t 4), none⟩,
    ⟨some 13, AOp.mov (AX.t 0), none⟩,
    ⟨some 14, AOp.mov (AX.t 2), none⟩,
    ⟨some 15, AOp.indexS 2 (AX.t 13) (AX.t 14), none⟩,
    ⟨some 16, AOp.load true 2 (AX.t 15), none⟩,
    ⟨some 17, AOp.mov (AX.t 0), none⟩,
    ⟨some 18, AOp.mov (AX.t 1), none⟩,
    ⟨some 19, AOp.indexS 2 (AX.t 17) (AX.t 18), none⟩,
    ⟨some 20, AOp.load true 2 (AX.t 19), none⟩,
    ⟨some 21, AOp.callV (AX.t 12) [AX.t 16, AX.t 20], none⟩,
    ⟨some 22, AOp.bin (BinOp.lss) (AX.t 21) (AX.c (AV.int (IntKind.i64) 0)), none⟩] [1, 2, 3, 22])
  (.cond (AX.t 22)
    (.seq
    (.region [] [⟨some 23, AOp.mov (AX.t 3), none⟩,
      ⟨some 24, AOp.nilCheck (AX.t 23), none⟩,
      ⟨some 25, AOp.load false 1 (AX.t 24), none⟩,
      ⟨some 26, AOp.bin (BinOp.add) (AX.t 25) (AX.c (AV.int (IntKind.i64) 1)), none⟩,
      ⟨some 27, AOp.nilCheck (AX.t 23), none⟩,
      ⟨none, AOp.store 1 (AX.t 27) (AX.t 26), none⟩] [1, 2])
    (.seq
    (.region [] [⟨some 28, AOp.mov (AX.t 2), none⟩,
      ⟨some 29, AOp.mov (AX.t 1), none⟩,
      ⟨some 10, AOp.mov (AX.t 28), none⟩,
      ⟨some 11, AOp.mov (AX.t 29), none⟩] [10, 11])
    AC.ret))
    AC.skip))
  (.seq
  (.region [] [⟨some 30, AOp.mov (AX.t 1), none⟩,
    ⟨some 31, AOp.mov (AX.t 2), none⟩,
    ⟨some 10, AOp.mov (AX.t 30), none⟩,
    ⟨some 11, AOp.mov (AX.t 31), none⟩] [10, 11])
  AC.ret)))⟩

/-- slices.rotateCmpFunc[silo/api.File] (checked) -/
def a97 : AF := ⟨[],
  (.seq
  (.region [] [⟨some 12, AOp.mov (AX.t 2), none⟩,
    ⟨some 13, AOp.mov (AX.t 1), none⟩,
    ⟨some 14, AOp.bin (BinOp.sub) (AX.t 12) (AX.t 13), none⟩,
    ⟨some 10, AOp.mov (AX.t 14), none⟩] [0, 2, 3, 4, 10])
  (.seq
  (.region [] [⟨some 15, AOp.mov (AX.t 3), none⟩,
    ⟨some 16, AOp.mov (AX.t 2), none⟩,
    ⟨some 17, AOp.bin (BinOp.sub) (AX.t 15) (AX.t 16), none⟩,
    ⟨some 11, AOp.mov (AX.t 17), none⟩] [0, 2, 4, 10, 11])
  (.seq
  (.block 0
    (.loop
      (.seq
      (.seq
      (.region [] [⟨some 18, AOp.mov (AX.t 10), none⟩,
        ⟨some 19, AOp.mov (AX.t 11), none⟩,
        ⟨some 20, AOp.bin (BinOp.neq) (AX.t 18) (AX.t 19), none⟩] [0, 2, 4, 10, 11, 20])
      (.cond (AX.t 20)
        AC.skip
        (.exit 0)))
      (.block 1
        (.seq
        (.region [] [⟨some 21, AOp.mov (AX.t 10), none⟩,
          ⟨some 22, AOp.mov (AX.t 11), none⟩,
          ⟨some 23, AOp.bin (BinOp.gtr) (AX.t 21) (AX.t 22), none⟩] [0, 2, 4, 10, 11, 23])
        (.cond (AX.t 23)
          (.seq
          (.region [] [⟨some 24, AOp.mov (AX.t 0), none⟩,
            ⟨some 25, AOp.mov (AX.t 2), none⟩,
            ⟨some 26, AOp.mov (AX.t 10), none⟩,
            ⟨some 27, AOp.bin (BinOp.sub) (AX.t 25) (AX.t 26), none⟩,
            ⟨some 28, AOp.mov (AX.t 2), none⟩,
            ⟨some 29, AOp.mov (AX.t 11), none⟩,
            ⟨some 30, AOp.mov (AX.t 4), none⟩,
            ⟨some 31, AOp.call 101 [AX.t 24, AX.t 27, AX.t 28, AX.t 29, AX.t 30], none⟩] [0, 2, 4, 10, 11])
          (.region [] [⟨some 32, AOp.mov (AX.t 10), none⟩,
            ⟨some 33, AOp.mov (AX.t 11), none⟩,
            ⟨some 34, AOp.bin (BinOp.sub) (AX.t 32) (AX.t 33), none⟩,
            ⟨some 10, AOp.mov (AX.t 34), none⟩] [0, 2, 4, 10, 11]))
          (.seq
          (.region [] [⟨some 35, AOp.mov (AX.t 0), none⟩,
            ⟨some 36, AOp.mov (AX.t 2), none⟩,
            ⟨some 37, AOp.mov (AX.t 10), none⟩,
            ⟨some 38, AOp.bin (BinOp.sub) (AX.t 36) (AX.t 37), none⟩,
            ⟨some 39, AOp.mov (AX.t 2), none⟩,
            ⟨some 40, AOp.mov (AX.t 11), none⟩,
            ⟨some 41, AOp.bin (BinOp.add) (AX.t 39) (AX.t 40), none⟩,
            ⟨some 42, AOp.mov (AX.t 10), none⟩,
            ⟨some 43, AOp.bin (BinOp.sub) (AX.t 41) (AX.t 42), none⟩,
            ⟨some 44, AOp.mov (AX.t 10), none⟩,
            ⟨some 45, AOp.mov (AX.t 4), none⟩,
            ⟨some 46, AOp.call 101 [AX.t 35, AX.t 38, AX.t 43, AX.t 44, AX.t 45], none⟩] [0, 2, 4, 10, 11])
          (.region [] [⟨some 47, AOp.mov (AX.t 11), none⟩,
            ⟨some 48, AOp.mov (AX.t 10), none⟩,
            ⟨some 49, AOp.bin (BinOp.sub) (AX.t 47) (AX.t 48), none⟩,
            ⟨some 11, AOp.mov (AX.t 49), none⟩] [0, 2, 4, 10, 11]))))))))
  (.region [] [⟨some 50, AOp.mov (AX.t 0), none⟩,
    ⟨some 51, AOp.mov (AX.t 2), none⟩,
    ⟨some 52, AOp.mov (AX.t 10), none⟩,
    ⟨some 53, AOp.bin (BinOp.sub) (AX.t 51) (AX.t 52), none⟩,
    ⟨some 54, AOp.mov (AX.t 2), none⟩,
    ⟨some 55, AOp.mov (AX.t 10), none⟩,
    ⟨some 56, AOp.mov (AX.t 4), none⟩,
    ⟨some 57, AOp.call 101 [AX.t 50, AX.t 53, AX.t 54, AX.t 55, AX.t 56], none⟩] []))))⟩

/-- slices.swapRangeCmpFunc[silo/api.File] (checked) -/
def a101 : AF := ⟨[],
  (.seq
  (.region [] [⟨some 10, AOp.mov (AX.c (AV.int (IntKind.i64) 0)), none⟩] [0, 1, 2, 3, 10])
  (.block 0
    (.loop
      (.seq
      (.seq
      (.region [] [⟨some 11, AOp.mov (AX.t 10), none⟩,
        ⟨some 12, AOp.mov (AX.t 3), none⟩,
        ⟨some 13, AOp.bin (BinOp.lss) (AX.t 11) (AX.t 12), none⟩] [0, 1, 2, 3, 10, 13])
      (.cond (AX.t 13)
        AC.skip
        (.exit 0)))
      (.seq
      (.block 1
        (.region [0, 1, 2, 3, 4, 5, 6, 7, 8, 9, 10, 11, 12, 13, 14, 15, 16, 17, 18, 19, 20, 21, 22, 23] [⟨some 16, AOp.mov (AX.t 0), none⟩,
          ⟨some 17, AOp.mov (AX.t 1), none⟩,
          ⟨some 18, AOp.mov (AX.t 10), none⟩,
          ⟨some 19, AOp.bin (BinOp.add) (AX.t 17) (AX.t 18), none⟩,
          ⟨some 20, AOp.mov (AX.t 0), none⟩,
          ⟨some 21, AOp.mov (AX.t 2), none⟩,
          ⟨some 22, AOp.mov (AX.t 10), none⟩,
          ⟨some 23, AOp.bin (BinOp.add) (AX.t 21) (AX.t 22), none⟩,
          ⟨some 24, AOp.mov (AX.t 0), none⟩,
          ⟨some 25, AOp.mov (AX.t 2), none⟩,
          ⟨some 26, AOp.mov (AX.t 10), none⟩,
          ⟨some 27, AOp.bin (BinOp.add) (AX.t 25) (AX.t 26), none⟩,
          ⟨some 28, AOp.indexS 2 (AX.t 24) (AX.t 27), none⟩,
          ⟨some 29, AOp.load true 2 (AX.t 28), none⟩,
          ⟨some 30, AOp.mov (AX.t 0), none⟩,
          ⟨some 31, AOp.mov (AX.t 1), none⟩,
          ⟨some 32, AOp.mov (AX.t 10), none⟩,
          ⟨some 33, AOp.bin (BinOp.add) (AX.t 31) (AX.t 32), none⟩,
          ⟨some 34, AOp.indexS 2 (AX.t 30) (AX.t 33), none⟩,
          ⟨some 35, AOp.load true 2 (AX.t 34), none⟩,
          ⟨some 36, AOp.indexS 2 (AX.t 16) (AX.t 19), none⟩,
          ⟨none, AOp.store 2 (AX.t 36) (AX.t 29), none⟩,
          ⟨some 37, AOp.indexS 2 (AX.t 20) (AX.t 23), none⟩,
          ⟨none, AOp.store 2 (AX.t 37) (AX.t 35), none⟩] [0, 1, 2, 3, 10]))
      (.region [] [⟨some 14, AOp.mov (AX.t 10), none⟩,
        ⟨some 15, AOp.bin (BinOp.add) (AX.t 14) (AX.c (AV.int (IntKind.i64) 1)), none⟩,
        ⟨some 10, AOp.mov (AX.t 15), none⟩] [0, 1, 2, 3, 10]))))))⟩


end Go.Proofs.YtljcnoifjhifcaaDoor.Im

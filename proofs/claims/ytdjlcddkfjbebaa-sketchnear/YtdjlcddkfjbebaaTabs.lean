/- Joined: S18Fns, S18Tabs. -/
import Derived.Test.YtdjlcddkfjbebaaImSem
/- S18Fns: functions of the cut, as code of the idealised machine. Written by a program (ImCompile). -/
namespace Go.Proofs.Ytdjlcddkfjbebaa.Im
open Go Go.Im

def a6 : AF := ⟨[ARes.t 4],
  (.seq
  (.region [] [⟨some 4, AOp.mov (AX.c (AV.bool false)), none⟩] [0, 1])
  (.seq
  (.seq
  (.region [] [⟨some 13, AOp.call 8 [], none⟩,
    ⟨some 14, AOp.un (UnOp.not) (AX.t 13), none⟩,
    ⟨some 15, AOp.mov (AX.t 14), none⟩,
    ⟨some 16, AOp.mov (AX.t 0), some (15, false)⟩,
    ⟨some 17, AOp.lenS (AX.t 16), some (15, false)⟩,
    ⟨some 18, AOp.bin (BinOp.gtr) (AX.t 17) (AX.c (AV.int (IntKind.i64) 100)), some (15, false)⟩,
    ⟨some 19, AOp.pick (AX.t 15) (AX.c (AV.bool true)) (AX.t 18), none⟩] [0, 1, 19])
  (.cond (AX.t 19)
    (.seq
    (.region [] [⟨some 20, AOp.call 8 [], none⟩,
      ⟨some 4, AOp.mov (AX.t 20), none⟩] [4])
    AC.ret)
    AC.skip))
  (.seq
  (.region [] [⟨some 21, AOp.call 13 [], none⟩,
    ⟨some 5, AOp.mov (AX.t 21), none⟩] [0, 1, 5])
  (.seq
  (.region [] [⟨some 6, AOp.mov (AX.c (AV.nils)), none⟩] [0, 1, 5, 6])
  (.seq
  (.seq
  (.region [] [⟨some 7, AOp.mov (AX.c (AV.int (IntKind.i64) 0)), none⟩] [0, 1, 5, 6, 7])
  (.block 0
    (.loop
      (.seq
      (.seq
      (.region [] [⟨some 22, AOp.mov (AX.t 7), none⟩,
        ⟨some 23, AOp.mov (AX.t 0), none⟩,
        ⟨some 24, AOp.lenS (AX.t 23), none⟩,
        ⟨some 25, AOp.bin (BinOp.lss) (AX.t 22) (AX.t 24), none⟩] [0, 1, 5, 6, 7, 25])
      (.cond (AX.t 25)
        AC.skip
        (.exit 0)))
      (.seq
      (.block 1
        (.seq
        (.region [] [⟨some 28, AOp.mov (AX.t 0), none⟩,
          ⟨some 29, AOp.mov (AX.t 7), none⟩,
          ⟨some 30, AOp.indexS 3 (AX.t 28) (AX.t 29), none⟩,
          ⟨some 31, AOp.load true 3 (AX.t 30), none⟩,
          ⟨some 8, AOp.allocL (AV.agg [AV.int (IntKind.i64) 0, AV.int (IntKind.i64) 0, AV.nils]), none⟩,
          ⟨none, AOp.store 3 (AX.t 8) (AX.t 31), none⟩] [0, 1, 5, 6, 7, 8])
        (.seq
        (.seq
        (.region [] [⟨some 32, AOp.fieldA 2 1 false (AX.t 8), none⟩,
          ⟨some 33, AOp.loadL false 1 (AX.t 32), none⟩,
          ⟨some 34, AOp.lenS (AX.t 33), none⟩,
          ⟨some 35, AOp.bin (BinOp.gtr) (AX.t 34) (AX.c (AV.int (IntKind.i64) 300)), none⟩] [0, 1, 5, 6, 7, 8, 35])
        (.cond (AX.t 35)
          (.seq
          (.region [] [⟨some 4, AOp.mov (AX.c (AV.bool true)), none⟩] [4])
          AC.ret)
          AC.skip))
        (.seq
        (.region [] [⟨some 36, AOp.fieldA 1 1 false (AX.t 8), none⟩,
          ⟨some 37, AOp.loadL false 1 (AX.t 36), none⟩,
          ⟨some 38, AOp.convI (IntKind.u8) (AX.t 37), none⟩,
          ⟨some 39, AOp.lit [AV.int (IntKind.u8) 0, AV.int (IntKind.u8) 0, AV.int (IntKind.u8) 0, AV.int (IntKind.u8) 0, AV.int (IntKind.u8) 0, AV.int (IntKind.u8) 0, AV.int (IntKind.u8) 0, AV.int (IntKind.u8) 0, AV.int (IntKind.u8) 0, AV.int (IntKind.u8) 0, AV.int (IntKind.u8) 0, AV.int (IntKind.u8) 0, AV.int (IntKind.u8) 0, AV.int (IntKind.u8) 0, AV.int (IntKind.u8) 0, AV.int (IntKind.u8) 0, AV.int (IntKind.u8) 0, AV.int (IntKind.u8) 0, AV.int (IntKind.u8) 0, AV.int (IntKind.u8) 0, AV.int (IntKind.u8) 0, AV.int (IntKind.u8) 0, AV.int (IntKind.u8) 0, AV.int (IntKind.u8) 0, AV.int (IntKind.u8) 0, AV.int (IntKind.u8) 0, AV.int (IntKind.u8) 0, AV.int (IntKind.u8) 0, AV.int (IntKind.u8) 0, AV.int (IntKind.u8) 0, AV.int (IntKind.u8) 0, AV.int (IntKind.u8) 0] [(0, 1, AX.t 38), (1, 1, AX.c (AV.int (IntKind.u8) 1))], none⟩,
          ⟨some 9, AOp.allocL (AV.agg [AV.int (IntKind.u8) 0, AV.int (IntKind.u8) 0, AV.int (IntKind.u8) 0, AV.int (IntKind.u8) 0, AV.int (IntKind.u8) 0, AV.int (IntKind.u8) 0, AV.int (IntKind.u8) 0, AV.int (IntKind.u8) 0, AV.int (IntKind.u8) 0, AV.int (IntKind.u8) 0, AV.int (IntKind.u8) 0, AV.int (IntKind.u8) 0, AV.int (IntKind.u8) 0, AV.int (IntKind.u8) 0, AV.int (IntKind.u8) 0, AV.int (IntKind.u8) 0, AV.int (IntKind.u8) 0, AV.int (IntKind.u8) 0, AV.int (IntKind.u8) 0, AV.int (IntKind.u8) 0, AV.int (IntKind.u8) 0, AV.int (IntKind.u8) 0, AV.int (IntKind.u8) 0, AV.int (IntKind.u8) 0, AV.int (IntKind.u8) 0, AV.int (IntKind.u8) 0, AV.int (IntKind.u8) 0, AV.int (IntKind.u8) 0, AV.int (IntKind.u8) 0, AV.int (IntKind.u8) 0, AV.int (IntKind.u8) 0, AV.int (IntKind.u8) 0]), none⟩,
          ⟨none, AOp.store 32 (AX.t 9) (AX.t 39), none⟩] [0, 1, 5, 6, 7, 8, 9])
        (.seq
        (.region [] [⟨some 40, AOp.fieldA 2 1 false (AX.t 8), none⟩,
          ⟨some 41, AOp.loadL false 1 (AX.t 40), none⟩,
          ⟨some 42, AOp.mov (AX.t 1), none⟩,
          ⟨some 43, AOp.callP 10 [AX.t 41, AX.t 42], none⟩,
          ⟨some 10, AOp.allocL (AV.agg [AV.int (IntKind.u32) 0, AV.int (IntKind.u32) 0, AV.int (IntKind.u32) 0, AV.int (IntKind.u32) 0, AV.int (IntKind.u32) 0, AV.int (IntKind.u32) 0, AV.int (IntKind.u32) 0, AV.int (IntKind.u32) 0]), none⟩,
          ⟨none, AOp.store 8 (AX.t 10) (AX.t 43), none⟩] [0, 1, 5, 6, 7, 8, 9, 10])
        (.seq
        (.seq
        (.region [] [⟨some 44, AOp.fieldA 0 1 false (AX.t 8), none⟩,
          ⟨some 45, AOp.loadL false 1 (AX.t 44), none⟩] [0, 1, 5, 6, 7, 8, 9, 10, 45])
        (.block 2
          (.seq
          (.region [] [⟨some 47, AOp.bin (BinOp.eql) (AX.t 45) (AX.c (AV.int (IntKind.i64) 1)), none⟩,
            ⟨some 46, AOp.mov (AX.t 47), none⟩] [0, 1, 5, 6, 7, 8, 9, 10, 45, 46])
          (.cond (AX.t 46)
            (.seq
            (.region [] [⟨some 48, AOp.mov (AX.t 5), none⟩,
              ⟨some 49, AOp.loadL true 32 (AX.t 9), none⟩,
              ⟨some 50, AOp.loadL true 8 (AX.t 10), none⟩,
              ⟨some 51, AOp.call 14 [AX.t 48, AX.t 49, AX.t 50], none⟩] [0, 1, 5, 6, 7, 8, 9, 10])
            (.region [] [⟨some 52, AOp.mov (AX.t 6), none⟩,
              ⟨some 53, AOp.loadL true 32 (AX.t 9), none⟩,
              ⟨some 54, AOp.loadL true 8 (AX.t 10), none⟩,
              ⟨some 55, AOp.call 15 [AX.t 52, AX.t 53, AX.t 54], none⟩,
              ⟨some 6, AOp.mov (AX.t 55), none⟩] [0, 1, 5, 6, 7, 8, 10]))
            (.seq
            (.region [] [⟨some 57, AOp.bin (BinOp.eql) (AX.t 45) (AX.c (AV.int (IntKind.i64) 2)), none⟩,
              ⟨some 56, AOp.mov (AX.t 57), none⟩] [0, 1, 5, 6, 7, 8, 9, 10, 56])
            (.cond (AX.t 56)
              (.seq
              (.region [] [⟨some 58, AOp.mov (AX.t 5), none⟩,
                ⟨some 59, AOp.loadL true 32 (AX.t 9), none⟩,
                ⟨some 60, AOp.call 16 [AX.t 58, AX.t 59], none⟩] [0, 1, 5, 6, 7, 8, 9, 10])
              (.region [] [⟨some 61, AOp.mov (AX.t 6), none⟩,
                ⟨some 62, AOp.loadL true 32 (AX.t 9), none⟩,
                ⟨some 63, AOp.call 17 [AX.t 61, AX.t 62], none⟩,
                ⟨some 6, AOp.mov (AX.t 63), none⟩] [0, 1, 5, 6, 7, 8, 10]))
              AC.skip))))))
        (.seq
        (.region [] [⟨some 64, AOp.mov (AX.t 5), none⟩,
          ⟨some 65, AOp.loadL true 8 (AX.t 10), none⟩,
          ⟨some 66, AOp.fieldA 1 1 false (AX.t 8), none⟩,
          ⟨some 67, AOp.loadL false 1 (AX.t 66), none⟩,
          ⟨some 68, AOp.call 18 [AX.t 64, AX.t 65, AX.t 67], none⟩,
          ⟨some 11, AOp.mov (AX.t 68), none⟩] [0, 1, 5, 6, 7, 8, 10, 11])
        (.seq
        (.seq
        (.region [] [⟨some 69, AOp.mov (AX.t 5), none⟩,
          ⟨some 70, AOp.call 19 [AX.t 69], none⟩,
          ⟨some 71, AOp.mov (AX.t 6), none⟩,
          ⟨some 72, AOp.lenS (AX.t 71), none⟩,
          ⟨some 73, AOp.bin (BinOp.neq) (AX.t 70) (AX.t 72), none⟩,
          ⟨some 74, AOp.mov (AX.t 73), none⟩,
          ⟨some 75, AOp.mov (AX.t 11), some (74, false)⟩,
          ⟨some 76, AOp.mov (AX.t 6), some (74, false)⟩,
          ⟨some 77, AOp.loadL true 8 (AX.t 10), some (74, false)⟩,
          ⟨some 78, AOp.fieldA 1 1 false (AX.t 8), some (74, false)⟩,
          ⟨some 79, AOp.loadL false 1 (AX.t 78), some (74, false)⟩,
          ⟨some 80, AOp.call 21 [AX.t 76, AX.t 77, AX.t 79], some (74, false)⟩,
          ⟨some 81, AOp.call 20 [AX.t 75, AX.t 80], some (74, false)⟩,
          ⟨some 82, AOp.un (UnOp.not) (AX.t 81), some (74, false)⟩,
          ⟨some 83, AOp.pick (AX.t 74) (AX.c (AV.bool true)) (AX.t 82), none⟩] [0, 1, 5, 6, 7, 11, 83])
        (.cond (AX.t 83)
          (.seq
          (.region [] [⟨some 4, AOp.mov (AX.c (AV.bool false)), none⟩] [4])
          AC.ret)
          AC.skip))
        (.seq
        (.region [] [⟨some 12, AOp.mov (AX.c (AV.int (IntKind.i64) 0)), none⟩] [0, 1, 5, 6, 7, 11, 12])
        (.block 3
          (.loop
            (.seq
            (.seq
            (.region [] [⟨some 84, AOp.mov (AX.t 12), none⟩,
              ⟨some 85, AOp.mov (AX.t 11), none⟩,
              ⟨some 86, AOp.lenS (AX.t 85), none⟩,
              ⟨some 87, AOp.bin (BinOp.lss) (AX.t 84) (AX.t 86), none⟩] [0, 1, 5, 6, 7, 11, 12, 87])
            (.cond (AX.t 87)
              AC.skip
              (.exit 3)))
            (.seq
            (.block 4
              (.region [] [⟨some 90, AOp.mov (AX.t 11), none⟩,
                ⟨some 91, AOp.mov (AX.t 12), none⟩,
                ⟨some 92, AOp.lit [AV.int (IntKind.u8) 0, AV.int (IntKind.u8) 0, AV.int (IntKind.u8) 0, AV.int (IntKind.u8) 0, AV.int (IntKind.u8) 0, AV.int (IntKind.u8) 0, AV.int (IntKind.u8) 0, AV.int (IntKind.u8) 0, AV.int (IntKind.u8) 0, AV.int (IntKind.u8) 0, AV.int (IntKind.u8) 0, AV.int (IntKind.u8) 0, AV.int (IntKind.u8) 0, AV.int (IntKind.u8) 0, AV.int (IntKind.u8) 0, AV.int (IntKind.u8) 0, AV.int (IntKind.u8) 0, AV.int (IntKind.u8) 0, AV.int (IntKind.u8) 0, AV.int (IntKind.u8) 0, AV.int (IntKind.u8) 0, AV.int (IntKind.u8) 0, AV.int (IntKind.u8) 0, AV.int (IntKind.u8) 0, AV.int (IntKind.u8) 0, AV.int (IntKind.u8) 0, AV.int (IntKind.u8) 0, AV.int (IntKind.u8) 0, AV.int (IntKind.u8) 0, AV.int (IntKind.u8) 0, AV.int (IntKind.u8) 0, AV.int (IntKind.u8) 0] [], none⟩,
                ⟨some 93, AOp.indexS 32 (AX.t 90) (AX.t 91), none⟩,
                ⟨none, AOp.store 32 (AX.t 93) (AX.t 92), none⟩] [0, 1, 5, 6, 7, 11, 12]))
            (.region [] [⟨some 88, AOp.mov (AX.t 12), none⟩,
              ⟨some 89, AOp.bin (BinOp.add) (AX.t 88) (AX.c (AV.int (IntKind.i64) 1)), none⟩,
              ⟨some 12, AOp.mov (AX.t 89), none⟩] [0, 1, 5, 6, 7, 11, 12]))))))))))))))
      (.region [] [⟨some 26, AOp.mov (AX.t 7), none⟩,
        ⟨some 27, AOp.bin (BinOp.add) (AX.t 26) (AX.c (AV.int (IntKind.i64) 1)), none⟩,
        ⟨some 7, AOp.mov (AX.t 27), none⟩] [0, 1, 5, 6, 7]))))))
  (.seq
  (.region [] [⟨some 4, AOp.mov (AX.c (AV.bool true)), none⟩] [4])
  AC.ret))))))⟩

def a8 : AF := ⟨[ARes.t 0],
  (.seq
  (.region [] [⟨some 0, AOp.mov (AX.c (AV.bool false)), none⟩] [])
  (.seq
  (.region [] [⟨some 4, AOp.call 13 [], none⟩,
    ⟨some 1, AOp.mov (AX.t 4), none⟩] [1])
  (.seq
  (.region [] [⟨some 5, AOp.litS true 1 (AV.int (IntKind.u8) 0) 8 [(0, AX.c (AV.int (IntKind.u8) 97)), (1, AX.c (AV.int (IntKind.u8) 98)), (2, AX.c (AV.int (IntKind.u8) 99)), (3, AX.c (AV.int (IntKind.u8) 100)), (4, AX.c (AV.int (IntKind.u8) 101)), (5, AX.c (AV.int (IntKind.u8) 102)), (6, AX.c (AV.int (IntKind.u8) 103)), (7, AX.c (AV.int (IntKind.u8) 104))], none⟩,
    ⟨some 6, AOp.convB (AX.t 5), none⟩,
    ⟨some 7, AOp.call 9 [AX.t 6, AX.c (AV.int (IntKind.i64) 1)], none⟩,
    ⟨some 2, AOp.allocL (AV.agg [AV.int (IntKind.u32) 0, AV.int (IntKind.u32) 0, AV.int (IntKind.u32) 0, AV.int (IntKind.u32) 0, AV.int (IntKind.u32) 0, AV.int (IntKind.u32) 0, AV.int (IntKind.u32) 0, AV.int (IntKind.u32) 0]), none⟩,
    ⟨none, AOp.store 8 (AX.t 2) (AX.t 7), none⟩] [1, 2])
  (.seq
  (.region [] [⟨some 8, AOp.mov (AX.t 1), none⟩,
    ⟨some 9, AOp.lit [AV.int (IntKind.u8) 0, AV.int (IntKind.u8) 0, AV.int (IntKind.u8) 0, AV.int (IntKind.u8) 0, AV.int (IntKind.u8) 0, AV.int (IntKind.u8) 0, AV.int (IntKind.u8) 0, AV.int (IntKind.u8) 0, AV.int (IntKind.u8) 0, AV.int (IntKind.u8) 0, AV.int (IntKind.u8) 0, AV.int (IntKind.u8) 0, AV.int (IntKind.u8) 0, AV.int (IntKind.u8) 0, AV.int (IntKind.u8) 0, AV.int (IntKind.u8) 0, AV.int (IntKind.u8) 0, AV.int (IntKind.u8) 0, AV.int (IntKind.u8) 0, AV.int (IntKind.u8) 0, AV.int (IntKind.u8) 0, AV.int (IntKind.u8) 0, AV.int (IntKind.u8) 0, AV.int (IntKind.u8) 0, AV.int (IntKind.u8) 0, AV.int (IntKind.u8) 0, AV.int (IntKind.u8) 0, AV.int (IntKind.u8) 0, AV.int (IntKind.u8) 0, AV.int (IntKind.u8) 0, AV.int (IntKind.u8) 0, AV.int (IntKind.u8) 0] [(0, 1, AX.c (AV.int (IntKind.u8) 1))], none⟩,
    ⟨some 10, AOp.loadL true 8 (AX.t 2), none⟩,
    ⟨some 11, AOp.call 14 [AX.t 8, AX.t 9, AX.t 10], none⟩] [1, 2])
  (.seq
  (.region [] [⟨some 12, AOp.mov (AX.t 1), none⟩,
    ⟨some 13, AOp.loadL true 8 (AX.t 2), none⟩,
    ⟨some 14, AOp.call 18 [AX.t 12, AX.t 13, AX.c (AV.int (IntKind.i64) 8)], none⟩,
    ⟨some 3, AOp.mov (AX.t 14), none⟩] [1, 2, 3])
  (.seq
  (.region [] [⟨some 15, AOp.call 9 [AX.c (AV.nils), AX.c (AV.int (IntKind.i64) 3)], none⟩,
    ⟨some 16, AOp.indexV 8 1 false (AX.t 15) (AX.c (AV.int (IntKind.i64) 7)), none⟩,
    ⟨some 17, AOp.bin (BinOp.eql) (AX.t 16) (AX.c (AV.int (IntKind.u32) 4294967295)), none⟩,
    ⟨some 18, AOp.mov (AX.t 17), none⟩,
    ⟨some 19, AOp.mov (AX.t 3), some (18, true)⟩,
    ⟨some 20, AOp.lenS (AX.t 19), some (18, true)⟩,
    ⟨some 21, AOp.bin (BinOp.eql) (AX.t 20) (AX.c (AV.int (IntKind.i64) 1)), some (18, true)⟩,
    ⟨some 22, AOp.pick (AX.t 18) (AX.t 21) (AX.c (AV.bool false)), none⟩,
    ⟨some 23, AOp.mov (AX.t 22), none⟩,
    ⟨some 24, AOp.mov (AX.t 3), some (23, true)⟩,
    ⟨some 25, AOp.indexS 32 (AX.t 24) (AX.c (AV.int (IntKind.i64) 0)), some (23, true)⟩,
    ⟨some 26, AOp.load true 32 (AX.t 25), some (23, true)⟩,
    ⟨some 27, AOp.lit [AV.int (IntKind.u8) 0, AV.int (IntKind.u8) 0, AV.int (IntKind.u8) 0, AV.int (IntKind.u8) 0, AV.int (IntKind.u8) 0, AV.int (IntKind.u8) 0, AV.int (IntKind.u8) 0, AV.int (IntKind.u8) 0, AV.int (IntKind.u8) 0, AV.int (IntKind.u8) 0, AV.int (IntKind.u8) 0, AV.int (IntKind.u8) 0, AV.int (IntKind.u8) 0, AV.int (IntKind.u8) 0, AV.int (IntKind.u8) 0, AV.int (IntKind.u8) 0, AV.int (IntKind.u8) 0, AV.int (IntKind.u8) 0, AV.int (IntKind.u8) 0, AV.int (IntKind.u8) 0, AV.int (IntKind.u8) 0, AV.int (IntKind.u8) 0, AV.int (IntKind.u8) 0, AV.int (IntKind.u8) 0, AV.int (IntKind.u8) 0, AV.int (IntKind.u8) 0, AV.int (IntKind.u8) 0, AV.int (IntKind.u8) 0, AV.int (IntKind.u8) 0, AV.int (IntKind.u8) 0, AV.int (IntKind.u8) 0, AV.int (IntKind.u8) 0] [(0, 1, AX.c (AV.int (IntKind.u8) 1))], some (23, true)⟩,
    ⟨some 28, AOp.eql false true [CK.i, CK.i, CK.i, CK.i, CK.i, CK.i, CK.i, CK.i, CK.i, CK.i, CK.i, CK.i, CK.i, CK.i, CK.i, CK.i, CK.i, CK.i, CK.i, CK.i, CK.i, CK.i, CK.i, CK.i, CK.i, CK.i, CK.i, CK.i, CK.i, CK.i, CK.i, CK.i] (AX.t 26) (AX.t 27), some (23, true)⟩,
    ⟨some 29, AOp.pick (AX.t 23) (AX.t 28) (AX.c (AV.bool false)), none⟩,
    ⟨some 30, AOp.mov (AX.t 29), none⟩,
    ⟨some 31, AOp.mov (AX.t 1), some (30, true)⟩,
    ⟨some 32, AOp.call 19 [AX.t 31], some (30, true)⟩,
    ⟨some 33, AOp.bin (BinOp.eql) (AX.t 32) (AX.c (AV.int (IntKind.i64) 1)), some (30, true)⟩,
    ⟨some 34, AOp.pick (AX.t 30) (AX.t 33) (AX.c (AV.bool false)), none⟩,
    ⟨some 35, AOp.mov (AX.t 34), none⟩,
    ⟨some 36, AOp.loadL true 8 (AX.t 2), some (35, true)⟩,
    ⟨some 37, AOp.loadL true 8 (AX.t 2), some (35, true)⟩,
    ⟨some 38, AOp.callP 11 [AX.t 36, AX.t 37], some (35, true)⟩,
    ⟨some 39, AOp.bin (BinOp.eql) (AX.t 38) (AX.c (AV.int (IntKind.i64) 8)), some (35, true)⟩,
    ⟨some 40, AOp.pick (AX.t 35) (AX.t 39) (AX.c (AV.bool false)), none⟩,
    ⟨some 0, AOp.mov (AX.t 40), none⟩] [0])
  AC.ret))))))⟩

def a9 : AF := ⟨[ARes.cell 4 true 8],
  (.seq
  (.region [] [⟨some 4, AOp.allocL (AV.agg [AV.int (IntKind.u32) 0, AV.int (IntKind.u32) 0, AV.int (IntKind.u32) 0, AV.int (IntKind.u32) 0, AV.int (IntKind.u32) 0, AV.int (IntKind.u32) 0, AV.int (IntKind.u32) 0, AV.int (IntKind.u32) 0]), none⟩] [0, 1, 4])
  (.seq
  (.region [] [⟨some 5, AOp.allocL (AV.agg [AV.int (IntKind.u32) 0, AV.int (IntKind.u32) 0, AV.int (IntKind.u32) 0, AV.int (IntKind.u32) 0, AV.int (IntKind.u32) 0, AV.int (IntKind.u32) 0, AV.int (IntKind.u32) 0, AV.int (IntKind.u32) 0]), none⟩] [0, 1, 4, 5])
  (.seq
  (.seq
  (.region [] [⟨some 11, AOp.mov (AX.c (AV.int (IntKind.i64) 0)), none⟩] [0, 1, 4, 5, 11])
  (.block 0
    (.loop
      (.seq
      (.region [] [⟨some 12, AOp.bin (BinOp.lss) (AX.t 11) (AX.c (AV.int (IntKind.i64) 8)), none⟩] [0, 1, 4, 5, 11, 12])
      (.seq
      (.cond (AX.t 12)
        AC.skip
        (.exit 0))
      (.seq
      (.block 1
        (.seq
        (.region [] [⟨some 13, AOp.mov (AX.t 11), none⟩,
          ⟨some 6, AOp.mov (AX.t 13), none⟩] [0, 1, 4, 5, 6, 11])
        (.region [] [⟨some 14, AOp.mov (AX.t 6), none⟩,
          ⟨some 15, AOp.indexA 8 1 false (AX.t 5) (AX.t 14), none⟩,
          ⟨none, AOp.store 1 (AX.t 15) (AX.c (AV.int (IntKind.u32) 4294967295)), none⟩] [0, 1, 4, 5, 11])))
      (.region [] [⟨some 16, AOp.bin (BinOp.add) (AX.t 11) (AX.c (AV.int (IntKind.i64) 1)), none⟩,
        ⟨some 11, AOp.mov (AX.t 16), none⟩] [0, 1, 4, 5, 11])))))))
  (.seq
  (.region [] [⟨some 7, AOp.mov (AX.c (AV.int (IntKind.u32) 0)), none⟩] [0, 1, 4, 5, 7])
  (.seq
  (.seq
  (.region [] [⟨some 17, AOp.mov (AX.t 0), none⟩,
    ⟨some 18, AOp.lenS (AX.t 17), none⟩,
    ⟨some 19, AOp.mov (AX.c (AV.int (IntKind.i64) 0)), none⟩] [0, 1, 4, 5, 7, 17, 18, 19])
  (.block 2
    (.loop
      (.seq
      (.region [] [⟨some 20, AOp.bin (BinOp.lss) (AX.t 19) (AX.t 18), none⟩] [0, 1, 4, 5, 7, 17, 18, 19, 20])
      (.seq
      (.cond (AX.t 20)
        AC.skip
        (.exit 2))
      (.seq
      (.block 3
        (.seq
        (.region [] [⟨some 21, AOp.mov (AX.t 19), none⟩,
          ⟨some 22, AOp.indexS 1 (AX.t 17) (AX.t 19), none⟩,
          ⟨some 23, AOp.load false 1 (AX.t 22), none⟩,
          ⟨some 8, AOp.mov (AX.t 21), none⟩,
          ⟨some 9, AOp.mov (AX.t 23), none⟩] [0, 1, 4, 5, 7, 8, 9, 17, 18, 19])
        (.seq
        (.region [] [⟨some 24, AOp.mov (AX.t 7), none⟩,
          ⟨some 25, AOp.bin (BinOp.mul) (AX.t 24) (AX.c (AV.int (IntKind.u32) 257)), none⟩,
          ⟨some 26, AOp.mov (AX.t 9), none⟩,
          ⟨some 27, AOp.convI (IntKind.u32) (AX.t 26), none⟩,
          ⟨some 28, AOp.bin (BinOp.add) (AX.t 25) (AX.t 27), none⟩,
          ⟨some 7, AOp.mov (AX.t 28), none⟩] [0, 1, 4, 5, 7, 8, 17, 18, 19])
        (.seq
        (.seq
        (.region [] [⟨some 29, AOp.mov (AX.t 8), none⟩,
          ⟨some 30, AOp.bin (BinOp.geq) (AX.t 29) (AX.c (AV.int (IntKind.i64) 8)), none⟩] [0, 1, 4, 5, 7, 8, 17, 18, 19, 30])
        (.cond (AX.t 30)
          (.region [] [⟨some 31, AOp.mov (AX.t 7), none⟩,
            ⟨some 32, AOp.mov (AX.t 0), none⟩,
            ⟨some 33, AOp.mov (AX.t 8), none⟩,
            ⟨some 34, AOp.bin (BinOp.sub) (AX.t 33) (AX.c (AV.int (IntKind.i64) 8)), none⟩,
            ⟨some 35, AOp.indexS 1 (AX.t 32) (AX.t 34), none⟩,
            ⟨some 36, AOp.load false 1 (AX.t 35), none⟩,
            ⟨some 37, AOp.convI (IntKind.u32) (AX.t 36), none⟩,
            ⟨some 38, AOp.bin (BinOp.mul) (AX.t 37) (AX.c (AV.int (IntKind.u32) 941361153)), none⟩,
            ⟨some 39, AOp.bin (BinOp.sub) (AX.t 31) (AX.t 38), none⟩,
            ⟨some 7, AOp.mov (AX.t 39), none⟩] [0, 1, 4, 5, 7, 8, 17, 18, 19])
          AC.skip))
        (.seq
        (.seq
        (.region [] [⟨some 40, AOp.mov (AX.t 8), none⟩,
          ⟨some 41, AOp.bin (BinOp.lss) (AX.t 40) (AX.c (AV.int (IntKind.i64) 7)), none⟩,
          ⟨some 42, AOp.mov (AX.t 41), none⟩,
          ⟨some 43, AOp.mov (AX.t 8), some (42, true)⟩,
          ⟨some 44, AOp.mov (AX.t 0), some (42, true)⟩,
          ⟨some 45, AOp.lenS (AX.t 44), some (42, true)⟩,
          ⟨some 46, AOp.bin (BinOp.sub) (AX.t 45) (AX.c (AV.int (IntKind.i64) 1)), some (42, true)⟩,
          ⟨some 47, AOp.bin (BinOp.lss) (AX.t 43) (AX.t 46), some (42, true)⟩,
          ⟨some 48, AOp.pick (AX.t 42) (AX.t 47) (AX.c (AV.bool false)), none⟩] [0, 1, 4, 5, 7, 17, 18, 19, 48])
        (.cond (AX.t 48)
          (.exit 3)
          AC.skip))
        (.seq
        (.region [] [⟨some 49, AOp.mov (AX.c (AV.int (IntKind.i64) 0)), none⟩] [0, 1, 4, 5, 7, 17, 18, 19, 49])
        (.block 4
          (.loop
            (.seq
            (.region [] [⟨some 50, AOp.bin (BinOp.lss) (AX.t 49) (AX.c (AV.int (IntKind.i64) 8)), none⟩] [0, 1, 4, 5, 7, 17, 18, 19, 49, 50])
            (.seq
            (.cond (AX.t 50)
              AC.skip
              (.exit 4))
            (.seq
            (.block 5
              (.seq
              (.region [] [⟨some 51, AOp.mov (AX.t 49), none⟩,
                ⟨some 10, AOp.mov (AX.t 51), none⟩] [0, 1, 4, 5, 7, 10, 17, 18, 19, 49])
              (.region [0, 1, 2, 3, 4, 5, 6, 7, 8, 9, 10] [⟨some 52, AOp.mov (AX.t 10), none⟩,
                ⟨some 53, AOp.mov (AX.t 10), none⟩,
                ⟨some 54, AOp.indexA 8 1 false (AX.t 5) (AX.t 53), none⟩,
                ⟨some 55, AOp.loadL false 1 (AX.t 54), none⟩,
                ⟨some 56, AOp.mov (AX.t 7), none⟩,
                ⟨some 57, AOp.mov (AX.t 1), none⟩,
                ⟨some 58, AOp.mov (AX.t 10), none⟩,
                ⟨some 59, AOp.callP 22 [AX.t 56, AX.t 57, AX.t 58], none⟩,
                ⟨some 60, AOp.mm true (AX.t 55) (AX.t 59), none⟩,
                ⟨some 61, AOp.indexA 8 1 false (AX.t 5) (AX.t 52), none⟩,
                ⟨none, AOp.store 1 (AX.t 61) (AX.t 60), none⟩] [0, 1, 4, 5, 7, 17, 18, 19, 49])))
            (.region [] [⟨some 62, AOp.bin (BinOp.add) (AX.t 49) (AX.c (AV.int (IntKind.i64) 1)), none⟩,
              ⟨some 49, AOp.mov (AX.t 62), none⟩] [0, 1, 4, 5, 7, 17, 18, 19, 49]))))))))))))
      (.region [] [⟨some 63, AOp.bin (BinOp.add) (AX.t 19) (AX.c (AV.int (IntKind.i64) 1)), none⟩,
        ⟨some 19, AOp.mov (AX.t 63), none⟩] [0, 1, 4, 5, 7, 17, 18, 19])))))))
  (.seq
  (.region [] [⟨some 64, AOp.loadL true 8 (AX.t 5), none⟩,
    ⟨none, AOp.store 8 (AX.t 4) (AX.t 64), none⟩] [4])
  AC.ret))))))⟩

def a10 : AF := ⟨[ARes.cell 4 true 8],
  (.seq
  (.region [] [⟨some 4, AOp.allocL (AV.agg [AV.int (IntKind.u32) 0, AV.int (IntKind.u32) 0, AV.int (IntKind.u32) 0, AV.int (IntKind.u32) 0, AV.int (IntKind.u32) 0, AV.int (IntKind.u32) 0, AV.int (IntKind.u32) 0, AV.int (IntKind.u32) 0]), none⟩] [0, 1, 4])
  (.seq
  (.region [] [⟨some 5, AOp.allocL (AV.agg [AV.int (IntKind.u32) 0, AV.int (IntKind.u32) 0, AV.int (IntKind.u32) 0, AV.int (IntKind.u32) 0, AV.int (IntKind.u32) 0, AV.int (IntKind.u32) 0, AV.int (IntKind.u32) 0, AV.int (IntKind.u32) 0]), none⟩] [0, 1, 4, 5])
  (.seq
  (.seq
  (.region [] [⟨some 6, AOp.mov (AX.c (AV.int (IntKind.i64) 0)), none⟩] [0, 1, 4, 5, 6])
  (.block 0
    (.loop
      (.seq
      (.seq
      (.region [] [⟨some 11, AOp.mov (AX.t 6), none⟩,
        ⟨some 12, AOp.bin (BinOp.lss) (AX.t 11) (AX.c (AV.int (IntKind.i64) 8)), none⟩] [0, 1, 4, 5, 6, 12])
      (.cond (AX.t 12)
        AC.skip
        (.exit 0)))
      (.seq
      (.block 1
        (.seq
        (.region [] [⟨some 7, AOp.mov (AX.c (AV.int (IntKind.u32) 4294967295)), none⟩] [0, 1, 4, 5, 6, 7])
        (.seq
        (.region [] [⟨some 8, AOp.mov (AX.c (AV.int (IntKind.i64) 8)), none⟩] [0, 1, 4, 5, 6, 7, 8])
        (.seq
        (.seq
        (.region [] [⟨some 15, AOp.mov (AX.t 0), none⟩,
          ⟨some 16, AOp.lenS (AX.t 15), none⟩,
          ⟨some 17, AOp.bin (BinOp.lss) (AX.t 16) (AX.c (AV.int (IntKind.i64) 8)), none⟩] [0, 1, 4, 5, 6, 7, 8, 17])
        (.cond (AX.t 17)
          (.region [] [⟨some 18, AOp.mov (AX.t 0), none⟩,
            ⟨some 19, AOp.lenS (AX.t 18), none⟩,
            ⟨some 8, AOp.mov (AX.t 19), none⟩] [0, 1, 4, 5, 6, 7, 8])
          AC.skip))
        (.seq
        (.seq
        (.region [] [⟨some 9, AOp.mov (AX.c (AV.int (IntKind.i64) 0)), none⟩] [0, 1, 4, 5, 6, 7, 8, 9])
        (.block 2
          (.loop
            (.seq
            (.seq
            (.region [] [⟨some 20, AOp.mov (AX.t 9), none⟩,
              ⟨some 21, AOp.mov (AX.t 8), none⟩,
              ⟨some 22, AOp.bin (BinOp.add) (AX.t 20) (AX.t 21), none⟩,
              ⟨some 23, AOp.mov (AX.t 0), none⟩,
              ⟨some 24, AOp.lenS (AX.t 23), none⟩,
              ⟨some 25, AOp.bin (BinOp.leq) (AX.t 22) (AX.t 24), none⟩,
              ⟨some 26, AOp.mov (AX.t 25), none⟩,
              ⟨some 27, AOp.mov (AX.t 8), some (26, true)⟩,
              ⟨some 28, AOp.bin (BinOp.gtr) (AX.t 27) (AX.c (AV.int (IntKind.i64) 0)), some (26, true)⟩,
              ⟨some 29, AOp.pick (AX.t 26) (AX.t 28) (AX.c (AV.bool false)), none⟩] [0, 1, 4, 5, 6, 7, 8, 9, 29])
            (.cond (AX.t 29)
              AC.skip
              (.exit 2)))
            (.seq
            (.block 3
              (.seq
              (.region [] [⟨some 32, AOp.mov (AX.t 0), none⟩,
                ⟨some 33, AOp.mov (AX.t 9), none⟩,
                ⟨some 34, AOp.mov (AX.t 9), none⟩,
                ⟨some 35, AOp.mov (AX.t 8), none⟩,
                ⟨some 36, AOp.bin (BinOp.add) (AX.t 34) (AX.t 35), none⟩,
                ⟨some 37, AOp.slice (some 1) (AX.t 32) (some (AX.t 33)) (some (AX.t 36)) none, none⟩,
                ⟨some 38, AOp.callP 24 [AX.t 37], none⟩,
                ⟨some 39, AOp.mov (AX.t 1), none⟩,
                ⟨some 40, AOp.mov (AX.t 6), none⟩,
                ⟨some 41, AOp.callP 23 [AX.t 38, AX.t 39, AX.t 40], none⟩,
                ⟨some 10, AOp.mov (AX.t 41), none⟩] [0, 1, 4, 5, 6, 7, 8, 9, 10])
              (.seq
              (.region [] [⟨some 42, AOp.mov (AX.t 10), none⟩,
                ⟨some 43, AOp.mov (AX.t 7), none⟩,
                ⟨some 44, AOp.bin (BinOp.lss) (AX.t 42) (AX.t 43), none⟩] [0, 1, 4, 5, 6, 7, 8, 9, 10, 44])
              (.cond (AX.t 44)
                (.region [] [⟨some 45, AOp.mov (AX.t 10), none⟩,
                  ⟨some 7, AOp.mov (AX.t 45), none⟩] [0, 1, 4, 5, 6, 7, 8, 9])
                AC.skip))))
            (.region [] [⟨some 30, AOp.mov (AX.t 9), none⟩,
              ⟨some 31, AOp.bin (BinOp.add) (AX.t 30) (AX.c (AV.int (IntKind.i64) 1)), none⟩,
              ⟨some 9, AOp.mov (AX.t 31), none⟩] [0, 1, 4, 5, 6, 7, 8, 9]))))))
        (.region [] [⟨some 46, AOp.mov (AX.t 6), none⟩,
          ⟨some 47, AOp.mov (AX.t 7), none⟩,
          ⟨some 48, AOp.indexA 8 1 false (AX.t 5) (AX.t 46), none⟩,
          ⟨none, AOp.store 1 (AX.t 48) (AX.t 47), none⟩] [0, 1, 4, 5, 6]))))))
      (.region [] [⟨some 13, AOp.mov (AX.t 6), none⟩,
        ⟨some 14, AOp.bin (BinOp.add) (AX.t 13) (AX.c (AV.int (IntKind.i64) 1)), none⟩,
        ⟨some 6, AOp.mov (AX.t 14), none⟩] [0, 1, 4, 5, 6]))))))
  (.seq
  (.region [] [⟨some 49, AOp.loadL true 8 (AX.t 5), none⟩,
    ⟨none, AOp.store 8 (AX.t 4) (AX.t 49), none⟩] [4])
  AC.ret))))⟩

def a11 : AF := ⟨[ARes.t 4],
  (.seq
  (.region [] [⟨some 2, AOp.boxL 8 (AX.t 0), none⟩,
    ⟨some 3, AOp.boxL 8 (AX.t 1), none⟩,
    ⟨some 4, AOp.mov (AX.c (AV.int (IntKind.i64) 0)), none⟩] [2, 3])
  (.seq
  (.region [] [⟨some 5, AOp.mov (AX.c (AV.int (IntKind.i64) 0)), none⟩] [2, 3, 5])
  (.seq
  (.seq
  (.region [] [⟨some 7, AOp.mov (AX.c (AV.int (IntKind.i64) 0)), none⟩] [2, 3, 5, 7])
  (.block 0
    (.loop
      (.seq
      (.region [] [⟨some 8, AOp.bin (BinOp.lss) (AX.t 7) (AX.c (AV.int (IntKind.i64) 8)), none⟩] [2, 3, 5, 7, 8])
      (.seq
      (.cond (AX.t 8)
        AC.skip
        (.exit 0))
      (.seq
      (.block 1
        (.seq
        (.region [] [⟨some 9, AOp.mov (AX.t 7), none⟩,
          ⟨some 6, AOp.mov (AX.t 9), none⟩] [2, 3, 5, 6, 7])
        (.seq
        (.region [0, 1, 2, 3, 4, 5, 6] [⟨some 10, AOp.mov (AX.t 6), none⟩,
          ⟨some 11, AOp.indexA 8 1 false (AX.t 2) (AX.t 10), none⟩,
          ⟨some 12, AOp.loadL false 1 (AX.t 11), none⟩,
          ⟨some 13, AOp.mov (AX.t 6), none⟩,
          ⟨some 14, AOp.indexA 8 1 false (AX.t 3) (AX.t 13), none⟩,
          ⟨some 15, AOp.loadL false 1 (AX.t 14), none⟩,
          ⟨some 16, AOp.bin (BinOp.eql) (AX.t 12) (AX.t 15), none⟩] [2, 3, 5, 7, 16])
        (.cond (AX.t 16)
          (.region [] [⟨some 17, AOp.mov (AX.t 5), none⟩,
            ⟨some 18, AOp.bin (BinOp.add) (AX.t 17) (AX.c (AV.int (IntKind.i64) 1)), none⟩,
            ⟨some 5, AOp.mov (AX.t 18), none⟩] [2, 3, 5, 7])
          AC.skip))))
      (.region [] [⟨some 19, AOp.bin (BinOp.add) (AX.t 7) (AX.c (AV.int (IntKind.i64) 1)), none⟩,
        ⟨some 7, AOp.mov (AX.t 19), none⟩] [2, 3, 5, 7])))))))
  (.seq
  (.region [] [⟨some 20, AOp.mov (AX.t 5), none⟩,
    ⟨some 4, AOp.mov (AX.t 20), none⟩] [4])
  AC.ret))))⟩

def a12 : AF := ⟨[ARes.t 4],
  (.seq
  (.region [] [⟨some 2, AOp.boxL 8 (AX.t 0), none⟩,
    ⟨some 3, AOp.boxL 8 (AX.t 1), none⟩,
    ⟨some 4, AOp.mov (AX.c (AV.int (IntKind.i64) 0)), none⟩] [2, 3])
  (.seq
  (.region [] [⟨some 5, AOp.mov (AX.c (AV.int (IntKind.i64) 0)), none⟩] [2, 3, 5])
  (.seq
  (.seq
  (.region [] [⟨some 6, AOp.mov (AX.c (AV.int (IntKind.i64) 0)), none⟩] [2, 3, 5, 6])
  (.block 0
    (.loop
      (.seq
      (.seq
      (.region [] [⟨some 7, AOp.mov (AX.t 6), none⟩,
        ⟨some 8, AOp.bin (BinOp.lss) (AX.t 7) (AX.c (AV.int (IntKind.i64) 8)), none⟩] [2, 3, 5, 6, 8])
      (.cond (AX.t 8)
        AC.skip
        (.exit 0)))
      (.seq
      (.block 1
        (.seq
        (.region [0, 1, 2, 3, 4, 5, 6] [⟨some 11, AOp.mov (AX.t 6), none⟩,
          ⟨some 12, AOp.indexA 8 1 false (AX.t 2) (AX.t 11), none⟩,
          ⟨some 13, AOp.loadL false 1 (AX.t 12), none⟩,
          ⟨some 14, AOp.mov (AX.t 6), none⟩,
          ⟨some 15, AOp.indexA 8 1 false (AX.t 3) (AX.t 14), none⟩,
          ⟨some 16, AOp.loadL false 1 (AX.t 15), none⟩,
          ⟨some 17, AOp.bin (BinOp.eql) (AX.t 13) (AX.t 16), none⟩] [2, 3, 5, 6, 17])
        (.cond (AX.t 17)
          (.region [] [⟨some 18, AOp.mov (AX.t 5), none⟩,
            ⟨some 19, AOp.bin (BinOp.add) (AX.t 18) (AX.c (AV.int (IntKind.i64) 1)), none⟩,
            ⟨some 5, AOp.mov (AX.t 19), none⟩] [2, 3, 5, 6])
          AC.skip)))
      (.region [] [⟨some 9, AOp.mov (AX.t 6), none⟩,
        ⟨some 10, AOp.bin (BinOp.add) (AX.t 9) (AX.c (AV.int (IntKind.i64) 1)), none⟩,
        ⟨some 6, AOp.mov (AX.t 10), none⟩] [2, 3, 5, 6]))))))
  (.seq
  (.region [] [⟨some 20, AOp.mov (AX.t 5), none⟩,
    ⟨some 4, AOp.mov (AX.t 20), none⟩] [4])
  AC.ret))))⟩

def a13 : AF := ⟨[ARes.t 0],
  (.seq
  (.region [] [⟨some 0, AOp.mov (AX.c (AV.nilp)), none⟩] [])
  (.seq
  (.region [] [⟨some 1, AOp.mkMap, none⟩,
    ⟨some 2, AOp.mkMap, none⟩,
    ⟨some 3, AOp.lit [AV.nilm, AV.nilm] [(0, 1, AX.t 1), (1, 1, AX.t 2)], none⟩,
    ⟨some 4, AOp.boxH 2 (AX.t 3), none⟩,
    ⟨some 0, AOp.mov (AX.t 4), none⟩] [0])
  AC.ret))⟩

def a14 : AF := ⟨[],
  (.seq
  (.region [] [⟨some 4, AOp.boxL 32 (AX.t 1), none⟩,
    ⟨some 5, AOp.boxL 8 (AX.t 2), none⟩] [0, 4, 5])
  (.seq
  (.seq
  (.region [] [⟨some 9, AOp.mov (AX.t 0), none⟩,
    ⟨some 10, AOp.eqNil false (NK.p) (AX.t 9), none⟩] [0, 4, 5, 10])
  (.cond (AX.t 10)
    AC.ret
    AC.skip))
  (.seq
  (.region [] [⟨some 11, AOp.mov (AX.t 0), none⟩,
    ⟨some 12, AOp.loadL true 32 (AX.t 4), none⟩,
    ⟨some 13, AOp.call 16 [AX.t 11, AX.t 12], none⟩] [0, 4, 5])
  (.seq
  (.region [0, 1, 2, 3, 4, 5, 6] [⟨some 14, AOp.mov (AX.t 0), none⟩,
    ⟨some 15, AOp.nilCheck (AX.t 14), none⟩,
    ⟨some 16, AOp.fieldA 0 1 false (AX.t 15), none⟩,
    ⟨some 17, AOp.load false 1 (AX.t 16), none⟩,
    ⟨some 18, AOp.loadL true 32 (AX.t 4), none⟩,
    ⟨some 19, AOp.loadL true 8 (AX.t 5), none⟩,
    ⟨none, AOp.mapUpd true [CK.i, CK.i, CK.i, CK.i, CK.i, CK.i, CK.i, CK.i, CK.i, CK.i, CK.i, CK.i, CK.i, CK.i, CK.i, CK.i, CK.i, CK.i, CK.i, CK.i, CK.i, CK.i, CK.i, CK.i, CK.i, CK.i, CK.i, CK.i, CK.i, CK.i, CK.i, CK.i] (AX.t 17) (AX.t 18) (AX.t 19), none⟩] [0, 4, 5])
  (.seq
  (.region [] [⟨some 20, AOp.loadL true 8 (AX.t 5), none⟩,
    ⟨some 21, AOp.mov (AX.c (AV.int (IntKind.i64) 0)), none⟩] [0, 4, 20, 21])
  (.block 0
    (.loop
      (.seq
      (.region [] [⟨some 22, AOp.bin (BinOp.lss) (AX.t 21) (AX.c (AV.int (IntKind.i64) 8)), none⟩] [0, 4, 20, 21, 22])
      (.seq
      (.cond (AX.t 22)
        AC.skip
        (.exit 0))
      (.seq
      (.block 1
        (.seq
        (.region [] [⟨some 23, AOp.mov (AX.t 21), none⟩,
          ⟨some 24, AOp.indexV 8 1 false (AX.t 20) (AX.t 21), none⟩,
          ⟨some 6, AOp.mov (AX.t 23), none⟩,
          ⟨some 7, AOp.mov (AX.t 24), none⟩] [0, 4, 6, 7, 20, 21])
        (.seq
        (.region [] [⟨some 25, AOp.mov (AX.t 6), none⟩,
          ⟨some 26, AOp.mov (AX.t 7), none⟩,
          ⟨some 27, AOp.lit [AV.int (IntKind.i64) 0, AV.int (IntKind.u32) 0] [(0, 1, AX.t 25), (1, 1, AX.t 26)], none⟩,
          ⟨some 8, AOp.allocL (AV.agg [AV.int (IntKind.i64) 0, AV.int (IntKind.u32) 0]), none⟩,
          ⟨none, AOp.store 2 (AX.t 8) (AX.t 27), none⟩] [0, 4, 8, 20, 21])
        (.region [0, 1, 2, 3, 4, 5, 6, 7, 8, 10, 9, 11] [⟨some 28, AOp.mov (AX.t 0), none⟩,
          ⟨some 29, AOp.nilCheck (AX.t 28), none⟩,
          ⟨some 30, AOp.fieldA 1 1 false (AX.t 29), none⟩,
          ⟨some 31, AOp.load false 1 (AX.t 30), none⟩,
          ⟨some 32, AOp.loadL true 2 (AX.t 8), none⟩,
          ⟨some 34, AOp.loadL true 32 (AX.t 4), none⟩,
          ⟨some 35, AOp.litS true 32 (AV.agg [AV.int (IntKind.u8) 0, AV.int (IntKind.u8) 0, AV.int (IntKind.u8) 0, AV.int (IntKind.u8) 0, AV.int (IntKind.u8) 0, AV.int (IntKind.u8) 0, AV.int (IntKind.u8) 0, AV.int (IntKind.u8) 0, AV.int (IntKind.u8) 0, AV.int (IntKind.u8) 0, AV.int (IntKind.u8) 0, AV.int (IntKind.u8) 0, AV.int (IntKind.u8) 0, AV.int (IntKind.u8) 0, AV.int (IntKind.u8) 0, AV.int (IntKind.u8) 0, AV.int (IntKind.u8) 0, AV.int (IntKind.u8) 0, AV.int (IntKind.u8) 0, AV.int (IntKind.u8) 0, AV.int (IntKind.u8) 0, AV.int (IntKind.u8) 0, AV.int (IntKind.u8) 0, AV.int (IntKind.u8) 0, AV.int (IntKind.u8) 0, AV.int (IntKind.u8) 0, AV.int (IntKind.u8) 0, AV.int (IntKind.u8) 0, AV.int (IntKind.u8) 0, AV.int (IntKind.u8) 0, AV.int (IntKind.u8) 0, AV.int (IntKind.u8) 0]) 1 [(0, AX.t 34)], none⟩,
          ⟨some 36, AOp.mapEnt true [CK.i, CK.i] (AV.nils) (AX.t 31) (AX.t 32), none⟩,
          ⟨some 33, AOp.extract (AX.t 36) 0, none⟩,
          ⟨some 38, AOp.extract (AX.t 36) 1, none⟩,
          ⟨some 37, AOp.append false true 32 32 (AX.t 33) (AX.t 35), none⟩,
          ⟨none, AOp.entSto (AX.t 31) (AX.t 38) (AX.t 37), none⟩] [0, 4, 20, 21]))))
      (.region [] [⟨some 39, AOp.bin (BinOp.add) (AX.t 21) (AX.c (AV.int (IntKind.i64) 1)), none⟩,
        ⟨some 21, AOp.mov (AX.t 39), none⟩] [0, 4, 20, 21])))))))))))⟩

def a15 : AF := ⟨[ARes.t 6],
  (.seq
  (.region [] [⟨some 4, AOp.boxL 32 (AX.t 1), none⟩,
    ⟨some 5, AOp.boxL 8 (AX.t 2), none⟩,
    ⟨some 6, AOp.mov (AX.c (AV.nils)), none⟩] [0, 4, 5])
  (.seq
  (.region [0, 1, 3, 4, 5, 6, 2, 7, 8] [⟨some 7, AOp.mov (AX.t 0), none⟩,
    ⟨some 8, AOp.loadL true 32 (AX.t 4), none⟩,
    ⟨some 10, AOp.loadL true 32 (AX.t 4), none⟩,
    ⟨some 11, AOp.loadL true 8 (AX.t 5), none⟩,
    ⟨some 12, AOp.lit [AV.int (IntKind.u8) 0, AV.int (IntKind.u8) 0, AV.int (IntKind.u8) 0, AV.int (IntKind.u8) 0, AV.int (IntKind.u8) 0, AV.int (IntKind.u8) 0, AV.int (IntKind.u8) 0, AV.int (IntKind.u8) 0, AV.int (IntKind.u8) 0, AV.int (IntKind.u8) 0, AV.int (IntKind.u8) 0, AV.int (IntKind.u8) 0, AV.int (IntKind.u8) 0, AV.int (IntKind.u8) 0, AV.int (IntKind.u8) 0, AV.int (IntKind.u8) 0, AV.int (IntKind.u8) 0, AV.int (IntKind.u8) 0, AV.int (IntKind.u8) 0, AV.int (IntKind.u8) 0, AV.int (IntKind.u8) 0, AV.int (IntKind.u8) 0, AV.int (IntKind.u8) 0, AV.int (IntKind.u8) 0, AV.int (IntKind.u8) 0, AV.int (IntKind.u8) 0, AV.int (IntKind.u8) 0, AV.int (IntKind.u8) 0, AV.int (IntKind.u8) 0, AV.int (IntKind.u8) 0, AV.int (IntKind.u8) 0, AV.int (IntKind.u8) 0, AV.int (IntKind.u32) 0, AV.int (IntKind.u32) 0, AV.int (IntKind.u32) 0, AV.int (IntKind.u32) 0, AV.int (IntKind.u32) 0, AV.int (IntKind.u32) 0, AV.int (IntKind.u32) 0, AV.int (IntKind.u32) 0] [(0, 32, AX.t 10), (32, 8, AX.t 11)], none⟩,
    ⟨some 13, AOp.litS false 40 (AV.agg [AV.int (IntKind.u8) 0, AV.int (IntKind.u8) 0, AV.int (IntKind.u8) 0, AV.int (IntKind.u8) 0, AV.int (IntKind.u8) 0, AV.int (IntKind.u8) 0, AV.int (IntKind.u8) 0, AV.int (IntKind.u8) 0, AV.int (IntKind.u8) 0, AV.int (IntKind.u8) 0, AV.int (IntKind.u8) 0, AV.int (IntKind.u8) 0, AV.int (IntKind.u8) 0, AV.int (IntKind.u8) 0, AV.int (IntKind.u8) 0, AV.int (IntKind.u8) 0, AV.int (IntKind.u8) 0, AV.int (IntKind.u8) 0, AV.int (IntKind.u8) 0, AV.int (IntKind.u8) 0, AV.int (IntKind.u8) 0, AV.int (IntKind.u8) 0, AV.int (IntKind.u8) 0, AV.int (IntKind.u8) 0, AV.int (IntKind.u8) 0, AV.int (IntKind.u8) 0, AV.int (IntKind.u8) 0, AV.int (IntKind.u8) 0, AV.int (IntKind.u8) 0, AV.int (IntKind.u8) 0, AV.int (IntKind.u8) 0, AV.int (IntKind.u8) 0, AV.int (IntKind.u32) 0, AV.int (IntKind.u32) 0, AV.int (IntKind.u32) 0, AV.int (IntKind.u32) 0, AV.int (IntKind.u32) 0, AV.int (IntKind.u32) 0, AV.int (IntKind.u32) 0, AV.int (IntKind.u32) 0]) 1 [(0, AX.t 12)], none⟩,
    ⟨some 9, AOp.call 17 [AX.t 7, AX.t 8], none⟩,
    ⟨some 14, AOp.append true false 40 64 (AX.t 9) (AX.t 13), none⟩,
    ⟨some 6, AOp.mov (AX.t 14), none⟩] [6])
  AC.ret))⟩

def a16 : AF := ⟨[],
  (.seq
  (.region [] [⟨some 3, AOp.boxH 32 (AX.t 1), none⟩] [0, 3])
  (.seq
  (.seq
  (.region [] [⟨some 9, AOp.mov (AX.t 0), none⟩,
    ⟨some 10, AOp.eqNil false (NK.p) (AX.t 9), none⟩] [0, 3, 10])
  (.cond (AX.t 10)
    AC.ret
    AC.skip))
  (.seq
  (.region [0, 1, 2, 3, 4, 5, 6, 7, 8, 9, 10, 11] [⟨some 12, AOp.mov (AX.t 0), none⟩,
    ⟨some 13, AOp.nilCheck (AX.t 12), none⟩,
    ⟨some 14, AOp.fieldA 0 1 false (AX.t 13), none⟩,
    ⟨some 15, AOp.load false 1 (AX.t 14), none⟩,
    ⟨some 16, AOp.load true 32 (AX.t 3), none⟩,
    ⟨some 17, AOp.lookup true [CK.i, CK.i, CK.i, CK.i, CK.i, CK.i, CK.i, CK.i, CK.i, CK.i, CK.i, CK.i, CK.i, CK.i, CK.i, CK.i, CK.i, CK.i, CK.i, CK.i, CK.i, CK.i, CK.i, CK.i, CK.i, CK.i, CK.i, CK.i, CK.i, CK.i, CK.i, CK.i] (AV.agg [AV.int (IntKind.u32) 0, AV.int (IntKind.u32) 0, AV.int (IntKind.u32) 0, AV.int (IntKind.u32) 0, AV.int (IntKind.u32) 0, AV.int (IntKind.u32) 0, AV.int (IntKind.u32) 0, AV.int (IntKind.u32) 0]) true (AX.t 15) (AX.t 16), none⟩,
    ⟨some 11, AOp.mov (AX.t 17), none⟩,
    ⟨some 18, AOp.extract (AX.t 11) 0, none⟩,
    ⟨some 19, AOp.extract (AX.t 11) 1, none⟩,
    ⟨some 4, AOp.allocL (AV.agg [AV.int (IntKind.u32) 0, AV.int (IntKind.u32) 0, AV.int (IntKind.u32) 0, AV.int (IntKind.u32) 0, AV.int (IntKind.u32) 0, AV.int (IntKind.u32) 0, AV.int (IntKind.u32) 0, AV.int (IntKind.u32) 0]), none⟩,
    ⟨none, AOp.store 8 (AX.t 4) (AX.t 18), none⟩,
    ⟨some 5, AOp.mov (AX.t 19), none⟩] [0, 3, 4, 5])
  (.seq
  (.seq
  (.region [] [⟨some 20, AOp.mov (AX.t 5), none⟩,
    ⟨some 21, AOp.un (UnOp.not) (AX.t 20), none⟩] [0, 3, 4, 21])
  (.cond (AX.t 21)
    AC.ret
    AC.skip))
  (.seq
  (.region [0, 1, 2, 3, 4, 5] [⟨some 22, AOp.mov (AX.t 0), none⟩,
    ⟨some 23, AOp.nilCheck (AX.t 22), none⟩,
    ⟨some 24, AOp.fieldA 0 1 false (AX.t 23), none⟩,
    ⟨some 25, AOp.load false 1 (AX.t 24), none⟩,
    ⟨some 26, AOp.load true 32 (AX.t 3), none⟩,
    ⟨none, AOp.del true [CK.i, CK.i, CK.i, CK.i, CK.i, CK.i, CK.i, CK.i, CK.i, CK.i, CK.i, CK.i, CK.i, CK.i, CK.i, CK.i, CK.i, CK.i, CK.i, CK.i, CK.i, CK.i, CK.i, CK.i, CK.i, CK.i, CK.i, CK.i, CK.i, CK.i, CK.i, CK.i] (AX.t 25) (AX.t 26), none⟩] [0, 3, 4])
  (.seq
  (.region [] [⟨some 27, AOp.loadL true 8 (AX.t 4), none⟩,
    ⟨some 28, AOp.mov (AX.c (AV.int (IntKind.i64) 0)), none⟩] [0, 3, 27, 28])
  (.block 0
    (.loop
      (.seq
      (.region [] [⟨some 29, AOp.bin (BinOp.lss) (AX.t 28) (AX.c (AV.int (IntKind.i64) 8)), none⟩] [0, 3, 27, 28, 29])
      (.seq
      (.cond (AX.t 29)
        AC.skip
        (.exit 0))
      (.seq
      (.block 1
        (.seq
        (.region [] [⟨some 30, AOp.mov (AX.t 28), none⟩,
          ⟨some 31, AOp.indexV 8 1 false (AX.t 27) (AX.t 28), none⟩,
          ⟨some 6, AOp.mov (AX.t 30), none⟩,
          ⟨some 7, AOp.mov (AX.t 31), none⟩] [0, 3, 6, 7, 27, 28])
        (.seq
        (.region [] [⟨some 32, AOp.mov (AX.t 6), none⟩,
          ⟨some 33, AOp.mov (AX.t 7), none⟩,
          ⟨some 34, AOp.lit [AV.int (IntKind.i64) 0, AV.int (IntKind.u32) 0] [(0, 1, AX.t 32), (1, 1, AX.t 33)], none⟩,
          ⟨some 8, AOp.allocL (AV.agg [AV.int (IntKind.i64) 0, AV.int (IntKind.u32) 0]), none⟩,
          ⟨none, AOp.store 2 (AX.t 8) (AX.t 34), none⟩] [0, 3, 8, 27, 28])
        (.seq
        (.regionA [[0, 1, 2, 4, 5, 6, 7, 8, 9, 10, 11, 12, 3, 13], [0, 1, 2, 3, 4, 5, 6, 7, 8, 9, 10, 11, 12, 13]] [⟨some 35, AOp.mov (AX.t 0), none⟩,
          ⟨some 36, AOp.nilCheck (AX.t 35), none⟩,
          ⟨some 37, AOp.fieldA 1 1 false (AX.t 36), none⟩,
          ⟨some 38, AOp.load false 1 (AX.t 37), none⟩,
          ⟨some 39, AOp.loadL true 2 (AX.t 8), none⟩,
          ⟨some 40, AOp.mov (AX.t 0), none⟩,
          ⟨some 41, AOp.nilCheck (AX.t 40), none⟩,
          ⟨some 42, AOp.fieldA 1 1 false (AX.t 41), none⟩,
          ⟨some 43, AOp.load false 1 (AX.t 42), none⟩,
          ⟨some 44, AOp.loadL true 2 (AX.t 8), none⟩,
          ⟨some 45, AOp.lookup true [CK.i, CK.i] (AV.nils) false (AX.t 43) (AX.t 44), none⟩,
          ⟨some 46, AOp.mkFunc (Fn.func 26) [] [AX.t 3], none⟩,
          ⟨some 47, AOp.call 25 [AX.t 45, AX.t 46], none⟩,
          ⟨none, AOp.mapUpd true [CK.i, CK.i] (AX.t 38) (AX.t 39) (AX.t 47), none⟩] [0, 3, 8, 27, 28])
        (.seq
        (.region [0, 1, 2, 3, 4, 5, 6, 7] [⟨some 48, AOp.mov (AX.t 0), none⟩,
          ⟨some 49, AOp.nilCheck (AX.t 48), none⟩,
          ⟨some 50, AOp.fieldA 1 1 false (AX.t 49), none⟩,
          ⟨some 51, AOp.load false 1 (AX.t 50), none⟩,
          ⟨some 52, AOp.loadL true 2 (AX.t 8), none⟩,
          ⟨some 53, AOp.lookup true [CK.i, CK.i] (AV.nils) false (AX.t 51) (AX.t 52), none⟩,
          ⟨some 54, AOp.lenS (AX.t 53), none⟩,
          ⟨some 55, AOp.bin (BinOp.eql) (AX.t 54) (AX.c (AV.int (IntKind.i64) 0)), none⟩] [0, 3, 8, 27, 28, 55])
        (.cond (AX.t 55)
          (.region [0, 1, 2, 3, 4, 5] [⟨some 56, AOp.mov (AX.t 0), none⟩,
            ⟨some 57, AOp.nilCheck (AX.t 56), none⟩,
            ⟨some 58, AOp.fieldA 1 1 false (AX.t 57), none⟩,
            ⟨some 59, AOp.load false 1 (AX.t 58), none⟩,
            ⟨some 60, AOp.loadL true 2 (AX.t 8), none⟩,
            ⟨none, AOp.del true [CK.i, CK.i] (AX.t 59) (AX.t 60), none⟩] [0, 3, 27, 28])
          AC.skip))))))
      (.region [] [⟨some 61, AOp.bin (BinOp.add) (AX.t 28) (AX.c (AV.int (IntKind.i64) 1)), none⟩,
        ⟨some 28, AOp.mov (AX.t 61), none⟩] [0, 3, 27, 28]))))))))))))⟩

def a17 : AF := ⟨[ARes.t 4],
  (.seq
  (.region [] [⟨some 3, AOp.boxL 32 (AX.t 1), none⟩,
    ⟨some 4, AOp.mov (AX.c (AV.nils)), none⟩] [0, 3])
  (.seq
  (.region [] [⟨some 5, AOp.mov (AX.c (AV.nils)), none⟩] [0, 3, 5])
  (.seq
  (.seq
  (.region [] [⟨some 6, AOp.mov (AX.c (AV.int (IntKind.i64) 0)), none⟩] [0, 3, 5, 6])
  (.block 0
    (.loop
      (.seq
      (.seq
      (.region [] [⟨some 7, AOp.mov (AX.t 6), none⟩,
        ⟨some 8, AOp.mov (AX.t 0), none⟩,
        ⟨some 9, AOp.lenS (AX.t 8), none⟩,
        ⟨some 10, AOp.bin (BinOp.lss) (AX.t 7) (AX.t 9), none⟩] [0, 3, 5, 6, 10])
      (.cond (AX.t 10)
        AC.skip
        (.exit 0)))
      (.seq
      (.block 1
        (.seq
        (.region [0, 1, 2, 3, 4, 5, 6] [⟨some 13, AOp.mov (AX.t 0), none⟩,
          ⟨some 14, AOp.mov (AX.t 6), none⟩,
          ⟨some 15, AOp.indexS 40 (AX.t 13) (AX.t 14), none⟩,
          ⟨some 16, AOp.fieldA 0 32 true (AX.t 15), none⟩,
          ⟨some 17, AOp.load true 32 (AX.t 16), none⟩,
          ⟨some 18, AOp.loadL true 32 (AX.t 3), none⟩,
          ⟨some 19, AOp.eql true true [CK.i, CK.i, CK.i, CK.i, CK.i, CK.i, CK.i, CK.i, CK.i, CK.i, CK.i, CK.i, CK.i, CK.i, CK.i, CK.i, CK.i, CK.i, CK.i, CK.i, CK.i, CK.i, CK.i, CK.i, CK.i, CK.i, CK.i, CK.i, CK.i, CK.i, CK.i, CK.i] (AX.t 17) (AX.t 18), none⟩] [0, 3, 5, 6, 19])
        (.cond (AX.t 19)
          (.region [] [⟨some 20, AOp.mov (AX.t 5), none⟩,
            ⟨some 21, AOp.mov (AX.t 0), none⟩,
            ⟨some 22, AOp.mov (AX.t 6), none⟩,
            ⟨some 23, AOp.indexS 40 (AX.t 21) (AX.t 22), none⟩,
            ⟨some 24, AOp.load true 40 (AX.t 23), none⟩,
            ⟨some 25, AOp.litS false 40 (AV.agg [AV.int (IntKind.u8) 0, AV.int (IntKind.u8) 0, AV.int (IntKind.u8) 0, AV.int (IntKind.u8) 0, AV.int (IntKind.u8) 0, AV.int (IntKind.u8) 0, AV.int (IntKind.u8) 0, AV.int (IntKind.u8) 0, AV.int (IntKind.u8) 0, AV.int (IntKind.u8) 0, AV.int (IntKind.u8) 0, AV.int (IntKind.u8) 0, AV.int (IntKind.u8) 0, AV.int (IntKind.u8) 0, AV.int (IntKind.u8) 0, AV.int (IntKind.u8) 0, AV.int (IntKind.u8) 0, AV.int (IntKind.u8) 0, AV.int (IntKind.u8) 0, AV.int (IntKind.u8) 0, AV.int (IntKind.u8) 0, AV.int (IntKind.u8) 0, AV.int (IntKind.u8) 0, AV.int (IntKind.u8) 0, AV.int (IntKind.u8) 0, AV.int (IntKind.u8) 0, AV.int (IntKind.u8) 0, AV.int (IntKind.u8) 0, AV.int (IntKind.u8) 0, AV.int (IntKind.u8) 0, AV.int (IntKind.u8) 0, AV.int (IntKind.u8) 0, AV.int (IntKind.u32) 0, AV.int (IntKind.u32) 0, AV.int (IntKind.u32) 0, AV.int (IntKind.u32) 0, AV.int (IntKind.u32) 0, AV.int (IntKind.u32) 0, AV.int (IntKind.u32) 0, AV.int (IntKind.u32) 0]) 1 [(0, AX.t 24)], none⟩,
            ⟨some 26, AOp.append true false 40 64 (AX.t 20) (AX.t 25), none⟩,
            ⟨some 5, AOp.mov (AX.t 26), none⟩] [0, 3, 5, 6])
          AC.skip)))
      (.region [] [⟨some 11, AOp.mov (AX.t 6), none⟩,
        ⟨some 12, AOp.bin (BinOp.add) (AX.t 11) (AX.c (AV.int (IntKind.i64) 1)), none⟩,
        ⟨some 6, AOp.mov (AX.t 12), none⟩] [0, 3, 5, 6]))))))
  (.seq
  (.region [] [⟨some 27, AOp.mov (AX.t 5), none⟩,
    ⟨some 4, AOp.mov (AX.t 27), none⟩] [4])
  AC.ret))))⟩

def w18a : AC := 
  (.seq
    (.region [] [⟨some 21, AOp.mov (AX.t 0), none⟩,
      ⟨some 22, AOp.nilCheck (AX.t 21), none⟩,
      ⟨some 23, AOp.fieldA 0 1 false (AX.t 22), none⟩,
      ⟨some 24, AOp.load false 1 (AX.t 23), none⟩,
      ⟨some 25, AOp.range (AX.t 24), none⟩] [0, 2, 4, 7, 25])
    (.block 0
      (.loop
        (.seq
        (.region [] [⟨some 26, AOp.next (AX.t 25), none⟩,
          ⟨some 27, AOp.extract (AX.t 26) 0, none⟩] [0, 2, 4, 7, 25, 27])
        (.seq
        (.cond (AX.t 27)
          AC.skip
          (.exit 0))
        (.block 1
          (.seq
          (.region [] [⟨some 28, AOp.entry (AX.t 25), none⟩,
            ⟨some 29, AOp.extract (AX.t 28) 0, none⟩,
            ⟨some 8, AOp.allocL (AV.agg [AV.int (IntKind.u8) 0, AV.int (IntKind.u8) 0, AV.int (IntKind.u8) 0, AV.int (IntKind.u8) 0, AV.int (IntKind.u8) 0, AV.int (IntKind.u8) 0, AV.int (IntKind.u8) 0, AV.int (IntKind.u8) 0, AV.int (IntKind.u8) 0, AV.int (IntKind.u8) 0, AV.int (IntKind.u8) 0, AV.int (IntKind.u8) 0, AV.int (IntKind.u8) 0, AV.int (IntKind.u8) 0, AV.int (IntKind.u8) 0, AV.int (IntKind.u8) 0, AV.int (IntKind.u8) 0, AV.int (IntKind.u8) 0, AV.int (IntKind.u8) 0, AV.int (IntKind.u8) 0, AV.int (IntKind.u8) 0, AV.int (IntKind.u8) 0, AV.int (IntKind.u8) 0, AV.int (IntKind.u8) 0, AV.int (IntKind.u8) 0, AV.int (IntKind.u8) 0, AV.int (IntKind.u8) 0, AV.int (IntKind.u8) 0, AV.int (IntKind.u8) 0, AV.int (IntKind.u8) 0, AV.int (IntKind.u8) 0, AV.int (IntKind.u8) 0]), none⟩,
            ⟨none, AOp.store 32 (AX.t 8) (AX.t 29), none⟩] [0, 2, 4, 7, 8, 25])
          (.region [] [⟨some 30, AOp.load false 1 (AX.t 7), none⟩,
            ⟨some 31, AOp.loadL true 32 (AX.t 8), none⟩,
            ⟨none, AOp.mapUpd true [CK.i, CK.i, CK.i, CK.i, CK.i, CK.i, CK.i, CK.i, CK.i, CK.i, CK.i, CK.i, CK.i, CK.i, CK.i, CK.i, CK.i, CK.i, CK.i, CK.i, CK.i, CK.i, CK.i, CK.i, CK.i, CK.i, CK.i, CK.i, CK.i, CK.i, CK.i, CK.i] (AX.t 30) (AX.t 31) (AX.c (AV.int (IntKind.i64) 0)), none⟩] [0, 2, 4, 7, 25]))))))))

def w18b : AC := 
  (.seq
  (.region [] [⟨some 32, AOp.loadL true 8 (AX.t 4), none⟩,
    ⟨some 33, AOp.mov (AX.c (AV.int (IntKind.i64) 0)), none⟩] [0, 2, 7, 32, 33])
  (.block 2
    (.loop
      (.seq
      (.region [] [⟨some 34, AOp.bin (BinOp.lss) (AX.t 33) (AX.c (AV.int (IntKind.i64) 8)), none⟩] [0, 2, 7, 32, 33, 34])
      (.seq
      (.cond (AX.t 34)
        AC.skip
        (.exit 2))
      (.seq
      (.block 3
        (.seq
        (.region [] [⟨some 35, AOp.mov (AX.t 33), none⟩,
          ⟨some 36, AOp.indexV 8 1 false (AX.t 32) (AX.t 33), none⟩,
          ⟨some 9, AOp.mov (AX.t 35), none⟩,
          ⟨some 10, AOp.mov (AX.t 36), none⟩] [0, 2, 7, 9, 10, 32, 33])
        (.seq
        (.region [] [⟨some 37, AOp.mov (AX.t 0), none⟩,
          ⟨some 38, AOp.nilCheck (AX.t 37), none⟩,
          ⟨some 39, AOp.fieldA 1 1 false (AX.t 38), none⟩,
          ⟨some 40, AOp.load false 1 (AX.t 39), none⟩,
          ⟨some 41, AOp.mov (AX.t 9), none⟩,
          ⟨some 42, AOp.mov (AX.t 10), none⟩,
          ⟨some 43, AOp.lit [AV.int (IntKind.i64) 0, AV.int (IntKind.u32) 0] [(0, 1, AX.t 41), (1, 1, AX.t 42)], none⟩,
          ⟨some 44, AOp.lookup true [CK.i, CK.i] (AV.nils) false (AX.t 40) (AX.t 43), none⟩,
          ⟨some 45, AOp.lenS (AX.t 44), none⟩,
          ⟨some 46, AOp.mov (AX.c (AV.int (IntKind.i64) 0)), none⟩] [0, 2, 7, 32, 33, 44, 45, 46])
        (.block 4
          (.loop
            (.seq
            (.region [] [⟨some 47, AOp.bin (BinOp.lss) (AX.t 46) (AX.t 45), none⟩] [0, 2, 7, 32, 33, 44, 45, 46, 47])
            (.seq
            (.cond (AX.t 47)
              AC.skip
              (.exit 4))
            (.seq
            (.block 5
              (.seq
              (.region [] [⟨some 48, AOp.indexS 32 (AX.t 44) (AX.t 46), none⟩,
                ⟨some 49, AOp.load true 32 (AX.t 48), none⟩,
                ⟨some 12, AOp.allocL (AV.agg [AV.int (IntKind.u8) 0, AV.int (IntKind.u8) 0, AV.int (IntKind.u8) 0, AV.int (IntKind.u8) 0, AV.int (IntKind.u8) 0, AV.int (IntKind.u8) 0, AV.int (IntKind.u8) 0, AV.int (IntKind.u8) 0, AV.int (IntKind.u8) 0, AV.int (IntKind.u8) 0, AV.int (IntKind.u8) 0, AV.int (IntKind.u8) 0, AV.int (IntKind.u8) 0, AV.int (IntKind.u8) 0, AV.int (IntKind.u8) 0, AV.int (IntKind.u8) 0, AV.int (IntKind.u8) 0, AV.int (IntKind.u8) 0, AV.int (IntKind.u8) 0, AV.int (IntKind.u8) 0, AV.int (IntKind.u8) 0, AV.int (IntKind.u8) 0, AV.int (IntKind.u8) 0, AV.int (IntKind.u8) 0, AV.int (IntKind.u8) 0, AV.int (IntKind.u8) 0, AV.int (IntKind.u8) 0, AV.int (IntKind.u8) 0, AV.int (IntKind.u8) 0, AV.int (IntKind.u8) 0, AV.int (IntKind.u8) 0, AV.int (IntKind.u8) 0]), none⟩,
                ⟨none, AOp.store 32 (AX.t 12) (AX.t 49), none⟩] [0, 2, 7, 12, 32, 33, 44, 45, 46])
              (.regionA [[0, 1, 4, 2, 3, 5, 6], [0, 1, 2, 3, 4, 5, 6]] [⟨some 50, AOp.load false 1 (AX.t 7), none⟩,
                ⟨some 51, AOp.loadL true 32 (AX.t 12), none⟩,
                ⟨some 52, AOp.lookup true [CK.i, CK.i, CK.i, CK.i, CK.i, CK.i, CK.i, CK.i, CK.i, CK.i, CK.i, CK.i, CK.i, CK.i, CK.i, CK.i, CK.i, CK.i, CK.i, CK.i, CK.i, CK.i, CK.i, CK.i, CK.i, CK.i, CK.i, CK.i, CK.i, CK.i, CK.i, CK.i] (AV.int (IntKind.i64) 0) false (AX.t 50) (AX.t 51), none⟩,
                ⟨some 53, AOp.bin (BinOp.add) (AX.t 52) (AX.c (AV.int (IntKind.i64) 1)), none⟩,
                ⟨some 54, AOp.mapEnt true [CK.i, CK.i, CK.i, CK.i, CK.i, CK.i, CK.i, CK.i, CK.i, CK.i, CK.i, CK.i, CK.i, CK.i, CK.i, CK.i, CK.i, CK.i, CK.i, CK.i, CK.i, CK.i, CK.i, CK.i, CK.i, CK.i, CK.i, CK.i, CK.i, CK.i, CK.i, CK.i] (AV.int (IntKind.i64) 0) (AX.t 50) (AX.t 51), none⟩,
                ⟨some 55, AOp.extract (AX.t 54) 1, none⟩,
                ⟨none, AOp.entSto (AX.t 50) (AX.t 55) (AX.t 53), none⟩] [0, 2, 7, 32, 33, 44, 45, 46])))
            (.region [] [⟨some 56, AOp.bin (BinOp.add) (AX.t 46) (AX.c (AV.int (IntKind.i64) 1)), none⟩,
              ⟨some 46, AOp.mov (AX.t 56), none⟩] [0, 2, 7, 32, 33, 44, 45, 46])))))))))
      (.region [] [⟨some 57, AOp.bin (BinOp.add) (AX.t 33) (AX.c (AV.int (IntKind.i64) 1)), none⟩,
        ⟨some 33, AOp.mov (AX.t 57), none⟩] [0, 2, 7, 32, 33])))))))

def w18c : AC := 
  (.seq
  (.region [] [⟨some 58, AOp.load false 1 (AX.t 7), none⟩,
    ⟨some 59, AOp.range (AX.t 58), none⟩] [2, 7, 13, 59])
  (.block 6
    (.loop
      (.seq
      (.region [] [⟨some 60, AOp.next (AX.t 59), none⟩,
        ⟨some 61, AOp.extract (AX.t 60) 0, none⟩] [2, 7, 13, 59, 61])
      (.seq
      (.cond (AX.t 61)
        AC.skip
        (.exit 6))
      (.block 7
        (.seq
        (.region [] [⟨some 62, AOp.entry (AX.t 59), none⟩,
          ⟨some 63, AOp.extract (AX.t 62) 0, none⟩,
          ⟨some 64, AOp.extract (AX.t 62) 1, none⟩,
          ⟨some 14, AOp.allocL (AV.agg [AV.int (IntKind.u8) 0, AV.int (IntKind.u8) 0, AV.int (IntKind.u8) 0, AV.int (IntKind.u8) 0, AV.int (IntKind.u8) 0, AV.int (IntKind.u8) 0, AV.int (IntKind.u8) 0, AV.int (IntKind.u8) 0, AV.int (IntKind.u8) 0, AV.int (IntKind.u8) 0, AV.int (IntKind.u8) 0, AV.int (IntKind.u8) 0, AV.int (IntKind.u8) 0, AV.int (IntKind.u8) 0, AV.int (IntKind.u8) 0, AV.int (IntKind.u8) 0, AV.int (IntKind.u8) 0, AV.int (IntKind.u8) 0, AV.int (IntKind.u8) 0, AV.int (IntKind.u8) 0, AV.int (IntKind.u8) 0, AV.int (IntKind.u8) 0, AV.int (IntKind.u8) 0, AV.int (IntKind.u8) 0, AV.int (IntKind.u8) 0, AV.int (IntKind.u8) 0, AV.int (IntKind.u8) 0, AV.int (IntKind.u8) 0, AV.int (IntKind.u8) 0, AV.int (IntKind.u8) 0, AV.int (IntKind.u8) 0, AV.int (IntKind.u8) 0]), none⟩,
          ⟨none, AOp.store 32 (AX.t 14) (AX.t 63), none⟩,
          ⟨some 15, AOp.mov (AX.t 64), none⟩] [2, 7, 13, 14, 15, 59])
        (.seq
        (.region [] [⟨some 65, AOp.mov (AX.t 15), none⟩,
          ⟨some 66, AOp.mov (AX.t 2), none⟩,
          ⟨some 67, AOp.bin (BinOp.geq) (AX.t 65) (AX.t 66), none⟩] [2, 7, 13, 14, 59, 67])
        (.cond (AX.t 67)
          (.region [] [⟨some 68, AOp.mov (AX.t 13), none⟩,
            ⟨some 69, AOp.loadL true 32 (AX.t 14), none⟩,
            ⟨some 70, AOp.litS true 32 (AV.agg [AV.int (IntKind.u8) 0, AV.int (IntKind.u8) 0, AV.int (IntKind.u8) 0, AV.int (IntKind.u8) 0, AV.int (IntKind.u8) 0, AV.int (IntKind.u8) 0, AV.int (IntKind.u8) 0, AV.int (IntKind.u8) 0, AV.int (IntKind.u8) 0, AV.int (IntKind.u8) 0, AV.int (IntKind.u8) 0, AV.int (IntKind.u8) 0, AV.int (IntKind.u8) 0, AV.int (IntKind.u8) 0, AV.int (IntKind.u8) 0, AV.int (IntKind.u8) 0, AV.int (IntKind.u8) 0, AV.int (IntKind.u8) 0, AV.int (IntKind.u8) 0, AV.int (IntKind.u8) 0, AV.int (IntKind.u8) 0, AV.int (IntKind.u8) 0, AV.int (IntKind.u8) 0, AV.int (IntKind.u8) 0, AV.int (IntKind.u8) 0, AV.int (IntKind.u8) 0, AV.int (IntKind.u8) 0, AV.int (IntKind.u8) 0, AV.int (IntKind.u8) 0, AV.int (IntKind.u8) 0, AV.int (IntKind.u8) 0, AV.int (IntKind.u8) 0]) 1 [(0, AX.t 69)], none⟩,
            ⟨some 71, AOp.append false true 32 32 (AX.t 68) (AX.t 70), none⟩,
            ⟨some 13, AOp.mov (AX.t 71), none⟩] [2, 7, 13, 59])
          AC.skip)))))))))

def a18 : AF := ⟨[ARes.t 6],
  (.seq
  (.region [] [⟨some 4, AOp.boxL 8 (AX.t 1), none⟩,
    ⟨some 6, AOp.mov (AX.c (AV.nils)), none⟩] [0, 2, 4])
  (.seq
  (.seq
  (.region [] [⟨some 16, AOp.mov (AX.t 0), none⟩,
    ⟨some 17, AOp.eqNil false (NK.p) (AX.t 16), none⟩] [0, 2, 4, 17])
  (.cond (AX.t 17)
    (.seq
    (.region [] [⟨some 6, AOp.mov (AX.c (AV.nils)), none⟩] [6])
    AC.ret)
    AC.skip))
  (.seq
  (.region [] [⟨some 18, AOp.mkMap, none⟩,
    ⟨some 7, AOp.allocH 1 (AV.nilm), none⟩,
    ⟨none, AOp.store 1 (AX.t 7) (AX.t 18), none⟩] [0, 2, 4, 7])
  (.seq
  (.seq
  (.region [] [⟨some 19, AOp.mov (AX.t 2), none⟩,
    ⟨some 20, AOp.bin (BinOp.lss) (AX.t 19) (AX.c (AV.int (IntKind.i64) 1)), none⟩] [0, 2, 4, 7, 20])
  (.cond (AX.t 20)
    w18a
    AC.skip))
  (.seq
  w18b
  (.seq
  (.region [] [⟨some 13, AOp.mov (AX.c (AV.nils)), none⟩] [2, 7, 13])
  (.seq
  w18c
  (.seq
  (.region [] [⟨some 72, AOp.mov (AX.t 13), none⟩,
    ⟨some 73, AOp.mkFunc (Fn.func 28) [] [AX.t 7], none⟩,
    ⟨some 74, AOp.call 27 [AX.t 72, AX.t 73], none⟩] [13])
  (.seq
  (.region [] [⟨some 75, AOp.mov (AX.t 13), none⟩,
    ⟨some 6, AOp.mov (AX.t 75), none⟩] [6])
  AC.ret)))))))))⟩

def a19 : AF := ⟨[ARes.t 2],
  (.seq
  (.region [] [⟨some 2, AOp.mov (AX.c (AV.int (IntKind.i64) 0)), none⟩] [0])
  (.seq
  (.seq
  (.region [] [⟨some 3, AOp.mov (AX.t 0), none⟩,
    ⟨some 4, AOp.eqNil false (NK.p) (AX.t 3), none⟩] [0, 4])
  (.cond (AX.t 4)
    (.seq
    (.region [] [⟨some 2, AOp.mov (AX.c (AV.int (IntKind.i64) 0)), none⟩] [2])
    AC.ret)
    AC.skip))
  (.seq
  (.region [] [⟨some 5, AOp.mov (AX.t 0), none⟩,
    ⟨some 6, AOp.nilCheck (AX.t 5), none⟩,
    ⟨some 7, AOp.fieldA 0 1 false (AX.t 6), none⟩,
    ⟨some 8, AOp.load false 1 (AX.t 7), none⟩,
    ⟨some 9, AOp.lenM (AX.t 8), none⟩,
    ⟨some 2, AOp.mov (AX.t 9), none⟩] [2])
  AC.ret)))⟩

def a20 : AF := ⟨[ARes.t 4],
  (.seq
  (.region [] [⟨some 4, AOp.mov (AX.c (AV.bool false)), none⟩] [0, 1])
  (.seq
  (.seq
  (.region [] [⟨some 6, AOp.mov (AX.t 0), none⟩,
    ⟨some 7, AOp.lenS (AX.t 6), none⟩,
    ⟨some 8, AOp.mov (AX.t 1), none⟩,
    ⟨some 9, AOp.lenS (AX.t 8), none⟩,
    ⟨some 10, AOp.bin (BinOp.neq) (AX.t 7) (AX.t 9), none⟩] [0, 1, 10])
  (.cond (AX.t 10)
    (.seq
    (.region [] [⟨some 4, AOp.mov (AX.c (AV.bool false)), none⟩] [4])
    AC.ret)
    AC.skip))
  (.seq
  (.seq
  (.region [] [⟨some 5, AOp.mov (AX.c (AV.int (IntKind.i64) 0)), none⟩] [0, 1, 5])
  (.block 0
    (.loop
      (.seq
      (.seq
      (.region [] [⟨some 11, AOp.mov (AX.t 5), none⟩,
        ⟨some 12, AOp.mov (AX.t 0), none⟩,
        ⟨some 13, AOp.lenS (AX.t 12), none⟩,
        ⟨some 14, AOp.bin (BinOp.lss) (AX.t 11) (AX.t 13), none⟩] [0, 1, 5, 14])
      (.cond (AX.t 14)
        AC.skip
        (.exit 0)))
      (.seq
      (.block 1
        (.seq
        (.region [0, 1, 2, 3, 4, 5, 6, 7, 8] [⟨some 17, AOp.mov (AX.t 0), none⟩,
          ⟨some 18, AOp.mov (AX.t 5), none⟩,
          ⟨some 19, AOp.indexS 32 (AX.t 17) (AX.t 18), none⟩,
          ⟨some 20, AOp.load true 32 (AX.t 19), none⟩,
          ⟨some 21, AOp.mov (AX.t 1), none⟩,
          ⟨some 22, AOp.mov (AX.t 5), none⟩,
          ⟨some 23, AOp.indexS 32 (AX.t 21) (AX.t 22), none⟩,
          ⟨some 24, AOp.load true 32 (AX.t 23), none⟩,
          ⟨some 25, AOp.eql true true [CK.i, CK.i, CK.i, CK.i, CK.i, CK.i, CK.i, CK.i, CK.i, CK.i, CK.i, CK.i, CK.i, CK.i, CK.i, CK.i, CK.i, CK.i, CK.i, CK.i, CK.i, CK.i, CK.i, CK.i, CK.i, CK.i, CK.i, CK.i, CK.i, CK.i, CK.i, CK.i] (AX.t 20) (AX.t 24), none⟩] [0, 1, 5, 25])
        (.cond (AX.t 25)
          (.seq
          (.region [] [⟨some 4, AOp.mov (AX.c (AV.bool false)), none⟩] [4])
          AC.ret)
          AC.skip)))
      (.region [] [⟨some 15, AOp.mov (AX.t 5), none⟩,
        ⟨some 16, AOp.bin (BinOp.add) (AX.t 15) (AX.c (AV.int (IntKind.i64) 1)), none⟩,
        ⟨some 5, AOp.mov (AX.t 16), none⟩] [0, 1, 5]))))))
  (.seq
  (.region [] [⟨some 4, AOp.mov (AX.c (AV.bool true)), none⟩] [4])
  AC.ret))))⟩

def a21 : AF := ⟨[ARes.t 6],
  (.seq
  (.region [] [⟨some 4, AOp.boxL 8 (AX.t 1), none⟩,
    ⟨some 6, AOp.mov (AX.c (AV.nils)), none⟩] [0, 2, 4])
  (.seq
  (.region [] [⟨some 7, AOp.mov (AX.c (AV.nils)), none⟩] [0, 2, 4, 7])
  (.seq
  (.seq
  (.region [] [⟨some 8, AOp.mov (AX.c (AV.int (IntKind.i64) 0)), none⟩] [0, 2, 4, 7, 8])
  (.block 0
    (.loop
      (.seq
      (.seq
      (.region [] [⟨some 14, AOp.mov (AX.t 8), none⟩,
        ⟨some 15, AOp.mov (AX.t 0), none⟩,
        ⟨some 16, AOp.lenS (AX.t 15), none⟩,
        ⟨some 17, AOp.bin (BinOp.lss) (AX.t 14) (AX.t 16), none⟩] [0, 2, 4, 7, 8, 17])
      (.cond (AX.t 17)
        AC.skip
        (.exit 0)))
      (.seq
      (.block 1
        (.seq
        (.seq
        (.region [0, 1, 2, 3, 4, 5, 6, 7, 8] [⟨some 20, AOp.mov (AX.t 0), none⟩,
          ⟨some 21, AOp.mov (AX.t 8), none⟩,
          ⟨some 22, AOp.indexS 40 (AX.t 20) (AX.t 21), none⟩,
          ⟨some 23, AOp.fieldA 32 8 true (AX.t 22), none⟩,
          ⟨some 24, AOp.load true 8 (AX.t 23), none⟩,
          ⟨some 25, AOp.loadL true 8 (AX.t 4), none⟩,
          ⟨some 26, AOp.callP 12 [AX.t 24, AX.t 25], none⟩,
          ⟨some 27, AOp.mov (AX.t 2), none⟩,
          ⟨some 28, AOp.bin (BinOp.lss) (AX.t 26) (AX.t 27), none⟩] [0, 2, 4, 7, 8, 28])
        (.cond (AX.t 28)
          (.exit 1)
          AC.skip))
        (.seq
        (.region [] [⟨some 29, AOp.mov (AX.t 7), none⟩,
          ⟨some 30, AOp.mov (AX.t 0), none⟩,
          ⟨some 31, AOp.mov (AX.t 8), none⟩,
          ⟨some 32, AOp.indexS 40 (AX.t 30) (AX.t 31), none⟩,
          ⟨some 33, AOp.load true 40 (AX.t 32), none⟩,
          ⟨some 34, AOp.litS true 40 (AV.agg [AV.int (IntKind.u8) 0, AV.int (IntKind.u8) 0, AV.int (IntKind.u8) 0, AV.int (IntKind.u8) 0, AV.int (IntKind.u8) 0, AV.int (IntKind.u8) 0, AV.int (IntKind.u8) 0, AV.int (IntKind.u8) 0, AV.int (IntKind.u8) 0, AV.int (IntKind.u8) 0, AV.int (IntKind.u8) 0, AV.int (IntKind.u8) 0, AV.int (IntKind.u8) 0, AV.int (IntKind.u8) 0, AV.int (IntKind.u8) 0, AV.int (IntKind.u8) 0, AV.int (IntKind.u8) 0, AV.int (IntKind.u8) 0, AV.int (IntKind.u8) 0, AV.int (IntKind.u8) 0, AV.int (IntKind.u8) 0, AV.int (IntKind.u8) 0, AV.int (IntKind.u8) 0, AV.int (IntKind.u8) 0, AV.int (IntKind.u8) 0, AV.int (IntKind.u8) 0, AV.int (IntKind.u8) 0, AV.int (IntKind.u8) 0, AV.int (IntKind.u8) 0, AV.int (IntKind.u8) 0, AV.int (IntKind.u8) 0, AV.int (IntKind.u8) 0, AV.int (IntKind.u32) 0, AV.int (IntKind.u32) 0, AV.int (IntKind.u32) 0, AV.int (IntKind.u32) 0, AV.int (IntKind.u32) 0, AV.int (IntKind.u32) 0, AV.int (IntKind.u32) 0, AV.int (IntKind.u32) 0]) 1 [(0, AX.t 33)], none⟩,
          ⟨some 35, AOp.append false true 40 64 (AX.t 29) (AX.t 34), none⟩,
          ⟨some 7, AOp.mov (AX.t 35), none⟩] [0, 2, 4, 7, 8])
        (.seq
        (.region [] [⟨some 36, AOp.mov (AX.t 7), none⟩,
          ⟨some 37, AOp.lenS (AX.t 36), none⟩,
          ⟨some 38, AOp.bin (BinOp.sub) (AX.t 37) (AX.c (AV.int (IntKind.i64) 1)), none⟩,
          ⟨some 9, AOp.mov (AX.t 38), none⟩] [0, 2, 4, 7, 8, 9])
        (.block 2
          (.loop
            (.seq
            (.seq
            (.region [] [⟨some 39, AOp.mov (AX.t 9), none⟩,
              ⟨some 40, AOp.bin (BinOp.gtr) (AX.t 39) (AX.c (AV.int (IntKind.i64) 0)), none⟩] [0, 2, 4, 7, 8, 9, 40])
            (.cond (AX.t 40)
              AC.skip
              (.exit 2)))
            (.seq
            (.block 3
              (.seq
              (.region [0, 1, 2, 3, 4, 5, 6, 7, 8, 9, 10, 11, 12, 13, 14, 15, 16] [⟨some 43, AOp.mov (AX.t 7), none⟩,
                ⟨some 44, AOp.mov (AX.t 9), none⟩,
                ⟨some 45, AOp.bin (BinOp.sub) (AX.t 44) (AX.c (AV.int (IntKind.i64) 1)), none⟩,
                ⟨some 46, AOp.indexS 40 (AX.t 43) (AX.t 45), none⟩,
                ⟨some 47, AOp.fieldA 32 8 true (AX.t 46), none⟩,
                ⟨some 48, AOp.load true 8 (AX.t 47), none⟩,
                ⟨some 49, AOp.loadL true 8 (AX.t 4), none⟩,
                ⟨some 50, AOp.callP 12 [AX.t 48, AX.t 49], none⟩,
                ⟨some 51, AOp.mov (AX.t 7), none⟩,
                ⟨some 52, AOp.mov (AX.t 9), none⟩,
                ⟨some 53, AOp.indexS 40 (AX.t 51) (AX.t 52), none⟩,
                ⟨some 54, AOp.fieldA 32 8 true (AX.t 53), none⟩,
                ⟨some 55, AOp.load true 8 (AX.t 54), none⟩,
                ⟨some 56, AOp.loadL true 8 (AX.t 4), none⟩,
                ⟨some 57, AOp.callP 12 [AX.t 55, AX.t 56], none⟩,
                ⟨some 10, AOp.mov (AX.t 50), none⟩,
                ⟨some 11, AOp.mov (AX.t 57), none⟩] [0, 2, 4, 7, 8, 9, 10, 11])
              (.seq
              (.seq
              (.region [0, 1, 2, 3, 4, 5, 6, 7, 8, 9, 10, 11, 12, 13, 14, 15, 16, 17, 18, 19, 20, 21] [⟨some 58, AOp.mov (AX.t 10), none⟩,
                ⟨some 59, AOp.mov (AX.t 11), none⟩,
                ⟨some 60, AOp.bin (BinOp.gtr) (AX.t 58) (AX.t 59), none⟩,
                ⟨some 61, AOp.mov (AX.t 60), none⟩,
                ⟨some 62, AOp.mov (AX.t 10), some (61, false)⟩,
                ⟨some 63, AOp.mov (AX.t 11), some (61, false)⟩,
                ⟨some 64, AOp.bin (BinOp.eql) (AX.t 62) (AX.t 63), some (61, false)⟩,
                ⟨some 65, AOp.mov (AX.t 64), some (61, false)⟩,
                ⟨some 66, AOp.mov (AX.t 7), some (65, true)⟩,
                ⟨some 67, AOp.mov (AX.t 9), some (65, true)⟩,
                ⟨some 68, AOp.bin (BinOp.sub) (AX.t 67) (AX.c (AV.int (IntKind.i64) 1)), some (65, true)⟩,
                ⟨some 69, AOp.indexS 40 (AX.t 66) (AX.t 68), some (65, true)⟩,
                ⟨some 70, AOp.fieldA 0 32 true (AX.t 69), some (65, true)⟩,
                ⟨some 71, AOp.load true 32 (AX.t 70), some (65, true)⟩,
                ⟨some 72, AOp.mov (AX.t 7), some (65, true)⟩,
                ⟨some 73, AOp.mov (AX.t 9), some (65, true)⟩,
                ⟨some 74, AOp.indexS 40 (AX.t 72) (AX.t 73), some (65, true)⟩,
                ⟨some 75, AOp.fieldA 0 32 true (AX.t 74), some (65, true)⟩,
                ⟨some 76, AOp.load true 32 (AX.t 75), some (65, true)⟩,
                ⟨some 77, AOp.callP 30 [AX.t 71, AX.t 76], some (65, true)⟩,
                ⟨some 78, AOp.pick (AX.t 65) (AX.t 77) (AX.c (AV.bool false)), some (61, false)⟩,
                ⟨some 79, AOp.pick (AX.t 61) (AX.c (AV.bool true)) (AX.t 78), none⟩] [0, 2, 4, 7, 8, 9, 79])
              (.cond (AX.t 79)
                (.exit 2)
                AC.skip))
              (.region [0, 1, 2, 3, 4, 5, 6, 7, 8, 9, 10, 11, 12, 13, 14, 15, 16, 17] [⟨some 80, AOp.mov (AX.t 7), none⟩,
                ⟨some 81, AOp.mov (AX.t 9), none⟩,
                ⟨some 82, AOp.bin (BinOp.sub) (AX.t 81) (AX.c (AV.int (IntKind.i64) 1)), none⟩,
                ⟨some 83, AOp.mov (AX.t 7), none⟩,
                ⟨some 84, AOp.mov (AX.t 9), none⟩,
                ⟨some 85, AOp.mov (AX.t 7), none⟩,
                ⟨some 86, AOp.mov (AX.t 9), none⟩,
                ⟨some 87, AOp.indexS 40 (AX.t 85) (AX.t 86), none⟩,
                ⟨some 88, AOp.load true 40 (AX.t 87), none⟩,
                ⟨some 89, AOp.mov (AX.t 7), none⟩,
                ⟨some 90, AOp.mov (AX.t 9), none⟩,
                ⟨some 91, AOp.bin (BinOp.sub) (AX.t 90) (AX.c (AV.int (IntKind.i64) 1)), none⟩,
                ⟨some 92, AOp.indexS 40 (AX.t 89) (AX.t 91), none⟩,
                ⟨some 93, AOp.load true 40 (AX.t 92), none⟩,
                ⟨some 94, AOp.indexS 40 (AX.t 80) (AX.t 82), none⟩,
                ⟨none, AOp.store 40 (AX.t 94) (AX.t 88), none⟩,
                ⟨some 95, AOp.indexS 40 (AX.t 83) (AX.t 84), none⟩,
                ⟨none, AOp.store 40 (AX.t 95) (AX.t 93), none⟩] [0, 2, 4, 7, 8, 9]))))
            (.region [] [⟨some 41, AOp.mov (AX.t 9), none⟩,
              ⟨some 42, AOp.bin (BinOp.sub) (AX.t 41) (AX.c (AV.int (IntKind.i64) 1)), none⟩,
              ⟨some 9, AOp.mov (AX.t 42), none⟩] [0, 2, 4, 7, 8, 9])))))))))
      (.region [] [⟨some 18, AOp.mov (AX.t 8), none⟩,
        ⟨some 19, AOp.bin (BinOp.add) (AX.t 18) (AX.c (AV.int (IntKind.i64) 1)), none⟩,
        ⟨some 8, AOp.mov (AX.t 19), none⟩] [0, 2, 4, 7, 8]))))))
  (.seq
  (.region [] [⟨some 12, AOp.mov (AX.c (AV.nils)), none⟩] [7, 12])
  (.seq
  (.seq
  (.region [] [⟨some 13, AOp.mov (AX.c (AV.int (IntKind.i64) 0)), none⟩] [7, 12, 13])
  (.block 4
    (.loop
      (.seq
      (.seq
      (.region [] [⟨some 96, AOp.mov (AX.t 13), none⟩,
        ⟨some 97, AOp.mov (AX.t 7), none⟩,
        ⟨some 98, AOp.lenS (AX.t 97), none⟩,
        ⟨some 99, AOp.bin (BinOp.lss) (AX.t 96) (AX.t 98), none⟩] [7, 12, 13, 99])
      (.cond (AX.t 99)
        AC.skip
        (.exit 4)))
      (.seq
      (.block 5
        (.region [] [⟨some 102, AOp.mov (AX.t 12), none⟩,
          ⟨some 103, AOp.mov (AX.t 7), none⟩,
          ⟨some 104, AOp.mov (AX.t 13), none⟩,
          ⟨some 105, AOp.indexS 40 (AX.t 103) (AX.t 104), none⟩,
          ⟨some 106, AOp.fieldA 0 32 true (AX.t 105), none⟩,
          ⟨some 107, AOp.load true 32 (AX.t 106), none⟩,
          ⟨some 108, AOp.litS false 32 (AV.agg [AV.int (IntKind.u8) 0, AV.int (IntKind.u8) 0, AV.int (IntKind.u8) 0, AV.int (IntKind.u8) 0, AV.int (IntKind.u8) 0, AV.int (IntKind.u8) 0, AV.int (IntKind.u8) 0, AV.int (IntKind.u8) 0, AV.int (IntKind.u8) 0, AV.int (IntKind.u8) 0, AV.int (IntKind.u8) 0, AV.int (IntKind.u8) 0, AV.int (IntKind.u8) 0, AV.int (IntKind.u8) 0, AV.int (IntKind.u8) 0, AV.int (IntKind.u8) 0, AV.int (IntKind.u8) 0, AV.int (IntKind.u8) 0, AV.int (IntKind.u8) 0, AV.int (IntKind.u8) 0, AV.int (IntKind.u8) 0, AV.int (IntKind.u8) 0, AV.int (IntKind.u8) 0, AV.int (IntKind.u8) 0, AV.int (IntKind.u8) 0, AV.int (IntKind.u8) 0, AV.int (IntKind.u8) 0, AV.int (IntKind.u8) 0, AV.int (IntKind.u8) 0, AV.int (IntKind.u8) 0, AV.int (IntKind.u8) 0, AV.int (IntKind.u8) 0]) 1 [(0, AX.t 107)], none⟩,
          ⟨some 109, AOp.append true false 32 32 (AX.t 102) (AX.t 108), none⟩,
          ⟨some 12, AOp.mov (AX.t 109), none⟩] [7, 12, 13]))
      (.region [] [⟨some 100, AOp.mov (AX.t 13), none⟩,
        ⟨some 101, AOp.bin (BinOp.add) (AX.t 100) (AX.c (AV.int (IntKind.i64) 1)), none⟩,
        ⟨some 13, AOp.mov (AX.t 101), none⟩] [7, 12, 13]))))))
  (.seq
  (.region [] [⟨some 110, AOp.mov (AX.t 12), none⟩,
    ⟨some 6, AOp.mov (AX.t 110), none⟩] [6])
  AC.ret))))))⟩

def a22 : AF := ⟨[ARes.t 6],
  (.seq
  (.region [] [⟨some 6, AOp.mov (AX.c (AV.int (IntKind.u32) 0)), none⟩] [0, 1, 2])
  (.seq
  (.region [] [⟨some 8, AOp.mov (AX.t 0), none⟩,
    ⟨some 9, AOp.mov (AX.t 1), none⟩,
    ⟨some 10, AOp.mov (AX.t 2), none⟩,
    ⟨some 11, AOp.bin (BinOp.add) (AX.t 9) (AX.t 10), none⟩,
    ⟨some 12, AOp.convI (IntKind.u32) (AX.t 11), none⟩,
    ⟨some 13, AOp.bin (BinOp.mul) (AX.t 12) (AX.c (AV.int (IntKind.u32) 40503)), none⟩,
    ⟨some 14, AOp.bin (BinOp.xor) (AX.t 8) (AX.t 13), none⟩,
    ⟨some 15, AOp.mov (AX.t 2), none⟩,
    ⟨some 16, AOp.bin (BinOp.mul) (AX.c (AV.int (IntKind.i64) 2)) (AX.t 15), none⟩,
    ⟨some 17, AOp.bin (BinOp.add) (AX.t 16) (AX.c (AV.int (IntKind.i64) 1)), none⟩,
    ⟨some 18, AOp.convI (IntKind.u32) (AX.t 17), none⟩,
    ⟨some 19, AOp.bin (BinOp.mul) (AX.c (AV.int (IntKind.u32) 2654435761)) (AX.t 18), none⟩,
    ⟨some 20, AOp.bin (BinOp.mul) (AX.t 14) (AX.t 19), none⟩,
    ⟨some 7, AOp.mov (AX.t 20), none⟩] [7])
  (.seq
  (.region [] [⟨some 21, AOp.mov (AX.t 7), none⟩,
    ⟨some 22, AOp.mov (AX.t 7), none⟩,
    ⟨some 23, AOp.bin (BinOp.shr) (AX.t 22) (AX.c (AV.int (IntKind.u64) 15)), none⟩,
    ⟨some 24, AOp.bin (BinOp.xor) (AX.t 21) (AX.t 23), none⟩,
    ⟨some 6, AOp.mov (AX.t 24), none⟩] [6])
  AC.ret)))⟩

def a23 : AF := ⟨[ARes.t 6],
  (.seq
  (.region [] [⟨some 6, AOp.mov (AX.c (AV.int (IntKind.u32) 0)), none⟩] [0, 1, 2])
  (.seq
  (.region [] [⟨some 9, AOp.mov (AX.t 1), none⟩,
    ⟨some 10, AOp.convI (IntKind.u32) (AX.t 9), none⟩,
    ⟨some 11, AOp.mov (AX.t 2), none⟩,
    ⟨some 12, AOp.convI (IntKind.u32) (AX.t 11), none⟩,
    ⟨some 13, AOp.bin (BinOp.add) (AX.t 10) (AX.t 12), none⟩,
    ⟨some 7, AOp.mov (AX.t 13), none⟩] [0, 2, 7])
  (.seq
  (.region [] [⟨some 14, AOp.mov (AX.t 0), none⟩,
    ⟨some 15, AOp.convI (IntKind.u32) (AX.t 14), none⟩,
    ⟨some 16, AOp.mov (AX.t 7), none⟩,
    ⟨some 17, AOp.bin (BinOp.mul) (AX.t 16) (AX.c (AV.int (IntKind.u32) 40503)), none⟩,
    ⟨some 18, AOp.bin (BinOp.xor) (AX.t 15) (AX.t 17), none⟩,
    ⟨some 19, AOp.mov (AX.t 2), none⟩,
    ⟨some 20, AOp.convI (IntKind.u32) (AX.t 19), none⟩,
    ⟨some 21, AOp.bin (BinOp.mul) (AX.c (AV.int (IntKind.u32) 2)) (AX.t 20), none⟩,
    ⟨some 22, AOp.bin (BinOp.add) (AX.t 21) (AX.c (AV.int (IntKind.u32) 1)), none⟩,
    ⟨some 23, AOp.bin (BinOp.mul) (AX.c (AV.int (IntKind.u32) 2654435761)) (AX.t 22), none⟩,
    ⟨some 24, AOp.bin (BinOp.mul) (AX.t 18) (AX.t 23), none⟩,
    ⟨some 8, AOp.mov (AX.t 24), none⟩] [8])
  (.seq
  (.region [] [⟨some 25, AOp.mov (AX.t 8), none⟩,
    ⟨some 26, AOp.mov (AX.t 8), none⟩,
    ⟨some 27, AOp.bin (BinOp.quo) (AX.t 26) (AX.c (AV.int (IntKind.u32) 32768)), none⟩,
    ⟨some 28, AOp.bin (BinOp.xor) (AX.t 25) (AX.t 27), none⟩,
    ⟨some 6, AOp.mov (AX.t 28), none⟩] [6])
  AC.ret))))⟩

def a24 : AF := ⟨[ARes.t 2],
  (.seq
  (.region [] [⟨some 2, AOp.mov (AX.c (AV.int (IntKind.i64) 0)), none⟩] [0])
  (.seq
  (.region [] [⟨some 3, AOp.mov (AX.c (AV.int (IntKind.i64) 0)), none⟩] [0, 3])
  (.seq
  (.seq
  (.region [] [⟨some 4, AOp.mov (AX.c (AV.int (IntKind.i64) 0)), none⟩] [0, 3, 4])
  (.block 0
    (.loop
      (.seq
      (.seq
      (.region [] [⟨some 5, AOp.mov (AX.t 4), none⟩,
        ⟨some 6, AOp.mov (AX.t 0), none⟩,
        ⟨some 7, AOp.lenS (AX.t 6), none⟩,
        ⟨some 8, AOp.bin (BinOp.lss) (AX.t 5) (AX.t 7), none⟩] [0, 3, 4, 8])
      (.cond (AX.t 8)
        AC.skip
        (.exit 0)))
      (.seq
      (.block 1
        (.region [] [⟨some 11, AOp.mov (AX.t 3), none⟩,
          ⟨some 12, AOp.bin (BinOp.mul) (AX.t 11) (AX.c (AV.int (IntKind.i64) 257)), none⟩,
          ⟨some 13, AOp.mov (AX.t 0), none⟩,
          ⟨some 14, AOp.mov (AX.t 4), none⟩,
          ⟨some 15, AOp.indexS 1 (AX.t 13) (AX.t 14), none⟩,
          ⟨some 16, AOp.load false 1 (AX.t 15), none⟩,
          ⟨some 17, AOp.convI (IntKind.i64) (AX.t 16), none⟩,
          ⟨some 18, AOp.bin (BinOp.add) (AX.t 12) (AX.t 17), none⟩,
          ⟨some 19, AOp.bin (BinOp.rem) (AX.t 18) (AX.c (AV.int (IntKind.i64) 4294967296)), none⟩,
          ⟨some 3, AOp.mov (AX.t 19), none⟩] [0, 3, 4]))
      (.region [] [⟨some 9, AOp.mov (AX.t 4), none⟩,
        ⟨some 10, AOp.bin (BinOp.add) (AX.t 9) (AX.c (AV.int (IntKind.i64) 1)), none⟩,
        ⟨some 4, AOp.mov (AX.t 10), none⟩] [0, 3, 4]))))))
  (.seq
  (.region [] [⟨some 20, AOp.mov (AX.t 3), none⟩,
    ⟨some 2, AOp.mov (AX.t 20), none⟩] [2])
  AC.ret))))⟩

def a25 : AF := ⟨[ARes.t 4],
  (.seq
  (.region [] [⟨some 4, AOp.mov (AX.c (AV.nils)), none⟩] [0, 1])
  (.seq
  (.region [] [⟨some 8, AOp.mov (AX.t 0), none⟩,
    ⟨some 9, AOp.mov (AX.t 1), none⟩,
    ⟨some 10, AOp.call 31 [AX.t 8, AX.t 9], none⟩,
    ⟨some 5, AOp.mov (AX.t 10), none⟩] [0, 1, 5])
  (.seq
  (.seq
  (.region [] [⟨some 11, AOp.mov (AX.t 5), none⟩,
    ⟨some 12, AOp.bin (BinOp.eql) (AX.t 11) (AX.c (AV.int (IntKind.i64) (-1))), none⟩] [0, 1, 5, 12])
  (.cond (AX.t 12)
    (.seq
    (.region [] [⟨some 13, AOp.mov (AX.t 0), none⟩,
      ⟨some 4, AOp.mov (AX.t 13), none⟩] [4])
    AC.ret)
    AC.skip))
  (.seq
  (.seq
  (.region [] [⟨some 14, AOp.mov (AX.t 5), none⟩,
    ⟨some 15, AOp.bin (BinOp.add) (AX.t 14) (AX.c (AV.int (IntKind.i64) 1)), none⟩,
    ⟨some 6, AOp.mov (AX.t 15), none⟩] [0, 1, 5, 6])
  (.block 0
    (.loop
      (.seq
      (.seq
      (.region [] [⟨some 16, AOp.mov (AX.t 6), none⟩,
        ⟨some 17, AOp.mov (AX.t 0), none⟩,
        ⟨some 18, AOp.lenS (AX.t 17), none⟩,
        ⟨some 19, AOp.bin (BinOp.lss) (AX.t 16) (AX.t 18), none⟩] [0, 1, 5, 6, 19])
      (.cond (AX.t 19)
        AC.skip
        (.exit 0)))
      (.seq
      (.block 1
        (.seq
        (.region [] [⟨some 22, AOp.mov (AX.t 0), none⟩,
          ⟨some 23, AOp.mov (AX.t 6), none⟩,
          ⟨some 24, AOp.indexS 32 (AX.t 22) (AX.t 23), none⟩,
          ⟨some 25, AOp.load true 32 (AX.t 24), none⟩,
          ⟨some 7, AOp.allocL (AV.agg [AV.int (IntKind.u8) 0, AV.int (IntKind.u8) 0, AV.int (IntKind.u8) 0, AV.int (IntKind.u8) 0, AV.int (IntKind.u8) 0, AV.int (IntKind.u8) 0, AV.int (IntKind.u8) 0, AV.int (IntKind.u8) 0, AV.int (IntKind.u8) 0, AV.int (IntKind.u8) 0, AV.int (IntKind.u8) 0, AV.int (IntKind.u8) 0, AV.int (IntKind.u8) 0, AV.int (IntKind.u8) 0, AV.int (IntKind.u8) 0, AV.int (IntKind.u8) 0, AV.int (IntKind.u8) 0, AV.int (IntKind.u8) 0, AV.int (IntKind.u8) 0, AV.int (IntKind.u8) 0, AV.int (IntKind.u8) 0, AV.int (IntKind.u8) 0, AV.int (IntKind.u8) 0, AV.int (IntKind.u8) 0, AV.int (IntKind.u8) 0, AV.int (IntKind.u8) 0, AV.int (IntKind.u8) 0, AV.int (IntKind.u8) 0, AV.int (IntKind.u8) 0, AV.int (IntKind.u8) 0, AV.int (IntKind.u8) 0, AV.int (IntKind.u8) 0]), none⟩,
          ⟨none, AOp.store 32 (AX.t 7) (AX.t 25), none⟩] [0, 1, 5, 6, 7])
        (.seq
        (.region [] [⟨some 26, AOp.mov (AX.t 1), none⟩,
          ⟨some 27, AOp.loadL true 32 (AX.t 7), none⟩,
          ⟨some 28, AOp.callV (AX.t 26) [AX.t 27], none⟩,
          ⟨some 29, AOp.un (UnOp.not) (AX.t 28), none⟩] [0, 1, 5, 6, 7, 29])
        (.cond (AX.t 29)
          (.seq
          (.region [] [⟨some 30, AOp.mov (AX.t 0), none⟩,
            ⟨some 31, AOp.mov (AX.t 5), none⟩,
            ⟨some 32, AOp.loadL true 32 (AX.t 7), none⟩,
            ⟨some 33, AOp.indexS 32 (AX.t 30) (AX.t 31), none⟩,
            ⟨none, AOp.store 32 (AX.t 33) (AX.t 32), none⟩] [0, 1, 5, 6])
          (.region [] [⟨some 34, AOp.mov (AX.t 5), none⟩,
            ⟨some 35, AOp.bin (BinOp.add) (AX.t 34) (AX.c (AV.int (IntKind.i64) 1)), none⟩,
            ⟨some 5, AOp.mov (AX.t 35), none⟩] [0, 1, 5, 6]))
          AC.skip))))
      (.region [] [⟨some 20, AOp.mov (AX.t 6), none⟩,
        ⟨some 21, AOp.bin (BinOp.add) (AX.t 20) (AX.c (AV.int (IntKind.i64) 1)), none⟩,
        ⟨some 6, AOp.mov (AX.t 21), none⟩] [0, 1, 5, 6]))))))
  (.seq
  (.region [] [⟨some 36, AOp.mov (AX.t 0), none⟩,
    ⟨some 37, AOp.mov (AX.t 5), none⟩,
    ⟨some 38, AOp.slice (some 32) (AX.t 36) (some (AX.t 37)) none none, none⟩,
    ⟨none, AOp.clearS (AV.agg [AV.int (IntKind.u8) 0, AV.int (IntKind.u8) 0, AV.int (IntKind.u8) 0, AV.int (IntKind.u8) 0, AV.int (IntKind.u8) 0, AV.int (IntKind.u8) 0, AV.int (IntKind.u8) 0, AV.int (IntKind.u8) 0, AV.int (IntKind.u8) 0, AV.int (IntKind.u8) 0, AV.int (IntKind.u8) 0, AV.int (IntKind.u8) 0, AV.int (IntKind.u8) 0, AV.int (IntKind.u8) 0, AV.int (IntKind.u8) 0, AV.int (IntKind.u8) 0, AV.int (IntKind.u8) 0, AV.int (IntKind.u8) 0, AV.int (IntKind.u8) 0, AV.int (IntKind.u8) 0, AV.int (IntKind.u8) 0, AV.int (IntKind.u8) 0, AV.int (IntKind.u8) 0, AV.int (IntKind.u8) 0, AV.int (IntKind.u8) 0, AV.int (IntKind.u8) 0, AV.int (IntKind.u8) 0, AV.int (IntKind.u8) 0, AV.int (IntKind.u8) 0, AV.int (IntKind.u8) 0, AV.int (IntKind.u8) 0, AV.int (IntKind.u8) 0]) (AX.t 38), none⟩] [0, 5])
  (.seq
  (.region [] [⟨some 39, AOp.mov (AX.t 0), none⟩,
    ⟨some 40, AOp.mov (AX.t 5), none⟩,
    ⟨some 41, AOp.slice (some 32) (AX.t 39) none (some (AX.t 40)) none, none⟩,
    ⟨some 4, AOp.mov (AX.t 41), none⟩] [4])
  AC.ret))))))⟩

def a26 : AF := ⟨[ARes.t 3],
  (.seq
  (.region [] [⟨some 2, AOp.boxL 32 (AX.t 0), none⟩,
    ⟨some 3, AOp.mov (AX.c (AV.bool false)), none⟩] [1, 2])
  (.seq
  (.region [] [⟨some 4, AOp.loadL true 32 (AX.t 2), none⟩,
    ⟨some 5, AOp.load true 32 (AX.t 1), none⟩,
    ⟨some 6, AOp.eql false true [CK.i, CK.i, CK.i, CK.i, CK.i, CK.i, CK.i, CK.i, CK.i, CK.i, CK.i, CK.i, CK.i, CK.i, CK.i, CK.i, CK.i, CK.i, CK.i, CK.i, CK.i, CK.i, CK.i, CK.i, CK.i, CK.i, CK.i, CK.i, CK.i, CK.i, CK.i, CK.i] (AX.t 4) (AX.t 5), none⟩,
    ⟨some 3, AOp.mov (AX.t 6), none⟩] [3])
  AC.ret))⟩

def a27 : AF := ⟨[],
  (.seq
  (.region [] [⟨some 5, AOp.mov (AX.t 0), none⟩,
    ⟨some 6, AOp.lenS (AX.t 5), none⟩,
    ⟨some 4, AOp.mov (AX.t 6), none⟩] [0, 1, 4])
  (.region [] [⟨some 7, AOp.mov (AX.t 0), none⟩,
    ⟨some 8, AOp.mov (AX.t 4), none⟩,
    ⟨some 9, AOp.mov (AX.t 4), none⟩,
    ⟨some 10, AOp.convI (IntKind.u64) (AX.t 9), none⟩,
    ⟨some 11, AOp.call 33 [AX.t 10], none⟩,
    ⟨some 12, AOp.mov (AX.t 1), none⟩,
    ⟨some 13, AOp.call 32 [AX.t 7, AX.c (AV.int (IntKind.i64) 0), AX.t 8, AX.t 11, AX.t 12], none⟩] []))⟩

def a28 : AF := ⟨[ARes.t 5],
  (.seq
  (.region [] [⟨some 3, AOp.boxL 32 (AX.t 0), none⟩,
    ⟨some 4, AOp.boxL 32 (AX.t 1), none⟩,
    ⟨some 5, AOp.mov (AX.c (AV.int (IntKind.i64) 0)), none⟩] [2, 3, 4])
  (.seq
  (.block 0
    (.seq
    (.region [0, 1, 2, 3, 4, 5, 6, 7] [⟨some 7, AOp.load false 1 (AX.t 2), none⟩,
      ⟨some 8, AOp.loadL true 32 (AX.t 3), none⟩,
      ⟨some 9, AOp.lookup true [CK.i, CK.i, CK.i, CK.i, CK.i, CK.i, CK.i, CK.i, CK.i, CK.i, CK.i, CK.i, CK.i, CK.i, CK.i, CK.i, CK.i, CK.i, CK.i, CK.i, CK.i, CK.i, CK.i, CK.i, CK.i, CK.i, CK.i, CK.i, CK.i, CK.i, CK.i, CK.i] (AV.int (IntKind.i64) 0) false (AX.t 7) (AX.t 8), none⟩,
      ⟨some 10, AOp.load false 1 (AX.t 2), none⟩,
      ⟨some 11, AOp.loadL true 32 (AX.t 4), none⟩,
      ⟨some 12, AOp.lookup true [CK.i, CK.i, CK.i, CK.i, CK.i, CK.i, CK.i, CK.i, CK.i, CK.i, CK.i, CK.i, CK.i, CK.i, CK.i, CK.i, CK.i, CK.i, CK.i, CK.i, CK.i, CK.i, CK.i, CK.i, CK.i, CK.i, CK.i, CK.i, CK.i, CK.i, CK.i, CK.i] (AV.int (IntKind.i64) 0) false (AX.t 10) (AX.t 11), none⟩,
      ⟨some 13, AOp.bin (BinOp.neq) (AX.t 9) (AX.t 12), none⟩,
      ⟨some 6, AOp.mov (AX.t 13), none⟩] [2, 3, 4, 6])
    (.cond (AX.t 6)
      (.seq
      (.region [0, 1, 2, 3, 4, 5, 6, 7] [⟨some 14, AOp.load false 1 (AX.t 2), none⟩,
        ⟨some 15, AOp.loadL true 32 (AX.t 4), none⟩,
        ⟨some 16, AOp.lookup true [CK.i, CK.i, CK.i, CK.i, CK.i, CK.i, CK.i, CK.i, CK.i, CK.i, CK.i, CK.i, CK.i, CK.i, CK.i, CK.i, CK.i, CK.i, CK.i, CK.i, CK.i, CK.i, CK.i, CK.i, CK.i, CK.i, CK.i, CK.i, CK.i, CK.i, CK.i, CK.i] (AV.int (IntKind.i64) 0) false (AX.t 14) (AX.t 15), none⟩,
        ⟨some 17, AOp.load false 1 (AX.t 2), none⟩,
        ⟨some 18, AOp.loadL true 32 (AX.t 3), none⟩,
        ⟨some 19, AOp.lookup true [CK.i, CK.i, CK.i, CK.i, CK.i, CK.i, CK.i, CK.i, CK.i, CK.i, CK.i, CK.i, CK.i, CK.i, CK.i, CK.i, CK.i, CK.i, CK.i, CK.i, CK.i, CK.i, CK.i, CK.i, CK.i, CK.i, CK.i, CK.i, CK.i, CK.i, CK.i, CK.i] (AV.int (IntKind.i64) 0) false (AX.t 17) (AX.t 18), none⟩,
        ⟨some 20, AOp.bin (BinOp.sub) (AX.t 16) (AX.t 19), none⟩,
        ⟨some 5, AOp.mov (AX.t 20), none⟩] [5])
      AC.ret)
      (.seq
      (.region [] [⟨some 22, AOp.loadL true 32 (AX.t 3), none⟩,
        ⟨some 23, AOp.loadL true 32 (AX.t 4), none⟩,
        ⟨some 24, AOp.callP 29 [AX.t 22, AX.t 23], none⟩,
        ⟨some 21, AOp.mov (AX.t 24), none⟩] [21])
      (.cond (AX.t 21)
        (.seq
        (.region [] [⟨some 5, AOp.mov (AX.c (AV.int (IntKind.i64) (-1))), none⟩] [5])
        AC.ret)
        AC.skip)))))
  (.seq
  (.region [] [⟨some 5, AOp.mov (AX.c (AV.int (IntKind.i64) 1)), none⟩] [5])
  AC.ret)))⟩

def a29 : AF := ⟨[ARes.t 4],
  (.seq
  (.region [] [⟨some 2, AOp.boxL 32 (AX.t 0), none⟩,
    ⟨some 3, AOp.boxL 32 (AX.t 1), none⟩,
    ⟨some 4, AOp.mov (AX.c (AV.bool false)), none⟩] [2, 3])
  (.seq
  (.region [0, 1, 2, 3, 4, 5] [⟨some 5, AOp.sliceA 32 1 (AX.t 2) none none, none⟩,
    ⟨some 6, AOp.bytesToStr (AX.t 5), none⟩,
    ⟨some 7, AOp.sliceA 32 1 (AX.t 3) none none, none⟩,
    ⟨some 8, AOp.bytesToStr (AX.t 7), none⟩,
    ⟨some 9, AOp.bin (BinOp.lss) (AX.t 6) (AX.t 8), none⟩,
    ⟨some 4, AOp.mov (AX.t 9), none⟩] [4])
  AC.ret))⟩

def a30 : AF := ⟨[ARes.t 4],
  (.seq
  (.region [] [⟨some 2, AOp.boxL 32 (AX.t 0), none⟩,
    ⟨some 3, AOp.boxL 32 (AX.t 1), none⟩,
    ⟨some 4, AOp.mov (AX.c (AV.bool false)), none⟩] [2, 3])
  (.seq
  (.seq
  (.region [] [⟨some 5, AOp.mov (AX.c (AV.int (IntKind.i64) 0)), none⟩] [2, 3, 5])
  (.block 0
    (.loop
      (.seq
      (.seq
      (.region [] [⟨some 6, AOp.mov (AX.t 5), none⟩,
        ⟨some 7, AOp.bin (BinOp.lss) (AX.t 6) (AX.c (AV.int (IntKind.i64) 32)), none⟩] [2, 3, 5, 7])
      (.cond (AX.t 7)
        AC.skip
        (.exit 0)))
      (.seq
      (.block 1
        (.seq
        (.region [0, 1, 2, 3, 4, 5, 6] [⟨some 10, AOp.mov (AX.t 5), none⟩,
          ⟨some 11, AOp.indexA 32 1 false (AX.t 2) (AX.t 10), none⟩,
          ⟨some 12, AOp.loadL false 1 (AX.t 11), none⟩,
          ⟨some 13, AOp.mov (AX.t 5), none⟩,
          ⟨some 14, AOp.indexA 32 1 false (AX.t 3) (AX.t 13), none⟩,
          ⟨some 15, AOp.loadL false 1 (AX.t 14), none⟩,
          ⟨some 16, AOp.bin (BinOp.neq) (AX.t 12) (AX.t 15), none⟩] [2, 3, 5, 16])
        (.cond (AX.t 16)
          (.seq
          (.region [0, 1, 2, 3, 4, 5, 6, 7] [⟨some 17, AOp.mov (AX.t 5), none⟩,
            ⟨some 18, AOp.indexA 32 1 false (AX.t 2) (AX.t 17), none⟩,
            ⟨some 19, AOp.loadL false 1 (AX.t 18), none⟩,
            ⟨some 20, AOp.mov (AX.t 5), none⟩,
            ⟨some 21, AOp.indexA 32 1 false (AX.t 3) (AX.t 20), none⟩,
            ⟨some 22, AOp.loadL false 1 (AX.t 21), none⟩,
            ⟨some 23, AOp.bin (BinOp.lss) (AX.t 19) (AX.t 22), none⟩,
            ⟨some 4, AOp.mov (AX.t 23), none⟩] [4])
          AC.ret)
          AC.skip)))
      (.region [] [⟨some 8, AOp.mov (AX.t 5), none⟩,
        ⟨some 9, AOp.bin (BinOp.add) (AX.t 8) (AX.c (AV.int (IntKind.i64) 1)), none⟩,
        ⟨some 5, AOp.mov (AX.t 9), none⟩] [2, 3, 5]))))))
  (.seq
  (.region [] [⟨some 4, AOp.mov (AX.c (AV.bool false)), none⟩] [4])
  AC.ret)))⟩

def a31 : AF := ⟨[ARes.t 4],
  (.seq
  (.region [] [⟨some 4, AOp.mov (AX.c (AV.int (IntKind.i64) 0)), none⟩] [0, 1])
  (.seq
  (.seq
  (.region [] [⟨some 6, AOp.mov (AX.t 0), none⟩,
    ⟨some 7, AOp.lenS (AX.t 6), none⟩,
    ⟨some 8, AOp.mov (AX.c (AV.int (IntKind.i64) 0)), none⟩] [0, 1, 7, 8])
  (.block 0
    (.loop
      (.seq
      (.region [] [⟨some 9, AOp.bin (BinOp.lss) (AX.t 8) (AX.t 7), none⟩] [0, 1, 7, 8, 9])
      (.seq
      (.cond (AX.t 9)
        AC.skip
        (.exit 0))
      (.seq
      (.block 1
        (.seq
        (.region [] [⟨some 10, AOp.mov (AX.t 8), none⟩,
          ⟨some 5, AOp.mov (AX.t 10), none⟩] [0, 1, 5, 7, 8])
        (.seq
        (.region [] [⟨some 11, AOp.mov (AX.t 1), none⟩,
          ⟨some 12, AOp.mov (AX.t 0), none⟩,
          ⟨some 13, AOp.mov (AX.t 5), none⟩,
          ⟨some 14, AOp.indexS 32 (AX.t 12) (AX.t 13), none⟩,
          ⟨some 15, AOp.load true 32 (AX.t 14), none⟩,
          ⟨some 16, AOp.callV (AX.t 11) [AX.t 15], none⟩] [0, 1, 5, 7, 8, 16])
        (.cond (AX.t 16)
          (.seq
          (.region [] [⟨some 17, AOp.mov (AX.t 5), none⟩,
            ⟨some 4, AOp.mov (AX.t 17), none⟩] [4])
          AC.ret)
          AC.skip))))
      (.region [] [⟨some 18, AOp.bin (BinOp.add) (AX.t 8) (AX.c (AV.int (IntKind.i64) 1)), none⟩,
        ⟨some 8, AOp.mov (AX.t 18), none⟩] [0, 1, 7, 8])))))))
  (.seq
  (.region [] [⟨some 4, AOp.mov (AX.c (AV.int (IntKind.i64) (-1))), none⟩] [4])
  AC.ret)))⟩

def a32 : AF := ⟨[],
  (.seq
  (.region [] [⟨some 10, AOp.mov (AX.c (AV.bool true)), none⟩] [0, 1, 2, 3, 4, 10])
  (.seq
  (.region [] [⟨some 11, AOp.mov (AX.c (AV.bool true)), none⟩] [0, 1, 2, 3, 4, 10, 11])
  (.block 0
    (.loop
      (.block 1
        (.seq
        (.region [] [⟨some 21, AOp.mov (AX.t 2), none⟩,
          ⟨some 22, AOp.mov (AX.t 1), none⟩,
          ⟨some 23, AOp.bin (BinOp.sub) (AX.t 21) (AX.t 22), none⟩,
          ⟨some 12, AOp.mov (AX.t 23), none⟩] [0, 1, 2, 3, 4, 10, 11, 12])
        (.seq
        (.seq
        (.region [] [⟨some 24, AOp.mov (AX.t 12), none⟩,
          ⟨some 25, AOp.bin (BinOp.leq) (AX.t 24) (AX.c (AV.int (IntKind.i64) 12)), none⟩] [0, 1, 2, 3, 4, 10, 11, 12, 25])
        (.cond (AX.t 25)
          (.seq
          (.region [] [⟨some 26, AOp.mov (AX.t 0), none⟩,
            ⟨some 27, AOp.mov (AX.t 1), none⟩,
            ⟨some 28, AOp.mov (AX.t 2), none⟩,
            ⟨some 29, AOp.mov (AX.t 4), none⟩,
            ⟨some 30, AOp.call 34 [AX.t 26, AX.t 27, AX.t 28, AX.t 29], none⟩] [])
          AC.ret)
          AC.skip))
        (.seq
        (.seq
        (.region [] [⟨some 31, AOp.mov (AX.t 3), none⟩,
          ⟨some 32, AOp.bin (BinOp.eql) (AX.t 31) (AX.c (AV.int (IntKind.i64) 0)), none⟩] [0, 1, 2, 3, 4, 10, 11, 12, 32])
        (.cond (AX.t 32)
          (.seq
          (.region [] [⟨some 33, AOp.mov (AX.t 0), none⟩,
            ⟨some 34, AOp.mov (AX.t 1), none⟩,
            ⟨some 35, AOp.mov (AX.t 2), none⟩,
            ⟨some 36, AOp.mov (AX.t 4), none⟩,
            ⟨some 37, AOp.call 35 [AX.t 33, AX.t 34, AX.t 35, AX.t 36], none⟩] [])
          AC.ret)
          AC.skip))
        (.seq
        (.seq
        (.region [] [⟨some 38, AOp.mov (AX.t 10), none⟩,
          ⟨some 39, AOp.un (UnOp.not) (AX.t 38), none⟩] [0, 1, 2, 3, 4, 10, 11, 12, 39])
        (.cond (AX.t 39)
          (.seq
          (.region [] [⟨some 40, AOp.mov (AX.t 0), none⟩,
            ⟨some 41, AOp.mov (AX.t 1), none⟩,
            ⟨some 42, AOp.mov (AX.t 2), none⟩,
            ⟨some 43, AOp.mov (AX.t 4), none⟩,
            ⟨some 44, AOp.call 36 [AX.t 40, AX.t 41, AX.t 42, AX.t 43], none⟩] [0, 1, 2, 3, 4, 10, 11, 12])
          (.region [] [⟨some 45, AOp.mov (AX.t 3), none⟩,
            ⟨some 46, AOp.bin (BinOp.sub) (AX.t 45) (AX.c (AV.int (IntKind.i64) 1)), none⟩,
            ⟨some 3, AOp.mov (AX.t 46), none⟩] [0, 1, 2, 3, 4, 10, 11, 12]))
          AC.skip))
        (.seq
        (.region [] [⟨some 48, AOp.mov (AX.t 0), none⟩,
          ⟨some 49, AOp.mov (AX.t 1), none⟩,
          ⟨some 50, AOp.mov (AX.t 2), none⟩,
          ⟨some 51, AOp.mov (AX.t 4), none⟩,
          ⟨some 52, AOp.call 37 [AX.t 48, AX.t 49, AX.t 50, AX.t 51], none⟩,
          ⟨some 47, AOp.mov (AX.t 52), none⟩,
          ⟨some 53, AOp.extract (AX.t 47) 0, none⟩,
          ⟨some 54, AOp.extract (AX.t 47) 1, none⟩,
          ⟨some 13, AOp.mov (AX.t 53), none⟩,
          ⟨some 14, AOp.mov (AX.t 54), none⟩] [0, 1, 2, 3, 4, 10, 11, 12, 13, 14])
        (.seq
        (.seq
        (.region [] [⟨some 55, AOp.mov (AX.t 14), none⟩,
          ⟨some 56, AOp.bin (BinOp.eql) (AX.t 55) (AX.c (AV.int (IntKind.i64) 2)), none⟩] [0, 1, 2, 3, 4, 10, 11, 12, 13, 14, 56])
        (.cond (AX.t 56)
          (.seq
          (.region [] [⟨some 57, AOp.mov (AX.t 0), none⟩,
            ⟨some 58, AOp.mov (AX.t 1), none⟩,
            ⟨some 59, AOp.mov (AX.t 2), none⟩,
            ⟨some 60, AOp.mov (AX.t 4), none⟩,
            ⟨some 61, AOp.call 38 [AX.t 57, AX.t 58, AX.t 59, AX.t 60], none⟩] [0, 1, 2, 3, 4, 10, 11, 12, 13])
          (.seq
          (.region [] [⟨some 62, AOp.mov (AX.t 2), none⟩,
            ⟨some 63, AOp.bin (BinOp.sub) (AX.t 62) (AX.c (AV.int (IntKind.i64) 1)), none⟩,
            ⟨some 64, AOp.mov (AX.t 13), none⟩,
            ⟨some 65, AOp.mov (AX.t 1), none⟩,
            ⟨some 66, AOp.bin (BinOp.sub) (AX.t 64) (AX.t 65), none⟩,
            ⟨some 67, AOp.bin (BinOp.sub) (AX.t 63) (AX.t 66), none⟩,
            ⟨some 13, AOp.mov (AX.t 67), none⟩] [0, 1, 2, 3, 4, 10, 11, 12, 13])
          (.region [] [⟨some 14, AOp.mov (AX.c (AV.int (IntKind.i64) 1)), none⟩] [0, 1, 2, 3, 4, 10, 11, 12, 13, 14])))
          AC.skip))
        (.seq
        (.seq
        (.region [] [⟨some 68, AOp.mov (AX.t 10), none⟩,
          ⟨some 69, AOp.mov (AX.t 68), none⟩,
          ⟨some 70, AOp.mov (AX.t 11), some (69, true)⟩,
          ⟨some 71, AOp.pick (AX.t 69) (AX.t 70) (AX.c (AV.bool false)), none⟩,
          ⟨some 72, AOp.mov (AX.t 71), none⟩,
          ⟨some 73, AOp.mov (AX.t 14), some (72, true)⟩,
          ⟨some 74, AOp.bin (BinOp.eql) (AX.t 73) (AX.c (AV.int (IntKind.i64) 1)), some (72, true)⟩,
          ⟨some 75, AOp.pick (AX.t 72) (AX.t 74) (AX.c (AV.bool false)), none⟩] [0, 1, 2, 3, 4, 10, 11, 12, 13, 75])
        (.cond (AX.t 75)
          (.seq
          (.region [] [⟨some 76, AOp.mov (AX.t 0), none⟩,
            ⟨some 77, AOp.mov (AX.t 1), none⟩,
            ⟨some 78, AOp.mov (AX.t 2), none⟩,
            ⟨some 79, AOp.mov (AX.t 4), none⟩,
            ⟨some 80, AOp.call 39 [AX.t 76, AX.t 77, AX.t 78, AX.t 79], none⟩] [0, 1, 2, 3, 4, 10, 11, 12, 13, 80])
          (.cond (AX.t 80)
            AC.ret
            AC.skip))
          AC.skip))
        (.seq
        (.seq
        (.region [0, 1, 2, 3, 4, 5, 6, 7, 8, 9, 10, 11, 12, 13, 14, 15, 16] [⟨some 81, AOp.mov (AX.t 1), none⟩,
          ⟨some 82, AOp.bin (BinOp.gtr) (AX.t 81) (AX.c (AV.int (IntKind.i64) 0)), none⟩,
          ⟨some 83, AOp.mov (AX.t 82), none⟩,
          ⟨some 84, AOp.mov (AX.t 4), some (83, true)⟩,
          ⟨some 85, AOp.mov (AX.t 0), some (83, true)⟩,
          ⟨some 86, AOp.mov (AX.t 1), some (83, true)⟩,
          ⟨some 87, AOp.bin (BinOp.sub) (AX.t 86) (AX.c (AV.int (IntKind.i64) 1)), some (83, true)⟩,
          ⟨some 88, AOp.indexS 32 (AX.t 85) (AX.t 87), some (83, true)⟩,
          ⟨some 89, AOp.load true 32 (AX.t 88), some (83, true)⟩,
          ⟨some 90, AOp.mov (AX.t 0), some (83, true)⟩,
          ⟨some 91, AOp.mov (AX.t 13), some (83, true)⟩,
          ⟨some 92, AOp.indexS 32 (AX.t 90) (AX.t 91), some (83, true)⟩,
          ⟨some 93, AOp.load true 32 (AX.t 92), some (83, true)⟩,
          ⟨some 94, AOp.callV (AX.t 84) [AX.t 89, AX.t 93], some (83, true)⟩,
          ⟨some 95, AOp.bin (BinOp.lss) (AX.t 94) (AX.c (AV.int (IntKind.i64) 0)), some (83, true)⟩,
          ⟨some 96, AOp.un (UnOp.not) (AX.t 95), some (83, true)⟩,
          ⟨some 97, AOp.pick (AX.t 83) (AX.t 96) (AX.c (AV.bool false)), none⟩] [0, 1, 2, 3, 4, 10, 11, 12, 13, 97])
        (.cond (AX.t 97)
          (.seq
          (.region [] [⟨some 98, AOp.mov (AX.t 0), none⟩,
            ⟨some 99, AOp.mov (AX.t 1), none⟩,
            ⟨some 100, AOp.mov (AX.t 2), none⟩,
            ⟨some 101, AOp.mov (AX.t 13), none⟩,
            ⟨some 102, AOp.mov (AX.t 4), none⟩,
            ⟨some 103, AOp.call 40 [AX.t 98, AX.t 99, AX.t 100, AX.t 101, AX.t 102], none⟩,
            ⟨some 15, AOp.mov (AX.t 103), none⟩] [0, 2, 3, 4, 10, 11, 15])
          (.seq
          (.region [] [⟨some 104, AOp.mov (AX.t 15), none⟩,
            ⟨some 1, AOp.mov (AX.t 104), none⟩] [0, 1, 2, 3, 4, 10, 11])
          (.exit 1)))
          AC.skip))
        (.seq
        (.region [] [⟨some 106, AOp.mov (AX.t 0), none⟩,
          ⟨some 107, AOp.mov (AX.t 1), none⟩,
          ⟨some 108, AOp.mov (AX.t 2), none⟩,
          ⟨some 109, AOp.mov (AX.t 13), none⟩,
          ⟨some 110, AOp.mov (AX.t 4), none⟩,
          ⟨some 111, AOp.call 41 [AX.t 106, AX.t 107, AX.t 108, AX.t 109, AX.t 110], none⟩,
          ⟨some 105, AOp.mov (AX.t 111), none⟩,
          ⟨some 112, AOp.extract (AX.t 105) 0, none⟩,
          ⟨some 113, AOp.extract (AX.t 105) 1, none⟩,
          ⟨some 16, AOp.mov (AX.t 112), none⟩,
          ⟨some 17, AOp.mov (AX.t 113), none⟩] [0, 1, 2, 3, 4, 12, 16, 17])
        (.seq
        (.region [] [⟨some 114, AOp.mov (AX.t 17), none⟩,
          ⟨some 11, AOp.mov (AX.t 114), none⟩] [0, 1, 2, 3, 4, 11, 12, 16])
        (.seq
        (.region [] [⟨some 115, AOp.mov (AX.t 16), none⟩,
          ⟨some 116, AOp.mov (AX.t 1), none⟩,
          ⟨some 117, AOp.bin (BinOp.sub) (AX.t 115) (AX.t 116), none⟩,
          ⟨some 118, AOp.mov (AX.t 2), none⟩,
          ⟨some 119, AOp.mov (AX.t 16), none⟩,
          ⟨some 120, AOp.bin (BinOp.sub) (AX.t 118) (AX.t 119), none⟩,
          ⟨some 18, AOp.mov (AX.t 117), none⟩,
          ⟨some 19, AOp.mov (AX.t 120), none⟩] [0, 1, 2, 3, 4, 11, 12, 16, 18, 19])
        (.seq
        (.region [] [⟨some 121, AOp.mov (AX.t 12), none⟩,
          ⟨some 122, AOp.bin (BinOp.quo) (AX.t 121) (AX.c (AV.int (IntKind.i64) 8)), none⟩,
          ⟨some 20, AOp.mov (AX.t 122), none⟩] [0, 1, 2, 3, 4, 11, 16, 18, 19, 20])
        (.seq
        (.region [] [⟨some 123, AOp.mov (AX.t 18), none⟩,
          ⟨some 124, AOp.mov (AX.t 19), none⟩,
          ⟨some 125, AOp.bin (BinOp.lss) (AX.t 123) (AX.t 124), none⟩] [0, 1, 2, 3, 4, 11, 16, 18, 19, 20, 125])
        (.cond (AX.t 125)
          (.seq
          (.region [] [⟨some 126, AOp.mov (AX.t 18), none⟩,
            ⟨some 127, AOp.mov (AX.t 20), none⟩,
            ⟨some 128, AOp.bin (BinOp.geq) (AX.t 126) (AX.t 127), none⟩,
            ⟨some 10, AOp.mov (AX.t 128), none⟩] [0, 1, 2, 3, 4, 10, 11, 16])
          (.seq
          (.region [] [⟨some 129, AOp.mov (AX.t 0), none⟩,
            ⟨some 130, AOp.mov (AX.t 1), none⟩,
            ⟨some 131, AOp.mov (AX.t 16), none⟩,
            ⟨some 132, AOp.mov (AX.t 3), none⟩,
            ⟨some 133, AOp.mov (AX.t 4), none⟩,
            ⟨some 134, AOp.call 32 [AX.t 129, AX.t 130, AX.t 131, AX.t 132, AX.t 133], none⟩] [0, 2, 3, 4, 10, 11, 16])
          (.region [] [⟨some 135, AOp.mov (AX.t 16), none⟩,
            ⟨some 136, AOp.bin (BinOp.add) (AX.t 135) (AX.c (AV.int (IntKind.i64) 1)), none⟩,
            ⟨some 1, AOp.mov (AX.t 136), none⟩] [0, 1, 2, 3, 4, 10, 11])))
          (.seq
          (.region [] [⟨some 137, AOp.mov (AX.t 19), none⟩,
            ⟨some 138, AOp.mov (AX.t 20), none⟩,
            ⟨some 139, AOp.bin (BinOp.geq) (AX.t 137) (AX.t 138), none⟩,
            ⟨some 10, AOp.mov (AX.t 139), none⟩] [0, 1, 2, 3, 4, 10, 11, 16])
          (.seq
          (.region [] [⟨some 140, AOp.mov (AX.t 0), none⟩,
            ⟨some 141, AOp.mov (AX.t 16), none⟩,
            ⟨some 142, AOp.bin (BinOp.add) (AX.t 141) (AX.c (AV.int (IntKind.i64) 1)), none⟩,
            ⟨some 143, AOp.mov (AX.t 2), none⟩,
            ⟨some 144, AOp.mov (AX.t 3), none⟩,
            ⟨some 145, AOp.mov (AX.t 4), none⟩,
            ⟨some 146, AOp.call 32 [AX.t 140, AX.t 142, AX.t 143, AX.t 144, AX.t 145], none⟩] [0, 1, 3, 4, 10, 11, 16])
          (.region [] [⟨some 147, AOp.mov (AX.t 16), none⟩,
            ⟨some 2, AOp.mov (AX.t 147), none⟩] [0, 1, 2, 3, 4, 10, 11]))))))))))))))))))))))⟩

def a33 : AF := ⟨[ARes.t 2],
  (.seq
  (.region [] [⟨some 2, AOp.mov (AX.c (AV.int (IntKind.i64) 0)), none⟩] [0])
  (.seq
  (.cond (AX.c (AV.bool false))
    (.seq
    (.region [] [⟨some 3, AOp.mov (AX.t 0), none⟩,
      ⟨some 4, AOp.convI (IntKind.u32) (AX.t 3), none⟩,
      ⟨some 5, AOp.call 42 [AX.t 4], none⟩,
      ⟨some 2, AOp.mov (AX.t 5), none⟩] [2])
    AC.ret)
    AC.skip)
  (.seq
  (.region [] [⟨some 6, AOp.mov (AX.t 0), none⟩,
    ⟨some 7, AOp.call 43 [AX.t 6], none⟩,
    ⟨some 2, AOp.mov (AX.t 7), none⟩] [2])
  AC.ret)))⟩

def a34 : AF := ⟨[],
  (.seq
  (.region [] [⟨some 10, AOp.mov (AX.t 1), none⟩,
    ⟨some 11, AOp.bin (BinOp.add) (AX.t 10) (AX.c (AV.int (IntKind.i64) 1)), none⟩,
    ⟨some 8, AOp.mov (AX.t 11), none⟩] [0, 1, 2, 3, 8])
  (.block 0
    (.loop
      (.seq
      (.seq
      (.region [] [⟨some 12, AOp.mov (AX.t 8), none⟩,
        ⟨some 13, AOp.mov (AX.t 2), none⟩,
        ⟨some 14, AOp.bin (BinOp.lss) (AX.t 12) (AX.t 13), none⟩] [0, 1, 2, 3, 8, 14])
      (.cond (AX.t 14)
        AC.skip
        (.exit 0)))
      (.seq
      (.block 1
        (.seq
        (.region [] [⟨some 17, AOp.mov (AX.t 8), none⟩,
          ⟨some 9, AOp.mov (AX.t 17), none⟩] [0, 1, 2, 3, 8, 9])
        (.block 2
          (.loop
            (.seq
            (.seq
            (.region [0, 1, 2, 3, 4, 5, 6, 7, 8, 9, 10, 11, 12, 13, 14, 15, 16] [⟨some 18, AOp.mov (AX.t 9), none⟩,
              ⟨some 19, AOp.mov (AX.t 1), none⟩,
              ⟨some 20, AOp.bin (BinOp.gtr) (AX.t 18) (AX.t 19), none⟩,
              ⟨some 21, AOp.mov (AX.t 20), none⟩,
              ⟨some 22, AOp.mov (AX.t 3), some (21, true)⟩,
              ⟨some 23, AOp.mov (AX.t 0), some (21, true)⟩,
              ⟨some 24, AOp.mov (AX.t 9), some (21, true)⟩,
              ⟨some 25, AOp.indexS 32 (AX.t 23) (AX.t 24), some (21, true)⟩,
              ⟨some 26, AOp.load true 32 (AX.t 25), some (21, true)⟩,
              ⟨some 27, AOp.mov (AX.t 0), some (21, true)⟩,
              ⟨some 28, AOp.mov (AX.t 9), some (21, true)⟩,
              ⟨some 29, AOp.bin (BinOp.sub) (AX.t 28) (AX.c (AV.int (IntKind.i64) 1)), some (21, true)⟩,
              ⟨some 30, AOp.indexS 32 (AX.t 27) (AX.t 29), some (21, true)⟩,
              ⟨some 31, AOp.load true 32 (AX.t 30), some (21, true)⟩,
              ⟨some 32, AOp.callV (AX.t 22) [AX.t 26, AX.t 31], some (21, true)⟩,
              ⟨some 33, AOp.bin (BinOp.lss) (AX.t 32) (AX.c (AV.int (IntKind.i64) 0)), some (21, true)⟩,
              ⟨some 34, AOp.pick (AX.t 21) (AX.t 33) (AX.c (AV.bool false)), none⟩] [0, 1, 2, 3, 8, 9, 34])
            (.cond (AX.t 34)
              AC.skip
              (.exit 2)))
            (.seq
            (.block 3
              (.region [0, 1, 2, 3, 4, 5, 6, 7, 8, 9, 10, 11, 12, 13, 14, 15, 16, 17] [⟨some 37, AOp.mov (AX.t 0), none⟩,
                ⟨some 38, AOp.mov (AX.t 9), none⟩,
                ⟨some 39, AOp.mov (AX.t 0), none⟩,
                ⟨some 40, AOp.mov (AX.t 9), none⟩,
                ⟨some 41, AOp.bin (BinOp.sub) (AX.t 40) (AX.c (AV.int (IntKind.i64) 1)), none⟩,
                ⟨some 42, AOp.mov (AX.t 0), none⟩,
                ⟨some 43, AOp.mov (AX.t 9), none⟩,
                ⟨some 44, AOp.bin (BinOp.sub) (AX.t 43) (AX.c (AV.int (IntKind.i64) 1)), none⟩,
                ⟨some 45, AOp.indexS 32 (AX.t 42) (AX.t 44), none⟩,
                ⟨some 46, AOp.load true 32 (AX.t 45), none⟩,
                ⟨some 47, AOp.mov (AX.t 0), none⟩,
                ⟨some 48, AOp.mov (AX.t 9), none⟩,
                ⟨some 49, AOp.indexS 32 (AX.t 47) (AX.t 48), none⟩,
                ⟨some 50, AOp.load true 32 (AX.t 49), none⟩,
                ⟨some 51, AOp.indexS 32 (AX.t 37) (AX.t 38), none⟩,
                ⟨none, AOp.store 32 (AX.t 51) (AX.t 46), none⟩,
                ⟨some 52, AOp.indexS 32 (AX.t 39) (AX.t 41), none⟩,
                ⟨none, AOp.store 32 (AX.t 52) (AX.t 50), none⟩] [0, 1, 2, 3, 8, 9]))
            (.region [] [⟨some 35, AOp.mov (AX.t 9), none⟩,
              ⟨some 36, AOp.bin (BinOp.sub) (AX.t 35) (AX.c (AV.int (IntKind.i64) 1)), none⟩,
              ⟨some 9, AOp.mov (AX.t 36), none⟩] [0, 1, 2, 3, 8, 9])))))))
      (.region [] [⟨some 15, AOp.mov (AX.t 8), none⟩,
        ⟨some 16, AOp.bin (BinOp.add) (AX.t 15) (AX.c (AV.int (IntKind.i64) 1)), none⟩,
        ⟨some 8, AOp.mov (AX.t 16), none⟩] [0, 1, 2, 3, 8]))))))⟩

def a35 : AF := ⟨[],
  (.seq
  (.region [] [⟨some 13, AOp.mov (AX.t 1), none⟩,
    ⟨some 8, AOp.mov (AX.t 13), none⟩] [0, 1, 2, 3, 8])
  (.seq
  (.region [] [⟨some 9, AOp.mov (AX.c (AV.int (IntKind.i64) 0)), none⟩] [0, 1, 2, 3, 8, 9])
  (.seq
  (.region [] [⟨some 14, AOp.mov (AX.t 2), none⟩,
    ⟨some 15, AOp.mov (AX.t 1), none⟩,
    ⟨some 16, AOp.bin (BinOp.sub) (AX.t 14) (AX.t 15), none⟩,
    ⟨some 10, AOp.mov (AX.t 16), none⟩] [0, 3, 8, 9, 10])
  (.seq
  (.seq
  (.region [] [⟨some 17, AOp.mov (AX.t 10), none⟩,
    ⟨some 18, AOp.bin (BinOp.sub) (AX.t 17) (AX.c (AV.int (IntKind.i64) 1)), none⟩,
    ⟨some 19, AOp.bin (BinOp.quo) (AX.t 18) (AX.c (AV.int (IntKind.i64) 2)), none⟩,
    ⟨some 11, AOp.mov (AX.t 19), none⟩] [0, 3, 8, 9, 10, 11])
  (.block 0
    (.loop
      (.seq
      (.seq
      (.region [] [⟨some 20, AOp.mov (AX.t 11), none⟩,
        ⟨some 21, AOp.bin (BinOp.geq) (AX.t 20) (AX.c (AV.int (IntKind.i64) 0)), none⟩] [0, 3, 8, 9, 10, 11, 21])
      (.cond (AX.t 21)
        AC.skip
        (.exit 0)))
      (.seq
      (.block 1
        (.region [] [⟨some 24, AOp.mov (AX.t 0), none⟩,
          ⟨some 25, AOp.mov (AX.t 11), none⟩,
          ⟨some 26, AOp.mov (AX.t 10), none⟩,
          ⟨some 27, AOp.mov (AX.t 8), none⟩,
          ⟨some 28, AOp.mov (AX.t 3), none⟩,
          ⟨some 29, AOp.call 44 [AX.t 24, AX.t 25, AX.t 26, AX.t 27, AX.t 28], none⟩] [0, 3, 8, 9, 10, 11]))
      (.region [] [⟨some 22, AOp.mov (AX.t 11), none⟩,
        ⟨some 23, AOp.bin (BinOp.sub) (AX.t 22) (AX.c (AV.int (IntKind.i64) 1)), none⟩,
        ⟨some 11, AOp.mov (AX.t 23), none⟩] [0, 3, 8, 9, 10, 11]))))))
  (.seq
  (.region [] [⟨some 30, AOp.mov (AX.t 10), none⟩,
    ⟨some 31, AOp.bin (BinOp.sub) (AX.t 30) (AX.c (AV.int (IntKind.i64) 1)), none⟩,
    ⟨some 12, AOp.mov (AX.t 31), none⟩] [0, 3, 8, 9, 12])
  (.block 2
    (.loop
      (.seq
      (.seq
      (.region [] [⟨some 32, AOp.mov (AX.t 12), none⟩,
        ⟨some 33, AOp.bin (BinOp.geq) (AX.t 32) (AX.c (AV.int (IntKind.i64) 0)), none⟩] [0, 3, 8, 9, 12, 33])
      (.cond (AX.t 33)
        AC.skip
        (.exit 2)))
      (.seq
      (.block 3
        (.seq
        (.region [0, 1, 2, 3, 4, 5, 6, 7, 8, 9, 10, 11, 12, 13, 14, 15, 16, 17, 18, 19] [⟨some 36, AOp.mov (AX.t 0), none⟩,
          ⟨some 37, AOp.mov (AX.t 8), none⟩,
          ⟨some 38, AOp.mov (AX.t 0), none⟩,
          ⟨some 39, AOp.mov (AX.t 8), none⟩,
          ⟨some 40, AOp.mov (AX.t 12), none⟩,
          ⟨some 41, AOp.bin (BinOp.add) (AX.t 39) (AX.t 40), none⟩,
          ⟨some 42, AOp.mov (AX.t 0), none⟩,
          ⟨some 43, AOp.mov (AX.t 8), none⟩,
          ⟨some 44, AOp.mov (AX.t 12), none⟩,
          ⟨some 45, AOp.bin (BinOp.add) (AX.t 43) (AX.t 44), none⟩,
          ⟨some 46, AOp.indexS 32 (AX.t 42) (AX.t 45), none⟩,
          ⟨some 47, AOp.load true 32 (AX.t 46), none⟩,
          ⟨some 48, AOp.mov (AX.t 0), none⟩,
          ⟨some 49, AOp.mov (AX.t 8), none⟩,
          ⟨some 50, AOp.indexS 32 (AX.t 48) (AX.t 49), none⟩,
          ⟨some 51, AOp.load true 32 (AX.t 50), none⟩,
          ⟨some 52, AOp.indexS 32 (AX.t 36) (AX.t 37), none⟩,
          ⟨none, AOp.store 32 (AX.t 52) (AX.t 47), none⟩,
          ⟨some 53, AOp.indexS 32 (AX.t 38) (AX.t 41), none⟩,
          ⟨none, AOp.store 32 (AX.t 53) (AX.t 51), none⟩] [0, 3, 8, 9, 12])
        (.region [] [⟨some 54, AOp.mov (AX.t 0), none⟩,
          ⟨some 55, AOp.mov (AX.t 9), none⟩,
          ⟨some 56, AOp.mov (AX.t 12), none⟩,
          ⟨some 57, AOp.mov (AX.t 8), none⟩,
          ⟨some 58, AOp.mov (AX.t 3), none⟩,
          ⟨some 59, AOp.call 44 [AX.t 54, AX.t 55, AX.t 56, AX.t 57, AX.t 58], none⟩] [0, 3, 8, 9, 12])))
      (.region [] [⟨some 34, AOp.mov (AX.t 12), none⟩,
        ⟨some 35, AOp.bin (BinOp.sub) (AX.t 34) (AX.c (AV.int (IntKind.i64) 1)), none⟩,
        ⟨some 12, AOp.mov (AX.t 35), none⟩] [0, 3, 8, 9, 12]))))))))))⟩

def a36 : AF := ⟨[],
  (.seq
  (.region [] [⟨some 13, AOp.mov (AX.t 2), none⟩,
    ⟨some 14, AOp.mov (AX.t 1), none⟩,
    ⟨some 15, AOp.bin (BinOp.sub) (AX.t 13) (AX.t 14), none⟩,
    ⟨some 8, AOp.mov (AX.t 15), none⟩] [0, 1, 8])
  (.seq
  (.region [] [⟨some 16, AOp.mov (AX.t 8), none⟩,
    ⟨some 17, AOp.bin (BinOp.geq) (AX.t 16) (AX.c (AV.int (IntKind.i64) 8)), none⟩] [0, 1, 8, 17])
  (.cond (AX.t 17)
    (.seq
    (.region [] [⟨some 18, AOp.mov (AX.t 8), none⟩,
      ⟨some 19, AOp.convI (IntKind.u64) (AX.t 18), none⟩,
      ⟨some 9, AOp.allocH 1 (AV.int (IntKind.u64) 0), none⟩,
      ⟨none, AOp.store 1 (AX.t 9) (AX.t 19), none⟩] [0, 1, 8, 9])
    (.seq
    (.region [] [⟨some 20, AOp.mov (AX.t 8), none⟩,
      ⟨some 21, AOp.call 45 [AX.t 20], none⟩,
      ⟨some 10, AOp.mov (AX.t 21), none⟩] [0, 1, 8, 9, 10])
    (.seq
    (.region [] [⟨some 22, AOp.mov (AX.t 1), none⟩,
      ⟨some 23, AOp.mov (AX.t 8), none⟩,
      ⟨some 24, AOp.bin (BinOp.quo) (AX.t 23) (AX.c (AV.int (IntKind.i64) 4)), none⟩,
      ⟨some 25, AOp.bin (BinOp.mul) (AX.t 24) (AX.c (AV.int (IntKind.i64) 2)), none⟩,
      ⟨some 26, AOp.bin (BinOp.add) (AX.t 22) (AX.t 25), none⟩,
      ⟨some 27, AOp.bin (BinOp.sub) (AX.t 26) (AX.c (AV.int (IntKind.i64) 1)), none⟩,
      ⟨some 11, AOp.mov (AX.t 27), none⟩] [0, 1, 8, 9, 10, 11])
    (.block 0
      (.loop
        (.seq
        (.seq
        (.region [] [⟨some 28, AOp.mov (AX.t 11), none⟩,
          ⟨some 29, AOp.mov (AX.t 1), none⟩,
          ⟨some 30, AOp.mov (AX.t 8), none⟩,
          ⟨some 31, AOp.bin (BinOp.quo) (AX.t 30) (AX.c (AV.int (IntKind.i64) 4)), none⟩,
          ⟨some 32, AOp.bin (BinOp.mul) (AX.t 31) (AX.c (AV.int (IntKind.i64) 2)), none⟩,
          ⟨some 33, AOp.bin (BinOp.add) (AX.t 29) (AX.t 32), none⟩,
          ⟨some 34, AOp.bin (BinOp.add) (AX.t 33) (AX.c (AV.int (IntKind.i64) 1)), none⟩,
          ⟨some 35, AOp.bin (BinOp.leq) (AX.t 28) (AX.t 34), none⟩] [0, 1, 8, 9, 10, 11, 35])
        (.cond (AX.t 35)
          AC.skip
          (.exit 0)))
        (.seq
        (.block 1
          (.seq
          (.region [] [⟨some 38, AOp.call 46 [AX.t 9], none⟩,
            ⟨some 39, AOp.mov (AX.t 10), none⟩,
            ⟨some 40, AOp.bin (BinOp.sub) (AX.t 39) (AX.c (AV.int (IntKind.u64) 1)), none⟩,
            ⟨some 41, AOp.bin (BinOp.and) (AX.t 38) (AX.t 40), none⟩,
            ⟨some 42, AOp.convI (IntKind.i64) (AX.t 41), none⟩,
            ⟨some 12, AOp.mov (AX.t 42), none⟩] [0, 1, 8, 9, 10, 11, 12])
          (.seq
          (.seq
          (.region [] [⟨some 43, AOp.mov (AX.t 12), none⟩,
            ⟨some 44, AOp.mov (AX.t 8), none⟩,
            ⟨some 45, AOp.bin (BinOp.geq) (AX.t 43) (AX.t 44), none⟩] [0, 1, 8, 9, 10, 11, 12, 45])
          (.cond (AX.t 45)
            (.region [] [⟨some 46, AOp.mov (AX.t 12), none⟩,
              ⟨some 47, AOp.mov (AX.t 8), none⟩,
              ⟨some 48, AOp.bin (BinOp.sub) (AX.t 46) (AX.t 47), none⟩,
              ⟨some 12, AOp.mov (AX.t 48), none⟩] [0, 1, 8, 9, 10, 11, 12])
            AC.skip))
          (.region [0, 1, 2, 3, 4, 5, 6, 7, 8, 9, 10, 11, 12, 13, 14, 15, 16, 17, 18, 19] [⟨some 49, AOp.mov (AX.t 0), none⟩,
            ⟨some 50, AOp.mov (AX.t 11), none⟩,
            ⟨some 51, AOp.mov (AX.t 0), none⟩,
            ⟨some 52, AOp.mov (AX.t 1), none⟩,
            ⟨some 53, AOp.mov (AX.t 12), none⟩,
            ⟨some 54, AOp.bin (BinOp.add) (AX.t 52) (AX.t 53), none⟩,
            ⟨some 55, AOp.mov (AX.t 0), none⟩,
            ⟨some 56, AOp.mov (AX.t 1), none⟩,
            ⟨some 57, AOp.mov (AX.t 12), none⟩,
            ⟨some 58, AOp.bin (BinOp.add) (AX.t 56) (AX.t 57), none⟩,
            ⟨some 59, AOp.indexS 32 (AX.t 55) (AX.t 58), none⟩,
            ⟨some 60, AOp.load true 32 (AX.t 59), none⟩,
            ⟨some 61, AOp.mov (AX.t 0), none⟩,
            ⟨some 62, AOp.mov (AX.t 11), none⟩,
            ⟨some 63, AOp.indexS 32 (AX.t 61) (AX.t 62), none⟩,
            ⟨some 64, AOp.load true 32 (AX.t 63), none⟩,
            ⟨some 65, AOp.indexS 32 (AX.t 49) (AX.t 50), none⟩,
            ⟨none, AOp.store 32 (AX.t 65) (AX.t 60), none⟩,
            ⟨some 66, AOp.indexS 32 (AX.t 51) (AX.t 54), none⟩,
            ⟨none, AOp.store 32 (AX.t 66) (AX.t 64), none⟩] [0, 1, 8, 9, 10, 11]))))
        (.region [] [⟨some 36, AOp.mov (AX.t 11), none⟩,
          ⟨some 37, AOp.bin (BinOp.add) (AX.t 36) (AX.c (AV.int (IntKind.i64) 1)), none⟩,
          ⟨some 11, AOp.mov (AX.t 37), none⟩] [0, 1, 8, 9, 10, 11]))))))))
    AC.skip)))⟩

def a37 : AF := ⟨[ARes.t 8,ARes.t 9],
  (.seq
  (.region [] [⟨some 8, AOp.mov (AX.c (AV.int (IntKind.i64) 0)), none⟩,
    ⟨some 9, AOp.mov (AX.c (AV.int (IntKind.i64) 0)), none⟩] [0, 1, 2, 3])
  (.seq
  (.region [] [⟨some 15, AOp.mov (AX.t 2), none⟩,
    ⟨some 16, AOp.mov (AX.t 1), none⟩,
    ⟨some 17, AOp.bin (BinOp.sub) (AX.t 15) (AX.t 16), none⟩,
    ⟨some 10, AOp.mov (AX.t 17), none⟩] [0, 1, 3, 10])
  (.seq
  (.region [] [⟨some 11, AOp.allocH 1 (AV.int (IntKind.i64) 0), none⟩] [0, 1, 3, 10, 11])
  (.seq
  (.region [] [⟨some 18, AOp.mov (AX.t 1), none⟩,
    ⟨some 19, AOp.mov (AX.t 10), none⟩,
    ⟨some 20, AOp.bin (BinOp.quo) (AX.t 19) (AX.c (AV.int (IntKind.i64) 4)), none⟩,
    ⟨some 21, AOp.bin (BinOp.mul) (AX.t 20) (AX.c (AV.int (IntKind.i64) 1)), none⟩,
    ⟨some 22, AOp.bin (BinOp.add) (AX.t 18) (AX.t 21), none⟩,
    ⟨some 12, AOp.mov (AX.t 22), none⟩] [0, 1, 3, 10, 11, 12])
  (.seq
  (.region [] [⟨some 23, AOp.mov (AX.t 1), none⟩,
    ⟨some 24, AOp.mov (AX.t 10), none⟩,
    ⟨some 25, AOp.bin (BinOp.quo) (AX.t 24) (AX.c (AV.int (IntKind.i64) 4)), none⟩,
    ⟨some 26, AOp.bin (BinOp.mul) (AX.t 25) (AX.c (AV.int (IntKind.i64) 2)), none⟩,
    ⟨some 27, AOp.bin (BinOp.add) (AX.t 23) (AX.t 26), none⟩,
    ⟨some 13, AOp.mov (AX.t 27), none⟩] [0, 1, 3, 10, 11, 12, 13])
  (.seq
  (.region [] [⟨some 28, AOp.mov (AX.t 1), none⟩,
    ⟨some 29, AOp.mov (AX.t 10), none⟩,
    ⟨some 30, AOp.bin (BinOp.quo) (AX.t 29) (AX.c (AV.int (IntKind.i64) 4)), none⟩,
    ⟨some 31, AOp.bin (BinOp.mul) (AX.t 30) (AX.c (AV.int (IntKind.i64) 3)), none⟩,
    ⟨some 32, AOp.bin (BinOp.add) (AX.t 28) (AX.t 31), none⟩,
    ⟨some 14, AOp.mov (AX.t 32), none⟩] [0, 3, 10, 11, 12, 13, 14])
  (.seq
  (.seq
  (.region [] [⟨some 33, AOp.mov (AX.t 10), none⟩,
    ⟨some 34, AOp.bin (BinOp.geq) (AX.t 33) (AX.c (AV.int (IntKind.i64) 8)), none⟩] [0, 3, 10, 11, 12, 13, 14, 34])
  (.cond (AX.t 34)
    (.seq
    (.seq
    (.region [] [⟨some 35, AOp.mov (AX.t 10), none⟩,
      ⟨some 36, AOp.bin (BinOp.geq) (AX.t 35) (AX.c (AV.int (IntKind.i64) 50)), none⟩] [0, 3, 11, 12, 13, 14, 36])
    (.cond (AX.t 36)
      (.seq
      (.region [] [⟨some 37, AOp.mov (AX.t 0), none⟩,
        ⟨some 38, AOp.mov (AX.t 12), none⟩,
        ⟨some 39, AOp.mov (AX.t 3), none⟩,
        ⟨some 40, AOp.call 47 [AX.t 37, AX.t 38, AX.t 11, AX.t 39], none⟩,
        ⟨some 12, AOp.mov (AX.t 40), none⟩] [0, 3, 11, 12, 13, 14])
      (.seq
      (.region [] [⟨some 41, AOp.mov (AX.t 0), none⟩,
        ⟨some 42, AOp.mov (AX.t 13), none⟩,
        ⟨some 43, AOp.mov (AX.t 3), none⟩,
        ⟨some 44, AOp.call 47 [AX.t 41, AX.t 42, AX.t 11, AX.t 43], none⟩,
        ⟨some 13, AOp.mov (AX.t 44), none⟩] [0, 3, 11, 12, 13, 14])
      (.region [] [⟨some 45, AOp.mov (AX.t 0), none⟩,
        ⟨some 46, AOp.mov (AX.t 14), none⟩,
        ⟨some 47, AOp.mov (AX.t 3), none⟩,
        ⟨some 48, AOp.call 47 [AX.t 45, AX.t 46, AX.t 11, AX.t 47], none⟩,
        ⟨some 14, AOp.mov (AX.t 48), none⟩] [0, 3, 11, 12, 13, 14])))
      AC.skip))
    (.region [] [⟨some 49, AOp.mov (AX.t 0), none⟩,
      ⟨some 50, AOp.mov (AX.t 12), none⟩,
      ⟨some 51, AOp.mov (AX.t 13), none⟩,
      ⟨some 52, AOp.mov (AX.t 14), none⟩,
      ⟨some 53, AOp.mov (AX.t 3), none⟩,
      ⟨some 54, AOp.call 48 [AX.t 49, AX.t 50, AX.t 51, AX.t 52, AX.t 11, AX.t 53], none⟩,
      ⟨some 13, AOp.mov (AX.t 54), none⟩] [11, 13]))
    AC.skip))
  (.seq
  (.region [] [⟨some 55, AOp.load false 1 (AX.t 11), none⟩] [13, 55])
  (.block 0
    (.seq
    (.region [] [⟨some 58, AOp.bin (BinOp.eql) (AX.t 55) (AX.c (AV.int (IntKind.i64) 0)), none⟩,
      ⟨some 57, AOp.mov (AX.t 58), none⟩] [13, 55, 57])
    (.cond (AX.t 57)
      (.seq
      (.region [] [⟨some 59, AOp.mov (AX.t 13), none⟩,
        ⟨some 8, AOp.mov (AX.t 59), none⟩,
        ⟨some 9, AOp.mov (AX.c (AV.int (IntKind.i64) 1)), none⟩] [8, 9])
      AC.ret)
      (.seq
      (.region [] [⟨some 61, AOp.bin (BinOp.eql) (AX.t 55) (AX.c (AV.int (IntKind.i64) 12)), none⟩,
        ⟨some 60, AOp.mov (AX.t 61), none⟩] [13, 60])
      (.cond (AX.t 60)
        (.seq
        (.region [] [⟨some 62, AOp.mov (AX.t 13), none⟩,
          ⟨some 8, AOp.mov (AX.t 62), none⟩,
          ⟨some 9, AOp.mov (AX.c (AV.int (IntKind.i64) 2)), none⟩] [8, 9])
        AC.ret)
        (.seq
        (.region [] [⟨some 56, AOp.mov (AX.t 13), none⟩,
          ⟨some 8, AOp.mov (AX.t 56), none⟩,
          ⟨some 9, AOp.mov (AX.c (AV.int (IntKind.i64) 0)), none⟩] [8, 9])
        AC.ret))))))))))))))⟩

def a38 : AF := ⟨[],
  (.seq
  (.region [] [⟨some 10, AOp.mov (AX.t 1), none⟩,
    ⟨some 8, AOp.mov (AX.t 10), none⟩] [0, 2, 8])
  (.seq
  (.region [] [⟨some 11, AOp.mov (AX.t 2), none⟩,
    ⟨some 12, AOp.bin (BinOp.sub) (AX.t 11) (AX.c (AV.int (IntKind.i64) 1)), none⟩,
    ⟨some 9, AOp.mov (AX.t 12), none⟩] [0, 8, 9])
  (.block 0
    (.loop
      (.seq
      (.seq
      (.region [] [⟨some 13, AOp.mov (AX.t 8), none⟩,
        ⟨some 14, AOp.mov (AX.t 9), none⟩,
        ⟨some 15, AOp.bin (BinOp.lss) (AX.t 13) (AX.t 14), none⟩] [0, 8, 9, 15])
      (.cond (AX.t 15)
        AC.skip
        (.exit 0)))
      (.block 1
        (.seq
        (.region [0, 1, 2, 3, 4, 5, 6, 7, 8, 9, 10, 11, 12, 13, 14, 15] [⟨some 16, AOp.mov (AX.t 0), none⟩,
          ⟨some 17, AOp.mov (AX.t 8), none⟩,
          ⟨some 18, AOp.mov (AX.t 0), none⟩,
          ⟨some 19, AOp.mov (AX.t 9), none⟩,
          ⟨some 20, AOp.mov (AX.t 0), none⟩,
          ⟨some 21, AOp.mov (AX.t 9), none⟩,
          ⟨some 22, AOp.indexS 32 (AX.t 20) (AX.t 21), none⟩,
          ⟨some 23, AOp.load true 32 (AX.t 22), none⟩,
          ⟨some 24, AOp.mov (AX.t 0), none⟩,
          ⟨some 25, AOp.mov (AX.t 8), none⟩,
          ⟨some 26, AOp.indexS 32 (AX.t 24) (AX.t 25), none⟩,
          ⟨some 27, AOp.load true 32 (AX.t 26), none⟩,
          ⟨some 28, AOp.indexS 32 (AX.t 16) (AX.t 17), none⟩,
          ⟨none, AOp.store 32 (AX.t 28) (AX.t 23), none⟩,
          ⟨some 29, AOp.indexS 32 (AX.t 18) (AX.t 19), none⟩,
          ⟨none, AOp.store 32 (AX.t 29) (AX.t 27), none⟩] [0, 8, 9])
        (.seq
        (.region [] [⟨some 30, AOp.mov (AX.t 8), none⟩,
          ⟨some 31, AOp.bin (BinOp.add) (AX.t 30) (AX.c (AV.int (IntKind.i64) 1)), none⟩,
          ⟨some 8, AOp.mov (AX.t 31), none⟩] [0, 8, 9])
        (.region [] [⟨some 32, AOp.mov (AX.t 9), none⟩,
          ⟨some 33, AOp.bin (BinOp.sub) (AX.t 32) (AX.c (AV.int (IntKind.i64) 1)), none⟩,
          ⟨some 9, AOp.mov (AX.t 33), none⟩] [0, 8, 9])))))))))⟩

def a39 : AF := ⟨[ARes.t 8],
  (.seq
  (.region [] [⟨some 8, AOp.mov (AX.c (AV.bool false)), none⟩] [0, 1, 2, 3])
  (.seq
  (.region [] [⟨some 13, AOp.mov (AX.t 1), none⟩,
    ⟨some 14, AOp.bin (BinOp.add) (AX.t 13) (AX.c (AV.int (IntKind.i64) 1)), none⟩,
    ⟨some 9, AOp.mov (AX.t 14), none⟩] [0, 1, 2, 3, 9])
  (.seq
  (.seq
  (.region [] [⟨some 10, AOp.mov (AX.c (AV.int (IntKind.i64) 0)), none⟩] [0, 1, 2, 3, 9, 10])
  (.block 0
    (.loop
      (.seq
      (.seq
      (.region [] [⟨some 15, AOp.mov (AX.t 10), none⟩,
        ⟨some 16, AOp.bin (BinOp.lss) (AX.t 15) (AX.c (AV.int (IntKind.i64) 5)), none⟩] [0, 1, 2, 3, 9, 10, 16])
      (.cond (AX.t 16)
        AC.skip
        (.exit 0)))
      (.seq
      (.block 1
        (.seq
        (.block 2
          (.loop
            (.seq
            (.seq
            (.region [0, 1, 2, 3, 4, 5, 6, 7, 8, 9, 10, 11, 12, 13, 14, 15, 16, 17] [⟨some 19, AOp.mov (AX.t 9), none⟩,
              ⟨some 20, AOp.mov (AX.t 2), none⟩,
              ⟨some 21, AOp.bin (BinOp.lss) (AX.t 19) (AX.t 20), none⟩,
              ⟨some 22, AOp.mov (AX.t 21), none⟩,
              ⟨some 23, AOp.mov (AX.t 3), some (22, true)⟩,
              ⟨some 24, AOp.mov (AX.t 0), some (22, true)⟩,
              ⟨some 25, AOp.mov (AX.t 9), some (22, true)⟩,
              ⟨some 26, AOp.indexS 32 (AX.t 24) (AX.t 25), some (22, true)⟩,
              ⟨some 27, AOp.load true 32 (AX.t 26), some (22, true)⟩,
              ⟨some 28, AOp.mov (AX.t 0), some (22, true)⟩,
              ⟨some 29, AOp.mov (AX.t 9), some (22, true)⟩,
              ⟨some 30, AOp.bin (BinOp.sub) (AX.t 29) (AX.c (AV.int (IntKind.i64) 1)), some (22, true)⟩,
              ⟨some 31, AOp.indexS 32 (AX.t 28) (AX.t 30), some (22, true)⟩,
              ⟨some 32, AOp.load true 32 (AX.t 31), some (22, true)⟩,
              ⟨some 33, AOp.callV (AX.t 23) [AX.t 27, AX.t 32], some (22, true)⟩,
              ⟨some 34, AOp.bin (BinOp.lss) (AX.t 33) (AX.c (AV.int (IntKind.i64) 0)), some (22, true)⟩,
              ⟨some 35, AOp.un (UnOp.not) (AX.t 34), some (22, true)⟩,
              ⟨some 36, AOp.pick (AX.t 22) (AX.t 35) (AX.c (AV.bool false)), none⟩] [0, 1, 2, 3, 9, 10, 36])
            (.cond (AX.t 36)
              AC.skip
              (.exit 2)))
            (.block 3
              (.region [] [⟨some 37, AOp.mov (AX.t 9), none⟩,
                ⟨some 38, AOp.bin (BinOp.add) (AX.t 37) (AX.c (AV.int (IntKind.i64) 1)), none⟩,
                ⟨some 9, AOp.mov (AX.t 38), none⟩] [0, 1, 2, 3, 9, 10])))))
        (.seq
        (.seq
        (.region [] [⟨some 39, AOp.mov (AX.t 9), none⟩,
          ⟨some 40, AOp.mov (AX.t 2), none⟩,
          ⟨some 41, AOp.bin (BinOp.eql) (AX.t 39) (AX.t 40), none⟩] [0, 1, 2, 3, 9, 10, 41])
        (.cond (AX.t 41)
          (.seq
          (.region [] [⟨some 8, AOp.mov (AX.c (AV.bool true)), none⟩] [8])
          AC.ret)
          AC.skip))
        (.seq
        (.seq
        (.region [] [⟨some 42, AOp.mov (AX.t 2), none⟩,
          ⟨some 43, AOp.mov (AX.t 1), none⟩,
          ⟨some 44, AOp.bin (BinOp.sub) (AX.t 42) (AX.t 43), none⟩,
          ⟨some 45, AOp.bin (BinOp.lss) (AX.t 44) (AX.c (AV.int (IntKind.i64) 50)), none⟩] [0, 1, 2, 3, 9, 10, 45])
        (.cond (AX.t 45)
          (.seq
          (.region [] [⟨some 8, AOp.mov (AX.c (AV.bool false)), none⟩] [8])
          AC.ret)
          AC.skip))
        (.seq
        (.region [0, 1, 2, 3, 4, 5, 6, 7, 8, 9, 10, 11, 12, 13, 14, 15, 16, 17] [⟨some 46, AOp.mov (AX.t 0), none⟩,
          ⟨some 47, AOp.mov (AX.t 9), none⟩,
          ⟨some 48, AOp.mov (AX.t 0), none⟩,
          ⟨some 49, AOp.mov (AX.t 9), none⟩,
          ⟨some 50, AOp.bin (BinOp.sub) (AX.t 49) (AX.c (AV.int (IntKind.i64) 1)), none⟩,
          ⟨some 51, AOp.mov (AX.t 0), none⟩,
          ⟨some 52, AOp.mov (AX.t 9), none⟩,
          ⟨some 53, AOp.bin (BinOp.sub) (AX.t 52) (AX.c (AV.int (IntKind.i64) 1)), none⟩,
          ⟨some 54, AOp.indexS 32 (AX.t 51) (AX.t 53), none⟩,
          ⟨some 55, AOp.load true 32 (AX.t 54), none⟩,
          ⟨some 56, AOp.mov (AX.t 0), none⟩,
          ⟨some 57, AOp.mov (AX.t 9), none⟩,
          ⟨some 58, AOp.indexS 32 (AX.t 56) (AX.t 57), none⟩,
          ⟨some 59, AOp.load true 32 (AX.t 58), none⟩,
          ⟨some 60, AOp.indexS 32 (AX.t 46) (AX.t 47), none⟩,
          ⟨none, AOp.store 32 (AX.t 60) (AX.t 55), none⟩,
          ⟨some 61, AOp.indexS 32 (AX.t 48) (AX.t 50), none⟩,
          ⟨none, AOp.store 32 (AX.t 61) (AX.t 59), none⟩] [0, 1, 2, 3, 9, 10])
        (.seq
        (.seq
        (.region [] [⟨some 62, AOp.mov (AX.t 9), none⟩,
          ⟨some 63, AOp.mov (AX.t 1), none⟩,
          ⟨some 64, AOp.bin (BinOp.sub) (AX.t 62) (AX.t 63), none⟩,
          ⟨some 65, AOp.bin (BinOp.geq) (AX.t 64) (AX.c (AV.int (IntKind.i64) 2)), none⟩] [0, 1, 2, 3, 9, 10, 65])
        (.cond (AX.t 65)
          (.seq
          (.region [] [⟨some 66, AOp.mov (AX.t 9), none⟩,
            ⟨some 67, AOp.bin (BinOp.sub) (AX.t 66) (AX.c (AV.int (IntKind.i64) 1)), none⟩,
            ⟨some 11, AOp.mov (AX.t 67), none⟩] [0, 1, 2, 3, 9, 10, 11])
          (.block 4
            (.loop
              (.seq
              (.seq
              (.region [] [⟨some 68, AOp.mov (AX.t 11), none⟩,
                ⟨some 69, AOp.bin (BinOp.geq) (AX.t 68) (AX.c (AV.int (IntKind.i64) 1)), none⟩] [0, 1, 2, 3, 9, 10, 11, 69])
              (.cond (AX.t 69)
                AC.skip
                (.exit 4)))
              (.seq
              (.block 5
                (.seq
                (.seq
                (.region [0, 1, 2, 3, 4, 5, 6, 7, 8, 9, 10, 11, 12] [⟨some 72, AOp.mov (AX.t 3), none⟩,
                  ⟨some 73, AOp.mov (AX.t 0), none⟩,
                  ⟨some 74, AOp.mov (AX.t 11), none⟩,
                  ⟨some 75, AOp.indexS 32 (AX.t 73) (AX.t 74), none⟩,
                  ⟨some 76, AOp.load true 32 (AX.t 75), none⟩,
                  ⟨some 77, AOp.mov (AX.t 0), none⟩,
                  ⟨some 78, AOp.mov (AX.t 11), none⟩,
                  ⟨some 79, AOp.bin (BinOp.sub) (AX.t 78) (AX.c (AV.int (IntKind.i64) 1)), none⟩,
                  ⟨some 80, AOp.indexS 32 (AX.t 77) (AX.t 79), none⟩,
                  ⟨some 81, AOp.load true 32 (AX.t 80), none⟩,
                  ⟨some 82, AOp.callV (AX.t 72) [AX.t 76, AX.t 81], none⟩,
                  ⟨some 83, AOp.bin (BinOp.lss) (AX.t 82) (AX.c (AV.int (IntKind.i64) 0)), none⟩,
                  ⟨some 84, AOp.un (UnOp.not) (AX.t 83), none⟩] [0, 1, 2, 3, 9, 10, 11, 84])
                (.cond (AX.t 84)
                  (.exit 4)
                  AC.skip))
                (.region [0, 1, 2, 3, 4, 5, 6, 7, 8, 9, 10, 11, 12, 13, 14, 15, 16, 17] [⟨some 85, AOp.mov (AX.t 0), none⟩,
                  ⟨some 86, AOp.mov (AX.t 11), none⟩,
                  ⟨some 87, AOp.mov (AX.t 0), none⟩,
                  ⟨some 88, AOp.mov (AX.t 11), none⟩,
                  ⟨some 89, AOp.bin (BinOp.sub) (AX.t 88) (AX.c (AV.int (IntKind.i64) 1)), none⟩,
                  ⟨some 90, AOp.mov (AX.t 0), none⟩,
                  ⟨some 91, AOp.mov (AX.t 11), none⟩,
                  ⟨some 92, AOp.bin (BinOp.sub) (AX.t 91) (AX.c (AV.int (IntKind.i64) 1)), none⟩,
                  ⟨some 93, AOp.indexS 32 (AX.t 90) (AX.t 92), none⟩,
                  ⟨some 94, AOp.load true 32 (AX.t 93), none⟩,
                  ⟨some 95, AOp.mov (AX.t 0), none⟩,
                  ⟨some 96, AOp.mov (AX.t 11), none⟩,
                  ⟨some 97, AOp.indexS 32 (AX.t 95) (AX.t 96), none⟩,
                  ⟨some 98, AOp.load true 32 (AX.t 97), none⟩,
                  ⟨some 99, AOp.indexS 32 (AX.t 85) (AX.t 86), none⟩,
                  ⟨none, AOp.store 32 (AX.t 99) (AX.t 94), none⟩,
                  ⟨some 100, AOp.indexS 32 (AX.t 87) (AX.t 89), none⟩,
                  ⟨none, AOp.store 32 (AX.t 100) (AX.t 98), none⟩] [0, 1, 2, 3, 9, 10, 11])))
              (.region [] [⟨some 70, AOp.mov (AX.t 11), none⟩,
                ⟨some 71, AOp.bin (BinOp.sub) (AX.t 70) (AX.c (AV.int (IntKind.i64) 1)), none⟩,
                ⟨some 11, AOp.mov (AX.t 71), none⟩] [0, 1, 2, 3, 9, 10, 11]))))))
          AC.skip))
        (.seq
        (.region [] [⟨some 101, AOp.mov (AX.t 2), none⟩,
          ⟨some 102, AOp.mov (AX.t 9), none⟩,
          ⟨some 103, AOp.bin (BinOp.sub) (AX.t 101) (AX.t 102), none⟩,
          ⟨some 104, AOp.bin (BinOp.geq) (AX.t 103) (AX.c (AV.int (IntKind.i64) 2)), none⟩] [0, 1, 2, 3, 9, 10, 104])
        (.cond (AX.t 104)
          (.seq
          (.region [] [⟨some 105, AOp.mov (AX.t 9), none⟩,
            ⟨some 106, AOp.bin (BinOp.add) (AX.t 105) (AX.c (AV.int (IntKind.i64) 1)), none⟩,
            ⟨some 12, AOp.mov (AX.t 106), none⟩] [0, 1, 2, 3, 9, 10, 12])
          (.block 6
            (.loop
              (.seq
              (.seq
              (.region [] [⟨some 107, AOp.mov (AX.t 12), none⟩,
                ⟨some 108, AOp.mov (AX.t 2), none⟩,
                ⟨some 109, AOp.bin (BinOp.lss) (AX.t 107) (AX.t 108), none⟩] [0, 1, 2, 3, 9, 10, 12, 109])
              (.cond (AX.t 109)
                AC.skip
                (.exit 6)))
              (.seq
              (.block 7
                (.seq
                (.seq
                (.region [0, 1, 2, 3, 4, 5, 6, 7, 8, 9, 10, 11, 12] [⟨some 112, AOp.mov (AX.t 3), none⟩,
                  ⟨some 113, AOp.mov (AX.t 0), none⟩,
                  ⟨some 114, AOp.mov (AX.t 12), none⟩,
                  ⟨some 115, AOp.indexS 32 (AX.t 113) (AX.t 114), none⟩,
                  ⟨some 116, AOp.load true 32 (AX.t 115), none⟩,
                  ⟨some 117, AOp.mov (AX.t 0), none⟩,
                  ⟨some 118, AOp.mov (AX.t 12), none⟩,
                  ⟨some 119, AOp.bin (BinOp.sub) (AX.t 118) (AX.c (AV.int (IntKind.i64) 1)), none⟩,
                  ⟨some 120, AOp.indexS 32 (AX.t 117) (AX.t 119), none⟩,
                  ⟨some 121, AOp.load true 32 (AX.t 120), none⟩,
                  ⟨some 122, AOp.callV (AX.t 112) [AX.t 116, AX.t 121], none⟩,
                  ⟨some 123, AOp.bin (BinOp.lss) (AX.t 122) (AX.c (AV.int (IntKind.i64) 0)), none⟩,
                  ⟨some 124, AOp.un (UnOp.not) (AX.t 123), none⟩] [0, 1, 2, 3, 9, 10, 12, 124])
                (.cond (AX.t 124)
                  (.exit 6)
                  AC.skip))
                (.region [0, 1, 2, 3, 4, 5, 6, 7, 8, 9, 10, 11, 12, 13, 14, 15, 16, 17] [⟨some 125, AOp.mov (AX.t 0), none⟩,
                  ⟨some 126, AOp.mov (AX.t 12), none⟩,
                  ⟨some 127, AOp.mov (AX.t 0), none⟩,
                  ⟨some 128, AOp.mov (AX.t 12), none⟩,
                  ⟨some 129, AOp.bin (BinOp.sub) (AX.t 128) (AX.c (AV.int (IntKind.i64) 1)), none⟩,
                  ⟨some 130, AOp.mov (AX.t 0), none⟩,
                  ⟨some 131, AOp.mov (AX.t 12), none⟩,
                  ⟨some 132, AOp.bin (BinOp.sub) (AX.t 131) (AX.c (AV.int (IntKind.i64) 1)), none⟩,
                  ⟨some 133, AOp.indexS 32 (AX.t 130) (AX.t 132), none⟩,
                  ⟨some 134, AOp.load true 32 (AX.t 133), none⟩,
                  ⟨some 135, AOp.mov (AX.t 0), none⟩,
                  ⟨some 136, AOp.mov (AX.t 12), none⟩,
                  ⟨some 137, AOp.indexS 32 (AX.t 135) (AX.t 136), none⟩,
                  ⟨some 138, AOp.load true 32 (AX.t 137), none⟩,
                  ⟨some 139, AOp.indexS 32 (AX.t 125) (AX.t 126), none⟩,
                  ⟨none, AOp.store 32 (AX.t 139) (AX.t 134), none⟩,
                  ⟨some 140, AOp.indexS 32 (AX.t 127) (AX.t 129), none⟩,
                  ⟨none, AOp.store 32 (AX.t 140) (AX.t 138), none⟩] [0, 1, 2, 3, 9, 10, 12])))
              (.region [] [⟨some 110, AOp.mov (AX.t 12), none⟩,
                ⟨some 111, AOp.bin (BinOp.add) (AX.t 110) (AX.c (AV.int (IntKind.i64) 1)), none⟩,
                ⟨some 12, AOp.mov (AX.t 111), none⟩] [0, 1, 2, 3, 9, 10, 12]))))))
          AC.skip))))))))
      (.region [] [⟨some 17, AOp.mov (AX.t 10), none⟩,
        ⟨some 18, AOp.bin (BinOp.add) (AX.t 17) (AX.c (AV.int (IntKind.i64) 1)), none⟩,
        ⟨some 10, AOp.mov (AX.t 18), none⟩] [0, 1, 2, 3, 9, 10]))))))
  (.seq
  (.region [] [⟨some 8, AOp.mov (AX.c (AV.bool false)), none⟩] [8])
  AC.ret))))⟩

def a40 : AF := ⟨[ARes.t 10],
  (.seq
  (.region [] [⟨some 10, AOp.mov (AX.c (AV.int (IntKind.i64) 0)), none⟩] [0, 1, 2, 3, 4])
  (.seq
  (.region [0, 1, 2, 3, 4, 5, 6, 7, 8, 9, 10, 11, 12, 13, 14, 15] [⟨some 13, AOp.mov (AX.t 0), none⟩,
    ⟨some 14, AOp.mov (AX.t 1), none⟩,
    ⟨some 15, AOp.mov (AX.t 0), none⟩,
    ⟨some 16, AOp.mov (AX.t 3), none⟩,
    ⟨some 17, AOp.mov (AX.t 0), none⟩,
    ⟨some 18, AOp.mov (AX.t 3), none⟩,
    ⟨some 19, AOp.indexS 32 (AX.t 17) (AX.t 18), none⟩,
    ⟨some 20, AOp.load true 32 (AX.t 19), none⟩,
    ⟨some 21, AOp.mov (AX.t 0), none⟩,
    ⟨some 22, AOp.mov (AX.t 1), none⟩,
    ⟨some 23, AOp.indexS 32 (AX.t 21) (AX.t 22), none⟩,
    ⟨some 24, AOp.load true 32 (AX.t 23), none⟩,
    ⟨some 25, AOp.indexS 32 (AX.t 13) (AX.t 14), none⟩,
    ⟨none, AOp.store 32 (AX.t 25) (AX.t 20), none⟩,
    ⟨some 26, AOp.indexS 32 (AX.t 15) (AX.t 16), none⟩,
    ⟨none, AOp.store 32 (AX.t 26) (AX.t 24), none⟩] [0, 1, 2, 4])
  (.seq
  (.region [] [⟨some 27, AOp.mov (AX.t 1), none⟩,
    ⟨some 28, AOp.bin (BinOp.add) (AX.t 27) (AX.c (AV.int (IntKind.i64) 1)), none⟩,
    ⟨some 29, AOp.mov (AX.t 2), none⟩,
    ⟨some 30, AOp.bin (BinOp.sub) (AX.t 29) (AX.c (AV.int (IntKind.i64) 1)), none⟩,
    ⟨some 11, AOp.mov (AX.t 28), none⟩,
    ⟨some 12, AOp.mov (AX.t 30), none⟩] [0, 1, 4, 11, 12])
  (.seq
  (.block 0
    (.loop
      (.block 1
        (.seq
        (.block 2
          (.loop
            (.seq
            (.seq
            (.region [0, 1, 2, 3, 4, 5, 6, 7, 8, 9, 10, 11, 12, 13, 14, 15, 16] [⟨some 31, AOp.mov (AX.t 11), none⟩,
              ⟨some 32, AOp.mov (AX.t 12), none⟩,
              ⟨some 33, AOp.bin (BinOp.leq) (AX.t 31) (AX.t 32), none⟩,
              ⟨some 34, AOp.mov (AX.t 33), none⟩,
              ⟨some 35, AOp.mov (AX.t 4), some (34, true)⟩,
              ⟨some 36, AOp.mov (AX.t 0), some (34, true)⟩,
              ⟨some 37, AOp.mov (AX.t 1), some (34, true)⟩,
              ⟨some 38, AOp.indexS 32 (AX.t 36) (AX.t 37), some (34, true)⟩,
              ⟨some 39, AOp.load true 32 (AX.t 38), some (34, true)⟩,
              ⟨some 40, AOp.mov (AX.t 0), some (34, true)⟩,
              ⟨some 41, AOp.mov (AX.t 11), some (34, true)⟩,
              ⟨some 42, AOp.indexS 32 (AX.t 40) (AX.t 41), some (34, true)⟩,
              ⟨some 43, AOp.load true 32 (AX.t 42), some (34, true)⟩,
              ⟨some 44, AOp.callV (AX.t 35) [AX.t 39, AX.t 43], some (34, true)⟩,
              ⟨some 45, AOp.bin (BinOp.lss) (AX.t 44) (AX.c (AV.int (IntKind.i64) 0)), some (34, true)⟩,
              ⟨some 46, AOp.un (UnOp.not) (AX.t 45), some (34, true)⟩,
              ⟨some 47, AOp.pick (AX.t 34) (AX.t 46) (AX.c (AV.bool false)), none⟩] [0, 1, 4, 11, 12, 47])
            (.cond (AX.t 47)
              AC.skip
              (.exit 2)))
            (.block 3
              (.region [] [⟨some 48, AOp.mov (AX.t 11), none⟩,
                ⟨some 49, AOp.bin (BinOp.add) (AX.t 48) (AX.c (AV.int (IntKind.i64) 1)), none⟩,
                ⟨some 11, AOp.mov (AX.t 49), none⟩] [0, 1, 4, 11, 12])))))
        (.seq
        (.block 4
          (.loop
            (.seq
            (.seq
            (.region [0, 1, 2, 3, 4, 5, 6, 7, 8, 9, 10, 11, 12, 13, 14, 15] [⟨some 50, AOp.mov (AX.t 11), none⟩,
              ⟨some 51, AOp.mov (AX.t 12), none⟩,
              ⟨some 52, AOp.bin (BinOp.leq) (AX.t 50) (AX.t 51), none⟩,
              ⟨some 53, AOp.mov (AX.t 52), none⟩,
              ⟨some 54, AOp.mov (AX.t 4), some (53, true)⟩,
              ⟨some 55, AOp.mov (AX.t 0), some (53, true)⟩,
              ⟨some 56, AOp.mov (AX.t 1), some (53, true)⟩,
              ⟨some 57, AOp.indexS 32 (AX.t 55) (AX.t 56), some (53, true)⟩,
              ⟨some 58, AOp.load true 32 (AX.t 57), some (53, true)⟩,
              ⟨some 59, AOp.mov (AX.t 0), some (53, true)⟩,
              ⟨some 60, AOp.mov (AX.t 12), some (53, true)⟩,
              ⟨some 61, AOp.indexS 32 (AX.t 59) (AX.t 60), some (53, true)⟩,
              ⟨some 62, AOp.load true 32 (AX.t 61), some (53, true)⟩,
              ⟨some 63, AOp.callV (AX.t 54) [AX.t 58, AX.t 62], some (53, true)⟩,
              ⟨some 64, AOp.bin (BinOp.lss) (AX.t 63) (AX.c (AV.int (IntKind.i64) 0)), some (53, true)⟩,
              ⟨some 65, AOp.pick (AX.t 53) (AX.t 64) (AX.c (AV.bool false)), none⟩] [0, 1, 4, 11, 12, 65])
            (.cond (AX.t 65)
              AC.skip
              (.exit 4)))
            (.block 5
              (.region [] [⟨some 66, AOp.mov (AX.t 12), none⟩,
                ⟨some 67, AOp.bin (BinOp.sub) (AX.t 66) (AX.c (AV.int (IntKind.i64) 1)), none⟩,
                ⟨some 12, AOp.mov (AX.t 67), none⟩] [0, 1, 4, 11, 12])))))
        (.seq
        (.seq
        (.region [] [⟨some 68, AOp.mov (AX.t 11), none⟩,
          ⟨some 69, AOp.mov (AX.t 12), none⟩,
          ⟨some 70, AOp.bin (BinOp.gtr) (AX.t 68) (AX.t 69), none⟩] [0, 1, 4, 11, 12, 70])
        (.cond (AX.t 70)
          (.exit 0)
          AC.skip))
        (.seq
        (.region [0, 1, 2, 3, 4, 5, 6, 7, 8, 9, 10, 11, 12, 13, 14, 15] [⟨some 71, AOp.mov (AX.t 0), none⟩,
          ⟨some 72, AOp.mov (AX.t 11), none⟩,
          ⟨some 73, AOp.mov (AX.t 0), none⟩,
          ⟨some 74, AOp.mov (AX.t 12), none⟩,
          ⟨some 75, AOp.mov (AX.t 0), none⟩,
          ⟨some 76, AOp.mov (AX.t 12), none⟩,
          ⟨some 77, AOp.indexS 32 (AX.t 75) (AX.t 76), none⟩,
          ⟨some 78, AOp.load true 32 (AX.t 77), none⟩,
          ⟨some 79, AOp.mov (AX.t 0), none⟩,
          ⟨some 80, AOp.mov (AX.t 11), none⟩,
          ⟨some 81, AOp.indexS 32 (AX.t 79) (AX.t 80), none⟩,
          ⟨some 82, AOp.load true 32 (AX.t 81), none⟩,
          ⟨some 83, AOp.indexS 32 (AX.t 71) (AX.t 72), none⟩,
          ⟨none, AOp.store 32 (AX.t 83) (AX.t 78), none⟩,
          ⟨some 84, AOp.indexS 32 (AX.t 73) (AX.t 74), none⟩,
          ⟨none, AOp.store 32 (AX.t 84) (AX.t 82), none⟩] [0, 1, 4, 11, 12])
        (.seq
        (.region [] [⟨some 85, AOp.mov (AX.t 11), none⟩,
          ⟨some 86, AOp.bin (BinOp.add) (AX.t 85) (AX.c (AV.int (IntKind.i64) 1)), none⟩,
          ⟨some 11, AOp.mov (AX.t 86), none⟩] [0, 1, 4, 11, 12])
        (.region [] [⟨some 87, AOp.mov (AX.t 12), none⟩,
          ⟨some 88, AOp.bin (BinOp.sub) (AX.t 87) (AX.c (AV.int (IntKind.i64) 1)), none⟩,
          ⟨some 12, AOp.mov (AX.t 88), none⟩] [0, 1, 4, 11, 12])))))))))
  (.seq
  (.region [] [⟨some 89, AOp.mov (AX.t 11), none⟩,
    ⟨some 10, AOp.mov (AX.t 89), none⟩] [10])
  AC.ret)))))⟩

def a41 : AF := ⟨[ARes.t 10,ARes.t 11],
  (.seq
  (.region [] [⟨some 10, AOp.mov (AX.c (AV.int (IntKind.i64) 0)), none⟩,
    ⟨some 11, AOp.mov (AX.c (AV.bool false)), none⟩] [0, 1, 2, 3, 4])
  (.seq
  (.region [0, 1, 2, 3, 4, 5, 6, 7, 8, 9, 10, 11, 12, 13, 14, 15] [⟨some 14, AOp.mov (AX.t 0), none⟩,
    ⟨some 15, AOp.mov (AX.t 1), none⟩,
    ⟨some 16, AOp.mov (AX.t 0), none⟩,
    ⟨some 17, AOp.mov (AX.t 3), none⟩,
    ⟨some 18, AOp.mov (AX.t 0), none⟩,
    ⟨some 19, AOp.mov (AX.t 3), none⟩,
    ⟨some 20, AOp.indexS 32 (AX.t 18) (AX.t 19), none⟩,
    ⟨some 21, AOp.load true 32 (AX.t 20), none⟩,
    ⟨some 22, AOp.mov (AX.t 0), none⟩,
    ⟨some 23, AOp.mov (AX.t 1), none⟩,
    ⟨some 24, AOp.indexS 32 (AX.t 22) (AX.t 23), none⟩,
    ⟨some 25, AOp.load true 32 (AX.t 24), none⟩,
    ⟨some 26, AOp.indexS 32 (AX.t 14) (AX.t 15), none⟩,
    ⟨none, AOp.store 32 (AX.t 26) (AX.t 21), none⟩,
    ⟨some 27, AOp.indexS 32 (AX.t 16) (AX.t 17), none⟩,
    ⟨none, AOp.store 32 (AX.t 27) (AX.t 25), none⟩] [0, 1, 2, 4])
  (.seq
  (.region [] [⟨some 28, AOp.mov (AX.t 1), none⟩,
    ⟨some 29, AOp.bin (BinOp.add) (AX.t 28) (AX.c (AV.int (IntKind.i64) 1)), none⟩,
    ⟨some 30, AOp.mov (AX.t 2), none⟩,
    ⟨some 31, AOp.bin (BinOp.sub) (AX.t 30) (AX.c (AV.int (IntKind.i64) 1)), none⟩,
    ⟨some 12, AOp.mov (AX.t 29), none⟩,
    ⟨some 13, AOp.mov (AX.t 31), none⟩] [0, 1, 4, 12, 13])
  (.seq
  (.block 0
    (.loop
      (.seq
      (.seq
      (.region [0, 1, 2, 3, 4, 5, 6, 7, 8, 9, 10, 11, 12, 13, 14, 15] [⟨some 32, AOp.mov (AX.t 12), none⟩,
        ⟨some 33, AOp.mov (AX.t 13), none⟩,
        ⟨some 34, AOp.bin (BinOp.leq) (AX.t 32) (AX.t 33), none⟩,
        ⟨some 35, AOp.mov (AX.t 34), none⟩,
        ⟨some 36, AOp.mov (AX.t 4), some (35, true)⟩,
        ⟨some 37, AOp.mov (AX.t 0), some (35, true)⟩,
        ⟨some 38, AOp.mov (AX.t 12), some (35, true)⟩,
        ⟨some 39, AOp.indexS 32 (AX.t 37) (AX.t 38), some (35, true)⟩,
        ⟨some 40, AOp.load true 32 (AX.t 39), some (35, true)⟩,
        ⟨some 41, AOp.mov (AX.t 0), some (35, true)⟩,
        ⟨some 42, AOp.mov (AX.t 1), some (35, true)⟩,
        ⟨some 43, AOp.indexS 32 (AX.t 41) (AX.t 42), some (35, true)⟩,
        ⟨some 44, AOp.load true 32 (AX.t 43), some (35, true)⟩,
        ⟨some 45, AOp.callV (AX.t 36) [AX.t 40, AX.t 44], some (35, true)⟩,
        ⟨some 46, AOp.bin (BinOp.lss) (AX.t 45) (AX.c (AV.int (IntKind.i64) 0)), some (35, true)⟩,
        ⟨some 47, AOp.pick (AX.t 35) (AX.t 46) (AX.c (AV.bool false)), none⟩] [0, 1, 4, 12, 13, 47])
      (.cond (AX.t 47)
        AC.skip
        (.exit 0)))
      (.block 1
        (.region [] [⟨some 48, AOp.mov (AX.t 12), none⟩,
          ⟨some 49, AOp.bin (BinOp.add) (AX.t 48) (AX.c (AV.int (IntKind.i64) 1)), none⟩,
          ⟨some 12, AOp.mov (AX.t 49), none⟩] [0, 1, 4, 12, 13])))))
  (.seq
  (.block 2
    (.loop
      (.seq
      (.seq
      (.region [0, 1, 2, 3, 4, 5, 6, 7, 8, 9, 10, 11, 12, 13, 14, 15, 16] [⟨some 50, AOp.mov (AX.t 12), none⟩,
        ⟨some 51, AOp.mov (AX.t 13), none⟩,
        ⟨some 52, AOp.bin (BinOp.leq) (AX.t 50) (AX.t 51), none⟩,
        ⟨some 53, AOp.mov (AX.t 52), none⟩,
        ⟨some 54, AOp.mov (AX.t 4), some (53, true)⟩,
        ⟨some 55, AOp.mov (AX.t 0), some (53, true)⟩,
        ⟨some 56, AOp.mov (AX.t 13), some (53, true)⟩,
        ⟨some 57, AOp.indexS 32 (AX.t 55) (AX.t 56), some (53, true)⟩,
        ⟨some 58, AOp.load true 32 (AX.t 57), some (53, true)⟩,
        ⟨some 59, AOp.mov (AX.t 0), some (53, true)⟩,
        ⟨some 60, AOp.mov (AX.t 1), some (53, true)⟩,
        ⟨some 61, AOp.indexS 32 (AX.t 59) (AX.t 60), some (53, true)⟩,
        ⟨some 62, AOp.load true 32 (AX.t 61), some (53, true)⟩,
        ⟨some 63, AOp.callV (AX.t 54) [AX.t 58, AX.t 62], some (53, true)⟩,
        ⟨some 64, AOp.bin (BinOp.lss) (AX.t 63) (AX.c (AV.int (IntKind.i64) 0)), some (53, true)⟩,
        ⟨some 65, AOp.un (UnOp.not) (AX.t 64), some (53, true)⟩,
        ⟨some 66, AOp.pick (AX.t 53) (AX.t 65) (AX.c (AV.bool false)), none⟩] [0, 1, 4, 12, 13, 66])
      (.cond (AX.t 66)
        AC.skip
        (.exit 2)))
      (.block 3
        (.region [] [⟨some 67, AOp.mov (AX.t 13), none⟩,
          ⟨some 68, AOp.bin (BinOp.sub) (AX.t 67) (AX.c (AV.int (IntKind.i64) 1)), none⟩,
          ⟨some 13, AOp.mov (AX.t 68), none⟩] [0, 1, 4, 12, 13])))))
  (.seq
  (.seq
  (.region [] [⟨some 69, AOp.mov (AX.t 12), none⟩,
    ⟨some 70, AOp.mov (AX.t 13), none⟩,
    ⟨some 71, AOp.bin (BinOp.gtr) (AX.t 69) (AX.t 70), none⟩] [0, 1, 4, 12, 13, 71])
  (.cond (AX.t 71)
    (.seq
    (.region [0, 1, 2, 3, 4, 5, 6, 7, 8, 9, 10, 11, 12, 13, 14, 15] [⟨some 72, AOp.mov (AX.t 0), none⟩,
      ⟨some 73, AOp.mov (AX.t 13), none⟩,
      ⟨some 74, AOp.mov (AX.t 0), none⟩,
      ⟨some 75, AOp.mov (AX.t 1), none⟩,
      ⟨some 76, AOp.mov (AX.t 0), none⟩,
      ⟨some 77, AOp.mov (AX.t 1), none⟩,
      ⟨some 78, AOp.indexS 32 (AX.t 76) (AX.t 77), none⟩,
      ⟨some 79, AOp.load true 32 (AX.t 78), none⟩,
      ⟨some 80, AOp.mov (AX.t 0), none⟩,
      ⟨some 81, AOp.mov (AX.t 13), none⟩,
      ⟨some 82, AOp.indexS 32 (AX.t 80) (AX.t 81), none⟩,
      ⟨some 83, AOp.load true 32 (AX.t 82), none⟩,
      ⟨some 84, AOp.indexS 32 (AX.t 72) (AX.t 73), none⟩,
      ⟨none, AOp.store 32 (AX.t 84) (AX.t 79), none⟩,
      ⟨some 85, AOp.indexS 32 (AX.t 74) (AX.t 75), none⟩,
      ⟨none, AOp.store 32 (AX.t 85) (AX.t 83), none⟩] [13])
    (.seq
    (.region [] [⟨some 86, AOp.mov (AX.t 13), none⟩,
      ⟨some 10, AOp.mov (AX.t 86), none⟩,
      ⟨some 11, AOp.mov (AX.c (AV.bool true)), none⟩] [10, 11])
    AC.ret))
    AC.skip))
  (.seq
  (.region [0, 1, 2, 3, 4, 5, 6, 7, 8, 9, 10, 11, 12, 13, 14, 15] [⟨some 87, AOp.mov (AX.t 0), none⟩,
    ⟨some 88, AOp.mov (AX.t 12), none⟩,
    ⟨some 89, AOp.mov (AX.t 0), none⟩,
    ⟨some 90, AOp.mov (AX.t 13), none⟩,
    ⟨some 91, AOp.mov (AX.t 0), none⟩,
    ⟨some 92, AOp.mov (AX.t 13), none⟩,
    ⟨some 93, AOp.indexS 32 (AX.t 91) (AX.t 92), none⟩,
    ⟨some 94, AOp.load true 32 (AX.t 93), none⟩,
    ⟨some 95, AOp.mov (AX.t 0), none⟩,
    ⟨some 96, AOp.mov (AX.t 12), none⟩,
    ⟨some 97, AOp.indexS 32 (AX.t 95) (AX.t 96), none⟩,
    ⟨some 98, AOp.load true 32 (AX.t 97), none⟩,
    ⟨some 99, AOp.indexS 32 (AX.t 87) (AX.t 88), none⟩,
    ⟨none, AOp.store 32 (AX.t 99) (AX.t 94), none⟩,
    ⟨some 100, AOp.indexS 32 (AX.t 89) (AX.t 90), none⟩,
    ⟨none, AOp.store 32 (AX.t 100) (AX.t 98), none⟩] [0, 1, 4, 12, 13])
  (.seq
  (.region [] [⟨some 101, AOp.mov (AX.t 12), none⟩,
    ⟨some 102, AOp.bin (BinOp.add) (AX.t 101) (AX.c (AV.int (IntKind.i64) 1)), none⟩,
    ⟨some 12, AOp.mov (AX.t 102), none⟩] [0, 1, 4, 12, 13])
  (.seq
  (.region [] [⟨some 103, AOp.mov (AX.t 13), none⟩,
    ⟨some 104, AOp.bin (BinOp.sub) (AX.t 103) (AX.c (AV.int (IntKind.i64) 1)), none⟩,
    ⟨some 13, AOp.mov (AX.t 104), none⟩] [0, 1, 4, 12, 13])
  (.seq
  (.block 4
    (.loop
      (.block 5
        (.seq
        (.block 6
          (.loop
            (.seq
            (.seq
            (.region [0, 1, 2, 3, 4, 5, 6, 7, 8, 9, 10, 11, 12, 13, 14, 15] [⟨some 105, AOp.mov (AX.t 12), none⟩,
              ⟨some 106, AOp.mov (AX.t 13), none⟩,
              ⟨some 107, AOp.bin (BinOp.leq) (AX.t 105) (AX.t 106), none⟩,
              ⟨some 108, AOp.mov (AX.t 107), none⟩,
              ⟨some 109, AOp.mov (AX.t 4), some (108, true)⟩,
              ⟨some 110, AOp.mov (AX.t 0), some (108, true)⟩,
              ⟨some 111, AOp.mov (AX.t 12), some (108, true)⟩,
              ⟨some 112, AOp.indexS 32 (AX.t 110) (AX.t 111), some (108, true)⟩,
              ⟨some 113, AOp.load true 32 (AX.t 112), some (108, true)⟩,
              ⟨some 114, AOp.mov (AX.t 0), some (108, true)⟩,
              ⟨some 115, AOp.mov (AX.t 1), some (108, true)⟩,
              ⟨some 116, AOp.indexS 32 (AX.t 114) (AX.t 115), some (108, true)⟩,
              ⟨some 117, AOp.load true 32 (AX.t 116), some (108, true)⟩,
              ⟨some 118, AOp.callV (AX.t 109) [AX.t 113, AX.t 117], some (108, true)⟩,
              ⟨some 119, AOp.bin (BinOp.lss) (AX.t 118) (AX.c (AV.int (IntKind.i64) 0)), some (108, true)⟩,
              ⟨some 120, AOp.pick (AX.t 108) (AX.t 119) (AX.c (AV.bool false)), none⟩] [0, 1, 4, 12, 13, 120])
            (.cond (AX.t 120)
              AC.skip
              (.exit 6)))
            (.block 7
              (.region [] [⟨some 121, AOp.mov (AX.t 12), none⟩,
                ⟨some 122, AOp.bin (BinOp.add) (AX.t 121) (AX.c (AV.int (IntKind.i64) 1)), none⟩,
                ⟨some 12, AOp.mov (AX.t 122), none⟩] [0, 1, 4, 12, 13])))))
        (.seq
        (.block 8
          (.loop
            (.seq
            (.seq
            (.region [0, 1, 2, 3, 4, 5, 6, 7, 8, 9, 10, 11, 12, 13, 14, 15, 16] [⟨some 123, AOp.mov (AX.t 12), none⟩,
              ⟨some 124, AOp.mov (AX.t 13), none⟩,
              ⟨some 125, AOp.bin (BinOp.leq) (AX.t 123) (AX.t 124), none⟩,
              ⟨some 126, AOp.mov (AX.t 125), none⟩,
              ⟨some 127, AOp.mov (AX.t 4), some (126, true)⟩,
              ⟨some 128, AOp.mov (AX.t 0), some (126, true)⟩,
              ⟨some 129, AOp.mov (AX.t 13), some (126, true)⟩,
              ⟨some 130, AOp.indexS 32 (AX.t 128) (AX.t 129), some (126, true)⟩,
              ⟨some 131, AOp.load true 32 (AX.t 130), some (126, true)⟩,
              ⟨some 132, AOp.mov (AX.t 0), some (126, true)⟩,
              ⟨some 133, AOp.mov (AX.t 1), some (126, true)⟩,
              ⟨some 134, AOp.indexS 32 (AX.t 132) (AX.t 133), some (126, true)⟩,
              ⟨some 135, AOp.load true 32 (AX.t 134), some (126, true)⟩,
              ⟨some 136, AOp.callV (AX.t 127) [AX.t 131, AX.t 135], some (126, true)⟩,
              ⟨some 137, AOp.bin (BinOp.lss) (AX.t 136) (AX.c (AV.int (IntKind.i64) 0)), some (126, true)⟩,
              ⟨some 138, AOp.un (UnOp.not) (AX.t 137), some (126, true)⟩,
              ⟨some 139, AOp.pick (AX.t 126) (AX.t 138) (AX.c (AV.bool false)), none⟩] [0, 1, 4, 12, 13, 139])
            (.cond (AX.t 139)
              AC.skip
              (.exit 8)))
            (.block 9
              (.region [] [⟨some 140, AOp.mov (AX.t 13), none⟩,
                ⟨some 141, AOp.bin (BinOp.sub) (AX.t 140) (AX.c (AV.int (IntKind.i64) 1)), none⟩,
                ⟨some 13, AOp.mov (AX.t 141), none⟩] [0, 1, 4, 12, 13])))))
        (.seq
        (.seq
        (.region [] [⟨some 142, AOp.mov (AX.t 12), none⟩,
          ⟨some 143, AOp.mov (AX.t 13), none⟩,
          ⟨some 144, AOp.bin (BinOp.gtr) (AX.t 142) (AX.t 143), none⟩] [0, 1, 4, 12, 13, 144])
        (.cond (AX.t 144)
          (.exit 4)
          AC.skip))
        (.seq
        (.region [0, 1, 2, 3, 4, 5, 6, 7, 8, 9, 10, 11, 12, 13, 14, 15] [⟨some 145, AOp.mov (AX.t 0), none⟩,
          ⟨some 146, AOp.mov (AX.t 12), none⟩,
          ⟨some 147, AOp.mov (AX.t 0), none⟩,
          ⟨some 148, AOp.mov (AX.t 13), none⟩,
          ⟨some 149, AOp.mov (AX.t 0), none⟩,
          ⟨some 150, AOp.mov (AX.t 13), none⟩,
          ⟨some 151, AOp.indexS 32 (AX.t 149) (AX.t 150), none⟩,
          ⟨some 152, AOp.load true 32 (AX.t 151), none⟩,
          ⟨some 153, AOp.mov (AX.t 0), none⟩,
          ⟨some 154, AOp.mov (AX.t 12), none⟩,
          ⟨some 155, AOp.indexS 32 (AX.t 153) (AX.t 154), none⟩,
          ⟨some 156, AOp.load true 32 (AX.t 155), none⟩,
          ⟨some 157, AOp.indexS 32 (AX.t 145) (AX.t 146), none⟩,
          ⟨none, AOp.store 32 (AX.t 157) (AX.t 152), none⟩,
          ⟨some 158, AOp.indexS 32 (AX.t 147) (AX.t 148), none⟩,
          ⟨none, AOp.store 32 (AX.t 158) (AX.t 156), none⟩] [0, 1, 4, 12, 13])
        (.seq
        (.region [] [⟨some 159, AOp.mov (AX.t 12), none⟩,
          ⟨some 160, AOp.bin (BinOp.add) (AX.t 159) (AX.c (AV.int (IntKind.i64) 1)), none⟩,
          ⟨some 12, AOp.mov (AX.t 160), none⟩] [0, 1, 4, 12, 13])
        (.region [] [⟨some 161, AOp.mov (AX.t 13), none⟩,
          ⟨some 162, AOp.bin (BinOp.sub) (AX.t 161) (AX.c (AV.int (IntKind.i64) 1)), none⟩,
          ⟨some 13, AOp.mov (AX.t 162), none⟩] [0, 1, 4, 12, 13])))))))))
  (.seq
  (.region [0, 1, 2, 3, 4, 5, 6, 7, 8, 9, 10, 11, 12, 13, 14, 15] [⟨some 163, AOp.mov (AX.t 0), none⟩,
    ⟨some 164, AOp.mov (AX.t 13), none⟩,
    ⟨some 165, AOp.mov (AX.t 0), none⟩,
    ⟨some 166, AOp.mov (AX.t 1), none⟩,
    ⟨some 167, AOp.mov (AX.t 0), none⟩,
    ⟨some 168, AOp.mov (AX.t 1), none⟩,
    ⟨some 169, AOp.indexS 32 (AX.t 167) (AX.t 168), none⟩,
    ⟨some 170, AOp.load true 32 (AX.t 169), none⟩,
    ⟨some 171, AOp.mov (AX.t 0), none⟩,
    ⟨some 172, AOp.mov (AX.t 13), none⟩,
    ⟨some 173, AOp.indexS 32 (AX.t 171) (AX.t 172), none⟩,
    ⟨some 174, AOp.load true 32 (AX.t 173), none⟩,
    ⟨some 175, AOp.indexS 32 (AX.t 163) (AX.t 164), none⟩,
    ⟨none, AOp.store 32 (AX.t 175) (AX.t 170), none⟩,
    ⟨some 176, AOp.indexS 32 (AX.t 165) (AX.t 166), none⟩,
    ⟨none, AOp.store 32 (AX.t 176) (AX.t 174), none⟩] [13])
  (.seq
  (.region [] [⟨some 177, AOp.mov (AX.t 13), none⟩,
    ⟨some 10, AOp.mov (AX.t 177), none⟩,
    ⟨some 11, AOp.mov (AX.c (AV.bool false)), none⟩] [10, 11])
  AC.ret))))))))))))⟩

def a42 : AF := ⟨[ARes.t 2],
  (.seq
  (.region [] [⟨some 2, AOp.mov (AX.c (AV.int (IntKind.i64) 0)), none⟩] [0, 2])
  (.seq
  (.seq
  (.region [] [⟨some 3, AOp.mov (AX.t 0), none⟩,
    ⟨some 4, AOp.bin (BinOp.geq) (AX.t 3) (AX.c (AV.int (IntKind.u32) 65536)), none⟩] [0, 2, 4])
  (.cond (AX.t 4)
    (.seq
    (.region [] [⟨some 5, AOp.mov (AX.t 0), none⟩,
      ⟨some 6, AOp.bin (BinOp.shr) (AX.t 5) (AX.c (AV.int (IntKind.u64) 16)), none⟩,
      ⟨some 0, AOp.mov (AX.t 6), none⟩] [0])
    (.region [] [⟨some 2, AOp.mov (AX.c (AV.int (IntKind.i64) 16)), none⟩] [0, 2]))
    AC.skip))
  (.seq
  (.seq
  (.region [] [⟨some 7, AOp.mov (AX.t 0), none⟩,
    ⟨some 8, AOp.bin (BinOp.geq) (AX.t 7) (AX.c (AV.int (IntKind.u32) 256)), none⟩] [0, 2, 8])
  (.cond (AX.t 8)
    (.seq
    (.region [] [⟨some 9, AOp.mov (AX.t 0), none⟩,
      ⟨some 10, AOp.bin (BinOp.shr) (AX.t 9) (AX.c (AV.int (IntKind.u64) 8)), none⟩,
      ⟨some 0, AOp.mov (AX.t 10), none⟩] [0, 2])
    (.region [] [⟨some 11, AOp.mov (AX.t 2), none⟩,
      ⟨some 12, AOp.bin (BinOp.add) (AX.t 11) (AX.c (AV.int (IntKind.i64) 8)), none⟩,
      ⟨some 2, AOp.mov (AX.t 12), none⟩] [0, 2]))
    AC.skip))
  (.seq
  (.region [] [⟨some 13, AOp.mov (AX.t 2), none⟩,
    ⟨some 14, AOp.mov (AX.t 0), none⟩,
    ⟨some 15, AOp.convI (IntKind.u8) (AX.t 14), none⟩,
    ⟨some 16, AOp.indexStr (AX.c (AV.str [0, 1, 2, 2, 3, 3, 3, 3, 4, 4, 4, 4, 4, 4, 4, 4, 5, 5, 5, 5, 5, 5, 5, 5, 5, 5, 5, 5, 5, 5, 5, 5, 6, 6, 6, 6, 6, 6, 6, 6, 6, 6, 6, 6, 6, 6, 6, 6, 6, 6, 6, 6, 6, 6, 6, 6, 6, 6, 6, 6, 6, 6, 6, 6, 7, 7, 7, 7, 7, 7, 7, 7, 7, 7, 7, 7, 7, 7, 7, 7, 7, 7, 7, 7, 7, 7, 7, 7, 7, 7, 7, 7, 7, 7, 7, 7, 7, 7, 7, 7, 7, 7, 7, 7, 7, 7, 7, 7, 7, 7, 7, 7, 7, 7, 7, 7, 7, 7, 7, 7, 7, 7, 7, 7, 7, 7, 7, 7, 8, 8, 8, 8, 8, 8, 8, 8, 8, 8, 8, 8, 8, 8, 8, 8, 8, 8, 8, 8, 8, 8, 8, 8, 8, 8, 8, 8, 8, 8, 8, 8, 8, 8, 8, 8, 8, 8, 8, 8, 8, 8, 8, 8, 8, 8, 8, 8, 8, 8, 8, 8, 8, 8, 8, 8, 8, 8, 8, 8, 8, 8, 8, 8, 8, 8, 8, 8, 8, 8, 8, 8, 8, 8, 8, 8, 8, 8, 8, 8, 8, 8, 8, 8, 8, 8, 8, 8, 8, 8, 8, 8, 8, 8, 8, 8, 8, 8, 8, 8, 8, 8, 8, 8, 8, 8, 8, 8, 8, 8, 8, 8, 8, 8, 8, 8, 8, 8, 8, 8, 8, 8, 8, 8, 8, 8, 8, 8])) (AX.t 15), none⟩,
    ⟨some 17, AOp.convI (IntKind.i64) (AX.t 16), none⟩,
    ⟨some 18, AOp.bin (BinOp.add) (AX.t 13) (AX.t 17), none⟩,
    ⟨some 2, AOp.mov (AX.t 18), none⟩] [2])
  AC.ret))))⟩

def a43 : AF := ⟨[ARes.t 2],
  (.seq
  (.region [] [⟨some 2, AOp.mov (AX.c (AV.int (IntKind.i64) 0)), none⟩] [0, 2])
  (.seq
  (.seq
  (.region [] [⟨some 3, AOp.mov (AX.t 0), none⟩,
    ⟨some 4, AOp.bin (BinOp.geq) (AX.t 3) (AX.c (AV.int (IntKind.u64) 4294967296)), none⟩] [0, 2, 4])
  (.cond (AX.t 4)
    (.seq
    (.region [] [⟨some 5, AOp.mov (AX.t 0), none⟩,
      ⟨some 6, AOp.bin (BinOp.shr) (AX.t 5) (AX.c (AV.int (IntKind.u64) 32)), none⟩,
      ⟨some 0, AOp.mov (AX.t 6), none⟩] [0])
    (.region [] [⟨some 2, AOp.mov (AX.c (AV.int (IntKind.i64) 32)), none⟩] [0, 2]))
    AC.skip))
  (.seq
  (.seq
  (.region [] [⟨some 7, AOp.mov (AX.t 0), none⟩,
    ⟨some 8, AOp.bin (BinOp.geq) (AX.t 7) (AX.c (AV.int (IntKind.u64) 65536)), none⟩] [0, 2, 8])
  (.cond (AX.t 8)
    (.seq
    (.region [] [⟨some 9, AOp.mov (AX.t 0), none⟩,
      ⟨some 10, AOp.bin (BinOp.shr) (AX.t 9) (AX.c (AV.int (IntKind.u64) 16)), none⟩,
      ⟨some 0, AOp.mov (AX.t 10), none⟩] [0, 2])
    (.region [] [⟨some 11, AOp.mov (AX.t 2), none⟩,
      ⟨some 12, AOp.bin (BinOp.add) (AX.t 11) (AX.c (AV.int (IntKind.i64) 16)), none⟩,
      ⟨some 2, AOp.mov (AX.t 12), none⟩] [0, 2]))
    AC.skip))
  (.seq
  (.seq
  (.region [] [⟨some 13, AOp.mov (AX.t 0), none⟩,
    ⟨some 14, AOp.bin (BinOp.geq) (AX.t 13) (AX.c (AV.int (IntKind.u64) 256)), none⟩] [0, 2, 14])
  (.cond (AX.t 14)
    (.seq
    (.region [] [⟨some 15, AOp.mov (AX.t 0), none⟩,
      ⟨some 16, AOp.bin (BinOp.shr) (AX.t 15) (AX.c (AV.int (IntKind.u64) 8)), none⟩,
      ⟨some 0, AOp.mov (AX.t 16), none⟩] [0, 2])
    (.region [] [⟨some 17, AOp.mov (AX.t 2), none⟩,
      ⟨some 18, AOp.bin (BinOp.add) (AX.t 17) (AX.c (AV.int (IntKind.i64) 8)), none⟩,
      ⟨some 2, AOp.mov (AX.t 18), none⟩] [0, 2]))
    AC.skip))
  (.seq
  (.region [] [⟨some 19, AOp.mov (AX.t 2), none⟩,
    ⟨some 20, AOp.mov (AX.t 0), none⟩,
    ⟨some 21, AOp.convI (IntKind.u8) (AX.t 20), none⟩,
    ⟨some 22, AOp.indexStr (AX.c (AV.str [0, 1, 2, 2, 3, 3, 3, 3, 4, 4, 4, 4, 4, 4, 4, 4, 5, 5, 5, 5, 5, 5, 5, 5, 5, 5, 5, 5, 5, 5, 5, 5, 6, 6, 6, 6, 6, 6, 6, 6, 6, 6, 6, 6, 6, 6, 6, 6, 6, 6, 6, 6, 6, 6, 6, 6, 6, 6, 6, 6, 6, 6, 6, 6, 7, 7, 7, 7, 7, 7, 7, 7, 7, 7, 7, 7, 7, 7, 7, 7, 7, 7, 7, 7, 7, 7, 7, 7, 7, 7, 7, 7, 7, 7, 7, 7, 7, 7, 7, 7, 7, 7, 7, 7, 7, 7, 7, 7, 7, 7, 7, 7, 7, 7, 7, 7, 7, 7, 7, 7, 7, 7, 7, 7, 7, 7, 7, 7, 8, 8, 8, 8, 8, 8, 8, 8, 8, 8, 8, 8, 8, 8, 8, 8, 8, 8, 8, 8, 8, 8, 8, 8, 8, 8, 8, 8, 8, 8, 8, 8, 8, 8, 8, 8, 8, 8, 8, 8, 8, 8, 8, 8, 8, 8, 8, 8, 8, 8, 8, 8, 8, 8, 8, 8, 8, 8, 8, 8, 8, 8, 8, 8, 8, 8, 8, 8, 8, 8, 8, 8, 8, 8, 8, 8, 8, 8, 8, 8, 8, 8, 8, 8, 8, 8, 8, 8, 8, 8, 8, 8, 8, 8, 8, 8, 8, 8, 8, 8, 8, 8, 8, 8, 8, 8, 8, 8, 8, 8, 8, 8, 8, 8, 8, 8, 8, 8, 8, 8, 8, 8, 8, 8, 8, 8, 8, 8])) (AX.t 21), none⟩,
    ⟨some 23, AOp.convI (IntKind.i64) (AX.t 22), none⟩,
    ⟨some 24, AOp.bin (BinOp.add) (AX.t 19) (AX.t 23), none⟩,
    ⟨some 2, AOp.mov (AX.t 24), none⟩] [2])
  AC.ret)))))⟩

def a44 : AF := ⟨[],
  (.seq
  (.region [] [⟨some 12, AOp.mov (AX.t 1), none⟩,
    ⟨some 10, AOp.mov (AX.t 12), none⟩] [0, 2, 3, 4, 10])
  (.block 0
    (.loop
      (.block 1
        (.seq
        (.region [] [⟨some 13, AOp.mov (AX.t 10), none⟩,
          ⟨some 14, AOp.bin (BinOp.mul) (AX.c (AV.int (IntKind.i64) 2)) (AX.t 13), none⟩,
          ⟨some 15, AOp.bin (BinOp.add) (AX.t 14) (AX.c (AV.int (IntKind.i64) 1)), none⟩,
          ⟨some 11, AOp.mov (AX.t 15), none⟩] [0, 2, 3, 4, 10, 11])
        (.seq
        (.seq
        (.region [] [⟨some 16, AOp.mov (AX.t 11), none⟩,
          ⟨some 17, AOp.mov (AX.t 2), none⟩,
          ⟨some 18, AOp.bin (BinOp.geq) (AX.t 16) (AX.t 17), none⟩] [0, 2, 3, 4, 10, 11, 18])
        (.cond (AX.t 18)
          (.exit 0)
          AC.skip))
        (.seq
        (.seq
        (.region [0, 1, 2, 3, 4, 5, 6, 7, 8, 9, 10, 11, 12, 13, 14, 15, 16, 17, 18, 19, 20, 21] [⟨some 19, AOp.mov (AX.t 11), none⟩,
          ⟨some 20, AOp.bin (BinOp.add) (AX.t 19) (AX.c (AV.int (IntKind.i64) 1)), none⟩,
          ⟨some 21, AOp.mov (AX.t 2), none⟩,
          ⟨some 22, AOp.bin (BinOp.lss) (AX.t 20) (AX.t 21), none⟩,
          ⟨some 23, AOp.mov (AX.t 22), none⟩,
          ⟨some 24, AOp.mov (AX.t 4), some (23, true)⟩,
          ⟨some 25, AOp.mov (AX.t 0), some (23, true)⟩,
          ⟨some 26, AOp.mov (AX.t 3), some (23, true)⟩,
          ⟨some 27, AOp.mov (AX.t 11), some (23, true)⟩,
          ⟨some 28, AOp.bin (BinOp.add) (AX.t 26) (AX.t 27), some (23, true)⟩,
          ⟨some 29, AOp.indexS 32 (AX.t 25) (AX.t 28), some (23, true)⟩,
          ⟨some 30, AOp.load true 32 (AX.t 29), some (23, true)⟩,
          ⟨some 31, AOp.mov (AX.t 0), some (23, true)⟩,
          ⟨some 32, AOp.mov (AX.t 3), some (23, true)⟩,
          ⟨some 33, AOp.mov (AX.t 11), some (23, true)⟩,
          ⟨some 34, AOp.bin (BinOp.add) (AX.t 32) (AX.t 33), some (23, true)⟩,
          ⟨some 35, AOp.bin (BinOp.add) (AX.t 34) (AX.c (AV.int (IntKind.i64) 1)), some (23, true)⟩,
          ⟨some 36, AOp.indexS 32 (AX.t 31) (AX.t 35), some (23, true)⟩,
          ⟨some 37, AOp.load true 32 (AX.t 36), some (23, true)⟩,
          ⟨some 38, AOp.callV (AX.t 24) [AX.t 30, AX.t 37], some (23, true)⟩,
          ⟨some 39, AOp.bin (BinOp.lss) (AX.t 38) (AX.c (AV.int (IntKind.i64) 0)), some (23, true)⟩,
          ⟨some 40, AOp.pick (AX.t 23) (AX.t 39) (AX.c (AV.bool false)), none⟩] [0, 2, 3, 4, 10, 11, 40])
        (.cond (AX.t 40)
          (.region [] [⟨some 41, AOp.mov (AX.t 11), none⟩,
            ⟨some 42, AOp.bin (BinOp.add) (AX.t 41) (AX.c (AV.int (IntKind.i64) 1)), none⟩,
            ⟨some 11, AOp.mov (AX.t 42), none⟩] [0, 2, 3, 4, 10, 11])
          AC.skip))
        (.seq
        (.seq
        (.region [0, 1, 2, 3, 4, 5, 6, 7, 8, 9, 10, 11, 12, 13, 14, 15] [⟨some 43, AOp.mov (AX.t 4), none⟩,
          ⟨some 44, AOp.mov (AX.t 0), none⟩,
          ⟨some 45, AOp.mov (AX.t 3), none⟩,
          ⟨some 46, AOp.mov (AX.t 10), none⟩,
          ⟨some 47, AOp.bin (BinOp.add) (AX.t 45) (AX.t 46), none⟩,
          ⟨some 48, AOp.indexS 32 (AX.t 44) (AX.t 47), none⟩,
          ⟨some 49, AOp.load true 32 (AX.t 48), none⟩,
          ⟨some 50, AOp.mov (AX.t 0), none⟩,
          ⟨some 51, AOp.mov (AX.t 3), none⟩,
          ⟨some 52, AOp.mov (AX.t 11), none⟩,
          ⟨some 53, AOp.bin (BinOp.add) (AX.t 51) (AX.t 52), none⟩,
          ⟨some 54, AOp.indexS 32 (AX.t 50) (AX.t 53), none⟩,
          ⟨some 55, AOp.load true 32 (AX.t 54), none⟩,
          ⟨some 56, AOp.callV (AX.t 43) [AX.t 49, AX.t 55], none⟩,
          ⟨some 57, AOp.bin (BinOp.lss) (AX.t 56) (AX.c (AV.int (IntKind.i64) 0)), none⟩,
          ⟨some 58, AOp.un (UnOp.not) (AX.t 57), none⟩] [0, 2, 3, 4, 10, 11, 58])
        (.cond (AX.t 58)
          AC.ret
          AC.skip))
        (.seq
        (.region [0, 1, 2, 3, 4, 5, 6, 7, 8, 9, 10, 11, 12, 13, 14, 15, 16, 17, 18, 19, 20, 21, 22, 23] [⟨some 59, AOp.mov (AX.t 0), none⟩,
          ⟨some 60, AOp.mov (AX.t 3), none⟩,
          ⟨some 61, AOp.mov (AX.t 10), none⟩,
          ⟨some 62, AOp.bin (BinOp.add) (AX.t 60) (AX.t 61), none⟩,
          ⟨some 63, AOp.mov (AX.t 0), none⟩,
          ⟨some 64, AOp.mov (AX.t 3), none⟩,
          ⟨some 65, AOp.mov (AX.t 11), none⟩,
          ⟨some 66, AOp.bin (BinOp.add) (AX.t 64) (AX.t 65), none⟩,
          ⟨some 67, AOp.mov (AX.t 0), none⟩,
          ⟨some 68, AOp.mov (AX.t 3), none⟩,
          ⟨some 69, AOp.mov (AX.t 11), none⟩,
          ⟨some 70, AOp.bin (BinOp.add) (AX.t 68) (AX.t 69), none⟩,
          ⟨some 71, AOp.indexS 32 (AX.t 67) (AX.t 70), none⟩,
          ⟨some 72, AOp.load true 32 (AX.t 71), none⟩,
          ⟨some 73, AOp.mov (AX.t 0), none⟩,
          ⟨some 74, AOp.mov (AX.t 3), none⟩,
          ⟨some 75, AOp.mov (AX.t 10), none⟩,
          ⟨some 76, AOp.bin (BinOp.add) (AX.t 74) (AX.t 75), none⟩,
          ⟨some 77, AOp.indexS 32 (AX.t 73) (AX.t 76), none⟩,
          ⟨some 78, AOp.load true 32 (AX.t 77), none⟩,
          ⟨some 79, AOp.indexS 32 (AX.t 59) (AX.t 62), none⟩,
          ⟨none, AOp.store 32 (AX.t 79) (AX.t 72), none⟩,
          ⟨some 80, AOp.indexS 32 (AX.t 63) (AX.t 66), none⟩,
          ⟨none, AOp.store 32 (AX.t 80) (AX.t 78), none⟩] [0, 2, 3, 4, 11])
        (.region [] [⟨some 81, AOp.mov (AX.t 11), none⟩,
          ⟨some 10, AOp.mov (AX.t 81), none⟩] [0, 2, 3, 4, 10]))))))))))⟩

def a45 : AF := ⟨[ARes.t 2],
  (.seq
  (.region [] [⟨some 2, AOp.mov (AX.c (AV.int (IntKind.u64) 0)), none⟩] [0])
  (.seq
  (.region [] [⟨some 3, AOp.mov (AX.t 0), none⟩,
    ⟨some 4, AOp.convI (IntKind.u64) (AX.t 3), none⟩,
    ⟨some 5, AOp.call 33 [AX.t 4], none⟩,
    ⟨some 6, AOp.bin (BinOp.shl) (AX.c (AV.int (IntKind.u64) 1)) (AX.t 5), none⟩,
    ⟨some 2, AOp.mov (AX.t 6), none⟩] [2])
  AC.ret))⟩

def a46 : AF := ⟨[ARes.t 2],
  (.seq
  (.region [] [⟨some 2, AOp.mov (AX.c (AV.int (IntKind.u64) 0)), none⟩] [0])
  (.seq
  (.region [0, 1, 2, 3, 4, 5, 6, 7, 8, 9] [⟨some 3, AOp.mov (AX.t 0), none⟩,
    ⟨some 4, AOp.nilCheck (AX.t 3), none⟩,
    ⟨some 5, AOp.load false 1 (AX.t 4), none⟩,
    ⟨some 6, AOp.mov (AX.t 0), none⟩,
    ⟨some 7, AOp.nilCheck (AX.t 6), none⟩,
    ⟨some 8, AOp.load false 1 (AX.t 7), none⟩,
    ⟨some 9, AOp.bin (BinOp.shl) (AX.t 8) (AX.c (AV.int (IntKind.u64) 13)), none⟩,
    ⟨some 10, AOp.bin (BinOp.xor) (AX.t 5) (AX.t 9), none⟩,
    ⟨some 11, AOp.nilCheck (AX.t 3), none⟩,
    ⟨none, AOp.store 1 (AX.t 11) (AX.t 10), none⟩] [0])
  (.seq
  (.region [0, 1, 2, 3, 4, 5, 6, 7, 8, 9] [⟨some 12, AOp.mov (AX.t 0), none⟩,
    ⟨some 13, AOp.nilCheck (AX.t 12), none⟩,
    ⟨some 14, AOp.load false 1 (AX.t 13), none⟩,
    ⟨some 15, AOp.mov (AX.t 0), none⟩,
    ⟨some 16, AOp.nilCheck (AX.t 15), none⟩,
    ⟨some 17, AOp.load false 1 (AX.t 16), none⟩,
    ⟨some 18, AOp.bin (BinOp.shr) (AX.t 17) (AX.c (AV.int (IntKind.u64) 7)), none⟩,
    ⟨some 19, AOp.bin (BinOp.xor) (AX.t 14) (AX.t 18), none⟩,
    ⟨some 20, AOp.nilCheck (AX.t 12), none⟩,
    ⟨none, AOp.store 1 (AX.t 20) (AX.t 19), none⟩] [0])
  (.seq
  (.region [0, 1, 2, 3, 4, 5, 6, 7, 8, 9] [⟨some 21, AOp.mov (AX.t 0), none⟩,
    ⟨some 22, AOp.nilCheck (AX.t 21), none⟩,
    ⟨some 23, AOp.load false 1 (AX.t 22), none⟩,
    ⟨some 24, AOp.mov (AX.t 0), none⟩,
    ⟨some 25, AOp.nilCheck (AX.t 24), none⟩,
    ⟨some 26, AOp.load false 1 (AX.t 25), none⟩,
    ⟨some 27, AOp.bin (BinOp.shl) (AX.t 26) (AX.c (AV.int (IntKind.u64) 17)), none⟩,
    ⟨some 28, AOp.bin (BinOp.xor) (AX.t 23) (AX.t 27), none⟩,
    ⟨some 29, AOp.nilCheck (AX.t 21), none⟩,
    ⟨none, AOp.store 1 (AX.t 29) (AX.t 28), none⟩] [0])
  (.seq
  (.region [] [⟨some 30, AOp.mov (AX.t 0), none⟩,
    ⟨some 31, AOp.nilCheck (AX.t 30), none⟩,
    ⟨some 32, AOp.load false 1 (AX.t 31), none⟩,
    ⟨some 2, AOp.mov (AX.t 32), none⟩] [2])
  AC.ret)))))⟩

def a47 : AF := ⟨[ARes.t 8],
  (.seq
  (.region [] [⟨some 8, AOp.mov (AX.c (AV.int (IntKind.i64) 0)), none⟩] [0, 1, 2, 3])
  (.seq
  (.region [] [⟨some 9, AOp.mov (AX.t 0), none⟩,
    ⟨some 10, AOp.mov (AX.t 1), none⟩,
    ⟨some 11, AOp.bin (BinOp.sub) (AX.t 10) (AX.c (AV.int (IntKind.i64) 1)), none⟩,
    ⟨some 12, AOp.mov (AX.t 1), none⟩,
    ⟨some 13, AOp.mov (AX.t 1), none⟩,
    ⟨some 14, AOp.bin (BinOp.add) (AX.t 13) (AX.c (AV.int (IntKind.i64) 1)), none⟩,
    ⟨some 15, AOp.mov (AX.t 2), none⟩,
    ⟨some 16, AOp.mov (AX.t 3), none⟩,
    ⟨some 17, AOp.call 48 [AX.t 9, AX.t 11, AX.t 12, AX.t 14, AX.t 15, AX.t 16], none⟩,
    ⟨some 8, AOp.mov (AX.t 17), none⟩] [8])
  AC.ret))⟩

def a48 : AF := ⟨[ARes.t 12],
  (.seq
  (.region [] [⟨some 12, AOp.mov (AX.c (AV.int (IntKind.i64) 0)), none⟩] [0, 1, 2, 3, 4, 5])
  (.seq
  (.region [] [⟨some 14, AOp.mov (AX.t 0), none⟩,
    ⟨some 15, AOp.mov (AX.t 1), none⟩,
    ⟨some 16, AOp.mov (AX.t 2), none⟩,
    ⟨some 17, AOp.mov (AX.t 4), none⟩,
    ⟨some 18, AOp.mov (AX.t 5), none⟩,
    ⟨some 19, AOp.call 49 [AX.t 14, AX.t 15, AX.t 16, AX.t 17, AX.t 18], none⟩,
    ⟨some 13, AOp.mov (AX.t 19), none⟩,
    ⟨some 20, AOp.extract (AX.t 13) 0, none⟩,
    ⟨some 21, AOp.extract (AX.t 13) 1, none⟩,
    ⟨some 1, AOp.mov (AX.t 20), none⟩,
    ⟨some 2, AOp.mov (AX.t 21), none⟩] [0, 1, 2, 3, 4, 5])
  (.seq
  (.region [] [⟨some 23, AOp.mov (AX.t 0), none⟩,
    ⟨some 24, AOp.mov (AX.t 2), none⟩,
    ⟨some 25, AOp.mov (AX.t 3), none⟩,
    ⟨some 26, AOp.mov (AX.t 4), none⟩,
    ⟨some 27, AOp.mov (AX.t 5), none⟩,
    ⟨some 28, AOp.call 49 [AX.t 23, AX.t 24, AX.t 25, AX.t 26, AX.t 27], none⟩,
    ⟨some 22, AOp.mov (AX.t 28), none⟩,
    ⟨some 29, AOp.extract (AX.t 22) 0, none⟩,
    ⟨some 30, AOp.extract (AX.t 22) 1, none⟩,
    ⟨some 2, AOp.mov (AX.t 29), none⟩,
    ⟨some 3, AOp.mov (AX.t 30), none⟩] [0, 1, 2, 4, 5])
  (.seq
  (.region [] [⟨some 32, AOp.mov (AX.t 0), none⟩,
    ⟨some 33, AOp.mov (AX.t 1), none⟩,
    ⟨some 34, AOp.mov (AX.t 2), none⟩,
    ⟨some 35, AOp.mov (AX.t 4), none⟩,
    ⟨some 36, AOp.mov (AX.t 5), none⟩,
    ⟨some 37, AOp.call 49 [AX.t 32, AX.t 33, AX.t 34, AX.t 35, AX.t 36], none⟩,
    ⟨some 31, AOp.mov (AX.t 37), none⟩,
    ⟨some 38, AOp.extract (AX.t 31) 0, none⟩,
    ⟨some 39, AOp.extract (AX.t 31) 1, none⟩,
    ⟨some 1, AOp.mov (AX.t 38), none⟩,
    ⟨some 2, AOp.mov (AX.t 39), none⟩] [2])
  (.seq
  (.region [] [⟨some 40, AOp.mov (AX.t 2), none⟩,
    ⟨some 12, AOp.mov (AX.t 40), none⟩] [12])
  AC.ret)))))⟩

def a49 : AF := ⟨[ARes.t 10,ARes.t 11],
  (.seq
  (.region [] [⟨some 10, AOp.mov (AX.c (AV.int (IntKind.i64) 0)), none⟩,
    ⟨some 11, AOp.mov (AX.c (AV.int (IntKind.i64) 0)), none⟩] [0, 1, 2, 3, 4])
  (.seq
  (.seq
  (.region [0, 1, 2, 3, 4, 5, 6, 7, 8, 9, 10] [⟨some 12, AOp.mov (AX.t 4), none⟩,
    ⟨some 13, AOp.mov (AX.t 0), none⟩,
    ⟨some 14, AOp.mov (AX.t 2), none⟩,
    ⟨some 15, AOp.indexS 32 (AX.t 13) (AX.t 14), none⟩,
    ⟨some 16, AOp.load true 32 (AX.t 15), none⟩,
    ⟨some 17, AOp.mov (AX.t 0), none⟩,
    ⟨some 18, AOp.mov (AX.t 1), none⟩,
    ⟨some 19, AOp.indexS 32 (AX.t 17) (AX.t 18), none⟩,
    ⟨some 20, AOp.load true 32 (AX.t 19), none⟩,
    ⟨some 21, AOp.callV (AX.t 12) [AX.t 16, AX.t 20], none⟩,
    ⟨some 22, AOp.bin (BinOp.lss) (AX.t 21) (AX.c (AV.int (IntKind.i64) 0)), none⟩] [1, 2, 3, 22])
  (.cond (AX.t 22)
    (.seq
    (.region [] [⟨some 23, AOp.mov (AX.t 3), none⟩,
      ⟨some 24, AOp.nilCheck (AX.t 23), none⟩,
      ⟨some 25, AOp.load false 1 (AX.t 24), none⟩,
      ⟨some 26, AOp.bin (BinOp.add) (AX.t 25) (AX.c (AV.int (IntKind.i64) 1)), none⟩,
      ⟨some 27, AOp.nilCheck (AX.t 23), none⟩,
      ⟨none, AOp.store 1 (AX.t 27) (AX.t 26), none⟩] [1, 2])
    (.seq
    (.region [] [⟨some 28, AOp.mov (AX.t 2), none⟩,
      ⟨some 29, AOp.mov (AX.t 1), none⟩,
      ⟨some 10, AOp.mov (AX.t 28), none⟩,
      ⟨some 11, AOp.mov (AX.t 29), none⟩] [10, 11])
    AC.ret))
    AC.skip))
  (.seq
  (.region [] [⟨some 30, AOp.mov (AX.t 1), none⟩,
    ⟨some 31, AOp.mov (AX.t 2), none⟩,
    ⟨some 10, AOp.mov (AX.t 30), none⟩,
    ⟨some 11, AOp.mov (AX.t 31), none⟩] [10, 11])
  AC.ret)))⟩


end Go.Proofs.Ytdjlcddkfjbebaa.Im

/- S18Tabs: the table of the functions. -/
namespace Go.Proofs.Ytdjlcddkfjbebaa.Im
open Go Go.Im

def tab : Array (Option AF) := #[none, none, none, none, none, none, some a6, none, some a8, some a9, some a10, some a11, some a12, some a13, some a14, some a15, some a16, some a17, some a18, some a19, some a20, some a21, some a22, some a23, some a24, some a25, some a26, some a27, some a28, some a29, some a30, some a31, some a32, some a33, some a34, some a35, some a36, some a37, some a38, some a39, some a40, some a41, some a42, some a43, some a44, some a45, some a46, some a47, some a48, some a49]

def F : Fns := fun f => match tab[f]? with
  | some (some x) => some (.inl x)
  | _ => none

end Go.Proofs.Ytdjlcddkfjbebaa.Im

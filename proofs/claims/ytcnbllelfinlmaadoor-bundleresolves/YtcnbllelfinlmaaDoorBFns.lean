/- S20BFns: functions of the cut, as code of the idealised machine. Written by a program (ImCompile). -/
import Derived.Test.YtcnbllelfinlmaaDoorG
namespace Go.Proofs.YtcnbllelfinlmaaDoor.Im
open Go Go.Im

def x51c : AC := 
  (.seq
  (.region [] [⟨some 81, AOp.loadL true 8 (AX.t 2), none⟩,
    ⟨some 10, AOp.allocL (AV.agg [AV.int (IntKind.u32) 0, AV.int (IntKind.u32) 0, AV.int (IntKind.u32) 0, AV.int (IntKind.u32) 0, AV.int (IntKind.u32) 0, AV.int (IntKind.u32) 0, AV.int (IntKind.u32) 0, AV.int (IntKind.u32) 0]), none⟩,
    ⟨none, AOp.store 8 (AX.t 10) (AX.t 81), none⟩] [2, 4, 5, 10])
  (.seq
  (.seq
  (.region [] [⟨some 82, AOp.loadL true 64 (AX.t 5), none⟩,
    ⟨some 83, AOp.mov (AX.c (AV.int (IntKind.i64) 0)), none⟩] [2, 4, 10, 82, 83])
  (.block 4
    (.loop
      (.seq
      (.region [] [⟨some 84, AOp.bin (BinOp.lss) (AX.t 83) (AX.c (AV.int (IntKind.i64) 64)), none⟩] [2, 4, 10, 82, 83, 84])
      (.seq
      (.cond (AX.t 84)
        AC.skip
        (.exit 4))
      (.seq
      (.block 5
        (.seq
        (.region [] [⟨some 85, AOp.mov (AX.t 83), none⟩,
          ⟨some 86, AOp.indexV 64 1 false (AX.t 82) (AX.t 83), none⟩,
          ⟨some 11, AOp.mov (AX.t 85), none⟩,
          ⟨some 12, AOp.mov (AX.t 86), none⟩] [2, 4, 10, 11, 12, 82, 83])
        (.seq
        (.region [0, 1, 2, 3, 4, 5] [⟨some 87, AOp.indexA 8 1 false (AX.t 10) (AX.c (AV.int (IntKind.i64) 4)), none⟩,
          ⟨some 88, AOp.loadL false 1 (AX.t 87), none⟩,
          ⟨some 89, AOp.indexA 8 1 false (AX.t 10) (AX.c (AV.int (IntKind.i64) 0)), none⟩,
          ⟨some 90, AOp.loadL false 1 (AX.t 89), none⟩,
          ⟨some 13, AOp.mov (AX.t 88), none⟩,
          ⟨some 14, AOp.mov (AX.t 90), none⟩] [2, 4, 10, 11, 12, 13, 14, 82, 83])
        (.seq
        (.region [0, 1, 2, 3, 4, 5, 6, 7, 8, 9, 10, 11, 12, 13, 14, 15, 16, 17, 18, 19, 20, 21, 22, 23, 24, 25, 26, 27, 28] [⟨some 91, AOp.indexA 8 1 false (AX.t 10) (AX.c (AV.int (IntKind.i64) 7)), none⟩,
          ⟨some 92, AOp.loadL false 1 (AX.t 91), none⟩,
          ⟨some 93, AOp.mov (AX.t 13), none⟩,
          ⟨some 94, AOp.callP 88 [AX.t 93, AX.c (AV.int (IntKind.i64) (-6))], none⟩,
          ⟨some 95, AOp.mov (AX.t 13), none⟩,
          ⟨some 96, AOp.callP 88 [AX.t 95, AX.c (AV.int (IntKind.i64) (-11))], none⟩,
          ⟨some 97, AOp.bin (BinOp.xor) (AX.t 94) (AX.t 96), none⟩,
          ⟨some 98, AOp.mov (AX.t 13), none⟩,
          ⟨some 99, AOp.callP 88 [AX.t 98, AX.c (AV.int (IntKind.i64) (-25))], none⟩,
          ⟨some 100, AOp.bin (BinOp.xor) (AX.t 97) (AX.t 99), none⟩,
          ⟨some 101, AOp.bin (BinOp.add) (AX.t 92) (AX.t 100), none⟩,
          ⟨some 102, AOp.mov (AX.t 13), none⟩,
          ⟨some 103, AOp.indexA 8 1 false (AX.t 10) (AX.c (AV.int (IntKind.i64) 5)), none⟩,
          ⟨some 104, AOp.loadL false 1 (AX.t 103), none⟩,
          ⟨some 105, AOp.bin (BinOp.and) (AX.t 102) (AX.t 104), none⟩,
          ⟨some 106, AOp.mov (AX.t 13), none⟩,
          ⟨some 107, AOp.un (UnOp.xor) (AX.t 106), none⟩,
          ⟨some 108, AOp.indexA 8 1 false (AX.t 10) (AX.c (AV.int (IntKind.i64) 6)), none⟩,
          ⟨some 109, AOp.loadL false 1 (AX.t 108), none⟩,
          ⟨some 110, AOp.bin (BinOp.and) (AX.t 107) (AX.t 109), none⟩,
          ⟨some 111, AOp.bin (BinOp.xor) (AX.t 105) (AX.t 110), none⟩,
          ⟨some 112, AOp.bin (BinOp.add) (AX.t 101) (AX.t 111), none⟩,
          ⟨some 113, AOp.mov (AX.t 11), none⟩,
          ⟨some 114, AOp.indexA 64 1 false (AX.c (AV.iptr G0)) (AX.t 113), none⟩,
          ⟨some 115, AOp.load false 1 (AX.t 114), none⟩,
          ⟨some 116, AOp.bin (BinOp.add) (AX.t 112) (AX.t 115), none⟩,
          ⟨some 117, AOp.mov (AX.t 12), none⟩,
          ⟨some 118, AOp.bin (BinOp.add) (AX.t 116) (AX.t 117), none⟩,
          ⟨some 15, AOp.mov (AX.t 118), none⟩] [2, 4, 10, 13, 14, 15, 82, 83])
        (.seq
        (.region [0, 1, 2, 3, 4, 5, 6, 7, 8, 9, 10, 11, 12, 13, 14, 15, 16, 17, 18, 19, 20, 21, 22, 23, 24] [⟨some 119, AOp.mov (AX.t 14), none⟩,
          ⟨some 120, AOp.callP 88 [AX.t 119, AX.c (AV.int (IntKind.i64) (-2))], none⟩,
          ⟨some 121, AOp.mov (AX.t 14), none⟩,
          ⟨some 122, AOp.callP 88 [AX.t 121, AX.c (AV.int (IntKind.i64) (-13))], none⟩,
          ⟨some 123, AOp.bin (BinOp.xor) (AX.t 120) (AX.t 122), none⟩,
          ⟨some 124, AOp.mov (AX.t 14), none⟩,
          ⟨some 125, AOp.callP 88 [AX.t 124, AX.c (AV.int (IntKind.i64) (-22))], none⟩,
          ⟨some 126, AOp.bin (BinOp.xor) (AX.t 123) (AX.t 125), none⟩,
          ⟨some 127, AOp.mov (AX.t 14), none⟩,
          ⟨some 128, AOp.indexA 8 1 false (AX.t 10) (AX.c (AV.int (IntKind.i64) 1)), none⟩,
          ⟨some 129, AOp.loadL false 1 (AX.t 128), none⟩,
          ⟨some 130, AOp.bin (BinOp.and) (AX.t 127) (AX.t 129), none⟩,
          ⟨some 131, AOp.mov (AX.t 14), none⟩,
          ⟨some 132, AOp.indexA 8 1 false (AX.t 10) (AX.c (AV.int (IntKind.i64) 2)), none⟩,
          ⟨some 133, AOp.loadL false 1 (AX.t 132), none⟩,
          ⟨some 134, AOp.bin (BinOp.and) (AX.t 131) (AX.t 133), none⟩,
          ⟨some 135, AOp.bin (BinOp.xor) (AX.t 130) (AX.t 134), none⟩,
          ⟨some 136, AOp.indexA 8 1 false (AX.t 10) (AX.c (AV.int (IntKind.i64) 1)), none⟩,
          ⟨some 137, AOp.loadL false 1 (AX.t 136), none⟩,
          ⟨some 138, AOp.indexA 8 1 false (AX.t 10) (AX.c (AV.int (IntKind.i64) 2)), none⟩,
          ⟨some 139, AOp.loadL false 1 (AX.t 138), none⟩,
          ⟨some 140, AOp.bin (BinOp.and) (AX.t 137) (AX.t 139), none⟩,
          ⟨some 141, AOp.bin (BinOp.xor) (AX.t 135) (AX.t 140), none⟩,
          ⟨some 142, AOp.bin (BinOp.add) (AX.t 126) (AX.t 141), none⟩,
          ⟨some 16, AOp.mov (AX.t 142), none⟩] [2, 4, 10, 13, 14, 15, 16, 82, 83])
        (.region [] [⟨some 143, AOp.mov (AX.t 15), none⟩,
          ⟨some 144, AOp.mov (AX.t 16), none⟩,
          ⟨some 145, AOp.bin (BinOp.add) (AX.t 143) (AX.t 144), none⟩,
          ⟨some 146, AOp.mov (AX.t 14), none⟩,
          ⟨some 147, AOp.indexA 8 1 false (AX.t 10) (AX.c (AV.int (IntKind.i64) 1)), none⟩,
          ⟨some 148, AOp.loadL false 1 (AX.t 147), none⟩,
          ⟨some 149, AOp.indexA 8 1 false (AX.t 10) (AX.c (AV.int (IntKind.i64) 2)), none⟩,
          ⟨some 150, AOp.loadL false 1 (AX.t 149), none⟩,
          ⟨some 151, AOp.indexA 8 1 false (AX.t 10) (AX.c (AV.int (IntKind.i64) 3)), none⟩,
          ⟨some 152, AOp.loadL false 1 (AX.t 151), none⟩,
          ⟨some 153, AOp.mov (AX.t 15), none⟩,
          ⟨some 154, AOp.bin (BinOp.add) (AX.t 152) (AX.t 153), none⟩,
          ⟨some 155, AOp.mov (AX.t 13), none⟩,
          ⟨some 156, AOp.indexA 8 1 false (AX.t 10) (AX.c (AV.int (IntKind.i64) 5)), none⟩,
          ⟨some 157, AOp.loadL false 1 (AX.t 156), none⟩,
          ⟨some 158, AOp.indexA 8 1 false (AX.t 10) (AX.c (AV.int (IntKind.i64) 6)), none⟩,
          ⟨some 159, AOp.loadL false 1 (AX.t 158), none⟩,
          ⟨some 160, AOp.lit [AV.int (IntKind.u32) 0, AV.int (IntKind.u32) 0, AV.int (IntKind.u32) 0, AV.int (IntKind.u32) 0, AV.int (IntKind.u32) 0, AV.int (IntKind.u32) 0, AV.int (IntKind.u32) 0, AV.int (IntKind.u32) 0] [(0, 1, AX.t 145), (1, 1, AX.t 146), (2, 1, AX.t 148), (3, 1, AX.t 150), (4, 1, AX.t 154), (5, 1, AX.t 155), (6, 1, AX.t 157), (7, 1, AX.t 159)], none⟩,
          ⟨none, AOp.store 8 (AX.t 10) (AX.t 160), none⟩] [2, 4, 10, 82, 83]))))))
      (.region [] [⟨some 161, AOp.bin (BinOp.add) (AX.t 83) (AX.c (AV.int (IntKind.i64) 1)), none⟩,
        ⟨some 83, AOp.mov (AX.t 161), none⟩] [2, 4, 10, 82, 83])))))))
  (.seq
  (.seq
  (.region [] [⟨some 162, AOp.mov (AX.c (AV.int (IntKind.i64) 0)), none⟩] [2, 4, 10, 162])
  (.block 6
    (.loop
      (.seq
      (.region [] [⟨some 163, AOp.bin (BinOp.lss) (AX.t 162) (AX.c (AV.int (IntKind.i64) 8)), none⟩] [2, 4, 10, 162, 163])
      (.seq
      (.cond (AX.t 163)
        AC.skip
        (.exit 6))
      (.seq
      (.block 7
        (.seq
        (.region [] [⟨some 164, AOp.mov (AX.t 162), none⟩,
          ⟨some 17, AOp.mov (AX.t 164), none⟩] [2, 4, 10, 17, 162])
        (.region [0, 1, 2, 3, 4, 5, 6, 7, 8] [⟨some 165, AOp.mov (AX.t 17), none⟩,
          ⟨some 166, AOp.indexA 8 1 false (AX.t 2) (AX.t 165), none⟩,
          ⟨some 167, AOp.loadL false 1 (AX.t 166), none⟩,
          ⟨some 168, AOp.mov (AX.t 17), none⟩,
          ⟨some 169, AOp.indexA 8 1 false (AX.t 10) (AX.t 168), none⟩,
          ⟨some 170, AOp.loadL false 1 (AX.t 169), none⟩,
          ⟨some 171, AOp.bin (BinOp.add) (AX.t 167) (AX.t 170), none⟩,
          ⟨some 172, AOp.indexA 8 1 false (AX.t 2) (AX.t 165), none⟩,
          ⟨none, AOp.store 1 (AX.t 172) (AX.t 171), none⟩] [2, 4, 10, 162])))
      (.region [] [⟨some 173, AOp.bin (BinOp.add) (AX.t 162) (AX.c (AV.int (IntKind.i64) 1)), none⟩,
        ⟨some 162, AOp.mov (AX.t 173), none⟩] [2, 4, 10, 162])))))))
  (.seq
  (.region [] [⟨some 174, AOp.loadL true 8 (AX.t 2), none⟩,
    ⟨none, AOp.store 8 (AX.t 4) (AX.t 174), none⟩] [4])
  AC.ret))))

def x51b : AC := 
  (.seq
        (.region [0, 1, 2, 3, 4, 5, 6, 7, 8, 9] [⟨some 41, AOp.mov (AX.t 6), none⟩,
          ⟨some 42, AOp.bin (BinOp.sub) (AX.t 41) (AX.c (AV.int (IntKind.i64) 15)), none⟩,
          ⟨some 43, AOp.indexA 64 1 false (AX.t 5) (AX.t 42), none⟩,
          ⟨some 44, AOp.loadL false 1 (AX.t 43), none⟩,
          ⟨some 45, AOp.mov (AX.t 6), none⟩,
          ⟨some 46, AOp.bin (BinOp.sub) (AX.t 45) (AX.c (AV.int (IntKind.i64) 2)), none⟩,
          ⟨some 47, AOp.indexA 64 1 false (AX.t 5) (AX.t 46), none⟩,
          ⟨some 48, AOp.loadL false 1 (AX.t 47), none⟩,
          ⟨some 8, AOp.mov (AX.t 44), none⟩,
          ⟨some 9, AOp.mov (AX.t 48), none⟩] [2, 3, 4, 5, 6, 8, 9, 18])
        (.seq
        (.region [] [⟨some 49, AOp.mov (AX.t 8), none⟩,
          ⟨some 50, AOp.callP 88 [AX.t 49, AX.c (AV.int (IntKind.i64) (-7))], none⟩,
          ⟨some 51, AOp.mov (AX.t 8), none⟩,
          ⟨some 52, AOp.callP 88 [AX.t 51, AX.c (AV.int (IntKind.i64) (-18))], none⟩,
          ⟨some 53, AOp.bin (BinOp.xor) (AX.t 50) (AX.t 52), none⟩,
          ⟨some 54, AOp.mov (AX.t 8), none⟩,
          ⟨some 55, AOp.bin (BinOp.shr) (AX.t 54) (AX.c (AV.int (IntKind.u64) 3)), none⟩,
          ⟨some 56, AOp.bin (BinOp.xor) (AX.t 53) (AX.t 55), none⟩,
          ⟨some 8, AOp.mov (AX.t 56), none⟩] [2, 3, 4, 5, 6, 8, 9, 18])
        (.seq
        (.region [] [⟨some 57, AOp.mov (AX.t 9), none⟩,
          ⟨some 58, AOp.callP 88 [AX.t 57, AX.c (AV.int (IntKind.i64) (-17))], none⟩,
          ⟨some 59, AOp.mov (AX.t 9), none⟩,
          ⟨some 60, AOp.callP 88 [AX.t 59, AX.c (AV.int (IntKind.i64) (-19))], none⟩,
          ⟨some 61, AOp.bin (BinOp.xor) (AX.t 58) (AX.t 60), none⟩,
          ⟨some 62, AOp.mov (AX.t 9), none⟩,
          ⟨some 63, AOp.bin (BinOp.shr) (AX.t 62) (AX.c (AV.int (IntKind.u64) 10)), none⟩,
          ⟨some 64, AOp.bin (BinOp.xor) (AX.t 61) (AX.t 63), none⟩,
          ⟨some 9, AOp.mov (AX.t 64), none⟩] [2, 3, 4, 5, 6, 8, 9, 18])
        (.region [0, 1, 2, 3, 4, 5, 6, 7, 8, 9, 10, 11, 12, 13, 14, 15] [⟨some 65, AOp.mov (AX.t 6), none⟩,
          ⟨some 66, AOp.mov (AX.t 6), none⟩,
          ⟨some 67, AOp.bin (BinOp.sub) (AX.t 66) (AX.c (AV.int (IntKind.i64) 16)), none⟩,
          ⟨some 68, AOp.indexA 64 1 false (AX.t 5) (AX.t 67), none⟩,
          ⟨some 69, AOp.loadL false 1 (AX.t 68), none⟩,
          ⟨some 70, AOp.mov (AX.t 8), none⟩,
          ⟨some 71, AOp.bin (BinOp.add) (AX.t 69) (AX.t 70), none⟩,
          ⟨some 72, AOp.mov (AX.t 6), none⟩,
          ⟨some 73, AOp.bin (BinOp.sub) (AX.t 72) (AX.c (AV.int (IntKind.i64) 7)), none⟩,
          ⟨some 74, AOp.indexA 64 1 false (AX.t 5) (AX.t 73), none⟩,
          ⟨some 75, AOp.loadL false 1 (AX.t 74), none⟩,
          ⟨some 76, AOp.bin (BinOp.add) (AX.t 71) (AX.t 75), none⟩,
          ⟨some 77, AOp.mov (AX.t 9), none⟩,
          ⟨some 78, AOp.bin (BinOp.add) (AX.t 76) (AX.t 77), none⟩,
          ⟨some 79, AOp.indexA 64 1 false (AX.t 5) (AX.t 65), none⟩,
          ⟨none, AOp.store 1 (AX.t 79) (AX.t 78), none⟩] [2, 3, 4, 5, 18]))))

def x51a : AC := 
  (.seq
          (.region [] [⟨some 23, AOp.mov (AX.c (AV.int (IntKind.i64) 0)), none⟩] [2, 3, 4, 5, 6, 18, 23])
          (.block 2
            (.loop
              (.seq
              (.region [] [⟨some 24, AOp.bin (BinOp.lss) (AX.t 23) (AX.c (AV.int (IntKind.i64) 4)), none⟩] [2, 3, 4, 5, 6, 18, 23, 24])
              (.seq
              (.cond (AX.t 24)
                AC.skip
                (.exit 2))
              (.seq
              (.block 3
                (.seq
                (.region [] [⟨some 25, AOp.mov (AX.t 23), none⟩,
                  ⟨some 7, AOp.mov (AX.t 25), none⟩] [2, 3, 4, 5, 6, 7, 18, 23])
                (.region [0, 1, 2, 3, 4, 5, 6, 7, 8, 9, 10, 11, 12, 13, 14] [⟨some 26, AOp.mov (AX.t 6), none⟩,
                  ⟨some 27, AOp.mov (AX.t 6), none⟩,
                  ⟨some 28, AOp.indexA 64 1 false (AX.t 5) (AX.t 27), none⟩,
                  ⟨some 29, AOp.loadL false 1 (AX.t 28), none⟩,
                  ⟨some 30, AOp.bin (BinOp.shl) (AX.t 29) (AX.c (AV.int (IntKind.u64) 8)), none⟩,
                  ⟨some 31, AOp.mov (AX.t 6), none⟩,
                  ⟨some 32, AOp.bin (BinOp.mul) (AX.c (AV.int (IntKind.i64) 4)) (AX.t 31), none⟩,
                  ⟨some 33, AOp.mov (AX.t 7), none⟩,
                  ⟨some 34, AOp.bin (BinOp.add) (AX.t 32) (AX.t 33), none⟩,
                  ⟨some 35, AOp.indexA 64 1 false (AX.t 3) (AX.t 34), none⟩,
                  ⟨some 36, AOp.loadL false 1 (AX.t 35), none⟩,
                  ⟨some 37, AOp.convI (IntKind.u32) (AX.t 36), none⟩,
                  ⟨some 38, AOp.bin (BinOp.or) (AX.t 30) (AX.t 37), none⟩,
                  ⟨some 39, AOp.indexA 64 1 false (AX.t 5) (AX.t 26), none⟩,
                  ⟨none, AOp.store 1 (AX.t 39) (AX.t 38), none⟩] [2, 3, 4, 5, 6, 18, 23])))
              (.region [] [⟨some 40, AOp.bin (BinOp.add) (AX.t 23) (AX.c (AV.int (IntKind.i64) 1)), none⟩,
                ⟨some 23, AOp.mov (AX.t 40), none⟩] [2, 3, 4, 5, 6, 18, 23])))))))

def a51 : AF := ⟨[ARes.cell 4 true 8],
  (.seq
  (.region [] [⟨some 2, AOp.boxL 8 (AX.t 0), none⟩,
    ⟨some 3, AOp.boxL 64 (AX.t 1), none⟩,
    ⟨some 4, AOp.allocL (AV.agg [AV.int (IntKind.u32) 0, AV.int (IntKind.u32) 0, AV.int (IntKind.u32) 0, AV.int (IntKind.u32) 0, AV.int (IntKind.u32) 0, AV.int (IntKind.u32) 0, AV.int (IntKind.u32) 0, AV.int (IntKind.u32) 0]), none⟩] [2, 3, 4])
  (.seq
  (.region [] [⟨some 5, AOp.allocL (AV.agg [AV.int (IntKind.u32) 0, AV.int (IntKind.u32) 0, AV.int (IntKind.u32) 0, AV.int (IntKind.u32) 0, AV.int (IntKind.u32) 0, AV.int (IntKind.u32) 0, AV.int (IntKind.u32) 0, AV.int (IntKind.u32) 0, AV.int (IntKind.u32) 0, AV.int (IntKind.u32) 0, AV.int (IntKind.u32) 0, AV.int (IntKind.u32) 0, AV.int (IntKind.u32) 0, AV.int (IntKind.u32) 0, AV.int (IntKind.u32) 0, AV.int (IntKind.u32) 0, AV.int (IntKind.u32) 0, AV.int (IntKind.u32) 0, AV.int (IntKind.u32) 0, AV.int (IntKind.u32) 0, AV.int (IntKind.u32) 0, AV.int (IntKind.u32) 0, AV.int (IntKind.u32) 0, AV.int (IntKind.u32) 0, AV.int (IntKind.u32) 0, AV.int (IntKind.u32) 0, AV.int (IntKind.u32) 0, AV.int (IntKind.u32) 0, AV.int (IntKind.u32) 0, AV.int (IntKind.u32) 0, AV.int (IntKind.u32) 0, AV.int (IntKind.u32) 0, AV.int (IntKind.u32) 0, AV.int (IntKind.u32) 0, AV.int (IntKind.u32) 0, AV.int (IntKind.u32) 0, AV.int (IntKind.u32) 0, AV.int (IntKind.u32) 0, AV.int (IntKind.u32) 0, AV.int (IntKind.u32) 0, AV.int (IntKind.u32) 0, AV.int (IntKind.u32) 0, AV.int (IntKind.u32) 0, AV.int (IntKind.u32) 0, AV.int (IntKind.u32) 0, AV.int (IntKind.u32) 0, AV.int (IntKind.u32) 0, AV.int (IntKind.u32) 0, AV.int (IntKind.u32) 0, AV.int (IntKind.u32) 0, AV.int (IntKind.u32) 0, AV.int (IntKind.u32) 0, AV.int (IntKind.u32) 0, AV.int (IntKind.u32) 0, AV.int (IntKind.u32) 0, AV.int (IntKind.u32) 0, AV.int (IntKind.u32) 0, AV.int (IntKind.u32) 0, AV.int (IntKind.u32) 0, AV.int (IntKind.u32) 0, AV.int (IntKind.u32) 0, AV.int (IntKind.u32) 0, AV.int (IntKind.u32) 0, AV.int (IntKind.u32) 0]), none⟩] [2, 3, 4, 5])
  (.seq
  (.seq
  (.region [] [⟨some 18, AOp.mov (AX.c (AV.int (IntKind.i64) 0)), none⟩] [2, 3, 4, 5, 18])
  (.block 0
    (.loop
      (.seq
      (.region [] [⟨some 19, AOp.bin (BinOp.lss) (AX.t 18) (AX.c (AV.int (IntKind.i64) 64)), none⟩] [2, 3, 4, 5, 18, 19])
      (.seq
      (.cond (AX.t 19)
        AC.skip
        (.exit 0))
      (.seq
      (.block 1
        (.seq
        (.region [] [⟨some 20, AOp.mov (AX.t 18), none⟩,
          ⟨some 6, AOp.mov (AX.t 20), none⟩] [2, 3, 4, 5, 6, 18])
        (.seq
        (.seq
        (.region [] [⟨some 21, AOp.mov (AX.t 6), none⟩,
          ⟨some 22, AOp.bin (BinOp.lss) (AX.t 21) (AX.c (AV.int (IntKind.i64) 16)), none⟩] [2, 3, 4, 5, 6, 18, 22])
        (.cond (AX.t 22)
          (.seq
          x51a
          (.exit 1))
          AC.skip))
        x51b)))
      (.region [] [⟨some 80, AOp.bin (BinOp.add) (AX.t 18) (AX.c (AV.int (IntKind.i64) 1)), none⟩,
        ⟨some 18, AOp.mov (AX.t 80), none⟩] [2, 3, 4, 5, 18])))))))
  x51c)))⟩

def a75 : AF := ⟨[ARes.t 2],
  (.seq
  (.region [] [⟨some 2, AOp.mov (AX.c (AV.int (IntKind.u32) 0)), none⟩] [0])
  (.seq
  (.region [] [⟨some 3, AOp.mov (AX.c (AV.int (IntKind.u32) 4294967295)), none⟩] [0, 3])
  (.seq
  (.seq
  (.region [] [⟨some 7, AOp.mov (AX.t 0), none⟩,
    ⟨some 8, AOp.lenS (AX.t 7), none⟩,
    ⟨some 9, AOp.mov (AX.c (AV.int (IntKind.i64) 0)), none⟩] [3, 7, 8, 9])
  (.block 0
    (.loop
      (.seq
      (.region [] [⟨some 10, AOp.bin (BinOp.lss) (AX.t 9) (AX.t 8), none⟩] [3, 7, 8, 9, 10])
      (.seq
      (.cond (AX.t 10)
        AC.skip
        (.exit 0))
      (.seq
      (.block 1
        (.seq
        (.region [] [⟨some 11, AOp.indexS 1 (AX.t 7) (AX.t 9), none⟩,
          ⟨some 12, AOp.load false 1 (AX.t 11), none⟩,
          ⟨some 5, AOp.mov (AX.t 12), none⟩] [3, 5, 7, 8, 9])
        (.seq
        (.region [] [⟨some 6, AOp.mov (AX.c (AV.int (IntKind.i64) 0)), none⟩] [3, 5, 6, 7, 8, 9])
        (.block 2
          (.loop
            (.seq
            (.seq
            (.region [] [⟨some 13, AOp.mov (AX.t 6), none⟩,
              ⟨some 14, AOp.mov (AX.t 5), none⟩,
              ⟨some 15, AOp.lenStr (AX.t 14), none⟩,
              ⟨some 16, AOp.bin (BinOp.lss) (AX.t 13) (AX.t 15), none⟩] [3, 5, 6, 7, 8, 9, 16])
            (.cond (AX.t 16)
              AC.skip
              (.exit 2)))
            (.seq
            (.block 3
              (.seq
              (.region [] [⟨some 19, AOp.mov (AX.t 3), none⟩,
                ⟨some 20, AOp.mov (AX.t 5), none⟩,
                ⟨some 21, AOp.mov (AX.t 6), none⟩,
                ⟨some 22, AOp.indexStr (AX.t 20) (AX.t 21), none⟩,
                ⟨some 23, AOp.convI (IntKind.u32) (AX.t 22), none⟩,
                ⟨some 24, AOp.bin (BinOp.xor) (AX.t 19) (AX.t 23), none⟩,
                ⟨some 3, AOp.mov (AX.t 24), none⟩] [3, 5, 6, 7, 8, 9])
              (.seq
              (.region [] [⟨some 25, AOp.mov (AX.c (AV.int (IntKind.i64) 0)), none⟩] [3, 5, 6, 7, 8, 9, 25])
              (.block 4
                (.loop
                  (.seq
                  (.region [] [⟨some 26, AOp.bin (BinOp.lss) (AX.t 25) (AX.c (AV.int (IntKind.i64) 8)), none⟩] [3, 5, 6, 7, 8, 9, 25, 26])
                  (.seq
                  (.cond (AX.t 26)
                    AC.skip
                    (.exit 4))
                  (.seq
                  (.block 5
                    (.region [] [⟨some 27, AOp.mov (AX.t 3), none⟩,
                      ⟨some 28, AOp.bin (BinOp.shr) (AX.t 27) (AX.c (AV.int (IntKind.u64) 1)), none⟩,
                      ⟨some 29, AOp.mov (AX.t 3), none⟩,
                      ⟨some 30, AOp.bin (BinOp.and) (AX.t 29) (AX.c (AV.int (IntKind.u32) 1)), none⟩,
                      ⟨some 31, AOp.un (UnOp.neg) (AX.t 30), none⟩,
                      ⟨some 32, AOp.bin (BinOp.and) (AX.c (AV.int (IntKind.u32) 2197175160)) (AX.t 31), none⟩,
                      ⟨some 33, AOp.bin (BinOp.xor) (AX.t 28) (AX.t 32), none⟩,
                      ⟨some 3, AOp.mov (AX.t 33), none⟩] [3, 5, 6, 7, 8, 9, 25]))
                  (.region [] [⟨some 34, AOp.bin (BinOp.add) (AX.t 25) (AX.c (AV.int (IntKind.i64) 1)), none⟩,
                    ⟨some 25, AOp.mov (AX.t 34), none⟩] [3, 5, 6, 7, 8, 9, 25])))))))))
            (.region [] [⟨some 17, AOp.mov (AX.t 6), none⟩,
              ⟨some 18, AOp.bin (BinOp.add) (AX.t 17) (AX.c (AV.int (IntKind.i64) 1)), none⟩,
              ⟨some 6, AOp.mov (AX.t 18), none⟩] [3, 5, 6, 7, 8, 9]))))))))
      (.region [] [⟨some 35, AOp.bin (BinOp.add) (AX.t 9) (AX.c (AV.int (IntKind.i64) 1)), none⟩,
        ⟨some 9, AOp.mov (AX.t 35), none⟩] [3, 7, 8, 9])))))))
  (.seq
  (.region [] [⟨some 36, AOp.mov (AX.t 3), none⟩,
    ⟨some 37, AOp.un (UnOp.xor) (AX.t 36), none⟩,
    ⟨some 2, AOp.mov (AX.t 37), none⟩] [2])
  AC.ret))))⟩

def a88 : AF := ⟨[ARes.t 4],
  (.seq
  (.region [] [⟨some 4, AOp.mov (AX.c (AV.int (IntKind.u32) 0)), none⟩] [0, 1])
  (.seq
  (.region [] [⟨some 6, AOp.mov (AX.t 1), none⟩,
    ⟨some 7, AOp.convI (IntKind.u64) (AX.t 6), none⟩,
    ⟨some 8, AOp.bin (BinOp.and) (AX.t 7) (AX.c (AV.int (IntKind.u64) 31)), none⟩,
    ⟨some 5, AOp.mov (AX.t 8), none⟩] [0, 5])
  (.seq
  (.region [] [⟨some 9, AOp.mov (AX.t 0), none⟩,
    ⟨some 10, AOp.mov (AX.t 5), none⟩,
    ⟨some 11, AOp.bin (BinOp.shl) (AX.t 9) (AX.t 10), none⟩,
    ⟨some 12, AOp.mov (AX.t 0), none⟩,
    ⟨some 13, AOp.mov (AX.t 5), none⟩,
    ⟨some 14, AOp.bin (BinOp.sub) (AX.c (AV.int (IntKind.u64) 32)) (AX.t 13), none⟩,
    ⟨some 15, AOp.bin (BinOp.shr) (AX.t 12) (AX.t 14), none⟩,
    ⟨some 16, AOp.bin (BinOp.or) (AX.t 11) (AX.t 15), none⟩,
    ⟨some 4, AOp.mov (AX.t 16), none⟩] [4])
  AC.ret)))⟩


end Go.Proofs.YtcnbllelfinlmaaDoor.Im

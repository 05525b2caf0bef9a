/- Joined: S21BFns, S21BTabs, S21BIs, S21Bm. -/
import Derived.Test.YtpgmohjmpaifbaaDoorG
import Derived.KernelRfl
import Derived.Test.YtpgmohjmpaifbaaDoorMx
import Derived.Test.YtpgmohjmpaifbaaDoorImRow
/- S21BFns: functions of the cut, as code of the idealised machine. Written by a program (ImCompile). -/
namespace Go.Proofs.YtpgmohjmpaifbaaDoor.Im
open Go Go.Im

def x51c : AC := 
  (.seq
  (.region [] [⟨some 81, AOp.loadL true 8 (AX.t 2), none⟩,
    ⟨some 10, AOp.allocL (AV.agg [AV.int (IntKind.u32) 0, AV.int (IntKind.u32) 0, AV.int (IntKind.u32) 0, AV.int (IntKind.u32) 0, AV.int (IntKind.u32) 0, AV.int (IntKind.u32) 0, AV.int (IntKind.u32) 0, AV.int (IntKind.u32) 0]), none⟩,
    ⟨none, AOp.store 8 (AX.t 10) (AX.t 81), none⟩] [2, 4, 5, 10])
  (.seq
  (.seq
  (.region [] [⟨some 82, AOp.loadL true 64 (AX.t 5), none⟩,
    ⟨some 83, AOp.mov (AX.c (AV.int (IntKind.i64) 0)), none⟩] [2, 4, 10, 82, 83])
  (.block 4
    (.loop
      (.seq
      (.region [] [⟨some 84, AOp.bin (BinOp.lss) (AX.t 83) (AX.c (AV.int (IntKind.i64) 64)), none⟩] [2, 4, 10, 82, 83, 84])
      (.seq
      (.cond (AX.t 84)
        AC.skip
        (.exit 4))
      (.seq
      (.block 5
        (.seq
        (.region [] [⟨some 85, AOp.mov (AX.t 83), none⟩,
          ⟨some 86, AOp.indexV 64 1 false (AX.t 82) (AX.t 83), none⟩,
          ⟨some 11, AOp.mov (AX.t 85), none⟩,
          ⟨some 12, AOp.mov (AX.t 86), none⟩] [2, 4, 10, 11, 12, 82, 83])
        (.seq
        (.region [0, 1, 2, 3, 4, 5] [⟨some 87, AOp.indexA 8 1 false (AX.t 10) (AX.c (AV.int (IntKind.i64) 4)), none⟩,
          ⟨some 88, AOp.loadL false 1 (AX.t 87), none⟩,
          ⟨some 89, AOp.indexA 8 1 false (AX.t 10) (AX.c (AV.int (IntKind.i64) 0)), none⟩,
          ⟨some 90, AOp.loadL false 1 (AX.t 89), none⟩,
          ⟨some 13, AOp.mov (AX.t 88), none⟩,
          ⟨some 14, AOp.mov (AX.t 90), none⟩] [2, 4, 10, 11, 12, 13, 14, 82, 83])
        (.seq
        (.region [0, 1, 2, 3, 4, 5, 6, 7, 8, 9, 10, 11, 12, 13, 14, 15, 16, 17, 18, 19, 20, 21, 22, 23, 24, 25, 26, 27, 28] [⟨some 91, AOp.indexA 8 1 false (AX.t 10) (AX.c (AV.int (IntKind.i64) 7)), none⟩,
          ⟨some 92, AOp.loadL false 1 (AX.t 91), none⟩,
          ⟨some 93, AOp.mov (AX.t 13), none⟩,
          ⟨some 94, AOp.callP 81 [AX.t 93, AX.c (AV.int (IntKind.i64) (-6))], none⟩,
          ⟨some 95, AOp.mov (AX.t 13), none⟩,
          ⟨some 96, AOp.callP 81 [AX.t 95, AX.c (AV.int (IntKind.i64) (-11))], none⟩,
          ⟨some 97, AOp.bin (BinOp.xor) (AX.t 94) (AX.t 96), none⟩,
          ⟨some 98, AOp.mov (AX.t 13), none⟩,
          ⟨some 99, AOp.callP 81 [AX.t 98, AX.c (AV.int (IntKind.i64) (-25))], none⟩,
          ⟨some 100, AOp.bin (BinOp.xor) (AX.t 97) (AX.t 99), none⟩,
          ⟨some 101, AOp.bin (BinOp.add) (AX.t 92) (AX.t 100), none⟩,
          ⟨some 102, AOp.mov (AX.t 13), none⟩,
          ⟨some 103, AOp.indexA 8 1 false (AX.t 10) (AX.c (AV.int (IntKind.i64) 5)), none⟩,
          ⟨some 104, AOp.loadL false 1 (AX.t 103), none⟩,
          ⟨some 105, AOp.bin (BinOp.and) (AX.t 102) (AX.t 104), none⟩,
          ⟨some 106, AOp.mov (AX.t 13), none⟩,
          ⟨some 107, AOp.un (UnOp.xor) (AX.t 106), none⟩,
          ⟨some 108, AOp.indexA 8 1 false (AX.t 10) (AX.c (AV.int (IntKind.i64) 6)), none⟩,
          ⟨some 109, AOp.loadL false 1 (AX.t 108), none⟩,
          ⟨some 110, AOp.bin (BinOp.and) (AX.t 107) (AX.t 109), none⟩,
          ⟨some 111, AOp.bin (BinOp.xor) (AX.t 105) (AX.t 110), none⟩,
          ⟨some 112, AOp.bin (BinOp.add) (AX.t 101) (AX.t 111), none⟩,
          ⟨some 113, AOp.mov (AX.t 11), none⟩,
          ⟨some 114, AOp.indexA 64 1 false (AX.c (AV.iptr G0)) (AX.t 113), none⟩,
          ⟨some 115, AOp.load false 1 (AX.t 114), none⟩,
          ⟨some 116, AOp.bin (BinOp.add) (AX.t 112) (AX.t 115), none⟩,
          ⟨some 117, AOp.mov (AX.t 12), none⟩,
          ⟨some 118, AOp.bin (BinOp.add) (AX.t 116) (AX.t 117), none⟩,
          ⟨some 15, AOp.mov (AX.t 118), none⟩] [2, 4, 10, 13, 14, 15, 82, 83])
        (.seq
        (.region [0, 1, 2, 3, 4, 5, 6, 7, 8, 9, 10, 11, 12, 13, 14, 15, 16, 17, 18, 19, 20, 21, 22, 23, 24] [⟨some 119, AOp.mov (AX.t 14), none⟩,
          ⟨some 120, AOp.callP 81 [AX.t 119, AX.c (AV.int (IntKind.i64) (-2))], none⟩,
          ⟨some 121, AOp.mov (AX.t 14), none⟩,
          ⟨some 122, AOp.callP 81 [AX.t 121, AX.c (AV.int (IntKind.i64) (-13))], none⟩,
          ⟨some 123, AOp.bin (BinOp.xor) (AX.t 120) (AX.t 122), none⟩,
          ⟨some 124, AOp.mov (AX.t 14), none⟩,
          ⟨some 125, AOp.callP 81 [AX.t 124, AX.c (AV.int (IntKind.i64) (-22))], none⟩,
          ⟨some 126, AOp.bin (BinOp.xor) (AX.t 123) (AX.t 125), none⟩,
          ⟨some 127, AOp.mov (AX.t 14), none⟩,
          ⟨some 128, AOp.indexA 8 1 false (AX.t 10) (AX.c (AV.int (IntKind.i64) 1)), none⟩,
          ⟨some 129, AOp.loadL false 1 (AX.t 128), none⟩,
          ⟨some 130, AOp.bin (BinOp.and) (AX.t 127) (AX.t 129), none⟩,
          ⟨some 131, AOp.mov (AX.t 14), none⟩,
          ⟨some 132, AOp.indexA 8 1 false (AX.t 10) (AX.c (AV.int (IntKind.i64) 2)), none⟩,
          ⟨some 133, AOp.loadL false 1 (AX.t 132), none⟩,
          ⟨some 134, AOp.bin (BinOp.and) (AX.t 131) (AX.t 133), none⟩,
          ⟨some 135, AOp.bin (BinOp.xor) (AX.t 130) (AX.t 134), none⟩,
          ⟨some 136, AOp.indexA 8 1 false (AX.t 10) (AX.c (AV.int (IntKind.i64) 1)), none⟩,
          ⟨some 137, AOp.loadL false 1 (AX.t 136), none⟩,
          ⟨some 138, AOp.indexA 8 1 false (AX.t 10) (AX.c (AV.int (IntKind.i64) 2)), none⟩,
          ⟨some 139, AOp.loadL false 1 (AX.t 138), none⟩,
          ⟨some 140, AOp.bin (BinOp.and) (AX.t 137) (AX.t 139), none⟩,
          ⟨some 141, AOp.bin (BinOp.xor) (AX.t 135) (AX.t 140), none⟩,
          ⟨some 142, AOp.bin (BinOp.add) (AX.t 126) (AX.t 141), none⟩,
          ⟨some 16, AOp.mov (AX.t 142), none⟩] [2, 4, 10, 13, 14, 15, 16, 82, 83])
        (.region [] [⟨some 143, AOp.mov (AX.t 15), none⟩,
          ⟨some 144, AOp.mov (AX.t 16), none⟩,
          ⟨some 145, AOp.bin (BinOp.add) (AX.t 143) (AX.t 144), none⟩,
          ⟨some 146, AOp.mov (AX.t 14), none⟩,
          ⟨some 147, AOp.indexA 8 1 false (AX.t 10) (AX.c (AV.int (IntKind.i64) 1)), none⟩,
          ⟨some 148, AOp.loadL false 1 (AX.t 147), none⟩,
          ⟨some 149, AOp.indexA 8 1 false (AX.t 10) (AX.c (AV.int (IntKind.i64) 2)), none⟩,
          ⟨some 150, AOp.loadL false 1 (AX.t 149), none⟩,
          ⟨some 151, AOp.indexA 8 1 false (AX.t 10) (AX.c (AV.int (IntKind.i64) 3)), none⟩,
          ⟨some 152, AOp.loadL false 1 (AX.t 151), none⟩,
          ⟨some 153, AOp.mov (AX.t 15), none⟩,
          ⟨some 154, AOp.bin (BinOp.add) (AX.t 152) (AX.t 153), none⟩,
          ⟨some 155, AOp.mov (AX.t 13), none⟩,
          ⟨some 156, AOp.indexA 8 1 false (AX.t 10) (AX.c (AV.int (IntKind.i64) 5)), none⟩,
          ⟨some 157, AOp.loadL false 1 (AX.t 156), none⟩,
          ⟨some 158, AOp.indexA 8 1 false (AX.t 10) (AX.c (AV.int (IntKind.i64) 6)), none⟩,
          ⟨some 159, AOp.loadL false 1 (AX.t 158), none⟩,
          ⟨some 160, AOp.lit [AV.int (IntKind.u32) 0, AV.int (IntKind.u32) 0, AV.int (IntKind.u32) 0, AV.int (IntKind.u32) 0, AV.int (IntKind.u32) 0, AV.int (IntKind.u32) 0, AV.int (IntKind.u32) 0, AV.int (IntKind.u32) 0] [(0, 1, AX.t 145), (1, 1, AX.t 146), (2, 1, AX.t 148), (3, 1, AX.t 150), (4, 1, AX.t 154), (5, 1, AX.t 155), (6, 1, AX.t 157), (7, 1, AX.t 159)], none⟩,
          ⟨none, AOp.store 8 (AX.t 10) (AX.t 160), none⟩] [2, 4, 10, 82, 83]))))))
      (.region [] [⟨some 161, AOp.bin (BinOp.add) (AX.t 83) (AX.c (AV.int (IntKind.i64) 1)), none⟩,
        ⟨some 83, AOp.mov (AX.t 161), none⟩] [2, 4, 10, 82, 83])))))))
  (.seq
  (.seq
  (.region [] [⟨some 162, AOp.mov (AX.c (AV.int (IntKind.i64) 0)), none⟩] [2, 4, 10, 162])
  (.block 6
    (.loop
      (.seq
      (.region [] [⟨some 163, AOp.bin (BinOp.lss) (AX.t 162) (AX.c (AV.int (IntKind.i64) 8)), none⟩] [2, 4, 10, 162, 163])
      (.seq
      (.cond (AX.t 163)
        AC.skip
        (.exit 6))
      (.seq
      (.block 7
        (.seq
        (.region [] [⟨some 164, AOp.mov (AX.t 162), none⟩,
          ⟨some 17, AOp.mov (AX.t 164), none⟩] [2, 4, 10, 17, 162])
        (.region [0, 1, 2, 3, 4, 5, 6, 7, 8] [⟨some 165, AOp.mov (AX.t 17), none⟩,
          ⟨some 166, AOp.indexA 8 1 false (AX.t 2) (AX.t 165), none⟩,
          ⟨some 167, AOp.loadL false 1 (AX.t 166), none⟩,
          ⟨some 168, AOp.mov (AX.t 17), none⟩,
          ⟨some 169, AOp.indexA 8 1 false (AX.t 10) (AX.t 168), none⟩,
          ⟨some 170, AOp.loadL false 1 (AX.t 169), none⟩,
          ⟨some 171, AOp.bin (BinOp.add) (AX.t 167) (AX.t 170), none⟩,
          ⟨some 172, AOp.indexA 8 1 false (AX.t 2) (AX.t 165), none⟩,
          ⟨none, AOp.store 1 (AX.t 172) (AX.t 171), none⟩] [2, 4, 10, 162])))
      (.region [] [⟨some 173, AOp.bin (BinOp.add) (AX.t 162) (AX.c (AV.int (IntKind.i64) 1)), none⟩,
        ⟨some 162, AOp.mov (AX.t 173), none⟩] [2, 4, 10, 162])))))))
  (.seq
  (.region [] [⟨some 174, AOp.loadL true 8 (AX.t 2), none⟩,
    ⟨none, AOp.store 8 (AX.t 4) (AX.t 174), none⟩] [4])
  AC.ret))))

def x51b : AC := 
  (.seq
        (.region [0, 1, 2, 3, 4, 5, 6, 7, 8, 9] [⟨some 41, AOp.mov (AX.t 6), none⟩,
          ⟨some 42, AOp.bin (BinOp.sub) (AX.t 41) (AX.c (AV.int (IntKind.i64) 15)), none⟩,
          ⟨some 43, AOp.indexA 64 1 false (AX.t 5) (AX.t 42), none⟩,
          ⟨some 44, AOp.loadL false 1 (AX.t 43), none⟩,
          ⟨some 45, AOp.mov (AX.t 6), none⟩,
          ⟨some 46, AOp.bin (BinOp.sub) (AX.t 45) (AX.c (AV.int (IntKind.i64) 2)), none⟩,
          ⟨some 47, AOp.indexA 64 1 false (AX.t 5) (AX.t 46), none⟩,
          ⟨some 48, AOp.loadL false 1 (AX.t 47), none⟩,
          ⟨some 8, AOp.mov (AX.t 44), none⟩,
          ⟨some 9, AOp.mov (AX.t 48), none⟩] [2, 3, 4, 5, 6, 8, 9, 18])
        (.seq
        (.region [] [⟨some 49, AOp.mov (AX.t 8), none⟩,
          ⟨some 50, AOp.callP 81 [AX.t 49, AX.c (AV.int (IntKind.i64) (-7))], none⟩,
          ⟨some 51, AOp.mov (AX.t 8), none⟩,
          ⟨some 52, AOp.callP 81 [AX.t 51, AX.c (AV.int (IntKind.i64) (-18))], none⟩,
          ⟨some 53, AOp.bin (BinOp.xor) (AX.t 50) (AX.t 52), none⟩,
          ⟨some 54, AOp.mov (AX.t 8), none⟩,
          ⟨some 55, AOp.bin (BinOp.shr) (AX.t 54) (AX.c (AV.int (IntKind.u64) 3)), none⟩,
          ⟨some 56, AOp.bin (BinOp.xor) (AX.t 53) (AX.t 55), none⟩,
          ⟨some 8, AOp.mov (AX.t 56), none⟩] [2, 3, 4, 5, 6, 8, 9, 18])
        (.seq
        (.region [] [⟨some 57, AOp.mov (AX.t 9), none⟩,
          ⟨some 58, AOp.callP 81 [AX.t 57, AX.c (AV.int (IntKind.i64) (-17))], none⟩,
          ⟨some 59, AOp.mov (AX.t 9), none⟩,
          ⟨some 60, AOp.callP 81 [AX.t 59, AX.c (AV.int (IntKind.i64) (-19))], none⟩,
          ⟨some 61, AOp.bin (BinOp.xor) (AX.t 58) (AX.t 60), none⟩,
          ⟨some 62, AOp.mov (AX.t 9), none⟩,
          ⟨some 63, AOp.bin (BinOp.shr) (AX.t 62) (AX.c (AV.int (IntKind.u64) 10)), none⟩,
          ⟨some 64, AOp.bin (BinOp.xor) (AX.t 61) (AX.t 63), none⟩,
          ⟨some 9, AOp.mov (AX.t 64), none⟩] [2, 3, 4, 5, 6, 8, 9, 18])
        (.region [0, 1, 2, 3, 4, 5, 6, 7, 8, 9, 10, 11, 12, 13, 14, 15] [⟨some 65, AOp.mov (AX.t 6), none⟩,
          ⟨some 66, AOp.mov (AX.t 6), none⟩,
          ⟨some 67, AOp.bin (BinOp.sub) (AX.t 66) (AX.c (AV.int (IntKind.i64) 16)), none⟩,
          ⟨some 68, AOp.indexA 64 1 false (AX.t 5) (AX.t 67), none⟩,
          ⟨some 69, AOp.loadL false 1 (AX.t 68), none⟩,
          ⟨some 70, AOp.mov (AX.t 8), none⟩,
          ⟨some 71, AOp.bin (BinOp.add) (AX.t 69) (AX.t 70), none⟩,
          ⟨some 72, AOp.mov (AX.t 6), none⟩,
          ⟨some 73, AOp.bin (BinOp.sub) (AX.t 72) (AX.c (AV.int (IntKind.i64) 7)), none⟩,
          ⟨some 74, AOp.indexA 64 1 false (AX.t 5) (AX.t 73), none⟩,
          ⟨some 75, AOp.loadL false 1 (AX.t 74), none⟩,
          ⟨some 76, AOp.bin (BinOp.add) (AX.t 71) (AX.t 75), none⟩,
          ⟨some 77, AOp.mov (AX.t 9), none⟩,
          ⟨some 78, AOp.bin (BinOp.add) (AX.t 76) (AX.t 77), none⟩,
          ⟨some 79, AOp.indexA 64 1 false (AX.t 5) (AX.t 65), none⟩,
          ⟨none, AOp.store 1 (AX.t 79) (AX.t 78), none⟩] [2, 3, 4, 5, 18]))))

def x51a : AC := 
  (.seq
          (.region [] [⟨some 23, AOp.mov (AX.c (AV.int (IntKind.i64) 0)), none⟩] [2, 3, 4, 5, 6, 18, 23])
          (.block 2
            (.loop
              (.seq
              (.region [] [⟨some 24, AOp.bin (BinOp.lss) (AX.t 23) (AX.c (AV.int (IntKind.i64) 4)), none⟩] [2, 3, 4, 5, 6, 18, 23, 24])
              (.seq
              (.cond (AX.t 24)
                AC.skip
                (.exit 2))
              (.seq
              (.block 3
                (.seq
                (.region [] [⟨some 25, AOp.mov (AX.t 23), none⟩,
                  ⟨some 7, AOp.mov (AX.t 25), none⟩] [2, 3, 4, 5, 6, 7, 18, 23])
                (.region [0, 1, 2, 3, 4, 5, 6, 7, 8, 9, 10, 11, 12, 13, 14] [⟨some 26, AOp.mov (AX.t 6), none⟩,
                  ⟨some 27, AOp.mov (AX.t 6), none⟩,
                  ⟨some 28, AOp.indexA 64 1 false (AX.t 5) (AX.t 27), none⟩,
                  ⟨some 29, AOp.loadL false 1 (AX.t 28), none⟩,
                  ⟨some 30, AOp.bin (BinOp.shl) (AX.t 29) (AX.c (AV.int (IntKind.u64) 8)), none⟩,
                  ⟨some 31, AOp.mov (AX.t 6), none⟩,
                  ⟨some 32, AOp.bin (BinOp.mul) (AX.c (AV.int (IntKind.i64) 4)) (AX.t 31), none⟩,
                  ⟨some 33, AOp.mov (AX.t 7), none⟩,
                  ⟨some 34, AOp.bin (BinOp.add) (AX.t 32) (AX.t 33), none⟩,
                  ⟨some 35, AOp.indexA 64 1 false (AX.t 3) (AX.t 34), none⟩,
                  ⟨some 36, AOp.loadL false 1 (AX.t 35), none⟩,
                  ⟨some 37, AOp.convI (IntKind.u32) (AX.t 36), none⟩,
                  ⟨some 38, AOp.bin (BinOp.or) (AX.t 30) (AX.t 37), none⟩,
                  ⟨some 39, AOp.indexA 64 1 false (AX.t 5) (AX.t 26), none⟩,
                  ⟨none, AOp.store 1 (AX.t 39) (AX.t 38), none⟩] [2, 3, 4, 5, 6, 18, 23])))
              (.region [] [⟨some 40, AOp.bin (BinOp.add) (AX.t 23) (AX.c (AV.int (IntKind.i64) 1)), none⟩,
                ⟨some 23, AOp.mov (AX.t 40), none⟩] [2, 3, 4, 5, 6, 18, 23])))))))

def a51 : AF := ⟨[ARes.cell 4 true 8],
  (.seq
  (.region [] [⟨some 2, AOp.boxL 8 (AX.t 0), none⟩,
    ⟨some 3, AOp.boxL 64 (AX.t 1), none⟩,
    ⟨some 4, AOp.allocL (AV.agg [AV.int (IntKind.u32) 0, AV.int (IntKind.u32) 0, AV.int (IntKind.u32) 0, AV.int (IntKind.u32) 0, AV.int (IntKind.u32) 0, AV.int (IntKind.u32) 0, AV.int (IntKind.u32) 0, AV.int (IntKind.u32) 0]), none⟩] [2, 3, 4])
  (.seq
  (.region [] [⟨some 5, AOp.allocL (AV.agg [AV.int (IntKind.u32) 0, AV.int (IntKind.u32) 0, AV.int (IntKind.u32) 0, AV.int (IntKind.u32) 0, AV.int (IntKind.u32) 0, AV.int (IntKind.u32) 0, AV.int (IntKind.u32) 0, AV.int (IntKind.u32) 0, AV.int (IntKind.u32) 0, AV.int (IntKind.u32) 0, AV.int (IntKind.u32) 0, AV.int (IntKind.u32) 0, AV.int (IntKind.u32) 0, AV.int (IntKind.u32) 0, AV.int (IntKind.u32) 0, AV.int (IntKind.u32) 0, AV.int (IntKind.u32) 0, AV.int (IntKind.u32) 0, AV.int (IntKind.u32) 0, AV.int (IntKind.u32) 0, AV.int (IntKind.u32) 0, AV.int (IntKind.u32) 0, AV.int (IntKind.u32) 0, AV.int (IntKind.u32) 0, AV.int (IntKind.u32) 0, AV.int (IntKind.u32) 0, AV.int (IntKind.u32) 0, AV.int (IntKind.u32) 0, AV.int (IntKind.u32) 0, AV.int (IntKind.u32) 0, AV.int (IntKind.u32) 0, AV.int (IntKind.u32) 0, AV.int (IntKind.u32) 0, AV.int (IntKind.u32) 0, AV.int (IntKind.u32) 0, AV.int (IntKind.u32) 0, AV.int (IntKind.u32) 0, AV.int (IntKind.u32) 0, AV.int (IntKind.u32) 0, AV.int (IntKind.u32) 0, AV.int (IntKind.u32) 0, AV.int (IntKind.u32) 0, AV.int (IntKind.u32) 0, AV.int (IntKind.u32) 0, AV.int (IntKind.u32) 0, AV.int (IntKind.u32) 0, AV.int (IntKind.u32) 0, AV.int (IntKind.u32) 0, AV.int (IntKind.u32) 0, AV.int (IntKind.u32) 0, AV.int (IntKind.u32) 0, AV.int (IntKind.u32) 0, AV.int (IntKind.u32) 0, AV.int (IntKind.u32) 0, AV.int (IntKind.u32) 0, AV.int (IntKind.u32) 0, AV.int (IntKind.u32) 0, AV.int (IntKind.u32) 0, AV.int (IntKind.u32) 0, AV.int (IntKind.u32) 0, AV.int (IntKind.u32) 0, AV.int (IntKind.u32) 0, AV.int (IntKind.u32) 0, AV.int (IntKind.u32) 0]), none⟩] [2, 3, 4, 5])
  (.seq
  (.seq
  (.region [] [⟨some 18, AOp.mov (AX.c (AV.int (IntKind.i64) 0)), none⟩] [2, 3, 4, 5, 18])
  (.block 0
    (.loop
      (.seq
      (.region [] [⟨some 19, AOp.bin (BinOp.lss) (AX.t 18) (AX.c (AV.int (IntKind.i64) 64)), none⟩] [2, 3, 4, 5, 18, 19])
      (.seq
      (.cond (AX.t 19)
        AC.skip
        (.exit 0))
      (.seq
      (.block 1
        (.seq
        (.region [] [⟨some 20, AOp.mov (AX.t 18), none⟩,
          ⟨some 6, AOp.mov (AX.t 20), none⟩] [2, 3, 4, 5, 6, 18])
        (.seq
        (.seq
        (.region [] [⟨some 21, AOp.mov (AX.t 6), none⟩,
          ⟨some 22, AOp.bin (BinOp.lss) (AX.t 21) (AX.c (AV.int (IntKind.i64) 16)), none⟩] [2, 3, 4, 5, 6, 18, 22])
        (.cond (AX.t 22)
          (.seq
          x51a
          (.exit 1))
          AC.skip))
        x51b)))
      (.region [] [⟨some 80, AOp.bin (BinOp.add) (AX.t 18) (AX.c (AV.int (IntKind.i64) 1)), none⟩,
        ⟨some 18, AOp.mov (AX.t 80), none⟩] [2, 3, 4, 5, 18])))))))
  x51c)))⟩

def a81 : AF := ⟨[ARes.t 4],
  (.seq
  (.region [] [⟨some 4, AOp.mov (AX.c (AV.int (IntKind.u32) 0)), none⟩] [0, 1])
  (.seq
  (.region [] [⟨some 6, AOp.mov (AX.t 1), none⟩,
    ⟨some 7, AOp.convI (IntKind.u64) (AX.t 6), none⟩,
    ⟨some 8, AOp.bin (BinOp.and) (AX.t 7) (AX.c (AV.int (IntKind.u64) 31)), none⟩,
    ⟨some 5, AOp.mov (AX.t 8), none⟩] [0, 5])
  (.seq
  (.region [] [⟨some 9, AOp.mov (AX.t 0), none⟩,
    ⟨some 10, AOp.mov (AX.t 5), none⟩,
    ⟨some 11, AOp.bin (BinOp.shl) (AX.t 9) (AX.t 10), none⟩,
    ⟨some 12, AOp.mov (AX.t 0), none⟩,
    ⟨some 13, AOp.mov (AX.t 5), none⟩,
    ⟨some 14, AOp.bin (BinOp.sub) (AX.c (AV.int (IntKind.u64) 32)) (AX.t 13), none⟩,
    ⟨some 15, AOp.bin (BinOp.shr) (AX.t 12) (AX.t 14), none⟩,
    ⟨some 16, AOp.bin (BinOp.or) (AX.t 11) (AX.t 15), none⟩,
    ⟨some 4, AOp.mov (AX.t 16), none⟩] [4])
  AC.ret)))⟩


end Go.Proofs.YtpgmohjmpaifbaaDoor.Im

/- S21BTabs: the table of the functions. -/
namespace Go.Proofs.YtpgmohjmpaifbaaDoor.Im
open Go Go.Im

def tabB : Array (Option AF) := #[none, none, none, none, none, none, none, none, none, none, none, none, none, none, none, none, none, none, none, none, none, none, none, none, none, none, none, none, none, none, none, none, none, none, none, none, none, none, none, none, none, none, none, none, none, none, none, none, none, none, none, some a51, none, none, none, none, none, none, none, none, none, none, none, none, none, none, none, none, none, none, none, none, none, none, none, none, none, none, none, none, none, some a81]

def FB : Fns := fun f => match tabB[f]? with
  | some (some x) => some (.inl x)
  | _ => none

end Go.Proofs.YtpgmohjmpaifbaaDoor.Im

/- S21BIs: which functions stand where. -/
open Go Go.Im
namespace Go.Proofs.YtpgmohjmpaifbaaDoor.Im

theorem g51 : FB 51 = some (.inl a51) := by kernel_rfl
theorem g81 : FB 81 = some (.inl a81) := by kernel_rfl

end Go.Proofs.YtpgmohjmpaifbaaDoor.Im

/- S21Bm: sha.mixed does what S21Mx says. -/
set_option linter.unusedVariables false
set_option linter.unusedSimpArgs false
open Go Go.Im
namespace Go.Proofs.YtpgmohjmpaifbaaDoor.Im
section
variable {n : Nat} {tot : Bool} {ω : Nat → Nat} {h : Hp}

theorem io_get {k : IntKind} {l : List Int} {j : Nat} (hj : j < l.length) : (intsOf k l)[j]? = some (.int k (l.getD j 0)) := by
  simp [intsOf,hj,List.getD]
theorem io_set (k : IntKind) (l : List Int) (j : Nat) (v : Int) : (intsOf k l).set j (.int k v) = intsOf k (l.set j v) := by simp [intsOf,List.map_set]
theorem io_len (k : IntKind) (l : List Int) : (intsOf k l).length = l.length := by simp [intsOf]
theorem io_take {k : IntKind} {l : List Int} {m : Nat} (hm : l.length ≤ m) : (intsOf k l).take m = intsOf k l := List.take_of_length_le (by simpa [intsOf] using hm)

theorem wrap_u64_mod (x : Int) : IntKind.u64.wrap x = x % 18446744073709551616 := by
  simp [IntKind.wrap,IntKind.signed,IntKind.bits]

theorem c81 (x k : Int) (s : Nat) (hs : bitsI .and .u64 (IntKind.u64.wrap k) 31 = (s : Int)) (h1 : 1 ≤ s) (h2 : s ≤ 31) (hn : 0 < n) : call FB n tot ω 81 [.int .u32 x, .int .i64 k] h = some (.int .u32 (rl x s), h) := by
  obtain ⟨n, rfl⟩ : ∃ m, n = m + 1 := ⟨n - 1, by omega⟩
  refine call_eq (fn := a81) g81 ?_
  unfold a81
  have e1 : IntKind.u64.wrap (32 - (s : Int)) = ((32 - s : Nat) : Int) := by rw [wrap_u64 (by omega) (by omega)]; omega
  have e2 : min s IntKind.u32.bits = s := by show min s 32 = s; omega
  have e3 : min (32 - s) IntKind.u32.bits = 32 - s := by show min (32 - s) 32 = _; omega
  simp (maxSteps := 2000000) (discharger := omega) only [xc,xo,xr,x0,x1,x2,x3,x4,x5,x6,xd,xe,xb,kont_call,kont_pure,kont_round,isNil,slOk,sliceV,selems,srcElems,copyTo,dlen,eqAV,eqCells,eqS,upd,wr,place,partVals,partEs,placeEs,mapOf,keyOk,keyCells,findK,Bool.bne_false,Bool.bne_true,List.drop_zero,List.nil_append,List.append_nil,List.take_zero,List.cons_append,List.take_succ_cons,List.drop_succ_cons,List.take_nil,List.drop_nil,Reg.isA,Reg.isV,Reg.stays,Reg.onto,Bool.false_or,Bool.or_false,Bool.false_and,Bool.and_false,Bool.true_and,Bool.and_true,Bool.or_true,Bool.true_or,↓reduceIte,reduceCtorEq,Nat.reduceEqDiff,Nat.reduceLT,Nat.reduceAdd,Nat.reduceMul,Nat.add_zero,Nat.zero_add,Nat.not_lt_zero,Nat.zero_ne_one,Nat.one_ne_zero,Nat.reduceLeDiff,Nat.lt_irrefl,Nat.zero_lt_succ,Bool.false_eq_true,Bool.not_true,Bool.not_false,Option.map_some,Option.map_none,Option.bind_some,Option.getD_some,Option.getD_none,and_self,and_true,true_and,List.length_cons,List.length_nil,List.any_nil,List.any_cons,Int.toNat_natCast,Int.cast_ofNat_Int,Int.natCast_zero,Int.natCast_nonneg,true_implies,or_true,true_or,false_or,or_false,beq_self_eq_true,Option.some.injEq,exists_eq_left',Int.reduceEq,Int.reduceLT,Int.reduceLE,Int.reduceGT,Int.reduceGE,Nat.reduceGT,Int.reduceNeg,Int.reduceToNat,Int.reduceAdd,Int.reduceMul,Int.reduceSub,Int.reducePow,decide_true,decide_false,decide_eq_true_eq,List.getElem?_cons_zero,List.getElem?_cons_succ,Nat.reduceBEq,Nat.reduceSub,exists_false,and_false,false_and,wrap_i64,hs,e1,e2,e3,int_lt_f]
  simp [rl,e1,e2,e3]

def K8 (s : S8) : AV := .agg [.int .u32 s.a, .int .u32 s.b, .int .u32 s.c, .int .u32 s.d, .int .u32 s.e, .int .u32 s.f, .int .u32 s.g, .int .u32 s.h]
def Z8 : AV := .agg [.int .u32 0, .int .u32 0, .int .u32 0, .int .u32 0, .int .u32 0, .int .u32 0, .int .u32 0, .int .u32 0]

theorem nat_lt_t {a b : Nat} (h : a < b) : (a < b) = True := eq_true h
theorem mm8 : min 8 IntKind.u32.bits = 8 := rfl
theorem mm3 : min 3 IntKind.u32.bits = 3 := rfl
theorem mm10 : min 10 IntKind.u32.bits = 10 := rfl

theorem set_getD (l : List Int) (i j : Nat) (v : Int) (hi : i < l.length) : (l.set i v).getD j 0 = if j = i then v else l.getD j 0 := by
  by_cases e : j = i
  · subst e; simp [List.getD,hi]
  · rw [if_neg e]; simp [List.getD,List.getElem?_set_ne (Ne.symm e)]

theorem w_x51a (s : S8) (b W : List Int) (i : Nat) (hi : i < 16) (hb : b.length = 64) (hW : W.length = 64) (h0 : W.getD i 0 = 0) (hbb : ∀ x ∈ b, 0 ≤ x ∧ x ≤ 255) (hn : 5 < n) :
    Wp (kont FB n tot ω) n x51a [(2, .var (K8 s)), (3, .var (.agg (intsOf .u8 b))), (4, .var Z8), (5, .var (.agg (intsOf .u32 W))), (6, .val (.int .i64 i)), (18, .val (.int .i64 i))] h fun e r' h' => e = .normal ∧ h' = h ∧
      ∃ W', r' = [(2, .var (K8 s)), (3, .var (.agg (intsOf .u8 b))), (4, .var Z8), (5, .var (.agg (intsOf .u32 W'))), (6, .val (.int .i64 i)), (18, .val (.int .i64 i)), (23, .val (.int .i64 4)), (24, .val (.bool false))] ∧ W'.length = 64 ∧ ∀ j, W'.getD j 0 = if j = i then word4 b i 4 else W.getD j 0 := by
  unfold x51a
  simp (maxSteps := 2000000) (discharger := omega) only [xc,xo,xr,x0,x1,x2,x3,x4,x5,x6,xd,xe,xb,kont_call,kont_pure,kont_round,isNil,slOk,sliceV,selems,srcElems,copyTo,dlen,eqAV,eqCells,eqS,upd,wr,place,partVals,partEs,placeEs,mapOf,keyOk,keyCells,findK,Bool.bne_false,Bool.bne_true,List.drop_zero,List.nil_append,List.append_nil,List.take_zero,List.cons_append,List.take_succ_cons,List.drop_succ_cons,List.take_nil,List.drop_nil,Reg.isA,Reg.isV,Reg.stays,Reg.onto,Bool.false_or,Bool.or_false,Bool.false_and,Bool.and_false,Bool.true_and,Bool.and_true,Bool.or_true,Bool.true_or,↓reduceIte,reduceCtorEq,Nat.reduceEqDiff,Nat.reduceLT,Nat.reduceAdd,Nat.reduceMul,Nat.add_zero,Nat.zero_add,Nat.not_lt_zero,Nat.zero_ne_one,Nat.one_ne_zero,Nat.reduceLeDiff,Nat.lt_irrefl,Nat.zero_lt_succ,Bool.false_eq_true,Bool.not_true,Bool.not_false,Option.map_some,Option.map_none,Option.bind_some,Option.getD_some,Option.getD_none,and_self,and_true,true_and,List.length_cons,List.length_nil,List.any_nil,List.any_cons,Int.toNat_natCast,Int.cast_ofNat_Int,Int.natCast_zero,Int.natCast_nonneg,true_implies,or_true,true_or,false_or,or_false,beq_self_eq_true,Option.some.injEq,exists_eq_left',Int.reduceEq,Int.reduceLT,Int.reduceLE,Int.reduceGT,Int.reduceGE,Nat.reduceGT,Int.reduceNeg,Int.reduceToNat,Int.reduceAdd,Int.reduceMul,Int.reduceSub,Int.reducePow,decide_true,decide_false,decide_eq_true_eq,List.getElem?_cons_zero,List.getElem?_cons_succ,Nat.reduceBEq,Nat.reduceSub,exists_false,and_false,false_and,wrap_i64]
  refine wpi_loop (fun x r g => ∃ (k : Nat) (W' : List Int), r = [(2, .var (K8 s)), (3, .var (.agg (intsOf .u8 b))), (4, .var Z8), (5, .var (.agg (intsOf .u32 W'))), (6, .val (.int .i64 i)), (18, .val (.int .i64 i)), (23, .val (.int .i64 k))] ∧ x = 4 - k ∧ k ≤ 4 ∧ g = h ∧ W'.length = 64 ∧ ∀ j, W'.getD j 0 = if j = i then word4 b i k else W.getD j 0) 4 (by omega)
    ⟨0, W, rfl, rfl, by omega, rfl, hW, fun j => by by_cases e : j = i <;> simp [e,h0,word4,-List.getD_eq_getElem?_getD]⟩ ?_
  rintro x r g ⟨k, W', rfl, rfl, hk, rfl, hW', hg⟩
  by_cases hk4 : k < 4
  · have e1 : (4 * (i : Int) + (k : Int)).toNat = 4 * i + k := by omega
    have hg2 := hg i
    rw [if_pos rfl] at hg2
    have hbx : IntKind.u32.wrap (b.getD (4 * i + k) 0) = b.getD (4 * i + k) 0 := by
      have hlt : 4 * i + k < b.length := by omega
      have := hbb b[4 * i + k] (List.getElem_mem hlt)
      have e : b.getD (4 * i + k) 0 = b[4 * i + k] := by simp [List.getD,hlt]
      rw [e]; exact wrap_u32 (by omega) (by omega)
    simp (maxSteps := 2000000) (discharger := omega) only [xc,xo,xr,x0,x1,x2,x3,x4,x5,x6,xd,xe,xb,kont_call,kont_pure,kont_round,isNil,slOk,sliceV,selems,srcElems,copyTo,dlen,eqAV,eqCells,eqS,wr,place,partVals,partEs,placeEs,mapOf,keyOk,keyCells,findK,Bool.bne_false,Bool.bne_true,List.drop_zero,List.nil_append,List.append_nil,List.take_zero,List.cons_append,List.take_succ_cons,List.drop_succ_cons,List.take_nil,List.drop_nil,Reg.isA,Reg.isV,Reg.stays,Reg.onto,Bool.false_or,Bool.or_false,Bool.false_and,Bool.and_false,Bool.true_and,Bool.and_true,Bool.or_true,Bool.true_or,↓reduceIte,reduceCtorEq,Nat.reduceEqDiff,Nat.reduceLT,Nat.reduceAdd,Nat.reduceMul,Nat.add_zero,Nat.zero_add,Nat.not_lt_zero,Nat.zero_ne_one,Nat.one_ne_zero,Nat.reduceLeDiff,Nat.lt_irrefl,Nat.zero_lt_succ,Bool.false_eq_true,Bool.not_true,Bool.not_false,Option.map_some,Option.map_none,Option.bind_some,Option.getD_some,Option.getD_none,and_self,and_true,true_and,List.length_cons,List.length_nil,List.any_nil,List.any_cons,Int.toNat_natCast,Int.cast_ofNat_Int,Int.natCast_zero,Int.natCast_nonneg,true_implies,or_true,true_or,false_or,or_false,beq_self_eq_true,Option.some.injEq,exists_eq_left',Int.reduceEq,Int.reduceLT,Int.reduceLE,Int.reduceGT,Int.reduceGE,Nat.reduceGT,Int.reduceNeg,Int.reduceToNat,Int.reduceAdd,Int.reduceMul,Int.reduceSub,Int.reducePow,decide_true,decide_false,decide_eq_true_eq,List.getElem?_cons_zero,List.getElem?_cons_succ,Nat.reduceBEq,Nat.reduceSub,exists_false,and_false,false_and,xu,List.set_cons_zero,List.set_cons_succ,wrap_i64,int_lt_t,int_lt_f,int_le_t,int_le_f,int_gt_t,int_gt_f,int_ge_t,int_ge_f,int_eq_t,int_eq_f,int_beq_t,int_beq_f,int_bne_t,int_bne_f,nat_le_t,nat_le_f,Nat.sub_zero,Nat.sub_self,not_false_eq_true,not_true_eq_false,e1,io_get,io_set,io_len,hW',hb,hg2,mm8,hbx,Nat.mul_one,Nat.reduceLeDiff,nat_lt_t]
    refine ⟨4 - (k + 1), by omega, k + 1, W'.set i (word4 b i (k + 1)), by rw [show ((k : Nat) : Int) + 1 = ((k + 1 : Nat) : Int) by omega]; rfl, rfl, by omega, by simpa using hW', fun j => ?_⟩
    rw [set_getD _ _ _ _ (by omega)]
    by_cases e : j = i
    · simp only [e,if_true]
    · simp only [e,if_false]; rw [hg j, if_neg e]
  · obtain rfl : k = 4 := by omega
    simp (maxSteps := 2000000) (discharger := omega) only [xc,xo,xr,x0,x1,x2,x3,x4,x5,x6,xd,xe,xb,kont_call,kont_pure,kont_round,isNil,slOk,sliceV,selems,srcElems,copyTo,dlen,eqAV,eqCells,eqS,wr,place,partVals,partEs,placeEs,mapOf,keyOk,keyCells,findK,Bool.bne_false,Bool.bne_true,List.drop_zero,List.nil_append,List.append_nil,List.take_zero,List.cons_append,List.take_succ_cons,List.drop_succ_cons,List.take_nil,List.drop_nil,Reg.isA,Reg.isV,Reg.stays,Reg.onto,Bool.false_or,Bool.or_false,Bool.false_and,Bool.and_false,Bool.true_and,Bool.and_true,Bool.or_true,Bool.true_or,↓reduceIte,reduceCtorEq,Nat.reduceEqDiff,Nat.reduceLT,Nat.reduceAdd,Nat.reduceMul,Nat.add_zero,Nat.zero_add,Nat.not_lt_zero,Nat.zero_ne_one,Nat.one_ne_zero,Nat.reduceLeDiff,Nat.lt_irrefl,Nat.zero_lt_succ,Bool.false_eq_true,Bool.not_true,Bool.not_false,Option.map_some,Option.map_none,Option.bind_some,Option.getD_some,Option.getD_none,and_self,and_true,true_and,List.length_cons,List.length_nil,List.any_nil,List.any_cons,Int.toNat_natCast,Int.cast_ofNat_Int,Int.natCast_zero,Int.natCast_nonneg,true_implies,or_true,true_or,false_or,or_false,beq_self_eq_true,Option.some.injEq,exists_eq_left',Int.reduceEq,Int.reduceLT,Int.reduceLE,Int.reduceGT,Int.reduceGE,Nat.reduceGT,Int.reduceNeg,Int.reduceToNat,Int.reduceAdd,Int.reduceMul,Int.reduceSub,Int.reducePow,decide_true,decide_false,decide_eq_true_eq,List.getElem?_cons_zero,List.getElem?_cons_succ,Nat.reduceBEq,Nat.reduceSub,exists_false,and_false,false_and,xu,List.set_cons_zero,List.set_cons_succ,wrap_i64,int_lt_t,int_lt_f,int_le_t,int_le_f,int_gt_t,int_gt_f,int_ge_t,int_ge_f,int_eq_t,int_eq_f,int_beq_t,int_beq_f,int_bne_t,int_bne_f,nat_le_t,nat_le_f,Nat.sub_zero,Nat.sub_self,not_false_eq_true,not_true_eq_false]
    exact ⟨W', rfl, hW', hg⟩

theorem hb25 : bitsI .and .u64 (IntKind.u64.wrap (-7)) 31 = ((25 : Nat) : Int) := by decide
theorem hb14 : bitsI .and .u64 (IntKind.u64.wrap (-18)) 31 = ((14 : Nat) : Int) := by decide
theorem hb15 : bitsI .and .u64 (IntKind.u64.wrap (-17)) 31 = ((15 : Nat) : Int) := by decide
theorem hb13 : bitsI .and .u64 (IntKind.u64.wrap (-19)) 31 = ((13 : Nat) : Int) := by decide
theorem hb26 : bitsI .and .u64 (IntKind.u64.wrap (-6)) 31 = ((26 : Nat) : Int) := by decide
theorem hb21 : bitsI .and .u64 (IntKind.u64.wrap (-11)) 31 = ((21 : Nat) : Int) := by decide
theorem hb7 : bitsI .and .u64 (IntKind.u64.wrap (-25)) 31 = ((7 : Nat) : Int) := by decide
theorem hb30 : bitsI .and .u64 (IntKind.u64.wrap (-2)) 31 = ((30 : Nat) : Int) := by decide
theorem hb19 : bitsI .and .u64 (IntKind.u64.wrap (-13)) 31 = ((19 : Nat) : Int) := by decide
theorem hb10 : bitsI .and .u64 (IntKind.u64.wrap (-22)) 31 = ((10 : Nat) : Int) := by decide

theorem wList_len (b : List Int) : ∀ i, (wList b i).length = i
  | 0 => rfl
  | i + 1 => by simp [wList,wList_len b i]
theorem wList_pre (b : List Int) (i : Nat) : ∀ k j, j < i → (wList b (i + k)).getD j 0 = (wList b i).getD j 0
  | 0, j, _ => rfl
  | k + 1, j, hj => by
    rw [← wList_pre b i k j hj]
    show (wList b (i + k) ++ [_]).getD j 0 = _
    simp [List.getD,List.getElem?_append_left (show j < (wList b (i + k)).length by rw [wList_len]; omega)]
theorem wList_at (b : List Int) (i : Nat) (hi : i < 64) : (wList b 64).getD i 0 = wNext b (wList b i) i := by
  have e := wList_pre b (i + 1) (63 - i) i (by omega)
  rw [show i + 1 + (63 - i) = 64 by omega] at e
  rw [e]
  show (wList b i ++ [_]).getD i 0 = _
  simp [List.getD,List.getElem?_append_right,wList_len]

structure Sch (b W : List Int) (i : Nat) : Prop where
  len : W.length = 64
  done : ∀ j, j < i → W.getD j 0 = (wList b 64).getD j 0
  zero : ∀ j, i ≤ j → W.getD j 0 = 0

theorem Sch.next {b W W' : List Int} {i : Nat} (hs : Sch b W i) (hi : i < 64) (hl : W'.length = 64) (hg : ∀ j, W'.getD j 0 = if j = i then wNext b (wList b i) i else W.getD j 0) : Sch b W' (i + 1) := by
  refine ⟨hl, fun j hj => ?_, fun j hj => ?_⟩
  · rw [hg]
    by_cases e : j = i
    · rw [if_pos e, e, wList_at b i hi]
    · rw [if_neg e]; exact hs.done j (by omega)
  · rw [hg, if_neg (by omega)]; exact hs.zero j (by omega)
theorem Sch.old {b W : List Int} {i : Nat} (hs : Sch b W i) (hi : i ≤ 64) (j : Nat) (hj : j < i) : W.getD j 0 = (wList b i).getD j 0 := by
  rw [hs.done j hj]
  have e := wList_pre b i (64 - i) j hj
  rwa [show i + (64 - i) = 64 by omega] at e

theorem w_x51b (s : S8) (b W : List Int) (i : Nat) (hi : 16 ≤ i) (hi2 : i < 64) (hW : W.length = 64) (hn : 5 < n) :
    Wp (kont FB n tot ω) n x51b [(2, .var (K8 s)), (3, .var (.agg (intsOf .u8 b))), (4, .var Z8), (5, .var (.agg (intsOf .u32 W))), (6, .val (.int .i64 i)), (18, .val (.int .i64 i)), (22, .val (.bool false))] h fun e r' h' => e = .normal ∧ h' = h ∧
      ∃ W', r' = [(2, .var (K8 s)), (3, .var (.agg (intsOf .u8 b))), (4, .var Z8), (5, .var (.agg (intsOf .u32 W'))), (18, .val (.int .i64 i))] ∧ W'.length = 64 ∧ ∀ j, W'.getD j 0 = if j = i then wNext b W i else W.getD j 0 := by
  unfold x51b
  have e2 : ((i : Int) - 2).toNat = i - 2 := by omega
  have e7 : ((i : Int) - 7).toNat = i - 7 := by omega
  have e15 : ((i : Int) - 15).toNat = i - 15 := by omega
  have e16 : ((i : Int) - 16).toNat = i - 16 := by omega
  have k1 := fun x => c81 (n := n) (tot := false) (ω := fun _ => 0) (h := []) x (-7) 25 hb25 (by omega) (by omega) (by omega)
  have k2 := fun x => c81 (n := n) (tot := false) (ω := fun _ => 0) (h := []) x (-18) 14 hb14 (by omega) (by omega) (by omega)
  have k3 := fun x => c81 (n := n) (tot := false) (ω := fun _ => 0) (h := []) x (-17) 15 hb15 (by omega) (by omega) (by omega)
  have k4 := fun x => c81 (n := n) (tot := false) (ω := fun _ => 0) (h := []) x (-19) 13 hb13 (by omega) (by omega) (by omega)
  simp (maxSteps := 2000000) (discharger := omega) only [xc,xo,xr,x0,x1,x2,x3,x4,x5,x6,xd,xe,xb,kont_call,kont_pure,kont_round,isNil,slOk,sliceV,selems,srcElems,copyTo,dlen,eqAV,eqCells,eqS,wr,place,partVals,partEs,placeEs,mapOf,keyOk,keyCells,findK,Bool.bne_false,Bool.bne_true,List.drop_zero,List.nil_append,List.append_nil,List.take_zero,List.cons_append,List.take_succ_cons,List.drop_succ_cons,List.take_nil,List.drop_nil,Reg.isA,Reg.isV,Reg.stays,Reg.onto,Bool.false_or,Bool.or_false,Bool.false_and,Bool.and_false,Bool.true_and,Bool.and_true,Bool.or_true,Bool.true_or,↓reduceIte,reduceCtorEq,Nat.reduceEqDiff,Nat.reduceLT,Nat.reduceAdd,Nat.reduceMul,Nat.add_zero,Nat.zero_add,Nat.not_lt_zero,Nat.zero_ne_one,Nat.one_ne_zero,Nat.reduceLeDiff,Nat.lt_irrefl,Nat.zero_lt_succ,Bool.false_eq_true,Bool.not_true,Bool.not_false,Option.map_some,Option.map_none,Option.bind_some,Option.getD_some,Option.getD_none,and_self,and_true,true_and,List.length_cons,List.length_nil,List.any_nil,List.any_cons,Int.toNat_natCast,Int.cast_ofNat_Int,Int.natCast_zero,Int.natCast_nonneg,true_implies,or_true,true_or,false_or,or_false,beq_self_eq_true,Option.some.injEq,exists_eq_left',Int.reduceEq,Int.reduceLT,Int.reduceLE,Int.reduceGT,Int.reduceGE,Nat.reduceGT,Int.reduceNeg,Int.reduceToNat,Int.reduceAdd,Int.reduceMul,Int.reduceSub,Int.reducePow,decide_true,decide_false,decide_eq_true_eq,List.getElem?_cons_zero,List.getElem?_cons_succ,Nat.reduceBEq,Nat.reduceSub,exists_false,and_false,false_and,xu,List.set_cons_zero,List.set_cons_succ,wrap_i64,int_lt_t,int_lt_f,int_le_t,int_le_f,int_gt_t,int_gt_f,int_ge_t,int_ge_f,int_eq_t,int_eq_f,int_beq_t,int_beq_f,int_bne_t,int_bne_f,nat_le_t,nat_le_f,Nat.sub_zero,Nat.sub_self,not_false_eq_true,not_true_eq_false,e2,e7,e15,e16,k1,k2,k3,k4,io_get,io_set,io_len,hW,mm3,mm10,Nat.mul_one,Nat.reduceLeDiff,nat_lt_t]
  refine ⟨_, rfl, by simpa using hW, fun j => ?_⟩
  rw [set_getD _ _ _ _ (by omega)]
  by_cases e : j = i
  · simp only [e,if_true]
    unfold wNext
    rw [if_neg (by omega)]
    rfl
  · simp only [e,if_false]

theorem wNext_old {b W V : List Int} {i : Nat} (hi : i ≤ 64) (hW : ∀ j, j < i → W.getD j 0 = V.getD j 0) : wNext b W i = wNext b V i := by
  unfold wNext
  by_cases h : i < 16
  · rw [if_pos h, if_pos h]
  · rw [if_neg h, if_neg h, hW _ (by omega), hW _ (by omega), hW _ (by omega), hW _ (by omega)]

theorem rep_getD (n j : Nat) : (List.replicate n (0 : Int)).getD j 0 = 0 := by
  simp only [List.getD,List.getElem?_replicate]
  split <;> rfl
theorem k8_take (s : S8) : List.take 8 (List.drop 0 s.list) = s.list := rfl

theorem ext_getD {l m : List Int} (hl : l.length = m.length) (h : ∀ j, l.getD j 0 = m.getD j 0) : l = m := by
  apply List.ext_getElem hl
  intro j h1 h2
  have := h j
  simpa [List.getD, h1, h2] using this
theorem getD_big {l : List Int} {j : Nat} (h : l.length ≤ j) : l.getD j 0 = 0 := by simp [List.getD,h]
theorem addS_get (s t : S8) (j : Nat) (hj : j < 8) : (addS s t).list.getD j 0 = add32 (s.list.getD j 0) (t.list.getD j 0) := by
  match j, hj with
  | 0, _ => rfl
  | 1, _ => rfl
  | 2, _ => rfl
  | 3, _ => rfl
  | 4, _ => rfl
  | 5, _ => rfl
  | 6, _ => rfl
  | 7, _ => rfl

set_option maxRecDepth 100000 in
theorem w_x51c (s : S8) (b W : List Int) (hW : W.length = 64) (hn : 70 < n) :
    Wp (kont FB n tot ω) n x51c [(2, .var (K8 s)), (4, .var Z8), (5, .var (.agg (intsOf .u32 W)))] h (Ret [ARes.cell 4 true 8] fun v h2 => v = K8 (addS s (rnds W s 64)) ∧ h2 = h) := by
  unfold x51c
  have k1 := fun x => c81 (n := n) (tot := false) (ω := fun _ => 0) (h := []) x (-6) 26 hb26 (by omega) (by omega) (by omega)
  have k2 := fun x => c81 (n := n) (tot := false) (ω := fun _ => 0) (h := []) x (-11) 21 hb21 (by omega) (by omega) (by omega)
  have k3 := fun x => c81 (n := n) (tot := false) (ω := fun _ => 0) (h := []) x (-25) 7 hb7 (by omega) (by omega) (by omega)
  have k4 := fun x => c81 (n := n) (tot := false) (ω := fun _ => 0) (h := []) x (-2) 30 hb30 (by omega) (by omega) (by omega)
  have k5 := fun x => c81 (n := n) (tot := false) (ω := fun _ => 0) (h := []) x (-13) 19 hb19 (by omega) (by omega) (by omega)
  have k6 := fun x => c81 (n := n) (tot := false) (ω := fun _ => 0) (h := []) x (-22) 10 hb10 (by omega) (by omega) (by omega)
  have hR : roundsZ.length = 64 := rfl
  have hmx : (if IntKind.u32.signed = true then (-1 : Int) else IntKind.u32.max) = 4294967295 := rfl
  have hG : G0 = .agg (intsOf .u32 roundsZ) := rfl
  unfold K8 Z8
  simp (maxSteps := 2000000) (discharger := omega) only [xc,xo,xr,x0,x1,x2,x3,x4,x5,x6,xd,xe,xb,kont_call,kont_pure,kont_round,isNil,slOk,sliceV,selems,srcElems,copyTo,dlen,eqAV,eqCells,eqS,wr,place,partVals,partEs,placeEs,mapOf,keyOk,keyCells,findK,Bool.bne_false,Bool.bne_true,List.drop_zero,List.nil_append,List.append_nil,List.take_zero,List.cons_append,List.take_succ_cons,List.drop_succ_cons,List.take_nil,List.drop_nil,Reg.isA,Reg.isV,Reg.stays,Reg.onto,Bool.false_or,Bool.or_false,Bool.false_and,Bool.and_false,Bool.true_and,Bool.and_true,Bool.or_true,Bool.true_or,↓reduceIte,reduceCtorEq,Nat.reduceEqDiff,Nat.reduceLT,Nat.reduceAdd,Nat.reduceMul,Nat.add_zero,Nat.zero_add,Nat.not_lt_zero,Nat.zero_ne_one,Nat.one_ne_zero,Nat.reduceLeDiff,Nat.lt_irrefl,Nat.zero_lt_succ,Bool.false_eq_true,Bool.not_true,Bool.not_false,Option.map_some,Option.map_none,Option.bind_some,Option.getD_some,Option.getD_none,and_self,and_true,true_and,List.length_cons,List.length_nil,List.any_nil,List.any_cons,Int.toNat_natCast,Int.cast_ofNat_Int,Int.natCast_zero,Int.natCast_nonneg,true_implies,or_true,true_or,false_or,or_false,beq_self_eq_true,Option.some.injEq,exists_eq_left',Int.reduceEq,Int.reduceLT,Int.reduceLE,Int.reduceGT,Int.reduceGE,Nat.reduceGT,Int.reduceNeg,Int.reduceToNat,Int.reduceAdd,Int.reduceMul,Int.reduceSub,Int.reducePow,decide_true,decide_false,decide_eq_true_eq,List.getElem?_cons_zero,List.getElem?_cons_succ,Nat.reduceBEq,Nat.reduceSub,exists_false,and_false,false_and,xu,List.set_cons_zero,List.set_cons_succ,wrap_i64,int_lt_t,int_lt_f,int_le_t,int_le_f,int_gt_t,int_gt_f,int_ge_t,int_ge_f,int_eq_t,int_eq_f,int_beq_t,int_beq_f,int_bne_t,int_bne_f,nat_le_t,nat_le_f,Nat.sub_zero,Nat.sub_self,not_false_eq_true,not_true_eq_false,io_take,io_len,hW,List.drop_zero,Nat.reduceLeDiff]
  refine wpi_loop (fun x r g => ∃ (i : Nat) (t : S8), r = [(2, .var (K8 s)), (4, .var Z8), (10, .var (K8 t)), (82, .val (.agg (intsOf .u32 W))), (83, .val (.int .i64 i))] ∧ x = 64 - i ∧ i ≤ 64 ∧ g = h ∧ t = rnds W s i) 64 (by omega)
    ⟨0, s, rfl, rfl, by omega, rfl, rfl⟩ ?_
  rintro x r g ⟨i, t, rfl, rfl, hi, rfl, ht⟩
  by_cases hi2 : i < 64
  · unfold K8 Z8
    simp (maxSteps := 2000000) (discharger := omega) only [xc,xo,xr,x0,x1,x2,x3,x4,x5,x6,xd,xe,xb,kont_call,kont_pure,kont_round,isNil,slOk,sliceV,selems,srcElems,copyTo,dlen,eqAV,eqCells,eqS,wr,place,partVals,partEs,placeEs,mapOf,keyOk,keyCells,findK,Bool.bne_false,Bool.bne_true,List.drop_zero,List.nil_append,List.append_nil,List.take_zero,List.cons_append,List.take_succ_cons,List.drop_succ_cons,List.take_nil,List.drop_nil,Reg.isA,Reg.isV,Reg.stays,Reg.onto,Bool.false_or,Bool.or_false,Bool.false_and,Bool.and_false,Bool.true_and,Bool.and_true,Bool.or_true,Bool.true_or,↓reduceIte,reduceCtorEq,Nat.reduceEqDiff,Nat.reduceLT,Nat.reduceAdd,Nat.reduceMul,Nat.add_zero,Nat.zero_add,Nat.not_lt_zero,Nat.zero_ne_one,Nat.one_ne_zero,Nat.reduceLeDiff,Nat.lt_irrefl,Nat.zero_lt_succ,Bool.false_eq_true,Bool.not_true,Bool.not_false,Option.map_some,Option.map_none,Option.bind_some,Option.getD_some,Option.getD_none,and_self,and_true,true_and,List.length_cons,List.length_nil,List.any_nil,List.any_cons,Int.toNat_natCast,Int.cast_ofNat_Int,Int.natCast_zero,Int.natCast_nonneg,true_implies,or_true,true_or,false_or,or_false,beq_self_eq_true,Option.some.injEq,exists_eq_left',Int.reduceEq,Int.reduceLT,Int.reduceLE,Int.reduceGT,Int.reduceGE,Nat.reduceGT,Int.reduceNeg,Int.reduceToNat,Int.reduceAdd,Int.reduceMul,Int.reduceSub,Int.reducePow,decide_true,decide_false,decide_eq_true_eq,List.getElem?_cons_zero,List.getElem?_cons_succ,Nat.reduceBEq,Nat.reduceSub,exists_false,and_false,false_and,xu,List.set_cons_zero,List.set_cons_succ,wrap_i64,int_lt_t,int_lt_f,int_le_t,int_le_f,int_gt_t,int_gt_f,int_ge_t,int_ge_f,int_eq_t,int_eq_f,int_beq_t,int_beq_f,int_bne_t,int_bne_f,nat_le_t,nat_le_f,Nat.sub_zero,Nat.sub_self,not_false_eq_true,not_true_eq_false,k1,k2,k3,k4,k5,k6,io_get,io_len,hW,hG,hR,Nat.mul_one,Nat.reduceLeDiff,nat_lt_t,hmx]
    refine ⟨64 - (i + 1), by omega, i + 1, rnd t (roundsZ.getD i 0) (W.getD i 0), by rw [show ((i : Nat) : Int) + 1 = ((i + 1 : Nat) : Int) by omega]; rfl, rfl, by omega, by rw [ht]; rfl⟩
  · obtain rfl : i = 64 := by omega
    unfold K8 Z8
    simp (maxSteps := 2000000) (discharger := omega) only [xc,xo,xr,x0,x1,x2,x3,x4,x5,x6,xd,xe,xb,kont_call,kont_pure,kont_round,isNil,slOk,sliceV,selems,srcElems,copyTo,dlen,eqAV,eqCells,eqS,wr,place,partVals,partEs,placeEs,mapOf,keyOk,keyCells,findK,Bool.bne_false,Bool.bne_true,List.drop_zero,List.nil_append,List.append_nil,List.take_zero,List.cons_append,List.take_succ_cons,List.drop_succ_cons,List.take_nil,List.drop_nil,Reg.isA,Reg.isV,Reg.stays,Reg.onto,Bool.false_or,Bool.or_false,Bool.false_and,Bool.and_false,Bool.true_and,Bool.and_true,Bool.or_true,Bool.true_or,↓reduceIte,reduceCtorEq,Nat.reduceEqDiff,Nat.reduceLT,Nat.reduceAdd,Nat.reduceMul,Nat.add_zero,Nat.zero_add,Nat.not_lt_zero,Nat.zero_ne_one,Nat.one_ne_zero,Nat.reduceLeDiff,Nat.lt_irrefl,Nat.zero_lt_succ,Bool.false_eq_true,Bool.not_true,Bool.not_false,Option.map_some,Option.map_none,Option.bind_some,Option.getD_some,Option.getD_none,and_self,and_true,true_and,List.length_cons,List.length_nil,List.any_nil,List.any_cons,Int.toNat_natCast,Int.cast_ofNat_Int,Int.natCast_zero,Int.natCast_nonneg,true_implies,or_true,true_or,false_or,or_false,beq_self_eq_true,Option.some.injEq,exists_eq_left',Int.reduceEq,Int.reduceLT,Int.reduceLE,Int.reduceGT,Int.reduceGE,Nat.reduceGT,Int.reduceNeg,Int.reduceToNat,Int.reduceAdd,Int.reduceMul,Int.reduceSub,Int.reducePow,decide_true,decide_false,decide_eq_true_eq,List.getElem?_cons_zero,List.getElem?_cons_succ,Nat.reduceBEq,Nat.reduceSub,exists_false,and_false,false_and,xu,List.set_cons_zero,List.set_cons_succ,wrap_i64,int_lt_t,int_lt_f,int_le_t,int_le_f,int_gt_t,int_gt_f,int_ge_t,int_ge_f,int_eq_t,int_eq_f,int_beq_t,int_beq_f,int_bne_t,int_bne_f,nat_le_t,nat_le_f,Nat.sub_zero,Nat.sub_self,not_false_eq_true,not_true_eq_false]
    subst ht
    have hT : ∀ t : S8, AV.agg [AV.int .u32 t.a, AV.int .u32 t.b, AV.int .u32 t.c, AV.int .u32 t.d, AV.int .u32 t.e, AV.int .u32 t.f, AV.int .u32 t.g, AV.int .u32 t.h] = .agg (intsOf .u32 t.list) := fun t => rfl
    have hl8 : ∀ t : S8, t.list.length = 8 := fun t => rfl
    rw [hT, hT]
    generalize rnds W s 64 = t
    have q8 : t.list.length = 8 := rfl
    refine wpi_loop (fun x r g' => ∃ (i : Nat) (L : List Int), r = [(2, .var (.agg (intsOf .u32 L))), (4, .var Z8), (10, .var (.agg (intsOf .u32 t.list))), (162, .val (.int .i64 i))] ∧ x = 8 - i ∧ i ≤ 8 ∧ g' = g ∧ L.length = 8 ∧ ∀ j, L.getD j 0 = if j < i then (addS s t).list.getD j 0 else s.list.getD j 0) 8 (by omega)
      ⟨0, s.list, rfl, rfl, by omega, rfl, rfl, fun j => by rw [if_neg (by omega)]⟩ ?_
    rintro x r g' ⟨i, L, rfl, rfl, hi, rfl, hL, hg⟩
    by_cases hi2 : i < 8
    · have h1 := hg i
      rw [if_neg (by omega)] at h1
      unfold Z8
      simp (maxSteps := 2000000) (discharger := omega) only [xc,xo,xr,x0,x1,x2,x3,x4,x5,x6,xd,xe,xb,kont_call,kont_pure,kont_round,isNil,slOk,sliceV,selems,srcElems,copyTo,dlen,eqAV,eqCells,eqS,wr,place,partVals,partEs,placeEs,mapOf,keyOk,keyCells,findK,Bool.bne_false,Bool.bne_true,List.drop_zero,List.nil_append,List.append_nil,List.take_zero,List.cons_append,List.take_succ_cons,List.drop_succ_cons,List.take_nil,List.drop_nil,Reg.isA,Reg.isV,Reg.stays,Reg.onto,Bool.false_or,Bool.or_false,Bool.false_and,Bool.and_false,Bool.true_and,Bool.and_true,Bool.or_true,Bool.true_or,↓reduceIte,reduceCtorEq,Nat.reduceEqDiff,Nat.reduceLT,Nat.reduceAdd,Nat.reduceMul,Nat.add_zero,Nat.zero_add,Nat.not_lt_zero,Nat.zero_ne_one,Nat.one_ne_zero,Nat.reduceLeDiff,Nat.lt_irrefl,Nat.zero_lt_succ,Bool.false_eq_true,Bool.not_true,Bool.not_false,Option.map_some,Option.map_none,Option.bind_some,Option.getD_some,Option.getD_none,and_self,and_true,true_and,List.length_cons,List.length_nil,List.any_nil,List.any_cons,Int.toNat_natCast,Int.cast_ofNat_Int,Int.natCast_zero,Int.natCast_nonneg,true_implies,or_true,true_or,false_or,or_false,beq_self_eq_true,Option.some.injEq,exists_eq_left',Int.reduceEq,Int.reduceLT,Int.reduceLE,Int.reduceGT,Int.reduceGE,Nat.reduceGT,Int.reduceNeg,Int.reduceToNat,Int.reduceAdd,Int.reduceMul,Int.reduceSub,Int.reducePow,decide_true,decide_false,decide_eq_true_eq,List.getElem?_cons_zero,List.getElem?_cons_succ,Nat.reduceBEq,Nat.reduceSub,exists_false,and_false,false_and,xu,List.set_cons_zero,List.set_cons_succ,wrap_i64,int_lt_t,int_lt_f,int_le_t,int_le_f,int_gt_t,int_gt_f,int_ge_t,int_ge_f,int_eq_t,int_eq_f,int_beq_t,int_beq_f,int_bne_t,int_bne_f,nat_le_t,nat_le_f,Nat.sub_zero,Nat.sub_self,not_false_eq_true,not_true_eq_false,io_get,io_set,io_len,hL,hl8,Nat.mul_one,Nat.reduceLeDiff,nat_lt_t]
      refine ⟨8 - (i + 1), by omega, i + 1, L.set i (add32 (L.getD i 0) (t.list.getD i 0)), by rw [show ((i : Nat) : Int) + 1 = ((i + 1 : Nat) : Int) by omega]; rfl, rfl, by omega, by simpa using hL, fun j => ?_⟩
      rw [set_getD _ _ _ _ (by omega)]
      by_cases e : j = i
      · rw [if_pos e, if_pos (by omega), e, h1, addS_get _ _ _ hi2]
      · rw [if_neg e, hg j]
        by_cases e2 : j < i
        · rw [if_pos e2, if_pos (by omega)]
        · rw [if_neg e2, if_neg (by omega)]
    · obtain rfl : i = 8 := by omega
      have : L = (addS s t).list := ext_getD (by rw [hL]; rfl) fun j => by
        rw [hg j]
        by_cases e : j < 8
        · rw [if_pos e]
        · rw [if_neg e, getD_big (by show 8 ≤ j; omega), getD_big (by show 8 ≤ j; omega)]
      subst this
      unfold Z8
      simp (maxSteps := 2000000) (discharger := omega) only [xc,xo,xr,x0,x1,x2,x3,x4,x5,x6,xd,xe,xb,kont_call,kont_pure,kont_round,isNil,slOk,sliceV,selems,srcElems,copyTo,dlen,eqAV,eqCells,eqS,wr,place,partVals,partEs,placeEs,mapOf,keyOk,keyCells,findK,Bool.bne_false,Bool.bne_true,List.drop_zero,List.nil_append,List.append_nil,List.take_zero,List.cons_append,List.take_succ_cons,List.drop_succ_cons,List.take_nil,List.drop_nil,Reg.isA,Reg.isV,Reg.stays,Reg.onto,Bool.false_or,Bool.or_false,Bool.false_and,Bool.and_false,Bool.true_and,Bool.and_true,Bool.or_true,Bool.true_or,↓reduceIte,reduceCtorEq,Nat.reduceEqDiff,Nat.reduceLT,Nat.reduceAdd,Nat.reduceMul,Nat.add_zero,Nat.zero_add,Nat.not_lt_zero,Nat.zero_ne_one,Nat.one_ne_zero,Nat.reduceLeDiff,Nat.lt_irrefl,Nat.zero_lt_succ,Bool.false_eq_true,Bool.not_true,Bool.not_false,Option.map_some,Option.map_none,Option.bind_some,Option.getD_some,Option.getD_none,and_self,and_true,true_and,List.length_cons,List.length_nil,List.any_nil,List.any_cons,Int.toNat_natCast,Int.cast_ofNat_Int,Int.natCast_zero,Int.natCast_nonneg,true_implies,or_true,true_or,false_or,or_false,beq_self_eq_true,Option.some.injEq,exists_eq_left',Int.reduceEq,Int.reduceLT,Int.reduceLE,Int.reduceGT,Int.reduceGE,Nat.reduceGT,Int.reduceNeg,Int.reduceToNat,Int.reduceAdd,Int.reduceMul,Int.reduceSub,Int.reducePow,decide_true,decide_false,decide_eq_true_eq,List.getElem?_cons_zero,List.getElem?_cons_succ,Nat.reduceBEq,Nat.reduceSub,exists_false,and_false,false_and,xu,List.set_cons_zero,List.set_cons_succ,wrap_i64,int_lt_t,int_lt_f,int_le_t,int_le_f,int_gt_t,int_gt_f,int_ge_t,int_ge_f,int_eq_t,int_eq_f,int_beq_t,int_beq_f,int_bne_t,int_bne_f,nat_le_t,nat_le_f,Nat.sub_zero,Nat.sub_self,not_false_eq_true,not_true_eq_false,Nat.reduceLeDiff,io_len,hL,io_take]
      rfl

set_option maxRecDepth 100000 in
theorem c51 (s : S8) (b : List Int) (hb : b.length = 64) (hbb : ∀ x ∈ b, 0 ≤ x ∧ x ≤ 255) (hn : 80 < n) : call FB n tot ω 51 [K8 s, .agg (intsOf .u8 b)] h = some (K8 (mixS s b), h) := by
  obtain ⟨n, rfl⟩ : ∃ m, n = m + 1 := ⟨n - 1, by omega⟩
  refine call_eq (fn := a51) g51 ?_
  unfold a51
  have z64 : (AV.agg [AV.int .u32 0, AV.int .u32 0, AV.int .u32 0, AV.int .u32 0, AV.int .u32 0, AV.int .u32 0, AV.int .u32 0, AV.int .u32 0, AV.int .u32 0, AV.int .u32 0, AV.int .u32 0, AV.int .u32 0, AV.int .u32 0, AV.int .u32 0, AV.int .u32 0, AV.int .u32 0, AV.int .u32 0, AV.int .u32 0, AV.int .u32 0, AV.int .u32 0, AV.int .u32 0, AV.int .u32 0, AV.int .u32 0, AV.int .u32 0, AV.int .u32 0, AV.int .u32 0, AV.int .u32 0, AV.int .u32 0, AV.int .u32 0, AV.int .u32 0, AV.int .u32 0, AV.int .u32 0, AV.int .u32 0, AV.int .u32 0, AV.int .u32 0, AV.int .u32 0, AV.int .u32 0, AV.int .u32 0, AV.int .u32 0, AV.int .u32 0, AV.int .u32 0, AV.int .u32 0, AV.int .u32 0, AV.int .u32 0, AV.int .u32 0, AV.int .u32 0, AV.int .u32 0, AV.int .u32 0, AV.int .u32 0, AV.int .u32 0, AV.int .u32 0, AV.int .u32 0, AV.int .u32 0, AV.int .u32 0, AV.int .u32 0, AV.int .u32 0, AV.int .u32 0, AV.int .u32 0, AV.int .u32 0, AV.int .u32 0, AV.int .u32 0, AV.int .u32 0, AV.int .u32 0, AV.int .u32 0] : AV) = .agg (intsOf .u32 (List.replicate 64 0)) := rfl
  have z8 : (AV.agg [AV.int .u32 0, AV.int .u32 0, AV.int .u32 0, AV.int .u32 0, AV.int .u32 0, AV.int .u32 0, AV.int .u32 0, AV.int .u32 0] : AV) = Z8 := rfl
  have c8 : AV.cells (K8 s) = intsOf .u32 s.list := rfl
  have n8 : AV.notTup (K8 s) = true := rfl
  have l8 : s.list.length = 8 := rfl
  rw [z64, z8]
  simp (maxSteps := 2000000) (discharger := omega) only [xc,xo,xr,x0,x1,x2,x3,x4,x5,x6,xd,xe,xb,kont_call,kont_pure,kont_round,isNil,slOk,sliceV,selems,srcElems,copyTo,dlen,eqAV,eqCells,eqS,wr,place,partVals,partEs,placeEs,mapOf,keyOk,keyCells,findK,Bool.bne_false,Bool.bne_true,List.drop_zero,List.nil_append,List.append_nil,List.take_zero,List.cons_append,List.take_succ_cons,List.drop_succ_cons,List.take_nil,List.drop_nil,Reg.isA,Reg.isV,Reg.stays,Reg.onto,Bool.false_or,Bool.or_false,Bool.false_and,Bool.and_false,Bool.true_and,Bool.and_true,Bool.or_true,Bool.true_or,↓reduceIte,reduceCtorEq,Nat.reduceEqDiff,Nat.reduceLT,Nat.reduceAdd,Nat.reduceMul,Nat.add_zero,Nat.zero_add,Nat.not_lt_zero,Nat.zero_ne_one,Nat.one_ne_zero,Nat.reduceLeDiff,Nat.lt_irrefl,Nat.zero_lt_succ,Bool.false_eq_true,Bool.not_true,Bool.not_false,Option.map_some,Option.map_none,Option.bind_some,Option.getD_some,Option.getD_none,and_self,and_true,true_and,List.length_cons,List.length_nil,List.any_nil,List.any_cons,Int.toNat_natCast,Int.cast_ofNat_Int,Int.natCast_zero,Int.natCast_nonneg,true_implies,or_true,true_or,false_or,or_false,beq_self_eq_true,Option.some.injEq,exists_eq_left',Int.reduceEq,Int.reduceLT,Int.reduceLE,Int.reduceGT,Int.reduceGE,Nat.reduceGT,Int.reduceNeg,Int.reduceToNat,Int.reduceAdd,Int.reduceMul,Int.reduceSub,Int.reducePow,decide_true,decide_false,decide_eq_true_eq,List.getElem?_cons_zero,List.getElem?_cons_succ,Nat.reduceBEq,Nat.reduceSub,exists_false,and_false,false_and,xu,List.set_cons_zero,List.set_cons_succ,wrap_i64,int_lt_t,int_lt_f,int_le_t,int_le_f,int_gt_t,int_gt_f,int_ge_t,int_ge_f,int_eq_t,int_eq_f,int_beq_t,int_beq_f,int_bne_t,int_bne_f,nat_le_t,nat_le_f,Nat.sub_zero,Nat.sub_self,not_false_eq_true,not_true_eq_false,c8,n8,io_len,hb,l8,Nat.reduceLeDiff]
  refine wpi_loop (fun x r g => ∃ (i : Nat) (W : List Int), r = [(2, .var (K8 s)), (3, .var (.agg (intsOf .u8 b))), (4, .var Z8), (5, .var (.agg (intsOf .u32 W))), (18, .val (.int .i64 i))] ∧ x = 64 - i ∧ i ≤ 64 ∧ g = h ∧ Sch b W i) 64 (by omega)
    ⟨0, List.replicate 64 0, rfl, rfl, by omega, rfl, by simp, fun j hj => by omega, fun j _ => rep_getD 64 j⟩ ?_
  rintro x r g ⟨i, W, rfl, rfl, hi, rfl, hs⟩
  by_cases hi2 : i < 64
  · by_cases h16 : i < 16
    · simp (maxSteps := 2000000) (discharger := omega) only [xc,xo,xr,x0,x1,x2,x3,x4,x5,x6,xd,xe,xb,kont_call,kont_pure,kont_round,isNil,slOk,sliceV,selems,srcElems,copyTo,dlen,eqAV,eqCells,eqS,wr,place,partVals,partEs,placeEs,mapOf,keyOk,keyCells,findK,Bool.bne_false,Bool.bne_true,List.drop_zero,List.nil_append,List.append_nil,List.take_zero,List.cons_append,List.take_succ_cons,List.drop_succ_cons,List.take_nil,List.drop_nil,Reg.isA,Reg.isV,Reg.stays,Reg.onto,Bool.false_or,Bool.or_false,Bool.false_and,Bool.and_false,Bool.true_and,Bool.and_true,Bool.or_true,Bool.true_or,↓reduceIte,reduceCtorEq,Nat.reduceEqDiff,Nat.reduceLT,Nat.reduceAdd,Nat.reduceMul,Nat.add_zero,Nat.zero_add,Nat.not_lt_zero,Nat.zero_ne_one,Nat.one_ne_zero,Nat.reduceLeDiff,Nat.lt_irrefl,Nat.zero_lt_succ,Bool.false_eq_true,Bool.not_true,Bool.not_false,Option.map_some,Option.map_none,Option.bind_some,Option.getD_some,Option.getD_none,and_self,and_true,true_and,List.length_cons,List.length_nil,List.any_nil,List.any_cons,Int.toNat_natCast,Int.cast_ofNat_Int,Int.natCast_zero,Int.natCast_nonneg,true_implies,or_true,true_or,false_or,or_false,beq_self_eq_true,Option.some.injEq,exists_eq_left',Int.reduceEq,Int.reduceLT,Int.reduceLE,Int.reduceGT,Int.reduceGE,Nat.reduceGT,Int.reduceNeg,Int.reduceToNat,Int.reduceAdd,Int.reduceMul,Int.reduceSub,Int.reducePow,decide_true,decide_false,decide_eq_true_eq,List.getElem?_cons_zero,List.getElem?_cons_succ,Nat.reduceBEq,Nat.reduceSub,exists_false,and_false,false_and,xu,List.set_cons_zero,List.set_cons_succ,wrap_i64,int_lt_t,int_lt_f,int_le_t,int_le_f,int_gt_t,int_gt_f,int_ge_t,int_ge_f,int_eq_t,int_eq_f,int_beq_t,int_beq_f,int_bne_t,int_bne_f,nat_le_t,nat_le_f,Nat.sub_zero,Nat.sub_self,not_false_eq_true,not_true_eq_false]
      refine (w_x51a (n := n) s b W i h16 hb hs.len (hs.zero i (Nat.le_refl _)) hbb (by omega)).mono ?_
      rintro e r' h' ⟨rfl, rfl, W', rfl, hl, hg⟩
      simp (maxSteps := 2000000) (discharger := omega) only [xc,xo,xr,x0,x1,x2,x3,x4,x5,x6,xd,xe,xb,kont_call,kont_pure,kont_round,isNil,slOk,sliceV,selems,srcElems,copyTo,dlen,eqAV,eqCells,eqS,wr,place,partVals,partEs,placeEs,mapOf,keyOk,keyCells,findK,Bool.bne_false,Bool.bne_true,List.drop_zero,List.nil_append,List.append_nil,List.take_zero,List.cons_append,List.take_succ_cons,List.drop_succ_cons,List.take_nil,List.drop_nil,Reg.isA,Reg.isV,Reg.stays,Reg.onto,Bool.false_or,Bool.or_false,Bool.false_and,Bool.and_false,Bool.true_and,Bool.and_true,Bool.or_true,Bool.true_or,↓reduceIte,reduceCtorEq,Nat.reduceEqDiff,Nat.reduceLT,Nat.reduceAdd,Nat.reduceMul,Nat.add_zero,Nat.zero_add,Nat.not_lt_zero,Nat.zero_ne_one,Nat.one_ne_zero,Nat.reduceLeDiff,Nat.lt_irrefl,Nat.zero_lt_succ,Bool.false_eq_true,Bool.not_true,Bool.not_false,Option.map_some,Option.map_none,Option.bind_some,Option.getD_some,Option.getD_none,and_self,and_true,true_and,List.length_cons,List.length_nil,List.any_nil,List.any_cons,Int.toNat_natCast,Int.cast_ofNat_Int,Int.natCast_zero,Int.natCast_nonneg,true_implies,or_true,true_or,false_or,or_false,beq_self_eq_true,Option.some.injEq,exists_eq_left',Int.reduceEq,Int.reduceLT,Int.reduceLE,Int.reduceGT,Int.reduceGE,Nat.reduceGT,Int.reduceNeg,Int.reduceToNat,Int.reduceAdd,Int.reduceMul,Int.reduceSub,Int.reducePow,decide_true,decide_false,decide_eq_true_eq,List.getElem?_cons_zero,List.getElem?_cons_succ,Nat.reduceBEq,Nat.reduceSub,exists_false,and_false,false_and,xu,List.set_cons_zero,List.set_cons_succ,wrap_i64,int_lt_t,int_lt_f,int_le_t,int_le_f,int_gt_t,int_gt_f,int_ge_t,int_ge_f,int_eq_t,int_eq_f,int_beq_t,int_beq_f,int_bne_t,int_bne_f,nat_le_t,nat_le_f,Nat.sub_zero,Nat.sub_self,not_false_eq_true,not_true_eq_false]
      refine ⟨64 - (i + 1), by omega, i + 1, W', by rw [show ((i : Nat) : Int) + 1 = ((i + 1 : Nat) : Int) by omega], rfl, by omega, hs.next hi2 hl fun j => ?_⟩
      rw [hg]
      by_cases e : j = i
      · rw [if_pos e, if_pos e]; unfold wNext; rw [if_pos h16]
      · rw [if_neg e, if_neg e]
    · simp (maxSteps := 2000000) (discharger := omega) only [xc,xo,xr,x0,x1,x2,x3,x4,x5,x6,xd,xe,xb,kont_call,kont_pure,kont_round,isNil,slOk,sliceV,selems,srcElems,copyTo,dlen,eqAV,eqCells,eqS,wr,place,partVals,partEs,placeEs,mapOf,keyOk,keyCells,findK,Bool.bne_false,Bool.bne_true,List.drop_zero,List.nil_append,List.append_nil,List.take_zero,List.cons_append,List.take_succ_cons,List.drop_succ_cons,List.take_nil,List.drop_nil,Reg.isA,Reg.isV,Reg.stays,Reg.onto,Bool.false_or,Bool.or_false,Bool.false_and,Bool.and_false,Bool.true_and,Bool.and_true,Bool.or_true,Bool.true_or,↓reduceIte,reduceCtorEq,Nat.reduceEqDiff,Nat.reduceLT,Nat.reduceAdd,Nat.reduceMul,Nat.add_zero,Nat.zero_add,Nat.not_lt_zero,Nat.zero_ne_one,Nat.one_ne_zero,Nat.reduceLeDiff,Nat.lt_irrefl,Nat.zero_lt_succ,Bool.false_eq_true,Bool.not_true,Bool.not_false,Option.map_some,Option.map_none,Option.bind_some,Option.getD_some,Option.getD_none,and_self,and_true,true_and,List.length_cons,List.length_nil,List.any_nil,List.any_cons,Int.toNat_natCast,Int.cast_ofNat_Int,Int.natCast_zero,Int.natCast_nonneg,true_implies,or_true,true_or,false_or,or_false,beq_self_eq_true,Option.some.injEq,exists_eq_left',Int.reduceEq,Int.reduceLT,Int.reduceLE,Int.reduceGT,Int.reduceGE,Nat.reduceGT,Int.reduceNeg,Int.reduceToNat,Int.reduceAdd,Int.reduceMul,Int.reduceSub,Int.reducePow,decide_true,decide_false,decide_eq_true_eq,List.getElem?_cons_zero,List.getElem?_cons_succ,Nat.reduceBEq,Nat.reduceSub,exists_false,and_false,false_and,xu,List.set_cons_zero,List.set_cons_succ,wrap_i64,int_lt_t,int_lt_f,int_le_t,int_le_f,int_gt_t,int_gt_f,int_ge_t,int_ge_f,int_eq_t,int_eq_f,int_beq_t,int_beq_f,int_bne_t,int_bne_f,nat_le_t,nat_le_f,Nat.sub_zero,Nat.sub_self,not_false_eq_true,not_true_eq_false]
      refine (w_x51b (n := n) s b W i (by omega) hi2 hs.len (by omega)).mono ?_
      rintro e r' h' ⟨rfl, rfl, W', rfl, hl, hg⟩
      simp (maxSteps := 2000000) (discharger := omega) only [xc,xo,xr,x0,x1,x2,x3,x4,x5,x6,xd,xe,xb,kont_call,kont_pure,kont_round,isNil,slOk,sliceV,selems,srcElems,copyTo,dlen,eqAV,eqCells,eqS,wr,place,partVals,partEs,placeEs,mapOf,keyOk,keyCells,findK,Bool.bne_false,Bool.bne_true,List.drop_zero,List.nil_append,List.append_nil,List.take_zero,List.cons_append,List.take_succ_cons,List.drop_succ_cons,List.take_nil,List.drop_nil,Reg.isA,Reg.isV,Reg.stays,Reg.onto,Bool.false_or,Bool.or_false,Bool.false_and,Bool.and_false,Bool.true_and,Bool.and_true,Bool.or_true,Bool.true_or,↓reduceIte,reduceCtorEq,Nat.reduceEqDiff,Nat.reduceLT,Nat.reduceAdd,Nat.reduceMul,Nat.add_zero,Nat.zero_add,Nat.not_lt_zero,Nat.zero_ne_one,Nat.one_ne_zero,Nat.reduceLeDiff,Nat.lt_irrefl,Nat.zero_lt_succ,Bool.false_eq_true,Bool.not_true,Bool.not_false,Option.map_some,Option.map_none,Option.bind_some,Option.getD_some,Option.getD_none,and_self,and_true,true_and,List.length_cons,List.length_nil,List.any_nil,List.any_cons,Int.toNat_natCast,Int.cast_ofNat_Int,Int.natCast_zero,Int.natCast_nonneg,true_implies,or_true,true_or,false_or,or_false,beq_self_eq_true,Option.some.injEq,exists_eq_left',Int.reduceEq,Int.reduceLT,Int.reduceLE,Int.reduceGT,Int.reduceGE,Nat.reduceGT,Int.reduceNeg,Int.reduceToNat,Int.reduceAdd,Int.reduceMul,Int.reduceSub,Int.reducePow,decide_true,decide_false,decide_eq_true_eq,List.getElem?_cons_zero,List.getElem?_cons_succ,Nat.reduceBEq,Nat.reduceSub,exists_false,and_false,false_and,xu,List.set_cons_zero,List.set_cons_succ,wrap_i64,int_lt_t,int_lt_f,int_le_t,int_le_f,int_gt_t,int_gt_f,int_ge_t,int_ge_f,int_eq_t,int_eq_f,int_beq_t,int_beq_f,int_bne_t,int_bne_f,nat_le_t,nat_le_f,Nat.sub_zero,Nat.sub_self,not_false_eq_true,not_true_eq_false]
      refine ⟨64 - (i + 1), by omega, i + 1, W', by rw [show ((i : Nat) : Int) + 1 = ((i + 1 : Nat) : Int) by omega], rfl, by omega, hs.next hi2 hl fun j => ?_⟩
      rw [hg, wNext_old hi fun j hj => hs.old hi j hj]
  · obtain rfl : i = 64 := by omega
    have : W = wList b 64 := ext_getD (by rw [hs.len, wList_len]) fun j => by
      by_cases e : j < 64
      · exact hs.done j e
      · rw [getD_big (by rw [hs.len]; omega), getD_big (by rw [wList_len]; omega)]
    have hm : mixS s b = addS s (rnds W s 64) := by unfold mixS; rw [this]
    rw [hm]
    simp (maxSteps := 2000000) (discharger := omega) only [xc,xo,xr,x0,x1,x2,x3,x4,x5,x6,xd,xe,xb,kont_call,kont_pure,kont_round,isNil,slOk,sliceV,selems,srcElems,copyTo,dlen,eqAV,eqCells,eqS,wr,place,partVals,partEs,placeEs,mapOf,keyOk,keyCells,findK,Bool.bne_false,Bool.bne_true,List.drop_zero,List.nil_append,List.append_nil,List.take_zero,List.cons_append,List.take_succ_cons,List.drop_succ_cons,List.take_nil,List.drop_nil,Reg.isA,Reg.isV,Reg.stays,Reg.onto,Bool.false_or,Bool.or_false,Bool.false_and,Bool.and_false,Bool.true_and,Bool.and_true,Bool.or_true,Bool.true_or,↓reduceIte,reduceCtorEq,Nat.reduceEqDiff,Nat.reduceLT,Nat.reduceAdd,Nat.reduceMul,Nat.add_zero,Nat.zero_add,Nat.not_lt_zero,Nat.zero_ne_one,Nat.one_ne_zero,Nat.reduceLeDiff,Nat.lt_irrefl,Nat.zero_lt_succ,Bool.false_eq_true,Bool.not_true,Bool.not_false,Option.map_some,Option.map_none,Option.bind_some,Option.getD_some,Option.getD_none,and_self,and_true,true_and,List.length_cons,List.length_nil,List.any_nil,List.any_cons,Int.toNat_natCast,Int.cast_ofNat_Int,Int.natCast_zero,Int.natCast_nonneg,true_implies,or_true,true_or,false_or,or_false,beq_self_eq_true,Option.some.injEq,exists_eq_left',Int.reduceEq,Int.reduceLT,Int.reduceLE,Int.reduceGT,Int.reduceGE,Nat.reduceGT,Int.reduceNeg,Int.reduceToNat,Int.reduceAdd,Int.reduceMul,Int.reduceSub,Int.reducePow,decide_true,decide_false,decide_eq_true_eq,List.getElem?_cons_zero,List.getElem?_cons_succ,Nat.reduceBEq,Nat.reduceSub,exists_false,and_false,false_and,xu,List.set_cons_zero,List.set_cons_succ,wrap_i64,int_lt_t,int_lt_f,int_le_t,int_le_f,int_gt_t,int_gt_f,int_ge_t,int_ge_f,int_eq_t,int_eq_f,int_beq_t,int_beq_f,int_bne_t,int_bne_f,nat_le_t,nat_le_f,Nat.sub_zero,Nat.sub_self,not_false_eq_true,not_true_eq_false]
    exact w_x51c (n := n) s b W hs.len (by omega)
end
end Go.Proofs.YtpgmohjmpaifbaaDoor.Im

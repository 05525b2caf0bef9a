/- S13ZFnsB: functions of the cut, as code of the idealised machine. Written by a program (ImCompile). -/
import Derived.Test.YtlognommhffmcaaGreatImSem
namespace Go.Proofs.YtlognommhffmcaaGreat.Im
open Go Go.Im

/-- math/bits.Len64 (checked) -/
def a131 : AF := ⟨[ARes.t 2],
  (.seq
  (.region [] [⟨some 2, AOp.mov (AX.c (AV.int (IntKind.i64) 0)), none⟩] [0, 2])
  (.seq
  (.seq
  (.region [] [⟨some 3, AOp.mov (AX.t 0), none⟩,
    ⟨some 4, AOp.bin (BinOp.geq) (AX.t 3) (AX.c (AV.int (IntKind.u64) 4294967296)), none⟩] [0, 2, 4])
  (.cond (AX.t 4)
    (.seq
    (.region [] [⟨some 5, AOp.mov (AX.t 0), none⟩,
      ⟨some 6, AOp.bin (BinOp.shr) (AX.t 5) (AX.c (AV.int (IntKind.u64) 32)), none⟩,
      ⟨some 0, AOp.mov (AX.t 6), none⟩] [0])
    (.region [] [⟨some 2, AOp.mov (AX.c (AV.int (IntKind.i64) 32)), none⟩] [0, 2]))
    AC.skip))
  (.seq
  (.seq
  (.region [] [⟨some 7, AOp.mov (AX.t 0), none⟩,
    ⟨some 8, AOp.bin (BinOp.geq) (AX.t 7) (AX.c (AV.int (IntKind.u64) 65536)), none⟩] [0, 2, 8])
  (.cond (AX.t 8)
    (.seq
    (.region [] [⟨some 9, AOp.mov (AX.t 0), none⟩,
      ⟨some 10, AOp.bin (BinOp.shr) (AX.t 9) (AX.c (AV.int (IntKind.u64) 16)), none⟩,
      ⟨some 0, AOp.mov (AX.t 10), none⟩] [0, 2])
    (.region [] [⟨some 11, AOp.mov (AX.t 2), none⟩,
      ⟨some 12, AOp.bin (BinOp.add) (AX.t 11) (AX.c (AV.int (IntKind.i64) 16)), none⟩,
      ⟨some 2, AOp.mov (AX.t 12), none⟩] [0, 2]))
    AC.skip))
  (.seq
  (.seq
  (.region [] [⟨some 13, AOp.mov (AX.t 0), none⟩,
    ⟨some 14, AOp.bin (BinOp.geq) (AX.t 13) (AX.c (AV.int (IntKind.u64) 256)), none⟩] [0, 2, 14])
  (.cond (AX.t 14)
    (.seq
    (.region [] [⟨some 15, AOp.mov (AX.t 0), none⟩,
      ⟨some 16, AOp.bin (BinOp.shr) (AX.t 15) (AX.c (AV.int (IntKind.u64) 8)), none⟩,
      ⟨some 0, AOp.mov (AX.t 16), none⟩] [0, 2])
    (.region [] [⟨some 17, AOp.mov (AX.t 2), none⟩,
      ⟨some 18, AOp.bin (BinOp.add) (AX.t 17) (AX.c (AV.int (IntKind.i64) 8)), none⟩,
      ⟨some 2, AOp.mov (AX.t 18), none⟩] [0, 2]))
    AC.skip))
  (.seq
  (.region [] [⟨some 19, AOp.mov (AX.t 2), none⟩,
    ⟨some 20, AOp.mov (AX.t 0), none⟩,
    ⟨some 21, AOp.convI (IntKind.u8) (AX.t 20), none⟩,
    ⟨some 22, AOp.indexStr (AX.c (AV.str [0, 1, 2, 2, 3, 3, 3, 3, 4, 4, 4, 4, 4, 4, 4, 4, 5, 5, 5, 5, 5, 5, 5, 5, 5, 5, 5, 5, 5, 5, 5, 5, 6, 6, 6, 6, 6, 6, 6, 6, 6, 6, 6, 6, 6, 6, 6, 6, 6, 6, 6, 6, 6, 6, 6, 6, 6, 6, 6, 6, 6, 6, 6, 6, 7, 7, 7, 7, 7, 7, 7, 7, 7, 7, 7, 7, 7, 7, 7, 7, 7, 7, 7, 7, 7, 7, 7, 7, 7, 7, 7, 7, 7, 7, 7, 7, 7, 7, 7, 7, 7, 7, 7, 7, 7, 7, 7, 7, 7, 7, 7, 7, 7, 7, 7, 7, 7, 7, 7, 7, 7, 7, 7, 7, 7, 7, 7, 7, 8, 8, 8, 8, 8, 8, 8, 8, 8, 8, 8, 8, 8, 8, 8, 8, 8, 8, 8, 8, 8, 8, 8, 8, 8, 8, 8, 8, 8, 8, 8, 8, 8, 8, 8, 8, 8, 8, 8, 8, 8, 8, 8, 8, 8, 8, 8, 8, 8, 8, 8, 8, 8, 8, 8, 8, 8, 8, 8, 8, 8, 8, 8, 8, 8, 8, 8, 8, 8, 8, 8, 8, 8, 8, 8, 8, 8, 8, 8, 8, 8, 8, 8, 8, 8, 8, 8, 8, 8, 8, 8, 8, 8, 8, 8, 8, 8, 8, 8, 8, 8, 8, 8, 8, 8, 8, 8, 8, 8, 8, 8, 8, 8, 8, 8, 8, 8, 8, 8, 8, 8, 8, 8, 8, 8, 8, 8, 8])) (AX.t 21), none⟩,
    ⟨some 23, AOp.convI (IntKind.i64) (AX.t 22), none⟩,
    ⟨some 24, AOp.bin (BinOp.add) (AX.t 19) (AX.t 23), none⟩,
    ⟨some 2, AOp.mov (AX.t 24), none⟩] [2])
  AC.ret)))))⟩

/-- internal/bytealg.CompareString (checked) -/
def a132 : AF := ⟨[ARes.t 4],
  (.seq
  (.region [] [⟨some 4, AOp.mov (AX.c (AV.int (IntKind.i64) 0)), none⟩] [0, 1])
  (.seq
  (.region [] [⟨some 5, AOp.mov (AX.t 0), none⟩,
    ⟨some 6, AOp.mov (AX.t 1), none⟩,
    ⟨some 7, AOp.call 146 [AX.t 5, AX.t 6], none⟩,
    ⟨some 4, AOp.mov (AX.t 7), none⟩] [4])
  AC.ret))⟩

/-- slices.insertionSortCmpFunc[silo/api.Store] (checked) -/
def a133 : AF := ⟨[],
  (.seq
  (.region [] [⟨some 10, AOp.mov (AX.t 1), none⟩,
    ⟨some 11, AOp.bin (BinOp.add) (AX.t 10) (AX.c (AV.int (IntKind.i64) 1)), none⟩,
    ⟨some 8, AOp.mov (AX.t 11), none⟩] [0, 1, 2, 3, 8])
  (.block 0
    (.loop
      (.seq
      (.seq
      (.region [] [⟨some 12, AOp.mov (AX.t 8), none⟩,
        ⟨some 13, AOp.mov (AX.t 2), none⟩,
        ⟨some 14, AOp.bin (BinOp.lss) (AX.t 12) (AX.t 13), none⟩] [0, 1, 2, 3, 8, 14])
      (.cond (AX.t 14)
        AC.skip
        (.exit 0)))
      (.seq
      (.block 1
        (.seq
        (.region [] [⟨some 17, AOp.mov (AX.t 8), none⟩,
          ⟨some 9, AOp.mov (AX.t 17), none⟩] [0, 1, 2, 3, 8, 9])
        (.block 2
          (.loop
            (.seq
            (.seq
            (.region [0, 1, 2, 3, 4, 5, 6, 7, 8, 9, 10, 11, 12, 13, 14, 15, 16] [⟨some 18, AOp.mov (AX.t 9), none⟩,
              ⟨some 19, AOp.mov (AX.t 1), none⟩,
              ⟨some 20, AOp.bin (BinOp.gtr) (AX.t 18) (AX.t 19), none⟩,
              ⟨some 21, AOp.mov (AX.t 20), none⟩,
              ⟨some 22, AOp.mov (AX.t 3), some (21, true)⟩,
              ⟨some 23, AOp.mov (AX.t 0), some (21, true)⟩,
              ⟨some 24, AOp.mov (AX.t 9), some (21, true)⟩,
              ⟨some 25, AOp.indexS 2 (AX.t 23) (AX.t 24), some (21, true)⟩,
              ⟨some 26, AOp.load true 2 (AX.t 25), some (21, true)⟩,
              ⟨some 27, AOp.mov (AX.t 0), some (21, true)⟩,
              ⟨some 28, AOp.mov (AX.t 9), some (21, true)⟩,
              ⟨some 29, AOp.bin (BinOp.sub) (AX.t 28) (AX.c (AV.int (IntKind.i64) 1)), some (21, true)⟩,
              ⟨some 30, AOp.indexS 2 (AX.t 27) (AX.t 29), some (21, true)⟩,
              ⟨some 31, AOp.load true 2 (AX.t 30), some (21, true)⟩,
              ⟨some 32, AOp.callV (AX.t 22) [AX.t 26, AX.t 31], some (21, true)⟩,
              ⟨some 33, AOp.bin (BinOp.lss) (AX.t 32) (AX.c (AV.int (IntKind.i64) 0)), some (21, true)⟩,
              ⟨some 34, AOp.pick (AX.t 21) (AX.t 33) (AX.c (AV.bool false)), none⟩] [0, 1, 2, 3, 8, 9, 34])
            (.cond (AX.t 34)
              AC.skip
              (.exit 2)))
            (.seq
            (.block 3
              (.region [0, 1, 2, 3, 4, 5, 6, 7, 8, 9, 10, 11, 12, 13, 14, 15, 16, 17] [⟨some 37, AOp.mov (AX.t 0), none⟩,
                ⟨some 38, AOp.mov (AX.t 9), none⟩,
                ⟨some 39, AOp.mov (AX.t 0), none⟩,
                ⟨some 40, AOp.mov (AX.t 9), none⟩,
                ⟨some 41, AOp.bin (BinOp.sub) (AX.t 40) (AX.c (AV.int (IntKind.i64) 1)), none⟩,
                ⟨some 42, AOp.mov (AX.t 0), none⟩,
                ⟨some 43, AOp.mov (AX.t 9), none⟩,
                ⟨some 44, AOp.bin (BinOp.sub) (AX.t 43) (AX.c (AV.int (IntKind.i64) 1)), none⟩,
                ⟨some 45, AOp.indexS 2 (AX.t 42) (AX.t 44), none⟩,
                ⟨some 46, AOp.load true 2 (AX.t 45), none⟩,
                ⟨some 47, AOp.mov (AX.t 0), none⟩,
                ⟨some 48, AOp.mov (AX.t 9), none⟩,
                ⟨some 49, AOp.indexS 2 (AX.t 47) (AX.t 48), none⟩,
                ⟨some 50, AOp.load true 2 (AX.t 49), none⟩,
                ⟨some 51, AOp.indexS 2 (AX.t 37) (AX.t 38), none⟩,
                ⟨none, AOp.store 2 (AX.t 51) (AX.t 46), none⟩,
                ⟨some 52, AOp.indexS 2 (AX.t 39) (AX.t 41), none⟩,
                ⟨none, AOp.store 2 (AX.t 52) (AX.t 50), none⟩] [0, 1, 2, 3, 8, 9]))
            (.region [] [⟨some 35, AOp.mov (AX.t 9), none⟩,
              ⟨some 36, AOp.bin (BinOp.sub) (AX.t 35) (AX.c (AV.int (IntKind.i64) 1)), none⟩,
              ⟨some 9, AOp.mov (AX.t 36), none⟩] [0, 1, 2, 3, 8, 9])))))))
      (.region [] [⟨some 15, AOp.mov (AX.t 8), none⟩,
        ⟨some 16, AOp.bin (BinOp.add) (AX.t 15) (AX.c (AV.int (IntKind.i64) 1)), none⟩,
        ⟨some 8, AOp.mov (AX.t 16), none⟩] [0, 1, 2, 3, 8]))))))⟩

/-- slices.heapSortCmpFunc[silo/api.Store] (checked) -/
def a134 : AF := ⟨[],
  (.seq
  (.region [] [⟨some 13, AOp.mov (AX.t 1), none⟩,
    ⟨some 8, AOp.mov (AX.t 13), none⟩] [0, 1, 2, 3, 8])
  (.seq
  (.region [] [⟨some 9, AOp.mov (AX.c (AV.int (IntKind.i64) 0)), none⟩] [0, 1, 2, 3, 8, 9])
  (.seq
  (.region [] [⟨some 14, AOp.mov (AX.t 2), none⟩,
    ⟨some 15, AOp.mov (AX.t 1), none⟩,
    ⟨some 16, AOp.bin (BinOp.sub) (AX.t 14) (AX.t 15), none⟩,
    ⟨some 10, AOp.mov (AX.t 16), none⟩] [0, 3, 8, 9, 10])
  (.seq
  (.seq
  (.region [] [⟨some 17, AOp.mov (AX.t 10), none⟩,
    ⟨some 18, AOp.bin (BinOp.sub) (AX.t 17) (AX.c (AV.int (IntKind.i64) 1)), none⟩,
    ⟨some 19, AOp.bin (BinOp.quo) (AX.t 18) (AX.c (AV.int (IntKind.i64) 2)), none⟩,
    ⟨some 11, AOp.mov (AX.t 19), none⟩] [0, 3, 8, 9, 10, 11])
  (.block 0
    (.loop
      (.seq
      (.seq
      (.region [] [⟨some 20, AOp.mov (AX.t 11), none⟩,
        ⟨some 21, AOp.bin (BinOp.geq) (AX.t 20) (AX.c (AV.int (IntKind.i64) 0)), none⟩] [0, 3, 8, 9, 10, 11, 21])
      (.cond (AX.t 21)
        AC.skip
        (.exit 0)))
      (.seq
      (.block 1
        (.region [] [⟨some 24, AOp.mov (AX.t 0), none⟩,
          ⟨some 25, AOp.mov (AX.t 11), none⟩,
          ⟨some 26, AOp.mov (AX.t 10), none⟩,
          ⟨some 27, AOp.mov (AX.t 8), none⟩,
          ⟨some 28, AOp.mov (AX.t 3), none⟩,
          ⟨some 29, AOp.call 147 [AX.t 24, AX.t 25, AX.t 26, AX.t 27, AX.t 28], none⟩] [0, 3, 8, 9, 10, 11]))
      (.region [] [⟨some 22, AOp.mov (AX.t 11), none⟩,
        ⟨some 23, AOp.bin (BinOp.sub) (AX.t 22) (AX.c (AV.int (IntKind.i64) 1)), none⟩,
        ⟨some 11, AOp.mov (AX.t 23), none⟩] [0, 3, 8, 9, 10, 11]))))))
  (.seq
  (.region [] [⟨some 30, AOp.mov (AX.t 10), none⟩,
    ⟨some 31, AOp.bin (BinOp.sub) (AX.t 30) (AX.c (AV.int (IntKind.i64) 1)), none⟩,
    ⟨some 12, AOp.mov (AX.t 31), none⟩] [0, 3, 8, 9, 12])
  (.block 2
    (.loop
      (.seq
      (.seq
      (.region [] [⟨some 32, AOp.mov (AX.t 12), none⟩,
        ⟨some 33, AOp.bin (BinOp.geq) (AX.t 32) (AX.c (AV.int (IntKind.i64) 0)), none⟩] [0, 3, 8, 9, 12, 33])
      (.cond (AX.t 33)
        AC.skip
        (.exit 2)))
      (.seq
      (.block 3
        (.seq
        (.region [0, 1, 2, 3, 4, 5, 6, 7, 8, 9, 10, 11, 12, 13, 14, 15, 16, 17, 18, 19] [⟨some 36, AOp.mov (AX.t 0), none⟩,
          ⟨some 37, AOp.mov (AX.t 8), none⟩,
          ⟨some 38, AOp.mov (AX.t 0), none⟩,
          ⟨some 39, AOp.mov (AX.t 8), none⟩,
          ⟨some 40, AOp.mov (AX.t 12), none⟩,
          ⟨some 41, AOp.bin (BinOp.add) (AX.t 39) (AX.t 40), none⟩,
          ⟨some 42, AOp.mov (AX.t 0), none⟩,
          ⟨some 43, AOp.mov (AX.t 8), none⟩,
          ⟨some 44, AOp.mov (AX.t 12), none⟩,
          ⟨some 45, AOp.bin (BinOp.add) (AX.t 43) (AX.t 44), none⟩,
          ⟨some 46, AOp.indexS 2 (AX.t 42) (AX.t 45), none⟩,
          ⟨some 47, AOp.load true 2 (AX.t 46), none⟩,
          ⟨some 48, AOp.mov (AX.t 0), none⟩,
          ⟨some 49, AOp.mov (AX.t 8), none⟩,
          ⟨some 50, AOp.indexS 2 (AX.t 48) (AX.t 49), none⟩,
          ⟨some 51, AOp.load true 2 (AX.t 50), none⟩,
          ⟨some 52, AOp.indexS 2 (AX.t 36) (AX.t 37), none⟩,
          ⟨none, AOp.store 2 (AX.t 52) (AX.t 47), none⟩,
          ⟨some 53, AOp.indexS 2 (AX.t 38) (AX.t 41), none⟩,
          ⟨none, AOp.store 2 (AX.t 53) (AX.t 51), none⟩] [0, 3, 8, 9, 12])
        (.region [] [⟨some 54, AOp.mov (AX.t 0), none⟩,
          ⟨some 55, AOp.mov (AX.t 9), none⟩,
          ⟨some 56, AOp.mov (AX.t 12), none⟩,
          ⟨some 57, AOp.mov (AX.t 8), none⟩,
          ⟨some 58, AOp.mov (AX.t 3), none⟩,
          ⟨some 59, AOp.call 147 [AX.t 54, AX.t 55, AX.t 56, AX.t 57, AX.t 58], none⟩] [0, 3, 8, 9, 12])))
      (.region [] [⟨some 34, AOp.mov (AX.t 12), none⟩,
        ⟨some 35, AOp.bin (BinOp.sub) (AX.t 34) (AX.c (AV.int (IntKind.i64) 1)), none⟩,
        ⟨some 12, AOp.mov (AX.t 35), none⟩] [0, 3, 8, 9, 12]))))))))))⟩

/-- slices.breakPatternsCmpFunc[silo/api.Store] (checked) -/
def a135 : AF := ⟨[],
  (.seq
  (.region [] [⟨some 13, AOp.mov (AX.t 2), none⟩,
    ⟨some 14, AOp.mov (AX.t 1), none⟩,
    ⟨some 15, AOp.bin (BinOp.sub) (AX.t 13) (AX.t 14), none⟩,
    ⟨some 8, AOp.mov (AX.t 15), none⟩] [0, 1, 8])
  (.seq
  (.region [] [⟨some 16, AOp.mov (AX.t 8), none⟩,
    ⟨some 17, AOp.bin (BinOp.geq) (AX.t 16) (AX.c (AV.int (IntKind.i64) 8)), none⟩] [0, 1, 8, 17])
  (.cond (AX.t 17)
    (.seq
    (.region [] [⟨some 18, AOp.mov (AX.t 8), none⟩,
      ⟨some 19, AOp.convI (IntKind.u64) (AX.t 18), none⟩,
      ⟨some 9, AOp.allocH 1 (AV.int (IntKind.u64) 0), none⟩,
      ⟨none, AOp.store 1 (AX.t 9) (AX.t 19), none⟩] [0, 1, 8, 9])
    (.seq
    (.region [] [⟨some 20, AOp.mov (AX.t 8), none⟩,
      ⟨some 21, AOp.call 142 [AX.t 20], none⟩,
      ⟨some 10, AOp.mov (AX.t 21), none⟩] [0, 1, 8, 9, 10])
    (.seq
    (.region [] [⟨some 22, AOp.mov (AX.t 1), none⟩,
      ⟨some 23, AOp.mov (AX.t 8), none⟩,
      ⟨some 24, AOp.bin (BinOp.quo) (AX.t 23) (AX.c (AV.int (IntKind.i64) 4)), none⟩,
      ⟨some 25, AOp.bin (BinOp.mul) (AX.t 24) (AX.c (AV.int (IntKind.i64) 2)), none⟩,
      ⟨some 26, AOp.bin (BinOp.add) (AX.t 22) (AX.t 25), none⟩,
      ⟨some 27, AOp.bin (BinOp.sub) (AX.t 26) (AX.c (AV.int (IntKind.i64) 1)), none⟩,
      ⟨some 11, AOp.mov (AX.t 27), none⟩] [0, 1, 8, 9, 10, 11])
    (.block 0
      (.loop
        (.seq
        (.seq
        (.region [] [⟨some 28, AOp.mov (AX.t 11), none⟩,
          ⟨some 29, AOp.mov (AX.t 1), none⟩,
          ⟨some 30, AOp.mov (AX.t 8), none⟩,
          ⟨some 31, AOp.bin (BinOp.quo) (AX.t 30) (AX.c (AV.int (IntKind.i64) 4)), none⟩,
          ⟨some 32, AOp.bin (BinOp.mul) (AX.t 31) (AX.c (AV.int (IntKind.i64) 2)), none⟩,
          ⟨some 33, AOp.bin (BinOp.add) (AX.t 29) (AX.t 32), none⟩,
          ⟨some 34, AOp.bin (BinOp.add) (AX.t 33) (AX.c (AV.int (IntKind.i64) 1)), none⟩,
          ⟨some 35, AOp.bin (BinOp.leq) (AX.t 28) (AX.t 34), none⟩] [0, 1, 8, 9, 10, 11, 35])
        (.cond (AX.t 35)
          AC.skip
          (.exit 0)))
        (.seq
        (.block 1
          (.seq
          (.region [] [⟨some 38, AOp.call 143 [AX.t 9], none⟩,
            ⟨some 39, AOp.mov (AX.t 10), none⟩,
            ⟨some 40, AOp.bin (BinOp.sub) (AX.t 39) (AX.c (AV.int (IntKind.u64) 1)), none⟩,
            ⟨some 41, AOp.bin (BinOp.and) (AX.t 38) (AX.t 40), none⟩,
            ⟨some 42, AOp.convI (IntKind.i64) (AX.t 41), none⟩,
            ⟨some 12, AOp.mov (AX.t 42), none⟩] [0, 1, 8, 9, 10, 11, 12])
          (.seq
          (.seq
          (.region [] [⟨some 43, AOp.mov (AX.t 12), none⟩,
            ⟨some 44, AOp.mov (AX.t 8), none⟩,
            ⟨some 45, AOp.bin (BinOp.geq) (AX.t 43) (AX.t 44), none⟩] [0, 1, 8, 9, 10, 11, 12, 45])
          (.cond (AX.t 45)
            (.region [] [⟨some 46, AOp.mov (AX.t 12), none⟩,
              ⟨some 47, AOp.mov (AX.t 8), none⟩,
              ⟨some 48, AOp.bin (BinOp.sub) (AX.t 46) (AX.t 47), none⟩,
              ⟨some 12, AOp.mov (AX.t 48), none⟩] [0, 1, 8, 9, 10, 11, 12])
            AC.skip))
          (.region [0, 1, 2, 3, 4, 5, 6, 7, 8, 9, 10, 11, 12, 13, 14, 15, 16, 17, 18, 19] [⟨some 49, AOp.mov (AX.t 0), none⟩,
            ⟨some 50, AOp.mov (AX.t 11), none⟩,
            ⟨some 51, AOp.mov (AX.t 0), none⟩,
            ⟨some 52, AOp.mov (AX.t 1), none⟩,
            ⟨some 53, AOp.mov (AX.t 12), none⟩,
            ⟨some 54, AOp.bin (BinOp.add) (AX.t 52) (AX.t 53), none⟩,
            ⟨some 55, AOp.mov (AX.t 0), none⟩,
            ⟨some 56, AOp.mov (AX.t 1), none⟩,
            ⟨some 57, AOp.mov (AX.t 12), none⟩,
            ⟨some 58, AOp.bin (BinOp.add) (AX.t 56) (AX.t 57), none⟩,
            ⟨some 59, AOp.indexS 2 (AX.t 55) (AX.t 58), none⟩,
            ⟨some 60, AOp.load true 2 (AX.t 59), none⟩,
            ⟨some 61, AOp.mov (AX.t 0), none⟩,
            ⟨some 62, AOp.mov (AX.t 11), none⟩,
            ⟨some 63, AOp.indexS 2 (AX.t 61) (AX.t 62), none⟩,
            ⟨some 64, AOp.load true 2 (AX.t 63), none⟩,
            ⟨some 65, AOp.indexS 2 (AX.t 49) (AX.t 50), none⟩,
            ⟨none, AOp.store 2 (AX.t 65) (AX.t 60), none⟩,
            ⟨some 66, AOp.indexS 2 (AX.t 51) (AX.t 54), none⟩,
            ⟨none, AOp.store 2 (AX.t 66) (AX.t 64), none⟩] [0, 1, 8, 9, 10, 11]))))
        (.region [] [⟨some 36, AOp.mov (AX.t 11), none⟩,
          ⟨some 37, AOp.bin (BinOp.add) (AX.t 36) (AX.c (AV.int (IntKind.i64) 1)), none⟩,
          ⟨some 11, AOp.mov (AX.t 37), none⟩] [0, 1, 8, 9, 10, 11]))))))))
    AC.skip)))⟩

/-- slices.choosePivotCmpFunc[silo/api.Store] (checked) -/
def a136 : AF := ⟨[ARes.t 8, ARes.t 9],
  (.seq
  (.region [] [⟨some 8, AOp.mov (AX.c (AV.int (IntKind.i64) 0)), none⟩,
    ⟨some 9, AOp.mov (AX.c (AV.int (IntKind.i64) 0)), none⟩] [0, 1, 2, 3])
  (.seq
  (.region [] [⟨some 15, AOp.mov (AX.t 2), none⟩,
    ⟨some 16, AOp.mov (AX.t 1), none⟩,
    ⟨some 17, AOp.bin (BinOp.sub) (AX.t 15) (AX.t 16), none⟩,
    ⟨some 10, AOp.mov (AX.t 17), none⟩] [0, 1, 3, 10])
  (.seq
  (.region [] [⟨some 11, AOp.allocH 1 (AV.int (IntKind.i64) 0), none⟩] [0, 1, 3, 10, 11])
  (.seq
  (.region [] [⟨some 18, AOp.mov (AX.t 1), none⟩,
    ⟨some 19, AOp.mov (AX.t 10), none⟩,
    ⟨some 20, AOp.bin (BinOp.quo) (AX.t 19) (AX.c (AV.int (IntKind.i64) 4)), none⟩,
    ⟨some 21, AOp.bin (BinOp.mul) (AX.t 20) (AX.c (AV.int (IntKind.i64) 1)), none⟩,
    ⟨some 22, AOp.bin (BinOp.add) (AX.t 18) (AX.t 21), none⟩,
    ⟨some 12, AOp.mov (AX.t 22), none⟩] [0, 1, 3, 10, 11, 12])
  (.seq
  (.region [] [⟨some 23, AOp.mov (AX.t 1), none⟩,
    ⟨some 24, AOp.mov (AX.t 10), none⟩,
    ⟨some 25, AOp.bin (BinOp.quo) (AX.t 24) (AX.c (AV.int (IntKind.i64) 4)), none⟩,
    ⟨some 26, AOp.bin (BinOp.mul) (AX.t 25) (AX.c (AV.int (IntKind.i64) 2)), none⟩,
    ⟨some 27, AOp.bin (BinOp.add) (AX.t 23) (AX.t 26), none⟩,
    ⟨some 13, AOp.mov (AX.t 27), none⟩] [0, 1, 3, 10, 11, 12, 13])
  (.seq
  (.region [] [⟨some 28, AOp.mov (AX.t 1), none⟩,
    ⟨some 29, AOp.mov (AX.t 10), none⟩,
    ⟨some 30, AOp.bin (BinOp.quo) (AX.t 29) (AX.c (AV.int (IntKind.i64) 4)), none⟩,
    ⟨some 31, AOp.bin (BinOp.mul) (AX.t 30) (AX.c (AV.int (IntKind.i64) 3)), none⟩,
    ⟨some 32, AOp.bin (BinOp.add) (AX.t 28) (AX.t 31), none⟩,
    ⟨some 14, AOp.mov (AX.t 32), none⟩] [0, 3, 10, 11, 12, 13, 14])
  (.seq
  (.seq
  (.region [] [⟨some 33, AOp.mov (AX.t 10), none⟩,
    ⟨some 34, AOp.bin (BinOp.geq) (AX.t 33) (AX.c (AV.int (IntKind.i64) 8)), none⟩] [0, 3, 10, 11, 12, 13, 14, 34])
  (.cond (AX.t 34)
    (.seq
    (.seq
    (.region [] [⟨some 35, AOp.mov (AX.t 10), none⟩,
      ⟨some 36, AOp.bin (BinOp.geq) (AX.t 35) (AX.c (AV.int (IntKind.i64) 50)), none⟩] [0, 3, 11, 12, 13, 14, 36])
    (.cond (AX.t 36)
      (.seq
      (.region [] [⟨some 37, AOp.mov (AX.t 0), none⟩,
        ⟨some 38, AOp.mov (AX.t 12), none⟩,
        ⟨some 39, AOp.mov (AX.t 3), none⟩,
        ⟨some 40, AOp.call 148 [AX.t 37, AX.t 38, AX.t 11, AX.t 39], none⟩,
        ⟨some 12, AOp.mov (AX.t 40), none⟩] [0, 3, 11, 12, 13, 14])
      (.seq
      (.region [] [⟨some 41, AOp.mov (AX.t 0), none⟩,
        ⟨some 42, AOp.mov (AX.t 13), none⟩,
        ⟨some 43, AOp.mov (AX.t 3), none⟩,
        ⟨some 44, AOp.call 148 [AX.t 41, AX.t 42, AX.t 11, AX.t 43], none⟩,
        ⟨some 13, AOp.mov (AX.t 44), none⟩] [0, 3, 11, 12, 13, 14])
      (.region [] [⟨some 45, AOp.mov (AX.t 0), none⟩,
        ⟨some 46, AOp.mov (AX.t 14), none⟩,
        ⟨some 47, AOp.mov (AX.t 3), none⟩,
        ⟨some 48, AOp.call 148 [AX.t 45, AX.t 46, AX.t 11, AX.t 47], none⟩,
        ⟨some 14, AOp.mov (AX.t 48), none⟩] [0, 3, 11, 12, 13, 14])))
      AC.skip))
    (.region [] [⟨some 49, AOp.mov (AX.t 0), none⟩,
      ⟨some 50, AOp.mov (AX.t 12), none⟩,
      ⟨some 51, AOp.mov (AX.t 13), none⟩,
      ⟨some 52, AOp.mov (AX.t 14), none⟩,
      ⟨some 53, AOp.mov (AX.t 3), none⟩,
      ⟨some 54, AOp.call 149 [AX.t 49, AX.t 50, AX.t 51, AX.t 52, AX.t 11, AX.t 53], none⟩,
      ⟨some 13, AOp.mov (AX.t 54), none⟩] [11, 13]))
    AC.skip))
  (.seq
  (.region [] [⟨some 55, AOp.load false 1 (AX.t 11), none⟩] [13, 55])
  (.block 0
    (.seq
    (.region [] [⟨some 58, AOp.bin (BinOp.eql) (AX.t 55) (AX.c (AV.int (IntKind.i64) 0)), none⟩,
      ⟨some 57, AOp.mov (AX.t 58), none⟩] [13, 55, 57])
    (.cond (AX.t 57)
      (.seq
      (.region [] [⟨some 59, AOp.mov (AX.t 13), none⟩,
        ⟨some 8, AOp.mov (AX.t 59), none⟩,
        ⟨some 9, AOp.mov (AX.c (AV.int (IntKind.i64) 1)), none⟩] [8, 9])
      AC.ret)
      (.seq
      (.region [] [⟨some 61, AOp.bin (BinOp.eql) (AX.t 55) (AX.c (AV.int (IntKind.i64) 12)), none⟩,
        ⟨some 60, AOp.mov (AX.t 61), none⟩] [13, 60])
      (.cond (AX.t 60)
        (.seq
        (.region [] [⟨some 62, AOp.mov (AX.t 13), none⟩,
          ⟨some 8, AOp.mov (AX.t 62), none⟩,
          ⟨some 9, AOp.mov (AX.c (AV.int (IntKind.i64) 2)), none⟩] [8, 9])
        AC.ret)
        (.seq
        (.region [] [⟨some 56, AOp.mov (AX.t 13), none⟩,
          ⟨some 8, AOp.mov (AX.t 56), none⟩,
          ⟨some 9, AOp.mov (AX.c (AV.int (IntKind.i64) 0)), none⟩] [8, 9])
        AC.ret))))))))))))))⟩

/-- slices.reverseRangeCmpFunc[silo/api.Store] (checked) -/
def a137 : AF := ⟨[],
  (.seq
  (.region [] [⟨some 10, AOp.mov (AX.t 1), none⟩,
    ⟨some 8, AOp.mov (AX.t 10), none⟩] [0, 2, 8])
  (.seq
  (.region [] [⟨some 11, AOp.mov (AX.t 2), none⟩,
    ⟨some 12, AOp.bin (BinOp.sub) (AX.t 11) (AX.c (AV.int (IntKind.i64) 1)), none⟩,
    ⟨some 9, AOp.mov (AX.t 12), none⟩] [0, 8, 9])
  (.block 0
    (.loop
      (.seq
      (.seq
      (.region [] [⟨some 13, AOp.mov (AX.t 8), none⟩,
        ⟨some 14, AOp.mov (AX.t 9), none⟩,
        ⟨some 15, AOp.bin (BinOp.lss) (AX.t 13) (AX.t 14), none⟩] [0, 8, 9, 15])
      (.cond (AX.t 15)
        AC.skip
        (.exit 0)))
      (.block 1
        (.seq
        (.region [0, 1, 2, 3, 4, 5, 6, 7, 8, 9, 10, 11, 12, 13, 14, 15] [⟨some 16, AOp.mov (AX.t 0), none⟩,
          ⟨some 17, AOp.mov (AX.t 8), none⟩,
          ⟨some 18, AOp.mov (AX.t 0), none⟩,
          ⟨some 19, AOp.mov (AX.t 9), none⟩,
          ⟨some 20, AOp.mov (AX.t 0), none⟩,
          ⟨some 21, AOp.mov (AX.t 9), none⟩,
          ⟨some 22, AOp.indexS 2 (AX.t 20) (AX.t 21), none⟩,
          ⟨some 23, AOp.load true 2 (AX.t 22), none⟩,
          ⟨some 24, AOp.mov (AX.t 0), none⟩,
          ⟨some 25, AOp.mov (AX.t 8), none⟩,
          ⟨some 26, AOp.indexS 2 (AX.t 24) (AX.t 25), none⟩,
          ⟨some 27, AOp.load true 2 (AX.t 26), none⟩,
          ⟨some 28, AOp.indexS 2 (AX.t 16) (AX.t 17), none⟩,
          ⟨none, AOp.store 2 (AX.t 28) (AX.t 23), none⟩,
          ⟨some 29, AOp.indexS 2 (AX.t 18) (AX.t 19), none⟩,
          ⟨none, AOp.store 2 (AX.t 29) (AX.t 27), none⟩] [0, 8, 9])
        (.seq
        (.region [] [⟨some 30, AOp.mov (AX.t 8), none⟩,
          ⟨some 31, AOp.bin (BinOp.add) (AX.t 30) (AX.c (AV.int (IntKind.i64) 1)), none⟩,
          ⟨some 8, AOp.mov (AX.t 31), none⟩] [0, 8, 9])
        (.region [] [⟨some 32, AOp.mov (AX.t 9), none⟩,
          ⟨some 33, AOp.bin (BinOp.sub) (AX.t 32) (AX.c (AV.int (IntKind.i64) 1)), none⟩,
          ⟨some 9, AOp.mov (AX.t 33), none⟩] [0, 8, 9])))))))))⟩

/-- slices.partialInsertionSortCmpFunc[silo/api.Store] (checked) -/
def a138 : AF := ⟨[ARes.t 8],
  (.seq
  (.region [] [⟨some 8, AOp.mov (AX.c (AV.bool false)), none⟩] [0, 1, 2, 3])
  (.seq
  (.region [] [⟨some 13, AOp.mov (AX.t 1), none⟩,
    ⟨some 14, AOp.bin (BinOp.add) (AX.t 13) (AX.c (AV.int (IntKind.i64) 1)), none⟩,
    ⟨some 9, AOp.mov (AX.t 14), none⟩] [0, 1, 2, 3, 9])
  (.seq
  (.seq
  (.region [] [⟨some 10, AOp.mov (AX.c (AV.int (IntKind.i64) 0)), none⟩] [0, 1, 2, 3, 9, 10])
  (.block 0
    (.loop
      (.seq
      (.seq
      (.region [] [⟨some 15, AOp.mov (AX.t 10), none⟩,
        ⟨some 16, AOp.bin (BinOp.lss) (AX.t 15) (AX.c (AV.int (IntKind.i64) 5)), none⟩] [0, 1, 2, 3, 9, 10, 16])
      (.cond (AX.t 16)
        AC.skip
        (.exit 0)))
      (.seq
      (.block 1
        (.seq
        (.block 2
          (.loop
            (.seq
            (.seq
            (.region [0, 1, 2, 3, 4, 5, 6, 7, 8, 9, 10, 11, 12, 13, 14, 15, 16, 17] [⟨some 19, AOp.mov (AX.t 9), none⟩,
              ⟨some 20, AOp.mov (AX.t 2), none⟩,
              ⟨some 21, AOp.bin (BinOp.lss) (AX.t 19) (AX.t 20), none⟩,
              ⟨some 22, AOp.mov (AX.t 21), none⟩,
              ⟨some 23, AOp.mov (AX.t 3), some (22, true)⟩,
              ⟨some 24, AOp.mov (AX.t 0), some (22, true)⟩,
              ⟨some 25, AOp.mov (AX.t 9), some (22, true)⟩,
              ⟨some 26, AOp.indexS 2 (AX.t 24) (AX.t 25), some (22, true)⟩,
              ⟨some 27, AOp.load true 2 (AX.t 26), some (22, true)⟩,
              ⟨some 28, AOp.mov (AX.t 0), some (22, true)⟩,
              ⟨some 29, AOp.mov (AX.t 9), some (22, true)⟩,
              ⟨some 30, AOp.bin (BinOp.sub) (AX.t 29) (AX.c (AV.int (IntKind.i64) 1)), some (22, true)⟩,
              ⟨some 31, AOp.indexS 2 (AX.t 28) (AX.t 30), some (22, true)⟩,
              ⟨some 32, AOp.load true 2 (AX.t 31), some (22, true)⟩,
              ⟨some 33, AOp.callV (AX.t 23) [AX.t 27, AX.t 32], some (22, true)⟩,
              ⟨some 34, AOp.bin (BinOp.lss) (AX.t 33) (AX.c (AV.int (IntKind.i64) 0)), some (22, true)⟩,
              ⟨some 35, AOp.un (UnOp.not) (AX.t 34), some (22, true)⟩,
              ⟨some 36, AOp.pick (AX.t 22) (AX.t 35) (AX.c (AV.bool false)), none⟩] [0, 1, 2, 3, 9, 10, 36])
            (.cond (AX.t 36)
              AC.skip
              (.exit 2)))
            (.block 3
              (.region [] [⟨some 37, AOp.mov (AX.t 9), none⟩,
                ⟨some 38, AOp.bin (BinOp.add) (AX.t 37) (AX.c (AV.int (IntKind.i64) 1)), none⟩,
                ⟨some 9, AOp.mov (AX.t 38), none⟩] [0, 1, 2, 3, 9, 10])))))
        (.seq
        (.seq
        (.region [] [⟨some 39, AOp.mov (AX.t 9), none⟩,
          ⟨some 40, AOp.mov (AX.t 2), none⟩,
          ⟨some 41, AOp.bin (BinOp.eql) (AX.t 39) (AX.t 40), none⟩] [0, 1, 2, 3, 9, 10, 41])
        (.cond (AX.t 41)
          (.seq
          (.region [] [⟨some 8, AOp.mov (AX.c (AV.bool true)), none⟩] [8])
          AC.ret)
          AC.skip))
        (.seq
        (.seq
        (.region [] [⟨some 42, AOp.mov (AX.t 2), none⟩,
          ⟨some 43, AOp.mov (AX.t 1), none⟩,
          ⟨some 44, AOp.bin (BinOp.sub) (AX.t 42) (AX.t 43), none⟩,
          ⟨some 45, AOp.bin (BinOp.lss) (AX.t 44) (AX.c (AV.int (IntKind.i64) 50)), none⟩] [0, 1, 2, 3, 9, 10, 45])
        (.cond (AX.t 45)
          (.seq
          (.region [] [⟨some 8, AOp.mov (AX.c (AV.bool false)), none⟩] [8])
          AC.ret)
          AC.skip))
        (.seq
        (.region [0, 1, 2, 3, 4, 5, 6, 7, 8, 9, 10, 11, 12, 13, 14, 15, 16, 17] [⟨some 46, AOp.mov (AX.t 0), none⟩,
          ⟨some 47, AOp.mov (AX.t 9), none⟩,
          ⟨some 48, AOp.mov (AX.t 0), none⟩,
          ⟨some 49, AOp.mov (AX.t 9), none⟩,
          ⟨some 50, AOp.bin (BinOp.sub) (AX.t 49) (AX.c (AV.int (IntKind.i64) 1)), none⟩,
          ⟨some 51, AOp.mov (AX.t 0), none⟩,
          ⟨some 52, AOp.mov (AX.t 9), none⟩,
          ⟨some 53, AOp.bin (BinOp.sub) (AX.t 52) (AX.c (AV.int (IntKind.i64) 1)), none⟩,
          ⟨some 54, AOp.indexS 2 (AX.t 51) (AX.t 53), none⟩,
          ⟨some 55, AOp.load true 2 (AX.t 54), none⟩,
          ⟨some 56, AOp.mov (AX.t 0), none⟩,
          ⟨some 57, AOp.mov (AX.t 9), none⟩,
          ⟨some 58, AOp.indexS 2 (AX.t 56) (AX.t 57), none⟩,
          ⟨some 59, AOp.load true 2 (AX.t 58), none⟩,
          ⟨some 60, AOp.indexS 2 (AX.t 46) (AX.t 47), none⟩,
          ⟨none, AOp.store 2 (AX.t 60) (AX.t 55), none⟩,
          ⟨some 61, AOp.indexS 2 (AX.t 48) (AX.t 50), none⟩,
          ⟨none, AOp.store 2 (AX.t 61) (AX.t 59), none⟩] [0, 1, 2, 3, 9, 10])
        (.seq
        (.seq
        (.region [] [⟨some 62, AOp.mov (AX.t 9), none⟩,
          ⟨some 63, AOp.mov (AX.t 1), none⟩,
          ⟨some 64, AOp.bin (BinOp.sub) (AX.t 62) (AX.t 63), none⟩,
          ⟨some 65, AOp.bin (BinOp.geq) (AX.t 64) (AX.c (AV.int (IntKind.i64) 2)), none⟩] [0, 1, 2, 3, 9, 10, 65])
        (.cond (AX.t 65)
          (.seq
          (.region [] [⟨some 66, AOp.mov (AX.t 9), none⟩,
            ⟨some 67, AOp.bin (BinOp.sub) (AX.t 66) (AX.c (AV.int (IntKind.i64) 1)), none⟩,
            ⟨some 11, AOp.mov (AX.t 67), none⟩] [0, 1, 2, 3, 9, 10, 11])
          (.block 4
            (.loop
              (.seq
              (.seq
              (.region [] [⟨some 68, AOp.mov (AX.t 11), none⟩,
                ⟨some 69, AOp.bin (BinOp.geq) (AX.t 68) (AX.c (AV.int (IntKind.i64) 1)), none⟩] [0, 1, 2, 3, 9, 10, 11, 69])
              (.cond (AX.t 69)
                AC.skip
                (.exit 4)))
              (.seq
              (.block 5
                (.seq
                (.seq
                (.region [0, 1, 2, 3, 4, 5, 6, 7, 8, 9, 10, 11, 12] [⟨some 72, AOp.mov (AX.t 3), none⟩,
                  ⟨some 73, AOp.mov (AX.t 0), none⟩,
                  ⟨some 74, AOp.mov (AX.t 11), none⟩,
                  ⟨some 75, AOp.indexS 2 (AX.t 73) (AX.t 74), none⟩,
                  ⟨some 76, AOp.load true 2 (AX.t 75), none⟩,
                  ⟨some 77, AOp.mov (AX.t 0), none⟩,
                  ⟨some 78, AOp.mov (AX.t 11), none⟩,
                  ⟨some 79, AOp.bin (BinOp.sub) (AX.t 78) (AX.c (AV.int (IntKind.i64) 1)), none⟩,
                  ⟨some 80, AOp.indexS 2 (AX.t 77) (AX.t 79), none⟩,
                  ⟨some 81, AOp.load true 2 (AX.t 80), none⟩,
                  ⟨some 82, AOp.callV (AX.t 72) [AX.t 76, AX.t 81], none⟩,
                  ⟨some 83, AOp.bin (BinOp.lss) (AX.t 82) (AX.c (AV.int (IntKind.i64) 0)), none⟩,
                  ⟨some 84, AOp.un (UnOp.not) (AX.t 83), none⟩] [0, 1, 2, 3, 9, 10, 11, 84])
                (.cond (AX.t 84)
                  (.exit 4)
                  AC.skip))
                (.region [0, 1, 2, 3, 4, 5, 6, 7, 8, 9, 10, 11, 12, 13, 14, 15, 16, 17] [⟨some 85, AOp.mov (AX.t 0), none⟩,
                  ⟨some 86, AOp.mov (AX.t 11), none⟩,
                  ⟨some 87, AOp.mov (AX.t 0), none⟩,
                  ⟨some 88, AOp.mov (AX.t 11), none⟩,
                  ⟨some 89, AOp.bin (BinOp.sub) (AX.t 88) (AX.c (AV.int (IntKind.i64) 1)), none⟩,
                  ⟨some 90, AOp.mov (AX.t 0), none⟩,
                  ⟨some 91, AOp.mov (AX.t 11), none⟩,
                  ⟨some 92, AOp.bin (BinOp.sub) (AX.t 91) (AX.c (AV.int (IntKind.i64) 1)), none⟩,
                  ⟨some 93, AOp.indexS 2 (AX.t 90) (AX.t 92), none⟩,
                  ⟨some 94, AOp.load true 2 (AX.t 93), none⟩,
                  ⟨some 95, AOp.mov (AX.t 0), none⟩,
                  ⟨some 96, AOp.mov (AX.t 11), none⟩,
                  ⟨some 97, AOp.indexS 2 (AX.t 95) (AX.t 96), none⟩,
                  ⟨some 98, AOp.load true 2 (AX.t 97), none⟩,
                  ⟨some 99, AOp.indexS 2 (AX.t 85) (AX.t 86), none⟩,
                  ⟨none, AOp.store 2 (AX.t 99) (AX.t 94), none⟩,
                  ⟨some 100, AOp.indexS 2 (AX.t 87) (AX.t 89), none⟩,
                  ⟨none, AOp.store 2 (AX.t 100) (AX.t 98), none⟩] [0, 1, 2, 3, 9, 10, 11])))
              (.region [] [⟨some 70, AOp.mov (AX.t 11), none⟩,
                ⟨some 71, AOp.bin (BinOp.sub) (AX.t 70) (AX.c (AV.int (IntKind.i64) 1)), none⟩,
                ⟨some 11, AOp.mov (AX.t 71), none⟩] [0, 1, 2, 3, 9, 10, 11]))))))
          AC.skip))
        (.seq
        (.region [] [⟨some 101, AOp.mov (AX.t 2), none⟩,
          ⟨some 102, AOp.mov (AX.t 9), none⟩,
          ⟨some 103, AOp.bin (BinOp.sub) (AX.t 101) (AX.t 102), none⟩,
          ⟨some 104, AOp.bin (BinOp.geq) (AX.t 103) (AX.c (AV.int (IntKind.i64) 2)), none⟩] [0, 1, 2, 3, 9, 10, 104])
        (.cond (AX.t 104)
          (.seq
          (.region [] [⟨some 105, AOp.mov (AX.t 9), none⟩,
            ⟨some 106, AOp.bin (BinOp.add) (AX.t 105) (AX.c (AV.int (IntKind.i64) 1)), none⟩,
            ⟨some 12, AOp.mov (AX.t 106), none⟩] [0, 1, 2, 3, 9, 10, 12])
          (.block 6
            (.loop
              (.seq
              (.seq
              (.region [] [⟨some 107, AOp.mov (AX.t 12), none⟩,
                ⟨some 108, AOp.mov (AX.t 2), none⟩,
                ⟨some 109, AOp.bin (BinOp.lss) (AX.t 107) (AX.t 108), none⟩] [0, 1, 2, 3, 9, 10, 12, 109])
              (.cond (AX.t 109)
                AC.skip
                (.exit 6)))
              (.seq
              (.block 7
                (.seq
                (.seq
                (.region [0, 1, 2, 3, 4, 5, 6, 7, 8, 9, 10, 11, 12] [⟨some 112, AOp.mov (AX.t 3), none⟩,
                  ⟨some 113, AOp.mov (AX.t 0), none⟩,
                  ⟨some 114, AOp.mov (AX.t 12), none⟩,
                  ⟨some 115, AOp.indexS 2 (AX.t 113) (AX.t 114), none⟩,
                  ⟨some 116, AOp.load true 2 (AX.t 115), none⟩,
                  ⟨some 117, AOp.mov (AX.t 0), none⟩,
                  ⟨some 118, AOp.mov (AX.t 12), none⟩,
                  ⟨some 119, AOp.bin (BinOp.sub) (AX.t 118) (AX.c (AV.int (IntKind.i64) 1)), none⟩,
                  ⟨some 120, AOp.indexS 2 (AX.t 117) (AX.t 119), none⟩,
                  ⟨some 121, AOp.load true 2 (AX.t 120), none⟩,
                  ⟨some 122, AOp.callV (AX.t 112) [AX.t 116, AX.t 121], none⟩,
                  ⟨some 123, AOp.bin (BinOp.lss) (AX.t 122) (AX.c (AV.int (IntKind.i64) 0)), none⟩,
                  ⟨some 124, AOp.un (UnOp.not) (AX.t 123), none⟩] [0, 1, 2, 3, 9, 10, 12, 124])
                (.cond (AX.t 124)
                  (.exit 6)
                  AC.skip))
                (.region [0, 1, 2, 3, 4, 5, 6, 7, 8, 9, 10, 11, 12, 13, 14, 15, 16, 17] [⟨some 125, AOp.mov (AX.t 0), none⟩,
                  ⟨some 126, AOp.mov (AX.t 12), none⟩,
                  ⟨some 127, AOp.mov (AX.t 0), none⟩,
                  ⟨some 128, AOp.mov (AX.t 12), none⟩,
                  ⟨some 129, AOp.bin (BinOp.sub) (AX.t 128) (AX.c (AV.int (IntKind.i64) 1)), none⟩,
                  ⟨some 130, AOp.mov (AX.t 0), none⟩,
                  ⟨some 131, AOp.mov (AX.t 12), none⟩,
                  ⟨some 132, AOp.bin (BinOp.sub) (AX.t 131) (AX.c (AV.int (IntKind.i64) 1)), none⟩,
                  ⟨some 133, AOp.indexS 2 (AX.t 130) (AX.t 132), none⟩,
                  ⟨some 134, AOp.load true 2 (AX.t 133), none⟩,
                  ⟨some 135, AOp.mov (AX.t 0), none⟩,
                  ⟨some 136, AOp.mov (AX.t 12), none⟩,
                  ⟨some 137, AOp.indexS 2 (AX.t 135) (AX.t 136), none⟩,
                  ⟨some 138, AOp.load true 2 (AX.t 137), none⟩,
                  ⟨some 139, AOp.indexS 2 (AX.t 125) (AX.t 126), none⟩,
                  ⟨none, AOp.store 2 (AX.t 139) (AX.t 134), none⟩,
                  ⟨some 140, AOp.indexS 2 (AX.t 127) (AX.t 129), none⟩,
                  ⟨none, AOp.store 2 (AX.t 140) (AX.t 138), none⟩] [0, 1, 2, 3, 9, 10, 12])))
              (.region [] [⟨some 110, AOp.mov (AX.t 12), none⟩,
                ⟨some 111, AOp.bin (BinOp.add) (AX.t 110) (AX.c (AV.int (IntKind.i64) 1)), none⟩,
                ⟨some 12, AOp.mov (AX.t 111), none⟩] [0, 1, 2, 3, 9, 10, 12]))))))
          AC.skip))))))))
      (.region [] [⟨some 17, AOp.mov (AX.t 10), none⟩,
        ⟨some 18, AOp.bin (BinOp.add) (AX.t 17) (AX.c (AV.int (IntKind.i64) 1)), none⟩,
        ⟨some 10, AOp.mov (AX.t 18), none⟩] [0, 1, 2, 3, 9, 10]))))))
  (.seq
  (.region [] [⟨some 8, AOp.mov (AX.c (AV.bool false)), none⟩] [8])
  AC.ret))))⟩

/-- slices.partitionEqualCmpFunc[silo/api.Store] (checked) -/
def a139 : AF := ⟨[ARes.t 10],
  (.seq
  (.region [] [⟨some 10, AOp.mov (AX.c (AV.int (IntKind.i64) 0)), none⟩] [0, 1, 2, 3, 4])
  (.seq
  (.region [0, 1, 2, 3, 4, 5, 6, 7, 8, 9, 10, 11, 12, 13, 14, 15] [⟨some 13, AOp.mov (AX.t 0), none⟩,
    ⟨some 14, AOp.mov (AX.t 1), none⟩,
    ⟨some 15, AOp.mov (AX.t 0), none⟩,
    ⟨some 16, AOp.mov (AX.t 3), none⟩,
    ⟨some 17, AOp.mov (AX.t 0), none⟩,
    ⟨some 18, AOp.mov (AX.t 3), none⟩,
    ⟨some 19, AOp.indexS 2 (AX.t 17) (AX.t 18), none⟩,
    ⟨some 20, AOp.load true 2 (AX.t 19), none⟩,
    ⟨some 21, AOp.mov (AX.t 0), none⟩,
    ⟨some 22, AOp.mov (AX.t 1), none⟩,
    ⟨some 23, AOp.indexS 2 (AX.t 21) (AX.t 22), none⟩,
    ⟨some 24, AOp.load true 2 (AX.t 23), none⟩,
    ⟨some 25, AOp.indexS 2 (AX.t 13) (AX.t 14), none⟩,
    ⟨none, AOp.store 2 (AX.t 25) (AX.t 20), none⟩,
    ⟨some 26, AOp.indexS 2 (AX.t 15) (AX.t 16), none⟩,
    ⟨none, AOp.store 2 (AX.t 26) (AX.t 24), none⟩] [0, 1, 2, 4])
  (.seq
  (.region [] [⟨some 27, AOp.mov (AX.t 1), none⟩,
    ⟨some 28, AOp.bin (BinOp.add) (AX.t 27) (AX.c (AV.int (IntKind.i64) 1)), none⟩,
    ⟨some 29, AOp.mov (AX.t 2), none⟩,
    ⟨some 30, AOp.bin (BinOp.sub) (AX.t 29) (AX.c (AV.int (IntKind.i64) 1)), none⟩,
    ⟨some 11, AOp.mov (AX.t 28), none⟩,
    ⟨some 12, AOp.mov (AX.t 30), none⟩] [0, 1, 4, 11, 12])
  (.seq
  (.block 0
    (.loop
      (.block 1
        (.seq
        (.block 2
          (.loop
            (.seq
            (.seq
            (.region [0, 1, 2, 3, 4, 5, 6, 7, 8, 9, 10, 11, 12, 13, 14, 15, 16] [⟨some 31, AOp.mov (AX.t 11), none⟩,
              ⟨some 32, AOp.mov (AX.t 12), none⟩,
              ⟨some 33, AOp.bin (BinOp.leq) (AX.t 31) (AX.t 32), none⟩,
              ⟨some 34, AOp.mov (AX.t 33), none⟩,
              ⟨some 35, AOp.mov (AX.t 4), some (34, true)⟩,
              ⟨some 36, AOp.mov (AX.t 0), some (34, true)⟩,
              ⟨some 37, AOp.mov (AX.t 1), some (34, true)⟩,
              ⟨some 38, AOp.indexS 2 (AX.t 36) (AX.t 37), some (34, true)⟩,
              ⟨some 39, AOp.load true 2 (AX.t 38), some (34, true)⟩,
              ⟨some 40, AOp.mov (AX.t 0), some (34, true)⟩,
              ⟨some 41, AOp.mov (AX.t 11), some (34, true)⟩,
              ⟨some 42, AOp.indexS 2 (AX.t 40) (AX.t 41), some (34, true)⟩,
              ⟨some 43, AOp.load true 2 (AX.t 42), some (34, true)⟩,
              ⟨some 44, AOp.callV (AX.t 35) [AX.t 39, AX.t 43], some (34, true)⟩,
              ⟨some 45, AOp.bin (BinOp.lss) (AX.t 44) (AX.c (AV.int (IntKind.i64) 0)), some (34, true)⟩,
              ⟨some 46, AOp.un (UnOp.not) (AX.t 45), some (34, true)⟩,
              ⟨some 47, AOp.pick (AX.t 34) (AX.t 46) (AX.c (AV.bool false)), none⟩] [0, 1, 4, 11, 12, 47])
            (.cond (AX.t 47)
              AC.skip
              (.exit 2)))
            (.block 3
              (.region [] [⟨some 48, AOp.mov (AX.t 11), none⟩,
                ⟨some 49, AOp.bin (BinOp.add) (AX.t 48) (AX.c (AV.int (IntKind.i64) 1)), none⟩,
                ⟨some 11, AOp.mov (AX.t 49), none⟩] [0, 1, 4, 11, 12])))))
        (.seq
        (.block 4
          (.loop
            (.seq
            (.seq
            (.region [0, 1, 2, 3, 4, 5, 6, 7, 8, 9, 10, 11, 12, 13, 14, 15] [⟨some 50, AOp.mov (AX.t 11), none⟩,
              ⟨some 51, AOp.mov (AX.t 12), none⟩,
              ⟨some 52, AOp.bin (BinOp.leq) (AX.t 50) (AX.t 51), none⟩,
              ⟨some 53, AOp.mov (AX.t 52), none⟩,
              ⟨some 54, AOp.mov (AX.t 4), some (53, true)⟩,
              ⟨some 55, AOp.mov (AX.t 0), some (53, true)⟩,
              ⟨some 56, AOp.mov (AX.t 1), some (53, true)⟩,
              ⟨some 57, AOp.indexS 2 (AX.t 55) (AX.t 56), some (53, true)⟩,
              ⟨some 58, AOp.load true 2 (AX.t 57), some (53, true)⟩,
              ⟨some 59, AOp.mov (AX.t 0), some (53, true)⟩,
              ⟨some 60, AOp.mov (AX.t 12), some (53, true)⟩,
              ⟨some 61, AOp.indexS 2 (AX.t 59) (AX.t 60), some (53, true)⟩,
              ⟨some 62, AOp.load true 2 (AX.t 61), some (53, true)⟩,
              ⟨some 63, AOp.callV (AX.t 54) [AX.t 58, AX.t 62], some (53, true)⟩,
              ⟨some 64, AOp.bin (BinOp.lss) (AX.t 63) (AX.c (AV.int (IntKind.i64) 0)), some (53, true)⟩,
              ⟨some 65, AOp.pick (AX.t 53) (AX.t 64) (AX.c (AV.bool false)), none⟩] [0, 1, 4, 11, 12, 65])
            (.cond (AX.t 65)
              AC.skip
              (.exit 4)))
            (.block 5
              (.region [] [⟨some 66, AOp.mov (AX.t 12), none⟩,
                ⟨some 67, AOp.bin (BinOp.sub) (AX.t 66) (AX.c (AV.int (IntKind.i64) 1)), none⟩,
                ⟨some 12, AOp.mov (AX.t 67), none⟩] [0, 1, 4, 11, 12])))))
        (.seq
        (.seq
        (.region [] [⟨some 68, AOp.mov (AX.t 11), none⟩,
          ⟨some 69, AOp.mov (AX.t 12), none⟩,
          ⟨some 70, AOp.bin (BinOp.gtr) (AX.t 68) (AX.t 69), none⟩] [0, 1, 4, 11, 12, 70])
        (.cond (AX.t 70)
          (.exit 0)
          AC.skip))
        (.seq
        (.region [0, 1, 2, 3, 4, 5, 6, 7, 8, 9, 10, 11, 12, 13, 14, 15] [⟨some 71, AOp.mov (AX.t 0), none⟩,
          ⟨some 72, AOp.mov (AX.t 11), none⟩,
          ⟨some 73, AOp.mov (AX.t 0), none⟩,
          ⟨some 74, AOp.mov (AX.t 12), none⟩,
          ⟨some 75, AOp.mov (AX.t 0), none⟩,
          ⟨some 76, AOp.mov (AX.t 12), none⟩,
          ⟨some 77, AOp.indexS 2 (AX.t 75) (AX.t 76), none⟩,
          ⟨some 78, AOp.load true 2 (AX.t 77), none⟩,
          ⟨some 79, AOp.mov (AX.t 0), none⟩,
          ⟨some 80, AOp.mov (AX.t 11), none⟩,
          ⟨some 81, AOp.indexS 2 (AX.t 79) (AX.t 80), none⟩,
          ⟨some 82, AOp.load true 2 (AX.t 81), none⟩,
          ⟨some 83, AOp.indexS 2 (AX.t 71) (AX.t 72), none⟩,
          ⟨none, AOp.store 2 (AX.t 83) (AX.t 78), none⟩,
          ⟨some 84, AOp.indexS 2 (AX.t 73) (AX.t 74), none⟩,
          ⟨none, AOp.store 2 (AX.t 84) (AX.t 82), none⟩] [0, 1, 4, 11, 12])
        (.seq
        (.region [] [⟨some 85, AOp.mov (AX.t 11), none⟩,
          ⟨some 86, AOp.bin (BinOp.add) (AX.t 85) (AX.c (AV.int (IntKind.i64) 1)), none⟩,
          ⟨some 11, AOp.mov (AX.t 86), none⟩] [0, 1, 4, 11, 12])
        (.region [] [⟨some 87, AOp.mov (AX.t 12), none⟩,
          ⟨some 88, AOp.bin (BinOp.sub) (AX.t 87) (AX.c (AV.int (IntKind.i64) 1)), none⟩,
          ⟨some 12, AOp.mov (AX.t 88), none⟩] [0, 1, 4, 11, 12])))))))))
  (.seq
  (.region [] [⟨some 89, AOp.mov (AX.t 11), none⟩,
    ⟨some 10, AOp.mov (AX.t 89), none⟩] [10])
  AC.ret)))))⟩

/-- slices.partitionCmpFunc[silo/api.Store] (checked) -/
def a140 : AF := ⟨[ARes.t 10, ARes.t 11],
  (.seq
  (.region [] [⟨some 10, AOp.mov (AX.c (AV.int (IntKind.i64) 0)), none⟩,
    ⟨some 11, AOp.mov (AX.c (AV.bool false)), none⟩] [0, 1, 2, 3, 4])
  (.seq
  (.region [0, 1, 2, 3, 4, 5, 6, 7, 8, 9, 10, 11, 12, 13, 14, 15] [⟨some 14, AOp.mov (AX.t 0), none⟩,
    ⟨some 15, AOp.mov (AX.t 1), none⟩,
    ⟨some 16, AOp.mov (AX.t 0), none⟩,
    ⟨some 17, AOp.mov (AX.t 3), none⟩,
    ⟨some 18, AOp.mov (AX.t 0), none⟩,
    ⟨some 19, AOp.mov (AX.t 3), none⟩,
    ⟨some 20, AOp.indexS 2 (AX.t 18) (AX.t 19), none⟩,
    ⟨some 21, AOp.load true 2 (AX.t 20), none⟩,
    ⟨some 22, AOp.mov (AX.t 0), none⟩,
    ⟨some 23, AOp.mov (AX.t 1), none⟩,
    ⟨some 24, AOp.indexS 2 (AX.t 22) (AX.t 23), none⟩,
    ⟨some 25, AOp.load true 2 (AX.t 24), none⟩,
    ⟨some 26, AOp.indexS 2 (AX.t 14) (AX.t 15), none⟩,
    ⟨none, AOp.store 2 (AX.t 26) (AX.t 21), none⟩,
    ⟨some 27, AOp.indexS 2 (AX.t 16) (AX.t 17), none⟩,
    ⟨none, AOp.store 2 (AX.t 27) (AX.t 25), none⟩] [0, 1, 2, 4])
  (.seq
  (.region [] [⟨some 28, AOp.mov (AX.t 1), none⟩,
    ⟨some 29, AOp.bin (BinOp.add) (AX.t 28) (AX.c (AV.int (IntKind.i64) 1)), none⟩,
    ⟨some 30, AOp.mov (AX.t 2), none⟩,
    ⟨some 31, AOp.bin (BinOp.sub) (AX.t 30) (AX.c (AV.int (IntKind.i64) 1)), none⟩,
    ⟨some 12, AOp.mov (AX.t 29), none⟩,
    ⟨some 13, AOp.mov (AX.t 31), none⟩] [0, 1, 4, 12, 13])
  (.seq
  (.block 0
    (.loop
      (.seq
      (.seq
      (.region [0, 1, 2, 3, 4, 5, 6, 7, 8, 9, 10, 11, 12, 13, 14, 15] [⟨some 32, AOp.mov (AX.t 12), none⟩,
        ⟨some 33, AOp.mov (AX.t 13), none⟩,
        ⟨some 34, AOp.bin (BinOp.leq) (AX.t 32) (AX.t 33), none⟩,
        ⟨some 35, AOp.mov (AX.t 34), none⟩,
        ⟨some 36, AOp.mov (AX.t 4), some (35, true)⟩,
        ⟨some 37, AOp.mov (AX.t 0), some (35, true)⟩,
        ⟨some 38, AOp.mov (AX.t 12), some (35, true)⟩,
        ⟨some 39, AOp.indexS 2 (AX.t 37) (AX.t 38), some (35, true)⟩,
        ⟨some 40, AOp.load true 2 (AX.t 39), some (35, true)⟩,
        ⟨some 41, AOp.mov (AX.t 0), some (35, true)⟩,
        ⟨some 42, AOp.mov (AX.t 1), some (35, true)⟩,
        ⟨some 43, AOp.indexS 2 (AX.t 41) (AX.t 42), some (35, true)⟩,
        ⟨some 44, AOp.load true 2 (AX.t 43), some (35, true)⟩,
        ⟨some 45, AOp.callV (AX.t 36) [AX.t 40, AX.t 44], some (35, true)⟩,
        ⟨some 46, AOp.bin (BinOp.lss) (AX.t 45) (AX.c (AV.int (IntKind.i64) 0)), some (35, true)⟩,
        ⟨some 47, AOp.pick (AX.t 35) (AX.t 46) (AX.c (AV.bool false)), none⟩] [0, 1, 4, 12, 13, 47])
      (.cond (AX.t 47)
        AC.skip
        (.exit 0)))
      (.block 1
        (.region [] [⟨some 48, AOp.mov (AX.t 12), none⟩,
          ⟨some 49, AOp.bin (BinOp.add) (AX.t 48) (AX.c (AV.int (IntKind.i64) 1)), none⟩,
          ⟨some 12, AOp.mov (AX.t 49), none⟩] [0, 1, 4, 12, 13])))))
  (.seq
  (.block 2
    (.loop
      (.seq
      (.seq
      (.region [0, 1, 2, 3, 4, 5, 6, 7, 8, 9, 10, 11, 12, 13, 14, 15, 16] [⟨some 50, AOp.mov (AX.t 12), none⟩,
        ⟨some 51, AOp.mov (AX.t 13), none⟩,
        ⟨some 52, AOp.bin (BinOp.leq) (AX.t 50) (AX.t 51), none⟩,
        ⟨some 53, AOp.mov (AX.t 52), none⟩,
        ⟨some 54, AOp.mov (AX.t 4), some (53, true)⟩,
        ⟨some 55, AOp.mov (AX.t 0), some (53, true)⟩,
        ⟨some 56, AOp.mov (AX.t 13), some (53, true)⟩,
        ⟨some 57, AOp.indexS 2 (AX.t 55) (AX.t 56), some (53, true)⟩,
        ⟨some 58, AOp.load true 2 (AX.t 57), some (53, true)⟩,
        ⟨some 59, AOp.mov (AX.t 0), some (53, true)⟩,
        ⟨some 60, AOp.mov (AX.t 1), some (53, true)⟩,
        ⟨some 61, AOp.indexS 2 (AX.t 59) (AX.t 60), some (53, true)⟩,
        ⟨some 62, AOp.load true 2 (AX.t 61), some (53, true)⟩,
        ⟨some 63, AOp.callV (AX.t 54) [AX.t 58, AX.t 62], some (53, true)⟩,
        ⟨some 64, AOp.bin (BinOp.lss) (AX.t 63) (AX.c (AV.int (IntKind.i64) 0)), some (53, true)⟩,
        ⟨some 65, AOp.un (UnOp.not) (AX.t 64), some (53, true)⟩,
        ⟨some 66, AOp.pick (AX.t 53) (AX.t 65) (AX.c (AV.bool false)), none⟩] [0, 1, 4, 12, 13, 66])
      (.cond (AX.t 66)
        AC.skip
        (.exit 2)))
      (.block 3
        (.region [] [⟨some 67, AOp.mov (AX.t 13), none⟩,
          ⟨some 68, AOp.bin (BinOp.sub) (AX.t 67) (AX.c (AV.int (IntKind.i64) 1)), none⟩,
          ⟨some 13, AOp.mov (AX.t 68), none⟩] [0, 1, 4, 12, 13])))))
  (.seq
  (.seq
  (.region [] [⟨some 69, AOp.mov (AX.t 12), none⟩,
    ⟨some 70, AOp.mov (AX.t 13), none⟩,
    ⟨some 71, AOp.bin (BinOp.gtr) (AX.t 69) (AX.t 70), none⟩] [0, 1, 4, 12, 13, 71])
  (.cond (AX.t 71)
    (.seq
    (.region [0, 1, 2, 3, 4, 5, 6, 7, 8, 9, 10, 11, 12, 13, 14, 15] [⟨some 72, AOp.mov (AX.t 0), none⟩,
      ⟨some 73, AOp.mov (AX.t 13), none⟩,
      ⟨some 74, AOp.mov (AX.t 0), none⟩,
      ⟨some 75, AOp.mov (AX.t 1), none⟩,
      ⟨some 76, AOp.mov (AX.t 0), none⟩,
      ⟨some 77, AOp.mov (AX.t 1), none⟩,
      ⟨some 78, AOp.indexS 2 (AX.t 76) (AX.t 77), none⟩,
      ⟨some 79, AOp.load true 2 (AX.t 78), none⟩,
      ⟨some 80, AOp.mov (AX.t 0), none⟩,
      ⟨some 81, AOp.mov (AX.t 13), none⟩,
      ⟨some 82, AOp.indexS 2 (AX.t 80) (AX.t 81), none⟩,
      ⟨some 83, AOp.load true 2 (AX.t 82), none⟩,
      ⟨some 84, AOp.indexS 2 (AX.t 72) (AX.t 73), none⟩,
      ⟨none, AOp.store 2 (AX.t 84) (AX.t 79), none⟩,
      ⟨some 85, AOp.indexS 2 (AX.t 74) (AX.t 75), none⟩,
      ⟨none, AOp.store 2 (AX.t 85) (AX.t 83), none⟩] [13])
    (.seq
    (.region [] [⟨some 86, AOp.mov (AX.t 13), none⟩,
      ⟨some 10, AOp.mov (AX.t 86), none⟩,
      ⟨some 11, AOp.mov (AX.c (AV.bool true)), none⟩] [10, 11])
    AC.ret))
    AC.skip))
  (.seq
  (.region [0, 1, 2, 3, 4, 5, 6, 7, 8, 9, 10, 11, 12, 13, 14, 15] [⟨some 87, AOp.mov (AX.t 0), none⟩,
    ⟨some 88, AOp.mov (AX.t 12), none⟩,
    ⟨some 89, AOp.mov (AX.t 0), none⟩,
    ⟨some 90, AOp.mov (AX.t 13), none⟩,
    ⟨some 91, AOp.mov (AX.t 0), none⟩,
    ⟨some 92, AOp.mov (AX.t 13), none⟩,
    ⟨some 93, AOp.indexS 2 (AX.t 91) (AX.t 92), none⟩,
    ⟨some 94, AOp.load true 2 (AX.t 93), none⟩,
    ⟨some 95, AOp.mov (AX.t 0), none⟩,
    ⟨some 96, AOp.mov (AX.t 12), none⟩,
    ⟨some 97, AOp.indexS 2 (AX.t 95) (AX.t 96), none⟩,
    ⟨some 98, AOp.load true 2 (AX.t 97), none⟩,
    ⟨some 99, AOp.indexS 2 (AX.t 87) (AX.t 88), none⟩,
    ⟨none, AOp.store 2 (AX.t 99) (AX.t 94), none⟩,
    ⟨some 100, AOp.indexS 2 (AX.t 89) (AX.t 90), none⟩,
    ⟨none, AOp.store 2 (AX.t 100) (AX.t 98), none⟩] [0, 1, 4, 12, 13])
  (.seq
  (.region [] [⟨some 101, AOp.mov (AX.t 12), none⟩,
    ⟨some 102, AOp.bin (BinOp.add) (AX.t 101) (AX.c (AV.int (IntKind.i64) 1)), none⟩,
    ⟨some 12, AOp.mov (AX.t 102), none⟩] [0, 1, 4, 12, 13])
  (.seq
  (.region [] [⟨some 103, AOp.mov (AX.t 13), none⟩,
    ⟨some 104, AOp.bin (BinOp.sub) (AX.t 103) (AX.c (AV.int (IntKind.i64) 1)), none⟩,
    ⟨some 13, AOp.mov (AX.t 104), none⟩] [0, 1, 4, 12, 13])
  (.seq
  (.block 4
    (.loop
      (.block 5
        (.seq
        (.block 6
          (.loop
            (.seq
            (.seq
            (.region [0, 1, 2, 3, 4, 5, 6, 7, 8, 9, 10, 11, 12, 13, 14, 15] [⟨some 105, AOp.mov (AX.t 12), none⟩,
              ⟨some 106, AOp.mov (AX.t 13), none⟩,
              ⟨some 107, AOp.bin (BinOp.leq) (AX.t 105) (AX.t 106), none⟩,
              ⟨some 108, AOp.mov (AX.t 107), none⟩,
              ⟨some 109, AOp.mov (AX.t 4), some (108, true)⟩,
              ⟨some 110, AOp.mov (AX.t 0), some (108, true)⟩,
              ⟨some 111, AOp.mov (AX.t 12), some (108, true)⟩,
              ⟨some 112, AOp.indexS 2 (AX.t 110) (AX.t 111), some (108, true)⟩,
              ⟨some 113, AOp.load true 2 (AX.t 112), some (108, true)⟩,
              ⟨some 114, AOp.mov (AX.t 0), some (108, true)⟩,
              ⟨some 115, AOp.mov (AX.t 1), some (108, true)⟩,
              ⟨some 116, AOp.indexS 2 (AX.t 114) (AX.t 115), some (108, true)⟩,
              ⟨some 117, AOp.load true 2 (AX.t 116), some (108, true)⟩,
              ⟨some 118, AOp.callV (AX.t 109) [AX.t 113, AX.t 117], some (108, true)⟩,
              ⟨some 119, AOp.bin (BinOp.lss) (AX.t 118) (AX.c (AV.int (IntKind.i64) 0)), some (108, true)⟩,
              ⟨some 120, AOp.pick (AX.t 108) (AX.t 119) (AX.c (AV.bool false)), none⟩] [0, 1, 4, 12, 13, 120])
            (.cond (AX.t 120)
              AC.skip
              (.exit 6)))
            (.block 7
              (.region [] [⟨some 121, AOp.mov (AX.t 12), none⟩,
                ⟨some 122, AOp.bin (BinOp.add) (AX.t 121) (AX.c (AV.int (IntKind.i64) 1)), none⟩,
                ⟨some 12, AOp.mov (AX.t 122), none⟩] [0, 1, 4, 12, 13])))))
        (.seq
        (.block 8
          (.loop
            (.seq
            (.seq
            (.region [0, 1, 2, 3, 4, 5, 6, 7, 8, 9, 10, 11, 12, 13, 14, 15, 16] [⟨some 123, AOp.mov (AX.t 12), none⟩,
              ⟨some 124, AOp.mov (AX.t 13), none⟩,
              ⟨some 125, AOp.bin (BinOp.leq) (AX.t 123) (AX.t 124), none⟩,
              ⟨some 126, AOp.mov (AX.t 125), none⟩,
              ⟨some 127, AOp.mov (AX.t 4), some (126, true)⟩,
              ⟨some 128, AOp.mov (AX.t 0), some (126, true)⟩,
              ⟨some 129, AOp.mov (AX.t 13), some (126, true)⟩,
              ⟨some 130, AOp.indexS 2 (AX.t 128) (AX.t 129), some (126, true)⟩,
              ⟨some 131, AOp.load true 2 (AX.t 130), some (126, true)⟩,
              ⟨some 132, AOp.mov (AX.t 0), some (126, true)⟩,
              ⟨some 133, AOp.mov (AX.t 1), some (126, true)⟩,
              ⟨some 134, AOp.indexS 2 (AX.t 132) (AX.t 133), some (126, true)⟩,
              ⟨some 135, AOp.load true 2 (AX.t 134), some (126, true)⟩,
              ⟨some 136, AOp.callV (AX.t 127) [AX.t 131, AX.t 135], some (126, true)⟩,
              ⟨some 137, AOp.bin (BinOp.lss) (AX.t 136) (AX.c (AV.int (IntKind.i64) 0)), some (126, true)⟩,
              ⟨some 138, AOp.un (UnOp.not) (AX.t 137), some (126, true)⟩,
              ⟨some 139, AOp.pick (AX.t 126) (AX.t 138) (AX.c (AV.bool false)), none⟩] [0, 1, 4, 12, 13, 139])
            (.cond (AX.t 139)
              AC.skip
              (.exit 8)))
            (.block 9
              (.region [] [⟨some 140, AOp.mov (AX.t 13), none⟩,
                ⟨some 141, AOp.bin (BinOp.sub) (AX.t 140) (AX.c (AV.int (IntKind.i64) 1)), none⟩,
                ⟨some 13, AOp.mov (AX.t 141), none⟩] [0, 1, 4, 12, 13])))))
        (.seq
        (.seq
        (.region [] [⟨some 142, AOp.mov (AX.t 12), none⟩,
          ⟨some 143, AOp.mov (AX.t 13), none⟩,
          ⟨some 144, AOp.bin (BinOp.gtr) (AX.t 142) (AX.t 143), none⟩] [0, 1, 4, 12, 13, 144])
        (.cond (AX.t 144)
          (.exit 4)
          AC.skip))
        (.seq
        (.region [0, 1, 2, 3, 4, 5, 6, 7, 8, 9, 10, 11, 12, 13, 14, 15] [⟨some 145, AOp.mov (AX.t 0), none⟩,
          ⟨some 146, AOp.mov (AX.t 12), none⟩,
          ⟨some 147, AOp.mov (AX.t 0), none⟩,
          ⟨some 148, AOp.mov (AX.t 13), none⟩,
          ⟨some 149, AOp.mov (AX.t 0), none⟩,
          ⟨some 150, AOp.mov (AX.t 13), none⟩,
          ⟨some 151, AOp.indexS 2 (AX.t 149) (AX.t 150), none⟩,
          ⟨some 152, AOp.load true 2 (AX.t 151), none⟩,
          ⟨some 153, AOp.mov (AX.t 0), none⟩,
          ⟨some 154, AOp.mov (AX.t 12), none⟩,
          ⟨some 155, AOp.indexS 2 (AX.t 153) (AX.t 154), none⟩,
          ⟨some 156, AOp.load true 2 (AX.t 155), none⟩,
          ⟨some 157, AOp.indexS 2 (AX.t 145) (AX.t 146), none⟩,
          ⟨none, AOp.store 2 (AX.t 157) (AX.t 152), none⟩,
          ⟨some 158, AOp.indexS 2 (AX.t 147) (AX.t 148), none⟩,
          ⟨none, AOp.store 2 (AX.t 158) (AX.t 156), none⟩] [0, 1, 4, 12, 13])
        (.seq
        (.region [] [⟨some 159, AOp.mov (AX.t 12), none⟩,
          ⟨some 160, AOp.bin (BinOp.add) (AX.t 159) (AX.c (AV.int (IntKind.i64) 1)), none⟩,
          ⟨some 12, AOp.mov (AX.t 160), none⟩] [0, 1, 4, 12, 13])
        (.region [] [⟨some 161, AOp.mov (AX.t 13), none⟩,
          ⟨some 162, AOp.bin (BinOp.sub) (AX.t 161) (AX.c (AV.int (IntKind.i64) 1)), none⟩,
          ⟨some 13, AOp.mov (AX.t 162), none⟩] [0, 1, 4, 12, 13])))))))))
  (.seq
  (.region [0, 1, 2, 3, 4, 5, 6, 7, 8, 9, 10, 11, 12, 13, 14, 15] [⟨some 163, AOp.mov (AX.t 0), none⟩,
    ⟨some 164, AOp.mov (AX.t 13), none⟩,
    ⟨some 165, AOp.mov (AX.t 0), none⟩,
    ⟨some 166, AOp.mov (AX.t 1), none⟩,
    ⟨some 167, AOp.mov (AX.t 0), none⟩,
    ⟨some 168, AOp.mov (AX.t 1), none⟩,
    ⟨some 169, AOp.indexS 2 (AX.t 167) (AX.t 168), none⟩,
    ⟨some 170, AOp.load true 2 (AX.t 169), none⟩,
    ⟨some 171, AOp.mov (AX.t 0), none⟩,
    ⟨some 172, AOp.mov (AX.t 13), none⟩,
    ⟨some 173, AOp.indexS 2 (AX.t 171) (AX.t 172), none⟩,
    ⟨some 174, AOp.load true 2 (AX.t 173), none⟩,
    ⟨some 175, AOp.indexS 2 (AX.t 163) (AX.t 164), none⟩,
    ⟨none, AOp.store 2 (AX.t 175) (AX.t 170), none⟩,
    ⟨some 176, AOp.indexS 2 (AX.t 165) (AX.t 166), none⟩,
    ⟨none, AOp.store 2 (AX.t 176) (AX.t 174), none⟩] [13])
  (.seq
  (.region [] [⟨some 177, AOp.mov (AX.t 13), none⟩,
    ⟨some 10, AOp.mov (AX.t 177), none⟩,
    ⟨some 11, AOp.mov (AX.c (AV.bool false)), none⟩] [10, 11])
  AC.ret))))))))))))⟩

/-- slices.siftDownCmpFunc[silo/api.Table] (checked) -/
def a141 : AF := ⟨[],
  (.seq
  (.region [] [⟨some 12, AOp.mov (AX.t 1), none⟩,
    ⟨some 10, AOp.mov (AX.t 12), none⟩] [0, 2, 3, 4, 10])
  (.block 0
    (.loop
      (.block 1
        (.seq
        (.region [] [⟨some 13, AOp.mov (AX.t 10), none⟩,
          ⟨some 14, AOp.bin (BinOp.mul) (AX.c (AV.int (IntKind.i64) 2)) (AX.t 13), none⟩,
          ⟨some 15, AOp.bin (BinOp.add) (AX.t 14) (AX.c (AV.int (IntKind.i64) 1)), none⟩,
          ⟨some 11, AOp.mov (AX.t 15), none⟩] [0, 2, 3, 4, 10, 11])
        (.seq
        (.seq
        (.region [] [⟨some 16, AOp.mov (AX.t 11), none⟩,
          ⟨some 17, AOp.mov (AX.t 2), none⟩,
          ⟨some 18, AOp.bin (BinOp.geq) (AX.t 16) (AX.t 17), none⟩] [0, 2, 3, 4, 10, 11, 18])
        (.cond (AX.t 18)
          (.exit 0)
          AC.skip))
        (.seq
        (.seq
        (.region [0, 1, 2, 3, 4, 5, 6, 7, 8, 9, 10, 11, 12, 13, 14, 15, 16, 17, 18, 19, 20, 21] [⟨some 19, AOp.mov (AX.t 11), none⟩,
          ⟨some 20, AOp.bin (BinOp.add) (AX.t 19) (AX.c (AV.int (IntKind.i64) 1)), none⟩,
          ⟨some 21, AOp.mov (AX.t 2), none⟩,
          ⟨some 22, AOp.bin (BinOp.lss) (AX.t 20) (AX.t 21), none⟩,
          ⟨some 23, AOp.mov (AX.t 22), none⟩,
          ⟨some 24, AOp.mov (AX.t 4), some (23, true)⟩,
          ⟨some 25, AOp.mov (AX.t 0), some (23, true)⟩,
          ⟨some 26, AOp.mov (AX.t 3), some (23, true)⟩,
          ⟨some 27, AOp.mov (AX.t 11), some (23, true)⟩,
          ⟨some 28, AOp.bin (BinOp.add) (AX.t 26) (AX.t 27), some (23, true)⟩,
          ⟨some 29, AOp.indexS 5 (AX.t 25) (AX.t 28), some (23, true)⟩,
          ⟨some 30, AOp.load true 5 (AX.t 29), some (23, true)⟩,
          ⟨some 31, AOp.mov (AX.t 0), some (23, true)⟩,
          ⟨some 32, AOp.mov (AX.t 3), some (23, true)⟩,
          ⟨some 33, AOp.mov (AX.t 11), some (23, true)⟩,
          ⟨some 34, AOp.bin (BinOp.add) (AX.t 32) (AX.t 33), some (23, true)⟩,
          ⟨some 35, AOp.bin (BinOp.add) (AX.t 34) (AX.c (AV.int (IntKind.i64) 1)), some (23, true)⟩,
          ⟨some 36, AOp.indexS 5 (AX.t 31) (AX.t 35), some (23, true)⟩,
          ⟨some 37, AOp.load true 5 (AX.t 36), some (23, true)⟩,
          ⟨some 38, AOp.callV (AX.t 24) [AX.t 30, AX.t 37], some (23, true)⟩,
          ⟨some 39, AOp.bin (BinOp.lss) (AX.t 38) (AX.c (AV.int (IntKind.i64) 0)), some (23, true)⟩,
          ⟨some 40, AOp.pick (AX.t 23) (AX.t 39) (AX.c (AV.bool false)), none⟩] [0, 2, 3, 4, 10, 11, 40])
        (.cond (AX.t 40)
          (.region [] [⟨some 41, AOp.mov (AX.t 11), none⟩,
            ⟨some 42, AOp.bin (BinOp.add) (AX.t 41) (AX.c (AV.int (IntKind.i64) 1)), none⟩,
            ⟨some 11, AOp.mov (AX.t 42), none⟩] [0, 2, 3, 4, 10, 11])
          AC.skip))
        (.seq
        (.seq
        (.region [0, 1, 2, 3, 4, 5, 6, 7, 8, 9, 10, 11, 12, 13, 14, 15] [⟨some 43, AOp.mov (AX.t 4), none⟩,
          ⟨some 44, AOp.mov (AX.t 0), none⟩,
          ⟨some 45, AOp.mov (AX.t 3), none⟩,
          ⟨some 46, AOp.mov (AX.t 10), none⟩,
          ⟨some 47, AOp.bin (BinOp.add) (AX.t 45) (AX.t 46), none⟩,
          ⟨some 48, AOp.indexS 5 (AX.t 44) (AX.t 47), none⟩,
          ⟨some 49, AOp.load true 5 (AX.t 48), none⟩,
          ⟨some 50, AOp.mov (AX.t 0), none⟩,
          ⟨some 51, AOp.mov (AX.t 3), none⟩,
          ⟨some 52, AOp.mov (AX.t 11), none⟩,
          ⟨some 53, AOp.bin (BinOp.add) (AX.t 51) (AX.t 52), none⟩,
          ⟨some 54, AOp.indexS 5 (AX.t 50) (AX.t 53), none⟩,
          ⟨some 55, AOp.load true 5 (AX.t 54), none⟩,
          ⟨some 56, AOp.callV (AX.t 43) [AX.t 49, AX.t 55], none⟩,
          ⟨some 57, AOp.bin (BinOp.lss) (AX.t 56) (AX.c (AV.int (IntKind.i64) 0)), none⟩,
          ⟨some 58, AOp.un (UnOp.not) (AX.t 57), none⟩] [0, 2, 3, 4, 10, 11, 58])
        (.cond (AX.t 58)
          AC.ret
          AC.skip))
        (.seq
        (.region [0, 1, 2, 3, 4, 5, 6, 7, 8, 9, 10, 11, 12, 13, 14, 15, 16, 17, 18, 19, 20, 21, 22, 23] [⟨some 59, AOp.mov (AX.t 0), none⟩,
          ⟨some 60, AOp.mov (AX.t 3), none⟩,
          ⟨some 61, AOp.mov (AX.t 10), none⟩,
          ⟨some 62, AOp.bin (BinOp.add) (AX.t 60) (AX.t 61), none⟩,
          ⟨some 63, AOp.mov (AX.t 0), none⟩,
          ⟨some 64, AOp.mov (AX.t 3), none⟩,
          ⟨some 65, AOp.mov (AX.t 11), none⟩,
          ⟨some 66, AOp.bin (BinOp.add) (AX.t 64) (AX.t 65), none⟩,
          ⟨some 67, AOp.mov (AX.t 0), none⟩,
          ⟨some 68, AOp.mov (AX.t 3), none⟩,
          ⟨some 69, AOp.mov (AX.t 11), none⟩,
          ⟨some 70, AOp.bin (BinOp.add) (AX.t 68) (AX.t 69), none⟩,
          ⟨some 71, AOp.indexS 5 (AX.t 67) (AX.t 70), none⟩,
          ⟨some 72, AOp.load true 5 (AX.t 71), none⟩,
          ⟨some 73, AOp.mov (AX.t 0), none⟩,
          ⟨some 74, AOp.mov (AX.t 3), none⟩,
          ⟨some 75, AOp.mov (AX.t 10), none⟩,
          ⟨some 76, AOp.bin (BinOp.add) (AX.t 74) (AX.t 75), none⟩,
          ⟨some 77, AOp.indexS 5 (AX.t 73) (AX.t 76), none⟩,
          ⟨some 78, AOp.load true 5 (AX.t 77), none⟩,
          ⟨some 79, AOp.indexS 5 (AX.t 59) (AX.t 62), none⟩,
          ⟨none, AOp.store 5 (AX.t 79) (AX.t 72), none⟩,
          ⟨some 80, AOp.indexS 5 (AX.t 63) (AX.t 66), none⟩,
          ⟨none, AOp.store 5 (AX.t 80) (AX.t 78), none⟩] [0, 2, 3, 4, 11])
        (.region [] [⟨some 81, AOp.mov (AX.t 11), none⟩,
          ⟨some 10, AOp.mov (AX.t 81), none⟩] [0, 2, 3, 4, 10]))))))))))⟩

/-- slices.nextPowerOfTwo (checked) -/
def a142 : AF := ⟨[ARes.t 2],
  (.seq
  (.region [] [⟨some 2, AOp.mov (AX.c (AV.int (IntKind.u64) 0)), none⟩] [0])
  (.seq
  (.region [] [⟨some 3, AOp.mov (AX.t 0), none⟩,
    ⟨some 4, AOp.convI (IntKind.u64) (AX.t 3), none⟩,
    ⟨some 5, AOp.call 112 [AX.t 4], none⟩,
    ⟨some 6, AOp.bin (BinOp.shl) (AX.c (AV.int (IntKind.u64) 1)) (AX.t 5), none⟩,
    ⟨some 2, AOp.mov (AX.t 6), none⟩] [2])
  AC.ret))⟩

/-- (*slices.xorshift).Next (checked) -/
def a143 : AF := ⟨[ARes.t 2],
  (.seq
  (.region [] [⟨some 2, AOp.mov (AX.c (AV.int (IntKind.u64) 0)), none⟩] [0])
  (.seq
  (.region [0, 1, 2, 3, 4, 5, 6, 7, 8, 9] [⟨some 3, AOp.mov (AX.t 0), none⟩,
    ⟨some 4, AOp.nilCheck (AX.t 3), none⟩,
    ⟨some 5, AOp.load false 1 (AX.t 4), none⟩,
    ⟨some 6, AOp.mov (AX.t 0), none⟩,
    ⟨some 7, AOp.nilCheck (AX.t 6), none⟩,
    ⟨some 8, AOp.load false 1 (AX.t 7), none⟩,
    ⟨some 9, AOp.bin (BinOp.shl) (AX.t 8) (AX.c (AV.int (IntKind.u64) 13)), none⟩,
    ⟨some 10, AOp.bin (BinOp.xor) (AX.t 5) (AX.t 9), none⟩,
    ⟨some 11, AOp.nilCheck (AX.t 3), none⟩,
    ⟨none, AOp.store 1 (AX.t 11) (AX.t 10), none⟩] [0])
  (.seq
  (.region [0, 1, 2, 3, 4, 5, 6, 7, 8, 9] [⟨some 12, AOp.mov (AX.t 0), none⟩,
    ⟨some 13, AOp.nilCheck (AX.t 12), none⟩,
    ⟨some 14, AOp.load false 1 (AX.t 13), none⟩,
    ⟨some 15, AOp.mov (AX.t 0), none⟩,
    ⟨some 16, AOp.nilCheck (AX.t 15), none⟩,
    ⟨some 17, AOp.load false 1 (AX.t 16), none⟩,
    ⟨some 18, AOp.bin (BinOp.shr) (AX.t 17) (AX.c (AV.int (IntKind.u64) 7)), none⟩,
    ⟨some 19, AOp.bin (BinOp.xor) (AX.t 14) (AX.t 18), none⟩,
    ⟨some 20, AOp.nilCheck (AX.t 12), none⟩,
    ⟨none, AOp.store 1 (AX.t 20) (AX.t 19), none⟩] [0])
  (.seq
  (.region [0, 1, 2, 3, 4, 5, 6, 7, 8, 9] [⟨some 21, AOp.mov (AX.t 0), none⟩,
    ⟨some 22, AOp.nilCheck (AX.t 21), none⟩,
    ⟨some 23, AOp.load false 1 (AX.t 22), none⟩,
    ⟨some 24, AOp.mov (AX.t 0), none⟩,
    ⟨some 25, AOp.nilCheck (AX.t 24), none⟩,
    ⟨some 26, AOp.load false 1 (AX.t 25), none⟩,
    ⟨some 27, AOp.bin (BinOp.shl) (AX.t 26) (AX.c (AV.int (IntKind.u64) 17)), none⟩,
    ⟨some 28, AOp.bin (BinOp.xor) (AX.t 23) (AX.t 27), none⟩,
    ⟨some 29, AOp.nilCheck (AX.t 21), none⟩,
    ⟨none, AOp.store 1 (AX.t 29) (AX.t 28), none⟩] [0])
  (.seq
  (.region [] [⟨some 30, AOp.mov (AX.t 0), none⟩,
    ⟨some 31, AOp.nilCheck (AX.t 30), none⟩,
    ⟨some 32, AOp.load false 1 (AX.t 31), none⟩,
    ⟨some 2, AOp.mov (AX.t 32), none⟩] [2])
  AC.ret)))))⟩

/-- slices.medianAdjacentCmpFunc[silo/api.Table] (checked) -/
def a144 : AF := ⟨[ARes.t 8],
  (.seq
  (.region [] [⟨some 8, AOp.mov (AX.c (AV.int (IntKind.i64) 0)), none⟩] [0, 1, 2, 3])
  (.seq
  (.region [] [⟨some 9, AOp.mov (AX.t 0), none⟩,
    ⟨some 10, AOp.mov (AX.t 1), none⟩,
    ⟨some 11, AOp.bin (BinOp.sub) (AX.t 10) (AX.c (AV.int (IntKind.i64) 1)), none⟩,
    ⟨some 12, AOp.mov (AX.t 1), none⟩,
    ⟨some 13, AOp.mov (AX.t 1), none⟩,
    ⟨some 14, AOp.bin (BinOp.add) (AX.t 13) (AX.c (AV.int (IntKind.i64) 1)), none⟩,
    ⟨some 15, AOp.mov (AX.t 2), none⟩,
    ⟨some 16, AOp.mov (AX.t 3), none⟩,
    ⟨some 17, AOp.call 145 [AX.t 9, AX.t 11, AX.t 12, AX.t 14, AX.t 15, AX.t 16], none⟩,
    ⟨some 8, AOp.mov (AX.t 17), none⟩] [8])
  AC.ret))⟩

/-- slices.medianCmpFunc[silo/api.Table] (checked) -/
def a145 : AF := ⟨[ARes.t 12],
  (.seq
  (.region [] [⟨some 12, AOp.mov (AX.c (AV.int (IntKind.i64) 0)), none⟩] [0, 1, 2, 3, 4, 5])
  (.seq
  (.region [] [⟨some 14, AOp.mov (AX.t 0), none⟩,
    ⟨some 15, AOp.mov (AX.t 1), none⟩,
    ⟨some 16, AOp.mov (AX.t 2), none⟩,
    ⟨some 17, AOp.mov (AX.t 4), none⟩,
    ⟨some 18, AOp.mov (AX.t 5), none⟩,
    ⟨some 19, AOp.call 150 [AX.t 14, AX.t 15, AX.t 16, AX.t 17, AX.t 18], none⟩,
    ⟨some 13, AOp.mov (AX.t 19), none⟩,
    ⟨some 20, AOp.extract (AX.t 13) 0, none⟩,
    ⟨some 21, AOp.extract (AX.t 13) 1, none⟩,
    ⟨some 1, AOp.mov (AX.t 20), none⟩,
    ⟨some 2, AOp.mov (AX.t 21), none⟩] [0, 1, 2, 3, 4, 5])
  (.seq
  (.region [] [⟨some 23, AOp.mov (AX.t 0), none⟩,
    ⟨some 24, AOp.mov (AX.t 2), none⟩,
    ⟨some 25, AOp.mov (AX.t 3), none⟩,
    ⟨some 26, AOp.mov (AX.t 4), none⟩,
    ⟨some 27, AOp.mov (AX.t 5), none⟩,
    ⟨some 28, AOp.call 150 [AX.t 23, AX.t 24, AX.t 25, AX.t 26, AX.t 27], none⟩,
    ⟨some 22, AOp.mov (AX.t 28), none⟩,
    ⟨some 29, AOp.extract (AX.t 22) 0, none⟩,
    ⟨some 30, AOp.extract (AX.t 22) 1, none⟩,
    ⟨some 2, AOp.mov (AX.t 29), none⟩,
    ⟨some 3, AOp.mov (AX.t 30), none⟩] [0, 1, 2, 4, 5])
  (.seq
  (.region [] [⟨some 32, AOp.mov (AX.t 0), none⟩,
    ⟨some 33, AOp.mov (AX.t 1), none⟩,
    ⟨some 34, AOp.mov (AX.t 2), none⟩,
    ⟨some 35, AOp.mov (AX.t 4), none⟩,
    ⟨some 36, AOp.mov (AX.t 5), none⟩,
    ⟨some 37, AOp.call 150 [AX.t 32, AX.t 33, AX.t 34, AX.t 35, AX.t 36], none⟩,
    ⟨some 31, AOp.mov (AX.t 37), none⟩,
    ⟨some 38, AOp.extract (AX.t 31) 0, none⟩,
    ⟨some 39, AOp.extract (AX.t 31) 1, none⟩,
    ⟨some 1, AOp.mov (AX.t 38), none⟩,
    ⟨some 2, AOp.mov (AX.t 39), none⟩] [2])
  (.seq
  (.region [] [⟨some 40, AOp.mov (AX.t 2), none⟩,
    ⟨some 12, AOp.mov (AX.t 40), none⟩] [12])
  AC.ret)))))⟩

/-- slices.siftDownCmpFunc[silo/api.Store] (checked) -/
def a147 : AF := ⟨[],
  (.seq
  (.region [] [⟨some 12, AOp.mov (AX.t 1), none⟩,
    ⟨some 10, AOp.mov (AX.t 12), none⟩] [0, 2, 3, 4, 10])
  (.block 0
    (.loop
      (.block 1
        (.seq
        (.region [] [⟨some 13, AOp.mov (AX.t 10), none⟩,
          ⟨some 14, AOp.bin (BinOp.mul) (AX.c (AV.int (IntKind.i64) 2)) (AX.t 13), none⟩,
          ⟨some 15, AOp.bin (BinOp.add) (AX.t 14) (AX.c (AV.int (IntKind.i64) 1)), none⟩,
          ⟨some 11, AOp.mov (AX.t 15), none⟩] [0, 2, 3, 4, 10, 11])
        (.seq
        (.seq
        (.region [] [⟨some 16, AOp.mov (AX.t 11), none⟩,
          ⟨some 17, AOp.mov (AX.t 2), none⟩,
          ⟨some 18, AOp.bin (BinOp.geq) (AX.t 16) (AX.t 17), none⟩] [0, 2, 3, 4, 10, 11, 18])
        (.cond (AX.t 18)
          (.exit 0)
          AC.skip))
        (.seq
        (.seq
        (.region [0, 1, 2, 3, 4, 5, 6, 7, 8, 9, 10, 11, 12, 13, 14, 15, 16, 17, 18, 19, 20, 21] [⟨some 19, AOp.mov (AX.t 11), none⟩,
          ⟨some 20, AOp.bin (BinOp.add) (AX.t 19) (AX.c (AV.int (IntKind.i64) 1)), none⟩,
          ⟨some 21, AOp.mov (AX.t 2), none⟩,
          ⟨some 22, AOp.bin (BinOp.lss) (AX.t 20) (AX.t 21), none⟩,
          ⟨some 23, AOp.mov (AX.t 22), none⟩,
          ⟨some 24, AOp.mov (AX.t 4), some (23, true)⟩,
          ⟨some 25, AOp.mov (AX.t 0), some (23, true)⟩,
          ⟨some 26, AOp.mov (AX.t 3), some (23, true)⟩,
          ⟨some 27, AOp.mov (AX.t 11), some (23, true)⟩,
          ⟨some 28, AOp.bin (BinOp.add) (AX.t 26) (AX.t 27), some (23, true)⟩,
          ⟨some 29, AOp.indexS 2 (AX.t 25) (AX.t 28), some (23, true)⟩,
          ⟨some 30, AOp.load true 2 (AX.t 29), some (23, true)⟩,
          ⟨some 31, AOp.mov (AX.t 0), some (23, true)⟩,
          ⟨some 32, AOp.mov (AX.t 3), some (23, true)⟩,
          ⟨some 33, AOp.mov (AX.t 11), some (23, true)⟩,
          ⟨some 34, AOp.bin (BinOp.add) (AX.t 32) (AX.t 33), some (23, true)⟩,
          ⟨some 35, AOp.bin (BinOp.add) (AX.t 34) (AX.c (AV.int (IntKind.i64) 1)), some (23, true)⟩,
          ⟨some 36, AOp.indexS 2 (AX.t 31) (AX.t 35), some (23, true)⟩,
          ⟨some 37, AOp.load true 2 (AX.t 36), some (23, true)⟩,
          ⟨some 38, AOp.callV (AX.t 24) [AX.t 30, AX.t 37], some (23, true)⟩,
          ⟨some 39, AOp.bin (BinOp.lss) (AX.t 38) (AX.c (AV.int (IntKind.i64) 0)), some (23, true)⟩,
          ⟨some 40, AOp.pick (AX.t 23) (AX.t 39) (AX.c (AV.bool false)), none⟩] [0, 2, 3, 4, 10, 11, 40])
        (.cond (AX.t 40)
          (.region [] [⟨some 41, AOp.mov (AX.t 11), none⟩,
            ⟨some 42, AOp.bin (BinOp.add) (AX.t 41) (AX.c (AV.int (IntKind.i64) 1)), none⟩,
            ⟨some 11, AOp.mov (AX.t 42), none⟩] [0, 2, 3, 4, 10, 11])
          AC.skip))
        (.seq
        (.seq
        (.region [0, 1, 2, 3, 4, 5, 6, 7, 8, 9, 10, 11, 12, 13, 14, 15] [⟨some 43, AOp.mov (AX.t 4), none⟩,
          ⟨some 44, AOp.mov (AX.t 0), none⟩,
          ⟨some 45, AOp.mov (AX.t 3), none⟩,
          ⟨some 46, AOp.mov (AX.t 10), none⟩,
          ⟨some 47, AOp.bin (BinOp.add) (AX.t 45) (AX.t 46), none⟩,
          ⟨some 48, AOp.indexS 2 (AX.t 44) (AX.t 47), none⟩,
          ⟨some 49, AOp.load true 2 (AX.t 48), none⟩,
          ⟨some 50, AOp.mov (AX.t 0), none⟩,
          ⟨some 51, AOp.mov (AX.t 3), none⟩,
          ⟨some 52, AOp.mov (AX.t 11), none⟩,
          ⟨some 53, AOp.bin (BinOp.add) (AX.t 51) (AX.t 52), none⟩,
          ⟨some 54, AOp.indexS 2 (AX.t 50) (AX.t 53), none⟩,
          ⟨some 55, AOp.load true 2 (AX.t 54), none⟩,
          ⟨some 56, AOp.callV (AX.t 43) [AX.t 49, AX.t 55], none⟩,
          ⟨some 57, AOp.bin (BinOp.lss) (AX.t 56) (AX.c (AV.int (IntKind.i64) 0)), none⟩,
          ⟨some 58, AOp.un (UnOp.not) (AX.t 57), none⟩] [0, 2, 3, 4, 10, 11, 58])
        (.cond (AX.t 58)
          AC.ret
          AC.skip))
        (.seq
        (.region [0, 1, 2, 3, 4, 5, 6, 7, 8, 9, 10, 11, 12, 13, 14, 15, 16, 17, 18, 19, 20, 21, 22, 23] [⟨some 59, AOp.mov (AX.t 0), none⟩,
          ⟨some 60, AOp.mov (AX.t 3), none⟩,
          ⟨some 61, AOp.mov (AX.t 10), none⟩,
          ⟨some 62, AOp.bin (BinOp.add) (AX.t 60) (AX.t 61), none⟩,
          ⟨some 63, AOp.mov (AX.t 0), none⟩,
          ⟨some 64, AOp.mov (AX.t 3), none⟩,
          ⟨some 65, AOp.mov (AX.t 11), none⟩,
          ⟨some 66, AOp.bin (BinOp.add) (AX.t 64) (AX.t 65), none⟩,
          ⟨some 67, AOp.mov (AX.t 0), none⟩,
          ⟨some 68, AOp.mov (AX.t 3), none⟩,
          ⟨some 69, AOp.mov (AX.t 11), none⟩,
          ⟨some 70, AOp.bin (BinOp.add) (AX.t 68) (AX.t 69), none⟩,
          ⟨some 71, AOp.indexS 2 (AX.t 67) (AX.t 70), none⟩,
          ⟨some 72, AOp.load true 2 (AX.t 71), none⟩,
          ⟨some 73, AOp.mov (AX.t 0), none⟩,
          ⟨some 74, AOp.mov (AX.t 3), none⟩,
          ⟨some 75, AOp.mov (AX.t 10), none⟩,
          ⟨some 76, AOp.bin (BinOp.add) (AX.t 74) (AX.t 75), none⟩,
          ⟨some 77, AOp.indexS 2 (AX.t 73) (AX.t 76), none⟩,
          ⟨some 78, AOp.load true 2 (AX.t 77), none⟩,
          ⟨some 79, AOp.indexS 2 (AX.t 59) (AX.t 62), none⟩,
          ⟨none, AOp.store 2 (AX.t 79) (AX.t 72), none⟩,
          ⟨some 80, AOp.indexS 2 (AX.t 63) (AX.t 66), none⟩,
          ⟨none, AOp.store 2 (AX.t 80) (AX.t 78), none⟩] [0, 2, 3, 4, 11])
        (.region [] [⟨some 81, AOp.mov (AX.t 11), none⟩,
          ⟨some 10, AOp.mov (AX.t 81), none⟩] [0, 2, 3, 4, 10]))))))))))⟩

/-- slices.medianAdjacentCmpFunc[silo/api.Store] (checked) -/
def a148 : AF := ⟨[ARes.t 8],
  (.seq
  (.region [] [⟨some 8, AOp.mov (AX.c (AV.int (IntKind.i64) 0)), none⟩] [0, 1, 2, 3])
  (.seq
  (.region [] [⟨some 9, AOp.mov (AX.t 0), none⟩,
    ⟨some 10, AOp.mov (AX.t 1), none⟩,
    ⟨some 11, AOp.bin (BinOp.sub) (AX.t 10) (AX.c (AV.int (IntKind.i64) 1)), none⟩,
    ⟨some 12, AOp.mov (AX.t 1), none⟩,
    ⟨some 13, AOp.mov (AX.t 1), none⟩,
    ⟨some 14, AOp.bin (BinOp.add) (AX.t 13) (AX.c (AV.int (IntKind.i64) 1)), none⟩,
    ⟨some 15, AOp.mov (AX.t 2), none⟩,
    ⟨some 16, AOp.mov (AX.t 3), none⟩,
    ⟨some 17, AOp.call 149 [AX.t 9, AX.t 11, AX.t 12, AX.t 14, AX.t 15, AX.t 16], none⟩,
    ⟨some 8, AOp.mov (AX.t 17), none⟩] [8])
  AC.ret))⟩

/-- slices.medianCmpFunc[silo/api.Store] (checked) -/
def a149 : AF := ⟨[ARes.t 12],
  (.seq
  (.region [] [⟨some 12, AOp.mov (AX.c (AV.int (IntKind.i64) 0)), none⟩] [0, 1, 2, 3, 4, 5])
  (.seq
  (.region [] [⟨some 14, AOp.mov (AX.t 0), none⟩,
    ⟨some 15, AOp.mov (AX.t 1), none⟩,
    ⟨some 16, AOp.mov (AX.t 2), none⟩,
    ⟨some 17, AOp.mov (AX.t 4), none⟩,
    ⟨some 18, AOp.mov (AX.t 5), none⟩,
    ⟨some 19, AOp.call 151 [AX.t 14, AX.t 15, AX.t 16, AX.t 17, AX.t 18], none⟩,
    ⟨some 13, AOp.mov (AX.t 19), none⟩,
    ⟨some 20, AOp.extract (AX.t 13) 0, none⟩,
    ⟨some 21, AOp.extract (AX.t 13) 1, none⟩,
    ⟨some 1, AOp.mov (AX.t 20), none⟩,
    ⟨some 2, AOp.mov (AX.t 21), none⟩] [0, 1, 2, 3, 4, 5])
  (.seq
  (.region [] [⟨some 23, AOp.mov (AX.t 0), none⟩,
    ⟨some 24, AOp.mov (AX.t 2), none⟩,
    ⟨some 25, AOp.mov (AX.t 3), none⟩,
    ⟨some 26, AOp.mov (AX.t 4), none⟩,
    ⟨some 27, AOp.mov (AX.t 5), none⟩,
    ⟨some 28, AOp.call 151 [AX.t 23, AX.t 24, AX.t 25, AX.t 26, AX.t 27], none⟩,
    ⟨some 22, AOp.mov (AX.t 28), none⟩,
    ⟨some 29, AOp.extract (AX.t 22) 0, none⟩,
    ⟨some 30, AOp.extract (AX.t 22) 1, none⟩,
    ⟨some 2, AOp.mov (AX.t 29), none⟩,
    ⟨some 3, AOp.mov (AX.t 30), none⟩] [0, 1, 2, 4, 5])
  (.seq
  (.region [] [⟨some 32, AOp.mov (AX.t 0), none⟩,
    ⟨some 33, AOp.mov (AX.t 1), none⟩,
    ⟨some 34, AOp.mov (AX.t 2), none⟩,
    ⟨some 35, AOp.mov (AX.t 4), none⟩,
    ⟨some 36, AOp.mov (AX.t 5), none⟩,
    ⟨some 37, AOp.call 151 [AX.t 32, AX.t 33, AX.t 34, AX.t 35, AX.t 36], none⟩,
    ⟨some 31, AOp.mov (AX.t 37), none⟩,
    ⟨some 38, AOp.extract (AX.t 31) 0, none⟩,
    ⟨some 39, AOp.extract (AX.t 31) 1, none⟩,
    ⟨some 1, AOp.mov (AX.t 38), none⟩,
    ⟨some 2, AOp.mov (AX.t 39), none⟩] [2])
  (.seq
  (.region [] [⟨some 40, AOp.mov (AX.t 2), none⟩,
    ⟨some 12, AOp.mov (AX.t 40), none⟩] [12])
  AC.ret)))))⟩

/-- slices.order2CmpFunc[silo/api.Table] (checked) -/
def a150 : AF := ⟨[ARes.t 10, ARes.t 11],
  (.seq
  (.region [] [⟨some 10, AOp.mov (AX.c (AV.int (IntKind.i64) 0)), none⟩,
    ⟨some 11, AOp.mov (AX.c (AV.int (IntKind.i64) 0)), none⟩] [0, 1, 2, 3, 4])
  (.seq
  (.seq
  (.region [0, 1, 2, 3, 4, 5, 6, 7, 8, 9, 10] [⟨some 12, AOp.mov (AX.t 4), none⟩,
    ⟨some 13, AOp.mov (AX.t 0), none⟩,
    ⟨some 14, AOp.mov (AX.t 2), none⟩,
    ⟨some 15, AOp.indexS 5 (AX.t 13) (AX.t 14), none⟩,
    ⟨some 16, AOp.load true 5 (AX.t 15), none⟩,
    ⟨some 17, AOp.mov (AX.t 0), none⟩,
    ⟨some 18, AOp.mov (AX.t 1), none⟩,
    ⟨some 19, AOp.indexS 5 (AX.t 17) (AX.t 18), none⟩,
    ⟨some 20, AOp.load true 5 (AX.t 19), none⟩,
    ⟨some 21, AOp.callV (AX.t 12) [AX.t 16, AX.t 20], none⟩,
    ⟨some 22, AOp.bin (BinOp.lss) (AX.t 21) (AX.c (AV.int (IntKind.i64) 0)), none⟩] [1, 2, 3, 22])
  (.cond (AX.t 22)
    (.seq
    (.region [] [⟨some 23, AOp.mov (AX.t 3), none⟩,
      ⟨some 24, AOp.nilCheck (AX.t 23), none⟩,
      ⟨some 25, AOp.load false 1 (AX.t 24), none⟩,
      ⟨some 26, AOp.bin (BinOp.add) (AX.t 25) (AX.c (AV.int (IntKind.i64) 1)), none⟩,
      ⟨some 27, AOp.nilCheck (AX.t 23), none⟩,
      ⟨none, AOp.store 1 (AX.t 27) (AX.t 26), none⟩] [1, 2])
    (.seq
    (.region [] [⟨some 28, AOp.mov (AX.t 2), none⟩,
      ⟨some 29, AOp.mov (AX.t 1), none⟩,
      ⟨some 10, AOp.mov (AX.t 28), none⟩,
      ⟨some 11, AOp.mov (AX.t 29), none⟩] [10, 11])
    AC.ret))
    AC.skip))
  (.seq
  (.region [] [⟨some 30, AOp.mov (AX.t 1), none⟩,
    ⟨some 31, AOp.mov (AX.t 2), none⟩,
    ⟨some 10, AOp.mov (AX.t 30), none⟩,
    ⟨some 11, AOp.mov (AX.t 31), none⟩] [10, 11])
  AC.ret)))⟩

/-- slices.order2CmpFunc[silo/api.Store] (checked) -/
def a151 : AF := ⟨[ARes.t 10, ARes.t 11],
  (.seq
  (.region [] [⟨some 10, AOp.mov (AX.c (AV.int (IntKind.i64) 0)), none⟩,
    ⟨some 11, AOp.mov (AX.c (AV.int (IntKind.i64) 0)), none⟩] [0, 1, 2, 3, 4])
  (.seq
  (.seq
  (.region [0, 1, 2, 3, 4, 5, 6, 7, 8, 9, 10] [⟨some 12, AOp.mov (AX.t 4), none⟩,
    ⟨some 13, AOp.mov (AX.t 0), none⟩,
    ⟨some 14, AOp.mov (AX.t 2), none⟩,
    ⟨some 15, AOp.indexS 2 (AX.t 13) (AX.t 14), none⟩,
    ⟨some 16, AOp.load true 2 (AX.t 15), none⟩,
    ⟨some 17, AOp.mov (AX.t 0), none⟩,
    ⟨some 18, AOp.mov (AX.t 1), none⟩,
    ⟨some 19, AOp.indexS 2 (AX.t 17) (AX.t 18), none⟩,
    ⟨some 20, AOp.load true 2 (AX.t 19), none⟩,
    ⟨some 21, AOp.callV (AX.t 12) [AX.t 16, AX.t 20], none⟩,
    ⟨some 22, AOp.bin (BinOp.lss) (AX.t 21) (AX.c (AV.int (IntKind.i64) 0)), none⟩] [1, 2, 3, 22])
  (.cond (AX.t 22)
    (.seq
    (.region [] [⟨some 23, AOp.mov (AX.t 3), none⟩,
      ⟨some 24, AOp.nilCheck (AX.t 23), none⟩,
      ⟨some 25, AOp.load false 1 (AX.t 24), none⟩,
      ⟨some 26, AOp.bin (BinOp.add) (AX.t 25) (AX.c (AV.int (IntKind.i64) 1)), none⟩,
      ⟨some 27, AOp.nilCheck (AX.t 23), none⟩,
      ⟨none, AOp.store 1 (AX.t 27) (AX.t 26), none⟩] [1, 2])
    (.seq
    (.region [] [⟨some 28, AOp.mov (AX.t 2), none⟩,
      ⟨some 29, AOp.mov (AX.t 1), none⟩,
      ⟨some 10, AOp.mov (AX.t 28), none⟩,
      ⟨some 11, AOp.mov (AX.t 29), none⟩] [10, 11])
    AC.ret))
    AC.skip))
  (.seq
  (.region [] [⟨some 30, AOp.mov (AX.t 1), none⟩,
    ⟨some 31, AOp.mov (AX.t 2), none⟩,
    ⟨some 10, AOp.mov (AX.t 30), none⟩,
    ⟨some 11, AOp.mov (AX.t 31), none⟩] [10, 11])
  AC.ret)))⟩


end Go.Proofs.YtlognommhffmcaaGreat.Im

/- Joined: S20Cb, S20Is, S20Six, S20Wr, S20Dec. -/
import Derived.Test.YtcnbllelfinlmaaDoorBm
import Derived.Test.YtcnbllelfinlmaaDoorImRow
import Derived.KernelRfl
import Derived.Test.YtcnbllelfinlmaaDoorImSl
import Derived.Test.YtcnbllelfinlmaaDoorImApp
/- S20Cb: crc.Sum, of one text. -/
set_option linter.unusedVariables false
set_option linter.unusedSimpArgs false
open Go Go.Im
namespace Go.Proofs.YtcnbllelfinlmaaDoor.Im
section
variable {n : Nat} {tot : Bool} {ω : Nat → Nat} {h : Hp}

theorem c75 (s : List UInt8) (c : Cap) (hs : s.length ≤ 1000000) (hn : s.length + 50 < n) : call FB n tot ω 75 [.imm 1 [.str s] c] h = some (.int .u32 (Crc.N (Crc.sum s)), h) := by
  obtain ⟨n, rfl⟩ : ∃ m, n = m + 1 := ⟨n - 1, by omega⟩
  refine call_eq (fn := a75) g75 ?_
  have hff : (4294967295 : Int) = Crc.N (BitVec.allOnes 32) := by decide
  unfold a75
  simp (maxSteps := 2000000) (discharger := omega) only [xc,xo,xr,x0,x1,x2,x3,x4,x5,x6,xd,xe,xb,kont_call,kont_pure,kont_round,isNil,slOk,sliceV,selems,srcElems,copyTo,dlen,eqAV,eqCells,eqS,wr,place,partVals,partEs,placeEs,mapOf,keyOk,keyCells,findK,Bool.bne_false,Bool.bne_true,List.drop_zero,List.nil_append,List.append_nil,List.take_zero,List.cons_append,List.take_succ_cons,List.drop_succ_cons,List.take_nil,List.drop_nil,Reg.isA,Reg.isV,Reg.stays,Reg.onto,Bool.false_or,Bool.or_false,Bool.false_and,Bool.and_false,Bool.true_and,Bool.and_true,Bool.or_true,Bool.true_or,↓reduceIte,reduceCtorEq,Nat.reduceEqDiff,Nat.reduceLT,Nat.reduceAdd,Nat.reduceMul,Nat.add_zero,Nat.zero_add,Nat.not_lt_zero,Nat.zero_ne_one,Nat.one_ne_zero,Nat.reduceLeDiff,Nat.lt_irrefl,Nat.zero_lt_succ,Bool.false_eq_true,Bool.not_true,Bool.not_false,Option.map_some,Option.map_none,Option.bind_some,Option.getD_some,Option.getD_none,and_self,and_true,true_and,List.length_cons,List.length_nil,List.any_nil,List.any_cons,Int.toNat_natCast,Int.cast_ofNat_Int,Int.natCast_zero,Int.natCast_nonneg,true_implies,or_true,true_or,false_or,or_false,beq_self_eq_true,Option.some.injEq,exists_eq_left',Int.reduceEq,Int.reduceLT,Int.reduceLE,Int.reduceGT,Int.reduceGE,Nat.reduceGT,Int.reduceNeg,Int.reduceToNat,Int.reduceAdd,Int.reduceMul,Int.reduceSub,Int.reducePow,decide_true,decide_false,decide_eq_true_eq,List.getElem?_cons_zero,List.getElem?_cons_succ,Nat.reduceBEq,Nat.reduceSub,exists_false,and_false,false_and,xu,List.set_cons_zero,List.set_cons_succ,wrap_i64,int_lt_t,int_lt_f,int_le_t,int_le_f,int_gt_t,int_gt_f,int_ge_t,int_ge_f,int_eq_t,int_eq_f,int_beq_t,int_beq_f,int_bne_t,int_bne_f,nat_le_t,nat_le_f,Nat.sub_zero,Nat.sub_self,not_false_eq_true,not_true_eq_false,hff]
  refine wpi_loop (fun k r g => ∃ i : Nat, r = [(3, .val (.int .u32 (Crc.N (if i = 0 then BitVec.allOnes 32 else Crc.run (BitVec.allOnes 32) s)))), (7, .val (.imm 1 [.str s] c)), (8, .val (.int .i64 1)), (9, .val (.int .i64 i))] ∧ k = 1 - i ∧ i ≤ 1 ∧ g = h) 1 (by omega)
    ⟨0, rfl, rfl, by omega, rfl⟩ ?_
  rintro k r g ⟨i, rfl, rfl, hi, rfl⟩
  by_cases h0 : i = 0
  · subst h0
    simp (maxSteps := 2000000) (discharger := omega) only [xc,xo,xr,x0,x1,x2,x3,x4,x5,x6,xd,xe,xb,kont_call,kont_pure,kont_round,isNil,slOk,sliceV,selems,srcElems,copyTo,dlen,eqAV,eqCells,eqS,wr,place,partVals,partEs,placeEs,mapOf,keyOk,keyCells,findK,Bool.bne_false,Bool.bne_true,List.drop_zero,List.nil_append,List.append_nil,List.take_zero,List.cons_append,List.take_succ_cons,List.drop_succ_cons,List.take_nil,List.drop_nil,Reg.isA,Reg.isV,Reg.stays,Reg.onto,Bool.false_or,Bool.or_false,Bool.false_and,Bool.and_false,Bool.true_and,Bool.and_true,Bool.or_true,Bool.true_or,↓reduceIte,reduceCtorEq,Nat.reduceEqDiff,Nat.reduceLT,Nat.reduceAdd,Nat.reduceMul,Nat.add_zero,Nat.zero_add,Nat.not_lt_zero,Nat.zero_ne_one,Nat.one_ne_zero,Nat.reduceLeDiff,Nat.lt_irrefl,Nat.zero_lt_succ,Bool.false_eq_true,Bool.not_true,Bool.not_false,Option.map_some,Option.map_none,Option.bind_some,Option.getD_some,Option.getD_none,and_self,and_true,true_and,List.length_cons,List.length_nil,List.any_nil,List.any_cons,Int.toNat_natCast,Int.cast_ofNat_Int,Int.natCast_zero,Int.natCast_nonneg,true_implies,or_true,true_or,false_or,or_false,beq_self_eq_true,Option.some.injEq,exists_eq_left',Int.reduceEq,Int.reduceLT,Int.reduceLE,Int.reduceGT,Int.reduceGE,Nat.reduceGT,Int.reduceNeg,Int.reduceToNat,Int.reduceAdd,Int.reduceMul,Int.reduceSub,Int.reducePow,decide_true,decide_false,decide_eq_true_eq,List.getElem?_cons_zero,List.getElem?_cons_succ,Nat.reduceBEq,Nat.reduceSub,exists_false,and_false,false_and,xu,List.set_cons_zero,List.set_cons_succ,wrap_i64,int_lt_t,int_lt_f,int_le_t,int_le_f,int_gt_t,int_gt_f,int_ge_t,int_ge_f,int_eq_t,int_eq_f,int_beq_t,int_beq_f,int_bne_t,int_bne_f,nat_le_t,nat_le_f,Nat.sub_zero,Nat.sub_self,not_false_eq_true,not_true_eq_false]
    refine wpi_loop (fun k r g' => ∃ j : Nat, r = [(3, .val (.int .u32 (Crc.N (Crc.run (BitVec.allOnes 32) (s.take j))))), (5, .val (.str s)), (6, .val (.int .i64 j)), (7, .val (.imm 1 [.str s] c)), (8, .val (.int .i64 1)), (9, .val (.int .i64 0))] ∧ k = s.length - j ∧ j ≤ s.length ∧ g' = g) s.length (by omega)
      ⟨0, rfl, rfl, by omega, rfl⟩ ?_
    rintro k r g' ⟨j, rfl, rfl, hj, rfl⟩
    by_cases hlt : j < s.length
    · have q1 : s[j]? = some s[j] := List.getElem?_eq_getElem hlt
      have htk : s.take (j + 1) = s.take j ++ [s[j]] := List.take_succ_eq_append_getElem hlt
      have hb := s[j].toNat_lt
      have w8 : IntKind.u32.wrap ((s[j].toNat : Nat) : Int) = Crc.N (BitVec.ofNat 32 s[j].toNat) := by
        rw [← Crc.byte_N, Crc.u32_wrap]; omega
      generalize hX : Crc.run (BitVec.allOnes 32) (s.take j) = X at *
      have hX2 : Crc.run (BitVec.allOnes 32) (s.take (j + 1)) = Crc.fs (X ^^^ BitVec.ofNat 32 s[j].toNat) 8 := by
        rw [htk, Crc.run_app, hX, Crc.byte_gs _ _ hb]; rfl
      have xn := Crc.xor_N X (BitVec.ofNat 32 s[j].toNat)
      generalize X ^^^ BitVec.ofNat 32 s[j].toNat = Y at *
      simp (maxSteps := 2000000) (discharger := omega) only [xc,xo,xr,x0,x1,x2,x3,x4,x5,x6,xd,xe,xb,kont_call,kont_pure,kont_round,isNil,slOk,sliceV,selems,srcElems,copyTo,dlen,eqAV,eqCells,eqS,wr,place,partVals,partEs,placeEs,mapOf,keyOk,keyCells,findK,Bool.bne_false,Bool.bne_true,List.drop_zero,List.nil_append,List.append_nil,List.take_zero,List.cons_append,List.take_succ_cons,List.drop_succ_cons,List.take_nil,List.drop_nil,Reg.isA,Reg.isV,Reg.stays,Reg.onto,Bool.false_or,Bool.or_false,Bool.false_and,Bool.and_false,Bool.true_and,Bool.and_true,Bool.or_true,Bool.true_or,↓reduceIte,reduceCtorEq,Nat.reduceEqDiff,Nat.reduceLT,Nat.reduceAdd,Nat.reduceMul,Nat.add_zero,Nat.zero_add,Nat.not_lt_zero,Nat.zero_ne_one,Nat.one_ne_zero,Nat.reduceLeDiff,Nat.lt_irrefl,Nat.zero_lt_succ,Bool.false_eq_true,Bool.not_true,Bool.not_false,Option.map_some,Option.map_none,Option.bind_some,Option.getD_some,Option.getD_none,and_self,and_true,true_and,List.length_cons,List.length_nil,List.any_nil,List.any_cons,Int.toNat_natCast,Int.cast_ofNat_Int,Int.natCast_zero,Int.natCast_nonneg,true_implies,or_true,true_or,false_or,or_false,beq_self_eq_true,Option.some.injEq,exists_eq_left',Int.reduceEq,Int.reduceLT,Int.reduceLE,Int.reduceGT,Int.reduceGE,Nat.reduceGT,Int.reduceNeg,Int.reduceToNat,Int.reduceAdd,Int.reduceMul,Int.reduceSub,Int.reducePow,decide_true,decide_false,decide_eq_true_eq,List.getElem?_cons_zero,List.getElem?_cons_succ,Nat.reduceBEq,Nat.reduceSub,exists_false,and_false,false_and,xu,List.set_cons_zero,List.set_cons_succ,wrap_i64,int_lt_t,int_lt_f,int_le_t,int_le_f,int_gt_t,int_gt_f,int_ge_t,int_ge_f,int_eq_t,int_eq_f,int_beq_t,int_beq_f,int_bne_t,int_bne_f,nat_le_t,nat_le_f,Nat.sub_zero,Nat.sub_self,not_false_eq_true,not_true_eq_false,q1,w8,xn]
      refine wpi_loop (fun k r g => ∃ t : Nat, r = [(3, .val (.int .u32 (Crc.N (Crc.fs Y t)))), (5, .val (.str s)), (6, .val (.int .i64 j)), (7, .val (.imm 1 [.str s] c)), (8, .val (.int .i64 1)), (9, .val (.int .i64 0)), (25, .val (.int .i64 t))] ∧ k = 8 - t ∧ t ≤ 8 ∧ g = g') 8 (by omega)
        ⟨0, rfl, rfl, by omega, rfl⟩ ?_
      rintro k r g2 ⟨t, rfl, rfl, ht, rfl⟩
      by_cases ht8 : t < 8
      · have e1 := Crc.and_N (Crc.fs Y t) 1#32
        have e1' : Crc.N 1#32 = 1 := by decide
        rw [e1'] at e1
        have e2 := Crc.neg_N (Crc.fs Y t &&& 1#32)
        have e3 : (Crc.N (Crc.fs Y t)).fdiv (2 ^ min 1 IntKind.u32.bits) = Crc.N (Crc.fs Y t >>> 1) := Crc.shr_N _
        have e4 := Crc.f_N (Crc.fs Y t)
        have e5 : Crc.f (Crc.fs Y t) = Crc.fs Y (t + 1) := rfl
        rw [e5] at e4
        simp (maxSteps := 2000000) (discharger := omega) only [xc,xo,xr,x0,x1,x2,x3,x4,x5,x6,xd,xe,xb,kont_call,kont_pure,kont_round,isNil,slOk,sliceV,selems,srcElems,copyTo,dlen,eqAV,eqCells,eqS,wr,place,partVals,partEs,placeEs,mapOf,keyOk,keyCells,findK,Bool.bne_false,Bool.bne_true,List.drop_zero,List.nil_append,List.append_nil,List.take_zero,List.cons_append,List.take_succ_cons,List.drop_succ_cons,List.take_nil,List.drop_nil,Reg.isA,Reg.isV,Reg.stays,Reg.onto,Bool.false_or,Bool.or_false,Bool.false_and,Bool.and_false,Bool.true_and,Bool.and_true,Bool.or_true,Bool.true_or,↓reduceIte,reduceCtorEq,Nat.reduceEqDiff,Nat.reduceLT,Nat.reduceAdd,Nat.reduceMul,Nat.add_zero,Nat.zero_add,Nat.not_lt_zero,Nat.zero_ne_one,Nat.one_ne_zero,Nat.reduceLeDiff,Nat.lt_irrefl,Nat.zero_lt_succ,Bool.false_eq_true,Bool.not_true,Bool.not_false,Option.map_some,Option.map_none,Option.bind_some,Option.getD_some,Option.getD_none,and_self,and_true,true_and,List.length_cons,List.length_nil,List.any_nil,List.any_cons,Int.toNat_natCast,Int.cast_ofNat_Int,Int.natCast_zero,Int.natCast_nonneg,true_implies,or_true,true_or,false_or,or_false,beq_self_eq_true,Option.some.injEq,exists_eq_left',Int.reduceEq,Int.reduceLT,Int.reduceLE,Int.reduceGT,Int.reduceGE,Nat.reduceGT,Int.reduceNeg,Int.reduceToNat,Int.reduceAdd,Int.reduceMul,Int.reduceSub,Int.reducePow,decide_true,decide_false,decide_eq_true_eq,List.getElem?_cons_zero,List.getElem?_cons_succ,Nat.reduceBEq,Nat.reduceSub,exists_false,and_false,false_and,xu,List.set_cons_zero,List.set_cons_succ,wrap_i64,int_lt_t,int_lt_f,int_le_t,int_le_f,int_gt_t,int_gt_f,int_ge_t,int_ge_f,int_eq_t,int_eq_f,int_beq_t,int_beq_f,int_bne_t,int_bne_f,nat_le_t,nat_le_f,Nat.sub_zero,Nat.sub_self,not_false_eq_true,not_true_eq_false,e1,e2,e3,e4]
        exact ⟨8 - (t + 1), by omega, t + 1, by rw [show ((t : Nat) : Int) + 1 = ((t + 1 : Nat) : Int) by omega], rfl, by omega⟩
      · obtain rfl : t = 8 := by omega
        simp (maxSteps := 2000000) (discharger := omega) only [xc,xo,xr,x0,x1,x2,x3,x4,x5,x6,xd,xe,xb,kont_call,kont_pure,kont_round,isNil,slOk,sliceV,selems,srcElems,copyTo,dlen,eqAV,eqCells,eqS,wr,place,partVals,partEs,placeEs,mapOf,keyOk,keyCells,findK,Bool.bne_false,Bool.bne_true,List.drop_zero,List.nil_append,List.append_nil,List.take_zero,List.cons_append,List.take_succ_cons,List.drop_succ_cons,List.take_nil,List.drop_nil,Reg.isA,Reg.isV,Reg.stays,Reg.onto,Bool.false_or,Bool.or_false,Bool.false_and,Bool.and_false,Bool.true_and,Bool.and_true,Bool.or_true,Bool.true_or,↓reduceIte,reduceCtorEq,Nat.reduceEqDiff,Nat.reduceLT,Nat.reduceAdd,Nat.reduceMul,Nat.add_zero,Nat.zero_add,Nat.not_lt_zero,Nat.zero_ne_one,Nat.one_ne_zero,Nat.reduceLeDiff,Nat.lt_irrefl,Nat.zero_lt_succ,Bool.false_eq_true,Bool.not_true,Bool.not_false,Option.map_some,Option.map_none,Option.bind_some,Option.getD_some,Option.getD_none,and_self,and_true,true_and,List.length_cons,List.length_nil,List.any_nil,List.any_cons,Int.toNat_natCast,Int.cast_ofNat_Int,Int.natCast_zero,Int.natCast_nonneg,true_implies,or_true,true_or,false_or,or_false,beq_self_eq_true,Option.some.injEq,exists_eq_left',Int.reduceEq,Int.reduceLT,Int.reduceLE,Int.reduceGT,Int.reduceGE,Nat.reduceGT,Int.reduceNeg,Int.reduceToNat,Int.reduceAdd,Int.reduceMul,Int.reduceSub,Int.reducePow,decide_true,decide_false,decide_eq_true_eq,List.getElem?_cons_zero,List.getElem?_cons_succ,Nat.reduceBEq,Nat.reduceSub,exists_false,and_false,false_and,xu,List.set_cons_zero,List.set_cons_succ,wrap_i64,int_lt_t,int_lt_f,int_le_t,int_le_f,int_gt_t,int_gt_f,int_ge_t,int_ge_f,int_eq_t,int_eq_f,int_beq_t,int_beq_f,int_bne_t,int_bne_f,nat_le_t,nat_le_f,Nat.sub_zero,Nat.sub_self,not_false_eq_true,not_true_eq_false]
        exact ⟨s.length - (j + 1), by omega, j + 1, by rw [hX2, show ((j : Nat) : Int) + 1 = ((j + 1 : Nat) : Int) by omega], rfl, by omega⟩
    · obtain rfl : j = s.length := by omega
      rw [List.take_length]
      simp (maxSteps := 2000000) (discharger := omega) only [xc,xo,xr,x0,x1,x2,x3,x4,x5,x6,xd,xe,xb,kont_call,kont_pure,kont_round,isNil,slOk,sliceV,selems,srcElems,copyTo,dlen,eqAV,eqCells,eqS,wr,place,partVals,partEs,placeEs,mapOf,keyOk,keyCells,findK,Bool.bne_false,Bool.bne_true,List.drop_zero,List.nil_append,List.append_nil,List.take_zero,List.cons_append,List.take_succ_cons,List.drop_succ_cons,List.take_nil,List.drop_nil,Reg.isA,Reg.isV,Reg.stays,Reg.onto,Bool.false_or,Bool.or_false,Bool.false_and,Bool.and_false,Bool.true_and,Bool.and_true,Bool.or_true,Bool.true_or,↓reduceIte,reduceCtorEq,Nat.reduceEqDiff,Nat.reduceLT,Nat.reduceAdd,Nat.reduceMul,Nat.add_zero,Nat.zero_add,Nat.not_lt_zero,Nat.zero_ne_one,Nat.one_ne_zero,Nat.reduceLeDiff,Nat.lt_irrefl,Nat.zero_lt_succ,Bool.false_eq_true,Bool.not_true,Bool.not_false,Option.map_some,Option.map_none,Option.bind_some,Option.getD_some,Option.getD_none,and_self,and_true,true_and,List.length_cons,List.length_nil,List.any_nil,List.any_cons,Int.toNat_natCast,Int.cast_ofNat_Int,Int.natCast_zero,Int.natCast_nonneg,true_implies,or_true,true_or,false_or,or_false,beq_self_eq_true,Option.some.injEq,exists_eq_left',Int.reduceEq,Int.reduceLT,Int.reduceLE,Int.reduceGT,Int.reduceGE,Nat.reduceGT,Int.reduceNeg,Int.reduceToNat,Int.reduceAdd,Int.reduceMul,Int.reduceSub,Int.reducePow,decide_true,decide_false,decide_eq_true_eq,List.getElem?_cons_zero,List.getElem?_cons_succ,Nat.reduceBEq,Nat.reduceSub,exists_false,and_false,false_and,xu,List.set_cons_zero,List.set_cons_succ,wrap_i64,int_lt_t,int_lt_f,int_le_t,int_le_f,int_gt_t,int_gt_f,int_ge_t,int_ge_f,int_eq_t,int_eq_f,int_beq_t,int_beq_f,int_bne_t,int_bne_f,nat_le_t,nat_le_f,Nat.sub_zero,Nat.sub_self,not_false_eq_true,not_true_eq_false]
      exact ⟨0, by omega, 1, rfl, rfl, by omega⟩
  · obtain rfl : i = 1 := by omega
    have e := Crc.not_N (Crc.run (BitVec.allOnes 32) s)
    simp (maxSteps := 2000000) (discharger := omega) only [xc,xo,xr,x0,x1,x2,x3,x4,x5,x6,xd,xe,xb,kont_call,kont_pure,kont_round,isNil,slOk,sliceV,selems,srcElems,copyTo,dlen,eqAV,eqCells,eqS,wr,place,partVals,partEs,placeEs,mapOf,keyOk,keyCells,findK,Bool.bne_false,Bool.bne_true,List.drop_zero,List.nil_append,List.append_nil,List.take_zero,List.cons_append,List.take_succ_cons,List.drop_succ_cons,List.take_nil,List.drop_nil,Reg.isA,Reg.isV,Reg.stays,Reg.onto,Bool.false_or,Bool.or_false,Bool.false_and,Bool.and_false,Bool.true_and,Bool.and_true,Bool.or_true,Bool.true_or,↓reduceIte,reduceCtorEq,Nat.reduceEqDiff,Nat.reduceLT,Nat.reduceAdd,Nat.reduceMul,Nat.add_zero,Nat.zero_add,Nat.not_lt_zero,Nat.zero_ne_one,Nat.one_ne_zero,Nat.reduceLeDiff,Nat.lt_irrefl,Nat.zero_lt_succ,Bool.false_eq_true,Bool.not_true,Bool.not_false,Option.map_some,Option.map_none,Option.bind_some,Option.getD_some,Option.getD_none,and_self,and_true,true_and,List.length_cons,List.length_nil,List.any_nil,List.any_cons,Int.toNat_natCast,Int.cast_ofNat_Int,Int.natCast_zero,Int.natCast_nonneg,true_implies,or_true,true_or,false_or,or_false,beq_self_eq_true,Option.some.injEq,exists_eq_left',Int.reduceEq,Int.reduceLT,Int.reduceLE,Int.reduceGT,Int.reduceGE,Nat.reduceGT,Int.reduceNeg,Int.reduceToNat,Int.reduceAdd,Int.reduceMul,Int.reduceSub,Int.reducePow,decide_true,decide_false,decide_eq_true_eq,List.getElem?_cons_zero,List.getElem?_cons_succ,Nat.reduceBEq,Nat.reduceSub,exists_false,and_false,false_and,xu,List.set_cons_zero,List.set_cons_succ,wrap_i64,int_lt_t,int_lt_f,int_le_t,int_le_f,int_gt_t,int_gt_f,int_ge_t,int_ge_f,int_eq_t,int_eq_f,int_beq_t,int_beq_f,int_bne_t,int_bne_f,nat_le_t,nat_le_f,Nat.sub_zero,Nat.sub_self,not_false_eq_true,not_true_eq_false,un1,e]
    rw [if_neg (by decide), e]; rfl
end
end Go.Proofs.YtcnbllelfinlmaaDoor.Im

/- S20Is: which functions stand where. -/
open Go Go.Im
namespace Go.Proofs.YtcnbllelfinlmaaDoor.Im

theorem f4 : F 4 = some (.inl a4) := by kernel_rfl
theorem f10 : F 10 = some (.inl a10) := by kernel_rfl
theorem f15 : F 15 = some (.inl a15) := by kernel_rfl
theorem f16 : F 16 = some (.inl a16) := by kernel_rfl
theorem f17 : F 17 = some (.inl a17) := by kernel_rfl
theorem f18 : F 18 = some (.inl a18) := by kernel_rfl
theorem f19 : F 19 = some (.inl a19) := by kernel_rfl
theorem f20 : F 20 = some (.inl a20) := by kernel_rfl
theorem f46 : F 46 = some (.inl a46) := by kernel_rfl
theorem f47 : F 47 = some (.inl a47) := by kernel_rfl
theorem f48 : F 48 = some (.inl a48) := by kernel_rfl
theorem f49 : F 49 = some (.inl a49) := by kernel_rfl
theorem f50 : F 50 = some (.inl a50) := by kernel_rfl
theorem f61 : F 61 = some (.inl a61) := by kernel_rfl
theorem f78 : F 78 = some (.inl a78) := by kernel_rfl
theorem f79 : F 79 = some (.inl a79) := by kernel_rfl
theorem f80 : F 80 = some (.inl a80) := by kernel_rfl
theorem f81 : F 81 = some (.inl a81) := by kernel_rfl
theorem f82 : F 82 = some (.inl a82) := by kernel_rfl
theorem f83 : F 83 = some (.inl a83) := by kernel_rfl
theorem f84 : F 84 = some (.inl a84) := by kernel_rfl
theorem f86 : F 86 = some (.inl a86) := by kernel_rfl
theorem f87 : F 87 = some (.inl a87) := by kernel_rfl
theorem f93 : F 93 = some (.inl a93) := by kernel_rfl
theorem f107 : F 107 = some (.inl a107) := by kernel_rfl
theorem f108 : F 108 = some (.inl a108) := by kernel_rfl
end Go.Proofs.YtcnbllelfinlmaaDoor.Im

/- S20Six: numbers and texts in groups of six bits: the reference. -/
set_option linter.unusedVariables false
set_option linter.unusedSimpArgs false
open Go Go.Im
namespace Go.Proofs.YtcnbllelfinlmaaDoor.Im

def hi (x : Nat) : List UInt8 := if h : x = 0 then [] else hi (x / 64) ++ [UInt8.ofNat (x % 64)]
termination_by x
decreasing_by omega
def enc (x m : Nat) : List UInt8 := hi (x / 64) ++ [UInt8.ofNat (m + x % 64)]

theorem tm64 (x : Nat) : ((x : Nat) : Int).tmod 64 = ((x % 64 : Nat) : Int) := rfl
theorem bytesOf_app (a b : List UInt8) : bytesOf (a ++ b) = bytesOf a ++ bytesOf b := by simp [bytesOf]
theorem bytesOf_len (a : List UInt8) : (bytesOf a).length = a.length := by simp [bytesOf]
end Go.Proofs.YtcnbllelfinlmaaDoor.Im

/- S20Wr: the writer's methods. -/
set_option linter.unusedVariables false
set_option linter.unusedSimpArgs false
open Go Go.Im
namespace Go.Proofs.YtcnbllelfinlmaaDoor.Im

theorem isApp_setS {sz : Nat} {es : List AV} {h : Hp} {v : AV} {id : Nat} {o o' : AO} (hv : IsApp sz es h v) (hid : h[id]? = some o) (hs : o.solid = true) : IsApp sz es (h.set id o') v := by
  rcases hv with h1 | h1 | ⟨j, h1, h2⟩
  · exact .inl h1
  · exact .inr (.inl h1)
  · refine .inr (.inr ⟨j, h1, ?_⟩)
    rw [List.getElem?_set]
    split
    · rename_i e; subst e; rw [hid] at h2; cases h2; cases hs
    · exact h2

def keepsBut (id : Nat) (h h' : Hp) : Prop := ∀ (j : Nat) o, j ≠ id → h[j]? = some o → o.solid = true → h'[j]? = some o

def WR (id : Nat) (bs : List UInt8) (h : Hp) : Prop := ∃ v, h[id]? = some (.row 1 [.agg [v]]) ∧ IsApp 1 (bytesOf bs) h v

theorem WR.lt {id : Nat} {bs : List UInt8} {h : Hp} (w : WR id bs h) : id < h.length := by
  obtain ⟨v, h1, _⟩ := w
  exact (List.getElem?_eq_some_iff.1 h1).1

theorem WR.upd {id : Nat} {bs cs : List UInt8} {h h' : Hp} {v : AV} (w : WR id bs h) (hk : keeps h h') (hv : IsApp 1 (bytesOf cs) h' v) (hl : h.length ≤ h'.length) :
    WR id cs (h'.set id (.row 1 [.agg [v]])) ∧ keepsBut id h (h'.set id (.row 1 [.agg [v]])) ∧ h.length ≤ (h'.set id (.row 1 [.agg [v]])).length := by
  obtain ⟨u, h1, _⟩ := w
  have h2 := hk id _ h1 rfl
  have h3 := (List.getElem?_eq_some_iff.1 h2).1
  refine ⟨⟨v, by simp [h3], isApp_setS hv h2 rfl⟩, fun j o hj ho hs => ?_, by simpa using hl⟩
  rw [List.getElem?_set_ne (Ne.symm hj)]
  exact hk j o ho hs

theorem toBytes_bytesOf : ∀ bs : List UInt8, toBytes (bytesOf bs) = some bs
  | [] => rfl
  | b :: bs => by
    have := toBytes_bytesOf bs
    simp only [bytesOf,List.map_cons,toBytes] at this ⊢
    rw [this]
    simp

theorem c79 {tot : Bool} {ω : Nat → Nat} {n : Nat} (s : List UInt8) (h : Hp) (hn : 1 < n) : call F n tot ω 79 [.str s] h = some (.ptr h.length 1 0 0, h ++ [.row 1 [.agg [.str s]]]) := by
  obtain ⟨n, rfl⟩ : ∃ m, n = m + 1 := ⟨n - 1, by omega⟩
  refine call_eq (fn := a79) f79 ?_
  unfold a79
  simp (maxSteps := 2000000) (discharger := omega) only [xc,xo,xr,x0,x3,x5,xd,place,partVals,List.nil_append,List.append_nil,List.take_zero,List.drop_succ_cons,List.drop_nil,Reg.isA,Reg.isV,Reg.stays,Reg.onto,Bool.or_false,Bool.and_false,↓reduceIte,reduceCtorEq,Nat.reduceEqDiff,Nat.reduceLT,Nat.zero_add,Nat.not_lt_zero,Nat.reduceLeDiff,Bool.false_eq_true,Option.map_some,and_self,and_true,List.length_cons,List.length_nil,List.any_nil,List.any_cons,Option.some.injEq,exists_eq_left']

end Go.Proofs.YtcnbllelfinlmaaDoor.Im

/- S20Dec: numbers read. -/
set_option linter.unusedVariables false
set_option linter.unusedSimpArgs false
open Go Go.Im
namespace Go.Proofs.YtcnbllelfinlmaaDoor.Im

inductive NR where
  | err (e : Int) | ok (x : Nat) (below : Bool) (size : Nat)

def dec (x i : Nat) : List UInt8 → NR
  | [] => .err 2
  | c :: s => if 191 < c.toNat ∨ 144115188075855871 < x ∨ (i = 0 ∧ c.toNat = 0) then .err 3 else
    if 63 < c.toNat then .ok (64 * x + c.toNat % 64) (decide (127 < c.toNat)) (i + 1) else dec (64 * x + c.toNat % 64) (i + 1) s

theorem and63b (x : Nat) (hx : x ≤ 255) : bitsI .and .u8 x 63 = ((x % 64 : Nat) : Int) := by
  have h1 : ((BitVec.ofInt 8 (x : Int)) &&& (BitVec.ofInt 8 63)).toNat = x % 64 := by
    rw [BitVec.toNat_and]
    have h2 : (BitVec.ofInt 8 63).toNat = 2 ^ 6 - 1 := by decide
    rw [h2, Nat.and_two_pow_sub_one_eq_mod]
    simp
  show IntKind.u8.wrap (((BitVec.ofInt 8 (x : Int)) &&& (BitVec.ofInt 8 63)).toNat : Int) = _
  rw [h1, wrap_u8 (by omega) (by omega)]

theorem or64 (x y : Nat) (hx : x ≤ 144115188075855871) (hy : y < 64) : bitsI .or .u64 ((64 * x : Nat) : Int) (y : Int) = ((64 * x + y : Nat) : Int) := by
  have h1 : ((BitVec.ofInt 64 ((64 * x : Nat) : Int)) ||| (BitVec.ofInt 64 (y : Int))).toNat = 64 * x + y := by
    rw [BitVec.toNat_or]
    have h2 : (BitVec.ofInt 64 ((64 * x : Nat) : Int)).toNat = 64 * x := by
      rw [BitVec.ofInt_natCast, BitVec.toNat_ofNat]; omega
    have h3 : (BitVec.ofInt 64 (y : Int)).toNat = y := by
      rw [BitVec.ofInt_natCast, BitVec.toNat_ofNat]; omega
    rw [h2, h3]
    exact (Nat.two_pow_add_eq_or_of_lt (i := 6) (by omega) x).symm
  show IntKind.u64.wrap (((BitVec.ofInt 64 ((64 * x : Nat) : Int)) ||| (BitVec.ofInt 64 (y : Int))).toNat : Int) = _
  rw [h1, wrap_u64 (by omega) (by omega)]

theorem shl6 (x : Nat) (hx : x ≤ 144115188075855871) : IntKind.u64.wrap (((x : Nat) : Int) * 2 ^ min 6 IntKind.u64.bits) = ((64 * x : Nat) : Int) := by
  have h1 : min 6 IntKind.u64.bits = 6 := rfl
  rw [h1, show (2 : Int) ^ 6 = 64 from rfl, wrap_u64 (by omega) (by omega)]
  omega

def numAV : NR → AV
  | .err e => .tup [.int .i64 0, .bool false, .int .i64 0, .int .i64 e]
  | .ok x b k => .tup [.int .i64 x, .bool b, .int .i64 k, .int .i64 0]

theorem c107 {tot : Bool} {ω : Nat → Nat} {n : Nat} (id : Nat) (s : List UInt8) (h : Hp) (hid : h[id]? = some (.row 1 [.agg [.str s]])) (hs : s.length ≤ 1000000000000) (hn : s.length + 2 < n) :
    call F n tot ω 107 [.ptr id 1 0 0] h = some (numAV (dec 0 0 s), h) := by
  obtain ⟨n, rfl⟩ : ∃ m, n = m + 1 := ⟨n - 1, by omega⟩
  refine call_eq (fn := a107) f107 ?_
  generalize hR : dec 0 0 s = R
  unfold a107
  simp (maxSteps := 2000000) (discharger := omega) only [xc,xo,xr,x0,x2,isNil,Bool.bne_false,Reg.isA,Reg.isV,Reg.stays,Reg.onto,Bool.or_false,Bool.and_false,↓reduceIte,reduceCtorEq,Nat.reduceEqDiff,Nat.reduceLT,Nat.zero_add,Nat.not_lt_zero,Bool.false_eq_true,Option.map_some,List.any_nil,List.any_cons]
  refine wpi_loop (fun k r g => ∃ (x i : Nat), r = [(0, .val (.ptr id 1 0 0)), (6, .val (.int .u64 x)), (7, .val (.int .i64 i))] ∧ i + k = s.length ∧ x ≤ 9223372036854775807 ∧ dec x i (s.drop i) = R ∧ g = h) s.length (by omega) ⟨0, 0, rfl, by omega, by omega, hR, rfl⟩ ?_
  clear hR
  rintro k r g ⟨x, i, rfl, hik, hx, hd, rfl⟩
  by_cases hlt : i < s.length
  · have hlt' : ((i : Nat) : Int) < (s.length : Int) := by omega
    have hge : s[i]? = some s[i] := List.getElem?_eq_getElem hlt
    have hi0 : (0 : Int) ≤ (i : Int) := by omega
    rw [List.drop_eq_getElem_cons hlt] at hd
    have hc := s[i].toNat_lt
    generalize s[i] = c at *
    unfold dec at hd
    by_cases A : 191 < c.toNat
    · rw [if_pos (.inl A)] at hd
      subst hd
      have A' : ((c.toNat : Nat) : Int) > 191 := by omega
      simp (maxSteps := 2000000) (discharger := omega) only [xc,xo,xr,x0,x1,x3,x4,xd,xb,Reg.isA,Reg.isV,Reg.stays,Reg.onto,Bool.or_false,Bool.and_false,↓reduceIte,reduceCtorEq,Nat.reduceEqDiff,Nat.reduceLT,Nat.add_zero,Nat.not_lt_zero,Bool.false_eq_true,Option.map_some,and_true,List.any_nil,List.any_cons,Int.toNat_natCast,Int.natCast_nonneg,Option.some.injEq,exists_eq_left',decide_true,List.getElem?_cons_zero,hid,hlt',hge,A',numAV]
    · have A' : ¬ ((c.toNat : Nat) : Int) > 191 := by omega
      by_cases B : 144115188075855871 < x
      · rw [if_pos (.inr (.inl B))] at hd
        subst hd
        have B' : ((x : Nat) : Int) > 144115188075855871 := by omega
        simp (maxSteps := 2000000) (discharger := omega) only [xc,xo,xr,x0,x1,x3,x4,xd,xb,Reg.isA,Reg.isV,Reg.stays,Reg.onto,Bool.or_false,Bool.and_false,↓reduceIte,reduceCtorEq,Nat.reduceEqDiff,Nat.reduceLT,Nat.add_zero,Nat.not_lt_zero,Bool.false_eq_true,Option.map_some,and_true,List.any_nil,List.any_cons,Int.toNat_natCast,Int.natCast_nonneg,beq_self_eq_true,Option.some.injEq,exists_eq_left',decide_true,decide_false,List.getElem?_cons_zero,hid,hlt',hge,A',B',numAV]
      · have B' : ¬ ((x : Nat) : Int) > 144115188075855871 := by omega
        by_cases C : i = 0 ∧ c.toNat = 0
        · rw [if_pos (.inr (.inr C))] at hd
          subst hd
          have C' : (((i : Nat) : Int) == 0) = true := by simp [C.1]
          have D' : (((c.toNat : Nat) : Int) == 0) = true := by rw [C.2]; rfl
          simp (maxSteps := 2000000) (discharger := omega) only [xc,xo,xr,x0,x1,x3,x4,xd,Reg.isA,Reg.isV,Reg.stays,Reg.onto,Bool.or_false,Bool.and_false,↓reduceIte,reduceCtorEq,Nat.reduceEqDiff,Nat.reduceLT,Nat.add_zero,Nat.not_lt_zero,Bool.false_eq_true,Option.map_some,and_true,List.any_nil,List.any_cons,Int.toNat_natCast,Int.natCast_nonneg,beq_self_eq_true,Option.some.injEq,exists_eq_left',decide_true,decide_false,List.getElem?_cons_zero,hid,hlt',hge,A',B',C',D',numAV]
        · rw [if_neg (by omega)] at hd
          have hCD : (((i : Nat) : Int) == 0) = false ∨ ((((i : Nat) : Int) == 0) = true ∧ (((c.toNat : Nat) : Int) == 0) = false) := by
            by_cases hi : i = 0
            · right; exact ⟨by simp [hi], by simp; omega⟩
            · left; simp; omega
          have w1 := shl6 x (by omega)
          have w2 := and63b c.toNat (by omega)
          have w3 := or64 x (c.toNat % 64) (by omega) (by omega)
          by_cases E : 63 < c.toNat
          · rw [if_pos E] at hd
            subst hd
            have E' : ((c.toNat : Nat) : Int) > 63 := by omega
            have G : decide (((c.toNat : Nat) : Int) > 127) = decide (127 < c.toNat) := by
              by_cases h : 127 < c.toNat
              · rw [decide_eq_true h, decide_eq_true (by omega)]
              · rw [decide_eq_false h, decide_eq_false (by omega)]
            rcases hCD with C' | ⟨C', D'⟩
            · simp (maxSteps := 2000000) (discharger := omega) only [xc,xo,xr,x0,x1,x2,x3,x4,xd,xb,Reg.isA,Reg.isV,Reg.stays,Reg.onto,Bool.or_false,Bool.and_false,↓reduceIte,reduceCtorEq,Nat.reduceEqDiff,Nat.reduceLT,Nat.add_zero,Nat.not_lt_zero,Nat.lt_irrefl,Bool.false_eq_true,Option.map_some,and_true,List.any_nil,List.any_cons,Int.toNat_natCast,Int.natCast_nonneg,beq_self_eq_true,Option.some.injEq,exists_eq_left',Int.reduceLT,Int.reduceToNat,decide_true,decide_false,List.getElem?_cons_zero,wrap_i64,hid,hlt',hge,A',B',C',E',w1,w2,w3,wrap_u64,numAV,G]
              rfl
            · simp (maxSteps := 2000000) (discharger := omega) only [xc,xo,xr,x0,x1,x2,x3,x4,xd,Reg.isA,Reg.isV,Reg.stays,Reg.onto,Bool.or_false,Bool.and_false,↓reduceIte,reduceCtorEq,Nat.reduceEqDiff,Nat.reduceLT,Nat.add_zero,Nat.not_lt_zero,Nat.lt_irrefl,Bool.false_eq_true,Option.map_some,and_true,List.any_nil,List.any_cons,Int.toNat_natCast,Int.natCast_nonneg,beq_self_eq_true,Option.some.injEq,exists_eq_left',Int.reduceLT,Int.reduceToNat,decide_true,decide_false,List.getElem?_cons_zero,wrap_i64,hid,hlt',hge,A',B',C',D',E',w1,w2,w3,wrap_u64,numAV,G]
              rfl
          · rw [if_neg E] at hd
            have E' : ¬ ((c.toNat : Nat) : Int) > 63 := by omega
            rcases hCD with C' | ⟨C', D'⟩
            · simp (maxSteps := 2000000) (discharger := omega) only [xc,xo,xr,x0,x1,x2,x3,x4,xd,xb,Reg.isA,Reg.isV,Reg.stays,Reg.onto,Bool.or_false,Bool.and_false,↓reduceIte,reduceCtorEq,Nat.reduceEqDiff,Nat.reduceLT,Nat.add_zero,Nat.not_lt_zero,Nat.lt_irrefl,Bool.false_eq_true,Option.map_some,and_true,List.any_nil,List.any_cons,Int.toNat_natCast,Int.natCast_nonneg,beq_self_eq_true,Int.reduceLT,Int.reduceToNat,decide_true,decide_false,List.getElem?_cons_zero,wrap_i64,hid,hlt',hge,A',B',C',E',w1,w2,w3,wrap_u64]
              exact ⟨k - 1, by omega, _, i + 1, rfl, by omega, by omega, hd⟩
            · simp (maxSteps := 2000000) (discharger := omega) only [xc,xo,xr,x0,x1,x2,x3,x4,xd,Reg.isA,Reg.isV,Reg.stays,Reg.onto,Bool.or_false,Bool.and_false,↓reduceIte,reduceCtorEq,Nat.reduceEqDiff,Nat.reduceLT,Nat.add_zero,Nat.not_lt_zero,Nat.lt_irrefl,Bool.false_eq_true,Option.map_some,and_true,List.any_nil,List.any_cons,Int.toNat_natCast,Int.natCast_nonneg,beq_self_eq_true,Int.reduceLT,Int.reduceToNat,decide_true,decide_false,List.getElem?_cons_zero,wrap_i64,hid,hlt',hge,A',B',C',D',E',w1,w2,w3,wrap_u64]
              exact ⟨k - 1, by omega, _, i + 1, rfl, by omega, by omega, hd⟩
  · have hlt' : ¬ ((i : Nat) : Int) < (s.length : Int) := by omega
    rw [List.drop_of_length_le (by omega)] at hd
    unfold dec at hd
    subst hd
    simp (maxSteps := 2000000) (discharger := omega) only [xc,xo,xr,x0,x1,x3,x4,xd,Reg.isA,Reg.isV,Reg.stays,Reg.onto,Bool.or_false,Bool.and_false,↓reduceIte,reduceCtorEq,Nat.reduceEqDiff,Nat.reduceLT,Nat.add_zero,Nat.not_lt_zero,Bool.false_eq_true,Option.map_some,and_true,List.any_nil,List.any_cons,Option.some.injEq,exists_eq_left',decide_false,List.getElem?_cons_zero,hid,hlt',numAV]

end Go.Proofs.YtcnbllelfinlmaaDoor.Im

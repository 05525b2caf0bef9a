/- S18Of2: the sketch of bytes: the program's text. -/
import Derived.Test.YtdjlcddkfjbebaaOf
set_option linter.unusedVariables false
set_option linter.unusedSimpArgs false
open Go Go.Im
namespace Go.Proofs.Ytdjlcddkfjbebaa.Im

/-- The last eight of the first i bytes. -/
def win (bs : List UInt8) (i : Nat) : List UInt8 := (bs.take i).drop (i - 8)
/-- How many windows end in the first i bytes. -/
def cnt (bs : List UInt8) (i : Nat) : Nat := if bs.length < 8 then (if i = bs.length ∧ 0 < i then 1 else 0) else i - 7

theorem cnt_end (bs : List UInt8) : cnt bs bs.length = many bs := by
  unfold cnt many wid; split <;> split <;> (try split) <;> omega
theorem cnt_skip {bs : List UInt8} {i : Nat} (h1 : i < 7) (h2 : i + 1 < bs.length) : cnt bs (i + 1) = cnt bs i := by
  unfold cnt; split <;> (try split) <;> (try split) <;> omega
theorem cnt_step {bs : List UInt8} {i : Nat} (hi : i < bs.length) (h : ¬ (i < 7 ∧ i + 1 < bs.length)) : cnt bs (i + 1) = cnt bs i + 1 ∧ (bs.drop (cnt bs i)).take (wid bs) = win bs (i + 1) := by
  by_cases h8 : bs.length < 8
  · have e : i + 1 = bs.length := by omega
    have c0 : cnt bs i = 0 := by unfold cnt; rw [if_pos h8, if_neg (by omega)]
    have c1 : cnt bs (i + 1) = 1 := by unfold cnt; rw [if_pos h8, if_pos (by omega)]
    refine ⟨by omega, ?_⟩
    rw [c0]
    unfold win wid
    rw [if_pos h8, List.drop_zero, e, show bs.length - 8 = 0 by omega, List.drop_zero]
  · have c0 : cnt bs i = i - 7 := by unfold cnt; rw [if_neg h8]
    have c1 : cnt bs (i + 1) = i + 1 - 7 := by unfold cnt; rw [if_neg h8]
    refine ⟨by omega, ?_⟩
    rw [c0]
    unfold win wid
    rw [if_neg h8, List.drop_take, show i + 1 - 8 = i - 7 by omega, show i + 1 - (i - 7) = 8 by omega]

theorem win_small {bs : List UInt8} {i : Nat} (hi : i < bs.length) (h8 : i < 8) : sumS (win bs (i + 1)) = (sumS (win bs i) * 257 + bs[i].toNat) % 4294967296 := by
  unfold win
  rw [show i + 1 - 8 = 0 by omega, show i - 8 = 0 by omega, List.drop_zero, List.drop_zero, sumS_take _ _ hi]
theorem win_roll {bs : List UInt8} {i : Nat} (hi : i < bs.length) (h8 : 8 ≤ i) : sumS (win bs (i + 1)) = ((sumS (win bs i) * 257 + bs[i].toNat) % 4294967296 - (bs[i - 8]'(by omega)).toNat * 941361153 % 4294967296) % 4294967296 := by
  have e1 : win bs i = bs[i - 8]'(by omega) :: ((bs.take i).drop (i - 7)) := by
    unfold win
    rw [List.drop_eq_getElem_cons (by simp; omega), show i - 8 + 1 = i - 7 by omega]
    simp
  have e2 : win bs (i + 1) = (bs.take i).drop (i - 7) ++ [bs[i]] := by
    unfold win
    rw [List.take_succ_eq_append_getElem hi, show i + 1 - 8 = i - 7 by omega, List.drop_append_of_le_length (by simp; omega)]
  rw [e1, e2]
  exact roll _ _ _ (by simp; omega)

theorem c9 {tot : Bool} {ω : Nat → Nat} {n : Nat} (bs : List UInt8) (cc : Cap) (seed : Int) (h : Hp) (hl : bs.length ≤ 6000) (hn : 6040 < n) :
    call F n tot ω 9 [.imm 1 (bytesOf bs) cc, .int .i64 seed] h = some (.agg (arr8 (rowsOf bs seed)), h) := by
  obtain ⟨n, rfl⟩ : ∃ m, n = m + 1 := ⟨n - 1, by omega⟩
  refine call_eq (fn := a9) rfl ?_
  unfold a9
  simp only [xc, xo, xr, x0, x1, x2, x3, x4, x5, x6, xd, xe, xb, kont_call, kont_pure, isNil, slOk, sliceV, selems, elems, srcElems, copyTo, dlen, eqAV, eqCells, eqS, upd, wr, place, partVals, partEs, placeEs, mapOf, keyOk, keyCells, findK, Bool.bne_false, Bool.bne_true, List.drop_zero, List.nil_append, List.append_nil, List.take_zero, Reg.isA, Reg.isV, Reg.stays, Reg.onto, Bool.false_or, Bool.or_false, Bool.false_and, Bool.and_false, Bool.true_and, Bool.and_true, Bool.or_true, Bool.true_or, ↓reduceIte, reduceCtorEq, Nat.reduceEqDiff, Nat.reduceLT, Nat.reduceAdd, Nat.reduceMul, Nat.add_zero, Nat.zero_add, Nat.not_lt_zero, Nat.zero_ne_one, Nat.one_ne_zero, Nat.reduceLeDiff, Nat.lt_irrefl, Nat.zero_lt_succ, Bool.false_eq_true, Bool.not_true, Bool.not_false, Option.map_some, Option.map_none, Option.bind_some, Option.getD_some, Option.getD_none, and_self, and_true, true_and, List.length_cons, List.length_nil, List.any_nil, List.any_cons, Int.toNat_natCast, Int.cast_ofNat_Int, Int.natCast_zero, Int.natCast_nonneg, true_implies, or_true, true_or, false_or, or_false, beq_self_eq_true, Option.some.injEq, exists_eq_left', Int.reduceEq, Int.reduceLT, Int.reduceLE, Int.reduceGT, Int.reduceGE, Nat.reduceGT, Int.reduceNeg, Int.reduceToNat, Int.reduceAdd, Int.reduceMul, Int.reduceSub, Int.reducePow, decide_true, decide_false, decide_eq_true_eq, List.getElem?_cons_zero, List.getElem?_cons_succ, Nat.reduceBEq, Nat.reduceSub, exists_false, and_false, false_and, arr8_zero]
  refine wpi_loop (fun k r h' => ∃ i : Nat, r = [(0, .val (.imm 1 (bytesOf bs) cc)), (1, .val (.int .i64 seed)), (4, .var (.agg (arr8 fun _ => 0))), (5, .var (.agg (arr8 fun r => if r < i then 4294967295 else 0))), (11, .val (.int .i64 i))] ∧ i ≤ 8 ∧ k = 8 - i ∧ h' = h) 8 (by omega) ⟨0, by simp, by omega, by omega, rfl⟩ ?_
  rintro k r h' ⟨i, rfl, hi, rfl, rfl⟩
  by_cases hlt : i < 8
  · have hlt' : ((i : Nat) : Int) < 8 := by omega
    have hset : (arr8 fun r => if r < i then 4294967295 else 0).set i (.int .u32 4294967295) = arr8 fun r => if r < i + 1 then 4294967295 else 0 := by
      rw [arr8_set]
      refine arr8_congr fun r hr => ?_
      by_cases h1 : r = i
      · subst h1; rw [if_pos rfl, if_pos (by omega)]
      · rw [if_neg h1]
        by_cases h2 : r < i
        · rw [if_pos h2, if_pos (by omega)]
        · rw [if_neg h2, if_neg (by omega)]
    simp (maxSteps := 2000000) (discharger := omega) only [xc, xo, xr, x0, x1, x2, x3, x4, x5, x6, xd, xe, xb, kont_call, kont_pure, isNil, slOk, sliceV, selems, elems, srcElems, copyTo, dlen, eqAV, eqCells, eqS, upd, wr, place, partVals, partEs, placeEs, mapOf, keyOk, keyCells, findK, Bool.bne_false, Bool.bne_true, List.drop_zero, List.nil_append, List.append_nil, List.take_zero, Reg.isA, Reg.isV, Reg.stays, Reg.onto, Bool.false_or, Bool.or_false, Bool.false_and, Bool.and_false, Bool.true_and, Bool.and_true, Bool.or_true, Bool.true_or, ↓reduceIte, reduceCtorEq, Nat.reduceEqDiff, Nat.reduceLT, Nat.reduceAdd, Nat.reduceMul, Nat.add_zero, Nat.zero_add, Nat.not_lt_zero, Nat.zero_ne_one, Nat.one_ne_zero, Nat.reduceLeDiff, Nat.lt_irrefl, Nat.zero_lt_succ, Bool.false_eq_true, Bool.not_true, Bool.not_false, Option.map_some, Option.map_none, Option.bind_some, Option.getD_some, Option.getD_none, and_self, and_true, true_and, List.length_cons, List.length_nil, List.any_nil, List.any_cons, Int.toNat_natCast, Int.cast_ofNat_Int, Int.natCast_zero, Int.natCast_nonneg, true_implies, or_true, true_or, false_or, or_false, beq_self_eq_true, Option.some.injEq, exists_eq_left', Int.reduceEq, Int.reduceLT, Int.reduceLE, Int.reduceGT, Int.reduceGE, Nat.reduceGT, Int.reduceNeg, Int.reduceToNat, Int.reduceAdd, Int.reduceMul, Int.reduceSub, Int.reducePow, decide_true, decide_false, decide_eq_true_eq, List.getElem?_cons_zero, List.getElem?_cons_succ, Nat.reduceBEq, Nat.reduceSub, exists_false, and_false, false_and, wrap_i64, hlt', arr8_len, hset, hlt, Nat.mul_one]
    exact ⟨8 - (i + 1), by omega, i + 1, rfl, by omega, rfl⟩
  · have hlt' : ¬ ((i : Nat) : Int) < 8 := by omega
    obtain rfl : i = 8 := by omega
    have hall : (arr8 fun r => if r < 8 then 4294967295 else 0) = arr8 fun r => rowK bs (wid bs) seed r (cnt bs 0) := arr8_congr fun r hr => by
      rw [if_pos hr]
      have : cnt bs 0 = 0 := by unfold cnt; split <;> (try split) <;> omega
      rw [this]; rfl
    simp only [xc, xo, xr, x0, x1, x2, x3, x4, x5, x6, xd, xe, xb, kont_call, kont_pure, isNil, slOk, sliceV, selems, elems, srcElems, copyTo, dlen, eqAV, eqCells, eqS, upd, wr, place, partVals, partEs, placeEs, mapOf, keyOk, keyCells, findK, Bool.bne_false, Bool.bne_true, List.drop_zero, List.nil_append, List.append_nil, List.take_zero, Reg.isA, Reg.isV, Reg.stays, Reg.onto, Bool.false_or, Bool.or_false, Bool.false_and, Bool.and_false, Bool.true_and, Bool.and_true, Bool.or_true, Bool.true_or, ↓reduceIte, reduceCtorEq, Nat.reduceEqDiff, Nat.reduceLT, Nat.reduceAdd, Nat.reduceMul, Nat.add_zero, Nat.zero_add, Nat.not_lt_zero, Nat.zero_ne_one, Nat.one_ne_zero, Nat.reduceLeDiff, Nat.lt_irrefl, Nat.zero_lt_succ, Bool.false_eq_true, Bool.not_true, Bool.not_false, Option.map_some, Option.map_none, Option.bind_some, Option.getD_some, Option.getD_none, and_self, and_true, true_and, List.length_cons, List.length_nil, List.any_nil, List.any_cons, Int.toNat_natCast, Int.cast_ofNat_Int, Int.natCast_zero, Int.natCast_nonneg, true_implies, or_true, true_or, false_or, or_false, beq_self_eq_true, Option.some.injEq, exists_eq_left', Int.reduceEq, Int.reduceLT, Int.reduceLE, Int.reduceGT, Int.reduceGE, Nat.reduceGT, Int.reduceNeg, Int.reduceToNat, Int.reduceAdd, Int.reduceMul, Int.reduceSub, Int.reducePow, decide_true, decide_false, decide_eq_true_eq, List.getElem?_cons_zero, List.getElem?_cons_succ, Nat.reduceBEq, Nat.reduceSub, exists_false, and_false, false_and, hlt', hall]
    refine wpi_loop (fun k r h'' => ∃ i : Nat, r = [(0, .val (.imm 1 (bytesOf bs) cc)), (1, .val (.int .i64 seed)), (4, .var (.agg (arr8 fun _ => 0))), (5, .var (.agg (arr8 fun r => rowK bs (wid bs) seed r (cnt bs i)))), (7, .val (.int .u32 (sumS (win bs i)))), (17, .val (.imm 1 (bytesOf bs) cc)), (18, .val (.int .i64 (bs.length : Int))), (19, .val (.int .i64 i))] ∧ i ≤ bs.length ∧ k = bs.length - i ∧ h'' = h') bs.length (by omega) ⟨0, by simp [win, sumS], by omega, by omega, rfl⟩ ?_
    rintro k r h'' ⟨i, rfl, hi, rfl, rfl⟩
    by_cases hlt : i < bs.length
    · have e1 := bytesOf_get hlt
      have eb := bs[i].toNat_lt
      have es := sumS_lt (win bs i)
      have hlt' : ((i : Nat) : Int) < (bs.length : Int) := by omega
      by_cases h7 : i < 7 ∧ i + 1 < bs.length
      · have k1 : ¬ ((i : Nat) : Int) ≥ 8 := by omega
        have k2 : ((i : Nat) : Int) < 7 := by omega
        have k3 : ((i : Nat) : Int) < (bs.length : Int) - 1 := by omega
        have hw : (sumS (win bs i) * 257 % 4294967296 + (bs[i].toNat : Int) % 4294967296) % 4294967296 = sumS (win bs (i + 1)) := by rw [win_small hlt (by omega)]; omega
        simp (maxSteps := 2000000) (discharger := omega) only [xc, xo, xr, x0, x1, x2, x3, x4, x5, x6, xd, xe, xb, kont_call, kont_pure, isNil, slOk, sliceV, selems, elems, srcElems, copyTo, dlen, eqAV, eqCells, eqS, upd, wr, place, partVals, partEs, placeEs, mapOf, keyOk, keyCells, findK, Bool.bne_false, Bool.bne_true, List.drop_zero, List.nil_append, List.append_nil, List.take_zero, Reg.isA, Reg.isV, Reg.stays, Reg.onto, Bool.false_or, Bool.or_false, Bool.false_and, Bool.and_false, Bool.true_and, Bool.and_true, Bool.or_true, Bool.true_or, ↓reduceIte, reduceCtorEq, Nat.reduceEqDiff, Nat.reduceLT, Nat.reduceAdd, Nat.reduceMul, Nat.add_zero, Nat.zero_add, Nat.not_lt_zero, Nat.zero_ne_one, Nat.one_ne_zero, Nat.reduceLeDiff, Nat.lt_irrefl, Nat.zero_lt_succ, Bool.false_eq_true, Bool.not_true, Bool.not_false, Option.map_some, Option.map_none, Option.bind_some, Option.getD_some, Option.getD_none, and_self, and_true, true_and, List.length_cons, List.length_nil, List.any_nil, List.any_cons, Int.toNat_natCast, Int.cast_ofNat_Int, Int.natCast_zero, Int.natCast_nonneg, true_implies, or_true, true_or, false_or, or_false, beq_self_eq_true, Option.some.injEq, exists_eq_left', Int.reduceEq, Int.reduceLT, Int.reduceLE, Int.reduceGT, Int.reduceGE, Nat.reduceGT, Int.reduceNeg, Int.reduceToNat, Int.reduceAdd, Int.reduceMul, Int.reduceSub, Int.reducePow, decide_true, decide_false, decide_eq_true_eq, List.getElem?_cons_zero, List.getElem?_cons_succ, Nat.reduceBEq, Nat.reduceSub, exists_false, and_false, false_and, wrap_i64, e1, hlt', k1, k2, k3, wrap_u32_mod, hw]
        exact ⟨bs.length - (i + 1), by omega, i + 1, by rw [cnt_skip h7.1 h7.2]; rfl, by omega, rfl⟩
      · obtain ⟨s1, s2⟩ := cnt_step hlt h7
        have hs' := sumS_lt (win bs (i + 1))
        have three : (8 ≤ i) ∨ (i < 7 ∧ ¬ i + 1 < bs.length) ∨ i = 7 := by omega
        rcases three with h8 | h8 | h8
        · have k1 : ((i : Nat) : Int) ≥ 8 := by omega
          have k2 : ¬ ((i : Nat) : Int) < 7 := by omega
          have k4 : (0 : Int) ≤ (i : Int) - 8 := by omega
          have k5 : ((i : Int) - 8).toNat = i - 8 := by omega
          have e2 := bytesOf_get (bs := bs) (i := i - 8) (by omega)
          have eb2 := (bs[i - 8]'(by omega)).toNat_lt
          have hw : ((sumS (win bs i) * 257 % 4294967296 + (bs[i].toNat : Int) % 4294967296) % 4294967296 - ((bs[i - 8]'(by omega)).toNat : Int) % 4294967296 * 941361153 % 4294967296) % 4294967296 = sumS (win bs (i + 1)) := by rw [win_roll hlt h8]; omega
          simp (maxSteps := 2000000) (discharger := omega) only [xc, xo, xr, x0, x1, x2, x3, x4, x5, x6, xd, xe, xb, kont_call, kont_pure, isNil, slOk, sliceV, selems, elems, srcElems, copyTo, dlen, eqAV, eqCells, eqS, upd, wr, place, partVals, partEs, placeEs, mapOf, keyOk, keyCells, findK, Bool.bne_false, Bool.bne_true, List.drop_zero, List.nil_append, List.append_nil, List.take_zero, Reg.isA, Reg.isV, Reg.stays, Reg.onto, Bool.false_or, Bool.or_false, Bool.false_and, Bool.and_false, Bool.true_and, Bool.and_true, Bool.or_true, Bool.true_or, ↓reduceIte, reduceCtorEq, Nat.reduceEqDiff, Nat.reduceLT, Nat.reduceAdd, Nat.reduceMul, Nat.add_zero, Nat.zero_add, Nat.not_lt_zero, Nat.zero_ne_one, Nat.one_ne_zero, Nat.reduceLeDiff, Nat.lt_irrefl, Nat.zero_lt_succ, Bool.false_eq_true, Bool.not_true, Bool.not_false, Option.map_some, Option.map_none, Option.bind_some, Option.getD_some, Option.getD_none, and_self, and_true, true_and, List.length_cons, List.length_nil, List.any_nil, List.any_cons, Int.toNat_natCast, Int.cast_ofNat_Int, Int.natCast_zero, Int.natCast_nonneg, true_implies, or_true, true_or, false_or, or_false, beq_self_eq_true, Option.some.injEq, exists_eq_left', Int.reduceEq, Int.reduceLT, Int.reduceLE, Int.reduceGT, Int.reduceGE, Nat.reduceGT, Int.reduceNeg, Int.reduceToNat, Int.reduceAdd, Int.reduceMul, Int.reduceSub, Int.reducePow, decide_true, decide_false, decide_eq_true_eq, List.getElem?_cons_zero, List.getElem?_cons_succ, Nat.reduceBEq, Nat.reduceSub, exists_false, and_false, false_and, wrap_i64, e1, hlt', k1, k2, k4, k5, e2, wrap_u32_mod, hw]
          refine wpi_loop (fun k r h3 => ∃ j : Nat, r = [(0, .val (.imm 1 (bytesOf bs) cc)), (1, .val (.int .i64 seed)), (4, .var (.agg (arr8 fun _ => 0))), (5, .var (.agg (arr8 fun r => if r < j then rowK bs (wid bs) seed r (cnt bs (i + 1)) else rowK bs (wid bs) seed r (cnt bs i)))), (7, .val (.int .u32 (sumS (win bs (i + 1))))), (17, .val (.imm 1 (bytesOf bs) cc)), (18, .val (.int .i64 (bs.length : Int))), (19, .val (.int .i64 i)), (49, .val (.int .i64 j))] ∧ j ≤ 8 ∧ k = 8 - j ∧ h3 = h'') 8 (by omega) ⟨0, by simp, by omega, by omega, rfl⟩ ?_
          rintro k r h3 ⟨j, rfl, hj, rfl, rfl⟩
          by_cases hjl : j < 8
          · have hjl' : ((j : Nat) : Int) < 8 := by omega
            have hjr : ((j : Nat) : Int) ≤ 7 := by omega
            have eg := arr8_get (fun r => if r < j then rowK bs (wid bs) seed r (cnt bs (i + 1)) else rowK bs (wid bs) seed r (cnt bs i)) hjl
            simp only [Nat.lt_irrefl, if_false] at eg
            have hrow : rowK bs (wid bs) seed j (cnt bs (i + 1)) = if numS (sumS (win bs (i + 1))) seed j < rowK bs (wid bs) seed j (cnt bs i) then numS (sumS (win bs (i + 1))) seed j else rowK bs (wid bs) seed j (cnt bs i) := by
              rw [s1]; simp only [rowK, s2]
            have hset : (arr8 fun r => if r < j then rowK bs (wid bs) seed r (cnt bs (i + 1)) else rowK bs (wid bs) seed r (cnt bs i)).set j (.int .u32 (if numS (sumS (win bs (i + 1))) seed j < rowK bs (wid bs) seed j (cnt bs i) then numS (sumS (win bs (i + 1))) seed j else rowK bs (wid bs) seed j (cnt bs i))) = arr8 fun r => if r < j + 1 then rowK bs (wid bs) seed r (cnt bs (i + 1)) else rowK bs (wid bs) seed r (cnt bs i) := by
              rw [arr8_set]
              refine arr8_congr fun r hr => ?_
              by_cases h1 : r = j
              · subst h1; rw [if_pos rfl, if_pos (Nat.lt_succ_self r), hrow]
              · rw [if_neg h1]
                by_cases h2 : r < j
                · rw [if_pos h2, if_pos (by omega)]
                · rw [if_neg h2, if_neg (by omega)]
            simp (maxSteps := 2000000) (discharger := omega) only [xc, xo, xr, x0, x1, x2, x3, x4, x5, x6, xd, xe, xb, kont_call, kont_pure, isNil, slOk, sliceV, selems, elems, srcElems, copyTo, dlen, eqAV, eqCells, eqS, upd, wr, place, partVals, partEs, placeEs, mapOf, keyOk, keyCells, findK, Bool.bne_false, Bool.bne_true, List.drop_zero, List.nil_append, List.append_nil, List.take_zero, Reg.isA, Reg.isV, Reg.stays, Reg.onto, Bool.false_or, Bool.or_false, Bool.false_and, Bool.and_false, Bool.true_and, Bool.and_true, Bool.or_true, Bool.true_or, ↓reduceIte, reduceCtorEq, Nat.reduceEqDiff, Nat.reduceLT, Nat.reduceAdd, Nat.reduceMul, Nat.add_zero, Nat.zero_add, Nat.not_lt_zero, Nat.zero_ne_one, Nat.one_ne_zero, Nat.reduceLeDiff, Nat.lt_irrefl, Nat.zero_lt_succ, Bool.false_eq_true, Bool.not_true, Bool.not_false, Option.map_some, Option.map_none, Option.bind_some, Option.getD_some, Option.getD_none, and_self, and_true, true_and, List.length_cons, List.length_nil, List.any_nil, List.any_cons, Int.toNat_natCast, Int.cast_ofNat_Int, Int.natCast_zero, Int.natCast_nonneg, true_implies, or_true, true_or, false_or, or_false, beq_self_eq_true, Option.some.injEq, exists_eq_left', Int.reduceEq, Int.reduceLT, Int.reduceLE, Int.reduceGT, Int.reduceGE, Nat.reduceGT, Int.reduceNeg, Int.reduceToNat, Int.reduceAdd, Int.reduceMul, Int.reduceSub, Int.reducePow, decide_true, decide_false, decide_eq_true_eq, List.getElem?_cons_zero, List.getElem?_cons_succ, Nat.reduceBEq, Nat.reduceSub, exists_false, and_false, false_and, wrap_i64, hjl', hjl, eg, arr8_len, Nat.mul_one, c22, hset]
            exact ⟨8 - (j + 1), by omega, j + 1, rfl, by omega, rfl⟩
          · have hjl' : ¬ ((j : Nat) : Int) < 8 := by omega
            obtain rfl : j = 8 := by omega
            have hall : (arr8 fun r => if r < 8 then rowK bs (wid bs) seed r (cnt bs (i + 1)) else rowK bs (wid bs) seed r (cnt bs i)) = arr8 fun r => rowK bs (wid bs) seed r (cnt bs (i + 1)) := arr8_congr fun r hr => if_pos hr
            simp (maxSteps := 2000000) (discharger := omega) only [xc, xo, xr, x0, x1, x2, x3, x4, x5, x6, xd, xe, xb, kont_call, kont_pure, isNil, slOk, sliceV, selems, elems, srcElems, copyTo, dlen, eqAV, eqCells, eqS, upd, wr, place, partVals, partEs, placeEs, mapOf, keyOk, keyCells, findK, Bool.bne_false, Bool.bne_true, List.drop_zero, List.nil_append, List.append_nil, List.take_zero, Reg.isA, Reg.isV, Reg.stays, Reg.onto, Bool.false_or, Bool.or_false, Bool.false_and, Bool.and_false, Bool.true_and, Bool.and_true, Bool.or_true, Bool.true_or, ↓reduceIte, reduceCtorEq, Nat.reduceEqDiff, Nat.reduceLT, Nat.reduceAdd, Nat.reduceMul, Nat.add_zero, Nat.zero_add, Nat.not_lt_zero, Nat.zero_ne_one, Nat.one_ne_zero, Nat.reduceLeDiff, Nat.lt_irrefl, Nat.zero_lt_succ, Bool.false_eq_true, Bool.not_true, Bool.not_false, Option.map_some, Option.map_none, Option.bind_some, Option.getD_some, Option.getD_none, and_self, and_true, true_and, List.length_cons, List.length_nil, List.any_nil, List.any_cons, Int.toNat_natCast, Int.cast_ofNat_Int, Int.natCast_zero, Int.natCast_nonneg, true_implies, or_true, true_or, false_or, or_false, beq_self_eq_true, Option.some.injEq, exists_eq_left', Int.reduceEq, Int.reduceLT, Int.reduceLE, Int.reduceGT, Int.reduceGE, Nat.reduceGT, Int.reduceNeg, Int.reduceToNat, Int.reduceAdd, Int.reduceMul, Int.reduceSub, Int.reducePow, decide_true, decide_false, decide_eq_true_eq, List.getElem?_cons_zero, List.getElem?_cons_succ, Nat.reduceBEq, Nat.reduceSub, exists_false, and_false, false_and, wrap_i64, hjl', hall]
            exact ⟨bs.length - (i + 1), by omega, i + 1, rfl, by omega, rfl⟩
        · have k1 : ¬ ((i : Nat) : Int) ≥ 8 := by omega
          have k2 : ((i : Nat) : Int) < 7 := by omega
          have k3 : ¬ ((i : Nat) : Int) < (bs.length : Int) - 1 := by omega
          have hw : (sumS (win bs i) * 257 % 4294967296 + (bs[i].toNat : Int) % 4294967296) % 4294967296 = sumS (win bs (i + 1)) := by rw [win_small hlt (by omega)]; omega
          simp (maxSteps := 2000000) (discharger := omega) only [xc, xo, xr, x0, x1, x2, x3, x4, x5, x6, xd, xe, xb, kont_call, kont_pure, isNil, slOk, sliceV, selems, elems, srcElems, copyTo, dlen, eqAV, eqCells, eqS, upd, wr, place, partVals, partEs, placeEs, mapOf, keyOk, keyCells, findK, Bool.bne_false, Bool.bne_true, List.drop_zero, List.nil_append, List.append_nil, List.take_zero, Reg.isA, Reg.isV, Reg.stays, Reg.onto, Bool.false_or, Bool.or_false, Bool.false_and, Bool.and_false, Bool.true_and, Bool.and_true, Bool.or_true, Bool.true_or, ↓reduceIte, reduceCtorEq, Nat.reduceEqDiff, Nat.reduceLT, Nat.reduceAdd, Nat.reduceMul, Nat.add_zero, Nat.zero_add, Nat.not_lt_zero, Nat.zero_ne_one, Nat.one_ne_zero, Nat.reduceLeDiff, Nat.lt_irrefl, Nat.zero_lt_succ, Bool.false_eq_true, Bool.not_true, Bool.not_false, Option.map_some, Option.map_none, Option.bind_some, Option.getD_some, Option.getD_none, and_self, and_true, true_and, List.length_cons, List.length_nil, List.any_nil, List.any_cons, Int.toNat_natCast, Int.cast_ofNat_Int, Int.natCast_zero, Int.natCast_nonneg, true_implies, or_true, true_or, false_or, or_false, beq_self_eq_true, Option.some.injEq, exists_eq_left', Int.reduceEq, Int.reduceLT, Int.reduceLE, Int.reduceGT, Int.reduceGE, Nat.reduceGT, Int.reduceNeg, Int.reduceToNat, Int.reduceAdd, Int.reduceMul, Int.reduceSub, Int.reducePow, decide_true, decide_false, decide_eq_true_eq, List.getElem?_cons_zero, List.getElem?_cons_succ, Nat.reduceBEq, Nat.reduceSub, exists_false, and_false, false_and, wrap_i64, e1, hlt', k1, k2, k3, wrap_u32_mod, hw]
          refine wpi_loop (fun k r h3 => ∃ j : Nat, r = [(0, .val (.imm 1 (bytesOf bs) cc)), (1, .val (.int .i64 seed)), (4, .var (.agg (arr8 fun _ => 0))), (5, .var (.agg (arr8 fun r => if r < j then rowK bs (wid bs) seed r (cnt bs (i + 1)) else rowK bs (wid bs) seed r (cnt bs i)))), (7, .val (.int .u32 (sumS (win bs (i + 1))))), (17, .val (.imm 1 (bytesOf bs) cc)), (18, .val (.int .i64 (bs.length : Int))), (19, .val (.int .i64 i)), (49, .val (.int .i64 j))] ∧ j ≤ 8 ∧ k = 8 - j ∧ h3 = h'') 8 (by omega) ⟨0, by simp, by omega, by omega, rfl⟩ ?_
          rintro k r h3 ⟨j, rfl, hj, rfl, rfl⟩
          by_cases hjl : j < 8
          · have hjl' : ((j : Nat) : Int) < 8 := by omega
            have hjr : ((j : Nat) : Int) ≤ 7 := by omega
            have eg := arr8_get (fun r => if r < j then rowK bs (wid bs) seed r (cnt bs (i + 1)) else rowK bs (wid bs) seed r (cnt bs i)) hjl
            simp only [Nat.lt_irrefl, if_false] at eg
            have hrow : rowK bs (wid bs) seed j (cnt bs (i + 1)) = if numS (sumS (win bs (i + 1))) seed j < rowK bs (wid bs) seed j (cnt bs i) then numS (sumS (win bs (i + 1))) seed j else rowK bs (wid bs) seed j (cnt bs i) := by
              rw [s1]; simp only [rowK, s2]
            have hset : (arr8 fun r => if r < j then rowK bs (wid bs) seed r (cnt bs (i + 1)) else rowK bs (wid bs) seed r (cnt bs i)).set j (.int .u32 (if numS (sumS (win bs (i + 1))) seed j < rowK bs (wid bs) seed j (cnt bs i) then numS (sumS (win bs (i + 1))) seed j else rowK bs (wid bs) seed j (cnt bs i))) = arr8 fun r => if r < j + 1 then rowK bs (wid bs) seed r (cnt bs (i + 1)) else rowK bs (wid bs) seed r (cnt bs i) := by
              rw [arr8_set]
              refine arr8_congr fun r hr => ?_
              by_cases h1 : r = j
              · subst h1; rw [if_pos rfl, if_pos (Nat.lt_succ_self r), hrow]
              · rw [if_neg h1]
                by_cases h2 : r < j
                · rw [if_pos h2, if_pos (by omega)]
                · rw [if_neg h2, if_neg (by omega)]
            simp (maxSteps := 2000000) (discharger := omega) only [xc, xo, xr, x0, x1, x2, x3, x4, x5, x6, xd, xe, xb, kont_call, kont_pure, isNil, slOk, sliceV, selems, elems, srcElems, copyTo, dlen, eqAV, eqCells, eqS, upd, wr, place, partVals, partEs, placeEs, mapOf, keyOk, keyCells, findK, Bool.bne_false, Bool.bne_true, List.drop_zero, List.nil_append, List.append_nil, List.take_zero, Reg.isA, Reg.isV, Reg.stays, Reg.onto, Bool.false_or, Bool.or_false, Bool.false_and, Bool.and_false, Bool.true_and, Bool.and_true, Bool.or_true, Bool.true_or, ↓reduceIte, reduceCtorEq, Nat.reduceEqDiff, Nat.reduceLT, Nat.reduceAdd, Nat.reduceMul, Nat.add_zero, Nat.zero_add, Nat.not_lt_zero, Nat.zero_ne_one, Nat.one_ne_zero, Nat.reduceLeDiff, Nat.lt_irrefl, Nat.zero_lt_succ, Bool.false_eq_true, Bool.not_true, Bool.not_false, Option.map_some, Option.map_none, Option.bind_some, Option.getD_some, Option.getD_none, and_self, and_true, true_and, List.length_cons, List.length_nil, List.any_nil, List.any_cons, Int.toNat_natCast, Int.cast_ofNat_Int, Int.natCast_zero, Int.natCast_nonneg, true_implies, or_true, true_or, false_or, or_false, beq_self_eq_true, Option.some.injEq, exists_eq_left', Int.reduceEq, Int.reduceLT, Int.reduceLE, Int.reduceGT, Int.reduceGE, Nat.reduceGT, Int.reduceNeg, Int.reduceToNat, Int.reduceAdd, Int.reduceMul, Int.reduceSub, Int.reducePow, decide_true, decide_false, decide_eq_true_eq, List.getElem?_cons_zero, List.getElem?_cons_succ, Nat.reduceBEq, Nat.reduceSub, exists_false, and_false, false_and, wrap_i64, hjl', hjl, eg, arr8_len, Nat.mul_one, c22, hset]
            exact ⟨8 - (j + 1), by omega, j + 1, rfl, by omega, rfl⟩
          · have hjl' : ¬ ((j : Nat) : Int) < 8 := by omega
            obtain rfl : j = 8 := by omega
            have hall : (arr8 fun r => if r < 8 then rowK bs (wid bs) seed r (cnt bs (i + 1)) else rowK bs (wid bs) seed r (cnt bs i)) = arr8 fun r => rowK bs (wid bs) seed r (cnt bs (i + 1)) := arr8_congr fun r hr => if_pos hr
            simp (maxSteps := 2000000) (discharger := omega) only [xc, xo, xr, x0, x1, x2, x3, x4, x5, x6, xd, xe, xb, kont_call, kont_pure, isNil, slOk, sliceV, selems, elems, srcElems, copyTo, dlen, eqAV, eqCells, eqS, upd, wr, place, partVals, partEs, placeEs, mapOf, keyOk, keyCells, findK, Bool.bne_false, Bool.bne_true, List.drop_zero, List.nil_append, List.append_nil, List.take_zero, Reg.isA, Reg.isV, Reg.stays, Reg.onto, Bool.false_or, Bool.or_false, Bool.false_and, Bool.and_false, Bool.true_and, Bool.and_true, Bool.or_true, Bool.true_or, ↓reduceIte, reduceCtorEq, Nat.reduceEqDiff, Nat.reduceLT, Nat.reduceAdd, Nat.reduceMul, Nat.add_zero, Nat.zero_add, Nat.not_lt_zero, Nat.zero_ne_one, Nat.one_ne_zero, Nat.reduceLeDiff, Nat.lt_irrefl, Nat.zero_lt_succ, Bool.false_eq_true, Bool.not_true, Bool.not_false, Option.map_some, Option.map_none, Option.bind_some, Option.getD_some, Option.getD_none, and_self, and_true, true_and, List.length_cons, List.length_nil, List.any_nil, List.any_cons, Int.toNat_natCast, Int.cast_ofNat_Int, Int.natCast_zero, Int.natCast_nonneg, true_implies, or_true, true_or, false_or, or_false, beq_self_eq_true, Option.some.injEq, exists_eq_left', Int.reduceEq, Int.reduceLT, Int.reduceLE, Int.reduceGT, Int.reduceGE, Nat.reduceGT, Int.reduceNeg, Int.reduceToNat, Int.reduceAdd, Int.reduceMul, Int.reduceSub, Int.reducePow, decide_true, decide_false, decide_eq_true_eq, List.getElem?_cons_zero, List.getElem?_cons_succ, Nat.reduceBEq, Nat.reduceSub, exists_false, and_false, false_and, wrap_i64, hjl', hall]
            exact ⟨bs.length - (i + 1), by omega, i + 1, rfl, by omega, rfl⟩
        · have k1 : ¬ ((i : Nat) : Int) ≥ 8 := by omega
          have k2 : ¬ ((i : Nat) : Int) < 7 := by omega
          have hw : (sumS (win bs i) * 257 % 4294967296 + (bs[i].toNat : Int) % 4294967296) % 4294967296 = sumS (win bs (i + 1)) := by rw [win_small hlt (by omega)]; omega
          simp (maxSteps := 2000000) (discharger := omega) only [xc, xo, xr, x0, x1, x2, x3, x4, x5, x6, xd, xe, xb, kont_call, kont_pure, isNil, slOk, sliceV, selems, elems, srcElems, copyTo, dlen, eqAV, eqCells, eqS, upd, wr, place, partVals, partEs, placeEs, mapOf, keyOk, keyCells, findK, Bool.bne_false, Bool.bne_true, List.drop_zero, List.nil_append, List.append_nil, List.take_zero, Reg.isA, Reg.isV, Reg.stays, Reg.onto, Bool.false_or, Bool.or_false, Bool.false_and, Bool.and_false, Bool.true_and, Bool.and_true, Bool.or_true, Bool.true_or, ↓reduceIte, reduceCtorEq, Nat.reduceEqDiff, Nat.reduceLT, Nat.reduceAdd, Nat.reduceMul, Nat.add_zero, Nat.zero_add, Nat.not_lt_zero, Nat.zero_ne_one, Nat.one_ne_zero, Nat.reduceLeDiff, Nat.lt_irrefl, Nat.zero_lt_succ, Bool.false_eq_true, Bool.not_true, Bool.not_false, Option.map_some, Option.map_none, Option.bind_some, Option.getD_some, Option.getD_none, and_self, and_true, true_and, List.length_cons, List.length_nil, List.any_nil, List.any_cons, Int.toNat_natCast, Int.cast_ofNat_Int, Int.natCast_zero, Int.natCast_nonneg, true_implies, or_true, true_or, false_or, or_false, beq_self_eq_true, Option.some.injEq, exists_eq_left', Int.reduceEq, Int.reduceLT, Int.reduceLE, Int.reduceGT, Int.reduceGE, Nat.reduceGT, Int.reduceNeg, Int.reduceToNat, Int.reduceAdd, Int.reduceMul, Int.reduceSub, Int.reducePow, decide_true, decide_false, decide_eq_true_eq, List.getElem?_cons_zero, List.getElem?_cons_succ, Nat.reduceBEq, Nat.reduceSub, exists_false, and_false, false_and, wrap_i64, e1, hlt', k1, k2, wrap_u32_mod, hw]
          refine wpi_loop (fun k r h3 => ∃ j : Nat, r = [(0, .val (.imm 1 (bytesOf bs) cc)), (1, .val (.int .i64 seed)), (4, .var (.agg (arr8 fun _ => 0))), (5, .var (.agg (arr8 fun r => if r < j then rowK bs (wid bs) seed r (cnt bs (i + 1)) else rowK bs (wid bs) seed r (cnt bs i)))), (7, .val (.int .u32 (sumS (win bs (i + 1))))), (17, .val (.imm 1 (bytesOf bs) cc)), (18, .val (.int .i64 (bs.length : Int))), (19, .val (.int .i64 i)), (49, .val (.int .i64 j))] ∧ j ≤ 8 ∧ k = 8 - j ∧ h3 = h'') 8 (by omega) ⟨0, by simp, by omega, by omega, rfl⟩ ?_
          rintro k r h3 ⟨j, rfl, hj, rfl, rfl⟩
          by_cases hjl : j < 8
          · have hjl' : ((j : Nat) : Int) < 8 := by omega
            have hjr : ((j : Nat) : Int) ≤ 7 := by omega
            have eg := arr8_get (fun r => if r < j then rowK bs (wid bs) seed r (cnt bs (i + 1)) else rowK bs (wid bs) seed r (cnt bs i)) hjl
            simp only [Nat.lt_irrefl, if_false] at eg
            have hrow : rowK bs (wid bs) seed j (cnt bs (i + 1)) = if numS (sumS (win bs (i + 1))) seed j < rowK bs (wid bs) seed j (cnt bs i) then numS (sumS (win bs (i + 1))) seed j else rowK bs (wid bs) seed j (cnt bs i) := by
              rw [s1]; simp only [rowK, s2]
            have hset : (arr8 fun r => if r < j then rowK bs (wid bs) seed r (cnt bs (i + 1)) else rowK bs (wid bs) seed r (cnt bs i)).set j (.int .u32 (if numS (sumS (win bs (i + 1))) seed j < rowK bs (wid bs) seed j (cnt bs i) then numS (sumS (win bs (i + 1))) seed j else rowK bs (wid bs) seed j (cnt bs i))) = arr8 fun r => if r < j + 1 then rowK bs (wid bs) seed r (cnt bs (i + 1)) else rowK bs (wid bs) seed r (cnt bs i) := by
              rw [arr8_set]
              refine arr8_congr fun r hr => ?_
              by_cases h1 : r = j
              · subst h1; rw [if_pos rfl, if_pos (Nat.lt_succ_self r), hrow]
              · rw [if_neg h1]
                by_cases h2 : r < j
                · rw [if_pos h2, if_pos (by omega)]
                · rw [if_neg h2, if_neg (by omega)]
            simp (maxSteps := 2000000) (discharger := omega) only [xc, xo, xr, x0, x1, x2, x3, x4, x5, x6, xd, xe, xb, kont_call, kont_pure, isNil, slOk, sliceV, selems, elems, srcElems, copyTo, dlen, eqAV, eqCells, eqS, upd, wr, place, partVals, partEs, placeEs, mapOf, keyOk, keyCells, findK, Bool.bne_false, Bool.bne_true, List.drop_zero, List.nil_append, List.append_nil, List.take_zero, Reg.isA, Reg.isV, Reg.stays, Reg.onto, Bool.false_or, Bool.or_false, Bool.false_and, Bool.and_false, Bool.true_and, Bool.and_true, Bool.or_true, Bool.true_or, ↓reduceIte, reduceCtorEq, Nat.reduceEqDiff, Nat.reduceLT, Nat.reduceAdd, Nat.reduceMul, Nat.add_zero, Nat.zero_add, Nat.not_lt_zero, Nat.zero_ne_one, Nat.one_ne_zero, Nat.reduceLeDiff, Nat.lt_irrefl, Nat.zero_lt_succ, Bool.false_eq_true, Bool.not_true, Bool.not_false, Option.map_some, Option.map_none, Option.bind_some, Option.getD_some, Option.getD_none, and_self, and_true, true_and, List.length_cons, List.length_nil, List.any_nil, List.any_cons, Int.toNat_natCast, Int.cast_ofNat_Int, Int.natCast_zero, Int.natCast_nonneg, true_implies, or_true, true_or, false_or, or_false, beq_self_eq_true, Option.some.injEq, exists_eq_left', Int.reduceEq, Int.reduceLT, Int.reduceLE, Int.reduceGT, Int.reduceGE, Nat.reduceGT, Int.reduceNeg, Int.reduceToNat, Int.reduceAdd, Int.reduceMul, Int.reduceSub, Int.reducePow, decide_true, decide_false, decide_eq_true_eq, List.getElem?_cons_zero, List.getElem?_cons_succ, Nat.reduceBEq, Nat.reduceSub, exists_false, and_false, false_and, wrap_i64, hjl', hjl, eg, arr8_len, Nat.mul_one, c22, hset]
            exact ⟨8 - (j + 1), by omega, j + 1, rfl, by omega, rfl⟩
          · have hjl' : ¬ ((j : Nat) : Int) < 8 := by omega
            obtain rfl : j = 8 := by omega
            have hall : (arr8 fun r => if r < 8 then rowK bs (wid bs) seed r (cnt bs (i + 1)) else rowK bs (wid bs) seed r (cnt bs i)) = arr8 fun r => rowK bs (wid bs) seed r (cnt bs (i + 1)) := arr8_congr fun r hr => if_pos hr
            simp (maxSteps := 2000000) (discharger := omega) only [xc, xo, xr, x0, x1, x2, x3, x4, x5, x6, xd, xe, xb, kont_call, kont_pure, isNil, slOk, sliceV, selems, elems, srcElems, copyTo, dlen, eqAV, eqCells, eqS, upd, wr, place, partVals, partEs, placeEs, mapOf, keyOk, keyCells, findK, Bool.bne_false, Bool.bne_true, List.drop_zero, List.nil_append, List.append_nil, List.take_zero, Reg.isA, Reg.isV, Reg.stays, Reg.onto, Bool.false_or, Bool.or_false, Bool.false_and, Bool.and_false, Bool.true_and, Bool.and_true, Bool.or_true, Bool.true_or, ↓reduceIte, reduceCtorEq, Nat.reduceEqDiff, Nat.reduceLT, Nat.reduceAdd, Nat.reduceMul, Nat.add_zero, Nat.zero_add, Nat.not_lt_zero, Nat.zero_ne_one, Nat.one_ne_zero, Nat.reduceLeDiff, Nat.lt_irrefl, Nat.zero_lt_succ, Bool.false_eq_true, Bool.not_true, Bool.not_false, Option.map_some, Option.map_none, Option.bind_some, Option.getD_some, Option.getD_none, and_self, and_true, true_and, List.length_cons, List.length_nil, List.any_nil, List.any_cons, Int.toNat_natCast, Int.cast_ofNat_Int, Int.natCast_zero, Int.natCast_nonneg, true_implies, or_true, true_or, false_or, or_false, beq_self_eq_true, Option.some.injEq, exists_eq_left', Int.reduceEq, Int.reduceLT, Int.reduceLE, Int.reduceGT, Int.reduceGE, Nat.reduceGT, Int.reduceNeg, Int.reduceToNat, Int.reduceAdd, Int.reduceMul, Int.reduceSub, Int.reducePow, decide_true, decide_false, decide_eq_true_eq, List.getElem?_cons_zero, List.getElem?_cons_succ, Nat.reduceBEq, Nat.reduceSub, exists_false, and_false, false_and, wrap_i64, hjl', hall]
            exact ⟨bs.length - (i + 1), by omega, i + 1, rfl, by omega, rfl⟩
    · have hlt' : ¬ ((i : Nat) : Int) < (bs.length : Int) := by omega
      obtain rfl : i = bs.length := by omega
      have hend : (arr8 fun r => rowK bs (wid bs) seed r (cnt bs bs.length)) = arr8 (rowsOf bs seed) := by rw [cnt_end]; rfl
      simp (maxSteps := 2000000) (discharger := omega) only [xc, xo, xr, x0, x1, x2, x3, x4, x5, x6, xd, xe, xb, kont_call, kont_pure, isNil, slOk, sliceV, selems, elems, srcElems, copyTo, dlen, eqAV, eqCells, eqS, upd, wr, place, partVals, partEs, placeEs, mapOf, keyOk, keyCells, findK, Bool.bne_false, Bool.bne_true, List.drop_zero, List.nil_append, List.append_nil, List.take_zero, Reg.isA, Reg.isV, Reg.stays, Reg.onto, Bool.false_or, Bool.or_false, Bool.false_and, Bool.and_false, Bool.true_and, Bool.and_true, Bool.or_true, Bool.true_or, ↓reduceIte, reduceCtorEq, Nat.reduceEqDiff, Nat.reduceLT, Nat.reduceAdd, Nat.reduceMul, Nat.add_zero, Nat.zero_add, Nat.not_lt_zero, Nat.zero_ne_one, Nat.one_ne_zero, Nat.reduceLeDiff, Nat.lt_irrefl, Nat.zero_lt_succ, Bool.false_eq_true, Bool.not_true, Bool.not_false, Option.map_some, Option.map_none, Option.bind_some, Option.getD_some, Option.getD_none, and_self, and_true, true_and, List.length_cons, List.length_nil, List.any_nil, List.any_cons, Int.toNat_natCast, Int.cast_ofNat_Int, Int.natCast_zero, Int.natCast_nonneg, true_implies, or_true, true_or, false_or, or_false, beq_self_eq_true, Option.some.injEq, exists_eq_left', Int.reduceEq, Int.reduceLT, Int.reduceLE, Int.reduceGT, Int.reduceGE, Nat.reduceGT, Int.reduceNeg, Int.reduceToNat, Int.reduceAdd, Int.reduceMul, Int.reduceSub, Int.reducePow, decide_true, decide_false, decide_eq_true_eq, List.getElem?_cons_zero, List.getElem?_cons_succ, Nat.reduceBEq, Nat.reduceSub, exists_false, and_false, false_and, wrap_i64, hlt', hend, arr8_len, arr8_take, arr8_drop]
end Go.Proofs.Ytdjlcddkfjbebaa.Im

/- Joined: S13Is, S13Six, S13Wr. -/
import Derived.Test.YtlognommhffmcaaTabs
import Derived.KernelRfl
import Derived.Test.YtlognommhffmcaaImSl
import Derived.Test.YtlognommhffmcaaImApp
/- S13Is: which functions stand where. -/
open Go Go.Im
namespace Go.Proofs.Ytlognommhffmcaa.Im

theorem f3 : F 3 = some (.inl a3) := by kernel_rfl
theorem f6 : F 6 = some (.inl a6) := by kernel_rfl
theorem f7 : F 7 = some (.inl a7) := by kernel_rfl
theorem f8 : F 8 = some (.inl a8) := by kernel_rfl
theorem f9 : F 9 = some (.inl a9) := by kernel_rfl
theorem f10 : F 10 = some (.inl a10) := by kernel_rfl
theorem f11 : F 11 = some (.inl a11) := by kernel_rfl
theorem f12 : F 12 = some (.inl a12) := by kernel_rfl
theorem f13 : F 13 = some (.inl a13) := by kernel_rfl
theorem f21 : F 21 = some (.inl a21) := by kernel_rfl
theorem f22 : F 22 = some (.inl a22) := by kernel_rfl
theorem f23 : F 23 = some (.inl a23) := by kernel_rfl
theorem f24 : F 24 = some (.inl a24) := by kernel_rfl
theorem f25 : F 25 = some (.inl a25) := by kernel_rfl
theorem f26 : F 26 = some (.inl a26) := by kernel_rfl
theorem f27 : F 27 = some (.inl a27) := by kernel_rfl
theorem f28 : F 28 = some (.inl a28) := by kernel_rfl
theorem f29 : F 29 = some (.inl a29) := by kernel_rfl
theorem f30 : F 30 = some (.inl a30) := by kernel_rfl
theorem f31 : F 31 = some (.inl a31) := by kernel_rfl
theorem f32 : F 32 = some (.inl a32) := by kernel_rfl
theorem f33 : F 33 = some (.inl a33) := by kernel_rfl
theorem f34 : F 34 = some (.inl a34) := by kernel_rfl
theorem f35 : F 35 = some (.inl a35) := by kernel_rfl
theorem f36 : F 36 = some (.inl a36) := by kernel_rfl
theorem f37 : F 37 = some (.inl a37) := by kernel_rfl
theorem f44 : F 44 = some (.inl a44) := by kernel_rfl
theorem f45 : F 45 = some (.inl a45) := by kernel_rfl
theorem f46 : F 46 = some (.inl a46) := by kernel_rfl
theorem f47 : F 47 = some (.inl a47) := by kernel_rfl
theorem f48 : F 48 = some (.inl a48) := by kernel_rfl
theorem f49 : F 49 = some (.inl a49) := by kernel_rfl
theorem f50 : F 50 = some (.inl a50) := by kernel_rfl

end Go.Proofs.Ytlognommhffmcaa.Im

/- S13Six: numbers and texts in groups of six bits: the reference. -/
set_option linter.unusedVariables false
set_option linter.unusedSimpArgs false
open Go Go.Im
namespace Go.Proofs.Ytlognommhffmcaa.Im

/-- A number's groups, the highest first; of 0 none. -/
def hi (x : Nat) : List UInt8 := if h : x = 0 then [] else hi (x / 64) ++ [UInt8.ofNat (x % 64)]
termination_by x
decreasing_by omega
theorem hi_zero : hi 0 = [] := by rw [hi]; rfl
theorem hi_pos {x : Nat} (h : 0 < x) : hi x = hi (x / 64) ++ [UInt8.ofNat (x % 64)] := by rw [hi]; rw [dif_neg (by omega)]

def enc (x m : Nat) : List UInt8 := hi (x / 64) ++ [UInt8.ofNat (m + x % 64)]

theorem toBytes_one (n : Int) : toBytes [.int .u8 n] = some [UInt8.ofNat n.toNat] := rfl
theorem tm64 (x : Nat) : ((x : Nat) : Int).tmod 64 = ((x % 64 : Nat) : Int) := rfl
theorem td64 (x : Nat) : ((x : Nat) : Int).tdiv 64 = ((x / 64 : Nat) : Int) := rfl

theorem c49 {tot : Bool} {ω : Nat → Nat} {n : Nat} (x m : Nat) (h : Hp) (hx : x ≤ 18446744073709551615) (hm : m ≤ 128) (hn : 12 < n) :
    call F n tot ω 49 [.int .u64 x, .int .i64 m] h = some (.str (enc x m), h) := by
  obtain ⟨n, rfl⟩ : ∃ m, n = m + 1 := ⟨n - 1, by omega⟩
  refine call_eq (fn := a49) f49 ?_
  unfold a49
  have hm2 : ((m : Int) + ((x % 64 : Nat) : Int)).toNat = m + x % 64 := by omega
  simp (maxSteps := 2000000) (discharger := omega) only [xc, xo, xr, x0, x1, x2, x3, x4, x5, x6, xd, xe, xb, kont_call, kont_pure, isNil, slOk, sliceV, selems, srcElems, copyTo, dlen, eqAV, eqCells, eqS, upd, wr, place, partVals, partEs, placeEs, mapOf, keyOk, keyCells, findK, Bool.bne_false, Bool.bne_true, List.drop_zero, List.nil_append, List.append_nil, List.take_zero, List.cons_append, List.take_succ_cons, List.drop_succ_cons, List.take_nil, List.drop_nil, Reg.isA, Reg.isV, Reg.stays, Reg.onto, Bool.false_or, Bool.or_false, Bool.false_and, Bool.and_false, Bool.true_and, Bool.and_true, Bool.or_true, Bool.true_or, ↓reduceIte, reduceCtorEq, Nat.reduceEqDiff, Nat.reduceLT, Nat.reduceAdd, Nat.reduceMul, Nat.add_zero, Nat.zero_add, Nat.not_lt_zero, Nat.zero_ne_one, Nat.one_ne_zero, Nat.reduceLeDiff, Nat.lt_irrefl, Nat.zero_lt_succ, Bool.false_eq_true, Bool.not_true, Bool.not_false, Option.map_some, Option.map_none, Option.bind_some, Option.getD_some, Option.getD_none, and_self, and_true, true_and, List.length_cons, List.length_nil, List.any_nil, List.any_cons, Int.toNat_natCast, Int.cast_ofNat_Int, Int.natCast_zero, Int.natCast_nonneg, true_implies, or_true, true_or, false_or, or_false, beq_self_eq_true, Option.some.injEq, exists_eq_left', Int.reduceEq, Int.reduceLT, Int.reduceLE, Int.reduceGT, Int.reduceGE, Nat.reduceGT, Int.reduceNeg, Int.reduceToNat, Int.reduceAdd, Int.reduceMul, Int.reduceSub, Int.reducePow, decide_true, decide_false, decide_eq_true_eq, List.getElem?_cons_zero, List.getElem?_cons_succ, Nat.reduceBEq, Nat.reduceSub, exists_false, and_false, false_and, wrap_i64, toBytes_one, tm64, td64, wrap_u8, wrap_u64, List.replicate_one, List.set_cons_zero, Nat.zero_lt_one, hm2]
  refine wpi_loop (fun k r h' => ∃ (y : Nat) (s : List UInt8), r = [(0, .val (.int .u64 y)), (5, .val (.str s))] ∧ y < 64 ^ k ∧ y ≤ 18446744073709551615 ∧ hi y ++ s = enc x m ∧ s.length + k ≤ 12 ∧ h' = h) 11 (by omega) ⟨x / 64, _, rfl, by omega, by omega, rfl, by simp, rfl⟩ ?_
  rintro k r h' ⟨y, s, rfl, hy, hb, he, hs, rfl⟩
  by_cases hy0 : 0 < y
  · have hlt : ((y : Nat) : Int) > 0 := by omega
    have hk : 0 < k := by rcases k with _ | k; simp at hy; omega; omega
    have hl : 1 + s.length ≤ 9223372036854775807 := by omega
    simp (maxSteps := 2000000) (discharger := omega) only [xc, xo, xr, x0, x1, x2, x3, x4, x5, x6, xd, xe, xb, kont_call, kont_pure, isNil, slOk, sliceV, selems, srcElems, copyTo, dlen, eqAV, eqCells, eqS, upd, wr, place, partVals, partEs, placeEs, mapOf, keyOk, keyCells, findK, Bool.bne_false, Bool.bne_true, List.drop_zero, List.nil_append, List.append_nil, List.take_zero, List.cons_append, List.take_succ_cons, List.drop_succ_cons, List.take_nil, List.drop_nil, Reg.isA, Reg.isV, Reg.stays, Reg.onto, Bool.false_or, Bool.or_false, Bool.false_and, Bool.and_false, Bool.true_and, Bool.and_true, Bool.or_true, Bool.true_or, ↓reduceIte, reduceCtorEq, Nat.reduceEqDiff, Nat.reduceLT, Nat.reduceAdd, Nat.reduceMul, Nat.add_zero, Nat.zero_add, Nat.not_lt_zero, Nat.zero_ne_one, Nat.one_ne_zero, Nat.reduceLeDiff, Nat.lt_irrefl, Nat.zero_lt_succ, Bool.false_eq_true, Bool.not_true, Bool.not_false, Option.map_some, Option.map_none, Option.bind_some, Option.getD_some, Option.getD_none, and_self, and_true, true_and, List.length_cons, List.length_nil, List.any_nil, List.any_cons, Int.toNat_natCast, Int.cast_ofNat_Int, Int.natCast_zero, Int.natCast_nonneg, true_implies, or_true, true_or, false_or, or_false, beq_self_eq_true, Option.some.injEq, exists_eq_left', Int.reduceEq, Int.reduceLT, Int.reduceLE, Int.reduceGT, Int.reduceGE, Nat.reduceGT, Int.reduceNeg, Int.reduceToNat, Int.reduceAdd, Int.reduceMul, Int.reduceSub, Int.reducePow, decide_true, decide_false, decide_eq_true_eq, List.getElem?_cons_zero, List.getElem?_cons_succ, Nat.reduceBEq, Nat.reduceSub, exists_false, and_false, false_and, wrap_i64, toBytes_one, tm64, td64, wrap_u8, wrap_u64, List.replicate_one, List.set_cons_zero, Nat.zero_lt_one, hlt, hl]
    obtain ⟨k, rfl⟩ : ∃ j, k = j + 1 := ⟨k - 1, by omega⟩
    refine ⟨k, by omega, y / 64, _, rfl, ?_, by omega, ?_, by simp; omega⟩
    · rw [Nat.pow_succ] at hy; omega
    · rw [hi_pos hy0] at he; simpa using he
  · obtain rfl : y = 0 := by omega
    rw [hi_zero] at he
    simp (maxSteps := 2000000) (discharger := omega) only [xc, xo, xr, x0, x1, x2, x3, x4, x5, x6, xd, xe, xb, kont_call, kont_pure, isNil, slOk, sliceV, selems, srcElems, copyTo, dlen, eqAV, eqCells, eqS, upd, wr, place, partVals, partEs, placeEs, mapOf, keyOk, keyCells, findK, Bool.bne_false, Bool.bne_true, List.drop_zero, List.nil_append, List.append_nil, List.take_zero, List.cons_append, List.take_succ_cons, List.drop_succ_cons, List.take_nil, List.drop_nil, Reg.isA, Reg.isV, Reg.stays, Reg.onto, Bool.false_or, Bool.or_false, Bool.false_and, Bool.and_false, Bool.true_and, Bool.and_true, Bool.or_true, Bool.true_or, ↓reduceIte, reduceCtorEq, Nat.reduceEqDiff, Nat.reduceLT, Nat.reduceAdd, Nat.reduceMul, Nat.add_zero, Nat.zero_add, Nat.not_lt_zero, Nat.zero_ne_one, Nat.one_ne_zero, Nat.reduceLeDiff, Nat.lt_irrefl, Nat.zero_lt_succ, Bool.false_eq_true, Bool.not_true, Bool.not_false, Option.map_some, Option.map_none, Option.bind_some, Option.getD_some, Option.getD_none, and_self, and_true, true_and, List.length_cons, List.length_nil, List.any_nil, List.any_cons, Int.toNat_natCast, Int.cast_ofNat_Int, Int.natCast_zero, Int.natCast_nonneg, true_implies, or_true, true_or, false_or, or_false, beq_self_eq_true, Option.some.injEq, exists_eq_left', Int.reduceEq, Int.reduceLT, Int.reduceLE, Int.reduceGT, Int.reduceGE, Nat.reduceGT, Int.reduceNeg, Int.reduceToNat, Int.reduceAdd, Int.reduceMul, Int.reduceSub, Int.reducePow, decide_true, decide_false, decide_eq_true_eq, List.getElem?_cons_zero, List.getElem?_cons_succ, Nat.reduceBEq, Nat.reduceSub, exists_false, and_false, false_and, wrap_i64, Int.lt_irrefl]
    rw [← he]; rfl

theorem sh64 {x t : Nat} {z : Int} (hz : z = 6 * t) (ht : t ≤ 10) : ((x : Nat) : Int).fdiv (2 ^ min z.toNat IntKind.u64.bits) = ((x / 64 ^ t : Nat) : Int) := by
  have h1 : min z.toNat IntKind.u64.bits = 6 * t := by
    have : IntKind.u64.bits = 64 := rfl
    omega
  rw [h1, show (2 : Int) ^ (6 * t) = ((64 ^ t : Nat) : Int) by rw [Int.pow_mul]; simp]
  exact (Int.fdiv_eq_ediv_of_nonneg _ (Int.natCast_nonneg _)).trans rfl

theorem and63 (x : Nat) (hx : x ≤ 18446744073709551615) : bitsI .and .u64 x 63 = ((x % 64 : Nat) : Int) := by
  have h1 : ((BitVec.ofInt 64 (x : Int)) &&& (BitVec.ofInt 64 63)).toNat = x % 64 := by
    rw [BitVec.toNat_and]
    have h2 : (BitVec.ofInt 64 63).toNat = 2 ^ 6 - 1 := by decide
    rw [h2, Nat.and_two_pow_sub_one_eq_mod]
    simp
  show IntKind.u64.wrap (((BitVec.ofInt 64 (x : Int)) &&& (BitVec.ofInt 64 63)).toNat : Int) = _
  rw [h1, wrap_u64 (by omega) (by omega)]

theorem bytesOf_app (a b : List UInt8) : bytesOf (a ++ b) = bytesOf a ++ bytesOf b := by simp [bytesOf]
theorem bytesOf_len (a : List UInt8) : (bytesOf a).length = a.length := by simp [bytesOf]
theorem bytesOf_one (n : Nat) (h : n ≤ 255) : bytesOf [UInt8.ofNat n] = [.int .u8 n] := by
  simp [bytesOf, UInt8.toNat_ofNat']
  omega

theorem c45 {tot : Bool} {ω : Nat → Nat} {n : Nat} (v : AV) (bs : List UInt8) (x m : Nat) (h : Hp) (hv : IsApp 1 (bytesOf bs) h v) (hl : bs.length ≤ 10000000000000) (hx : x ≤ 18446744073709551615) (hm : m ≤ 128) (hn : 12 < n) :
    ∃ v' h', call F n tot ω 45 [v, .int .u64 x, .int .u8 m] h = some (v', h') ∧ IsApp 1 (bytesOf (bs ++ enc x m)) h' v' ∧ keeps h h' ∧ h.length ≤ h'.length := by
  obtain ⟨n, rfl⟩ : ∃ m, n = m + 1 := ⟨n - 1, by omega⟩
  refine call_of (fn := a45) f45 (P := fun v' h' => IsApp 1 (bytesOf (bs ++ enc x m)) h' v' ∧ keeps h h' ∧ h.length ≤ h'.length) ?_
  unfold a45
  simp (maxSteps := 2000000) (discharger := omega) only [xc, xo, xr, x0, x1, x2, x3, x4, x5, x6, xd, xe, xb, kont_call, kont_pure, isNil, slOk, sliceV, selems, srcElems, copyTo, dlen, eqAV, eqCells, eqS, upd, wr, place, partVals, partEs, placeEs, mapOf, keyOk, keyCells, findK, Bool.bne_false, Bool.bne_true, List.drop_zero, List.nil_append, List.append_nil, List.take_zero, List.cons_append, List.take_succ_cons, List.drop_succ_cons, List.take_nil, List.drop_nil, Reg.isA, Reg.isV, Reg.stays, Reg.onto, Bool.false_or, Bool.or_false, Bool.false_and, Bool.and_false, Bool.true_and, Bool.and_true, Bool.or_true, Bool.true_or, ↓reduceIte, reduceCtorEq, Nat.reduceEqDiff, Nat.reduceLT, Nat.reduceAdd, Nat.reduceMul, Nat.add_zero, Nat.zero_add, Nat.not_lt_zero, Nat.zero_ne_one, Nat.one_ne_zero, Nat.reduceLeDiff, Nat.lt_irrefl, Nat.zero_lt_succ, Bool.false_eq_true, Bool.not_true, Bool.not_false, Option.map_some, Option.map_none, Option.bind_some, Option.getD_some, Option.getD_none, and_self, and_true, true_and, List.length_cons, List.length_nil, List.any_nil, List.any_cons, Int.toNat_natCast, Int.cast_ofNat_Int, Int.natCast_zero, Int.natCast_nonneg, true_implies, or_true, true_or, false_or, or_false, beq_self_eq_true, Option.some.injEq, exists_eq_left', Int.reduceEq, Int.reduceLT, Int.reduceLE, Int.reduceGT, Int.reduceGE, Nat.reduceGT, Int.reduceNeg, Int.reduceToNat, Int.reduceAdd, Int.reduceMul, Int.reduceSub, Int.reducePow, decide_true, decide_false, decide_eq_true_eq, List.getElem?_cons_zero, List.getElem?_cons_succ, Nat.reduceBEq, Nat.reduceSub, exists_false, and_false, false_and, wrap_i64]
  refine wpi_loop (fun k r h' => ∃ (t : Nat) (z : Int), r = [(0, .val v), (1, .val (.int .u64 x)), (2, .val (.int .u8 m)), (7, .val (.int .i64 z))] ∧ z = 6 * t ∧ t + k = 10 ∧ (t = 0 ∨ 64 ^ t ≤ x) ∧ h' = h) 10 (by omega) ⟨0, 0, rfl, by omega, by omega, .inl rfl, rfl⟩ ?_
  rintro k r h' ⟨t, z, rfl, hz, htk, ht, rfl⟩
  have hs := sh64 (x := x) hz (by omega)
  have hz0 : ¬ z < 0 := by omega
  have hp : 0 < 64 ^ t := Nat.pow_pos (by omega)
  by_cases hlt : x / 64 ^ t > 63
  · have hlt' : ((x / 64 ^ t : Nat) : Int) > 63 := by omega
    have h64 : 64 ^ (t + 1) ≤ x := by
      rw [Nat.pow_succ, Nat.mul_comm]
      exact (Nat.le_div_iff_mul_le hp).1 hlt
    have ht10 : t ≠ 10 := by
      rintro rfl
      have : (64 : Nat) ^ (10 + 1) = 73786976294838206464 := by decide
      omega
    simp (maxSteps := 2000000) (discharger := omega) only [xc, xo, xr, x0, x1, x2, x3, x4, x5, x6, xd, xe, xb, kont_call, kont_pure, isNil, slOk, sliceV, selems, srcElems, copyTo, dlen, eqAV, eqCells, eqS, upd, wr, place, partVals, partEs, placeEs, mapOf, keyOk, keyCells, findK, Bool.bne_false, Bool.bne_true, List.drop_zero, List.nil_append, List.append_nil, List.take_zero, List.cons_append, List.take_succ_cons, List.drop_succ_cons, List.take_nil, List.drop_nil, Reg.isA, Reg.isV, Reg.stays, Reg.onto, Bool.false_or, Bool.or_false, Bool.false_and, Bool.and_false, Bool.true_and, Bool.and_true, Bool.or_true, Bool.true_or, ↓reduceIte, reduceCtorEq, Nat.reduceEqDiff, Nat.reduceLT, Nat.reduceAdd, Nat.reduceMul, Nat.add_zero, Nat.zero_add, Nat.not_lt_zero, Nat.zero_ne_one, Nat.one_ne_zero, Nat.reduceLeDiff, Nat.lt_irrefl, Nat.zero_lt_succ, Bool.false_eq_true, Bool.not_true, Bool.not_false, Option.map_some, Option.map_none, Option.bind_some, Option.getD_some, Option.getD_none, and_self, and_true, true_and, List.length_cons, List.length_nil, List.any_nil, List.any_cons, Int.toNat_natCast, Int.cast_ofNat_Int, Int.natCast_zero, Int.natCast_nonneg, true_implies, or_true, true_or, false_or, or_false, beq_self_eq_true, Option.some.injEq, exists_eq_left', Int.reduceEq, Int.reduceLT, Int.reduceLE, Int.reduceGT, Int.reduceGE, Nat.reduceGT, Int.reduceNeg, Int.reduceToNat, Int.reduceAdd, Int.reduceMul, Int.reduceSub, Int.reducePow, decide_true, decide_false, decide_eq_true_eq, List.getElem?_cons_zero, List.getElem?_cons_succ, Nat.reduceBEq, Nat.reduceSub, exists_false, and_false, false_and, wrap_i64, hs, hlt', hz0]
    exact ⟨k - 1, by omega, t + 1, _, rfl, by omega, by omega, .inr h64⟩
  · have hlt' : ¬ ((x / 64 ^ t : Nat) : Int) > 63 := by omega
    simp (maxSteps := 2000000) (discharger := omega) only [xc, xo, xr, x0, x1, x2, x3, x4, x5, x6, xd, xe, xb, kont_call, kont_pure, isNil, slOk, sliceV, selems, srcElems, copyTo, dlen, eqAV, eqCells, eqS, upd, wr, place, partVals, partEs, placeEs, mapOf, keyOk, keyCells, findK, Bool.bne_false, Bool.bne_true, List.drop_zero, List.nil_append, List.append_nil, List.take_zero, List.cons_append, List.take_succ_cons, List.drop_succ_cons, List.take_nil, List.drop_nil, Reg.isA, Reg.isV, Reg.stays, Reg.onto, Bool.false_or, Bool.or_false, Bool.false_and, Bool.and_false, Bool.true_and, Bool.and_true, Bool.or_true, Bool.true_or, ↓reduceIte, reduceCtorEq, Nat.reduceEqDiff, Nat.reduceLT, Nat.reduceAdd, Nat.reduceMul, Nat.add_zero, Nat.zero_add, Nat.not_lt_zero, Nat.zero_ne_one, Nat.one_ne_zero, Nat.reduceLeDiff, Nat.lt_irrefl, Nat.zero_lt_succ, Bool.false_eq_true, Bool.not_true, Bool.not_false, Option.map_some, Option.map_none, Option.bind_some, Option.getD_some, Option.getD_none, and_self, and_true, true_and, List.length_cons, List.length_nil, List.any_nil, List.any_cons, Int.toNat_natCast, Int.cast_ofNat_Int, Int.natCast_zero, Int.natCast_nonneg, true_implies, or_true, true_or, false_or, or_false, beq_self_eq_true, Option.some.injEq, exists_eq_left', Int.reduceEq, Int.reduceLT, Int.reduceLE, Int.reduceGT, Int.reduceGE, Nat.reduceGT, Int.reduceNeg, Int.reduceToNat, Int.reduceAdd, Int.reduceMul, Int.reduceSub, Int.reducePow, decide_true, decide_false, decide_eq_true_eq, List.getElem?_cons_zero, List.getElem?_cons_succ, Nat.reduceBEq, Nat.reduceSub, exists_false, and_false, false_and, wrap_i64, hs, hlt', hz0]
    refine wpi_loop (fun k r g => ∃ (j : Nat) (z : Int) (u : AV) (e : Regs), r = (0, .val u) :: (1, .val (.int .u64 x)) :: (2, .val (.int .u8 m)) :: (7, .val (.int .i64 z)) :: e ∧ (e = [] ∨ e = [(11, .val (.bool false))]) ∧ z = 6 * j ∧ j = k ∧ j ≤ t ∧ IsApp 1 (bytesOf (bs ++ hi (x / 64 ^ (j + 1)))) g u ∧ (hi (x / 64 ^ (j + 1))).length + j = t ∧ keeps h' g ∧ h'.length ≤ g.length) t (by omega) ⟨t, z, v, _, rfl, .inr rfl, hz, rfl, by omega, ?_, ?_, ?_, by omega⟩ ?_
    · have h1 : x / 64 ^ (t + 1) = 0 := by
        rw [Nat.pow_succ, ← Nat.div_div_eq_div_mul]; exact Nat.div_eq_of_lt (by omega)
      rw [h1, hi_zero, List.append_nil]; exact hv
    · have h1 : x / 64 ^ (t + 1) = 0 := by
        rw [Nat.pow_succ, ← Nat.div_div_eq_div_mul]; exact Nat.div_eq_of_lt (by omega)
      rw [h1, hi_zero]; simp
    · exact fun _ _ h _ => h
    rintro k r g ⟨j, z, u, e, rfl, he, hz, rfl, hjt, hu, hul, hk, hkl⟩
    have hs := sh64 (x := x) hz (by omega)
    have hz0 : ¬ z < 0 := by omega
    have hu2 := hu.isRow
    by_cases hj : 0 < j
    · have hzp : z > 0 := by omega
      have hpos : 0 < x / 64 ^ j := by
        have h1 : 64 ^ j ≤ 64 ^ t := Nat.pow_le_pow_right (by omega) hjt
        exact Nat.div_pos (by omega) (Nat.pow_pos (by omega))
      have hyb : x / 64 ^ j ≤ 18446744073709551615 := Nat.le_trans (Nat.div_le_self _ _) hx
      have ha := and63 (x / 64 ^ j) hyb
      generalize hy : x / 64 ^ j = y at *
      have hb : IntKind.u8.wrap ((y % 64 : Nat) : Int) = ((y % 64 : Nat) : Int) := wrap_u8 (by omega) (by omega)
      obtain ⟨u', g', e1, e2, e3, e4, e5, _⟩ := app_ok (bytes := 1) (xs := [.int .u8 ((y % 64 : Nat) : Int)]) hu (by simp) (by rw [bytesOf_len]; simp; omega)
      have hx1 : x / 64 ^ (j + 1) = y / 64 := by rw [Nat.pow_succ, ← Nat.div_div_eq_div_mul, hy]
      rw [hx1] at hu hul e2
      rcases he with rfl | rfl <;> simp (maxSteps := 2000000) (discharger := omega) only [xc, xo, xr, x0, x1, x2, x3, x4, x5, x6, xd, xe, xb, kont_call, kont_pure, isNil, slOk, sliceV, selems, srcElems, copyTo, dlen, eqAV, eqCells, eqS, upd, wr, place, partVals, partEs, placeEs, mapOf, keyOk, keyCells, findK, Bool.bne_false, Bool.bne_true, List.drop_zero, List.nil_append, List.append_nil, List.take_zero, List.cons_append, List.take_succ_cons, List.drop_succ_cons, List.take_nil, List.drop_nil, Reg.isA, Reg.isV, Reg.stays, Reg.onto, Bool.false_or, Bool.or_false, Bool.false_and, Bool.and_false, Bool.true_and, Bool.and_true, Bool.or_true, Bool.true_or, ↓reduceIte, reduceCtorEq, Nat.reduceEqDiff, Nat.reduceLT, Nat.reduceAdd, Nat.reduceMul, Nat.add_zero, Nat.zero_add, Nat.not_lt_zero, Nat.zero_ne_one, Nat.one_ne_zero, Nat.reduceLeDiff, Nat.lt_irrefl, Nat.zero_lt_succ, Bool.false_eq_true, Bool.not_true, Bool.not_false, Option.map_some, Option.map_none, Option.bind_some, Option.getD_some, Option.getD_none, and_self, and_true, true_and, List.length_cons, List.length_nil, List.any_nil, List.any_cons, Int.toNat_natCast, Int.cast_ofNat_Int, Int.natCast_zero, Int.natCast_nonneg, true_implies, or_true, true_or, false_or, or_false, beq_self_eq_true, Option.some.injEq, exists_eq_left', Int.reduceEq, Int.reduceLT, Int.reduceLE, Int.reduceGT, Int.reduceGE, Nat.reduceGT, Int.reduceNeg, Int.reduceToNat, Int.reduceAdd, Int.reduceMul, Int.reduceSub, Int.reducePow, decide_true, decide_false, decide_eq_true_eq, List.getElem?_cons_zero, List.getElem?_cons_succ, Nat.reduceBEq, Nat.reduceSub, exists_false, and_false, false_and, wrap_i64, hs, hz0, hzp, ha, hb, List.replicate_one, List.set_cons_zero, Nat.zero_lt_one, hu2, e1] <;>
      refine ⟨j - 1, by omega, j - 1, _, u', _, rfl, .inl rfl, by omega, rfl, by omega, ?_, ?_, fun i o h1 h2 => e3 i o (hk i o h1 h2) h2, by omega⟩
      all_goals rw [show j - 1 + 1 = j by omega, hy, hi_pos hpos]
      all_goals first | (rw [← List.append_assoc, bytesOf_app, bytesOf_one _ (by omega)]; exact e2) | (simp; omega)
    · obtain rfl : j = 0 := by omega
      have hzp : ¬ z > 0 := by omega
      simp only [Nat.zero_add, Nat.pow_one] at hu hul
      have ha := and63 x hx
      have hb : IntKind.u8.wrap ((x % 64 : Nat) : Int) = ((x % 64 : Nat) : Int) := wrap_u8 (by omega) (by omega)
      have hb2 : IntKind.u8.wrap ((m : Int) + ((x % 64 : Nat) : Int)) = ((m + x % 64 : Nat) : Int) := by rw [wrap_u8 (by omega) (by omega)]; rfl
      obtain ⟨u', g', e1, e2, e3, e4, e5, _⟩ := app_ok (bytes := 1) (xs := [.int .u8 ((m + x % 64 : Nat) : Int)]) hu (by simp) (by rw [bytesOf_len]; simp; omega)
      rcases he with rfl | rfl <;> simp (maxSteps := 2000000) (discharger := omega) only [xc, xo, xr, x0, x1, x2, x3, x4, x5, x6, xd, xe, xb, kont_call, kont_pure, isNil, slOk, sliceV, selems, srcElems, copyTo, dlen, eqAV, eqCells, eqS, upd, wr, place, partVals, partEs, placeEs, mapOf, keyOk, keyCells, findK, Bool.bne_false, Bool.bne_true, List.drop_zero, List.nil_append, List.append_nil, List.take_zero, List.cons_append, List.take_succ_cons, List.drop_succ_cons, List.take_nil, List.drop_nil, Reg.isA, Reg.isV, Reg.stays, Reg.onto, Bool.false_or, Bool.or_false, Bool.false_and, Bool.and_false, Bool.true_and, Bool.and_true, Bool.or_true, Bool.true_or, ↓reduceIte, reduceCtorEq, Nat.reduceEqDiff, Nat.reduceLT, Nat.reduceAdd, Nat.reduceMul, Nat.add_zero, Nat.zero_add, Nat.not_lt_zero, Nat.zero_ne_one, Nat.one_ne_zero, Nat.reduceLeDiff, Nat.lt_irrefl, Nat.zero_lt_succ, Bool.false_eq_true, Bool.not_true, Bool.not_false, Option.map_some, Option.map_none, Option.bind_some, Option.getD_some, Option.getD_none, and_self, and_true, true_and, List.length_cons, List.length_nil, List.any_nil, List.any_cons, Int.toNat_natCast, Int.cast_ofNat_Int, Int.natCast_zero, Int.natCast_nonneg, true_implies, or_true, true_or, false_or, or_false, beq_self_eq_true, Option.some.injEq, exists_eq_left', Int.reduceEq, Int.reduceLT, Int.reduceLE, Int.reduceGT, Int.reduceGE, Nat.reduceGT, Int.reduceNeg, Int.reduceToNat, Int.reduceAdd, Int.reduceMul, Int.reduceSub, Int.reducePow, decide_true, decide_false, decide_eq_true_eq, List.getElem?_cons_zero, List.getElem?_cons_succ, Nat.reduceBEq, Nat.reduceSub, exists_false, and_false, false_and, wrap_i64, hs, hz0, hzp, ha, hb, hb2, List.replicate_one, List.set_cons_zero, Nat.zero_lt_one, hu2, e1] <;>
      refine ⟨?_, fun i o h1 h2 => e3 i o (hk i o h1 h2) h2, by omega⟩
      all_goals
        rw [enc, ← List.append_assoc, bytesOf_app, bytesOf_one _ (by omega)]
        simpa using e2

end Go.Proofs.Ytlognommhffmcaa.Im

/- S13Wr: the writer's methods. -/
set_option linter.unusedVariables false
set_option linter.unusedSimpArgs false
open Go Go.Im
namespace Go.Proofs.Ytlognommhffmcaa.Im

theorem isApp_setS {sz : Nat} {es : List AV} {h : Hp} {v : AV} {id : Nat} {o o' : AO} (hv : IsApp sz es h v) (hid : h[id]? = some o) (hs : o.solid = true) : IsApp sz es (h.set id o') v := by
  rcases hv with h1 | h1 | ⟨j, h1, h2⟩
  · exact .inl h1
  · exact .inr (.inl h1)
  · refine .inr (.inr ⟨j, h1, ?_⟩)
    rw [List.getElem?_set]
    split
    · rename_i e; subst e; rw [hid] at h2; cases h2; cases hs
    · exact h2

/-- All but the entry id stays. -/
def keepsBut (id : Nat) (h h' : Hp) : Prop := ∀ (j : Nat) o, j ≠ id → h[j]? = some o → o.solid = true → h'[j]? = some o

/-- A writer that has gathered bytes. -/
def WR (id : Nat) (bs : List UInt8) (h : Hp) : Prop := ∃ v, h[id]? = some (.row 1 [.agg [v]]) ∧ IsApp 1 (bytesOf bs) h v

theorem WR.lt {id : Nat} {bs : List UInt8} {h : Hp} (w : WR id bs h) : id < h.length := by
  obtain ⟨v, h1, _⟩ := w
  exact (List.getElem?_eq_some_iff.1 h1).1

theorem WR.upd {id : Nat} {bs cs : List UInt8} {h h' : Hp} {v : AV} (w : WR id bs h) (hk : keeps h h') (hv : IsApp 1 (bytesOf cs) h' v) (hl : h.length ≤ h'.length) :
    WR id cs (h'.set id (.row 1 [.agg [v]])) ∧ keepsBut id h (h'.set id (.row 1 [.agg [v]])) ∧ h.length ≤ (h'.set id (.row 1 [.agg [v]])).length := by
  obtain ⟨u, h1, _⟩ := w
  have h2 := hk id _ h1 rfl
  have h3 := (List.getElem?_eq_some_iff.1 h2).1
  refine ⟨⟨v, by simp [h3], isApp_setS hv h2 rfl⟩, fun j o hj ho hs => ?_, by simpa using hl⟩
  rw [List.getElem?_set_ne (Ne.symm hj)]
  exact hk j o ho hs

theorem c21 {tot : Bool} {ω : Nat → Nat} {n : Nat} (h : Hp) (hn : 0 < n) : call F n tot ω 21 [] h = some (.ptr h.length 1 0 0, h ++ [.row 1 [.agg [.nils]]]) := by
  obtain ⟨n, rfl⟩ : ∃ m, n = m + 1 := ⟨n - 1, by omega⟩
  refine call_eq (fn := a21) f21 ?_
  unfold a21
  simp (maxSteps := 2000000) (discharger := omega) only [xc, xo, xr, x0, x1, x2, x3, x4, x5, x6, xd, xe, xb, kont_call, kont_pure, isNil, slOk, sliceV, selems, srcElems, copyTo, dlen, eqAV, eqCells, eqS, upd, wr, place, partVals, partEs, placeEs, mapOf, keyOk, keyCells, findK, Bool.bne_false, Bool.bne_true, List.drop_zero, List.nil_append, List.append_nil, List.take_zero, List.cons_append, List.take_succ_cons, List.drop_succ_cons, List.take_nil, List.drop_nil, Reg.isA, Reg.isV, Reg.stays, Reg.onto, Bool.false_or, Bool.or_false, Bool.false_and, Bool.and_false, Bool.true_and, Bool.and_true, Bool.or_true, Bool.true_or, ↓reduceIte, reduceCtorEq, Nat.reduceEqDiff, Nat.reduceLT, Nat.reduceAdd, Nat.reduceMul, Nat.add_zero, Nat.zero_add, Nat.not_lt_zero, Nat.zero_ne_one, Nat.one_ne_zero, Nat.reduceLeDiff, Nat.lt_irrefl, Nat.zero_lt_succ, Bool.false_eq_true, Bool.not_true, Bool.not_false, Option.map_some, Option.map_none, Option.bind_some, Option.getD_some, Option.getD_none, and_self, and_true, true_and, List.length_cons, List.length_nil, List.any_nil, List.any_cons, Int.toNat_natCast, Int.cast_ofNat_Int, Int.natCast_zero, Int.natCast_nonneg, true_implies, or_true, true_or, false_or, or_false, beq_self_eq_true, Option.some.injEq, exists_eq_left', Int.reduceEq, Int.reduceLT, Int.reduceLE, Int.reduceGT, Int.reduceGE, Nat.reduceGT, Int.reduceNeg, Int.reduceToNat, Int.reduceAdd, Int.reduceMul, Int.reduceSub, Int.reducePow, decide_true, decide_false, decide_eq_true_eq, List.getElem?_cons_zero, List.getElem?_cons_succ, Nat.reduceBEq, Nat.reduceSub, exists_false, and_false, false_and, wrap_i64]

theorem WR.new (h : Hp) : WR h.length [] (h ++ [.row 1 [.agg [.nils]]]) := ⟨.nils, by simp, IsApp.nils _ _⟩

def encW (n : Int) : List UInt8 := if n < 0 then enc (-(n + 1)).toNat 128 else enc n.toNat 64
def encT (s : List UInt8) : List UInt8 := enc s.length 64 ++ s

theorem bytesOf_ne {bs cs : List UInt8} (h : cs ≠ []) : bytesOf (bs ++ cs) ≠ [] := by
  intro e
  have := congrArg List.length e
  rw [bytesOf_len] at this
  cases cs with
  | nil => exact h rfl
  | cons a l => simp at this
theorem enc_ne (x m : Nat) : enc x m ≠ [] := by unfold enc; simp
theorem encW_ne (x : Int) : encW x ≠ [] := by unfold encW; split <;> exact enc_ne _ _

theorem c24 {tot : Bool} {ω : Nat → Nat} {n : Nat} (id : Nat) (bs : List UInt8) (x : Int) (h : Hp) (hw : WR id bs h) (hl : bs.length ≤ 10000000000000) (hx : -9223372036854775808 ≤ x) (hx2 : x ≤ 9223372036854775807) (hn : 13 < n) :
    ∃ h', call F n tot ω 24 [.ptr id 1 0 0, .int .i64 x] h = some (.int .i64 0, h') ∧ WR id (bs ++ encW x) h' ∧ keepsBut id h h' ∧ h.length ≤ h'.length := by
  obtain ⟨n, rfl⟩ : ∃ m, n = m + 1 := ⟨n - 1, by omega⟩
  suffices hh : ∃ v' h', call F (n + 1) tot ω 24 [.ptr id 1 0 0, .int .i64 x] h = some (v', h') ∧ v' = .int .i64 0 ∧ WR id (bs ++ encW x) h' ∧ keepsBut id h h' ∧ h.length ≤ h'.length by
    obtain ⟨v', h', e1, rfl, e2⟩ := hh
    exact ⟨h', e1, e2⟩
  refine call_of (fn := a24) f24 (P := fun v' h' => v' = .int .i64 0 ∧ WR id (bs ++ encW x) h' ∧ keepsBut id h h' ∧ h.length ≤ h'.length) ?_
  unfold a24
  have hw2 := hw
  obtain ⟨v, hid, hv⟩ := hw2
  by_cases hneg : x < 0
  · have he : encW x = enc (-(x + 1)).toNat 128 := if_pos hneg
    obtain ⟨v', h2, e1, e2, e3, e4⟩ := c45 (tot := tot) (ω := ω) (n := n) v bs (-(x + 1)).toNat 128 h hv hl (by omega) (by omega) (by omega)
    rw [Int.toNat_of_nonneg (by omega), show ((128 : Nat) : Int) = 128 from rfl] at e1
    have hid2 := e3 _ _ hid rfl
    rw [← he] at e2
    obtain ⟨c, rfl⟩ := e2.imm (bytesOf_ne (encW_ne x))
    have hr := hw.upd e3 e2 e4
    have hz : (0 : Int) - (x + 1) = -(x + 1) := by omega
    simp (maxSteps := 2000000) (discharger := omega) only [xc, xo, xr, x0, x1, x2, x3, x4, x5, x6, xd, xe, xb, kont_call, kont_pure, isNil, slOk, sliceV, selems, srcElems, copyTo, dlen, eqAV, eqCells, eqS, upd, wr, place, partVals, partEs, placeEs, mapOf, keyOk, keyCells, findK, Bool.bne_false, Bool.bne_true, List.drop_zero, List.nil_append, List.append_nil, List.take_zero, List.cons_append, List.take_succ_cons, List.drop_succ_cons, List.take_nil, List.drop_nil, Reg.isA, Reg.isV, Reg.stays, Reg.onto, Bool.false_or, Bool.or_false, Bool.false_and, Bool.and_false, Bool.true_and, Bool.and_true, Bool.or_true, Bool.true_or, ↓reduceIte, reduceCtorEq, Nat.reduceEqDiff, Nat.reduceLT, Nat.reduceAdd, Nat.reduceMul, Nat.add_zero, Nat.zero_add, Nat.not_lt_zero, Nat.zero_ne_one, Nat.one_ne_zero, Nat.reduceLeDiff, Nat.lt_irrefl, Nat.zero_lt_succ, Bool.false_eq_true, Bool.not_true, Bool.not_false, Option.map_some, Option.map_none, Option.bind_some, Option.getD_some, Option.getD_none, and_self, and_true, true_and, List.length_cons, List.length_nil, List.any_nil, List.any_cons, Int.toNat_natCast, Int.cast_ofNat_Int, Int.natCast_zero, Int.natCast_nonneg, true_implies, or_true, true_or, false_or, or_false, beq_self_eq_true, Option.some.injEq, exists_eq_left', Int.reduceEq, Int.reduceLT, Int.reduceLE, Int.reduceGT, Int.reduceGE, Nat.reduceGT, Int.reduceNeg, Int.reduceToNat, Int.reduceAdd, Int.reduceMul, Int.reduceSub, Int.reducePow, decide_true, decide_false, decide_eq_true_eq, List.getElem?_cons_zero, List.getElem?_cons_succ, Nat.reduceBEq, Nat.reduceSub, exists_false, and_false, false_and, wrap_i64, hneg, hid, wrap_u64, hz, e1, hid2, List.set_cons_zero, hr]
  · have he : encW x = enc x.toNat 64 := if_neg hneg
    obtain ⟨v', h2, e1, e2, e3, e4⟩ := c45 (tot := tot) (ω := ω) (n := n) v bs x.toNat 64 h hv hl (by omega) (by omega) (by omega)
    rw [Int.toNat_of_nonneg (by omega), show ((64 : Nat) : Int) = 64 from rfl] at e1
    have hid2 := e3 _ _ hid rfl
    rw [← he] at e2
    obtain ⟨c, rfl⟩ := e2.imm (bytesOf_ne (encW_ne x))
    have hr := hw.upd e3 e2 e4
    simp (maxSteps := 2000000) (discharger := omega) only [xc, xo, xr, x0, x1, x2, x3, x4, x5, x6, xd, xe, xb, kont_call, kont_pure, isNil, slOk, sliceV, selems, srcElems, copyTo, dlen, eqAV, eqCells, eqS, upd, wr, place, partVals, partEs, placeEs, mapOf, keyOk, keyCells, findK, Bool.bne_false, Bool.bne_true, List.drop_zero, List.nil_append, List.append_nil, List.take_zero, List.cons_append, List.take_succ_cons, List.drop_succ_cons, List.take_nil, List.drop_nil, Reg.isA, Reg.isV, Reg.stays, Reg.onto, Bool.false_or, Bool.or_false, Bool.false_and, Bool.and_false, Bool.true_and, Bool.and_true, Bool.or_true, Bool.true_or, ↓reduceIte, reduceCtorEq, Nat.reduceEqDiff, Nat.reduceLT, Nat.reduceAdd, Nat.reduceMul, Nat.add_zero, Nat.zero_add, Nat.not_lt_zero, Nat.zero_ne_one, Nat.one_ne_zero, Nat.reduceLeDiff, Nat.lt_irrefl, Nat.zero_lt_succ, Bool.false_eq_true, Bool.not_true, Bool.not_false, Option.map_some, Option.map_none, Option.bind_some, Option.getD_some, Option.getD_none, and_self, and_true, true_and, List.length_cons, List.length_nil, List.any_nil, List.any_cons, Int.toNat_natCast, Int.cast_ofNat_Int, Int.natCast_zero, Int.natCast_nonneg, true_implies, or_true, true_or, false_or, or_false, beq_self_eq_true, Option.some.injEq, exists_eq_left', Int.reduceEq, Int.reduceLT, Int.reduceLE, Int.reduceGT, Int.reduceGE, Nat.reduceGT, Int.reduceNeg, Int.reduceToNat, Int.reduceAdd, Int.reduceMul, Int.reduceSub, Int.reducePow, decide_true, decide_false, decide_eq_true_eq, List.getElem?_cons_zero, List.getElem?_cons_succ, Nat.reduceBEq, Nat.reduceSub, exists_false, and_false, false_and, wrap_i64, hneg, hid, wrap_u64, e1, hid2, List.set_cons_zero, hr]

theorem c44 {tot : Bool} {ω : Nat → Nat} {n : Nat} (id : Nat) (bs : List UInt8) (x : Nat) (h : Hp) (hw : WR id bs h) (hl : bs.length ≤ 10000000000000) (hx2 : x ≤ 9223372036854775807) (hn : 13 < n) :
    ∃ h', call F n tot ω 44 [.ptr id 1 0 0, .int .i64 x] h = some (.int .i64 0, h') ∧ WR id (bs ++ enc x 64) h' ∧ keepsBut id h h' ∧ h.length ≤ h'.length := by
  obtain ⟨n, rfl⟩ : ∃ m, n = m + 1 := ⟨n - 1, by omega⟩
  suffices hh : ∃ v' h', call F (n + 1) tot ω 44 [.ptr id 1 0 0, .int .i64 x] h = some (v', h') ∧ v' = .int .i64 0 ∧ WR id (bs ++ enc x 64) h' ∧ keepsBut id h h' ∧ h.length ≤ h'.length by
    obtain ⟨v', h', e1, rfl, e2⟩ := hh
    exact ⟨h', e1, e2⟩
  refine call_of (fn := a44) f44 (P := fun v' h' => v' = .int .i64 0 ∧ WR id (bs ++ enc x 64) h' ∧ keepsBut id h h' ∧ h.length ≤ h'.length) ?_
  unfold a44
  have hw2 := hw
  obtain ⟨v, hid, hv⟩ := hw2
  obtain ⟨v', h2, e1, e2, e3, e4⟩ := c45 (tot := tot) (ω := ω) (n := n) v bs x 64 h hv hl (by omega) (by omega) (by omega)
  rw [show ((64 : Nat) : Int) = 64 from rfl] at e1
  have hid2 := e3 _ _ hid rfl
  obtain ⟨c, rfl⟩ := e2.imm (bytesOf_ne (enc_ne x 64))
  have hr := hw.upd e3 e2 e4
  have hneg : ¬ ((x : Nat) : Int) < 0 := by omega
  simp (maxSteps := 2000000) (discharger := omega) only [xc, xo, xr, x0, x1, x2, x3, x4, x5, x6, xd, xe, xb, kont_call, kont_pure, isNil, slOk, sliceV, selems, srcElems, copyTo, dlen, eqAV, eqCells, eqS, upd, wr, place, partVals, partEs, placeEs, mapOf, keyOk, keyCells, findK, Bool.bne_false, Bool.bne_true, List.drop_zero, List.nil_append, List.append_nil, List.take_zero, List.cons_append, List.take_succ_cons, List.drop_succ_cons, List.take_nil, List.drop_nil, Reg.isA, Reg.isV, Reg.stays, Reg.onto, Bool.false_or, Bool.or_false, Bool.false_and, Bool.and_false, Bool.true_and, Bool.and_true, Bool.or_true, Bool.true_or, ↓reduceIte, reduceCtorEq, Nat.reduceEqDiff, Nat.reduceLT, Nat.reduceAdd, Nat.reduceMul, Nat.add_zero, Nat.zero_add, Nat.not_lt_zero, Nat.zero_ne_one, Nat.one_ne_zero, Nat.reduceLeDiff, Nat.lt_irrefl, Nat.zero_lt_succ, Bool.false_eq_true, Bool.not_true, Bool.not_false, Option.map_some, Option.map_none, Option.bind_some, Option.getD_some, Option.getD_none, and_self, and_true, true_and, List.length_cons, List.length_nil, List.any_nil, List.any_cons, Int.toNat_natCast, Int.cast_ofNat_Int, Int.natCast_zero, Int.natCast_nonneg, true_implies, or_true, true_or, false_or, or_false, beq_self_eq_true, Option.some.injEq, exists_eq_left', Int.reduceEq, Int.reduceLT, Int.reduceLE, Int.reduceGT, Int.reduceGE, Nat.reduceGT, Int.reduceNeg, Int.reduceToNat, Int.reduceAdd, Int.reduceMul, Int.reduceSub, Int.reducePow, decide_true, decide_false, decide_eq_true_eq, List.getElem?_cons_zero, List.getElem?_cons_succ, Nat.reduceBEq, Nat.reduceSub, exists_false, and_false, false_and, wrap_i64, hneg, hid, wrap_u64, e1, hid2, List.set_cons_zero, hr]

theorem keeps_trans {a b c : Hp} (h1 : keeps a b) (h2 : keeps b c) : keeps a c := fun i o ho hs => h2 i o (h1 i o ho hs) hs

theorem app_any {sz bytes : Nat} {es xs : List AV} {h : Hp} {v : AV} (hv : IsApp sz es h v) (hb : (es.length + xs.length) * bytes ≤ 140737488355328) :
    ∃ v' h', appendV false sz bytes v xs h = some (v', h') ∧ IsApp sz (es ++ xs) h' v' ∧ keeps h h' ∧ h.length ≤ h'.length := by
  by_cases hx : xs = []
  · subst hx
    exact ⟨v, h, app_nil hv, by rw [List.append_nil]; exact hv, fun _ _ h _ => h, Nat.le_refl _⟩
  · obtain ⟨v', h', a, b, c, d, _⟩ := app_ok hv hx hb
    exact ⟨v', h', a, b, c, d⟩

theorem hi_len : ∀ (k y : Nat), y < 64 ^ k → (hi y).length ≤ k
  | 0, y, h => by
    obtain rfl : y = 0 := by simp at h; exact h
    rw [hi_zero]; simp
  | k + 1, y, h => by
    by_cases hy : 0 < y
    · have := hi_len k (y / 64) (by rw [Nat.pow_succ] at h; omega)
      rw [hi_pos hy]; simp; omega
    · obtain rfl : y = 0 := by omega
      rw [hi_zero]; simp

theorem enc_len (x m : Nat) (hx : x ≤ 18446744073709551615) : (enc x m).length ≤ 11 := by
  have := hi_len 10 (x / 64) (by
    have : (64 : Nat) ^ 10 = 1152921504606846976 := by decide
    omega)
  unfold enc; simp; omega

theorem c25 {tot : Bool} {ω : Nat → Nat} {n : Nat} (id : Nat) (bs s : List UInt8) (h : Hp) (hw : WR id bs h) (hl : bs.length ≤ 10000000000000) (hs : s.length ≤ 10000000000000) (hn : 13 < n) :
    ∃ h', call F n tot ω 25 [.ptr id 1 0 0, .str s] h = some (.int .i64 0, h') ∧ WR id (bs ++ encT s) h' ∧ keepsBut id h h' ∧ h.length ≤ h'.length := by
  obtain ⟨n, rfl⟩ : ∃ m, n = m + 1 := ⟨n - 1, by omega⟩
  suffices hh : ∃ v' h', call F (n + 1) tot ω 25 [.ptr id 1 0 0, .str s] h = some (v', h') ∧ v' = .int .i64 0 ∧ WR id (bs ++ encT s) h' ∧ keepsBut id h h' ∧ h.length ≤ h'.length by
    obtain ⟨v', h', e1, rfl, e2⟩ := hh
    exact ⟨h', e1, e2⟩
  refine call_of (fn := a25) f25 (P := fun v' h' => v' = .int .i64 0 ∧ WR id (bs ++ encT s) h' ∧ keepsBut id h h' ∧ h.length ≤ h'.length) ?_
  unfold a25
  have hw2 := hw
  obtain ⟨v, hid, hv⟩ := hw2
  obtain ⟨v', h2, e1, e2, e3, e4⟩ := c45 (tot := tot) (ω := ω) (n := n) v bs s.length 64 h hv hl (by omega) (by omega) (by omega)
  rw [show ((64 : Nat) : Int) = 64 from rfl] at e1
  have hid2 := e3 _ _ hid rfl
  have hr0 := e2.isRow
  have hle := enc_len s.length 64 (by omega)
  obtain ⟨v3, h3, g1, g2, g3, g4⟩ := app_any (bytes := 1) (xs := bytesOf s) e2 (by rw [bytesOf_len, bytesOf_len]; simp; omega)
  rw [← bytesOf_app, List.append_assoc] at g2
  obtain ⟨c, rfl⟩ := g2.imm (bytesOf_ne (by simp [enc_ne]))
  have hr := hw.upd (cs := bs ++ encT s) (keeps_trans e3 g3) g2 (by omega)
  have hid3 := g3 _ _ hid2 rfl
  simp (maxSteps := 2000000) (discharger := omega) only [xc, xo, xr, x0, x1, x2, x3, x4, x5, x6, xd, xe, xb, kont_call, kont_pure, isNil, slOk, sliceV, selems, srcElems, copyTo, dlen, eqAV, eqCells, eqS, upd, wr, place, partVals, partEs, placeEs, mapOf, keyOk, keyCells, findK, Bool.bne_false, Bool.bne_true, List.drop_zero, List.nil_append, List.append_nil, List.take_zero, List.cons_append, List.take_succ_cons, List.drop_succ_cons, List.take_nil, List.drop_nil, Reg.isA, Reg.isV, Reg.stays, Reg.onto, Bool.false_or, Bool.or_false, Bool.false_and, Bool.and_false, Bool.true_and, Bool.and_true, Bool.or_true, Bool.true_or, ↓reduceIte, reduceCtorEq, Nat.reduceEqDiff, Nat.reduceLT, Nat.reduceAdd, Nat.reduceMul, Nat.add_zero, Nat.zero_add, Nat.not_lt_zero, Nat.zero_ne_one, Nat.one_ne_zero, Nat.reduceLeDiff, Nat.lt_irrefl, Nat.zero_lt_succ, Bool.false_eq_true, Bool.not_true, Bool.not_false, Option.map_some, Option.map_none, Option.bind_some, Option.getD_some, Option.getD_none, and_self, and_true, true_and, List.length_cons, List.length_nil, List.any_nil, List.any_cons, Int.toNat_natCast, Int.cast_ofNat_Int, Int.natCast_zero, Int.natCast_nonneg, true_implies, or_true, true_or, false_or, or_false, beq_self_eq_true, Option.some.injEq, exists_eq_left', Int.reduceEq, Int.reduceLT, Int.reduceLE, Int.reduceGT, Int.reduceGE, Nat.reduceGT, Int.reduceNeg, Int.reduceToNat, Int.reduceAdd, Int.reduceMul, Int.reduceSub, Int.reducePow, decide_true, decide_false, decide_eq_true_eq, List.getElem?_cons_zero, List.getElem?_cons_succ, Nat.reduceBEq, Nat.reduceSub, exists_false, and_false, false_and, wrap_i64, hid, wrap_u64, e1, hid2, List.set_cons_zero, hr, hr0, g1, hid3]

theorem toBytes_bytesOf : ∀ bs : List UInt8, toBytes (bytesOf bs) = some bs
  | [] => rfl
  | b :: bs => by
    have := toBytes_bytesOf bs
    simp only [bytesOf, List.map_cons, toBytes] at this ⊢
    rw [this]
    simp

theorem isApp_elems {bs : List UInt8} {h : Hp} {v : AV} (hv : IsApp 1 (bytesOf bs) h v) (g : Hp) : elems g 1 v = some (bytesOf bs) := by
  rcases hv with ⟨rfl, h0⟩ | rfl | ⟨id, rfl, _⟩
  · rw [h0]; rfl
  · simp [elems]
  · simp [elems]

theorem c26 {tot : Bool} {ω : Nat → Nat} {n : Nat} (id : Nat) (bs : List UInt8) (h : Hp) (hw : WR id bs h) (hn : 1 < n) : call F n tot ω 26 [.ptr id 1 0 0] h = some (.str bs, h) := by
  obtain ⟨n, rfl⟩ : ∃ m, n = m + 1 := ⟨n - 1, by omega⟩
  refine call_eq (fn := a26) f26 ?_
  unfold a26
  obtain ⟨v, hid, hv⟩ := hw
  have he := isApp_elems hv h
  simp (maxSteps := 2000000) (discharger := omega) only [xc, xo, xr, x0, x1, x2, x3, x4, x5, x6, xd, xe, xb, kont_call, kont_pure, isNil, slOk, sliceV, selems, srcElems, copyTo, dlen, eqAV, eqCells, eqS, upd, wr, place, partVals, partEs, placeEs, mapOf, keyOk, keyCells, findK, Bool.bne_false, Bool.bne_true, List.drop_zero, List.nil_append, List.append_nil, List.take_zero, List.cons_append, List.take_succ_cons, List.drop_succ_cons, List.take_nil, List.drop_nil, Reg.isA, Reg.isV, Reg.stays, Reg.onto, Bool.false_or, Bool.or_false, Bool.false_and, Bool.and_false, Bool.true_and, Bool.and_true, Bool.or_true, Bool.true_or, ↓reduceIte, reduceCtorEq, Nat.reduceEqDiff, Nat.reduceLT, Nat.reduceAdd, Nat.reduceMul, Nat.add_zero, Nat.zero_add, Nat.not_lt_zero, Nat.zero_ne_one, Nat.one_ne_zero, Nat.reduceLeDiff, Nat.lt_irrefl, Nat.zero_lt_succ, Bool.false_eq_true, Bool.not_true, Bool.not_false, Option.map_some, Option.map_none, Option.bind_some, Option.getD_some, Option.getD_none, and_self, and_true, true_and, List.length_cons, List.length_nil, List.any_nil, List.any_cons, Int.toNat_natCast, Int.cast_ofNat_Int, Int.natCast_zero, Int.natCast_nonneg, true_implies, or_true, true_or, false_or, or_false, beq_self_eq_true, Option.some.injEq, exists_eq_left', Int.reduceEq, Int.reduceLT, Int.reduceLE, Int.reduceGT, Int.reduceGE, Nat.reduceGT, Int.reduceNeg, Int.reduceToNat, Int.reduceAdd, Int.reduceMul, Int.reduceSub, Int.reducePow, decide_true, decide_false, decide_eq_true_eq, List.getElem?_cons_zero, List.getElem?_cons_succ, Nat.reduceBEq, Nat.reduceSub, exists_false, and_false, false_and, wrap_i64, hid, he, toBytes_bytesOf]

theorem c27 {tot : Bool} {ω : Nat → Nat} {n : Nat} (s : List UInt8) (h : Hp) (hn : 1 < n) : call F n tot ω 27 [.str s] h = some (.ptr h.length 1 0 0, h ++ [.row 1 [.agg [.str s]]]) := by
  obtain ⟨n, rfl⟩ : ∃ m, n = m + 1 := ⟨n - 1, by omega⟩
  refine call_eq (fn := a27) f27 ?_
  unfold a27
  simp (maxSteps := 2000000) (discharger := omega) only [xc, xo, xr, x0, x1, x2, x3, x4, x5, x6, xd, xe, xb, kont_call, kont_pure, isNil, slOk, sliceV, selems, srcElems, copyTo, dlen, eqAV, eqCells, eqS, upd, wr, place, partVals, partEs, placeEs, mapOf, keyOk, keyCells, findK, Bool.bne_false, Bool.bne_true, List.drop_zero, List.nil_append, List.append_nil, List.take_zero, List.cons_append, List.take_succ_cons, List.drop_succ_cons, List.take_nil, List.drop_nil, Reg.isA, Reg.isV, Reg.stays, Reg.onto, Bool.false_or, Bool.or_false, Bool.false_and, Bool.and_false, Bool.true_and, Bool.and_true, Bool.or_true, Bool.true_or, ↓reduceIte, reduceCtorEq, Nat.reduceEqDiff, Nat.reduceLT, Nat.reduceAdd, Nat.reduceMul, Nat.add_zero, Nat.zero_add, Nat.not_lt_zero, Nat.zero_ne_one, Nat.one_ne_zero, Nat.reduceLeDiff, Nat.lt_irrefl, Nat.zero_lt_succ, Bool.false_eq_true, Bool.not_true, Bool.not_false, Option.map_some, Option.map_none, Option.bind_some, Option.getD_some, Option.getD_none, and_self, and_true, true_and, List.length_cons, List.length_nil, List.any_nil, List.any_cons, Int.toNat_natCast, Int.cast_ofNat_Int, Int.natCast_zero, Int.natCast_nonneg, true_implies, or_true, true_or, false_or, or_false, beq_self_eq_true, Option.some.injEq, exists_eq_left', Int.reduceEq, Int.reduceLT, Int.reduceLE, Int.reduceGT, Int.reduceGE, Nat.reduceGT, Int.reduceNeg, Int.reduceToNat, Int.reduceAdd, Int.reduceMul, Int.reduceSub, Int.reducePow, decide_true, decide_false, decide_eq_true_eq, List.getElem?_cons_zero, List.getElem?_cons_succ, Nat.reduceBEq, Nat.reduceSub, exists_false, and_false, false_and, wrap_i64, List.set_cons_zero]

end Go.Proofs.Ytlognommhffmcaa.Im

/- Two sketches are alike in as many rows as have the same number: SketchAlike answers true for all pairs of sketches. No condition. -/
import Derived.Test.YtdjlcddkfjbebaaRows
import Derived.Test.YtdjlcddkfjbebaaTab
import Derived.Test.YtdjlcddkfjbebaaAwake
set_option linter.unusedVariables false
set_option linter.unusedSimpArgs false
open Go Go.Im
namespace Go.Proofs.Ytdjlcddkfjbebaa
open Go.Proofs.Ytdjlcddkfjbebaa.Im Go.ChangeShapes Go.WideShapes Go.ChangeAt Go.RowKit

/-- In how many of the first i places are they the same? -/
def al (a b : List Int) : Nat → Nat
  | 0 => 0
  | i + 1 => al a b i + if a.getD i 0 = b.getD i 0 then 1 else 0

theorem al_le (a b : List Int) : ∀ i, al a b i ≤ i
  | 0 => Nat.le_refl _
  | i + 1 => by have := al_le a b i; simp only [al]; split <;> omega

theorem c11 {tot : Bool} {ω : Nat → Nat} {n : Nat} (hn : 10 < n) (a b : List Int) (h : Hp) (ha : a.length = 8) (hb : b.length = 8) : call F n tot ω 11 [.agg (intsOf .u32 a), .agg (intsOf .u32 b)] h = some (.int .i64 (al a b 8), h) := by
  obtain ⟨n, rfl⟩ : ∃ m, n = m + 1 := ⟨n - 1, by omega⟩
  refine call_eq (fn := a11) rfl ?_
  unfold a11
  simp only [xc, xo, xr, x0, x1, x2, x3, x4, x5, x6, xd, xe, kont_call, kont_pure, isNil, slOk, sliceV, selems, elems, srcElems, appendV, newRow, copyTo, dlen, eqAV, eqCells, eqS, upd, wr, place, partVals, partEs, placeEs, mapOf, keyOk, keyCells, findK, AV.isRow, Bool.bne_false, Bool.bne_true, List.drop_zero, List.nil_append, List.append_nil, List.take_zero, Reg.isA, Reg.isV, Reg.stays, Reg.onto, Bool.false_or, Bool.or_false, Bool.false_and, Bool.and_false, Bool.true_and, Bool.and_true, Bool.or_true, Bool.true_or, ↓reduceIte, reduceCtorEq, Nat.reduceEqDiff, Nat.reduceLT, Nat.reduceAdd, Nat.reduceMul, Nat.add_zero, Nat.zero_add, Nat.not_lt_zero, Nat.zero_ne_one, Nat.one_ne_zero, Nat.reduceLeDiff, Nat.lt_irrefl, Nat.zero_lt_succ, Bool.false_eq_true, Bool.not_true, Bool.not_false, Option.map_some, Option.map_none, Option.bind_some, and_self, and_true, true_and, List.length_cons, List.length_nil, List.any_nil, List.any_cons, Int.toNat_natCast, Int.cast_ofNat_Int, Int.natCast_zero, Int.natCast_nonneg, true_implies, or_true, true_or, false_or, or_false, beq_self_eq_true, Option.some.injEq, exists_eq_left', Int.reduceEq, Int.reduceLT, Int.reduceLE, Int.reduceNeg, Int.reduceToNat, Int.reduceAdd, Int.reduceMul, Int.reduceSub, Int.reducePow, decide_true, decide_false, decide_eq_true_eq, List.getElem?_cons_zero, List.getElem?_cons_succ, Nat.reduceBEq, Nat.reduceSub, exists_false, and_false, false_and, ha, hb]
  refine wpi_loop (fun k r h' => ∃ i : Nat, r = [(2, .var (.agg (intsOf .u32 a))), (3, .var (.agg (intsOf .u32 b))), (5, .val (.int .i64 (al a b i))), (7, .val (.int .i64 i))] ∧ i ≤ 8 ∧ k = 8 - i ∧ h' = h) 8 (by omega) ⟨0, rfl, by omega, by omega, rfl⟩ ?_
  rintro k r h' ⟨i, rfl, hi, rfl, rfl⟩
  have hal := al_le a b i
  by_cases hlt : i < 8
  · have e1 := intsOf_get (k := .u32) (l := a) (i := i) (by omega)
    have e2 := intsOf_get (k := .u32) (l := b) (i := i) (by omega)
    have hlt' : ((i : Nat) : Int) < 8 := by omega
    have g1 : a.getD i 0 = a[i]'(by omega) := by simp [List.getD, show i < a.length by omega]
    have g2 : b.getD i 0 = b[i]'(by omega) := by simp [List.getD, show i < b.length by omega]
    by_cases he : a[i]'(by omega) = b[i]'(by omega)
    · simp (discharger := omega) only [xc, xo, xr, x0, x1, x2, x3, x4, x5, x6, xd, xe, kont_call, kont_pure, isNil, slOk, sliceV, selems, elems, srcElems, appendV, newRow, copyTo, dlen, eqAV, eqCells, eqS, upd, wr, place, partVals, partEs, placeEs, mapOf, keyOk, keyCells, findK, AV.isRow, Bool.bne_false, Bool.bne_true, List.drop_zero, List.nil_append, List.append_nil, List.take_zero, Reg.isA, Reg.isV, Reg.stays, Reg.onto, Bool.false_or, Bool.or_false, Bool.false_and, Bool.and_false, Bool.true_and, Bool.and_true, Bool.or_true, Bool.true_or, ↓reduceIte, reduceCtorEq, Nat.reduceEqDiff, Nat.reduceLT, Nat.reduceAdd, Nat.reduceMul, Nat.add_zero, Nat.zero_add, Nat.not_lt_zero, Nat.zero_ne_one, Nat.one_ne_zero, Nat.reduceLeDiff, Nat.lt_irrefl, Nat.zero_lt_succ, Bool.false_eq_true, Bool.not_true, Bool.not_false, Option.map_some, Option.map_none, Option.bind_some, and_self, and_true, true_and, List.length_cons, List.length_nil, List.any_nil, List.any_cons, Int.toNat_natCast, Int.cast_ofNat_Int, Int.natCast_zero, Int.natCast_nonneg, true_implies, or_true, true_or, false_or, or_false, beq_self_eq_true, Option.some.injEq, exists_eq_left', Int.reduceEq, Int.reduceLT, Int.reduceLE, Int.reduceNeg, Int.reduceToNat, Int.reduceAdd, Int.reduceMul, Int.reduceSub, Int.reducePow, decide_true, decide_false, decide_eq_true_eq, List.getElem?_cons_zero, List.getElem?_cons_succ, Nat.reduceBEq, Nat.reduceSub, exists_false, and_false, false_and, wrap_i64, e1, e2, hlt', he, Nat.mul_one]
      exact ⟨8 - (i + 1), by omega, i + 1, by simp only [al, g1, g2, he, if_true]; rfl, by omega, rfl⟩
    · have he' : (a[i]'(by omega) == b[i]'(by omega)) = false := by simpa using he
      simp (discharger := omega) only [xc, xo, xr, x0, x1, x2, x3, x4, x5, x6, xd, xe, kont_call, kont_pure, isNil, slOk, sliceV, selems, elems, srcElems, appendV, newRow, copyTo, dlen, eqAV, eqCells, eqS, upd, wr, place, partVals, partEs, placeEs, mapOf, keyOk, keyCells, findK, AV.isRow, Bool.bne_false, Bool.bne_true, List.drop_zero, List.nil_append, List.append_nil, List.take_zero, Reg.isA, Reg.isV, Reg.stays, Reg.onto, Bool.false_or, Bool.or_false, Bool.false_and, Bool.and_false, Bool.true_and, Bool.and_true, Bool.or_true, Bool.true_or, ↓reduceIte, reduceCtorEq, Nat.reduceEqDiff, Nat.reduceLT, Nat.reduceAdd, Nat.reduceMul, Nat.add_zero, Nat.zero_add, Nat.not_lt_zero, Nat.zero_ne_one, Nat.one_ne_zero, Nat.reduceLeDiff, Nat.lt_irrefl, Nat.zero_lt_succ, Bool.false_eq_true, Bool.not_true, Bool.not_false, Option.map_some, Option.map_none, Option.bind_some, and_self, and_true, true_and, List.length_cons, List.length_nil, List.any_nil, List.any_cons, Int.toNat_natCast, Int.cast_ofNat_Int, Int.natCast_zero, Int.natCast_nonneg, true_implies, or_true, true_or, false_or, or_false, beq_self_eq_true, Option.some.injEq, exists_eq_left', Int.reduceEq, Int.reduceLT, Int.reduceLE, Int.reduceNeg, Int.reduceToNat, Int.reduceAdd, Int.reduceMul, Int.reduceSub, Int.reducePow, decide_true, decide_false, decide_eq_true_eq, List.getElem?_cons_zero, List.getElem?_cons_succ, Nat.reduceBEq, Nat.reduceSub, exists_false, and_false, false_and, wrap_i64, e1, e2, hlt', he', Nat.mul_one]
      exact ⟨8 - (i + 1), by omega, i + 1, by simp only [al, g1, g2, he, if_false]; rfl, by omega, rfl⟩
  · have hlt' : ¬ ((i : Nat) : Int) < 8 := by omega
    obtain rfl : i = 8 := by omega
    simp only [xc, xo, xr, x0, x1, x2, x3, x4, x5, x6, xd, xe, kont_call, kont_pure, isNil, slOk, sliceV, selems, elems, srcElems, appendV, newRow, copyTo, dlen, eqAV, eqCells, eqS, upd, wr, place, partVals, partEs, placeEs, mapOf, keyOk, keyCells, findK, AV.isRow, Bool.bne_false, Bool.bne_true, List.drop_zero, List.nil_append, List.append_nil, List.take_zero, Reg.isA, Reg.isV, Reg.stays, Reg.onto, Bool.false_or, Bool.or_false, Bool.false_and, Bool.and_false, Bool.true_and, Bool.and_true, Bool.or_true, Bool.true_or, ↓reduceIte, reduceCtorEq, Nat.reduceEqDiff, Nat.reduceLT, Nat.reduceAdd, Nat.reduceMul, Nat.add_zero, Nat.zero_add, Nat.not_lt_zero, Nat.zero_ne_one, Nat.one_ne_zero, Nat.reduceLeDiff, Nat.lt_irrefl, Nat.zero_lt_succ, Bool.false_eq_true, Bool.not_true, Bool.not_false, Option.map_some, Option.map_none, Option.bind_some, and_self, and_true, true_and, List.length_cons, List.length_nil, List.any_nil, List.any_cons, Int.toNat_natCast, Int.cast_ofNat_Int, Int.natCast_zero, Int.natCast_nonneg, true_implies, or_true, true_or, false_or, or_false, beq_self_eq_true, Option.some.injEq, exists_eq_left', Int.reduceEq, Int.reduceLT, Int.reduceLE, Int.reduceNeg, Int.reduceToNat, Int.reduceAdd, Int.reduceMul, Int.reduceSub, Int.reducePow, decide_true, decide_false, decide_eq_true_eq, List.getElem?_cons_zero, List.getElem?_cons_succ, Nat.reduceBEq, Nat.reduceSub, exists_false, and_false, false_and, hlt']
theorem c12 {tot : Bool} {ω : Nat → Nat} {n : Nat} (hn : 10 < n) (a b : List Int) (h : Hp) (ha : a.length = 8) (hb : b.length = 8) : call F n tot ω 12 [.agg (intsOf .u32 a), .agg (intsOf .u32 b)] h = some (.int .i64 (al a b 8), h) := by
  obtain ⟨n, rfl⟩ : ∃ m, n = m + 1 := ⟨n - 1, by omega⟩
  refine call_eq (fn := a12) rfl ?_
  unfold a12
  simp only [xc, xo, xr, x0, x1, x2, x3, x4, x5, x6, xd, xe, kont_call, kont_pure, isNil, slOk, sliceV, selems, elems, srcElems, appendV, newRow, copyTo, dlen, eqAV, eqCells, eqS, upd, wr, place, partVals, partEs, placeEs, mapOf, keyOk, keyCells, findK, AV.isRow, Bool.bne_false, Bool.bne_true, List.drop_zero, List.nil_append, List.append_nil, List.take_zero, Reg.isA, Reg.isV, Reg.stays, Reg.onto, Bool.false_or, Bool.or_false, Bool.false_and, Bool.and_false, Bool.true_and, Bool.and_true, Bool.or_true, Bool.true_or, ↓reduceIte, reduceCtorEq, Nat.reduceEqDiff, Nat.reduceLT, Nat.reduceAdd, Nat.reduceMul, Nat.add_zero, Nat.zero_add, Nat.not_lt_zero, Nat.zero_ne_one, Nat.one_ne_zero, Nat.reduceLeDiff, Nat.lt_irrefl, Nat.zero_lt_succ, Bool.false_eq_true, Bool.not_true, Bool.not_false, Option.map_some, Option.map_none, Option.bind_some, and_self, and_true, true_and, List.length_cons, List.length_nil, List.any_nil, List.any_cons, Int.toNat_natCast, Int.cast_ofNat_Int, Int.natCast_zero, Int.natCast_nonneg, true_implies, or_true, true_or, false_or, or_false, beq_self_eq_true, Option.some.injEq, exists_eq_left', Int.reduceEq, Int.reduceLT, Int.reduceLE, Int.reduceNeg, Int.reduceToNat, Int.reduceAdd, Int.reduceMul, Int.reduceSub, Int.reducePow, decide_true, decide_false, decide_eq_true_eq, List.getElem?_cons_zero, List.getElem?_cons_succ, Nat.reduceBEq, Nat.reduceSub, exists_false, and_false, false_and, ha, hb]
  refine wpi_loop (fun k r h' => ∃ i : Nat, r = [(2, .var (.agg (intsOf .u32 a))), (3, .var (.agg (intsOf .u32 b))), (5, .val (.int .i64 (al a b i))), (6, .val (.int .i64 i))] ∧ i ≤ 8 ∧ k = 8 - i ∧ h' = h) 8 (by omega) ⟨0, rfl, by omega, by omega, rfl⟩ ?_
  rintro k r h' ⟨i, rfl, hi, rfl, rfl⟩
  have hal := al_le a b i
  by_cases hlt : i < 8
  · have e1 := intsOf_get (k := .u32) (l := a) (i := i) (by omega)
    have e2 := intsOf_get (k := .u32) (l := b) (i := i) (by omega)
    have hlt' : ((i : Nat) : Int) < 8 := by omega
    have g1 : a.getD i 0 = a[i]'(by omega) := by simp [List.getD, show i < a.length by omega]
    have g2 : b.getD i 0 = b[i]'(by omega) := by simp [List.getD, show i < b.length by omega]
    by_cases he : a[i]'(by omega) = b[i]'(by omega)
    · simp (discharger := omega) only [xc, xo, xr, x0, x1, x2, x3, x4, x5, x6, xd, xe, kont_call, kont_pure, isNil, slOk, sliceV, selems, elems, srcElems, appendV, newRow, copyTo, dlen, eqAV, eqCells, eqS, upd, wr, place, partVals, partEs, placeEs, mapOf, keyOk, keyCells, findK, AV.isRow, Bool.bne_false, Bool.bne_true, List.drop_zero, List.nil_append, List.append_nil, List.take_zero, Reg.isA, Reg.isV, Reg.stays, Reg.onto, Bool.false_or, Bool.or_false, Bool.false_and, Bool.and_false, Bool.true_and, Bool.and_true, Bool.or_true, Bool.true_or, ↓reduceIte, reduceCtorEq, Nat.reduceEqDiff, Nat.reduceLT, Nat.reduceAdd, Nat.reduceMul, Nat.add_zero, Nat.zero_add, Nat.not_lt_zero, Nat.zero_ne_one, Nat.one_ne_zero, Nat.reduceLeDiff, Nat.lt_irrefl, Nat.zero_lt_succ, Bool.false_eq_true, Bool.not_true, Bool.not_false, Option.map_some, Option.map_none, Option.bind_some, and_self, and_true, true_and, List.length_cons, List.length_nil, List.any_nil, List.any_cons, Int.toNat_natCast, Int.cast_ofNat_Int, Int.natCast_zero, Int.natCast_nonneg, true_implies, or_true, true_or, false_or, or_false, beq_self_eq_true, Option.some.injEq, exists_eq_left', Int.reduceEq, Int.reduceLT, Int.reduceLE, Int.reduceNeg, Int.reduceToNat, Int.reduceAdd, Int.reduceMul, Int.reduceSub, Int.reducePow, decide_true, decide_false, decide_eq_true_eq, List.getElem?_cons_zero, List.getElem?_cons_succ, Nat.reduceBEq, Nat.reduceSub, exists_false, and_false, false_and, wrap_i64, e1, e2, hlt', he, Nat.mul_one]
      exact ⟨8 - (i + 1), by omega, i + 1, by simp only [al, g1, g2, he, if_true]; rfl, by omega, rfl⟩
    · have he' : (a[i]'(by omega) == b[i]'(by omega)) = false := by simpa using he
      simp (discharger := omega) only [xc, xo, xr, x0, x1, x2, x3, x4, x5, x6, xd, xe, kont_call, kont_pure, isNil, slOk, sliceV, selems, elems, srcElems, appendV, newRow, copyTo, dlen, eqAV, eqCells, eqS, upd, wr, place, partVals, partEs, placeEs, mapOf, keyOk, keyCells, findK, AV.isRow, Bool.bne_false, Bool.bne_true, List.drop_zero, List.nil_append, List.append_nil, List.take_zero, Reg.isA, Reg.isV, Reg.stays, Reg.onto, Bool.false_or, Bool.or_false, Bool.false_and, Bool.and_false, Bool.true_and, Bool.and_true, Bool.or_true, Bool.true_or, ↓reduceIte, reduceCtorEq, Nat.reduceEqDiff, Nat.reduceLT, Nat.reduceAdd, Nat.reduceMul, Nat.add_zero, Nat.zero_add, Nat.not_lt_zero, Nat.zero_ne_one, Nat.one_ne_zero, Nat.reduceLeDiff, Nat.lt_irrefl, Nat.zero_lt_succ, Bool.false_eq_true, Bool.not_true, Bool.not_false, Option.map_some, Option.map_none, Option.bind_some, and_self, and_true, true_and, List.length_cons, List.length_nil, List.any_nil, List.any_cons, Int.toNat_natCast, Int.cast_ofNat_Int, Int.natCast_zero, Int.natCast_nonneg, true_implies, or_true, true_or, false_or, or_false, beq_self_eq_true, Option.some.injEq, exists_eq_left', Int.reduceEq, Int.reduceLT, Int.reduceLE, Int.reduceNeg, Int.reduceToNat, Int.reduceAdd, Int.reduceMul, Int.reduceSub, Int.reducePow, decide_true, decide_false, decide_eq_true_eq, List.getElem?_cons_zero, List.getElem?_cons_succ, Nat.reduceBEq, Nat.reduceSub, exists_false, and_false, false_and, wrap_i64, e1, e2, hlt', he', Nat.mul_one]
      exact ⟨8 - (i + 1), by omega, i + 1, by simp only [al, g1, g2, he, if_false]; rfl, by omega, rfl⟩
  · have hlt' : ¬ ((i : Nat) : Int) < 8 := by omega
    obtain rfl : i = 8 := by omega
    simp only [xc, xo, xr, x0, x1, x2, x3, x4, x5, x6, xd, xe, kont_call, kont_pure, isNil, slOk, sliceV, selems, elems, srcElems, appendV, newRow, copyTo, dlen, eqAV, eqCells, eqS, upd, wr, place, partVals, partEs, placeEs, mapOf, keyOk, keyCells, findK, AV.isRow, Bool.bne_false, Bool.bne_true, List.drop_zero, List.nil_append, List.append_nil, List.take_zero, Reg.isA, Reg.isV, Reg.stays, Reg.onto, Bool.false_or, Bool.or_false, Bool.false_and, Bool.and_false, Bool.true_and, Bool.and_true, Bool.or_true, Bool.true_or, ↓reduceIte, reduceCtorEq, Nat.reduceEqDiff, Nat.reduceLT, Nat.reduceAdd, Nat.reduceMul, Nat.add_zero, Nat.zero_add, Nat.not_lt_zero, Nat.zero_ne_one, Nat.one_ne_zero, Nat.reduceLeDiff, Nat.lt_irrefl, Nat.zero_lt_succ, Bool.false_eq_true, Bool.not_true, Bool.not_false, Option.map_some, Option.map_none, Option.bind_some, and_self, and_true, true_and, List.length_cons, List.length_nil, List.any_nil, List.any_cons, Int.toNat_natCast, Int.cast_ofNat_Int, Int.natCast_zero, Int.natCast_nonneg, true_implies, or_true, true_or, false_or, or_false, beq_self_eq_true, Option.some.injEq, exists_eq_left', Int.reduceEq, Int.reduceLT, Int.reduceLE, Int.reduceNeg, Int.reduceToNat, Int.reduceAdd, Int.reduceMul, Int.reduceSub, Int.reducePow, decide_true, decide_false, decide_eq_true_eq, List.getElem?_cons_zero, List.getElem?_cons_succ, Nat.reduceBEq, Nat.reduceSub, exists_false, and_false, false_and, hlt']

theorem al_comm (a b : List Int) : ∀ i, al a b i = al b a i
  | 0 => rfl
  | i + 1 => by simp only [al, al_comm a b i, eq_comm]

theorem al_all {a b : List Int} : ∀ i, al a b i = i ↔ ∀ j, j < i → a.getD j 0 = b.getD j 0
  | 0 => by simp [al]
  | i + 1 => by
    have h1 := al_le a b i
    have h2 := al_all (a := a) (b := b) i
    simp only [al]
    constructor
    · intro h
      split at h
      · rename_i he
        have h3 := h2.1 (by omega)
        intro j hj
        by_cases hji : j = i
        · subst hji; exact he
        · exact h3 j (by omega)
      · omega
    · intro h
      rw [if_pos (h i (by omega)), h2.2 fun j hj => h j (by omega)]

theorem al_eq {a b : List Int} (ha : a.length = 8) (hb : b.length = 8) : al a b 8 = 8 ↔ a = b := by
  rw [al_all]
  constructor
  · intro h
    apply List.ext_getElem (by omega)
    intro i h1 h2
    have := h i (by omega)
    simpa [List.getD, h1, h2] using this
  · rintro rfl j hj; rfl

theorem eqCells_ints (k : IntKind) : ∀ (a b : List Int), a.length = b.length → eqCells (List.replicate a.length .i) (intsOf k a) (intsOf k b) = some (decide (a = b))
  | [], [], _ => rfl
  | [], _ :: _, h => by simp at h
  | _ :: _, [], h => by simp at h
  | x :: a, y :: b, h => by
    have ih := eqCells_ints k a b (by simpa using h)
    simp only [List.length_cons, List.replicate_succ, intsOf, List.map_cons, eqCells, eqS, if_true] at ih ⊢
    rw [ih]
    simp only [Option.some.injEq, List.cons.injEq]
    by_cases h1 : x = y <;> by_cases h2 : a = b <;> simp [h1, h2]

theorem law_alike (a b : List Int) (ω : Nat → Nat) (ha : a.length = 8) (hb : b.length = 8) : ∃ h', call F 202 true ω 4 [.agg (intsOf .u32 a), .agg (intsOf .u32 b)] [] = some (.bool true, h') := by
  obtain ⟨v, h', e, hv⟩ := call_of (F := F) (n := 201) (tot := true) (ω := ω) (f := 4) (fn := a4) rfl (h := []) (args := [.agg (intsOf .u32 a), .agg (intsOf .u32 b)]) (P := fun v _ => v = .bool true) (by
    unfold a4
    have ta : (intsOf .u32 a).take 8 = intsOf .u32 a := List.take_of_length_le (by simp [intsOf]; omega)
    have tb : (intsOf .u32 b).take 8 = intsOf .u32 b := List.take_of_length_le (by simp [intsOf]; omega)
    have hw : call F 201 true ω 8 [] [] = some (.bool true, H1) := awake1 1 ω
    have he : eqCells [.i, .i, .i, .i, .i, .i, .i, .i] (intsOf .u32 a) (intsOf .u32 b) = some (decide (a = b)) := by
      have := eqCells_ints .u32 a b (by omega)
      rw [ha] at this
      exact this
    have hab := al_eq ha hb
    have hc := al_comm b a 8
    have hk : (((al a b 8 : Nat) : Int) == 8) = decide (a = b) := by
      by_cases h : a = b
      · have := hab.2 h
        simp [h] at this ⊢
        omega
      · have : al a b 8 ≠ 8 := fun hx => h (hab.1 hx)
        simp [h]
        omega
    simp (discharger := omega) only [xc, xo, xr, x0, x1, x2, x3, x4, x5, x6, xd, xe, kont_call, kont_pure, isNil, slOk, sliceV, selems, elems, srcElems, appendV, newRow, copyTo, dlen, eqAV, eqCells, eqS, upd, wr, place, partVals, partEs, placeEs, mapOf, keyOk, keyCells, findK, AV.isRow, Bool.bne_false, Bool.bne_true, List.drop_zero, List.nil_append, List.append_nil, List.take_zero, Reg.isA, Reg.isV, Reg.stays, Reg.onto, Bool.false_or, Bool.or_false, Bool.false_and, Bool.and_false, Bool.true_and, Bool.and_true, Bool.or_true, Bool.true_or, ↓reduceIte, reduceCtorEq, Nat.reduceEqDiff, Nat.reduceLT, Nat.reduceAdd, Nat.reduceMul, Nat.add_zero, Nat.zero_add, Nat.not_lt_zero, Nat.zero_ne_one, Nat.one_ne_zero, Nat.reduceLeDiff, Nat.lt_irrefl, Nat.zero_lt_succ, Bool.false_eq_true, Bool.not_true, Bool.not_false, Option.map_some, Option.map_none, Option.bind_some, and_self, and_true, true_and, List.length_cons, List.length_nil, List.any_nil, List.any_cons, Int.toNat_natCast, Int.cast_ofNat_Int, Int.natCast_zero, Int.natCast_nonneg, true_implies, or_true, true_or, false_or, or_false, beq_self_eq_true, Option.some.injEq, exists_eq_left', Int.reduceEq, Int.reduceLT, Int.reduceLE, Int.reduceNeg, Int.reduceToNat, Int.reduceAdd, Int.reduceMul, Int.reduceSub, Int.reducePow, decide_true, decide_false, decide_eq_true_eq, List.getElem?_cons_zero, List.getElem?_cons_succ, Nat.reduceBEq, Nat.reduceSub, exists_false, and_false, false_and, wrap_i64, ha, hb, ta, tb, hw, c11, c12, he, hc, hk])
  exact ⟨h', by rw [e, hv]⟩

theorem sketchAlike_im (avs : List AV) (h : RdAll Try.prog 10 Try.f4.params.toList avs) : ∃ n, ∀ ω, ∃ h', call F n true ω 4 avs [] = some (.bool true, h') := by
  have hp : Try.f4.params.toList = [25, 25] := by rw [Try.params4]
  rw [hp] at h
  obtain ⟨a, r, rfl, h1, h⟩ := rdAll_cons h
  obtain ⟨b, r, rfl, h2, h⟩ := rdAll_cons h
  cases rdAll_nil h
  obtain ⟨l, rfl, g1⟩ := rdT_array Try.underlying25 h1
  obtain ⟨l', rfl, g2⟩ := rdT_array Try.underlying25 h2
  obtain ⟨a, rfl, ha, _⟩ := rdN_ints Try.underlying24 g1
  obtain ⟨b, rfl, hb, _⟩ := rdN_ints Try.underlying24 g2
  exact ⟨202, fun ω => law_alike a b ω ha hb⟩

theorem own : ownKnob Try.prog.godebug = none := by kernel_rfl

set_option maxRecDepth 100000 in
theorem sketchAlike_lifted (os : Os) (started : os.Started) (H : Type) (enc : TypeId × Value → H) :
    ReturnsInHanded {} Try.checked os 4 .any (Rows.sketchAlikeSpec.pre6 enc Try.prog Try.f4 Rows.sketchAlikeRow.domain false) (Rows.sketchAlikeSpec.post enc Try.prog Try.f4 false true false false) := by
  refine returnsInHanded_of_change (C := Try.checked) own started (by kernel_rfl) Try.func4
    (ChangeSpec.witness6 (enc := enc) (C := Try.checked) false ⟨#[], #[.agg #[.int .u32 0, .int .u32 0, .int .u32 0, .int .u32 0, .int .u32 0, .int .u32 0, .int .u32 0, .int .u32 0], .agg #[.int .u32 0, .int .u32 0, .int .u32 0, .int .u32 0, .int .u32 0, .int .u32 0, .int .u32 0, .int .u32 0]], []⟩ 12 (by kernel_rfl) (by kernel_rfl) (by kernel_rfl) (by kernel_rfl)) ?_
  intro W base args ds gs before hval hW _ _
  exact law_contract (P := Try.prog) (m := 10) (tb := 4) tableOk (by kernel_rfl) (fun _ => rfl) rfl (fun ds h => by
    rw [Try.params4] at h
    match ds, h with
    | [d1, d2], _ => rfl) (by kernel_rfl) (by kernel_rfl) (by kernel_rfl) (by kernel_rfl) Try.underlying4 sketchAlike_im W base args ds gs before hval hW

theorem sketchAlike_holds : Rows.SketchAlikeSaid :=
  OpenClaim.holds_of_wide 4 Try.f4 rfl rfl rfl rfl rfl rfl rfl ⟨rfl, rfl, rfl, rfl, rfl⟩ rfl rfl rfl rfl rfl (by kernel_rfl) Try.func4 (by kernel_rfl)
    (of_decide_eq_true (by kernel_rfl)) (by unfold Func.isWrapper; first | (rw [if_pos (by decide +kernel)]; kernel_rfl) | (rw [if_neg (by decide +kernel)]; exact ⟨rfl, rfl⟩))
    (fun os started H enc _ => sketchAlike_lifted os started H enc)

#print axioms sketchAlike_holds
end Go.Proofs.Ytdjlcddkfjbebaa

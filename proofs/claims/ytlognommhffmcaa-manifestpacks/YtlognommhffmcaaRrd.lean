/- Joined: S13Rdr, S13Rrd. -/
import Derived.Test.YtlognommhffmcaaDec
/- S13Rdr: the reader's methods. -/
set_option linter.unusedVariables false
set_option linter.unusedSimpArgs false
open Go Go.Im
namespace Go.Proofs.Ytlognommhffmcaa.Im

inductive PR (α : Type) where
  | err (e : Int) | ok (v : α) (k : Nat)

def rdW (s : List UInt8) : PR Int := match dec 0 0 s with
  | .err e => .err e
  | .ok x b k => .ok (if b then -(x : Int) - 1 else x) k
def rdC (s : List UInt8) : PR Nat := match dec 0 0 s with
  | .err e => .err e
  | .ok x b k => if b then .err 3 else .ok x k
def rdT (s : List UInt8) : PR (List UInt8) := match rdC s with
  | .err e => .err e
  | .ok n k => if (s.drop k).length < n then .err 2 else .ok ((s.drop k).take n) (k + n)

theorem dec_err {e : Int} : ∀ {s : List UInt8} {x i : Nat}, dec x i s = .err e → e = 2 ∨ e = 3
  | [], x, i, h => by unfold dec at h; cases h; exact .inl rfl
  | c :: s, x, i, h => by
    unfold dec at h
    split at h
    · cases h; exact .inr rfl
    · split at h
      · cases h
      · exact dec_err h

theorem dec_ok {v k : Nat} {b : Bool} : ∀ {s : List UInt8} {x i : Nat}, dec x i s = .ok v b k → v ≤ 9223372036854775807 ∧ i < k ∧ k ≤ i + s.length
  | [], x, i, h => by unfold dec at h; cases h
  | c :: s, x, i, h => by
    unfold dec at h
    split at h
    · cases h
    · split at h
      · simp only [NR.ok.injEq] at h
        obtain ⟨rfl, _, rfl⟩ := h
        simp
        omega
      · have := dec_ok h
        simp; omega

theorem rdW_err {s : List UInt8} {e : Int} (h : rdW s = .err e) : dec 0 0 s = .err e := by
  unfold rdW at h
  split at h
  · rename_i h1; cases h; exact h1
  · cases h
theorem rdW_ok {s : List UInt8} {v : Int} {k : Nat} (h : rdW s = .ok v k) : ∃ x b, dec 0 0 s = .ok x b k ∧ v = if b then -(x : Int) - 1 else x := by
  unfold rdW at h
  split at h
  · cases h
  · rename_i x b k' h1; cases h; exact ⟨x, b, h1, rfl⟩
theorem rdC_ok {s : List UInt8} {v k : Nat} (h : rdC s = .ok v k) : dec 0 0 s = .ok v false k := by
  unfold rdC at h
  split at h
  · cases h
  · rename_i x b k' h1
    cases b with
    | true => cases h
    | false => cases h; exact h1
theorem rdC_err {s : List UInt8} {e : Int} (h : rdC s = .err e) : (dec 0 0 s = .err e ∧ (e = 2 ∨ e = 3)) ∨ (e = 3 ∧ ∃ x k, dec 0 0 s = .ok x true k) := by
  unfold rdC at h
  split at h
  · rename_i h1; cases h; exact .inl ⟨h1, dec_err h1⟩
  · rename_i x b k' h1
    cases b with
    | true => cases h; exact .inr ⟨rfl, x, k', h1⟩
    | false => cases h

/-- A reader with these bytes left. -/
def Rr (s : List UInt8) : AO := .row 1 [.agg [.str s]]

theorem c30e {tot : Bool} {ω : Nat → Nat} {n : Nat} (id : Nat) (s : List UInt8) (h : Hp) (hid : h[id]? = some (Rr s)) (hs : s.length ≤ 1000000000000) (hn : s.length + 3 < n) {e : Int} (hr : rdW s = .err e) :
    call F n tot ω 30 [.ptr id 1 0 0] h = some (.tup [.int .i64 0, .int .i64 e], h) := by
  obtain ⟨n, rfl⟩ : ∃ m, n = m + 1 := ⟨n - 1, by omega⟩
  refine call_eq (fn := a30) f30 ?_
  unfold a30
  have r1 := c47 (tot := tot) (ω := ω) (n := n) id s h hid hs (by omega)
  have hd := rdW_err hr
  have he : (e != 0) = true := by rcases dec_err hd with rfl | rfl <;> rfl
  rw [hd] at r1
  unfold numAV at r1
  simp (maxSteps := 2000000) (discharger := omega) only [xc, xo, xr, x0, x1, x2, x3, x4, x5, x6, xd, xe, xb, kont_call, kont_pure, isNil, slOk, sliceV, selems, srcElems, copyTo, dlen, eqAV, eqCells, eqS, upd, wr, place, partVals, partEs, placeEs, mapOf, keyOk, keyCells, findK, Bool.bne_false, Bool.bne_true, List.drop_zero, List.nil_append, List.append_nil, List.take_zero, List.cons_append, List.take_succ_cons, List.drop_succ_cons, List.take_nil, List.drop_nil, Reg.isA, Reg.isV, Reg.stays, Reg.onto, Bool.false_or, Bool.or_false, Bool.false_and, Bool.and_false, Bool.true_and, Bool.and_true, Bool.or_true, Bool.true_or, ↓reduceIte, reduceCtorEq, Nat.reduceEqDiff, Nat.reduceLT, Nat.reduceAdd, Nat.reduceMul, Nat.add_zero, Nat.zero_add, Nat.not_lt_zero, Nat.zero_ne_one, Nat.one_ne_zero, Nat.reduceLeDiff, Nat.lt_irrefl, Nat.zero_lt_succ, Bool.false_eq_true, Bool.not_true, Bool.not_false, Option.map_some, Option.map_none, Option.bind_some, Option.getD_some, Option.getD_none, and_self, and_true, true_and, List.length_cons, List.length_nil, List.any_nil, List.any_cons, Int.toNat_natCast, Int.cast_ofNat_Int, Int.natCast_zero, Int.natCast_nonneg, true_implies, or_true, true_or, false_or, or_false, beq_self_eq_true, Option.some.injEq, exists_eq_left', Int.reduceEq, Int.reduceLT, Int.reduceLE, Int.reduceGT, Int.reduceGE, Nat.reduceGT, Int.reduceNeg, Int.reduceToNat, Int.reduceAdd, Int.reduceMul, Int.reduceSub, Int.reducePow, decide_true, decide_false, decide_eq_true_eq, List.getElem?_cons_zero, List.getElem?_cons_succ, Nat.reduceBEq, Nat.reduceSub, exists_false, and_false, false_and, wrap_i64, r1, he]

theorem c30o {tot : Bool} {ω : Nat → Nat} {n : Nat} (id : Nat) (s : List UInt8) (h : Hp) (hid : h[id]? = some (Rr s)) (hs : s.length ≤ 1000000000000) (hn : s.length + 3 < n) {v : Int} {k : Nat} (hr : rdW s = .ok v k) :
    call F n tot ω 30 [.ptr id 1 0 0] h = some (.tup [.int .i64 v, .int .i64 0], h.set id (Rr (s.drop k))) := by
  obtain ⟨n, rfl⟩ : ∃ m, n = m + 1 := ⟨n - 1, by omega⟩
  refine call_eq (fn := a30) f30 ?_
  unfold a30
  have r1 := c47 (tot := tot) (ω := ω) (n := n) id s h hid hs (by omega)
  obtain ⟨x, b, hd, hv⟩ := rdW_ok hr
  have hb := dec_ok hd
  rw [hd] at r1
  unfold numAV at r1
  unfold Rr at hid
  have he : ((0 : Int) != 0) = false := rfl
  have hkl : ((k : Nat) : Int) ≤ (s.length : Int) := by omega
  have ht : List.take s.length s = s := List.take_length
  cases b with
  | true =>
    have hz : (0 : Int) - (x : Int) - 1 = v := by rw [hv, if_pos rfl]; omega
    have hz0 : (0 : Int) - (x : Int) = v + 1 := by omega
    simp (maxSteps := 2000000) (discharger := omega) only [xc, xo, xr, x0, x1, x2, x3, x4, x5, x6, xd, xe, xb, kont_call, kont_pure, isNil, slOk, sliceV, selems, srcElems, copyTo, dlen, eqAV, eqCells, eqS, upd, wr, place, partVals, partEs, placeEs, mapOf, keyOk, keyCells, findK, Bool.bne_false, Bool.bne_true, List.drop_zero, List.nil_append, List.append_nil, List.take_zero, List.cons_append, List.take_succ_cons, List.drop_succ_cons, List.take_nil, List.drop_nil, Reg.isA, Reg.isV, Reg.stays, Reg.onto, Bool.false_or, Bool.or_false, Bool.false_and, Bool.and_false, Bool.true_and, Bool.and_true, Bool.or_true, Bool.true_or, ↓reduceIte, reduceCtorEq, Nat.reduceEqDiff, Nat.reduceLT, Nat.reduceAdd, Nat.reduceMul, Nat.add_zero, Nat.zero_add, Nat.not_lt_zero, Nat.zero_ne_one, Nat.one_ne_zero, Nat.reduceLeDiff, Nat.lt_irrefl, Nat.zero_lt_succ, Bool.false_eq_true, Bool.not_true, Bool.not_false, Option.map_some, Option.map_none, Option.bind_some, Option.getD_some, Option.getD_none, and_self, and_true, true_and, List.length_cons, List.length_nil, List.any_nil, List.any_cons, Int.toNat_natCast, Int.cast_ofNat_Int, Int.natCast_zero, Int.natCast_nonneg, true_implies, or_true, true_or, false_or, or_false, beq_self_eq_true, Option.some.injEq, exists_eq_left', Int.reduceEq, Int.reduceLT, Int.reduceLE, Int.reduceGT, Int.reduceGE, Nat.reduceGT, Int.reduceNeg, Int.reduceToNat, Int.reduceAdd, Int.reduceMul, Int.reduceSub, Int.reducePow, decide_true, decide_false, decide_eq_true_eq, List.getElem?_cons_zero, List.getElem?_cons_succ, Nat.reduceBEq, Nat.reduceSub, exists_false, and_false, false_and, wrap_i64, r1, he, hid, hkl, ht, Int.le_refl, Rr, List.set_cons_zero, hz0, Int.add_sub_cancel]
  | false =>
    rw [if_neg (by simp)] at hv
    subst hv
    simp (maxSteps := 2000000) (discharger := omega) only [xc, xo, xr, x0, x1, x2, x3, x4, x5, x6, xd, xe, xb, kont_call, kont_pure, isNil, slOk, sliceV, selems, srcElems, copyTo, dlen, eqAV, eqCells, eqS, upd, wr, place, partVals, partEs, placeEs, mapOf, keyOk, keyCells, findK, Bool.bne_false, Bool.bne_true, List.drop_zero, List.nil_append, List.append_nil, List.take_zero, List.cons_append, List.take_succ_cons, List.drop_succ_cons, List.take_nil, List.drop_nil, Reg.isA, Reg.isV, Reg.stays, Reg.onto, Bool.false_or, Bool.or_false, Bool.false_and, Bool.and_false, Bool.true_and, Bool.and_true, Bool.or_true, Bool.true_or, ↓reduceIte, reduceCtorEq, Nat.reduceEqDiff, Nat.reduceLT, Nat.reduceAdd, Nat.reduceMul, Nat.add_zero, Nat.zero_add, Nat.not_lt_zero, Nat.zero_ne_one, Nat.one_ne_zero, Nat.reduceLeDiff, Nat.lt_irrefl, Nat.zero_lt_succ, Bool.false_eq_true, Bool.not_true, Bool.not_false, Option.map_some, Option.map_none, Option.bind_some, Option.getD_some, Option.getD_none, and_self, and_true, true_and, List.length_cons, List.length_nil, List.any_nil, List.any_cons, Int.toNat_natCast, Int.cast_ofNat_Int, Int.natCast_zero, Int.natCast_nonneg, true_implies, or_true, true_or, false_or, or_false, beq_self_eq_true, Option.some.injEq, exists_eq_left', Int.reduceEq, Int.reduceLT, Int.reduceLE, Int.reduceGT, Int.reduceGE, Nat.reduceGT, Int.reduceNeg, Int.reduceToNat, Int.reduceAdd, Int.reduceMul, Int.reduceSub, Int.reducePow, decide_true, decide_false, decide_eq_true_eq, List.getElem?_cons_zero, List.getElem?_cons_succ, Nat.reduceBEq, Nat.reduceSub, exists_false, and_false, false_and, wrap_i64, r1, he, hid, hkl, ht, Int.le_refl, Rr, List.set_cons_zero]

theorem c46e {tot : Bool} {ω : Nat → Nat} {n : Nat} (id : Nat) (s : List UInt8) (h : Hp) (hid : h[id]? = some (Rr s)) (hs : s.length ≤ 1000000000000) (hn : s.length + 3 < n) {e : Int} (hr : rdC s = .err e) :
    call F n tot ω 46 [.ptr id 1 0 0] h = some (.tup [.int .i64 0, .int .i64 e], h) := by
  obtain ⟨n, rfl⟩ : ∃ m, n = m + 1 := ⟨n - 1, by omega⟩
  refine call_eq (fn := a46) f46 ?_
  unfold a46
  have r1 := c47 (tot := tot) (ω := ω) (n := n) id s h hid hs (by omega)
  rcases rdC_err hr with ⟨hd, h23⟩ | ⟨rfl, x, k, hd⟩
  · rw [hd] at r1
    unfold numAV at r1
    have he : (e != 0) = true := by rcases h23 with rfl | rfl <;> rfl
    have he2 : (e == 0) = false := by rcases h23 with rfl | rfl <;> rfl
    simp (maxSteps := 2000000) (discharger := omega) only [xc, xo, xr, x0, x1, x2, x3, x4, x5, x6, xd, xe, xb, kont_call, kont_pure, isNil, slOk, sliceV, selems, srcElems, copyTo, dlen, eqAV, eqCells, eqS, upd, wr, place, partVals, partEs, placeEs, mapOf, keyOk, keyCells, findK, Bool.bne_false, Bool.bne_true, List.drop_zero, List.nil_append, List.append_nil, List.take_zero, List.cons_append, List.take_succ_cons, List.drop_succ_cons, List.take_nil, List.drop_nil, Reg.isA, Reg.isV, Reg.stays, Reg.onto, Bool.false_or, Bool.or_false, Bool.false_and, Bool.and_false, Bool.true_and, Bool.and_true, Bool.or_true, Bool.true_or, ↓reduceIte, reduceCtorEq, Nat.reduceEqDiff, Nat.reduceLT, Nat.reduceAdd, Nat.reduceMul, Nat.add_zero, Nat.zero_add, Nat.not_lt_zero, Nat.zero_ne_one, Nat.one_ne_zero, Nat.reduceLeDiff, Nat.lt_irrefl, Nat.zero_lt_succ, Bool.false_eq_true, Bool.not_true, Bool.not_false, Option.map_some, Option.map_none, Option.bind_some, Option.getD_some, Option.getD_none, and_self, and_true, true_and, List.length_cons, List.length_nil, List.any_nil, List.any_cons, Int.toNat_natCast, Int.cast_ofNat_Int, Int.natCast_zero, Int.natCast_nonneg, true_implies, or_true, true_or, false_or, or_false, beq_self_eq_true, Option.some.injEq, exists_eq_left', Int.reduceEq, Int.reduceLT, Int.reduceLE, Int.reduceGT, Int.reduceGE, Nat.reduceGT, Int.reduceNeg, Int.reduceToNat, Int.reduceAdd, Int.reduceMul, Int.reduceSub, Int.reducePow, decide_true, decide_false, decide_eq_true_eq, List.getElem?_cons_zero, List.getElem?_cons_succ, Nat.reduceBEq, Nat.reduceSub, exists_false, and_false, false_and, wrap_i64, r1, he, he2]
  · rw [hd] at r1
    unfold numAV at r1
    have he : ((3 : Int) != 0) = true := rfl
    simp (maxSteps := 2000000) (discharger := omega) only [xc, xo, xr, x0, x1, x2, x3, x4, x5, x6, xd, xe, xb, kont_call, kont_pure, isNil, slOk, sliceV, selems, srcElems, copyTo, dlen, eqAV, eqCells, eqS, upd, wr, place, partVals, partEs, placeEs, mapOf, keyOk, keyCells, findK, Bool.bne_false, Bool.bne_true, List.drop_zero, List.nil_append, List.append_nil, List.take_zero, List.cons_append, List.take_succ_cons, List.drop_succ_cons, List.take_nil, List.drop_nil, Reg.isA, Reg.isV, Reg.stays, Reg.onto, Bool.false_or, Bool.or_false, Bool.false_and, Bool.and_false, Bool.true_and, Bool.and_true, Bool.or_true, Bool.true_or, ↓reduceIte, reduceCtorEq, Nat.reduceEqDiff, Nat.reduceLT, Nat.reduceAdd, Nat.reduceMul, Nat.add_zero, Nat.zero_add, Nat.not_lt_zero, Nat.zero_ne_one, Nat.one_ne_zero, Nat.reduceLeDiff, Nat.lt_irrefl, Nat.zero_lt_succ, Bool.false_eq_true, Bool.not_true, Bool.not_false, Option.map_some, Option.map_none, Option.bind_some, Option.getD_some, Option.getD_none, and_self, and_true, true_and, List.length_cons, List.length_nil, List.any_nil, List.any_cons, Int.toNat_natCast, Int.cast_ofNat_Int, Int.natCast_zero, Int.natCast_nonneg, true_implies, or_true, true_or, false_or, or_false, beq_self_eq_true, Option.some.injEq, exists_eq_left', Int.reduceEq, Int.reduceLT, Int.reduceLE, Int.reduceGT, Int.reduceGE, Nat.reduceGT, Int.reduceNeg, Int.reduceToNat, Int.reduceAdd, Int.reduceMul, Int.reduceSub, Int.reducePow, decide_true, decide_false, decide_eq_true_eq, List.getElem?_cons_zero, List.getElem?_cons_succ, Nat.reduceBEq, Nat.reduceSub, exists_false, and_false, false_and, wrap_i64, r1, he]

theorem c46o {tot : Bool} {ω : Nat → Nat} {n : Nat} (id : Nat) (s : List UInt8) (h : Hp) (hid : h[id]? = some (Rr s)) (hs : s.length ≤ 1000000000000) (hn : s.length + 3 < n) {v : Nat} {k : Nat} (hr : rdC s = .ok v k) :
    call F n tot ω 46 [.ptr id 1 0 0] h = some (.tup [.int .i64 v, .int .i64 0], h.set id (Rr (s.drop k))) := by
  obtain ⟨n, rfl⟩ : ∃ m, n = m + 1 := ⟨n - 1, by omega⟩
  refine call_eq (fn := a46) f46 ?_
  unfold a46
  have r1 := c47 (tot := tot) (ω := ω) (n := n) id s h hid hs (by omega)
  have hd := rdC_ok hr
  have hb := dec_ok hd
  rw [hd] at r1
  unfold numAV at r1
  unfold Rr at hid
  have he : ((0 : Int) != 0) = false := rfl
  have hkl : ((k : Nat) : Int) ≤ (s.length : Int) := by omega
  have ht : List.take s.length s = s := List.take_length
  simp (maxSteps := 2000000) (discharger := omega) only [xc, xo, xr, x0, x1, x2, x3, x4, x5, x6, xd, xe, xb, kont_call, kont_pure, isNil, slOk, sliceV, selems, srcElems, copyTo, dlen, eqAV, eqCells, eqS, upd, wr, place, partVals, partEs, placeEs, mapOf, keyOk, keyCells, findK, Bool.bne_false, Bool.bne_true, List.drop_zero, List.nil_append, List.append_nil, List.take_zero, List.cons_append, List.take_succ_cons, List.drop_succ_cons, List.take_nil, List.drop_nil, Reg.isA, Reg.isV, Reg.stays, Reg.onto, Bool.false_or, Bool.or_false, Bool.false_and, Bool.and_false, Bool.true_and, Bool.and_true, Bool.or_true, Bool.true_or, ↓reduceIte, reduceCtorEq, Nat.reduceEqDiff, Nat.reduceLT, Nat.reduceAdd, Nat.reduceMul, Nat.add_zero, Nat.zero_add, Nat.not_lt_zero, Nat.zero_ne_one, Nat.one_ne_zero, Nat.reduceLeDiff, Nat.lt_irrefl, Nat.zero_lt_succ, Bool.false_eq_true, Bool.not_true, Bool.not_false, Option.map_some, Option.map_none, Option.bind_some, Option.getD_some, Option.getD_none, and_self, and_true, true_and, List.length_cons, List.length_nil, List.any_nil, List.any_cons, Int.toNat_natCast, Int.cast_ofNat_Int, Int.natCast_zero, Int.natCast_nonneg, true_implies, or_true, true_or, false_or, or_false, beq_self_eq_true, Option.some.injEq, exists_eq_left', Int.reduceEq, Int.reduceLT, Int.reduceLE, Int.reduceGT, Int.reduceGE, Nat.reduceGT, Int.reduceNeg, Int.reduceToNat, Int.reduceAdd, Int.reduceMul, Int.reduceSub, Int.reducePow, decide_true, decide_false, decide_eq_true_eq, List.getElem?_cons_zero, List.getElem?_cons_succ, Nat.reduceBEq, Nat.reduceSub, exists_false, and_false, false_and, wrap_i64, r1, he, hid, hkl, ht, Int.le_refl, Rr, List.set_cons_zero]

/-- Raw, of a number from 0 on. -/
theorem c48e {tot : Bool} {ω : Nat → Nat} {n : Nat} (id m : Nat) (s : List UInt8) (h : Hp) (hid : h[id]? = some (Rr s)) (hn : 2 < n) (hm : s.length < m) :
    call F n tot ω 48 [.ptr id 1 0 0, .int .i64 m] h = some (.tup [.str [], .int .i64 2], h) := by
  obtain ⟨n, rfl⟩ : ∃ m, n = m + 1 := ⟨n - 1, by omega⟩
  refine call_eq (fn := a48) f48 ?_
  unfold a48
  unfold Rr at hid
  have h0 : ¬ ((m : Nat) : Int) < 0 := by omega
  have h1 : ((m : Nat) : Int) > (s.length : Int) := by omega
  simp (maxSteps := 2000000) (discharger := omega) only [xc, xo, xr, x0, x1, x2, x3, x4, x5, x6, xd, xe, xb, kont_call, kont_pure, isNil, slOk, sliceV, selems, srcElems, copyTo, dlen, eqAV, eqCells, eqS, upd, wr, place, partVals, partEs, placeEs, mapOf, keyOk, keyCells, findK, Bool.bne_false, Bool.bne_true, List.drop_zero, List.nil_append, List.append_nil, List.take_zero, List.cons_append, List.take_succ_cons, List.drop_succ_cons, List.take_nil, List.drop_nil, Reg.isA, Reg.isV, Reg.stays, Reg.onto, Bool.false_or, Bool.or_false, Bool.false_and, Bool.and_false, Bool.true_and, Bool.and_true, Bool.or_true, Bool.true_or, ↓reduceIte, reduceCtorEq, Nat.reduceEqDiff, Nat.reduceLT, Nat.reduceAdd, Nat.reduceMul, Nat.add_zero, Nat.zero_add, Nat.not_lt_zero, Nat.zero_ne_one, Nat.one_ne_zero, Nat.reduceLeDiff, Nat.lt_irrefl, Nat.zero_lt_succ, Bool.false_eq_true, Bool.not_true, Bool.not_false, Option.map_some, Option.map_none, Option.bind_some, Option.getD_some, Option.getD_none, and_self, and_true, true_and, List.length_cons, List.length_nil, List.any_nil, List.any_cons, Int.toNat_natCast, Int.cast_ofNat_Int, Int.natCast_zero, Int.natCast_nonneg, true_implies, or_true, true_or, false_or, or_false, beq_self_eq_true, Option.some.injEq, exists_eq_left', Int.reduceEq, Int.reduceLT, Int.reduceLE, Int.reduceGT, Int.reduceGE, Nat.reduceGT, Int.reduceNeg, Int.reduceToNat, Int.reduceAdd, Int.reduceMul, Int.reduceSub, Int.reducePow, decide_true, decide_false, decide_eq_true_eq, List.getElem?_cons_zero, List.getElem?_cons_succ, Nat.reduceBEq, Nat.reduceSub, exists_false, and_false, false_and, wrap_i64, hid, h0, h1]

theorem c48o {tot : Bool} {ω : Nat → Nat} {n : Nat} (id m : Nat) (s : List UInt8) (h : Hp) (hid : h[id]? = some (Rr s)) (hn : 2 < n) (hm : m ≤ s.length) :
    call F n tot ω 48 [.ptr id 1 0 0, .int .i64 m] h = some (.tup [.str (s.take m), .int .i64 0], h.set id (Rr (s.drop m))) := by
  obtain ⟨n, rfl⟩ : ∃ m, n = m + 1 := ⟨n - 1, by omega⟩
  refine call_eq (fn := a48) f48 ?_
  unfold a48
  unfold Rr at hid
  have h0 : ¬ ((m : Nat) : Int) < 0 := by omega
  have h1 : ¬ ((m : Nat) : Int) > (s.length : Int) := by omega
  have h2 : (0 : Int) ≤ (m : Int) := by omega
  have h3 : (m : Int) ≤ (s.length : Int) := by omega
  have ht : List.take s.length s = s := List.take_length
  have hz : (0 : Int).toNat = 0 := rfl
  simp (maxSteps := 2000000) (discharger := omega) only [xc, xo, xr, x0, x1, x2, x3, x4, x5, x6, xd, xe, xb, kont_call, kont_pure, isNil, slOk, sliceV, selems, srcElems, copyTo, dlen, eqAV, eqCells, eqS, upd, wr, place, partVals, partEs, placeEs, mapOf, keyOk, keyCells, findK, Bool.bne_false, Bool.bne_true, List.drop_zero, List.nil_append, List.append_nil, List.take_zero, List.cons_append, List.take_succ_cons, List.drop_succ_cons, List.take_nil, List.drop_nil, Reg.isA, Reg.isV, Reg.stays, Reg.onto, Bool.false_or, Bool.or_false, Bool.false_and, Bool.and_false, Bool.true_and, Bool.and_true, Bool.or_true, Bool.true_or, ↓reduceIte, reduceCtorEq, Nat.reduceEqDiff, Nat.reduceLT, Nat.reduceAdd, Nat.reduceMul, Nat.add_zero, Nat.zero_add, Nat.not_lt_zero, Nat.zero_ne_one, Nat.one_ne_zero, Nat.reduceLeDiff, Nat.lt_irrefl, Nat.zero_lt_succ, Bool.false_eq_true, Bool.not_true, Bool.not_false, Option.map_some, Option.map_none, Option.bind_some, Option.getD_some, Option.getD_none, and_self, and_true, true_and, List.length_cons, List.length_nil, List.any_nil, List.any_cons, Int.toNat_natCast, Int.cast_ofNat_Int, Int.natCast_zero, Int.natCast_nonneg, true_implies, or_true, true_or, false_or, or_false, beq_self_eq_true, Option.some.injEq, exists_eq_left', Int.reduceEq, Int.reduceLT, Int.reduceLE, Int.reduceGT, Int.reduceGE, Nat.reduceGT, Int.reduceNeg, Int.reduceToNat, Int.reduceAdd, Int.reduceMul, Int.reduceSub, Int.reducePow, decide_true, decide_false, decide_eq_true_eq, List.getElem?_cons_zero, List.getElem?_cons_succ, Nat.reduceBEq, Nat.reduceSub, exists_false, and_false, false_and, wrap_i64, hid, h0, h1, h2, h3, ht, hz, Int.le_refl, Rr, List.set_cons_zero]

theorem set_get {h : Hp} {id : Nat} {o : AO} (hid : h[id]? = some o) (o' : AO) : (h.set id o')[id]? = some o' := by
  have := (List.getElem?_eq_some_iff.1 hid).1
  simp [this]
theorem set_back {h : Hp} {id : Nat} {o : AO} (hid : h[id]? = some o) (o' : AO) : (h.set id o').set id o = h := by
  obtain ⟨h1, h2⟩ := List.getElem?_eq_some_iff.1 hid
  rw [List.set_set]
  rw [← h2]
  exact List.set_getElem_self h1

theorem c31e {tot : Bool} {ω : Nat → Nat} {n : Nat} (id : Nat) (s : List UInt8) (h : Hp) (hid : h[id]? = some (Rr s)) (hs : s.length ≤ 1000000000000) (hn : s.length + 4 < n) {e : Int} (hr : rdT s = .err e) :
    call F n tot ω 31 [.ptr id 1 0 0] h = some (.tup [.str [], .int .i64 e], h) := by
  obtain ⟨n, rfl⟩ : ∃ m, n = m + 1 := ⟨n - 1, by omega⟩
  refine call_eq (fn := a31) f31 ?_
  unfold a31
  have hid' := hid
  unfold Rr at hid'
  unfold rdT at hr
  split at hr
  · rename_i e' hc
    cases hr
    have r1 := c46e (tot := tot) (ω := ω) (n := n) id s h hid hs (by omega) hc
    have he : (e != 0) = true := by
      rcases rdC_err hc with ⟨_, rfl | rfl⟩ | ⟨rfl, _⟩ <;> rfl
    simp (maxSteps := 2000000) (discharger := omega) only [xc, xo, xr, x0, x1, x2, x3, x4, x5, x6, xd, xe, xb, kont_call, kont_pure, isNil, slOk, sliceV, selems, srcElems, copyTo, dlen, eqAV, eqCells, eqS, upd, wr, place, partVals, partEs, placeEs, mapOf, keyOk, keyCells, findK, Bool.bne_false, Bool.bne_true, List.drop_zero, List.nil_append, List.append_nil, List.take_zero, List.cons_append, List.take_succ_cons, List.drop_succ_cons, List.take_nil, List.drop_nil, Reg.isA, Reg.isV, Reg.stays, Reg.onto, Bool.false_or, Bool.or_false, Bool.false_and, Bool.and_false, Bool.true_and, Bool.and_true, Bool.or_true, Bool.true_or, ↓reduceIte, reduceCtorEq, Nat.reduceEqDiff, Nat.reduceLT, Nat.reduceAdd, Nat.reduceMul, Nat.add_zero, Nat.zero_add, Nat.not_lt_zero, Nat.zero_ne_one, Nat.one_ne_zero, Nat.reduceLeDiff, Nat.lt_irrefl, Nat.zero_lt_succ, Bool.false_eq_true, Bool.not_true, Bool.not_false, Option.map_some, Option.map_none, Option.bind_some, Option.getD_some, Option.getD_none, and_self, and_true, true_and, List.length_cons, List.length_nil, List.any_nil, List.any_cons, Int.toNat_natCast, Int.cast_ofNat_Int, Int.natCast_zero, Int.natCast_nonneg, true_implies, or_true, true_or, false_or, or_false, beq_self_eq_true, Option.some.injEq, exists_eq_left', Int.reduceEq, Int.reduceLT, Int.reduceLE, Int.reduceGT, Int.reduceGE, Nat.reduceGT, Int.reduceNeg, Int.reduceToNat, Int.reduceAdd, Int.reduceMul, Int.reduceSub, Int.reducePow, decide_true, decide_false, decide_eq_true_eq, List.getElem?_cons_zero, List.getElem?_cons_succ, Nat.reduceBEq, Nat.reduceSub, exists_false, and_false, false_and, wrap_i64, hid', r1, he]
  · rename_i m k hc
    split at hr
    · rename_i hlt
      cases hr
      have r1 := c46o (tot := tot) (ω := ω) (n := n) id s h hid hs (by omega) hc
      have g1 := set_get hid (Rr (s.drop k))
      have r2 := c48e (tot := tot) (ω := ω) (n := n) id m _ _ g1 (by omega) hlt
      have he : ((0 : Int) != 0) = false := rfl
      have he2 : ((2 : Int) != 0) = true := rfl
      have g2 := g1
      unfold Rr at g2
      have hb := set_back hid (Rr (s.drop k))
      unfold Rr at r1 r2 hb
      simp (maxSteps := 2000000) (discharger := omega) only [xc, xo, xr, x0, x1, x2, x3, x4, x5, x6, xd, xe, xb, kont_call, kont_pure, isNil, slOk, sliceV, selems, srcElems, copyTo, dlen, eqAV, eqCells, eqS, upd, wr, place, partVals, partEs, placeEs, mapOf, keyOk, keyCells, findK, Bool.bne_false, Bool.bne_true, List.drop_zero, List.nil_append, List.append_nil, List.take_zero, List.cons_append, List.take_succ_cons, List.drop_succ_cons, List.take_nil, List.drop_nil, Reg.isA, Reg.isV, Reg.stays, Reg.onto, Bool.false_or, Bool.or_false, Bool.false_and, Bool.and_false, Bool.true_and, Bool.and_true, Bool.or_true, Bool.true_or, ↓reduceIte, reduceCtorEq, Nat.reduceEqDiff, Nat.reduceLT, Nat.reduceAdd, Nat.reduceMul, Nat.add_zero, Nat.zero_add, Nat.not_lt_zero, Nat.zero_ne_one, Nat.one_ne_zero, Nat.reduceLeDiff, Nat.lt_irrefl, Nat.zero_lt_succ, Bool.false_eq_true, Bool.not_true, Bool.not_false, Option.map_some, Option.map_none, Option.bind_some, Option.getD_some, Option.getD_none, and_self, and_true, true_and, List.length_cons, List.length_nil, List.any_nil, List.any_cons, Int.toNat_natCast, Int.cast_ofNat_Int, Int.natCast_zero, Int.natCast_nonneg, true_implies, or_true, true_or, false_or, or_false, beq_self_eq_true, Option.some.injEq, exists_eq_left', Int.reduceEq, Int.reduceLT, Int.reduceLE, Int.reduceGT, Int.reduceGE, Nat.reduceGT, Int.reduceNeg, Int.reduceToNat, Int.reduceAdd, Int.reduceMul, Int.reduceSub, Int.reducePow, decide_true, decide_false, decide_eq_true_eq, List.getElem?_cons_zero, List.getElem?_cons_succ, Nat.reduceBEq, Nat.reduceSub, exists_false, and_false, false_and, wrap_i64, hid', r1, r2, he, he2, g2, List.set_cons_zero, hb]
    · cases hr

theorem c31o {tot : Bool} {ω : Nat → Nat} {n : Nat} (id : Nat) (s : List UInt8) (h : Hp) (hid : h[id]? = some (Rr s)) (hs : s.length ≤ 1000000000000) (hn : s.length + 4 < n) {v : List UInt8} {k : Nat} (hr : rdT s = .ok v k) :
    call F n tot ω 31 [.ptr id 1 0 0] h = some (.tup [.str v, .int .i64 0], h.set id (Rr (s.drop k))) := by
  obtain ⟨n, rfl⟩ : ∃ m, n = m + 1 := ⟨n - 1, by omega⟩
  refine call_eq (fn := a31) f31 ?_
  unfold a31
  have hid' := hid
  unfold Rr at hid'
  unfold rdT at hr
  split at hr
  · cases hr
  · rename_i m k' hc
    split at hr
    · cases hr
    · rename_i hlt
      cases hr
      have r1 := c46o (tot := tot) (ω := ω) (n := n) id s h hid hs (by omega) hc
      have g1 := set_get hid (Rr (s.drop k'))
      have r2 := c48o (tot := tot) (ω := ω) (n := n) id m _ _ g1 (by omega) (by omega)
      have he : ((0 : Int) != 0) = false := rfl
      rw [List.set_set, List.drop_drop] at r2
      unfold Rr at r1 r2
      simp (maxSteps := 2000000) (discharger := omega) only [xc, xo, xr, x0, x1, x2, x3, x4, x5, x6, xd, xe, xb, kont_call, kont_pure, isNil, slOk, sliceV, selems, srcElems, copyTo, dlen, eqAV, eqCells, eqS, upd, wr, place, partVals, partEs, placeEs, mapOf, keyOk, keyCells, findK, Bool.bne_false, Bool.bne_true, List.drop_zero, List.nil_append, List.append_nil, List.take_zero, List.cons_append, List.take_succ_cons, List.drop_succ_cons, List.take_nil, List.drop_nil, Reg.isA, Reg.isV, Reg.stays, Reg.onto, Bool.false_or, Bool.or_false, Bool.false_and, Bool.and_false, Bool.true_and, Bool.and_true, Bool.or_true, Bool.true_or, ↓reduceIte, reduceCtorEq, Nat.reduceEqDiff, Nat.reduceLT, Nat.reduceAdd, Nat.reduceMul, Nat.add_zero, Nat.zero_add, Nat.not_lt_zero, Nat.zero_ne_one, Nat.one_ne_zero, Nat.reduceLeDiff, Nat.lt_irrefl, Nat.zero_lt_succ, Bool.false_eq_true, Bool.not_true, Bool.not_false, Option.map_some, Option.map_none, Option.bind_some, Option.getD_some, Option.getD_none, and_self, and_true, true_and, List.length_cons, List.length_nil, List.any_nil, List.any_cons, Int.toNat_natCast, Int.cast_ofNat_Int, Int.natCast_zero, Int.natCast_nonneg, true_implies, or_true, true_or, false_or, or_false, beq_self_eq_true, Option.some.injEq, exists_eq_left', Int.reduceEq, Int.reduceLT, Int.reduceLE, Int.reduceGT, Int.reduceGE, Nat.reduceGT, Int.reduceNeg, Int.reduceToNat, Int.reduceAdd, Int.reduceMul, Int.reduceSub, Int.reducePow, decide_true, decide_false, decide_eq_true_eq, List.getElem?_cons_zero, List.getElem?_cons_succ, Nat.reduceBEq, Nat.reduceSub, exists_false, and_false, false_and, wrap_i64, hid', r1, r2, he, Rr]

theorem c32 {tot : Bool} {ω : Nat → Nat} {n : Nat} (id : Nat) (s : List UInt8) (h : Hp) (hid : h[id]? = some (Rr s)) (hn : 2 < n) :
    call F n tot ω 32 [.ptr id 1 0 0] h = some (.int .i64 (if s = [] then 0 else 5), h) := by
  obtain ⟨n, rfl⟩ : ∃ m, n = m + 1 := ⟨n - 1, by omega⟩
  refine call_eq (fn := a32) f32 ?_
  unfold a32
  unfold Rr at hid
  by_cases hs : s = []
  · subst hs
    have hq : (([] : List UInt8) == []) = true := rfl
    simp (maxSteps := 2000000) (discharger := omega) only [xc, xo, xr, x0, x1, x2, x3, x4, x5, x6, xd, xe, xb, kont_call, kont_pure, isNil, slOk, sliceV, selems, srcElems, copyTo, dlen, eqAV, eqCells, eqS, upd, wr, place, partVals, partEs, placeEs, mapOf, keyOk, keyCells, findK, Bool.bne_false, Bool.bne_true, List.drop_zero, List.nil_append, List.append_nil, List.take_zero, List.cons_append, List.take_succ_cons, List.drop_succ_cons, List.take_nil, List.drop_nil, Reg.isA, Reg.isV, Reg.stays, Reg.onto, Bool.false_or, Bool.or_false, Bool.false_and, Bool.and_false, Bool.true_and, Bool.and_true, Bool.or_true, Bool.true_or, ↓reduceIte, reduceCtorEq, Nat.reduceEqDiff, Nat.reduceLT, Nat.reduceAdd, Nat.reduceMul, Nat.add_zero, Nat.zero_add, Nat.not_lt_zero, Nat.zero_ne_one, Nat.one_ne_zero, Nat.reduceLeDiff, Nat.lt_irrefl, Nat.zero_lt_succ, Bool.false_eq_true, Bool.not_true, Bool.not_false, Option.map_some, Option.map_none, Option.bind_some, Option.getD_some, Option.getD_none, and_self, and_true, true_and, List.length_cons, List.length_nil, List.any_nil, List.any_cons, Int.toNat_natCast, Int.cast_ofNat_Int, Int.natCast_zero, Int.natCast_nonneg, true_implies, or_true, true_or, false_or, or_false, beq_self_eq_true, Option.some.injEq, exists_eq_left', Int.reduceEq, Int.reduceLT, Int.reduceLE, Int.reduceGT, Int.reduceGE, Nat.reduceGT, Int.reduceNeg, Int.reduceToNat, Int.reduceAdd, Int.reduceMul, Int.reduceSub, Int.reducePow, decide_true, decide_false, decide_eq_true_eq, List.getElem?_cons_zero, List.getElem?_cons_succ, Nat.reduceBEq, Nat.reduceSub, exists_false, and_false, false_and, wrap_i64, hid, hq]
  · have hq : (s == []) = false := by simp [hs]
    simp (maxSteps := 2000000) (discharger := omega) only [xc, xo, xr, x0, x1, x2, x3, x4, x5, x6, xd, xe, xb, kont_call, kont_pure, isNil, slOk, sliceV, selems, srcElems, copyTo, dlen, eqAV, eqCells, eqS, upd, wr, place, partVals, partEs, placeEs, mapOf, keyOk, keyCells, findK, Bool.bne_false, Bool.bne_true, List.drop_zero, List.nil_append, List.append_nil, List.take_zero, List.cons_append, List.take_succ_cons, List.drop_succ_cons, List.take_nil, List.drop_nil, Reg.isA, Reg.isV, Reg.stays, Reg.onto, Bool.false_or, Bool.or_false, Bool.false_and, Bool.and_false, Bool.true_and, Bool.and_true, Bool.or_true, Bool.true_or, ↓reduceIte, reduceCtorEq, Nat.reduceEqDiff, Nat.reduceLT, Nat.reduceAdd, Nat.reduceMul, Nat.add_zero, Nat.zero_add, Nat.not_lt_zero, Nat.zero_ne_one, Nat.one_ne_zero, Nat.reduceLeDiff, Nat.lt_irrefl, Nat.zero_lt_succ, Bool.false_eq_true, Bool.not_true, Bool.not_false, Option.map_some, Option.map_none, Option.bind_some, Option.getD_some, Option.getD_none, and_self, and_true, true_and, List.length_cons, List.length_nil, List.any_nil, List.any_cons, Int.toNat_natCast, Int.cast_ofNat_Int, Int.natCast_zero, Int.natCast_nonneg, true_implies, or_true, true_or, false_or, or_false, beq_self_eq_true, Option.some.injEq, exists_eq_left', Int.reduceEq, Int.reduceLT, Int.reduceLE, Int.reduceGT, Int.reduceGE, Nat.reduceGT, Int.reduceNeg, Int.reduceToNat, Int.reduceAdd, Int.reduceMul, Int.reduceSub, Int.reducePow, decide_true, decide_false, decide_eq_true_eq, List.getElem?_cons_zero, List.getElem?_cons_succ, Nat.reduceBEq, Nat.reduceSub, exists_false, and_false, false_and, wrap_i64, hid, hq, hs]

end Go.Proofs.Ytlognommhffmcaa.Im

/- S13Rrd: the reference's readers. -/
set_option linter.unusedVariables false
set_option linter.unusedSimpArgs false
open Go Go.Im
namespace Go.Proofs.Ytlognommhffmcaa.Im

def rdWAV : PR Int → AV
  | .err e => .tup [.int .i64 0, .int .i64 0, .int .i64 e]
  | .ok v k => .tup [.int .i64 v, .int .i64 k, .int .i64 0]
def rdCAV : PR Nat → AV
  | .err e => .tup [.int .i64 0, .int .i64 0, .int .i64 e]
  | .ok v k => .tup [.int .i64 v, .int .i64 k, .int .i64 0]
def rdTAV : PR (List UInt8) → AV
  | .err e => .tup [.str [], .int .i64 0, .int .i64 e]
  | .ok v k => .tup [.str v, .int .i64 k, .int .i64 0]

def toW : NR → PR Int
  | .err e => .err e
  | .ok x b k => .ok (if b then -(x : Int) - 1 else x) k
theorem rdW_toW (s : List UInt8) : rdW s = toW (dec 0 0 s) := by
  unfold rdW toW; cases dec 0 0 s <;> rfl

theorem c36 {tot : Bool} {ω : Nat → Nat} {n : Nat} (s : List UInt8) (h : Hp) (hs : s.length ≤ 1000000000000) (hn : s.length + 2 < n) :
    call F n tot ω 36 [.str s] h = some (rdWAV (rdW s), h) := by
  obtain ⟨n, rfl⟩ : ∃ m, n = m + 1 := ⟨n - 1, by omega⟩
  refine call_eq (fn := a36) f36 ?_
  rw [rdW_toW]
  generalize hR : dec 0 0 s = R
  unfold a36
  simp (maxSteps := 2000000) (discharger := omega) only [xc, xo, xr, x0, x1, x2, x3, x4, x5, x6, xd, xe, xb, kont_call, kont_pure, isNil, slOk, sliceV, selems, srcElems, copyTo, dlen, eqAV, eqCells, eqS, upd, wr, place, partVals, partEs, placeEs, mapOf, keyOk, keyCells, findK, Bool.bne_false, Bool.bne_true, List.drop_zero, List.nil_append, List.append_nil, List.take_zero, List.cons_append, List.take_succ_cons, List.drop_succ_cons, List.take_nil, List.drop_nil, Reg.isA, Reg.isV, Reg.stays, Reg.onto, Bool.false_or, Bool.or_false, Bool.false_and, Bool.and_false, Bool.true_and, Bool.and_true, Bool.or_true, Bool.true_or, ↓reduceIte, reduceCtorEq, Nat.reduceEqDiff, Nat.reduceLT, Nat.reduceAdd, Nat.reduceMul, Nat.add_zero, Nat.zero_add, Nat.not_lt_zero, Nat.zero_ne_one, Nat.one_ne_zero, Nat.reduceLeDiff, Nat.lt_irrefl, Nat.zero_lt_succ, Bool.false_eq_true, Bool.not_true, Bool.not_false, Option.map_some, Option.map_none, Option.bind_some, Option.getD_some, Option.getD_none, and_self, and_true, true_and, List.length_cons, List.length_nil, List.any_nil, List.any_cons, Int.toNat_natCast, Int.cast_ofNat_Int, Int.natCast_zero, Int.natCast_nonneg, true_implies, or_true, true_or, false_or, or_false, beq_self_eq_true, Option.some.injEq, exists_eq_left', Int.reduceEq, Int.reduceLT, Int.reduceLE, Int.reduceGT, Int.reduceGE, Nat.reduceGT, Int.reduceNeg, Int.reduceToNat, Int.reduceAdd, Int.reduceMul, Int.reduceSub, Int.reducePow, decide_true, decide_false, decide_eq_true_eq, List.getElem?_cons_zero, List.getElem?_cons_succ, Nat.reduceBEq, Nat.reduceSub, exists_false, and_false, false_and, wrap_i64]
  refine wpi_loop (fun k r g => ∃ (x i : Nat), r = [(0, .val (.str s)), (5, .val (.int .u64 x)), (6, .val (.int .i64 i))] ∧ i + k = s.length ∧ x ≤ 9223372036854775807 ∧ dec x i (s.drop i) = R ∧ g = h) s.length (by omega) ⟨0, 0, rfl, by omega, by omega, hR, rfl⟩ ?_
  clear hR
  rintro k r g ⟨x, i, rfl, hik, hx, hd, rfl⟩
  by_cases hlt : i < s.length
  · have hlt' : ((i : Nat) : Int) < (s.length : Int) := by omega
    have hge : s[i]? = some s[i] := List.getElem?_eq_getElem hlt
    have hi0 : (0 : Int) ≤ (i : Int) := by omega
    rw [List.drop_eq_getElem_cons hlt] at hd
    have hc := s[i].toNat_lt
    generalize s[i] = c at *
    unfold dec at hd
    have ht := tm64 c.toNat
    by_cases A : 191 < c.toNat
    · rw [if_pos (.inl A)] at hd
      subst hd
      have A' : ((c.toNat : Nat) : Int) ≥ 192 := by omega
      simp (maxSteps := 2000000) (discharger := omega) only [xc, xo, xr, x0, x1, x2, x3, x4, x5, x6, xd, xe, xb, kont_call, kont_pure, isNil, slOk, sliceV, selems, srcElems, copyTo, dlen, eqAV, eqCells, eqS, upd, wr, place, partVals, partEs, placeEs, mapOf, keyOk, keyCells, findK, Bool.bne_false, Bool.bne_true, List.drop_zero, List.nil_append, List.append_nil, List.take_zero, List.cons_append, List.take_succ_cons, List.drop_succ_cons, List.take_nil, List.drop_nil, Reg.isA, Reg.isV, Reg.stays, Reg.onto, Bool.false_or, Bool.or_false, Bool.false_and, Bool.and_false, Bool.true_and, Bool.and_true, Bool.or_true, Bool.true_or, ↓reduceIte, reduceCtorEq, Nat.reduceEqDiff, Nat.reduceLT, Nat.reduceAdd, Nat.reduceMul, Nat.add_zero, Nat.zero_add, Nat.not_lt_zero, Nat.zero_ne_one, Nat.one_ne_zero, Nat.reduceLeDiff, Nat.lt_irrefl, Nat.zero_lt_succ, Bool.false_eq_true, Bool.not_true, Bool.not_false, Option.map_some, Option.map_none, Option.bind_some, Option.getD_some, Option.getD_none, and_self, and_true, true_and, List.length_cons, List.length_nil, List.any_nil, List.any_cons, Int.toNat_natCast, Int.cast_ofNat_Int, Int.natCast_zero, Int.natCast_nonneg, true_implies, or_true, true_or, false_or, or_false, beq_self_eq_true, Option.some.injEq, exists_eq_left', Int.reduceEq, Int.reduceLT, Int.reduceLE, Int.reduceGT, Int.reduceGE, Nat.reduceGT, Int.reduceNeg, Int.reduceToNat, Int.reduceAdd, Int.reduceMul, Int.reduceSub, Int.reducePow, decide_true, decide_false, decide_eq_true_eq, List.getElem?_cons_zero, List.getElem?_cons_succ, Nat.reduceBEq, Nat.reduceSub, exists_false, and_false, false_and, wrap_i64, hlt', hge, A', rdWAV, toW]
    · have A' : ¬ ((c.toNat : Nat) : Int) ≥ 192 := by omega
      by_cases C : i = 0 ∧ c.toNat = 0
      · rw [if_pos (.inr (.inr C))] at hd
        subst hd
        have C' : (((i : Nat) : Int) == 0) = true := by simp [C.1]
        have D' : (((c.toNat : Nat) : Int) == 0) = true := by rw [C.2]; rfl
        simp (maxSteps := 2000000) (discharger := omega) only [xc, xo, xr, x0, x1, x2, x3, x4, x5, x6, xd, xe, xb, kont_call, kont_pure, isNil, slOk, sliceV, selems, srcElems, copyTo, dlen, eqAV, eqCells, eqS, upd, wr, place, partVals, partEs, placeEs, mapOf, keyOk, keyCells, findK, Bool.bne_false, Bool.bne_true, List.drop_zero, List.nil_append, List.append_nil, List.take_zero, List.cons_append, List.take_succ_cons, List.drop_succ_cons, List.take_nil, List.drop_nil, Reg.isA, Reg.isV, Reg.stays, Reg.onto, Bool.false_or, Bool.or_false, Bool.false_and, Bool.and_false, Bool.true_and, Bool.and_true, Bool.or_true, Bool.true_or, ↓reduceIte, reduceCtorEq, Nat.reduceEqDiff, Nat.reduceLT, Nat.reduceAdd, Nat.reduceMul, Nat.add_zero, Nat.zero_add, Nat.not_lt_zero, Nat.zero_ne_one, Nat.one_ne_zero, Nat.reduceLeDiff, Nat.lt_irrefl, Nat.zero_lt_succ, Bool.false_eq_true, Bool.not_true, Bool.not_false, Option.map_some, Option.map_none, Option.bind_some, Option.getD_some, Option.getD_none, and_self, and_true, true_and, List.length_cons, List.length_nil, List.any_nil, List.any_cons, Int.toNat_natCast, Int.cast_ofNat_Int, Int.natCast_zero, Int.natCast_nonneg, true_implies, or_true, true_or, false_or, or_false, beq_self_eq_true, Option.some.injEq, exists_eq_left', Int.reduceEq, Int.reduceLT, Int.reduceLE, Int.reduceGT, Int.reduceGE, Nat.reduceGT, Int.reduceNeg, Int.reduceToNat, Int.reduceAdd, Int.reduceMul, Int.reduceSub, Int.reducePow, decide_true, decide_false, decide_eq_true_eq, List.getElem?_cons_zero, List.getElem?_cons_succ, Nat.reduceBEq, Nat.reduceSub, exists_false, and_false, false_and, wrap_i64, hlt', hge, A', C', D', rdWAV, toW]
      · have hCD : (((c.toNat : Nat) : Int) == 0) = false ∨ ((((c.toNat : Nat) : Int) == 0) = true ∧ (((i : Nat) : Int) == 0) = false) := by
          by_cases hi : c.toNat = 0
          · right; exact ⟨by simp [hi], by simp; omega⟩
          · left; simp; omega
        by_cases B : 144115188075855871 < x
        · rw [if_pos (.inr (.inl B))] at hd
          subst hd
          have B' : ((x : Nat) : Int) > 144115188075855871 := by omega
          rcases hCD with C' | ⟨C', D'⟩
          · simp (maxSteps := 2000000) (discharger := omega) only [xc, xo, xr, x0, x1, x2, x3, x4, x5, x6, xd, xe, xb, kont_call, kont_pure, isNil, slOk, sliceV, selems, srcElems, copyTo, dlen, eqAV, eqCells, eqS, upd, wr, place, partVals, partEs, placeEs, mapOf, keyOk, keyCells, findK, Bool.bne_false, Bool.bne_true, List.drop_zero, List.nil_append, List.append_nil, List.take_zero, List.cons_append, List.take_succ_cons, List.drop_succ_cons, List.take_nil, List.drop_nil, Reg.isA, Reg.isV, Reg.stays, Reg.onto, Bool.false_or, Bool.or_false, Bool.false_and, Bool.and_false, Bool.true_and, Bool.and_true, Bool.or_true, Bool.true_or, ↓reduceIte, reduceCtorEq, Nat.reduceEqDiff, Nat.reduceLT, Nat.reduceAdd, Nat.reduceMul, Nat.add_zero, Nat.zero_add, Nat.not_lt_zero, Nat.zero_ne_one, Nat.one_ne_zero, Nat.reduceLeDiff, Nat.lt_irrefl, Nat.zero_lt_succ, Bool.false_eq_true, Bool.not_true, Bool.not_false, Option.map_some, Option.map_none, Option.bind_some, Option.getD_some, Option.getD_none, and_self, and_true, true_and, List.length_cons, List.length_nil, List.any_nil, List.any_cons, Int.toNat_natCast, Int.cast_ofNat_Int, Int.natCast_zero, Int.natCast_nonneg, true_implies, or_true, true_or, false_or, or_false, beq_self_eq_true, Option.some.injEq, exists_eq_left', Int.reduceEq, Int.reduceLT, Int.reduceLE, Int.reduceGT, Int.reduceGE, Nat.reduceGT, Int.reduceNeg, Int.reduceToNat, Int.reduceAdd, Int.reduceMul, Int.reduceSub, Int.reducePow, decide_true, decide_false, decide_eq_true_eq, List.getElem?_cons_zero, List.getElem?_cons_succ, Nat.reduceBEq, Nat.reduceSub, exists_false, and_false, false_and, wrap_i64, hlt', hge, A', B', C', rdWAV, toW]
          · simp (maxSteps := 2000000) (discharger := omega) only [xc, xo, xr, x0, x1, x2, x3, x4, x5, x6, xd, xe, xb, kont_call, kont_pure, isNil, slOk, sliceV, selems, srcElems, copyTo, dlen, eqAV, eqCells, eqS, upd, wr, place, partVals, partEs, placeEs, mapOf, keyOk, keyCells, findK, Bool.bne_false, Bool.bne_true, List.drop_zero, List.nil_append, List.append_nil, List.take_zero, List.cons_append, List.take_succ_cons, List.drop_succ_cons, List.take_nil, List.drop_nil, Reg.isA, Reg.isV, Reg.stays, Reg.onto, Bool.false_or, Bool.or_false, Bool.false_and, Bool.and_false, Bool.true_and, Bool.and_true, Bool.or_true, Bool.true_or, ↓reduceIte, reduceCtorEq, Nat.reduceEqDiff, Nat.reduceLT, Nat.reduceAdd, Nat.reduceMul, Nat.add_zero, Nat.zero_add, Nat.not_lt_zero, Nat.zero_ne_one, Nat.one_ne_zero, Nat.reduceLeDiff, Nat.lt_irrefl, Nat.zero_lt_succ, Bool.false_eq_true, Bool.not_true, Bool.not_false, Option.map_some, Option.map_none, Option.bind_some, Option.getD_some, Option.getD_none, and_self, and_true, true_and, List.length_cons, List.length_nil, List.any_nil, List.any_cons, Int.toNat_natCast, Int.cast_ofNat_Int, Int.natCast_zero, Int.natCast_nonneg, true_implies, or_true, true_or, false_or, or_false, beq_self_eq_true, Option.some.injEq, exists_eq_left', Int.reduceEq, Int.reduceLT, Int.reduceLE, Int.reduceGT, Int.reduceGE, Nat.reduceGT, Int.reduceNeg, Int.reduceToNat, Int.reduceAdd, Int.reduceMul, Int.reduceSub, Int.reducePow, decide_true, decide_false, decide_eq_true_eq, List.getElem?_cons_zero, List.getElem?_cons_succ, Nat.reduceBEq, Nat.reduceSub, exists_false, and_false, false_and, wrap_i64, hlt', hge, A', B', C', D', rdWAV, toW]
        · have B' : ¬ ((x : Nat) : Int) > 144115188075855871 := by omega
          rw [if_neg (by omega)] at hd
          have w3 : (64 : Int) * (x : Int) + ((c.toNat % 64 : Nat) : Int) = ((64 * x + c.toNat % 64 : Nat) : Int) := by omega
          by_cases E : 63 < c.toNat
          · rw [if_pos E] at hd
            subst hd
            have E' : ((c.toNat : Nat) : Int) ≥ 64 := by omega
            by_cases G : 127 < c.toNat
            · have G' : ((c.toNat : Nat) : Int) ≥ 128 := by omega
              have G2 : decide (127 < c.toNat) = true := by simp [G]
              have hz : (-1 : Int) - ((64 * x + c.toNat % 64 : Nat) : Int) = -((64 * x + c.toNat % 64 : Nat) : Int) - 1 := by omega
              rw [G2]
              rcases hCD with C' | ⟨C', D'⟩
              · simp (maxSteps := 2000000) (discharger := omega) only [xc, xo, xr, x0, x1, x2, x3, x4, x5, x6, xd, xe, xb, kont_call, kont_pure, isNil, slOk, sliceV, selems, srcElems, copyTo, dlen, eqAV, eqCells, eqS, upd, wr, place, partVals, partEs, placeEs, mapOf, keyOk, keyCells, findK, Bool.bne_false, Bool.bne_true, List.drop_zero, List.nil_append, List.append_nil, List.take_zero, List.cons_append, List.take_succ_cons, List.drop_succ_cons, List.take_nil, List.drop_nil, Reg.isA, Reg.isV, Reg.stays, Reg.onto, Bool.false_or, Bool.or_false, Bool.false_and, Bool.and_false, Bool.true_and, Bool.and_true, Bool.or_true, Bool.true_or, ↓reduceIte, reduceCtorEq, Nat.reduceEqDiff, Nat.reduceLT, Nat.reduceAdd, Nat.reduceMul, Nat.add_zero, Nat.zero_add, Nat.not_lt_zero, Nat.zero_ne_one, Nat.one_ne_zero, Nat.reduceLeDiff, Nat.lt_irrefl, Nat.zero_lt_succ, Bool.false_eq_true, Bool.not_true, Bool.not_false, Option.map_some, Option.map_none, Option.bind_some, Option.getD_some, Option.getD_none, and_self, and_true, true_and, List.length_cons, List.length_nil, List.any_nil, List.any_cons, Int.toNat_natCast, Int.cast_ofNat_Int, Int.natCast_zero, Int.natCast_nonneg, true_implies, or_true, true_or, false_or, or_false, beq_self_eq_true, Option.some.injEq, exists_eq_left', Int.reduceEq, Int.reduceLT, Int.reduceLE, Int.reduceGT, Int.reduceGE, Nat.reduceGT, Int.reduceNeg, Int.reduceToNat, Int.reduceAdd, Int.reduceMul, Int.reduceSub, Int.reducePow, decide_true, decide_false, decide_eq_true_eq, List.getElem?_cons_zero, List.getElem?_cons_succ, Nat.reduceBEq, Nat.reduceSub, exists_false, and_false, false_and, wrap_i64, hlt', hge, A', B', C', E', G', ht, w3, wrap_u64, hz, rdWAV, toW]
                rfl
              · simp (maxSteps := 2000000) (discharger := omega) only [xc, xo, xr, x0, x1, x2, x3, x4, x5, x6, xd, xe, xb, kont_call, kont_pure, isNil, slOk, sliceV, selems, srcElems, copyTo, dlen, eqAV, eqCells, eqS, upd, wr, place, partVals, partEs, placeEs, mapOf, keyOk, keyCells, findK, Bool.bne_false, Bool.bne_true, List.drop_zero, List.nil_append, List.append_nil, List.take_zero, List.cons_append, List.take_succ_cons, List.drop_succ_cons, List.take_nil, List.drop_nil, Reg.isA, Reg.isV, Reg.stays, Reg.onto, Bool.false_or, Bool.or_false, Bool.false_and, Bool.and_false, Bool.true_and, Bool.and_true, Bool.or_true, Bool.true_or, ↓reduceIte, reduceCtorEq, Nat.reduceEqDiff, Nat.reduceLT, Nat.reduceAdd, Nat.reduceMul, Nat.add_zero, Nat.zero_add, Nat.not_lt_zero, Nat.zero_ne_one, Nat.one_ne_zero, Nat.reduceLeDiff, Nat.lt_irrefl, Nat.zero_lt_succ, Bool.false_eq_true, Bool.not_true, Bool.not_false, Option.map_some, Option.map_none, Option.bind_some, Option.getD_some, Option.getD_none, and_self, and_true, true_and, List.length_cons, List.length_nil, List.any_nil, List.any_cons, Int.toNat_natCast, Int.cast_ofNat_Int, Int.natCast_zero, Int.natCast_nonneg, true_implies, or_true, true_or, false_or, or_false, beq_self_eq_true, Option.some.injEq, exists_eq_left', Int.reduceEq, Int.reduceLT, Int.reduceLE, Int.reduceGT, Int.reduceGE, Nat.reduceGT, Int.reduceNeg, Int.reduceToNat, Int.reduceAdd, Int.reduceMul, Int.reduceSub, Int.reducePow, decide_true, decide_false, decide_eq_true_eq, List.getElem?_cons_zero, List.getElem?_cons_succ, Nat.reduceBEq, Nat.reduceSub, exists_false, and_false, false_and, wrap_i64, hlt', hge, A', B', C', D', E', G', ht, w3, wrap_u64, hz, rdWAV, toW]
                rfl
            · have G' : ¬ ((c.toNat : Nat) : Int) ≥ 128 := by omega
              have G2 : decide (127 < c.toNat) = false := by simp [G]
              rw [G2]
              rcases hCD with C' | ⟨C', D'⟩
              · simp (maxSteps := 2000000) (discharger := omega) only [xc, xo, xr, x0, x1, x2, x3, x4, x5, x6, xd, xe, xb, kont_call, kont_pure, isNil, slOk, sliceV, selems, srcElems, copyTo, dlen, eqAV, eqCells, eqS, upd, wr, place, partVals, partEs, placeEs, mapOf, keyOk, keyCells, findK, Bool.bne_false, Bool.bne_true, List.drop_zero, List.nil_append, List.append_nil, List.take_zero, List.cons_append, List.take_succ_cons, List.drop_succ_cons, List.take_nil, List.drop_nil, Reg.isA, Reg.isV, Reg.stays, Reg.onto, Bool.false_or, Bool.or_false, Bool.false_and, Bool.and_false, Bool.true_and, Bool.and_true, Bool.or_true, Bool.true_or, ↓reduceIte, reduceCtorEq, Nat.reduceEqDiff, Nat.reduceLT, Nat.reduceAdd, Nat.reduceMul, Nat.add_zero, Nat.zero_add, Nat.not_lt_zero, Nat.zero_ne_one, Nat.one_ne_zero, Nat.reduceLeDiff, Nat.lt_irrefl, Nat.zero_lt_succ, Bool.false_eq_true, Bool.not_true, Bool.not_false, Option.map_some, Option.map_none, Option.bind_some, Option.getD_some, Option.getD_none, and_self, and_true, true_and, List.length_cons, List.length_nil, List.any_nil, List.any_cons, Int.toNat_natCast, Int.cast_ofNat_Int, Int.natCast_zero, Int.natCast_nonneg, true_implies, or_true, true_or, false_or, or_false, beq_self_eq_true, Option.some.injEq, exists_eq_left', Int.reduceEq, Int.reduceLT, Int.reduceLE, Int.reduceGT, Int.reduceGE, Nat.reduceGT, Int.reduceNeg, Int.reduceToNat, Int.reduceAdd, Int.reduceMul, Int.reduceSub, Int.reducePow, decide_true, decide_false, decide_eq_true_eq, List.getElem?_cons_zero, List.getElem?_cons_succ, Nat.reduceBEq, Nat.reduceSub, exists_false, and_false, false_and, wrap_i64, hlt', hge, A', B', C', E', G', ht, w3, wrap_u64, rdWAV, toW]
                rfl
              · simp (maxSteps := 2000000) (discharger := omega) only [xc, xo, xr, x0, x1, x2, x3, x4, x5, x6, xd, xe, xb, kont_call, kont_pure, isNil, slOk, sliceV, selems, srcElems, copyTo, dlen, eqAV, eqCells, eqS, upd, wr, place, partVals, partEs, placeEs, mapOf, keyOk, keyCells, findK, Bool.bne_false, Bool.bne_true, List.drop_zero, List.nil_append, List.append_nil, List.take_zero, List.cons_append, List.take_succ_cons, List.drop_succ_cons, List.take_nil, List.drop_nil, Reg.isA, Reg.isV, Reg.stays, Reg.onto, Bool.false_or, Bool.or_false, Bool.false_and, Bool.and_false, Bool.true_and, Bool.and_true, Bool.or_true, Bool.true_or, ↓reduceIte, reduceCtorEq, Nat.reduceEqDiff, Nat.reduceLT, Nat.reduceAdd, Nat.reduceMul, Nat.add_zero, Nat.zero_add, Nat.not_lt_zero, Nat.zero_ne_one, Nat.one_ne_zero, Nat.reduceLeDiff, Nat.lt_irrefl, Nat.zero_lt_succ, Bool.false_eq_true, Bool.not_true, Bool.not_false, Option.map_some, Option.map_none, Option.bind_some, Option.getD_some, Option.getD_none, and_self, and_true, true_and, List.length_cons, List.length_nil, List.any_nil, List.any_cons, Int.toNat_natCast, Int.cast_ofNat_Int, Int.natCast_zero, Int.natCast_nonneg, true_implies, or_true, true_or, false_or, or_false, beq_self_eq_true, Option.some.injEq, exists_eq_left', Int.reduceEq, Int.reduceLT, Int.reduceLE, Int.reduceGT, Int.reduceGE, Nat.reduceGT, Int.reduceNeg, Int.reduceToNat, Int.reduceAdd, Int.reduceMul, Int.reduceSub, Int.reducePow, decide_true, decide_false, decide_eq_true_eq, List.getElem?_cons_zero, List.getElem?_cons_succ, Nat.reduceBEq, Nat.reduceSub, exists_false, and_false, false_and, wrap_i64, hlt', hge, A', B', C', D', E', G', ht, w3, wrap_u64, rdWAV, toW]
                rfl
          · rw [if_neg E] at hd
            have E' : ¬ ((c.toNat : Nat) : Int) ≥ 64 := by omega
            have G' : ¬ ((c.toNat : Nat) : Int) ≥ 128 := by omega
            rcases hCD with C' | ⟨C', D'⟩
            · simp (maxSteps := 2000000) (discharger := omega) only [xc, xo, xr, x0, x1, x2, x3, x4, x5, x6, xd, xe, xb, kont_call, kont_pure, isNil, slOk, sliceV, selems, srcElems, copyTo, dlen, eqAV, eqCells, eqS, upd, wr, place, partVals, partEs, placeEs, mapOf, keyOk, keyCells, findK, Bool.bne_false, Bool.bne_true, List.drop_zero, List.nil_append, List.append_nil, List.take_zero, List.cons_append, List.take_succ_cons, List.drop_succ_cons, List.take_nil, List.drop_nil, Reg.isA, Reg.isV, Reg.stays, Reg.onto, Bool.false_or, Bool.or_false, Bool.false_and, Bool.and_false, Bool.true_and, Bool.and_true, Bool.or_true, Bool.true_or, ↓reduceIte, reduceCtorEq, Nat.reduceEqDiff, Nat.reduceLT, Nat.reduceAdd, Nat.reduceMul, Nat.add_zero, Nat.zero_add, Nat.not_lt_zero, Nat.zero_ne_one, Nat.one_ne_zero, Nat.reduceLeDiff, Nat.lt_irrefl, Nat.zero_lt_succ, Bool.false_eq_true, Bool.not_true, Bool.not_false, Option.map_some, Option.map_none, Option.bind_some, Option.getD_some, Option.getD_none, and_self, and_true, true_and, List.length_cons, List.length_nil, List.any_nil, List.any_cons, Int.toNat_natCast, Int.cast_ofNat_Int, Int.natCast_zero, Int.natCast_nonneg, true_implies, or_true, true_or, false_or, or_false, beq_self_eq_true, Option.some.injEq, exists_eq_left', Int.reduceEq, Int.reduceLT, Int.reduceLE, Int.reduceGT, Int.reduceGE, Nat.reduceGT, Int.reduceNeg, Int.reduceToNat, Int.reduceAdd, Int.reduceMul, Int.reduceSub, Int.reducePow, decide_true, decide_false, decide_eq_true_eq, List.getElem?_cons_zero, List.getElem?_cons_succ, Nat.reduceBEq, Nat.reduceSub, exists_false, and_false, false_and, wrap_i64, hlt', hge, A', B', C', E', G', ht, w3, wrap_u64]
              exact ⟨k - 1, by omega, _, i + 1, rfl, by omega, by omega, hd⟩
            · simp (maxSteps := 2000000) (discharger := omega) only [xc, xo, xr, x0, x1, x2, x3, x4, x5, x6, xd, xe, xb, kont_call, kont_pure, isNil, slOk, sliceV, selems, srcElems, copyTo, dlen, eqAV, eqCells, eqS, upd, wr, place, partVals, partEs, placeEs, mapOf, keyOk, keyCells, findK, Bool.bne_false, Bool.bne_true, List.drop_zero, List.nil_append, List.append_nil, List.take_zero, List.cons_append, List.take_succ_cons, List.drop_succ_cons, List.take_nil, List.drop_nil, Reg.isA, Reg.isV, Reg.stays, Reg.onto, Bool.false_or, Bool.or_false, Bool.false_and, Bool.and_false, Bool.true_and, Bool.and_true, Bool.or_true, Bool.true_or, ↓reduceIte, reduceCtorEq, Nat.reduceEqDiff, Nat.reduceLT, Nat.reduceAdd, Nat.reduceMul, Nat.add_zero, Nat.zero_add, Nat.not_lt_zero, Nat.zero_ne_one, Nat.one_ne_zero, Nat.reduceLeDiff, Nat.lt_irrefl, Nat.zero_lt_succ, Bool.false_eq_true, Bool.not_true, Bool.not_false, Option.map_some, Option.map_none, Option.bind_some, Option.getD_some, Option.getD_none, and_self, and_true, true_and, List.length_cons, List.length_nil, List.any_nil, List.any_cons, Int.toNat_natCast, Int.cast_ofNat_Int, Int.natCast_zero, Int.natCast_nonneg, true_implies, or_true, true_or, false_or, or_false, beq_self_eq_true, Option.some.injEq, exists_eq_left', Int.reduceEq, Int.reduceLT, Int.reduceLE, Int.reduceGT, Int.reduceGE, Nat.reduceGT, Int.reduceNeg, Int.reduceToNat, Int.reduceAdd, Int.reduceMul, Int.reduceSub, Int.reducePow, decide_true, decide_false, decide_eq_true_eq, List.getElem?_cons_zero, List.getElem?_cons_succ, Nat.reduceBEq, Nat.reduceSub, exists_false, and_false, false_and, wrap_i64, hlt', hge, A', B', C', D', E', G', ht, w3, wrap_u64]
              exact ⟨k - 1, by omega, _, i + 1, rfl, by omega, by omega, hd⟩
  · have hlt' : ¬ ((i : Nat) : Int) < (s.length : Int) := by omega
    rw [List.drop_of_length_le (by omega)] at hd
    unfold dec at hd
    subst hd
    simp (maxSteps := 2000000) (discharger := omega) only [xc, xo, xr, x0, x1, x2, x3, x4, x5, x6, xd, xe, xb, kont_call, kont_pure, isNil, slOk, sliceV, selems, srcElems, copyTo, dlen, eqAV, eqCells, eqS, upd, wr, place, partVals, partEs, placeEs, mapOf, keyOk, keyCells, findK, Bool.bne_false, Bool.bne_true, List.drop_zero, List.nil_append, List.append_nil, List.take_zero, List.cons_append, List.take_succ_cons, List.drop_succ_cons, List.take_nil, List.drop_nil, Reg.isA, Reg.isV, Reg.stays, Reg.onto, Bool.false_or, Bool.or_false, Bool.false_and, Bool.and_false, Bool.true_and, Bool.and_true, Bool.or_true, Bool.true_or, ↓reduceIte, reduceCtorEq, Nat.reduceEqDiff, Nat.reduceLT, Nat.reduceAdd, Nat.reduceMul, Nat.add_zero, Nat.zero_add, Nat.not_lt_zero, Nat.zero_ne_one, Nat.one_ne_zero, Nat.reduceLeDiff, Nat.lt_irrefl, Nat.zero_lt_succ, Bool.false_eq_true, Bool.not_true, Bool.not_false, Option.map_some, Option.map_none, Option.bind_some, Option.getD_some, Option.getD_none, and_self, and_true, true_and, List.length_cons, List.length_nil, List.any_nil, List.any_cons, Int.toNat_natCast, Int.cast_ofNat_Int, Int.natCast_zero, Int.natCast_nonneg, true_implies, or_true, true_or, false_or, or_false, beq_self_eq_true, Option.some.injEq, exists_eq_left', Int.reduceEq, Int.reduceLT, Int.reduceLE, Int.reduceGT, Int.reduceGE, Nat.reduceGT, Int.reduceNeg, Int.reduceToNat, Int.reduceAdd, Int.reduceMul, Int.reduceSub, Int.reducePow, decide_true, decide_false, decide_eq_true_eq, List.getElem?_cons_zero, List.getElem?_cons_succ, Nat.reduceBEq, Nat.reduceSub, exists_false, and_false, false_and, wrap_i64, hlt', rdWAV, toW]

theorem c35 {tot : Bool} {ω : Nat → Nat} {n : Nat} (s : List UInt8) (h : Hp) (hs : s.length ≤ 1000000000000) (hn : s.length + 3 < n) :
    call F n tot ω 35 [.str s] h = some (rdCAV (rdC s), h) := by
  obtain ⟨n, rfl⟩ : ∃ m, n = m + 1 := ⟨n - 1, by omega⟩
  refine call_eq (fn := a35) f35 ?_
  unfold a35
  have r1 := c36 (tot := tot) (ω := ω) (n := n) s h hs (by omega)
  rw [rdW_toW] at r1
  unfold rdC
  have hb := @dec_ok
  cases hd : dec 0 0 s with
  | err e =>
    rw [hd] at r1
    unfold toW rdWAV at r1
    have he2 : (e == 0) = false := by rcases dec_err hd with rfl | rfl <;> rfl
    simp (maxSteps := 2000000) (discharger := omega) only [xc, xo, xr, x0, x1, x2, x3, x4, x5, x6, xd, xe, xb, kont_call, kont_pure, isNil, slOk, sliceV, selems, srcElems, copyTo, dlen, eqAV, eqCells, eqS, upd, wr, place, partVals, partEs, placeEs, mapOf, keyOk, keyCells, findK, Bool.bne_false, Bool.bne_true, List.drop_zero, List.nil_append, List.append_nil, List.take_zero, List.cons_append, List.take_succ_cons, List.drop_succ_cons, List.take_nil, List.drop_nil, Reg.isA, Reg.isV, Reg.stays, Reg.onto, Bool.false_or, Bool.or_false, Bool.false_and, Bool.and_false, Bool.true_and, Bool.and_true, Bool.or_true, Bool.true_or, ↓reduceIte, reduceCtorEq, Nat.reduceEqDiff, Nat.reduceLT, Nat.reduceAdd, Nat.reduceMul, Nat.add_zero, Nat.zero_add, Nat.not_lt_zero, Nat.zero_ne_one, Nat.one_ne_zero, Nat.reduceLeDiff, Nat.lt_irrefl, Nat.zero_lt_succ, Bool.false_eq_true, Bool.not_true, Bool.not_false, Option.map_some, Option.map_none, Option.bind_some, Option.getD_some, Option.getD_none, and_self, and_true, true_and, List.length_cons, List.length_nil, List.any_nil, List.any_cons, Int.toNat_natCast, Int.cast_ofNat_Int, Int.natCast_zero, Int.natCast_nonneg, true_implies, or_true, true_or, false_or, or_false, beq_self_eq_true, Option.some.injEq, exists_eq_left', Int.reduceEq, Int.reduceLT, Int.reduceLE, Int.reduceGT, Int.reduceGE, Nat.reduceGT, Int.reduceNeg, Int.reduceToNat, Int.reduceAdd, Int.reduceMul, Int.reduceSub, Int.reducePow, decide_true, decide_false, decide_eq_true_eq, List.getElem?_cons_zero, List.getElem?_cons_succ, Nat.reduceBEq, Nat.reduceSub, exists_false, and_false, false_and, wrap_i64, r1, he2, rdCAV]
  | ok x b k =>
    rw [hd] at r1
    unfold toW rdWAV at r1
    have hb := dec_ok hd
    have he : ((0 : Int) == 0) = true := rfl
    cases b with
    | true =>
      have hneg : -(x : Int) - 1 < 0 := by omega
      simp only [if_true] at r1
      simp (maxSteps := 2000000) (discharger := omega) only [xc, xo, xr, x0, x1, x2, x3, x4, x5, x6, xd, xe, xb, kont_call, kont_pure, isNil, slOk, sliceV, selems, srcElems, copyTo, dlen, eqAV, eqCells, eqS, upd, wr, place, partVals, partEs, placeEs, mapOf, keyOk, keyCells, findK, Bool.bne_false, Bool.bne_true, List.drop_zero, List.nil_append, List.append_nil, List.take_zero, List.cons_append, List.take_succ_cons, List.drop_succ_cons, List.take_nil, List.drop_nil, Reg.isA, Reg.isV, Reg.stays, Reg.onto, Bool.false_or, Bool.or_false, Bool.false_and, Bool.and_false, Bool.true_and, Bool.and_true, Bool.or_true, Bool.true_or, ↓reduceIte, reduceCtorEq, Nat.reduceEqDiff, Nat.reduceLT, Nat.reduceAdd, Nat.reduceMul, Nat.add_zero, Nat.zero_add, Nat.not_lt_zero, Nat.zero_ne_one, Nat.one_ne_zero, Nat.reduceLeDiff, Nat.lt_irrefl, Nat.zero_lt_succ, Bool.false_eq_true, Bool.not_true, Bool.not_false, Option.map_some, Option.map_none, Option.bind_some, Option.getD_some, Option.getD_none, and_self, and_true, true_and, List.length_cons, List.length_nil, List.any_nil, List.any_cons, Int.toNat_natCast, Int.cast_ofNat_Int, Int.natCast_zero, Int.natCast_nonneg, true_implies, or_true, true_or, false_or, or_false, beq_self_eq_true, Option.some.injEq, exists_eq_left', Int.reduceEq, Int.reduceLT, Int.reduceLE, Int.reduceGT, Int.reduceGE, Nat.reduceGT, Int.reduceNeg, Int.reduceToNat, Int.reduceAdd, Int.reduceMul, Int.reduceSub, Int.reducePow, decide_true, decide_false, decide_eq_true_eq, List.getElem?_cons_zero, List.getElem?_cons_succ, Nat.reduceBEq, Nat.reduceSub, exists_false, and_false, false_and, wrap_i64, r1, he, hneg, rdCAV]
    | false =>
      have hneg : ¬ (x : Int) < 0 := by omega
      simp only [Bool.false_eq_true, if_false] at r1
      simp (maxSteps := 2000000) (discharger := omega) only [xc, xo, xr, x0, x1, x2, x3, x4, x5, x6, xd, xe, xb, kont_call, kont_pure, isNil, slOk, sliceV, selems, srcElems, copyTo, dlen, eqAV, eqCells, eqS, upd, wr, place, partVals, partEs, placeEs, mapOf, keyOk, keyCells, findK, Bool.bne_false, Bool.bne_true, List.drop_zero, List.nil_append, List.append_nil, List.take_zero, List.cons_append, List.take_succ_cons, List.drop_succ_cons, List.take_nil, List.drop_nil, Reg.isA, Reg.isV, Reg.stays, Reg.onto, Bool.false_or, Bool.or_false, Bool.false_and, Bool.and_false, Bool.true_and, Bool.and_true, Bool.or_true, Bool.true_or, ↓reduceIte, reduceCtorEq, Nat.reduceEqDiff, Nat.reduceLT, Nat.reduceAdd, Nat.reduceMul, Nat.add_zero, Nat.zero_add, Nat.not_lt_zero, Nat.zero_ne_one, Nat.one_ne_zero, Nat.reduceLeDiff, Nat.lt_irrefl, Nat.zero_lt_succ, Bool.false_eq_true, Bool.not_true, Bool.not_false, Option.map_some, Option.map_none, Option.bind_some, Option.getD_some, Option.getD_none, and_self, and_true, true_and, List.length_cons, List.length_nil, List.any_nil, List.any_cons, Int.toNat_natCast, Int.cast_ofNat_Int, Int.natCast_zero, Int.natCast_nonneg, true_implies, or_true, true_or, false_or, or_false, beq_self_eq_true, Option.some.injEq, exists_eq_left', Int.reduceEq, Int.reduceLT, Int.reduceLE, Int.reduceGT, Int.reduceGE, Nat.reduceGT, Int.reduceNeg, Int.reduceToNat, Int.reduceAdd, Int.reduceMul, Int.reduceSub, Int.reducePow, decide_true, decide_false, decide_eq_true_eq, List.getElem?_cons_zero, List.getElem?_cons_succ, Nat.reduceBEq, Nat.reduceSub, exists_false, and_false, false_and, wrap_i64, r1, he, hneg, rdCAV]

theorem c50e {tot : Bool} {ω : Nat → Nat} {n : Nat} (m : Nat) (s : List UInt8) (h : Hp) (hn : 2 < n) (hm : s.length < m) :
    call F n tot ω 50 [.str s, .int .i64 m] h = some (.tup [.str [], .int .i64 0, .int .i64 2], h) := by
  obtain ⟨n, rfl⟩ : ∃ m, n = m + 1 := ⟨n - 1, by omega⟩
  refine call_eq (fn := a50) f50 ?_
  unfold a50
  have h0 : ¬ ((m : Nat) : Int) < 0 := by omega
  have h1 : ((m : Nat) : Int) > (s.length : Int) := by omega
  simp (maxSteps := 2000000) (discharger := omega) only [xc, xo, xr, x0, x1, x2, x3, x4, x5, x6, xd, xe, xb, kont_call, kont_pure, isNil, slOk, sliceV, selems, srcElems, copyTo, dlen, eqAV, eqCells, eqS, upd, wr, place, partVals, partEs, placeEs, mapOf, keyOk, keyCells, findK, Bool.bne_false, Bool.bne_true, List.drop_zero, List.nil_append, List.append_nil, List.take_zero, List.cons_append, List.take_succ_cons, List.drop_succ_cons, List.take_nil, List.drop_nil, Reg.isA, Reg.isV, Reg.stays, Reg.onto, Bool.false_or, Bool.or_false, Bool.false_and, Bool.and_false, Bool.true_and, Bool.and_true, Bool.or_true, Bool.true_or, ↓reduceIte, reduceCtorEq, Nat.reduceEqDiff, Nat.reduceLT, Nat.reduceAdd, Nat.reduceMul, Nat.add_zero, Nat.zero_add, Nat.not_lt_zero, Nat.zero_ne_one, Nat.one_ne_zero, Nat.reduceLeDiff, Nat.lt_irrefl, Nat.zero_lt_succ, Bool.false_eq_true, Bool.not_true, Bool.not_false, Option.map_some, Option.map_none, Option.bind_some, Option.getD_some, Option.getD_none, and_self, and_true, true_and, List.length_cons, List.length_nil, List.any_nil, List.any_cons, Int.toNat_natCast, Int.cast_ofNat_Int, Int.natCast_zero, Int.natCast_nonneg, true_implies, or_true, true_or, false_or, or_false, beq_self_eq_true, Option.some.injEq, exists_eq_left', Int.reduceEq, Int.reduceLT, Int.reduceLE, Int.reduceGT, Int.reduceGE, Nat.reduceGT, Int.reduceNeg, Int.reduceToNat, Int.reduceAdd, Int.reduceMul, Int.reduceSub, Int.reducePow, decide_true, decide_false, decide_eq_true_eq, List.getElem?_cons_zero, List.getElem?_cons_succ, Nat.reduceBEq, Nat.reduceSub, exists_false, and_false, false_and, wrap_i64, h0, h1]
theorem c50o {tot : Bool} {ω : Nat → Nat} {n : Nat} (m : Nat) (s : List UInt8) (h : Hp) (hn : 2 < n) (hm : m ≤ s.length) :
    call F n tot ω 50 [.str s, .int .i64 m] h = some (.tup [.str (s.take m), .int .i64 m, .int .i64 0], h) := by
  obtain ⟨n, rfl⟩ : ∃ m, n = m + 1 := ⟨n - 1, by omega⟩
  refine call_eq (fn := a50) f50 ?_
  unfold a50
  have h0 : ¬ ((m : Nat) : Int) < 0 := by omega
  have h1 : ¬ ((m : Nat) : Int) > (s.length : Int) := by omega
  have h2 : (0 : Int) ≤ (m : Int) := by omega
  have h3 : (m : Int) ≤ (s.length : Int) := by omega
  have hz : (0 : Int).toNat = 0 := rfl
  simp (maxSteps := 2000000) (discharger := omega) only [xc, xo, xr, x0, x1, x2, x3, x4, x5, x6, xd, xe, xb, kont_call, kont_pure, isNil, slOk, sliceV, selems, srcElems, copyTo, dlen, eqAV, eqCells, eqS, upd, wr, place, partVals, partEs, placeEs, mapOf, keyOk, keyCells, findK, Bool.bne_false, Bool.bne_true, List.drop_zero, List.nil_append, List.append_nil, List.take_zero, List.cons_append, List.take_succ_cons, List.drop_succ_cons, List.take_nil, List.drop_nil, Reg.isA, Reg.isV, Reg.stays, Reg.onto, Bool.false_or, Bool.or_false, Bool.false_and, Bool.and_false, Bool.true_and, Bool.and_true, Bool.or_true, Bool.true_or, ↓reduceIte, reduceCtorEq, Nat.reduceEqDiff, Nat.reduceLT, Nat.reduceAdd, Nat.reduceMul, Nat.add_zero, Nat.zero_add, Nat.not_lt_zero, Nat.zero_ne_one, Nat.one_ne_zero, Nat.reduceLeDiff, Nat.lt_irrefl, Nat.zero_lt_succ, Bool.false_eq_true, Bool.not_true, Bool.not_false, Option.map_some, Option.map_none, Option.bind_some, Option.getD_some, Option.getD_none, and_self, and_true, true_and, List.length_cons, List.length_nil, List.any_nil, List.any_cons, Int.toNat_natCast, Int.cast_ofNat_Int, Int.natCast_zero, Int.natCast_nonneg, true_implies, or_true, true_or, false_or, or_false, beq_self_eq_true, Option.some.injEq, exists_eq_left', Int.reduceEq, Int.reduceLT, Int.reduceLE, Int.reduceGT, Int.reduceGE, Nat.reduceGT, Int.reduceNeg, Int.reduceToNat, Int.reduceAdd, Int.reduceMul, Int.reduceSub, Int.reducePow, decide_true, decide_false, decide_eq_true_eq, List.getElem?_cons_zero, List.getElem?_cons_succ, Nat.reduceBEq, Nat.reduceSub, exists_false, and_false, false_and, wrap_i64, h0, h1, h2, h3, hz, Int.le_refl]

theorem c37 {tot : Bool} {ω : Nat → Nat} {n : Nat} (s : List UInt8) (h : Hp) (hs : s.length ≤ 1000000000000) (hn : s.length + 4 < n) :
    call F n tot ω 37 [.str s] h = some (rdTAV (rdT s), h) := by
  obtain ⟨n, rfl⟩ : ∃ m, n = m + 1 := ⟨n - 1, by omega⟩
  refine call_eq (fn := a37) f37 ?_
  unfold a37
  have r1 := c35 (tot := tot) (ω := ω) (n := n) s h hs (by omega)
  unfold rdT
  cases hc : rdC s with
  | err e =>
    rw [hc] at r1
    unfold rdCAV at r1
    have he : (e != 0) = true := by
      rcases rdC_err hc with ⟨_, rfl | rfl⟩ | ⟨rfl, _⟩ <;> rfl
    simp (maxSteps := 2000000) (discharger := omega) only [xc, xo, xr, x0, x1, x2, x3, x4, x5, x6, xd, xe, xb, kont_call, kont_pure, isNil, slOk, sliceV, selems, srcElems, copyTo, dlen, eqAV, eqCells, eqS, upd, wr, place, partVals, partEs, placeEs, mapOf, keyOk, keyCells, findK, Bool.bne_false, Bool.bne_true, List.drop_zero, List.nil_append, List.append_nil, List.take_zero, List.cons_append, List.take_succ_cons, List.drop_succ_cons, List.take_nil, List.drop_nil, Reg.isA, Reg.isV, Reg.stays, Reg.onto, Bool.false_or, Bool.or_false, Bool.false_and, Bool.and_false, Bool.true_and, Bool.and_true, Bool.or_true, Bool.true_or, ↓reduceIte, reduceCtorEq, Nat.reduceEqDiff, Nat.reduceLT, Nat.reduceAdd, Nat.reduceMul, Nat.add_zero, Nat.zero_add, Nat.not_lt_zero, Nat.zero_ne_one, Nat.one_ne_zero, Nat.reduceLeDiff, Nat.lt_irrefl, Nat.zero_lt_succ, Bool.false_eq_true, Bool.not_true, Bool.not_false, Option.map_some, Option.map_none, Option.bind_some, Option.getD_some, Option.getD_none, and_self, and_true, true_and, List.length_cons, List.length_nil, List.any_nil, List.any_cons, Int.toNat_natCast, Int.cast_ofNat_Int, Int.natCast_zero, Int.natCast_nonneg, true_implies, or_true, true_or, false_or, or_false, beq_self_eq_true, Option.some.injEq, exists_eq_left', Int.reduceEq, Int.reduceLT, Int.reduceLE, Int.reduceGT, Int.reduceGE, Nat.reduceGT, Int.reduceNeg, Int.reduceToNat, Int.reduceAdd, Int.reduceMul, Int.reduceSub, Int.reducePow, decide_true, decide_false, decide_eq_true_eq, List.getElem?_cons_zero, List.getElem?_cons_succ, Nat.reduceBEq, Nat.reduceSub, exists_false, and_false, false_and, wrap_i64, r1, he, rdTAV]
  | ok m k =>
    rw [hc] at r1
    unfold rdCAV at r1
    have hb := dec_ok (rdC_ok hc)
    have he : ((0 : Int) != 0) = false := rfl
    have hkl : ((k : Nat) : Int) ≤ (s.length : Int) := by omega
    have ht : List.take s.length s = s := List.take_length
    by_cases hlt : (s.drop k).length < m
    · have r2 := c50e (tot := tot) (ω := ω) (n := n) m (s.drop k) h (by omega) hlt
      have he2 : ((2 : Int) != 0) = true := rfl
      simp (maxSteps := 2000000) (discharger := omega) only [xc, xo, xr, x0, x1, x2, x3, x4, x5, x6, xd, xe, xb, kont_call, kont_pure, isNil, slOk, sliceV, selems, srcElems, copyTo, dlen, eqAV, eqCells, eqS, upd, wr, place, partVals, partEs, placeEs, mapOf, keyOk, keyCells, findK, Bool.bne_false, Bool.bne_true, List.drop_zero, List.nil_append, List.append_nil, List.take_zero, List.cons_append, List.take_succ_cons, List.drop_succ_cons, List.take_nil, List.drop_nil, Reg.isA, Reg.isV, Reg.stays, Reg.onto, Bool.false_or, Bool.or_false, Bool.false_and, Bool.and_false, Bool.true_and, Bool.and_true, Bool.or_true, Bool.true_or, ↓reduceIte, reduceCtorEq, Nat.reduceEqDiff, Nat.reduceLT, Nat.reduceAdd, Nat.reduceMul, Nat.add_zero, Nat.zero_add, Nat.not_lt_zero, Nat.zero_ne_one, Nat.one_ne_zero, Nat.reduceLeDiff, Nat.lt_irrefl, Nat.zero_lt_succ, Bool.false_eq_true, Bool.not_true, Bool.not_false, Option.map_some, Option.map_none, Option.bind_some, Option.getD_some, Option.getD_none, and_self, and_true, true_and, List.length_cons, List.length_nil, List.any_nil, List.any_cons, Int.toNat_natCast, Int.cast_ofNat_Int, Int.natCast_zero, Int.natCast_nonneg, true_implies, or_true, true_or, false_or, or_false, beq_self_eq_true, Option.some.injEq, exists_eq_left', Int.reduceEq, Int.reduceLT, Int.reduceLE, Int.reduceGT, Int.reduceGE, Nat.reduceGT, Int.reduceNeg, Int.reduceToNat, Int.reduceAdd, Int.reduceMul, Int.reduceSub, Int.reducePow, decide_true, decide_false, decide_eq_true_eq, List.getElem?_cons_zero, List.getElem?_cons_succ, Nat.reduceBEq, Nat.reduceSub, exists_false, and_false, false_and, wrap_i64, r1, he, he2, hkl, ht, Int.le_refl, r2, hlt, rdTAV]
    · have r2 := c50o (tot := tot) (ω := ω) (n := n) m (s.drop k) h (by omega) (by omega)
      have hml : m ≤ s.length := by simp at hlt; omega
      simp (maxSteps := 2000000) (discharger := omega) only [xc, xo, xr, x0, x1, x2, x3, x4, x5, x6, xd, xe, xb, kont_call, kont_pure, isNil, slOk, sliceV, selems, srcElems, copyTo, dlen, eqAV, eqCells, eqS, upd, wr, place, partVals, partEs, placeEs, mapOf, keyOk, keyCells, findK, Bool.bne_false, Bool.bne_true, List.drop_zero, List.nil_append, List.append_nil, List.take_zero, List.cons_append, List.take_succ_cons, List.drop_succ_cons, List.take_nil, List.drop_nil, Reg.isA, Reg.isV, Reg.stays, Reg.onto, Bool.false_or, Bool.or_false, Bool.false_and, Bool.and_false, Bool.true_and, Bool.and_true, Bool.or_true, Bool.true_or, ↓reduceIte, reduceCtorEq, Nat.reduceEqDiff, Nat.reduceLT, Nat.reduceAdd, Nat.reduceMul, Nat.add_zero, Nat.zero_add, Nat.not_lt_zero, Nat.zero_ne_one, Nat.one_ne_zero, Nat.reduceLeDiff, Nat.lt_irrefl, Nat.zero_lt_succ, Bool.false_eq_true, Bool.not_true, Bool.not_false, Option.map_some, Option.map_none, Option.bind_some, Option.getD_some, Option.getD_none, and_self, and_true, true_and, List.length_cons, List.length_nil, List.any_nil, List.any_cons, Int.toNat_natCast, Int.cast_ofNat_Int, Int.natCast_zero, Int.natCast_nonneg, true_implies, or_true, true_or, false_or, or_false, beq_self_eq_true, Option.some.injEq, exists_eq_left', Int.reduceEq, Int.reduceLT, Int.reduceLE, Int.reduceGT, Int.reduceGE, Nat.reduceGT, Int.reduceNeg, Int.reduceToNat, Int.reduceAdd, Int.reduceMul, Int.reduceSub, Int.reducePow, decide_true, decide_false, decide_eq_true_eq, List.getElem?_cons_zero, List.getElem?_cons_succ, Nat.reduceBEq, Nat.reduceSub, exists_false, and_false, false_and, wrap_i64, r1, he, hkl, ht, Int.le_refl, r2, hlt, rdTAV]
      rfl

end Go.Proofs.Ytlognommhffmcaa.Im

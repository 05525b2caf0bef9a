/- Joined: S13Ru, S13Inv. -/
import Derived.Test.YtlognommhffmcaaTl
/- S13Ru: lists of edits read: the reference. -/
set_option linter.unusedVariables false
set_option linter.unusedSimpArgs false
open Go Go.Im
namespace Go.Proofs.Ytlognommhffmcaa.Im

def finL (q : QR (List Ed)) : Int ⊕ List Ed := match q with
  | .err e => .inl e
  | .ok l rest => if rest = [] then .inr l else .inl 5
theorem rdU_fin (s : List UInt8) : rdU s = finL (rdL s) := rfl

/-- How many numbers an edit has, as far as is known behind its first j ones. -/
def kk (j : Nat) (k : Int) : Int := if j < 2 then 2 else if k = 1 then 4 else if k = 3 then 3 else 2

theorem rdE_nil : rdE [] = .err 2 := rfl

theorem rdT_pos {s v : List UInt8} {k : Nat} (h : rdT s = .ok v k) : 0 < k ∧ k ≤ s.length := by
  unfold rdT at h
  split at h
  · cases h
  · rename_i m k' hc
    have := dec_ok (rdC_ok hc)
    split at h
    · cases h
    · cases h
      rename_i h1
      rw [List.length_drop] at h1
      omega

set_option maxRecDepth 100000 in
set_option maxHeartbeats 8000000 in
theorem c12 {tot : Bool} {ω : Nat → Nat} {n : Nat} (s : List UInt8) (h : Hp) (hs : s.length ≤ 1000000000) (hn : s.length + 15 < n) :
    ∃ v h', call F n tot ω 12 [.str s] h = some (v, h') ∧ UnP (rdU s) v := by
  obtain ⟨n, rfl⟩ : ∃ m, n = m + 1 := ⟨n - 1, by omega⟩
  refine call_of (fn := a12) f12 (P := fun v _ => UnP (rdU s) v) ?_
  rw [rdU_fin]
  unfold a12
  have r1 := c35 (tot := tot) (ω := ω) (n := n) s h (by omega) (by omega)
  unfold rdL
  cases hc : rdC s with
  | err e =>
    have h23 : e = 2 ∨ e = 3 := by rcases rdC_err hc with ⟨_, h⟩ | ⟨h, _⟩; exact h; exact .inr h
    have he : (e != 0) = true := by rcases h23 with rfl | rfl <;> rfl
    rw [hc] at r1
    unfold rdCAV at r1
    simp (maxSteps := 2000000) (discharger := omega) only [xc, xo, xr, x0, x1, x2, x3, x4, x5, x6, xd, xe, xb, kont_call, kont_pure, isNil, slOk, sliceV, selems, srcElems, copyTo, dlen, eqAV, eqCells, eqS, upd, wr, place, partVals, partEs, placeEs, mapOf, keyOk, keyCells, findK, Bool.bne_false, Bool.bne_true, List.drop_zero, List.nil_append, List.append_nil, List.take_zero, List.cons_append, List.take_succ_cons, List.drop_succ_cons, List.take_nil, List.drop_nil, Reg.isA, Reg.isV, Reg.stays, Reg.onto, Bool.false_or, Bool.or_false, Bool.false_and, Bool.and_false, Bool.true_and, Bool.and_true, Bool.or_true, Bool.true_or, ↓reduceIte, reduceCtorEq, Nat.reduceEqDiff, Nat.reduceLT, Nat.reduceAdd, Nat.reduceMul, Nat.add_zero, Nat.zero_add, Nat.not_lt_zero, Nat.zero_ne_one, Nat.one_ne_zero, Nat.reduceLeDiff, Nat.lt_irrefl, Nat.zero_lt_succ, Bool.false_eq_true, Bool.not_true, Bool.not_false, Option.map_some, Option.map_none, Option.bind_some, Option.getD_some, Option.getD_none, and_self, and_true, true_and, List.length_cons, List.length_nil, List.any_nil, List.any_cons, Int.toNat_natCast, Int.cast_ofNat_Int, Int.natCast_zero, Int.natCast_nonneg, true_implies, or_true, true_or, false_or, or_false, beq_self_eq_true, Option.some.injEq, exists_eq_left', Int.reduceEq, Int.reduceLT, Int.reduceLE, Int.reduceGT, Int.reduceGE, Nat.reduceGT, Int.reduceNeg, Int.reduceToNat, Int.reduceAdd, Int.reduceMul, Int.reduceSub, Int.reducePow, decide_true, decide_false, decide_eq_true_eq, List.getElem?_cons_zero, List.getElem?_cons_succ, Nat.reduceBEq, Nat.reduceSub, exists_false, and_false, false_and, wrap_i64, r1, he]
    exact ⟨rfl, by omega⟩
  | ok m k0 =>
    rw [hc] at r1
    unfold rdCAV at r1
    have hb := dec_ok (rdC_ok hc)
    have he : ((0 : Int) != 0) = false := rfl
    have ht : List.take s.length s = s := List.take_length
    show Wp _ _ _ _ _ (Ret _ fun v _ => UnP (finL (goL [] m (s.drop k0))) v)
    generalize hR : goL [] m (s.drop k0) = R
    simp (maxSteps := 2000000) (discharger := omega) only [xc, xo, xr, x0, x1, x2, x3, x4, x5, x6, xd, xe, xb, kont_call, kont_pure, isNil, slOk, sliceV, selems, srcElems, copyTo, dlen, eqAV, eqCells, eqS, upd, wr, place, partVals, partEs, placeEs, mapOf, keyOk, keyCells, findK, Bool.bne_false, Bool.bne_true, List.drop_zero, List.nil_append, List.append_nil, List.take_zero, List.cons_append, List.take_succ_cons, List.drop_succ_cons, List.take_nil, List.drop_nil, Reg.isA, Reg.isV, Reg.stays, Reg.onto, Bool.false_or, Bool.or_false, Bool.false_and, Bool.and_false, Bool.true_and, Bool.and_true, Bool.or_true, Bool.true_or, ↓reduceIte, reduceCtorEq, Nat.reduceEqDiff, Nat.reduceLT, Nat.reduceAdd, Nat.reduceMul, Nat.add_zero, Nat.zero_add, Nat.not_lt_zero, Nat.zero_ne_one, Nat.one_ne_zero, Nat.reduceLeDiff, Nat.lt_irrefl, Nat.zero_lt_succ, Bool.false_eq_true, Bool.not_true, Bool.not_false, Option.map_some, Option.map_none, Option.bind_some, Option.getD_some, Option.getD_none, and_self, and_true, true_and, List.length_cons, List.length_nil, List.any_nil, List.any_cons, Int.toNat_natCast, Int.cast_ofNat_Int, Int.natCast_zero, Int.natCast_nonneg, true_implies, or_true, true_or, false_or, or_false, beq_self_eq_true, Option.some.injEq, exists_eq_left', Int.reduceEq, Int.reduceLT, Int.reduceLE, Int.reduceGT, Int.reduceGE, Nat.reduceGT, Int.reduceNeg, Int.reduceToNat, Int.reduceAdd, Int.reduceMul, Int.reduceSub, Int.reducePow, decide_true, decide_false, decide_eq_true_eq, List.getElem?_cons_zero, List.getElem?_cons_succ, Nat.reduceBEq, Nat.reduceSub, exists_false, and_false, false_and, wrap_i64, r1, he]
    refine wpi_loop (fun q r g => ∃ (lv : AV) (i a : Nat) (acc : List Ed), r = [(0, .val (.str s)), (4, .val (.int .i64 m)), (5, .val (.int .i64 a)), (7, .val lv), (8, .val (.int .i64 i))] ∧ a ≤ s.length ∧
      IsApp 6 (edsOf acc) g lv ∧ acc.length = i ∧ i ≤ m ∧ i ≤ a ∧ goL acc (m - i) (s.drop a) = R ∧ q = s.length - a) (s.length - k0) (by omega)
      ⟨.nils, 0, k0, [], rfl, by omega, .inl ⟨rfl, rfl⟩, rfl, by omega, by omega, hR, rfl⟩ ?_
    clear hR
    rintro q r g ⟨lv, i, a, acc, rfl, ha, hv, rfl, hm, hia, hR, rfl⟩
    by_cases hlt : acc.length < m
    · have hlt' : ((acc.length : Nat) : Int) < (m : Int) := by omega
      obtain ⟨m', hm'⟩ : ∃ m', m - acc.length = m' + 1 := ⟨m - acc.length - 1, by omega⟩
      rw [hm'] at hR
      have hRe : ∀ e, rdE (s.drop a) = .err e → R = .err e := by
        intro e hE
        rw [← hR]
        by_cases h0 : s.drop a = []
        · rw [h0] at hE; rw [rdE_nil] at hE; cases hE; simp [goL, h0]
        · simp [goL, h0, hE]
      have hRo : ∀ x rest, rdE (s.drop a) = .ok x rest → R = goL (acc ++ [x]) m' rest := by
        intro x rest hE
        rw [← hR]
        by_cases h0 : s.drop a = []
        · rw [h0] at hE; rw [rdE_nil] at hE; cases hE
        · simp [goL, h0, hE]
      clear hR
      simp (maxSteps := 2000000) (discharger := omega) only [xc, xo, xr, x0, x1, x2, x3, x4, x5, x6, xd, xe, xb, kont_call, kont_pure, isNil, slOk, sliceV, selems, srcElems, copyTo, dlen, eqAV, eqCells, eqS, upd, wr, place, partVals, partEs, placeEs, mapOf, keyOk, keyCells, findK, Bool.bne_false, Bool.bne_true, List.drop_zero, List.nil_append, List.append_nil, List.take_zero, List.cons_append, List.take_succ_cons, List.drop_succ_cons, List.take_nil, List.drop_nil, Reg.isA, Reg.isV, Reg.stays, Reg.onto, Bool.false_or, Bool.or_false, Bool.false_and, Bool.and_false, Bool.true_and, Bool.and_true, Bool.or_true, Bool.true_or, ↓reduceIte, reduceCtorEq, Nat.reduceEqDiff, Nat.reduceLT, Nat.reduceAdd, Nat.reduceMul, Nat.add_zero, Nat.zero_add, Nat.not_lt_zero, Nat.zero_ne_one, Nat.one_ne_zero, Nat.reduceLeDiff, Nat.lt_irrefl, Nat.zero_lt_succ, Bool.false_eq_true, Bool.not_true, Bool.not_false, Option.map_some, Option.map_none, Option.bind_some, Option.getD_some, Option.getD_none, and_self, and_true, true_and, List.length_cons, List.length_nil, List.any_nil, List.any_cons, Int.toNat_natCast, Int.cast_ofNat_Int, Int.natCast_zero, Int.natCast_nonneg, true_implies, or_true, true_or, false_or, or_false, beq_self_eq_true, Option.some.injEq, exists_eq_left', Int.reduceEq, Int.reduceLT, Int.reduceLE, Int.reduceGT, Int.reduceGE, Nat.reduceGT, Int.reduceNeg, Int.reduceToNat, Int.reduceAdd, Int.reduceMul, Int.reduceSub, Int.reducePow, decide_true, decide_false, decide_eq_true_eq, List.getElem?_cons_zero, List.getElem?_cons_succ, Nat.reduceBEq, Nat.reduceSub, exists_false, and_false, false_and, wrap_i64, hlt']
      refine wpi_loop (fun q2 r g' => ∃ (j : Nat) (kd f l c : Int) (b : Nat), r = [(0, .val (.str s)), (4, .val (.int .i64 m)), (5, .val (.int .i64 b)), (7, .val lv), (8, .val (.int .i64 acc.length)), (9, .var (.agg [.int .i64 kd, .int .i64 f, .int .i64 l, .int .i64 c])), (10, .val (.int .i64 (kk j kd))), (11, .val (.int .i64 j))] ∧ g' = g ∧
        b ≤ s.length ∧ goE j kd f l c (s.drop b) = rdE (s.drop a) ∧ j + q2 = 4 ∧ a ≤ b ∧ (0 < j → a < b)) 4 (by omega) ⟨0, 0, 0, 0, 0, a, rfl, rfl, by omega, rfl, by omega, by omega, by omega⟩ ?_
      rintro q2 r g' ⟨j, kd, f, l, c, b, rfl, rfl, hb2, hgo, hjq, hab, hab2⟩
      have hbl : ((b : Nat) : Int) ≤ (s.length : Int) := by omega
      have r2 := c36 (tot := tot) (ω := ω) (n := n) (s.drop b) g' (by simp; omega) (by simp; omega)
      by_cases hjk : (j : Int) < kk j kd
      · match j, hjq with
        | 0, hjq =>
          have hk0 : kk 0 kd = 2 := rfl
          rw [hk0]
          cases hr : rdW (s.drop b) with
          | err e =>
            have h23 := rdW_e23 hr
            have he1 : (e != 0) = true := by rcases h23 with rfl | rfl <;> rfl
            have hRR := hRe e (by rw [← hgo]; simp only [goE, go0, hr])
            rw [hr] at r2
            unfold rdWAV at r2
            simp (maxSteps := 2000000) (discharger := omega) only [xc, xo, xr, x0, x1, x2, x3, x4, x5, x6, xd, xe, xb, kont_call, kont_pure, isNil, slOk, sliceV, selems, srcElems, copyTo, dlen, eqAV, eqCells, eqS, upd, wr, place, partVals, partEs, placeEs, mapOf, keyOk, keyCells, findK, Bool.bne_false, Bool.bne_true, List.drop_zero, List.nil_append, List.append_nil, List.take_zero, List.cons_append, List.take_succ_cons, List.drop_succ_cons, List.take_nil, List.drop_nil, Reg.isA, Reg.isV, Reg.stays, Reg.onto, Bool.false_or, Bool.or_false, Bool.false_and, Bool.and_false, Bool.true_and, Bool.and_true, Bool.or_true, Bool.true_or, ↓reduceIte, reduceCtorEq, Nat.reduceEqDiff, Nat.reduceLT, Nat.reduceAdd, Nat.reduceMul, Nat.add_zero, Nat.zero_add, Nat.not_lt_zero, Nat.zero_ne_one, Nat.one_ne_zero, Nat.reduceLeDiff, Nat.lt_irrefl, Nat.zero_lt_succ, Bool.false_eq_true, Bool.not_true, Bool.not_false, Option.map_some, Option.map_none, Option.bind_some, Option.getD_some, Option.getD_none, and_self, and_true, true_and, List.length_cons, List.length_nil, List.any_nil, List.any_cons, Int.toNat_natCast, Int.cast_ofNat_Int, Int.natCast_zero, Int.natCast_nonneg, true_implies, or_true, true_or, false_or, or_false, beq_self_eq_true, Option.some.injEq, exists_eq_left', Int.reduceEq, Int.reduceLT, Int.reduceLE, Int.reduceGT, Int.reduceGE, Nat.reduceGT, Int.reduceNeg, Int.reduceToNat, Int.reduceAdd, Int.reduceMul, Int.reduceSub, Int.reducePow, decide_true, decide_false, decide_eq_true_eq, List.getElem?_cons_zero, List.getElem?_cons_succ, Nat.reduceBEq, Nat.reduceSub, exists_false, and_false, false_and, wrap_i64, hbl, ht, Int.le_refl, r2, he1]
            rw [hRR]
            exact ⟨rfl, by omega⟩
          | ok v w =>
            have hp := rdW_pos hr
            rw [List.length_drop] at hp
            rw [hr] at r2
            unfold rdWAV at r2
            simp (maxSteps := 2000000) (discharger := omega) only [xc, xo, xr, x0, x1, x2, x3, x4, x5, x6, xd, xe, xb, kont_call, kont_pure, isNil, slOk, sliceV, selems, srcElems, copyTo, dlen, eqAV, eqCells, eqS, upd, wr, place, partVals, partEs, placeEs, mapOf, keyOk, keyCells, findK, Bool.bne_false, Bool.bne_true, List.drop_zero, List.nil_append, List.append_nil, List.take_zero, List.cons_append, List.take_succ_cons, List.drop_succ_cons, List.take_nil, List.drop_nil, Reg.isA, Reg.isV, Reg.stays, Reg.onto, Bool.false_or, Bool.or_false, Bool.false_and, Bool.and_false, Bool.true_and, Bool.and_true, Bool.or_true, Bool.true_or, ↓reduceIte, reduceCtorEq, Nat.reduceEqDiff, Nat.reduceLT, Nat.reduceAdd, Nat.reduceMul, Nat.add_zero, Nat.zero_add, Nat.not_lt_zero, Nat.zero_ne_one, Nat.one_ne_zero, Nat.reduceLeDiff, Nat.lt_irrefl, Nat.zero_lt_succ, Bool.false_eq_true, Bool.not_true, Bool.not_false, Option.map_some, Option.map_none, Option.bind_some, Option.getD_some, Option.getD_none, and_self, and_true, true_and, List.length_cons, List.length_nil, List.any_nil, List.any_cons, Int.toNat_natCast, Int.cast_ofNat_Int, Int.natCast_zero, Int.natCast_nonneg, true_implies, or_true, true_or, false_or, or_false, beq_self_eq_true, Option.some.injEq, exists_eq_left', Int.reduceEq, Int.reduceLT, Int.reduceLE, Int.reduceGT, Int.reduceGE, Nat.reduceGT, Int.reduceNeg, Int.reduceToNat, Int.reduceAdd, Int.reduceMul, Int.reduceSub, Int.reducePow, decide_true, decide_false, decide_eq_true_eq, List.getElem?_cons_zero, List.getElem?_cons_succ, Nat.reduceBEq, Nat.reduceSub, exists_false, and_false, false_and, wrap_i64, hbl, ht, Int.le_refl, r2, he, List.set_cons_zero, List.set_cons_succ, show ((0 : Int) == 1) = false from rfl]
            exact ⟨3, by omega, 1, v, f, l, c, b + w, by simp [kk], by omega, by rw [← hgo]; simp [goE, go0, hr], by omega, by omega, by omega⟩
        | 1, hjq =>
          have hk0 : kk 1 kd = 2 := rfl
          rw [hk0]
          cases hr : rdW (s.drop b) with
          | err e =>
            have h23 := rdW_e23 hr
            have he1 : (e != 0) = true := by rcases h23 with rfl | rfl <;> rfl
            have hRR := hRe e (by rw [← hgo]; simp [goE, go1, hr])
            rw [hr] at r2
            unfold rdWAV at r2
            simp (maxSteps := 2000000) (discharger := omega) only [xc, xo, xr, x0, x1, x2, x3, x4, x5, x6, xd, xe, xb, kont_call, kont_pure, isNil, slOk, sliceV, selems, srcElems, copyTo, dlen, eqAV, eqCells, eqS, upd, wr, place, partVals, partEs, placeEs, mapOf, keyOk, keyCells, findK, Bool.bne_false, Bool.bne_true, List.drop_zero, List.nil_append, List.append_nil, List.take_zero, List.cons_append, List.take_succ_cons, List.drop_succ_cons, List.take_nil, List.drop_nil, Reg.isA, Reg.isV, Reg.stays, Reg.onto, Bool.false_or, Bool.or_false, Bool.false_and, Bool.and_false, Bool.true_and, Bool.and_true, Bool.or_true, Bool.true_or, ↓reduceIte, reduceCtorEq, Nat.reduceEqDiff, Nat.reduceLT, Nat.reduceAdd, Nat.reduceMul, Nat.add_zero, Nat.zero_add, Nat.not_lt_zero, Nat.zero_ne_one, Nat.one_ne_zero, Nat.reduceLeDiff, Nat.lt_irrefl, Nat.zero_lt_succ, Bool.false_eq_true, Bool.not_true, Bool.not_false, Option.map_some, Option.map_none, Option.bind_some, Option.getD_some, Option.getD_none, and_self, and_true, true_and, List.length_cons, List.length_nil, List.any_nil, List.any_cons, Int.toNat_natCast, Int.cast_ofNat_Int, Int.natCast_zero, Int.natCast_nonneg, true_implies, or_true, true_or, false_or, or_false, beq_self_eq_true, Option.some.injEq, exists_eq_left', Int.reduceEq, Int.reduceLT, Int.reduceLE, Int.reduceGT, Int.reduceGE, Nat.reduceGT, Int.reduceNeg, Int.reduceToNat, Int.reduceAdd, Int.reduceMul, Int.reduceSub, Int.reducePow, decide_true, decide_false, decide_eq_true_eq, List.getElem?_cons_zero, List.getElem?_cons_succ, Nat.reduceBEq, Nat.reduceSub, exists_false, and_false, false_and, wrap_i64, hbl, ht, Int.le_refl, r2, he1]
            rw [hRR]
            exact ⟨rfl, by omega⟩
          | ok v w =>
            have hp := rdW_pos hr
            rw [List.length_drop] at hp
            rw [hr] at r2
            unfold rdWAV at r2
            by_cases k1 : kd = 1
            · have q1 : (kd == 1) = true := by simp [k1]
              have q3 : (kd == 3) = false := by simp [k1]
              simp (maxSteps := 2000000) (discharger := omega) only [xc, xo, xr, x0, x1, x2, x3, x4, x5, x6, xd, xe, xb, kont_call, kont_pure, isNil, slOk, sliceV, selems, srcElems, copyTo, dlen, eqAV, eqCells, eqS, upd, wr, place, partVals, partEs, placeEs, mapOf, keyOk, keyCells, findK, Bool.bne_false, Bool.bne_true, List.drop_zero, List.nil_append, List.append_nil, List.take_zero, List.cons_append, List.take_succ_cons, List.drop_succ_cons, List.take_nil, List.drop_nil, Reg.isA, Reg.isV, Reg.stays, Reg.onto, Bool.false_or, Bool.or_false, Bool.false_and, Bool.and_false, Bool.true_and, Bool.and_true, Bool.or_true, Bool.true_or, ↓reduceIte, reduceCtorEq, Nat.reduceEqDiff, Nat.reduceLT, Nat.reduceAdd, Nat.reduceMul, Nat.add_zero, Nat.zero_add, Nat.not_lt_zero, Nat.zero_ne_one, Nat.one_ne_zero, Nat.reduceLeDiff, Nat.lt_irrefl, Nat.zero_lt_succ, Bool.false_eq_true, Bool.not_true, Bool.not_false, Option.map_some, Option.map_none, Option.bind_some, Option.getD_some, Option.getD_none, and_self, and_true, true_and, List.length_cons, List.length_nil, List.any_nil, List.any_cons, Int.toNat_natCast, Int.cast_ofNat_Int, Int.natCast_zero, Int.natCast_nonneg, true_implies, or_true, true_or, false_or, or_false, beq_self_eq_true, Option.some.injEq, exists_eq_left', Int.reduceEq, Int.reduceLT, Int.reduceLE, Int.reduceGT, Int.reduceGE, Nat.reduceGT, Int.reduceNeg, Int.reduceToNat, Int.reduceAdd, Int.reduceMul, Int.reduceSub, Int.reducePow, decide_true, decide_false, decide_eq_true_eq, List.getElem?_cons_zero, List.getElem?_cons_succ, Nat.reduceBEq, Nat.reduceSub, exists_false, and_false, false_and, wrap_i64, hbl, ht, Int.le_refl, r2, he, List.set_cons_zero, List.set_cons_succ, show ((1 : Int) == 1) = true from rfl, q1, q3]
              exact ⟨2, by omega, 2, kd, v, l, c, b + w, by simp [kk, k1], by omega, by rw [← hgo]; simp [goE, go1, hr], by omega, by omega, by omega⟩
            · have q1 : (kd == 1) = false := by simp [k1]
              by_cases k3 : kd = 3
              · have q3 : (kd == 3) = true := by simp [k3]
                simp (maxSteps := 2000000) (discharger := omega) only [xc, xo, xr, x0, x1, x2, x3, x4, x5, x6, xd, xe, xb, kont_call, kont_pure, isNil, slOk, sliceV, selems, srcElems, copyTo, dlen, eqAV, eqCells, eqS, upd, wr, place, partVals, partEs, placeEs, mapOf, keyOk, keyCells, findK, Bool.bne_false, Bool.bne_true, List.drop_zero, List.nil_append, List.append_nil, List.take_zero, List.cons_append, List.take_succ_cons, List.drop_succ_cons, List.take_nil, List.drop_nil, Reg.isA, Reg.isV, Reg.stays, Reg.onto, Bool.false_or, Bool.or_false, Bool.false_and, Bool.and_false, Bool.true_and, Bool.and_true, Bool.or_true, Bool.true_or, ↓reduceIte, reduceCtorEq, Nat.reduceEqDiff, Nat.reduceLT, Nat.reduceAdd, Nat.reduceMul, Nat.add_zero, Nat.zero_add, Nat.not_lt_zero, Nat.zero_ne_one, Nat.one_ne_zero, Nat.reduceLeDiff, Nat.lt_irrefl, Nat.zero_lt_succ, Bool.false_eq_true, Bool.not_true, Bool.not_false, Option.map_some, Option.map_none, Option.bind_some, Option.getD_some, Option.getD_none, and_self, and_true, true_and, List.length_cons, List.length_nil, List.any_nil, List.any_cons, Int.toNat_natCast, Int.cast_ofNat_Int, Int.natCast_zero, Int.natCast_nonneg, true_implies, or_true, true_or, false_or, or_false, beq_self_eq_true, Option.some.injEq, exists_eq_left', Int.reduceEq, Int.reduceLT, Int.reduceLE, Int.reduceGT, Int.reduceGE, Nat.reduceGT, Int.reduceNeg, Int.reduceToNat, Int.reduceAdd, Int.reduceMul, Int.reduceSub, Int.reducePow, decide_true, decide_false, decide_eq_true_eq, List.getElem?_cons_zero, List.getElem?_cons_succ, Nat.reduceBEq, Nat.reduceSub, exists_false, and_false, false_and, wrap_i64, hbl, ht, Int.le_refl, r2, he, List.set_cons_zero, List.set_cons_succ, show ((1 : Int) == 1) = true from rfl, q1, q3]
                exact ⟨2, by omega, 2, kd, v, l, c, b + w, by simp [kk, k3], by omega, by rw [← hgo]; simp [goE, go1, hr], by omega, by omega, by omega⟩
              · have q3 : (kd == 3) = false := by simp [k3]
                simp (maxSteps := 2000000) (discharger := omega) only [xc, xo, xr, x0, x1, x2, x3, x4, x5, x6, xd, xe, xb, kont_call, kont_pure, isNil, slOk, sliceV, selems, srcElems, copyTo, dlen, eqAV, eqCells, eqS, upd, wr, place, partVals, partEs, placeEs, mapOf, keyOk, keyCells, findK, Bool.bne_false, Bool.bne_true, List.drop_zero, List.nil_append, List.append_nil, List.take_zero, List.cons_append, List.take_succ_cons, List.drop_succ_cons, List.take_nil, List.drop_nil, Reg.isA, Reg.isV, Reg.stays, Reg.onto, Bool.false_or, Bool.or_false, Bool.false_and, Bool.and_false, Bool.true_and, Bool.and_true, Bool.or_true, Bool.true_or, ↓reduceIte, reduceCtorEq, Nat.reduceEqDiff, Nat.reduceLT, Nat.reduceAdd, Nat.reduceMul, Nat.add_zero, Nat.zero_add, Nat.not_lt_zero, Nat.zero_ne_one, Nat.one_ne_zero, Nat.reduceLeDiff, Nat.lt_irrefl, Nat.zero_lt_succ, Bool.false_eq_true, Bool.not_true, Bool.not_false, Option.map_some, Option.map_none, Option.bind_some, Option.getD_some, Option.getD_none, and_self, and_true, true_and, List.length_cons, List.length_nil, List.any_nil, List.any_cons, Int.toNat_natCast, Int.cast_ofNat_Int, Int.natCast_zero, Int.natCast_nonneg, true_implies, or_true, true_or, false_or, or_false, beq_self_eq_true, Option.some.injEq, exists_eq_left', Int.reduceEq, Int.reduceLT, Int.reduceLE, Int.reduceGT, Int.reduceGE, Nat.reduceGT, Int.reduceNeg, Int.reduceToNat, Int.reduceAdd, Int.reduceMul, Int.reduceSub, Int.reducePow, decide_true, decide_false, decide_eq_true_eq, List.getElem?_cons_zero, List.getElem?_cons_succ, Nat.reduceBEq, Nat.reduceSub, exists_false, and_false, false_and, wrap_i64, hbl, ht, Int.le_refl, r2, he, List.set_cons_zero, List.set_cons_succ, show ((1 : Int) == 1) = true from rfl, q1, q3]
                exact ⟨2, by omega, 2, kd, v, l, c, b + w, by simp [kk, k1, k3], by omega, by rw [← hgo]; simp [goE, go1, hr], by omega, by omega, by omega⟩
        | 2, hjq =>
          have h13 : kd = 1 ∨ kd = 3 := by
            by_cases k1 : kd = 1
            · exact .inl k1
            · by_cases k3 : kd = 3
              · exact .inr k3
              · simp [kk, k1, k3] at hjk
          have hkk : kk 3 kd = kk 2 kd := rfl
          have hkb : (2 : Int) < kk 2 kd := hjk
          generalize kk 2 kd = K at *
          cases hr : rdW (s.drop b) with
          | err e =>
            have h23 := rdW_e23 hr
            have he1 : (e != 0) = true := by rcases h23 with rfl | rfl <;> rfl
            have hRR := hRe e (by rw [← hgo]; simp [goE, go2, hr, h13])
            rw [hr] at r2
            unfold rdWAV at r2
            simp (maxSteps := 2000000) (discharger := omega) only [xc, xo, xr, x0, x1, x2, x3, x4, x5, x6, xd, xe, xb, kont_call, kont_pure, isNil, slOk, sliceV, selems, srcElems, copyTo, dlen, eqAV, eqCells, eqS, upd, wr, place, partVals, partEs, placeEs, mapOf, keyOk, keyCells, findK, Bool.bne_false, Bool.bne_true, List.drop_zero, List.nil_append, List.append_nil, List.take_zero, List.cons_append, List.take_succ_cons, List.drop_succ_cons, List.take_nil, List.drop_nil, Reg.isA, Reg.isV, Reg.stays, Reg.onto, Bool.false_or, Bool.or_false, Bool.false_and, Bool.and_false, Bool.true_and, Bool.and_true, Bool.or_true, Bool.true_or, ↓reduceIte, reduceCtorEq, Nat.reduceEqDiff, Nat.reduceLT, Nat.reduceAdd, Nat.reduceMul, Nat.add_zero, Nat.zero_add, Nat.not_lt_zero, Nat.zero_ne_one, Nat.one_ne_zero, Nat.reduceLeDiff, Nat.lt_irrefl, Nat.zero_lt_succ, Bool.false_eq_true, Bool.not_true, Bool.not_false, Option.map_some, Option.map_none, Option.bind_some, Option.getD_some, Option.getD_none, and_self, and_true, true_and, List.length_cons, List.length_nil, List.any_nil, List.any_cons, Int.toNat_natCast, Int.cast_ofNat_Int, Int.natCast_zero, Int.natCast_nonneg, true_implies, or_true, true_or, false_or, or_false, beq_self_eq_true, Option.some.injEq, exists_eq_left', Int.reduceEq, Int.reduceLT, Int.reduceLE, Int.reduceGT, Int.reduceGE, Nat.reduceGT, Int.reduceNeg, Int.reduceToNat, Int.reduceAdd, Int.reduceMul, Int.reduceSub, Int.reducePow, decide_true, decide_false, decide_eq_true_eq, List.getElem?_cons_zero, List.getElem?_cons_succ, Nat.reduceBEq, Nat.reduceSub, exists_false, and_false, false_and, wrap_i64, hbl, ht, Int.le_refl, r2, hkb, he1]
            rw [hRR]
            exact ⟨rfl, by omega⟩
          | ok v w =>
            have hp := rdW_pos hr
            rw [List.length_drop] at hp
            rw [hr] at r2
            unfold rdWAV at r2
            simp (maxSteps := 2000000) (discharger := omega) only [xc, xo, xr, x0, x1, x2, x3, x4, x5, x6, xd, xe, xb, kont_call, kont_pure, isNil, slOk, sliceV, selems, srcElems, copyTo, dlen, eqAV, eqCells, eqS, upd, wr, place, partVals, partEs, placeEs, mapOf, keyOk, keyCells, findK, Bool.bne_false, Bool.bne_true, List.drop_zero, List.nil_append, List.append_nil, List.take_zero, List.cons_append, List.take_succ_cons, List.drop_succ_cons, List.take_nil, List.drop_nil, Reg.isA, Reg.isV, Reg.stays, Reg.onto, Bool.false_or, Bool.or_false, Bool.false_and, Bool.and_false, Bool.true_and, Bool.and_true, Bool.or_true, Bool.true_or, ↓reduceIte, reduceCtorEq, Nat.reduceEqDiff, Nat.reduceLT, Nat.reduceAdd, Nat.reduceMul, Nat.add_zero, Nat.zero_add, Nat.not_lt_zero, Nat.zero_ne_one, Nat.one_ne_zero, Nat.reduceLeDiff, Nat.lt_irrefl, Nat.zero_lt_succ, Bool.false_eq_true, Bool.not_true, Bool.not_false, Option.map_some, Option.map_none, Option.bind_some, Option.getD_some, Option.getD_none, and_self, and_true, true_and, List.length_cons, List.length_nil, List.any_nil, List.any_cons, Int.toNat_natCast, Int.cast_ofNat_Int, Int.natCast_zero, Int.natCast_nonneg, true_implies, or_true, true_or, false_or, or_false, beq_self_eq_true, Option.some.injEq, exists_eq_left', Int.reduceEq, Int.reduceLT, Int.reduceLE, Int.reduceGT, Int.reduceGE, Nat.reduceGT, Int.reduceNeg, Int.reduceToNat, Int.reduceAdd, Int.reduceMul, Int.reduceSub, Int.reducePow, decide_true, decide_false, decide_eq_true_eq, List.getElem?_cons_zero, List.getElem?_cons_succ, Nat.reduceBEq, Nat.reduceSub, exists_false, and_false, false_and, wrap_i64, hbl, ht, Int.le_refl, r2, he, hkb, List.set_cons_zero, List.set_cons_succ, show ((2 : Int) == 1) = false from rfl]
            exact ⟨1, by omega, 3, kd, f, v, c, b + w, by simp [hkk], by omega, by rw [← hgo]; simp [goE, go2, hr, h13], by omega, by omega, by omega⟩
        | 3, hjq =>
          have k1 : kd = 1 := by
            by_cases k1 : kd = 1
            · exact k1
            · exfalso
              by_cases k3 : kd = 3
              · simp [kk, k3] at hjk
              · simp [kk, k1, k3] at hjk
          have hkk : kk 4 kd = kk 3 kd := rfl
          have hkb : (3 : Int) < kk 3 kd := hjk
          generalize kk 3 kd = K at *
          cases hr : rdW (s.drop b) with
          | err e =>
            have h23 := rdW_e23 hr
            have he1 : (e != 0) = true := by rcases h23 with rfl | rfl <;> rfl
            have hRR := hRe e (by rw [← hgo]; simp [goE, go3, hr, k1])
            rw [hr] at r2
            unfold rdWAV at r2
            simp (maxSteps := 2000000) (discharger := omega) only [xc, xo, xr, x0, x1, x2, x3, x4, x5, x6, xd, xe, xb, kont_call, kont_pure, isNil, slOk, sliceV, selems, srcElems, copyTo, dlen, eqAV, eqCells, eqS, upd, wr, place, partVals, partEs, placeEs, mapOf, keyOk, keyCells, findK, Bool.bne_false, Bool.bne_true, List.drop_zero, List.nil_append, List.append_nil, List.take_zero, List.cons_append, List.take_succ_cons, List.drop_succ_cons, List.take_nil, List.drop_nil, Reg.isA, Reg.isV, Reg.stays, Reg.onto, Bool.false_or, Bool.or_false, Bool.false_and, Bool.and_false, Bool.true_and, Bool.and_true, Bool.or_true, Bool.true_or, ↓reduceIte, reduceCtorEq, Nat.reduceEqDiff, Nat.reduceLT, Nat.reduceAdd, Nat.reduceMul, Nat.add_zero, Nat.zero_add, Nat.not_lt_zero, Nat.zero_ne_one, Nat.one_ne_zero, Nat.reduceLeDiff, Nat.lt_irrefl, Nat.zero_lt_succ, Bool.false_eq_true, Bool.not_true, Bool.not_false, Option.map_some, Option.map_none, Option.bind_some, Option.getD_some, Option.getD_none, and_self, and_true, true_and, List.length_cons, List.length_nil, List.any_nil, List.any_cons, Int.toNat_natCast, Int.cast_ofNat_Int, Int.natCast_zero, Int.natCast_nonneg, true_implies, or_true, true_or, false_or, or_false, beq_self_eq_true, Option.some.injEq, exists_eq_left', Int.reduceEq, Int.reduceLT, Int.reduceLE, Int.reduceGT, Int.reduceGE, Nat.reduceGT, Int.reduceNeg, Int.reduceToNat, Int.reduceAdd, Int.reduceMul, Int.reduceSub, Int.reducePow, decide_true, decide_false, decide_eq_true_eq, List.getElem?_cons_zero, List.getElem?_cons_succ, Nat.reduceBEq, Nat.reduceSub, exists_false, and_false, false_and, wrap_i64, hbl, ht, Int.le_refl, r2, hkb, he1]
            rw [hRR]
            exact ⟨rfl, by omega⟩
          | ok v w =>
            have hp := rdW_pos hr
            rw [List.length_drop] at hp
            rw [hr] at r2
            unfold rdWAV at r2
            simp (maxSteps := 2000000) (discharger := omega) only [xc, xo, xr, x0, x1, x2, x3, x4, x5, x6, xd, xe, xb, kont_call, kont_pure, isNil, slOk, sliceV, selems, srcElems, copyTo, dlen, eqAV, eqCells, eqS, upd, wr, place, partVals, partEs, placeEs, mapOf, keyOk, keyCells, findK, Bool.bne_false, Bool.bne_true, List.drop_zero, List.nil_append, List.append_nil, List.take_zero, List.cons_append, List.take_succ_cons, List.drop_succ_cons, List.take_nil, List.drop_nil, Reg.isA, Reg.isV, Reg.stays, Reg.onto, Bool.false_or, Bool.or_false, Bool.false_and, Bool.and_false, Bool.true_and, Bool.and_true, Bool.or_true, Bool.true_or, ↓reduceIte, reduceCtorEq, Nat.reduceEqDiff, Nat.reduceLT, Nat.reduceAdd, Nat.reduceMul, Nat.add_zero, Nat.zero_add, Nat.not_lt_zero, Nat.zero_ne_one, Nat.one_ne_zero, Nat.reduceLeDiff, Nat.lt_irrefl, Nat.zero_lt_succ, Bool.false_eq_true, Bool.not_true, Bool.not_false, Option.map_some, Option.map_none, Option.bind_some, Option.getD_some, Option.getD_none, and_self, and_true, true_and, List.length_cons, List.length_nil, List.any_nil, List.any_cons, Int.toNat_natCast, Int.cast_ofNat_Int, Int.natCast_zero, Int.natCast_nonneg, true_implies, or_true, true_or, false_or, or_false, beq_self_eq_true, Option.some.injEq, exists_eq_left', Int.reduceEq, Int.reduceLT, Int.reduceLE, Int.reduceGT, Int.reduceGE, Nat.reduceGT, Int.reduceNeg, Int.reduceToNat, Int.reduceAdd, Int.reduceMul, Int.reduceSub, Int.reducePow, decide_true, decide_false, decide_eq_true_eq, List.getElem?_cons_zero, List.getElem?_cons_succ, Nat.reduceBEq, Nat.reduceSub, exists_false, and_false, false_and, wrap_i64, hbl, ht, Int.le_refl, r2, he, hkb, List.set_cons_zero, List.set_cons_succ, show ((3 : Int) == 1) = false from rfl]
            exact ⟨0, by omega, 4, kd, f, l, v, b + w, by simp [hkk], by omega, by rw [← hgo]; simp [goE, go3, hr, k1], by omega, by omega, by omega⟩
        | j + 4, hjq =>
          exfalso
          unfold kk at hjk
          split at hjk
          · omega
          · split at hjk
            · omega
            · split at hjk <;> omega
      · have hj2 : 2 ≤ j := by
          unfold kk at hjk
          split at hjk
          · omega
          · omega
        have hf : finE kd f l c (s.drop b) = rdE (s.drop a) := by
          rw [← hgo]
          match j, hj2 with
          | 2, _ =>
            have hn1 : ¬ kd = 1 := by intro k1; simp [kk, k1] at hjk
            have hn3 : ¬ kd = 3 := by intro k3; simp [kk, k3] at hjk
            simp [goE, go2, hn1, hn3]
          | 3, _ =>
            have hn1 : ¬ kd = 1 := by intro k1; simp [kk, k1] at hjk
            simp [goE, go3, hn1]
          | j + 4, _ => rfl
        have hjk2 := hjk
        generalize kk j kd = K at *
        clear hgo
        have hapx : ∀ x : Ed, ∃ v' h', appendV false 6 64 lv [edOf x] g' = some (v', h') ∧ IsApp 6 (edsOf (acc ++ [x])) h' v' := fun x => by
          obtain ⟨v', h', a1, a2, _⟩ := app_any (bytes := 64) (xs := [edOf x]) hv (by rw [edsOf_len]; simp; omega)
          exact ⟨v', h', a1, by simpa [edsOf] using a2⟩
        have ar := hv.isRow
        by_cases k1 : kd = 1
        · subst k1
          have q1 : ((1 : Int) == 1) = true := rfl
          have r3 := c37 (tot := tot) (ω := ω) (n := n) (s.drop b) g' (by simp; omega) (by simp; omega)
          cases hr : rdT (s.drop b) with
          | err e =>
            have h23 := rdT_e23 hr
            have he1 : (e != 0) = true := by rcases h23 with rfl | rfl <;> rfl
            have hRR := hRe e (by rw [← hf]; simp [finE, hr])
            rw [hr] at r3
            unfold rdTAV at r3
            simp (maxSteps := 2000000) (discharger := omega) only [xc, xo, xr, x0, x1, x2, x3, x4, x5, x6, xd, xe, xb, kont_call, kont_pure, isNil, slOk, sliceV, selems, srcElems, copyTo, dlen, eqAV, eqCells, eqS, upd, wr, place, partVals, partEs, placeEs, mapOf, keyOk, keyCells, findK, Bool.bne_false, Bool.bne_true, List.drop_zero, List.nil_append, List.append_nil, List.take_zero, List.cons_append, List.take_succ_cons, List.drop_succ_cons, List.take_nil, List.drop_nil, Reg.isA, Reg.isV, Reg.stays, Reg.onto, Bool.false_or, Bool.or_false, Bool.false_and, Bool.and_false, Bool.true_and, Bool.and_true, Bool.or_true, Bool.true_or, ↓reduceIte, reduceCtorEq, Nat.reduceEqDiff, Nat.reduceLT, Nat.reduceAdd, Nat.reduceMul, Nat.add_zero, Nat.zero_add, Nat.not_lt_zero, Nat.zero_ne_one, Nat.one_ne_zero, Nat.reduceLeDiff, Nat.lt_irrefl, Nat.zero_lt_succ, Bool.false_eq_true, Bool.not_true, Bool.not_false, Option.map_some, Option.map_none, Option.bind_some, Option.getD_some, Option.getD_none, and_self, and_true, true_and, List.length_cons, List.length_nil, List.any_nil, List.any_cons, Int.toNat_natCast, Int.cast_ofNat_Int, Int.natCast_zero, Int.natCast_nonneg, true_implies, or_true, true_or, false_or, or_false, beq_self_eq_true, Option.some.injEq, exists_eq_left', Int.reduceEq, Int.reduceLT, Int.reduceLE, Int.reduceGT, Int.reduceGE, Nat.reduceGT, Int.reduceNeg, Int.reduceToNat, Int.reduceAdd, Int.reduceMul, Int.reduceSub, Int.reducePow, decide_true, decide_false, decide_eq_true_eq, List.getElem?_cons_zero, List.getElem?_cons_succ, Nat.reduceBEq, Nat.reduceSub, exists_false, and_false, false_and, wrap_i64, hbl, ht, Int.le_refl, hjk2, r3, he1, q1, List.set_cons_zero, List.set_cons_succ]
            rw [hRR]
            exact ⟨rfl, by omega⟩
          | ok lo w =>
            have hp := rdT_pos hr
            rw [List.length_drop] at hp
            rw [hr] at r3
            unfold rdTAV at r3
            have hbl2 : ((b + w : Nat) : Int) ≤ (s.length : Int) := by omega
            have hbw : ((b : Nat) : Int) + (w : Int) = ((b + w : Nat) : Int) := by omega
            have r4 := c37 (tot := tot) (ω := ω) (n := n) (s.drop (b + w)) g' (by simp; omega) (by simp; omega)
            cases hr2 : rdT (s.drop (b + w)) with
            | err e =>
              have h23 := rdT_e23 hr2
              have he1 : (e != 0) = true := by rcases h23 with rfl | rfl <;> rfl
              have hRR := hRe e (by rw [← hf]; simp [finE, hr, hr2])
              rw [hr2] at r4
              unfold rdTAV at r4
              simp (maxSteps := 2000000) (discharger := omega) only [xc, xo, xr, x0, x1, x2, x3, x4, x5, x6, xd, xe, xb, kont_call, kont_pure, isNil, slOk, sliceV, selems, srcElems, copyTo, dlen, eqAV, eqCells, eqS, upd, wr, place, partVals, partEs, placeEs, mapOf, keyOk, keyCells, findK, Bool.bne_false, Bool.bne_true, List.drop_zero, List.nil_append, List.append_nil, List.take_zero, List.cons_append, List.take_succ_cons, List.drop_succ_cons, List.take_nil, List.drop_nil, Reg.isA, Reg.isV, Reg.stays, Reg.onto, Bool.false_or, Bool.or_false, Bool.false_and, Bool.and_false, Bool.true_and, Bool.and_true, Bool.or_true, Bool.true_or, ↓reduceIte, reduceCtorEq, Nat.reduceEqDiff, Nat.reduceLT, Nat.reduceAdd, Nat.reduceMul, Nat.add_zero, Nat.zero_add, Nat.not_lt_zero, Nat.zero_ne_one, Nat.one_ne_zero, Nat.reduceLeDiff, Nat.lt_irrefl, Nat.zero_lt_succ, Bool.false_eq_true, Bool.not_true, Bool.not_false, Option.map_some, Option.map_none, Option.bind_some, Option.getD_some, Option.getD_none, and_self, and_true, true_and, List.length_cons, List.length_nil, List.any_nil, List.any_cons, Int.toNat_natCast, Int.cast_ofNat_Int, Int.natCast_zero, Int.natCast_nonneg, true_implies, or_true, true_or, false_or, or_false, beq_self_eq_true, Option.some.injEq, exists_eq_left', Int.reduceEq, Int.reduceLT, Int.reduceLE, Int.reduceGT, Int.reduceGE, Nat.reduceGT, Int.reduceNeg, Int.reduceToNat, Int.reduceAdd, Int.reduceMul, Int.reduceSub, Int.reducePow, decide_true, decide_false, decide_eq_true_eq, List.getElem?_cons_zero, List.getElem?_cons_succ, Nat.reduceBEq, Nat.reduceSub, exists_false, and_false, false_and, wrap_i64, hbl, ht, Int.le_refl, hjk2, r3, r4, he, he1, q1, hbw, hbl2, List.set_cons_zero, List.set_cons_succ]
              rw [hRR]
              exact ⟨rfl, by omega⟩
            | ok hh w2 =>
              have hp2 := rdT_pos hr2
              rw [List.length_drop] at hp2
              have hRR := hRo ⟨1, f, l, c, lo, hh⟩ (s.drop (b + w + w2)) (by rw [← hf]; simp [finE, hr, hr2])
              rw [hr2] at r4
              unfold rdTAV at r4
              obtain ⟨lv', g2, a1, a2⟩ := hapx ⟨1, f, l, c, lo, hh⟩
              unfold edOf at a1
              simp (maxSteps := 2000000) (discharger := omega) only [xc, xo, xr, x0, x1, x2, x3, x4, x5, x6, xd, xe, xb, kont_call, kont_pure, isNil, slOk, sliceV, selems, srcElems, copyTo, dlen, eqAV, eqCells, eqS, upd, wr, place, partVals, partEs, placeEs, mapOf, keyOk, keyCells, findK, Bool.bne_false, Bool.bne_true, List.drop_zero, List.nil_append, List.append_nil, List.take_zero, List.cons_append, List.take_succ_cons, List.drop_succ_cons, List.take_nil, List.drop_nil, Reg.isA, Reg.isV, Reg.stays, Reg.onto, Bool.false_or, Bool.or_false, Bool.false_and, Bool.and_false, Bool.true_and, Bool.and_true, Bool.or_true, Bool.true_or, ↓reduceIte, reduceCtorEq, Nat.reduceEqDiff, Nat.reduceLT, Nat.reduceAdd, Nat.reduceMul, Nat.add_zero, Nat.zero_add, Nat.not_lt_zero, Nat.zero_ne_one, Nat.one_ne_zero, Nat.reduceLeDiff, Nat.lt_irrefl, Nat.zero_lt_succ, Bool.false_eq_true, Bool.not_true, Bool.not_false, Option.map_some, Option.map_none, Option.bind_some, Option.getD_some, Option.getD_none, and_self, and_true, true_and, List.length_cons, List.length_nil, List.any_nil, List.any_cons, Int.toNat_natCast, Int.cast_ofNat_Int, Int.natCast_zero, Int.natCast_nonneg, true_implies, or_true, true_or, false_or, or_false, beq_self_eq_true, Option.some.injEq, exists_eq_left', Int.reduceEq, Int.reduceLT, Int.reduceLE, Int.reduceGT, Int.reduceGE, Nat.reduceGT, Int.reduceNeg, Int.reduceToNat, Int.reduceAdd, Int.reduceMul, Int.reduceSub, Int.reducePow, decide_true, decide_false, decide_eq_true_eq, List.getElem?_cons_zero, List.getElem?_cons_succ, Nat.reduceBEq, Nat.reduceSub, exists_false, and_false, false_and, wrap_i64, hbl, ht, Int.le_refl, hjk2, r3, r4, he, q1, hbw, hbl2, List.set_cons_zero, List.set_cons_succ, List.replicate_succ, List.replicate_zero, ar, a1]
              exact ⟨s.length - (b + w + w2), by omega, lv', acc.length + 1, b + w + w2, acc ++ [⟨1, f, l, c, lo, hh⟩], rfl, by omega, a2, by simp, by omega, by omega, by rw [hRR, show m - (acc.length + 1) = m' by omega], rfl⟩
        · have q1 : (kd == 1) = false := by simp [k1]
          have hRR := hRo ⟨kd, f, l, c, [], []⟩ (s.drop b) (by rw [← hf]; simp [finE, k1])
          obtain ⟨lv', g2, a1, a2⟩ := hapx ⟨kd, f, l, c, [], []⟩
          unfold edOf at a1
          simp (maxSteps := 2000000) (discharger := omega) only [xc, xo, xr, x0, x1, x2, x3, x4, x5, x6, xd, xe, xb, kont_call, kont_pure, isNil, slOk, sliceV, selems, srcElems, copyTo, dlen, eqAV, eqCells, eqS, upd, wr, place, partVals, partEs, placeEs, mapOf, keyOk, keyCells, findK, Bool.bne_false, Bool.bne_true, List.drop_zero, List.nil_append, List.append_nil, List.take_zero, List.cons_append, List.take_succ_cons, List.drop_succ_cons, List.take_nil, List.drop_nil, Reg.isA, Reg.isV, Reg.stays, Reg.onto, Bool.false_or, Bool.or_false, Bool.false_and, Bool.and_false, Bool.true_and, Bool.and_true, Bool.or_true, Bool.true_or, ↓reduceIte, reduceCtorEq, Nat.reduceEqDiff, Nat.reduceLT, Nat.reduceAdd, Nat.reduceMul, Nat.add_zero, Nat.zero_add, Nat.not_lt_zero, Nat.zero_ne_one, Nat.one_ne_zero, Nat.reduceLeDiff, Nat.lt_irrefl, Nat.zero_lt_succ, Bool.false_eq_true, Bool.not_true, Bool.not_false, Option.map_some, Option.map_none, Option.bind_some, Option.getD_some, Option.getD_none, and_self, and_true, true_and, List.length_cons, List.length_nil, List.any_nil, List.any_cons, Int.toNat_natCast, Int.cast_ofNat_Int, Int.natCast_zero, Int.natCast_nonneg, true_implies, or_true, true_or, false_or, or_false, beq_self_eq_true, Option.some.injEq, exists_eq_left', Int.reduceEq, Int.reduceLT, Int.reduceLE, Int.reduceGT, Int.reduceGE, Nat.reduceGT, Int.reduceNeg, Int.reduceToNat, Int.reduceAdd, Int.reduceMul, Int.reduceSub, Int.reducePow, decide_true, decide_false, decide_eq_true_eq, List.getElem?_cons_zero, List.getElem?_cons_succ, Nat.reduceBEq, Nat.reduceSub, exists_false, and_false, false_and, wrap_i64, hbl, ht, Int.le_refl, hjk2, he, q1, List.set_cons_zero, List.set_cons_succ, List.replicate_succ, List.replicate_zero, ar, a1]
          exact ⟨s.length - b, by omega, lv', acc.length + 1, b, acc ++ [⟨kd, f, l, c, [], []⟩], rfl, by omega, a2, by simp, by omega, by omega, by rw [hRR, show m - (acc.length + 1) = m' by omega], rfl⟩
    · have hlt' : ¬ ((acc.length : Nat) : Int) < (m : Int) := by omega
      have hRR : R = .ok acc (s.drop a) := by rw [← hR, show m - acc.length = 0 by omega]; rfl
      by_cases h2 : ((a : Nat) : Int) < (s.length : Int)
      · simp (maxSteps := 2000000) (discharger := omega) only [xc, xo, xr, x0, x1, x2, x3, x4, x5, x6, xd, xe, xb, kont_call, kont_pure, isNil, slOk, sliceV, selems, srcElems, copyTo, dlen, eqAV, eqCells, eqS, upd, wr, place, partVals, partEs, placeEs, mapOf, keyOk, keyCells, findK, Bool.bne_false, Bool.bne_true, List.drop_zero, List.nil_append, List.append_nil, List.take_zero, List.cons_append, List.take_succ_cons, List.drop_succ_cons, List.take_nil, List.drop_nil, Reg.isA, Reg.isV, Reg.stays, Reg.onto, Bool.false_or, Bool.or_false, Bool.false_and, Bool.and_false, Bool.true_and, Bool.and_true, Bool.or_true, Bool.true_or, ↓reduceIte, reduceCtorEq, Nat.reduceEqDiff, Nat.reduceLT, Nat.reduceAdd, Nat.reduceMul, Nat.add_zero, Nat.zero_add, Nat.not_lt_zero, Nat.zero_ne_one, Nat.one_ne_zero, Nat.reduceLeDiff, Nat.lt_irrefl, Nat.zero_lt_succ, Bool.false_eq_true, Bool.not_true, Bool.not_false, Option.map_some, Option.map_none, Option.bind_some, Option.getD_some, Option.getD_none, and_self, and_true, true_and, List.length_cons, List.length_nil, List.any_nil, List.any_cons, Int.toNat_natCast, Int.cast_ofNat_Int, Int.natCast_zero, Int.natCast_nonneg, true_implies, or_true, true_or, false_or, or_false, beq_self_eq_true, Option.some.injEq, exists_eq_left', Int.reduceEq, Int.reduceLT, Int.reduceLE, Int.reduceGT, Int.reduceGE, Nat.reduceGT, Int.reduceNeg, Int.reduceToNat, Int.reduceAdd, Int.reduceMul, Int.reduceSub, Int.reducePow, decide_true, decide_false, decide_eq_true_eq, List.getElem?_cons_zero, List.getElem?_cons_succ, Nat.reduceBEq, Nat.reduceSub, exists_false, and_false, false_and, wrap_i64, hlt', h2]
        have : s.drop a ≠ [] := by intro e; have := congrArg List.length e; simp at this; omega
        rw [hRR]
        simp only [finL, this, if_false]
        exact ⟨rfl, by omega⟩
      · simp (maxSteps := 2000000) (discharger := omega) only [xc, xo, xr, x0, x1, x2, x3, x4, x5, x6, xd, xe, xb, kont_call, kont_pure, isNil, slOk, sliceV, selems, srcElems, copyTo, dlen, eqAV, eqCells, eqS, upd, wr, place, partVals, partEs, placeEs, mapOf, keyOk, keyCells, findK, Bool.bne_false, Bool.bne_true, List.drop_zero, List.nil_append, List.append_nil, List.take_zero, List.cons_append, List.take_succ_cons, List.drop_succ_cons, List.take_nil, List.drop_nil, Reg.isA, Reg.isV, Reg.stays, Reg.onto, Bool.false_or, Bool.or_false, Bool.false_and, Bool.and_false, Bool.true_and, Bool.and_true, Bool.or_true, Bool.true_or, ↓reduceIte, reduceCtorEq, Nat.reduceEqDiff, Nat.reduceLT, Nat.reduceAdd, Nat.reduceMul, Nat.add_zero, Nat.zero_add, Nat.not_lt_zero, Nat.zero_ne_one, Nat.one_ne_zero, Nat.reduceLeDiff, Nat.lt_irrefl, Nat.zero_lt_succ, Bool.false_eq_true, Bool.not_true, Bool.not_false, Option.map_some, Option.map_none, Option.bind_some, Option.getD_some, Option.getD_none, and_self, and_true, true_and, List.length_cons, List.length_nil, List.any_nil, List.any_cons, Int.toNat_natCast, Int.cast_ofNat_Int, Int.natCast_zero, Int.natCast_nonneg, true_implies, or_true, true_or, false_or, or_false, beq_self_eq_true, Option.some.injEq, exists_eq_left', Int.reduceEq, Int.reduceLT, Int.reduceLE, Int.reduceGT, Int.reduceGE, Nat.reduceGT, Int.reduceNeg, Int.reduceToNat, Int.reduceAdd, Int.reduceMul, Int.reduceSub, Int.reducePow, decide_true, decide_false, decide_eq_true_eq, List.getElem?_cons_zero, List.getElem?_cons_succ, Nat.reduceBEq, Nat.reduceSub, exists_false, and_false, false_and, wrap_i64, hlt', h2]
        have : s.drop a = [] := List.drop_of_length_le (by omega)
        rw [hRR]
        simp only [finL, this, if_true]
        exact ⟨lv, rfl, isRd_app hv⟩

end Go.Proofs.Ytlognommhffmcaa.Im

/- S13Inv: what was written is read, and what was read was so written. -/
set_option linter.unusedVariables false
set_option linter.unusedSimpArgs false
open Go Go.Im
namespace Go.Proofs.Ytlognommhffmcaa.Im

theorem toNat_of {n : Nat} (h : n ≤ 255) : (UInt8.ofNat n).toNat = n := by
  rw [UInt8.toNat_ofNat']; omega
theorem of_toNat (c : UInt8) : UInt8.ofNat c.toNat = c := by simp

theorem dec_hi (r : List UInt8) : ∀ (z : Nat), z ≤ 144115188075855871 → ∀ r, dec 0 0 (hi z ++ r) = dec z (hi z).length r := by
  intro z
  induction z using Nat.strongRecOn with
  | ind z ih =>
    intro hz r
    by_cases h0 : 0 < z
    · have := ih (z / 64) (by omega) (by omega) (UInt8.ofNat (z % 64) :: r)
      rw [hi_pos h0, List.append_assoc, List.singleton_append, this]
      have h1 : 64 * (z / 64) + z % 64 = z := by omega
      have h2 : (hi (z / 64)).length = 0 → z / 64 = 0 := by
        intro h
        by_cases h3 : 0 < z / 64
        · rw [hi_pos h3] at h; simp at h
        · omega
      conv => lhs; unfold dec
      rw [toNat_of (by omega), if_neg (by omega), if_neg (by omega)]
      rw [show z % 64 % 64 = z % 64 by omega, h1]
      simp
    · obtain rfl : z = 0 := by omega
      rw [hi_zero]; rfl

theorem dec_enc (x m : Nat) (hx : x ≤ 9223372036854775807) (hm : m = 64 ∨ m = 128) (r : List UInt8) : dec 0 0 (enc x m ++ r) = .ok x (decide (m = 128)) (enc x m).length := by
  unfold enc
  rw [List.append_assoc, dec_hi r _ (by omega), List.singleton_append]
  conv => lhs; unfold dec
  rw [toNat_of (by omega), if_neg (by omega), if_pos (by omega)]
  have h1 : 64 * (x / 64) + (m + x % 64) % 64 = x := by omega
  rw [h1]
  have h2 : decide (127 < m + x % 64) = decide (m = 128) := by
    rcases hm with rfl | rfl
    · simp; omega
    · simp; omega
  rw [h2]
  simp

theorem rdW_enc {v : Int} (h1 : -9223372036854775808 ≤ v) (h2 : v ≤ 9223372036854775807) (r : List UInt8) : rdW (encW v ++ r) = .ok v (encW v).length := by
  unfold rdW encW
  by_cases h : v < 0
  · simp only [if_pos h]
    rw [dec_enc _ _ (by omega) (.inr rfl)]
    simp only [decide_true, if_true]
    rw [show -(((-(v + 1)).toNat : Nat) : Int) - 1 = v by omega]
  · simp only [if_neg h]
    rw [dec_enc _ _ (by omega) (.inl rfl)]
    simp
    omega
theorem rdC_enc {n : Nat} (h2 : n ≤ 9223372036854775807) (r : List UInt8) : rdC (enc n 64 ++ r) = .ok n (enc n 64).length := by
  unfold rdC
  rw [dec_enc _ _ h2 (.inl rfl)]
  simp
theorem rdT_enc {s : List UInt8} (h : s.length ≤ 9223372036854775807) (r : List UInt8) : rdT (encT s ++ r) = .ok s (encT s).length := by
  unfold rdT encT
  rw [List.append_assoc, rdC_enc h]
  simp

theorem drop_app (a b : List UInt8) : (a ++ b).drop a.length = b := by simp

theorem rdE_pack {e : Ed} (h : e.ok) (r : List UInt8) : rdE (packE e ++ r) = .ok (cleanE e) r := by
  obtain ⟨hk, hf, hl, hc, hlo, hhi⟩ := h
  unfold rdE go0 go1 packE cleanE
  rw [List.append_assoc, rdW_enc hk.1 hk.2]
  simp only [drop_app]
  rw [List.append_assoc, rdW_enc hf.1 hf.2]
  simp only [drop_app]
  unfold go2
  by_cases k1 : e.k = 1
  · simp only [k1, if_true, true_or]
    rw [List.append_assoc, rdW_enc hl.1 hl.2]
    simp only [drop_app]
    unfold go3
    rw [if_pos rfl, List.append_assoc, rdW_enc hc.1 hc.2]
    simp only [drop_app]
    unfold finE
    rw [if_pos rfl, List.append_assoc, rdT_enc (by omega)]
    simp only [drop_app]
    rw [rdT_enc (by omega)]
    simp only [drop_app]
    cases e; simp_all
  · by_cases k3 : e.k = 3
    · simp only [k3, if_true, or_true]
      rw [if_neg (by omega), rdW_enc hl.1 hl.2]
      simp only [drop_app]
      simp [go3, finE]
    · simp [k1, k3, finE]

theorem packE_ne (e : Ed) : packE e ≠ [] := by
  unfold packE
  intro h
  exact encW_ne _ (List.append_eq_nil_iff.1 h).1

theorem goL_pack : ∀ (l acc : List Ed), (∀ e ∈ l, e.ok) → goL acc l.length (packEs l) = .ok (acc ++ l.map cleanE) []
  | [], acc, h => by simp [goL, packEs]
  | e :: l, acc, h => by
    simp only [List.length_cons, goL, packEs]
    rw [if_neg (fun h => packE_ne e (List.append_eq_nil_iff.1 h).1), rdE_pack (h e (by simp))]
    simp only []
    rw [goL_pack l _ (fun x hx => h x (by simp [hx]))]
    simp

theorem rdU_pack (l : List Ed) (h : ∀ e ∈ l, e.ok) (hl : l.length ≤ 9223372036854775807) : rdU (pack l) = .inr (l.map cleanE) := by
  unfold rdU rdL pack
  rw [rdC_enc hl]
  simp only [drop_app]
  rw [goL_pack l [] h]
  simp

theorem dec_inv {v k : Nat} {b : Bool} : ∀ {s : List UInt8} {x i : Nat}, (hi x).length = i → dec x i s = .ok v b k → hi x ++ s.take (k - i) = enc v (if b then 128 else 64)
  | [], x, i, hi0, h => by unfold dec at h; cases h
  | c :: s, x, i, hi0, h => by
    have hc := c.toNat_lt
    unfold dec at h
    split at h
    · cases h
    · rename_i h1
      split at h
      · simp only [NR.ok.injEq] at h
        obtain ⟨rfl, rfl, rfl⟩ := h
        rw [show i + 1 - i = 1 by omega]
        unfold enc
        rw [show (64 * x + c.toNat % 64) / 64 = x by omega, show (64 * x + c.toNat % 64) % 64 = c.toNat % 64 by omega]
        congr 1
        simp only [List.take_succ_cons, List.take_zero, List.cons.injEq, and_true]
        by_cases h2 : 127 < c.toNat
        · rw [decide_eq_true h2, if_pos rfl, show 128 + c.toNat % 64 = c.toNat by omega, of_toNat]
        · rw [decide_eq_false h2, if_neg (by simp), show 64 + c.toNat % 64 = c.toNat by omega, of_toNat]
      · have hk := dec_ok h
        have hpos : 0 < 64 * x + c.toNat % 64 := by
          by_cases hx : 0 < x
          · omega
          · obtain rfl : x = 0 := by omega
            rw [hi_zero] at hi0
            simp at hi0
            omega
        have hh : hi (64 * x + c.toNat % 64) = hi x ++ [c] := by
          rw [hi_pos hpos, show (64 * x + c.toNat % 64) / 64 = x by omega, show (64 * x + c.toNat % 64) % 64 = c.toNat by omega, of_toNat]
        have := dec_inv (by rw [hh]; simp [hi0]) h
        rw [hh] at this
        rw [← this, show k - i = (k - (i + 1)) + 1 by omega]
        simp

theorem rdW_inv {s : List UInt8} {v : Int} {k : Nat} (h : rdW s = .ok v k) : s = encW v ++ s.drop k ∧ -9223372036854775808 ≤ v ∧ v ≤ 9223372036854775807 := by
  obtain ⟨x, b, h1, h2⟩ := rdW_ok h
  have h3 := dec_inv (by rw [hi_zero]; rfl) h1
  rw [hi_zero, List.nil_append, Nat.sub_zero] at h3
  have hb := dec_ok h1
  cases b with
  | true =>
    simp only [if_true] at h2 h3
    have : encW v = enc x 128 := by
      unfold encW
      rw [if_pos (by omega), show (-(v + 1)).toNat = x by omega]
    rw [this, ← h3, List.take_append_drop]
    exact ⟨rfl, by omega, by omega⟩
  | false =>
    simp only [Bool.false_eq_true, if_false] at h2 h3
    have : encW v = enc x 64 := by
      unfold encW
      rw [if_neg (by omega), h2]; rfl
    rw [this, ← h3, List.take_append_drop]
    exact ⟨rfl, by omega, by omega⟩

theorem rdC_inv {s : List UInt8} {n k : Nat} (h : rdC s = .ok n k) : s = enc n 64 ++ s.drop k := by
  have h1 := rdC_ok h
  have h3 := dec_inv (by rw [hi_zero]; rfl) h1
  rw [hi_zero, List.nil_append, Nat.sub_zero] at h3
  simp only [Bool.false_eq_true, if_false] at h3
  rw [← h3, List.take_append_drop]

theorem rdT_inv {s t : List UInt8} {k : Nat} (h : rdT s = .ok t k) : s = encT t ++ s.drop k ∧ t.length ≤ s.length := by
  unfold rdT at h
  split at h
  · cases h
  · rename_i n k' hc
    split at h
    · cases h
    · rename_i hlt
      cases h
      have h1 := rdC_inv hc
      have hl : ((s.drop k').take n).length = n := by rw [List.length_take]; omega
      refine ⟨?_, by rw [hl]; rw [List.length_drop] at hlt; omega⟩
      unfold encT
      rw [hl, List.append_assoc, ← List.drop_drop, List.take_append_drop]
      exact h1

theorem finE_inv {k f l c : Int} {s rest : List UInt8} {x : Ed} (hs : s.length ≤ 100000) (h : finE k f l c s = .ok x rest) :
    ∃ lo hh, x = ⟨k, f, l, c, lo, hh⟩ ∧ s = (if k = 1 then encT lo ++ encT hh else []) ++ rest ∧ lo.length ≤ 100000 ∧ hh.length ≤ 100000 := by
  unfold finE at h
  split at h
  · rename_i k1
    split at h
    · cases h
    · rename_i lo m h1
      split at h
      · cases h
      · rename_i hh m' h2
        cases h
        have a := rdT_inv h1
        have b := rdT_inv h2
        have hd : (s.drop m).length ≤ s.length := by simp
        refine ⟨lo, hh, rfl, ?_, by omega, by omega⟩
        rw [if_pos k1, List.append_assoc, ← b.1]
        exact a.1
  · rename_i k1
    cases h
    exact ⟨[], [], rfl, by simp [k1], by simp, by simp⟩

theorem rdE_inv {s rest : List UInt8} {x : Ed} (hs : s.length ≤ 100000) (h : rdE s = .ok x rest) : s = packE x ++ rest ∧ x.ok := by
  unfold rdE go0 at h
  split at h
  · cases h
  · rename_i k m h1
    have a1 := rdW_inv h1
    have l1 : (s.drop m).length ≤ 100000 := by simp; omega
    unfold go1 at h
    split at h
    · cases h
    · rename_i f m2 h2
      have a2 := rdW_inv h2
      have l2 : ((s.drop m).drop m2).length ≤ 100000 := by rw [List.length_drop]; omega
      generalize (s.drop m).drop m2 = s2 at *
      generalize s.drop m = s1 at *
      rw [a1.1, a2.1]
      unfold go2 at h
      split at h
      · rename_i k13
        split at h
        · cases h
        · rename_i l m3 h3
          have a3 := rdW_inv h3
          have l3 : (s2.drop m3).length ≤ 100000 := by rw [List.length_drop]; omega
          generalize s2.drop m3 = s3 at *
          rw [a3.1]
          unfold go3 at h
          split at h
          · rename_i k1
            split at h
            · cases h
            · rename_i c m4 h4
              have a4 := rdW_inv h4
              have l4 : (s3.drop m4).length ≤ 100000 := by rw [List.length_drop]; omega
              generalize s3.drop m4 = s4 at *
              obtain ⟨lo, hh, rfl, e1, e2, e3⟩ := finE_inv l4 h
              rw [if_pos k1] at e1
              rw [a4.1, e1]
              refine ⟨by simp [packE, k1], a1.2, a2.2, a3.2, a4.2, e2, e3⟩
          · rename_i k1
            obtain ⟨lo, hh, rfl, e1, e2, e3⟩ := finE_inv l3 h
            rw [if_neg k1] at e1
            have k3 : k = 3 := by rcases k13 with h | h; exact absurd h k1; exact h
            rw [e1]
            exact ⟨by simp [packE, k3], a1.2, a2.2, a3.2, ⟨by show (-9223372036854775808 : Int) ≤ 0; omega, by show (0 : Int) ≤ 9223372036854775807; omega⟩, e2, e3⟩
      · rename_i k13
        obtain ⟨lo, hh, rfl, e1, e2, e3⟩ := finE_inv l2 h
        have k1 : ¬ k = 1 := fun h => k13 (.inl h)
        have k3 : ¬ k = 3 := fun h => k13 (.inr h)
        rw [if_neg k1] at e1
        rw [e1]
        exact ⟨by simp [packE, k3, k1], a1.2, a2.2, ⟨by show (-9223372036854775808 : Int) ≤ 0; omega, by show (0 : Int) ≤ 9223372036854775807; omega⟩, ⟨by show (-9223372036854775808 : Int) ≤ 0; omega, by show (0 : Int) ≤ 9223372036854775807; omega⟩, e2, e3⟩

theorem goL_inv : ∀ {n : Nat} {acc l : List Ed} {s rest : List UInt8}, s.length ≤ 100000 → goL acc n s = .ok l rest → ∃ l', l = acc ++ l' ∧ l'.length = n ∧ s = packEs l' ++ rest ∧ ∀ e ∈ l', e.ok
  | 0, acc, l, s, rest, hs, h => by
    simp only [goL, QR.ok.injEq] at h
    obtain ⟨rfl, rfl⟩ := h
    exact ⟨[], by simp, rfl, by simp [packEs], by simp⟩
  | n + 1, acc, l, s, rest, hs, h => by
    simp only [goL] at h
    split at h
    · cases h
    · split at h
      · cases h
      · rename_i x r2 hE
        have a := rdE_inv hs hE
        have b := rdE_lt hE
        obtain ⟨l', rfl, h2, h3, h4⟩ := goL_inv (by omega) h
        refine ⟨x :: l', by simp, by simp [h2], ?_, ?_⟩
        · rw [a.1, h3]; simp [packEs]
        · intro e he
          rcases List.mem_cons.1 he with rfl | he
          · exact a.2
          · exact h4 e he

theorem packEs_ge : ∀ (l : List Ed), l.length ≤ (packEs l).length
  | [] => by simp [packEs]
  | e :: l => by
    have h1 := packEs_ge l
    have h2 : 0 < (packE e).length := List.length_pos_iff.2 (packE_ne e)
    simp [packEs]; omega

theorem rdU_inv {s : List UInt8} {l : List Ed} (hs : s.length ≤ 100000) (h : rdU s = .inr l) : pack l = s ∧ (∀ e ∈ l, e.ok) ∧ l.length ≤ 100000 := by
  unfold rdU rdL at h
  cases hc : rdC s with
  | err e => rw [hc] at h; cases h
  | ok n k =>
    rw [hc] at h
    simp only [] at h
    split at h
    · cases h
    · rename_i l2 rest hg
      split at h
      · rename_i hr
        cases h
        subst hr
        have h1 := rdC_inv hc
        obtain ⟨l', e1, h2, h3, h4⟩ := goL_inv (by simp; omega) hg
        rw [List.nil_append] at e1
        subst e1
        rw [List.append_nil] at h3
        have h5 := packEs_ge l
        have h6 : (packEs l).length ≤ s.length := by rw [← h3]; simp
        refine ⟨?_, h4, by omega⟩
        unfold pack
        rw [← h3, h2]
        exact h1.symm
      · cases h

end Go.Proofs.Ytlognommhffmcaa.Im

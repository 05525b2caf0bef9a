/- Joined: S13Pk, S13Rf. -/
import Derived.Test.YtlognommhffmcaaWr
/- S13Pk: edits and their bytes: the writing. -/
set_option linter.unusedVariables false
set_option linter.unusedSimpArgs false
open Go Go.Im
namespace Go.Proofs.Ytlognommhffmcaa.Im

structure Ed where
  k : Int
  f : Int
  l : Int
  c : Int
  lo : List UInt8
  hi : List UInt8
  deriving DecidableEq

def edOf (e : Ed) : AV := .agg [.int .i64 e.k, .int .i64 e.f, .int .i64 e.l, .int .i64 e.c, .str e.lo, .str e.hi]
def edsOf (l : List Ed) : List AV := l.map edOf
theorem edsOf_len (l : List Ed) : (edsOf l).length = l.length := by simp [edsOf]
theorem edsOf_get {l : List Ed} {i : Nat} (h : i < l.length) : (edsOf l)[i]? = some (edOf l[i]) := by simp [edsOf, h]

/-- Its numbers are numbers of 64 bits, its texts not too long. -/
def Ed.ok (e : Ed) : Prop := (-9223372036854775808 ≤ e.k ∧ e.k ≤ 9223372036854775807) ∧ (-9223372036854775808 ≤ e.f ∧ e.f ≤ 9223372036854775807) ∧ (-9223372036854775808 ≤ e.l ∧ e.l ≤ 9223372036854775807) ∧
  (-9223372036854775808 ≤ e.c ∧ e.c ≤ 9223372036854775807) ∧ e.lo.length ≤ 100000 ∧ e.hi.length ≤ 100000

def packE (e : Ed) : List UInt8 := encW e.k ++ (encW e.f ++ (if e.k = 1 then encW e.l ++ (encW e.c ++ (encT e.lo ++ encT e.hi)) else if e.k = 3 then encW e.l else []))
def packEs : List Ed → List UInt8
  | [] => []
  | e :: es => packE e ++ packEs es
def pack (l : List Ed) : List UInt8 := enc l.length 64 ++ packEs l

theorem encW_len {x : Int} (h1 : -9223372036854775808 ≤ x) (h2 : x ≤ 9223372036854775807) : (encW x).length ≤ 11 := by
  unfold encW
  split <;> exact enc_len _ _ (by omega)
theorem encT_len {s : List UInt8} (h : s.length ≤ 100000) : (encT s).length ≤ 100011 := by
  have := enc_len s.length 64 (by omega)
  unfold encT; simp; omega

theorem keepsBut_trans {id : Nat} {a b c : Hp} (h1 : keepsBut id a b) (h2 : keepsBut id b c) : keepsBut id a c := fun i o hi ho hs => h2 i o hi (h1 i o hi ho hs) hs

theorem packE_len {e : Ed} (h : e.ok) : (packE e).length ≤ 300000 := by
  obtain ⟨hk, hf, hl, hc, hlo, hhi⟩ := h
  have a := encW_len hk.1 hk.2
  have b := encW_len hf.1 hf.2
  have c := encW_len hl.1 hl.2
  have d := encW_len hc.1 hc.2
  have e1 := encT_len hlo
  have e2 := encT_len hhi
  unfold packE
  split
  · simp; omega
  · split <;> simp <;> omega

theorem c23 {tot : Bool} {ω : Nat → Nat} {n : Nat} (id : Nat) (bs : List UInt8) (e : Ed) (h : Hp) (hw : WR id bs h) (hl : bs.length ≤ 1000000000000) (he : e.ok) (hn : 14 < n) :
    ∃ h', call F n tot ω 23 [.ptr id 1 0 0, edOf e] h = some (.tup [], h') ∧ WR id (bs ++ packE e) h' ∧ keepsBut id h h' ∧ h.length ≤ h'.length := by
  obtain ⟨n, rfl⟩ : ∃ m, n = m + 1 := ⟨n - 1, by omega⟩
  suffices hh : ∃ v' h', call F (n + 1) tot ω 23 [.ptr id 1 0 0, edOf e] h = some (v', h') ∧ v' = .tup [] ∧ WR id (bs ++ packE e) h' ∧ keepsBut id h h' ∧ h.length ≤ h'.length by
    obtain ⟨v', h', e1, rfl, e2⟩ := hh
    exact ⟨h', e1, e2⟩
  refine call_of (fn := a23) f23 (P := fun v' h' => v' = .tup [] ∧ WR id (bs ++ packE e) h' ∧ keepsBut id h h' ∧ h.length ≤ h'.length) ?_
  unfold a23 edOf
  obtain ⟨hk, hf, hl1, hc, hlo, hhi⟩ := he
  have a := encW_len hk.1 hk.2
  have b := encW_len hf.1 hf.2
  have c := encW_len hl1.1 hl1.2
  have d := encW_len hc.1 hc.2
  have e1 := encT_len hlo
  have e2 := encT_len hhi
  obtain ⟨h1, r1, w1, k1, l1⟩ := c24 (tot := tot) (ω := ω) (n := n) id bs e.k h hw (by omega) hk.1 hk.2 (by omega)
  obtain ⟨h2, r2, w2, k2, l2⟩ := c24 (tot := tot) (ω := ω) (n := n) id _ e.f h1 w1 (by simp; omega) hf.1 hf.2 (by omega)
  by_cases hk1 : e.k = 1
  · obtain ⟨h3, r3, w3, k3, l3⟩ := c24 (tot := tot) (ω := ω) (n := n) id _ e.l h2 w2 (by simp; omega) hl1.1 hl1.2 (by omega)
    obtain ⟨h4, r4, w4, k4, l4⟩ := c24 (tot := tot) (ω := ω) (n := n) id _ e.c h3 w3 (by simp; omega) hc.1 hc.2 (by omega)
    obtain ⟨h5, r5, w5, k5, l5⟩ := c25 (tot := tot) (ω := ω) (n := n) id _ e.lo h4 w4 (by simp; omega) (by omega) (by omega)
    obtain ⟨h6, r6, w6, k6, l6⟩ := c25 (tot := tot) (ω := ω) (n := n) id _ e.hi h5 w5 (by simp; omega) (by omega) (by omega)
    have hp : bs ++ packE e = (((((bs ++ encW e.k) ++ encW e.f) ++ encW e.l) ++ encW e.c) ++ encT e.lo) ++ encT e.hi := by
      simp [packE, hk1]
    have hq : (e.k == 1) = true := by simp [hk1]
    have kk := keepsBut_trans k1 (keepsBut_trans k2 (keepsBut_trans k3 (keepsBut_trans k4 (keepsBut_trans k5 k6))))
    simp (maxSteps := 2000000) (discharger := omega) only [xc, xo, xr, x0, x1, x2, x3, x4, x5, x6, xd, xe, xb, kont_call, kont_pure, isNil, slOk, sliceV, selems, srcElems, copyTo, dlen, eqAV, eqCells, eqS, upd, wr, place, partVals, partEs, placeEs, mapOf, keyOk, keyCells, findK, Bool.bne_false, Bool.bne_true, List.drop_zero, List.nil_append, List.append_nil, List.take_zero, List.cons_append, List.take_succ_cons, List.drop_succ_cons, List.take_nil, List.drop_nil, Reg.isA, Reg.isV, Reg.stays, Reg.onto, Bool.false_or, Bool.or_false, Bool.false_and, Bool.and_false, Bool.true_and, Bool.and_true, Bool.or_true, Bool.true_or, ↓reduceIte, reduceCtorEq, Nat.reduceEqDiff, Nat.reduceLT, Nat.reduceAdd, Nat.reduceMul, Nat.add_zero, Nat.zero_add, Nat.not_lt_zero, Nat.zero_ne_one, Nat.one_ne_zero, Nat.reduceLeDiff, Nat.lt_irrefl, Nat.zero_lt_succ, Bool.false_eq_true, Bool.not_true, Bool.not_false, Option.map_some, Option.map_none, Option.bind_some, Option.getD_some, Option.getD_none, and_self, and_true, true_and, List.length_cons, List.length_nil, List.any_nil, List.any_cons, Int.toNat_natCast, Int.cast_ofNat_Int, Int.natCast_zero, Int.natCast_nonneg, true_implies, or_true, true_or, false_or, or_false, beq_self_eq_true, Option.some.injEq, exists_eq_left', Int.reduceEq, Int.reduceLT, Int.reduceLE, Int.reduceGT, Int.reduceGE, Nat.reduceGT, Int.reduceNeg, Int.reduceToNat, Int.reduceAdd, Int.reduceMul, Int.reduceSub, Int.reducePow, decide_true, decide_false, decide_eq_true_eq, List.getElem?_cons_zero, List.getElem?_cons_succ, Nat.reduceBEq, Nat.reduceSub, exists_false, and_false, false_and, wrap_i64, r1, r2, r3, r4, r5, r6, hq]
    rw [hp]
    exact ⟨w6, kk, by omega⟩
  · by_cases hk3 : e.k = 3
    · obtain ⟨h3, r3, w3, k3, l3⟩ := c24 (tot := tot) (ω := ω) (n := n) id _ e.l h2 w2 (by simp; omega) hl1.1 hl1.2 (by omega)
      have hp : bs ++ packE e = (((bs ++ encW e.k) ++ encW e.f) ++ encW e.l) := by
        simp [packE, hk3]
      have hq : (e.k == 1) = false := by simp [hk1]
      have hq2 : (e.k == 3) = true := by simp [hk3]
      have kk := keepsBut_trans k1 (keepsBut_trans k2 k3)
      simp (maxSteps := 2000000) (discharger := omega) only [xc, xo, xr, x0, x1, x2, x3, x4, x5, x6, xd, xe, xb, kont_call, kont_pure, isNil, slOk, sliceV, selems, srcElems, copyTo, dlen, eqAV, eqCells, eqS, upd, wr, place, partVals, partEs, placeEs, mapOf, keyOk, keyCells, findK, Bool.bne_false, Bool.bne_true, List.drop_zero, List.nil_append, List.append_nil, List.take_zero, List.cons_append, List.take_succ_cons, List.drop_succ_cons, List.take_nil, List.drop_nil, Reg.isA, Reg.isV, Reg.stays, Reg.onto, Bool.false_or, Bool.or_false, Bool.false_and, Bool.and_false, Bool.true_and, Bool.and_true, Bool.or_true, Bool.true_or, ↓reduceIte, reduceCtorEq, Nat.reduceEqDiff, Nat.reduceLT, Nat.reduceAdd, Nat.reduceMul, Nat.add_zero, Nat.zero_add, Nat.not_lt_zero, Nat.zero_ne_one, Nat.one_ne_zero, Nat.reduceLeDiff, Nat.lt_irrefl, Nat.zero_lt_succ, Bool.false_eq_true, Bool.not_true, Bool.not_false, Option.map_some, Option.map_none, Option.bind_some, Option.getD_some, Option.getD_none, and_self, and_true, true_and, List.length_cons, List.length_nil, List.any_nil, List.any_cons, Int.toNat_natCast, Int.cast_ofNat_Int, Int.natCast_zero, Int.natCast_nonneg, true_implies, or_true, true_or, false_or, or_false, beq_self_eq_true, Option.some.injEq, exists_eq_left', Int.reduceEq, Int.reduceLT, Int.reduceLE, Int.reduceGT, Int.reduceGE, Nat.reduceGT, Int.reduceNeg, Int.reduceToNat, Int.reduceAdd, Int.reduceMul, Int.reduceSub, Int.reducePow, decide_true, decide_false, decide_eq_true_eq, List.getElem?_cons_zero, List.getElem?_cons_succ, Nat.reduceBEq, Nat.reduceSub, exists_false, and_false, false_and, wrap_i64, r1, r2, r3, hq, hq2]
      rw [hp]
      exact ⟨w3, kk, by omega⟩
    · have hp : bs ++ packE e = ((bs ++ encW e.k) ++ encW e.f) := by
        simp [packE, hk3, hk1]
      have hq : (e.k == 1) = false := by simp [hk1]
      have hq2 : (e.k == 3) = false := by simp [hk3]
      have kk := keepsBut_trans k1 k2
      simp (maxSteps := 2000000) (discharger := omega) only [xc, xo, xr, x0, x1, x2, x3, x4, x5, x6, xd, xe, xb, kont_call, kont_pure, isNil, slOk, sliceV, selems, srcElems, copyTo, dlen, eqAV, eqCells, eqS, upd, wr, place, partVals, partEs, placeEs, mapOf, keyOk, keyCells, findK, Bool.bne_false, Bool.bne_true, List.drop_zero, List.nil_append, List.append_nil, List.take_zero, List.cons_append, List.take_succ_cons, List.drop_succ_cons, List.take_nil, List.drop_nil, Reg.isA, Reg.isV, Reg.stays, Reg.onto, Bool.false_or, Bool.or_false, Bool.false_and, Bool.and_false, Bool.true_and, Bool.and_true, Bool.or_true, Bool.true_or, ↓reduceIte, reduceCtorEq, Nat.reduceEqDiff, Nat.reduceLT, Nat.reduceAdd, Nat.reduceMul, Nat.add_zero, Nat.zero_add, Nat.not_lt_zero, Nat.zero_ne_one, Nat.one_ne_zero, Nat.reduceLeDiff, Nat.lt_irrefl, Nat.zero_lt_succ, Bool.false_eq_true, Bool.not_true, Bool.not_false, Option.map_some, Option.map_none, Option.bind_some, Option.getD_some, Option.getD_none, and_self, and_true, true_and, List.length_cons, List.length_nil, List.any_nil, List.any_cons, Int.toNat_natCast, Int.cast_ofNat_Int, Int.natCast_zero, Int.natCast_nonneg, true_implies, or_true, true_or, false_or, or_false, beq_self_eq_true, Option.some.injEq, exists_eq_left', Int.reduceEq, Int.reduceLT, Int.reduceLE, Int.reduceGT, Int.reduceGE, Nat.reduceGT, Int.reduceNeg, Int.reduceToNat, Int.reduceAdd, Int.reduceMul, Int.reduceSub, Int.reducePow, decide_true, decide_false, decide_eq_true_eq, List.getElem?_cons_zero, List.getElem?_cons_succ, Nat.reduceBEq, Nat.reduceSub, exists_false, and_false, false_and, wrap_i64, r1, r2, hq, hq2]
      rw [hp]
      exact ⟨w2, kk, by omega⟩

/-- A slice that can be read. -/
def IsRd (sz : Nat) (es : List AV) (v : AV) : Prop := (v = .nils ∧ es = []) ∨ ∃ c, v = .imm sz es c
theorem IsRd.len {sz : Nat} {es : List AV} {v : AV} (h : IsRd sz es v) : lenSl v = some es.length := by
  rcases h with ⟨rfl, rfl⟩ | ⟨c, rfl⟩ <;> rfl
theorem IsRd.imm {sz : Nat} {es : List AV} {v : AV} {i : Nat} (h : IsRd sz es v) (hi : i < es.length) : ∃ c, v = .imm sz es c := by
  rcases h with ⟨rfl, rfl⟩ | ⟨c, rfl⟩
  · exact absurd hi (Nat.not_lt_zero _)
  · exact ⟨c, rfl⟩
theorem isRd_sl {sz : Nat} {es : List AV} {v : AV} (h : IsSl sz es v) : IsRd sz es v := by
  rcases h with h | h
  · exact .inl h
  · exact .inr ⟨_, h⟩
theorem isRd_app {sz : Nat} {es : List AV} {h : Hp} {v : AV} (hv : IsApp sz es h v) : IsRd sz es v := by
  rcases hv with h | h | ⟨id, h, _⟩
  · exact .inl h
  · exact .inr ⟨_, h⟩
  · exact .inr ⟨_, h⟩

theorem packEs_snoc : ∀ (l : List Ed) (e : Ed), packEs (l ++ [e]) = packEs l ++ packE e
  | [], e => by simp [packEs]
  | a :: l, e => by simp [packEs, packEs_snoc l e]
theorem packEs_len : ∀ (l : List Ed), (∀ e ∈ l, e.ok) → (packEs l).length ≤ 300000 * l.length
  | [], h => by simp [packEs]
  | a :: l, h => by
    have h1 := packE_len (h a (by simp))
    have h2 := packEs_len l (fun e he => h e (by simp [he]))
    simp [packEs]; omega

theorem edOf_agg (e : Ed) : ∃ cs, edOf e = .agg cs ∧ cs.length = 6 := ⟨_, rfl, rfl⟩

theorem c22 {tot : Bool} {ω : Nat → Nat} {n : Nat} (id : Nat) (v : AV) (l : List Ed) (h : Hp) (hw : WR id [] h) (hv : IsRd 6 (edsOf l) v) (hok : ∀ e ∈ l, e.ok) (hl : l.length ≤ 100000) (hn : l.length + 16 < n) :
    ∃ h', call F n tot ω 22 [.ptr id 1 0 0, v, .fn (.func 23) [] []] h = some (.int .i64 0, h') ∧ WR id (pack l) h' ∧ keepsBut id h h' ∧ h.length ≤ h'.length := by
  obtain ⟨n, rfl⟩ : ∃ m, n = m + 1 := ⟨n - 1, by omega⟩
  suffices hh : ∃ v' h', call F (n + 1) tot ω 22 [.ptr id 1 0 0, v, .fn (.func 23) [] []] h = some (v', h') ∧ v' = .int .i64 0 ∧ WR id (pack l) h' ∧ keepsBut id h h' ∧ h.length ≤ h'.length by
    obtain ⟨v', h', e1, rfl, e2⟩ := hh
    exact ⟨h', e1, e2⟩
  refine call_of (fn := a22) f22 (P := fun v' h' => v' = .int .i64 0 ∧ WR id (pack l) h' ∧ keepsBut id h h' ∧ h.length ≤ h'.length) ?_
  unfold a22
  have hlen := hv.len
  rw [edsOf_len] at hlen
  obtain ⟨h1, r1, w1, k1, l1⟩ := c44 (tot := tot) (ω := ω) (n := n) id [] l.length h hw (by simp) (by omega) (by omega)
  rw [List.nil_append] at w1
  simp (maxSteps := 2000000) (discharger := omega) only [xc, xo, xr, x0, x1, x2, x3, x4, x5, x6, xd, xe, xb, kont_call, kont_pure, isNil, slOk, sliceV, selems, srcElems, copyTo, dlen, eqAV, eqCells, eqS, upd, wr, place, partVals, partEs, placeEs, mapOf, keyOk, keyCells, findK, Bool.bne_false, Bool.bne_true, List.drop_zero, List.nil_append, List.append_nil, List.take_zero, List.cons_append, List.take_succ_cons, List.drop_succ_cons, List.take_nil, List.drop_nil, Reg.isA, Reg.isV, Reg.stays, Reg.onto, Bool.false_or, Bool.or_false, Bool.false_and, Bool.and_false, Bool.true_and, Bool.and_true, Bool.or_true, Bool.true_or, ↓reduceIte, reduceCtorEq, Nat.reduceEqDiff, Nat.reduceLT, Nat.reduceAdd, Nat.reduceMul, Nat.add_zero, Nat.zero_add, Nat.not_lt_zero, Nat.zero_ne_one, Nat.one_ne_zero, Nat.reduceLeDiff, Nat.lt_irrefl, Nat.zero_lt_succ, Bool.false_eq_true, Bool.not_true, Bool.not_false, Option.map_some, Option.map_none, Option.bind_some, Option.getD_some, Option.getD_none, and_self, and_true, true_and, List.length_cons, List.length_nil, List.any_nil, List.any_cons, Int.toNat_natCast, Int.cast_ofNat_Int, Int.natCast_zero, Int.natCast_nonneg, true_implies, or_true, true_or, false_or, or_false, beq_self_eq_true, Option.some.injEq, exists_eq_left', Int.reduceEq, Int.reduceLT, Int.reduceLE, Int.reduceGT, Int.reduceGE, Nat.reduceGT, Int.reduceNeg, Int.reduceToNat, Int.reduceAdd, Int.reduceMul, Int.reduceSub, Int.reducePow, decide_true, decide_false, decide_eq_true_eq, List.getElem?_cons_zero, List.getElem?_cons_succ, Nat.reduceBEq, Nat.reduceSub, exists_false, and_false, false_and, wrap_i64, hlen, r1]
  refine wpi_loop (fun k r g => ∃ (i : Nat), r = [(0, .val (.ptr id 1 0 0)), (2, .val (.fn (.func 23) [] [])), (19, .val v), (20, .val (.int .i64 l.length)), (21, .val (.int .i64 i))] ∧ i + k = l.length ∧ WR id (enc l.length 64 ++ packEs (l.take i)) g ∧ keepsBut id h g ∧ h.length ≤ g.length) l.length (by omega) ⟨0, rfl, by omega, by simpa [packEs] using w1, k1, by omega⟩ ?_
  rintro k r g ⟨i, rfl, hik, hw2, hk2, hl2⟩
  by_cases hlt : i < l.length
  · have hlt' : ((i : Nat) : Int) < (l.length : Int) := by omega
    have hge := edsOf_get hlt
    obtain ⟨c, rfl⟩ := hv.imm (i := i) (by rw [edsOf_len]; omega)
    have hb := packEs_len (l.take i) (fun e he => hok e (List.mem_of_mem_take he))
    have hel := enc_len l.length 64 (by omega)
    obtain ⟨g2, r2, w2, k2, l2⟩ := c23 (tot := tot) (ω := ω) (n := n) id _ l[i] g hw2 (by simp at hb ⊢; omega) (hok _ (List.getElem_mem _)) (by omega)
    rw [List.append_assoc, ← packEs_snoc] at w2
    have ht : l.take i ++ [l[i]] = l.take (i + 1) := by simp
    rw [ht] at w2
    unfold edOf at r2 hge
    have hi0 : (0 : Int) ≤ (i : Int) := by omega
    simp (maxSteps := 2000000) (discharger := omega) only [xc, xo, xr, x0, x1, x2, x3, x4, x5, x6, xd, xe, xb, kont_call, kont_pure, isNil, slOk, sliceV, selems, srcElems, copyTo, dlen, eqAV, eqCells, eqS, upd, wr, place, partVals, partEs, placeEs, mapOf, keyOk, keyCells, findK, Bool.bne_false, Bool.bne_true, List.drop_zero, List.nil_append, List.append_nil, List.take_zero, List.cons_append, List.take_succ_cons, List.drop_succ_cons, List.take_nil, List.drop_nil, Reg.isA, Reg.isV, Reg.stays, Reg.onto, Bool.false_or, Bool.or_false, Bool.false_and, Bool.and_false, Bool.true_and, Bool.and_true, Bool.or_true, Bool.true_or, ↓reduceIte, reduceCtorEq, Nat.reduceEqDiff, Nat.reduceLT, Nat.reduceAdd, Nat.reduceMul, Nat.add_zero, Nat.zero_add, Nat.not_lt_zero, Nat.zero_ne_one, Nat.one_ne_zero, Nat.reduceLeDiff, Nat.lt_irrefl, Nat.zero_lt_succ, Bool.false_eq_true, Bool.not_true, Bool.not_false, Option.map_some, Option.map_none, Option.bind_some, Option.getD_some, Option.getD_none, and_self, and_true, true_and, List.length_cons, List.length_nil, List.any_nil, List.any_cons, Int.toNat_natCast, Int.cast_ofNat_Int, Int.natCast_zero, Int.natCast_nonneg, true_implies, or_true, true_or, false_or, or_false, beq_self_eq_true, Option.some.injEq, exists_eq_left', Int.reduceEq, Int.reduceLT, Int.reduceLE, Int.reduceGT, Int.reduceGE, Nat.reduceGT, Int.reduceNeg, Int.reduceToNat, Int.reduceAdd, Int.reduceMul, Int.reduceSub, Int.reducePow, decide_true, decide_false, decide_eq_true_eq, List.getElem?_cons_zero, List.getElem?_cons_succ, Nat.reduceBEq, Nat.reduceSub, exists_false, and_false, false_and, wrap_i64, hlt', hge, r2, hlen]
    exact ⟨k - 1, by omega, i + 1, rfl, by omega, w2, keepsBut_trans hk2 k2, by omega⟩
  · have hlt' : ¬ ((i : Nat) : Int) < (l.length : Int) := by omega
    obtain rfl : i = l.length := by omega
    rw [List.take_length] at hw2
    have hw3 : WR id (pack l) g := hw2
    simp (maxSteps := 2000000) (discharger := omega) only [xc, xo, xr, x0, x1, x2, x3, x4, x5, x6, xd, xe, xb, kont_call, kont_pure, isNil, slOk, sliceV, selems, srcElems, copyTo, dlen, eqAV, eqCells, eqS, upd, wr, place, partVals, partEs, placeEs, mapOf, keyOk, keyCells, findK, Bool.bne_false, Bool.bne_true, List.drop_zero, List.nil_append, List.append_nil, List.take_zero, List.cons_append, List.take_succ_cons, List.drop_succ_cons, List.take_nil, List.drop_nil, Reg.isA, Reg.isV, Reg.stays, Reg.onto, Bool.false_or, Bool.or_false, Bool.false_and, Bool.and_false, Bool.true_and, Bool.and_true, Bool.or_true, Bool.true_or, ↓reduceIte, reduceCtorEq, Nat.reduceEqDiff, Nat.reduceLT, Nat.reduceAdd, Nat.reduceMul, Nat.add_zero, Nat.zero_add, Nat.not_lt_zero, Nat.zero_ne_one, Nat.one_ne_zero, Nat.reduceLeDiff, Nat.lt_irrefl, Nat.zero_lt_succ, Bool.false_eq_true, Bool.not_true, Bool.not_false, Option.map_some, Option.map_none, Option.bind_some, Option.getD_some, Option.getD_none, and_self, and_true, true_and, List.length_cons, List.length_nil, List.any_nil, List.any_cons, Int.toNat_natCast, Int.cast_ofNat_Int, Int.natCast_zero, Int.natCast_nonneg, true_implies, or_true, true_or, false_or, or_false, beq_self_eq_true, Option.some.injEq, exists_eq_left', Int.reduceEq, Int.reduceLT, Int.reduceLE, Int.reduceGT, Int.reduceGE, Nat.reduceGT, Int.reduceNeg, Int.reduceToNat, Int.reduceAdd, Int.reduceMul, Int.reduceSub, Int.reducePow, decide_true, decide_false, decide_eq_true_eq, List.getElem?_cons_zero, List.getElem?_cons_succ, Nat.reduceBEq, Nat.reduceSub, exists_false, and_false, false_and, wrap_i64, hlt', hw3, hk2, hl2, hlen]

theorem keeps_new {h g : Hp} {o : AO} (hk : keepsBut h.length (h ++ [o]) g) : keeps h g := fun j x hj hs => by
  have h1 := (List.getElem?_eq_some_iff.1 hj).1
  exact hk j x (by omega) (by rw [List.getElem?_append_left h1]; exact hj) hs

theorem c8 {tot : Bool} {ω : Nat → Nat} {n : Nat} (v : AV) (l : List Ed) (h : Hp) (hv : IsRd 6 (edsOf l) v) (hok : ∀ e ∈ l, e.ok) (hl : l.length ≤ 100000) (hn : l.length + 17 < n) :
    ∃ h', call F n tot ω 8 [v] h = some (.str (pack l), h') ∧ keeps h h' ∧ h.length ≤ h'.length := by
  obtain ⟨n, rfl⟩ : ∃ m, n = m + 1 := ⟨n - 1, by omega⟩
  suffices hh : ∃ v' h', call F (n + 1) tot ω 8 [v] h = some (v', h') ∧ v' = .str (pack l) ∧ keeps h h' ∧ h.length ≤ h'.length by
    obtain ⟨v', h', e1, rfl, e2⟩ := hh
    exact ⟨h', e1, e2⟩
  refine call_of (fn := a8) f8 (P := fun v' h' => v' = .str (pack l) ∧ keeps h h' ∧ h.length ≤ h'.length) ?_
  unfold a8
  have r1 := c21 (tot := tot) (ω := ω) (n := n) h (by omega)
  obtain ⟨h2, r2, w2, k2, l2⟩ := c22 (tot := tot) (ω := ω) (n := n) h.length v l _ (WR.new h) hv hok hl (by omega)
  have r3 := c26 (tot := tot) (ω := ω) (n := n) h.length _ h2 w2 (by omega)
  have hk := keeps_new k2
  have hl2 : h.length ≤ h2.length := by simp at l2; omega
  simp (maxSteps := 2000000) (discharger := omega) only [xc, xo, xr, x0, x1, x2, x3, x4, x5, x6, xd, xe, xb, kont_call, kont_pure, isNil, slOk, sliceV, selems, srcElems, copyTo, dlen, eqAV, eqCells, eqS, upd, wr, place, partVals, partEs, placeEs, mapOf, keyOk, keyCells, findK, Bool.bne_false, Bool.bne_true, List.drop_zero, List.nil_append, List.append_nil, List.take_zero, List.cons_append, List.take_succ_cons, List.drop_succ_cons, List.take_nil, List.drop_nil, Reg.isA, Reg.isV, Reg.stays, Reg.onto, Bool.false_or, Bool.or_false, Bool.false_and, Bool.and_false, Bool.true_and, Bool.and_true, Bool.or_true, Bool.true_or, ↓reduceIte, reduceCtorEq, Nat.reduceEqDiff, Nat.reduceLT, Nat.reduceAdd, Nat.reduceMul, Nat.add_zero, Nat.zero_add, Nat.not_lt_zero, Nat.zero_ne_one, Nat.one_ne_zero, Nat.reduceLeDiff, Nat.lt_irrefl, Nat.zero_lt_succ, Bool.false_eq_true, Bool.not_true, Bool.not_false, Option.map_some, Option.map_none, Option.bind_some, Option.getD_some, Option.getD_none, and_self, and_true, true_and, List.length_cons, List.length_nil, List.any_nil, List.any_cons, Int.toNat_natCast, Int.cast_ofNat_Int, Int.natCast_zero, Int.natCast_nonneg, true_implies, or_true, true_or, false_or, or_false, beq_self_eq_true, Option.some.injEq, exists_eq_left', Int.reduceEq, Int.reduceLT, Int.reduceLE, Int.reduceGT, Int.reduceGE, Nat.reduceGT, Int.reduceNeg, Int.reduceToNat, Int.reduceAdd, Int.reduceMul, Int.reduceSub, Int.reducePow, decide_true, decide_false, decide_eq_true_eq, List.getElem?_cons_zero, List.getElem?_cons_succ, Nat.reduceBEq, Nat.reduceSub, exists_false, and_false, false_and, wrap_i64, r1, r2, r3, hk, hl2]

end Go.Proofs.Ytlognommhffmcaa.Im

/- S13Rf: edits and their bytes: the reference's writing, and what is left out. -/
set_option linter.unusedVariables false
set_option linter.unusedSimpArgs false
open Go Go.Im
namespace Go.Proofs.Ytlognommhffmcaa.Im

theorem c33 {tot : Bool} {ω : Nat → Nat} {n : Nat} (x : Int) (h : Hp) (hx : -9223372036854775808 ≤ x) (hx2 : x ≤ 9223372036854775807) (hn : 13 < n) :
    call F n tot ω 33 [.int .i64 x] h = some (.str (encW x), h) := by
  obtain ⟨n, rfl⟩ : ∃ m, n = m + 1 := ⟨n - 1, by omega⟩
  refine call_eq (fn := a33) f33 ?_
  unfold a33
  by_cases hneg : x < 0
  · have he : encW x = enc (-(x + 1)).toNat 128 := if_pos hneg
    have e1 := c49 (tot := tot) (ω := ω) (n := n) (-(x + 1)).toNat 128 h (by omega) (by omega) (by omega)
    rw [Int.toNat_of_nonneg (by omega), show ((128 : Nat) : Int) = 128 from rfl, ← he] at e1
    have hz : (0 : Int) - (x + 1) = -(x + 1) := by omega
    simp (maxSteps := 2000000) (discharger := omega) only [xc, xo, xr, x0, x1, x2, x3, x4, x5, x6, xd, xe, xb, kont_call, kont_pure, isNil, slOk, sliceV, selems, srcElems, copyTo, dlen, eqAV, eqCells, eqS, upd, wr, place, partVals, partEs, placeEs, mapOf, keyOk, keyCells, findK, Bool.bne_false, Bool.bne_true, List.drop_zero, List.nil_append, List.append_nil, List.take_zero, List.cons_append, List.take_succ_cons, List.drop_succ_cons, List.take_nil, List.drop_nil, Reg.isA, Reg.isV, Reg.stays, Reg.onto, Bool.false_or, Bool.or_false, Bool.false_and, Bool.and_false, Bool.true_and, Bool.and_true, Bool.or_true, Bool.true_or, ↓reduceIte, reduceCtorEq, Nat.reduceEqDiff, Nat.reduceLT, Nat.reduceAdd, Nat.reduceMul, Nat.add_zero, Nat.zero_add, Nat.not_lt_zero, Nat.zero_ne_one, Nat.one_ne_zero, Nat.reduceLeDiff, Nat.lt_irrefl, Nat.zero_lt_succ, Bool.false_eq_true, Bool.not_true, Bool.not_false, Option.map_some, Option.map_none, Option.bind_some, Option.getD_some, Option.getD_none, and_self, and_true, true_and, List.length_cons, List.length_nil, List.any_nil, List.any_cons, Int.toNat_natCast, Int.cast_ofNat_Int, Int.natCast_zero, Int.natCast_nonneg, true_implies, or_true, true_or, false_or, or_false, beq_self_eq_true, Option.some.injEq, exists_eq_left', Int.reduceEq, Int.reduceLT, Int.reduceLE, Int.reduceGT, Int.reduceGE, Nat.reduceGT, Int.reduceNeg, Int.reduceToNat, Int.reduceAdd, Int.reduceMul, Int.reduceSub, Int.reducePow, decide_true, decide_false, decide_eq_true_eq, List.getElem?_cons_zero, List.getElem?_cons_succ, Nat.reduceBEq, Nat.reduceSub, exists_false, and_false, false_and, wrap_i64, hneg, wrap_u64, hz, e1]
  · have he : encW x = enc x.toNat 64 := if_neg hneg
    have e1 := c49 (tot := tot) (ω := ω) (n := n) x.toNat 64 h (by omega) (by omega) (by omega)
    rw [Int.toNat_of_nonneg (by omega), show ((64 : Nat) : Int) = 64 from rfl, ← he] at e1
    simp (maxSteps := 2000000) (discharger := omega) only [xc, xo, xr, x0, x1, x2, x3, x4, x5, x6, xd, xe, xb, kont_call, kont_pure, isNil, slOk, sliceV, selems, srcElems, copyTo, dlen, eqAV, eqCells, eqS, upd, wr, place, partVals, partEs, placeEs, mapOf, keyOk, keyCells, findK, Bool.bne_false, Bool.bne_true, List.drop_zero, List.nil_append, List.append_nil, List.take_zero, List.cons_append, List.take_succ_cons, List.drop_succ_cons, List.take_nil, List.drop_nil, Reg.isA, Reg.isV, Reg.stays, Reg.onto, Bool.false_or, Bool.or_false, Bool.false_and, Bool.and_false, Bool.true_and, Bool.and_true, Bool.or_true, Bool.true_or, ↓reduceIte, reduceCtorEq, Nat.reduceEqDiff, Nat.reduceLT, Nat.reduceAdd, Nat.reduceMul, Nat.add_zero, Nat.zero_add, Nat.not_lt_zero, Nat.zero_ne_one, Nat.one_ne_zero, Nat.reduceLeDiff, Nat.lt_irrefl, Nat.zero_lt_succ, Bool.false_eq_true, Bool.not_true, Bool.not_false, Option.map_some, Option.map_none, Option.bind_some, Option.getD_some, Option.getD_none, and_self, and_true, true_and, List.length_cons, List.length_nil, List.any_nil, List.any_cons, Int.toNat_natCast, Int.cast_ofNat_Int, Int.natCast_zero, Int.natCast_nonneg, true_implies, or_true, true_or, false_or, or_false, beq_self_eq_true, Option.some.injEq, exists_eq_left', Int.reduceEq, Int.reduceLT, Int.reduceLE, Int.reduceGT, Int.reduceGE, Nat.reduceGT, Int.reduceNeg, Int.reduceToNat, Int.reduceAdd, Int.reduceMul, Int.reduceSub, Int.reducePow, decide_true, decide_false, decide_eq_true_eq, List.getElem?_cons_zero, List.getElem?_cons_succ, Nat.reduceBEq, Nat.reduceSub, exists_false, and_false, false_and, wrap_i64, hneg, wrap_u64, e1]

theorem c34 {tot : Bool} {ω : Nat → Nat} {n : Nat} (s : List UInt8) (h : Hp) (hs : s.length ≤ 100000000) (hn : 14 < n) :
    call F n tot ω 34 [.str s] h = some (.str (encT s), h) := by
  obtain ⟨n, rfl⟩ : ∃ m, n = m + 1 := ⟨n - 1, by omega⟩
  refine call_eq (fn := a34) f34 ?_
  unfold a34
  have e1 := c33 (tot := tot) (ω := ω) (n := n) (s.length : Int) h (by omega) (by omega) (by omega)
  have he : encW (s.length : Int) = enc s.length 64 := if_neg (by omega)
  have hel := enc_len s.length 64 (by omega)
  have hle : (enc s.length 64).length + s.length ≤ 9223372036854775807 := by omega
  rw [he] at e1
  have hE : enc s.length 64 ++ s = encT s := rfl
  simp (maxSteps := 2000000) (discharger := omega) only [xc, xo, xr, x0, x1, x2, x3, x4, x5, x6, xd, xe, xb, kont_call, kont_pure, isNil, slOk, sliceV, selems, srcElems, copyTo, dlen, eqAV, eqCells, eqS, upd, wr, place, partVals, partEs, placeEs, mapOf, keyOk, keyCells, findK, Bool.bne_false, Bool.bne_true, List.drop_zero, List.nil_append, List.append_nil, List.take_zero, List.cons_append, List.take_succ_cons, List.drop_succ_cons, List.take_nil, List.drop_nil, Reg.isA, Reg.isV, Reg.stays, Reg.onto, Bool.false_or, Bool.or_false, Bool.false_and, Bool.and_false, Bool.true_and, Bool.and_true, Bool.or_true, Bool.true_or, ↓reduceIte, reduceCtorEq, Nat.reduceEqDiff, Nat.reduceLT, Nat.reduceAdd, Nat.reduceMul, Nat.add_zero, Nat.zero_add, Nat.not_lt_zero, Nat.zero_ne_one, Nat.one_ne_zero, Nat.reduceLeDiff, Nat.lt_irrefl, Nat.zero_lt_succ, Bool.false_eq_true, Bool.not_true, Bool.not_false, Option.map_some, Option.map_none, Option.bind_some, Option.getD_some, Option.getD_none, and_self, and_true, true_and, List.length_cons, List.length_nil, List.any_nil, List.any_cons, Int.toNat_natCast, Int.cast_ofNat_Int, Int.natCast_zero, Int.natCast_nonneg, true_implies, or_true, true_or, false_or, or_false, beq_self_eq_true, Option.some.injEq, exists_eq_left', Int.reduceEq, Int.reduceLT, Int.reduceLE, Int.reduceGT, Int.reduceGE, Nat.reduceGT, Int.reduceNeg, Int.reduceToNat, Int.reduceAdd, Int.reduceMul, Int.reduceSub, Int.reducePow, decide_true, decide_false, decide_eq_true_eq, List.getElem?_cons_zero, List.getElem?_cons_succ, Nat.reduceBEq, Nat.reduceSub, exists_false, and_false, false_and, wrap_i64, e1, hle, hE]

theorem c10 {tot : Bool} {ω : Nat → Nat} {n : Nat} (v : AV) (l : List Ed) (h : Hp) (hv : IsRd 6 (edsOf l) v) (hok : ∀ e ∈ l, e.ok) (hl : l.length ≤ 100000) (hn : l.length + 17 < n) :
    call F n tot ω 10 [v] h = some (.str (pack l), h) := by
  obtain ⟨n, rfl⟩ : ∃ m, n = m + 1 := ⟨n - 1, by omega⟩
  refine call_eq (fn := a10) f10 ?_
  unfold a10
  have hlen := hv.len
  rw [edsOf_len] at hlen
  have e0 := c33 (tot := tot) (ω := ω) (n := n) (l.length : Int) h (by omega) (by omega) (by omega)
  have he : encW (l.length : Int) = enc l.length 64 := if_neg (by omega)
  rw [he] at e0
  simp (maxSteps := 2000000) (discharger := omega) only [xc, xo, xr, x0, x1, x2, x3, x4, x5, x6, xd, xe, xb, kont_call, kont_pure, isNil, slOk, sliceV, selems, srcElems, copyTo, dlen, eqAV, eqCells, eqS, upd, wr, place, partVals, partEs, placeEs, mapOf, keyOk, keyCells, findK, Bool.bne_false, Bool.bne_true, List.drop_zero, List.nil_append, List.append_nil, List.take_zero, List.cons_append, List.take_succ_cons, List.drop_succ_cons, List.take_nil, List.drop_nil, Reg.isA, Reg.isV, Reg.stays, Reg.onto, Bool.false_or, Bool.or_false, Bool.false_and, Bool.and_false, Bool.true_and, Bool.and_true, Bool.or_true, Bool.true_or, ↓reduceIte, reduceCtorEq, Nat.reduceEqDiff, Nat.reduceLT, Nat.reduceAdd, Nat.reduceMul, Nat.add_zero, Nat.zero_add, Nat.not_lt_zero, Nat.zero_ne_one, Nat.one_ne_zero, Nat.reduceLeDiff, Nat.lt_irrefl, Nat.zero_lt_succ, Bool.false_eq_true, Bool.not_true, Bool.not_false, Option.map_some, Option.map_none, Option.bind_some, Option.getD_some, Option.getD_none, and_self, and_true, true_and, List.length_cons, List.length_nil, List.any_nil, List.any_cons, Int.toNat_natCast, Int.cast_ofNat_Int, Int.natCast_zero, Int.natCast_nonneg, true_implies, or_true, true_or, false_or, or_false, beq_self_eq_true, Option.some.injEq, exists_eq_left', Int.reduceEq, Int.reduceLT, Int.reduceLE, Int.reduceGT, Int.reduceGE, Nat.reduceGT, Int.reduceNeg, Int.reduceToNat, Int.reduceAdd, Int.reduceMul, Int.reduceSub, Int.reducePow, decide_true, decide_false, decide_eq_true_eq, List.getElem?_cons_zero, List.getElem?_cons_succ, Nat.reduceBEq, Nat.reduceSub, exists_false, and_false, false_and, wrap_i64, hlen, e0]
  refine wpi_loop (fun k r g => ∃ (i : Nat), r = [(0, .val v), (3, .val (.str (enc l.length 64 ++ packEs (l.take i)))), (4, .val (.int .i64 i))] ∧ i + k = l.length ∧ g = h) l.length (by omega) ⟨0, by simp [packEs], by omega, rfl⟩ ?_
  rintro k r g ⟨i, rfl, hik, rfl⟩
  by_cases hlt : i < l.length
  · have hlt' : ((i : Nat) : Int) < (l.length : Int) := by omega
    have hge := edsOf_get hlt
    obtain ⟨c, rfl⟩ := hv.imm (i := i) (by rw [edsOf_len]; omega)
    have hb := packEs_len (l.take i) (fun e he => hok e (List.mem_of_mem_take he))
    have hel := enc_len l.length 64 (by omega)
    have ht : l.take i ++ [l[i]] = l.take (i + 1) := by simp
    have hi0 : (0 : Int) ≤ (i : Int) := by omega
    obtain ⟨hk, hf, hl1, hc, hlo, hhi⟩ := hok l[i] (List.getElem_mem _)
    have hs : ∀ cs, packE l[i] = cs → enc l.length 64 ++ packEs (l.take (i + 1)) = (enc l.length 64 ++ packEs (l.take i)) ++ cs := by
      intro cs hcs
      rw [← ht, packEs_snoc, hcs, List.append_assoc]
    have hbl : (enc l.length 64 ++ packEs (l.take i)).length ≤ 40000000000 := by simp at hb ⊢; omega
    generalize enc l.length 64 ++ packEs (l.take i) = s at *
    generalize l[i] = e at *
    unfold edOf at hge
    have a := encW_len hk.1 hk.2
    have b := encW_len hf.1 hf.2
    have c1 := encW_len hl1.1 hl1.2
    have d := encW_len hc.1 hc.2
    have t1 := encT_len hlo
    have t2 := encT_len hhi
    have r1 := c33 (tot := tot) (ω := ω) (n := n) e.k g hk.1 hk.2 (by omega)
    have r2 := c33 (tot := tot) (ω := ω) (n := n) e.f g hf.1 hf.2 (by omega)
    have r3 := c33 (tot := tot) (ω := ω) (n := n) e.l g hl1.1 hl1.2 (by omega)
    have r4 := c33 (tot := tot) (ω := ω) (n := n) e.c g hc.1 hc.2 (by omega)
    have r5 := c34 (tot := tot) (ω := ω) (n := n) e.lo g (by omega) (by omega)
    have r6 := c34 (tot := tot) (ω := ω) (n := n) e.hi g (by omega) (by omega)
    have b1 : s.length + (encW e.k).length ≤ 9223372036854775807 := by omega
    have b2 : s.length + (encW e.k).length + (encW e.f).length ≤ 9223372036854775807 := by omega
    have b3 : s.length + (encW e.k).length + (encW e.f).length + (encW e.l).length ≤ 9223372036854775807 := by omega
    have b4 : s.length + (encW e.k).length + (encW e.f).length + (encW e.l).length + (encW e.c).length ≤ 9223372036854775807 := by omega
    have b5 : s.length + (encW e.k).length + (encW e.f).length + (encW e.l).length + (encW e.c).length + (encT e.lo).length ≤ 9223372036854775807 := by omega
    have b6 : s.length + (encW e.k).length + (encW e.f).length + (encW e.l).length + (encW e.c).length + (encT e.lo).length + (encT e.hi).length ≤ 9223372036854775807 := by omega
    by_cases hk1 : e.k = 1
    · have hq : (e.k == 1) = true := by simp [hk1]
      have hq2 : (e.k == 3) = false := by simp [hk1]
      simp (maxSteps := 2000000) (discharger := omega) only [xc, xo, xr, x0, x1, x2, x3, x4, x5, x6, xd, xe, xb, kont_call, kont_pure, isNil, slOk, sliceV, selems, srcElems, copyTo, dlen, eqAV, eqCells, eqS, upd, wr, place, partVals, partEs, placeEs, mapOf, keyOk, keyCells, findK, Bool.bne_false, Bool.bne_true, List.drop_zero, List.nil_append, List.append_nil, List.take_zero, List.cons_append, List.take_succ_cons, List.drop_succ_cons, List.take_nil, List.drop_nil, Reg.isA, Reg.isV, Reg.stays, Reg.onto, Bool.false_or, Bool.or_false, Bool.false_and, Bool.and_false, Bool.true_and, Bool.and_true, Bool.or_true, Bool.true_or, ↓reduceIte, reduceCtorEq, Nat.reduceEqDiff, Nat.reduceLT, Nat.reduceAdd, Nat.reduceMul, Nat.add_zero, Nat.zero_add, Nat.not_lt_zero, Nat.zero_ne_one, Nat.one_ne_zero, Nat.reduceLeDiff, Nat.lt_irrefl, Nat.zero_lt_succ, Bool.false_eq_true, Bool.not_true, Bool.not_false, Option.map_some, Option.map_none, Option.bind_some, Option.getD_some, Option.getD_none, and_self, and_true, true_and, List.length_cons, List.length_nil, List.any_nil, List.any_cons, Int.toNat_natCast, Int.cast_ofNat_Int, Int.natCast_zero, Int.natCast_nonneg, true_implies, or_true, true_or, false_or, or_false, beq_self_eq_true, Option.some.injEq, exists_eq_left', Int.reduceEq, Int.reduceLT, Int.reduceLE, Int.reduceGT, Int.reduceGE, Nat.reduceGT, Int.reduceNeg, Int.reduceToNat, Int.reduceAdd, Int.reduceMul, Int.reduceSub, Int.reducePow, decide_true, decide_false, decide_eq_true_eq, List.getElem?_cons_zero, List.getElem?_cons_succ, Nat.reduceBEq, Nat.reduceSub, exists_false, and_false, false_and, wrap_i64, hlt', hge, hlen, r1, r2, r3, r4, r5, r6, hq, hq2, List.length_append, b1, b2, b3, b4, b5, b6]
      exact ⟨k - 1, by omega, i + 1, by rw [hs _ rfl]; simp [packE, hk1], by omega⟩
    · have hq : (e.k == 1) = false := by simp [hk1]
      by_cases hk3 : e.k = 3
      · have hq2 : (e.k == 3) = true := by simp [hk3]
        simp (maxSteps := 2000000) (discharger := omega) only [xc, xo, xr, x0, x1, x2, x3, x4, x5, x6, xd, xe, xb, kont_call, kont_pure, isNil, slOk, sliceV, selems, srcElems, copyTo, dlen, eqAV, eqCells, eqS, upd, wr, place, partVals, partEs, placeEs, mapOf, keyOk, keyCells, findK, Bool.bne_false, Bool.bne_true, List.drop_zero, List.nil_append, List.append_nil, List.take_zero, List.cons_append, List.take_succ_cons, List.drop_succ_cons, List.take_nil, List.drop_nil, Reg.isA, Reg.isV, Reg.stays, Reg.onto, Bool.false_or, Bool.or_false, Bool.false_and, Bool.and_false, Bool.true_and, Bool.and_true, Bool.or_true, Bool.true_or, ↓reduceIte, reduceCtorEq, Nat.reduceEqDiff, Nat.reduceLT, Nat.reduceAdd, Nat.reduceMul, Nat.add_zero, Nat.zero_add, Nat.not_lt_zero, Nat.zero_ne_one, Nat.one_ne_zero, Nat.reduceLeDiff, Nat.lt_irrefl, Nat.zero_lt_succ, Bool.false_eq_true, Bool.not_true, Bool.not_false, Option.map_some, Option.map_none, Option.bind_some, Option.getD_some, Option.getD_none, and_self, and_true, true_and, List.length_cons, List.length_nil, List.any_nil, List.any_cons, Int.toNat_natCast, Int.cast_ofNat_Int, Int.natCast_zero, Int.natCast_nonneg, true_implies, or_true, true_or, false_or, or_false, beq_self_eq_true, Option.some.injEq, exists_eq_left', Int.reduceEq, Int.reduceLT, Int.reduceLE, Int.reduceGT, Int.reduceGE, Nat.reduceGT, Int.reduceNeg, Int.reduceToNat, Int.reduceAdd, Int.reduceMul, Int.reduceSub, Int.reducePow, decide_true, decide_false, decide_eq_true_eq, List.getElem?_cons_zero, List.getElem?_cons_succ, Nat.reduceBEq, Nat.reduceSub, exists_false, and_false, false_and, wrap_i64, hlt', hge, hlen, r1, r2, r3, r4, r5, r6, hq, hq2, List.length_append, b1, b2, b3, b4, b5, b6]
        exact ⟨k - 1, by omega, i + 1, by rw [hs _ rfl]; simp [packE, hk3], by omega⟩
      · have hq2 : (e.k == 3) = false := by simp [hk3]
        simp (maxSteps := 2000000) (discharger := omega) only [xc, xo, xr, x0, x1, x2, x3, x4, x5, x6, xd, xe, xb, kont_call, kont_pure, isNil, slOk, sliceV, selems, srcElems, copyTo, dlen, eqAV, eqCells, eqS, upd, wr, place, partVals, partEs, placeEs, mapOf, keyOk, keyCells, findK, Bool.bne_false, Bool.bne_true, List.drop_zero, List.nil_append, List.append_nil, List.take_zero, List.cons_append, List.take_succ_cons, List.drop_succ_cons, List.take_nil, List.drop_nil, Reg.isA, Reg.isV, Reg.stays, Reg.onto, Bool.false_or, Bool.or_false, Bool.false_and, Bool.and_false, Bool.true_and, Bool.and_true, Bool.or_true, Bool.true_or, ↓reduceIte, reduceCtorEq, Nat.reduceEqDiff, Nat.reduceLT, Nat.reduceAdd, Nat.reduceMul, Nat.add_zero, Nat.zero_add, Nat.not_lt_zero, Nat.zero_ne_one, Nat.one_ne_zero, Nat.reduceLeDiff, Nat.lt_irrefl, Nat.zero_lt_succ, Bool.false_eq_true, Bool.not_true, Bool.not_false, Option.map_some, Option.map_none, Option.bind_some, Option.getD_some, Option.getD_none, and_self, and_true, true_and, List.length_cons, List.length_nil, List.any_nil, List.any_cons, Int.toNat_natCast, Int.cast_ofNat_Int, Int.natCast_zero, Int.natCast_nonneg, true_implies, or_true, true_or, false_or, or_false, beq_self_eq_true, Option.some.injEq, exists_eq_left', Int.reduceEq, Int.reduceLT, Int.reduceLE, Int.reduceGT, Int.reduceGE, Nat.reduceGT, Int.reduceNeg, Int.reduceToNat, Int.reduceAdd, Int.reduceMul, Int.reduceSub, Int.reducePow, decide_true, decide_false, decide_eq_true_eq, List.getElem?_cons_zero, List.getElem?_cons_succ, Nat.reduceBEq, Nat.reduceSub, exists_false, and_false, false_and, wrap_i64, hlt', hge, hlen, r1, r2, r3, r4, r5, r6, hq, hq2, List.length_append, b1, b2, b3, b4, b5, b6]
        exact ⟨k - 1, by omega, i + 1, by rw [hs _ rfl]; simp [packE, hk3, hk1], by omega⟩
  · have hlt' : ¬ ((i : Nat) : Int) < (l.length : Int) := by omega
    obtain rfl : i = l.length := by omega
    rw [List.take_length]
    have hE : enc l.length 64 ++ packEs l = pack l := rfl
    simp (maxSteps := 2000000) (discharger := omega) only [xc, xo, xr, x0, x1, x2, x3, x4, x5, x6, xd, xe, xb, kont_call, kont_pure, isNil, slOk, sliceV, selems, srcElems, copyTo, dlen, eqAV, eqCells, eqS, upd, wr, place, partVals, partEs, placeEs, mapOf, keyOk, keyCells, findK, Bool.bne_false, Bool.bne_true, List.drop_zero, List.nil_append, List.append_nil, List.take_zero, List.cons_append, List.take_succ_cons, List.drop_succ_cons, List.take_nil, List.drop_nil, Reg.isA, Reg.isV, Reg.stays, Reg.onto, Bool.false_or, Bool.or_false, Bool.false_and, Bool.and_false, Bool.true_and, Bool.and_true, Bool.or_true, Bool.true_or, ↓reduceIte, reduceCtorEq, Nat.reduceEqDiff, Nat.reduceLT, Nat.reduceAdd, Nat.reduceMul, Nat.add_zero, Nat.zero_add, Nat.not_lt_zero, Nat.zero_ne_one, Nat.one_ne_zero, Nat.reduceLeDiff, Nat.lt_irrefl, Nat.zero_lt_succ, Bool.false_eq_true, Bool.not_true, Bool.not_false, Option.map_some, Option.map_none, Option.bind_some, Option.getD_some, Option.getD_none, and_self, and_true, true_and, List.length_cons, List.length_nil, List.any_nil, List.any_cons, Int.toNat_natCast, Int.cast_ofNat_Int, Int.natCast_zero, Int.natCast_nonneg, true_implies, or_true, true_or, false_or, or_false, beq_self_eq_true, Option.some.injEq, exists_eq_left', Int.reduceEq, Int.reduceLT, Int.reduceLE, Int.reduceGT, Int.reduceGE, Nat.reduceGT, Int.reduceNeg, Int.reduceToNat, Int.reduceAdd, Int.reduceMul, Int.reduceSub, Int.reducePow, decide_true, decide_false, decide_eq_true_eq, List.getElem?_cons_zero, List.getElem?_cons_succ, Nat.reduceBEq, Nat.reduceSub, exists_false, and_false, false_and, wrap_i64, hlt', hlen, hE]

def cleanE (e : Ed) : Ed := if e.k = 1 then e else if e.k = 3 then ⟨e.k, e.f, e.l, 0, [], []⟩ else ⟨e.k, e.f, 0, 0, [], []⟩

theorem c11 {tot : Bool} {ω : Nat → Nat} {n : Nat} (e : Ed) (h : Hp) (hn : 0 < n) : call F n tot ω 11 [edOf e] h = some (edOf (cleanE e), h) := by
  obtain ⟨n, rfl⟩ : ∃ m, n = m + 1 := ⟨n - 1, by omega⟩
  refine call_eq (fn := a11) f11 ?_
  unfold a11 edOf cleanE
  by_cases hk1 : e.k = 1
  · have hq : (e.k == 1) = true := by simp [hk1]
    simp (maxSteps := 2000000) (discharger := omega) only [xc, xo, xr, x0, x1, x2, x3, x4, x5, x6, xd, xe, xb, kont_call, kont_pure, isNil, slOk, sliceV, selems, srcElems, copyTo, dlen, eqAV, eqCells, eqS, upd, wr, place, partVals, partEs, placeEs, mapOf, keyOk, keyCells, findK, Bool.bne_false, Bool.bne_true, List.drop_zero, List.nil_append, List.append_nil, List.take_zero, List.cons_append, List.take_succ_cons, List.drop_succ_cons, List.take_nil, List.drop_nil, Reg.isA, Reg.isV, Reg.stays, Reg.onto, Bool.false_or, Bool.or_false, Bool.false_and, Bool.and_false, Bool.true_and, Bool.and_true, Bool.or_true, Bool.true_or, ↓reduceIte, reduceCtorEq, Nat.reduceEqDiff, Nat.reduceLT, Nat.reduceAdd, Nat.reduceMul, Nat.add_zero, Nat.zero_add, Nat.not_lt_zero, Nat.zero_ne_one, Nat.one_ne_zero, Nat.reduceLeDiff, Nat.lt_irrefl, Nat.zero_lt_succ, Bool.false_eq_true, Bool.not_true, Bool.not_false, Option.map_some, Option.map_none, Option.bind_some, Option.getD_some, Option.getD_none, and_self, and_true, true_and, List.length_cons, List.length_nil, List.any_nil, List.any_cons, Int.toNat_natCast, Int.cast_ofNat_Int, Int.natCast_zero, Int.natCast_nonneg, true_implies, or_true, true_or, false_or, or_false, beq_self_eq_true, Option.some.injEq, exists_eq_left', Int.reduceEq, Int.reduceLT, Int.reduceLE, Int.reduceGT, Int.reduceGE, Nat.reduceGT, Int.reduceNeg, Int.reduceToNat, Int.reduceAdd, Int.reduceMul, Int.reduceSub, Int.reducePow, decide_true, decide_false, decide_eq_true_eq, List.getElem?_cons_zero, List.getElem?_cons_succ, Nat.reduceBEq, Nat.reduceSub, exists_false, and_false, false_and, wrap_i64, hq, hk1, List.set_cons_zero, List.set_cons_succ]
  · have hq : (e.k == 1) = false := by simp [hk1]
    by_cases hk3 : e.k = 3
    · have hq2 : (e.k == 3) = true := by simp [hk3]
      simp (maxSteps := 2000000) (discharger := omega) only [xc, xo, xr, x0, x1, x2, x3, x4, x5, x6, xd, xe, xb, kont_call, kont_pure, isNil, slOk, sliceV, selems, srcElems, copyTo, dlen, eqAV, eqCells, eqS, upd, wr, place, partVals, partEs, placeEs, mapOf, keyOk, keyCells, findK, Bool.bne_false, Bool.bne_true, List.drop_zero, List.nil_append, List.append_nil, List.take_zero, List.cons_append, List.take_succ_cons, List.drop_succ_cons, List.take_nil, List.drop_nil, Reg.isA, Reg.isV, Reg.stays, Reg.onto, Bool.false_or, Bool.or_false, Bool.false_and, Bool.and_false, Bool.true_and, Bool.and_true, Bool.or_true, Bool.true_or, ↓reduceIte, reduceCtorEq, Nat.reduceEqDiff, Nat.reduceLT, Nat.reduceAdd, Nat.reduceMul, Nat.add_zero, Nat.zero_add, Nat.not_lt_zero, Nat.zero_ne_one, Nat.one_ne_zero, Nat.reduceLeDiff, Nat.lt_irrefl, Nat.zero_lt_succ, Bool.false_eq_true, Bool.not_true, Bool.not_false, Option.map_some, Option.map_none, Option.bind_some, Option.getD_some, Option.getD_none, and_self, and_true, true_and, List.length_cons, List.length_nil, List.any_nil, List.any_cons, Int.toNat_natCast, Int.cast_ofNat_Int, Int.natCast_zero, Int.natCast_nonneg, true_implies, or_true, true_or, false_or, or_false, beq_self_eq_true, Option.some.injEq, exists_eq_left', Int.reduceEq, Int.reduceLT, Int.reduceLE, Int.reduceGT, Int.reduceGE, Nat.reduceGT, Int.reduceNeg, Int.reduceToNat, Int.reduceAdd, Int.reduceMul, Int.reduceSub, Int.reducePow, decide_true, decide_false, decide_eq_true_eq, List.getElem?_cons_zero, List.getElem?_cons_succ, Nat.reduceBEq, Nat.reduceSub, exists_false, and_false, false_and, wrap_i64, hq, hq2, hk1, hk3, List.set_cons_zero, List.set_cons_succ]
      simp [hk3]
    · have hq2 : (e.k == 3) = false := by simp [hk3]
      simp (maxSteps := 2000000) (discharger := omega) only [xc, xo, xr, x0, x1, x2, x3, x4, x5, x6, xd, xe, xb, kont_call, kont_pure, isNil, slOk, sliceV, selems, srcElems, copyTo, dlen, eqAV, eqCells, eqS, upd, wr, place, partVals, partEs, placeEs, mapOf, keyOk, keyCells, findK, Bool.bne_false, Bool.bne_true, List.drop_zero, List.nil_append, List.append_nil, List.take_zero, List.cons_append, List.take_succ_cons, List.drop_succ_cons, List.take_nil, List.drop_nil, Reg.isA, Reg.isV, Reg.stays, Reg.onto, Bool.false_or, Bool.or_false, Bool.false_and, Bool.and_false, Bool.true_and, Bool.and_true, Bool.or_true, Bool.true_or, ↓reduceIte, reduceCtorEq, Nat.reduceEqDiff, Nat.reduceLT, Nat.reduceAdd, Nat.reduceMul, Nat.add_zero, Nat.zero_add, Nat.not_lt_zero, Nat.zero_ne_one, Nat.one_ne_zero, Nat.reduceLeDiff, Nat.lt_irrefl, Nat.zero_lt_succ, Bool.false_eq_true, Bool.not_true, Bool.not_false, Option.map_some, Option.map_none, Option.bind_some, Option.getD_some, Option.getD_none, and_self, and_true, true_and, List.length_cons, List.length_nil, List.any_nil, List.any_cons, Int.toNat_natCast, Int.cast_ofNat_Int, Int.natCast_zero, Int.natCast_nonneg, true_implies, or_true, true_or, false_or, or_false, beq_self_eq_true, Option.some.injEq, exists_eq_left', Int.reduceEq, Int.reduceLT, Int.reduceLE, Int.reduceGT, Int.reduceGE, Nat.reduceGT, Int.reduceNeg, Int.reduceToNat, Int.reduceAdd, Int.reduceMul, Int.reduceSub, Int.reducePow, decide_true, decide_false, decide_eq_true_eq, List.getElem?_cons_zero, List.getElem?_cons_succ, Nat.reduceBEq, Nat.reduceSub, exists_false, and_false, false_and, wrap_i64, hq, hq2, hk1, hk3, List.set_cons_zero, List.set_cons_succ]

end Go.Proofs.Ytlognommhffmcaa.Im

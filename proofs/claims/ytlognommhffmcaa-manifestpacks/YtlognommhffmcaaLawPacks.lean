/- Edits and their bytes: ManifestPacks answers true for all edits and all bytes. No condition. -/
import Derived.Test.YtlognommhffmcaaRows
import Derived.Test.YtlognommhffmcaaTab
import Derived.Test.YtlognommhffmcaaAwake
import Derived.Test.YtlognommhffmcaaInv
set_option linter.unusedVariables false
set_option linter.unusedSimpArgs false
open Go Go.Im
namespace Go.Proofs.Ytlognommhffmcaa
open Go.Proofs.Ytlognommhffmcaa.Im Go.ChangeShapes Go.WideShapes Go.ChangeAt Go.RowKit

def rng (e : Ed) : Prop := (-9223372036854775808 ≤ e.k ∧ e.k ≤ 9223372036854775807) ∧ (-9223372036854775808 ≤ e.f ∧ e.f ≤ 9223372036854775807) ∧ (-9223372036854775808 ≤ e.l ∧ e.l ≤ 9223372036854775807) ∧
  (-9223372036854775808 ≤ e.c ∧ e.c ≤ 9223372036854775807)

theorem pack_len (l : List Ed) (h : ∀ e ∈ l, e.ok) (hl : l.length ≤ 200) : (pack l).length ≤ 60000011 := by
  have h1 := packEs_len l h
  have h2 := enc_len l.length 64 (by omega)
  unfold pack; simp; omega

set_option maxRecDepth 100000 in
set_option maxHeartbeats 8000000 in
theorem law_packs (n : Nat) (ω : Nat → Nat) (v1 : AV) (l : List Ed) (s : List UInt8) (hv : IsRd 6 (edsOf l) v1) (hr : ∀ e ∈ l, rng e) (hn : 100100000 < n) : ∃ h', call F n true ω 3 [v1, .str s] [] = some (.bool true, h') := by
  obtain ⟨n, rfl⟩ : ∃ m, n = m + 1 := ⟨n - 1, by omega⟩
  suffices hh : ∃ v' h', call F (n + 1) true ω 3 [v1, .str s] [] = some (v', h') ∧ v' = .bool true by
    obtain ⟨v', h', e1, rfl⟩ := hh
    exact ⟨h', e1⟩
  refine call_of (fn := a3) f3 (P := fun v' _ => v' = .bool true) ?_
  unfold a3
  obtain ⟨q, hq⟩ : ∃ q, n = q + 200 := ⟨n - 200, by omega⟩
  have w1 : call F n true ω 6 [] [] = some (.bool true, H1) := by rw [hq]; exact awake1 q ω
  have w2 : call F n true ω 6 [] H1 = some (.bool true, H2) := by rw [hq]; exact awake2 q ω
  clear hq
  obtain ⟨b, r7, hb⟩ := c7 (tot := true) (ω := ω) (n := n) v1 l H1 hv (by omega)
  have hnt : v1.notTup = true := by rcases hv with ⟨rfl, _⟩ | ⟨c, rfl⟩ <;> rfl
  have hcl : v1.cells = [v1] := by rcases hv with ⟨rfl, _⟩ | ⟨c, rfl⟩ <;> rfl
  have hvl := hv.len
  rw [edsOf_len] at hvl
  cases b with
  | false =>
    simp (maxSteps := 2000000) (discharger := omega) only [xc, xo, xr, x0, x1, x2, x3, x4, x5, x6, xd, xe, xb, kont_call, kont_pure, isNil, slOk, sliceV, selems, srcElems, copyTo, dlen, eqAV, eqCells, eqS, upd, wr, place, partVals, partEs, placeEs, mapOf, keyOk, keyCells, findK, Bool.bne_false, Bool.bne_true, List.drop_zero, List.nil_append, List.append_nil, List.take_zero, List.cons_append, List.take_succ_cons, List.drop_succ_cons, List.take_nil, List.drop_nil, Reg.isA, Reg.isV, Reg.stays, Reg.onto, Bool.false_or, Bool.or_false, Bool.false_and, Bool.and_false, Bool.true_and, Bool.and_true, Bool.or_true, Bool.true_or, ↓reduceIte, reduceCtorEq, Nat.reduceEqDiff, Nat.reduceLT, Nat.reduceAdd, Nat.reduceMul, Nat.add_zero, Nat.zero_add, Nat.not_lt_zero, Nat.zero_ne_one, Nat.one_ne_zero, Nat.reduceLeDiff, Nat.lt_irrefl, Nat.zero_lt_succ, Bool.false_eq_true, Bool.not_true, Bool.not_false, Option.map_some, Option.map_none, Option.bind_some, Option.getD_some, Option.getD_none, and_self, and_true, true_and, List.length_cons, List.length_nil, List.any_nil, List.any_cons, Int.toNat_natCast, Int.cast_ofNat_Int, Int.natCast_zero, Int.natCast_nonneg, true_implies, or_true, true_or, false_or, or_false, beq_self_eq_true, Option.some.injEq, exists_eq_left', Int.reduceEq, Int.reduceLT, Int.reduceLE, Int.reduceGT, Int.reduceGE, Nat.reduceGT, Int.reduceNeg, Int.reduceToNat, Int.reduceAdd, Int.reduceMul, Int.reduceSub, Int.reducePow, decide_true, decide_false, decide_eq_true_eq, List.getElem?_cons_zero, List.getElem?_cons_succ, Nat.reduceBEq, Nat.reduceSub, exists_false, and_false, false_and, wrap_i64, w1, w2, r7, hnt, hcl, List.replicate_succ, List.replicate_zero, List.set_cons_zero]
  | true =>
    obtain ⟨hl, hall⟩ := hb rfl
    have hok : ∀ e ∈ l, e.ok := fun e he => by
      obtain ⟨a1, a2, a3, a4⟩ := hr e he
      have := hall e he
      exact ⟨a1, a2, a3, a4, by omega, by omega⟩
    by_cases hs : ((s.length : Nat) : Int) > 20000
    · simp (maxSteps := 2000000) (discharger := omega) only [xc, xo, xr, x0, x1, x2, x3, x4, x5, x6, xd, xe, xb, kont_call, kont_pure, isNil, slOk, sliceV, selems, srcElems, copyTo, dlen, eqAV, eqCells, eqS, upd, wr, place, partVals, partEs, placeEs, mapOf, keyOk, keyCells, findK, Bool.bne_false, Bool.bne_true, List.drop_zero, List.nil_append, List.append_nil, List.take_zero, List.cons_append, List.take_succ_cons, List.drop_succ_cons, List.take_nil, List.drop_nil, Reg.isA, Reg.isV, Reg.stays, Reg.onto, Bool.false_or, Bool.or_false, Bool.false_and, Bool.and_false, Bool.true_and, Bool.and_true, Bool.or_true, Bool.true_or, ↓reduceIte, reduceCtorEq, Nat.reduceEqDiff, Nat.reduceLT, Nat.reduceAdd, Nat.reduceMul, Nat.add_zero, Nat.zero_add, Nat.not_lt_zero, Nat.zero_ne_one, Nat.one_ne_zero, Nat.reduceLeDiff, Nat.lt_irrefl, Nat.zero_lt_succ, Bool.false_eq_true, Bool.not_true, Bool.not_false, Option.map_some, Option.map_none, Option.bind_some, Option.getD_some, Option.getD_none, and_self, and_true, true_and, List.length_cons, List.length_nil, List.any_nil, List.any_cons, Int.toNat_natCast, Int.cast_ofNat_Int, Int.natCast_zero, Int.natCast_nonneg, true_implies, or_true, true_or, false_or, or_false, beq_self_eq_true, Option.some.injEq, exists_eq_left', Int.reduceEq, Int.reduceLT, Int.reduceLE, Int.reduceGT, Int.reduceGE, Nat.reduceGT, Int.reduceNeg, Int.reduceToNat, Int.reduceAdd, Int.reduceMul, Int.reduceSub, Int.reducePow, decide_true, decide_false, decide_eq_true_eq, List.getElem?_cons_zero, List.getElem?_cons_succ, Nat.reduceBEq, Nat.reduceSub, exists_false, and_false, false_and, wrap_i64, w1, w2, r7, hnt, hcl, List.replicate_succ, List.replicate_zero, List.set_cons_zero, hs]
    · have hpl := pack_len l hok hl
      obtain ⟨h2, r8, _⟩ := c8 (tot := true) (ω := ω) (n := n) v1 l H1 hv hok (by omega) (by omega)
      obtain ⟨v9, h3, r9, p9⟩ := c9 (tot := true) (ω := ω) (n := n) (pack l) h2 (by omega) (by omega)
      rw [rdU_pack l hok (by omega)] at p9
      obtain ⟨lv, rfl, hlv⟩ := p9
      have r10 := c10 (tot := true) (ω := ω) (n := n) v1 l h3 hv hok (by omega) (by omega)
      have hlvl := hlv.len
      rw [edsOf_len, List.length_map] at hlvl
      have q1 : (pack l != pack l) = false := by simp
      have q2 : ((0 : Int) != 0) = false := rfl
      have q3 : (((l.length : Nat) : Int) != (l.length : Int)) = false := by simp
      have q4 : (!(pack l == pack l)) = false := by simp
      simp (maxSteps := 2000000) (discharger := omega) only [xc, xo, xr, x0, x1, x2, x3, x4, x5, x6, xd, xe, xb, kont_call, kont_pure, isNil, slOk, sliceV, selems, srcElems, copyTo, dlen, eqAV, eqCells, eqS, upd, wr, place, partVals, partEs, placeEs, mapOf, keyOk, keyCells, findK, Bool.bne_false, Bool.bne_true, List.drop_zero, List.nil_append, List.append_nil, List.take_zero, List.cons_append, List.take_succ_cons, List.drop_succ_cons, List.take_nil, List.drop_nil, Reg.isA, Reg.isV, Reg.stays, Reg.onto, Bool.false_or, Bool.or_false, Bool.false_and, Bool.and_false, Bool.true_and, Bool.and_true, Bool.or_true, Bool.true_or, ↓reduceIte, reduceCtorEq, Nat.reduceEqDiff, Nat.reduceLT, Nat.reduceAdd, Nat.reduceMul, Nat.add_zero, Nat.zero_add, Nat.not_lt_zero, Nat.zero_ne_one, Nat.one_ne_zero, Nat.reduceLeDiff, Nat.lt_irrefl, Nat.zero_lt_succ, Bool.false_eq_true, Bool.not_true, Bool.not_false, Option.map_some, Option.map_none, Option.bind_some, Option.getD_some, Option.getD_none, and_self, and_true, true_and, List.length_cons, List.length_nil, List.any_nil, List.any_cons, Int.toNat_natCast, Int.cast_ofNat_Int, Int.natCast_zero, Int.natCast_nonneg, true_implies, or_true, true_or, false_or, or_false, beq_self_eq_true, Option.some.injEq, exists_eq_left', Int.reduceEq, Int.reduceLT, Int.reduceLE, Int.reduceGT, Int.reduceGE, Nat.reduceGT, Int.reduceNeg, Int.reduceToNat, Int.reduceAdd, Int.reduceMul, Int.reduceSub, Int.reducePow, decide_true, decide_false, decide_eq_true_eq, List.getElem?_cons_zero, List.getElem?_cons_succ, Nat.reduceBEq, Nat.reduceSub, exists_false, and_false, false_and, wrap_i64, w1, r7, hnt, hcl, List.replicate_succ, List.replicate_zero, List.set_cons_zero, hs, r8, r9, r10, hvl, hlvl, q1, q2, q3, q4]
      obtain ⟨va, h4, t1, p1⟩ := c9 (tot := true) (ω := ω) (n := n) s h3 (by omega) (by omega)
      obtain ⟨vb, h5, t2, p2⟩ := c12 (tot := true) (ω := ω) (n := n) s h4 (by omega) (by omega)
      refine wpi_loop (fun k r g => ∃ (i : Nat), r = [(0, .val v1), (1, .val (.str s)), (6, .val lv), (8, .val (.int .i64 i))] ∧ i + k = l.length ∧ g = h3) l.length (by omega) ⟨0, rfl, by omega, rfl⟩ ?_
      rintro k r g ⟨i, rfl, hik, rfl⟩
      by_cases hlt : i < l.length
      · have hlt' : ((i : Nat) : Int) < (l.length : Int) := by omega
        have g1 := edsOf_get hlt
        have g2 : (edsOf (l.map cleanE))[i]? = some (edOf (cleanE l[i])) := by rw [edsOf_get (by simpa using hlt)]; simp
        have r11 := c11 (tot := true) (ω := ω) (n := n) l[i] g (by omega)
        obtain ⟨cc1, rfl⟩ := hv.imm (i := i) (by rw [edsOf_len]; omega)
        obtain ⟨cc2, rfl⟩ := hlv.imm (i := i) (by rw [edsOf_len]; simp; omega)
        have hi0 : (0 : Int) ≤ (i : Int) := by omega
        generalize cleanE l[i] = y at *
        unfold edOf at g1 g2 r11
        simp (maxSteps := 2000000) (discharger := omega) only [xc, xo, xr, x0, x1, x2, x3, x4, x5, x6, xd, xe, xb, kont_call, kont_pure, isNil, slOk, sliceV, selems, srcElems, copyTo, dlen, eqAV, eqCells, eqS, upd, wr, place, partVals, partEs, placeEs, mapOf, keyOk, keyCells, findK, Bool.bne_false, Bool.bne_true, List.drop_zero, List.nil_append, List.append_nil, List.take_zero, List.cons_append, List.take_succ_cons, List.drop_succ_cons, List.take_nil, List.drop_nil, Reg.isA, Reg.isV, Reg.stays, Reg.onto, Bool.false_or, Bool.or_false, Bool.false_and, Bool.and_false, Bool.true_and, Bool.and_true, Bool.or_true, Bool.true_or, ↓reduceIte, reduceCtorEq, Nat.reduceEqDiff, Nat.reduceLT, Nat.reduceAdd, Nat.reduceMul, Nat.add_zero, Nat.zero_add, Nat.not_lt_zero, Nat.zero_ne_one, Nat.one_ne_zero, Nat.reduceLeDiff, Nat.lt_irrefl, Nat.zero_lt_succ, Bool.false_eq_true, Bool.not_true, Bool.not_false, Option.map_some, Option.map_none, Option.bind_some, Option.getD_some, Option.getD_none, and_self, and_true, true_and, List.length_cons, List.length_nil, List.any_nil, List.any_cons, Int.toNat_natCast, Int.cast_ofNat_Int, Int.natCast_zero, Int.natCast_nonneg, true_implies, or_true, true_or, false_or, or_false, beq_self_eq_true, Option.some.injEq, exists_eq_left', Int.reduceEq, Int.reduceLT, Int.reduceLE, Int.reduceGT, Int.reduceGE, Nat.reduceGT, Int.reduceNeg, Int.reduceToNat, Int.reduceAdd, Int.reduceMul, Int.reduceSub, Int.reducePow, decide_true, decide_false, decide_eq_true_eq, List.getElem?_cons_zero, List.getElem?_cons_succ, Nat.reduceBEq, Nat.reduceSub, exists_false, and_false, false_and, wrap_i64, hlvl, hlt', g1, g2, r11, w_regionA2, inOrd, List.filterMap_cons, List.filterMap_nil, Is]
        exact ⟨k - 1, by omega, i + 1, rfl, by omega⟩
      · have hlt' : ¬ ((i : Nat) : Int) < (l.length : Int) := by omega
        cases hu : rdU s with
        | inl e =>
          rw [hu] at p1 p2
          obtain ⟨rfl, h235⟩ := p1
          obtain ⟨rfl, _⟩ := p2
          have r13 := c13 (tot := true) (ω := ω) (n := n) [] [] .nils .nils h5 (.inl ⟨rfl, rfl⟩) (.inl ⟨rfl, rfl⟩) (by simp) (by simp; omega)
          have hd : decide (([] : List Ed) = []) = true := rfl
          rw [hd] at r13
          have e1 : (e == e) = true := by simp
          have e2 : (e != 0) = true := by rcases h235 with rfl | rfl | rfl <;> rfl
          simp (maxSteps := 2000000) (discharger := omega) only [xc, xo, xr, x0, x1, x2, x3, x4, x5, x6, xd, xe, xb, kont_call, kont_pure, isNil, slOk, sliceV, selems, srcElems, copyTo, dlen, eqAV, eqCells, eqS, upd, wr, place, partVals, partEs, placeEs, mapOf, keyOk, keyCells, findK, Bool.bne_false, Bool.bne_true, List.drop_zero, List.nil_append, List.append_nil, List.take_zero, List.cons_append, List.take_succ_cons, List.drop_succ_cons, List.take_nil, List.drop_nil, Reg.isA, Reg.isV, Reg.stays, Reg.onto, Bool.false_or, Bool.or_false, Bool.false_and, Bool.and_false, Bool.true_and, Bool.and_true, Bool.or_true, Bool.true_or, ↓reduceIte, reduceCtorEq, Nat.reduceEqDiff, Nat.reduceLT, Nat.reduceAdd, Nat.reduceMul, Nat.add_zero, Nat.zero_add, Nat.not_lt_zero, Nat.zero_ne_one, Nat.one_ne_zero, Nat.reduceLeDiff, Nat.lt_irrefl, Nat.zero_lt_succ, Bool.false_eq_true, Bool.not_true, Bool.not_false, Option.map_some, Option.map_none, Option.bind_some, Option.getD_some, Option.getD_none, and_self, and_true, true_and, List.length_cons, List.length_nil, List.any_nil, List.any_cons, Int.toNat_natCast, Int.cast_ofNat_Int, Int.natCast_zero, Int.natCast_nonneg, true_implies, or_true, true_or, false_or, or_false, beq_self_eq_true, Option.some.injEq, exists_eq_left', Int.reduceEq, Int.reduceLT, Int.reduceLE, Int.reduceGT, Int.reduceGE, Nat.reduceGT, Int.reduceNeg, Int.reduceToNat, Int.reduceAdd, Int.reduceMul, Int.reduceSub, Int.reducePow, decide_true, decide_false, decide_eq_true_eq, List.getElem?_cons_zero, List.getElem?_cons_succ, Nat.reduceBEq, Nat.reduceSub, exists_false, and_false, false_and, wrap_i64, hlvl, hlt', t1, t2, r13, e1, e2]
        | inr l2 =>
          rw [hu] at p1 p2
          obtain ⟨la, rfl, hla⟩ := p1
          obtain ⟨lb, rfl, hlb⟩ := p2
          obtain ⟨hp, hok2, hl2⟩ := rdU_inv (by omega) hu
          have r13 := c13 (tot := true) (ω := ω) (n := n) l2 l2 la lb h5 hla hlb hl2 (by omega)
          have hd : decide (l2 = l2) = true := by simp
          rw [hd] at r13
          obtain ⟨h6, r14, _⟩ := c8 (tot := true) (ω := ω) (n := n) la l2 h5 hla hok2 hl2 (by omega)
          rw [hp] at r14
          have e1 : ((0 : Int) == 0) = true := rfl
          have e3 : (s == s) = true := by simp
          simp (maxSteps := 2000000) (discharger := omega) only [xc, xo, xr, x0, x1, x2, x3, x4, x5, x6, xd, xe, xb, kont_call, kont_pure, isNil, slOk, sliceV, selems, srcElems, copyTo, dlen, eqAV, eqCells, eqS, upd, wr, place, partVals, partEs, placeEs, mapOf, keyOk, keyCells, findK, Bool.bne_false, Bool.bne_true, List.drop_zero, List.nil_append, List.append_nil, List.take_zero, List.cons_append, List.take_succ_cons, List.drop_succ_cons, List.take_nil, List.drop_nil, Reg.isA, Reg.isV, Reg.stays, Reg.onto, Bool.false_or, Bool.or_false, Bool.false_and, Bool.and_false, Bool.true_and, Bool.and_true, Bool.or_true, Bool.true_or, ↓reduceIte, reduceCtorEq, Nat.reduceEqDiff, Nat.reduceLT, Nat.reduceAdd, Nat.reduceMul, Nat.add_zero, Nat.zero_add, Nat.not_lt_zero, Nat.zero_ne_one, Nat.one_ne_zero, Nat.reduceLeDiff, Nat.lt_irrefl, Nat.zero_lt_succ, Bool.false_eq_true, Bool.not_true, Bool.not_false, Option.map_some, Option.map_none, Option.bind_some, Option.getD_some, Option.getD_none, and_self, and_true, true_and, List.length_cons, List.length_nil, List.any_nil, List.any_cons, Int.toNat_natCast, Int.cast_ofNat_Int, Int.natCast_zero, Int.natCast_nonneg, true_implies, or_true, true_or, false_or, or_false, beq_self_eq_true, Option.some.injEq, exists_eq_left', Int.reduceEq, Int.reduceLT, Int.reduceLE, Int.reduceGT, Int.reduceGE, Nat.reduceGT, Int.reduceNeg, Int.reduceToNat, Int.reduceAdd, Int.reduceMul, Int.reduceSub, Int.reducePow, decide_true, decide_false, decide_eq_true_eq, List.getElem?_cons_zero, List.getElem?_cons_succ, Nat.reduceBEq, Nat.reduceSub, exists_false, and_false, false_and, wrap_i64, hlvl, hlt', t1, t2, r13, r14, e1, q2, e3]

theorem wf_i64 {n : Int} (h : (Lit.int .i64 n).wf = true) : -9223372036854775808 ≤ n ∧ n ≤ 9223372036854775807 := by
  simp [Lit.wf, IntKind.wrap, IntKind.min, IntKind.max, IntKind.signed, IntKind.bits] at h
  omega

theorem eds_of : ∀ {es : List AV}, (∀ x ∈ es, ∃ y, x = edOf y ∧ rng y) → ∃ l : List Ed, es = edsOf l ∧ ∀ y ∈ l, rng y
  | [], _ => ⟨[], rfl, by simp⟩
  | x :: es, h => by
    obtain ⟨y, rfl, hy⟩ := h x (by simp)
    obtain ⟨l, rfl, hl⟩ := eds_of (es := es) fun z hz => h z (by simp [hz])
    exact ⟨y :: l, rfl, by
      intro z hz
      rcases List.mem_cons.1 hz with rfl | hz
      · exact hy
      · exact hl z hz⟩

theorem ed_of {x : AV} (h : RdT Try.prog 9 31 x) : ∃ y, x = edOf y ∧ rng y := by
  obtain ⟨l, rfl, g⟩ := rdT_structC Try.underlying31 h
  obtain ⟨x0, r, rfl, g0, g⟩ := g
  obtain ⟨x1, r, rfl, g1, g⟩ := g
  obtain ⟨x2, r, rfl, g2, g⟩ := g
  obtain ⟨x3, r, rfl, g3, g⟩ := g
  obtain ⟨x4, r, rfl, g4, g⟩ := g
  obtain ⟨x5, r, rfl, g5, g⟩ := g
  cases g
  obtain ⟨a, rfl, w1⟩ := rdC_int Try.underlying3 g0
  obtain ⟨b, rfl, w2⟩ := rdC_int Try.underlying3 g1
  obtain ⟨c, rfl, w3⟩ := rdC_int Try.underlying3 g2
  obtain ⟨d, rfl, w4⟩ := rdC_int Try.underlying3 g3
  obtain ⟨s, rfl, hs1⟩ := rdC_str Try.underlying9 g4
  obtain ⟨t, rfl, hs2⟩ := rdC_str Try.underlying9 g5
  exact ⟨⟨a, b, c, d, s, t⟩, rfl, wf_i64 w1, wf_i64 w2, wf_i64 w3, wf_i64 w4⟩

theorem manifestPacks_im (avs : List AV) (h : RdAll Try.prog 10 Try.f3.params.toList avs) : ∃ n, ∀ ω, ∃ h', call F n true ω 3 avs [] = some (.bool true, h') := by
  have hp : Try.f3.params.toList = [22, 9] := by rw [Try.params3]
  rw [hp] at h
  obtain ⟨a, r, rfl, h1, h⟩ := rdAll_cons h
  obtain ⟨b, r, rfl, h2, h⟩ := rdAll_cons h
  cases rdAll_nil h
  obtain ⟨s, rfl, _⟩ := rdT_str Try.underlying9 h2
  rcases rdT_slice Try.underlying22 h1 with rfl | ⟨es, rfl, _, hes⟩
  · exact ⟨100100001, fun ω => law_packs 100100001 ω _ [] s (.inl ⟨rfl, rfl⟩) (by simp) (by omega)⟩
  · obtain ⟨l, rfl, hl⟩ := eds_of fun x hx => ed_of (hes x hx)
    have hz : Try.prog.cellsOf 31 = 6 := by kernel_rfl
    rw [hz]
    exact ⟨100100001, fun ω => law_packs 100100001 ω _ l s (.inr ⟨_, rfl⟩) hl (by omega)⟩

theorem own : ownKnob Try.prog.godebug = none := by kernel_rfl

set_option maxRecDepth 100000 in
theorem manifestPacks_lifted (os : Os) (started : os.Started) (H : Type) (enc : TypeId × Value → H) :
    ReturnsInHanded {} Try.checked os 3 .any (Rows.manifestPacksSpec.pre6 enc Try.prog Try.f3 Rows.manifestPacksRow.domain false) (Rows.manifestPacksSpec.post enc Try.prog Try.f3 false true false false) := by
  refine returnsInHanded_of_change (C := Try.checked) own started (by kernel_rfl) Try.func3
    (ChangeSpec.witness6 (enc := enc) (C := Try.checked) false ⟨#[], #[.slice none 0 0, .string .empty], []⟩ 12 (by kernel_rfl) (by kernel_rfl) (by kernel_rfl) (by kernel_rfl)) ?_
  intro W base args ds gs before hval hW _ _
  exact law_contract (P := Try.prog) (m := 10) (tb := 4) tableOk (by kernel_rfl) (fun _ => rfl) rfl (fun ds h => by
    rw [Try.params3] at h
    match ds, h with
    | [d1, d2], _ => rfl) (by kernel_rfl) (by kernel_rfl) (by kernel_rfl) (by kernel_rfl) Try.underlying4 manifestPacks_im W base args ds gs before hval hW

theorem manifestPacks_holds : Rows.ManifestPacksSaid :=
  OpenClaim.holds_of_wide 3 Try.f3 rfl rfl rfl rfl rfl rfl rfl ⟨rfl, rfl, rfl, rfl, rfl⟩ rfl rfl rfl rfl rfl (by kernel_rfl) Try.func3 (by kernel_rfl)
    (of_decide_eq_true (by kernel_rfl)) (by unfold Func.isWrapper; first | (rw [if_pos (by decide +kernel)]; kernel_rfl) | (rw [if_neg (by decide +kernel)]; exact ⟨rfl, rfl⟩))
    (fun os started H enc _ => manifestPacks_lifted os started H enc)

#print axioms manifestPacks_holds


end Go.Proofs.Ytlognommhffmcaa

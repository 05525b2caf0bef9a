/- Bytes that have all their windows in common have one sketch: SketchWindows answers true for all bytes, seeds and numbers of times. No condition. -/
import Derived.Test.YtdjlcddkfjbebaaRows
import Derived.Test.YtdjlcddkfjbebaaTab
import Derived.Test.YtdjlcddkfjbebaaAwake
import Derived.Test.YtdjlcddkfjbebaaWin
set_option linter.unusedVariables false
set_option linter.unusedSimpArgs false
open Go Go.Im
namespace Go.Proofs.Ytdjlcddkfjbebaa
open Go.Proofs.Ytdjlcddkfjbebaa.Im Go.ChangeShapes Go.WideShapes Go.ChangeAt Go.RowKit

theorem eqCells_arr8 (f : Nat → Int) : eqCells [.i, .i, .i, .i, .i, .i, .i, .i] (arr8 f) (arr8 f) = some true := by
  have h : ∀ l : List Nat, eqCells (l.map fun _ => CK.i) (l.map fun r => AV.int .u32 (f r)) (l.map fun r => AV.int .u32 (f r)) = some true := by
    intro l
    induction l with
    | nil => rfl
    | cons a l ih => simp only [List.map_cons, eqCells, eqS, if_true, ih]; simp
  exact h (List.range 8)

theorem law_win (bs : List UInt8) (v : AV) (seed t : Int) (ω : Nat → Nat) (hv : IsB bs v) (hlen : bs.length ≤ maxLen) (ht : 0 ≤ t) (ht' : t ≤ 255) : ∃ h', call F 6302 true ω 5 [v, .int .i64 seed, .int .u8 t] [] = some (.bool true, h') := by
  unfold maxLen at hlen
  obtain ⟨u, h', e, hu⟩ := call_of (F := F) (n := 6301) (tot := true) (ω := ω) (f := 5) (fn := a5) rfl (h := []) (args := [v, .int .i64 seed, .int .u8 t]) (P := fun u _ => u = .bool true) (by
    unfold a5
    have hw1 : call F 6301 true ω 8 [] [] = some (.bool true, H1) := awake1 6101 ω
    have hw2 : call F 6301 true ω 8 [] H1 = some (.bool true, H2) := awake2 6101 ω
    have hl := hv.len
    by_cases hlong : ((bs.length : Nat) : Int) > 300
    · simp (maxSteps := 2000000) (discharger := omega) only [xc, xo, xr, x0, x1, x2, x3, x4, x5, x6, xd, xe, xb, kont_call, kont_pure, isNil, slOk, sliceV, selems, elems, srcElems, copyTo, dlen, eqAV, eqCells, eqS, upd, wr, place, partVals, partEs, placeEs, mapOf, keyOk, keyCells, findK, Bool.bne_false, Bool.bne_true, List.drop_zero, List.nil_append, List.append_nil, List.take_zero, Reg.isA, Reg.isV, Reg.stays, Reg.onto, Bool.false_or, Bool.or_false, Bool.false_and, Bool.and_false, Bool.true_and, Bool.and_true, Bool.or_true, Bool.true_or, ↓reduceIte, reduceCtorEq, Nat.reduceEqDiff, Nat.reduceLT, Nat.reduceAdd, Nat.reduceMul, Nat.add_zero, Nat.zero_add, Nat.not_lt_zero, Nat.zero_ne_one, Nat.one_ne_zero, Nat.reduceLeDiff, Nat.lt_irrefl, Nat.zero_lt_succ, Bool.false_eq_true, Bool.not_true, Bool.not_false, Option.map_some, Option.map_none, Option.bind_some, Option.getD_some, Option.getD_none, and_self, and_true, true_and, List.length_cons, List.length_nil, List.any_nil, List.any_cons, Int.toNat_natCast, Int.cast_ofNat_Int, Int.natCast_zero, Int.natCast_nonneg, true_implies, or_true, true_or, false_or, or_false, beq_self_eq_true, Option.some.injEq, exists_eq_left', Int.reduceEq, Int.reduceLT, Int.reduceLE, Int.reduceGT, Int.reduceGE, Nat.reduceGT, Int.reduceNeg, Int.reduceToNat, Int.reduceAdd, Int.reduceMul, Int.reduceSub, Int.reducePow, decide_true, decide_false, decide_eq_true_eq, List.getElem?_cons_zero, List.getElem?_cons_succ, Nat.reduceBEq, Nat.reduceSub, exists_false, and_false, false_and, wrap_i64, hw1, hw2, hl, hlong]
    by_cases hshort : ((bs.length : Nat) : Int) < 8
    · simp (maxSteps := 2000000) (discharger := omega) only [xc, xo, xr, x0, x1, x2, x3, x4, x5, x6, xd, xe, xb, kont_call, kont_pure, isNil, slOk, sliceV, selems, elems, srcElems, copyTo, dlen, eqAV, eqCells, eqS, upd, wr, place, partVals, partEs, placeEs, mapOf, keyOk, keyCells, findK, Bool.bne_false, Bool.bne_true, List.drop_zero, List.nil_append, List.append_nil, List.take_zero, Reg.isA, Reg.isV, Reg.stays, Reg.onto, Bool.false_or, Bool.or_false, Bool.false_and, Bool.and_false, Bool.true_and, Bool.and_true, Bool.or_true, Bool.true_or, ↓reduceIte, reduceCtorEq, Nat.reduceEqDiff, Nat.reduceLT, Nat.reduceAdd, Nat.reduceMul, Nat.add_zero, Nat.zero_add, Nat.not_lt_zero, Nat.zero_ne_one, Nat.one_ne_zero, Nat.reduceLeDiff, Nat.lt_irrefl, Nat.zero_lt_succ, Bool.false_eq_true, Bool.not_true, Bool.not_false, Option.map_some, Option.map_none, Option.bind_some, Option.getD_some, Option.getD_none, and_self, and_true, true_and, List.length_cons, List.length_nil, List.any_nil, List.any_cons, Int.toNat_natCast, Int.cast_ofNat_Int, Int.natCast_zero, Int.natCast_nonneg, true_implies, or_true, true_or, false_or, or_false, beq_self_eq_true, Option.some.injEq, exists_eq_left', Int.reduceEq, Int.reduceLT, Int.reduceLE, Int.reduceGT, Int.reduceGE, Nat.reduceGT, Int.reduceNeg, Int.reduceToNat, Int.reduceAdd, Int.reduceMul, Int.reduceSub, Int.reducePow, decide_true, decide_false, decide_eq_true_eq, List.getElem?_cons_zero, List.getElem?_cons_succ, Nat.reduceBEq, Nat.reduceSub, exists_false, and_false, false_and, wrap_i64, hw1, hw2, hl, hlong, hshort]
    have hb1 : 8 ≤ bs.length := by omega
    have hb2 : bs.length ≤ 300 := by omega
    have hv : v = .imm 1 (bytesOf bs) .no := by
      rcases hv with ⟨_, h⟩ | h
      · rw [h] at hb1; simp at hb1
      · exact h
    subst hv
    have hne : bytesOf bs ≠ [] := by
      intro h
      rw [bytesOf_eq_nil] at h
      rw [h] at hb1; simp at hb1
    have hbl := bytesOf_len bs
    obtain ⟨v1, h1, e1, i1, _⟩ := app_ok (sz := 1) (bytes := 1) (IsApp.nils 1 H1) hne (by simp; omega)
    obtain ⟨v2, h2, e2, i2, _⟩ := app_ok (sz := 1) (bytes := 1) i1 hne (by simp; omega)
    have r1 := i1.isRow
    rw [List.nil_append] at i1 i2
    obtain ⟨c2, rfl⟩ := i2.imm (by simp [hne])
    have t1 : t.tmod 5 = t % 5 := tmod_pos ht
    simp (maxSteps := 2000000) (discharger := omega) only [xc, xo, xr, x0, x1, x2, x3, x4, x5, x6, xd, xe, xb, kont_call, kont_pure, isNil, slOk, sliceV, selems, elems, srcElems, copyTo, dlen, eqAV, eqCells, eqS, upd, wr, place, partVals, partEs, placeEs, mapOf, keyOk, keyCells, findK, Bool.bne_false, Bool.bne_true, List.drop_zero, List.nil_append, List.append_nil, List.take_zero, Reg.isA, Reg.isV, Reg.stays, Reg.onto, Bool.false_or, Bool.or_false, Bool.false_and, Bool.and_false, Bool.true_and, Bool.and_true, Bool.or_true, Bool.true_or, ↓reduceIte, reduceCtorEq, Nat.reduceEqDiff, Nat.reduceLT, Nat.reduceAdd, Nat.reduceMul, Nat.add_zero, Nat.zero_add, Nat.not_lt_zero, Nat.zero_ne_one, Nat.one_ne_zero, Nat.reduceLeDiff, Nat.lt_irrefl, Nat.zero_lt_succ, Bool.false_eq_true, Bool.not_true, Bool.not_false, Option.map_some, Option.map_none, Option.bind_some, Option.getD_some, Option.getD_none, and_self, and_true, true_and, List.length_cons, List.length_nil, List.any_nil, List.any_cons, Int.toNat_natCast, Int.cast_ofNat_Int, Int.natCast_zero, Int.natCast_nonneg, true_implies, or_true, true_or, false_or, or_false, beq_self_eq_true, Option.some.injEq, exists_eq_left', Int.reduceEq, Int.reduceLT, Int.reduceLE, Int.reduceGT, Int.reduceGE, Nat.reduceGT, Int.reduceNeg, Int.reduceToNat, Int.reduceAdd, Int.reduceMul, Int.reduceSub, Int.reducePow, decide_true, decide_false, decide_eq_true_eq, List.getElem?_cons_zero, List.getElem?_cons_succ, Nat.reduceBEq, Nat.reduceSub, exists_false, and_false, false_and, wrap_i64, hw1, hl, hlong, hshort, e1, r1, e2, t1]
    obtain ⟨m, hm⟩ : ∃ m : Nat, 2 + t % 5 = (m : Int) := ⟨(2 + t % 5).toNat, by omega⟩
    have hm2 : 2 ≤ m := by omega
    have hm3 : m ≤ 6 := by omega
    rw [hm]
    refine wpi_loop (fun k r h'' => ∃ (i : Nat) (v3 : AV), r = [(0, .val (.imm 1 (bytesOf bs) .no)), (1, .val (.int .i64 seed)), (7, .val (.int .i64 m)), (8, .val (.imm 1 (bytesOf (bs ++ bs)) c2)), (9, .val v3), (10, .val (.int .i64 i))] ∧ i ≤ m ∧ k = m - i ∧ IsApp 1 (bytesOf (rep bs i)) h'' v3) m (by omega) ⟨0, .nils, rfl, by omega, by omega, IsApp.nils _ _⟩ ?_
    rintro k r h'' ⟨i, v3, rfl, hi, rfl, i3⟩
    have hrl := rep_len bs i
    have hmul : i * bs.length ≤ 6 * 300 := Nat.mul_le_mul (by omega) hb2
    by_cases hlt : i < m
    · have hlt' : ((i : Nat) : Int) < (m : Int) := by omega
      have hbl3 := bytesOf_len (rep bs i)
      obtain ⟨v4, h4, e4, i4, _⟩ := app_ok (sz := 1) (bytes := 1) i3 hne (by omega)
      have r3 := i3.isRow
      simp (maxSteps := 2000000) (discharger := omega) only [xc, xo, xr, x0, x1, x2, x3, x4, x5, x6, xd, xe, xb, kont_call, kont_pure, isNil, slOk, sliceV, selems, elems, srcElems, copyTo, dlen, eqAV, eqCells, eqS, upd, wr, place, partVals, partEs, placeEs, mapOf, keyOk, keyCells, findK, Bool.bne_false, Bool.bne_true, List.drop_zero, List.nil_append, List.append_nil, List.take_zero, Reg.isA, Reg.isV, Reg.stays, Reg.onto, Bool.false_or, Bool.or_false, Bool.false_and, Bool.and_false, Bool.true_and, Bool.and_true, Bool.or_true, Bool.true_or, ↓reduceIte, reduceCtorEq, Nat.reduceEqDiff, Nat.reduceLT, Nat.reduceAdd, Nat.reduceMul, Nat.add_zero, Nat.zero_add, Nat.not_lt_zero, Nat.zero_ne_one, Nat.one_ne_zero, Nat.reduceLeDiff, Nat.lt_irrefl, Nat.zero_lt_succ, Bool.false_eq_true, Bool.not_true, Bool.not_false, Option.map_some, Option.map_none, Option.bind_some, Option.getD_some, Option.getD_none, and_self, and_true, true_and, List.length_cons, List.length_nil, List.any_nil, List.any_cons, Int.toNat_natCast, Int.cast_ofNat_Int, Int.natCast_zero, Int.natCast_nonneg, true_implies, or_true, true_or, false_or, or_false, beq_self_eq_true, Option.some.injEq, exists_eq_left', Int.reduceEq, Int.reduceLT, Int.reduceLE, Int.reduceGT, Int.reduceGE, Nat.reduceGT, Int.reduceNeg, Int.reduceToNat, Int.reduceAdd, Int.reduceMul, Int.reduceSub, Int.reducePow, decide_true, decide_false, decide_eq_true_eq, List.getElem?_cons_zero, List.getElem?_cons_succ, Nat.reduceBEq, Nat.reduceSub, exists_false, and_false, false_and, wrap_i64, hlt', e4, r3]
      refine ⟨m - (i + 1), by omega, i + 1, v4, rfl, by omega, rfl, ?_⟩
      rw [show bytesOf (rep bs (i + 1)) = bytesOf (rep bs i) ++ bytesOf bs from bytesOf_append _ _]
      exact i4
    · have hlt' : ¬ ((i : Nat) : Int) < (m : Int) := by omega
      obtain rfl : i = m := by omega
      have hne3 : bytesOf (rep bs i) ≠ [] := by
        intro h
        have := congrArg List.length h
        rw [bytesOf_len, hrl] at this
        have : 2 * 8 ≤ i * bs.length := Nat.mul_le_mul hm2 hb1
        simp at *
        omega
      obtain ⟨c3, rfl⟩ := i3.imm hne3
      have hq := rows_rep bs hb1 i hm2 seed
      have h2 : rep bs 2 = bs ++ bs := rfl
      have c9a := c9 (tot := true) (ω := ω) (n := 6301) (bs ++ bs) c2 seed h'' (by simp; omega) (by omega)
      have c9b := c9 (tot := true) (ω := ω) (n := 6301) (rep bs i) c3 seed h'' (by omega) (by omega)
      rw [hq, h2] at c9b
      simp (maxSteps := 2000000) (discharger := omega) only [xc, xo, xr, x0, x1, x2, x3, x4, x5, x6, xd, xe, xb, kont_call, kont_pure, isNil, slOk, sliceV, selems, elems, srcElems, copyTo, dlen, eqAV, eqCells, eqS, upd, wr, place, partVals, partEs, placeEs, mapOf, keyOk, keyCells, findK, Bool.bne_false, Bool.bne_true, List.drop_zero, List.nil_append, List.append_nil, List.take_zero, Reg.isA, Reg.isV, Reg.stays, Reg.onto, Bool.false_or, Bool.or_false, Bool.false_and, Bool.and_false, Bool.true_and, Bool.and_true, Bool.or_true, Bool.true_or, ↓reduceIte, reduceCtorEq, Nat.reduceEqDiff, Nat.reduceLT, Nat.reduceAdd, Nat.reduceMul, Nat.add_zero, Nat.zero_add, Nat.not_lt_zero, Nat.zero_ne_one, Nat.one_ne_zero, Nat.reduceLeDiff, Nat.lt_irrefl, Nat.zero_lt_succ, Bool.false_eq_true, Bool.not_true, Bool.not_false, Option.map_some, Option.map_none, Option.bind_some, Option.getD_some, Option.getD_none, and_self, and_true, true_and, List.length_cons, List.length_nil, List.any_nil, List.any_cons, Int.toNat_natCast, Int.cast_ofNat_Int, Int.natCast_zero, Int.natCast_nonneg, true_implies, or_true, true_or, false_or, or_false, beq_self_eq_true, Option.some.injEq, exists_eq_left', Int.reduceEq, Int.reduceLT, Int.reduceLE, Int.reduceGT, Int.reduceGE, Nat.reduceGT, Int.reduceNeg, Int.reduceToNat, Int.reduceAdd, Int.reduceMul, Int.reduceSub, Int.reducePow, decide_true, decide_false, decide_eq_true_eq, List.getElem?_cons_zero, List.getElem?_cons_succ, Nat.reduceBEq, Nat.reduceSub, exists_false, and_false, false_and, wrap_i64, hlt', c9a, c9b, eqCells_arr8])
  exact ⟨h', by rw [e, hu]⟩

theorem sketchWindows_im (avs : List AV) (h : RdAll Try.prog 10 Try.f5.params.toList avs) : ∃ n, ∀ ω, ∃ h', call F n true ω 5 avs [] = some (.bool true, h') := by
  have hp : Try.f5.params.toList = [22, 3, 5] := by rw [Try.params5]
  rw [hp] at h
  obtain ⟨a, r, rfl, h1, h⟩ := rdAll_cons h
  obtain ⟨b, r, rfl, h2, h⟩ := rdAll_cons h
  obtain ⟨c, r, rfl, h3, h⟩ := rdAll_cons h
  cases rdAll_nil h
  obtain ⟨seed, rfl, _⟩ := rdT_int Try.underlying3 h2
  obtain ⟨t, rfl, ht⟩ := rdT_int Try.underlying5 h3
  have ht := wf_u8 ht
  rcases rdT_slice Try.underlying22 h1 with rfl | ⟨es, rfl, hl, hes⟩
  · exact ⟨6302, fun ω => law_win [] .nils seed t ω (.inl ⟨rfl, rfl⟩) (by simp) ht.1 ht.2⟩
  · obtain ⟨bs, rfl⟩ := rd_bytes Try.underlying5 hes
    have hsz : Try.prog.cellsOf 5 = 1 := by kernel_rfl
    rw [hsz]
    exact ⟨6302, fun ω => law_win bs _ seed t ω (.inr rfl) (by simpa [bytesOf] using hl) ht.1 ht.2⟩
theorem own : ownKnob Try.prog.godebug = none := by kernel_rfl

set_option maxRecDepth 100000 in
theorem sketchWindows_lifted (os : Os) (started : os.Started) (H : Type) (enc : TypeId × Value → H) :
    ReturnsInHanded {} Try.checked os 5 .any (Rows.sketchWindowsSpec.pre6 enc Try.prog Try.f5 Rows.sketchWindowsRow.domain false) (Rows.sketchWindowsSpec.post enc Try.prog Try.f5 false true false false) := by
  refine returnsInHanded_of_change (C := Try.checked) own started (by kernel_rfl) Try.func5
    (ChangeSpec.witness6 (enc := enc) (C := Try.checked) false ⟨#[], #[.slice none 0 0, .int .i64 0, .int .u8 0], []⟩ 12 (by kernel_rfl) (by kernel_rfl) (by kernel_rfl) (by kernel_rfl)) ?_
  intro W base args ds gs before hval hW _ _
  exact law_contract (P := Try.prog) (m := 10) (tb := 4) tableOk (by kernel_rfl) (fun _ => rfl) rfl (fun ds h => by
    rw [Try.params5] at h
    match ds, h with
    | [d1, d2, d3], _ => rfl) (by kernel_rfl) (by kernel_rfl) (by kernel_rfl) (by kernel_rfl) Try.underlying4 sketchWindows_im W base args ds gs before hval hW

theorem sketchWindows_holds : Rows.SketchWindowsSaid :=
  OpenClaim.holds_of_wide 5 Try.f5 rfl rfl rfl rfl rfl rfl rfl ⟨rfl, rfl, rfl, rfl, rfl⟩ rfl rfl rfl rfl rfl (by kernel_rfl) Try.func5 (by kernel_rfl)
    (of_decide_eq_true (by kernel_rfl)) (by unfold Func.isWrapper; first | (rw [if_pos (by decide +kernel)]; kernel_rfl) | (rw [if_neg (by decide +kernel)]; exact ⟨rfl, rfl⟩))
    (fun os started H enc _ => sketchWindows_lifted os started H enc)

#print axioms sketchWindows_holds
end Go.Proofs.Ytdjlcddkfjbebaa

/- The sketch of any bytes, by any seed, is the document's, and the bytes stay: SketchOf answers true for all bytes and seeds. No condition. -/
import Derived.Test.YtdjlcddkfjbebaaRows
import Derived.Test.YtdjlcddkfjbebaaTab
import Derived.Test.YtdjlcddkfjbebaaAwake
import Derived.Test.YtdjlcddkfjbebaaOf2
set_option linter.unusedVariables false
set_option linter.unusedSimpArgs false
open Go Go.Im
namespace Go.Proofs.Ytdjlcddkfjbebaa
open Go.Proofs.Ytdjlcddkfjbebaa.Im Go.ChangeShapes Go.WideShapes Go.ChangeAt Go.RowKit

theorem plains_arr8 (f : Nat → Int) : plains (arr8 f) = some (arr8 f) := plains_map _ (fun _ => rfl) _
theorem eqCells_arr8 (f : Nat → Int) : eqCells [.i, .i, .i, .i, .i, .i, .i, .i] (arr8 f) (arr8 f) = some true := by
  have h : ∀ l : List Nat, eqCells (l.map fun _ => CK.i) (l.map fun r => AV.int .u32 (f r)) (l.map fun r => AV.int .u32 (f r)) = some true := by
    intro l
    induction l with
    | nil => rfl
    | cons a l ih => simp only [List.map_cons, eqCells, eqS, if_true, ih]; simp
  exact h (List.range 8)

theorem law_of (bs : List UInt8) (v : AV) (seed : Int) (ω : Nat → Nat) (hv : IsB bs v) (hlen : bs.length ≤ maxLen) : ∃ h', call F 6302 true ω 3 [v, .int .i64 seed] [] = some (.bool true, h') := by
  unfold maxLen at hlen
  obtain ⟨u, h', e, hu⟩ := call_of (F := F) (n := 6301) (tot := true) (ω := ω) (f := 3) (fn := a3) rfl (h := []) (args := [v, .int .i64 seed]) (P := fun u _ => u = .bool true) (by
    unfold a3
    have hw1 : call F 6301 true ω 8 [] [] = some (.bool true, H1) := awake1 6101 ω
    have hw2 : call F 6301 true ω 8 [] H1 = some (.bool true, H2) := awake2 6101 ω
    by_cases hlong : ((bs.length : Nat) : Int) > 6000
    · have hl := hv.len
      simp (maxSteps := 2000000) (discharger := omega) only [xc, xo, xr, x0, x1, x2, x3, x4, x5, x6, xd, xe, kont_call, kont_pure, isNil, slOk, sliceV, selems, elems, srcElems, appendV, Im.newRow, copyTo, dlen, eqAV, eqCells, eqS, upd, wr, place, partVals, partEs, placeEs, mapOf, keyOk, keyCells, findK, AV.isRow, Bool.bne_false, Bool.bne_true, List.drop_zero, List.nil_append, List.append_nil, List.take_zero, Reg.isA, Reg.isV, Reg.stays, Reg.onto, Bool.false_or, Bool.or_false, Bool.false_and, Bool.and_false, Bool.true_and, Bool.and_true, Bool.or_true, Bool.true_or, ↓reduceIte, reduceCtorEq, Nat.reduceEqDiff, Nat.reduceLT, Nat.reduceAdd, Nat.reduceMul, Nat.add_zero, Nat.zero_add, Nat.not_lt_zero, Nat.zero_ne_one, Nat.one_ne_zero, Nat.reduceLeDiff, Nat.lt_irrefl, Nat.zero_lt_succ, Bool.false_eq_true, Bool.not_true, Bool.not_false, Option.map_some, Option.map_none, Option.bind_some, Option.getD_some, Option.getD_none, and_self, and_true, true_and, List.length_cons, List.length_nil, List.any_nil, List.any_cons, Int.toNat_natCast, Int.cast_ofNat_Int, Int.natCast_zero, Int.natCast_nonneg, true_implies, or_true, true_or, false_or, or_false, beq_self_eq_true, Option.some.injEq, exists_eq_left', Int.reduceEq, Int.reduceLT, Int.reduceLE, Int.reduceGT, Int.reduceGE, Nat.reduceGT, Int.reduceNeg, Int.reduceToNat, Int.reduceAdd, Int.reduceMul, Int.reduceSub, Int.reducePow, decide_true, decide_false, decide_eq_true_eq, List.getElem?_cons_zero, List.getElem?_cons_succ, Nat.reduceBEq, Nat.reduceSub, exists_false, and_false, false_and, wrap_i64, hw1, hw2, hl, hlong]
    · have hsh : bs.length ≤ 6000 := by omega
      have hl := hv.len
      have c10' := c10 (tot := false) (ω := fun _ => 0) (n := 6301) bs v seed [] hv hsh (by omega)
      have hz := c9 (tot := true) (ω := ω) (n := 6301) bs
      by_cases hne : bs = []
      · subst hne
        have hz := c9 (tot := true) (ω := ω) (n := 6301) [] .full seed H1 (by simp) (by omega)
        simp only [bytesOf_nil] at hz
        rcases hv with ⟨rfl, _⟩ | rfl
        · simp (maxSteps := 2000000) (discharger := omega) only [xc, xo, xr, x0, x1, x2, x3, x4, x5, x6, xd, xe, kont_call, kont_pure, isNil, slOk, sliceV, selems, elems, srcElems, appendV, Im.newRow, copyTo, dlen, eqAV, eqCells, eqS, upd, wr, place, partVals, partEs, placeEs, mapOf, keyOk, keyCells, findK, AV.isRow, Bool.bne_false, Bool.bne_true, List.drop_zero, List.nil_append, List.append_nil, List.take_zero, Reg.isA, Reg.isV, Reg.stays, Reg.onto, Bool.false_or, Bool.or_false, Bool.false_and, Bool.and_false, Bool.true_and, Bool.and_true, Bool.or_true, Bool.true_or, ↓reduceIte, reduceCtorEq, Nat.reduceEqDiff, Nat.reduceLT, Nat.reduceAdd, Nat.reduceMul, Nat.add_zero, Nat.zero_add, Nat.not_lt_zero, Nat.zero_ne_one, Nat.one_ne_zero, Nat.reduceLeDiff, Nat.lt_irrefl, Nat.zero_lt_succ, Bool.false_eq_true, Bool.not_true, Bool.not_false, Option.map_some, Option.map_none, Option.bind_some, Option.getD_some, Option.getD_none, and_self, and_true, true_and, List.length_cons, List.length_nil, List.any_nil, List.any_cons, Int.toNat_natCast, Int.cast_ofNat_Int, Int.natCast_zero, Int.natCast_nonneg, true_implies, or_true, true_or, false_or, or_false, beq_self_eq_true, Option.some.injEq, exists_eq_left', Int.reduceEq, Int.reduceLT, Int.reduceLE, Int.reduceGT, Int.reduceGE, Nat.reduceGT, Int.reduceNeg, Int.reduceToNat, Int.reduceAdd, Int.reduceMul, Int.reduceSub, Int.reducePow, decide_true, decide_false, decide_eq_true_eq, List.getElem?_cons_zero, List.getElem?_cons_succ, Nat.reduceBEq, Nat.reduceSub, exists_false, and_false, false_and, wrap_i64, hw1, hl, hlong, List.replicate, arr8_zero, arr8_len, arr8_take, arr8_drop, hz, c10', plains_arr8, eqCells_arr8, toBytes]
        · simp only [bytesOf_nil] at c10' ⊢
          simp (maxSteps := 2000000) (discharger := omega) only [xc, xo, xr, x0, x1, x2, x3, x4, x5, x6, xd, xe, kont_call, kont_pure, isNil, slOk, sliceV, selems, elems, srcElems, appendV, Im.newRow, copyTo, dlen, eqAV, eqCells, eqS, upd, wr, place, partVals, partEs, placeEs, mapOf, keyOk, keyCells, findK, AV.isRow, Bool.bne_false, Bool.bne_true, List.drop_zero, List.nil_append, List.append_nil, List.take_zero, Reg.isA, Reg.isV, Reg.stays, Reg.onto, Bool.false_or, Bool.or_false, Bool.false_and, Bool.and_false, Bool.true_and, Bool.and_true, Bool.or_true, Bool.true_or, ↓reduceIte, reduceCtorEq, Nat.reduceEqDiff, Nat.reduceLT, Nat.reduceAdd, Nat.reduceMul, Nat.add_zero, Nat.zero_add, Nat.not_lt_zero, Nat.zero_ne_one, Nat.one_ne_zero, Nat.reduceLeDiff, Nat.lt_irrefl, Nat.zero_lt_succ, Bool.false_eq_true, Bool.not_true, Bool.not_false, Option.map_some, Option.map_none, Option.bind_some, Option.getD_some, Option.getD_none, and_self, and_true, true_and, List.length_cons, List.length_nil, List.any_nil, List.any_cons, Int.toNat_natCast, Int.cast_ofNat_Int, Int.natCast_zero, Int.natCast_nonneg, true_implies, or_true, true_or, false_or, or_false, beq_self_eq_true, Option.some.injEq, exists_eq_left', Int.reduceEq, Int.reduceLT, Int.reduceLE, Int.reduceGT, Int.reduceGE, Nat.reduceGT, Int.reduceNeg, Int.reduceToNat, Int.reduceAdd, Int.reduceMul, Int.reduceSub, Int.reducePow, decide_true, decide_false, decide_eq_true_eq, List.getElem?_cons_zero, List.getElem?_cons_succ, Nat.reduceBEq, Nat.reduceSub, exists_false, and_false, false_and, wrap_i64, hw1, hl, hlong, List.replicate, arr8_zero, arr8_len, arr8_take, arr8_drop, hz, c10', plains_arr8, eqCells_arr8, toBytes]
      · have hv : v = .imm 1 (bytesOf bs) .no := by
          rcases hv with ⟨_, h⟩ | h
          · exact absurd h hne
          · exact h
        subst hv
        have hb : bs.length ≤ 140737488355328 := by omega
        simp (maxSteps := 2000000) (discharger := omega) only [xc, xo, xr, x0, x1, x2, x3, x4, x5, x6, xd, xe, kont_call, kont_pure, isNil, slOk, sliceV, selems, elems, srcElems, appendV, Im.newRow, copyTo, dlen, eqAV, eqCells, eqS, upd, wr, place, partVals, partEs, placeEs, mapOf, keyOk, keyCells, findK, AV.isRow, Bool.bne_false, Bool.bne_true, List.drop_zero, List.nil_append, List.append_nil, List.take_zero, Reg.isA, Reg.isV, Reg.stays, Reg.onto, Bool.false_or, Bool.or_false, Bool.false_and, Bool.and_false, Bool.true_and, Bool.and_true, Bool.or_true, Bool.true_or, ↓reduceIte, reduceCtorEq, Nat.reduceEqDiff, Nat.reduceLT, Nat.reduceAdd, Nat.reduceMul, Nat.add_zero, Nat.zero_add, Nat.not_lt_zero, Nat.zero_ne_one, Nat.one_ne_zero, Nat.reduceLeDiff, Nat.lt_irrefl, Nat.zero_lt_succ, Bool.false_eq_true, Bool.not_true, Bool.not_false, Option.map_some, Option.map_none, Option.bind_some, Option.getD_some, Option.getD_none, and_self, and_true, true_and, List.length_cons, List.length_nil, List.any_nil, List.any_cons, Int.toNat_natCast, Int.cast_ofNat_Int, Int.natCast_zero, Int.natCast_nonneg, true_implies, or_true, true_or, false_or, or_false, beq_self_eq_true, Option.some.injEq, exists_eq_left', Int.reduceEq, Int.reduceLT, Int.reduceLE, Int.reduceGT, Int.reduceGE, Nat.reduceGT, Int.reduceNeg, Int.reduceToNat, Int.reduceAdd, Int.reduceMul, Int.reduceSub, Int.reducePow, decide_true, decide_false, decide_eq_true_eq, List.getElem?_cons_zero, List.getElem?_cons_succ, Nat.reduceBEq, Nat.reduceSub, exists_false, and_false, false_and, wrap_i64, hw1, hl, hlong, List.replicate, arr8_zero, arr8_len, arr8_take, arr8_drop, c9, c10', plains_arr8, eqCells_arr8, hne, Nat.mul_one, hb])
  exact ⟨h', by rw [e, hu]⟩

theorem isB_of {bs : List AV} (h : ∀ x ∈ bs, RdT Try.prog 9 5 x) : ∃ l : List UInt8, bs = bytesOf l := rd_bytes Try.underlying5 h

theorem sketchOf_im (avs : List AV) (h : RdAll Try.prog 10 Try.f3.params.toList avs) : ∃ n, ∀ ω, ∃ h', call F n true ω 3 avs [] = some (.bool true, h') := by
  have hp : Try.f3.params.toList = [22, 3] := by rw [Try.params3]
  rw [hp] at h
  obtain ⟨a, r, rfl, h1, h⟩ := rdAll_cons h
  obtain ⟨b, r, rfl, h2, h⟩ := rdAll_cons h
  cases rdAll_nil h
  obtain ⟨seed, rfl, _⟩ := rdT_int Try.underlying3 h2
  rcases rdT_slice Try.underlying22 h1 with rfl | ⟨es, rfl, hl, hes⟩
  · exact ⟨6302, fun ω => law_of [] .nils seed ω (.inl ⟨rfl, rfl⟩) (by simp)⟩
  · obtain ⟨bs, rfl⟩ := isB_of hes
    have hsz : Try.prog.cellsOf 5 = 1 := by kernel_rfl
    rw [hsz]
    exact ⟨6302, fun ω => law_of bs _ seed ω (.inr rfl) (by simpa [bytesOf] using hl)⟩
theorem own : ownKnob Try.prog.godebug = none := by kernel_rfl

set_option maxRecDepth 100000 in
theorem sketchOf_lifted (os : Os) (started : os.Started) (H : Type) (enc : TypeId × Value → H) :
    ReturnsInHanded {} Try.checked os 3 .any (Rows.sketchOfSpec.pre6 enc Try.prog Try.f3 Rows.sketchOfRow.domain false) (Rows.sketchOfSpec.post enc Try.prog Try.f3 false true false false) := by
  refine returnsInHanded_of_change (C := Try.checked) own started (by kernel_rfl) Try.func3
    (ChangeSpec.witness6 (enc := enc) (C := Try.checked) false ⟨#[], #[.slice none 0 0, .int .i64 0], []⟩ 12 (by kernel_rfl) (by kernel_rfl) (by kernel_rfl) (by kernel_rfl)) ?_
  intro W base args ds gs before hval hW _ _
  exact law_contract (P := Try.prog) (m := 10) (tb := 4) tableOk (by kernel_rfl) (fun _ => rfl) rfl (fun ds h => by
    rw [Try.params3] at h
    match ds, h with
    | [d1, d2], _ => rfl) (by kernel_rfl) (by kernel_rfl) (by kernel_rfl) (by kernel_rfl) Try.underlying4 sketchOf_im W base args ds gs before hval hW

theorem sketchOf_holds : Rows.SketchOfSaid :=
  OpenClaim.holds_of_wide 3 Try.f3 rfl rfl rfl rfl rfl rfl rfl ⟨rfl, rfl, rfl, rfl, rfl⟩ rfl rfl rfl rfl rfl (by kernel_rfl) Try.func3 (by kernel_rfl)
    (of_decide_eq_true (by kernel_rfl)) (by unfold Func.isWrapper; first | (rw [if_pos (by decide +kernel)]; kernel_rfl) | (rw [if_neg (by decide +kernel)]; exact ⟨rfl, rfl⟩))
    (fun os started H enc _ => sketchOf_lifted os started H enc)

#print axioms sketchOf_holds
end Go.Proofs.Ytdjlcddkfjbebaa

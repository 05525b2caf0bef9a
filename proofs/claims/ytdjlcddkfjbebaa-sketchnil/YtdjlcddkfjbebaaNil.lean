/- A nil book of sketches has nothing: SketchNil answers true for every chunk's key, every sketch and every number. No condition. -/
import Derived.Test.YtdjlcddkfjbebaaRows
import Derived.Test.YtdjlcddkfjbebaaTab
import Derived.Test.YtdjlcddkfjbebaaAwake
import Derived.Test.YtdjlcddkfjbebaaImDead
set_option linter.unusedVariables false
set_option linter.unusedSimpArgs false
open Go Go.Im
namespace Go.Proofs.Ytdjlcddkfjbebaa
open Go.Proofs.Ytdjlcddkfjbebaa.Im Go.ChangeShapes Go.WideShapes Go.ChangeAt Go.RowKit

/-- The heap behind the first look, where there is one dead entry ahead of it. -/
def HD : Hp := ((call F 200 true (fun _ => 0) 8 [] [.dead]).getD (.bool false, [])).2
theorem awakeD (m : Nat) (ω : Nat → Nat) : call F (m + 200) true ω 8 [] [.dead] = some (.bool true, HD) := by kernel_rfl

theorem code : Im.Code F := by
  intro f g h
  unfold F at h
  split at h <;> cases h

theorem awake3 (X : AO) (m : Nat) (ω : Nat → Nat) : call F (m + 200) true ω 8 [] [X] = some (.bool true, HD.set 0 X) :=
  (call_u code 0 X true ω (m + 200) 8 [] [.dead] rfl _ _ (awakeD m ω)).2

theorem c14 {tot : Bool} {ω : Nat → Nat} {n : Nat} (hn : 0 < n) (k s : List AV) (h : Hp) (hk : k.length = 32) (hs : s.length = 8) : call F n tot ω 14 [.nilp, .agg k, .agg s] h = some (.tup [], h) := by
  obtain ⟨n, rfl⟩ : ∃ m, n = m + 1 := ⟨n - 1, by omega⟩
  refine call_eq (fn := a14) rfl ?_
  unfold a14
  simp only [xc, xo, xr, x0, x1, x2, x3, x4, x5, x6, xd, xe, xb, kont_call, kont_pure, isNil, slOk, sliceV, selems, srcElems, copyTo, dlen, eqAV, eqCells, eqS, upd, wr, place, partVals, partEs, placeEs, mapOf, keyOk, keyCells, findK, Bool.bne_false, Bool.bne_true, List.drop_zero, List.nil_append, List.append_nil, List.take_zero, List.cons_append, List.take_succ_cons, List.drop_succ_cons, List.take_nil, List.drop_nil, Reg.isA, Reg.isV, Reg.stays, Reg.onto, Bool.false_or, Bool.or_false, Bool.false_and, Bool.and_false, Bool.true_and, Bool.and_true, Bool.or_true, Bool.true_or, ↓reduceIte, reduceCtorEq, Nat.reduceEqDiff, Nat.reduceLT, Nat.reduceAdd, Nat.reduceMul, Nat.add_zero, Nat.zero_add, Nat.not_lt_zero, Nat.zero_ne_one, Nat.one_ne_zero, Nat.reduceLeDiff, Nat.lt_irrefl, Nat.zero_lt_succ, Bool.false_eq_true, Bool.not_true, Bool.not_false, Option.map_some, Option.map_none, Option.bind_some, Option.getD_some, Option.getD_none, and_self, and_true, true_and, List.length_cons, List.length_nil, List.any_nil, List.any_cons, Int.toNat_natCast, Int.cast_ofNat_Int, Int.natCast_zero, Int.natCast_nonneg, true_implies, or_true, true_or, false_or, or_false, beq_self_eq_true, Option.some.injEq, exists_eq_left', Int.reduceEq, Int.reduceLT, Int.reduceLE, Int.reduceGT, Int.reduceGE, Nat.reduceGT, Int.reduceNeg, Int.reduceToNat, Int.reduceAdd, Int.reduceMul, Int.reduceSub, Int.reducePow, decide_true, decide_false, decide_eq_true_eq, List.getElem?_cons_zero, List.getElem?_cons_succ, Nat.reduceBEq, Nat.reduceSub, exists_false, and_false, false_and, hk, hs]
theorem c16 {tot : Bool} {ω : Nat → Nat} {n : Nat} (hn : 0 < n) (k : List AV) (h : Hp) (hk : k.length = 32) : call F n tot ω 16 [.nilp, .agg k] h = some (.tup [], h ++ [.row 32 [.agg k]]) := by
  obtain ⟨n, rfl⟩ : ∃ m, n = m + 1 := ⟨n - 1, by omega⟩
  refine call_eq (fn := a16) rfl ?_
  unfold a16
  simp only [xc, xo, xr, x0, x1, x2, x3, x4, x5, x6, xd, xe, xb, kont_call, kont_pure, isNil, slOk, sliceV, selems, srcElems, copyTo, dlen, eqAV, eqCells, eqS, upd, wr, place, partVals, partEs, placeEs, mapOf, keyOk, keyCells, findK, Bool.bne_false, Bool.bne_true, List.drop_zero, List.nil_append, List.append_nil, List.take_zero, List.cons_append, List.take_succ_cons, List.drop_succ_cons, List.take_nil, List.drop_nil, Reg.isA, Reg.isV, Reg.stays, Reg.onto, Bool.false_or, Bool.or_false, Bool.false_and, Bool.and_false, Bool.true_and, Bool.and_true, Bool.or_true, Bool.true_or, ↓reduceIte, reduceCtorEq, Nat.reduceEqDiff, Nat.reduceLT, Nat.reduceAdd, Nat.reduceMul, Nat.add_zero, Nat.zero_add, Nat.not_lt_zero, Nat.zero_ne_one, Nat.one_ne_zero, Nat.reduceLeDiff, Nat.lt_irrefl, Nat.zero_lt_succ, Bool.false_eq_true, Bool.not_true, Bool.not_false, Option.map_some, Option.map_none, Option.bind_some, Option.getD_some, Option.getD_none, and_self, and_true, true_and, List.length_cons, List.length_nil, List.any_nil, List.any_cons, Int.toNat_natCast, Int.cast_ofNat_Int, Int.natCast_zero, Int.natCast_nonneg, true_implies, or_true, true_or, false_or, or_false, beq_self_eq_true, Option.some.injEq, exists_eq_left', Int.reduceEq, Int.reduceLT, Int.reduceLE, Int.reduceGT, Int.reduceGE, Nat.reduceGT, Int.reduceNeg, Int.reduceToNat, Int.reduceAdd, Int.reduceMul, Int.reduceSub, Int.reducePow, decide_true, decide_false, decide_eq_true_eq, List.getElem?_cons_zero, List.getElem?_cons_succ, Nat.reduceBEq, Nat.reduceSub, exists_false, and_false, false_and, hk]
theorem c19 {tot : Bool} {ω : Nat → Nat} {n : Nat} (hn : 0 < n) (h : Hp) : call F n tot ω 19 [.nilp] h = some (.int .i64 0, h) := by
  obtain ⟨n, rfl⟩ : ∃ m, n = m + 1 := ⟨n - 1, by omega⟩
  refine call_eq (fn := a19) rfl ?_
  unfold a19
  simp only [xc, xo, xr, x0, x1, x2, x3, x4, x5, x6, xd, xe, xb, kont_call, kont_pure, isNil, slOk, sliceV, selems, srcElems, copyTo, dlen, eqAV, eqCells, eqS, upd, wr, place, partVals, partEs, placeEs, mapOf, keyOk, keyCells, findK, Bool.bne_false, Bool.bne_true, List.drop_zero, List.nil_append, List.append_nil, List.take_zero, List.cons_append, List.take_succ_cons, List.drop_succ_cons, List.take_nil, List.drop_nil, Reg.isA, Reg.isV, Reg.stays, Reg.onto, Bool.false_or, Bool.or_false, Bool.false_and, Bool.and_false, Bool.true_and, Bool.and_true, Bool.or_true, Bool.true_or, ↓reduceIte, reduceCtorEq, Nat.reduceEqDiff, Nat.reduceLT, Nat.reduceAdd, Nat.reduceMul, Nat.add_zero, Nat.zero_add, Nat.not_lt_zero, Nat.zero_ne_one, Nat.one_ne_zero, Nat.reduceLeDiff, Nat.lt_irrefl, Nat.zero_lt_succ, Bool.false_eq_true, Bool.not_true, Bool.not_false, Option.map_some, Option.map_none, Option.bind_some, Option.getD_some, Option.getD_none, and_self, and_true, true_and, List.length_cons, List.length_nil, List.any_nil, List.any_cons, Int.toNat_natCast, Int.cast_ofNat_Int, Int.natCast_zero, Int.natCast_nonneg, true_implies, or_true, true_or, false_or, or_false, beq_self_eq_true, Option.some.injEq, exists_eq_left', Int.reduceEq, Int.reduceLT, Int.reduceLE, Int.reduceGT, Int.reduceGE, Nat.reduceGT, Int.reduceNeg, Int.reduceToNat, Int.reduceAdd, Int.reduceMul, Int.reduceSub, Int.reducePow, decide_true, decide_false, decide_eq_true_eq, List.getElem?_cons_zero, List.getElem?_cons_succ, Nat.reduceBEq, Nat.reduceSub, exists_false, and_false, false_and]
theorem c18 {tot : Bool} {ω : Nat → Nat} {n : Nat} (hn : 0 < n) (s : List AV) (m : Int) (h : Hp) (hs : s.length = 8) : call F n tot ω 18 [.nilp, .agg s, .int .i64 m] h = some (.nils, h) := by
  obtain ⟨n, rfl⟩ : ∃ m, n = m + 1 := ⟨n - 1, by omega⟩
  refine call_eq (fn := a18) rfl ?_
  unfold a18
  simp only [xc, xo, xr, x0, x1, x2, x3, x4, x5, x6, xd, xe, xb, kont_call, kont_pure, isNil, slOk, sliceV, selems, srcElems, copyTo, dlen, eqAV, eqCells, eqS, upd, wr, place, partVals, partEs, placeEs, mapOf, keyOk, keyCells, findK, Bool.bne_false, Bool.bne_true, List.drop_zero, List.nil_append, List.append_nil, List.take_zero, List.cons_append, List.take_succ_cons, List.drop_succ_cons, List.take_nil, List.drop_nil, Reg.isA, Reg.isV, Reg.stays, Reg.onto, Bool.false_or, Bool.or_false, Bool.false_and, Bool.and_false, Bool.true_and, Bool.and_true, Bool.or_true, Bool.true_or, ↓reduceIte, reduceCtorEq, Nat.reduceEqDiff, Nat.reduceLT, Nat.reduceAdd, Nat.reduceMul, Nat.add_zero, Nat.zero_add, Nat.not_lt_zero, Nat.zero_ne_one, Nat.one_ne_zero, Nat.reduceLeDiff, Nat.lt_irrefl, Nat.zero_lt_succ, Bool.false_eq_true, Bool.not_true, Bool.not_false, Option.map_some, Option.map_none, Option.bind_some, Option.getD_some, Option.getD_none, and_self, and_true, true_and, List.length_cons, List.length_nil, List.any_nil, List.any_cons, Int.toNat_natCast, Int.cast_ofNat_Int, Int.natCast_zero, Int.natCast_nonneg, true_implies, or_true, true_or, false_or, or_false, beq_self_eq_true, Option.some.injEq, exists_eq_left', Int.reduceEq, Int.reduceLT, Int.reduceLE, Int.reduceGT, Int.reduceGE, Nat.reduceGT, Int.reduceNeg, Int.reduceToNat, Int.reduceAdd, Int.reduceMul, Int.reduceSub, Int.reducePow, decide_true, decide_false, decide_eq_true_eq, List.getElem?_cons_zero, List.getElem?_cons_succ, Nat.reduceBEq, Nat.reduceSub, exists_false, and_false, false_and, hs]

theorem k_call {tot : Bool} {ω : Nat → Nat} {n : Nat} : (kont F n tot ω).call = call F n tot ω := rfl

theorem law (k s : List AV) (m : Int) (ω : Nat → Nat) (hk : k.length = 32) (hs : s.length = 8) : ∃ h', call F 202 true ω 7 [.agg k, .agg s, .int .i64 m] [] = some (.bool true, h') := by
  obtain ⟨v, h', e, hv⟩ := call_of (F := F) (n := 201) (tot := true) (ω := ω) (f := 7) (fn := a7) rfl (h := []) (args := [.agg k, .agg s, .int .i64 m]) (P := fun v _ => v = .bool true) (by
    unfold a7
    have hk' : k.take 32 = k := List.take_of_length_le (by omega)
    have hs' : s.take 8 = s := List.take_of_length_le (by omega)
    have ha := awake3 (.row 32 [.agg k]) 1 ω
    simp only [Nat.reduceAdd] at ha
    simp (maxSteps := 2000000) (discharger := omega) only [xc, xo, xr, x0, x1, x2, x3, x4, x5, x6, xd, xe, xb, kont_call, kont_pure, isNil, slOk, sliceV, selems, srcElems, copyTo, dlen, eqAV, eqCells, eqS, upd, wr, place, partVals, partEs, placeEs, mapOf, keyOk, keyCells, findK, Bool.bne_false, Bool.bne_true, List.drop_zero, List.nil_append, List.append_nil, List.take_zero, List.cons_append, List.take_succ_cons, List.drop_succ_cons, List.take_nil, List.drop_nil, Reg.isA, Reg.isV, Reg.stays, Reg.onto, Bool.false_or, Bool.or_false, Bool.false_and, Bool.and_false, Bool.true_and, Bool.and_true, Bool.or_true, Bool.true_or, ↓reduceIte, reduceCtorEq, Nat.reduceEqDiff, Nat.reduceLT, Nat.reduceAdd, Nat.reduceMul, Nat.add_zero, Nat.zero_add, Nat.not_lt_zero, Nat.zero_ne_one, Nat.one_ne_zero, Nat.reduceLeDiff, Nat.lt_irrefl, Nat.zero_lt_succ, Bool.false_eq_true, Bool.not_true, Bool.not_false, Option.map_some, Option.map_none, Option.bind_some, Option.getD_some, Option.getD_none, and_self, and_true, true_and, List.length_cons, List.length_nil, List.any_nil, List.any_cons, Int.toNat_natCast, Int.cast_ofNat_Int, Int.natCast_zero, Int.natCast_nonneg, true_implies, or_true, true_or, false_or, or_false, beq_self_eq_true, Option.some.injEq, exists_eq_left', Int.reduceEq, Int.reduceLT, Int.reduceLE, Int.reduceGT, Int.reduceGE, Nat.reduceGT, Int.reduceNeg, Int.reduceToNat, Int.reduceAdd, Int.reduceMul, Int.reduceSub, Int.reducePow, decide_true, decide_false, decide_eq_true_eq, List.getElem?_cons_zero, List.getElem?_cons_succ, Nat.reduceBEq, Nat.reduceSub, exists_false, and_false, false_and, wrap_i64, hk, hs, hk', hs', k_call, c14, c16, c18, c19, ha])
  exact ⟨h', by rw [e, hv]⟩

theorem sketchNil_im (avs : List AV) (h : RdAll Try.prog 10 Try.f7.params.toList avs) : ∃ n, ∀ ω, ∃ h', call F n true ω 7 avs [] = some (.bool true, h') := by
  have hp : Try.f7.params.toList = [41, 25, 3] := by rw [Try.params7]
  rw [hp] at h
  obtain ⟨a, r, rfl, h1, h⟩ := rdAll_cons h
  obtain ⟨b, r, rfl, h2, h⟩ := rdAll_cons h
  obtain ⟨c, r, rfl, h3, h⟩ := rdAll_cons h
  cases rdAll_nil h
  obtain ⟨l, rfl, g1⟩ := rdT_array Try.underlying41 h1
  obtain ⟨l', rfl, g2⟩ := rdT_array Try.underlying25 h2
  obtain ⟨x, rfl, hx, _⟩ := rdN_ints Try.underlying5 g1
  obtain ⟨y, rfl, hy, _⟩ := rdN_ints Try.underlying24 g2
  obtain ⟨m, rfl, _⟩ := rdT_int Try.underlying3 h3
  exact ⟨202, fun ω => law _ _ m ω (by simp [intsOf, hx]) (by simp [intsOf, hy])⟩

theorem own : ownKnob Try.prog.godebug = none := by kernel_rfl

set_option maxRecDepth 100000 in
theorem sketchNil_lifted (os : Os) (started : os.Started) (H : Type) (enc : TypeId × Value → H) :
    ReturnsInHanded {} Try.checked os 7 .any (Rows.sketchNilSpec.pre6 enc Try.prog Try.f7 Rows.sketchNilRow.domain false) (Rows.sketchNilSpec.post enc Try.prog Try.f7 false true false false) := by
  refine returnsInHanded_of_change (C := Try.checked) own started (by kernel_rfl) Try.func7
    (ChangeSpec.witness6 (enc := enc) (C := Try.checked) false ⟨#[], #[.agg #[.int .u8 0, .int .u8 0, .int .u8 0, .int .u8 0, .int .u8 0, .int .u8 0, .int .u8 0, .int .u8 0, .int .u8 0, .int .u8 0, .int .u8 0, .int .u8 0, .int .u8 0, .int .u8 0, .int .u8 0, .int .u8 0, .int .u8 0, .int .u8 0, .int .u8 0, .int .u8 0, .int .u8 0, .int .u8 0, .int .u8 0, .int .u8 0, .int .u8 0, .int .u8 0, .int .u8 0, .int .u8 0, .int .u8 0, .int .u8 0, .int .u8 0, .int .u8 0], .agg #[.int .u32 0, .int .u32 0, .int .u32 0, .int .u32 0, .int .u32 0, .int .u32 0, .int .u32 0, .int .u32 0], .int .i64 0], []⟩ 6000 (by kernel_rfl) (by kernel_rfl) (by kernel_rfl) (by kernel_rfl)) ?_
  intro W base args ds gs before hval hW _ _
  exact law_contract (P := Try.prog) (m := 10) (tb := 4) tableOk (by kernel_rfl) (fun _ => rfl) rfl (fun ds h => by
    rw [Try.params7] at h
    match ds, h with
    | [d1, d2, d3], _ => rfl) (by kernel_rfl) (by kernel_rfl) (by kernel_rfl) (by kernel_rfl) Try.underlying4 sketchNil_im W base args ds gs before hval hW

theorem sketchNil_holds : Rows.SketchNilSaid :=
  OpenClaim.holds_of_wide 7 Try.f7 rfl rfl rfl rfl rfl rfl rfl ⟨rfl, rfl, rfl, rfl, rfl⟩ rfl rfl rfl rfl rfl (by kernel_rfl) Try.func7 (by kernel_rfl)
    (of_decide_eq_true (by kernel_rfl)) (by unfold Func.isWrapper; first | (rw [if_pos (by decide +kernel)]; kernel_rfl) | (rw [if_neg (by decide +kernel)]; exact ⟨rfl, rfl⟩))
    (fun os started H enc _ => sketchNil_lifted os started H enc)

#print axioms sketchNil_holds

end Go.Proofs.Ytdjlcddkfjbebaa

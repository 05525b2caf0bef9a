/- S18K: keys, sketches, the library's functions on lists of keys. -/
import Derived.Test.YtdjlcddkfjbebaaIs
import Derived.Test.YtdjlcddkfjbebaaImMapT
import Derived.Test.YtdjlcddkfjbebaaImRow
import Derived.Test.YtdjlcddkfjbebaaImSl
import Derived.Test.YtdjlcddkfjbebaaImApp
set_option linter.unusedVariables false
set_option linter.unusedSimpArgs false
open Go Go.Im
namespace Go.Proofs.Ytdjlcddkfjbebaa.Im

theorem eqCells_ints (k : IntKind) : ∀ (a b : List Int), a.length = b.length → eqCells (List.replicate a.length .i) (intsOf k a) (intsOf k b) = some (decide (a = b))
  | [], [], _ => rfl
  | [], _ :: _, h => by simp at h
  | _ :: _, [], h => by simp at h
  | x :: a, y :: b, h => by
    have ih := eqCells_ints k a b (by simpa using h)
    simp only [List.length_cons,List.replicate_succ,intsOf,List.map_cons,eqCells,eqS,if_true] at ih ⊢
    rw [ih]
    simp only [Option.some.injEq,List.cons.injEq]
    by_cases h1 : x = y <;> by_cases h2 : a = b <;> simp [h1,h2]
theorem keyCells_ints (k : IntKind) : ∀ (a : List Int), keyCells (List.replicate a.length .i) (intsOf k a) = true
  | [] => rfl
  | x :: a => by
    have ih := keyCells_ints k a
    simpa only [List.length_cons, List.replicate_succ, intsOf, List.map_cons, keyCells] using ih

def kL (b : Int) : List Int := b :: 1 :: List.replicate 30 0
def kCs (b : Int) : List AV := intsOf .u8 (kL b)
theorem kCs_len (b : Int) : (kCs b).length = 32 := by simp [kCs,kL,intsOf]
theorem kCs_take (b : Int) : (kCs b).take 32 = kCs b := List.take_of_length_le (by rw [kCs_len]; omega)
theorem kCs_drop (b : Int) : (kCs b).drop 32 = [] := List.drop_of_length_le (by rw [kCs_len]; omega)
abbrev I32 : List CK := [.i, .i, .i, .i, .i, .i, .i, .i, .i, .i, .i, .i, .i, .i, .i, .i, .i, .i, .i, .i, .i, .i, .i, .i, .i, .i, .i, .i, .i, .i, .i, .i]
theorem kCs_eq (a b : Int) : eqCells I32 (kCs a) (kCs b) = some (decide (a = b)) := by
  have := eqCells_ints .u8 (kL a) (kL b) (by simp [kL])
  have h2 : decide (kL a = kL b) = decide (a = b) := by simp [kL]
  rw [h2] at this
  exact this
theorem kCs_key (a : Int) : keyCells I32 (kCs a) = true := keyCells_ints .u8 (kL a)
theorem kEnc : KeyEnc true I32 (fun b => .agg (kCs b)) := ⟨fun a b => kCs_eq a b, fun a => kCs_key a⟩
def kAs (l : List Int) : List AV := l.map fun b => .agg (kCs b)
theorem kAs_len (l : List Int) : (kAs l).length = l.length := by simp [kAs]
theorem kAs_get {l : List Int} {i : Nat} (h : i < l.length) : (kAs l)[i]? = some (.agg (kCs l[i])) := by simp [kAs,h]

abbrev sA (x : Nat × Int) : AV := .agg [.int .i64 x.1, .int .u32 x.2]
theorem sEnc : KeyEnc true [.i, .i] sA := ⟨fun a b => by
  simp only [eqAV,sA,eqCells,eqS,if_true]
  congr 1
  rw [Bool.eq_iff_iff]
  simp [Prod.ext_iff]
  omega, fun a => rfl⟩

theorem c26 {tot : Bool} {ω : Nat → Nat} {n : Nat} (hn : 0 < n) (x k : Int) (p : Nat) (h : Hp) (hp : h[p]? = some (.row 32 [.agg (kCs k)])) : call F n tot ω 26 [.agg (kCs x), .ptr p 32 0 0] h = some (.bool (decide (x = k)), h) := by
  obtain ⟨n, rfl⟩ : ∃ m, n = m + 1 := ⟨n - 1, by omega⟩
  refine call_eq (fn := a26) f26 ?_
  unfold a26
  simp (maxSteps := 2000000) (discharger := omega) only [xc,xo,xr,x0,x1,x2,x3,x4,x5,x6,xd,xe,xb,kont_call,kont_pure,kont_round,isNil,slOk,sliceV,selems,srcElems,copyTo,dlen,eqAV,eqCells,eqS,wr,place,partVals,partEs,placeEs,mapOf,keyOk,keyCells,findK,Bool.bne_false,Bool.bne_true,List.drop_zero,List.nil_append,List.append_nil,List.take_zero,List.cons_append,List.take_succ_cons,List.drop_succ_cons,List.take_nil,List.drop_nil,Reg.isA,Reg.isV,Reg.stays,Reg.onto,Bool.false_or,Bool.or_false,Bool.false_and,Bool.and_false,Bool.true_and,Bool.and_true,Bool.or_true,Bool.true_or,↓reduceIte,reduceCtorEq,Nat.reduceEqDiff,Nat.reduceLT,Nat.reduceAdd,Nat.reduceMul,Nat.add_zero,Nat.zero_add,Nat.not_lt_zero,Nat.zero_ne_one,Nat.one_ne_zero,Nat.reduceLeDiff,Nat.lt_irrefl,Nat.zero_lt_succ,Bool.false_eq_true,Bool.not_true,Bool.not_false,Option.map_some,Option.map_none,Option.bind_some,Option.getD_some,Option.getD_none,and_self,and_true,true_and,List.length_cons,List.length_nil,List.any_nil,List.any_cons,Int.toNat_natCast,Int.cast_ofNat_Int,Int.natCast_zero,Int.natCast_nonneg,true_implies,or_true,true_or,false_or,or_false,beq_self_eq_true,Option.some.injEq,exists_eq_left',Int.reduceEq,Int.reduceLT,Int.reduceLE,Int.reduceGT,Int.reduceGE,Nat.reduceGT,Int.reduceNeg,Int.reduceToNat,Int.reduceAdd,Int.reduceMul,Int.reduceSub,Int.reducePow,decide_true,decide_false,decide_eq_true_eq,List.getElem?_cons_zero,List.getElem?_cons_succ,Nat.reduceBEq,Nat.reduceSub,exists_false,and_false,false_and,xu,List.set_cons_zero,List.set_cons_succ,wrap_i64,int_lt_t,int_lt_f,int_le_t,int_le_f,int_gt_t,int_gt_f,int_ge_t,int_ge_f,int_eq_t,int_eq_f,int_beq_t,int_beq_f,int_bne_t,int_bne_f,nat_le_t,nat_le_f,Nat.sub_zero,Nat.sub_self,not_false_eq_true,not_true_eq_false,kCs_len,kCs_take,kCs_drop,kCs_eq,hp]

theorem c29 {tot : Bool} {ω : Nat → Nat} {n : Nat} (hn : 0 < n) (x k : Int) (h : Hp) (hx : 0 ≤ x) (hx' : x ≤ 255) (hk : 0 ≤ k) (hk' : k ≤ 255) : call F n tot ω 29 [.agg (kCs x), .agg (kCs k)] h = some (.bool (decide (x < k)), h) := by
  obtain ⟨n, rfl⟩ : ∃ m, n = m + 1 := ⟨n - 1, by omega⟩
  refine call_eq (fn := a29) f29 ?_
  unfold a29
  have tb : ∀ y : Int, toBytes (kCs y) = some (UInt8.ofNat y.toNat :: 1 :: List.replicate 30 0) := fun y => rfl
  have hl : Op.bytesLess (UInt8.ofNat x.toNat :: 1 :: List.replicate 30 0) (UInt8.ofNat k.toNat :: 1 :: List.replicate 30 0) = decide (x < k) := by
    have hr : Op.bytesLess (1 :: List.replicate 30 0) (1 :: List.replicate 30 0) = false := by decide
    rw [Op.bytesLess, hr, Bool.and_false, Bool.or_false, decide_eq_decide]
    rw [UInt8.lt_iff_toNat_lt]
    simp
    omega
  simp (maxSteps := 2000000) (discharger := omega) only [xc,xo,xr,x0,x1,x2,x3,x4,x5,x6,xd,xe,xb,kont_call,kont_pure,kont_round,isNil,slOk,sliceV,selems,srcElems,copyTo,dlen,eqAV,eqCells,eqS,wr,place,partVals,partEs,placeEs,mapOf,keyOk,keyCells,findK,Bool.bne_false,Bool.bne_true,List.drop_zero,List.nil_append,List.append_nil,List.take_zero,List.cons_append,List.take_succ_cons,List.drop_succ_cons,List.take_nil,List.drop_nil,Reg.isA,Reg.isV,Reg.stays,Reg.onto,Bool.false_or,Bool.or_false,Bool.false_and,Bool.and_false,Bool.true_and,Bool.and_true,Bool.or_true,Bool.true_or,↓reduceIte,reduceCtorEq,Nat.reduceEqDiff,Nat.reduceLT,Nat.reduceAdd,Nat.reduceMul,Nat.add_zero,Nat.zero_add,Nat.not_lt_zero,Nat.zero_ne_one,Nat.one_ne_zero,Nat.reduceLeDiff,Nat.lt_irrefl,Nat.zero_lt_succ,Bool.false_eq_true,Bool.not_true,Bool.not_false,Option.map_some,Option.map_none,Option.bind_some,Option.getD_some,Option.getD_none,and_self,and_true,true_and,List.length_cons,List.length_nil,List.any_nil,List.any_cons,Int.toNat_natCast,Int.cast_ofNat_Int,Int.natCast_zero,Int.natCast_nonneg,true_implies,or_true,true_or,false_or,or_false,beq_self_eq_true,Option.some.injEq,exists_eq_left',Int.reduceEq,Int.reduceLT,Int.reduceLE,Int.reduceGT,Int.reduceGE,Nat.reduceGT,Int.reduceNeg,Int.reduceToNat,Int.reduceAdd,Int.reduceMul,Int.reduceSub,Int.reducePow,decide_true,decide_false,decide_eq_true_eq,List.getElem?_cons_zero,List.getElem?_cons_succ,Nat.reduceBEq,Nat.reduceSub,exists_false,and_false,false_and,xu,List.set_cons_zero,List.set_cons_succ,wrap_i64,int_lt_t,int_lt_f,int_le_t,int_le_f,int_gt_t,int_gt_f,int_ge_t,int_ge_f,int_eq_t,int_eq_f,int_beq_t,int_beq_f,int_bne_t,int_bne_f,nat_le_t,nat_le_f,Nat.sub_zero,Nat.sub_self,not_false_eq_true,not_true_eq_false,kCs_len,kCs_take,kCs_drop,tb,hl]

theorem c30 {tot : Bool} {ω : Nat → Nat} {n : Nat} (hn : 33 < n) (x k : Int) (h : Hp) : call F n tot ω 30 [.agg (kCs x), .agg (kCs k)] h = some (.bool (decide (x < k)), h) := by
  obtain ⟨n, rfl⟩ : ∃ m, n = m + 1 := ⟨n - 1, by omega⟩
  refine call_eq (fn := a30) f30 ?_
  unfold a30
  have g0 : ∀ y : Int, (kCs y)[0]? = some (.int .u8 y) := fun y => rfl
  have gs : ∀ (y : Int) (i : Nat), 0 < i → i < 32 → ∃ z, ∀ y : Int, (kCs y)[i]? = some (.int .u8 z) := fun y i h1 h2 => by
    refine ⟨(kL 0)[i]'(by simp [kL]; omega), fun y => ?_⟩
    obtain ⟨i, rfl⟩ : ∃ j, i = j + 1 := ⟨i - 1, by omega⟩
    have : i < (1 :: List.replicate 30 (0 : Int)).length := by simp; omega
    simp only [kCs,kL,intsOf,List.map_cons,List.getElem?_cons_succ]
    simp only [kL,List.getElem_cons_succ]
    rw [← List.map_cons (f := fun n : Int => AV.int .u8 n), List.getElem?_map, List.getElem?_eq_getElem this]
    rfl
  by_cases hxk : x = k
  · simp (maxSteps := 2000000) (discharger := omega) only [xc,xo,xr,x0,x1,x2,x3,x4,x5,x6,xd,xe,xb,kont_call,kont_pure,kont_round,isNil,slOk,sliceV,selems,srcElems,copyTo,dlen,eqAV,eqCells,eqS,wr,place,partVals,partEs,placeEs,mapOf,keyOk,keyCells,findK,Bool.bne_false,Bool.bne_true,List.drop_zero,List.nil_append,List.append_nil,List.take_zero,List.cons_append,List.take_succ_cons,List.drop_succ_cons,List.take_nil,List.drop_nil,Reg.isA,Reg.isV,Reg.stays,Reg.onto,Bool.false_or,Bool.or_false,Bool.false_and,Bool.and_false,Bool.true_and,Bool.and_true,Bool.or_true,Bool.true_or,↓reduceIte,reduceCtorEq,Nat.reduceEqDiff,Nat.reduceLT,Nat.reduceAdd,Nat.reduceMul,Nat.add_zero,Nat.zero_add,Nat.not_lt_zero,Nat.zero_ne_one,Nat.one_ne_zero,Nat.reduceLeDiff,Nat.lt_irrefl,Nat.zero_lt_succ,Bool.false_eq_true,Bool.not_true,Bool.not_false,Option.map_some,Option.map_none,Option.bind_some,Option.getD_some,Option.getD_none,and_self,and_true,true_and,List.length_cons,List.length_nil,List.any_nil,List.any_cons,Int.toNat_natCast,Int.cast_ofNat_Int,Int.natCast_zero,Int.natCast_nonneg,true_implies,or_true,true_or,false_or,or_false,beq_self_eq_true,Option.some.injEq,exists_eq_left',Int.reduceEq,Int.reduceLT,Int.reduceLE,Int.reduceGT,Int.reduceGE,Nat.reduceGT,Int.reduceNeg,Int.reduceToNat,Int.reduceAdd,Int.reduceMul,Int.reduceSub,Int.reducePow,decide_true,decide_false,decide_eq_true_eq,List.getElem?_cons_zero,List.getElem?_cons_succ,Nat.reduceBEq,Nat.reduceSub,exists_false,and_false,false_and,xu,List.set_cons_zero,List.set_cons_succ,wrap_i64,int_lt_t,int_lt_f,int_le_t,int_le_f,int_gt_t,int_gt_f,int_ge_t,int_ge_f,int_eq_t,int_eq_f,int_beq_t,int_beq_f,int_bne_t,int_bne_f,nat_le_t,nat_le_f,Nat.sub_zero,Nat.sub_self,not_false_eq_true,not_true_eq_false,kCs_len,kCs_take,kCs_drop]
    refine wpi_loop (fun m r h' => ∃ i : Nat, r = [(2, .var (.agg (kCs x))), (3, .var (.agg (kCs k))), (5, .val (.int .i64 i))] ∧ i ≤ 32 ∧ m = 32 - i ∧ h' = h) 32 (by omega) ⟨0, rfl, by omega, by omega, rfl⟩ ?_
    rintro m r h' ⟨i, rfl, hi, rfl, rfl⟩
    by_cases hlt : i < 32
    · obtain ⟨z, hz⟩ : ∃ z, (kCs x)[i]? = some (.int .u8 z) := by
        by_cases h0 : 0 < i
        · obtain ⟨z, hz⟩ := gs x i h0 hlt; exact ⟨z, hz x⟩
        · obtain rfl : i = 0 := by omega
          exact ⟨x, g0 x⟩
      subst hxk
      simp (maxSteps := 2000000) (discharger := omega) only [xc,xo,xr,x0,x1,x2,x3,x4,x5,x6,xd,xe,xb,kont_call,kont_pure,kont_round,isNil,slOk,sliceV,selems,srcElems,copyTo,dlen,eqAV,eqCells,eqS,wr,place,partVals,partEs,placeEs,mapOf,keyOk,keyCells,findK,Bool.bne_false,Bool.bne_true,List.drop_zero,List.nil_append,List.append_nil,List.take_zero,List.cons_append,List.take_succ_cons,List.drop_succ_cons,List.take_nil,List.drop_nil,Reg.isA,Reg.isV,Reg.stays,Reg.onto,Bool.false_or,Bool.or_false,Bool.false_and,Bool.and_false,Bool.true_and,Bool.and_true,Bool.or_true,Bool.true_or,↓reduceIte,reduceCtorEq,Nat.reduceEqDiff,Nat.reduceLT,Nat.reduceAdd,Nat.reduceMul,Nat.add_zero,Nat.zero_add,Nat.not_lt_zero,Nat.zero_ne_one,Nat.one_ne_zero,Nat.reduceLeDiff,Nat.lt_irrefl,Nat.zero_lt_succ,Bool.false_eq_true,Bool.not_true,Bool.not_false,Option.map_some,Option.map_none,Option.bind_some,Option.getD_some,Option.getD_none,and_self,and_true,true_and,List.length_cons,List.length_nil,List.any_nil,List.any_cons,Int.toNat_natCast,Int.cast_ofNat_Int,Int.natCast_zero,Int.natCast_nonneg,true_implies,or_true,true_or,false_or,or_false,beq_self_eq_true,Option.some.injEq,exists_eq_left',Int.reduceEq,Int.reduceLT,Int.reduceLE,Int.reduceGT,Int.reduceGE,Nat.reduceGT,Int.reduceNeg,Int.reduceToNat,Int.reduceAdd,Int.reduceMul,Int.reduceSub,Int.reducePow,decide_true,decide_false,decide_eq_true_eq,List.getElem?_cons_zero,List.getElem?_cons_succ,Nat.reduceBEq,Nat.reduceSub,exists_false,and_false,false_and,xu,List.set_cons_zero,List.set_cons_succ,wrap_i64,int_lt_t,int_lt_f,int_le_t,int_le_f,int_gt_t,int_gt_f,int_ge_t,int_ge_f,int_eq_t,int_eq_f,int_beq_t,int_beq_f,int_bne_t,int_bne_f,nat_le_t,nat_le_f,Nat.sub_zero,Nat.sub_self,not_false_eq_true,not_true_eq_false,kCs_len,kCs_take,kCs_drop,hz,Nat.mul_one]
      exact ⟨32 - (i + 1), by omega, i + 1, rfl, by omega, rfl⟩
    · obtain rfl : i = 32 := by omega
      have hlt2 : ¬ (x < k) := by omega
      simp (maxSteps := 2000000) (discharger := omega) only [xc,xo,xr,x0,x1,x2,x3,x4,x5,x6,xd,xe,xb,kont_call,kont_pure,kont_round,isNil,slOk,sliceV,selems,srcElems,copyTo,dlen,eqAV,eqCells,eqS,wr,place,partVals,partEs,placeEs,mapOf,keyOk,keyCells,findK,Bool.bne_false,Bool.bne_true,List.drop_zero,List.nil_append,List.append_nil,List.take_zero,List.cons_append,List.take_succ_cons,List.drop_succ_cons,List.take_nil,List.drop_nil,Reg.isA,Reg.isV,Reg.stays,Reg.onto,Bool.false_or,Bool.or_false,Bool.false_and,Bool.and_false,Bool.true_and,Bool.and_true,Bool.or_true,Bool.true_or,↓reduceIte,reduceCtorEq,Nat.reduceEqDiff,Nat.reduceLT,Nat.reduceAdd,Nat.reduceMul,Nat.add_zero,Nat.zero_add,Nat.not_lt_zero,Nat.zero_ne_one,Nat.one_ne_zero,Nat.reduceLeDiff,Nat.lt_irrefl,Nat.zero_lt_succ,Bool.false_eq_true,Bool.not_true,Bool.not_false,Option.map_some,Option.map_none,Option.bind_some,Option.getD_some,Option.getD_none,and_self,and_true,true_and,List.length_cons,List.length_nil,List.any_nil,List.any_cons,Int.toNat_natCast,Int.cast_ofNat_Int,Int.natCast_zero,Int.natCast_nonneg,true_implies,or_true,true_or,false_or,or_false,beq_self_eq_true,Option.some.injEq,exists_eq_left',Int.reduceEq,Int.reduceLT,Int.reduceLE,Int.reduceGT,Int.reduceGE,Nat.reduceGT,Int.reduceNeg,Int.reduceToNat,Int.reduceAdd,Int.reduceMul,Int.reduceSub,Int.reducePow,decide_true,decide_false,decide_eq_true_eq,List.getElem?_cons_zero,List.getElem?_cons_succ,Nat.reduceBEq,Nat.reduceSub,exists_false,and_false,false_and,xu,List.set_cons_zero,List.set_cons_succ,wrap_i64,int_lt_t,int_lt_f,int_le_t,int_le_f,int_gt_t,int_gt_f,int_ge_t,int_ge_f,int_eq_t,int_eq_f,int_beq_t,int_beq_f,int_bne_t,int_bne_f,nat_le_t,nat_le_f,Nat.sub_zero,Nat.sub_self,not_false_eq_true,not_true_eq_false,kCs_len,hlt2]
  · simp (maxSteps := 2000000) (discharger := omega) only [xc,xo,xr,x0,x1,x2,x3,x4,x5,x6,xd,xe,xb,kont_call,kont_pure,kont_round,isNil,slOk,sliceV,selems,srcElems,copyTo,dlen,eqAV,eqCells,eqS,wr,place,partVals,partEs,placeEs,mapOf,keyOk,keyCells,findK,Bool.bne_false,Bool.bne_true,List.drop_zero,List.nil_append,List.append_nil,List.take_zero,List.cons_append,List.take_succ_cons,List.drop_succ_cons,List.take_nil,List.drop_nil,Reg.isA,Reg.isV,Reg.stays,Reg.onto,Bool.false_or,Bool.or_false,Bool.false_and,Bool.and_false,Bool.true_and,Bool.and_true,Bool.or_true,Bool.true_or,↓reduceIte,reduceCtorEq,Nat.reduceEqDiff,Nat.reduceLT,Nat.reduceAdd,Nat.reduceMul,Nat.add_zero,Nat.zero_add,Nat.not_lt_zero,Nat.zero_ne_one,Nat.one_ne_zero,Nat.reduceLeDiff,Nat.lt_irrefl,Nat.zero_lt_succ,Bool.false_eq_true,Bool.not_true,Bool.not_false,Option.map_some,Option.map_none,Option.bind_some,Option.getD_some,Option.getD_none,and_self,and_true,true_and,List.length_cons,List.length_nil,List.any_nil,List.any_cons,Int.toNat_natCast,Int.cast_ofNat_Int,Int.natCast_zero,Int.natCast_nonneg,true_implies,or_true,true_or,false_or,or_false,beq_self_eq_true,Option.some.injEq,exists_eq_left',Int.reduceEq,Int.reduceLT,Int.reduceLE,Int.reduceGT,Int.reduceGE,Nat.reduceGT,Int.reduceNeg,Int.reduceToNat,Int.reduceAdd,Int.reduceMul,Int.reduceSub,Int.reducePow,decide_true,decide_false,decide_eq_true_eq,List.getElem?_cons_zero,List.getElem?_cons_succ,Nat.reduceBEq,Nat.reduceSub,exists_false,and_false,false_and,xu,List.set_cons_zero,List.set_cons_succ,wrap_i64,int_lt_t,int_lt_f,int_le_t,int_le_f,int_gt_t,int_gt_f,int_ge_t,int_ge_f,int_eq_t,int_eq_f,int_beq_t,int_beq_f,int_bne_t,int_bne_f,nat_le_t,nat_le_f,Nat.sub_zero,Nat.sub_self,not_false_eq_true,not_true_eq_false,kCs_len,kCs_take,kCs_drop]
    refine wpi_loop (fun m r h' => r = [(2, .var (.agg (kCs x))), (3, .var (.agg (kCs k))), (5, .val (.int .i64 0))] ∧ h' = h) 0 (by omega) ⟨rfl, rfl⟩ ?_
    rintro m r h' ⟨rfl, rfl⟩
    have h1 : (x != k) = true := by simpa using hxk
    simp (maxSteps := 2000000) (discharger := omega) only [xc,xo,xr,x0,x1,x2,x3,x4,x5,x6,xd,xe,xb,kont_call,kont_pure,kont_round,isNil,slOk,sliceV,selems,srcElems,copyTo,dlen,eqAV,eqCells,eqS,wr,place,partVals,partEs,placeEs,mapOf,keyOk,keyCells,findK,Bool.bne_false,Bool.bne_true,List.drop_zero,List.nil_append,List.append_nil,List.take_zero,List.cons_append,List.take_succ_cons,List.drop_succ_cons,List.take_nil,List.drop_nil,Reg.isA,Reg.isV,Reg.stays,Reg.onto,Bool.false_or,Bool.or_false,Bool.false_and,Bool.and_false,Bool.true_and,Bool.and_true,Bool.or_true,Bool.true_or,↓reduceIte,reduceCtorEq,Nat.reduceEqDiff,Nat.reduceLT,Nat.reduceAdd,Nat.reduceMul,Nat.add_zero,Nat.zero_add,Nat.not_lt_zero,Nat.zero_ne_one,Nat.one_ne_zero,Nat.reduceLeDiff,Nat.lt_irrefl,Nat.zero_lt_succ,Bool.false_eq_true,Bool.not_true,Bool.not_false,Option.map_some,Option.map_none,Option.bind_some,Option.getD_some,Option.getD_none,and_self,and_true,true_and,List.length_cons,List.length_nil,List.any_nil,List.any_cons,Int.toNat_natCast,Int.cast_ofNat_Int,Int.natCast_zero,Int.natCast_nonneg,true_implies,or_true,true_or,false_or,or_false,beq_self_eq_true,Option.some.injEq,exists_eq_left',Int.reduceEq,Int.reduceLT,Int.reduceLE,Int.reduceGT,Int.reduceGE,Nat.reduceGT,Int.reduceNeg,Int.reduceToNat,Int.reduceAdd,Int.reduceMul,Int.reduceSub,Int.reducePow,decide_true,decide_false,decide_eq_true_eq,List.getElem?_cons_zero,List.getElem?_cons_succ,Nat.reduceBEq,Nat.reduceSub,exists_false,and_false,false_and,xu,List.set_cons_zero,List.set_cons_succ,wrap_i64,int_lt_t,int_lt_f,int_le_t,int_le_f,int_gt_t,int_gt_f,int_ge_t,int_ge_f,int_eq_t,int_eq_f,int_beq_t,int_beq_f,int_bne_t,int_bne_f,nat_le_t,nat_le_f,Nat.sub_zero,Nat.sub_self,not_false_eq_true,not_true_eq_false,kCs_len,kCs_take,kCs_drop,g0,Nat.mul_one,Nat.mul_zero,Nat.zero_mul,h1]

def kIdx (k : Int) : List Int → Int
  | [] => -1
  | x :: l => if x = k then 0 else if kIdx k l = -1 then -1 else kIdx k l + 1
theorem kIdx_none {k : Int} : ∀ {l : List Int}, k ∉ l → kIdx k l = -1
  | [], _ => rfl
  | x :: l, h => by
    simp only [List.mem_cons,not_or] at h
    simp only [kIdx,if_neg (fun e : x = k => h.1 e.symm),kIdx_none h.2,if_true]
theorem kIdx_app {k : Int} : ∀ {a b : List Int}, k ∉ a → kIdx k (a ++ k :: b) = a.length
  | [], b, _ => by simp [kIdx]
  | x :: a, b, h => by
    simp only [List.mem_cons,not_or] at h
    have ih := kIdx_app (b := b) h.2
    simp only [List.cons_append,kIdx,if_neg (fun e : x = k => h.1 e.symm),ih,List.length_cons]
    rw [if_neg (by omega)]
    omega

theorem c31 {tot : Bool} {ω : Nat → Nat} {n : Nat} (l : List Int) (post : List AV) (k : Int) (id p : Nat) (h : Hp) (hid : h[id]? = some (.row 32 (kAs l ++ post))) (hp : h[p]? = some (.row 32 [.agg (kCs k)])) (hl : l.length ≤ 1000000) (hn : l.length + 2 < n) :
    call F n tot ω 31 [.row id 32 0 l.length false, .fn (.func 26) [] [.ptr p 32 0 0]] h = some (.int .i64 (kIdx k l), h) := by
  obtain ⟨n, rfl⟩ : ∃ m, n = m + 1 := ⟨n - 1, by omega⟩
  refine call_eq (fn := a31) f31 ?_
  unfold a31
  simp (maxSteps := 2000000) (discharger := omega) only [xc,xo,xr,x0,x1,x2,x3,x4,x5,x6,xd,xe,xb,kont_call,kont_pure,kont_round,isNil,slOk,sliceV,selems,srcElems,copyTo,dlen,eqAV,eqCells,eqS,wr,place,partVals,partEs,placeEs,mapOf,keyOk,keyCells,findK,Bool.bne_false,Bool.bne_true,List.drop_zero,List.nil_append,List.append_nil,List.take_zero,List.cons_append,List.take_succ_cons,List.drop_succ_cons,List.take_nil,List.drop_nil,Reg.isA,Reg.isV,Reg.stays,Reg.onto,Bool.false_or,Bool.or_false,Bool.false_and,Bool.and_false,Bool.true_and,Bool.and_true,Bool.or_true,Bool.true_or,↓reduceIte,reduceCtorEq,Nat.reduceEqDiff,Nat.reduceLT,Nat.reduceAdd,Nat.reduceMul,Nat.add_zero,Nat.zero_add,Nat.not_lt_zero,Nat.zero_ne_one,Nat.one_ne_zero,Nat.reduceLeDiff,Nat.lt_irrefl,Nat.zero_lt_succ,Bool.false_eq_true,Bool.not_true,Bool.not_false,Option.map_some,Option.map_none,Option.bind_some,Option.getD_some,Option.getD_none,and_self,and_true,true_and,List.length_cons,List.length_nil,List.any_nil,List.any_cons,Int.toNat_natCast,Int.cast_ofNat_Int,Int.natCast_zero,Int.natCast_nonneg,true_implies,or_true,true_or,false_or,or_false,beq_self_eq_true,Option.some.injEq,exists_eq_left',Int.reduceEq,Int.reduceLT,Int.reduceLE,Int.reduceGT,Int.reduceGE,Nat.reduceGT,Int.reduceNeg,Int.reduceToNat,Int.reduceAdd,Int.reduceMul,Int.reduceSub,Int.reducePow,decide_true,decide_false,decide_eq_true_eq,List.getElem?_cons_zero,List.getElem?_cons_succ,Nat.reduceBEq,Nat.reduceSub,exists_false,and_false,false_and,xu,List.set_cons_zero,List.set_cons_succ,wrap_i64,int_lt_t,int_lt_f,int_le_t,int_le_f,int_gt_t,int_gt_f,int_ge_t,int_ge_f,int_eq_t,int_eq_f,int_beq_t,int_beq_f,int_bne_t,int_bne_f,nat_le_t,nat_le_f,Nat.sub_zero,Nat.sub_self,not_false_eq_true,not_true_eq_false]
  refine wpi_loop (fun m r h' => ∃ i : Nat, r = [(0, .val (.row id 32 0 l.length false)), (1, .val (.fn (.func 26) [] [.ptr p 32 0 0])), (7, .val (.int .i64 l.length)), (8, .val (.int .i64 i))] ∧ i ≤ l.length ∧ m = l.length - i ∧ h' = h ∧ k ∉ l.take i) l.length (by omega) ⟨0, rfl, by omega, by omega, rfl, by simp⟩ ?_
  rintro m r h' ⟨i, rfl, hi, rfl, rfl, hk⟩
  by_cases hlt : i < l.length
  · have e1 : (kAs l ++ post)[i]? = some (.agg (kCs l[i])) := by rw [List.getElem?_append_left (by rw [kAs_len]; exact hlt), kAs_get hlt]
    have e2 := c26 (tot := tot) (ω := ω) (n := n) (by omega) l[i] k p h' hp
    by_cases he : l[i] = k
    · have hs : l = l.take i ++ k :: l.drop (i + 1) := by
        conv => lhs; rw [← List.take_append_drop i l, List.drop_eq_getElem_cons hlt, he]
      have e3 : kIdx k l = i := by
        rw [hs, kIdx_app hk, List.length_take]
        omega
      have hd : decide (k = k) = true := by simp
      rw [he] at e1 e2
      simp (maxSteps := 2000000) (discharger := omega) only [xc,xo,xr,x0,x1,x2,x3,x4,x5,x6,xd,xe,xb,kont_call,kont_pure,kont_round,isNil,slOk,sliceV,selems,srcElems,copyTo,dlen,eqAV,eqCells,eqS,wr,place,partVals,partEs,placeEs,mapOf,keyOk,keyCells,findK,Bool.bne_false,Bool.bne_true,List.drop_zero,List.nil_append,List.append_nil,List.take_zero,List.cons_append,List.take_succ_cons,List.drop_succ_cons,List.take_nil,List.drop_nil,Reg.isA,Reg.isV,Reg.stays,Reg.onto,Bool.false_or,Bool.or_false,Bool.false_and,Bool.and_false,Bool.true_and,Bool.and_true,Bool.or_true,Bool.true_or,↓reduceIte,reduceCtorEq,Nat.reduceEqDiff,Nat.reduceLT,Nat.reduceAdd,Nat.reduceMul,Nat.add_zero,Nat.zero_add,Nat.not_lt_zero,Nat.zero_ne_one,Nat.one_ne_zero,Nat.reduceLeDiff,Nat.lt_irrefl,Nat.zero_lt_succ,Bool.false_eq_true,Bool.not_true,Bool.not_false,Option.map_some,Option.map_none,Option.bind_some,Option.getD_some,Option.getD_none,and_self,and_true,true_and,List.length_cons,List.length_nil,List.any_nil,List.any_cons,Int.toNat_natCast,Int.cast_ofNat_Int,Int.natCast_zero,Int.natCast_nonneg,true_implies,or_true,true_or,false_or,or_false,beq_self_eq_true,Option.some.injEq,exists_eq_left',Int.reduceEq,Int.reduceLT,Int.reduceLE,Int.reduceGT,Int.reduceGE,Nat.reduceGT,Int.reduceNeg,Int.reduceToNat,Int.reduceAdd,Int.reduceMul,Int.reduceSub,Int.reducePow,decide_true,decide_false,decide_eq_true_eq,List.getElem?_cons_zero,List.getElem?_cons_succ,Nat.reduceBEq,Nat.reduceSub,exists_false,and_false,false_and,xu,List.set_cons_zero,List.set_cons_succ,wrap_i64,int_lt_t,int_lt_f,int_le_t,int_le_f,int_gt_t,int_gt_f,int_ge_t,int_ge_f,int_eq_t,int_eq_f,int_beq_t,int_beq_f,int_bne_t,int_bne_f,nat_le_t,nat_le_f,Nat.sub_zero,Nat.sub_self,not_false_eq_true,not_true_eq_false,hid,e1,e2,hd,kCs_len,kCs_take,kCs_drop,e3]
    · have hd : decide (l[i] = k) = false := by simpa using he
      simp (maxSteps := 2000000) (discharger := omega) only [xc,xo,xr,x0,x1,x2,x3,x4,x5,x6,xd,xe,xb,kont_call,kont_pure,kont_round,isNil,slOk,sliceV,selems,srcElems,copyTo,dlen,eqAV,eqCells,eqS,wr,place,partVals,partEs,placeEs,mapOf,keyOk,keyCells,findK,Bool.bne_false,Bool.bne_true,List.drop_zero,List.nil_append,List.append_nil,List.take_zero,List.cons_append,List.take_succ_cons,List.drop_succ_cons,List.take_nil,List.drop_nil,Reg.isA,Reg.isV,Reg.stays,Reg.onto,Bool.false_or,Bool.or_false,Bool.false_and,Bool.and_false,Bool.true_and,Bool.and_true,Bool.or_true,Bool.true_or,↓reduceIte,reduceCtorEq,Nat.reduceEqDiff,Nat.reduceLT,Nat.reduceAdd,Nat.reduceMul,Nat.add_zero,Nat.zero_add,Nat.not_lt_zero,Nat.zero_ne_one,Nat.one_ne_zero,Nat.reduceLeDiff,Nat.lt_irrefl,Nat.zero_lt_succ,Bool.false_eq_true,Bool.not_true,Bool.not_false,Option.map_some,Option.map_none,Option.bind_some,Option.getD_some,Option.getD_none,and_self,and_true,true_and,List.length_cons,List.length_nil,List.any_nil,List.any_cons,Int.toNat_natCast,Int.cast_ofNat_Int,Int.natCast_zero,Int.natCast_nonneg,true_implies,or_true,true_or,false_or,or_false,beq_self_eq_true,Option.some.injEq,exists_eq_left',Int.reduceEq,Int.reduceLT,Int.reduceLE,Int.reduceGT,Int.reduceGE,Nat.reduceGT,Int.reduceNeg,Int.reduceToNat,Int.reduceAdd,Int.reduceMul,Int.reduceSub,Int.reducePow,decide_true,decide_false,decide_eq_true_eq,List.getElem?_cons_zero,List.getElem?_cons_succ,Nat.reduceBEq,Nat.reduceSub,exists_false,and_false,false_and,xu,List.set_cons_zero,List.set_cons_succ,wrap_i64,int_lt_t,int_lt_f,int_le_t,int_le_f,int_gt_t,int_gt_f,int_ge_t,int_ge_f,int_eq_t,int_eq_f,int_beq_t,int_beq_f,int_bne_t,int_bne_f,nat_le_t,nat_le_f,Nat.sub_zero,Nat.sub_self,not_false_eq_true,not_true_eq_false,hid,e1,e2,hd,kCs_len,kCs_take,kCs_drop,he]
      refine ⟨l.length - (i + 1), by omega, i + 1, rfl, by omega, rfl, ?_⟩
      rw [List.take_succ_eq_append_getElem hlt]
      intro hm
      rcases List.mem_append.1 hm with hm | hm
      · exact hk hm
      · exact he (List.mem_singleton.1 hm).symm
  · obtain rfl : i = l.length := by omega
    rw [List.take_length] at hk
    have hki := kIdx_none hk
    simp (maxSteps := 2000000) (discharger := omega) only [xc,xo,xr,x0,x1,x2,x3,x4,x5,x6,xd,xe,xb,kont_call,kont_pure,kont_round,isNil,slOk,sliceV,selems,srcElems,copyTo,dlen,eqAV,eqCells,eqS,wr,place,partVals,partEs,placeEs,mapOf,keyOk,keyCells,findK,Bool.bne_false,Bool.bne_true,List.drop_zero,List.nil_append,List.append_nil,List.take_zero,List.cons_append,List.take_succ_cons,List.drop_succ_cons,List.take_nil,List.drop_nil,Reg.isA,Reg.isV,Reg.stays,Reg.onto,Bool.false_or,Bool.or_false,Bool.false_and,Bool.and_false,Bool.true_and,Bool.and_true,Bool.or_true,Bool.true_or,↓reduceIte,reduceCtorEq,Nat.reduceEqDiff,Nat.reduceLT,Nat.reduceAdd,Nat.reduceMul,Nat.add_zero,Nat.zero_add,Nat.not_lt_zero,Nat.zero_ne_one,Nat.one_ne_zero,Nat.reduceLeDiff,Nat.lt_irrefl,Nat.zero_lt_succ,Bool.false_eq_true,Bool.not_true,Bool.not_false,Option.map_some,Option.map_none,Option.bind_some,Option.getD_some,Option.getD_none,and_self,and_true,true_and,List.length_cons,List.length_nil,List.any_nil,List.any_cons,Int.toNat_natCast,Int.cast_ofNat_Int,Int.natCast_zero,Int.natCast_nonneg,true_implies,or_true,true_or,false_or,or_false,beq_self_eq_true,Option.some.injEq,exists_eq_left',Int.reduceEq,Int.reduceLT,Int.reduceLE,Int.reduceGT,Int.reduceGE,Nat.reduceGT,Int.reduceNeg,Int.reduceToNat,Int.reduceAdd,Int.reduceMul,Int.reduceSub,Int.reducePow,decide_true,decide_false,decide_eq_true_eq,List.getElem?_cons_zero,List.getElem?_cons_succ,Nat.reduceBEq,Nat.reduceSub,exists_false,and_false,false_and,xu,List.set_cons_zero,List.set_cons_succ,wrap_i64,int_lt_t,int_lt_f,int_le_t,int_le_f,int_gt_t,int_gt_f,int_ge_t,int_ge_f,int_eq_t,int_eq_f,int_beq_t,int_beq_f,int_bne_t,int_bne_f,nat_le_t,nat_le_f,Nat.sub_zero,Nat.sub_self,not_false_eq_true,not_true_eq_false,hki]

def Z32 : AV := .agg [.int .u8 0, .int .u8 0, .int .u8 0, .int .u8 0, .int .u8 0, .int .u8 0, .int .u8 0, .int .u8 0, .int .u8 0, .int .u8 0, .int .u8 0, .int .u8 0, .int .u8 0, .int .u8 0, .int .u8 0, .int .u8 0, .int .u8 0, .int .u8 0, .int .u8 0, .int .u8 0, .int .u8 0, .int .u8 0, .int .u8 0, .int .u8 0, .int .u8 0, .int .u8 0, .int .u8 0, .int .u8 0, .int .u8 0, .int .u8 0, .int .u8 0, .int .u8 0]
def kf (k : Int) (l : List Int) : List Int := l.filter fun x => decide (x ≠ k)
theorem kf_self {k : Int} {l : List Int} (h : k ∉ l) : kf k l = l := List.filter_eq_self.2 fun x hx => by simp; rintro rfl; exact h hx
theorem kf_len (k : Int) (l : List Int) : (kf k l).length ≤ l.length := List.length_filter_le _ _
theorem kf_take (k : Int) {l : List Int} {i : Nat} (h : i < l.length) : kf k (l.take (i + 1)) = if l[i] = k then kf k (l.take i) else kf k (l.take i) ++ [l[i]] := by
  rw [List.take_succ_eq_append_getElem h]
  unfold kf
  rw [List.filter_append]
  split
  · rename_i e; simp [e]
  · rename_i e; simp [e]

theorem first_split {k : Int} : ∀ {l : List Int}, k ∈ l → ∃ A B, l = A ++ k :: B ∧ k ∉ A
  | [], h => by simp at h
  | x :: l, h => by
    by_cases e : x = k
    · subst e; exact ⟨[], l, rfl, by simp⟩
    · obtain ⟨A, B, rfl, hA⟩ := first_split (k := k) (l := l) (by rcases List.mem_cons.1 h with h | h; exact absurd h.symm e; exact h)
      exact ⟨x :: A, B, rfl, fun hm => (List.mem_cons.1 hm).elim (fun e' => e e'.symm) hA⟩
theorem kAs_take (l : List Int) (i : Nat) : (kAs l).take i = kAs (l.take i) := by simp [kAs]
theorem kAs_drop (l : List Int) (i : Nat) : (kAs l).drop i = kAs (l.drop i) := by simp [kAs]

theorem take_set_snoc {α : Type} {R : List α} {i : Nat} {x : α} (h : i < R.length) : (R.set i x).take (i + 1) = R.take i ++ [x] := by
  rw [List.set_eq_take_append_cons_drop, if_pos h, List.take_append]
  simp [Nat.min_eq_left (Nat.le_of_lt h)]
  rw [List.take_of_length_le (by rw [List.length_take]; omega)]

theorem c25 {tot : Bool} {ω : Nat → Nat} {n : Nat} (l : List Int) (post : List AV) (k : Int) (id p : Nat) (h : Hp) (hid : h[id]? = some (.row 32 (kAs l ++ post))) (hp : h[p]? = some (.row 32 [.agg (kCs k)])) (hpi : p ≠ id) (hl : l.length ≤ 1000000) (hn : l.length + 4 < n) :
    ∃ post', call F n tot ω 25 [.row id 32 0 l.length false, .fn (.func 26) [] [.ptr p 32 0 0]] h = some (.row id 32 0 (kf k l).length false, h.set id (.row 32 (kAs (kf k l) ++ post'))) := by
  obtain ⟨n, rfl⟩ : ∃ m, n = m + 1 := ⟨n - 1, by omega⟩
  have e31 := c31 (tot := tot) (ω := ω) (n := n) l post k id p h hid hp hl (by omega)
  by_cases hk : k ∈ l
  · obtain ⟨A, B, hl0, hA⟩ := first_split hk
    have ek : kIdx k l = A.length := by rw [hl0, kIdx_app hA]
    have hAl : A.length < l.length := by rw [hl0]; simp
    have hlt := (List.getElem?_eq_some_iff.1 hid).1
    have hset : ∀ o : AO, (h.set id o)[id]? = some o := fun o => by simp [hlt]
    have hsp : ∀ o : AO, (h.set id o)[p]? = some (.row 32 [.agg (kCs k)]) := fun o => by rw [List.getElem?_set, if_neg (Ne.symm hpi)]; exact hp
    suffices hx : ∃ v h', call F (n + 1) tot ω 25 [.row id 32 0 l.length false, .fn (.func 26) [] [.ptr p 32 0 0]] h = some (v, h') ∧ ∃ post', v = .row id 32 0 (kf k l).length false ∧ h' = h.set id (.row 32 (kAs (kf k l) ++ post')) by
      obtain ⟨v, h', e1, post', rfl, rfl⟩ := hx
      exact ⟨post', e1⟩
    refine call_of (fn := a25) f25 (P := fun v h' => ∃ post', v = .row id 32 0 (kf k l).length false ∧ h' = h.set id (.row 32 (kAs (kf k l) ++ post'))) ?_
    unfold a25
    have e0 : ¬ ((A.length : Nat) : Int) = -1 := by omega
    simp (maxSteps := 2000000) (discharger := omega) only [xc,xo,xr,x0,x1,x2,x3,x4,x5,x6,xd,xe,xb,kont_call,kont_pure,kont_round,isNil,slOk,sliceV,selems,srcElems,copyTo,dlen,eqAV,eqCells,eqS,wr,place,partVals,partEs,placeEs,mapOf,keyOk,keyCells,findK,Bool.bne_false,Bool.bne_true,List.drop_zero,List.nil_append,List.append_nil,List.take_zero,List.cons_append,List.take_succ_cons,List.drop_succ_cons,List.take_nil,List.drop_nil,Reg.isA,Reg.isV,Reg.stays,Reg.onto,Bool.false_or,Bool.or_false,Bool.false_and,Bool.and_false,Bool.true_and,Bool.and_true,Bool.or_true,Bool.true_or,↓reduceIte,reduceCtorEq,Nat.reduceEqDiff,Nat.reduceLT,Nat.reduceAdd,Nat.reduceMul,Nat.add_zero,Nat.zero_add,Nat.not_lt_zero,Nat.zero_ne_one,Nat.one_ne_zero,Nat.reduceLeDiff,Nat.lt_irrefl,Nat.zero_lt_succ,Bool.false_eq_true,Bool.not_true,Bool.not_false,Option.map_some,Option.map_none,Option.bind_some,Option.getD_some,Option.getD_none,and_self,and_true,true_and,List.length_cons,List.length_nil,List.any_nil,List.any_cons,Int.toNat_natCast,Int.cast_ofNat_Int,Int.natCast_zero,Int.natCast_nonneg,true_implies,or_true,true_or,false_or,or_false,beq_self_eq_true,Option.some.injEq,exists_eq_left',Int.reduceEq,Int.reduceLT,Int.reduceLE,Int.reduceGT,Int.reduceGE,Nat.reduceGT,Int.reduceNeg,Int.reduceToNat,Int.reduceAdd,Int.reduceMul,Int.reduceSub,Int.reducePow,decide_true,decide_false,decide_eq_true_eq,List.getElem?_cons_zero,List.getElem?_cons_succ,Nat.reduceBEq,Nat.reduceSub,exists_false,and_false,false_and,xu,List.set_cons_zero,List.set_cons_succ,wrap_i64,int_lt_t,int_lt_f,int_le_t,int_le_f,int_gt_t,int_gt_f,int_ge_t,int_ge_f,int_eq_t,int_eq_f,int_beq_t,int_beq_f,int_bne_t,int_bne_f,nat_le_t,nat_le_f,Nat.sub_zero,Nat.sub_self,not_false_eq_true,not_true_eq_false,e31,ek,e0]
    refine wpi_loop (fun m r h' => ∃ (i j : Nat) (R : List AV), r = [(0, .val (.row id 32 0 l.length false)), (1, .val (.fn (.func 26) [] [.ptr p 32 0 0])), (5, .val (.int .i64 i)), (6, .val (.int .i64 j))] ∧ j ≤ l.length ∧ i < j ∧ m = l.length - j ∧ h' = h.set id (.row 32 R) ∧ R.length = l.length + post.length ∧ R.take i = kAs (kf k (l.take j)) ∧ R.drop j = kAs (l.drop j) ++ post ∧ i = (kf k (l.take j)).length ∧ ∀ q, q < l.length → ∃ b, R[q]? = some (.agg (kCs b))) (l.length - (A.length + 1)) (by omega) ⟨A.length, A.length + 1, kAs l ++ post, ?_, by omega, by omega, rfl, (set_same hid).symm, by simp [kAs_len], ?_, ?_, ?_, fun q hq => ⟨l[q], by rw [List.getElem?_append_left (by rw [kAs_len]; exact hq), kAs_get hq]⟩⟩ ?_
    · simp
    · rw [List.take_append_of_le_length (by rw [kAs_len]; omega), kAs_take, kf_take k hAl]
      rw [if_pos (by simp [hl0])]
      rw [kf_self]
      intro hm; rw [hl0] at hm; simp at hm; exact hA hm
    · rw [List.drop_append_of_le_length (by rw [kAs_len]; omega), kAs_drop]
    · rw [kf_take k hAl, if_pos (by simp [hl0]), kf_self]
      · rw [List.length_take]; omega
      · intro hm; rw [hl0] at hm; simp at hm; exact hA hm
    · rintro m r h' ⟨i, j, R, rfl, hj, hij, rfl, rfl, r1, r2, r3, r4, r6⟩
      by_cases hjl : j < l.length
      · have e1 : R[j]? = some (.agg (kCs l[j])) := by
          have := congrArg (fun x => x[0]?) r3
          simp only [List.getElem?_drop,Nat.add_zero] at this
          rw [this, List.getElem?_append_left (by rw [kAs_len]; simp; omega), kAs_get (by simp; omega)]
          simp
        have e2 := c26 (tot := tot) (ω := ω) (n := n) (by omega) l[j] k p (h.set id (.row 32 R)) (hsp _)
        have r5 : R.drop (j + 1) = kAs (l.drop (j + 1)) ++ post := by
          have := congrArg (List.drop 1) r3
          rw [List.drop_drop, List.drop_append_of_le_length (by rw [kAs_len]; simp; omega), kAs_drop, List.drop_drop] at this
          exact this
        by_cases he : l[j] = k
        · have hd : decide (k = k) = true := by simp
          rw [he] at e1 e2
          have hs := hset (.row 32 R)
          simp (maxSteps := 2000000) (discharger := omega) only [xc,xo,xr,x0,x1,x2,x3,x4,x5,x6,xd,xe,xb,kont_call,kont_pure,kont_round,isNil,slOk,sliceV,selems,srcElems,copyTo,dlen,eqAV,eqCells,eqS,wr,place,partVals,partEs,placeEs,mapOf,keyOk,keyCells,findK,Bool.bne_false,Bool.bne_true,List.drop_zero,List.nil_append,List.append_nil,List.take_zero,List.cons_append,List.take_succ_cons,List.drop_succ_cons,List.take_nil,List.drop_nil,Reg.isA,Reg.isV,Reg.stays,Reg.onto,Bool.false_or,Bool.or_false,Bool.false_and,Bool.and_false,Bool.true_and,Bool.and_true,Bool.or_true,Bool.true_or,↓reduceIte,reduceCtorEq,Nat.reduceEqDiff,Nat.reduceLT,Nat.reduceAdd,Nat.reduceMul,Nat.add_zero,Nat.zero_add,Nat.not_lt_zero,Nat.zero_ne_one,Nat.one_ne_zero,Nat.reduceLeDiff,Nat.lt_irrefl,Nat.zero_lt_succ,Bool.false_eq_true,Bool.not_true,Bool.not_false,Option.map_some,Option.map_none,Option.bind_some,Option.getD_some,Option.getD_none,and_self,and_true,true_and,List.length_cons,List.length_nil,List.any_nil,List.any_cons,Int.toNat_natCast,Int.cast_ofNat_Int,Int.natCast_zero,Int.natCast_nonneg,true_implies,or_true,true_or,false_or,or_false,beq_self_eq_true,Option.some.injEq,exists_eq_left',Int.reduceEq,Int.reduceLT,Int.reduceLE,Int.reduceGT,Int.reduceGE,Nat.reduceGT,Int.reduceNeg,Int.reduceToNat,Int.reduceAdd,Int.reduceMul,Int.reduceSub,Int.reducePow,decide_true,decide_false,decide_eq_true_eq,List.getElem?_cons_zero,List.getElem?_cons_succ,Nat.reduceBEq,Nat.reduceSub,exists_false,and_false,false_and,xu,List.set_cons_zero,List.set_cons_succ,wrap_i64,int_lt_t,int_lt_f,int_le_t,int_le_f,int_gt_t,int_gt_f,int_ge_t,int_ge_f,int_eq_t,int_eq_f,int_beq_t,int_beq_f,int_bne_t,int_bne_f,nat_le_t,nat_le_f,Nat.sub_zero,Nat.sub_self,not_false_eq_true,not_true_eq_false,hs,e1,e2,hd,kCs_len,kCs_take,kCs_drop]
          exact ⟨l.length - (j + 1), by omega, i, j + 1, R, rfl, by omega, by omega, rfl, rfl, r1, by rw [kf_take k hjl, if_pos he]; exact r2, r5, by rw [kf_take k hjl, if_pos he]; exact r4, r6⟩
        · have hd : decide (l[j] = k) = false := by simpa using he
          have hs := hset (.row 32 R)
          obtain ⟨b, e4⟩ := r6 i (by omega)
          have hi2 : i < R.length := by omega
          simp (maxSteps := 2000000) (discharger := omega) only [xc,xo,xr,x0,x1,x2,x3,x4,x5,x6,xd,xe,xb,kont_call,kont_pure,kont_round,isNil,slOk,sliceV,selems,srcElems,copyTo,dlen,eqAV,eqCells,eqS,wr,place,partVals,partEs,placeEs,mapOf,keyOk,keyCells,findK,Bool.bne_false,Bool.bne_true,List.drop_zero,List.nil_append,List.append_nil,List.take_zero,List.cons_append,List.take_succ_cons,List.drop_succ_cons,List.take_nil,List.drop_nil,Reg.isA,Reg.isV,Reg.stays,Reg.onto,Bool.false_or,Bool.or_false,Bool.false_and,Bool.and_false,Bool.true_and,Bool.and_true,Bool.or_true,Bool.true_or,↓reduceIte,reduceCtorEq,Nat.reduceEqDiff,Nat.reduceLT,Nat.reduceAdd,Nat.reduceMul,Nat.add_zero,Nat.zero_add,Nat.not_lt_zero,Nat.zero_ne_one,Nat.one_ne_zero,Nat.reduceLeDiff,Nat.lt_irrefl,Nat.zero_lt_succ,Bool.false_eq_true,Bool.not_true,Bool.not_false,Option.map_some,Option.map_none,Option.bind_some,Option.getD_some,Option.getD_none,and_self,and_true,true_and,List.length_cons,List.length_nil,List.any_nil,List.any_cons,Int.toNat_natCast,Int.cast_ofNat_Int,Int.natCast_zero,Int.natCast_nonneg,true_implies,or_true,true_or,false_or,or_false,beq_self_eq_true,Option.some.injEq,exists_eq_left',Int.reduceEq,Int.reduceLT,Int.reduceLE,Int.reduceGT,Int.reduceGE,Nat.reduceGT,Int.reduceNeg,Int.reduceToNat,Int.reduceAdd,Int.reduceMul,Int.reduceSub,Int.reducePow,decide_true,decide_false,decide_eq_true_eq,List.getElem?_cons_zero,List.getElem?_cons_succ,Nat.reduceBEq,Nat.reduceSub,exists_false,and_false,false_and,xu,List.set_cons_zero,List.set_cons_succ,wrap_i64,int_lt_t,int_lt_f,int_le_t,int_le_f,int_gt_t,int_gt_f,int_ge_t,int_ge_f,int_eq_t,int_eq_f,int_beq_t,int_beq_f,int_bne_t,int_bne_f,nat_le_t,nat_le_f,Nat.sub_zero,Nat.sub_self,not_false_eq_true,not_true_eq_false,hs,e1,e2,hd,kCs_len,kCs_take,kCs_drop,e4,List.set_set]
          refine ⟨l.length - (j + 1), by omega, i + 1, j + 1, R.set i (.agg (kCs l[j])), rfl, by omega, by omega, rfl, rfl, by simpa using r1, ?_, ?_, ?_, fun q hq => ?_⟩
          · rw [kf_take k hjl, if_neg he, kAs, List.map_append, ← kAs, ← r2, take_set_snoc hi2]
            rfl
          · rw [List.drop_set_of_lt (by omega)]; exact r5
          · rw [kf_take k hjl, if_neg he, List.length_append, ← r4]; rfl
          · rw [List.getElem?_set]
            split
            · exact ⟨l[j], rfl⟩
            · exact r6 q hq
      · obtain rfl : j = l.length := by omega
        rw [List.take_length] at r2 r4
        have hs := hset (.row 32 R)
        have hz : Z32.cells.length = 32 := rfl
        have r7 : i + (l.length - i) = l.length := by omega
        simp only [Z32] at hz
        simp (maxSteps := 2000000) (discharger := omega) only [xc,xo,xr,x0,x1,x2,x3,x4,x5,x6,xd,xe,xb,kont_call,kont_pure,kont_round,isNil,slOk,sliceV,selems,srcElems,copyTo,dlen,eqAV,eqCells,eqS,wr,place,partVals,partEs,placeEs,mapOf,keyOk,keyCells,findK,Bool.bne_false,Bool.bne_true,List.drop_zero,List.nil_append,List.append_nil,List.take_zero,List.cons_append,List.take_succ_cons,List.drop_succ_cons,List.take_nil,List.drop_nil,Reg.isA,Reg.isV,Reg.stays,Reg.onto,Bool.false_or,Bool.or_false,Bool.false_and,Bool.and_false,Bool.true_and,Bool.and_true,Bool.or_true,Bool.true_or,↓reduceIte,reduceCtorEq,Nat.reduceEqDiff,Nat.reduceLT,Nat.reduceAdd,Nat.reduceMul,Nat.add_zero,Nat.zero_add,Nat.not_lt_zero,Nat.zero_ne_one,Nat.one_ne_zero,Nat.reduceLeDiff,Nat.lt_irrefl,Nat.zero_lt_succ,Bool.false_eq_true,Bool.not_true,Bool.not_false,Option.map_some,Option.map_none,Option.bind_some,Option.getD_some,Option.getD_none,and_self,and_true,true_and,List.length_cons,List.length_nil,List.any_nil,List.any_cons,Int.toNat_natCast,Int.cast_ofNat_Int,Int.natCast_zero,Int.natCast_nonneg,true_implies,or_true,true_or,false_or,or_false,beq_self_eq_true,Option.some.injEq,exists_eq_left',Int.reduceEq,Int.reduceLT,Int.reduceLE,Int.reduceGT,Int.reduceGE,Nat.reduceGT,Int.reduceNeg,Int.reduceToNat,Int.reduceAdd,Int.reduceMul,Int.reduceSub,Int.reducePow,decide_true,decide_false,decide_eq_true_eq,List.getElem?_cons_zero,List.getElem?_cons_succ,Nat.reduceBEq,Nat.reduceSub,exists_false,and_false,false_and,xu,List.set_cons_zero,List.set_cons_succ,wrap_i64,int_lt_t,int_lt_f,int_le_t,int_le_f,int_gt_t,int_gt_f,int_ge_t,int_ge_f,int_eq_t,int_eq_f,int_beq_t,int_beq_f,int_bne_t,int_bne_f,nat_le_t,nat_le_f,Nat.sub_zero,Nat.sub_self,not_false_eq_true,not_true_eq_false,hs,hz,List.set_set,Int.toNat_natCast,Nat.zero_add,r1,r7]
        refine ⟨List.replicate (l.length - i) Z32 ++ R.drop l.length, by rw [r4], ?_⟩
        rw [← r2]
        rfl
  · refine ⟨post, call_eq (fn := a25) f25 ?_⟩
    unfold a25
    have e1 := kIdx_none hk
    have e2 := kf_self hk
    have e3 : h.set id (.row 32 (kAs l ++ post)) = h := by
      apply List.ext_getElem?
      intro j
      rw [List.getElem?_set]
      split
      · rename_i e; subst e; rw [if_pos (List.getElem?_eq_some_iff.1 hid).1, hid]
      · rfl
    simp (maxSteps := 2000000) (discharger := omega) only [xc,xo,xr,x0,x1,x2,x3,x4,x5,x6,xd,xe,xb,kont_call,kont_pure,kont_round,isNil,slOk,sliceV,selems,srcElems,copyTo,dlen,eqAV,eqCells,eqS,wr,place,partVals,partEs,placeEs,mapOf,keyOk,keyCells,findK,Bool.bne_false,Bool.bne_true,List.drop_zero,List.nil_append,List.append_nil,List.take_zero,List.cons_append,List.take_succ_cons,List.drop_succ_cons,List.take_nil,List.drop_nil,Reg.isA,Reg.isV,Reg.stays,Reg.onto,Bool.false_or,Bool.or_false,Bool.false_and,Bool.and_false,Bool.true_and,Bool.and_true,Bool.or_true,Bool.true_or,↓reduceIte,reduceCtorEq,Nat.reduceEqDiff,Nat.reduceLT,Nat.reduceAdd,Nat.reduceMul,Nat.add_zero,Nat.zero_add,Nat.not_lt_zero,Nat.zero_ne_one,Nat.one_ne_zero,Nat.reduceLeDiff,Nat.lt_irrefl,Nat.zero_lt_succ,Bool.false_eq_true,Bool.not_true,Bool.not_false,Option.map_some,Option.map_none,Option.bind_some,Option.getD_some,Option.getD_none,and_self,and_true,true_and,List.length_cons,List.length_nil,List.any_nil,List.any_cons,Int.toNat_natCast,Int.cast_ofNat_Int,Int.natCast_zero,Int.natCast_nonneg,true_implies,or_true,true_or,false_or,or_false,beq_self_eq_true,Option.some.injEq,exists_eq_left',Int.reduceEq,Int.reduceLT,Int.reduceLE,Int.reduceGT,Int.reduceGE,Nat.reduceGT,Int.reduceNeg,Int.reduceToNat,Int.reduceAdd,Int.reduceMul,Int.reduceSub,Int.reducePow,decide_true,decide_false,decide_eq_true_eq,List.getElem?_cons_zero,List.getElem?_cons_succ,Nat.reduceBEq,Nat.reduceSub,exists_false,and_false,false_and,xu,List.set_cons_zero,List.set_cons_succ,wrap_i64,int_lt_t,int_lt_f,int_le_t,int_le_f,int_gt_t,int_gt_f,int_ge_t,int_ge_f,int_eq_t,int_eq_f,int_beq_t,int_beq_f,int_bne_t,int_bne_f,nat_le_t,nat_le_f,Nat.sub_zero,Nat.sub_self,not_false_eq_true,not_true_eq_false,e31,e1,e2,e3]
end Go.Proofs.Ytdjlcddkfjbebaa.Im

/- Joined: S18E, S18F. -/
import Derived.Test.YtdjlcddkfjbebaaD
import Derived.Test.YtdjlcddkfjbebaaImSort9
import Derived.KernelRfl
/- S18E: how alike sketches are; the order of what is found. -/
set_option linter.unusedVariables false
set_option linter.unusedSimpArgs false
open Go Go.Im
namespace Go.Proofs.Ytdjlcddkfjbebaa.Im

def al (a b : List Int) : Nat → Nat
  | 0 => 0
  | i + 1 => al a b i + if a.getD i 0 = b.getD i 0 then 1 else 0

theorem al_le (a b : List Int) : ∀ i, al a b i ≤ i
  | 0 => Nat.le_refl _
  | i + 1 => by have := al_le a b i; simp only [al]; split <;> omega

theorem c12 {tot : Bool} {ω : Nat → Nat} {n : Nat} (hn : 10 < n) (a b : List Int) (h : Hp) (ha : a.length = 8) (hb : b.length = 8) : call F n tot ω 12 [.agg (intsOf .u32 a), .agg (intsOf .u32 b)] h = some (.int .i64 (al a b 8), h) := by
  obtain ⟨n, rfl⟩ : ∃ m, n = m + 1 := ⟨n - 1, by omega⟩
  refine call_eq (fn := a12) f12 ?_
  unfold a12
  simp only [xc,xo,xr,x0,x1,x2,x3,x4,x5,x6,xd,xe,xb,kont_call,kont_pure,kont_round,isNil,slOk,sliceV,selems,srcElems,copyTo,dlen,eqAV,eqCells,eqS,upd,wr,place,partVals,partEs,placeEs,mapOf,keyOk,keyCells,findK,Bool.bne_false,Bool.bne_true,List.drop_zero,List.nil_append,List.append_nil,List.take_zero,List.cons_append,List.take_succ_cons,List.drop_succ_cons,List.take_nil,List.drop_nil,Reg.isA,Reg.isV,Reg.stays,Reg.onto,Bool.false_or,Bool.or_false,Bool.false_and,Bool.and_false,Bool.true_and,Bool.and_true,Bool.or_true,Bool.true_or,↓reduceIte,reduceCtorEq,Nat.reduceEqDiff,Nat.reduceLT,Nat.reduceAdd,Nat.reduceMul,Nat.add_zero,Nat.zero_add,Nat.not_lt_zero,Nat.zero_ne_one,Nat.one_ne_zero,Nat.reduceLeDiff,Nat.lt_irrefl,Nat.zero_lt_succ,Bool.false_eq_true,Bool.not_true,Bool.not_false,Option.map_some,Option.map_none,Option.bind_some,Option.getD_some,Option.getD_none,and_self,and_true,true_and,List.length_cons,List.length_nil,List.any_nil,List.any_cons,Int.toNat_natCast,Int.cast_ofNat_Int,Int.natCast_zero,Int.natCast_nonneg,true_implies,or_true,true_or,false_or,or_false,beq_self_eq_true,Option.some.injEq,exists_eq_left',Int.reduceEq,Int.reduceLT,Int.reduceLE,Int.reduceGT,Int.reduceGE,Nat.reduceGT,Int.reduceNeg,Int.reduceToNat,Int.reduceAdd,Int.reduceMul,Int.reduceSub,Int.reducePow,decide_true,decide_false,decide_eq_true_eq,List.getElem?_cons_zero,List.getElem?_cons_succ,Nat.reduceBEq,Nat.reduceSub,exists_false,and_false,false_and,ha,hb]
  refine wpi_loop (fun k r h' => ∃ i : Nat, r = [(2, .var (.agg (intsOf .u32 a))), (3, .var (.agg (intsOf .u32 b))), (5, .val (.int .i64 (al a b i))), (6, .val (.int .i64 i))] ∧ i ≤ 8 ∧ k = 8 - i ∧ h' = h) 8 (by omega) ⟨0, rfl, by omega, by omega, rfl⟩ ?_
  rintro k r h' ⟨i, rfl, hi, rfl, rfl⟩
  have hal := al_le a b i
  by_cases hlt : i < 8
  · have e1 := intsOf_get (k := .u32) (l := a) (i := i) (by omega)
    have e2 := intsOf_get (k := .u32) (l := b) (i := i) (by omega)
    have hlt' : ((i : Nat) : Int) < 8 := by omega
    have g1 : a.getD i 0 = a[i]'(by omega) := by simp [List.getD,show i < a.length by omega]
    have g2 : b.getD i 0 = b[i]'(by omega) := by simp [List.getD,show i < b.length by omega]
    by_cases he : a[i]'(by omega) = b[i]'(by omega)
    · simp (maxSteps := 2000000) (discharger := omega) only [xc,xo,xr,x0,x1,x2,x3,x4,x5,x6,xd,xe,xb,kont_call,kont_pure,kont_round,isNil,slOk,sliceV,selems,srcElems,copyTo,dlen,eqAV,eqCells,eqS,upd,wr,place,partVals,partEs,placeEs,mapOf,keyOk,keyCells,findK,Bool.bne_false,Bool.bne_true,List.drop_zero,List.nil_append,List.append_nil,List.take_zero,List.cons_append,List.take_succ_cons,List.drop_succ_cons,List.take_nil,List.drop_nil,Reg.isA,Reg.isV,Reg.stays,Reg.onto,Bool.false_or,Bool.or_false,Bool.false_and,Bool.and_false,Bool.true_and,Bool.and_true,Bool.or_true,Bool.true_or,↓reduceIte,reduceCtorEq,Nat.reduceEqDiff,Nat.reduceLT,Nat.reduceAdd,Nat.reduceMul,Nat.add_zero,Nat.zero_add,Nat.not_lt_zero,Nat.zero_ne_one,Nat.one_ne_zero,Nat.reduceLeDiff,Nat.lt_irrefl,Nat.zero_lt_succ,Bool.false_eq_true,Bool.not_true,Bool.not_false,Option.map_some,Option.map_none,Option.bind_some,Option.getD_some,Option.getD_none,and_self,and_true,true_and,List.length_cons,List.length_nil,List.any_nil,List.any_cons,Int.toNat_natCast,Int.cast_ofNat_Int,Int.natCast_zero,Int.natCast_nonneg,true_implies,or_true,true_or,false_or,or_false,beq_self_eq_true,Option.some.injEq,exists_eq_left',Int.reduceEq,Int.reduceLT,Int.reduceLE,Int.reduceGT,Int.reduceGE,Nat.reduceGT,Int.reduceNeg,Int.reduceToNat,Int.reduceAdd,Int.reduceMul,Int.reduceSub,Int.reducePow,decide_true,decide_false,decide_eq_true_eq,List.getElem?_cons_zero,List.getElem?_cons_succ,Nat.reduceBEq,Nat.reduceSub,exists_false,and_false,false_and,wrap_i64,e1,e2,hlt',he,Nat.mul_one]
      exact ⟨8 - (i + 1), by omega, i + 1, by simp only [al,g1,g2,he,if_true]; rfl, by omega, rfl⟩
    · have he' : (a[i]'(by omega) == b[i]'(by omega)) = false := by simpa using he
      simp (maxSteps := 2000000) (discharger := omega) only [xc,xo,xr,x0,x1,x2,x3,x4,x5,x6,xd,xe,xb,kont_call,kont_pure,kont_round,isNil,slOk,sliceV,selems,srcElems,copyTo,dlen,eqAV,eqCells,eqS,upd,wr,place,partVals,partEs,placeEs,mapOf,keyOk,keyCells,findK,Bool.bne_false,Bool.bne_true,List.drop_zero,List.nil_append,List.append_nil,List.take_zero,List.cons_append,List.take_succ_cons,List.drop_succ_cons,List.take_nil,List.drop_nil,Reg.isA,Reg.isV,Reg.stays,Reg.onto,Bool.false_or,Bool.or_false,Bool.false_and,Bool.and_false,Bool.true_and,Bool.and_true,Bool.or_true,Bool.true_or,↓reduceIte,reduceCtorEq,Nat.reduceEqDiff,Nat.reduceLT,Nat.reduceAdd,Nat.reduceMul,Nat.add_zero,Nat.zero_add,Nat.not_lt_zero,Nat.zero_ne_one,Nat.one_ne_zero,Nat.reduceLeDiff,Nat.lt_irrefl,Nat.zero_lt_succ,Bool.false_eq_true,Bool.not_true,Bool.not_false,Option.map_some,Option.map_none,Option.bind_some,Option.getD_some,Option.getD_none,and_self,and_true,true_and,List.length_cons,List.length_nil,List.any_nil,List.any_cons,Int.toNat_natCast,Int.cast_ofNat_Int,Int.natCast_zero,Int.natCast_nonneg,true_implies,or_true,true_or,false_or,or_false,beq_self_eq_true,Option.some.injEq,exists_eq_left',Int.reduceEq,Int.reduceLT,Int.reduceLE,Int.reduceGT,Int.reduceGE,Nat.reduceGT,Int.reduceNeg,Int.reduceToNat,Int.reduceAdd,Int.reduceMul,Int.reduceSub,Int.reducePow,decide_true,decide_false,decide_eq_true_eq,List.getElem?_cons_zero,List.getElem?_cons_succ,Nat.reduceBEq,Nat.reduceSub,exists_false,and_false,false_and,wrap_i64,e1,e2,hlt',he',Nat.mul_one]
      exact ⟨8 - (i + 1), by omega, i + 1, by simp only [al,g1,g2,he,if_false]; rfl, by omega, rfl⟩
  · have hlt' : ¬ ((i : Nat) : Int) < 8 := by omega
    obtain rfl : i = 8 := by omega
    simp only [xc,xo,xr,x0,x1,x2,x3,x4,x5,x6,xd,xe,xb,kont_call,kont_pure,kont_round,isNil,slOk,sliceV,selems,srcElems,copyTo,dlen,eqAV,eqCells,eqS,upd,wr,place,partVals,partEs,placeEs,mapOf,keyOk,keyCells,findK,Bool.bne_false,Bool.bne_true,List.drop_zero,List.nil_append,List.append_nil,List.take_zero,List.cons_append,List.take_succ_cons,List.drop_succ_cons,List.take_nil,List.drop_nil,Reg.isA,Reg.isV,Reg.stays,Reg.onto,Bool.false_or,Bool.or_false,Bool.false_and,Bool.and_false,Bool.true_and,Bool.and_true,Bool.or_true,Bool.true_or,↓reduceIte,reduceCtorEq,Nat.reduceEqDiff,Nat.reduceLT,Nat.reduceAdd,Nat.reduceMul,Nat.add_zero,Nat.zero_add,Nat.not_lt_zero,Nat.zero_ne_one,Nat.one_ne_zero,Nat.reduceLeDiff,Nat.lt_irrefl,Nat.zero_lt_succ,Bool.false_eq_true,Bool.not_true,Bool.not_false,Option.map_some,Option.map_none,Option.bind_some,Option.getD_some,Option.getD_none,and_self,and_true,true_and,List.length_cons,List.length_nil,List.any_nil,List.any_cons,Int.toNat_natCast,Int.cast_ofNat_Int,Int.natCast_zero,Int.natCast_nonneg,true_implies,or_true,true_or,false_or,or_false,beq_self_eq_true,Option.some.injEq,exists_eq_left',Int.reduceEq,Int.reduceLT,Int.reduceLE,Int.reduceGT,Int.reduceGE,Nat.reduceGT,Int.reduceNeg,Int.reduceToNat,Int.reduceAdd,Int.reduceMul,Int.reduceSub,Int.reducePow,decide_true,decide_false,decide_eq_true_eq,List.getElem?_cons_zero,List.getElem?_cons_succ,Nat.reduceBEq,Nat.reduceSub,exists_false,and_false,false_and,hlt']


theorem kCs_plain (b : Int) : plains (kCs b) = some (kCs b) := by
  have h : ∀ l : List Int, plains (intsOf .u8 l) = some (intsOf .u8 l) := by
    intro l
    induction l with
    | nil => rfl
    | cons a l ih => simp only [intsOf,List.map_cons,plains,plain] at ih ⊢; rw [ih]
  exact h _

abbrev iv64 (n : Int) : AV := .int .i64 n
def cnt (R : List (Int × Int × Nat)) (x : Int) : Int := (tget R x).getD 0
def ltR (R : List (Int × Int × Nat)) (x y : Int) : Bool := decide (cnt R y < cnt R x) || (decide (cnt R x = cnt R y) && decide (x < y))
theorem swoR (R : List (Int × Int × Nat)) : Sort.SWO (ltR R) where
  irrefl x := by simp [ltR]
  trans x y z h1 h2 := by simp [ltR] at *; omega
  ntrans x y z h1 h2 := by
    simp only [ltR,Bool.or_eq_false_iff,Bool.and_eq_false_imp,decide_eq_false_iff_not,decide_eq_true_eq] at *
    refine ⟨by omega, fun h => ?_⟩
    omega

theorem c28 {tot : Bool} {ω : Nat → Nat} {n : Nat} (R : List (Int × Int × Nat)) (cR : Nat) (x y : Int) (pr mr : Nat) (h : Hp) (hp : h[pr]? = some (.row 1 [.mp mr])) (hm : h[mr]? = some (.map (encE kk iv64 R) cR)) (hx : 0 ≤ x) (hx' : x ≤ 255) (hy : 0 ≤ y) (hy' : y ≤ 255)
    (hb : ∀ z, 0 ≤ cnt R z ∧ cnt R z ≤ 8) (hn : 2 < n) : ∃ r, call F n tot ω 28 [.agg (kCs x), .agg (kCs y), .ptr pr 1 0 0] h = some (.int .i64 r, h) ∧ decide (r < 0) = ltR R x y := by
  obtain ⟨n, rfl⟩ : ∃ m, n = m + 1 := ⟨n - 1, by omega⟩
  have hcmp : decide ((if cnt R x ≠ cnt R y then cnt R y - cnt R x else if x < y then -1 else 1) < 0) = ltR R x y := by
    simp only [ltR]
    split
    · rename_i e
      have : ¬ cnt R x = cnt R y := e
      simp [this]
      omega
    · rename_i e
      have : cnt R x = cnt R y := by omega
      by_cases h : x < y <;> simp [this,h]
  refine ⟨if cnt R x ≠ cnt R y then cnt R y - cnt R x else if x < y then -1 else 1, call_eq (fn := a28) f28 ?_, hcmp⟩
  have hbx := hb x
  have hby := hb y
  have e29 := c29 (tot := false) (ω := fun _ => 0) (n := n) (by omega) x y [] hx hx' hy hy'
  have gx : (∃ a, tget R x = some a ∧ cnt R x = a) ∨ (tget R x = none ∧ cnt R x = 0) := by
    unfold cnt
    cases tget R x with
    | none => exact .inr ⟨rfl, rfl⟩
    | some a => exact .inl ⟨a, rfl, rfl⟩
  have gy : (∃ a, tget R y = some a ∧ cnt R y = a) ∨ (tget R y = none ∧ cnt R y = 0) := by
    unfold cnt
    cases tget R y with
    | none => exact .inr ⟨rfl, rfl⟩
    | some a => exact .inl ⟨a, rfl, rfl⟩
  have fx : ∃ q, findK true I32 (kk x) (encE kk iv64 R) 0 = some q ∧ ((∃ j, q = some (j, .int .i64 (cnt R x))) ∨ (q = none ∧ cnt R x = 0)) := by
    rcases gx with ⟨a, g1, g2⟩ | ⟨g1, g2⟩
    · obtain ⟨j, f, _⟩ := findK_yes (ev := iv64) kEnc 0 g1
      exact ⟨_, f, .inl ⟨_, by rw [g2]⟩⟩
    · exact ⟨_, findK_no (ev := iv64) kEnc 0 g1, .inr ⟨rfl, g2⟩⟩
  have fy : ∃ q, findK true I32 (kk y) (encE kk iv64 R) 0 = some q ∧ ((∃ j, q = some (j, .int .i64 (cnt R y))) ∨ (q = none ∧ cnt R y = 0)) := by
    rcases gy with ⟨a, g1, g2⟩ | ⟨g1, g2⟩
    · obtain ⟨j, f, _⟩ := findK_yes (ev := iv64) kEnc 0 g1
      exact ⟨_, f, .inl ⟨_, by rw [g2]⟩⟩
    · exact ⟨_, findK_no (ev := iv64) kEnc 0 g1, .inr ⟨rfl, g2⟩⟩
  obtain ⟨qx, fx, gx⟩ := fx
  obtain ⟨qy, fy, gy⟩ := fy
  obtain ⟨X, hX⟩ : ∃ X, X = cnt R x := ⟨_, rfl⟩
  obtain ⟨Y, hY⟩ : ∃ Y, Y = cnt R y := ⟨_, rfl⟩
  rw [← hX] at gx hbx ⊢
  rw [← hY] at gy hby ⊢
  unfold a28
  rcases gx with ⟨jx, rfl⟩ | ⟨rfl, g1⟩ <;> rcases gy with ⟨jy, rfl⟩ | ⟨rfl, g2⟩
  all_goals
    by_cases hxy : X = Y
    · by_cases hlt : x < y
      · have hd : decide (x < y) = true := by simp [hlt]
        rw [hd] at e29
        subst hxy
        first | subst g1 | skip
        simp (maxSteps := 2000000) (discharger := omega) only [xc,xo,xr,x0,x1,x2,x3,x4,x5,x6,xd,xe,xb,kont_call,kont_pure,kont_round,isNil,slOk,sliceV,selems,srcElems,copyTo,dlen,eqAV,eqCells,eqS,wr,place,partVals,partEs,placeEs,mapOf,keyOk,keyCells,findK,Bool.bne_false,Bool.bne_true,List.drop_zero,List.nil_append,List.append_nil,List.take_zero,List.cons_append,List.take_succ_cons,List.drop_succ_cons,List.take_nil,List.drop_nil,Reg.isA,Reg.isV,Reg.stays,Reg.onto,Bool.false_or,Bool.or_false,Bool.false_and,Bool.and_false,Bool.true_and,Bool.and_true,Bool.or_true,Bool.true_or,↓reduceIte,reduceCtorEq,Nat.reduceEqDiff,Nat.reduceLT,Nat.reduceAdd,Nat.reduceMul,Nat.add_zero,Nat.zero_add,Nat.not_lt_zero,Nat.zero_ne_one,Nat.one_ne_zero,Nat.reduceLeDiff,Nat.lt_irrefl,Nat.zero_lt_succ,Bool.false_eq_true,Bool.not_true,Bool.not_false,Option.map_some,Option.map_none,Option.bind_some,Option.getD_some,Option.getD_none,and_self,and_true,true_and,List.length_cons,List.length_nil,List.any_nil,List.any_cons,Int.toNat_natCast,Int.cast_ofNat_Int,Int.natCast_zero,Int.natCast_nonneg,true_implies,or_true,true_or,false_or,or_false,beq_self_eq_true,Option.some.injEq,exists_eq_left',Int.reduceEq,Int.reduceLT,Int.reduceLE,Int.reduceGT,Int.reduceGE,Nat.reduceGT,Int.reduceNeg,Int.reduceToNat,Int.reduceAdd,Int.reduceMul,Int.reduceSub,Int.reducePow,decide_true,decide_false,decide_eq_true_eq,List.getElem?_cons_zero,List.getElem?_cons_succ,Nat.reduceBEq,Nat.reduceSub,exists_false,and_false,false_and,xu,List.set_cons_zero,List.set_cons_succ,wrap_i64,int_lt_t,int_lt_f,int_le_t,int_le_f,int_gt_t,int_gt_f,int_ge_t,int_ge_f,int_eq_t,int_eq_f,int_beq_t,int_beq_f,int_bne_t,int_bne_f,nat_le_t,nat_le_f,Nat.sub_zero,Nat.sub_self,not_false_eq_true,not_true_eq_false,kCs_len,kCs_take,kCs_drop,kCs_key,hp,hm,fx,fy,kCs_plain,e29,plains,plain,ne_eq,hlt]
      · have hd : decide (x < y) = false := by simp [hlt]
        rw [hd] at e29
        subst hxy
        first | subst g1 | skip
        simp (maxSteps := 2000000) (discharger := omega) only [xc,xo,xr,x0,x1,x2,x3,x4,x5,x6,xd,xe,xb,kont_call,kont_pure,kont_round,isNil,slOk,sliceV,selems,srcElems,copyTo,dlen,eqAV,eqCells,eqS,wr,place,partVals,partEs,placeEs,mapOf,keyOk,keyCells,findK,Bool.bne_false,Bool.bne_true,List.drop_zero,List.nil_append,List.append_nil,List.take_zero,List.cons_append,List.take_succ_cons,List.drop_succ_cons,List.take_nil,List.drop_nil,Reg.isA,Reg.isV,Reg.stays,Reg.onto,Bool.false_or,Bool.or_false,Bool.false_and,Bool.and_false,Bool.true_and,Bool.and_true,Bool.or_true,Bool.true_or,↓reduceIte,reduceCtorEq,Nat.reduceEqDiff,Nat.reduceLT,Nat.reduceAdd,Nat.reduceMul,Nat.add_zero,Nat.zero_add,Nat.not_lt_zero,Nat.zero_ne_one,Nat.one_ne_zero,Nat.reduceLeDiff,Nat.lt_irrefl,Nat.zero_lt_succ,Bool.false_eq_true,Bool.not_true,Bool.not_false,Option.map_some,Option.map_none,Option.bind_some,Option.getD_some,Option.getD_none,and_self,and_true,true_and,List.length_cons,List.length_nil,List.any_nil,List.any_cons,Int.toNat_natCast,Int.cast_ofNat_Int,Int.natCast_zero,Int.natCast_nonneg,true_implies,or_true,true_or,false_or,or_false,beq_self_eq_true,Option.some.injEq,exists_eq_left',Int.reduceEq,Int.reduceLT,Int.reduceLE,Int.reduceGT,Int.reduceGE,Nat.reduceGT,Int.reduceNeg,Int.reduceToNat,Int.reduceAdd,Int.reduceMul,Int.reduceSub,Int.reducePow,decide_true,decide_false,decide_eq_true_eq,List.getElem?_cons_zero,List.getElem?_cons_succ,Nat.reduceBEq,Nat.reduceSub,exists_false,and_false,false_and,xu,List.set_cons_zero,List.set_cons_succ,wrap_i64,int_lt_t,int_lt_f,int_le_t,int_le_f,int_gt_t,int_gt_f,int_ge_t,int_ge_f,int_eq_t,int_eq_f,int_beq_t,int_beq_f,int_bne_t,int_bne_f,nat_le_t,nat_le_f,Nat.sub_zero,Nat.sub_self,not_false_eq_true,not_true_eq_false,kCs_len,kCs_take,kCs_drop,kCs_key,hp,hm,fx,fy,kCs_plain,e29,plains,plain,ne_eq,hlt]
    · first | subst g1 | skip
      first | subst g2 | skip
      first
        | (exfalso; exact hxy rfl)
        | (simp (maxSteps := 2000000) (discharger := omega) only [xc,xo,xr,x0,x1,x2,x3,x4,x5,x6,xd,xe,xb,kont_call,kont_pure,kont_round,isNil,slOk,sliceV,selems,srcElems,copyTo,dlen,eqAV,eqCells,eqS,wr,place,partVals,partEs,placeEs,mapOf,keyOk,keyCells,findK,Bool.bne_false,Bool.bne_true,List.drop_zero,List.nil_append,List.append_nil,List.take_zero,List.cons_append,List.take_succ_cons,List.drop_succ_cons,List.take_nil,List.drop_nil,Reg.isA,Reg.isV,Reg.stays,Reg.onto,Bool.false_or,Bool.or_false,Bool.false_and,Bool.and_false,Bool.true_and,Bool.and_true,Bool.or_true,Bool.true_or,↓reduceIte,reduceCtorEq,Nat.reduceEqDiff,Nat.reduceLT,Nat.reduceAdd,Nat.reduceMul,Nat.add_zero,Nat.zero_add,Nat.not_lt_zero,Nat.zero_ne_one,Nat.one_ne_zero,Nat.reduceLeDiff,Nat.lt_irrefl,Nat.zero_lt_succ,Bool.false_eq_true,Bool.not_true,Bool.not_false,Option.map_some,Option.map_none,Option.bind_some,Option.getD_some,Option.getD_none,and_self,and_true,true_and,List.length_cons,List.length_nil,List.any_nil,List.any_cons,Int.toNat_natCast,Int.cast_ofNat_Int,Int.natCast_zero,Int.natCast_nonneg,true_implies,or_true,true_or,false_or,or_false,beq_self_eq_true,Option.some.injEq,exists_eq_left',Int.reduceEq,Int.reduceLT,Int.reduceLE,Int.reduceGT,Int.reduceGE,Nat.reduceGT,Int.reduceNeg,Int.reduceToNat,Int.reduceAdd,Int.reduceMul,Int.reduceSub,Int.reducePow,decide_true,decide_false,decide_eq_true_eq,List.getElem?_cons_zero,List.getElem?_cons_succ,Nat.reduceBEq,Nat.reduceSub,exists_false,and_false,false_and,xu,List.set_cons_zero,List.set_cons_succ,wrap_i64,int_lt_t,int_lt_f,int_le_t,int_le_f,int_gt_t,int_gt_f,int_ge_t,int_ge_f,int_eq_t,int_eq_f,int_beq_t,int_beq_f,int_bne_t,int_bne_f,nat_le_t,nat_le_f,Nat.sub_zero,Nat.sub_self,not_false_eq_true,not_true_eq_false,kCs_len,kCs_take,kCs_drop,kCs_key,hp,hm,fx,fy,ne_eq,hxy])
end Go.Proofs.Ytdjlcddkfjbebaa.Im

/- S18F: keys are sorted. -/
set_option linter.unusedVariables false
set_option linter.unusedSimpArgs false
open Go Go.Im
namespace Go.Proofs.Ytdjlcddkfjbebaa.Im

def IK : SortIds := ⟨27, 32, 33, 42, 43, 34, 35, 36, 37, 38, 39, 40, 41, 44, 45, 46, 47, 48, 49⟩
theorem IKin : IK.In F true 32 := ⟨by kernel_rfl, by kernel_rfl, by kernel_rfl, by kernel_rfl, by kernel_rfl, by kernel_rfl, by kernel_rfl, by kernel_rfl, by kernel_rfl, by kernel_rfl, by kernel_rfl, by kernel_rfl, by kernel_rfl, by kernel_rfl, by kernel_rfl, by kernel_rfl, by kernel_rfl, by kernel_rfl, by kernel_rfl⟩
def KB := {x : Int // 0 ≤ x ∧ x ≤ 255}
instance : Inhabited KB := ⟨⟨0, by omega, by omega⟩⟩
theorem encKB : EncOk true 32 (fun x : KB => kk x.1) := ⟨fun x => by
  show sub (.agg (kCs x.1)) 0 32 true = _
  simp only [sub,kCs_len,if_true,Nat.zero_add,Nat.le_refl,List.drop_zero,kCs_take], fun x y => by
  show upd (.agg (kCs x.1)) 0 (.agg (kCs y.1)) = _
  simp only [upd,kCs_len,if_true,Nat.zero_add,Nat.le_refl,List.take_zero,List.nil_append,kCs_drop,List.append_nil], fun _ => rfl, fun _ => kCs_len _⟩
theorem swoKB (R : List (Int × Int × Nat)) : Sort.SWO (α := KB) fun a b => ltR R a.1 b.1 := ⟨fun x => (swoR R).irrefl _, fun x y z => (swoR R).trans _ _ _, fun x y z => (swoR R).ntrans _ _ _⟩
theorem sub_list {α : Type} {p : α → Prop} : ∀ (l : List α), (∀ x ∈ l, p x) → ∃ l' : List {x // p x}, l'.map (·.1) = l
  | [], _ => ⟨[], rfl⟩
  | a :: l, h => by
    obtain ⟨l', e⟩ := sub_list l fun x hx => h x (by simp [hx])
    exact ⟨⟨a, h a (by simp)⟩ :: l', by simp [e]⟩
theorem kb_list (l : List Int) (h : ∀ x ∈ l, 0 ≤ x ∧ x ≤ 255) : ∃ l' : List KB, l'.map (fun x => x.1) = l := sub_list (p := fun x : Int => 0 ≤ x ∧ x ≤ 255) l h

theorem c34n {tot : Bool} {ω : Nat → Nat} {n : Nat} (f : AV) (h : Hp) (hn : 1 < n) : call F n tot ω 34 [.nils, .int .i64 0, .int .i64 0, f] h = some (.tup [], h) := by
  obtain ⟨n, rfl⟩ : ∃ m, n = m + 1 := ⟨n - 1, by omega⟩
  refine call_eq (fn := a34) f34 ?_
  unfold a34
  simp (maxSteps := 2000000) (discharger := omega) only [xc,xo,xr,x0,x1,x2,x3,x4,x5,x6,xd,xe,xb,kont_call,kont_pure,kont_round,isNil,slOk,sliceV,selems,srcElems,copyTo,dlen,eqAV,eqCells,eqS,upd,wr,place,partVals,partEs,placeEs,mapOf,keyOk,keyCells,findK,Bool.bne_false,Bool.bne_true,List.drop_zero,List.nil_append,List.append_nil,List.take_zero,List.cons_append,List.take_succ_cons,List.drop_succ_cons,List.take_nil,List.drop_nil,Reg.isA,Reg.isV,Reg.stays,Reg.onto,Bool.false_or,Bool.or_false,Bool.false_and,Bool.and_false,Bool.true_and,Bool.and_true,Bool.or_true,Bool.true_or,↓reduceIte,reduceCtorEq,Nat.reduceEqDiff,Nat.reduceLT,Nat.reduceAdd,Nat.reduceMul,Nat.add_zero,Nat.zero_add,Nat.not_lt_zero,Nat.zero_ne_one,Nat.one_ne_zero,Nat.reduceLeDiff,Nat.lt_irrefl,Nat.zero_lt_succ,Bool.false_eq_true,Bool.not_true,Bool.not_false,Option.map_some,Option.map_none,Option.bind_some,Option.getD_some,Option.getD_none,and_self,and_true,true_and,List.length_cons,List.length_nil,List.any_nil,List.any_cons,Int.toNat_natCast,Int.cast_ofNat_Int,Int.natCast_zero,Int.natCast_nonneg,true_implies,or_true,true_or,false_or,or_false,beq_self_eq_true,Option.some.injEq,exists_eq_left',Int.reduceEq,Int.reduceLT,Int.reduceLE,Int.reduceGT,Int.reduceGE,Nat.reduceGT,Int.reduceNeg,Int.reduceToNat,Int.reduceAdd,Int.reduceMul,Int.reduceSub,Int.reducePow,decide_true,decide_false,decide_eq_true_eq,List.getElem?_cons_zero,List.getElem?_cons_succ,Nat.reduceBEq,Nat.reduceSub,exists_false,and_false,false_and,wrap_i64,int_lt_t,int_lt_f,int_le_t,int_le_f,int_gt_t,int_gt_f,int_ge_t,int_ge_f,int_eq_t,int_eq_f,int_beq_t,int_beq_f,int_bne_t,int_bne_f,nat_le_t,nat_le_f,Nat.sub_zero,Nat.sub_self,not_false_eq_true,not_true_eq_false]
  refine wpi_loop (fun k r g => r = [(0, .val .nils), (1, .val (.int .i64 0)), (2, .val (.int .i64 0)), (3, .val f), (8, .val (.int .i64 1))] ∧ g = h) 0 (by omega) ⟨rfl, rfl⟩ ?_
  rintro k r g ⟨rfl, rfl⟩
  simp (maxSteps := 2000000) (discharger := omega) only [xc,xo,xr,x0,x1,x2,x3,x4,x5,x6,xd,xe,xb,kont_call,kont_pure,kont_round,isNil,slOk,sliceV,selems,srcElems,copyTo,dlen,eqAV,eqCells,eqS,upd,wr,place,partVals,partEs,placeEs,mapOf,keyOk,keyCells,findK,Bool.bne_false,Bool.bne_true,List.drop_zero,List.nil_append,List.append_nil,List.take_zero,List.cons_append,List.take_succ_cons,List.drop_succ_cons,List.take_nil,List.drop_nil,Reg.isA,Reg.isV,Reg.stays,Reg.onto,Bool.false_or,Bool.or_false,Bool.false_and,Bool.and_false,Bool.true_and,Bool.and_true,Bool.or_true,Bool.true_or,↓reduceIte,reduceCtorEq,Nat.reduceEqDiff,Nat.reduceLT,Nat.reduceAdd,Nat.reduceMul,Nat.add_zero,Nat.zero_add,Nat.not_lt_zero,Nat.zero_ne_one,Nat.one_ne_zero,Nat.reduceLeDiff,Nat.lt_irrefl,Nat.zero_lt_succ,Bool.false_eq_true,Bool.not_true,Bool.not_false,Option.map_some,Option.map_none,Option.bind_some,Option.getD_some,Option.getD_none,and_self,and_true,true_and,List.length_cons,List.length_nil,List.any_nil,List.any_cons,Int.toNat_natCast,Int.cast_ofNat_Int,Int.natCast_zero,Int.natCast_nonneg,true_implies,or_true,true_or,false_or,or_false,beq_self_eq_true,Option.some.injEq,exists_eq_left',Int.reduceEq,Int.reduceLT,Int.reduceLE,Int.reduceGT,Int.reduceGE,Nat.reduceGT,Int.reduceNeg,Int.reduceToNat,Int.reduceAdd,Int.reduceMul,Int.reduceSub,Int.reducePow,decide_true,decide_false,decide_eq_true_eq,List.getElem?_cons_zero,List.getElem?_cons_succ,Nat.reduceBEq,Nat.reduceSub,exists_false,and_false,false_and,wrap_i64,int_lt_t,int_lt_f,int_le_t,int_le_f,int_gt_t,int_gt_f,int_ge_t,int_ge_f,int_eq_t,int_eq_f,int_beq_t,int_beq_f,int_bne_t,int_bne_f,nat_le_t,nat_le_f,Nat.sub_zero,Nat.sub_self,not_false_eq_true,not_true_eq_false]
theorem c32n {tot : Bool} {ω : Nat → Nat} {n : Nat} (f : AV) (h : Hp) (z : Int) (hn : 2 < n) : call F n tot ω 32 [.nils, .int .i64 0, .int .i64 0, .int .i64 z, f] h = some (.tup [], h) := by
  obtain ⟨n, rfl⟩ : ∃ m, n = m + 1 := ⟨n - 1, by omega⟩
  refine call_eq (fn := a32) f32 ?_
  unfold a32
  simp (maxSteps := 2000000) (discharger := omega) only [xc,xo,xr,x0,x1,x2,x3,x4,x5,x6,xd,xe,xb,kont_call,kont_pure,kont_round,isNil,slOk,sliceV,selems,srcElems,copyTo,dlen,eqAV,eqCells,eqS,upd,wr,place,partVals,partEs,placeEs,mapOf,keyOk,keyCells,findK,Bool.bne_false,Bool.bne_true,List.drop_zero,List.nil_append,List.append_nil,List.take_zero,List.cons_append,List.take_succ_cons,List.drop_succ_cons,List.take_nil,List.drop_nil,Reg.isA,Reg.isV,Reg.stays,Reg.onto,Bool.false_or,Bool.or_false,Bool.false_and,Bool.and_false,Bool.true_and,Bool.and_true,Bool.or_true,Bool.true_or,↓reduceIte,reduceCtorEq,Nat.reduceEqDiff,Nat.reduceLT,Nat.reduceAdd,Nat.reduceMul,Nat.add_zero,Nat.zero_add,Nat.not_lt_zero,Nat.zero_ne_one,Nat.one_ne_zero,Nat.reduceLeDiff,Nat.lt_irrefl,Nat.zero_lt_succ,Bool.false_eq_true,Bool.not_true,Bool.not_false,Option.map_some,Option.map_none,Option.bind_some,Option.getD_some,Option.getD_none,and_self,and_true,true_and,List.length_cons,List.length_nil,List.any_nil,List.any_cons,Int.toNat_natCast,Int.cast_ofNat_Int,Int.natCast_zero,Int.natCast_nonneg,true_implies,or_true,true_or,false_or,or_false,beq_self_eq_true,Option.some.injEq,exists_eq_left',Int.reduceEq,Int.reduceLT,Int.reduceLE,Int.reduceGT,Int.reduceGE,Nat.reduceGT,Int.reduceNeg,Int.reduceToNat,Int.reduceAdd,Int.reduceMul,Int.reduceSub,Int.reducePow,decide_true,decide_false,decide_eq_true_eq,List.getElem?_cons_zero,List.getElem?_cons_succ,Nat.reduceBEq,Nat.reduceSub,exists_false,and_false,false_and,wrap_i64,int_lt_t,int_lt_f,int_le_t,int_le_f,int_gt_t,int_gt_f,int_ge_t,int_ge_f,int_eq_t,int_eq_f,int_beq_t,int_beq_f,int_bne_t,int_bne_f,nat_le_t,nat_le_f,Nat.sub_zero,Nat.sub_self,not_false_eq_true,not_true_eq_false]
  have e1 := c34n (tot := tot) (ω := ω) (n := n) f h (by omega)
  refine wpi_loop (fun k r g => r = [(0, .val .nils), (1, .val (.int .i64 0)), (2, .val (.int .i64 0)), (3, .val (.int .i64 z)), (4, .val f), (10, .val (.bool true)), (11, .val (.bool true))] ∧ g = h) 0 (by omega) ⟨rfl, rfl⟩ ?_
  rintro k r g ⟨rfl, rfl⟩
  simp (maxSteps := 2000000) (discharger := omega) only [xc,xo,xr,x0,x1,x2,x3,x4,x5,x6,xd,xe,xb,kont_call,kont_pure,kont_round,isNil,slOk,sliceV,selems,srcElems,copyTo,dlen,eqAV,eqCells,eqS,upd,wr,place,partVals,partEs,placeEs,mapOf,keyOk,keyCells,findK,Bool.bne_false,Bool.bne_true,List.drop_zero,List.nil_append,List.append_nil,List.take_zero,List.cons_append,List.take_succ_cons,List.drop_succ_cons,List.take_nil,List.drop_nil,Reg.isA,Reg.isV,Reg.stays,Reg.onto,Bool.false_or,Bool.or_false,Bool.false_and,Bool.and_false,Bool.true_and,Bool.and_true,Bool.or_true,Bool.true_or,↓reduceIte,reduceCtorEq,Nat.reduceEqDiff,Nat.reduceLT,Nat.reduceAdd,Nat.reduceMul,Nat.add_zero,Nat.zero_add,Nat.not_lt_zero,Nat.zero_ne_one,Nat.one_ne_zero,Nat.reduceLeDiff,Nat.lt_irrefl,Nat.zero_lt_succ,Bool.false_eq_true,Bool.not_true,Bool.not_false,Option.map_some,Option.map_none,Option.bind_some,Option.getD_some,Option.getD_none,and_self,and_true,true_and,List.length_cons,List.length_nil,List.any_nil,List.any_cons,Int.toNat_natCast,Int.cast_ofNat_Int,Int.natCast_zero,Int.natCast_nonneg,true_implies,or_true,true_or,false_or,or_false,beq_self_eq_true,Option.some.injEq,exists_eq_left',Int.reduceEq,Int.reduceLT,Int.reduceLE,Int.reduceGT,Int.reduceGE,Nat.reduceGT,Int.reduceNeg,Int.reduceToNat,Int.reduceAdd,Int.reduceMul,Int.reduceSub,Int.reducePow,decide_true,decide_false,decide_eq_true_eq,List.getElem?_cons_zero,List.getElem?_cons_succ,Nat.reduceBEq,Nat.reduceSub,exists_false,and_false,false_and,wrap_i64,int_lt_t,int_lt_f,int_le_t,int_le_f,int_gt_t,int_gt_f,int_ge_t,int_ge_f,int_eq_t,int_eq_f,int_beq_t,int_beq_f,int_bne_t,int_bne_f,nat_le_t,nat_le_f,Nat.sub_zero,Nat.sub_self,not_false_eq_true,not_true_eq_false,e1]

theorem c27 {tot : Bool} {ω : Nat → Nat} {n : Nat} (R : List (Int × Int × Nat)) (cR : Nat) (v : AV) (l : List Int) (lo pr mr : Nat) (h : Hp) (hp : h[pr]? = some (.row 1 [.mp mr])) (hm : h[mr]? = some (.map (encE kk iv64 R) cR)) (hb : ∀ z, 0 ≤ cnt R z ∧ cnt R z ≤ 8) (hr : RowAt h 32 lo (kAs l) v)
    (hok : ∀ t ∈ l, 0 ≤ t ∧ t ≤ 255) (hl : l.length ≤ 1000) (hn : 2 * l.length + 40 < n) :
    ∃ (h' : Hp) (l' : List Int), call F n tot ω 27 [v, .fn (.func 28) [] [.ptr pr 1 0 0]] h = some (.tup [], h') ∧ RowAt h' 32 lo (kAs l') v ∧ KeepR lo 32 h h' ∧ l'.Perm l ∧ l'.Pairwise fun x y => ltR R y x = false := by
  rcases hr with ⟨rfl, hl0⟩ | ⟨id, post, rfl, e, g⟩
  · have hl0 : l = [] := by simpa [kAs] using hl0
    subst hl0
    refine ⟨h, [], ?_, .inl ⟨rfl, rfl⟩, .refl, .refl _, by simp⟩
    obtain ⟨n, rfl⟩ : ∃ m, n = m + 1 := ⟨n - 1, by omega⟩
    refine call_eq (fn := a27) f27 ?_
    unfold a27
    have e1 := s_len (tot := tot) (ω := ω) IKin 0 n h (by omega) (by omega)
    have e2 := c32n (tot := tot) (ω := ω) (n := n) (.fn (.func 28) [] [.ptr pr 1 0 0]) h (Sort.bitsLen 0 : Nat) (by omega)
    simp only [IK,Int.cast_ofNat_Int] at e1
    have w : IntKind.u64.wrap 0 = 0 := rfl
    simp (maxSteps := 2000000) (discharger := omega) only [xc,xo,xr,x0,x1,x2,x3,x4,x5,x6,xd,xe,xb,kont_call,kont_pure,kont_round,isNil,slOk,sliceV,selems,srcElems,copyTo,dlen,eqAV,eqCells,eqS,upd,wr,place,partVals,partEs,placeEs,mapOf,keyOk,keyCells,findK,Bool.bne_false,Bool.bne_true,List.drop_zero,List.nil_append,List.append_nil,List.take_zero,List.cons_append,List.take_succ_cons,List.drop_succ_cons,List.take_nil,List.drop_nil,Reg.isA,Reg.isV,Reg.stays,Reg.onto,Bool.false_or,Bool.or_false,Bool.false_and,Bool.and_false,Bool.true_and,Bool.and_true,Bool.or_true,Bool.true_or,↓reduceIte,reduceCtorEq,Nat.reduceEqDiff,Nat.reduceLT,Nat.reduceAdd,Nat.reduceMul,Nat.add_zero,Nat.zero_add,Nat.not_lt_zero,Nat.zero_ne_one,Nat.one_ne_zero,Nat.reduceLeDiff,Nat.lt_irrefl,Nat.zero_lt_succ,Bool.false_eq_true,Bool.not_true,Bool.not_false,Option.map_some,Option.map_none,Option.bind_some,Option.getD_some,Option.getD_none,and_self,and_true,true_and,List.length_cons,List.length_nil,List.any_nil,List.any_cons,Int.toNat_natCast,Int.cast_ofNat_Int,Int.natCast_zero,Int.natCast_nonneg,true_implies,or_true,true_or,false_or,or_false,beq_self_eq_true,Option.some.injEq,exists_eq_left',Int.reduceEq,Int.reduceLT,Int.reduceLE,Int.reduceGT,Int.reduceGE,Nat.reduceGT,Int.reduceNeg,Int.reduceToNat,Int.reduceAdd,Int.reduceMul,Int.reduceSub,Int.reducePow,decide_true,decide_false,decide_eq_true_eq,List.getElem?_cons_zero,List.getElem?_cons_succ,Nat.reduceBEq,Nat.reduceSub,exists_false,and_false,false_and,wrap_i64,int_lt_t,int_lt_f,int_le_t,int_le_f,int_gt_t,int_gt_f,int_ge_t,int_ge_f,int_eq_t,int_eq_f,int_beq_t,int_beq_f,int_bne_t,int_bne_f,nat_le_t,nat_le_f,Nat.sub_zero,Nat.sub_self,not_false_eq_true,not_true_eq_false,w,e1,e2,plains,plain]
  · obtain ⟨lo', hlo⟩ := kb_list l hok
    have hF : Full (fun x : KB => kk x.1) [] post (lo'.toArray : Array KB) = kAs l ++ post := by
      simp only [Full,List.nil_append]
      rw [← hlo, kAs, List.map_map]; rfl
    have hsz : (lo'.toArray : Array KB).size = l.length := by rw [← hlo]; simp
    have hpi : pr ≠ id := fun x => by rw [x, e] at hp; cases hp
    have hmi : mr ≠ id := fun x => by rw [x, e] at hm; cases hm
    have hpl := (List.getElem?_eq_some_iff.1 hp).1
    have hml := (List.getElem?_eq_some_iff.1 hm).1
    have C : Srt F IK true 32 (fun x : KB => kk x.1) (fun a b => ltR R a.1 b.1) tot ω 3 28 [] [.ptr pr 1 0 0] h id [] post := ⟨IKin, encKB, fun n hn x y d h1 L => by
      obtain ⟨r, e1, e2⟩ := c28 (tot := tot) (ω := ω) (n := n) R cR x.1 y.1 pr mr h1 ((L.other _ hpl hpi).trans hp) ((L.other _ hml hmi).trans hm) x.2.1 x.2.2 y.2.1 y.2.2 hb (by omega)
      exact ⟨r, h1, e1, .refl _, e2⟩⟩
    have L0 : Lies h id 32 (Full (fun x : KB => kk x.1) [] post (lo'.toArray : Array KB)) h := by rw [hF]; exact .start e
    obtain ⟨h', k1, L⟩ := s_srt C false lo'.toArray n h (by rw [hsz]; omega) L0 (by rw [hsz]; omega)
    refine ⟨h', (Sort.sort (fun a b : KB => ltR R a.1 b.1) lo'.toArray).toList.map (·.1), ?_, ?_, ?_, ?_, ?_⟩
    · rw [hsz] at k1
      rw [kAs_len]; exact k1
    · have hz := sort_size (swoKB R) (lo'.toArray : Array KB)
      have hr := L.row
      refine .inr ⟨id, post, ?_, ?_, g⟩
      · rw [kAs_len, kAs_len]
        simp only [List.length_map,Array.length_toList]
        rw [hz, hsz]
      · rw [hr]
        simp [Full,kAs]
    · exact ⟨L.le, fun i o h1 h2 => by
        have hlt := (List.getElem?_eq_some_iff.1 h1).1
        by_cases hi : i = id
        · subst hi
          rw [e] at h1
          cases h1
          rcases h2 with h2 | h2
          · omega
          · exact absurd rfl (h2 _)
        · rw [L.other i hlt hi]; exact h1⟩
    · have := (sort_perm (swoKB R) (lo'.toArray : Array KB)).map (·.1)
      simp only at this
      rw [← hlo]
      exact this
    · rw [List.pairwise_map]
      exact sort_pair (swoKB R) _
end Go.Proofs.Ytdjlcddkfjbebaa.Im

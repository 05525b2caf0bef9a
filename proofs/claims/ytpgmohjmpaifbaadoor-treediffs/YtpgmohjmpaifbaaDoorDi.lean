/- S21Di: paths that begin so; where two trees differ. -/
import Derived.Test.YtpgmohjmpaifbaaDoorLe
set_option linter.unusedVariables false
set_option linter.unusedSimpArgs false
open Go Go.Im
namespace Go.Proofs.YtpgmohjmpaifbaaDoor.Im

structure Ch where
  p : By
  w : Bool
  i : Bool
def Ch.av (x : Ch) : AV := .agg [.str x.p, .bool x.w, .bool x.i]

def diffL : List Lf → List Lf → List Ch
  | [], [] => []
  | a :: as', [] => ⟨a.p, true, false⟩ :: diffL as' []
  | [], b :: bs => ⟨b.p, false, true⟩ :: diffL [] bs
  | a :: as', b :: bs =>
    if Op.bytesLess a.p b.p then ⟨a.p, true, false⟩ :: diffL as' (b :: bs)
    else if Op.bytesLess b.p a.p then ⟨b.p, false, true⟩ :: diffL (a :: as') bs
    else if a.ps = b.ps then diffL as' bs else ⟨a.p, true, true⟩ :: diffL as' bs
termination_by a b => a.length + b.length

theorem diffL_self : ∀ l : List Lf, diffL l l = []
  | [] => by simp [diffL]
  | a :: l => by rw [diffL]; simp [bl_irrefl,diffL_self l]

def begins (b s : By) : Bool := decide (b.length ≤ s.length) && (s.take b.length == b)
def listB (b : By) (ls : List Lf) : List By := (ls.map (·.p)).filter (begins b)
section
variable {n : Nat} {tot : Bool} {ω : Nat → Nat} {h : Hp}

theorem lfs_drop {ls : List Lf} {x : Lf} {c : Cap} {a : AV} (ha : IsRd 2 ((x :: ls).map Lf.av) a) : ∃ c, a = .imm 2 (.agg [.str x.p, x.v] :: ls.map Lf.av) c := by
  obtain ⟨c, e⟩ := ha.imm (i := 0) (by simp)
  exact ⟨c, by rw [e]; rfl⟩

theorem tk (l : List Lf) (c : Cap) : AV.imm 2 (List.take l.length (l.map Lf.av)) c = .imm 2 (l.map Lf.av) c := by rw [List.take_of_length_le (by simp)]

set_option maxHeartbeats 1000000 in
set_option maxRecDepth 100000 in
theorem c29 (K : Nat) (hK : K ≤ 9223372036854775807) (A B : List Lf) (a b : AV) (ha : IsRd 2 (A.map Lf.av) a) (hb : IsRd 2 (B.map Lf.av) b) (hA : ∀ x ∈ A, x.ok ∧ x.ps.length ≤ K) (hB : ∀ x ∈ B, x.ok ∧ x.ps.length ≤ K) (hl : A.length + B.length ≤ 1000000) (hn : A.length + B.length + K + 20 < n) :
    ∃ v h', call F n tot ω 29 [a, b] h = some (v, h') ∧ IsRd 3 ((diffL A B).map Ch.av) v := by
  obtain ⟨n, rfl⟩ : ∃ m, n = m + 1 := ⟨n - 1, by omega⟩
  refine call_of (fn := a29) f29 (P := fun v h' => IsRd 3 ((diffL A B).map Ch.av) v) ?_
  unfold a29
  simp (maxSteps := 2000000) (discharger := omega) only [xc,xo,xr,x0,x1,x2,x3,x4,x5,x6,xd,xe,xb,kont_call,kont_pure,kont_round,isNil,slOk,sliceV,selems,srcElems,copyTo,dlen,eqAV,eqCells,eqS,wr,place,partVals,partEs,placeEs,mapOf,keyOk,keyCells,findK,Bool.bne_false,Bool.bne_true,List.drop_zero,List.nil_append,List.append_nil,List.take_zero,List.cons_append,List.take_succ_cons,List.drop_succ_cons,List.take_nil,List.drop_nil,Reg.isA,Reg.isV,Reg.stays,Reg.onto,Bool.false_or,Bool.or_false,Bool.false_and,Bool.and_false,Bool.true_and,Bool.and_true,Bool.or_true,Bool.true_or,↓reduceIte,reduceCtorEq,Nat.reduceEqDiff,Nat.reduceLT,Nat.reduceAdd,Nat.reduceMul,Nat.add_zero,Nat.zero_add,Nat.not_lt_zero,Nat.zero_ne_one,Nat.one_ne_zero,Nat.reduceLeDiff,Nat.lt_irrefl,Nat.zero_lt_succ,Bool.false_eq_true,Bool.not_true,Bool.not_false,Option.map_some,Option.map_none,Option.bind_some,Option.getD_some,Option.getD_none,and_self,and_true,true_and,List.length_cons,List.length_nil,List.any_nil,List.any_cons,Int.toNat_natCast,Int.cast_ofNat_Int,Int.natCast_zero,Int.natCast_nonneg,true_implies,or_true,true_or,false_or,or_false,beq_self_eq_true,Option.some.injEq,exists_eq_left',Int.reduceEq,Int.reduceLT,Int.reduceLE,Int.reduceGT,Int.reduceGE,Nat.reduceGT,Int.reduceNeg,Int.reduceToNat,Int.reduceAdd,Int.reduceMul,Int.reduceSub,Int.reducePow,decide_true,decide_false,decide_eq_true_eq,List.getElem?_cons_zero,List.getElem?_cons_succ,Nat.reduceBEq,Nat.reduceSub,exists_false,and_false,false_and,xu,List.set_cons_zero,List.set_cons_succ,wrap_i64,int_lt_t,int_lt_f,int_le_t,int_le_f,int_gt_t,int_gt_f,int_ge_t,int_ge_f,int_eq_t,int_eq_f,int_beq_t,int_beq_f,int_bne_t,int_bne_f,nat_le_t,nat_le_f,Nat.sub_zero,Nat.sub_self,not_false_eq_true,not_true_eq_false]
  refine wpi_loop (fun x r g => ∃ (A' B' : List Lf) (out : List Ch) (a' b' ov : AV), r = [(0, .val a'), (1, .val b'), (5, .val ov)] ∧ x = A'.length + B'.length ∧ A'.length + B'.length + out.length ≤ A.length + B.length ∧ IsRd 2 (A'.map Lf.av) a' ∧ IsRd 2 (B'.map Lf.av) b' ∧ (∀ x ∈ A', x.ok ∧ x.ps.length ≤ K) ∧ (∀ x ∈ B', x.ok ∧ x.ps.length ≤ K) ∧
    LateApp 0 3 (out.map Ch.av) g ov ∧ out ++ diffL A' B' = diffL A B) (A.length + B.length) (by omega)
    ⟨A, B, [], a, b, .nils, rfl, rfl, by simp, ha, hb, hA, hB, late_nils _ _ _, rfl⟩ ?_
  rintro x r g ⟨A', B', out, a', b', ov, rfl, rfl, hle, ha', hb', hA', hB', hO, hD⟩
  have la := ha'.len
  have lb := hb'.len
  rw [List.length_map] at la lb
  have app : ∀ c : Ch, ∃ v' h', appendV false 3 24 ov [.agg [.str c.p, .bool c.w, .bool c.i]] g = some (v', h') ∧ LateApp 0 3 ((out ++ [c]).map Ch.av) h' v' := fun c => by
    obtain ⟨v', h2, w1, w2, w3⟩ := late_app (bytes := 24) (xs := [.agg [.str c.p, .bool c.w, .bool c.i]]) hO (Nat.zero_le _) (by simp) (by simp; omega)
    exact ⟨v', h2, w1, by rw [List.map_append]; exact w2⟩
  match A', B', hD, hle, ha', hb', hA', hB', la, lb with
  | [], [], hD, hle, ha', hb', hA', hB', la, lb =>
    simp (maxSteps := 2000000) (discharger := omega) only [xc,xo,xr,x0,x1,x2,x3,x4,x5,x6,xd,xe,xb,kont_call,kont_pure,kont_round,isNil,slOk,sliceV,selems,srcElems,copyTo,dlen,eqAV,eqCells,eqS,wr,place,partVals,partEs,placeEs,mapOf,keyOk,keyCells,findK,Bool.bne_false,Bool.bne_true,List.drop_zero,List.nil_append,List.append_nil,List.take_zero,List.cons_append,List.take_succ_cons,List.drop_succ_cons,List.take_nil,List.drop_nil,Reg.isA,Reg.isV,Reg.stays,Reg.onto,Bool.false_or,Bool.or_false,Bool.false_and,Bool.and_false,Bool.true_and,Bool.and_true,Bool.or_true,Bool.true_or,↓reduceIte,reduceCtorEq,Nat.reduceEqDiff,Nat.reduceLT,Nat.reduceAdd,Nat.reduceMul,Nat.add_zero,Nat.zero_add,Nat.not_lt_zero,Nat.zero_ne_one,Nat.one_ne_zero,Nat.reduceLeDiff,Nat.lt_irrefl,Nat.zero_lt_succ,Bool.false_eq_true,Bool.not_true,Bool.not_false,Option.map_some,Option.map_none,Option.bind_some,Option.getD_some,Option.getD_none,and_self,and_true,true_and,List.length_cons,List.length_nil,List.any_nil,List.any_cons,Int.toNat_natCast,Int.cast_ofNat_Int,Int.natCast_zero,Int.natCast_nonneg,true_implies,or_true,true_or,false_or,or_false,beq_self_eq_true,Option.some.injEq,exists_eq_left',Int.reduceEq,Int.reduceLT,Int.reduceLE,Int.reduceGT,Int.reduceGE,Nat.reduceGT,Int.reduceNeg,Int.reduceToNat,Int.reduceAdd,Int.reduceMul,Int.reduceSub,Int.reducePow,decide_true,decide_false,decide_eq_true_eq,List.getElem?_cons_zero,List.getElem?_cons_succ,Nat.reduceBEq,Nat.reduceSub,exists_false,and_false,false_and,xu,List.set_cons_zero,List.set_cons_succ,wrap_i64,int_lt_t,int_lt_f,int_le_t,int_le_f,int_gt_t,int_gt_f,int_ge_t,int_ge_f,int_eq_t,int_eq_f,int_beq_t,int_beq_f,int_bne_t,int_bne_f,nat_le_t,nat_le_f,Nat.sub_zero,Nat.sub_self,not_false_eq_true,not_true_eq_false,la,lb]
    rw [show diffL [] [] = [] by simp [diffL], List.append_nil] at hD
    rw [← hD]; exact isRd_app hO.1
  | x :: A', [], hD, hle, ha', hb', hA', hB', la, lb =>
    obtain ⟨v', h2, w1, w2⟩ := app ⟨x.p, true, false⟩
    simp only at w1
    obtain ⟨ca, rfl⟩ := lfs_drop (c := .no) ha'
    have hd : out ++ [⟨x.p, true, false⟩] ++ diffL A' [] = diffL A B := by rw [← hD, diffL]; simp
    simp (maxSteps := 2000000) (discharger := omega) only [xc,xo,xr,x0,x1,x2,x3,x4,x5,x6,xd,xe,xb,kont_call,kont_pure,kont_round,isNil,slOk,sliceV,selems,srcElems,copyTo,dlen,eqAV,eqCells,eqS,wr,place,partVals,partEs,placeEs,mapOf,keyOk,keyCells,findK,Bool.bne_false,Bool.bne_true,List.drop_zero,List.nil_append,List.append_nil,List.take_zero,List.cons_append,List.take_succ_cons,List.drop_succ_cons,List.take_nil,List.drop_nil,Reg.isA,Reg.isV,Reg.stays,Reg.onto,Bool.false_or,Bool.or_false,Bool.false_and,Bool.and_false,Bool.true_and,Bool.and_true,Bool.or_true,Bool.true_or,↓reduceIte,reduceCtorEq,Nat.reduceEqDiff,Nat.reduceLT,Nat.reduceAdd,Nat.reduceMul,Nat.add_zero,Nat.zero_add,Nat.not_lt_zero,Nat.zero_ne_one,Nat.one_ne_zero,Nat.reduceLeDiff,Nat.lt_irrefl,Nat.zero_lt_succ,Bool.false_eq_true,Bool.not_true,Bool.not_false,Option.map_some,Option.map_none,Option.bind_some,Option.getD_some,Option.getD_none,and_self,and_true,true_and,List.length_cons,List.length_nil,List.any_nil,List.any_cons,Int.toNat_natCast,Int.cast_ofNat_Int,Int.natCast_zero,Int.natCast_nonneg,true_implies,or_true,true_or,false_or,or_false,beq_self_eq_true,Option.some.injEq,exists_eq_left',Int.reduceEq,Int.reduceLT,Int.reduceLE,Int.reduceGT,Int.reduceGE,Nat.reduceGT,Int.reduceNeg,Int.reduceToNat,Int.reduceAdd,Int.reduceMul,Int.reduceSub,Int.reducePow,decide_true,decide_false,decide_eq_true_eq,List.getElem?_cons_zero,List.getElem?_cons_succ,Nat.reduceBEq,Nat.reduceSub,exists_false,and_false,false_and,xu,List.set_cons_zero,List.set_cons_succ,wrap_i64,int_lt_t,int_lt_f,int_le_t,int_le_f,int_gt_t,int_gt_f,int_ge_t,int_ge_f,int_eq_t,int_eq_f,int_beq_t,int_beq_f,int_bne_t,int_bne_f,nat_le_t,nat_le_f,Nat.sub_zero,Nat.sub_self,not_false_eq_true,not_true_eq_false,la,lb,w1,hO.1.isRow,List.replicate,List.length_map]
    exact ⟨A'.length + 0, by simp, A', [], out ++ [⟨x.p, true, false⟩], _, b', v', rfl, by simp, by simp at hle ⊢; omega, .inr ⟨ca, tk _ _⟩, hb', fun y hy => hA' y (by simp [hy]), hB', w2, hd⟩
  | [], y :: B', hD, hle, ha', hb', hA', hB', la, lb =>
    obtain ⟨v', h2, w1, w2⟩ := app ⟨y.p, false, true⟩
    simp only at w1
    obtain ⟨cb, rfl⟩ := lfs_drop (c := .no) hb'
    have hd : out ++ [⟨y.p, false, true⟩] ++ diffL [] B' = diffL A B := by rw [← hD, diffL]; simp
    simp (maxSteps := 2000000) (discharger := omega) only [xc,xo,xr,x0,x1,x2,x3,x4,x5,x6,xd,xe,xb,kont_call,kont_pure,kont_round,isNil,slOk,sliceV,selems,srcElems,copyTo,dlen,eqAV,eqCells,eqS,wr,place,partVals,partEs,placeEs,mapOf,keyOk,keyCells,findK,Bool.bne_false,Bool.bne_true,List.drop_zero,List.nil_append,List.append_nil,List.take_zero,List.cons_append,List.take_succ_cons,List.drop_succ_cons,List.take_nil,List.drop_nil,Reg.isA,Reg.isV,Reg.stays,Reg.onto,Bool.false_or,Bool.or_false,Bool.false_and,Bool.and_false,Bool.true_and,Bool.and_true,Bool.or_true,Bool.true_or,↓reduceIte,reduceCtorEq,Nat.reduceEqDiff,Nat.reduceLT,Nat.reduceAdd,Nat.reduceMul,Nat.add_zero,Nat.zero_add,Nat.not_lt_zero,Nat.zero_ne_one,Nat.one_ne_zero,Nat.reduceLeDiff,Nat.lt_irrefl,Nat.zero_lt_succ,Bool.false_eq_true,Bool.not_true,Bool.not_false,Option.map_some,Option.map_none,Option.bind_some,Option.getD_some,Option.getD_none,and_self,and_true,true_and,List.length_cons,List.length_nil,List.any_nil,List.any_cons,Int.toNat_natCast,Int.cast_ofNat_Int,Int.natCast_zero,Int.natCast_nonneg,true_implies,or_true,true_or,false_or,or_false,beq_self_eq_true,Option.some.injEq,exists_eq_left',Int.reduceEq,Int.reduceLT,Int.reduceLE,Int.reduceGT,Int.reduceGE,Nat.reduceGT,Int.reduceNeg,Int.reduceToNat,Int.reduceAdd,Int.reduceMul,Int.reduceSub,Int.reducePow,decide_true,decide_false,decide_eq_true_eq,List.getElem?_cons_zero,List.getElem?_cons_succ,Nat.reduceBEq,Nat.reduceSub,exists_false,and_false,false_and,xu,List.set_cons_zero,List.set_cons_succ,wrap_i64,int_lt_t,int_lt_f,int_le_t,int_le_f,int_gt_t,int_gt_f,int_ge_t,int_ge_f,int_eq_t,int_eq_f,int_beq_t,int_beq_f,int_bne_t,int_bne_f,nat_le_t,nat_le_f,Nat.sub_zero,Nat.sub_self,not_false_eq_true,not_true_eq_false,la,lb,w1,hO.1.isRow,List.replicate,List.length_map]
    exact ⟨0 + B'.length, by simp, [], B', out ++ [⟨y.p, false, true⟩], a', _, v', rfl, by simp, by simp at hle ⊢; omega, ha', .inr ⟨cb, tk _ _⟩, hA', fun z hz => hB' z (by simp [hz]), w2, hd⟩
  | x :: A', y :: B', hD, hle, ha', hb', hA', hB', la, lb =>
    obtain ⟨ca, rfl⟩ := lfs_drop (c := .no) ha'
    obtain ⟨cb, rfl⟩ := lfs_drop (c := .no) hb'
    have ox := hA' x (by simp)
    have oy := hB' y (by simp)
    cases h1 : Op.bytesLess x.p y.p with
    | true =>
      obtain ⟨v', h2, w1, w2⟩ := app ⟨x.p, true, false⟩
      simp only at w1
      have hd : out ++ [⟨x.p, true, false⟩] ++ diffL A' (y :: B') = diffL A B := by rw [← hD, diffL, if_pos h1]; simp
      simp (maxSteps := 2000000) (discharger := omega) only [xc,xo,xr,x0,x1,x2,x3,x4,x5,x6,xd,xe,xb,kont_call,kont_pure,kont_round,isNil,slOk,sliceV,selems,srcElems,copyTo,dlen,eqAV,eqCells,eqS,wr,place,partVals,partEs,placeEs,mapOf,keyOk,keyCells,findK,Bool.bne_false,Bool.bne_true,List.drop_zero,List.nil_append,List.append_nil,List.take_zero,List.cons_append,List.take_succ_cons,List.drop_succ_cons,List.take_nil,List.drop_nil,Reg.isA,Reg.isV,Reg.stays,Reg.onto,Bool.false_or,Bool.or_false,Bool.false_and,Bool.and_false,Bool.true_and,Bool.and_true,Bool.or_true,Bool.true_or,↓reduceIte,reduceCtorEq,Nat.reduceEqDiff,Nat.reduceLT,Nat.reduceAdd,Nat.reduceMul,Nat.add_zero,Nat.zero_add,Nat.not_lt_zero,Nat.zero_ne_one,Nat.one_ne_zero,Nat.reduceLeDiff,Nat.lt_irrefl,Nat.zero_lt_succ,Bool.false_eq_true,Bool.not_true,Bool.not_false,Option.map_some,Option.map_none,Option.bind_some,Option.getD_some,Option.getD_none,and_self,and_true,true_and,List.length_cons,List.length_nil,List.any_nil,List.any_cons,Int.toNat_natCast,Int.cast_ofNat_Int,Int.natCast_zero,Int.natCast_nonneg,true_implies,or_true,true_or,false_or,or_false,beq_self_eq_true,Option.some.injEq,exists_eq_left',Int.reduceEq,Int.reduceLT,Int.reduceLE,Int.reduceGT,Int.reduceGE,Nat.reduceGT,Int.reduceNeg,Int.reduceToNat,Int.reduceAdd,Int.reduceMul,Int.reduceSub,Int.reducePow,decide_true,decide_false,decide_eq_true_eq,List.getElem?_cons_zero,List.getElem?_cons_succ,Nat.reduceBEq,Nat.reduceSub,exists_false,and_false,false_and,xu,List.set_cons_zero,List.set_cons_succ,wrap_i64,int_lt_t,int_lt_f,int_le_t,int_le_f,int_gt_t,int_gt_f,int_ge_t,int_ge_f,int_eq_t,int_eq_f,int_beq_t,int_beq_f,int_bne_t,int_bne_f,nat_le_t,nat_le_f,Nat.sub_zero,Nat.sub_self,not_false_eq_true,not_true_eq_false,la,lb,h1,w1,hO.1.isRow,List.replicate,List.length_map]
      exact ⟨A'.length + (B'.length + 1), by simp, A', y :: B', out ++ [⟨x.p, true, false⟩], _, _, v', rfl, by simp, by simp at hle ⊢; omega, .inr ⟨ca, tk _ _⟩, .inr ⟨cb, rfl⟩, fun z hz => hA' z (by simp [hz]), hB', w2, hd⟩
    | false =>
      cases h3 : Op.bytesLess y.p x.p with
      | true =>
        obtain ⟨v', h2, w1, w2⟩ := app ⟨y.p, false, true⟩
        simp only at w1
        have hd : out ++ [⟨y.p, false, true⟩] ++ diffL (x :: A') B' = diffL A B := by rw [← hD, diffL, if_neg (by rw [h1]; decide), if_pos h3]; simp
        simp (maxSteps := 2000000) (discharger := omega) only [xc,xo,xr,x0,x1,x2,x3,x4,x5,x6,xd,xe,xb,kont_call,kont_pure,kont_round,isNil,slOk,sliceV,selems,srcElems,copyTo,dlen,eqAV,eqCells,eqS,wr,place,partVals,partEs,placeEs,mapOf,keyOk,keyCells,findK,Bool.bne_false,Bool.bne_true,List.drop_zero,List.nil_append,List.append_nil,List.take_zero,List.cons_append,List.take_succ_cons,List.drop_succ_cons,List.take_nil,List.drop_nil,Reg.isA,Reg.isV,Reg.stays,Reg.onto,Bool.false_or,Bool.or_false,Bool.false_and,Bool.and_false,Bool.true_and,Bool.and_true,Bool.or_true,Bool.true_or,↓reduceIte,reduceCtorEq,Nat.reduceEqDiff,Nat.reduceLT,Nat.reduceAdd,Nat.reduceMul,Nat.add_zero,Nat.zero_add,Nat.not_lt_zero,Nat.zero_ne_one,Nat.one_ne_zero,Nat.reduceLeDiff,Nat.lt_irrefl,Nat.zero_lt_succ,Bool.false_eq_true,Bool.not_true,Bool.not_false,Option.map_some,Option.map_none,Option.bind_some,Option.getD_some,Option.getD_none,and_self,and_true,true_and,List.length_cons,List.length_nil,List.any_nil,List.any_cons,Int.toNat_natCast,Int.cast_ofNat_Int,Int.natCast_zero,Int.natCast_nonneg,true_implies,or_true,true_or,false_or,or_false,beq_self_eq_true,Option.some.injEq,exists_eq_left',Int.reduceEq,Int.reduceLT,Int.reduceLE,Int.reduceGT,Int.reduceGE,Nat.reduceGT,Int.reduceNeg,Int.reduceToNat,Int.reduceAdd,Int.reduceMul,Int.reduceSub,Int.reducePow,decide_true,decide_false,decide_eq_true_eq,List.getElem?_cons_zero,List.getElem?_cons_succ,Nat.reduceBEq,Nat.reduceSub,exists_false,and_false,false_and,xu,List.set_cons_zero,List.set_cons_succ,wrap_i64,int_lt_t,int_lt_f,int_le_t,int_le_f,int_gt_t,int_gt_f,int_ge_t,int_ge_f,int_eq_t,int_eq_f,int_beq_t,int_beq_f,int_bne_t,int_bne_f,nat_le_t,nat_le_f,Nat.sub_zero,Nat.sub_self,not_false_eq_true,not_true_eq_false,la,lb,h1,h3,w1,hO.1.isRow,List.replicate,List.length_map]
        exact ⟨(A'.length + 1) + B'.length, by simp, x :: A', B', out ++ [⟨y.p, false, true⟩], _, _, v', rfl, by simp, by simp at hle ⊢; omega, .inr ⟨ca, rfl⟩, .inr ⟨cb, tk _ _⟩, hA', fun z hz => hB' z (by simp [hz]), w2, hd⟩
      | false =>
        have k55 := fun h => c55 (n := n) (tot := tot) (ω := ω) (h := h) x.ps y.ps x.v y.v ox.1.rd oy.1.rd ox.1.all oy.1.all (by have := ox.2; omega) (by have := oy.2; omega) (by have := ox.2; omega)
        have tx := rd_sub ox.1.rd 1
        have ty := rd_sub oy.1.rd 1
        by_cases he : x.ps = y.ps
        · have hd : out ++ diffL A' B' = diffL A B := by rw [← hD, diffL, if_neg (by rw [h1]; decide), if_neg (by rw [h3]; decide), if_pos he]
          have he' : decide (x.ps = y.ps) = true := by simp [he]
          simp (maxSteps := 2000000) (discharger := omega) only [xc,xo,xr,x0,x1,x2,x3,x4,x5,x6,xd,xe,xb,kont_call,kont_pure,kont_round,isNil,slOk,sliceV,selems,srcElems,copyTo,dlen,eqAV,eqCells,eqS,wr,place,partVals,partEs,placeEs,mapOf,keyOk,keyCells,findK,Bool.bne_false,Bool.bne_true,List.drop_zero,List.nil_append,List.append_nil,List.take_zero,List.cons_append,List.take_succ_cons,List.drop_succ_cons,List.take_nil,List.drop_nil,Reg.isA,Reg.isV,Reg.stays,Reg.onto,Bool.false_or,Bool.or_false,Bool.false_and,Bool.and_false,Bool.true_and,Bool.and_true,Bool.or_true,Bool.true_or,↓reduceIte,reduceCtorEq,Nat.reduceEqDiff,Nat.reduceLT,Nat.reduceAdd,Nat.reduceMul,Nat.add_zero,Nat.zero_add,Nat.not_lt_zero,Nat.zero_ne_one,Nat.one_ne_zero,Nat.reduceLeDiff,Nat.lt_irrefl,Nat.zero_lt_succ,Bool.false_eq_true,Bool.not_true,Bool.not_false,Option.map_some,Option.map_none,Option.bind_some,Option.getD_some,Option.getD_none,and_self,and_true,true_and,List.length_cons,List.length_nil,List.any_nil,List.any_cons,Int.toNat_natCast,Int.cast_ofNat_Int,Int.natCast_zero,Int.natCast_nonneg,true_implies,or_true,true_or,false_or,or_false,beq_self_eq_true,Option.some.injEq,exists_eq_left',Int.reduceEq,Int.reduceLT,Int.reduceLE,Int.reduceGT,Int.reduceGE,Nat.reduceGT,Int.reduceNeg,Int.reduceToNat,Int.reduceAdd,Int.reduceMul,Int.reduceSub,Int.reducePow,decide_true,decide_false,decide_eq_true_eq,List.getElem?_cons_zero,List.getElem?_cons_succ,Nat.reduceBEq,Nat.reduceSub,exists_false,and_false,false_and,xu,List.set_cons_zero,List.set_cons_succ,wrap_i64,int_lt_t,int_lt_f,int_le_t,int_le_f,int_gt_t,int_gt_f,int_ge_t,int_ge_f,int_eq_t,int_eq_f,int_beq_t,int_beq_f,int_bne_t,int_bne_f,nat_le_t,nat_le_f,Nat.sub_zero,Nat.sub_self,not_false_eq_true,not_true_eq_false,la,lb,h1,h3,k55,tx,ty,he',List.length_map]
          exact ⟨A'.length + B'.length, by first | omega | (simp; omega), A', B', out, _, _, ov, rfl, rfl, by simp at hle ⊢; omega, .inr ⟨ca, tk _ _⟩, .inr ⟨cb, tk _ _⟩, fun z hz => hA' z (by simp [hz]), fun z hz => hB' z (by simp [hz]), hO, hd⟩
        · obtain ⟨v', h2, w1, w2⟩ := app ⟨x.p, true, true⟩
          simp only at w1
          have hd : out ++ [⟨x.p, true, true⟩] ++ diffL A' B' = diffL A B := by rw [← hD, diffL, if_neg (by rw [h1]; decide), if_neg (by rw [h3]; decide), if_neg he]; simp
          have he' : decide (x.ps = y.ps) = false := by simp [he]
          simp (maxSteps := 2000000) (discharger := omega) only [xc,xo,xr,x0,x1,x2,x3,x4,x5,x6,xd,xe,xb,kont_call,kont_pure,kont_round,isNil,slOk,sliceV,selems,srcElems,copyTo,dlen,eqAV,eqCells,eqS,wr,place,partVals,partEs,placeEs,mapOf,keyOk,keyCells,findK,Bool.bne_false,Bool.bne_true,List.drop_zero,List.nil_append,List.append_nil,List.take_zero,List.cons_append,List.take_succ_cons,List.drop_succ_cons,List.take_nil,List.drop_nil,Reg.isA,Reg.isV,Reg.stays,Reg.onto,Bool.false_or,Bool.or_false,Bool.false_and,Bool.and_false,Bool.true_and,Bool.and_true,Bool.or_true,Bool.true_or,↓reduceIte,reduceCtorEq,Nat.reduceEqDiff,Nat.reduceLT,Nat.reduceAdd,Nat.reduceMul,Nat.add_zero,Nat.zero_add,Nat.not_lt_zero,Nat.zero_ne_one,Nat.one_ne_zero,Nat.reduceLeDiff,Nat.lt_irrefl,Nat.zero_lt_succ,Bool.false_eq_true,Bool.not_true,Bool.not_false,Option.map_some,Option.map_none,Option.bind_some,Option.getD_some,Option.getD_none,and_self,and_true,true_and,List.length_cons,List.length_nil,List.any_nil,List.any_cons,Int.toNat_natCast,Int.cast_ofNat_Int,Int.natCast_zero,Int.natCast_nonneg,true_implies,or_true,true_or,false_or,or_false,beq_self_eq_true,Option.some.injEq,exists_eq_left',Int.reduceEq,Int.reduceLT,Int.reduceLE,Int.reduceGT,Int.reduceGE,Nat.reduceGT,Int.reduceNeg,Int.reduceToNat,Int.reduceAdd,Int.reduceMul,Int.reduceSub,Int.reducePow,decide_true,decide_false,decide_eq_true_eq,List.getElem?_cons_zero,List.getElem?_cons_succ,Nat.reduceBEq,Nat.reduceSub,exists_false,and_false,false_and,xu,List.set_cons_zero,List.set_cons_succ,wrap_i64,int_lt_t,int_lt_f,int_le_t,int_le_f,int_gt_t,int_gt_f,int_ge_t,int_ge_f,int_eq_t,int_eq_f,int_beq_t,int_beq_f,int_bne_t,int_bne_f,nat_le_t,nat_le_f,Nat.sub_zero,Nat.sub_self,not_false_eq_true,not_true_eq_false,la,lb,h1,h3,k55,tx,ty,he',w1,hO.1.isRow,List.replicate,List.length_map]
          exact ⟨A'.length + B'.length, by first | omega | (simp; omega), A', B', out ++ [⟨x.p, true, true⟩], _, _, v', rfl, rfl, by simp at hle ⊢; omega, .inr ⟨ca, tk _ _⟩, .inr ⟨cb, tk _ _⟩, fun z hz => hA' z (by simp [hz]), fun z hz => hB' z (by simp [hz]), w2, hd⟩

end
end Go.Proofs.YtpgmohjmpaifbaaDoor.Im

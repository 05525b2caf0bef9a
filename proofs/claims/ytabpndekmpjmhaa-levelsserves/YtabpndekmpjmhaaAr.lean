/- Joined: S14Ap, S14Aq, S14Ar. -/
import Derived.Test.YtabpndekmpjmhaaSo
/- S14Ap: a state, and what an edit makes of it: the program's. -/
set_option linter.unusedVariables false
set_option linter.unusedSimpArgs false
open Go Go.Im
namespace Go.Proofs.Ytabpndekmpjmhaa.Im

structure Ste where
  tb : List Tb
  sr : List Sr
  lg : List Int
  nx : Int
  deriving DecidableEq

def StAt (h : Hp) (lo : Nat) (s : Ste) (v : AV) : Prop := ∃ tv sv lv, v = .agg [tv, sv, lv, .int .i64 s.nx] ∧ RowAt h 5 lo (s.tb.map tbOf) tv ∧ RowAt h 2 lo (s.sr.map srOf) sv ∧ RowAt h 1 lo (s.lg.map inOf) lv

def KeepLo (lo : Nat) (h h' : Hp) : Prop := h.length ≤ h'.length ∧ ∀ (i : Nat) (o : AO), i < lo → h[i]? = some o → h'[i]? = some o
theorem KeepLo.refl {lo : Nat} {h : Hp} : KeepLo lo h h := ⟨Nat.le_refl _, fun _ _ _ h => h⟩
theorem KeepLo.trans {lo : Nat} {a b c : Hp} (x : KeepLo lo a b) (y : KeepLo lo b c) : KeepLo lo a c := ⟨Nat.le_trans x.1 y.1, fun i o h1 h2 => y.2 i o h1 (x.2 i o h1 h2)⟩
theorem KeepLo.app {lo : Nat} {h : Hp} (m : Hp) : KeepLo lo h (h ++ m) := ⟨by simp, fun i o _ h1 => by rw [List.getElem?_append_left (List.getElem?_eq_some_iff.1 h1).1]; exact h1⟩
theorem KeepR.lo {lo sz : Nat} {h h' : Hp} (k : KeepR lo sz h h') : KeepLo lo h h' := ⟨k.1, fun i o h1 h2 => k.2 i o h2 (.inl h1)⟩
theorem KeepLo.set {lo p : Nat} {h : Hp} {o : AO} (hp : lo ≤ p) : KeepLo lo h (h.set p o) := ⟨by simp, fun i o' h1 h2 => by rw [List.getElem?_set_ne (by omega)]; exact h2⟩
theorem RowAt.set4 {h : Hp} {sz lo p : Nat} {es : List AV} {v : AV} {X : List AV} {o : AO} (r : RowAt h sz lo es v) (hp : h[p]? = some (.row 4 X)) (hne : sz ≠ 4) : RowAt (h.set p o) sz lo es v := by
  rcases r with r | ⟨id, post, r, e, g⟩
  · exact .inl r
  · refine .inr ⟨id, post, r, ?_, g⟩
    rw [List.getElem?_set_ne]
    · exact e
    · rintro rfl
      rw [hp] at e
      cases e
      exact hne rfl

def hasF (s : Ste) (f : Int) : Bool := (s.tb.any fun t => t.f == f) || (s.sr.any fun t => t.f == f) || (s.lg.any fun y => f == y)

def Ste.small (s : Ste) : Prop := s.tb.length ≤ 100000 ∧ s.sr.length ≤ 100000 ∧ s.lg.length ≤ 100000

theorem c18 {tot : Bool} {ω : Nat → Nat} {n : Nat} (s : Ste) (v : AV) (f : Int) (lo : Nat) (h : Hp) (hs : StAt h lo s v) (hz : s.small) (hn : s.tb.length + s.sr.length + s.lg.length + 10 < n) :
    call F n tot ω 18 [v, .int .i64 f] h = some (.bool (hasF s f), h ++ [.row 1 [.int .i64 f]]) := by
  obtain ⟨n, rfl⟩ : ∃ m, n = m + 1 := ⟨n - 1, by omega⟩
  obtain ⟨tv, sv, lv, rfl, r1, r2, r3⟩ := hs
  obtain ⟨z1, z2, z3⟩ := hz
  refine call_eq (fn := a18) f18 ?_
  unfold a18
  have hp : (h ++ [AO.row 1 [AV.int .i64 f]])[h.length]? = some (.row 1 [.int .i64 f]) := by simp
  have e1 := c32 (tot := tot) (ω := ω) (n := n) (B := 1) tv s.tb (fun t => t.f == f) 33 [] [.ptr h.length 1 0 0] lo _ (r1.more (m := [AO.row 1 [AV.int .i64 f]])) (fun m hm x _ => c33 x h.length f _ hp hm) (by omega) (by omega)
  have e2 := c34 (tot := tot) (ω := ω) (n := n) (B := 1) sv s.sr (fun t => t.f == f) 35 [] [.ptr h.length 1 0 0] lo _ (r2.more (m := [AO.row 1 [AV.int .i64 f]])) (fun m hm x _ => c35 x h.length f _ hp hm) (by omega) (by omega)
  have e3 := c36 (tot := tot) (ω := ω) (n := n) lv s.lg f lo _ (r3.more (m := [AO.row 1 [AV.int .i64 f]])) (by omega) (by omega)
  cases h1 : s.tb.any (fun t => t.f == f) with
  | true =>
    rw [h1] at e1
    have : hasF s f = true := by simp [hasF,h1]
    rw [this]
    simp (maxSteps := 2000000) (discharger := omega) only [xz,xc,xo,xr,x0,x1,x2,x3,x4,x5,x6,xd,xe,xb,kont_call,kont_pure,kont_round,isNil,slOk,sliceV,selems,srcElems,copyTo,dlen,eqAV,eqCells,eqS,upd,wr,place,partVals,partEs,placeEs,mapOf,keyOk,keyCells,findK,Bool.bne_false,Bool.bne_true,Reg.isA,Reg.isV,Reg.stays,Reg.onto,↓reduceIte,reduceCtorEq,Nat.reduceEqDiff,Nat.reduceLT,Nat.reduceAdd,Nat.reduceMul,Nat.reduceLeDiff,Nat.zero_lt_succ,Option.bind_some,Option.getD_some,Option.getD_none,Int.cast_ofNat_Int,Int.natCast_zero,Int.natCast_nonneg,true_implies,or_true,true_or,false_or,or_false,beq_self_eq_true,exists_eq_left',Int.reduceEq,Int.reduceLT,Int.reduceLE,Int.reduceGT,Int.reduceGE,Nat.reduceGT,Int.reduceNeg,Int.reduceToNat,Int.reduceAdd,Int.reduceMul,Int.reduceSub,Int.reducePow,decide_eq_true_eq,Nat.reduceBEq,Nat.reduceSub,exists_false,wrap_i64,int_lt_t,int_lt_f,int_le_t,int_le_f,int_gt_t,int_gt_f,int_ge_t,int_ge_f,int_eq_t,int_eq_f,int_beq_t,int_beq_f,int_bne_t,int_bne_f,nat_le_t,nat_le_f,Nat.sub_zero,Nat.sub_self,not_false_eq_true,not_true_eq_false,e1]
  | false =>
    rw [h1] at e1
    cases h2 : s.sr.any (fun t => t.f == f) with
    | true =>
      rw [h2] at e2
      have : hasF s f = true := by simp [hasF,h1,h2]
      rw [this]
      simp (maxSteps := 2000000) (discharger := omega) only [xz,xc,xo,xr,x0,x1,x2,x3,x4,x5,x6,xd,xe,xb,kont_call,kont_pure,kont_round,isNil,slOk,sliceV,selems,srcElems,copyTo,dlen,eqAV,eqCells,eqS,upd,wr,place,partVals,partEs,placeEs,mapOf,keyOk,keyCells,findK,Bool.bne_false,Bool.bne_true,Reg.isA,Reg.isV,Reg.stays,Reg.onto,↓reduceIte,reduceCtorEq,Nat.reduceEqDiff,Nat.reduceLT,Nat.reduceAdd,Nat.reduceMul,Nat.reduceLeDiff,Nat.zero_lt_succ,Option.bind_some,Option.getD_some,Option.getD_none,Int.cast_ofNat_Int,Int.natCast_zero,Int.natCast_nonneg,true_implies,or_true,true_or,false_or,or_false,beq_self_eq_true,exists_eq_left',Int.reduceEq,Int.reduceLT,Int.reduceLE,Int.reduceGT,Int.reduceGE,Nat.reduceGT,Int.reduceNeg,Int.reduceToNat,Int.reduceAdd,Int.reduceMul,Int.reduceSub,Int.reducePow,decide_eq_true_eq,Nat.reduceBEq,Nat.reduceSub,exists_false,wrap_i64,int_lt_t,int_lt_f,int_le_t,int_le_f,int_gt_t,int_gt_f,int_ge_t,int_ge_f,int_eq_t,int_eq_f,int_beq_t,int_beq_f,int_bne_t,int_bne_f,nat_le_t,nat_le_f,Nat.sub_zero,Nat.sub_self,not_false_eq_true,not_true_eq_false,e1,e2]
    | false =>
      rw [h2] at e2
      have : hasF s f = s.lg.any (fun y => f == y) := by simp [hasF,h1,h2]
      rw [this]
      simp (maxSteps := 2000000) (discharger := omega) only [xz,xc,xo,xr,x0,x1,x2,x3,x4,x5,x6,xd,xe,xb,kont_call,kont_pure,kont_round,isNil,slOk,sliceV,selems,srcElems,copyTo,dlen,eqAV,eqCells,eqS,upd,wr,place,partVals,partEs,placeEs,mapOf,keyOk,keyCells,findK,Bool.bne_false,Bool.bne_true,Reg.isA,Reg.isV,Reg.stays,Reg.onto,↓reduceIte,reduceCtorEq,Nat.reduceEqDiff,Nat.reduceLT,Nat.reduceAdd,Nat.reduceMul,Nat.reduceLeDiff,Nat.zero_lt_succ,Option.bind_some,Option.getD_some,Option.getD_none,Int.cast_ofNat_Int,Int.natCast_zero,Int.natCast_nonneg,true_implies,or_true,true_or,false_or,or_false,beq_self_eq_true,exists_eq_left',Int.reduceEq,Int.reduceLT,Int.reduceLE,Int.reduceGT,Int.reduceGE,Nat.reduceGT,Int.reduceNeg,Int.reduceToNat,Int.reduceAdd,Int.reduceMul,Int.reduceSub,Int.reducePow,decide_eq_true_eq,Nat.reduceBEq,Nat.reduceSub,exists_false,wrap_i64,int_lt_t,int_lt_f,int_le_t,int_le_f,int_gt_t,int_gt_f,int_ge_t,int_ge_f,int_eq_t,int_eq_f,int_beq_t,int_beq_f,int_bne_t,int_bne_f,nat_le_t,nat_le_f,Nat.sub_zero,Nat.sub_self,not_false_eq_true,not_true_eq_false,e1,e2,e3,hp]

def sLe (a b : List UInt8) : Bool := Op.bytesLess a b || a == b
def overl (x : Ed) (t : Tb) : Bool := t.l == x.l && (decide (x.l > 0) && (sLe x.lo t.hi && sLe t.lo x.hi))
def badT (x : Ed) : Bool := decide (x.l < 0) || (decide (x.l ≥ 6) || (decide (x.c < 1) || !sLe x.lo x.hi))
def tableF (s : Ste) (x : Ed) : Int := if badT x then 1 else if hasF s x.f then 10 else if s.tb.any (overl x) then 11 else 0

theorem c15 {tot : Bool} {ω : Nat → Nat} {n : Nat} (s : Ste) (v : AV) (x : Ed) (lo : Nat) (h : Hp) (hs : StAt h lo s v) (hz : s.small) (hn : s.tb.length + s.sr.length + s.lg.length + 12 < n) :
    ∃ m, call F n tot ω 15 [v, edOf x] h = some (.int .i64 (tableF s x), h ++ m) := by
  obtain ⟨n, rfl⟩ : ∃ m, n = m + 1 := ⟨n - 1, by omega⟩
  have e1 := c18 (tot := tot) (ω := ω) (n := n) s v x.f lo h hs hz (by omega)
  obtain ⟨tv, sv, lv, rfl, r1, r2, r3⟩ := hs
  obtain ⟨z1, z2, z3⟩ := hz
  suffices hx : ∃ v' h', call F (n + 1) tot ω 15 [.agg [tv, sv, lv, .int .i64 s.nx], edOf x] h = some (v', h') ∧ v' = .int .i64 (tableF s x) ∧ ∃ m, h' = h ++ m by
    obtain ⟨v', h', e1, rfl, m, rfl⟩ := hx
    exact ⟨m, e1⟩
  refine call_of (fn := a15) f15 (P := fun v' h' => v' = .int .i64 (tableF s x) ∧ ∃ m, h' = h ++ m) ?_
  unfold a15 edOf
  have hlen := r1.len
  rw [List.length_map] at hlen
  have same : ∃ m, h = h ++ m := ⟨[], by simp⟩
  have hgt : (!(Op.bytesLess x.lo x.hi || x.lo == x.hi)) = !sLe x.lo x.hi := rfl
  by_cases b1 : x.l < 0
  · have : tableF s x = 1 := by simp [tableF,badT,b1]
    rw [this]
    simp (maxSteps := 2000000) (discharger := omega) only [xz,xc,xo,xr,x0,x1,x2,x3,x4,x5,x6,xd,xe,xb,kont_call,kont_pure,kont_round,isNil,slOk,sliceV,selems,srcElems,copyTo,dlen,eqAV,eqCells,eqS,upd,wr,place,partVals,partEs,placeEs,mapOf,keyOk,keyCells,findK,Bool.bne_false,Bool.bne_true,Reg.isA,Reg.isV,Reg.stays,Reg.onto,↓reduceIte,reduceCtorEq,Nat.reduceEqDiff,Nat.reduceLT,Nat.reduceAdd,Nat.reduceMul,Nat.reduceLeDiff,Nat.zero_lt_succ,Option.bind_some,Option.getD_some,Option.getD_none,Int.cast_ofNat_Int,Int.natCast_zero,Int.natCast_nonneg,true_implies,or_true,true_or,false_or,or_false,beq_self_eq_true,exists_eq_left',Int.reduceEq,Int.reduceLT,Int.reduceLE,Int.reduceGT,Int.reduceGE,Nat.reduceGT,Int.reduceNeg,Int.reduceToNat,Int.reduceAdd,Int.reduceMul,Int.reduceSub,Int.reducePow,decide_eq_true_eq,Nat.reduceBEq,Nat.reduceSub,exists_false,wrap_i64,int_lt_t,int_lt_f,int_le_t,int_le_f,int_gt_t,int_gt_f,int_ge_t,int_ge_f,int_eq_t,int_eq_f,int_beq_t,int_beq_f,int_bne_t,int_bne_f,nat_le_t,nat_le_f,Nat.sub_zero,Nat.sub_self,not_false_eq_true,not_true_eq_false,b1]
    exact same
  by_cases b2 : x.l ≥ 6
  · have : tableF s x = 1 := by simp [tableF,badT,b2]
    rw [this]
    simp (maxSteps := 2000000) (discharger := omega) only [xz,xc,xo,xr,x0,x1,x2,x3,x4,x5,x6,xd,xe,xb,kont_call,kont_pure,kont_round,isNil,slOk,sliceV,selems,srcElems,copyTo,dlen,eqAV,eqCells,eqS,upd,wr,place,partVals,partEs,placeEs,mapOf,keyOk,keyCells,findK,Bool.bne_false,Bool.bne_true,Reg.isA,Reg.isV,Reg.stays,Reg.onto,↓reduceIte,reduceCtorEq,Nat.reduceEqDiff,Nat.reduceLT,Nat.reduceAdd,Nat.reduceMul,Nat.reduceLeDiff,Nat.zero_lt_succ,Option.bind_some,Option.getD_some,Option.getD_none,Int.cast_ofNat_Int,Int.natCast_zero,Int.natCast_nonneg,true_implies,or_true,true_or,false_or,or_false,beq_self_eq_true,exists_eq_left',Int.reduceEq,Int.reduceLT,Int.reduceLE,Int.reduceGT,Int.reduceGE,Nat.reduceGT,Int.reduceNeg,Int.reduceToNat,Int.reduceAdd,Int.reduceMul,Int.reduceSub,Int.reducePow,decide_eq_true_eq,Nat.reduceBEq,Nat.reduceSub,exists_false,wrap_i64,int_lt_t,int_lt_f,int_le_t,int_le_f,int_gt_t,int_gt_f,int_ge_t,int_ge_f,int_eq_t,int_eq_f,int_beq_t,int_beq_f,int_bne_t,int_bne_f,nat_le_t,nat_le_f,Nat.sub_zero,Nat.sub_self,not_false_eq_true,not_true_eq_false,b1,b2]
    exact same
  by_cases b3 : x.c < 1
  · have : tableF s x = 1 := by simp [tableF,badT,b3]
    rw [this]
    simp (maxSteps := 2000000) (discharger := omega) only [xz,xc,xo,xr,x0,x1,x2,x3,x4,x5,x6,xd,xe,xb,kont_call,kont_pure,kont_round,isNil,slOk,sliceV,selems,srcElems,copyTo,dlen,eqAV,eqCells,eqS,upd,wr,place,partVals,partEs,placeEs,mapOf,keyOk,keyCells,findK,Bool.bne_false,Bool.bne_true,Reg.isA,Reg.isV,Reg.stays,Reg.onto,↓reduceIte,reduceCtorEq,Nat.reduceEqDiff,Nat.reduceLT,Nat.reduceAdd,Nat.reduceMul,Nat.reduceLeDiff,Nat.zero_lt_succ,Option.bind_some,Option.getD_some,Option.getD_none,Int.cast_ofNat_Int,Int.natCast_zero,Int.natCast_nonneg,true_implies,or_true,true_or,false_or,or_false,beq_self_eq_true,exists_eq_left',Int.reduceEq,Int.reduceLT,Int.reduceLE,Int.reduceGT,Int.reduceGE,Nat.reduceGT,Int.reduceNeg,Int.reduceToNat,Int.reduceAdd,Int.reduceMul,Int.reduceSub,Int.reducePow,decide_eq_true_eq,Nat.reduceBEq,Nat.reduceSub,exists_false,wrap_i64,int_lt_t,int_lt_f,int_le_t,int_le_f,int_gt_t,int_gt_f,int_ge_t,int_ge_f,int_eq_t,int_eq_f,int_beq_t,int_beq_f,int_bne_t,int_bne_f,nat_le_t,nat_le_f,Nat.sub_zero,Nat.sub_self,not_false_eq_true,not_true_eq_false,b1,b2,b3]
    exact same
  cases b4 : sLe x.lo x.hi with
  | false =>
    have : tableF s x = 1 := by simp [tableF,badT,b4]
    rw [this]
    simp (maxSteps := 2000000) (discharger := omega) only [xz,xc,xo,xr,x0,x1,x2,x3,x4,x5,x6,xd,xe,xb,kont_call,kont_pure,kont_round,isNil,slOk,sliceV,selems,srcElems,copyTo,dlen,eqAV,eqCells,eqS,upd,wr,place,partVals,partEs,placeEs,mapOf,keyOk,keyCells,findK,Bool.bne_false,Bool.bne_true,Reg.isA,Reg.isV,Reg.stays,Reg.onto,↓reduceIte,reduceCtorEq,Nat.reduceEqDiff,Nat.reduceLT,Nat.reduceAdd,Nat.reduceMul,Nat.reduceLeDiff,Nat.zero_lt_succ,Option.bind_some,Option.getD_some,Option.getD_none,Int.cast_ofNat_Int,Int.natCast_zero,Int.natCast_nonneg,true_implies,or_true,true_or,false_or,or_false,beq_self_eq_true,exists_eq_left',Int.reduceEq,Int.reduceLT,Int.reduceLE,Int.reduceGT,Int.reduceGE,Nat.reduceGT,Int.reduceNeg,Int.reduceToNat,Int.reduceAdd,Int.reduceMul,Int.reduceSub,Int.reducePow,decide_eq_true_eq,Nat.reduceBEq,Nat.reduceSub,exists_false,wrap_i64,int_lt_t,int_lt_f,int_le_t,int_le_f,int_gt_t,int_gt_f,int_ge_t,int_ge_f,int_eq_t,int_eq_f,int_beq_t,int_beq_f,int_bne_t,int_bne_f,nat_le_t,nat_le_f,Nat.sub_zero,Nat.sub_self,not_false_eq_true,not_true_eq_false,b1,b2,b3,hgt,b4]
    exact same
  | true =>
    have hbad : badT x = false := by simp [badT,b4]; omega
    cases b5 : hasF s x.f with
    | true =>
      rw [b5] at e1
      have : tableF s x = 10 := by simp [tableF,hbad,b5]
      rw [this]
      simp (maxSteps := 2000000) (discharger := omega) only [xz,xc,xo,xr,x0,x1,x2,x3,x4,x5,x6,xd,xe,xb,kont_call,kont_pure,kont_round,isNil,slOk,sliceV,selems,srcElems,copyTo,dlen,eqAV,eqCells,eqS,upd,wr,place,partVals,partEs,placeEs,mapOf,keyOk,keyCells,findK,Bool.bne_false,Bool.bne_true,Reg.isA,Reg.isV,Reg.stays,Reg.onto,↓reduceIte,reduceCtorEq,Nat.reduceEqDiff,Nat.reduceLT,Nat.reduceAdd,Nat.reduceMul,Nat.reduceLeDiff,Nat.zero_lt_succ,Option.bind_some,Option.getD_some,Option.getD_none,Int.cast_ofNat_Int,Int.natCast_zero,Int.natCast_nonneg,true_implies,or_true,true_or,false_or,or_false,beq_self_eq_true,exists_eq_left',Int.reduceEq,Int.reduceLT,Int.reduceLE,Int.reduceGT,Int.reduceGE,Nat.reduceGT,Int.reduceNeg,Int.reduceToNat,Int.reduceAdd,Int.reduceMul,Int.reduceSub,Int.reducePow,decide_eq_true_eq,Nat.reduceBEq,Nat.reduceSub,exists_false,wrap_i64,int_lt_t,int_lt_f,int_le_t,int_le_f,int_gt_t,int_gt_f,int_ge_t,int_ge_f,int_eq_t,int_eq_f,int_beq_t,int_beq_f,int_bne_t,int_bne_f,nat_le_t,nat_le_f,Nat.sub_zero,Nat.sub_self,not_false_eq_true,not_true_eq_false,b1,b2,b3,hgt,b4,e1]
      exact ⟨_, rfl⟩
    | false =>
      rw [b5] at e1
      simp (maxSteps := 2000000) (discharger := omega) only [xz,xc,xo,xr,x0,x1,x2,x3,x4,x5,x6,xd,xe,xb,kont_call,kont_pure,kont_round,isNil,slOk,sliceV,selems,srcElems,copyTo,dlen,eqAV,eqCells,eqS,upd,wr,place,partVals,partEs,placeEs,mapOf,keyOk,keyCells,findK,Bool.bne_false,Bool.bne_true,Reg.isA,Reg.isV,Reg.stays,Reg.onto,↓reduceIte,reduceCtorEq,Nat.reduceEqDiff,Nat.reduceLT,Nat.reduceAdd,Nat.reduceMul,Nat.reduceLeDiff,Nat.zero_lt_succ,Option.bind_some,Option.getD_some,Option.getD_none,Int.cast_ofNat_Int,Int.natCast_zero,Int.natCast_nonneg,true_implies,or_true,true_or,false_or,or_false,beq_self_eq_true,exists_eq_left',Int.reduceEq,Int.reduceLT,Int.reduceLE,Int.reduceGT,Int.reduceGE,Nat.reduceGT,Int.reduceNeg,Int.reduceToNat,Int.reduceAdd,Int.reduceMul,Int.reduceSub,Int.reducePow,decide_eq_true_eq,Nat.reduceBEq,Nat.reduceSub,exists_false,wrap_i64,int_lt_t,int_lt_f,int_le_t,int_le_f,int_gt_t,int_gt_f,int_ge_t,int_ge_f,int_eq_t,int_eq_f,int_beq_t,int_beq_f,int_bne_t,int_bne_f,nat_le_t,nat_le_f,Nat.sub_zero,Nat.sub_self,not_false_eq_true,not_true_eq_false,b1,b2,b3,hgt,b4,e1,hlen]
      refine wpi_loop (fun k r h' => ∃ i : Nat, r = [(3, .var (edOf x)), (32, .val tv), (33, .val (.int .i64 s.tb.length)), (34, .val (.int .i64 i))] ∧ i ≤ s.tb.length ∧ k = s.tb.length - i ∧ (∀ j (hj : j < s.tb.length), j < i → overl x s.tb[j] = false) ∧ h' = h ++ [.row 1 [.int .i64 x.f]]) s.tb.length (by omega) ⟨0, rfl, by omega, by omega, by omega, rfl⟩ ?_
      rintro k r h' ⟨i, rfl, hi, rfl, hp, rfl⟩
      by_cases hlt : i < s.tb.length
      · obtain ⟨id, post, rfl, e, _⟩ := (r1.more (m := [AO.row 1 [AV.int .i64 x.f]])).row (i := i) (by simpa using hlt)
        have e2 := at_map (f := tbOf) hlt post
        have hin := List.getElem_mem hlt
        generalize hti : s.tb[i] = t at e2 hin
        have s1 : sub (tbOf t) 0 5 true = some (tbOf t) := rfl
        have u1 : upd (.agg [.int .i64 0, .int .i64 0, .int .i64 0, .str [], .str []]) 0 (tbOf t) = some (tbOf t) := rfl
        have hov : overl x t = (t.l == x.l && (decide (x.l > 0) && (sLe x.lo t.hi && sLe t.lo x.hi))) := rfl
        have l1 : (Op.bytesLess x.lo t.hi || x.lo == t.hi) = sLe x.lo t.hi := rfl
        have l2 : (Op.bytesLess t.lo x.hi || t.lo == x.hi) = sLe t.lo x.hi := rfl
        replace e2 : (s.tb.map tbOf ++ post)[i]? = some (.agg [.int .i64 t.f, .int .i64 t.l, .int .i64 t.c, .str t.lo, .str t.hi]) := e2
        have stay : overl x t = false → ∀ j (hj : j < s.tb.length), j < i + 1 → overl x s.tb[j] = false := fun ho j hj hji => by
          by_cases hjj : j = i
          · subst hjj; rw [hti]; exact ho
          · exact hp j hj (by omega)
        unfold edOf
        by_cases q1 : t.l = x.l
        · by_cases q2 : x.l > 0
          · cases q3 : sLe x.lo t.hi with
            | false =>
              have ho : overl x t = false := by simp [hov,q3]
              simp (maxSteps := 2000000) (discharger := omega) only [xz,xc,xo,xr,x0,x1,x2,x3,x4,x5,x6,xd,xe,xb,kont_call,kont_pure,kont_round,isNil,slOk,sliceV,selems,srcElems,copyTo,dlen,eqAV,eqCells,eqS,upd,wr,place,partVals,partEs,placeEs,mapOf,keyOk,keyCells,findK,Bool.bne_false,Bool.bne_true,Reg.isA,Reg.isV,Reg.stays,Reg.onto,↓reduceIte,reduceCtorEq,Nat.reduceEqDiff,Nat.reduceLT,Nat.reduceAdd,Nat.reduceMul,Nat.reduceLeDiff,Nat.zero_lt_succ,Option.bind_some,Option.getD_some,Option.getD_none,Int.cast_ofNat_Int,Int.natCast_zero,Int.natCast_nonneg,true_implies,or_true,true_or,false_or,or_false,beq_self_eq_true,exists_eq_left',Int.reduceEq,Int.reduceLT,Int.reduceLE,Int.reduceGT,Int.reduceGE,Nat.reduceGT,Int.reduceNeg,Int.reduceToNat,Int.reduceAdd,Int.reduceMul,Int.reduceSub,Int.reducePow,decide_eq_true_eq,Nat.reduceBEq,Nat.reduceSub,exists_false,wrap_i64,int_lt_t,int_lt_f,int_le_t,int_le_f,int_gt_t,int_gt_f,int_ge_t,int_ge_f,int_eq_t,int_eq_f,int_beq_t,int_beq_f,int_bne_t,int_bne_f,nat_le_t,nat_le_f,Nat.sub_zero,Nat.sub_self,not_false_eq_true,not_true_eq_false,e,e2,q1,q2,l1,l2,q3,List.length_map]
              exact ⟨s.tb.length - (i + 1), by omega, i + 1, rfl, by omega, rfl, stay ho⟩
            | true =>
              cases q4 : sLe t.lo x.hi with
              | false =>
                have ho : overl x t = false := by simp [hov,q4]
                simp (maxSteps := 2000000) (discharger := omega) only [xz,xc,xo,xr,x0,x1,x2,x3,x4,x5,x6,xd,xe,xb,kont_call,kont_pure,kont_round,isNil,slOk,sliceV,selems,srcElems,copyTo,dlen,eqAV,eqCells,eqS,upd,wr,place,partVals,partEs,placeEs,mapOf,keyOk,keyCells,findK,Bool.bne_false,Bool.bne_true,Reg.isA,Reg.isV,Reg.stays,Reg.onto,↓reduceIte,reduceCtorEq,Nat.reduceEqDiff,Nat.reduceLT,Nat.reduceAdd,Nat.reduceMul,Nat.reduceLeDiff,Nat.zero_lt_succ,Option.bind_some,Option.getD_some,Option.getD_none,Int.cast_ofNat_Int,Int.natCast_zero,Int.natCast_nonneg,true_implies,or_true,true_or,false_or,or_false,beq_self_eq_true,exists_eq_left',Int.reduceEq,Int.reduceLT,Int.reduceLE,Int.reduceGT,Int.reduceGE,Nat.reduceGT,Int.reduceNeg,Int.reduceToNat,Int.reduceAdd,Int.reduceMul,Int.reduceSub,Int.reducePow,decide_eq_true_eq,Nat.reduceBEq,Nat.reduceSub,exists_false,wrap_i64,int_lt_t,int_lt_f,int_le_t,int_le_f,int_gt_t,int_gt_f,int_ge_t,int_ge_f,int_eq_t,int_eq_f,int_beq_t,int_beq_f,int_bne_t,int_bne_f,nat_le_t,nat_le_f,Nat.sub_zero,Nat.sub_self,not_false_eq_true,not_true_eq_false,e,e2,q1,q2,l1,l2,q3,q4,List.length_map]
                exact ⟨s.tb.length - (i + 1), by omega, i + 1, rfl, by omega, rfl, stay ho⟩
              | true =>
                have ho : overl x t = true := by simp [hov,q1,q2,q3,q4]
                have : tableF s x = 11 := by
                  have h0 : s.tb.any (overl x) = true := List.any_eq_true.2 ⟨t, hin, ho⟩
                  simp [tableF,hbad,b5,h0]
                rw [this]
                simp (maxSteps := 2000000) (discharger := omega) only [xz,xc,xo,xr,x0,x1,x2,x3,x4,x5,x6,xd,xe,xb,kont_call,kont_pure,kont_round,isNil,slOk,sliceV,selems,srcElems,copyTo,dlen,eqAV,eqCells,eqS,upd,wr,place,partVals,partEs,placeEs,mapOf,keyOk,keyCells,findK,Bool.bne_false,Bool.bne_true,Reg.isA,Reg.isV,Reg.stays,Reg.onto,↓reduceIte,reduceCtorEq,Nat.reduceEqDiff,Nat.reduceLT,Nat.reduceAdd,Nat.reduceMul,Nat.reduceLeDiff,Nat.zero_lt_succ,Option.bind_some,Option.getD_some,Option.getD_none,Int.cast_ofNat_Int,Int.natCast_zero,Int.natCast_nonneg,true_implies,or_true,true_or,false_or,or_false,beq_self_eq_true,exists_eq_left',Int.reduceEq,Int.reduceLT,Int.reduceLE,Int.reduceGT,Int.reduceGE,Nat.reduceGT,Int.reduceNeg,Int.reduceToNat,Int.reduceAdd,Int.reduceMul,Int.reduceSub,Int.reducePow,decide_eq_true_eq,Nat.reduceBEq,Nat.reduceSub,exists_false,wrap_i64,int_lt_t,int_lt_f,int_le_t,int_le_f,int_gt_t,int_gt_f,int_ge_t,int_ge_f,int_eq_t,int_eq_f,int_beq_t,int_beq_f,int_bne_t,int_bne_f,nat_le_t,nat_le_f,Nat.sub_zero,Nat.sub_self,not_false_eq_true,not_true_eq_false,e,e2,q1,q2,l1,l2,q3,q4,List.length_map]
                exact ⟨_, rfl⟩
          · have ho : overl x t = false := by simp [hov,q2]
            simp (maxSteps := 2000000) (discharger := omega) only [xz,xc,xo,xr,x0,x1,x2,x3,x4,x5,x6,xd,xe,xb,kont_call,kont_pure,kont_round,isNil,slOk,sliceV,selems,srcElems,copyTo,dlen,eqAV,eqCells,eqS,upd,wr,place,partVals,partEs,placeEs,mapOf,keyOk,keyCells,findK,Bool.bne_false,Bool.bne_true,Reg.isA,Reg.isV,Reg.stays,Reg.onto,↓reduceIte,reduceCtorEq,Nat.reduceEqDiff,Nat.reduceLT,Nat.reduceAdd,Nat.reduceMul,Nat.reduceLeDiff,Nat.zero_lt_succ,Option.bind_some,Option.getD_some,Option.getD_none,Int.cast_ofNat_Int,Int.natCast_zero,Int.natCast_nonneg,true_implies,or_true,true_or,false_or,or_false,beq_self_eq_true,exists_eq_left',Int.reduceEq,Int.reduceLT,Int.reduceLE,Int.reduceGT,Int.reduceGE,Nat.reduceGT,Int.reduceNeg,Int.reduceToNat,Int.reduceAdd,Int.reduceMul,Int.reduceSub,Int.reducePow,decide_eq_true_eq,Nat.reduceBEq,Nat.reduceSub,exists_false,wrap_i64,int_lt_t,int_lt_f,int_le_t,int_le_f,int_gt_t,int_gt_f,int_ge_t,int_ge_f,int_eq_t,int_eq_f,int_beq_t,int_beq_f,int_bne_t,int_bne_f,nat_le_t,nat_le_f,Nat.sub_zero,Nat.sub_self,not_false_eq_true,not_true_eq_false,e,e2,q1,q2,List.length_map]
            exact ⟨s.tb.length - (i + 1), by omega, i + 1, rfl, by omega, rfl, stay ho⟩
        · have ho : overl x t = false := by simp [hov,q1]
          simp (maxSteps := 2000000) (discharger := omega) only [xz,xc,xo,xr,x0,x1,x2,x3,x4,x5,x6,xd,xe,xb,kont_call,kont_pure,kont_round,isNil,slOk,sliceV,selems,srcElems,copyTo,dlen,eqAV,eqCells,eqS,upd,wr,place,partVals,partEs,placeEs,mapOf,keyOk,keyCells,findK,Bool.bne_false,Bool.bne_true,Reg.isA,Reg.isV,Reg.stays,Reg.onto,↓reduceIte,reduceCtorEq,Nat.reduceEqDiff,Nat.reduceLT,Nat.reduceAdd,Nat.reduceMul,Nat.reduceLeDiff,Nat.zero_lt_succ,Option.bind_some,Option.getD_some,Option.getD_none,Int.cast_ofNat_Int,Int.natCast_zero,Int.natCast_nonneg,true_implies,or_true,true_or,false_or,or_false,beq_self_eq_true,exists_eq_left',Int.reduceEq,Int.reduceLT,Int.reduceLE,Int.reduceGT,Int.reduceGE,Nat.reduceGT,Int.reduceNeg,Int.reduceToNat,Int.reduceAdd,Int.reduceMul,Int.reduceSub,Int.reducePow,decide_eq_true_eq,Nat.reduceBEq,Nat.reduceSub,exists_false,wrap_i64,int_lt_t,int_lt_f,int_le_t,int_le_f,int_gt_t,int_gt_f,int_ge_t,int_ge_f,int_eq_t,int_eq_f,int_beq_t,int_beq_f,int_bne_t,int_bne_f,nat_le_t,nat_le_f,Nat.sub_zero,Nat.sub_self,not_false_eq_true,not_true_eq_false,e,e2,q1,List.length_map]
          exact ⟨s.tb.length - (i + 1), by omega, i + 1, rfl, by omega, rfl, stay ho⟩
      · have : tableF s x = 0 := by
          have h0 : s.tb.any (overl x) = false := by
            rw [List.any_eq_false]
            intro y hy
            obtain ⟨j, hj, rfl⟩ := List.getElem_of_mem hy
            simp [hp j hj (by omega)]
          simp [tableF,hbad,b5,h0]
        rw [this]
        unfold edOf
        simp (maxSteps := 2000000) (discharger := omega) only [xz,xc,xo,xr,x0,x1,x2,x3,x4,x5,x6,xd,xe,xb,kont_call,kont_pure,kont_round,isNil,slOk,sliceV,selems,srcElems,copyTo,dlen,eqAV,eqCells,eqS,upd,wr,place,partVals,partEs,placeEs,mapOf,keyOk,keyCells,findK,Bool.bne_false,Bool.bne_true,Reg.isA,Reg.isV,Reg.stays,Reg.onto,↓reduceIte,reduceCtorEq,Nat.reduceEqDiff,Nat.reduceLT,Nat.reduceAdd,Nat.reduceMul,Nat.reduceLeDiff,Nat.zero_lt_succ,Option.bind_some,Option.getD_some,Option.getD_none,Int.cast_ofNat_Int,Int.natCast_zero,Int.natCast_nonneg,true_implies,or_true,true_or,false_or,or_false,beq_self_eq_true,exists_eq_left',Int.reduceEq,Int.reduceLT,Int.reduceLE,Int.reduceGT,Int.reduceGE,Nat.reduceGT,Int.reduceNeg,Int.reduceToNat,Int.reduceAdd,Int.reduceMul,Int.reduceSub,Int.reducePow,decide_eq_true_eq,Nat.reduceBEq,Nat.reduceSub,exists_false,wrap_i64,int_lt_t,int_lt_f,int_le_t,int_le_f,int_gt_t,int_gt_f,int_ge_t,int_ge_f,int_eq_t,int_eq_f,int_beq_t,int_beq_f,int_bne_t,int_bne_f,nat_le_t,nat_le_f,Nat.sub_zero,Nat.sub_self,not_false_eq_true,not_true_eq_false,hlen]
        exact ⟨_, rfl⟩
end Go.Proofs.Ytabpndekmpjmhaa.Im

/- S14Aq: what an edit makes of a state: the program's, by kinds. -/
set_option linter.unusedVariables false
set_option linter.unusedSimpArgs false
open Go Go.Im
namespace Go.Proofs.Ytabpndekmpjmhaa.Im

def errF (s : Ste) (x : Ed) : Int :=
  if x.k = 1 then (if x.f < 1 then 1 else tableF s x) else
  if x.k = 3 then (if x.f < 1 then 1 else if x.l ≠ 0 ∧ x.l ≠ 1 then 1 else if hasF s x.f then 10 else 0) else
  if x.k = 5 then (if x.f < 1 then 1 else if hasF s x.f then 10 else 0) else
  if x.k = 7 then (if x.f < 1 then 1 else if x.f < s.nx then 1 else 0) else
  if x.k = 2 then (if idxOf (fun t => t.f == x.f) s.tb < 0 then 9 else 0) else
  if x.k = 4 then (if idxOf (fun t => t.f == x.f) s.sr < 0 then 9 else 0) else
  if x.k = 6 then (if idxOf (fun y => x.f == y) s.lg < 0 then 9 else 0) else 1

def edT (x : Ed) : Tb := ⟨x.f, x.l, x.c, x.lo, x.hi⟩

def stepR (s : Ste) (x : Ed) (s' : Ste) : Prop :=
  if x.k = 1 then s'.tb.Perm (s.tb ++ [edT x]) ∧ (s'.tb.Pairwise fun x y => ltT y x = false) ∧ s'.sr = s.sr ∧ s'.lg = s.lg ∧ s'.nx = s.nx else
  if x.k = 3 then s'.sr.Perm (s.sr ++ [⟨x.f, x.l⟩]) ∧ (s'.sr.Pairwise fun x y => ltS y x = false) ∧ s'.tb = s.tb ∧ s'.lg = s.lg ∧ s'.nx = s.nx else
  if x.k = 5 then s' = { s with lg := s.lg ++ [x.f] } else
  if x.k = 7 then s' = { s with nx := x.f } else
  if x.k = 2 then s' = { s with tb := s.tb.eraseIdx (idxOf (fun t => t.f == x.f) s.tb).toNat } else
  if x.k = 4 then s' = { s with sr := s.sr.eraseIdx (idxOf (fun t => t.f == x.f) s.sr).toNat } else
  s' = { s with lg := s.lg.eraseIdx (idxOf (fun y => x.f == y) s.lg).toNat }

def ApPost (s : Ste) (x : Ed) (p lo : Nat) (h : Hp) (v' : AV) (h' : Hp) : Prop :=
  v' = .int .i64 (errF s x) ∧ KeepLo lo h h' ∧ (errF s x = 0 → ∃ s' u, h'[p]? = some (.row 4 [u]) ∧ StAt h' lo s' u ∧ stepR s x s')

theorem get_app_lt {h m : Hp} {p : Nat} {o : AO} (e : h[p]? = some o) : (h ++ m)[p]? = some o := by
  rw [List.getElem?_append_left (List.getElem?_eq_some_iff.1 e).1]; exact e

theorem erase_map {α β : Type} (f : α → β) (l : List α) (i : Nat) : (l.map f).eraseIdx i = (l.eraseIdx i).map f := by
  rw [List.eraseIdx_eq_take_drop_succ, List.eraseIdx_eq_take_drop_succ, List.map_append, List.map_take, List.map_drop]

section
variable {tot : Bool} {ω : Nat → Nat} {n : Nat} (s : Ste) (v : AV) (x : Ed) (p lo : Nat) (h : Hp)

set_option maxRecDepth 100000 in
set_option maxHeartbeats 8000000 in
theorem c14_1 (hk : x.k = 1) (hs : StAt h lo s v) (hz : s.small) (hp : h[p]? = some (.row 4 [v])) (hlo : lo ≤ p) (hok : ∀ t ∈ s.tb, t.ok) (hxf : x.f ≤ 9223372036854775807) (hn : 2 * s.tb.length + s.sr.length + s.lg.length + 40 < n) :
    ∃ v' h', call F (n + 1) tot ω 14 [.ptr p 4 0 0, edOf x] h = some (v', h') ∧ ApPost s x p lo h v' h' := by
  refine call_of (fn := a14) f14 (P := ApPost s x p lo h) ?_
  have hlt := (List.getElem?_eq_some_iff.1 hp).1
  have hp1 := get_app_lt (m := [AO.row 6 [edOf x]]) hp
  have hx1 : (h ++ [AO.row 6 [edOf x]])[h.length]? = some (.row 6 [edOf x]) := by simp
  have hs1 : StAt (h ++ [AO.row 6 [edOf x]]) lo s v := by
    obtain ⟨tv, sv, lv, rfl, r1, r2, r3⟩ := hs
    exact ⟨tv, sv, lv, rfl, r1.more, r2.more, r3.more⟩
  obtain ⟨m, e51⟩ := c15 (tot := tot) (ω := ω) (n := n) s v x lo _ hs1 hz (by omega)
  have hp2 := get_app_lt (m := m) hp1
  have hx2 := get_app_lt (m := m) hx1
  obtain ⟨tv, sv, lv, rfl, r1, r2, r3⟩ := hs1
  have q1 := r1.more (m := m)
  have q2 := r2.more (m := m)
  have q3 := r3.more (m := m)
  obtain ⟨z1, z2, z3⟩ := hz
  have herr : errF s x = if x.f < 1 then 1 else tableF s x := by simp [errF,hk]
  have hst : ∀ s', stepR s x s' = (s'.tb.Perm (s.tb ++ [edT x]) ∧ (s'.tb.Pairwise fun x y => ltT y x = false) ∧ s'.sr = s.sr ∧ s'.lg = s.lg ∧ s'.nx = s.nx) := fun s' => by simp only [stepR,hk,if_true]
  rw [show ApPost s x p lo h = fun v' h' => v' = .int .i64 (errF s x) ∧ KeepLo lo h h' ∧ (errF s x = 0 → ∃ (s' : Ste) (u : AV), h'[p]? = some (.row 4 [u]) ∧ StAt h' lo s' u ∧ (s'.tb.Perm (s.tb ++ [edT x]) ∧ (s'.tb.Pairwise fun x y => ltT y x = false) ∧ s'.sr = s.sr ∧ s'.lg = s.lg ∧ s'.nx = s.nx)) from by funext v' h'; simp only [ApPost,hst]]
  generalize hg2 : h ++ [AO.row 6 [edOf x]] ++ m = g2 at *
  have hk2 : KeepLo lo h g2 := by rw [← hg2]; exact (KeepLo.app _).trans (.app _)
  have hk1 : KeepLo lo h (h ++ [AO.row 6 [edOf x]]) := .app _
  have hle : h.length ≤ g2.length := hk2.1
  unfold a14 edOf
  unfold edOf at hx1 hx2 hp1 e51 hk1
  rw [hk] at hx1 hx2 hp1 e51 hk1
  by_cases b1 : x.f < 1
  · rw [if_pos b1] at herr
    rw [herr]
    simp (maxSteps := 2000000) (discharger := omega) only [xz,xc,xo,xr,x0,x1,x2,x3,x4,x5,x6,xd,xe,xb,kont_call,kont_pure,kont_round,isNil,slOk,sliceV,selems,srcElems,copyTo,dlen,eqAV,eqCells,eqS,wr,place,partVals,partEs,placeEs,mapOf,keyOk,keyCells,findK,Bool.bne_false,Bool.bne_true,Reg.isA,Reg.isV,Reg.stays,Reg.onto,↓reduceIte,reduceCtorEq,Nat.reduceEqDiff,Nat.reduceLT,Nat.reduceAdd,Nat.reduceMul,Nat.reduceLeDiff,Nat.zero_lt_succ,Option.bind_some,Option.getD_some,Option.getD_none,Int.cast_ofNat_Int,Int.natCast_zero,Int.natCast_nonneg,true_implies,or_true,true_or,false_or,or_false,beq_self_eq_true,exists_eq_left',Int.reduceEq,Int.reduceLT,Int.reduceLE,Int.reduceGT,Int.reduceGE,Nat.reduceGT,Int.reduceNeg,Int.reduceToNat,Int.reduceAdd,Int.reduceMul,Int.reduceSub,Int.reducePow,decide_eq_true_eq,Nat.reduceBEq,Nat.reduceSub,exists_false,xu,List.set_cons_zero,List.set_cons_succ,wrap_i64,int_lt_t,int_lt_f,int_le_t,int_le_f,int_gt_t,int_gt_f,int_ge_t,int_ge_f,int_eq_t,int_eq_f,int_beq_t,int_beq_f,int_bne_t,int_bne_f,nat_le_t,nat_le_f,Nat.sub_zero,Nat.sub_self,not_false_eq_true,not_true_eq_false,hk,hx1,b1]
    exact ⟨hk1, fun h => by simp at h⟩
  rw [if_neg b1] at herr
  rw [herr]
  by_cases b2 : tableF s x = 0
  · have hp2b := get_app_lt (m := [AO.row 5 [tbOf (edT x)]]) hp2
    have hl5 : (g2 ++ [AO.row 5 [tbOf (edT x)]])[g2.length]? = some (.row 5 [tbOf (edT x)]) := by simp
    have q1 := q1.more (m := [AO.row 5 [tbOf (edT x)]])
    have q2 := q2.more (m := [AO.row 5 [tbOf (edT x)]])
    have q3 := q3.more (m := [AO.row 5 [tbOf (edT x)]])
    have hkl : KeepLo lo h (g2 ++ [AO.row 5 [tbOf (edT x)]]) := hk2.trans (.app _)
    obtain ⟨tv', g3, a1, a2, a3⟩ := row_app (bytes := 56) (x := tbOf (edT x)) q1 (by rw [List.length_map]; omega) (by simp; omega)
    have hp3 := a3.2 p _ hp2b (.inr fun es h => by cases h)
    have hu := a2.updA
    have hbt : tableF s x = 0 := b2
    have a2' : RowAt g3 5 lo ((s.tb ++ [edT x]).map tbOf) tv' := by rw [List.map_append]; exact a2
    have hlt3 := (List.getElem?_eq_some_iff.1 hp3).1
    have w1 := RowAt.set4 a2' (o := .row 4 [.agg [tv', sv, lv, .int .i64 s.nx]]) hp3 (by omega)
    have w2 := RowAt.set4 (q2.keep a3 (by omega)) (o := .row 4 [.agg [tv', sv, lv, .int .i64 s.nx]]) hp3 (by omega)
    have w3 := RowAt.set4 (q3.keep a3 (by omega)) (o := .row 4 [.agg [tv', sv, lv, .int .i64 s.nx]]) hp3 (by omega)
    have hxok : (edT x).ok := by
      simp only [tableF] at b2
      split at b2
      · cases b2
      · rename_i hb
        simp [badT] at hb
        exact ⟨by simp [edT]; omega, by simp [edT]; omega, by simp [edT]; omega, hxf⟩
    obtain ⟨g5, l', k1, k2, k3, k4, k5⟩ := c16 (tot := tot) (ω := ω) (n := n) tv' (s.tb ++ [edT x]) lo _ w1 (by simp) (fun t ht => by
      rw [List.mem_append] at ht
      rcases ht with ht | ht
      · exact hok t ht
      · simp at ht; subst ht; exact hxok) (by simp; omega) (by simp; omega)
    have hp4 : (g3.set p (.row 4 [.agg [tv', sv, lv, .int .i64 s.nx]]))[p]? = some (.row 4 [.agg [tv', sv, lv, .int .i64 s.nx]]) := by simp [hlt3]
    have hp5 := k3.2 p _ hp4 (.inr fun es h => by cases h)
    have hto : tbOf (edT x) = .agg [.int .i64 x.f, .int .i64 x.l, .int .i64 x.c, .str x.lo, .str x.hi] := rfl
    rw [hto] at a1 hl5 hp2b
    have ht1 := q1.notTup
    have ht2 := q1.subv 1
    have ht3 := a2.notTup
    have ht4 := a2.cells
    have ht5 := a2.subv 1
    rw [hbt] at e51
    simp (maxSteps := 2000000) (discharger := omega) only [xz,xc,xo,xr,x0,x1,x2,x3,x4,x5,x6,xd,xe,xb,kont_call,kont_pure,kont_round,isNil,slOk,sliceV,selems,srcElems,copyTo,dlen,eqAV,eqCells,eqS,wr,place,partVals,partEs,placeEs,mapOf,keyOk,keyCells,findK,Bool.bne_false,Bool.bne_true,Reg.isA,Reg.isV,Reg.stays,Reg.onto,↓reduceIte,reduceCtorEq,Nat.reduceEqDiff,Nat.reduceLT,Nat.reduceAdd,Nat.reduceMul,Nat.reduceLeDiff,Nat.zero_lt_succ,Option.bind_some,Option.getD_some,Option.getD_none,Int.cast_ofNat_Int,Int.natCast_zero,Int.natCast_nonneg,true_implies,or_true,true_or,false_or,or_false,beq_self_eq_true,exists_eq_left',Int.reduceEq,Int.reduceLT,Int.reduceLE,Int.reduceGT,Int.reduceGE,Nat.reduceGT,Int.reduceNeg,Int.reduceToNat,Int.reduceAdd,Int.reduceMul,Int.reduceSub,Int.reducePow,decide_eq_true_eq,Nat.reduceBEq,Nat.reduceSub,exists_false,xu,List.set_cons_zero,List.set_cons_succ,wrap_i64,int_lt_t,int_lt_f,int_le_t,int_le_f,int_gt_t,int_gt_f,int_ge_t,int_ge_f,int_eq_t,int_eq_f,int_beq_t,int_beq_f,int_bne_t,int_bne_f,nat_le_t,nat_le_f,Nat.sub_zero,Nat.sub_self,not_false_eq_true,not_true_eq_false,hk,hx1,hx2,hp1,hp2,b1,e51,a1,hp2b,hl5,hp3,hu,hp4,k1,ht2,ht3,ht4,ht5,List.replicate_succ,List.replicate_zero]
    exact ⟨by rw [b2], hkl.trans ((KeepR.lo a3).trans ((KeepLo.set hlo).trans (KeepR.lo k3))), ⟨l', s.sr, s.lg, s.nx⟩, _, hp5, ⟨tv', sv, lv, rfl, k2, w2.keep k3 (by omega), w3.keep k3 (by omega)⟩, k4, k5, rfl, rfl, rfl⟩
  · simp (maxSteps := 2000000) (discharger := omega) only [xz,xc,xo,xr,x0,x1,x2,x3,x4,x5,x6,xd,xe,xb,kont_call,kont_pure,kont_round,isNil,slOk,sliceV,selems,srcElems,copyTo,dlen,eqAV,eqCells,eqS,wr,place,partVals,partEs,placeEs,mapOf,keyOk,keyCells,findK,Bool.bne_false,Bool.bne_true,Reg.isA,Reg.isV,Reg.stays,Reg.onto,↓reduceIte,reduceCtorEq,Nat.reduceEqDiff,Nat.reduceLT,Nat.reduceAdd,Nat.reduceMul,Nat.reduceLeDiff,Nat.zero_lt_succ,Option.bind_some,Option.getD_some,Option.getD_none,Int.cast_ofNat_Int,Int.natCast_zero,Int.natCast_nonneg,true_implies,or_true,true_or,false_or,or_false,beq_self_eq_true,exists_eq_left',Int.reduceEq,Int.reduceLT,Int.reduceLE,Int.reduceGT,Int.reduceGE,Nat.reduceGT,Int.reduceNeg,Int.reduceToNat,Int.reduceAdd,Int.reduceMul,Int.reduceSub,Int.reducePow,decide_eq_true_eq,Nat.reduceBEq,Nat.reduceSub,exists_false,xu,List.set_cons_zero,List.set_cons_succ,wrap_i64,int_lt_t,int_lt_f,int_le_t,int_le_f,int_gt_t,int_gt_f,int_ge_t,int_ge_f,int_eq_t,int_eq_f,int_beq_t,int_beq_f,int_bne_t,int_bne_f,nat_le_t,nat_le_f,Nat.sub_zero,Nat.sub_self,not_false_eq_true,not_true_eq_false,hk,hx1,hx2,hp1,hp2,b1,e51,b2]
    first | exact ⟨hk2, fun h => absurd h b2⟩ | exact ⟨hk2, fun h => h.elim⟩

set_option maxRecDepth 100000 in
set_option maxHeartbeats 8000000 in
theorem c14_3 (hk : x.k = 3) (hs : StAt h lo s v) (hz : s.small) (hp : h[p]? = some (.row 4 [v])) (hlo : lo ≤ p) (hok : ∀ t ∈ s.sr, t.ok) (hxf : x.f ≤ 9223372036854775807) (hn : s.tb.length + 2 * s.sr.length + s.lg.length + 40 < n) :
    ∃ v' h', call F (n + 1) tot ω 14 [.ptr p 4 0 0, edOf x] h = some (v', h') ∧ ApPost s x p lo h v' h' := by
  refine call_of (fn := a14) f14 (P := ApPost s x p lo h) ?_
  have hlt := (List.getElem?_eq_some_iff.1 hp).1
  have hp1 := get_app_lt (m := [AO.row 6 [edOf x]]) hp
  have hx1 : (h ++ [AO.row 6 [edOf x]])[h.length]? = some (.row 6 [edOf x]) := by simp
  have hs1 : StAt (h ++ [AO.row 6 [edOf x]]) lo s v := by
    obtain ⟨tv, sv, lv, rfl, r1, r2, r3⟩ := hs
    exact ⟨tv, sv, lv, rfl, r1.more, r2.more, r3.more⟩
  have e54 := c18 (tot := tot) (ω := ω) (n := n) s v x.f lo _ hs1 hz (by omega)
  have hp2 := get_app_lt (m := [AO.row 1 [.int .i64 x.f]]) hp1
  have hx2 := get_app_lt (m := [AO.row 1 [.int .i64 x.f]]) hx1
  obtain ⟨tv, sv, lv, rfl, r1, r2, r3⟩ := hs1
  obtain ⟨z1, z2, z3⟩ := hz
  have q1 := r1.more (m := [AO.row 1 [.int .i64 x.f]])
  have q2 := r2.more (m := [AO.row 1 [.int .i64 x.f]])
  have q3 := r3.more (m := [AO.row 1 [.int .i64 x.f]])
  have herr : errF s x = if x.f < 1 then 1 else if x.l ≠ 0 ∧ x.l ≠ 1 then 1 else if hasF s x.f then 10 else 0 := by simp [errF,hk]
  have hst : ∀ s', stepR s x s' = (s'.sr.Perm (s.sr ++ [⟨x.f, x.l⟩]) ∧ (s'.sr.Pairwise fun x y => ltS y x = false) ∧ s'.tb = s.tb ∧ s'.lg = s.lg ∧ s'.nx = s.nx) := fun s' => by simp [stepR,hk]
  rw [show ApPost s x p lo h = fun v' h' => v' = .int .i64 (errF s x) ∧ KeepLo lo h h' ∧ (errF s x = 0 → ∃ (s' : Ste) (u : AV), h'[p]? = some (.row 4 [u]) ∧ StAt h' lo s' u ∧ (s'.sr.Perm (s.sr ++ [⟨x.f, x.l⟩]) ∧ (s'.sr.Pairwise fun x y => ltS y x = false) ∧ s'.tb = s.tb ∧ s'.lg = s.lg ∧ s'.nx = s.nx)) from by funext v' h'; simp only [ApPost,hst]]
  generalize hg2 : h ++ [AO.row 6 [edOf x]] ++ [AO.row 1 [.int .i64 x.f]] = g2 at *
  have hk2 : KeepLo lo h g2 := by rw [← hg2]; exact (KeepLo.app _).trans (.app _)
  have hk1 : KeepLo lo h (h ++ [AO.row 6 [edOf x]]) := .app _
  have hle : h.length ≤ g2.length := hk2.1
  unfold a14 edOf
  unfold edOf at hx1 hx2 hp1 e54 hk1
  rw [hk] at hx1 hx2 hp1 e54 hk1
  by_cases b1 : x.f < 1
  · rw [if_pos b1] at herr
    rw [herr]
    simp (maxSteps := 2000000) (discharger := omega) only [xz,xc,xo,xr,x0,x1,x2,x3,x4,x5,x6,xd,xe,xb,kont_call,kont_pure,kont_round,isNil,slOk,sliceV,selems,srcElems,copyTo,dlen,eqAV,eqCells,eqS,wr,place,partVals,partEs,placeEs,mapOf,keyOk,keyCells,findK,Bool.bne_false,Bool.bne_true,Reg.isA,Reg.isV,Reg.stays,Reg.onto,↓reduceIte,reduceCtorEq,Nat.reduceEqDiff,Nat.reduceLT,Nat.reduceAdd,Nat.reduceMul,Nat.reduceLeDiff,Nat.zero_lt_succ,Option.bind_some,Option.getD_some,Option.getD_none,Int.cast_ofNat_Int,Int.natCast_zero,Int.natCast_nonneg,true_implies,or_true,true_or,false_or,or_false,beq_self_eq_true,exists_eq_left',Int.reduceEq,Int.reduceLT,Int.reduceLE,Int.reduceGT,Int.reduceGE,Nat.reduceGT,Int.reduceNeg,Int.reduceToNat,Int.reduceAdd,Int.reduceMul,Int.reduceSub,Int.reducePow,decide_eq_true_eq,Nat.reduceBEq,Nat.reduceSub,exists_false,xu,List.set_cons_zero,List.set_cons_succ,wrap_i64,int_lt_t,int_lt_f,int_le_t,int_le_f,int_gt_t,int_gt_f,int_ge_t,int_ge_f,int_eq_t,int_eq_f,int_beq_t,int_beq_f,int_bne_t,int_bne_f,nat_le_t,nat_le_f,Nat.sub_zero,Nat.sub_self,not_false_eq_true,not_true_eq_false,hk,hx1,b1]
    exact ⟨hk1, fun h => by simp at h⟩
  rw [if_neg b1] at herr
  have bad : x.l ≠ 0 ∧ x.l ≠ 1 → Wp (kont F n tot ω) n a14.body (initRegs 0 [.ptr p 4 0 0, .agg [.int .i64 x.k, .int .i64 x.f, .int .i64 x.l, .int .i64 x.c, .str x.lo, .str x.hi]]) h (Ret a14.results fun v' h' => v' = .int .i64 1 ∧ KeepLo lo h h') := by
    rintro ⟨c1, c2⟩
    unfold a14
    simp (maxSteps := 2000000) (discharger := omega) only [xz,xc,xo,xr,x0,x1,x2,x3,x4,x5,x6,xd,xe,xb,kont_call,kont_pure,kont_round,isNil,slOk,sliceV,selems,srcElems,copyTo,dlen,eqAV,eqCells,eqS,wr,place,partVals,partEs,placeEs,mapOf,keyOk,keyCells,findK,Bool.bne_false,Bool.bne_true,Reg.isA,Reg.isV,Reg.stays,Reg.onto,↓reduceIte,reduceCtorEq,Nat.reduceEqDiff,Nat.reduceLT,Nat.reduceAdd,Nat.reduceMul,Nat.reduceLeDiff,Nat.zero_lt_succ,Option.bind_some,Option.getD_some,Option.getD_none,Int.cast_ofNat_Int,Int.natCast_zero,Int.natCast_nonneg,true_implies,or_true,true_or,false_or,or_false,beq_self_eq_true,exists_eq_left',Int.reduceEq,Int.reduceLT,Int.reduceLE,Int.reduceGT,Int.reduceGE,Nat.reduceGT,Int.reduceNeg,Int.reduceToNat,Int.reduceAdd,Int.reduceMul,Int.reduceSub,Int.reducePow,decide_eq_true_eq,Nat.reduceBEq,Nat.reduceSub,exists_false,xu,List.set_cons_zero,List.set_cons_succ,wrap_i64,int_lt_t,int_lt_f,int_le_t,int_le_f,int_gt_t,int_gt_f,int_ge_t,int_ge_f,int_eq_t,int_eq_f,int_beq_t,int_beq_f,int_bne_t,int_bne_f,nat_le_t,nat_le_f,Nat.sub_zero,Nat.sub_self,not_false_eq_true,not_true_eq_false,hk,hx1,b1]
    exact hk1
  by_cases b2 : x.l ≠ 0 ∧ x.l ≠ 1
  · rw [if_pos b2] at herr
    rw [herr]
    refine Wp.mono (bad b2) ?_
    rintro e' r g' hh
    cases e' with
    | exit i => exact hh
    | normal => obtain ⟨v', h1, h2, h3⟩ := hh; exact ⟨v', h1, h2, h3, fun h => by simp at h⟩
    | ret => obtain ⟨v', h1, h2, h3⟩ := hh; exact ⟨v', h1, h2, h3, fun h => by simp at h⟩
  rw [if_neg b2] at herr
  rw [herr]
  have hl01 : x.l = 0 ∨ x.l = 1 := by omega
  cases b3 : hasF s x.f with
  | true =>
    rw [b3] at e54
    rcases hl01 with hl | hl <;> simp only [hl] at hx1 hx2 hp1 e54 <;> simp (maxSteps := 2000000) (discharger := omega) only [xz,xc,xo,xr,x0,x1,x2,x3,x4,x5,x6,xd,xe,xb,kont_call,kont_pure,kont_round,isNil,slOk,sliceV,selems,srcElems,copyTo,dlen,eqAV,eqCells,eqS,wr,place,partVals,partEs,placeEs,mapOf,keyOk,keyCells,findK,Bool.bne_false,Bool.bne_true,Reg.isA,Reg.isV,Reg.stays,Reg.onto,↓reduceIte,reduceCtorEq,Nat.reduceEqDiff,Nat.reduceLT,Nat.reduceAdd,Nat.reduceMul,Nat.reduceLeDiff,Nat.zero_lt_succ,Option.bind_some,Option.getD_some,Option.getD_none,Int.cast_ofNat_Int,Int.natCast_zero,Int.natCast_nonneg,true_implies,or_true,true_or,false_or,or_false,beq_self_eq_true,exists_eq_left',Int.reduceEq,Int.reduceLT,Int.reduceLE,Int.reduceGT,Int.reduceGE,Nat.reduceGT,Int.reduceNeg,Int.reduceToNat,Int.reduceAdd,Int.reduceMul,Int.reduceSub,Int.reducePow,decide_eq_true_eq,Nat.reduceBEq,Nat.reduceSub,exists_false,xu,List.set_cons_zero,List.set_cons_succ,wrap_i64,int_lt_t,int_lt_f,int_le_t,int_le_f,int_gt_t,int_gt_f,int_ge_t,int_ge_f,int_eq_t,int_eq_f,int_beq_t,int_beq_f,int_bne_t,int_bne_f,nat_le_t,nat_le_f,Nat.sub_zero,Nat.sub_self,not_false_eq_true,not_true_eq_false,hk,hx1,hx2,hp1,hp2,b1,hl,e54] <;> exact ⟨hk2, fun h => by simp at h⟩
  | false =>
    rw [b3] at e54
    have hp2b := get_app_lt (m := [AO.row 2 [srOf ⟨x.f, x.l⟩]]) hp2
    have hl5 : (g2 ++ [AO.row 2 [srOf ⟨x.f, x.l⟩]])[g2.length]? = some (.row 2 [srOf ⟨x.f, x.l⟩]) := by simp
    have q1 := q1.more (m := [AO.row 2 [srOf ⟨x.f, x.l⟩]])
    have q2 := q2.more (m := [AO.row 2 [srOf ⟨x.f, x.l⟩]])
    have q3 := q3.more (m := [AO.row 2 [srOf ⟨x.f, x.l⟩]])
    have hkl : KeepLo lo h (g2 ++ [AO.row 2 [srOf ⟨x.f, x.l⟩]]) := hk2.trans (.app _)
    obtain ⟨sv', g3, a1, a2, a3⟩ := row_app (bytes := 16) (x := srOf ⟨x.f, x.l⟩) q2 (by rw [List.length_map]; omega) (by simp; omega)
    have hp3 := a3.2 p _ hp2b (.inr fun es h => by cases h)
    have hu := a2.updA
    have a2' : RowAt g3 2 lo ((s.sr ++ [(⟨x.f, x.l⟩ : Sr)]).map srOf) sv' := by rw [List.map_append]; exact a2
    have hlt3 := (List.getElem?_eq_some_iff.1 hp3).1
    have w2 := RowAt.set4 a2' (o := .row 4 [.agg [tv, sv', lv, .int .i64 s.nx]]) hp3 (by omega)
    have w1 := RowAt.set4 (q1.keep a3 (by omega)) (o := .row 4 [.agg [tv, sv', lv, .int .i64 s.nx]]) hp3 (by omega)
    have w3 := RowAt.set4 (q3.keep a3 (by omega)) (o := .row 4 [.agg [tv, sv', lv, .int .i64 s.nx]]) hp3 (by omega)
    obtain ⟨g5, l', k1, k2, k3, k4, k5⟩ := c19 (tot := tot) (ω := ω) (n := n) sv' (s.sr ++ [⟨x.f, x.l⟩]) lo _ w2 (by simp) (fun t ht => by
      rw [List.mem_append] at ht
      rcases ht with ht | ht
      · exact hok t ht
      · simp at ht; subst ht; exact ⟨by simp; omega, hxf⟩) (by simp; omega) (by simp; omega)
    have hp4 : (g3.set p (.row 4 [.agg [tv, sv', lv, .int .i64 s.nx]]))[p]? = some (.row 4 [.agg [tv, sv', lv, .int .i64 s.nx]]) := by simp [hlt3]
    have hp5 := k3.2 p _ hp4 (.inr fun es h => by cases h)
    have hto : srOf ⟨x.f, x.l⟩ = .agg [.int .i64 x.f, .int .i64 x.l] := rfl
    rw [hto] at a1 hl5 hp2b
    have ht2 := q2.subv 1
    have ht3 := a2.notTup
    have ht4 := a2.cells
    have ht5 := a2.subv 1
    have fin : KeepLo lo h g5 ∧ ∃ (s' : Ste) (u : AV), g5[p]? = some (AO.row 4 [u]) ∧ StAt g5 lo s' u ∧ s'.sr.Perm (s.sr ++ [⟨x.f, x.l⟩]) ∧ (s'.sr.Pairwise fun x y => ltS y x = false) ∧ s'.tb = s.tb ∧ s'.lg = s.lg ∧ s'.nx = s.nx :=
      ⟨hkl.trans ((KeepR.lo a3).trans ((KeepLo.set hlo).trans (KeepR.lo k3))), ⟨s.tb, l', s.lg, s.nx⟩, _, hp5, ⟨tv, sv', lv, rfl, w1.keep k3 (by omega), k2, w3.keep k3 (by omega)⟩, k4, k5, rfl, rfl, rfl⟩
    rcases hl01 with hl | hl <;> simp only [hl] at hx1 hx2 hp1 e54 a1 hl5 hp2b <;> simp (maxSteps := 2000000) (discharger := omega) only [xz,xc,xo,xr,x0,x1,x2,x3,x4,x5,x6,xd,xe,xb,kont_call,kont_pure,kont_round,isNil,slOk,sliceV,selems,srcElems,copyTo,dlen,eqAV,eqCells,eqS,wr,place,partVals,partEs,placeEs,mapOf,keyOk,keyCells,findK,Bool.bne_false,Bool.bne_true,Reg.isA,Reg.isV,Reg.stays,Reg.onto,↓reduceIte,reduceCtorEq,Nat.reduceEqDiff,Nat.reduceLT,Nat.reduceAdd,Nat.reduceMul,Nat.reduceLeDiff,Nat.zero_lt_succ,Option.bind_some,Option.getD_some,Option.getD_none,Int.cast_ofNat_Int,Int.natCast_zero,Int.natCast_nonneg,true_implies,or_true,true_or,false_or,or_false,beq_self_eq_true,exists_eq_left',Int.reduceEq,Int.reduceLT,Int.reduceLE,Int.reduceGT,Int.reduceGE,Nat.reduceGT,Int.reduceNeg,Int.reduceToNat,Int.reduceAdd,Int.reduceMul,Int.reduceSub,Int.reducePow,decide_eq_true_eq,Nat.reduceBEq,Nat.reduceSub,exists_false,xu,List.set_cons_zero,List.set_cons_succ,wrap_i64,int_lt_t,int_lt_f,int_le_t,int_le_f,int_gt_t,int_gt_f,int_ge_t,int_ge_f,int_eq_t,int_eq_f,int_beq_t,int_beq_f,int_bne_t,int_bne_f,nat_le_t,nat_le_f,Nat.sub_zero,Nat.sub_self,not_false_eq_true,not_true_eq_false,hk,hx1,hx2,hp1,hp2,b1,hl,e54,a1,hp2b,hl5,hp3,hu,hp4,k1,ht2,ht3,ht4,ht5,List.replicate_succ,List.replicate_zero] <;> simp only [hl] at fin <;> exact fin

set_option maxRecDepth 100000 in
set_option maxHeartbeats 8000000 in
theorem c14_5 (hk : x.k = 5) (hs : StAt h lo s v) (hz : s.small) (hp : h[p]? = some (.row 4 [v])) (hlo : lo ≤ p) (hn : s.tb.length + s.sr.length + s.lg.length + 40 < n) :
    ∃ v' h', call F (n + 1) tot ω 14 [.ptr p 4 0 0, edOf x] h = some (v', h') ∧ ApPost s x p lo h v' h' := by
  refine call_of (fn := a14) f14 (P := ApPost s x p lo h) ?_
  have hlt := (List.getElem?_eq_some_iff.1 hp).1
  have hp1 := get_app_lt (m := [AO.row 6 [edOf x]]) hp
  have hx1 : (h ++ [AO.row 6 [edOf x]])[h.length]? = some (.row 6 [edOf x]) := by simp
  have hs1 : StAt (h ++ [AO.row 6 [edOf x]]) lo s v := by
    obtain ⟨tv, sv, lv, rfl, r1, r2, r3⟩ := hs
    exact ⟨tv, sv, lv, rfl, r1.more, r2.more, r3.more⟩
  have e54 := c18 (tot := tot) (ω := ω) (n := n) s v x.f lo _ hs1 hz (by omega)
  have hp2 := get_app_lt (m := [AO.row 1 [.int .i64 x.f]]) hp1
  have hx2 := get_app_lt (m := [AO.row 1 [.int .i64 x.f]]) hx1
  obtain ⟨tv, sv, lv, rfl, r1, r2, r3⟩ := hs1
  obtain ⟨z1, z2, z3⟩ := hz
  have q1 := r1.more (m := [AO.row 1 [.int .i64 x.f]])
  have q2 := r2.more (m := [AO.row 1 [.int .i64 x.f]])
  have q3 := r3.more (m := [AO.row 1 [.int .i64 x.f]])
  have herr : errF s x = if x.f < 1 then 1 else if hasF s x.f then 10 else 0 := by simp [errF,hk]
  have hst : ∀ s', stepR s x s' = (s' = { s with lg := s.lg ++ [x.f] }) := fun s' => by simp [stepR,hk]
  rw [show ApPost s x p lo h = fun v' h' => v' = .int .i64 (errF s x) ∧ KeepLo lo h h' ∧ (errF s x = 0 → ∃ (s' : Ste) (u : AV), h'[p]? = some (.row 4 [u]) ∧ StAt h' lo s' u ∧ s' = { s with lg := s.lg ++ [x.f] }) from by funext v' h'; simp only [ApPost,hst]]
  generalize hg2 : h ++ [AO.row 6 [edOf x]] ++ [AO.row 1 [.int .i64 x.f]] = g2 at *
  have hk2 : KeepLo lo h g2 := by rw [← hg2]; exact (KeepLo.app _).trans (.app _)
  have hk1 : KeepLo lo h (h ++ [AO.row 6 [edOf x]]) := .app _
  have hle : h.length ≤ g2.length := hk2.1
  unfold a14 edOf
  unfold edOf at hx1 hx2 hp1 e54 hk1
  rw [hk] at hx1 hx2 hp1 e54 hk1
  by_cases b1 : x.f < 1
  · rw [if_pos b1] at herr
    rw [herr]
    simp (maxSteps := 2000000) (discharger := omega) only [xz,xc,xo,xr,x0,x1,x2,x3,x4,x5,x6,xd,xe,xb,kont_call,kont_pure,kont_round,isNil,slOk,sliceV,selems,srcElems,copyTo,dlen,eqAV,eqCells,eqS,wr,place,partVals,partEs,placeEs,mapOf,keyOk,keyCells,findK,Bool.bne_false,Bool.bne_true,Reg.isA,Reg.isV,Reg.stays,Reg.onto,↓reduceIte,reduceCtorEq,Nat.reduceEqDiff,Nat.reduceLT,Nat.reduceAdd,Nat.reduceMul,Nat.reduceLeDiff,Nat.zero_lt_succ,Option.bind_some,Option.getD_some,Option.getD_none,Int.cast_ofNat_Int,Int.natCast_zero,Int.natCast_nonneg,true_implies,or_true,true_or,false_or,or_false,beq_self_eq_true,exists_eq_left',Int.reduceEq,Int.reduceLT,Int.reduceLE,Int.reduceGT,Int.reduceGE,Nat.reduceGT,Int.reduceNeg,Int.reduceToNat,Int.reduceAdd,Int.reduceMul,Int.reduceSub,Int.reducePow,decide_eq_true_eq,Nat.reduceBEq,Nat.reduceSub,exists_false,xu,List.set_cons_zero,List.set_cons_succ,wrap_i64,int_lt_t,int_lt_f,int_le_t,int_le_f,int_gt_t,int_gt_f,int_ge_t,int_ge_f,int_eq_t,int_eq_f,int_beq_t,int_beq_f,int_bne_t,int_bne_f,nat_le_t,nat_le_f,Nat.sub_zero,Nat.sub_self,not_false_eq_true,not_true_eq_false,hk,hx1,b1]
    exact ⟨hk1, fun h => by simp at h⟩
  rw [if_neg b1] at herr
  rw [herr]
  cases b3 : hasF s x.f with
  | true =>
    rw [b3] at e54
    simp (maxSteps := 2000000) (discharger := omega) only [xz,xc,xo,xr,x0,x1,x2,x3,x4,x5,x6,xd,xe,xb,kont_call,kont_pure,kont_round,isNil,slOk,sliceV,selems,srcElems,copyTo,dlen,eqAV,eqCells,eqS,wr,place,partVals,partEs,placeEs,mapOf,keyOk,keyCells,findK,Bool.bne_false,Bool.bne_true,Reg.isA,Reg.isV,Reg.stays,Reg.onto,↓reduceIte,reduceCtorEq,Nat.reduceEqDiff,Nat.reduceLT,Nat.reduceAdd,Nat.reduceMul,Nat.reduceLeDiff,Nat.zero_lt_succ,Option.bind_some,Option.getD_some,Option.getD_none,Int.cast_ofNat_Int,Int.natCast_zero,Int.natCast_nonneg,true_implies,or_true,true_or,false_or,or_false,beq_self_eq_true,exists_eq_left',Int.reduceEq,Int.reduceLT,Int.reduceLE,Int.reduceGT,Int.reduceGE,Nat.reduceGT,Int.reduceNeg,Int.reduceToNat,Int.reduceAdd,Int.reduceMul,Int.reduceSub,Int.reducePow,decide_eq_true_eq,Nat.reduceBEq,Nat.reduceSub,exists_false,xu,List.set_cons_zero,List.set_cons_succ,wrap_i64,int_lt_t,int_lt_f,int_le_t,int_le_f,int_gt_t,int_gt_f,int_ge_t,int_ge_f,int_eq_t,int_eq_f,int_beq_t,int_beq_f,int_bne_t,int_bne_f,nat_le_t,nat_le_f,Nat.sub_zero,Nat.sub_self,not_false_eq_true,not_true_eq_false,hk,hx1,hx2,hp1,hp2,b1,e54]
    exact ⟨hk2, fun h => by simp at h⟩
  | false =>
    rw [b3] at e54
    have hp2b := get_app_lt (m := [AO.row 1 [inOf x.f]]) hp2
    have hl5 : (g2 ++ [AO.row 1 [inOf x.f]])[g2.length]? = some (.row 1 [inOf x.f]) := by simp
    have q1 := q1.more (m := [AO.row 1 [inOf x.f]])
    have q2 := q2.more (m := [AO.row 1 [inOf x.f]])
    have q3 := q3.more (m := [AO.row 1 [inOf x.f]])
    have hkl : KeepLo lo h (g2 ++ [AO.row 1 [inOf x.f]]) := hk2.trans (.app _)
    obtain ⟨lv', g3, a1, a2, a3⟩ := row_app (bytes := 8) (x := inOf x.f) q3 (by rw [List.length_map]; omega) (by simp; omega)
    have hp3 := a3.2 p _ hp2b (.inr fun es h => by cases h)
    have hu := a2.updA
    have a2' : RowAt g3 1 lo ((s.lg ++ [x.f]).map inOf) lv' := by rw [List.map_append]; exact a2
    have hlt3 := (List.getElem?_eq_some_iff.1 hp3).1
    have w3 := RowAt.set4 a2' (o := .row 4 [.agg [tv, sv, lv', .int .i64 s.nx]]) hp3 (by omega)
    have w1 := RowAt.set4 (q1.keep a3 (by omega)) (o := .row 4 [.agg [tv, sv, lv', .int .i64 s.nx]]) hp3 (by omega)
    have w2 := RowAt.set4 (q2.keep a3 (by omega)) (o := .row 4 [.agg [tv, sv, lv', .int .i64 s.nx]]) hp3 (by omega)
    have hp4 : (g3.set p (.row 4 [.agg [tv, sv, lv', .int .i64 s.nx]]))[p]? = some (.row 4 [.agg [tv, sv, lv', .int .i64 s.nx]]) := by simp [hlt3]
    have hto : inOf x.f = .int .i64 x.f := rfl
    rw [hto] at a1 hl5 hp2b
    have ht2 := q3.subv 1
    have ht3 := a2.notTup
    have ht4 := a2.cells
    simp (maxSteps := 2000000) (discharger := omega) only [xz,xc,xo,xr,x0,x1,x2,x3,x4,x5,x6,xd,xe,xb,kont_call,kont_pure,kont_round,isNil,slOk,sliceV,selems,srcElems,copyTo,dlen,eqAV,eqCells,eqS,wr,place,partVals,partEs,placeEs,mapOf,keyOk,keyCells,findK,Bool.bne_false,Bool.bne_true,Reg.isA,Reg.isV,Reg.stays,Reg.onto,↓reduceIte,reduceCtorEq,Nat.reduceEqDiff,Nat.reduceLT,Nat.reduceAdd,Nat.reduceMul,Nat.reduceLeDiff,Nat.zero_lt_succ,Option.bind_some,Option.getD_some,Option.getD_none,Int.cast_ofNat_Int,Int.natCast_zero,Int.natCast_nonneg,true_implies,or_true,true_or,false_or,or_false,beq_self_eq_true,exists_eq_left',Int.reduceEq,Int.reduceLT,Int.reduceLE,Int.reduceGT,Int.reduceGE,Nat.reduceGT,Int.reduceNeg,Int.reduceToNat,Int.reduceAdd,Int.reduceMul,Int.reduceSub,Int.reducePow,decide_eq_true_eq,Nat.reduceBEq,Nat.reduceSub,exists_false,xu,List.set_cons_zero,List.set_cons_succ,wrap_i64,int_lt_t,int_lt_f,int_le_t,int_le_f,int_gt_t,int_gt_f,int_ge_t,int_ge_f,int_eq_t,int_eq_f,int_beq_t,int_beq_f,int_bne_t,int_bne_f,nat_le_t,nat_le_f,Nat.sub_zero,Nat.sub_self,not_false_eq_true,not_true_eq_false,hk,hx1,hx2,hp1,hp2,b1,e54,a1,hp2b,hl5,hp3,hu,ht2,ht3,ht4,List.replicate_succ,List.replicate_zero]
    exact ⟨hkl.trans ((KeepR.lo a3).trans (KeepLo.set hlo)), { s with lg := s.lg ++ [x.f] }, _, hp4, ⟨tv, sv, lv', rfl, w1, w2, w3⟩, rfl⟩

set_option maxRecDepth 100000 in
set_option maxHeartbeats 8000000 in
theorem c14_7 (hk : x.k = 7) (hs : StAt h lo s v) (hz : s.small) (hp : h[p]? = some (.row 4 [v])) (hlo : lo ≤ p) (hn : s.tb.length + s.sr.length + s.lg.length + 40 < n) :
    ∃ v' h', call F (n + 1) tot ω 14 [.ptr p 4 0 0, edOf x] h = some (v', h') ∧ ApPost s x p lo h v' h' := by
  refine call_of (fn := a14) f14 (P := ApPost s x p lo h) ?_
  have hlt := (List.getElem?_eq_some_iff.1 hp).1
  have hp1 := get_app_lt (m := [AO.row 6 [edOf x]]) hp
  have hx1 : (h ++ [AO.row 6 [edOf x]])[h.length]? = some (.row 6 [edOf x]) := by simp
  have hs1 : StAt (h ++ [AO.row 6 [edOf x]]) lo s v := by
    obtain ⟨tv, sv, lv, rfl, r1, r2, r3⟩ := hs
    exact ⟨tv, sv, lv, rfl, r1.more, r2.more, r3.more⟩
  obtain ⟨tv, sv, lv, rfl, r1, r2, r3⟩ := hs1
  have herr : errF s x = if x.f < 1 then 1 else if x.f < s.nx then 1 else 0 := by simp [errF,hk]
  have hst : ∀ s', stepR s x s' = (s' = { s with nx := x.f }) := fun s' => by simp [stepR,hk]
  rw [show ApPost s x p lo h = fun v' h' => v' = .int .i64 (errF s x) ∧ KeepLo lo h h' ∧ (errF s x = 0 → ∃ (s' : Ste) (u : AV), h'[p]? = some (.row 4 [u]) ∧ StAt h' lo s' u ∧ s' = { s with nx := x.f }) from by funext v' h'; simp only [ApPost,hst]]
  have hk1 : KeepLo lo h (h ++ [AO.row 6 [edOf x]]) := .app _
  have hlt1 := (List.getElem?_eq_some_iff.1 hp1).1
  unfold a14 edOf
  generalize hg1 : h ++ [AO.row 6 [edOf x]] = g1 at *
  unfold edOf at hg1 hx1
  rw [hk] at hg1 hx1
  by_cases b1 : x.f < 1
  · rw [if_pos b1] at herr
    rw [herr]
    simp (maxSteps := 2000000) (discharger := omega) only [xz,xc,xo,xr,x0,x1,x2,x3,x4,x5,x6,xd,xe,xb,kont_call,kont_pure,kont_round,isNil,slOk,sliceV,selems,srcElems,copyTo,dlen,eqAV,eqCells,eqS,wr,place,partVals,partEs,placeEs,mapOf,keyOk,keyCells,findK,Bool.bne_false,Bool.bne_true,Reg.isA,Reg.isV,Reg.stays,Reg.onto,↓reduceIte,reduceCtorEq,Nat.reduceEqDiff,Nat.reduceLT,Nat.reduceAdd,Nat.reduceMul,Nat.reduceLeDiff,Nat.zero_lt_succ,Option.bind_some,Option.getD_some,Option.getD_none,Int.cast_ofNat_Int,Int.natCast_zero,Int.natCast_nonneg,true_implies,or_true,true_or,false_or,or_false,beq_self_eq_true,exists_eq_left',Int.reduceEq,Int.reduceLT,Int.reduceLE,Int.reduceGT,Int.reduceGE,Nat.reduceGT,Int.reduceNeg,Int.reduceToNat,Int.reduceAdd,Int.reduceMul,Int.reduceSub,Int.reducePow,decide_eq_true_eq,Nat.reduceBEq,Nat.reduceSub,exists_false,xu,List.set_cons_zero,List.set_cons_succ,wrap_i64,int_lt_t,int_lt_f,int_le_t,int_le_f,int_gt_t,int_gt_f,int_ge_t,int_ge_f,int_eq_t,int_eq_f,int_beq_t,int_beq_f,int_bne_t,int_bne_f,nat_le_t,nat_le_f,Nat.sub_zero,Nat.sub_self,not_false_eq_true,not_true_eq_false,hk,hg1,hx1,b1]
    exact ⟨hk1, fun h => by simp at h⟩
  rw [if_neg b1] at herr
  by_cases b2 : x.f < s.nx
  · rw [if_pos b2] at herr
    rw [herr]
    simp (maxSteps := 2000000) (discharger := omega) only [xz,xc,xo,xr,x0,x1,x2,x3,x4,x5,x6,xd,xe,xb,kont_call,kont_pure,kont_round,isNil,slOk,sliceV,selems,srcElems,copyTo,dlen,eqAV,eqCells,eqS,wr,place,partVals,partEs,placeEs,mapOf,keyOk,keyCells,findK,Bool.bne_false,Bool.bne_true,Reg.isA,Reg.isV,Reg.stays,Reg.onto,↓reduceIte,reduceCtorEq,Nat.reduceEqDiff,Nat.reduceLT,Nat.reduceAdd,Nat.reduceMul,Nat.reduceLeDiff,Nat.zero_lt_succ,Option.bind_some,Option.getD_some,Option.getD_none,Int.cast_ofNat_Int,Int.natCast_zero,Int.natCast_nonneg,true_implies,or_true,true_or,false_or,or_false,beq_self_eq_true,exists_eq_left',Int.reduceEq,Int.reduceLT,Int.reduceLE,Int.reduceGT,Int.reduceGE,Nat.reduceGT,Int.reduceNeg,Int.reduceToNat,Int.reduceAdd,Int.reduceMul,Int.reduceSub,Int.reducePow,decide_eq_true_eq,Nat.reduceBEq,Nat.reduceSub,exists_false,xu,List.set_cons_zero,List.set_cons_succ,wrap_i64,int_lt_t,int_lt_f,int_le_t,int_le_f,int_gt_t,int_gt_f,int_ge_t,int_ge_f,int_eq_t,int_eq_f,int_beq_t,int_beq_f,int_bne_t,int_bne_f,nat_le_t,nat_le_f,Nat.sub_zero,Nat.sub_self,not_false_eq_true,not_true_eq_false,hk,hg1,hx1,hp1,b1,b2]
    exact ⟨hk1, fun h => by simp at h⟩
  rw [if_neg b2] at herr
  rw [herr]
  have w1 := RowAt.set4 r1 (o := .row 4 [.agg [tv, sv, lv, .int .i64 x.f]]) hp1 (by omega)
  have w2 := RowAt.set4 r2 (o := .row 4 [.agg [tv, sv, lv, .int .i64 x.f]]) hp1 (by omega)
  have w3 := RowAt.set4 r3 (o := .row 4 [.agg [tv, sv, lv, .int .i64 x.f]]) hp1 (by omega)
  have hp4 : (g1.set p (.row 4 [.agg [tv, sv, lv, .int .i64 x.f]]))[p]? = some (.row 4 [.agg [tv, sv, lv, .int .i64 x.f]]) := by simp [hlt1]
  simp (maxSteps := 2000000) (discharger := omega) only [xz,xc,xo,xr,x0,x1,x2,x3,x4,x5,x6,xd,xe,xb,kont_call,kont_pure,kont_round,isNil,slOk,sliceV,selems,srcElems,copyTo,dlen,eqAV,eqCells,eqS,wr,place,partVals,partEs,placeEs,mapOf,keyOk,keyCells,findK,Bool.bne_false,Bool.bne_true,Reg.isA,Reg.isV,Reg.stays,Reg.onto,↓reduceIte,reduceCtorEq,Nat.reduceEqDiff,Nat.reduceLT,Nat.reduceAdd,Nat.reduceMul,Nat.reduceLeDiff,Nat.zero_lt_succ,Option.bind_some,Option.getD_some,Option.getD_none,Int.cast_ofNat_Int,Int.natCast_zero,Int.natCast_nonneg,true_implies,or_true,true_or,false_or,or_false,beq_self_eq_true,exists_eq_left',Int.reduceEq,Int.reduceLT,Int.reduceLE,Int.reduceGT,Int.reduceGE,Nat.reduceGT,Int.reduceNeg,Int.reduceToNat,Int.reduceAdd,Int.reduceMul,Int.reduceSub,Int.reducePow,decide_eq_true_eq,Nat.reduceBEq,Nat.reduceSub,exists_false,xu,List.set_cons_zero,List.set_cons_succ,wrap_i64,int_lt_t,int_lt_f,int_le_t,int_le_f,int_gt_t,int_gt_f,int_ge_t,int_ge_f,int_eq_t,int_eq_f,int_beq_t,int_beq_f,int_bne_t,int_bne_f,nat_le_t,nat_le_f,Nat.sub_zero,Nat.sub_self,not_false_eq_true,not_true_eq_false,hk,hg1,hx1,hp1,b1,b2]
  exact ⟨hk1.trans (KeepLo.set hlo), { s with nx := x.f }, _, hp4, ⟨tv, sv, lv, rfl, w1, w2, w3⟩, rfl⟩

set_option maxRecDepth 100000 in
set_option maxHeartbeats 8000000 in
theorem c14_2 (hk : x.k = 2) (hs : StAt h lo s v) (hz : s.small) (hp : h[p]? = some (.row 4 [v])) (hlo : lo ≤ p) (hn : s.tb.length + s.sr.length + s.lg.length + 40 < n) :
    ∃ v' h', call F (n + 1) tot ω 14 [.ptr p 4 0 0, edOf x] h = some (v', h') ∧ ApPost s x p lo h v' h' := by
  refine call_of (fn := a14) f14 (P := ApPost s x p lo h) ?_
  have hlt := (List.getElem?_eq_some_iff.1 hp).1
  have hp1 := get_app_lt (m := [AO.row 6 [edOf x]]) hp
  have hx1 : (h ++ [AO.row 6 [edOf x]])[h.length]? = some (.row 6 [edOf x]) := by simp
  have hs1 : StAt (h ++ [AO.row 6 [edOf x]]) lo s v := by
    obtain ⟨tv, sv, lv, rfl, r1, r2, r3⟩ := hs
    exact ⟨tv, sv, lv, rfl, r1.more, r2.more, r3.more⟩
  obtain ⟨tv, sv, lv, rfl, r1, r2, r3⟩ := hs1
  obtain ⟨z1, z2, z3⟩ := hz
  have herr : errF s x = if idxOf (fun t => t.f == x.f) s.tb < 0 then 9 else 0 := by simp [errF,hk]
  have hst : ∀ s', stepR s x s' = (s' = { s with tb := s.tb.eraseIdx (idxOf (fun t => t.f == x.f) s.tb).toNat }) := fun s' => by simp [stepR,hk]
  rw [show ApPost s x p lo h = fun v' h' => v' = .int .i64 (errF s x) ∧ KeepLo lo h h' ∧ (errF s x = 0 → ∃ (s' : Ste) (u : AV), h'[p]? = some (.row 4 [u]) ∧ StAt h' lo s' u ∧ s' = { s with tb := s.tb.eraseIdx (idxOf (fun t => t.f == x.f) s.tb).toNat }) from by funext v' h'; simp only [ApPost,hst]]
  have hk1 : KeepLo lo h (h ++ [AO.row 6 [edOf x]]) := .app _
  have eix := c21 (tot := tot) (ω := ω) (n := n) (B := 1) tv s.tb (fun t => t.f == x.f) 22 [] [.ptr h.length 6 0 0] lo _ r1 (fun m hm y _ => c22 y h.length x _ hx1 hm) (by omega) (by omega)
  generalize hg1 : h ++ [AO.row 6 [edOf x]] = g1 at *
  unfold a14 edOf
  unfold edOf at hg1 hx1
  rw [hk] at hg1 hx1
  rcases idxOf_inv (p := (fun t => t.f == x.f)) s.tb with b1 | ⟨i, hi, b1, b2, b3⟩
  · rw [if_pos (by rw [b1]; decide)] at herr
    rw [herr]
    rw [b1] at eix
    have ht2 := r1.subv 1
    simp (maxSteps := 2000000) (discharger := omega) only [xz,xc,xo,xr,x0,x1,x2,x3,x4,x5,x6,xd,xe,xb,kont_call,kont_pure,kont_round,isNil,slOk,sliceV,selems,srcElems,copyTo,dlen,eqAV,eqCells,eqS,wr,place,partVals,partEs,placeEs,mapOf,keyOk,keyCells,findK,Bool.bne_false,Bool.bne_true,Reg.isA,Reg.isV,Reg.stays,Reg.onto,↓reduceIte,reduceCtorEq,Nat.reduceEqDiff,Nat.reduceLT,Nat.reduceAdd,Nat.reduceMul,Nat.reduceLeDiff,Nat.zero_lt_succ,Option.bind_some,Option.getD_some,Option.getD_none,Int.cast_ofNat_Int,Int.natCast_zero,Int.natCast_nonneg,true_implies,or_true,true_or,false_or,or_false,beq_self_eq_true,exists_eq_left',Int.reduceEq,Int.reduceLT,Int.reduceLE,Int.reduceGT,Int.reduceGE,Nat.reduceGT,Int.reduceNeg,Int.reduceToNat,Int.reduceAdd,Int.reduceMul,Int.reduceSub,Int.reducePow,decide_eq_true_eq,Nat.reduceBEq,Nat.reduceSub,exists_false,xu,List.set_cons_zero,List.set_cons_succ,wrap_i64,int_lt_t,int_lt_f,int_le_t,int_le_f,int_gt_t,int_gt_f,int_ge_t,int_ge_f,int_eq_t,int_eq_f,int_beq_t,int_beq_f,int_bne_t,int_bne_f,nat_le_t,nat_le_f,Nat.sub_zero,Nat.sub_self,not_false_eq_true,not_true_eq_false,hk,hg1,hx1,hp1,eix,ht2]
    exact ⟨hk1, fun h => by simp at h⟩
  · rw [if_neg (by rw [b1]; omega)] at herr
    rw [herr, b1]
    rw [b1] at eix
    obtain ⟨v', g3, a1, a2, a3⟩ := c23 (tot := tot) (ω := ω) (n := n) tv _ i lo _ r1 (by rw [List.length_map]; exact hi) (by rw [List.length_map]; omega) (by omega)
    have hp3 := a3.2 p _ hp1 (.inr fun es h => by cases h)
    have hu := a2.updA
    have a2' : RowAt g3 5 lo ((s.tb.eraseIdx i).map tbOf) v' := by rw [← erase_map]; exact a2
    have hlt3 := (List.getElem?_eq_some_iff.1 hp3).1
    have w1 := RowAt.set4 a2' (o := .row 4 [.agg [v', sv, lv, .int .i64 s.nx]]) hp3 (by omega)
    have w2 := RowAt.set4 (r2.keep a3 (by omega)) (o := .row 4 [.agg [v', sv, lv, .int .i64 s.nx]]) hp3 (by omega)
    have w3 := RowAt.set4 (r3.keep a3 (by omega)) (o := .row 4 [.agg [v', sv, lv, .int .i64 s.nx]]) hp3 (by omega)
    have hp4 : (g3.set p (.row 4 [.agg [v', sv, lv, .int .i64 s.nx]]))[p]? = some (.row 4 [.agg [v', sv, lv, .int .i64 s.nx]]) := by simp [hlt3]
    have ht2 := r1.subv 1
    have ht3 := a2.notTup
    have ht4 := a2.cells
    simp (maxSteps := 2000000) (discharger := omega) only [xz,xc,xo,xr,x0,x1,x2,x3,x4,x5,x6,xd,xe,xb,kont_call,kont_pure,kont_round,isNil,slOk,sliceV,selems,srcElems,copyTo,dlen,eqAV,eqCells,eqS,wr,place,partVals,partEs,placeEs,mapOf,keyOk,keyCells,findK,Bool.bne_false,Bool.bne_true,Reg.isA,Reg.isV,Reg.stays,Reg.onto,↓reduceIte,reduceCtorEq,Nat.reduceEqDiff,Nat.reduceLT,Nat.reduceAdd,Nat.reduceMul,Nat.reduceLeDiff,Nat.zero_lt_succ,Option.bind_some,Option.getD_some,Option.getD_none,Int.cast_ofNat_Int,Int.natCast_zero,Int.natCast_nonneg,true_implies,or_true,true_or,false_or,or_false,beq_self_eq_true,exists_eq_left',Int.reduceEq,Int.reduceLT,Int.reduceLE,Int.reduceGT,Int.reduceGE,Nat.reduceGT,Int.reduceNeg,Int.reduceToNat,Int.reduceAdd,Int.reduceMul,Int.reduceSub,Int.reducePow,decide_eq_true_eq,Nat.reduceBEq,Nat.reduceSub,exists_false,xu,List.set_cons_zero,List.set_cons_succ,wrap_i64,int_lt_t,int_lt_f,int_le_t,int_le_f,int_gt_t,int_gt_f,int_ge_t,int_ge_f,int_eq_t,int_eq_f,int_beq_t,int_beq_f,int_bne_t,int_bne_f,nat_le_t,nat_le_f,Nat.sub_zero,Nat.sub_self,not_false_eq_true,not_true_eq_false,hk,hg1,hx1,hp1,eix,ht2,a1,hp3,hu,ht3,ht4,Int.natCast_nonneg]
    exact ⟨hk1.trans ((KeepR.lo a3).trans (KeepLo.set hlo)), { s with tb := s.tb.eraseIdx i }, _, hp4, ⟨v', sv, lv, rfl, w1, w2, w3⟩, rfl⟩

set_option maxRecDepth 100000 in
set_option maxHeartbeats 8000000 in
theorem c14_4 (hk : x.k = 4) (hs : StAt h lo s v) (hz : s.small) (hp : h[p]? = some (.row 4 [v])) (hlo : lo ≤ p) (hn : s.tb.length + s.sr.length + s.lg.length + 40 < n) :
    ∃ v' h', call F (n + 1) tot ω 14 [.ptr p 4 0 0, edOf x] h = some (v', h') ∧ ApPost s x p lo h v' h' := by
  refine call_of (fn := a14) f14 (P := ApPost s x p lo h) ?_
  have hlt := (List.getElem?_eq_some_iff.1 hp).1
  have hp1 := get_app_lt (m := [AO.row 6 [edOf x]]) hp
  have hx1 : (h ++ [AO.row 6 [edOf x]])[h.length]? = some (.row 6 [edOf x]) := by simp
  have hs1 : StAt (h ++ [AO.row 6 [edOf x]]) lo s v := by
    obtain ⟨tv, sv, lv, rfl, r1, r2, r3⟩ := hs
    exact ⟨tv, sv, lv, rfl, r1.more, r2.more, r3.more⟩
  obtain ⟨tv, sv, lv, rfl, r1, r2, r3⟩ := hs1
  obtain ⟨z1, z2, z3⟩ := hz
  have herr : errF s x = if idxOf (fun t => t.f == x.f) s.sr < 0 then 9 else 0 := by simp [errF,hk]
  have hst : ∀ s', stepR s x s' = (s' = { s with sr := s.sr.eraseIdx (idxOf (fun t => t.f == x.f) s.sr).toNat }) := fun s' => by simp [stepR,hk]
  rw [show ApPost s x p lo h = fun v' h' => v' = .int .i64 (errF s x) ∧ KeepLo lo h h' ∧ (errF s x = 0 → ∃ (s' : Ste) (u : AV), h'[p]? = some (.row 4 [u]) ∧ StAt h' lo s' u ∧ s' = { s with sr := s.sr.eraseIdx (idxOf (fun t => t.f == x.f) s.sr).toNat }) from by funext v' h'; simp only [ApPost,hst]]
  have hk1 : KeepLo lo h (h ++ [AO.row 6 [edOf x]]) := .app _
  have eix := c24 (tot := tot) (ω := ω) (n := n) (B := 1) sv s.sr (fun t => t.f == x.f) 25 [] [.ptr h.length 6 0 0] lo _ r2 (fun m hm y _ => c25 y h.length x _ hx1 hm) (by omega) (by omega)
  generalize hg1 : h ++ [AO.row 6 [edOf x]] = g1 at *
  unfold a14 edOf
  unfold edOf at hg1 hx1
  rw [hk] at hg1 hx1
  rcases idxOf_inv (p := (fun t => t.f == x.f)) s.sr with b1 | ⟨i, hi, b1, b2, b3⟩
  · rw [if_pos (by rw [b1]; decide)] at herr
    rw [herr]
    rw [b1] at eix
    have ht2 := r2.subv 1
    simp (maxSteps := 2000000) (discharger := omega) only [xz,xc,xo,xr,x0,x1,x2,x3,x4,x5,x6,xd,xe,xb,kont_call,kont_pure,kont_round,isNil,slOk,sliceV,selems,srcElems,copyTo,dlen,eqAV,eqCells,eqS,wr,place,partVals,partEs,placeEs,mapOf,keyOk,keyCells,findK,Bool.bne_false,Bool.bne_true,Reg.isA,Reg.isV,Reg.stays,Reg.onto,↓reduceIte,reduceCtorEq,Nat.reduceEqDiff,Nat.reduceLT,Nat.reduceAdd,Nat.reduceMul,Nat.reduceLeDiff,Nat.zero_lt_succ,Option.bind_some,Option.getD_some,Option.getD_none,Int.cast_ofNat_Int,Int.natCast_zero,Int.natCast_nonneg,true_implies,or_true,true_or,false_or,or_false,beq_self_eq_true,exists_eq_left',Int.reduceEq,Int.reduceLT,Int.reduceLE,Int.reduceGT,Int.reduceGE,Nat.reduceGT,Int.reduceNeg,Int.reduceToNat,Int.reduceAdd,Int.reduceMul,Int.reduceSub,Int.reducePow,decide_eq_true_eq,Nat.reduceBEq,Nat.reduceSub,exists_false,xu,List.set_cons_zero,List.set_cons_succ,wrap_i64,int_lt_t,int_lt_f,int_le_t,int_le_f,int_gt_t,int_gt_f,int_ge_t,int_ge_f,int_eq_t,int_eq_f,int_beq_t,int_beq_f,int_bne_t,int_bne_f,nat_le_t,nat_le_f,Nat.sub_zero,Nat.sub_self,not_false_eq_true,not_true_eq_false,hk,hg1,hx1,hp1,eix,ht2]
    exact ⟨hk1, fun h => by simp at h⟩
  · rw [if_neg (by rw [b1]; omega)] at herr
    rw [herr, b1]
    rw [b1] at eix
    obtain ⟨v', g3, a1, a2, a3⟩ := c26 (tot := tot) (ω := ω) (n := n) sv _ i lo _ r2 (by rw [List.length_map]; exact hi) (by rw [List.length_map]; omega) (by omega)
    have hp3 := a3.2 p _ hp1 (.inr fun es h => by cases h)
    have hu := a2.updA
    have a2' : RowAt g3 2 lo ((s.sr.eraseIdx i).map srOf) v' := by rw [← erase_map]; exact a2
    have hlt3 := (List.getElem?_eq_some_iff.1 hp3).1
    have w2 := RowAt.set4 a2' (o := .row 4 [.agg [tv, v', lv, .int .i64 s.nx]]) hp3 (by omega)
    have w1 := RowAt.set4 (r1.keep a3 (by omega)) (o := .row 4 [.agg [tv, v', lv, .int .i64 s.nx]]) hp3 (by omega)
    have w3 := RowAt.set4 (r3.keep a3 (by omega)) (o := .row 4 [.agg [tv, v', lv, .int .i64 s.nx]]) hp3 (by omega)
    have hp4 : (g3.set p (.row 4 [.agg [tv, v', lv, .int .i64 s.nx]]))[p]? = some (.row 4 [.agg [tv, v', lv, .int .i64 s.nx]]) := by simp [hlt3]
    have ht2 := r2.subv 1
    have ht3 := a2.notTup
    have ht4 := a2.cells
    simp (maxSteps := 2000000) (discharger := omega) only [xz,xc,xo,xr,x0,x1,x2,x3,x4,x5,x6,xd,xe,xb,kont_call,kont_pure,kont_round,isNil,slOk,sliceV,selems,srcElems,copyTo,dlen,eqAV,eqCells,eqS,wr,place,partVals,partEs,placeEs,mapOf,keyOk,keyCells,findK,Bool.bne_false,Bool.bne_true,Reg.isA,Reg.isV,Reg.stays,Reg.onto,↓reduceIte,reduceCtorEq,Nat.reduceEqDiff,Nat.reduceLT,Nat.reduceAdd,Nat.reduceMul,Nat.reduceLeDiff,Nat.zero_lt_succ,Option.bind_some,Option.getD_some,Option.getD_none,Int.cast_ofNat_Int,Int.natCast_zero,Int.natCast_nonneg,true_implies,or_true,true_or,false_or,or_false,beq_self_eq_true,exists_eq_left',Int.reduceEq,Int.reduceLT,Int.reduceLE,Int.reduceGT,Int.reduceGE,Nat.reduceGT,Int.reduceNeg,Int.reduceToNat,Int.reduceAdd,Int.reduceMul,Int.reduceSub,Int.reducePow,decide_eq_true_eq,Nat.reduceBEq,Nat.reduceSub,exists_false,xu,List.set_cons_zero,List.set_cons_succ,wrap_i64,int_lt_t,int_lt_f,int_le_t,int_le_f,int_gt_t,int_gt_f,int_ge_t,int_ge_f,int_eq_t,int_eq_f,int_beq_t,int_beq_f,int_bne_t,int_bne_f,nat_le_t,nat_le_f,Nat.sub_zero,Nat.sub_self,not_false_eq_true,not_true_eq_false,hk,hg1,hx1,hp1,eix,ht2,a1,hp3,hu,ht3,ht4,Int.natCast_nonneg]
    exact ⟨hk1.trans ((KeepR.lo a3).trans (KeepLo.set hlo)), { s with sr := s.sr.eraseIdx i }, _, hp4, ⟨tv, v', lv, rfl, w1, w2, w3⟩, rfl⟩

set_option maxRecDepth 100000 in
set_option maxHeartbeats 8000000 in
theorem c14_6 (hk : x.k = 6) (hs : StAt h lo s v) (hz : s.small) (hp : h[p]? = some (.row 4 [v])) (hlo : lo ≤ p) (hn : s.tb.length + s.sr.length + s.lg.length + 40 < n) :
    ∃ v' h', call F (n + 1) tot ω 14 [.ptr p 4 0 0, edOf x] h = some (v', h') ∧ ApPost s x p lo h v' h' := by
  refine call_of (fn := a14) f14 (P := ApPost s x p lo h) ?_
  have hlt := (List.getElem?_eq_some_iff.1 hp).1
  have hp1 := get_app_lt (m := [AO.row 6 [edOf x]]) hp
  have hx1 : (h ++ [AO.row 6 [edOf x]])[h.length]? = some (.row 6 [edOf x]) := by simp
  have hs1 : StAt (h ++ [AO.row 6 [edOf x]]) lo s v := by
    obtain ⟨tv, sv, lv, rfl, r1, r2, r3⟩ := hs
    exact ⟨tv, sv, lv, rfl, r1.more, r2.more, r3.more⟩
  obtain ⟨tv, sv, lv, rfl, r1, r2, r3⟩ := hs1
  obtain ⟨z1, z2, z3⟩ := hz
  have herr : errF s x = if idxOf (fun y => x.f == y) s.lg < 0 then 9 else 0 := by simp [errF,hk]
  have hst : ∀ s', stepR s x s' = (s' = { s with lg := s.lg.eraseIdx (idxOf (fun y => x.f == y) s.lg).toNat }) := fun s' => by simp [stepR,hk]
  rw [show ApPost s x p lo h = fun v' h' => v' = .int .i64 (errF s x) ∧ KeepLo lo h h' ∧ (errF s x = 0 → ∃ (s' : Ste) (u : AV), h'[p]? = some (.row 4 [u]) ∧ StAt h' lo s' u ∧ s' = { s with lg := s.lg.eraseIdx (idxOf (fun y => x.f == y) s.lg).toNat }) from by funext v' h'; simp only [ApPost,hst]]
  have hk1 : KeepLo lo h (h ++ [AO.row 6 [edOf x]]) := .app _
  have eix := c27 (tot := tot) (ω := ω) (n := n) lv s.lg x.f lo _ r3 (by omega) (by omega)
  generalize hg1 : h ++ [AO.row 6 [edOf x]] = g1 at *
  unfold a14 edOf
  unfold edOf at hg1 hx1
  rw [hk] at hg1 hx1
  rcases idxOf_inv (p := (fun y => x.f == y)) s.lg with b1 | ⟨i, hi, b1, b2, b3⟩
  · rw [if_pos (by rw [b1]; decide)] at herr
    rw [herr]
    rw [b1] at eix
    have ht2 := r3.subv 1
    simp (maxSteps := 2000000) (discharger := omega) only [xz,xc,xo,xr,x0,x1,x2,x3,x4,x5,x6,xd,xe,xb,kont_call,kont_pure,kont_round,isNil,slOk,sliceV,selems,srcElems,copyTo,dlen,eqAV,eqCells,eqS,wr,place,partVals,partEs,placeEs,mapOf,keyOk,keyCells,findK,Bool.bne_false,Bool.bne_true,Reg.isA,Reg.isV,Reg.stays,Reg.onto,↓reduceIte,reduceCtorEq,Nat.reduceEqDiff,Nat.reduceLT,Nat.reduceAdd,Nat.reduceMul,Nat.reduceLeDiff,Nat.zero_lt_succ,Option.bind_some,Option.getD_some,Option.getD_none,Int.cast_ofNat_Int,Int.natCast_zero,Int.natCast_nonneg,true_implies,or_true,true_or,false_or,or_false,beq_self_eq_true,exists_eq_left',Int.reduceEq,Int.reduceLT,Int.reduceLE,Int.reduceGT,Int.reduceGE,Nat.reduceGT,Int.reduceNeg,Int.reduceToNat,Int.reduceAdd,Int.reduceMul,Int.reduceSub,Int.reducePow,decide_eq_true_eq,Nat.reduceBEq,Nat.reduceSub,exists_false,xu,List.set_cons_zero,List.set_cons_succ,wrap_i64,int_lt_t,int_lt_f,int_le_t,int_le_f,int_gt_t,int_gt_f,int_ge_t,int_ge_f,int_eq_t,int_eq_f,int_beq_t,int_beq_f,int_bne_t,int_bne_f,nat_le_t,nat_le_f,Nat.sub_zero,Nat.sub_self,not_false_eq_true,not_true_eq_false,hk,hg1,hx1,hp1,eix,ht2]
    exact ⟨hk1, fun h => by simp at h⟩
  · rw [if_neg (by rw [b1]; omega)] at herr
    rw [herr, b1]
    rw [b1] at eix
    obtain ⟨v', g3, a1, a2, a3⟩ := c28 (tot := tot) (ω := ω) (n := n) lv _ i lo _ r3 (by rw [List.length_map]; exact hi) (by rw [List.length_map]; omega) (by omega)
    have hp3 := a3.2 p _ hp1 (.inr fun es h => by cases h)
    have hu := a2.updA
    have a2' : RowAt g3 1 lo ((s.lg.eraseIdx i).map inOf) v' := by rw [← erase_map]; exact a2
    have hlt3 := (List.getElem?_eq_some_iff.1 hp3).1
    have w3 := RowAt.set4 a2' (o := .row 4 [.agg [tv, sv, v', .int .i64 s.nx]]) hp3 (by omega)
    have w1 := RowAt.set4 (r1.keep a3 (by omega)) (o := .row 4 [.agg [tv, sv, v', .int .i64 s.nx]]) hp3 (by omega)
    have w2 := RowAt.set4 (r2.keep a3 (by omega)) (o := .row 4 [.agg [tv, sv, v', .int .i64 s.nx]]) hp3 (by omega)
    have hp4 : (g3.set p (.row 4 [.agg [tv, sv, v', .int .i64 s.nx]]))[p]? = some (.row 4 [.agg [tv, sv, v', .int .i64 s.nx]]) := by simp [hlt3]
    have ht2 := r3.subv 1
    have ht3 := a2.notTup
    have ht4 := a2.cells
    simp (maxSteps := 2000000) (discharger := omega) only [xz,xc,xo,xr,x0,x1,x2,x3,x4,x5,x6,xd,xe,xb,kont_call,kont_pure,kont_round,isNil,slOk,sliceV,selems,srcElems,copyTo,dlen,eqAV,eqCells,eqS,wr,place,partVals,partEs,placeEs,mapOf,keyOk,keyCells,findK,Bool.bne_false,Bool.bne_true,Reg.isA,Reg.isV,Reg.stays,Reg.onto,↓reduceIte,reduceCtorEq,Nat.reduceEqDiff,Nat.reduceLT,Nat.reduceAdd,Nat.reduceMul,Nat.reduceLeDiff,Nat.zero_lt_succ,Option.bind_some,Option.getD_some,Option.getD_none,Int.cast_ofNat_Int,Int.natCast_zero,Int.natCast_nonneg,true_implies,or_true,true_or,false_or,or_false,beq_self_eq_true,exists_eq_left',Int.reduceEq,Int.reduceLT,Int.reduceLE,Int.reduceGT,Int.reduceGE,Nat.reduceGT,Int.reduceNeg,Int.reduceToNat,Int.reduceAdd,Int.reduceMul,Int.reduceSub,Int.reducePow,decide_eq_true_eq,Nat.reduceBEq,Nat.reduceSub,exists_false,xu,List.set_cons_zero,List.set_cons_succ,wrap_i64,int_lt_t,int_lt_f,int_le_t,int_le_f,int_gt_t,int_gt_f,int_ge_t,int_ge_f,int_eq_t,int_eq_f,int_beq_t,int_beq_f,int_bne_t,int_bne_f,nat_le_t,nat_le_f,Nat.sub_zero,Nat.sub_self,not_false_eq_true,not_true_eq_false,hk,hg1,hx1,hp1,eix,ht2,a1,hp3,hu,ht3,ht4,Int.natCast_nonneg]
    exact ⟨hk1.trans ((KeepR.lo a3).trans (KeepLo.set hlo)), { s with lg := s.lg.eraseIdx i }, _, hp4, ⟨tv, sv, v', rfl, w1, w2, w3⟩, rfl⟩

set_option maxRecDepth 100000 in
set_option maxHeartbeats 8000000 in
theorem c14_o (h1 : x.k ≠ 1) (h2 : x.k ≠ 2) (h3 : x.k ≠ 3) (h4 : x.k ≠ 4) (h5 : x.k ≠ 5) (h6 : x.k ≠ 6) (h7 : x.k ≠ 7) (hs : StAt h lo s v) (hz : s.small) (hp : h[p]? = some (.row 4 [v])) (hlo : lo ≤ p) (hn : s.tb.length + s.sr.length + s.lg.length + 40 < n) :
    ∃ v' h', call F (n + 1) tot ω 14 [.ptr p 4 0 0, edOf x] h = some (v', h') ∧ ApPost s x p lo h v' h' := by
  refine call_of (fn := a14) f14 (P := ApPost s x p lo h) ?_
  have hlt := (List.getElem?_eq_some_iff.1 hp).1
  have hp1 := get_app_lt (m := [AO.row 6 [edOf x]]) hp
  have hx1 : (h ++ [AO.row 6 [edOf x]])[h.length]? = some (.row 6 [edOf x]) := by simp
  have hs1 : StAt (h ++ [AO.row 6 [edOf x]]) lo s v := by
    obtain ⟨tv, sv, lv, rfl, r1, r2, r3⟩ := hs
    exact ⟨tv, sv, lv, rfl, r1.more, r2.more, r3.more⟩
  have herr : errF s x = 1 := by simp [errF,h1,h2,h3,h4,h5,h6,h7]
  unfold ApPost
  rw [herr]
  have hk1 : KeepLo lo h (h ++ [AO.row 6 [edOf x]]) := .app _
  unfold a14 edOf
  generalize hg1 : h ++ [AO.row 6 [edOf x]] = g1 at *
  unfold edOf at hg1 hx1
  simp (maxSteps := 2000000) (discharger := omega) only [xz,xc,xo,xr,x0,x1,x2,x3,x4,x5,x6,xd,xe,xb,kont_call,kont_pure,kont_round,isNil,slOk,sliceV,selems,srcElems,copyTo,dlen,eqAV,eqCells,eqS,wr,place,partVals,partEs,placeEs,mapOf,keyOk,keyCells,findK,Bool.bne_false,Bool.bne_true,Reg.isA,Reg.isV,Reg.stays,Reg.onto,↓reduceIte,reduceCtorEq,Nat.reduceEqDiff,Nat.reduceLT,Nat.reduceAdd,Nat.reduceMul,Nat.reduceLeDiff,Nat.zero_lt_succ,Option.bind_some,Option.getD_some,Option.getD_none,Int.cast_ofNat_Int,Int.natCast_zero,Int.natCast_nonneg,true_implies,or_true,true_or,false_or,or_false,beq_self_eq_true,exists_eq_left',Int.reduceEq,Int.reduceLT,Int.reduceLE,Int.reduceGT,Int.reduceGE,Nat.reduceGT,Int.reduceNeg,Int.reduceToNat,Int.reduceAdd,Int.reduceMul,Int.reduceSub,Int.reducePow,decide_eq_true_eq,Nat.reduceBEq,Nat.reduceSub,exists_false,xu,List.set_cons_zero,List.set_cons_succ,wrap_i64,int_lt_t,int_lt_f,int_le_t,int_le_f,int_gt_t,int_gt_f,int_ge_t,int_ge_f,int_eq_t,int_eq_f,int_beq_t,int_beq_f,int_bne_t,int_bne_f,nat_le_t,nat_le_f,Nat.sub_zero,Nat.sub_self,not_false_eq_true,not_true_eq_false,hg1,hx1]
  exact ⟨hk1, fun h => by simp at h⟩

theorem c14 (hs : StAt h lo s v) (hz : s.small) (hp : h[p]? = some (.row 4 [v])) (hlo : lo ≤ p) (hok1 : ∀ t ∈ s.tb, t.ok) (hok2 : ∀ t ∈ s.sr, t.ok) (hxf : x.f ≤ 9223372036854775807) (hn : 2 * s.tb.length + 2 * s.sr.length + s.lg.length + 42 < n) :
    ∃ v' h', call F n tot ω 14 [.ptr p 4 0 0, edOf x] h = some (v', h') ∧ ApPost s x p lo h v' h' := by
  obtain ⟨n, rfl⟩ : ∃ m, n = m + 1 := ⟨n - 1, by omega⟩
  by_cases k1 : x.k = 1
  · exact c14_1 s v x p lo h k1 hs hz hp hlo hok1 hxf (by omega)
  by_cases k2 : x.k = 2
  · exact c14_2 s v x p lo h k2 hs hz hp hlo (by omega)
  by_cases k3 : x.k = 3
  · exact c14_3 s v x p lo h k3 hs hz hp hlo hok2 hxf (by omega)
  by_cases k4 : x.k = 4
  · exact c14_4 s v x p lo h k4 hs hz hp hlo (by omega)
  by_cases k5 : x.k = 5
  · exact c14_5 s v x p lo h k5 hs hz hp hlo (by omega)
  by_cases k6 : x.k = 6
  · exact c14_6 s v x p lo h k6 hs hz hp hlo (by omega)
  by_cases k7 : x.k = 7
  · exact c14_7 s v x p lo h k7 hs hz hp hlo (by omega)
  exact c14_o s v x p lo h k1 k2 k3 k4 k5 k6 k7 hs hz hp hlo (by omega)
end
end Go.Proofs.Ytabpndekmpjmhaa.Im

/- S14Ar: what edits make of a state: the program's. -/
set_option linter.unusedVariables false
set_option linter.unusedSimpArgs false
open Go Go.Im
namespace Go.Proofs.Ytabpndekmpjmhaa.Im

def RunsTo : Ste → List Ed → Ste → Prop
  | s, [], s' => s' = s
  | s, x :: xs, s' => errF s x = 0 ∧ ∃ s1, stepR s x s1 ∧ RunsTo s1 xs s'
def RunErr : Ste → List Ed → Int → Prop
  | _, [], _ => False
  | s, x :: xs, e => (errF s x ≠ 0 ∧ e = errF s x) ∨ (errF s x = 0 ∧ ∃ s1, stepR s x s1 ∧ RunErr s1 xs e)

def Ste.sz (s : Ste) : Nat := s.tb.length + s.sr.length + s.lg.length
def Ste.ok (s : Ste) : Prop := (∀ t ∈ s.tb, t.ok) ∧ ∀ t ∈ s.sr, t.ok

theorem tableF_ok {s : Ste} {x : Ed} (h : tableF s x = 0) : badT x = false := by
  simp only [tableF] at h
  split at h
  · cases h
  · rename_i hb; simpa using hb

theorem step_ok {s s' : Ste} {x : Ed} (hs : s.ok) (he : errF s x = 0) (hr : stepR s x s') (hxf : x.f ≤ 9223372036854775807) : s'.ok ∧ s'.sz ≤ s.sz + 1 := by
  obtain ⟨o1, o2⟩ := hs
  have len_e : ∀ {α : Type} (l : List α) (i : Nat), (l.eraseIdx i).length ≤ l.length := fun l i => by rw [List.length_eraseIdx]; split <;> omega
  have mem_e : ∀ {α : Type} {l : List α} {i : Nat} {a : α}, a ∈ l.eraseIdx i → a ∈ l := fun h => List.mem_of_mem_eraseIdx h
  unfold stepR at hr
  split at hr
  · rename_i k1
    obtain ⟨r1, _, r3, r4, r5⟩ := hr
    rw [errF, if_pos k1] at he
    split at he
    · cases he
    · rename_i hf
      have hb := tableF_ok he
      simp [badT] at hb
      refine ⟨⟨fun t ht => ?_, by rw [r3]; exact o2⟩, ?_⟩
      · have := r1.mem_iff.1 ht
        rw [List.mem_append] at this
        rcases this with h | h
        · exact o1 t h
        · simp at h; subst h
          exact ⟨by simp [edT]; omega, by simp [edT]; omega, by simp [edT]; omega, hxf⟩
      · have := r1.length_eq
        simp only [Ste.sz,r3,r4]
        simp at this; omega
  · rename_i k1
    split at hr
    · rename_i k3
      obtain ⟨r1, _, r3, r4, r5⟩ := hr
      rw [errF, if_neg k1, if_pos k3] at he
      split at he
      · cases he
      · rename_i hf
        refine ⟨⟨by rw [r3]; exact o1, fun t ht => ?_⟩, ?_⟩
        · have := r1.mem_iff.1 ht
          rw [List.mem_append] at this
          rcases this with h | h
          · exact o2 t h
          · simp at h; subst h
            exact ⟨by simp; omega, hxf⟩
        · have := r1.length_eq
          simp only [Ste.sz,r3,r4]
          simp at this; omega
    · split at hr
      · subst hr; exact ⟨⟨o1, o2⟩, by simp [Ste.sz]; omega⟩
      · split at hr
        · subst hr; exact ⟨⟨o1, o2⟩, by simp [Ste.sz]⟩
        · split at hr
          · subst hr
            exact ⟨⟨fun t ht => o1 t (mem_e ht), o2⟩, by have := len_e s.tb (idxOf (fun t => t.f == x.f) s.tb).toNat; simp only [Ste.sz]; omega⟩
          · split at hr
            · subst hr
              exact ⟨⟨o1, fun t ht => o2 t (mem_e ht)⟩, by have := len_e s.sr (idxOf (fun t => t.f == x.f) s.sr).toNat; simp only [Ste.sz]; omega⟩
            · subst hr
              exact ⟨⟨o1, o2⟩, by have := len_e s.lg (idxOf (fun y => x.f == y) s.lg).toNat; simp only [Ste.sz]; omega⟩

theorem execA_all {K : Kont} {ops : List AOper} {r r' : Regs} {h h' : Hp} : ∀ {os : List (List Nat)}, os ≠ [] → (∀ o ∈ os, execs K (inOrd ops o) r h = some (r', h')) → execA K ops os r h = some (r', h')
  | [], hne, _ => absurd rfl hne
  | [o], _, hh => by simp only [execA]; exact hh o (by simp)
  | o :: o2 :: os, _, hh => by
    have h1 := hh o (by simp)
    have h2 := execA_all (os := o2 :: os) (by simp) fun x hx => hh x (List.mem_cons_of_mem _ hx)
    simp only [execA,h1,h2,(eqRegs_iff _ _).2 rfl,(eqHp_iff _ _).2 rfl]
    rfl
theorem wpi_regionAs {K : Kont} {n : Nat} {r r' : Regs} {h h' : Hp} {Q : AE → Regs → Hp → Prop} {os : List (List Nat)} {ops : List AOper} {ks : List Nat} (hne : os ≠ []) (hh : ∀ o ∈ os, execs K (inOrd ops o) r h = some (r', h')) (hq : Q .normal (Go.Im.settle ks r') h') :
    Wp K n (.regionA os ops ks) r h Q := wpi_regionA (execA_all hne hh) hq

def z4 : AV := .agg [.nils, .nils, .nils, .int .i64 0]

def AppPost (s : Ste) (xs : List Ed) (h : Hp) (v' : AV) (h' : Hp) : Prop :=
  KeepLo h.length h h' ∧ ∃ u e, v' = .tup [u, .int .i64 e] ∧ ((e = 0 ∧ ∃ s', StAt h' h.length s' u ∧ RunsTo s xs s') ∨ (e ≠ 0 ∧ u = z4 ∧ RunErr s xs e))

section
variable {tot : Bool} {ω : Nat → Nat} {n : Nat} (s : Ste) (v ve : AV) (xs : List Ed) (lo : Nat) (h : Hp)

set_option maxRecDepth 100000 in
set_option maxHeartbeats 8000000 in
theorem c6 (hs : StAt h lo s v) (hv : IsRd 6 (edsOf xs) ve) (hok : s.ok) (hz : s.sz + xs.length ≤ 90000) (hxf : ∀ x ∈ xs, x.f ≤ 9223372036854775807) (hn : 2 * s.sz + 3 * xs.length + 50 < n) :
    ∃ v' h', call F n tot ω 6 [v, ve] h = some (v', h') ∧ AppPost s xs h v' h' := by
  obtain ⟨n, rfl⟩ : ∃ m, n = m + 1 := ⟨n - 1, by omega⟩
  refine call_of (fn := a6) f6 (P := AppPost s xs h) ?_
  obtain ⟨tv, sv, lv, rfl, r1, r2, r3⟩ := hs
  have hszd : s.sz = s.tb.length + s.sr.length + s.lg.length := rfl
  unfold a6
  obtain ⟨v0, hv0⟩ : ∃ v0, v0 = AV.agg [tv, sv, lv, .int .i64 s.nx] := ⟨_, rfl⟩
  have hlen := hv.len
  rw [edsOf_len] at hlen
  obtain ⟨tv', m1, k1, w1⟩ := c11 (tot := tot) (ω := ω) (n := n) tv _ lo (h ++ [.row 4 [v0]]) r1.more (by rw [List.length_map]; omega) (by omega)
  obtain ⟨sv', m2, k2, w2⟩ := c12 (tot := tot) (ω := ω) (n := n) sv _ lo (h ++ [.row 4 [v0]] ++ m1) r2.more.more (by rw [List.length_map]; omega) (by omega)
  obtain ⟨lv', m3, k3, w3⟩ := c13 (tot := tot) (ω := ω) (n := n) lv _ lo (h ++ [.row 4 [v0]] ++ m1 ++ m2) r3.more.more.more (by rw [List.length_map]; omega) (by omega)
  have hp0 : (h ++ [AO.row 4 [v0]])[h.length]? = some (.row 4 [v0]) := by simp
  have hp1 := get_app_lt (m := m1) hp0
  have hp2 := get_app_lt (m := m2) hp1
  have hp3 := get_app_lt (m := m3) hp2
  have y1 := ((w1.more (m := m2)).more (m := m3)).low (l2 := h.length) (by simp)
  have y2 := (w2.more (m := m3)).low (l2 := h.length) (by simp)
  have y3 := w3.low (l2 := h.length) (by simp)
  generalize hgg : h ++ [AO.row 4 [v0]] ++ m1 ++ m2 ++ m3 = g3 at *
  have hkeep : KeepLo h.length h g3 := by rw [← hgg]; exact (((KeepLo.app _).trans (.app _)).trans (.app _)).trans (.app _)
  have hlt3 := (List.getElem?_eq_some_iff.1 hp3).1
  have hset : ∀ o, (g3.set h.length o)[h.length]? = some o := fun o => by simp [hlt3]
  subst hv0
  have ft1 : ∀ cs off, upd (.agg cs) off tv' = if off < cs.length then some (.agg (cs.set off tv')) else none := y1.updA
  have ft2 : ∀ cs off, upd (.agg cs) off sv' = if off < cs.length then some (.agg (cs.set off sv')) else none := y2.updA
  have ft3 : ∀ cs off, upd (.agg cs) off lv' = if off < cs.length then some (.agg (cs.set off lv')) else none := y3.updA
  have g1 := r1.subv 1
  have g2 := r2.subv 1
  have g3' := r3.subv 1
  have n1 := y1.notTup
  have n2 := y2.notTup
  have n3 := y3.notTup
  have l1 := y1.cells
  have l2 := y2.cells
  have l3 := y3.cells
  let v3 : AV := .agg [tv', sv', lv', .int .i64 s.nx]
  simp (maxSteps := 2000000) (discharger := omega) only [xz,xc,xo,xr,x0,x1,x2,x3,x4,x5,x6,xd,xe,xb,kont_call,kont_pure,kont_round,isNil,slOk,sliceV,selems,srcElems,copyTo,dlen,eqAV,eqCells,eqS,wr,place,partVals,partEs,placeEs,mapOf,keyOk,keyCells,findK,Bool.bne_false,Bool.bne_true,Reg.isA,Reg.isV,Reg.stays,Reg.onto,↓reduceIte,reduceCtorEq,Nat.reduceEqDiff,Nat.reduceLT,Nat.reduceAdd,Nat.reduceMul,Nat.reduceLeDiff,Nat.zero_lt_succ,Option.bind_some,Option.getD_some,Option.getD_none,Int.cast_ofNat_Int,Int.natCast_zero,Int.natCast_nonneg,true_implies,or_true,true_or,false_or,or_false,beq_self_eq_true,exists_eq_left',Int.reduceEq,Int.reduceLT,Int.reduceLE,Int.reduceGT,Int.reduceGE,Nat.reduceGT,Int.reduceNeg,Int.reduceToNat,Int.reduceAdd,Int.reduceMul,Int.reduceSub,Int.reducePow,decide_eq_true_eq,Nat.reduceBEq,Nat.reduceSub,exists_false,xu,List.set_cons_zero,List.set_cons_succ,wrap_i64,int_lt_t,int_lt_f,int_le_t,int_le_f,int_gt_t,int_gt_f,int_ge_t,int_ge_f,int_eq_t,int_eq_f,int_beq_t,int_beq_f,int_bne_t,int_bne_f,nat_le_t,nat_le_f,Nat.sub_zero,Nat.sub_self,not_false_eq_true,not_true_eq_false]
  refine wpi_regionAs (r' := [(1, .val ve), (2, .val (.ptr h.length 4 0 0)), (4, .var z4), (9, .val (.ptr h.length 4 0 0)), (10, .val tv), (11, .val tv'), (12, .val (.ptr h.length 4 0 1)), (13, .val sv), (14, .val sv'), (15, .val (.ptr h.length 4 0 2)), (16, .val lv), (17, .val lv'), (18, .val (.ptr h.length 4 0 0)), (19, .val (.ptr h.length 4 0 1)), (20, .val (.ptr h.length 4 0 2))])
    (h' := g3.set h.length (.row 4 [v3])) (by simp) ?_ ?_
  · intro o ho
    simp only [List.mem_cons,List.not_mem_nil,or_false] at ho
    rcases ho with rfl | rfl | rfl | rfl | rfl | rfl <;> refine execs_is ?_ <;> simp only [inOrd,List.filterMap_cons,List.filterMap_nil,List.getElem?_cons_zero,List.getElem?_cons_succ] <;>
    simp (maxSteps := 2000000) (discharger := omega) only [xz,xc,xo,xr,x0,x1,x2,x3,x4,x5,x6,xd,xe,xb,kont_call,kont_pure,kont_round,isNil,slOk,sliceV,selems,srcElems,copyTo,dlen,eqAV,eqCells,eqS,wr,place,partVals,partEs,placeEs,mapOf,keyOk,keyCells,findK,Bool.bne_false,Bool.bne_true,Reg.isA,Reg.isV,Reg.stays,Reg.onto,↓reduceIte,reduceCtorEq,Nat.reduceEqDiff,Nat.reduceLT,Nat.reduceAdd,Nat.reduceMul,Nat.reduceLeDiff,Nat.zero_lt_succ,Option.bind_some,Option.getD_some,Option.getD_none,Int.cast_ofNat_Int,Int.natCast_zero,Int.natCast_nonneg,true_implies,or_true,true_or,false_or,or_false,beq_self_eq_true,exists_eq_left',Int.reduceEq,Int.reduceLT,Int.reduceLE,Int.reduceGT,Int.reduceGE,Nat.reduceGT,Int.reduceNeg,Int.reduceToNat,Int.reduceAdd,Int.reduceMul,Int.reduceSub,Int.reducePow,decide_eq_true_eq,Nat.reduceBEq,Nat.reduceSub,exists_false,xu,List.set_cons_zero,List.set_cons_succ,wrap_i64,int_lt_t,int_lt_f,int_le_t,int_le_f,int_gt_t,int_gt_f,int_ge_t,int_ge_f,int_eq_t,int_eq_f,int_beq_t,int_beq_f,int_bne_t,int_bne_f,nat_le_t,nat_le_f,Nat.sub_zero,Nat.sub_self,not_false_eq_true,not_true_eq_false,hp0,hp1,hp2,hp3,k1,k2,k3,hset,List.set_set,g1,g2,g3',n1,n2,n3,l1,l2,l3,ft1,ft2,ft3,Is,z4,v3]
  have hp4 : (g3.set h.length (.row 4 [v3]))[h.length]? = some (.row 4 [v3]) := hset _
  have hs4 : StAt (g3.set h.length (.row 4 [v3])) h.length s v3 := ⟨tv', sv', lv', rfl, RowAt.set4 y1 hp3 (by omega), RowAt.set4 y2 hp3 (by omega), RowAt.set4 y3 hp3 (by omega)⟩
  have hk4 : KeepLo h.length h (g3.set h.length (.row 4 [v3])) := hkeep.trans (KeepLo.set (Nat.le_refl _))
  generalize g3.set h.length (.row 4 [v3]) = g4 at hp4 hs4 hk4 ⊢
  clear ft1 ft2 ft3 g1 g2 g3' n1 n2 n3 l1 l2 l3 hset hkeep hp0 hp1 hp2 hp3 y1 y2 y3 k1 k2 k3 w1 w2 w3 hgg
  simp (maxSteps := 2000000) (discharger := omega) only [xz,xc,xo,xr,x0,x1,x2,x3,x4,x5,x6,xd,xe,xb,kont_call,kont_pure,kont_round,isNil,slOk,sliceV,selems,srcElems,copyTo,dlen,eqAV,eqCells,eqS,wr,place,partVals,partEs,placeEs,mapOf,keyOk,keyCells,findK,Bool.bne_false,Bool.bne_true,Reg.isA,Reg.isV,Reg.stays,Reg.onto,↓reduceIte,reduceCtorEq,Nat.reduceEqDiff,Nat.reduceLT,Nat.reduceAdd,Nat.reduceMul,Nat.reduceLeDiff,Nat.zero_lt_succ,Option.bind_some,Option.getD_some,Option.getD_none,Int.cast_ofNat_Int,Int.natCast_zero,Int.natCast_nonneg,true_implies,or_true,true_or,false_or,or_false,beq_self_eq_true,exists_eq_left',Int.reduceEq,Int.reduceLT,Int.reduceLE,Int.reduceGT,Int.reduceGE,Nat.reduceGT,Int.reduceNeg,Int.reduceToNat,Int.reduceAdd,Int.reduceMul,Int.reduceSub,Int.reducePow,decide_eq_true_eq,Nat.reduceBEq,Nat.reduceSub,exists_false,xu,List.set_cons_zero,List.set_cons_succ,wrap_i64,int_lt_t,int_lt_f,int_le_t,int_le_f,int_gt_t,int_gt_f,int_ge_t,int_ge_f,int_eq_t,int_eq_f,int_beq_t,int_beq_f,int_bne_t,int_bne_f,nat_le_t,nat_le_f,Nat.sub_zero,Nat.sub_self,not_false_eq_true,not_true_eq_false,hlen]
  refine wpi_loop (fun k r g => ∃ (i : Nat) (s1 : Ste) (u : AV), r = [(2, .val (.ptr h.length 4 0 0)), (4, .var z4), (21, .val ve), (22, .val (.int .i64 xs.length)), (23, .val (.int .i64 i))] ∧ i ≤ xs.length ∧ k = xs.length - i ∧
    g[h.length]? = some (.row 4 [u]) ∧ StAt g h.length s1 u ∧ KeepLo h.length h g ∧ s1.ok ∧ s1.sz ≤ s.sz + i ∧ (∀ s', RunsTo s1 (xs.drop i) s' → RunsTo s xs s') ∧ (∀ e, RunErr s1 (xs.drop i) e → RunErr s xs e)) xs.length (by omega)
    ⟨0, s, v3, rfl, by omega, by omega, hp4, hs4, hk4, hok, by omega, fun _ h => h, fun _ h => h⟩ ?_
  rintro k r g ⟨i, s1, u, rfl, hi, rfl, hpg, hsg, hkg, hokg, hszg, hR, hE⟩
  by_cases hlt : i < xs.length
  · obtain ⟨cc, rfl⟩ := hv.imm (i := i) (by rw [edsOf_len]; exact hlt)
    have he := edsOf_get hlt
    have hxi := hxf xs[i] (List.getElem_mem _)
    rw [List.drop_eq_getElem_cons hlt] at hR hE
    generalize xs[i] = x at he hxi hR hE
    have d1 : s1.sz = s1.tb.length + s1.sr.length + s1.lg.length := rfl
    have hsz1 : s1.small := ⟨by omega, by omega, by omega⟩
    obtain ⟨v', g', e1, e2, e3, e4⟩ := c14 (tot := tot) (ω := ω) (n := n) s1 u x h.length h.length g hsg hsz1 hpg (Nat.le_refl _) hokg.1 hokg.2 hxi (by omega)
    subst e2
    have t1 : sub (edOf x) 0 6 true = some (edOf x) := rfl
    have t2 : upd (.agg [.int .i64 0, .int .i64 0, .int .i64 0, .int .i64 0, .str [], .str []]) 0 (edOf x) = some (edOf x) := rfl
    have t3 : (edOf x).notTup = true := rfl
    have t4 : (edOf x).cells.length = 6 := rfl
    by_cases her : errF s1 x = 0
    · obtain ⟨s2, u2, p1, p2, p3⟩ := e4 her
      obtain ⟨o1, o2⟩ := step_ok hokg her p3 hxi
      rw [her] at e1
      simp (maxSteps := 2000000) (discharger := omega) only [xz,xc,xo,xr,x0,x1,x2,x3,x4,x5,x6,xd,xe,xb,kont_call,kont_pure,kont_round,isNil,slOk,sliceV,selems,srcElems,copyTo,dlen,eqAV,eqCells,eqS,wr,place,partVals,partEs,placeEs,mapOf,keyOk,keyCells,findK,Bool.bne_false,Bool.bne_true,Reg.isA,Reg.isV,Reg.stays,Reg.onto,↓reduceIte,reduceCtorEq,Nat.reduceEqDiff,Nat.reduceLT,Nat.reduceAdd,Nat.reduceMul,Nat.reduceLeDiff,Nat.zero_lt_succ,Option.bind_some,Option.getD_some,Option.getD_none,Int.cast_ofNat_Int,Int.natCast_zero,Int.natCast_nonneg,true_implies,or_true,true_or,false_or,or_false,beq_self_eq_true,exists_eq_left',Int.reduceEq,Int.reduceLT,Int.reduceLE,Int.reduceGT,Int.reduceGE,Nat.reduceGT,Int.reduceNeg,Int.reduceToNat,Int.reduceAdd,Int.reduceMul,Int.reduceSub,Int.reducePow,decide_eq_true_eq,Nat.reduceBEq,Nat.reduceSub,exists_false,xu,List.set_cons_zero,List.set_cons_succ,wrap_i64,int_lt_t,int_lt_f,int_le_t,int_le_f,int_gt_t,int_gt_f,int_ge_t,int_ge_f,int_eq_t,int_eq_f,int_beq_t,int_beq_f,int_bne_t,int_bne_f,nat_le_t,nat_le_f,Nat.sub_zero,Nat.sub_self,not_false_eq_true,not_true_eq_false,hlen,he,t1,t2,t3,t4,e1,z4]
      exact ⟨xs.length - (i + 1), by omega, i + 1, s2, u2, rfl, by omega, rfl, p1, p2, hkg.trans e3, o1, by omega, fun s' h => hR s' ⟨her, s2, p3, h⟩, fun e h => hE e (.inr ⟨her, s2, p3, h⟩)⟩
    · simp (maxSteps := 2000000) (discharger := omega) only [xz,xc,xo,xr,x0,x1,x2,x3,x4,x5,x6,xd,xe,xb,kont_call,kont_pure,kont_round,isNil,slOk,sliceV,selems,srcElems,copyTo,dlen,eqAV,eqCells,eqS,wr,place,partVals,partEs,placeEs,mapOf,keyOk,keyCells,findK,Bool.bne_false,Bool.bne_true,Reg.isA,Reg.isV,Reg.stays,Reg.onto,↓reduceIte,reduceCtorEq,Nat.reduceEqDiff,Nat.reduceLT,Nat.reduceAdd,Nat.reduceMul,Nat.reduceLeDiff,Nat.zero_lt_succ,Option.bind_some,Option.getD_some,Option.getD_none,Int.cast_ofNat_Int,Int.natCast_zero,Int.natCast_nonneg,true_implies,or_true,true_or,false_or,or_false,beq_self_eq_true,exists_eq_left',Int.reduceEq,Int.reduceLT,Int.reduceLE,Int.reduceGT,Int.reduceGE,Nat.reduceGT,Int.reduceNeg,Int.reduceToNat,Int.reduceAdd,Int.reduceMul,Int.reduceSub,Int.reducePow,decide_eq_true_eq,Nat.reduceBEq,Nat.reduceSub,exists_false,xu,List.set_cons_zero,List.set_cons_succ,wrap_i64,int_lt_t,int_lt_f,int_le_t,int_le_f,int_gt_t,int_gt_f,int_ge_t,int_ge_f,int_eq_t,int_eq_f,int_beq_t,int_beq_f,int_bne_t,int_bne_f,nat_le_t,nat_le_f,Nat.sub_zero,Nat.sub_self,not_false_eq_true,not_true_eq_false,hlen,he,t1,t2,t3,t4,e1,z4,her]
      exact ⟨hkg.trans e3, _, _, rfl, .inr ⟨her, rfl, hE _ (.inl ⟨her, rfl⟩)⟩⟩
  · rw [List.drop_of_length_le (by omega)] at hR
    have hrun := hR s1 rfl
    obtain ⟨tv2, sv2, lv2, rfl, u1, u2, u3⟩ := hsg
    simp (maxSteps := 2000000) (discharger := omega) only [xz,xc,xo,xr,x0,x1,x2,x3,x4,x5,x6,xd,xe,xb,kont_call,kont_pure,kont_round,isNil,slOk,sliceV,selems,srcElems,copyTo,dlen,eqAV,eqCells,eqS,wr,place,partVals,partEs,placeEs,mapOf,keyOk,keyCells,findK,Bool.bne_false,Bool.bne_true,Reg.isA,Reg.isV,Reg.stays,Reg.onto,↓reduceIte,reduceCtorEq,Nat.reduceEqDiff,Nat.reduceLT,Nat.reduceAdd,Nat.reduceMul,Nat.reduceLeDiff,Nat.zero_lt_succ,Option.bind_some,Option.getD_some,Option.getD_none,Int.cast_ofNat_Int,Int.natCast_zero,Int.natCast_nonneg,true_implies,or_true,true_or,false_or,or_false,beq_self_eq_true,exists_eq_left',Int.reduceEq,Int.reduceLT,Int.reduceLE,Int.reduceGT,Int.reduceGE,Nat.reduceGT,Int.reduceNeg,Int.reduceToNat,Int.reduceAdd,Int.reduceMul,Int.reduceSub,Int.reducePow,decide_eq_true_eq,Nat.reduceBEq,Nat.reduceSub,exists_false,xu,List.set_cons_zero,List.set_cons_succ,wrap_i64,int_lt_t,int_lt_f,int_le_t,int_le_f,int_gt_t,int_gt_f,int_ge_t,int_ge_f,int_eq_t,int_eq_f,int_beq_t,int_beq_f,int_bne_t,int_bne_f,nat_le_t,nat_le_f,Nat.sub_zero,Nat.sub_self,not_false_eq_true,not_true_eq_false,hlen,hpg,z4]
    exact ⟨hkg, _, _, rfl, .inl ⟨rfl, s1, ⟨tv2, sv2, lv2, rfl, u1, u2, u3⟩, hrun⟩⟩
end
end Go.Proofs.Ytabpndekmpjmhaa.Im

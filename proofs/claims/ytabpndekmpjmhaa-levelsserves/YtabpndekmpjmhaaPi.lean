/- Joined: S14Me, S14Fr, S14Pi. -/
import Derived.Test.YtabpndekmpjmhaaAr
/- S14Me: which tables may have a key. -/
set_option linter.unusedVariables false
set_option linter.unusedSimpArgs false
open Go Go.Im
namespace Go.Proofs.Ytabpndekmpjmhaa.Im

def mt (t : Tb) (lo hi : List UInt8) : Bool := sLe t.lo hi && sLe lo t.hi

theorem c10 {tot : Bool} {ω : Nat → Nat} {n : Nat} (t : Tb) (lo hi : List UInt8) (h : Hp) (hn : 0 < n) : call F n tot ω 10 [tbOf t, .str lo, .str hi] h = some (.bool (mt t lo hi), h) := by
  obtain ⟨n, rfl⟩ : ∃ m, n = m + 1 := ⟨n - 1, by omega⟩
  refine call_eq (fn := a10) f10 ?_
  unfold a10 tbOf
  have l1 : (Op.bytesLess t.lo hi || t.lo == hi) = sLe t.lo hi := rfl
  have l2 : (Op.bytesLess lo t.hi || lo == t.hi) = sLe lo t.hi := rfl
  have hm : mt t lo hi = (sLe t.lo hi && sLe lo t.hi) := rfl
  cases q1 : sLe t.lo hi with
  | true =>
    rw [hm, q1, Bool.true_and]
    simp (maxSteps := 2000000) (discharger := omega) only [xz,xc,xo,xr,x0,x1,x2,x3,x4,x5,x6,xd,xe,xb,kont_call,kont_pure,kont_round,isNil,slOk,sliceV,selems,srcElems,copyTo,dlen,eqAV,eqCells,eqS,wr,place,partVals,partEs,placeEs,mapOf,keyOk,keyCells,findK,Bool.bne_false,Bool.bne_true,Reg.isA,Reg.isV,Reg.stays,Reg.onto,↓reduceIte,reduceCtorEq,Nat.reduceEqDiff,Nat.reduceLT,Nat.reduceAdd,Nat.reduceMul,Nat.reduceLeDiff,Nat.zero_lt_succ,Option.bind_some,Option.getD_some,Option.getD_none,Int.cast_ofNat_Int,Int.natCast_zero,Int.natCast_nonneg,true_implies,or_true,true_or,false_or,or_false,beq_self_eq_true,exists_eq_left',Int.reduceEq,Int.reduceLT,Int.reduceLE,Int.reduceGT,Int.reduceGE,Nat.reduceGT,Int.reduceNeg,Int.reduceToNat,Int.reduceAdd,Int.reduceMul,Int.reduceSub,Int.reducePow,decide_eq_true_eq,Nat.reduceBEq,Nat.reduceSub,exists_false,xu,List.set_cons_zero,List.set_cons_succ,wrap_i64,int_lt_t,int_lt_f,int_le_t,int_le_f,int_gt_t,int_gt_f,int_ge_t,int_ge_f,int_eq_t,int_eq_f,int_beq_t,int_beq_f,int_bne_t,int_bne_f,nat_le_t,nat_le_f,Nat.sub_zero,Nat.sub_self,not_false_eq_true,not_true_eq_false,l1,l2,q1]
  | false =>
    rw [hm, q1, Bool.false_and]
    simp (maxSteps := 2000000) (discharger := omega) only [xz,xc,xo,xr,x0,x1,x2,x3,x4,x5,x6,xd,xe,xb,kont_call,kont_pure,kont_round,isNil,slOk,sliceV,selems,srcElems,copyTo,dlen,eqAV,eqCells,eqS,wr,place,partVals,partEs,placeEs,mapOf,keyOk,keyCells,findK,Bool.bne_false,Bool.bne_true,Reg.isA,Reg.isV,Reg.stays,Reg.onto,↓reduceIte,reduceCtorEq,Nat.reduceEqDiff,Nat.reduceLT,Nat.reduceAdd,Nat.reduceMul,Nat.reduceLeDiff,Nat.zero_lt_succ,Option.bind_some,Option.getD_some,Option.getD_none,Int.cast_ofNat_Int,Int.natCast_zero,Int.natCast_nonneg,true_implies,or_true,true_or,false_or,or_false,beq_self_eq_true,exists_eq_left',Int.reduceEq,Int.reduceLT,Int.reduceLE,Int.reduceGT,Int.reduceGE,Nat.reduceGT,Int.reduceNeg,Int.reduceToNat,Int.reduceAdd,Int.reduceMul,Int.reduceSub,Int.reducePow,decide_eq_true_eq,Nat.reduceBEq,Nat.reduceSub,exists_false,xu,List.set_cons_zero,List.set_cons_succ,wrap_i64,int_lt_t,int_lt_f,int_le_t,int_le_f,int_gt_t,int_gt_f,int_ge_t,int_ge_f,int_eq_t,int_eq_f,int_beq_t,int_beq_f,int_bne_t,int_bne_f,nat_le_t,nat_le_f,Nat.sub_zero,Nat.sub_self,not_false_eq_true,not_true_eq_false,l1,l2,q1]

def Late (sz : Nat) (h : Hp) (v : AV) : Prop := v = .nils ∨ (∃ es, v = .imm sz es .full) ∨ ∃ es j c, v = .imm sz es (.tok j c) ∧ h.length ≤ j

theorem app_late {sz bytes : Nat} {es : List AV} {x : AV} {h g : Hp} {o : AV} (io : IsApp sz es g o) (lo : Late sz h o) (hb : (es.length + 1) * bytes ≤ 140737488355328) (kp : KeepLo h.length h g) :
    ∃ o' g', appendV false sz bytes o [x] g = some (o', g') ∧ IsApp sz (es ++ [x]) g' o' ∧ Late sz h o' ∧ KeepLo h.length h g' := by
  obtain ⟨o', g', e1, e2, e3, e4, e5, c, e6⟩ := app_ok (bytes := bytes) (xs := [x]) io (by simp) (by simpa using hb)
  refine ⟨o', g', e1, e2, .inr (.inr ⟨_, _, c, e6, kp.1⟩), Nat.le_trans kp.1 e4, fun i q hi hq => ?_⟩
  refine e5 i _ (kp.2 i q hi hq) fun c hc => ?_
  rcases lo with rfl | ⟨es', rfl⟩ | ⟨es', j, c', rfl, hj⟩
  · cases hc
  · cases hc
  · cases hc
    omega

theorem tb_at {tb : List Tb} {h : Hp} {lo i : Nat} {tv : AV} (r : RowAt h 5 lo (tb.map tbOf) tv) (hi : i < tb.length) : ∃ id es, tv = .row id 5 0 tb.length false ∧ h[id]? = some (.row 5 es) ∧ es[i]? = some (tbOf tb[i]) := by
  obtain ⟨id, post, e, e2, _⟩ := r.row (i := i) (by simpa using hi)
  rw [List.length_map] at e
  exact ⟨id, _, e, e2, at_map hi post⟩

theorem filter_take {α : Type} {p : α → Bool} {l : List α} {i : Nat} (h : i < l.length) : (l.take (i + 1)).filter p = (l.take i).filter p ++ if p l[i] then [l[i]] else [] := by
  rw [List.take_succ_eq_append_getElem h, List.filter_append]
  cases hp : p l[i] <;> simp [hp]

def fsOf (l : List Tb) : List AV := l.map fun t => .int .i64 t.f
theorem fsOf_len (l : List Tb) : (fsOf l).length = l.length := by simp [fsOf]

theorem c7 {tot : Bool} {ω : Nat → Nat} {n : Nat} (tb : List Tb) (tv : AV) (k : List UInt8) (lo : Nat) (h : Hp) (r : RowAt h 5 lo (tb.map tbOf) tv) (hl : tb.length ≤ 100000) (hn : tb.length + 10 < n) :
    ∃ v h', call F n tot ω 7 [tv, .str k] h = some (v, h') ∧ IsRd 1 (fsOf (tb.filter fun t => mt t k k)) v ∧ KeepLo h.length h h' := by
  obtain ⟨n, rfl⟩ : ∃ m, n = m + 1 := ⟨n - 1, by omega⟩
  refine call_of (fn := a7) f7 (P := fun v h' => IsRd 1 (fsOf (tb.filter fun t => mt t k k)) v ∧ KeepLo h.length h h') ?_
  have hlen := r.len
  rw [List.length_map] at hlen
  unfold a7
  simp (maxSteps := 2000000) (discharger := omega) only [xz,xc,xo,xr,x0,x1,x2,x3,x4,x5,x6,xd,xe,xb,kont_call,kont_pure,kont_round,isNil,slOk,sliceV,selems,srcElems,copyTo,dlen,eqAV,eqCells,eqS,wr,place,partVals,partEs,placeEs,mapOf,keyOk,keyCells,findK,Bool.bne_false,Bool.bne_true,Reg.isA,Reg.isV,Reg.stays,Reg.onto,↓reduceIte,reduceCtorEq,Nat.reduceEqDiff,Nat.reduceLT,Nat.reduceAdd,Nat.reduceMul,Nat.reduceLeDiff,Nat.zero_lt_succ,Option.bind_some,Option.getD_some,Option.getD_none,Int.cast_ofNat_Int,Int.natCast_zero,Int.natCast_nonneg,true_implies,or_true,true_or,false_or,or_false,beq_self_eq_true,exists_eq_left',Int.reduceEq,Int.reduceLT,Int.reduceLE,Int.reduceGT,Int.reduceGE,Nat.reduceGT,Int.reduceNeg,Int.reduceToNat,Int.reduceAdd,Int.reduceMul,Int.reduceSub,Int.reducePow,decide_eq_true_eq,Nat.reduceBEq,Nat.reduceSub,exists_false,xu,List.set_cons_zero,List.set_cons_succ,wrap_i64,int_lt_t,int_lt_f,int_le_t,int_le_f,int_gt_t,int_gt_f,int_ge_t,int_ge_f,int_eq_t,int_eq_f,int_beq_t,int_beq_f,int_bne_t,int_bne_f,nat_le_t,nat_le_f,Nat.sub_zero,Nat.sub_self,not_false_eq_true,not_true_eq_false,hlen]
  refine wpi_loop (fun m r g => ∃ (i : Nat) (o : AV), r = [(1, .val (.str k)), (5, .val o), (8, .val tv), (9, .val (.int .i64 tb.length)), (10, .val (.int .i64 i))] ∧ i ≤ tb.length ∧ m = tb.length - i ∧ IsApp 1 (fsOf ((tb.take i).filter fun t => mt t k k)) g o ∧ Late 1 h o ∧ KeepLo h.length h g) tb.length (by omega) ⟨0, .nils, rfl, by omega, by omega, .nils _ _, .inl rfl, .refl⟩ ?_
  rintro m r1 g ⟨i, o, rfl, hi, rfl, io, lt, kp⟩
  by_cases hlt : i < tb.length
  · obtain ⟨id, es, rfl, q1, q2⟩ := tb_at r hlt
    have q1 := kp.2 _ _ (List.getElem?_eq_some_iff.1 q1).1 q1
    have hft := filter_take (p := fun t => mt t k k) hlt
    generalize tb[i] = t at q2 hft
    have s1 : sub (tbOf t) 0 5 true = some (tbOf t) := rfl
    have u1 : upd (.agg [.int .i64 0, .int .i64 0, .int .i64 0, .str [], .str []]) 0 (tbOf t) = some (tbOf t) := rfl
    have n1 : (tbOf t).notTup = true := rfl
    have n2 : (tbOf t).cells.length = 5 := rfl
    have e10 := c10 (tot := tot) (ω := ω) (n := n) t k k g (by omega)
    have s0 : sub (tbOf t) 0 1 false = some (.int .i64 t.f) := rfl
    cases hm : mt t k k with
    | true =>
      rw [hm] at e10 hft
      simp only [if_true] at hft
      have hdl := List.length_filter_le (fun t => mt t k k) (tb.take i)
      rw [List.length_take] at hdl
      obtain ⟨o', g', a1, a2, a3, a4⟩ := app_late (bytes := 8) (x := .int .i64 t.f) io lt (by rw [fsOf_len]; omega) kp
      have ir := io.isRow
      simp (maxSteps := 2000000) (discharger := omega) only [xz,xc,xo,xr,x0,x1,x2,x3,x4,x5,x6,xd,xe,xb,kont_call,kont_pure,kont_round,isNil,slOk,sliceV,selems,srcElems,copyTo,dlen,eqAV,eqCells,eqS,wr,place,partVals,partEs,placeEs,mapOf,keyOk,keyCells,findK,Bool.bne_false,Bool.bne_true,Reg.isA,Reg.isV,Reg.stays,Reg.onto,↓reduceIte,reduceCtorEq,Nat.reduceEqDiff,Nat.reduceLT,Nat.reduceAdd,Nat.reduceMul,Nat.reduceLeDiff,Nat.zero_lt_succ,Option.bind_some,Option.getD_some,Option.getD_none,Int.cast_ofNat_Int,Int.natCast_zero,Int.natCast_nonneg,true_implies,or_true,true_or,false_or,or_false,beq_self_eq_true,exists_eq_left',Int.reduceEq,Int.reduceLT,Int.reduceLE,Int.reduceGT,Int.reduceGE,Nat.reduceGT,Int.reduceNeg,Int.reduceToNat,Int.reduceAdd,Int.reduceMul,Int.reduceSub,Int.reducePow,decide_eq_true_eq,Nat.reduceBEq,Nat.reduceSub,exists_false,xu,List.set_cons_zero,List.set_cons_succ,wrap_i64,int_lt_t,int_lt_f,int_le_t,int_le_f,int_gt_t,int_gt_f,int_ge_t,int_ge_f,int_eq_t,int_eq_f,int_beq_t,int_beq_f,int_bne_t,int_bne_f,nat_le_t,nat_le_f,Nat.sub_zero,Nat.sub_self,not_false_eq_true,not_true_eq_false,q1,q2,s1,u1,n1,n2,e10,s0,ir,a1,List.replicate_succ,List.replicate_zero]
      exact ⟨tb.length - (i + 1), by omega, i + 1, o', rfl, by omega, rfl, by rw [hft]; simpa [fsOf] using a2, a3, a4⟩
    | false =>
      rw [hm] at e10 hft
      simp only [Bool.false_eq_true,if_false,List.append_nil] at hft
      simp (maxSteps := 2000000) (discharger := omega) only [xz,xc,xo,xr,x0,x1,x2,x3,x4,x5,x6,xd,xe,xb,kont_call,kont_pure,kont_round,isNil,slOk,sliceV,selems,srcElems,copyTo,dlen,eqAV,eqCells,eqS,wr,place,partVals,partEs,placeEs,mapOf,keyOk,keyCells,findK,Bool.bne_false,Bool.bne_true,Reg.isA,Reg.isV,Reg.stays,Reg.onto,↓reduceIte,reduceCtorEq,Nat.reduceEqDiff,Nat.reduceLT,Nat.reduceAdd,Nat.reduceMul,Nat.reduceLeDiff,Nat.zero_lt_succ,Option.bind_some,Option.getD_some,Option.getD_none,Int.cast_ofNat_Int,Int.natCast_zero,Int.natCast_nonneg,true_implies,or_true,true_or,false_or,or_false,beq_self_eq_true,exists_eq_left',Int.reduceEq,Int.reduceLT,Int.reduceLE,Int.reduceGT,Int.reduceGE,Nat.reduceGT,Int.reduceNeg,Int.reduceToNat,Int.reduceAdd,Int.reduceMul,Int.reduceSub,Int.reducePow,decide_eq_true_eq,Nat.reduceBEq,Nat.reduceSub,exists_false,xu,List.set_cons_zero,List.set_cons_succ,wrap_i64,int_lt_t,int_lt_f,int_le_t,int_le_f,int_gt_t,int_gt_f,int_ge_t,int_ge_f,int_eq_t,int_eq_f,int_beq_t,int_beq_f,int_bne_t,int_bne_f,nat_le_t,nat_le_f,Nat.sub_zero,Nat.sub_self,not_false_eq_true,not_true_eq_false,q1,q2,s1,u1,n1,n2,e10]
      exact ⟨tb.length - (i + 1), by omega, i + 1, o, rfl, by omega, rfl, by rw [hft]; exact io, lt, kp⟩
  · obtain rfl : i = tb.length := by omega
    rw [List.take_length] at io
    simp (maxSteps := 2000000) (discharger := omega) only [xz,xc,xo,xr,x0,x1,x2,x3,x4,x5,x6,xd,xe,xb,kont_call,kont_pure,kont_round,isNil,slOk,sliceV,selems,srcElems,copyTo,dlen,eqAV,eqCells,eqS,wr,place,partVals,partEs,placeEs,mapOf,keyOk,keyCells,findK,Bool.bne_false,Bool.bne_true,Reg.isA,Reg.isV,Reg.stays,Reg.onto,↓reduceIte,reduceCtorEq,Nat.reduceEqDiff,Nat.reduceLT,Nat.reduceAdd,Nat.reduceMul,Nat.reduceLeDiff,Nat.zero_lt_succ,Option.bind_some,Option.getD_some,Option.getD_none,Int.cast_ofNat_Int,Int.natCast_zero,Int.natCast_nonneg,true_implies,or_true,true_or,false_or,or_false,beq_self_eq_true,exists_eq_left',Int.reduceEq,Int.reduceLT,Int.reduceLE,Int.reduceGT,Int.reduceGE,Nat.reduceGT,Int.reduceNeg,Int.reduceToNat,Int.reduceAdd,Int.reduceMul,Int.reduceSub,Int.reducePow,decide_eq_true_eq,Nat.reduceBEq,Nat.reduceSub,exists_false,xu,List.set_cons_zero,List.set_cons_succ,wrap_i64,int_lt_t,int_lt_f,int_le_t,int_le_f,int_gt_t,int_gt_f,int_ge_t,int_ge_f,int_eq_t,int_eq_f,int_beq_t,int_beq_f,int_bne_t,int_bne_f,nat_le_t,nat_le_f,Nat.sub_zero,Nat.sub_self,not_false_eq_true,not_true_eq_false]
    exact ⟨isRd_app io, kp⟩
end Go.Proofs.Ytabpndekmpjmhaa.Im

/- S14Fr: which tables leave their level. -/
set_option linter.unusedVariables false
set_option linter.unusedSimpArgs false
open Go Go.Im
namespace Go.Proofs.Ytabpndekmpjmhaa.Im

def FromR (tb inn : List Tb) (lv : Int) : Prop := (inn = [] ∧ lv = 0) ∨ (lv = 0 ∧ inn = tb.filter fun t => decide (t.l = 0)) ∨ (1 ≤ lv ∧ lv ≤ 4 ∧ ∃ t ∈ tb, t.l = lv ∧ inn = [t])

def tbsOf (l : List Tb) : List AV := l.map tbOf
theorem tbsOf_len (l : List Tb) : (tbsOf l).length = l.length := by simp [tbsOf]
theorem tbsOf_snoc (l : List Tb) (t : Tb) : tbsOf (l ++ [t]) = tbsOf l ++ [tbOf t] := by simp [tbsOf]

set_option maxHeartbeats 2000000 in
theorem c9 {tot : Bool} {ω : Nat → Nat} {n : Nat} (tb : List Tb) (tv : AV) (fan : Int) (lo : Nat) (h : Hp) (r : RowAt h 5 lo (tb.map tbOf) tv) (hl : tb.length ≤ 100000) (hf : 2 ≤ fan) (hf' : fan ≤ 16) (hn : tb.length + 10 < n) :
    ∃ v lv h' inn, call F n tot ω 9 [tv, .int .i64 fan] h = some (.tup [v, .int .i64 lv], h') ∧ FromR tb inn lv ∧ IsApp 5 (tbsOf inn) h' v ∧ Late 5 h v ∧ KeepLo h.length h h' := by
  obtain ⟨n, rfl⟩ : ∃ m, n = m + 1 := ⟨n - 1, by omega⟩
  suffices hx : ∃ w h', call F (n + 1) tot ω 9 [tv, .int .i64 fan] h = some (w, h') ∧ ∃ v lv inn, w = .tup [v, .int .i64 lv] ∧ FromR tb inn lv ∧ IsApp 5 (tbsOf inn) h' v ∧ Late 5 h v ∧ KeepLo h.length h h' by
    obtain ⟨w, h', e, v, lv, inn, rfl, e2⟩ := hx
    exact ⟨v, lv, h', inn, e, e2⟩
  refine call_of (fn := a9) f9 (P := fun w h' => ∃ v lv inn, w = .tup [v, .int .i64 lv] ∧ FromR tb inn lv ∧ IsApp 5 (tbsOf inn) h' v ∧ Late 5 h v ∧ KeepLo h.length h h') ?_
  have hlen := r.len
  rw [List.length_map] at hlen
  unfold a9
  simp (maxSteps := 2000000) (discharger := omega) only [xz,xc,xo,xr,x0,x1,x2,x3,x4,x5,x6,xd,xe,xb,kont_call,kont_pure,kont_round,isNil,slOk,sliceV,selems,srcElems,copyTo,dlen,eqAV,eqCells,eqS,wr,place,partVals,partEs,placeEs,mapOf,keyOk,keyCells,findK,Bool.bne_false,Bool.bne_true,Reg.isA,Reg.isV,Reg.stays,Reg.onto,↓reduceIte,reduceCtorEq,Nat.reduceEqDiff,Nat.reduceLT,Nat.reduceAdd,Nat.reduceMul,Nat.reduceLeDiff,Nat.zero_lt_succ,Option.bind_some,Option.getD_some,Option.getD_none,Int.cast_ofNat_Int,Int.natCast_zero,Int.natCast_nonneg,true_implies,or_true,true_or,false_or,or_false,beq_self_eq_true,exists_eq_left',Int.reduceEq,Int.reduceLT,Int.reduceLE,Int.reduceGT,Int.reduceGE,Nat.reduceGT,Int.reduceNeg,Int.reduceToNat,Int.reduceAdd,Int.reduceMul,Int.reduceSub,Int.reducePow,decide_eq_true_eq,Nat.reduceBEq,Nat.reduceSub,exists_false,xu,List.set_cons_zero,List.set_cons_succ,wrap_i64,int_lt_t,int_lt_f,int_le_t,int_le_f,int_gt_t,int_gt_f,int_ge_t,int_ge_f,int_eq_t,int_eq_f,int_beq_t,int_beq_f,int_bne_t,int_bne_f,nat_le_t,nat_le_f,Nat.sub_zero,Nat.sub_self,not_false_eq_true,not_true_eq_false]
  refine wpi_loop (fun m r g => ∃ (i : Nat) (M : Int), r = [(0, .val tv), (1, .val (.int .i64 fan)), (6, .val (.int .i64 M)), (14, .val (.int .i64 i))] ∧ i ≤ 5 ∧ m = 5 - i ∧ 1 ≤ M ∧ M ≤ 65536 ∧ KeepLo h.length h g) 5 (by omega) ⟨0, 1, rfl, by omega, by omega, by omega, by omega, .refl⟩ ?_
  rintro m r1 g ⟨i, M, rfl, hi, rfl, hM, hM', kp⟩
  by_cases hlt : i < 5
  · simp (maxSteps := 2000000) (discharger := omega) only [xz,xc,xo,xr,x0,x1,x2,x3,x4,x5,x6,xd,xe,xb,kont_call,kont_pure,kont_round,isNil,slOk,sliceV,selems,srcElems,copyTo,dlen,eqAV,eqCells,eqS,wr,place,partVals,partEs,placeEs,mapOf,keyOk,keyCells,findK,Bool.bne_false,Bool.bne_true,Reg.isA,Reg.isV,Reg.stays,Reg.onto,↓reduceIte,reduceCtorEq,Nat.reduceEqDiff,Nat.reduceLT,Nat.reduceAdd,Nat.reduceMul,Nat.reduceLeDiff,Nat.zero_lt_succ,Option.bind_some,Option.getD_some,Option.getD_none,Int.cast_ofNat_Int,Int.natCast_zero,Int.natCast_nonneg,true_implies,or_true,true_or,false_or,or_false,beq_self_eq_true,exists_eq_left',Int.reduceEq,Int.reduceLT,Int.reduceLE,Int.reduceGT,Int.reduceGE,Nat.reduceGT,Int.reduceNeg,Int.reduceToNat,Int.reduceAdd,Int.reduceMul,Int.reduceSub,Int.reducePow,decide_eq_true_eq,Nat.reduceBEq,Nat.reduceSub,exists_false,xu,List.set_cons_zero,List.set_cons_succ,wrap_i64,int_lt_t,int_lt_f,int_le_t,int_le_f,int_gt_t,int_gt_f,int_ge_t,int_ge_f,int_eq_t,int_eq_f,int_beq_t,int_beq_f,int_bne_t,int_bne_f,nat_le_t,nat_le_f,Nat.sub_zero,Nat.sub_self,not_false_eq_true,not_true_eq_false,hlen]
    refine wpi_loop (fun m r g => ∃ (j : Nat) (o : AV), r = [(0, .val tv), (1, .val (.int .i64 fan)), (6, .val (.int .i64 M)), (7, .val (.int .i64 i)), (8, .val o), (14, .val (.int .i64 i)), (17, .val tv), (18, .val (.int .i64 tb.length)), (19, .val (.int .i64 j))] ∧ j ≤ tb.length ∧ m = tb.length - j ∧ IsApp 5 (tbsOf ((tb.take j).filter fun t => decide (t.l = (i : Int)))) g o ∧ Late 5 h o ∧ KeepLo h.length h g) tb.length (by omega) ⟨0, .nils, rfl, by omega, by omega, .nils _ _, .inl rfl, kp⟩ ?_
    rintro m r1 g ⟨j, o, rfl, hj, rfl, io, lt, kp⟩
    by_cases hjl : j < tb.length
    · obtain ⟨id, es, rfl, q1, q2⟩ := tb_at r hjl
      have q1 := kp.2 _ _ (List.getElem?_eq_some_iff.1 q1).1 q1
      have hft := filter_take (p := fun t => decide (t.l = (i : Int))) hjl
      generalize tb[j] = t at q2 hft
      have s1 : sub (tbOf t) 0 5 true = some (tbOf t) := rfl
      have u1 : upd (.agg [.int .i64 0, .int .i64 0, .int .i64 0, .str [], .str []]) 0 (tbOf t) = some (tbOf t) := rfl
      have n1 : (tbOf t).notTup = true := rfl
      have n2 : (tbOf t).cells.length = 5 := rfl
      have s0 : sub (tbOf t) 1 1 false = some (.int .i64 t.l) := rfl
      by_cases hm : t.l = (i : Int)
      · have hft : (tb.take (j + 1)).filter (fun t => decide (t.l = (i : Int))) = (tb.take j).filter (fun t => decide (t.l = (i : Int))) ++ [t] := by rw [hft]; simp [hm]
        have hdl := List.length_filter_le (fun t : Tb => decide (t.l = (i : Int))) (tb.take j)
        rw [List.length_take] at hdl
        obtain ⟨o', g', a1, a2, a3, a4⟩ := app_late (bytes := 56) (x := tbOf t) io lt (by rw [tbsOf_len]; omega) kp
        have ir := io.isRow
        simp (maxSteps := 2000000) (discharger := omega) only [xz,xc,xo,xr,x0,x1,x2,x3,x4,x5,x6,xd,xe,xb,kont_call,kont_pure,kont_round,isNil,slOk,sliceV,selems,srcElems,copyTo,dlen,eqAV,eqCells,eqS,wr,place,partVals,partEs,placeEs,mapOf,keyOk,keyCells,findK,Bool.bne_false,Bool.bne_true,Reg.isA,Reg.isV,Reg.stays,Reg.onto,↓reduceIte,reduceCtorEq,Nat.reduceEqDiff,Nat.reduceLT,Nat.reduceAdd,Nat.reduceMul,Nat.reduceLeDiff,Nat.zero_lt_succ,Option.bind_some,Option.getD_some,Option.getD_none,Int.cast_ofNat_Int,Int.natCast_zero,Int.natCast_nonneg,true_implies,or_true,true_or,false_or,or_false,beq_self_eq_true,exists_eq_left',Int.reduceEq,Int.reduceLT,Int.reduceLE,Int.reduceGT,Int.reduceGE,Nat.reduceGT,Int.reduceNeg,Int.reduceToNat,Int.reduceAdd,Int.reduceMul,Int.reduceSub,Int.reducePow,decide_eq_true_eq,Nat.reduceBEq,Nat.reduceSub,exists_false,xu,List.set_cons_zero,List.set_cons_succ,wrap_i64,int_lt_t,int_lt_f,int_le_t,int_le_f,int_gt_t,int_gt_f,int_ge_t,int_ge_f,int_eq_t,int_eq_f,int_beq_t,int_beq_f,int_bne_t,int_bne_f,nat_le_t,nat_le_f,Nat.sub_zero,Nat.sub_self,not_false_eq_true,not_true_eq_false,q1,q2,s1,u1,n1,n2,s0,hm,ir,a1,List.replicate_succ,List.replicate_zero]
        exact ⟨tb.length - (j + 1), by omega, j + 1, o', rfl, by omega, rfl, by rw [hft, tbsOf_snoc]; exact a2, a3, a4⟩
      · have hft : (tb.take (j + 1)).filter (fun t => decide (t.l = (i : Int))) = (tb.take j).filter (fun t => decide (t.l = (i : Int))) := by rw [hft]; simp [hm]
        simp (maxSteps := 2000000) (discharger := omega) only [xz,xc,xo,xr,x0,x1,x2,x3,x4,x5,x6,xd,xe,xb,kont_call,kont_pure,kont_round,isNil,slOk,sliceV,selems,srcElems,copyTo,dlen,eqAV,eqCells,eqS,wr,place,partVals,partEs,placeEs,mapOf,keyOk,keyCells,findK,Bool.bne_false,Bool.bne_true,Reg.isA,Reg.isV,Reg.stays,Reg.onto,↓reduceIte,reduceCtorEq,Nat.reduceEqDiff,Nat.reduceLT,Nat.reduceAdd,Nat.reduceMul,Nat.reduceLeDiff,Nat.zero_lt_succ,Option.bind_some,Option.getD_some,Option.getD_none,Int.cast_ofNat_Int,Int.natCast_zero,Int.natCast_nonneg,true_implies,or_true,true_or,false_or,or_false,beq_self_eq_true,exists_eq_left',Int.reduceEq,Int.reduceLT,Int.reduceLE,Int.reduceGT,Int.reduceGE,Nat.reduceGT,Int.reduceNeg,Int.reduceToNat,Int.reduceAdd,Int.reduceMul,Int.reduceSub,Int.reducePow,decide_eq_true_eq,Nat.reduceBEq,Nat.reduceSub,exists_false,xu,List.set_cons_zero,List.set_cons_succ,wrap_i64,int_lt_t,int_lt_f,int_le_t,int_le_f,int_gt_t,int_gt_f,int_ge_t,int_ge_f,int_eq_t,int_eq_f,int_beq_t,int_beq_f,int_bne_t,int_bne_f,nat_le_t,nat_le_f,Nat.sub_zero,Nat.sub_self,not_false_eq_true,not_true_eq_false,q1,q2,s1,u1,n1,n2,s0,hm]
        exact ⟨tb.length - (j + 1), by omega, j + 1, o, rfl, by omega, rfl, by rw [hft]; exact io, lt, kp⟩
    · obtain rfl : j = tb.length := by omega
      rw [List.take_length] at io
      have lo := io.len
      rw [tbsOf_len] at lo
      have hdl := List.length_filter_le (fun t : Tb => decide (t.l = (i : Int))) tb
      obtain ⟨hr, hhr⟩ : ∃ hr, hr = tb.filter fun t => decide (t.l = (i : Int)) := ⟨_, rfl⟩
      rw [← hhr] at io lo hdl
      by_cases hi0 : i = 0
      · subst hi0
        by_cases hge : fan ≤ (hr.length : Int)
        · simp (maxSteps := 2000000) (discharger := omega) only [xz,xc,xo,xr,x0,x1,x2,x3,x4,x5,x6,xd,xe,xb,kont_call,kont_pure,kont_round,isNil,slOk,sliceV,selems,srcElems,copyTo,dlen,eqAV,eqCells,eqS,wr,place,partVals,partEs,placeEs,mapOf,keyOk,keyCells,findK,Bool.bne_false,Bool.bne_true,Reg.isA,Reg.isV,Reg.stays,Reg.onto,↓reduceIte,reduceCtorEq,Nat.reduceEqDiff,Nat.reduceLT,Nat.reduceAdd,Nat.reduceMul,Nat.reduceLeDiff,Nat.zero_lt_succ,Option.bind_some,Option.getD_some,Option.getD_none,Int.cast_ofNat_Int,Int.natCast_zero,Int.natCast_nonneg,true_implies,or_true,true_or,false_or,or_false,beq_self_eq_true,exists_eq_left',Int.reduceEq,Int.reduceLT,Int.reduceLE,Int.reduceGT,Int.reduceGE,Nat.reduceGT,Int.reduceNeg,Int.reduceToNat,Int.reduceAdd,Int.reduceMul,Int.reduceSub,Int.reducePow,decide_eq_true_eq,Nat.reduceBEq,Nat.reduceSub,exists_false,xu,List.set_cons_zero,List.set_cons_succ,wrap_i64,int_lt_t,int_lt_f,int_le_t,int_le_f,int_gt_t,int_gt_f,int_ge_t,int_ge_f,int_eq_t,int_eq_f,int_beq_t,int_beq_f,int_bne_t,int_bne_f,nat_le_t,nat_le_f,Nat.sub_zero,Nat.sub_self,not_false_eq_true,not_true_eq_false,lo]
          exact ⟨_, _, hr, rfl, .inr (.inl ⟨rfl, hhr⟩), io, lt, kp⟩
        · simp (maxSteps := 2000000) (discharger := omega) only [xz,xc,xo,xr,x0,x1,x2,x3,x4,x5,x6,xd,xe,xb,kont_call,kont_pure,kont_round,isNil,slOk,sliceV,selems,srcElems,copyTo,dlen,eqAV,eqCells,eqS,wr,place,partVals,partEs,placeEs,mapOf,keyOk,keyCells,findK,Bool.bne_false,Bool.bne_true,Reg.isA,Reg.isV,Reg.stays,Reg.onto,↓reduceIte,reduceCtorEq,Nat.reduceEqDiff,Nat.reduceLT,Nat.reduceAdd,Nat.reduceMul,Nat.reduceLeDiff,Nat.zero_lt_succ,Option.bind_some,Option.getD_some,Option.getD_none,Int.cast_ofNat_Int,Int.natCast_zero,Int.natCast_nonneg,true_implies,or_true,true_or,false_or,or_false,beq_self_eq_true,exists_eq_left',Int.reduceEq,Int.reduceLT,Int.reduceLE,Int.reduceGT,Int.reduceGE,Nat.reduceGT,Int.reduceNeg,Int.reduceToNat,Int.reduceAdd,Int.reduceMul,Int.reduceSub,Int.reducePow,decide_eq_true_eq,Nat.reduceBEq,Nat.reduceSub,exists_false,xu,List.set_cons_zero,List.set_cons_succ,wrap_i64,int_lt_t,int_lt_f,int_le_t,int_le_f,int_gt_t,int_gt_f,int_ge_t,int_ge_f,int_eq_t,int_eq_f,int_beq_t,int_beq_f,int_bne_t,int_bne_f,nat_le_t,nat_le_f,Nat.sub_zero,Nat.sub_self,not_false_eq_true,not_true_eq_false,lo]
          exact ⟨4, by omega, 1, M, rfl, by omega, rfl, hM, hM', kp⟩
      · obtain ⟨q, hq⟩ : ∃ q, q = M * fan := ⟨_, rfl⟩
        have hq1 : M * 2 ≤ q := by rw [hq]; exact Int.mul_le_mul_of_nonneg_left hf (by omega)
        have hq2 : q ≤ M * 16 := by rw [hq]; exact Int.mul_le_mul_of_nonneg_left hf' (by omega)
        obtain ⟨M2, hM2⟩ : ∃ M2, M2 = if (65536 : Int) < q then 65536 else q := ⟨_, rfl⟩
        have hM3 : 1 ≤ M2 ∧ M2 ≤ 65536 := by rw [hM2]; split <;> omega
        by_cases hgt : M2 < (hr.length : Int)
        · have hne : 0 < hr.length := by omega
          obtain ⟨cc, rfl⟩ := io.imm (by intro e; have := congrArg List.length e; simp only [tbsOf_len,List.length_nil] at this; omega)
          have w1 : (tbsOf hr)[0]? = some (tbOf hr[0]) := by simp [tbsOf,hne]
          have w2 : hr[0] ∈ hr := List.getElem_mem hne
          generalize hr[0] = t at w1 w2
          have s1 : sub (tbOf t) 0 5 true = some (tbOf t) := rfl
          have u1 : upd (.agg [.int .i64 0, .int .i64 0, .int .i64 0, .str [], .str []]) 0 (tbOf t) = some (tbOf t) := rfl
          have n1 : (tbOf t).notTup = true := rfl
          have n2 : (tbOf t).cells.length = 5 := rfl
          simp (maxSteps := 2000000) (discharger := omega) only [xz,xc,xo,xr,x0,x1,x2,x3,x4,x5,x6,xd,xe,xb,kont_call,kont_pure,kont_round,isNil,slOk,sliceV,selems,srcElems,copyTo,dlen,eqAV,eqCells,eqS,wr,place,partVals,partEs,placeEs,mapOf,keyOk,keyCells,findK,Bool.bne_false,Bool.bne_true,Reg.isA,Reg.isV,Reg.stays,Reg.onto,↓reduceIte,reduceCtorEq,Nat.reduceEqDiff,Nat.reduceLT,Nat.reduceAdd,Nat.reduceMul,Nat.reduceLeDiff,Nat.zero_lt_succ,Option.bind_some,Option.getD_some,Option.getD_none,Int.cast_ofNat_Int,Int.natCast_zero,Int.natCast_nonneg,true_implies,or_true,true_or,false_or,or_false,beq_self_eq_true,exists_eq_left',Int.reduceEq,Int.reduceLT,Int.reduceLE,Int.reduceGT,Int.reduceGE,Nat.reduceGT,Int.reduceNeg,Int.reduceToNat,Int.reduceAdd,Int.reduceMul,Int.reduceSub,Int.reducePow,decide_eq_true_eq,Nat.reduceBEq,Nat.reduceSub,exists_false,xu,List.set_cons_zero,List.set_cons_succ,wrap_i64,int_lt_t,int_lt_f,int_le_t,int_le_f,int_gt_t,int_gt_f,int_ge_t,int_ge_f,int_eq_t,int_eq_f,int_beq_t,int_beq_f,int_bne_t,int_bne_f,nat_le_t,nat_le_f,Nat.sub_zero,Nat.sub_self,not_false_eq_true,not_true_eq_false,lo,← hq,← hM2,w1,s1,u1,n1,n2]
          refine wpi_loop (fun m r g' => ∃ (k : Nat) (t : Tb), r = [(7, .val (.int .i64 i)), (11, .var (tbOf t)), (50, .val (.imm 5 (tbsOf hr) cc)), (51, .val (.int .i64 hr.length)), (52, .val (.int .i64 k))] ∧ k ≤ hr.length ∧ m = hr.length - k ∧ g' = g ∧ t ∈ hr) hr.length (by omega) ⟨0, t, rfl, by omega, by omega, rfl, w2⟩ ?_
          rintro m r2 g' ⟨k, t, rfl, hk, rfl, rfl, htm⟩
          have s1 : sub (tbOf t) 0 5 true = some (tbOf t) := rfl
          have n1 : (tbOf t).notTup = true := rfl
          have n2 : (tbOf t).cells.length = 5 := rfl
          have s0 : sub (tbOf t) 0 1 false = some (.int .i64 t.f) := rfl
          by_cases hkl : k < hr.length
          · have z1 : (tbsOf hr)[k]? = some (tbOf hr[k]) := by simp [tbsOf,hkl]
            have z2 : hr[k] ∈ hr := List.getElem_mem hkl
            generalize hr[k] = u at z1 z2
            have s2 : sub (tbOf u) 0 5 true = some (tbOf u) := rfl
            have u2 : upd (.agg [.int .i64 0, .int .i64 0, .int .i64 0, .str [], .str []]) 0 (tbOf u) = some (tbOf u) := rfl
            have u3 : upd (tbOf t) 0 (tbOf u) = some (tbOf u) := rfl
            have m1 : (tbOf u).notTup = true := rfl
            have m2 : (tbOf u).cells.length = 5 := rfl
            have s3 : sub (tbOf u) 0 1 false = some (.int .i64 u.f) := rfl
            by_cases hlt2 : u.f < t.f
            · simp (maxSteps := 2000000) (discharger := omega) only [xz,xc,xo,xr,x0,x1,x2,x3,x4,x5,x6,xd,xe,xb,kont_call,kont_pure,kont_round,isNil,slOk,sliceV,selems,srcElems,copyTo,dlen,eqAV,eqCells,eqS,wr,place,partVals,partEs,placeEs,mapOf,keyOk,keyCells,findK,Bool.bne_false,Bool.bne_true,Reg.isA,Reg.isV,Reg.stays,Reg.onto,↓reduceIte,reduceCtorEq,Nat.reduceEqDiff,Nat.reduceLT,Nat.reduceAdd,Nat.reduceMul,Nat.reduceLeDiff,Nat.zero_lt_succ,Option.bind_some,Option.getD_some,Option.getD_none,Int.cast_ofNat_Int,Int.natCast_zero,Int.natCast_nonneg,true_implies,or_true,true_or,false_or,or_false,beq_self_eq_true,exists_eq_left',Int.reduceEq,Int.reduceLT,Int.reduceLE,Int.reduceGT,Int.reduceGE,Nat.reduceGT,Int.reduceNeg,Int.reduceToNat,Int.reduceAdd,Int.reduceMul,Int.reduceSub,Int.reducePow,decide_eq_true_eq,Nat.reduceBEq,Nat.reduceSub,exists_false,xu,List.set_cons_zero,List.set_cons_succ,wrap_i64,int_lt_t,int_lt_f,int_le_t,int_le_f,int_gt_t,int_gt_f,int_ge_t,int_ge_f,int_eq_t,int_eq_f,int_beq_t,int_beq_f,int_bne_t,int_bne_f,nat_le_t,nat_le_f,Nat.sub_zero,Nat.sub_self,not_false_eq_true,not_true_eq_false,z1,s2,u2,u3,m1,m2,s3,s0,hlt2]
              exact ⟨hr.length - (k + 1), by omega, k + 1, u, rfl, by omega, rfl, z2⟩
            · simp (maxSteps := 2000000) (discharger := omega) only [xz,xc,xo,xr,x0,x1,x2,x3,x4,x5,x6,xd,xe,xb,kont_call,kont_pure,kont_round,isNil,slOk,sliceV,selems,srcElems,copyTo,dlen,eqAV,eqCells,eqS,wr,place,partVals,partEs,placeEs,mapOf,keyOk,keyCells,findK,Bool.bne_false,Bool.bne_true,Reg.isA,Reg.isV,Reg.stays,Reg.onto,↓reduceIte,reduceCtorEq,Nat.reduceEqDiff,Nat.reduceLT,Nat.reduceAdd,Nat.reduceMul,Nat.reduceLeDiff,Nat.zero_lt_succ,Option.bind_some,Option.getD_some,Option.getD_none,Int.cast_ofNat_Int,Int.natCast_zero,Int.natCast_nonneg,true_implies,or_true,true_or,false_or,or_false,beq_self_eq_true,exists_eq_left',Int.reduceEq,Int.reduceLT,Int.reduceLE,Int.reduceGT,Int.reduceGE,Nat.reduceGT,Int.reduceNeg,Int.reduceToNat,Int.reduceAdd,Int.reduceMul,Int.reduceSub,Int.reducePow,decide_eq_true_eq,Nat.reduceBEq,Nat.reduceSub,exists_false,xu,List.set_cons_zero,List.set_cons_succ,wrap_i64,int_lt_t,int_lt_f,int_le_t,int_le_f,int_gt_t,int_gt_f,int_ge_t,int_ge_f,int_eq_t,int_eq_f,int_beq_t,int_beq_f,int_bne_t,int_bne_f,nat_le_t,nat_le_f,Nat.sub_zero,Nat.sub_self,not_false_eq_true,not_true_eq_false,z1,s2,u2,u3,m1,m2,s3,s0,hlt2]
              exact ⟨hr.length - (k + 1), by omega, k + 1, t, rfl, by omega, rfl, htm⟩
          · obtain rfl : k = hr.length := by omega
            simp (maxSteps := 2000000) (discharger := omega) only [xz,xc,xo,xr,x0,x1,x2,x3,x4,x5,x6,xd,xe,xb,kont_call,kont_pure,kont_round,isNil,slOk,sliceV,selems,srcElems,copyTo,dlen,eqAV,eqCells,eqS,wr,place,partVals,partEs,placeEs,mapOf,keyOk,keyCells,findK,Bool.bne_false,Bool.bne_true,Reg.isA,Reg.isV,Reg.stays,Reg.onto,↓reduceIte,reduceCtorEq,Nat.reduceEqDiff,Nat.reduceLT,Nat.reduceAdd,Nat.reduceMul,Nat.reduceLeDiff,Nat.zero_lt_succ,Option.bind_some,Option.getD_some,Option.getD_none,Int.cast_ofNat_Int,Int.natCast_zero,Int.natCast_nonneg,true_implies,or_true,true_or,false_or,or_false,beq_self_eq_true,exists_eq_left',Int.reduceEq,Int.reduceLT,Int.reduceLE,Int.reduceGT,Int.reduceGE,Nat.reduceGT,Int.reduceNeg,Int.reduceToNat,Int.reduceAdd,Int.reduceMul,Int.reduceSub,Int.reducePow,decide_eq_true_eq,Nat.reduceBEq,Nat.reduceSub,exists_false,xu,List.set_cons_zero,List.set_cons_succ,wrap_i64,int_lt_t,int_lt_f,int_le_t,int_le_f,int_gt_t,int_gt_f,int_ge_t,int_ge_f,int_eq_t,int_eq_f,int_beq_t,int_beq_f,int_bne_t,int_bne_f,nat_le_t,nat_le_f,Nat.sub_zero,Nat.sub_self,not_false_eq_true,not_true_eq_false,s1,n1,n2,List.replicate_succ,List.replicate_zero]
            rw [hhr] at htm
            obtain ⟨t1, t2⟩ := List.mem_filter.1 htm
            exact ⟨_, _, [t], rfl, .inr (.inr ⟨by omega, by omega, t, t1, by simpa using t2, rfl⟩), .inr (.inl rfl), .inr (.inl ⟨_, rfl⟩), kp⟩
        · simp (maxSteps := 2000000) (discharger := omega) only [xz,xc,xo,xr,x0,x1,x2,x3,x4,x5,x6,xd,xe,xb,kont_call,kont_pure,kont_round,isNil,slOk,sliceV,selems,srcElems,copyTo,dlen,eqAV,eqCells,eqS,wr,place,partVals,partEs,placeEs,mapOf,keyOk,keyCells,findK,Bool.bne_false,Bool.bne_true,Reg.isA,Reg.isV,Reg.stays,Reg.onto,↓reduceIte,reduceCtorEq,Nat.reduceEqDiff,Nat.reduceLT,Nat.reduceAdd,Nat.reduceMul,Nat.reduceLeDiff,Nat.zero_lt_succ,Option.bind_some,Option.getD_some,Option.getD_none,Int.cast_ofNat_Int,Int.natCast_zero,Int.natCast_nonneg,true_implies,or_true,true_or,false_or,or_false,beq_self_eq_true,exists_eq_left',Int.reduceEq,Int.reduceLT,Int.reduceLE,Int.reduceGT,Int.reduceGE,Nat.reduceGT,Int.reduceNeg,Int.reduceToNat,Int.reduceAdd,Int.reduceMul,Int.reduceSub,Int.reducePow,decide_eq_true_eq,Nat.reduceBEq,Nat.reduceSub,exists_false,xu,List.set_cons_zero,List.set_cons_succ,wrap_i64,int_lt_t,int_lt_f,int_le_t,int_le_f,int_gt_t,int_gt_f,int_ge_t,int_ge_f,int_eq_t,int_eq_f,int_beq_t,int_beq_f,int_bne_t,int_bne_f,nat_le_t,nat_le_f,Nat.sub_zero,Nat.sub_self,not_false_eq_true,not_true_eq_false,lo,← hq,← hM2]
          exact ⟨5 - (i + 1), by omega, i + 1, M2, rfl, by omega, rfl, hM3.1, hM3.2, kp⟩
  · obtain rfl : i = 5 := by omega
    simp (maxSteps := 2000000) (discharger := omega) only [xz,xc,xo,xr,x0,x1,x2,x3,x4,x5,x6,xd,xe,xb,kont_call,kont_pure,kont_round,isNil,slOk,sliceV,selems,srcElems,copyTo,dlen,eqAV,eqCells,eqS,wr,place,partVals,partEs,placeEs,mapOf,keyOk,keyCells,findK,Bool.bne_false,Bool.bne_true,Reg.isA,Reg.isV,Reg.stays,Reg.onto,↓reduceIte,reduceCtorEq,Nat.reduceEqDiff,Nat.reduceLT,Nat.reduceAdd,Nat.reduceMul,Nat.reduceLeDiff,Nat.zero_lt_succ,Option.bind_some,Option.getD_some,Option.getD_none,Int.cast_ofNat_Int,Int.natCast_zero,Int.natCast_nonneg,true_implies,or_true,true_or,false_or,or_false,beq_self_eq_true,exists_eq_left',Int.reduceEq,Int.reduceLT,Int.reduceLE,Int.reduceGT,Int.reduceGE,Nat.reduceGT,Int.reduceNeg,Int.reduceToNat,Int.reduceAdd,Int.reduceMul,Int.reduceSub,Int.reducePow,decide_eq_true_eq,Nat.reduceBEq,Nat.reduceSub,exists_false,xu,List.set_cons_zero,List.set_cons_succ,wrap_i64,int_lt_t,int_lt_f,int_le_t,int_le_f,int_gt_t,int_gt_f,int_ge_t,int_ge_f,int_eq_t,int_eq_f,int_beq_t,int_beq_f,int_bne_t,int_bne_f,nat_le_t,nat_le_f,Nat.sub_zero,Nat.sub_self,not_false_eq_true,not_true_eq_false]
    exact ⟨_, _, [], rfl, .inl ⟨rfl, rfl⟩, .nils _ _, .inl rfl, kp⟩
end Go.Proofs.Ytabpndekmpjmhaa.Im

/- S14Pi: the next merging. -/
set_option linter.unusedVariables false
set_option linter.unusedSimpArgs false
open Go Go.Im
namespace Go.Proofs.Ytabpndekmpjmhaa.Im

theorem w_regionA2 {K : Kont} {n : Nat} {r : Regs} {h : Hp} {Q : AE → Regs → Hp → Prop} (o1 o2 : List Nat) (ops : List AOper) (ks : List Nat) :
    Wp K n (.regionA [o1, o2] ops ks) r h Q = Wo K (inOrd ops o1) r h (fun r' h' => Wo K (inOrd ops o2) r h (Is r' h') ∧ Settle ks Q r' h') := by
  apply propext
  constructor
  · rintro ⟨e, r', h', h1, h2⟩
    simp only [exec,execA] at h1
    split at h1
    · rename_i r2 h3 e1
      split at e1
      · rename_i a1 b1 a2 b2 e2 e3
        split at e1
        · rename_i e4
          simp only [Bool.and_eq_true] at e4
          obtain ⟨e5, e6⟩ := e4
          obtain rfl := (eqRegs_iff _ _).1 e5
          obtain rfl := (eqHp_iff _ _).1 e6
          cases e1
          cases h1
          exact ⟨_, _, e2, ⟨_, _, e3, rfl, rfl⟩, h2⟩
        · cases e1
      · cases e1
    · cases h1
  · rintro ⟨r', h', h1, h2, h3⟩
    exact wpi_regionA2 h1 (execs_is h2) h3

def sMin (a b : List UInt8) : List UInt8 := if Op.bytesLess a b || a == b then a else b
def sMax (a b : List UInt8) : List UInt8 := if !(Op.bytesLess a b) then a else b
def hull (a : List UInt8 × List UInt8) (l : List Tb) : List UInt8 × List UInt8 := l.foldl (fun a t => (sMin a.1 t.lo, sMax a.2 t.hi)) a
theorem hull_snoc (a : List UInt8 × List UInt8) (l : List Tb) (t : Tb) : hull a (l ++ [t]) = (sMin (hull a l).1 t.lo, sMax (hull a l).2 t.hi) := by simp [hull]
theorem hull_take {a : List UInt8 × List UInt8} {l : List Tb} {i : Nat} (h : i < l.length) : hull a (l.take (i + 1)) = (sMin (hull a (l.take i)).1 l[i].lo, sMax (hull a (l.take i)).2 l[i].hi) := by
  rw [List.take_succ_eq_append_getElem h, hull_snoc]

structure Pn where
  inn : List Tb
  ov : List Tb
  lv : Int
  lo : List UInt8
  hi : List UInt8
def PickR (tb : List Tb) (p : Pn) : Prop := FromR tb p.inn p.lv ∧ ∃ t r, p.inn = t :: r ∧
  p.ov = tb.filter (fun u => decide (u.l = p.lv + 1) && mt u (hull (t.lo, t.hi) p.inn).1 (hull (t.lo, t.hi) p.inn).2) ∧ (p.lo, p.hi) = hull (hull (t.lo, t.hi) p.inn) p.ov

theorem isApp_one {sz : Nat} {es : List AV} {h : Hp} {v : AV} (a : IsApp sz es h v) : v.one = true ∧ v.notTup = true ∧ v.cells = [v] ∧ ∀ m, sub v 0 m false = some v := by
  rcases a with ⟨rfl, _⟩ | rfl | ⟨id, rfl, _⟩ <;> exact ⟨rfl, rfl, rfl, fun _ => rfl⟩

set_option maxHeartbeats 4000000 in
theorem c5 {tot : Bool} {ω : Nat → Nat} {n : Nat} (tb : List Tb) (tv : AV) (fan : Int) (lo : Nat) (h : Hp) (r : RowAt h 5 lo (tb.map tbOf) tv) (hl : tb.length ≤ 50000) (hf : 2 ≤ fan) (hf' : fan ≤ 16) (hn : 2 * tb.length + 20 < n) :
    ∃ w h', call F n tot ω 5 [tv, .int .i64 fan] h = some (w, h') ∧ KeepLo h.length h h' ∧ (w = .tup [.agg [.nils, .int .i64 0, .str [], .str [], .bool false], .bool false] ∨ ∃ (p : Pn) (v : AV) (b : Bool), w = .tup [.agg [v, .int .i64 (p.lv + 1), .str p.lo, .str p.hi, .bool b], .bool true] ∧ PickR tb p ∧ IsRd 1 (fsOf (p.inn ++ p.ov)) v) := by
  obtain ⟨n, rfl⟩ : ∃ m, n = m + 1 := ⟨n - 1, by omega⟩
  refine call_of (fn := a5) f5 (P := fun w h' => KeepLo h.length h h' ∧ (w = .tup [.agg [.nils, .int .i64 0, .str [], .str [], .bool false], .bool false] ∨ ∃ (p : Pn) (v : AV) (b : Bool), w = .tup [.agg [v, .int .i64 (p.lv + 1), .str p.lo, .str p.hi, .bool b], .bool true] ∧ PickR tb p ∧ IsRd 1 (fsOf (p.inn ++ p.ov)) v)) ?_
  have hlen := r.len
  rw [List.length_map] at hlen
  obtain ⟨v1, lv, h1, inn, k1, k2, k3, k4, k5⟩ := c9 (tot := tot) (ω := ω) (n := n) tb tv fan lo h r (by omega) hf hf' (by omega)
  have li := k3.len
  rw [tbsOf_len] at li
  have hlv : 0 ≤ lv ∧ lv ≤ 4 := by rcases k2 with h | h | h <;> omega
  have hinl : inn.length ≤ tb.length + 1 := by
    rcases k2 with ⟨h, _⟩ | ⟨_, h⟩ | ⟨_, _, t, _, _, h⟩
    · rw [h]; simp
    · rw [h]; have := List.length_filter_le (fun t : Tb => decide (t.l = 0)) tb; omega
    · rw [h]; simp
  unfold a5
  by_cases hz : inn.length = 0
  · simp (maxSteps := 2000000) (discharger := omega) only [xz,xc,xo,xr,x0,x1,x2,x3,x4,x5,x6,xd,xe,xb,kont_call,kont_pure,kont_round,isNil,slOk,sliceV,selems,srcElems,copyTo,dlen,eqAV,eqCells,eqS,wr,place,partVals,partEs,placeEs,mapOf,keyOk,keyCells,findK,Bool.bne_false,Bool.bne_true,Reg.isA,Reg.isV,Reg.stays,Reg.onto,↓reduceIte,reduceCtorEq,Nat.reduceEqDiff,Nat.reduceLT,Nat.reduceAdd,Nat.reduceMul,Nat.reduceLeDiff,Nat.zero_lt_succ,Option.bind_some,Option.getD_some,Option.getD_none,Int.cast_ofNat_Int,Int.natCast_zero,Int.natCast_nonneg,true_implies,or_true,true_or,false_or,or_false,beq_self_eq_true,exists_eq_left',Int.reduceEq,Int.reduceLT,Int.reduceLE,Int.reduceGT,Int.reduceGE,Nat.reduceGT,Int.reduceNeg,Int.reduceToNat,Int.reduceAdd,Int.reduceMul,Int.reduceSub,Int.reducePow,decide_eq_true_eq,Nat.reduceBEq,Nat.reduceSub,exists_false,xu,List.set_cons_zero,List.set_cons_succ,wrap_i64,int_lt_t,int_lt_f,int_le_t,int_le_f,int_gt_t,int_gt_f,int_ge_t,int_ge_f,int_eq_t,int_eq_f,int_beq_t,int_beq_f,int_bne_t,int_bne_f,nat_le_t,nat_le_f,Nat.sub_zero,Nat.sub_self,not_false_eq_true,not_true_eq_false,k1,li,hz]
    exact k5
  have hne : 0 < inn.length := by omega
  obtain ⟨cc, rfl⟩ := k3.imm (by intro e; have := congrArg List.length e; simp only [tbsOf_len,List.length_nil] at this; omega)
  have w1 : (tbsOf inn)[0]? = some (tbOf inn[0]) := by simp [tbsOf,hne]
  obtain ⟨t0, rr, hin⟩ : ∃ t0 rr, inn = t0 :: rr := by
    cases inn with
    | nil => simp at hne
    | cons a b => exact ⟨a, b, rfl⟩
  have ht0 : inn[0] = t0 := by simp [hin]
  rw [ht0] at w1
  have s1 : sub (tbOf t0) 3 1 false = some (.str t0.lo) := rfl
  have s2 : sub (tbOf t0) 4 1 false = some (.str t0.hi) := rfl
  simp (maxSteps := 2000000) (discharger := omega) only [xz,xc,xo,xr,x0,x1,x2,x3,x4,x5,x6,xd,xe,xb,kont_call,kont_pure,kont_round,isNil,slOk,sliceV,selems,srcElems,copyTo,dlen,eqAV,eqCells,eqS,wr,place,partVals,partEs,placeEs,mapOf,keyOk,keyCells,findK,Bool.bne_false,Bool.bne_true,Reg.isA,Reg.isV,Reg.stays,Reg.onto,↓reduceIte,reduceCtorEq,Nat.reduceEqDiff,Nat.reduceLT,Nat.reduceAdd,Nat.reduceMul,Nat.reduceLeDiff,Nat.zero_lt_succ,Option.bind_some,Option.getD_some,Option.getD_none,Int.cast_ofNat_Int,Int.natCast_zero,Int.natCast_nonneg,true_implies,or_true,true_or,false_or,or_false,beq_self_eq_true,exists_eq_left',Int.reduceEq,Int.reduceLT,Int.reduceLE,Int.reduceGT,Int.reduceGE,Nat.reduceGT,Int.reduceNeg,Int.reduceToNat,Int.reduceAdd,Int.reduceMul,Int.reduceSub,Int.reducePow,decide_eq_true_eq,Nat.reduceBEq,Nat.reduceSub,exists_false,xu,List.set_cons_zero,List.set_cons_succ,wrap_i64,int_lt_t,int_lt_f,int_le_t,int_le_f,int_gt_t,int_gt_f,int_ge_t,int_ge_f,int_eq_t,int_eq_f,int_beq_t,int_beq_f,int_bne_t,int_bne_f,nat_le_t,nat_le_f,Nat.sub_zero,Nat.sub_self,not_false_eq_true,not_true_eq_false,k1,li,w1,s1,s2]
  obtain ⟨a, ha⟩ : ∃ a : List UInt8 × List UInt8, a = (t0.lo, t0.hi) := ⟨_, rfl⟩
  refine wpi_loop (fun m r g => ∃ (k : Nat), r = [(0, .val tv), (4, .var (.agg [.nils, .int .i64 0, .str [], .str [], .bool false])), (6, .val (.imm 5 (tbsOf inn) cc)), (8, .var (.agg [.nils, .int .i64 (lv + 1), .str (hull a (inn.take k)).1, .str (hull a (inn.take k)).2, .bool true])), (47, .val (.imm 5 (tbsOf inn) cc)), (48, .val (.int .i64 inn.length)), (49, .val (.int .i64 k))] ∧ k ≤ inn.length ∧ m = inn.length - k ∧ g = h1) inn.length (by omega) ⟨0, by simp [hull,ha], by omega, by omega, rfl⟩ ?_
  rintro m r1 g ⟨k, rfl, hk, rfl, rfl⟩
  by_cases hkl : k < inn.length
  · have z1 : (tbsOf inn)[k]? = some (tbOf inn[k]) := by simp [tbsOf,hkl]
    have hh := hull_take (a := a) hkl
    generalize inn[k] = u at z1 hh
    have s2 : sub (tbOf u) 0 5 true = some (tbOf u) := rfl
    have u2 : upd (.agg [.int .i64 0, .int .i64 0, .int .i64 0, .str [], .str []]) 0 (tbOf u) = some (tbOf u) := rfl
    have m1 : (tbOf u).notTup = true := rfl
    have m2 : (tbOf u).cells.length = 5 := rfl
    have s3 : sub (tbOf u) 3 1 false = some (.str u.lo) := rfl
    have s4 : sub (tbOf u) 4 1 false = some (.str u.hi) := rfl
    rw [Prod.ext_iff] at hh
    obtain ⟨hh1, hh2⟩ := hh
    simp only at hh1 hh2
    generalize (hull a (inn.take k)).1 = X at hh1 ⊢
    generalize (hull a (inn.take k)).2 = Y at hh2 ⊢
    have d1 : (if (Op.bytesLess X u.lo || X == u.lo) = true then X else u.lo) = sMin X u.lo := rfl
    have d2 : (if (!Op.bytesLess Y u.hi) = true then Y else u.hi) = sMax Y u.hi := rfl
    simp (maxSteps := 2000000) (discharger := omega) only [xz,xc,xo,xr,x0,x1,x2,x3,x4,x5,x6,xd,xe,xb,kont_call,kont_pure,kont_round,isNil,slOk,sliceV,selems,srcElems,copyTo,dlen,eqAV,eqCells,eqS,wr,place,partVals,partEs,placeEs,mapOf,keyOk,keyCells,findK,Bool.bne_false,Bool.bne_true,Reg.isA,Reg.isV,Reg.stays,Reg.onto,↓reduceIte,reduceCtorEq,Nat.reduceEqDiff,Nat.reduceLT,Nat.reduceAdd,Nat.reduceMul,Nat.reduceLeDiff,Nat.zero_lt_succ,Option.bind_some,Option.getD_some,Option.getD_none,Int.cast_ofNat_Int,Int.natCast_zero,Int.natCast_nonneg,true_implies,or_true,true_or,false_or,or_false,beq_self_eq_true,exists_eq_left',Int.reduceEq,Int.reduceLT,Int.reduceLE,Int.reduceGT,Int.reduceGE,Nat.reduceGT,Int.reduceNeg,Int.reduceToNat,Int.reduceAdd,Int.reduceMul,Int.reduceSub,Int.reducePow,decide_eq_true_eq,Nat.reduceBEq,Nat.reduceSub,exists_false,xu,List.set_cons_zero,List.set_cons_succ,wrap_i64,int_lt_t,int_lt_f,int_le_t,int_le_f,int_gt_t,int_gt_f,int_ge_t,int_ge_f,int_eq_t,int_eq_f,int_beq_t,int_beq_f,int_bne_t,int_bne_f,nat_le_t,nat_le_f,Nat.sub_zero,Nat.sub_self,not_false_eq_true,not_true_eq_false,z1,s2,u2,m1,m2,s3,s4,d1,d2,w_regionA2,inOrd,List.filterMap_cons,List.filterMap_nil,Is]
    exact ⟨inn.length - (k + 1), by omega, k + 1, by rw [hh1, hh2]; rfl, by omega, rfl⟩
  obtain rfl : k = inn.length := by omega
  rw [List.take_length]
  obtain ⟨L, hL⟩ : ∃ L, L = (hull a inn).1 := ⟨_, rfl⟩
  obtain ⟨H, hH⟩ : ∃ H, H = (hull a inn).2 := ⟨_, rfl⟩
  rw [← hL, ← hH]
  obtain ⟨q, hq⟩ : ∃ q : Tb → Bool, q = fun u => decide (u.l = lv + 1) && mt u L H := ⟨_, rfl⟩
  simp (maxSteps := 2000000) (discharger := omega) only [xz,xc,xo,xr,x0,x1,x2,x3,x4,x5,x6,xd,xe,xb,kont_call,kont_pure,kont_round,isNil,slOk,sliceV,selems,srcElems,copyTo,dlen,eqAV,eqCells,eqS,wr,place,partVals,partEs,placeEs,mapOf,keyOk,keyCells,findK,Bool.bne_false,Bool.bne_true,Reg.isA,Reg.isV,Reg.stays,Reg.onto,↓reduceIte,reduceCtorEq,Nat.reduceEqDiff,Nat.reduceLT,Nat.reduceAdd,Nat.reduceMul,Nat.reduceLeDiff,Nat.zero_lt_succ,Option.bind_some,Option.getD_some,Option.getD_none,Int.cast_ofNat_Int,Int.natCast_zero,Int.natCast_nonneg,true_implies,or_true,true_or,false_or,or_false,beq_self_eq_true,exists_eq_left',Int.reduceEq,Int.reduceLT,Int.reduceLE,Int.reduceGT,Int.reduceGE,Nat.reduceGT,Int.reduceNeg,Int.reduceToNat,Int.reduceAdd,Int.reduceMul,Int.reduceSub,Int.reducePow,decide_eq_true_eq,Nat.reduceBEq,Nat.reduceSub,exists_false,xu,List.set_cons_zero,List.set_cons_succ,wrap_i64,int_lt_t,int_lt_f,int_le_t,int_le_f,int_gt_t,int_gt_f,int_ge_t,int_ge_f,int_eq_t,int_eq_f,int_beq_t,int_beq_f,int_bne_t,int_bne_f,nat_le_t,nat_le_f,Nat.sub_zero,Nat.sub_self,not_false_eq_true,not_true_eq_false,hlen]
  refine wpi_loop (fun m r g' => ∃ (j : Nat) (o : AV), r = [(0, .val tv), (4, .var (.agg [.nils, .int .i64 0, .str [], .str [], .bool false])), (6, .val o), (8, .var (.agg [.nils, .int .i64 (lv + 1), .str (hull (L, H) ((tb.take j).filter q)).1, .str (hull (L, H) ((tb.take j).filter q)).2, .bool true])), (11, .val (.str L)), (12, .val (.str H)), (70, .val tv), (71, .val (.int .i64 tb.length)), (72, .val (.int .i64 j))] ∧ j ≤ tb.length ∧ m = tb.length - j ∧
    IsApp 5 (tbsOf (inn ++ (tb.take j).filter q)) g' o ∧ Late 5 h o ∧ KeepLo h.length h g') tb.length (by omega) ⟨0, .imm 5 (tbsOf inn) cc, by simp [hull], by omega, by omega, by simpa using k3, k4, k5⟩ ?_
  rintro m r1 g2 ⟨j, o, rfl, hj, rfl, io, lt, kp⟩
  by_cases hjl : j < tb.length
  · obtain ⟨id, es, rfl, q1, q2⟩ := tb_at r hjl
    have q1 := kp.2 _ _ (List.getElem?_eq_some_iff.1 q1).1 q1
    have hft := filter_take (p := q) hjl
    have hdl := List.length_filter_le q (tb.take j)
    rw [List.length_take] at hdl
    generalize tb[j] = u at q2 hft
    have s2 : sub (tbOf u) 0 5 true = some (tbOf u) := rfl
    have u2 : upd (.agg [.int .i64 0, .int .i64 0, .int .i64 0, .str [], .str []]) 0 (tbOf u) = some (tbOf u) := rfl
    have m1 : (tbOf u).notTup = true := rfl
    have m2 : (tbOf u).cells.length = 5 := rfl
    have s1 : sub (tbOf u) 1 1 false = some (.int .i64 u.l) := rfl
    have s3 : sub (tbOf u) 3 1 false = some (.str u.lo) := rfl
    have s4 : sub (tbOf u) 4 1 false = some (.str u.hi) := rfl
    have e10 := c10 (tot := tot) (ω := ω) (n := n) u L H g2 (by omega)
    have hqu : q u = (decide (u.l = lv + 1) && mt u L H) := by rw [hq]
    by_cases hm : u.l = lv + 1
    · cases hmt : mt u L H with
      | true =>
        rw [hmt] at e10
        have hqt : q u = true := by rw [hqu, hmt]; simp [hm]
        rw [hqt, if_pos rfl] at hft
        obtain ⟨o', g', a1, a2, a3, a4⟩ := app_late (bytes := 56) (x := tbOf u) io lt (by rw [tbsOf_len, List.length_append]; omega) kp
        have ir := io.isRow
        have hh := hull_snoc (L, H) ((tb.take j).filter q) u
        rw [Prod.ext_iff] at hh
        obtain ⟨hh1, hh2⟩ := hh
        simp only at hh1 hh2
        generalize (hull (L, H) ((tb.take j).filter q)).1 = X at hh1 ⊢
        generalize (hull (L, H) ((tb.take j).filter q)).2 = Y at hh2 ⊢
        have d1 : (if (Op.bytesLess X u.lo || X == u.lo) = true then X else u.lo) = sMin X u.lo := rfl
        have d2 : (if (!Op.bytesLess Y u.hi) = true then Y else u.hi) = sMax Y u.hi := rfl
        simp (maxSteps := 2000000) (discharger := omega) only [xz,xc,xo,xr,x0,x1,x2,x3,x4,x5,x6,xd,xe,xb,kont_call,kont_pure,kont_round,isNil,slOk,sliceV,selems,srcElems,copyTo,dlen,eqAV,eqCells,eqS,wr,place,partVals,partEs,placeEs,mapOf,keyOk,keyCells,findK,Bool.bne_false,Bool.bne_true,Reg.isA,Reg.isV,Reg.stays,Reg.onto,↓reduceIte,reduceCtorEq,Nat.reduceEqDiff,Nat.reduceLT,Nat.reduceAdd,Nat.reduceMul,Nat.reduceLeDiff,Nat.zero_lt_succ,Option.bind_some,Option.getD_some,Option.getD_none,Int.cast_ofNat_Int,Int.natCast_zero,Int.natCast_nonneg,true_implies,or_true,true_or,false_or,or_false,beq_self_eq_true,exists_eq_left',Int.reduceEq,Int.reduceLT,Int.reduceLE,Int.reduceGT,Int.reduceGE,Nat.reduceGT,Int.reduceNeg,Int.reduceToNat,Int.reduceAdd,Int.reduceMul,Int.reduceSub,Int.reducePow,decide_eq_true_eq,Nat.reduceBEq,Nat.reduceSub,exists_false,xu,List.set_cons_zero,List.set_cons_succ,wrap_i64,int_lt_t,int_lt_f,int_le_t,int_le_f,int_gt_t,int_gt_f,int_ge_t,int_ge_f,int_eq_t,int_eq_f,int_beq_t,int_beq_f,int_bne_t,int_bne_f,nat_le_t,nat_le_f,Nat.sub_zero,Nat.sub_self,not_false_eq_true,not_true_eq_false,q1,q2,s1,s2,u2,m1,m2,s3,s4,hm,e10,ir,a1,d1,d2,List.replicate_succ,List.replicate_zero,w_regionA2,inOrd,List.filterMap_cons,List.filterMap_nil,Is]
        exact ⟨tb.length - (j + 1), by omega, j + 1, o', by rw [hft, hh1, hh2]; rfl, by omega, rfl, by rw [hft, ← List.append_assoc, tbsOf_snoc]; exact a2, a3, a4⟩
      | false =>
        rw [hmt] at e10
        have hqt : q u = false := by rw [hqu, hmt]; simp
        rw [hqt, if_neg (by simp), List.append_nil] at hft
        simp (maxSteps := 2000000) (discharger := omega) only [xz,xc,xo,xr,x0,x1,x2,x3,x4,x5,x6,xd,xe,xb,kont_call,kont_pure,kont_round,isNil,slOk,sliceV,selems,srcElems,copyTo,dlen,eqAV,eqCells,eqS,wr,place,partVals,partEs,placeEs,mapOf,keyOk,keyCells,findK,Bool.bne_false,Bool.bne_true,Reg.isA,Reg.isV,Reg.stays,Reg.onto,↓reduceIte,reduceCtorEq,Nat.reduceEqDiff,Nat.reduceLT,Nat.reduceAdd,Nat.reduceMul,Nat.reduceLeDiff,Nat.zero_lt_succ,Option.bind_some,Option.getD_some,Option.getD_none,Int.cast_ofNat_Int,Int.natCast_zero,Int.natCast_nonneg,true_implies,or_true,true_or,false_or,or_false,beq_self_eq_true,exists_eq_left',Int.reduceEq,Int.reduceLT,Int.reduceLE,Int.reduceGT,Int.reduceGE,Nat.reduceGT,Int.reduceNeg,Int.reduceToNat,Int.reduceAdd,Int.reduceMul,Int.reduceSub,Int.reducePow,decide_eq_true_eq,Nat.reduceBEq,Nat.reduceSub,exists_false,xu,List.set_cons_zero,List.set_cons_succ,wrap_i64,int_lt_t,int_lt_f,int_le_t,int_le_f,int_gt_t,int_gt_f,int_ge_t,int_ge_f,int_eq_t,int_eq_f,int_beq_t,int_beq_f,int_bne_t,int_bne_f,nat_le_t,nat_le_f,Nat.sub_zero,Nat.sub_self,not_false_eq_true,not_true_eq_false,q1,q2,s1,s2,u2,m1,m2,s3,s4,hm,e10]
        exact ⟨tb.length - (j + 1), by omega, j + 1, o, by rw [hft]; rfl, by omega, rfl, by rw [hft]; exact io, lt, kp⟩
    · have hqt : q u = false := by rw [hqu]; simp [hm]
      rw [hqt, if_neg (by simp), List.append_nil] at hft
      simp (maxSteps := 2000000) (discharger := omega) only [xz,xc,xo,xr,x0,x1,x2,x3,x4,x5,x6,xd,xe,xb,kont_call,kont_pure,kont_round,isNil,slOk,sliceV,selems,srcElems,copyTo,dlen,eqAV,eqCells,eqS,wr,place,partVals,partEs,placeEs,mapOf,keyOk,keyCells,findK,Bool.bne_false,Bool.bne_true,Reg.isA,Reg.isV,Reg.stays,Reg.onto,↓reduceIte,reduceCtorEq,Nat.reduceEqDiff,Nat.reduceLT,Nat.reduceAdd,Nat.reduceMul,Nat.reduceLeDiff,Nat.zero_lt_succ,Option.bind_some,Option.getD_some,Option.getD_none,Int.cast_ofNat_Int,Int.natCast_zero,Int.natCast_nonneg,true_implies,or_true,true_or,false_or,or_false,beq_self_eq_true,exists_eq_left',Int.reduceEq,Int.reduceLT,Int.reduceLE,Int.reduceGT,Int.reduceGE,Nat.reduceGT,Int.reduceNeg,Int.reduceToNat,Int.reduceAdd,Int.reduceMul,Int.reduceSub,Int.reducePow,decide_eq_true_eq,Nat.reduceBEq,Nat.reduceSub,exists_false,xu,List.set_cons_zero,List.set_cons_succ,wrap_i64,int_lt_t,int_lt_f,int_le_t,int_le_f,int_gt_t,int_gt_f,int_ge_t,int_ge_f,int_eq_t,int_eq_f,int_beq_t,int_beq_f,int_bne_t,int_bne_f,nat_le_t,nat_le_f,Nat.sub_zero,Nat.sub_self,not_false_eq_true,not_true_eq_false,q1,q2,s1,s2,u2,m1,m2,s3,s4,hm]
      exact ⟨tb.length - (j + 1), by omega, j + 1, o, by rw [hft]; rfl, by omega, rfl, by rw [hft]; exact io, lt, kp⟩
  obtain rfl : j = tb.length := by omega
  rw [List.take_length] at io ⊢
  obtain ⟨fl, hfl⟩ : ∃ fl, fl = inn ++ tb.filter q := ⟨_, rfl⟩
  rw [← hfl] at io
  have lo6 := io.len
  rw [tbsOf_len] at lo6
  have hfll : fl.length ≤ 2 * tb.length + 1 := by
    have := List.length_filter_le q tb
    rw [hfl, List.length_append]; omega
  generalize hPX : (hull (L, H) (tb.filter q)).1 = PX
  generalize hPY : (hull (L, H) (tb.filter q)).2 = PY
  have hpick : PickR tb ⟨inn, tb.filter q, lv, PX, PY⟩ := by
    refine ⟨k2, t0, rr, hin, ?_, ?_⟩
    · simp only [hq,hL,hH,ha]
    · rw [← ha, ← hPX, ← hPY, hL, hH]
  obtain ⟨c6, rfl⟩ := io.imm (by intro e; have := congrArg List.length e; simp only [tbsOf_len,List.length_nil] at this; rw [hfl, List.length_append] at this; omega)
  simp (maxSteps := 2000000) (discharger := omega) only [xz,xc,xo,xr,x0,x1,x2,x3,x4,x5,x6,xd,xe,xb,kont_call,kont_pure,kont_round,isNil,slOk,sliceV,selems,srcElems,copyTo,dlen,eqAV,eqCells,eqS,wr,place,partVals,partEs,placeEs,mapOf,keyOk,keyCells,findK,Bool.bne_false,Bool.bne_true,Reg.isA,Reg.isV,Reg.stays,Reg.onto,↓reduceIte,reduceCtorEq,Nat.reduceEqDiff,Nat.reduceLT,Nat.reduceAdd,Nat.reduceMul,Nat.reduceLeDiff,Nat.zero_lt_succ,Option.bind_some,Option.getD_some,Option.getD_none,Int.cast_ofNat_Int,Int.natCast_zero,Int.natCast_nonneg,true_implies,or_true,true_or,false_or,or_false,beq_self_eq_true,exists_eq_left',Int.reduceEq,Int.reduceLT,Int.reduceLE,Int.reduceGT,Int.reduceGE,Nat.reduceGT,Int.reduceNeg,Int.reduceToNat,Int.reduceAdd,Int.reduceMul,Int.reduceSub,Int.reducePow,decide_eq_true_eq,Nat.reduceBEq,Nat.reduceSub,exists_false,xu,List.set_cons_zero,List.set_cons_succ,wrap_i64,int_lt_t,int_lt_f,int_le_t,int_le_f,int_gt_t,int_gt_f,int_ge_t,int_ge_f,int_eq_t,int_eq_f,int_beq_t,int_beq_f,int_bne_t,int_bne_f,nat_le_t,nat_le_f,Nat.sub_zero,Nat.sub_self,not_false_eq_true,not_true_eq_false,lo6]
  refine wpi_loop (fun m r g' => ∃ (k : Nat) (w : AV), r = [(0, .val tv), (4, .var (.agg [.nils, .int .i64 0, .str [], .str [], .bool false])), (8, .var (.agg [w, .int .i64 (lv + 1), .str PX, .str PY, .bool true])), (104, .val (.imm 5 (tbsOf fl) c6)), (105, .val (.int .i64 fl.length)), (106, .val (.int .i64 k))] ∧ k ≤ fl.length ∧ m = fl.length - k ∧
    IsApp 1 (fsOf (fl.take k)) g' w ∧ Late 1 h w ∧ KeepLo h.length h g') fl.length (by omega) ⟨0, .nils, rfl, by omega, by omega, .nils _ _, .inl rfl, kp⟩ ?_
  rintro m r1 g3 ⟨k, w, rfl, hk, rfl, iw, lw, kp3⟩
  obtain ⟨y1, y2, y3, y4⟩ := isApp_one iw
  by_cases hkl : k < fl.length
  · have z1 : (tbsOf fl)[k]? = some (tbOf fl[k]) := by simp [tbsOf,hkl]
    have htk : fl.take (k + 1) = fl.take k ++ [fl[k]] := List.take_succ_eq_append_getElem hkl
    generalize fl[k] = u at z1 htk
    have s2 : sub (tbOf u) 0 5 true = some (tbOf u) := rfl
    have u2 : upd (.agg [.int .i64 0, .int .i64 0, .int .i64 0, .str [], .str []]) 0 (tbOf u) = some (tbOf u) := rfl
    have m1 : (tbOf u).notTup = true := rfl
    have m2 : (tbOf u).cells.length = 5 := rfl
    have s0 : sub (tbOf u) 0 1 false = some (.int .i64 u.f) := rfl
    obtain ⟨w', g', a1, a2, a3, a4⟩ := app_late (bytes := 8) (x := .int .i64 u.f) iw lw (by rw [fsOf_len, List.length_take]; omega) kp3
    have ir := iw.isRow
    obtain ⟨x1', x2', x3', x4'⟩ := isApp_one a2
    have hup : ∀ cs off, upd (.agg cs) off w' = if off < cs.length then some (.agg (cs.set off w')) else none := fun cs off => upd_one x1'
    simp (maxSteps := 2000000) (discharger := omega) only [xz,xc,xo,xr,x0,x1,x2,x3,x4,x5,x6,xd,xe,xb,kont_call,kont_pure,kont_round,isNil,slOk,sliceV,selems,srcElems,copyTo,dlen,eqAV,eqCells,eqS,wr,place,partVals,partEs,placeEs,mapOf,keyOk,keyCells,findK,Bool.bne_false,Bool.bne_true,Reg.isA,Reg.isV,Reg.stays,Reg.onto,↓reduceIte,reduceCtorEq,Nat.reduceEqDiff,Nat.reduceLT,Nat.reduceAdd,Nat.reduceMul,Nat.reduceLeDiff,Nat.zero_lt_succ,Option.bind_some,Option.getD_some,Option.getD_none,Int.cast_ofNat_Int,Int.natCast_zero,Int.natCast_nonneg,true_implies,or_true,true_or,false_or,or_false,beq_self_eq_true,exists_eq_left',Int.reduceEq,Int.reduceLT,Int.reduceLE,Int.reduceGT,Int.reduceGE,Nat.reduceGT,Int.reduceNeg,Int.reduceToNat,Int.reduceAdd,Int.reduceMul,Int.reduceSub,Int.reducePow,decide_eq_true_eq,Nat.reduceBEq,Nat.reduceSub,exists_false,xu,List.set_cons_zero,List.set_cons_succ,wrap_i64,int_lt_t,int_lt_f,int_le_t,int_le_f,int_gt_t,int_gt_f,int_ge_t,int_ge_f,int_eq_t,int_eq_f,int_beq_t,int_beq_f,int_bne_t,int_bne_f,nat_le_t,nat_le_f,Nat.sub_zero,Nat.sub_self,not_false_eq_true,not_true_eq_false,z1,s2,u2,m1,m2,s0,ir,a1,hup,x2',x3',List.replicate_succ,List.replicate_zero]
    exact ⟨fl.length - (k + 1), by omega, k + 1, w', rfl, by omega, rfl, by rw [htk]; simpa [fsOf] using a2, a3, a4⟩
  obtain rfl : k = fl.length := by omega
  rw [List.take_length] at iw
  simp (maxSteps := 2000000) (discharger := omega) only [xz,xc,xo,xr,x0,x1,x2,x3,x4,x5,x6,xd,xe,xb,kont_call,kont_pure,kont_round,isNil,slOk,sliceV,selems,srcElems,copyTo,dlen,eqAV,eqCells,eqS,wr,place,partVals,partEs,placeEs,mapOf,keyOk,keyCells,findK,Bool.bne_false,Bool.bne_true,Reg.isA,Reg.isV,Reg.stays,Reg.onto,↓reduceIte,reduceCtorEq,Nat.reduceEqDiff,Nat.reduceLT,Nat.reduceAdd,Nat.reduceMul,Nat.reduceLeDiff,Nat.zero_lt_succ,Option.bind_some,Option.getD_some,Option.getD_none,Int.cast_ofNat_Int,Int.natCast_zero,Int.natCast_nonneg,true_implies,or_true,true_or,false_or,or_false,beq_self_eq_true,exists_eq_left',Int.reduceEq,Int.reduceLT,Int.reduceLE,Int.reduceGT,Int.reduceGE,Nat.reduceGT,Int.reduceNeg,Int.reduceToNat,Int.reduceAdd,Int.reduceMul,Int.reduceSub,Int.reducePow,decide_eq_true_eq,Nat.reduceBEq,Nat.reduceSub,exists_false,xu,List.set_cons_zero,List.set_cons_succ,wrap_i64,int_lt_t,int_lt_f,int_le_t,int_le_f,int_gt_t,int_gt_f,int_ge_t,int_ge_f,int_eq_t,int_eq_f,int_beq_t,int_beq_f,int_bne_t,int_bne_f,nat_le_t,nat_le_f,Nat.sub_zero,Nat.sub_self,not_false_eq_true,not_true_eq_false,hlen]
  refine wpi_loop (fun m r g' => ∃ (j : Nat) (b : Bool), r = [(4, .var (.agg [.nils, .int .i64 0, .str [], .str [], .bool false])), (8, .var (.agg [w, .int .i64 (lv + 1), .str PX, .str PY, .bool b])), (118, .val tv), (119, .val (.int .i64 tb.length)), (120, .val (.int .i64 j))] ∧ j ≤ tb.length ∧ m = tb.length - j ∧ g' = g3) tb.length (by omega) ⟨0, true, rfl, by omega, by omega, rfl⟩ ?_
  rintro m r1 g4 ⟨j, b, rfl, hj, rfl, rfl⟩
  by_cases hjl : j < tb.length
  · obtain ⟨id, es, rfl, q1, q2⟩ := tb_at r hjl
    have q1 := kp3.2 _ _ (List.getElem?_eq_some_iff.1 q1).1 q1
    generalize tb[j] = u at q2
    have s2 : sub (tbOf u) 0 5 true = some (tbOf u) := rfl
    have u2 : upd (.agg [.int .i64 0, .int .i64 0, .int .i64 0, .str [], .str []]) 0 (tbOf u) = some (tbOf u) := rfl
    have m1 : (tbOf u).notTup = true := rfl
    have m2 : (tbOf u).cells.length = 5 := rfl
    have s1 : sub (tbOf u) 1 1 false = some (.int .i64 u.l) := rfl
    have e10 := c10 (tot := tot) (ω := ω) (n := n) u PX PY g4 (by omega)
    by_cases hm : lv + 1 < u.l
    · cases hmt : mt u PX PY with
      | true =>
        rw [hmt] at e10
        simp (maxSteps := 2000000) (discharger := omega) only [xz,xc,xo,xr,x0,x1,x2,x3,x4,x5,x6,xd,xe,xb,kont_call,kont_pure,kont_round,isNil,slOk,sliceV,selems,srcElems,copyTo,dlen,eqAV,eqCells,eqS,wr,place,partVals,partEs,placeEs,mapOf,keyOk,keyCells,findK,Bool.bne_false,Bool.bne_true,Reg.isA,Reg.isV,Reg.stays,Reg.onto,↓reduceIte,reduceCtorEq,Nat.reduceEqDiff,Nat.reduceLT,Nat.reduceAdd,Nat.reduceMul,Nat.reduceLeDiff,Nat.zero_lt_succ,Option.bind_some,Option.getD_some,Option.getD_none,Int.cast_ofNat_Int,Int.natCast_zero,Int.natCast_nonneg,true_implies,or_true,true_or,false_or,or_false,beq_self_eq_true,exists_eq_left',Int.reduceEq,Int.reduceLT,Int.reduceLE,Int.reduceGT,Int.reduceGE,Nat.reduceGT,Int.reduceNeg,Int.reduceToNat,Int.reduceAdd,Int.reduceMul,Int.reduceSub,Int.reducePow,decide_eq_true_eq,Nat.reduceBEq,Nat.reduceSub,exists_false,xu,List.set_cons_zero,List.set_cons_succ,wrap_i64,int_lt_t,int_lt_f,int_le_t,int_le_f,int_gt_t,int_gt_f,int_ge_t,int_ge_f,int_eq_t,int_eq_f,int_beq_t,int_beq_f,int_bne_t,int_bne_f,nat_le_t,nat_le_f,Nat.sub_zero,Nat.sub_self,not_false_eq_true,not_true_eq_false,q1,q2,s1,s2,u2,m1,m2,hm,e10]
        exact ⟨tb.length - (j + 1), by omega, j + 1, false, rfl, by omega, rfl⟩
      | false =>
        rw [hmt] at e10
        simp (maxSteps := 2000000) (discharger := omega) only [xz,xc,xo,xr,x0,x1,x2,x3,x4,x5,x6,xd,xe,xb,kont_call,kont_pure,kont_round,isNil,slOk,sliceV,selems,srcElems,copyTo,dlen,eqAV,eqCells,eqS,wr,place,partVals,partEs,placeEs,mapOf,keyOk,keyCells,findK,Bool.bne_false,Bool.bne_true,Reg.isA,Reg.isV,Reg.stays,Reg.onto,↓reduceIte,reduceCtorEq,Nat.reduceEqDiff,Nat.reduceLT,Nat.reduceAdd,Nat.reduceMul,Nat.reduceLeDiff,Nat.zero_lt_succ,Option.bind_some,Option.getD_some,Option.getD_none,Int.cast_ofNat_Int,Int.natCast_zero,Int.natCast_nonneg,true_implies,or_true,true_or,false_or,or_false,beq_self_eq_true,exists_eq_left',Int.reduceEq,Int.reduceLT,Int.reduceLE,Int.reduceGT,Int.reduceGE,Nat.reduceGT,Int.reduceNeg,Int.reduceToNat,Int.reduceAdd,Int.reduceMul,Int.reduceSub,Int.reducePow,decide_eq_true_eq,Nat.reduceBEq,Nat.reduceSub,exists_false,xu,List.set_cons_zero,List.set_cons_succ,wrap_i64,int_lt_t,int_lt_f,int_le_t,int_le_f,int_gt_t,int_gt_f,int_ge_t,int_ge_f,int_eq_t,int_eq_f,int_beq_t,int_beq_f,int_bne_t,int_bne_f,nat_le_t,nat_le_f,Nat.sub_zero,Nat.sub_self,not_false_eq_true,not_true_eq_false,q1,q2,s1,s2,u2,m1,m2,hm,e10]
        exact ⟨tb.length - (j + 1), by omega, j + 1, b, rfl, by omega, rfl⟩
    · simp (maxSteps := 2000000) (discharger := omega) only [xz,xc,xo,xr,x0,x1,x2,x3,x4,x5,x6,xd,xe,xb,kont_call,kont_pure,kont_round,isNil,slOk,sliceV,selems,srcElems,copyTo,dlen,eqAV,eqCells,eqS,wr,place,partVals,partEs,placeEs,mapOf,keyOk,keyCells,findK,Bool.bne_false,Bool.bne_true,Reg.isA,Reg.isV,Reg.stays,Reg.onto,↓reduceIte,reduceCtorEq,Nat.reduceEqDiff,Nat.reduceLT,Nat.reduceAdd,Nat.reduceMul,Nat.reduceLeDiff,Nat.zero_lt_succ,Option.bind_some,Option.getD_some,Option.getD_none,Int.cast_ofNat_Int,Int.natCast_zero,Int.natCast_nonneg,true_implies,or_true,true_or,false_or,or_false,beq_self_eq_true,exists_eq_left',Int.reduceEq,Int.reduceLT,Int.reduceLE,Int.reduceGT,Int.reduceGE,Nat.reduceGT,Int.reduceNeg,Int.reduceToNat,Int.reduceAdd,Int.reduceMul,Int.reduceSub,Int.reducePow,decide_eq_true_eq,Nat.reduceBEq,Nat.reduceSub,exists_false,xu,List.set_cons_zero,List.set_cons_succ,wrap_i64,int_lt_t,int_lt_f,int_le_t,int_le_f,int_gt_t,int_gt_f,int_ge_t,int_ge_f,int_eq_t,int_eq_f,int_beq_t,int_beq_f,int_bne_t,int_bne_f,nat_le_t,nat_le_f,Nat.sub_zero,Nat.sub_self,not_false_eq_true,not_true_eq_false,q1,q2,s1,s2,u2,m1,m2,hm]
      exact ⟨tb.length - (j + 1), by omega, j + 1, b, rfl, by omega, rfl⟩
  obtain rfl : j = tb.length := by omega
  simp (maxSteps := 2000000) (discharger := omega) only [xz,xc,xo,xr,x0,x1,x2,x3,x4,x5,x6,xd,xe,xb,kont_call,kont_pure,kont_round,isNil,slOk,sliceV,selems,srcElems,copyTo,dlen,eqAV,eqCells,eqS,wr,place,partVals,partEs,placeEs,mapOf,keyOk,keyCells,findK,Bool.bne_false,Bool.bne_true,Reg.isA,Reg.isV,Reg.stays,Reg.onto,↓reduceIte,reduceCtorEq,Nat.reduceEqDiff,Nat.reduceLT,Nat.reduceAdd,Nat.reduceMul,Nat.reduceLeDiff,Nat.zero_lt_succ,Option.bind_some,Option.getD_some,Option.getD_none,Int.cast_ofNat_Int,Int.natCast_zero,Int.natCast_nonneg,true_implies,or_true,true_or,false_or,or_false,beq_self_eq_true,exists_eq_left',Int.reduceEq,Int.reduceLT,Int.reduceLE,Int.reduceGT,Int.reduceGE,Nat.reduceGT,Int.reduceNeg,Int.reduceToNat,Int.reduceAdd,Int.reduceMul,Int.reduceSub,Int.reducePow,decide_eq_true_eq,Nat.reduceBEq,Nat.reduceSub,exists_false,xu,List.set_cons_zero,List.set_cons_succ,wrap_i64,int_lt_t,int_lt_f,int_le_t,int_le_f,int_gt_t,int_gt_f,int_ge_t,int_ge_f,int_eq_t,int_eq_f,int_beq_t,int_beq_f,int_bne_t,int_bne_f,nat_le_t,nat_le_f,Nat.sub_zero,Nat.sub_self,not_false_eq_true,not_true_eq_false]
  exact ⟨kp3, .inr ⟨⟨inn, tb.filter q, lv, PX, PY⟩, w, b, rfl, hpick, by simp only [← hfl]; exact isRd_app iw⟩⟩
end Go.Proofs.Ytabpndekmpjmhaa.Im

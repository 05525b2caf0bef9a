/- S18L: the reference's chunks: put in, taken out, counted; answers compared. -/
import Derived.Test.YtdjlcddkfjbebaaJ
set_option linter.unusedVariables false
set_option linter.unusedSimpArgs false
open Go Go.Im
namespace Go.Proofs.Ytdjlcddkfjbebaa.Im

def cC (c : Ch) : List AV := kCs c.1 ++ intsOf .u32 c.2
def cAs (l : List Ch) : List AV := l.map fun c => .agg (cC c)
theorem cAs_len (l : List Ch) : (cAs l).length = l.length := by simp [cAs]
theorem cAs_get {l : List Ch} {i : Nat} (h : i < l.length) : (cAs l)[i]? = some (.agg (cC l[i])) := by simp [cAs,h]
theorem cC_len {c : Ch} (h : c.2.length = 8) : (cC c).length = 40 := by simp [cC,kCs_len,intsOf,h]
theorem cC_t32 (c : Ch) : (cC c).take 32 = kCs c.1 := List.take_left' (kCs_len _)
theorem cC_d32 (c : Ch) : (cC c).drop 32 = intsOf .u32 c.2 := List.drop_left' (kCs_len _)
theorem cC_t40 {c : Ch} (h : c.2.length = 8) : (cC c).take 40 = cC c := List.take_of_length_le (by rw [cC_len h]; omega)
theorem cC_d40 {c : Ch} (h : c.2.length = 8) : (cC c).drop 40 = [] := List.drop_of_length_le (by rw [cC_len h]; omega)

theorem c19 {tot : Bool} {ω : Nat → Nat} {n : Nat} {p mo ma cT cA : Nat} {T : List (Int × List Int × Nat)} {A : Spots} {L : Nat → List Ch} (h : Hp) (B : Bk h p mo ma T cT A cA L) (hn : 0 < n) : call F n tot ω 19 [.ptr p 2 0 0] h = some (.int .i64 T.length, h) := by
  obtain ⟨n, rfl⟩ : ∃ m, n = m + 1 := ⟨n - 1, by omega⟩
  refine call_eq (fn := a19) f19 ?_
  unfold a19
  have b1 := B.ptr
  have b2 := B.of.hp
  simp (maxSteps := 2000000) (discharger := omega) only [xc,xo,xr,x0,x1,x2,x3,x4,x5,x6,xd,xe,xb,kont_call,kont_pure,kont_round,isNil,slOk,sliceV,selems,srcElems,copyTo,dlen,eqAV,eqCells,eqS,wr,place,partVals,partEs,placeEs,mapOf,keyOk,keyCells,findK,Bool.bne_false,Bool.bne_true,List.drop_zero,List.nil_append,List.append_nil,List.take_zero,List.cons_append,List.take_succ_cons,List.drop_succ_cons,List.take_nil,List.drop_nil,Reg.isA,Reg.isV,Reg.stays,Reg.onto,Bool.false_or,Bool.or_false,Bool.false_and,Bool.and_false,Bool.true_and,Bool.and_true,Bool.or_true,Bool.true_or,↓reduceIte,reduceCtorEq,Nat.reduceEqDiff,Nat.reduceLT,Nat.reduceAdd,Nat.reduceMul,Nat.add_zero,Nat.zero_add,Nat.not_lt_zero,Nat.zero_ne_one,Nat.one_ne_zero,Nat.reduceLeDiff,Nat.lt_irrefl,Nat.zero_lt_succ,Bool.false_eq_true,Bool.not_true,Bool.not_false,Option.map_some,Option.map_none,Option.bind_some,Option.getD_some,Option.getD_none,and_self,and_true,true_and,List.length_cons,List.length_nil,List.any_nil,List.any_cons,Int.toNat_natCast,Int.cast_ofNat_Int,Int.natCast_zero,Int.natCast_nonneg,true_implies,or_true,true_or,false_or,or_false,beq_self_eq_true,Option.some.injEq,exists_eq_left',Int.reduceEq,Int.reduceLT,Int.reduceLE,Int.reduceGT,Int.reduceGE,Nat.reduceGT,Int.reduceNeg,Int.reduceToNat,Int.reduceAdd,Int.reduceMul,Int.reduceSub,Int.reducePow,decide_true,decide_false,decide_eq_true_eq,List.getElem?_cons_zero,List.getElem?_cons_succ,Nat.reduceBEq,Nat.reduceSub,exists_false,and_false,false_and,xu,List.set_cons_zero,List.set_cons_succ,wrap_i64,int_lt_t,int_lt_f,int_le_t,int_le_f,int_gt_t,int_gt_f,int_ge_t,int_ge_f,int_eq_t,int_eq_f,int_beq_t,int_beq_f,int_bne_t,int_bne_f,nat_le_t,nat_le_f,Nat.sub_zero,Nat.sub_self,not_false_eq_true,not_true_eq_false,b1,b2,encE_len]

theorem keeps_of {h h' : Hp} (k : ∀ (id : Nat) o, h[id]? = some o → o.solid = true → h'[id]? = some o) : keeps h h' := k

def Late (sz : Nat) (h : Hp) (v : AV) : Prop := v = .nils ∨ ∃ es j c, v = .imm sz es (.tok j c) ∧ h.length ≤ j
theorem dropC_snoc (k : Int) (l : List Ch) (c : Ch) : dropC k (l ++ [c]) = if c.1 = k then dropC k l else dropC k l ++ [c] := by
  unfold dropC
  rw [List.filter_append]
  by_cases h : c.1 = k <;> simp [h]
theorem cAs_snoc (l : List Ch) (c : Ch) : cAs (l ++ [c]) = cAs l ++ [.agg (cC c)] := by simp [cAs]

theorem app_late {sz bytes : Nat} {es : List AV} {x : AV} {h g : Hp} {o : AV} (io : IsApp sz es g o) (lo : Late sz h o) (hb : (es.length + 1) * bytes ≤ 140737488355328) (kp : keeps h g) (kt : KT h g) (hg : h.length ≤ g.length) :
    ∃ o' g', appendV false sz bytes o [x] g = some (o', g') ∧ IsApp sz (es ++ [x]) g' o' ∧ Late sz h o' ∧ keeps h g' ∧ KT h g' ∧ h.length ≤ g'.length := by
  obtain ⟨o', g', e1, e2, e3, e4, e5, c, e6⟩ := app_ok (bytes := bytes) (xs := [x]) io (by simp) (by simpa using hb)
  refine ⟨o', g', e1, e2, .inr ⟨_, _, c, e6, hg⟩, keeps_trans kp e3, fun i z e q => ?_, by omega⟩
  refine e5 i _ (kt i z e q) fun c hc => ?_
  rcases lo with rfl | ⟨es', j, c', rfl, hj⟩
  · cases hc
  · cases hc
    have := (List.getElem?_eq_some_iff.1 q).1
    omega

theorem c17 {tot : Bool} {ω : Nat → Nat} {n : Nat} (v : AV) (k : Int) (l : List Ch) (h : Hp) (hv : v = .nils ∧ l = [] ∨ ∃ c, v = .imm 40 (cAs l) c) (h8 : ∀ c ∈ l, c.2.length = 8) (hl : l.length ≤ 1000) (hn : 1001 < n) :
    ∃ v' h', call F n tot ω 17 [v, .agg (kCs k)] h = some (v', h') ∧ IsApp 40 (cAs (dropC k l)) h' v' ∧ Late 40 h v' ∧ keeps h h' ∧ KT h h' ∧ h.length ≤ h'.length := by
  obtain ⟨n, rfl⟩ : ∃ m, n = m + 1 := ⟨n - 1, by omega⟩
  suffices hx : ∃ v' h', call F (n + 1) tot ω 17 [v, .agg (kCs k)] h = some (v', h') ∧ (IsApp 40 (cAs (dropC k l)) h' v' ∧ Late 40 h v' ∧ keeps h h' ∧ KT h h' ∧ h.length ≤ h'.length) by
    obtain ⟨v', h', e1, e2⟩ := hx
    exact ⟨v', h', e1, e2⟩
  refine call_of (fn := a17) f17 (P := fun v' h' => IsApp 40 (cAs (dropC k l)) h' v' ∧ Late 40 h v' ∧ keeps h h' ∧ KT h h' ∧ h.length ≤ h'.length) ?_
  unfold a17
  have lv : lenSl v = some l.length := by
    rcases hv with ⟨rfl, rfl⟩ | ⟨c, rfl⟩
    · rfl
    · simp [lenSl,cAs_len]
  simp (maxSteps := 2000000) (discharger := omega) only [xc,xo,xr,x0,x1,x2,x3,x4,x5,x6,xd,xe,xb,kont_call,kont_pure,kont_round,isNil,slOk,sliceV,selems,srcElems,copyTo,dlen,eqAV,eqCells,eqS,wr,place,partVals,partEs,placeEs,mapOf,keyOk,keyCells,findK,Bool.bne_false,Bool.bne_true,List.drop_zero,List.nil_append,List.append_nil,List.take_zero,List.cons_append,List.take_succ_cons,List.drop_succ_cons,List.take_nil,List.drop_nil,Reg.isA,Reg.isV,Reg.stays,Reg.onto,Bool.false_or,Bool.or_false,Bool.false_and,Bool.and_false,Bool.true_and,Bool.and_true,Bool.or_true,Bool.true_or,↓reduceIte,reduceCtorEq,Nat.reduceEqDiff,Nat.reduceLT,Nat.reduceAdd,Nat.reduceMul,Nat.add_zero,Nat.zero_add,Nat.not_lt_zero,Nat.zero_ne_one,Nat.one_ne_zero,Nat.reduceLeDiff,Nat.lt_irrefl,Nat.zero_lt_succ,Bool.false_eq_true,Bool.not_true,Bool.not_false,Option.map_some,Option.map_none,Option.bind_some,Option.getD_some,Option.getD_none,and_self,and_true,true_and,List.length_cons,List.length_nil,List.any_nil,List.any_cons,Int.toNat_natCast,Int.cast_ofNat_Int,Int.natCast_zero,Int.natCast_nonneg,true_implies,or_true,true_or,false_or,or_false,beq_self_eq_true,Option.some.injEq,exists_eq_left',Int.reduceEq,Int.reduceLT,Int.reduceLE,Int.reduceGT,Int.reduceGE,Nat.reduceGT,Int.reduceNeg,Int.reduceToNat,Int.reduceAdd,Int.reduceMul,Int.reduceSub,Int.reducePow,decide_true,decide_false,decide_eq_true_eq,List.getElem?_cons_zero,List.getElem?_cons_succ,Nat.reduceBEq,Nat.reduceSub,exists_false,and_false,false_and,xu,List.set_cons_zero,List.set_cons_succ,wrap_i64,int_lt_t,int_lt_f,int_le_t,int_le_f,int_gt_t,int_gt_f,int_ge_t,int_ge_f,int_eq_t,int_eq_f,int_beq_t,int_beq_f,int_bne_t,int_bne_f,nat_le_t,nat_le_f,Nat.sub_zero,Nat.sub_self,not_false_eq_true,not_true_eq_false,kCs_len]
  refine wpi_loop (fun m r g => ∃ (i : Nat) (o : AV), r = [(0, .val v), (3, .var (.agg (kCs k))), (5, .val o), (6, .val (.int .i64 i))] ∧ i ≤ l.length ∧ m = l.length - i ∧ IsApp 40 (cAs (dropC k (l.take i))) g o ∧ Late 40 h o ∧ keeps h g ∧ KT h g ∧ h.length ≤ g.length) l.length (by omega) ⟨0, .nils, rfl, by omega, by omega, .nils _ _, .inl rfl, keeps_refl _, KT.refl _, Nat.le_refl _⟩ ?_
  rintro m r g ⟨i, o, rfl, hi, rfl, io, lo, kp, kt, hgl⟩
  by_cases hlt : i < l.length
  · obtain ⟨c, rfl⟩ : ∃ c, v = .imm 40 (cAs l) c := by
      rcases hv with ⟨rfl, rfl⟩ | h
      · simp at hlt
      · exact h
    have q1 := cAs_get hlt
    have c8 := h8 _ (List.getElem_mem hlt)
    have q2 := cC_len c8
    have q3 := cC_t32 l[i]
    have q4 := cC_t40 c8
    have q5 := cC_d40 c8
    have htk : l.take (i + 1) = l.take i ++ [l[i]] := List.take_succ_eq_append_getElem hlt
    obtain ⟨d, hd⟩ : ∃ d, d = l[i] := ⟨_, rfl⟩
    rw [← hd] at q1 c8 q2 q3 q4 q5 htk
    have ha := dropC_snoc k (l.take i) d
    rw [← htk] at ha
    by_cases he : d.1 = k
    · rw [if_pos he] at ha
      simp (maxSteps := 2000000) (discharger := omega) only [xc,xo,xr,x0,x1,x2,x3,x4,x5,x6,xd,xe,xb,kont_call,kont_pure,kont_round,isNil,slOk,sliceV,selems,srcElems,copyTo,dlen,eqAV,eqCells,eqS,wr,place,partVals,partEs,placeEs,mapOf,keyOk,keyCells,findK,Bool.bne_false,Bool.bne_true,List.drop_zero,List.nil_append,List.append_nil,List.take_zero,List.cons_append,List.take_succ_cons,List.drop_succ_cons,List.take_nil,List.drop_nil,Reg.isA,Reg.isV,Reg.stays,Reg.onto,Bool.false_or,Bool.or_false,Bool.false_and,Bool.and_false,Bool.true_and,Bool.and_true,Bool.or_true,Bool.true_or,↓reduceIte,reduceCtorEq,Nat.reduceEqDiff,Nat.reduceLT,Nat.reduceAdd,Nat.reduceMul,Nat.add_zero,Nat.zero_add,Nat.not_lt_zero,Nat.zero_ne_one,Nat.one_ne_zero,Nat.reduceLeDiff,Nat.lt_irrefl,Nat.zero_lt_succ,Bool.false_eq_true,Bool.not_true,Bool.not_false,Option.map_some,Option.map_none,Option.bind_some,Option.getD_some,Option.getD_none,and_self,and_true,true_and,List.length_cons,List.length_nil,List.any_nil,List.any_cons,Int.toNat_natCast,Int.cast_ofNat_Int,Int.natCast_zero,Int.natCast_nonneg,true_implies,or_true,true_or,false_or,or_false,beq_self_eq_true,Option.some.injEq,exists_eq_left',Int.reduceEq,Int.reduceLT,Int.reduceLE,Int.reduceGT,Int.reduceGE,Nat.reduceGT,Int.reduceNeg,Int.reduceToNat,Int.reduceAdd,Int.reduceMul,Int.reduceSub,Int.reducePow,decide_true,decide_false,decide_eq_true_eq,List.getElem?_cons_zero,List.getElem?_cons_succ,Nat.reduceBEq,Nat.reduceSub,exists_false,and_false,false_and,xu,List.set_cons_zero,List.set_cons_succ,wrap_i64,int_lt_t,int_lt_f,int_le_t,int_le_f,int_gt_t,int_gt_f,int_ge_t,int_ge_f,int_eq_t,int_eq_f,int_beq_t,int_beq_f,int_bne_t,int_bne_f,nat_le_t,nat_le_f,Nat.sub_zero,Nat.sub_self,not_false_eq_true,not_true_eq_false,lv,q1,q2,q3,kCs_take,kCs_drop,kCs_len,kCs_eq,he]
      exact ⟨l.length - (i + 1), by omega, i + 1, o, rfl, by omega, rfl, by rw [ha]; exact io, lo, kp, kt⟩
    · rw [if_neg he] at ha
      have hdl : (dropC k (l.take i)).length ≤ 1000 := Nat.le_trans (List.length_filter_le _ _) (by rw [List.length_take]; omega)
      obtain ⟨o', g', e1, e2, e3, e4, e5, e6⟩ := app_late (bytes := 64) (x := .agg (cC d)) io lo (by rw [cAs_len]; omega) kp kt hgl
      have ir := io.isRow
      simp (maxSteps := 2000000) (discharger := omega) only [xc,xo,xr,x0,x1,x2,x3,x4,x5,x6,xd,xe,xb,kont_call,kont_pure,kont_round,isNil,slOk,sliceV,selems,srcElems,copyTo,dlen,eqAV,eqCells,eqS,wr,place,partVals,partEs,placeEs,mapOf,keyOk,keyCells,findK,Bool.bne_false,Bool.bne_true,List.drop_zero,List.nil_append,List.append_nil,List.take_zero,List.cons_append,List.take_succ_cons,List.drop_succ_cons,List.take_nil,List.drop_nil,Reg.isA,Reg.isV,Reg.stays,Reg.onto,Bool.false_or,Bool.or_false,Bool.false_and,Bool.and_false,Bool.true_and,Bool.and_true,Bool.or_true,Bool.true_or,↓reduceIte,reduceCtorEq,Nat.reduceEqDiff,Nat.reduceLT,Nat.reduceAdd,Nat.reduceMul,Nat.add_zero,Nat.zero_add,Nat.not_lt_zero,Nat.zero_ne_one,Nat.one_ne_zero,Nat.reduceLeDiff,Nat.lt_irrefl,Nat.zero_lt_succ,Bool.false_eq_true,Bool.not_true,Bool.not_false,Option.map_some,Option.map_none,Option.bind_some,Option.getD_some,Option.getD_none,and_self,and_true,true_and,List.length_cons,List.length_nil,List.any_nil,List.any_cons,Int.toNat_natCast,Int.cast_ofNat_Int,Int.natCast_zero,Int.natCast_nonneg,true_implies,or_true,true_or,false_or,or_false,beq_self_eq_true,Option.some.injEq,exists_eq_left',Int.reduceEq,Int.reduceLT,Int.reduceLE,Int.reduceGT,Int.reduceGE,Nat.reduceGT,Int.reduceNeg,Int.reduceToNat,Int.reduceAdd,Int.reduceMul,Int.reduceSub,Int.reducePow,decide_true,decide_false,decide_eq_true_eq,List.getElem?_cons_zero,List.getElem?_cons_succ,Nat.reduceBEq,Nat.reduceSub,exists_false,and_false,false_and,xu,List.set_cons_zero,List.set_cons_succ,wrap_i64,int_lt_t,int_lt_f,int_le_t,int_le_f,int_gt_t,int_gt_f,int_ge_t,int_ge_f,int_eq_t,int_eq_f,int_beq_t,int_beq_f,int_bne_t,int_bne_f,nat_le_t,nat_le_f,Nat.sub_zero,Nat.sub_self,not_false_eq_true,not_true_eq_false,lv,q1,q2,q3,q4,q5,kCs_take,kCs_drop,kCs_len,kCs_eq,he,List.replicate_succ,List.replicate_zero,ir,e1]
      exact ⟨l.length - (i + 1), by omega, i + 1, o', rfl, by omega, rfl, by rw [ha, cAs_snoc]; exact e2, e3, e4, e5⟩
  · obtain rfl : i = l.length := by omega
    simp (maxSteps := 2000000) (discharger := omega) only [xc,xo,xr,x0,x1,x2,x3,x4,x5,x6,xd,xe,xb,kont_call,kont_pure,kont_round,isNil,slOk,sliceV,selems,srcElems,copyTo,dlen,eqAV,eqCells,eqS,wr,place,partVals,partEs,placeEs,mapOf,keyOk,keyCells,findK,Bool.bne_false,Bool.bne_true,List.drop_zero,List.nil_append,List.append_nil,List.take_zero,List.cons_append,List.take_succ_cons,List.drop_succ_cons,List.take_nil,List.drop_nil,Reg.isA,Reg.isV,Reg.stays,Reg.onto,Bool.false_or,Bool.or_false,Bool.false_and,Bool.and_false,Bool.true_and,Bool.and_true,Bool.or_true,Bool.true_or,↓reduceIte,reduceCtorEq,Nat.reduceEqDiff,Nat.reduceLT,Nat.reduceAdd,Nat.reduceMul,Nat.add_zero,Nat.zero_add,Nat.not_lt_zero,Nat.zero_ne_one,Nat.one_ne_zero,Nat.reduceLeDiff,Nat.lt_irrefl,Nat.zero_lt_succ,Bool.false_eq_true,Bool.not_true,Bool.not_false,Option.map_some,Option.map_none,Option.bind_some,Option.getD_some,Option.getD_none,and_self,and_true,true_and,List.length_cons,List.length_nil,List.any_nil,List.any_cons,Int.toNat_natCast,Int.cast_ofNat_Int,Int.natCast_zero,Int.natCast_nonneg,true_implies,or_true,true_or,false_or,or_false,beq_self_eq_true,Option.some.injEq,exists_eq_left',Int.reduceEq,Int.reduceLT,Int.reduceLE,Int.reduceGT,Int.reduceGE,Nat.reduceGT,Int.reduceNeg,Int.reduceToNat,Int.reduceAdd,Int.reduceMul,Int.reduceSub,Int.reducePow,decide_true,decide_false,decide_eq_true_eq,List.getElem?_cons_zero,List.getElem?_cons_succ,Nat.reduceBEq,Nat.reduceSub,exists_false,and_false,false_and,xu,List.set_cons_zero,List.set_cons_succ,wrap_i64,int_lt_t,int_lt_f,int_le_t,int_le_f,int_gt_t,int_gt_f,int_ge_t,int_ge_f,int_eq_t,int_eq_f,int_beq_t,int_beq_f,int_bne_t,int_bne_f,nat_le_t,nat_le_f,Nat.sub_zero,Nat.sub_self,not_false_eq_true,not_true_eq_false,lv]
    rw [List.take_length] at io
    exact ⟨io, lo, kp, kt⟩

theorem IsApp.kind {l : List Ch} {h : Hp} {v : AV} (a : IsApp 40 (cAs l) h v) : v = .nils ∧ l = [] ∨ ∃ c, v = .imm 40 (cAs l) c := by
  rcases a with ⟨rfl, e⟩ | rfl | ⟨id, rfl, _⟩
  · exact .inl ⟨rfl, by simpa [cAs] using e⟩
  · exact .inr ⟨_, rfl⟩
  · exact .inr ⟨_, rfl⟩

theorem c15 {tot : Bool} {ω : Nat → Nat} {n : Nat} (v : AV) (k : Int) (s : List Int) (l : List Ch) (h : Hp) (hv : v = .nils ∧ l = [] ∨ ∃ c, v = .imm 40 (cAs l) c) (h8 : ∀ c ∈ l, c.2.length = 8) (hs8 : s.length = 8) (hl : l.length ≤ 1000) (hn : 1002 < n) :
    ∃ v' h', call F n tot ω 15 [v, .agg (kCs k), .agg (intsOf .u32 s)] h = some (v', h') ∧ IsApp 40 (cAs (dropC k l ++ [(k, s)])) h' v' ∧ keeps h h' ∧ KT h h' := by
  obtain ⟨n, rfl⟩ : ∃ m, n = m + 1 := ⟨n - 1, by omega⟩
  suffices hx : ∃ v' h', call F (n + 1) tot ω 15 [v, .agg (kCs k), .agg (intsOf .u32 s)] h = some (v', h') ∧ (IsApp 40 (cAs (dropC k l ++ [(k, s)])) h' v' ∧ keeps h h' ∧ KT h h') by
    obtain ⟨v', h', e1, e2⟩ := hx
    exact ⟨v', h', e1, e2⟩
  refine call_of (fn := a15) f15 (P := fun v' h' => IsApp 40 (cAs (dropC k l ++ [(k, s)])) h' v' ∧ keeps h h' ∧ KT h h') ?_
  unfold a15
  obtain ⟨v1, g, e1, e2, e3, e4, e5, hgl⟩ := c17 (tot := tot) (ω := ω) (n := n) v k l h hv h8 hl (by omega)
  have hi8 : (intsOf .u32 s).length = 8 := by simp [intsOf,hs8]
  have ht8 : (intsOf .u32 s).take 8 = intsOf .u32 s := List.take_of_length_le (by omega)
  have hd8 : (intsOf .u32 s).drop 8 = [] := List.drop_of_length_le (by omega)
  have hdl : (dropC k l).length ≤ 1000 := Nat.le_trans (List.length_filter_le _ _) hl
  obtain ⟨v2, g2, q1, q2, q3, q4, q5, _⟩ := app_late (bytes := 64) (x := .agg (cC (k, s))) e2 e3 (by rw [cAs_len]; omega) e4 e5 hgl
  have q1 : appendV false 40 64 v1 [.agg (kCs k ++ intsOf .u32 s)] g = some (v2, g2) := q1
  have z3 : (kCs k ++ [AV.int IntKind.u32 0, AV.int IntKind.u32 0, AV.int IntKind.u32 0, AV.int IntKind.u32 0, AV.int IntKind.u32 0, AV.int IntKind.u32 0, AV.int IntKind.u32 0, AV.int IntKind.u32 0]).length = 40 := by simp [kCs_len]
  have z4 : (kCs k ++ [AV.int IntKind.u32 0, AV.int IntKind.u32 0, AV.int IntKind.u32 0, AV.int IntKind.u32 0, AV.int IntKind.u32 0, AV.int IntKind.u32 0, AV.int IntKind.u32 0, AV.int IntKind.u32 0]).drop 40 = [] := List.drop_of_length_le (by rw [z3]; omega)
  have ir := e2.isRow
  have z1 : ∀ z, (kCs k ++ z).take 32 = kCs k := fun z => List.take_left' (kCs_len _)
  have z2 : (kCs k ++ intsOf .u32 s).length = 40 := by simp [kCs_len,hi8]
  simp (maxSteps := 2000000) (discharger := omega) only [xc,xo,xr,x0,x1,x2,x3,x4,x5,x6,xd,xe,xb,kont_call,kont_pure,kont_round,isNil,slOk,sliceV,selems,srcElems,copyTo,dlen,eqAV,eqCells,eqS,wr,place,partVals,partEs,placeEs,mapOf,keyOk,keyCells,findK,Bool.bne_false,Bool.bne_true,List.drop_zero,List.nil_append,List.append_nil,List.take_zero,List.cons_append,List.take_succ_cons,List.drop_succ_cons,List.take_nil,List.drop_nil,Reg.isA,Reg.isV,Reg.stays,Reg.onto,Bool.false_or,Bool.or_false,Bool.false_and,Bool.and_false,Bool.true_and,Bool.and_true,Bool.or_true,Bool.true_or,↓reduceIte,reduceCtorEq,Nat.reduceEqDiff,Nat.reduceLT,Nat.reduceAdd,Nat.reduceMul,Nat.add_zero,Nat.zero_add,Nat.not_lt_zero,Nat.zero_ne_one,Nat.one_ne_zero,Nat.reduceLeDiff,Nat.lt_irrefl,Nat.zero_lt_succ,Bool.false_eq_true,Bool.not_true,Bool.not_false,Option.map_some,Option.map_none,Option.bind_some,Option.getD_some,Option.getD_none,and_self,and_true,true_and,List.length_cons,List.length_nil,List.any_nil,List.any_cons,Int.toNat_natCast,Int.cast_ofNat_Int,Int.natCast_zero,Int.natCast_nonneg,true_implies,or_true,true_or,false_or,or_false,beq_self_eq_true,Option.some.injEq,exists_eq_left',Int.reduceEq,Int.reduceLT,Int.reduceLE,Int.reduceGT,Int.reduceGE,Nat.reduceGT,Int.reduceNeg,Int.reduceToNat,Int.reduceAdd,Int.reduceMul,Int.reduceSub,Int.reducePow,decide_true,decide_false,decide_eq_true_eq,List.getElem?_cons_zero,List.getElem?_cons_succ,Nat.reduceBEq,Nat.reduceSub,exists_false,and_false,false_and,xu,List.set_cons_zero,List.set_cons_succ,wrap_i64,int_lt_t,int_lt_f,int_le_t,int_le_f,int_gt_t,int_gt_f,int_ge_t,int_ge_f,int_eq_t,int_eq_f,int_beq_t,int_beq_f,int_bne_t,int_bne_f,nat_le_t,nat_le_f,Nat.sub_zero,Nat.sub_self,not_false_eq_true,not_true_eq_false,e1,kCs_take,kCs_drop,kCs_len,hi8,ht8,hd8,List.replicate_succ,List.replicate_zero,ir,z1,z2,z3,z4,q1]
  exact ⟨by rw [cAs_snoc]; exact q2, q4, q5⟩
end Go.Proofs.Ytdjlcddkfjbebaa.Im

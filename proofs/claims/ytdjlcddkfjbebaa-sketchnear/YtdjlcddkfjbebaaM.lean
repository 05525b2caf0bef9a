/- S18M: what the reference finds. -/
import Derived.Test.YtdjlcddkfjbebaaL
set_option linter.unusedVariables false
set_option linter.unusedSimpArgs false
open Go Go.Im
namespace Go.Proofs.Ytdjlcddkfjbebaa.Im

theorem ints_plain (k : IntKind) : ∀ l : List Int, plains (intsOf k l) = some (intsOf k l)
  | [] => rfl
  | a :: l => by
    have ih := ints_plain k l
    simp only [intsOf,List.map_cons,plains,plain] at ih ⊢
    rw [ih]

theorem c20 {tot : Bool} {ω : Nat → Nat} {n : Nat} {lo : Nat} (v w : AV) (l : List Int) (h : Hp) (hv : RowAt h 32 lo (kAs l) v) (hw : w = .nils ∧ l = [] ∨ ∃ c, w = .imm 32 (kAs l) c) (hl : l.length ≤ 1000) (hn : 1001 < n) :
    call F n tot ω 20 [v, w] h = some (.bool true, h) := by
  obtain ⟨n, rfl⟩ : ∃ m, n = m + 1 := ⟨n - 1, by omega⟩
  refine call_eq (fn := a20) f20 ?_
  unfold a20
  have l1 := hv.len
  rw [kAs_len] at l1
  have l2 : lenSl w = some l.length := by
    rcases hw with ⟨rfl, rfl⟩ | ⟨c, rfl⟩
    · rfl
    · simp [lenSl,kAs_len]
  simp (maxSteps := 2000000) (discharger := omega) only [xc,xo,xr,x0,x1,x2,x3,x4,x5,x6,xd,xe,xb,kont_call,kont_pure,kont_round,isNil,slOk,sliceV,selems,srcElems,copyTo,dlen,eqAV,eqCells,eqS,wr,place,partVals,partEs,placeEs,mapOf,keyOk,keyCells,findK,Bool.bne_false,Bool.bne_true,List.drop_zero,List.nil_append,List.append_nil,List.take_zero,List.cons_append,List.take_succ_cons,List.drop_succ_cons,List.take_nil,List.drop_nil,Reg.isA,Reg.isV,Reg.stays,Reg.onto,Bool.false_or,Bool.or_false,Bool.false_and,Bool.and_false,Bool.true_and,Bool.and_true,Bool.or_true,Bool.true_or,↓reduceIte,reduceCtorEq,Nat.reduceEqDiff,Nat.reduceLT,Nat.reduceAdd,Nat.reduceMul,Nat.add_zero,Nat.zero_add,Nat.not_lt_zero,Nat.zero_ne_one,Nat.one_ne_zero,Nat.reduceLeDiff,Nat.lt_irrefl,Nat.zero_lt_succ,Bool.false_eq_true,Bool.not_true,Bool.not_false,Option.map_some,Option.map_none,Option.bind_some,Option.getD_some,Option.getD_none,and_self,and_true,true_and,List.length_cons,List.length_nil,List.any_nil,List.any_cons,Int.toNat_natCast,Int.cast_ofNat_Int,Int.natCast_zero,Int.natCast_nonneg,true_implies,or_true,true_or,false_or,or_false,beq_self_eq_true,Option.some.injEq,exists_eq_left',Int.reduceEq,Int.reduceLT,Int.reduceLE,Int.reduceGT,Int.reduceGE,Nat.reduceGT,Int.reduceNeg,Int.reduceToNat,Int.reduceAdd,Int.reduceMul,Int.reduceSub,Int.reducePow,decide_true,decide_false,decide_eq_true_eq,List.getElem?_cons_zero,List.getElem?_cons_succ,Nat.reduceBEq,Nat.reduceSub,exists_false,and_false,false_and,xu,List.set_cons_zero,List.set_cons_succ,wrap_i64,int_lt_t,int_lt_f,int_le_t,int_le_f,int_gt_t,int_gt_f,int_ge_t,int_ge_f,int_eq_t,int_eq_f,int_beq_t,int_beq_f,int_bne_t,int_bne_f,nat_le_t,nat_le_f,Nat.sub_zero,Nat.sub_self,not_false_eq_true,not_true_eq_false,l1,l2]
  refine wpi_loop (fun m r g => ∃ (i : Nat), r = [(0, .val v), (1, .val w), (5, .val (.int .i64 i))] ∧ i ≤ l.length ∧ m = l.length - i ∧ g = h) l.length (by omega) ⟨0, rfl, by omega, by omega, rfl⟩ ?_
  rintro m r g ⟨i, rfl, hi, rfl, rfl⟩
  by_cases hlt : i < l.length
  · obtain ⟨id, post, rfl, q1, _⟩ := hv.row (i := i) (by rw [kAs_len]; exact hlt)
    obtain ⟨c, rfl⟩ : ∃ c, w = .imm 32 (kAs l) c := by
      rcases hw with ⟨rfl, rfl⟩ | h
      · simp at hlt
      · exact h
    have q2 := kAs_get hlt
    have q3 : (kAs l ++ post)[i]? = some (.agg (kCs l[i])) := by rw [List.getElem?_append_left (by rw [kAs_len]; exact hlt)]; exact q2
    obtain ⟨d, hd⟩ : ∃ d, d = l[i] := ⟨_, rfl⟩
    rw [← hd] at q2 q3
    simp (maxSteps := 2000000) (discharger := omega) only [xc,xo,xr,x0,x1,x2,x3,x4,x5,x6,xd,xe,xb,kont_call,kont_pure,kont_round,isNil,slOk,sliceV,selems,srcElems,copyTo,dlen,eqAV,eqCells,eqS,wr,place,partVals,partEs,placeEs,mapOf,keyOk,keyCells,findK,Bool.bne_false,Bool.bne_true,List.drop_zero,List.nil_append,List.append_nil,List.take_zero,List.cons_append,List.take_succ_cons,List.drop_succ_cons,List.take_nil,List.drop_nil,Reg.isA,Reg.isV,Reg.stays,Reg.onto,Bool.false_or,Bool.or_false,Bool.false_and,Bool.and_false,Bool.true_and,Bool.and_true,Bool.or_true,Bool.true_or,↓reduceIte,reduceCtorEq,Nat.reduceEqDiff,Nat.reduceLT,Nat.reduceAdd,Nat.reduceMul,Nat.add_zero,Nat.zero_add,Nat.not_lt_zero,Nat.zero_ne_one,Nat.one_ne_zero,Nat.reduceLeDiff,Nat.lt_irrefl,Nat.zero_lt_succ,Bool.false_eq_true,Bool.not_true,Bool.not_false,Option.map_some,Option.map_none,Option.bind_some,Option.getD_some,Option.getD_none,and_self,and_true,true_and,List.length_cons,List.length_nil,List.any_nil,List.any_cons,Int.toNat_natCast,Int.cast_ofNat_Int,Int.natCast_zero,Int.natCast_nonneg,true_implies,or_true,true_or,false_or,or_false,beq_self_eq_true,Option.some.injEq,exists_eq_left',Int.reduceEq,Int.reduceLT,Int.reduceLE,Int.reduceGT,Int.reduceGE,Nat.reduceGT,Int.reduceNeg,Int.reduceToNat,Int.reduceAdd,Int.reduceMul,Int.reduceSub,Int.reducePow,decide_true,decide_false,decide_eq_true_eq,List.getElem?_cons_zero,List.getElem?_cons_succ,Nat.reduceBEq,Nat.reduceSub,exists_false,and_false,false_and,xu,List.set_cons_zero,List.set_cons_succ,wrap_i64,int_lt_t,int_lt_f,int_le_t,int_le_f,int_gt_t,int_gt_f,int_ge_t,int_ge_f,int_eq_t,int_eq_f,int_beq_t,int_beq_f,int_bne_t,int_bne_f,nat_le_t,nat_le_f,Nat.sub_zero,Nat.sub_self,not_false_eq_true,not_true_eq_false,l1,l2,q1,q2,q3,kCs_take,kCs_drop,kCs_len,kCs_eq,kAs_len]
    exact ⟨l.length - (i + 1), by omega, i + 1, rfl, by omega, rfl⟩
  · obtain rfl : i = l.length := by omega
    simp (maxSteps := 2000000) (discharger := omega) only [xc,xo,xr,x0,x1,x2,x3,x4,x5,x6,xd,xe,xb,kont_call,kont_pure,kont_round,isNil,slOk,sliceV,selems,srcElems,copyTo,dlen,eqAV,eqCells,eqS,wr,place,partVals,partEs,placeEs,mapOf,keyOk,keyCells,findK,Bool.bne_false,Bool.bne_true,List.drop_zero,List.nil_append,List.append_nil,List.take_zero,List.cons_append,List.take_succ_cons,List.drop_succ_cons,List.take_nil,List.drop_nil,Reg.isA,Reg.isV,Reg.stays,Reg.onto,Bool.false_or,Bool.or_false,Bool.false_and,Bool.and_false,Bool.true_and,Bool.and_true,Bool.or_true,Bool.true_or,↓reduceIte,reduceCtorEq,Nat.reduceEqDiff,Nat.reduceLT,Nat.reduceAdd,Nat.reduceMul,Nat.add_zero,Nat.zero_add,Nat.not_lt_zero,Nat.zero_ne_one,Nat.one_ne_zero,Nat.reduceLeDiff,Nat.lt_irrefl,Nat.zero_lt_succ,Bool.false_eq_true,Bool.not_true,Bool.not_false,Option.map_some,Option.map_none,Option.bind_some,Option.getD_some,Option.getD_none,and_self,and_true,true_and,List.length_cons,List.length_nil,List.any_nil,List.any_cons,Int.toNat_natCast,Int.cast_ofNat_Int,Int.natCast_zero,Int.natCast_nonneg,true_implies,or_true,true_or,false_or,or_false,beq_self_eq_true,Option.some.injEq,exists_eq_left',Int.reduceEq,Int.reduceLT,Int.reduceLE,Int.reduceGT,Int.reduceGE,Nat.reduceGT,Int.reduceNeg,Int.reduceToNat,Int.reduceAdd,Int.reduceMul,Int.reduceSub,Int.reducePow,decide_true,decide_false,decide_eq_true_eq,List.getElem?_cons_zero,List.getElem?_cons_succ,Nat.reduceBEq,Nat.reduceSub,exists_false,and_false,false_and,xu,List.set_cons_zero,List.set_cons_succ,wrap_i64,int_lt_t,int_lt_f,int_le_t,int_le_f,int_gt_t,int_gt_f,int_ge_t,int_ge_f,int_eq_t,int_eq_f,int_beq_t,int_beq_f,int_bne_t,int_bne_f,nat_le_t,nat_le_f,Nat.sub_zero,Nat.sub_self,not_false_eq_true,not_true_eq_false,l1,l2]

def ltC (s : List Int) (x y : Ch) : Bool := decide (al y.2 s 8 < al x.2 s 8) || (decide (al x.2 s 8 = al y.2 s 8) && decide (x.1 < y.1))
def ins (pre : List Ch) (c : Ch) (j : Nat) : List Ch := pre.take j ++ c :: pre.drop j

theorem ins_len (pre : List Ch) (c : Ch) (j : Nat) : (ins pre c j).length = pre.length + 1 := by
  simp [ins]; omega
theorem ins_get {pre : List Ch} {c : Ch} {j : Nat} (h : j ≤ pre.length) : (cAs (ins pre c j))[j]? = some (.agg (cC c)) := by
  simp [ins,cAs,List.getElem?_append_right,h]
theorem ins_prev {pre : List Ch} {c : Ch} {j : Nat} (h : j < pre.length) : (cAs (ins pre c (j + 1)))[j]? = some (.agg (cC pre[j])) := by
  have : (cAs (ins pre c (j + 1)))[j]? = (cAs pre)[j]? := by
    simp only [ins,cAs,List.map_append,List.map_take]
    rw [List.getElem?_append_left (by simp; omega), List.getElem?_take]
    simp
  rw [this]; exact cAs_get h
theorem ins_swap {pre : List Ch} {c : Ch} {j : Nat} (post : List AV) (h : j < pre.length) : (((cAs (ins pre c (j + 1)) ++ post).set j (.agg (cC c))).set (j + 1) (.agg (cC pre[j]))) = cAs (ins pre c j) ++ post := by
  have e1 : pre.take (j + 1) = pre.take j ++ [pre[j]] := List.take_succ_eq_append_getElem h
  have e2 : pre.drop j = pre[j] :: pre.drop (j + 1) := List.drop_eq_getElem_cons h
  have hl : (cAs (pre.take j)).length = j := by rw [cAs_len, List.length_take]; omega
  have e3 : cAs (ins pre c (j + 1)) ++ post = cAs (pre.take j) ++ (.agg (cC pre[j]) :: .agg (cC c) :: (cAs (pre.drop (j + 1)) ++ post)) := by
    rw [ins, e1]
    simp only [cAs,List.map_append,List.map_cons,List.map_nil,List.append_assoc,List.cons_append,List.nil_append]
  have e4 : cAs (ins pre c j) ++ post = cAs (pre.take j) ++ (.agg (cC c) :: .agg (cC pre[j]) :: (cAs (pre.drop (j + 1)) ++ post)) := by
    rw [ins, e2]
    simp only [cAs,List.map_append,List.map_cons,List.map_nil,List.append_assoc,List.cons_append,List.nil_append]
  rw [e3, e4, List.set_append_right _ _ (by omega), hl, Nat.sub_self, List.set_append_right _ _ (by omega), hl]
  simp
theorem ins_perm (pre : List Ch) (c : Ch) (j : Nat) : (ins pre c j).Perm (pre ++ [c]) := by
  have h1 : (ins pre c j).Perm (c :: (pre.take j ++ pre.drop j)) := List.perm_middle
  rw [List.take_append_drop] at h1
  exact h1.trans (List.perm_append_singleton c pre).symm
theorem ltC_trans (s : List Int) {x y z : Ch} (h1 : ltC s x y = true) (h2 : ltC s y z = true) : ltC s x z = true := by
  simp [ltC] at *; omega
theorem ltC_asymm (s : List Int) {x y : Ch} (h1 : ltC s x y = true) : ltC s y x = false := by
  simp [ltC] at *; omega

theorem ins_sorted {s : List Int} {pre : List Ch} {c : Ch} {j : Nat} (hp : pre.Pairwise fun x y => ltC s y x = false) (hd : ∀ x ∈ pre.drop j, ltC s x c = false) (hj : j = 0 ∨ ∃ h : j - 1 < pre.length, 0 < j ∧ ltC s pre[j - 1] c = true) :
    (ins pre c j).Pairwise fun x y => ltC s y x = false := by
  have hp' : (pre.take j ++ pre.drop j).Pairwise fun x y => ltC s y x = false := by rw [List.take_append_drop]; exact hp
  obtain ⟨p1, p2, p3⟩ := List.pairwise_append.1 hp'
  refine List.pairwise_append.2 ⟨p1, List.pairwise_cons.2 ⟨hd, p2⟩, fun x hx y hy => ?_⟩
  rcases List.mem_cons.1 hy with rfl | hy
  · rcases hj with rfl | ⟨h, h0, h1⟩
    · simp at hx
    · obtain ⟨i, hi, rfl⟩ := List.getElem_of_mem hx
      rw [List.length_take] at hi
      rw [List.getElem_take]
      by_cases e : i = j - 1
      · subst e; exact ltC_asymm s h1
      · have h2 := (List.pairwise_iff_getElem.1 hp) i (j - 1) (by omega) h (by omega)
        cases h3 : ltC s y pre[i] with
        | false => rfl
        | true => rw [ltC_trans s h1 h3] at h2; cases h2
  · exact p3 x hx y hy

set_option maxRecDepth 20000 in
set_option maxHeartbeats 2000000 in
theorem c21 {tot : Bool} {ω : Nat → Nat} {n : Nat} (v : AV) (s : List Int) (least : Int) (l : List Ch) (h : Hp) (hv : v = .nils ∧ l = [] ∨ ∃ c, v = .imm 40 (cAs l) c) (h8 : ∀ c ∈ l, c.2.length = 8) (hs8 : s.length = 8) (hl : l.length ≤ 1000) (hn : 1101 < n) :
    ∃ v' h' srt, call F n tot ω 21 [v, .agg (intsOf .u32 s), .int .i64 least] h = some (v', h') ∧ (v' = .nils ∧ srt = [] ∨ ∃ c, v' = .imm 32 (kAs (srt.map (·.1))) c) ∧ keeps h h' ∧ KT h h' ∧ srt.Perm (l.filter fun c => decide (least ≤ (al c.2 s 8 : Int))) ∧ srt.Pairwise (fun x y => ltC s y x = false) := by
  obtain ⟨n, rfl⟩ : ∃ m, n = m + 1 := ⟨n - 1, by omega⟩
  suffices hx : ∃ v' h', call F (n + 1) tot ω 21 [v, .agg (intsOf .u32 s), .int .i64 least] h = some (v', h') ∧ ∃ srt : List Ch, (v' = .nils ∧ srt = [] ∨ ∃ c, v' = .imm 32 (kAs (srt.map (·.1))) c) ∧ keeps h h' ∧ KT h h' ∧ srt.Perm (l.filter fun c => decide (least ≤ (al c.2 s 8 : Int))) ∧ srt.Pairwise (fun x y => ltC s y x = false) by
    obtain ⟨v', h', e1, srt, e2⟩ := hx
    exact ⟨v', h', srt, e1, e2⟩
  refine call_of (fn := a21) f21 (P := fun v' h' => ∃ srt : List Ch, (v' = .nils ∧ srt = [] ∨ ∃ c, v' = .imm 32 (kAs (srt.map (·.1))) c) ∧ keeps h h' ∧ KT h h' ∧ srt.Perm (l.filter fun c => decide (least ≤ (al c.2 s 8 : Int))) ∧ srt.Pairwise (fun x y => ltC s y x = false)) ?_
  unfold a21
  have hi8 : (intsOf .u32 s).length = 8 := by simp [intsOf,hs8]
  have ht8 : (intsOf .u32 s).take 8 = intsOf .u32 s := List.take_of_length_le (by omega)
  have hd8 : (intsOf .u32 s).drop 8 = [] := List.drop_of_length_le (by omega)
  have lv : lenSl v = some l.length := by
    rcases hv with ⟨rfl, rfl⟩ | ⟨c, rfl⟩
    · rfl
    · simp [lenSl,cAs_len]
  have pls := ints_plain .u32 s
  simp (maxSteps := 2000000) (discharger := omega) only [xc,xo,xr,x0,x1,x2,x3,x4,x5,x6,xd,xe,xb,kont_call,kont_pure,kont_round,isNil,slOk,sliceV,selems,srcElems,copyTo,dlen,eqAV,eqCells,eqS,wr,place,partVals,partEs,placeEs,mapOf,keyOk,keyCells,findK,Bool.bne_false,Bool.bne_true,List.drop_zero,List.nil_append,List.append_nil,List.take_zero,List.cons_append,List.take_succ_cons,List.drop_succ_cons,List.take_nil,List.drop_nil,Reg.isA,Reg.isV,Reg.stays,Reg.onto,Bool.false_or,Bool.or_false,Bool.false_and,Bool.and_false,Bool.true_and,Bool.and_true,Bool.or_true,Bool.true_or,↓reduceIte,reduceCtorEq,Nat.reduceEqDiff,Nat.reduceLT,Nat.reduceAdd,Nat.reduceMul,Nat.add_zero,Nat.zero_add,Nat.not_lt_zero,Nat.zero_ne_one,Nat.one_ne_zero,Nat.reduceLeDiff,Nat.lt_irrefl,Nat.zero_lt_succ,Bool.false_eq_true,Bool.not_true,Bool.not_false,Option.map_some,Option.map_none,Option.bind_some,Option.getD_some,Option.getD_none,and_self,and_true,true_and,List.length_cons,List.length_nil,List.any_nil,List.any_cons,Int.toNat_natCast,Int.cast_ofNat_Int,Int.natCast_zero,Int.natCast_nonneg,true_implies,or_true,true_or,false_or,or_false,beq_self_eq_true,Option.some.injEq,exists_eq_left',Int.reduceEq,Int.reduceLT,Int.reduceLE,Int.reduceGT,Int.reduceGE,Nat.reduceGT,Int.reduceNeg,Int.reduceToNat,Int.reduceAdd,Int.reduceMul,Int.reduceSub,Int.reducePow,decide_true,decide_false,decide_eq_true_eq,List.getElem?_cons_zero,List.getElem?_cons_succ,Nat.reduceBEq,Nat.reduceSub,exists_false,and_false,false_and,xu,List.set_cons_zero,List.set_cons_succ,wrap_i64,int_lt_t,int_lt_f,int_le_t,int_le_f,int_gt_t,int_gt_f,int_ge_t,int_ge_f,int_eq_t,int_eq_f,int_beq_t,int_beq_f,int_bne_t,int_bne_f,nat_le_t,nat_le_f,Nat.sub_zero,Nat.sub_self,not_false_eq_true,not_true_eq_false,hi8,ht8,hd8]
  refine wpi_loop (fun m r g => ∃ (i : Nat) (o : AV) (srt : List Ch), r = [(0, .val v), (2, .val (.int .i64 least)), (4, .var (.agg (intsOf .u32 s))), (7, .val o), (8, .val (.int .i64 i))] ∧ i ≤ l.length ∧ m = l.length - i ∧ RowAt g 40 h.length (cAs srt) o ∧ KeepR h.length 40 h g ∧
    srt.Perm ((l.take i).filter fun c => decide (least ≤ (al c.2 s 8 : Int))) ∧ srt.Pairwise (fun x y => ltC s y x = false)) l.length (by omega) ⟨0, .nils, [], rfl, by omega, by omega, .nils, .refl, .refl _, by simp⟩ ?_
  rintro m r g ⟨i, o, srt, rfl, hi, rfl, ro, kr, pm, pw⟩
  by_cases hlt : i < l.length
  · obtain ⟨c, rfl⟩ : ∃ c, v = .imm 40 (cAs l) c := by
      rcases hv with ⟨rfl, rfl⟩ | h
      · simp at hlt
      · exact h
    have q1 := cAs_get hlt
    have c8 := h8 _ (List.getElem_mem hlt)
    have htk : l.take (i + 1) = l.take i ++ [l[i]] := List.take_succ_eq_append_getElem hlt
    obtain ⟨d, hd⟩ : ∃ d, d = l[i] := ⟨_, rfl⟩
    rw [← hd] at q1 c8 htk
    have q2 := cC_len c8
    have q3 := cC_t40 c8
    have q4 := cC_d40 c8
    have q5 := cC_d32 d
    have hi8d : (intsOf .u32 d.2).length = 8 := by simp [intsOf,c8]
    have ht8d : (intsOf .u32 d.2).take 8 = intsOf .u32 d.2 := List.take_of_length_le (by omega)
    have pld := ints_plain .u32 d.2
    have e12 := c12 (tot := false) (ω := fun _ => 0) (n := n) (by omega) d.2 s [] c8 hs8
    have hal := al_le d.2 s 8
    have hsl : srt.length ≤ 1000 := by
      have := pm.length_eq
      have h2 := List.length_filter_le (fun c : Ch => decide (least ≤ (al c.2 s 8 : Int))) (l.take i)
      rw [List.length_take] at h2
      omega
    have hfl : (l.take (i + 1)).filter (fun c => decide (least ≤ (al c.2 s 8 : Int))) = (l.take i).filter (fun c => decide (least ≤ (al c.2 s 8 : Int))) ++ if least ≤ (al d.2 s 8 : Int) then [d] else [] := by
      rw [htk, List.filter_append]
      by_cases h : least ≤ (al d.2 s 8 : Int) <;> simp [h]
    by_cases hle : least ≤ (al d.2 s 8 : Int)
    · rw [if_pos hle] at hfl
      obtain ⟨gA, hgA⟩ : ∃ gA, gA = g ++ [AO.row 40 [.agg (cC d)]] := ⟨_, rfl⟩
      have rA : gA[g.length]? = some (.row 40 [.agg (cC d)]) := by rw [hgA]; simp
      have krA : KeepR h.length 40 h gA := by rw [hgA]; exact kr.trans (.app _)
      obtain ⟨v', g2, a1, a2, a3⟩ := row_app (bytes := 64) (x := .agg (cC d)) (h := gA) (by rw [hgA]; exact ro.more) (by rw [cAs_len]; omega) (by have := krA.1; exact this)
      have nt := ro.notTup
      have a4 := a2.len
      have kr2 := krA.trans a3
      rw [← cAs_snoc] at a2
      obtain ⟨id, post, rfl, b1, b2⟩ := a2.row (i := 0) (by rw [cAs_len]; simp)
      have hcl : (cAs (srt ++ [d])).length = srt.length + 1 := by rw [cAs_len]; simp
      rw [hcl] at a1
      have hm : ((srt.length + 1 : Nat) : Int) - 1 = srt.length := by omega
      have a5 : ∀ m : Nat, lenSl (.row id 40 0 m false) = some m := fun m => rfl
      have b1' : g2[id]? = some (.row 40 (cAs (ins srt d srt.length) ++ post)) := by rw [b1]; simp [ins]
      have hsr : ∀ x ∈ srt, x.2.length = 8 := fun x hx => h8 x (List.mem_of_mem_take (List.mem_filter.1 (pm.mem_iff.1 hx)).1)
      have fin : ∀ (j : Nat) (g3 : Hp), j ≤ srt.length → g3[id]? = some (.row 40 (cAs (ins srt d j) ++ post)) → (∀ x ∈ srt.drop j, ltC s x d = false) → KeepR h.length 40 h g3 → (j = 0 ∨ ∃ h : j - 1 < srt.length, 0 < j ∧ ltC s srt[j - 1] d = true) →
          RowAt g3 40 h.length (cAs (ins srt d j)) (.row id 40 0 (srt.length + 1) false) ∧ KeepR h.length 40 h g3 ∧ (ins srt d j).Perm ((l.take (i + 1)).filter fun c => decide (least ≤ (al c.2 s 8 : Int))) ∧ (ins srt d j).Pairwise (fun x y => ltC s y x = false) := fun j g3 hj k1 k2 k3 k4 => by
        refine ⟨.inr ⟨id, post, by rw [cAs_len, ins_len], k1, b2⟩, k3, ?_, ins_sorted pw k2 k4⟩
        rw [hfl]
        exact (ins_perm srt d j).trans (pm.append_right _)
      simp (maxSteps := 2000000) (discharger := omega) only [xc,xo,xr,x0,x1,x2,x3,x4,x5,x6,xd,xe,xb,kont_call,kont_pure,kont_round,isNil,slOk,sliceV,selems,srcElems,copyTo,dlen,eqAV,eqCells,eqS,wr,place,partVals,partEs,placeEs,mapOf,keyOk,keyCells,findK,Bool.bne_false,Bool.bne_true,List.drop_zero,List.nil_append,List.append_nil,List.take_zero,List.cons_append,List.take_succ_cons,List.drop_succ_cons,List.take_nil,List.drop_nil,Reg.isA,Reg.isV,Reg.stays,Reg.onto,Bool.false_or,Bool.or_false,Bool.false_and,Bool.and_false,Bool.true_and,Bool.and_true,Bool.or_true,Bool.true_or,↓reduceIte,reduceCtorEq,Nat.reduceEqDiff,Nat.reduceLT,Nat.reduceAdd,Nat.reduceMul,Nat.add_zero,Nat.zero_add,Nat.not_lt_zero,Nat.zero_ne_one,Nat.one_ne_zero,Nat.reduceLeDiff,Nat.lt_irrefl,Nat.zero_lt_succ,Bool.false_eq_true,Bool.not_true,Bool.not_false,Option.map_some,Option.map_none,Option.bind_some,Option.getD_some,Option.getD_none,and_self,and_true,true_and,List.length_cons,List.length_nil,List.any_nil,List.any_cons,Int.toNat_natCast,Int.cast_ofNat_Int,Int.natCast_zero,Int.natCast_nonneg,true_implies,or_true,true_or,false_or,or_false,beq_self_eq_true,Option.some.injEq,exists_eq_left',Int.reduceEq,Int.reduceLT,Int.reduceLE,Int.reduceGT,Int.reduceGE,Nat.reduceGT,Int.reduceNeg,Int.reduceToNat,Int.reduceAdd,Int.reduceMul,Int.reduceSub,Int.reducePow,decide_true,decide_false,decide_eq_true_eq,List.getElem?_cons_zero,List.getElem?_cons_succ,Nat.reduceBEq,Nat.reduceSub,exists_false,and_false,false_and,xu,List.set_cons_zero,List.set_cons_succ,wrap_i64,int_lt_t,int_lt_f,int_le_t,int_le_f,int_gt_t,int_gt_f,int_ge_t,int_ge_f,int_eq_t,int_eq_f,int_beq_t,int_beq_f,int_bne_t,int_bne_f,nat_le_t,nat_le_f,Nat.sub_zero,Nat.sub_self,not_false_eq_true,not_true_eq_false,lv,q1,q2,q3,q4,q5,hi8,ht8,hd8,hi8d,ht8d,pld,pls,plains,plain,e12,← hgA,rA,List.replicate_succ,List.replicate_zero,a1,a5,hm]
      refine wpi_loop (fun m r g3 => ∃ (j : Nat), r = [(0, .val (.imm 40 (cAs l) c)), (2, .val (.int .i64 least)), (4, .var (.agg (intsOf .u32 s))), (7, .val (.row id 40 0 (srt.length + 1) false)), (8, .val (.int .i64 i)), (9, .val (.int .i64 j))] ∧ j ≤ srt.length ∧ m = j ∧ g3[id]? = some (.row 40 (cAs (ins srt d j) ++ post)) ∧ (∀ x ∈ srt.drop j, ltC s x d = false) ∧ KeepR h.length 40 h g3) srt.length (by omega) ⟨srt.length, rfl, Nat.le_refl _, rfl, b1', by simp, kr2⟩ ?_
      rintro m r g3 ⟨j, rfl, hj, rfl, r1, r2, r3⟩
      by_cases h0 : 0 < m
      · obtain ⟨j, rfl⟩ : ∃ j, m = j + 1 := ⟨m - 1, by omega⟩
        have hjs : j < srt.length := by omega
        obtain ⟨x, hx⟩ : ∃ x, x = srt[j] := ⟨_, rfl⟩
        have x8 : x.2.length = 8 := by rw [hx]; exact hsr _ (List.getElem_mem _)
        have u1 : (cAs (ins srt d (j + 1)) ++ post)[j]? = some (.agg (cC x)) := by
          rw [List.getElem?_append_left (by rw [cAs_len, ins_len]; omega), hx]; exact ins_prev hjs
        have u2 : (cAs (ins srt d (j + 1)) ++ post)[j + 1]? = some (.agg (cC d)) := by
          rw [List.getElem?_append_left (by rw [cAs_len, ins_len]; omega)]; exact ins_get hj
        have u3 := ins_swap (c := d) post hjs
        rw [← hx] at u3
        have hjm : ((j + 1 : Nat) : Int) - 1 = (j : Int) := by omega
        have f := fin
        have p2 := cC_len x8
        have p3 := cC_t40 x8
        have p4 := cC_d40 x8
        have p5 := cC_d32 x
        have p6 := cC_t32 x
        have d6 := cC_t32 d
        have hi8x : (intsOf .u32 x.2).length = 8 := by simp [intsOf,x8]
        have ht8x : (intsOf .u32 x.2).take 8 = intsOf .u32 x.2 := List.take_of_length_le (by omega)
        have plx := ints_plain .u32 x.2
        have e12x := c12 (tot := false) (ω := fun _ => 0) (n := n) (by omega) x.2 s [] x8 hs8
        have e30 := c30 (tot := false) (ω := fun _ => 0) (n := n) (by omega) x.1 d.1 []
        have halx := al_le x.2 s 8
        have hlx : (cAs (ins srt d (j + 1)) ++ post).length = srt.length + 1 + post.length := by rw [List.length_append, cAs_len, ins_len]
        have hset : j < (cAs (ins srt d (j + 1)) ++ post).length := by omega
        have hset2 : j + 1 < (cAs (ins srt d (j + 1)) ++ post).length := by omega
        have stop : ltC s x d = true → RowAt g3 40 h.length (cAs (ins srt d (j + 1))) (.row id 40 0 (srt.length + 1) false) ∧ KeepR h.length 40 h g3 ∧ (ins srt d (j + 1)).Perm ((l.take (i + 1)).filter fun c => decide (least ≤ (al c.2 s 8 : Int))) ∧ (ins srt d (j + 1)).Pairwise (fun x y => ltC s y x = false) := fun k => fin (j + 1) g3 hj r1 r2 r3 (.inr ⟨by simpa using hjs, by omega, by rw [hx] at k; exact k⟩)
        by_cases c1 : al d.2 s 8 < al x.2 s 8
        · obtain ⟨s1, s2, s3, s4⟩ := stop (by simp [ltC,c1])
          simp (maxSteps := 2000000) (discharger := omega) only [xc,xo,xr,x0,x1,x2,x3,x4,x5,x6,xd,xe,xb,kont_call,kont_pure,kont_round,isNil,slOk,sliceV,selems,srcElems,copyTo,dlen,eqAV,eqCells,eqS,wr,place,partVals,partEs,placeEs,mapOf,keyOk,keyCells,findK,Bool.bne_false,Bool.bne_true,List.drop_zero,List.nil_append,List.append_nil,List.take_zero,List.cons_append,List.take_succ_cons,List.drop_succ_cons,List.take_nil,List.drop_nil,Reg.isA,Reg.isV,Reg.stays,Reg.onto,Bool.false_or,Bool.or_false,Bool.false_and,Bool.and_false,Bool.true_and,Bool.and_true,Bool.or_true,Bool.true_or,↓reduceIte,reduceCtorEq,Nat.reduceEqDiff,Nat.reduceLT,Nat.reduceAdd,Nat.reduceMul,Nat.add_zero,Nat.zero_add,Nat.not_lt_zero,Nat.zero_ne_one,Nat.one_ne_zero,Nat.reduceLeDiff,Nat.lt_irrefl,Nat.zero_lt_succ,Bool.false_eq_true,Bool.not_true,Bool.not_false,Option.map_some,Option.map_none,Option.bind_some,Option.getD_some,Option.getD_none,and_self,and_true,true_and,List.length_cons,List.length_nil,List.any_nil,List.any_cons,Int.toNat_natCast,Int.cast_ofNat_Int,Int.natCast_zero,Int.natCast_nonneg,true_implies,or_true,true_or,false_or,or_false,beq_self_eq_true,Option.some.injEq,exists_eq_left',Int.reduceEq,Int.reduceLT,Int.reduceLE,Int.reduceGT,Int.reduceGE,Nat.reduceGT,Int.reduceNeg,Int.reduceToNat,Int.reduceAdd,Int.reduceMul,Int.reduceSub,Int.reducePow,decide_true,decide_false,decide_eq_true_eq,List.getElem?_cons_zero,List.getElem?_cons_succ,Nat.reduceBEq,Nat.reduceSub,exists_false,and_false,false_and,xu,List.set_cons_zero,List.set_cons_succ,wrap_i64,int_lt_t,int_lt_f,int_le_t,int_le_f,int_gt_t,int_gt_f,int_ge_t,int_ge_f,int_eq_t,int_eq_f,int_beq_t,int_beq_f,int_bne_t,int_bne_f,nat_le_t,nat_le_f,Nat.sub_zero,Nat.sub_self,not_false_eq_true,not_true_eq_false,hjm,r1,u1,u2,p2,p3,p4,p5,p6,q2,q3,q4,q5,d6,hi8,ht8,hd8,hi8x,ht8x,hi8d,ht8d,plx,pld,pls,kCs_plain,plains,plain,e12,e12x,e30]
          exact ⟨l.length - (i + 1), by omega, i + 1, _, ins srt d (j + 1), rfl, by omega, rfl, s1, s2, s3, s4⟩
        · have hidl : id < g3.length := (List.getElem?_eq_some_iff.1 r1).1
          obtain ⟨gB, hgB⟩ : ∃ gB, gB = g3.set id (.row 40 ((cAs (ins srt d (j + 1)) ++ post).set j (.agg (cC d)))) := ⟨_, rfl⟩
          have rB : gB[id]? = some (.row 40 ((cAs (ins srt d (j + 1)) ++ post).set j (.agg (cC d)))) := by rw [hgB]; simp [hidl]
          obtain ⟨gC, hgC⟩ : ∃ gC, gC = gB.set id (.row 40 (cAs (ins srt d j) ++ post)) := ⟨_, rfl⟩
          have rC : gC[id]? = some (.row 40 (cAs (ins srt d j) ++ post)) := by rw [hgC, hgB]; simp [hidl]
          have kC : KeepR h.length 40 h gC := by
            rw [hgC, hgB, List.set_set]
            exact r3.trans (.set r1 b2)
          have dC : ltC s x d = false → ∀ y ∈ srt.drop j, ltC s y d = false := fun k y hy => by
            rw [List.drop_eq_getElem_cons hjs] at hy
            rcases List.mem_cons.1 hy with rfl | hy
            · rw [hx] at k; exact k
            · exact r2 y hy
          have u4 : ((cAs (ins srt d (j + 1)) ++ post).set j (.agg (cC d)))[j + 1]? = some (.agg (cC d)) := by
            rw [List.getElem?_set, if_neg (by omega)]; exact u2
          by_cases c2 : al x.2 s 8 = al d.2 s 8
          · by_cases c3 : x.1 < d.1
            · obtain ⟨s1, s2, s3, s4⟩ := stop (by simp [ltC,c2,c3])
              simp (maxSteps := 2000000) (discharger := omega) only [xc,xo,xr,x0,x1,x2,x3,x4,x5,x6,xd,xe,xb,kont_call,kont_pure,kont_round,isNil,slOk,sliceV,selems,srcElems,copyTo,dlen,eqAV,eqCells,eqS,wr,place,partVals,partEs,placeEs,mapOf,keyOk,keyCells,findK,Bool.bne_false,Bool.bne_true,List.drop_zero,List.nil_append,List.append_nil,List.take_zero,List.cons_append,List.take_succ_cons,List.drop_succ_cons,List.take_nil,List.drop_nil,Reg.isA,Reg.isV,Reg.stays,Reg.onto,Bool.false_or,Bool.or_false,Bool.false_and,Bool.and_false,Bool.true_and,Bool.and_true,Bool.or_true,Bool.true_or,↓reduceIte,reduceCtorEq,Nat.reduceEqDiff,Nat.reduceLT,Nat.reduceAdd,Nat.reduceMul,Nat.add_zero,Nat.zero_add,Nat.not_lt_zero,Nat.zero_ne_one,Nat.one_ne_zero,Nat.reduceLeDiff,Nat.lt_irrefl,Nat.zero_lt_succ,Bool.false_eq_true,Bool.not_true,Bool.not_false,Option.map_some,Option.map_none,Option.bind_some,Option.getD_some,Option.getD_none,and_self,and_true,true_and,List.length_cons,List.length_nil,List.any_nil,List.any_cons,Int.toNat_natCast,Int.cast_ofNat_Int,Int.natCast_zero,Int.natCast_nonneg,true_implies,or_true,true_or,false_or,or_false,beq_self_eq_true,Option.some.injEq,exists_eq_left',Int.reduceEq,Int.reduceLT,Int.reduceLE,Int.reduceGT,Int.reduceGE,Nat.reduceGT,Int.reduceNeg,Int.reduceToNat,Int.reduceAdd,Int.reduceMul,Int.reduceSub,Int.reducePow,decide_true,decide_false,decide_eq_true_eq,List.getElem?_cons_zero,List.getElem?_cons_succ,Nat.reduceBEq,Nat.reduceSub,exists_false,and_false,false_and,xu,List.set_cons_zero,List.set_cons_succ,wrap_i64,int_lt_t,int_lt_f,int_le_t,int_le_f,int_gt_t,int_gt_f,int_ge_t,int_ge_f,int_eq_t,int_eq_f,int_beq_t,int_beq_f,int_bne_t,int_bne_f,nat_le_t,nat_le_f,Nat.sub_zero,Nat.sub_self,not_false_eq_true,not_true_eq_false,hjm,r1,u1,u2,p2,p3,p4,p5,p6,q2,q3,q4,q5,d6,hi8,ht8,hd8,hi8x,ht8x,hi8d,ht8d,plx,pld,pls,kCs_plain,plains,plain,e12,e12x,e30,c3]
              exact ⟨l.length - (i + 1), by omega, i + 1, _, ins srt d (j + 1), rfl, by omega, rfl, s1, s2, s3, s4⟩
            · have dC := dC (by simp [ltC,c1,c3])
              simp (maxSteps := 2000000) (discharger := omega) only [xc,xo,xr,x0,x1,x2,x3,x4,x5,x6,xd,xe,xb,kont_call,kont_pure,kont_round,isNil,slOk,sliceV,selems,srcElems,copyTo,dlen,eqAV,eqCells,eqS,wr,place,partVals,partEs,placeEs,mapOf,keyOk,keyCells,findK,Bool.bne_false,Bool.bne_true,List.drop_zero,List.nil_append,List.append_nil,List.take_zero,List.cons_append,List.take_succ_cons,List.drop_succ_cons,List.take_nil,List.drop_nil,Reg.isA,Reg.isV,Reg.stays,Reg.onto,Bool.false_or,Bool.or_false,Bool.false_and,Bool.and_false,Bool.true_and,Bool.and_true,Bool.or_true,Bool.true_or,↓reduceIte,reduceCtorEq,Nat.reduceEqDiff,Nat.reduceLT,Nat.reduceAdd,Nat.reduceMul,Nat.add_zero,Nat.zero_add,Nat.not_lt_zero,Nat.zero_ne_one,Nat.one_ne_zero,Nat.reduceLeDiff,Nat.lt_irrefl,Nat.zero_lt_succ,Bool.false_eq_true,Bool.not_true,Bool.not_false,Option.map_some,Option.map_none,Option.bind_some,Option.getD_some,Option.getD_none,and_self,and_true,true_and,List.length_cons,List.length_nil,List.any_nil,List.any_cons,Int.toNat_natCast,Int.cast_ofNat_Int,Int.natCast_zero,Int.natCast_nonneg,true_implies,or_true,true_or,false_or,or_false,beq_self_eq_true,Option.some.injEq,exists_eq_left',Int.reduceEq,Int.reduceLT,Int.reduceLE,Int.reduceGT,Int.reduceGE,Nat.reduceGT,Int.reduceNeg,Int.reduceToNat,Int.reduceAdd,Int.reduceMul,Int.reduceSub,Int.reducePow,decide_true,decide_false,decide_eq_true_eq,List.getElem?_cons_zero,List.getElem?_cons_succ,Nat.reduceBEq,Nat.reduceSub,exists_false,and_false,false_and,xu,List.set_cons_zero,List.set_cons_succ,wrap_i64,int_lt_t,int_lt_f,int_le_t,int_le_f,int_gt_t,int_gt_f,int_ge_t,int_ge_f,int_eq_t,int_eq_f,int_beq_t,int_beq_f,int_bne_t,int_bne_f,nat_le_t,nat_le_f,Nat.sub_zero,Nat.sub_self,not_false_eq_true,not_true_eq_false,hjm,r1,u1,u2,p2,p3,p4,p5,p6,q2,q3,q4,q5,d6,hi8,ht8,hd8,hi8x,ht8x,hi8d,ht8d,plx,pld,pls,kCs_plain,plains,plain,e12,e12x,e30,c3,← hgB,rB,u3,u4,← hgC,List.length_set]
              exact ⟨j, by omega, j, rfl, by omega, rfl, rC, dC, kC⟩
          · have dC := dC (by simp [ltC,c1,c2])
            simp (maxSteps := 2000000) (discharger := omega) only [xc,xo,xr,x0,x1,x2,x3,x4,x5,x6,xd,xe,xb,kont_call,kont_pure,kont_round,isNil,slOk,sliceV,selems,srcElems,copyTo,dlen,eqAV,eqCells,eqS,wr,place,partVals,partEs,placeEs,mapOf,keyOk,keyCells,findK,Bool.bne_false,Bool.bne_true,List.drop_zero,List.nil_append,List.append_nil,List.take_zero,List.cons_append,List.take_succ_cons,List.drop_succ_cons,List.take_nil,List.drop_nil,Reg.isA,Reg.isV,Reg.stays,Reg.onto,Bool.false_or,Bool.or_false,Bool.false_and,Bool.and_false,Bool.true_and,Bool.and_true,Bool.or_true,Bool.true_or,↓reduceIte,reduceCtorEq,Nat.reduceEqDiff,Nat.reduceLT,Nat.reduceAdd,Nat.reduceMul,Nat.add_zero,Nat.zero_add,Nat.not_lt_zero,Nat.zero_ne_one,Nat.one_ne_zero,Nat.reduceLeDiff,Nat.lt_irrefl,Nat.zero_lt_succ,Bool.false_eq_true,Bool.not_true,Bool.not_false,Option.map_some,Option.map_none,Option.bind_some,Option.getD_some,Option.getD_none,and_self,and_true,true_and,List.length_cons,List.length_nil,List.any_nil,List.any_cons,Int.toNat_natCast,Int.cast_ofNat_Int,Int.natCast_zero,Int.natCast_nonneg,true_implies,or_true,true_or,false_or,or_false,beq_self_eq_true,Option.some.injEq,exists_eq_left',Int.reduceEq,Int.reduceLT,Int.reduceLE,Int.reduceGT,Int.reduceGE,Nat.reduceGT,Int.reduceNeg,Int.reduceToNat,Int.reduceAdd,Int.reduceMul,Int.reduceSub,Int.reducePow,decide_true,decide_false,decide_eq_true_eq,List.getElem?_cons_zero,List.getElem?_cons_succ,Nat.reduceBEq,Nat.reduceSub,exists_false,and_false,false_and,xu,List.set_cons_zero,List.set_cons_succ,wrap_i64,int_lt_t,int_lt_f,int_le_t,int_le_f,int_gt_t,int_gt_f,int_ge_t,int_ge_f,int_eq_t,int_eq_f,int_beq_t,int_beq_f,int_bne_t,int_bne_f,nat_le_t,nat_le_f,Nat.sub_zero,Nat.sub_self,not_false_eq_true,not_true_eq_false,hjm,r1,u1,u2,p2,p3,p4,p5,p6,q2,q3,q4,q5,d6,hi8,ht8,hd8,hi8x,ht8x,hi8d,ht8d,plx,pld,pls,kCs_plain,plains,plain,e12,e12x,e30,← hgB,rB,u3,u4,← hgC,List.length_set]
            exact ⟨j, by omega, j, rfl, by omega, rfl, rC, dC, kC⟩
      · obtain rfl : m = 0 := by omega
        obtain ⟨s1, s2, s3, s4⟩ := fin 0 g3 (by omega) r1 r2 r3 (.inl rfl)
        simp (maxSteps := 2000000) (discharger := omega) only [xc,xo,xr,x0,x1,x2,x3,x4,x5,x6,xd,xe,xb,kont_call,kont_pure,kont_round,isNil,slOk,sliceV,selems,srcElems,copyTo,dlen,eqAV,eqCells,eqS,wr,place,partVals,partEs,placeEs,mapOf,keyOk,keyCells,findK,Bool.bne_false,Bool.bne_true,List.drop_zero,List.nil_append,List.append_nil,List.take_zero,List.cons_append,List.take_succ_cons,List.drop_succ_cons,List.take_nil,List.drop_nil,Reg.isA,Reg.isV,Reg.stays,Reg.onto,Bool.false_or,Bool.or_false,Bool.false_and,Bool.and_false,Bool.true_and,Bool.and_true,Bool.or_true,Bool.true_or,↓reduceIte,reduceCtorEq,Nat.reduceEqDiff,Nat.reduceLT,Nat.reduceAdd,Nat.reduceMul,Nat.add_zero,Nat.zero_add,Nat.not_lt_zero,Nat.zero_ne_one,Nat.one_ne_zero,Nat.reduceLeDiff,Nat.lt_irrefl,Nat.zero_lt_succ,Bool.false_eq_true,Bool.not_true,Bool.not_false,Option.map_some,Option.map_none,Option.bind_some,Option.getD_some,Option.getD_none,and_self,and_true,true_and,List.length_cons,List.length_nil,List.any_nil,List.any_cons,Int.toNat_natCast,Int.cast_ofNat_Int,Int.natCast_zero,Int.natCast_nonneg,true_implies,or_true,true_or,false_or,or_false,beq_self_eq_true,Option.some.injEq,exists_eq_left',Int.reduceEq,Int.reduceLT,Int.reduceLE,Int.reduceGT,Int.reduceGE,Nat.reduceGT,Int.reduceNeg,Int.reduceToNat,Int.reduceAdd,Int.reduceMul,Int.reduceSub,Int.reducePow,decide_true,decide_false,decide_eq_true_eq,List.getElem?_cons_zero,List.getElem?_cons_succ,Nat.reduceBEq,Nat.reduceSub,exists_false,and_false,false_and,xu,List.set_cons_zero,List.set_cons_succ,wrap_i64,int_lt_t,int_lt_f,int_le_t,int_le_f,int_gt_t,int_gt_f,int_ge_t,int_ge_f,int_eq_t,int_eq_f,int_beq_t,int_beq_f,int_bne_t,int_bne_f,nat_le_t,nat_le_f,Nat.sub_zero,Nat.sub_self,not_false_eq_true,not_true_eq_false]
        exact ⟨l.length - (i + 1), by omega, i + 1, _, ins srt d 0, rfl, by omega, rfl, s1, s2, s3, s4⟩
    · rw [if_neg hle, List.append_nil] at hfl
      simp (maxSteps := 2000000) (discharger := omega) only [xc,xo,xr,x0,x1,x2,x3,x4,x5,x6,xd,xe,xb,kont_call,kont_pure,kont_round,isNil,slOk,sliceV,selems,srcElems,copyTo,dlen,eqAV,eqCells,eqS,wr,place,partVals,partEs,placeEs,mapOf,keyOk,keyCells,findK,Bool.bne_false,Bool.bne_true,List.drop_zero,List.nil_append,List.append_nil,List.take_zero,List.cons_append,List.take_succ_cons,List.drop_succ_cons,List.take_nil,List.drop_nil,Reg.isA,Reg.isV,Reg.stays,Reg.onto,Bool.false_or,Bool.or_false,Bool.false_and,Bool.and_false,Bool.true_and,Bool.and_true,Bool.or_true,Bool.true_or,↓reduceIte,reduceCtorEq,Nat.reduceEqDiff,Nat.reduceLT,Nat.reduceAdd,Nat.reduceMul,Nat.add_zero,Nat.zero_add,Nat.not_lt_zero,Nat.zero_ne_one,Nat.one_ne_zero,Nat.reduceLeDiff,Nat.lt_irrefl,Nat.zero_lt_succ,Bool.false_eq_true,Bool.not_true,Bool.not_false,Option.map_some,Option.map_none,Option.bind_some,Option.getD_some,Option.getD_none,and_self,and_true,true_and,List.length_cons,List.length_nil,List.any_nil,List.any_cons,Int.toNat_natCast,Int.cast_ofNat_Int,Int.natCast_zero,Int.natCast_nonneg,true_implies,or_true,true_or,false_or,or_false,beq_self_eq_true,Option.some.injEq,exists_eq_left',Int.reduceEq,Int.reduceLT,Int.reduceLE,Int.reduceGT,Int.reduceGE,Nat.reduceGT,Int.reduceNeg,Int.reduceToNat,Int.reduceAdd,Int.reduceMul,Int.reduceSub,Int.reducePow,decide_true,decide_false,decide_eq_true_eq,List.getElem?_cons_zero,List.getElem?_cons_succ,Nat.reduceBEq,Nat.reduceSub,exists_false,and_false,false_and,xu,List.set_cons_zero,List.set_cons_succ,wrap_i64,int_lt_t,int_lt_f,int_le_t,int_le_f,int_gt_t,int_gt_f,int_ge_t,int_ge_f,int_eq_t,int_eq_f,int_beq_t,int_beq_f,int_bne_t,int_bne_f,nat_le_t,nat_le_f,Nat.sub_zero,Nat.sub_self,not_false_eq_true,not_true_eq_false,lv,q1,q2,q3,q4,q5,hi8,ht8,hd8,hi8d,ht8d,pld,pls,plains,plain,e12]
      exact ⟨l.length - (i + 1), by omega, i + 1, o, srt, rfl, by omega, rfl, ro, kr, by rw [hfl]; exact pm, pw⟩
  · obtain rfl : i = l.length := by omega
    rw [List.take_length] at pm
    have kp : keeps h g := fun id o ho _ => kr.2 id o ho (.inl (List.getElem?_eq_some_iff.1 ho).1)
    have kt : KT h g := keepR_kt kr
    have hsl : srt.length ≤ 1000 := by
      have := pm.length_eq
      have h2 := List.length_filter_le (fun c : Ch => decide (least ≤ (al c.2 s 8 : Int))) l
      omega
    have hsr : ∀ x ∈ srt, x.2.length = 8 := fun x hx => h8 x (List.mem_filter.1 (pm.mem_iff.1 hx)).1
    have lo := ro.len
    rw [cAs_len] at lo
    simp (maxSteps := 2000000) (discharger := omega) only [xc,xo,xr,x0,x1,x2,x3,x4,x5,x6,xd,xe,xb,kont_call,kont_pure,kont_round,isNil,slOk,sliceV,selems,srcElems,copyTo,dlen,eqAV,eqCells,eqS,wr,place,partVals,partEs,placeEs,mapOf,keyOk,keyCells,findK,Bool.bne_false,Bool.bne_true,List.drop_zero,List.nil_append,List.append_nil,List.take_zero,List.cons_append,List.take_succ_cons,List.drop_succ_cons,List.take_nil,List.drop_nil,Reg.isA,Reg.isV,Reg.stays,Reg.onto,Bool.false_or,Bool.or_false,Bool.false_and,Bool.and_false,Bool.true_and,Bool.and_true,Bool.or_true,Bool.true_or,↓reduceIte,reduceCtorEq,Nat.reduceEqDiff,Nat.reduceLT,Nat.reduceAdd,Nat.reduceMul,Nat.add_zero,Nat.zero_add,Nat.not_lt_zero,Nat.zero_ne_one,Nat.one_ne_zero,Nat.reduceLeDiff,Nat.lt_irrefl,Nat.zero_lt_succ,Bool.false_eq_true,Bool.not_true,Bool.not_false,Option.map_some,Option.map_none,Option.bind_some,Option.getD_some,Option.getD_none,and_self,and_true,true_and,List.length_cons,List.length_nil,List.any_nil,List.any_cons,Int.toNat_natCast,Int.cast_ofNat_Int,Int.natCast_zero,Int.natCast_nonneg,true_implies,or_true,true_or,false_or,or_false,beq_self_eq_true,Option.some.injEq,exists_eq_left',Int.reduceEq,Int.reduceLT,Int.reduceLE,Int.reduceGT,Int.reduceGE,Nat.reduceGT,Int.reduceNeg,Int.reduceToNat,Int.reduceAdd,Int.reduceMul,Int.reduceSub,Int.reducePow,decide_true,decide_false,decide_eq_true_eq,List.getElem?_cons_zero,List.getElem?_cons_succ,Nat.reduceBEq,Nat.reduceSub,exists_false,and_false,false_and,xu,List.set_cons_zero,List.set_cons_succ,wrap_i64,int_lt_t,int_lt_f,int_le_t,int_le_f,int_gt_t,int_gt_f,int_ge_t,int_ge_f,int_eq_t,int_eq_f,int_beq_t,int_beq_f,int_bne_t,int_bne_f,nat_le_t,nat_le_f,Nat.sub_zero,Nat.sub_self,not_false_eq_true,not_true_eq_false,lv]
    refine wpi_loop (fun m r g' => ∃ (k : Nat) (w : AV), r = [(7, .val o), (12, .val w), (13, .val (.int .i64 k))] ∧ k ≤ srt.length ∧ m = srt.length - k ∧ IsApp 32 (kAs ((srt.take k).map (·.1))) g' w ∧ Late 32 g w ∧ keeps g g' ∧ KT g g' ∧ g.length ≤ g'.length) srt.length (by omega) ⟨0, .nils, rfl, by omega, by omega, .nils _ _, .inl rfl, keeps_refl _, KT.refl _, Nat.le_refl _⟩ ?_
    rintro m r g' ⟨k, w, rfl, hk, rfl, iw, lw, kp2, kt2, hgl⟩
    by_cases hlk : k < srt.length
    · obtain ⟨id, post, rfl, b1, b2⟩ := ro.row (i := k) (by rw [cAs_len]; exact hlk)
      have b3 := kp2 _ _ b1 rfl
      have q1 : (cAs srt ++ post)[k]? = some (.agg (cC srt[k])) := by rw [List.getElem?_append_left (by rw [cAs_len]; exact hlk)]; exact cAs_get hlk
      have htk : srt.take (k + 1) = srt.take k ++ [srt[k]] := List.take_succ_eq_append_getElem hlk
      have c8 := hsr _ (List.getElem_mem hlk)
      obtain ⟨d, hd⟩ : ∃ d, d = srt[k] := ⟨_, rfl⟩
      rw [← hd] at q1 htk c8
      have q2 := cC_len c8
      have q3 := cC_t32 d
      obtain ⟨w', g2, e1, e2, e3, e4, e5, e6⟩ := app_late (bytes := 32) (x := .agg (kCs d.1)) iw lw (by rw [kAs_len, List.length_map, List.length_take]; omega) kp2 kt2 hgl
      have ir := iw.isRow
      have hka : kAs ((srt.take (k + 1)).map (·.1)) = kAs ((srt.take k).map (·.1)) ++ [.agg (kCs d.1)] := by rw [htk]; simp [kAs]
      simp (maxSteps := 2000000) (discharger := omega) only [xc,xo,xr,x0,x1,x2,x3,x4,x5,x6,xd,xe,xb,kont_call,kont_pure,kont_round,isNil,slOk,sliceV,selems,srcElems,copyTo,dlen,eqAV,eqCells,eqS,wr,place,partVals,partEs,placeEs,mapOf,keyOk,keyCells,findK,Bool.bne_false,Bool.bne_true,List.drop_zero,List.nil_append,List.append_nil,List.take_zero,List.cons_append,List.take_succ_cons,List.drop_succ_cons,List.take_nil,List.drop_nil,Reg.isA,Reg.isV,Reg.stays,Reg.onto,Bool.false_or,Bool.or_false,Bool.false_and,Bool.and_false,Bool.true_and,Bool.and_true,Bool.or_true,Bool.true_or,↓reduceIte,reduceCtorEq,Nat.reduceEqDiff,Nat.reduceLT,Nat.reduceAdd,Nat.reduceMul,Nat.add_zero,Nat.zero_add,Nat.not_lt_zero,Nat.zero_ne_one,Nat.one_ne_zero,Nat.reduceLeDiff,Nat.lt_irrefl,Nat.zero_lt_succ,Bool.false_eq_true,Bool.not_true,Bool.not_false,Option.map_some,Option.map_none,Option.bind_some,Option.getD_some,Option.getD_none,and_self,and_true,true_and,List.length_cons,List.length_nil,List.any_nil,List.any_cons,Int.toNat_natCast,Int.cast_ofNat_Int,Int.natCast_zero,Int.natCast_nonneg,true_implies,or_true,true_or,false_or,or_false,beq_self_eq_true,Option.some.injEq,exists_eq_left',Int.reduceEq,Int.reduceLT,Int.reduceLE,Int.reduceGT,Int.reduceGE,Nat.reduceGT,Int.reduceNeg,Int.reduceToNat,Int.reduceAdd,Int.reduceMul,Int.reduceSub,Int.reducePow,decide_true,decide_false,decide_eq_true_eq,List.getElem?_cons_zero,List.getElem?_cons_succ,Nat.reduceBEq,Nat.reduceSub,exists_false,and_false,false_and,xu,List.set_cons_zero,List.set_cons_succ,wrap_i64,int_lt_t,int_lt_f,int_le_t,int_le_f,int_gt_t,int_gt_f,int_ge_t,int_ge_f,int_eq_t,int_eq_f,int_beq_t,int_beq_f,int_bne_t,int_bne_f,nat_le_t,nat_le_f,Nat.sub_zero,Nat.sub_self,not_false_eq_true,not_true_eq_false,lo,b3,q1,q2,q3,kCs_take,kCs_drop,kCs_len,cAs_len,List.replicate_succ,List.replicate_zero,ir,e1]
      exact ⟨srt.length - (k + 1), by omega, k + 1, w', rfl, by omega, rfl, by rw [hka]; exact e2, e3, e4, e5⟩
    · obtain rfl : k = srt.length := by omega
      rw [List.take_length] at iw
      simp (maxSteps := 2000000) (discharger := omega) only [xc,xo,xr,x0,x1,x2,x3,x4,x5,x6,xd,xe,xb,kont_call,kont_pure,kont_round,isNil,slOk,sliceV,selems,srcElems,copyTo,dlen,eqAV,eqCells,eqS,wr,place,partVals,partEs,placeEs,mapOf,keyOk,keyCells,findK,Bool.bne_false,Bool.bne_true,List.drop_zero,List.nil_append,List.append_nil,List.take_zero,List.cons_append,List.take_succ_cons,List.drop_succ_cons,List.take_nil,List.drop_nil,Reg.isA,Reg.isV,Reg.stays,Reg.onto,Bool.false_or,Bool.or_false,Bool.false_and,Bool.and_false,Bool.true_and,Bool.and_true,Bool.or_true,Bool.true_or,↓reduceIte,reduceCtorEq,Nat.reduceEqDiff,Nat.reduceLT,Nat.reduceAdd,Nat.reduceMul,Nat.add_zero,Nat.zero_add,Nat.not_lt_zero,Nat.zero_ne_one,Nat.one_ne_zero,Nat.reduceLeDiff,Nat.lt_irrefl,Nat.zero_lt_succ,Bool.false_eq_true,Bool.not_true,Bool.not_false,Option.map_some,Option.map_none,Option.bind_some,Option.getD_some,Option.getD_none,and_self,and_true,true_and,List.length_cons,List.length_nil,List.any_nil,List.any_cons,Int.toNat_natCast,Int.cast_ofNat_Int,Int.natCast_zero,Int.natCast_nonneg,true_implies,or_true,true_or,false_or,or_false,beq_self_eq_true,Option.some.injEq,exists_eq_left',Int.reduceEq,Int.reduceLT,Int.reduceLE,Int.reduceGT,Int.reduceGE,Nat.reduceGT,Int.reduceNeg,Int.reduceToNat,Int.reduceAdd,Int.reduceMul,Int.reduceSub,Int.reducePow,decide_true,decide_false,decide_eq_true_eq,List.getElem?_cons_zero,List.getElem?_cons_succ,Nat.reduceBEq,Nat.reduceSub,exists_false,and_false,false_and,xu,List.set_cons_zero,List.set_cons_succ,wrap_i64,int_lt_t,int_lt_f,int_le_t,int_le_f,int_gt_t,int_gt_f,int_ge_t,int_ge_f,int_eq_t,int_eq_f,int_beq_t,int_beq_f,int_bne_t,int_bne_f,nat_le_t,nat_le_f,Nat.sub_zero,Nat.sub_self,not_false_eq_true,not_true_eq_false,lo]
      refine ⟨srt, ?_, keeps_trans kp kp2, kt.trans kt2, pm, pw⟩
      rcases iw with ⟨rfl, e⟩ | rfl | ⟨id, rfl, _⟩
      · exact .inl ⟨rfl, by simpa [kAs] using e⟩
      · exact .inr ⟨_, rfl⟩
      · exact .inr ⟨_, rfl⟩
end Go.Proofs.Ytdjlcddkfjbebaa.Im

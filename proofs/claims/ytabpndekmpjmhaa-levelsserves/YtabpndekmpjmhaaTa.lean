/- Joined: S14Sy, S14Sz, S14Ta. -/
import Derived.Test.YtabpndekmpjmhaaSx
/- S14Sy: the law, step by step: keys are laid. -/
set_option linter.unusedVariables false
set_option linter.unusedSimpArgs false
open Go Go.Im
namespace Go.Proofs.Ytabpndekmpjmhaa.Im

def putS (E : LTt) (P : List By) (v : Int) (E' : LTt) : Prop := ∀ k, tget E' k = if k ∈ P then some v else tget E k
theorem putS_nil (E : LTt) (v : Int) : putS E [] v E := fun k => by simp
theorem putS_snoc {E E' : LTt} {P : List By} {v : Int} {k : By} {c : Nat} (h : putS E P v E') : putS E (P ++ [k]) v (tput E' k v c) := fun k' => by
  rw [tget_put, h k']
  by_cases e : k = k'
  · rw [if_pos e, if_pos (List.mem_append.2 (.inr (List.mem_singleton.2 e.symm)))]
  · rw [if_neg e]
    have : k' ∈ P ++ [k] ↔ k' ∈ P := ⟨fun h => (List.mem_append.1 h).resolve_right fun h => e (List.mem_singleton.1 h).symm, fun h => List.mem_append.2 (.inl h)⟩
    simp only [this]

theorem put_any {h : Hp} {id c : Nat} {E : LTt} (M : MapH h id eS iv E c) (k : By) (v : Int) : ∃ q c', findK false [.s] (.str k) (encE eS iv E) 0 = some q ∧
    (match q with | some (j, _) => some (h.set id (.map ((encE eS iv E).modify j fun e => (.str k, iv v, e.2.2)) c)) | none => some (h.set id (.map (encE eS iv E ++ [(.str k, iv v, c)]) (c + 1)))) = some (h.set id (.map (encE eS iv (tput E k v c)) c')) ∧ MapH (h.set id (.map (encE eS iv (tput E k v c)) c')) id eS iv (tput E k v c) c' := by
  cases e : tget E k with
  | none =>
    refine ⟨none, c + 1, findK_no encS 0 e, ?_, ?_⟩
    · rw [tput_new e]; simp [encE]
    · have := M.add e v
      rw [tput_new e]
      simpa [encE] using this
  | some w =>
    obtain ⟨j, f1, _, _, f4, _⟩ := findK_yes (ev := iv) encS 0 e
    rw [Nat.zero_add] at f1
    refine ⟨some (j, iv w), c, f1, ?_, M.put (by rw [e]; simp) v⟩
    simp only
    rw [← f4 v c]

section
variable {ω : Nat → Nat} {n : Nat} {av u : AV} {ct : Cap} {mh ml me cH cL cE : Nat} {fan i : Nat} {HT : HTt} {LT E : LTt} {IN : Nat → LTt} {tns : List Tn} {g0 g : Hp}

set_option maxHeartbeats 2000000 in
theorem w_a (ht : IsRd 1 (tnsOf tns) (.imm 1 (tnsOf tns) ct)) (hok : ∀ t ∈ tns, t.ok) (hi : i < tns.length) (hk0 : 0 < tns[i].keys.length) (hk30 : tns[i].keys.length ≤ 30) (hi100 : i ≤ 100) (hn : 1000 < n) (hL : MapH g ml eS iv LT cL) (hE : MapH g me eS iv [] cE) (hne : me ≠ ml) :
    Wp (kont F n true ω) n w3a [(0, .val (.imm 1 (tnsOf tns) ct)), (1, .val (.int .u8 fan)), (2, .val av), (7, .var u), (8, .val (.mp mh)), (9, .val (.mp ml)), (10, .val (.int .i64 i)), (11, .val (.mp me)), (12, .val .nils), (13, .var (edOf ⟨1, (i : Int) + 1, 0, 0, [], []⟩)), (73, .val (.bool true))] g
      (fun e r g' => e = .normal ∧ KX [ml, me] g g' ∧ ∃ lo hi z1 z2 LT' cL' E' cE', r = [(0, .val (.imm 1 (tnsOf tns) ct)), (1, .val (.int .u8 fan)), (2, .val av), (7, .var u), (8, .val (.mp mh)), (9, .val (.mp ml)), (10, .val (.int .i64 i)), (11, .val (.mp me)), (12, .val .nils), (13, .var (edOf ⟨1, (i : Int) + 1, 0, 0, lo, hi⟩)), (14, z1), (97, z2)] ∧ MapH g' ml eS iv LT' cL' ∧ MapH g' me eS iv E' cE' ∧ putS LT tns[i].keys i LT' ∧ putS [] tns[i].keys i E' ∧
        sLe lo hi = true ∧ ∀ k ∈ tns[i].keys, sLe lo k = true ∧ sLe k hi = true) := by
  unfold w3a edOf
  obtain ⟨ct2, hct, t1⟩ := tns_at ht hi
  obtain ⟨c2', t2, t3⟩ := ks_at (hok _ (List.getElem_mem hi)) hk0
  have tl : lenSl (.imm 1 (ksOf tns[i].keys) c2') = some tns[i].keys.length := by rw [← t2]; exact ks_len (hok _ (List.getElem_mem hi))
  rw [t2] at t1
  rw [w_seq]
  refine wp_rA ?_
  simp (maxSteps := 2000000) (discharger := omega) only [xz,xc,xo,xr,x0,x1,x2,x3,x4,x5,x6,xd,xe,xb,kont_call,kont_pure,kont_round,isNil,slOk,sliceV,selems,srcElems,copyTo,dlen,eqAV,eqCells,eqS,wr,place,partVals,partEs,placeEs,mapOf,keyOk,keyCells,findK,Bool.bne_false,Bool.bne_true,Reg.isA,Reg.isV,Reg.stays,Reg.onto,↓reduceIte,reduceCtorEq,Nat.reduceEqDiff,Nat.reduceLT,Nat.reduceAdd,Nat.reduceMul,Nat.reduceLeDiff,Nat.zero_lt_succ,Option.bind_some,Option.getD_some,Option.getD_none,Int.cast_ofNat_Int,Int.natCast_zero,Int.natCast_nonneg,true_implies,or_true,true_or,false_or,or_false,beq_self_eq_true,exists_eq_left',Int.reduceEq,Int.reduceLT,Int.reduceLE,Int.reduceGT,Int.reduceGE,Nat.reduceGT,Int.reduceNeg,Int.reduceToNat,Int.reduceAdd,Int.reduceMul,Int.reduceSub,Int.reducePow,decide_eq_true_eq,Nat.reduceBEq,Nat.reduceSub,exists_false,xu,List.set_cons_zero,List.set_cons_succ,wrap_i64,int_lt_t,int_lt_f,int_le_t,int_le_f,int_gt_t,int_gt_f,int_ge_t,int_ge_f,int_eq_t,int_eq_f,int_beq_t,int_beq_f,int_bne_t,int_bne_f,nat_le_t,nat_le_f,Nat.sub_zero,Nat.sub_self,not_false_eq_true,not_true_eq_false,inOrd,List.filterMap_cons,List.filterMap_nil,Is,List.forall_mem_cons,List.not_mem_nil,false_implies,implies_true,t1,t3]
  refine wpi_loop (fun m r g' => ∃ (q : Nat) (lo hi : By) (LT' : LTt) (cL' : Nat) (E' : LTt) (cE' : Nat), r = [(0, .val (.imm 1 (tnsOf tns) ct)), (1, .val (.int .u8 fan)), (2, .val av), (7, .var u), (8, .val (.mp mh)), (9, .val (.mp ml)), (10, .val (.int .i64 i)), (11, .val (.mp me)), (12, .val .nils), (13, .var (.agg [.int .i64 1, .int .i64 ((i : Int) + 1), .int .i64 0, .int .i64 0, .str lo, .str hi])), (14, .val (.int .i64 q))] ∧ q ≤ tns[i].keys.length ∧ m = tns[i].keys.length - q ∧ KX [ml, me] g g' ∧ MapH g' ml eS iv LT' cL' ∧ MapH g' me eS iv E' cE' ∧ putS LT (tns[i].keys.take q) i LT' ∧ putS [] (tns[i].keys.take q) i E' ∧
        sLe lo hi = true ∧ ∀ k ∈ tns[i].keys.take q, sLe lo k = true ∧ sLe k hi = true) tns[i].keys.length (by omega) ⟨0, _, _, LT, cL, [], cE, rfl, by omega, by omega, .refl, hL, hE, by simpa using putS_nil _ _, by simpa using putS_nil _ _, sLe_refl _, by simp⟩ ?_
  rintro m r1 g1 ⟨q, lo, hi', LT1, cL1, E1, cE1, rfl, hq, rfl, kx, hL1, hE1, p1, p2, hle, hall⟩
  by_cases hql : q < tns[i].keys.length
  · have t5 : (ksOf tns[i].keys)[q]? = some (.str tns[i].keys[q]) := by simp [ksOf,hql]
    have htk : tns[i].keys.take (q + 1) = tns[i].keys.take q ++ [tns[i].keys[q]] := List.take_succ_eq_append_getElem hql
    generalize tns[i].keys[q] = k at t5 htk
    obtain ⟨f1, c1, x1', x2', x3'⟩ := put_any hE1 k i
    generalize hg2 : g1.set me (.map (encE eS iv (tput E1 k i cE1)) c1) = g2 at x2' x3'
    have hL2 : MapH g2 ml eS iv LT1 cL1 := by rw [← hg2]; exact hL1.setne hne
    obtain ⟨f2, c2, y1', y2', y3'⟩ := put_any hL2 k i
    generalize hg3 : g2.set ml (.map (encE eS iv (tput LT1 k i cL1)) c2) = g3 at y2' y3'
    have hE3 : MapH g3 me eS iv (tput E1 k i cE1) c1 := by rw [← hg3]; exact x3'.setne (Ne.symm hne)
    have e1 := hE1.hp
    have e2 := hL2.hp
    have d1 : (if (Op.bytesLess lo k || lo == k) = true then lo else k) = sMin lo k := rfl
    have d2 : (if (!Op.bytesLess hi' k) = true then hi' else k) = sMax hi' k := rfl
    obtain ⟨n1, n2, _⟩ := sMin_le lo k
    obtain ⟨n3, n4, _⟩ := sMax_le hi' k
    have kx3 : KX [ml, me] g g3 := by rw [← hg3, ← hg2]; exact (kx.trans (KX.set (by simp))).trans (KX.set (by simp))
    have fin : KX [ml, me] g g3 ∧ MapH g3 ml eS iv (tput LT1 k i cL1) c2 ∧ MapH g3 me eS iv (tput E1 k i cE1) c1 ∧ putS LT (tns[i].keys.take (q + 1)) i (tput LT1 k i cL1) ∧ putS [] (tns[i].keys.take (q + 1)) i (tput E1 k i cE1) ∧ sLe (sMin lo k) (sMax hi' k) = true ∧ ∀ k' ∈ tns[i].keys.take (q + 1), sLe (sMin lo k) k' = true ∧ sLe k' (sMax hi' k) = true := by
      refine ⟨kx3, y3', hE3, by rw [htk]; exact putS_snoc p1, by rw [htk]; exact putS_snoc p2, sLe_trans n1 (sLe_trans hle n3), fun k' hk' => ?_⟩
      rw [htk] at hk'
      rcases List.mem_append.1 hk' with h | h
      · obtain ⟨a, b⟩ := hall k' h
        exact ⟨sLe_trans n1 a, sLe_trans b n3⟩
      · have : k' = k := by simpa using h
        subst this; exact ⟨n2, n4⟩
    obtain ⟨z1', z2', z3', z4', z5', z6', z7'⟩ := fin
    cases f1 with
    | none =>
      simp only [Option.some.injEq] at x2'
      cases f2 with
      | none =>
        simp only [Option.some.injEq] at y2'
        simp (maxSteps := 2000000) (discharger := omega) only [xz,xc,xo,xr,x0,x1,x2,x3,x4,x5,x6,xd,xe,xb,kont_call,kont_pure,kont_round,isNil,slOk,sliceV,selems,srcElems,copyTo,dlen,eqAV,eqCells,eqS,wr,place,partVals,partEs,placeEs,mapOf,keyOk,keyCells,findK,Bool.bne_false,Bool.bne_true,Reg.isA,Reg.isV,Reg.stays,Reg.onto,↓reduceIte,reduceCtorEq,Nat.reduceEqDiff,Nat.reduceLT,Nat.reduceAdd,Nat.reduceMul,Nat.reduceLeDiff,Nat.zero_lt_succ,Option.bind_some,Option.getD_some,Option.getD_none,Int.cast_ofNat_Int,Int.natCast_zero,Int.natCast_nonneg,true_implies,or_true,true_or,false_or,or_false,beq_self_eq_true,exists_eq_left',Int.reduceEq,Int.reduceLT,Int.reduceLE,Int.reduceGT,Int.reduceGE,Nat.reduceGT,Int.reduceNeg,Int.reduceToNat,Int.reduceAdd,Int.reduceMul,Int.reduceSub,Int.reducePow,decide_eq_true_eq,Nat.reduceBEq,Nat.reduceSub,exists_false,xu,List.set_cons_zero,List.set_cons_succ,wrap_i64,int_lt_t,int_lt_f,int_le_t,int_le_f,int_gt_t,int_gt_f,int_ge_t,int_ge_f,int_eq_t,int_eq_f,int_beq_t,int_beq_f,int_bne_t,int_bne_f,nat_le_t,nat_le_f,Nat.sub_zero,Nat.sub_self,not_false_eq_true,not_true_eq_false,t1,t5,tl,e1,x1',x2',e2,y1',y2',d1,d2]
        exact ⟨tns[i].keys.length - (q + 1), by omega, q + 1, _, _, _, _, _, _, rfl, by omega, rfl, z1', z2', z3', z4', z5', z6', z7'⟩
      | some f2 =>
        simp only [Option.some.injEq] at y2'
        simp (maxSteps := 2000000) (discharger := omega) only [xz,xc,xo,xr,x0,x1,x2,x3,x4,x5,x6,xd,xe,xb,kont_call,kont_pure,kont_round,isNil,slOk,sliceV,selems,srcElems,copyTo,dlen,eqAV,eqCells,eqS,wr,place,partVals,partEs,placeEs,mapOf,keyOk,keyCells,findK,Bool.bne_false,Bool.bne_true,Reg.isA,Reg.isV,Reg.stays,Reg.onto,↓reduceIte,reduceCtorEq,Nat.reduceEqDiff,Nat.reduceLT,Nat.reduceAdd,Nat.reduceMul,Nat.reduceLeDiff,Nat.zero_lt_succ,Option.bind_some,Option.getD_some,Option.getD_none,Int.cast_ofNat_Int,Int.natCast_zero,Int.natCast_nonneg,true_implies,or_true,true_or,false_or,or_false,beq_self_eq_true,exists_eq_left',Int.reduceEq,Int.reduceLT,Int.reduceLE,Int.reduceGT,Int.reduceGE,Nat.reduceGT,Int.reduceNeg,Int.reduceToNat,Int.reduceAdd,Int.reduceMul,Int.reduceSub,Int.reducePow,decide_eq_true_eq,Nat.reduceBEq,Nat.reduceSub,exists_false,xu,List.set_cons_zero,List.set_cons_succ,wrap_i64,int_lt_t,int_lt_f,int_le_t,int_le_f,int_gt_t,int_gt_f,int_ge_t,int_ge_f,int_eq_t,int_eq_f,int_beq_t,int_beq_f,int_bne_t,int_bne_f,nat_le_t,nat_le_f,Nat.sub_zero,Nat.sub_self,not_false_eq_true,not_true_eq_false,t1,t5,tl,e1,x1',x2',e2,y1',y2',d1,d2]
        exact ⟨tns[i].keys.length - (q + 1), by omega, q + 1, _, _, _, _, _, _, rfl, by omega, rfl, z1', z2', z3', z4', z5', z6', z7'⟩
    | some f1 =>
      simp only [Option.some.injEq] at x2'
      cases f2 with
      | none =>
        simp only [Option.some.injEq] at y2'
        simp (maxSteps := 2000000) (discharger := omega) only [xz,xc,xo,xr,x0,x1,x2,x3,x4,x5,x6,xd,xe,xb,kont_call,kont_pure,kont_round,isNil,slOk,sliceV,selems,srcElems,copyTo,dlen,eqAV,eqCells,eqS,wr,place,partVals,partEs,placeEs,mapOf,keyOk,keyCells,findK,Bool.bne_false,Bool.bne_true,Reg.isA,Reg.isV,Reg.stays,Reg.onto,↓reduceIte,reduceCtorEq,Nat.reduceEqDiff,Nat.reduceLT,Nat.reduceAdd,Nat.reduceMul,Nat.reduceLeDiff,Nat.zero_lt_succ,Option.bind_some,Option.getD_some,Option.getD_none,Int.cast_ofNat_Int,Int.natCast_zero,Int.natCast_nonneg,true_implies,or_true,true_or,false_or,or_false,beq_self_eq_true,exists_eq_left',Int.reduceEq,Int.reduceLT,Int.reduceLE,Int.reduceGT,Int.reduceGE,Nat.reduceGT,Int.reduceNeg,Int.reduceToNat,Int.reduceAdd,Int.reduceMul,Int.reduceSub,Int.reducePow,decide_eq_true_eq,Nat.reduceBEq,Nat.reduceSub,exists_false,xu,List.set_cons_zero,List.set_cons_succ,wrap_i64,int_lt_t,int_lt_f,int_le_t,int_le_f,int_gt_t,int_gt_f,int_ge_t,int_ge_f,int_eq_t,int_eq_f,int_beq_t,int_beq_f,int_bne_t,int_bne_f,nat_le_t,nat_le_f,Nat.sub_zero,Nat.sub_self,not_false_eq_true,not_true_eq_false,t1,t5,tl,e1,x1',x2',e2,y1',y2',d1,d2]
        exact ⟨tns[i].keys.length - (q + 1), by omega, q + 1, _, _, _, _, _, _, rfl, by omega, rfl, z1', z2', z3', z4', z5', z6', z7'⟩
      | some f2 =>
        simp only [Option.some.injEq] at y2'
        simp (maxSteps := 2000000) (discharger := omega) only [xz,xc,xo,xr,x0,x1,x2,x3,x4,x5,x6,xd,xe,xb,kont_call,kont_pure,kont_round,isNil,slOk,sliceV,selems,srcElems,copyTo,dlen,eqAV,eqCells,eqS,wr,place,partVals,partEs,placeEs,mapOf,keyOk,keyCells,findK,Bool.bne_false,Bool.bne_true,Reg.isA,Reg.isV,Reg.stays,Reg.onto,↓reduceIte,reduceCtorEq,Nat.reduceEqDiff,Nat.reduceLT,Nat.reduceAdd,Nat.reduceMul,Nat.reduceLeDiff,Nat.zero_lt_succ,Option.bind_some,Option.getD_some,Option.getD_none,Int.cast_ofNat_Int,Int.natCast_zero,Int.natCast_nonneg,true_implies,or_true,true_or,false_or,or_false,beq_self_eq_true,exists_eq_left',Int.reduceEq,Int.reduceLT,Int.reduceLE,Int.reduceGT,Int.reduceGE,Nat.reduceGT,Int.reduceNeg,Int.reduceToNat,Int.reduceAdd,Int.reduceMul,Int.reduceSub,Int.reducePow,decide_eq_true_eq,Nat.reduceBEq,Nat.reduceSub,exists_false,xu,List.set_cons_zero,List.set_cons_succ,wrap_i64,int_lt_t,int_lt_f,int_le_t,int_le_f,int_gt_t,int_gt_f,int_ge_t,int_ge_f,int_eq_t,int_eq_f,int_beq_t,int_beq_f,int_bne_t,int_bne_f,nat_le_t,nat_le_f,Nat.sub_zero,Nat.sub_self,not_false_eq_true,not_true_eq_false,t1,t5,tl,e1,x1',x2',e2,y1',y2',d1,d2]
        exact ⟨tns[i].keys.length - (q + 1), by omega, q + 1, _, _, _, _, _, _, rfl, by omega, rfl, z1', z2', z3', z4', z5', z6', z7'⟩
  · obtain rfl : q = tns[i].keys.length := by omega
    rw [List.take_length] at p1 p2 hall
    simp (maxSteps := 2000000) (discharger := omega) only [xz,xc,xo,xr,x0,x1,x2,x3,x4,x5,x6,xd,xe,xb,kont_call,kont_pure,kont_round,isNil,slOk,sliceV,selems,srcElems,copyTo,dlen,eqAV,eqCells,eqS,wr,place,partVals,partEs,placeEs,mapOf,keyOk,keyCells,findK,Bool.bne_false,Bool.bne_true,Reg.isA,Reg.isV,Reg.stays,Reg.onto,↓reduceIte,reduceCtorEq,Nat.reduceEqDiff,Nat.reduceLT,Nat.reduceAdd,Nat.reduceMul,Nat.reduceLeDiff,Nat.zero_lt_succ,Option.bind_some,Option.getD_some,Option.getD_none,Int.cast_ofNat_Int,Int.natCast_zero,Int.natCast_nonneg,true_implies,or_true,true_or,false_or,or_false,beq_self_eq_true,exists_eq_left',Int.reduceEq,Int.reduceLT,Int.reduceLE,Int.reduceGT,Int.reduceGE,Nat.reduceGT,Int.reduceNeg,Int.reduceToNat,Int.reduceAdd,Int.reduceMul,Int.reduceSub,Int.reducePow,decide_eq_true_eq,Nat.reduceBEq,Nat.reduceSub,exists_false,xu,List.set_cons_zero,List.set_cons_succ,wrap_i64,int_lt_t,int_lt_f,int_le_t,int_le_f,int_gt_t,int_gt_f,int_ge_t,int_ge_f,int_eq_t,int_eq_f,int_beq_t,int_beq_f,int_bne_t,int_bne_f,nat_le_t,nat_le_f,Nat.sub_zero,Nat.sub_self,not_false_eq_true,not_true_eq_false,t1,tl]
    exact ⟨kx, _, _, _, _, _, _, _, _, rfl, hL1, hE1, p1, p2, hle, hall⟩
end
end Go.Proofs.Ytabpndekmpjmhaa.Im

/- S14Sz: the law, step by step: what is asked for. -/
set_option linter.unusedVariables false
set_option linter.unusedSimpArgs false
open Go Go.Im
namespace Go.Proofs.Ytabpndekmpjmhaa.Im

section
variable {ω : Nat → Nat} {n : Nat} {tv av tb0 sv lv : AV} {nx : Int} {mh ml cH cL : Nat} {fan i k : Nat} {HT : HTt} {LT : LTt} {IN : Nat → LTt} {g : Hp} {tb : List Tb} {m : Int} {old : By → Prop} {asks : List By}

set_option maxHeartbeats 2000000 in
theorem w_e (hask : IsRd 1 (ksOf asks) av) (hk : k < asks.length) (hn : 1000 < n) (M : Mp g mh ml HT cH LT cL IN) (r1 : RowAt g 5 0 (tb.map tbOf) tb0) (I : Inv tb (hvF HT IN) (tget LT) m old) (htb : tb.length ≤ 200) :
    Wp (kont F n true ω) n w3e [(0, .val tv), (1, .val (.int .u8 fan)), (2, .val av), (7, .var (.agg [tb0, sv, lv, .int .i64 nx])), (8, .val (.mp mh)), (9, .val (.mp ml)), (10, .val (.int .i64 i)), (28, .val (.int .i64 k)), (233, .val (.bool true))] g
      (fun e r g' => e = .normal ∧ KeepLo g.length g g' ∧ ∃ z, r = [(0, .val tv), (1, .val (.int .u8 fan)), (2, .val av), (7, .var (.agg [tb0, sv, lv, .int .i64 nx])), (8, .val (.mp mh)), (9, .val (.mp ml)), (10, .val (.int .i64 i)), (28, .val (.int .i64 k)), (283, z)]) := by
  unfold w3e
  obtain ⟨ca, rfl, t1⟩ := ks_at hask hk
  generalize asks[k] = key at t1
  obtain ⟨v, g1, e1, e2, e3⟩ := c7 (tot := true) (ω := ω) (n := n) tb tb0 key 0 g r1 (by omega) (by omega)
  have hfind := I.find key
  obtain ⟨L, hL⟩ : ∃ L, L = tb.filter fun t => mt t key key := ⟨_, rfl⟩
  rw [← hL] at e2 hfind
  have hLl : L.length ≤ 200 := by rw [hL]; have := List.length_filter_le (fun t => mt t key key) tb; omega
  have lv1 : lenSl v = some L.length := by rw [e2.len, fsOf_len]
  have m1 := M.hl.hp
  have M1 := mp_keep M e3
  have m2 := M1.hh.hp
  obtain ⟨want, there, w1, w2⟩ : ∃ (want : Int) (there : Bool), (∃ q, findK false [.s] (.str key) (encE eS iv LT) 0 = some q ∧ ((∃ j, q = some (j, .int .i64 want) ∧ there = true) ∨ (q = none ∧ want = 0 ∧ there = false))) ∧ tget LT key = if there then some want else none := by
    cases hg : tget LT key with
    | none => exact ⟨0, false, ⟨_, findK_no encS 0 hg, .inr ⟨rfl, rfl, rfl⟩⟩, rfl⟩
    | some y =>
      obtain ⟨j, f1, _⟩ := findK_yes (ev := iv) encS 0 hg
      exact ⟨y, true, ⟨_, f1, .inl ⟨_, rfl, rfl⟩⟩, rfl⟩
  rw [w2] at hfind
  obtain ⟨q, f1, hq⟩ := w1
  rcases hq with ⟨jq, rfl, rfl⟩ | ⟨rfl, rfl, rfl⟩
  · simp (maxSteps := 2000000) (discharger := omega) only [xz,xc,xo,xr,x0,x1,x2,x3,x4,x5,x6,xd,xe,xb,kont_call,kont_pure,kont_round,isNil,slOk,sliceV,selems,srcElems,copyTo,dlen,eqAV,eqCells,eqS,wr,place,partVals,partEs,placeEs,mapOf,keyOk,keyCells,findK,Bool.bne_false,Bool.bne_true,Reg.isA,Reg.isV,Reg.stays,Reg.onto,↓reduceIte,reduceCtorEq,Nat.reduceEqDiff,Nat.reduceLT,Nat.reduceAdd,Nat.reduceMul,Nat.reduceLeDiff,Nat.zero_lt_succ,Option.bind_some,Option.getD_some,Option.getD_none,Int.cast_ofNat_Int,Int.natCast_zero,Int.natCast_nonneg,true_implies,or_true,true_or,false_or,or_false,beq_self_eq_true,exists_eq_left',Int.reduceEq,Int.reduceLT,Int.reduceLE,Int.reduceGT,Int.reduceGE,Nat.reduceGT,Int.reduceNeg,Int.reduceToNat,Int.reduceAdd,Int.reduceMul,Int.reduceSub,Int.reducePow,decide_eq_true_eq,Nat.reduceBEq,Nat.reduceSub,exists_false,xu,List.set_cons_zero,List.set_cons_succ,wrap_i64,int_lt_t,int_lt_f,int_le_t,int_le_f,int_gt_t,int_gt_f,int_ge_t,int_ge_f,int_eq_t,int_eq_f,int_beq_t,int_beq_f,int_bne_t,int_bne_f,nat_le_t,nat_le_f,Nat.sub_zero,Nat.sub_self,not_false_eq_true,not_true_eq_false,t1,m1,f1,e1]
    refine wpi_loop (fun r0 r g' => ∃ (j : Nat) (got : Int) (fd : Bool), r = [(0, .val tv), (1, .val (.int .u8 fan)), (2, .val (.imm 1 (ksOf asks) ca)), (7, .var (.agg [tb0, sv, lv, .int .i64 nx])), (8, .val (.mp mh)), (9, .val (.mp ml)), (10, .val (.int .i64 i)), (28, .val (.int .i64 k)), (29, .val (.int .i64 want)), (30, .val (.bool true)), (31, .val (.int .i64 got)), (32, .val (.bool fd)), (33, .val v), (34, .val (.int .i64 j))] ∧ j ≤ L.length ∧ r0 = L.length - j ∧ g' = g1 ∧ ((fd = false ∧ got = 0 ∧ ∀ t ∈ L.take j, hvF HT IN t.f key = none) ∨ (fd = true ∧ (L.filterMap fun t => hvF HT IN t.f key).head? = some got))) L.length (by omega) ⟨0, 0, false, rfl, by omega, by omega, rfl, .inl ⟨rfl, rfl, by simp⟩⟩ ?_
    rintro r0 r2 g2 ⟨j, got, fd, rfl, hj, rfl, rfl, hst⟩
    rcases hst with ⟨rfl, rfl, hno⟩ | ⟨rfl, hyes⟩
    · by_cases hjl : j < L.length
      · obtain ⟨c4, rfl⟩ := e2.imm (i := j) (by rw [fsOf_len]; exact hjl)
        have t2 : (fsOf L)[j]? = some (.int .i64 L[j].f) := by simp [fsOf,hjl]
        have htk : L.take (j + 1) = L.take j ++ [L[j]] := List.take_succ_eq_append_getElem hjl
        have hdr : L = L.take j ++ L[j] :: L.drop (j + 1) := by rw [← List.drop_eq_getElem_cons hjl, List.take_append_drop]
        generalize L[j] = t at t2 htk hdr
        have nxt : hvF HT IN t.f key = none → ∀ u ∈ L.take (j + 1), hvF HT IN u.f key = none := fun h u hu => by
          rw [htk] at hu
          rcases List.mem_append.1 hu with hu | hu
          · exact hno u hu
          · have : u = t := by simpa using hu
            subst this; exact h
        cases hH : tget HT t.f with
        | none =>
          have f2 := findK_no (ev := evM) encI 0 hH
          simp (maxSteps := 2000000) (discharger := omega) only [xz,xc,xo,xr,x0,x1,x2,x3,x4,x5,x6,xd,xe,xb,kont_call,kont_pure,kont_round,isNil,slOk,sliceV,selems,srcElems,copyTo,dlen,eqAV,eqCells,eqS,wr,place,partVals,partEs,placeEs,mapOf,keyOk,keyCells,findK,Bool.bne_false,Bool.bne_true,Reg.isA,Reg.isV,Reg.stays,Reg.onto,↓reduceIte,reduceCtorEq,Nat.reduceEqDiff,Nat.reduceLT,Nat.reduceAdd,Nat.reduceMul,Nat.reduceLeDiff,Nat.zero_lt_succ,Option.bind_some,Option.getD_some,Option.getD_none,Int.cast_ofNat_Int,Int.natCast_zero,Int.natCast_nonneg,true_implies,or_true,true_or,false_or,or_false,beq_self_eq_true,exists_eq_left',Int.reduceEq,Int.reduceLT,Int.reduceLE,Int.reduceGT,Int.reduceGE,Nat.reduceGT,Int.reduceNeg,Int.reduceToNat,Int.reduceAdd,Int.reduceMul,Int.reduceSub,Int.reducePow,decide_eq_true_eq,Nat.reduceBEq,Nat.reduceSub,exists_false,xu,List.set_cons_zero,List.set_cons_succ,wrap_i64,int_lt_t,int_lt_f,int_le_t,int_le_f,int_gt_t,int_gt_f,int_ge_t,int_ge_f,int_eq_t,int_eq_f,int_beq_t,int_beq_f,int_bne_t,int_bne_f,nat_le_t,nat_le_f,Nat.sub_zero,Nat.sub_self,not_false_eq_true,not_true_eq_false,lv1,t1,t2,m2,f2]
          exact ⟨L.length - (j + 1), by omega, j + 1, 0, false, rfl, by omega, rfl, .inl ⟨rfl, rfl, nxt (by simp [hvF,hH])⟩⟩
        | some id =>
          obtain ⟨j1, f2, _⟩ := findK_yes (ev := evM) encI 0 hH
          obtain ⟨b, hb⟩ := tget_mem hH
          obtain ⟨_, _, c, hI⟩ := M1.inn _ hb
          have m3 := hI.hp
          cases hv : tget (IN id) key with
          | none =>
            have f3 := findK_no (ev := iv) encS 0 hv
            simp (maxSteps := 2000000) (discharger := omega) only [xz,xc,xo,xr,x0,x1,x2,x3,x4,x5,x6,xd,xe,xb,kont_call,kont_pure,kont_round,isNil,slOk,sliceV,selems,srcElems,copyTo,dlen,eqAV,eqCells,eqS,wr,place,partVals,partEs,placeEs,mapOf,keyOk,keyCells,findK,Bool.bne_false,Bool.bne_true,Reg.isA,Reg.isV,Reg.stays,Reg.onto,↓reduceIte,reduceCtorEq,Nat.reduceEqDiff,Nat.reduceLT,Nat.reduceAdd,Nat.reduceMul,Nat.reduceLeDiff,Nat.zero_lt_succ,Option.bind_some,Option.getD_some,Option.getD_none,Int.cast_ofNat_Int,Int.natCast_zero,Int.natCast_nonneg,true_implies,or_true,true_or,false_or,or_false,beq_self_eq_true,exists_eq_left',Int.reduceEq,Int.reduceLT,Int.reduceLE,Int.reduceGT,Int.reduceGE,Nat.reduceGT,Int.reduceNeg,Int.reduceToNat,Int.reduceAdd,Int.reduceMul,Int.reduceSub,Int.reducePow,decide_eq_true_eq,Nat.reduceBEq,Nat.reduceSub,exists_false,xu,List.set_cons_zero,List.set_cons_succ,wrap_i64,int_lt_t,int_lt_f,int_le_t,int_le_f,int_gt_t,int_gt_f,int_ge_t,int_ge_f,int_eq_t,int_eq_f,int_beq_t,int_beq_f,int_bne_t,int_bne_f,nat_le_t,nat_le_f,Nat.sub_zero,Nat.sub_self,not_false_eq_true,not_true_eq_false,lv1,t1,t2,m2,m3,f2,f3]
            exact ⟨L.length - (j + 1), by omega, j + 1, 0, false, rfl, by omega, rfl, .inl ⟨rfl, rfl, nxt (by simp [hvF,hH,hv])⟩⟩
          | some y =>
            obtain ⟨j3, f3, _⟩ := findK_yes (ev := iv) encS 0 hv
            simp (maxSteps := 2000000) (discharger := omega) only [xz,xc,xo,xr,x0,x1,x2,x3,x4,x5,x6,xd,xe,xb,kont_call,kont_pure,kont_round,isNil,slOk,sliceV,selems,srcElems,copyTo,dlen,eqAV,eqCells,eqS,wr,place,partVals,partEs,placeEs,mapOf,keyOk,keyCells,findK,Bool.bne_false,Bool.bne_true,Reg.isA,Reg.isV,Reg.stays,Reg.onto,↓reduceIte,reduceCtorEq,Nat.reduceEqDiff,Nat.reduceLT,Nat.reduceAdd,Nat.reduceMul,Nat.reduceLeDiff,Nat.zero_lt_succ,Option.bind_some,Option.getD_some,Option.getD_none,Int.cast_ofNat_Int,Int.natCast_zero,Int.natCast_nonneg,true_implies,or_true,true_or,false_or,or_false,beq_self_eq_true,exists_eq_left',Int.reduceEq,Int.reduceLT,Int.reduceLE,Int.reduceGT,Int.reduceGE,Nat.reduceGT,Int.reduceNeg,Int.reduceToNat,Int.reduceAdd,Int.reduceMul,Int.reduceSub,Int.reducePow,decide_eq_true_eq,Nat.reduceBEq,Nat.reduceSub,exists_false,xu,List.set_cons_zero,List.set_cons_succ,wrap_i64,int_lt_t,int_lt_f,int_le_t,int_le_f,int_gt_t,int_gt_f,int_ge_t,int_ge_f,int_eq_t,int_eq_f,int_beq_t,int_beq_f,int_bne_t,int_bne_f,nat_le_t,nat_le_f,Nat.sub_zero,Nat.sub_self,not_false_eq_true,not_true_eq_false,lv1,t1,t2,m2,m3,f2,f3]
            refine ⟨L.length - (j + 1), by omega, j + 1, y, true, rfl, by omega, rfl, .inr ⟨rfl, ?_⟩⟩
            have hy : hvF HT IN t.f key = some y := by simp [hvF,hH,hv]
            have h0 : (L.take j).filterMap (fun t => hvF HT IN t.f key) = [] := List.filterMap_eq_nil_iff.2 hno
            rw [hdr, List.filterMap_append, h0, List.nil_append, List.filterMap_cons, hy]
            rfl
      · obtain rfl : j = L.length := by omega
        rw [List.take_length] at hno
        rw [none_head hno] at hfind
        simp at hfind
    · rw [hyes] at hfind
      have hg : got = want := by simpa using hfind
      subst hg
      by_cases hjl : j < L.length
      · simp (maxSteps := 2000000) (discharger := omega) only [xz,xc,xo,xr,x0,x1,x2,x3,x4,x5,x6,xd,xe,xb,kont_call,kont_pure,kont_round,isNil,slOk,sliceV,selems,srcElems,copyTo,dlen,eqAV,eqCells,eqS,wr,place,partVals,partEs,placeEs,mapOf,keyOk,keyCells,findK,Bool.bne_false,Bool.bne_true,Reg.isA,Reg.isV,Reg.stays,Reg.onto,↓reduceIte,reduceCtorEq,Nat.reduceEqDiff,Nat.reduceLT,Nat.reduceAdd,Nat.reduceMul,Nat.reduceLeDiff,Nat.zero_lt_succ,Option.bind_some,Option.getD_some,Option.getD_none,Int.cast_ofNat_Int,Int.natCast_zero,Int.natCast_nonneg,true_implies,or_true,true_or,false_or,or_false,beq_self_eq_true,exists_eq_left',Int.reduceEq,Int.reduceLT,Int.reduceLE,Int.reduceGT,Int.reduceGE,Nat.reduceGT,Int.reduceNeg,Int.reduceToNat,Int.reduceAdd,Int.reduceMul,Int.reduceSub,Int.reducePow,decide_eq_true_eq,Nat.reduceBEq,Nat.reduceSub,exists_false,xu,List.set_cons_zero,List.set_cons_succ,wrap_i64,int_lt_t,int_lt_f,int_le_t,int_le_f,int_gt_t,int_gt_f,int_ge_t,int_ge_f,int_eq_t,int_eq_f,int_beq_t,int_beq_f,int_bne_t,int_bne_f,nat_le_t,nat_le_f,Nat.sub_zero,Nat.sub_self,not_false_eq_true,not_true_eq_false,lv1]
        exact ⟨e3, _, rfl⟩
      · simp (maxSteps := 2000000) (discharger := omega) only [xz,xc,xo,xr,x0,x1,x2,x3,x4,x5,x6,xd,xe,xb,kont_call,kont_pure,kont_round,isNil,slOk,sliceV,selems,srcElems,copyTo,dlen,eqAV,eqCells,eqS,wr,place,partVals,partEs,placeEs,mapOf,keyOk,keyCells,findK,Bool.bne_false,Bool.bne_true,Reg.isA,Reg.isV,Reg.stays,Reg.onto,↓reduceIte,reduceCtorEq,Nat.reduceEqDiff,Nat.reduceLT,Nat.reduceAdd,Nat.reduceMul,Nat.reduceLeDiff,Nat.zero_lt_succ,Option.bind_some,Option.getD_some,Option.getD_none,Int.cast_ofNat_Int,Int.natCast_zero,Int.natCast_nonneg,true_implies,or_true,true_or,false_or,or_false,beq_self_eq_true,exists_eq_left',Int.reduceEq,Int.reduceLT,Int.reduceLE,Int.reduceGT,Int.reduceGE,Nat.reduceGT,Int.reduceNeg,Int.reduceToNat,Int.reduceAdd,Int.reduceMul,Int.reduceSub,Int.reducePow,decide_eq_true_eq,Nat.reduceBEq,Nat.reduceSub,exists_false,xu,List.set_cons_zero,List.set_cons_succ,wrap_i64,int_lt_t,int_lt_f,int_le_t,int_le_f,int_gt_t,int_gt_f,int_ge_t,int_ge_f,int_eq_t,int_eq_f,int_beq_t,int_beq_f,int_bne_t,int_bne_f,nat_le_t,nat_le_f,Nat.sub_zero,Nat.sub_self,not_false_eq_true,not_true_eq_false,lv1]
        exact ⟨e3, _, rfl⟩
  · simp (maxSteps := 2000000) (discharger := omega) only [xz,xc,xo,xr,x0,x1,x2,x3,x4,x5,x6,xd,xe,xb,kont_call,kont_pure,kont_round,isNil,slOk,sliceV,selems,srcElems,copyTo,dlen,eqAV,eqCells,eqS,wr,place,partVals,partEs,placeEs,mapOf,keyOk,keyCells,findK,Bool.bne_false,Bool.bne_true,Reg.isA,Reg.isV,Reg.stays,Reg.onto,↓reduceIte,reduceCtorEq,Nat.reduceEqDiff,Nat.reduceLT,Nat.reduceAdd,Nat.reduceMul,Nat.reduceLeDiff,Nat.zero_lt_succ,Option.bind_some,Option.getD_some,Option.getD_none,Int.cast_ofNat_Int,Int.natCast_zero,Int.natCast_nonneg,true_implies,or_true,true_or,false_or,or_false,beq_self_eq_true,exists_eq_left',Int.reduceEq,Int.reduceLT,Int.reduceLE,Int.reduceGT,Int.reduceGE,Nat.reduceGT,Int.reduceNeg,Int.reduceToNat,Int.reduceAdd,Int.reduceMul,Int.reduceSub,Int.reducePow,decide_eq_true_eq,Nat.reduceBEq,Nat.reduceSub,exists_false,xu,List.set_cons_zero,List.set_cons_succ,wrap_i64,int_lt_t,int_lt_f,int_le_t,int_le_f,int_gt_t,int_gt_f,int_ge_t,int_ge_f,int_eq_t,int_eq_f,int_beq_t,int_beq_f,int_bne_t,int_bne_f,nat_le_t,nat_le_f,Nat.sub_zero,Nat.sub_self,not_false_eq_true,not_true_eq_false,t1,m1,f1,e1]
    refine wpi_loop (fun r0 r g' => ∃ (j : Nat) (got : Int) (fd : Bool), r = [(0, .val tv), (1, .val (.int .u8 fan)), (2, .val (.imm 1 (ksOf asks) ca)), (7, .var (.agg [tb0, sv, lv, .int .i64 nx])), (8, .val (.mp mh)), (9, .val (.mp ml)), (10, .val (.int .i64 i)), (28, .val (.int .i64 k)), (29, .val (.int .i64 0)), (30, .val (.bool false)), (31, .val (.int .i64 got)), (32, .val (.bool fd)), (33, .val v), (34, .val (.int .i64 j))] ∧ j ≤ L.length ∧ r0 = L.length - j ∧ g' = g1 ∧ ((fd = false ∧ got = 0 ∧ ∀ t ∈ L.take j, hvF HT IN t.f key = none) ∨ (fd = true ∧ (L.filterMap fun t => hvF HT IN t.f key).head? = some got))) L.length (by omega) ⟨0, 0, false, rfl, by omega, by omega, rfl, .inl ⟨rfl, rfl, by simp⟩⟩ ?_
    rintro r0 r2 g2 ⟨j, got, fd, rfl, hj, rfl, rfl, hst⟩
    rcases hst with ⟨rfl, rfl, hno⟩ | ⟨rfl, hyes⟩
    · by_cases hjl : j < L.length
      · obtain ⟨c4, rfl⟩ := e2.imm (i := j) (by rw [fsOf_len]; exact hjl)
        have t2 : (fsOf L)[j]? = some (.int .i64 L[j].f) := by simp [fsOf,hjl]
        have htk : L.take (j + 1) = L.take j ++ [L[j]] := List.take_succ_eq_append_getElem hjl
        have hdr : L = L.take j ++ L[j] :: L.drop (j + 1) := by rw [← List.drop_eq_getElem_cons hjl, List.take_append_drop]
        generalize L[j] = t at t2 htk hdr
        have nxt : hvF HT IN t.f key = none → ∀ u ∈ L.take (j + 1), hvF HT IN u.f key = none := fun h u hu => by
          rw [htk] at hu
          rcases List.mem_append.1 hu with hu | hu
          · exact hno u hu
          · have : u = t := by simpa using hu
            subst this; exact h
        cases hH : tget HT t.f with
        | none =>
          have f2 := findK_no (ev := evM) encI 0 hH
          simp (maxSteps := 2000000) (discharger := omega) only [xz,xc,xo,xr,x0,x1,x2,x3,x4,x5,x6,xd,xe,xb,kont_call,kont_pure,kont_round,isNil,slOk,sliceV,selems,srcElems,copyTo,dlen,eqAV,eqCells,eqS,wr,place,partVals,partEs,placeEs,mapOf,keyOk,keyCells,findK,Bool.bne_false,Bool.bne_true,Reg.isA,Reg.isV,Reg.stays,Reg.onto,↓reduceIte,reduceCtorEq,Nat.reduceEqDiff,Nat.reduceLT,Nat.reduceAdd,Nat.reduceMul,Nat.reduceLeDiff,Nat.zero_lt_succ,Option.bind_some,Option.getD_some,Option.getD_none,Int.cast_ofNat_Int,Int.natCast_zero,Int.natCast_nonneg,true_implies,or_true,true_or,false_or,or_false,beq_self_eq_true,exists_eq_left',Int.reduceEq,Int.reduceLT,Int.reduceLE,Int.reduceGT,Int.reduceGE,Nat.reduceGT,Int.reduceNeg,Int.reduceToNat,Int.reduceAdd,Int.reduceMul,Int.reduceSub,Int.reducePow,decide_eq_true_eq,Nat.reduceBEq,Nat.reduceSub,exists_false,xu,List.set_cons_zero,List.set_cons_succ,wrap_i64,int_lt_t,int_lt_f,int_le_t,int_le_f,int_gt_t,int_gt_f,int_ge_t,int_ge_f,int_eq_t,int_eq_f,int_beq_t,int_beq_f,int_bne_t,int_bne_f,nat_le_t,nat_le_f,Nat.sub_zero,Nat.sub_self,not_false_eq_true,not_true_eq_false,lv1,t1,t2,m2,f2]
          exact ⟨L.length - (j + 1), by omega, j + 1, 0, false, rfl, by omega, rfl, .inl ⟨rfl, rfl, nxt (by simp [hvF,hH])⟩⟩
        | some id =>
          obtain ⟨j1, f2, _⟩ := findK_yes (ev := evM) encI 0 hH
          obtain ⟨b, hb⟩ := tget_mem hH
          obtain ⟨_, _, c, hI⟩ := M1.inn _ hb
          have m3 := hI.hp
          cases hv : tget (IN id) key with
          | none =>
            have f3 := findK_no (ev := iv) encS 0 hv
            simp (maxSteps := 2000000) (discharger := omega) only [xz,xc,xo,xr,x0,x1,x2,x3,x4,x5,x6,xd,xe,xb,kont_call,kont_pure,kont_round,isNil,slOk,sliceV,selems,srcElems,copyTo,dlen,eqAV,eqCells,eqS,wr,place,partVals,partEs,placeEs,mapOf,keyOk,keyCells,findK,Bool.bne_false,Bool.bne_true,Reg.isA,Reg.isV,Reg.stays,Reg.onto,↓reduceIte,reduceCtorEq,Nat.reduceEqDiff,Nat.reduceLT,Nat.reduceAdd,Nat.reduceMul,Nat.reduceLeDiff,Nat.zero_lt_succ,Option.bind_some,Option.getD_some,Option.getD_none,Int.cast_ofNat_Int,Int.natCast_zero,Int.natCast_nonneg,true_implies,or_true,true_or,false_or,or_false,beq_self_eq_true,exists_eq_left',Int.reduceEq,Int.reduceLT,Int.reduceLE,Int.reduceGT,Int.reduceGE,Nat.reduceGT,Int.reduceNeg,Int.reduceToNat,Int.reduceAdd,Int.reduceMul,Int.reduceSub,Int.reducePow,decide_eq_true_eq,Nat.reduceBEq,Nat.reduceSub,exists_false,xu,List.set_cons_zero,List.set_cons_succ,wrap_i64,int_lt_t,int_lt_f,int_le_t,int_le_f,int_gt_t,int_gt_f,int_ge_t,int_ge_f,int_eq_t,int_eq_f,int_beq_t,int_beq_f,int_bne_t,int_bne_f,nat_le_t,nat_le_f,Nat.sub_zero,Nat.sub_self,not_false_eq_true,not_true_eq_false,lv1,t1,t2,m2,m3,f2,f3]
            exact ⟨L.length - (j + 1), by omega, j + 1, 0, false, rfl, by omega, rfl, .inl ⟨rfl, rfl, nxt (by simp [hvF,hH,hv])⟩⟩
          | some y =>
            obtain ⟨j3, f3, _⟩ := findK_yes (ev := iv) encS 0 hv
            simp (maxSteps := 2000000) (discharger := omega) only [xz,xc,xo,xr,x0,x1,x2,x3,x4,x5,x6,xd,xe,xb,kont_call,kont_pure,kont_round,isNil,slOk,sliceV,selems,srcElems,copyTo,dlen,eqAV,eqCells,eqS,wr,place,partVals,partEs,placeEs,mapOf,keyOk,keyCells,findK,Bool.bne_false,Bool.bne_true,Reg.isA,Reg.isV,Reg.stays,Reg.onto,↓reduceIte,reduceCtorEq,Nat.reduceEqDiff,Nat.reduceLT,Nat.reduceAdd,Nat.reduceMul,Nat.reduceLeDiff,Nat.zero_lt_succ,Option.bind_some,Option.getD_some,Option.getD_none,Int.cast_ofNat_Int,Int.natCast_zero,Int.natCast_nonneg,true_implies,or_true,true_or,false_or,or_false,beq_self_eq_true,exists_eq_left',Int.reduceEq,Int.reduceLT,Int.reduceLE,Int.reduceGT,Int.reduceGE,Nat.reduceGT,Int.reduceNeg,Int.reduceToNat,Int.reduceAdd,Int.reduceMul,Int.reduceSub,Int.reducePow,decide_eq_true_eq,Nat.reduceBEq,Nat.reduceSub,exists_false,xu,List.set_cons_zero,List.set_cons_succ,wrap_i64,int_lt_t,int_lt_f,int_le_t,int_le_f,int_gt_t,int_gt_f,int_ge_t,int_ge_f,int_eq_t,int_eq_f,int_beq_t,int_beq_f,int_bne_t,int_bne_f,nat_le_t,nat_le_f,Nat.sub_zero,Nat.sub_self,not_false_eq_true,not_true_eq_false,lv1,t1,t2,m2,m3,f2,f3]
            refine ⟨L.length - (j + 1), by omega, j + 1, y, true, rfl, by omega, rfl, .inr ⟨rfl, ?_⟩⟩
            have hy : hvF HT IN t.f key = some y := by simp [hvF,hH,hv]
            have h0 : (L.take j).filterMap (fun t => hvF HT IN t.f key) = [] := List.filterMap_eq_nil_iff.2 hno
            rw [hdr, List.filterMap_append, h0, List.nil_append, List.filterMap_cons, hy]
            rfl
      · obtain rfl : j = L.length := by omega
        rw [List.take_length] at hno
        rw [none_head hno] at hfind
        simp (maxSteps := 2000000) (discharger := omega) only [xz,xc,xo,xr,x0,x1,x2,x3,x4,x5,x6,xd,xe,xb,kont_call,kont_pure,kont_round,isNil,slOk,sliceV,selems,srcElems,copyTo,dlen,eqAV,eqCells,eqS,wr,place,partVals,partEs,placeEs,mapOf,keyOk,keyCells,findK,Bool.bne_false,Bool.bne_true,Reg.isA,Reg.isV,Reg.stays,Reg.onto,↓reduceIte,reduceCtorEq,Nat.reduceEqDiff,Nat.reduceLT,Nat.reduceAdd,Nat.reduceMul,Nat.reduceLeDiff,Nat.zero_lt_succ,Option.bind_some,Option.getD_some,Option.getD_none,Int.cast_ofNat_Int,Int.natCast_zero,Int.natCast_nonneg,true_implies,or_true,true_or,false_or,or_false,beq_self_eq_true,exists_eq_left',Int.reduceEq,Int.reduceLT,Int.reduceLE,Int.reduceGT,Int.reduceGE,Nat.reduceGT,Int.reduceNeg,Int.reduceToNat,Int.reduceAdd,Int.reduceMul,Int.reduceSub,Int.reducePow,decide_eq_true_eq,Nat.reduceBEq,Nat.reduceSub,exists_false,xu,List.set_cons_zero,List.set_cons_succ,wrap_i64,int_lt_t,int_lt_f,int_le_t,int_le_f,int_gt_t,int_gt_f,int_ge_t,int_ge_f,int_eq_t,int_eq_f,int_beq_t,int_beq_f,int_bne_t,int_bne_f,nat_le_t,nat_le_f,Nat.sub_zero,Nat.sub_self,not_false_eq_true,not_true_eq_false,lv1]
        exact ⟨e3, _, rfl⟩
    · rw [hyes] at hfind
      simp at hfind
end
end Go.Proofs.Ytabpndekmpjmhaa.Im

/- S14Ta: the law, step by step: the edits are done. -/
set_option linter.unusedVariables false
set_option linter.unusedSimpArgs false
open Go Go.Im
namespace Go.Proofs.Ytabpndekmpjmhaa.Im

structure Lv (g : Hp) (u : AV) (mh ml : Nat) (s : Ste) (HT : HTt) (cH : Nat) (LT : LTt) (cL : Nat) (IN : Nat → LTt) (i : Nat) (tns : List Tn) : Prop where
  st : StAt g 0 s u
  sr : s.sr = []
  lg : s.lg = []
  mp : Mp g mh ml HT cH LT cL IN
  inv : Inv s.tb (hvF HT IN) (tget LT) i (fun k => k ∈ keysOf (tns.take i))
  hf : ∀ t ∈ HT, t.1 ≤ i
  len : s.tb.length ≤ i

theorem stAt_keep {g g' : Hp} {lo : Nat} {s : Ste} {u : AV} {X : List Nat} (S : StAt g lo s u) (k : KX X g g') (hX : ∀ j ∈ X, ∀ sz es, g[j]? ≠ some (.row sz es)) : StAt g' 0 s u := by
  obtain ⟨a, b, c, rfl, r1, r2, r3⟩ := S
  have kp : ∀ {sz : Nat} {es : List AV} {v : AV}, RowAt g sz lo es v → RowAt g' sz 0 es v := fun r => by
    rcases r with h | ⟨id, post, h1, h2, h3⟩
    · exact .inl h
    · exact .inr ⟨id, post, h1, k.2 _ _ (fun hm => hX id hm _ _ h2) h2, Nat.zero_le _⟩
  exact ⟨a, b, c, rfl, kp r1, kp r2, kp r3⟩

def KS (g g' : Hp) : Prop := ∀ (id : Nat) (o : AO), g[id]? = some o → o.solid = true → g'[id]? = some o
theorem KS.of {g g' : Hp} (k : KeepLo g.length g g') : KS g g' := fun id o h _ => k.2 id o (List.getElem?_eq_some_iff.1 h).1 h
theorem stAt_ks {g g' : Hp} {lo : Nat} {s : Ste} {u : AV} (S : StAt g lo s u) (k : KS g g') : StAt g' 0 s u := by
  obtain ⟨a, b, c, rfl, r1, r2, r3⟩ := S
  have kp : ∀ {sz : Nat} {es : List AV} {v : AV}, RowAt g sz lo es v → RowAt g' sz 0 es v := fun r => by
    rcases r with h | ⟨id, post, h1, h2, h3⟩
    · exact .inl h
    · exact .inr ⟨id, post, h1, k _ _ h2 rfl, Nat.zero_le _⟩
  exact ⟨a, b, c, rfl, kp r1, kp r2, kp r3⟩
theorem mapH_ks {κ ν : Type} [DecidableEq κ] {ek : κ → AV} {ev : ν → AV} {h h' : Hp} {id c : Nat} {T : List (κ × ν × Nat)} (M : MapH h id ek ev T c) (k : KS h h') : MapH h' id ek ev T c := M.keep ((k _ _ M.hp rfl).trans M.hp.symm)
theorem mp_ks {g g' : Hp} {mh ml cH cL : Nat} {HT : HTt} {LT : LTt} {IN : Nat → LTt} (M : Mp g mh ml HT cH LT cL IN) (k : KS g g') : Mp g' mh ml HT cH LT cL IN :=
  ⟨mapH_ks M.hh k, mapH_ks M.hl k, M.ne, fun t ht => by
    obtain ⟨a, b, c, d⟩ := M.inn t ht
    exact ⟨a, b, c, mapH_ks d k⟩⟩

section
variable {ω : Nat → Nat} {n : Nat} {tv av u ed : AV} {mh ml me cH cL cE : Nat} {fan i : Nat} {HT : HTt} {LT E : LTt} {IN : Nat → LTt} {g : Hp} {asks : List By} {s : Ste} {fs : List Int} {l : Int} {lo hi : By} {tns : List Tn}

set_option maxHeartbeats 4000000 in
theorem w_c (hask : IsRd 1 (ksOf asks) av) (ha50 : asks.length ≤ 50) (hi100 : i ≤ 100) (hn : 3000 < n) (M : Mp g mh ml HT cH LT cL IN) (hE : MapH g me eS iv E cE) (hme : me ≠ mh ∧ me ≠ ml ∧ ∀ t ∈ HT, t.2.1 ≠ me) (hf : ∀ t ∈ HT, t.1 ≤ i)
    (hst : StAt g 0 s u) (hsok : s.ok) (hsz : s.sz ≤ 100) (ie : IsApp 6 (edsOf (fs.map drp)) g ed) (hfs : fs.length ≤ 400) (hfx : ∀ f ∈ fs, f ≤ 1000) (ex : Regs) (hex : ex = [] ∨ ∃ z1 z2, ex = [(14, z1), (97, z2)])
    (hbad : ∀ c e, 1 ≤ c → ¬ RunErr s (fs.map drp ++ [⟨1, (i : Int) + 1, l, c, lo, hi⟩]) e)
    (hgood : ∀ c s', 1 ≤ c → RunsTo s (fs.map drp ++ [⟨1, (i : Int) + 1, l, c, lo, hi⟩]) s' → Inv s'.tb (hvF (HT ++ [((i : Int) + 1, me, cH)]) (fun id => if id = me then E else IN id)) (tget LT) ((i + 1 : Nat) : Int) (fun k => k ∈ keysOf (tns.take (i + 1))) ∧ s'.sr = [] ∧ s'.lg = [] ∧ s'.tb.length ≤ i + 1) :
    Wp (kont F n true ω) n w3c ([(0, .val tv), (1, .val (.int .u8 fan)), (2, .val av), (7, .var u), (8, .val (.mp mh)), (9, .val (.mp ml)), (10, .val (.int .i64 i)), (11, .val (.mp me)), (12, .val ed), (13, .var (edOf ⟨1, (i : Int) + 1, l, 0, lo, hi⟩))] ++ ex) g
      (fun e r g' => e = .normal ∧ ∃ u' s' HT' cH' IN' z1 z2, r = [(0, .val tv), (1, .val (.int .u8 fan)), (2, .val av), (7, .var u'), (8, .val (.mp mh)), (9, .val (.mp ml)), (10, .val (.int .i64 i)), (28, z1), (233, z2)] ∧ Lv g' u' mh ml s' HT' cH' LT cL IN' (i + 1) tns) := by
  unfold w3c edOf
  have e1 := hE.hp
  obtain ⟨cc, hcc⟩ : ∃ cc : Int, cc = if ((E.length : Nat) : Int) > 1 then ((E.length : Nat) : Int) else 1 := ⟨_, rfl⟩
  have hc1 : 1 ≤ cc := by rw [hcc]; split <;> omega
  obtain ⟨x, hx⟩ : ∃ x : Ed, x = ⟨1, (i : Int) + 1, l, cc, lo, hi⟩ := ⟨_, rfl⟩
  obtain ⟨ed', g1, a1, a2, a3, a4, _⟩ := app_ok (bytes := 64) (xs := [edOf x]) ie (by simp) (by simp [edsOf]; omega)
  have hdr : edOf x = .agg [.int .i64 1, .int .i64 ((i : Int) + 1), .int .i64 l, .int .i64 cc, .str lo, .str hi] := by rw [hx]; rfl
  rw [hdr] at a1
  have a2 : IsApp 6 (edsOf (fs.map drp ++ [x])) g1 ed' := by simpa [edsOf] using a2
  have S1 := stAt_ks hst a3
  have M1 := mp_ks M a3
  have E1 := mapH_ks hE a3
  obtain ⟨v', g2, k1, kp2, u2, er, rfl, hcase⟩ := c6 (tot := true) (ω := ω) (n := n) s u ed' (fs.map drp ++ [x]) 0 g1 S1 (isRd_app a2) hsok (by simp; omega) (fun y hy => by
    rcases List.mem_append.1 hy with h | h
    · obtain ⟨f, hf1, rfl⟩ := List.mem_map.1 h
      have := hfx f hf1
      simp only [drp]; omega
    · have : y = x := by simpa using h
      subst this
      simp only [hx]; omega) (by simp; omega)
  obtain ⟨rfl, s', st2, hrun⟩ : er = 0 ∧ ∃ s', StAt g2 g1.length s' u2 ∧ RunsTo s (fs.map drp ++ [x]) s' := by
    rcases hcase with h | ⟨_, _, hrun⟩
    · exact h
    · rw [hx] at hrun; exact absurd hrun (hbad cc _ hc1)
  rw [hx] at hrun
  obtain ⟨gi, gs, gl, gn⟩ := hgood cc s' hc1 hrun
  have M2 := mp_ks M1 (.of kp2)
  have E2 := mapH_ks E1 (.of kp2)
  have hno : tget HT ((i : Int) + 1) = none := tget_none.2 fun t ht e => by have := hf t ht; omega
  have f1 := findK_no (ev := evM) encI 0 hno
  have m2 := M2.hh.hp
  have ad := M2.hh.add hno me
  obtain ⟨g3, hg3⟩ : ∃ g3, g3 = g2.set mh (.map (encE eI evM HT ++ [(eI ((i : Int) + 1), evM me, cH)]) (cH + 1)) := ⟨_, rfl⟩
  rw [← hg3] at ad
  have ks3 : ∀ (id : Nat) (o : AO), id ≠ mh → g2[id]? = some o → g3[id]? = some o := fun id o h1 h2 => by rw [hg3, List.getElem?_set_ne (Ne.symm h1)]; exact h2
  have M3 : Mp g3 mh ml (HT ++ [((i : Int) + 1, me, cH)]) (cH + 1) LT cL (fun id => if id = me then E else IN id) := by
    refine ⟨ad, M2.hl.keep ((ks3 _ _ (Ne.symm M2.ne) M2.hl.hp).trans M2.hl.hp.symm), M2.ne, fun t ht => ?_⟩
    rcases List.mem_append.1 ht with ht | ht
    · obtain ⟨b1, b2, c, b3⟩ := M2.inn t ht
      refine ⟨b1, b2, c, ?_⟩
      simp only [if_neg (hme.2.2 t ht)]
      exact b3.keep ((ks3 _ _ b1 b3.hp).trans b3.hp.symm)
    · have : t = ((i : Int) + 1, me, cH) := by simpa using ht
      subst this
      refine ⟨hme.1, hme.2.1, cE, ?_⟩
      simp only [if_true]
      exact E2.keep ((ks3 _ _ hme.1 E2.hp).trans E2.hp.symm)
  have st3 : StAt g3 0 s' u2 := stAt_keep (X := [mh]) st2 ⟨by rw [hg3]; simp, fun id o h1 h2 => ks3 id o (by simpa using h1) h2⟩ (fun j hj sz es e => by
    have : j = mh := by simpa using hj
    subst this
    rw [m2] at e; cases e)
  have L3 : ∀ g4, KeepLo g3.length g3 g4 → Lv g4 u2 mh ml s' (HT ++ [((i : Int) + 1, me, cH)]) (cH + 1) LT cL (fun id => if id = me then E else IN id) (i + 1) tns := fun g4 k4 =>
    ⟨stAt_ks st3 (.of k4), gs, gl, mp_ks M3 (.of k4), gi, fun t ht => by
      rcases List.mem_append.1 ht with ht | ht
      · have := hf t ht; omega
      · have : t = ((i : Int) + 1, me, cH) := by simpa using ht
        subst this; simp, gn⟩
  obtain ⟨tb1, sv1, lv1, rfl, r1, r2, r3⟩ := st3
  obtain ⟨tb0, sv0, lv0, rfl, q1, q2, q3⟩ := hst
  have ir := ie.isRow
  have la := ks_len hask
  rcases hex with rfl | ⟨z1, z2, rfl⟩
  all_goals
    simp (maxSteps := 2000000) (discharger := omega) only [xz,xc,xo,xr,x0,x1,x2,x3,x4,x5,x6,xd,xe,xb,kont_call,kont_pure,kont_round,isNil,slOk,sliceV,selems,srcElems,copyTo,dlen,eqAV,eqCells,eqS,wr,place,partVals,partEs,placeEs,mapOf,keyOk,keyCells,findK,Bool.bne_false,Bool.bne_true,Reg.isA,Reg.isV,Reg.stays,Reg.onto,↓reduceIte,reduceCtorEq,Nat.reduceEqDiff,Nat.reduceLT,Nat.reduceAdd,Nat.reduceMul,Nat.reduceLeDiff,Nat.zero_lt_succ,Option.bind_some,Option.getD_some,Option.getD_none,Int.cast_ofNat_Int,Int.natCast_zero,Int.natCast_nonneg,true_implies,or_true,true_or,false_or,or_false,beq_self_eq_true,exists_eq_left',Int.reduceEq,Int.reduceLT,Int.reduceLE,Int.reduceGT,Int.reduceGE,Nat.reduceGT,Int.reduceNeg,Int.reduceToNat,Int.reduceAdd,Int.reduceMul,Int.reduceSub,Int.reducePow,decide_eq_true_eq,Nat.reduceBEq,Nat.reduceSub,exists_false,xu,List.set_cons_zero,List.set_cons_succ,wrap_i64,int_lt_t,int_lt_f,int_le_t,int_le_f,int_gt_t,int_gt_f,int_ge_t,int_ge_f,int_eq_t,int_eq_f,int_beq_t,int_beq_f,int_bne_t,int_bne_f,nat_le_t,nat_le_f,Nat.sub_zero,Nat.sub_self,not_false_eq_true,not_true_eq_false,e1,encE_len,← hcc,a1,ir,k1,m2,f1,← hg3,la,List.replicate_succ,List.replicate_zero]
    refine wpi_loop (fun r0 r g' => ∃ (k : Nat), r = [(0, .val tv), (1, .val (.int .u8 fan)), (2, .val av), (7, .var (.agg [tb1, sv1, lv1, .int .i64 s'.nx])), (8, .val (.mp mh)), (9, .val (.mp ml)), (10, .val (.int .i64 i)), (28, .val (.int .i64 k))] ∧ k ≤ asks.length ∧ r0 = asks.length - k ∧ KeepLo g3.length g3 g') asks.length (by omega) ⟨0, rfl, by omega, by omega, .refl⟩ ?_
    rintro r0 r4 g4 ⟨k, rfl, hk, rfl, kp4⟩
    by_cases hkl : k < asks.length
    · have L4 := L3 g4 kp4
      have r1' : RowAt g4 5 0 (s'.tb.map tbOf) tb1 := by
        rcases r1 with h | ⟨id, post, h1, h2, h3⟩
        · exact .inl h
        · exact .inr ⟨id, post, h1, kp4.2 _ _ (List.getElem?_eq_some_iff.1 h2).1 h2, h3⟩
      have we := w_e (ω := ω) (n := n) (tv := tv) (sv := sv1) (lv := lv1) (nx := s'.nx) (fan := fan) (i := i) hask hkl (by omega) L4.mp r1' L4.inv (by omega)
      simp (maxSteps := 2000000) (discharger := omega) only [xz,xc,xo,xr,x0,x1,x2,x3,x4,x5,x6,xd,xe,xb,kont_call,kont_pure,kont_round,isNil,slOk,sliceV,selems,srcElems,copyTo,dlen,eqAV,eqCells,eqS,wr,place,partVals,partEs,placeEs,mapOf,keyOk,keyCells,findK,Bool.bne_false,Bool.bne_true,Reg.isA,Reg.isV,Reg.stays,Reg.onto,↓reduceIte,reduceCtorEq,Nat.reduceEqDiff,Nat.reduceLT,Nat.reduceAdd,Nat.reduceMul,Nat.reduceLeDiff,Nat.zero_lt_succ,Option.bind_some,Option.getD_some,Option.getD_none,Int.cast_ofNat_Int,Int.natCast_zero,Int.natCast_nonneg,true_implies,or_true,true_or,false_or,or_false,beq_self_eq_true,exists_eq_left',Int.reduceEq,Int.reduceLT,Int.reduceLE,Int.reduceGT,Int.reduceGE,Nat.reduceGT,Int.reduceNeg,Int.reduceToNat,Int.reduceAdd,Int.reduceMul,Int.reduceSub,Int.reducePow,decide_eq_true_eq,Nat.reduceBEq,Nat.reduceSub,exists_false,xu,List.set_cons_zero,List.set_cons_succ,wrap_i64,int_lt_t,int_lt_f,int_le_t,int_le_f,int_gt_t,int_gt_f,int_ge_t,int_ge_f,int_eq_t,int_eq_f,int_beq_t,int_beq_f,int_bne_t,int_bne_f,nat_le_t,nat_le_f,Nat.sub_zero,Nat.sub_self,not_false_eq_true,not_true_eq_false,la]
      refine we.mono ?_
      rintro e r g5 ⟨rfl, kp5, z, rfl⟩
      simp (maxSteps := 2000000) (discharger := omega) only [xz,xc,xo,xr,x0,x1,x2,x3,x4,x5,x6,xd,xe,xb,kont_call,kont_pure,kont_round,isNil,slOk,sliceV,selems,srcElems,copyTo,dlen,eqAV,eqCells,eqS,wr,place,partVals,partEs,placeEs,mapOf,keyOk,keyCells,findK,Bool.bne_false,Bool.bne_true,Reg.isA,Reg.isV,Reg.stays,Reg.onto,↓reduceIte,reduceCtorEq,Nat.reduceEqDiff,Nat.reduceLT,Nat.reduceAdd,Nat.reduceMul,Nat.reduceLeDiff,Nat.zero_lt_succ,Option.bind_some,Option.getD_some,Option.getD_none,Int.cast_ofNat_Int,Int.natCast_zero,Int.natCast_nonneg,true_implies,or_true,true_or,false_or,or_false,beq_self_eq_true,exists_eq_left',Int.reduceEq,Int.reduceLT,Int.reduceLE,Int.reduceGT,Int.reduceGE,Nat.reduceGT,Int.reduceNeg,Int.reduceToNat,Int.reduceAdd,Int.reduceMul,Int.reduceSub,Int.reducePow,decide_eq_true_eq,Nat.reduceBEq,Nat.reduceSub,exists_false,xu,List.set_cons_zero,List.set_cons_succ,wrap_i64,int_lt_t,int_lt_f,int_le_t,int_le_f,int_gt_t,int_gt_f,int_ge_t,int_ge_f,int_eq_t,int_eq_f,int_beq_t,int_beq_f,int_bne_t,int_bne_f,nat_le_t,nat_le_f,Nat.sub_zero,Nat.sub_self,not_false_eq_true,not_true_eq_false]
      exact ⟨asks.length - (k + 1), by omega, k + 1, rfl, by omega, rfl, ⟨Nat.le_trans kp4.1 kp5.1, fun a b h1 h2 => kp5.2 a b (by have := kp4.1; omega) (kp4.2 a b h1 h2)⟩⟩
    · obtain rfl : k = asks.length := by omega
      simp (maxSteps := 2000000) (discharger := omega) only [xz,xc,xo,xr,x0,x1,x2,x3,x4,x5,x6,xd,xe,xb,kont_call,kont_pure,kont_round,isNil,slOk,sliceV,selems,srcElems,copyTo,dlen,eqAV,eqCells,eqS,wr,place,partVals,partEs,placeEs,mapOf,keyOk,keyCells,findK,Bool.bne_false,Bool.bne_true,Reg.isA,Reg.isV,Reg.stays,Reg.onto,↓reduceIte,reduceCtorEq,Nat.reduceEqDiff,Nat.reduceLT,Nat.reduceAdd,Nat.reduceMul,Nat.reduceLeDiff,Nat.zero_lt_succ,Option.bind_some,Option.getD_some,Option.getD_none,Int.cast_ofNat_Int,Int.natCast_zero,Int.natCast_nonneg,true_implies,or_true,true_or,false_or,or_false,beq_self_eq_true,exists_eq_left',Int.reduceEq,Int.reduceLT,Int.reduceLE,Int.reduceGT,Int.reduceGE,Nat.reduceGT,Int.reduceNeg,Int.reduceToNat,Int.reduceAdd,Int.reduceMul,Int.reduceSub,Int.reducePow,decide_eq_true_eq,Nat.reduceBEq,Nat.reduceSub,exists_false,xu,List.set_cons_zero,List.set_cons_succ,wrap_i64,int_lt_t,int_lt_f,int_le_t,int_le_f,int_gt_t,int_gt_f,int_ge_t,int_ge_f,int_eq_t,int_eq_f,int_beq_t,int_beq_f,int_bne_t,int_bne_f,nat_le_t,nat_le_f,Nat.sub_zero,Nat.sub_self,not_false_eq_true,not_true_eq_false,la]
      exact ⟨_, s', _, _, _, _, _, rfl, L3 g4 kp4⟩
end
end Go.Proofs.Ytabpndekmpjmhaa.Im

/- Joined: S21Bd, S21Fd. -/
import Derived.Test.YtpgmohjmpaifbaaDoorDi
import Derived.Test.YtpgmohjmpaifbaaDoorCa
import Derived.Sort.LotA
/- S21Bd: the reference's tree of files. -/
set_option linter.unusedVariables false
set_option linter.unusedSimpArgs false
open Go Go.Im Go.Sort
namespace Go.Proofs.YtpgmohjmpaifbaaDoor.Im

theorem fl_get' {fs : List Fl} {i : Nat} (hi : i < fs.length) : (fs.map Fl.av)[i]? = some (.agg [.str fs[i].p, fs[i].v]) := by simp [hi,Fl.av]
theorem wrap64_tmod (x m : Int) (hm : 0 < m) : 0 ≤ (IntKind.u64.wrap x).tmod m ∧ (IntKind.u64.wrap x).tmod m < m := by
  have h : 0 ≤ IntKind.u64.wrap x := by
    have : IntKind.u64.wrap x = x % 18446744073709551616 := by simp [IntKind.wrap,IntKind.signed,IntKind.bits]
    rw [this]; omega
  rw [tmod_pos h]
  exact ⟨Int.emod_nonneg _ (by omega), Int.emod_lt_of_pos _ hm⟩

section
variable {n : Nat} {tot : Bool} {ω : Nat → Nat} {h : Hp}

theorem c16 (y0 y1 y2 y3 y4 y5 y6 y7 y11 : AV) (l m M : Int) (hy : y0.notTup = true) (hn : 0 < n) :
    ∃ c' l' m' M', call F n tot ω 16 [.agg [y0, y1, y2, y3, y4, y5, y6, y7, .int .i64 l, .int .i64 m, .int .i64 M, y11]] h = some (c', h) ∧ Cf c' l' m' M' ∧ 1 ≤ m' ∧ m' ≤ 1000 ∧ c'.notTup = true := by
  obtain ⟨n, rfl⟩ : ∃ m, n = m + 1 := ⟨n - 1, by omega⟩
  obtain ⟨a1, a2⟩ := wrap64_tmod l 64 (by decide)
  obtain ⟨b1, b2⟩ := wrap64_tmod m 256 (by decide)
  obtain ⟨d1, d2⟩ := wrap64_tmod M 512 (by decide)
  obtain ⟨tl, htl⟩ : ∃ tl, (IntKind.u64.wrap l).tmod 64 = tl := ⟨_, rfl⟩
  obtain ⟨tm, htm⟩ : ∃ tm, (IntKind.u64.wrap m).tmod 256 = tm := ⟨_, rfl⟩
  obtain ⟨tM, htM⟩ : ∃ tM, (IntKind.u64.wrap M).tmod 512 = tM := ⟨_, rfl⟩
  rw [htl] at a1 a2
  rw [htm] at b1 b2
  rw [htM] at d1 d2
  suffices hx : ∃ u h', call F (n + 1) tot ω 16 [.agg [y0, y1, y2, y3, y4, y5, y6, y7, .int .i64 l, .int .i64 m, .int .i64 M, y11]] h = some (u, h') ∧ h' = h ∧ u = .agg [y0, y1, y2, y3, y4, y5, y6, y7, .int .i64 (1 + tl), .int .i64 (1 + tm), .int .i64 (1 + tl + tM), y11] by
    obtain ⟨u, h', e1, rfl, rfl⟩ := hx
    exact ⟨_, _, _, _, e1, ⟨_, rfl, rfl, rfl, rfl, rfl⟩, by omega, by omega, rfl⟩
  refine call_of (fn := a16) f16 (P := fun u h' => h' = h ∧ u = .agg [y0, y1, y2, y3, y4, y5, y6, y7, .int .i64 (1 + tl), .int .i64 (1 + tm), .int .i64 (1 + tl + tM), y11]) ?_
  unfold a16
  simp (maxSteps := 2000000) (discharger := omega) only [xc,xo,xr,x0,x1,x2,x3,x4,x5,x6,xd,xe,xb,kont_call,kont_pure,kont_round,isNil,slOk,sliceV,selems,srcElems,copyTo,dlen,eqAV,eqCells,eqS,wr,place,partVals,partEs,placeEs,mapOf,keyOk,keyCells,findK,Bool.bne_false,Bool.bne_true,List.drop_zero,List.nil_append,List.append_nil,List.take_zero,List.cons_append,List.take_succ_cons,List.drop_succ_cons,List.take_nil,List.drop_nil,Reg.isA,Reg.isV,Reg.stays,Reg.onto,Bool.false_or,Bool.or_false,Bool.false_and,Bool.and_false,Bool.true_and,Bool.and_true,Bool.or_true,Bool.true_or,↓reduceIte,reduceCtorEq,Nat.reduceEqDiff,Nat.reduceLT,Nat.reduceAdd,Nat.reduceMul,Nat.add_zero,Nat.zero_add,Nat.not_lt_zero,Nat.zero_ne_one,Nat.one_ne_zero,Nat.reduceLeDiff,Nat.lt_irrefl,Nat.zero_lt_succ,Bool.false_eq_true,Bool.not_true,Bool.not_false,Option.map_some,Option.map_none,Option.bind_some,Option.getD_some,Option.getD_none,and_self,and_true,true_and,List.length_cons,List.length_nil,List.any_nil,List.any_cons,Int.toNat_natCast,Int.cast_ofNat_Int,Int.natCast_zero,Int.natCast_nonneg,true_implies,or_true,true_or,false_or,or_false,beq_self_eq_true,Option.some.injEq,exists_eq_left',Int.reduceEq,Int.reduceLT,Int.reduceLE,Int.reduceGT,Int.reduceGE,Nat.reduceGT,Int.reduceNeg,Int.reduceToNat,Int.reduceAdd,Int.reduceMul,Int.reduceSub,Int.reducePow,decide_true,decide_false,decide_eq_true_eq,List.getElem?_cons_zero,List.getElem?_cons_succ,Nat.reduceBEq,Nat.reduceSub,exists_false,and_false,false_and,xu,List.set_cons_zero,List.set_cons_succ,wrap_i64,int_lt_t,int_lt_f,int_le_t,int_le_f,int_gt_t,int_gt_f,int_ge_t,int_ge_f,int_eq_t,int_eq_f,int_beq_t,int_beq_f,int_bne_t,int_bne_f,nat_le_t,nat_le_f,Nat.sub_zero,Nat.sub_self,not_false_eq_true,not_true_eq_false,htl,htm,htM]

theorem keepR_below2 {lo : Nat} {h h' : Hp} (k : KeepR lo 2 h h') (hl : lo ≤ h.length) : Below lo h h' := ⟨k.1, fun i hi => by
  have e : h[i]? = some h[i] := List.getElem?_eq_getElem (by omega)
  rw [e]; exact k.2 i _ e (.inl hi)⟩

theorem c49 (a : AV) (fs : List Fl) (ha : IsRd 2 (fs.map Fl.av) a) (hok : ∀ f ∈ fs, f.ok) (hl : fs.length ≤ 1000000) (hn : fs.length + 10 < n) :
    ∃ (v : AV) (m : Hp) (gs : List Fl), call F n tot ω 49 [a] h = some (v, h ++ m) ∧ RowEx (h ++ m) 2 h.length (gs.map Fl.av) v ∧ gs.Perm fs := by
  obtain ⟨n, rfl⟩ : ∃ m, n = m + 1 := ⟨n - 1, by omega⟩
  suffices hx : ∃ u h', call F (n + 1) tot ω 49 [a] h = some (u, h') ∧ ∃ (gs : List Fl), Below h.length h h' ∧ RowEx h' 2 h.length (gs.map Fl.av) u ∧ gs.Perm fs by
    obtain ⟨u, h', e1, gs, b1, b2, b3⟩ := hx
    have e : h' = h ++ h'.drop h.length := by
      have : h'.take h.length = h := by
        apply List.ext_getElem?
        intro i
        rw [List.getElem?_take]
        by_cases hi : i < h.length
        · rw [if_pos hi]; exact b1.2 i hi
        · rw [if_neg hi, List.getElem?_eq_none (by omega)]
      conv => lhs; rw [← List.take_append_drop h.length h', this]
    rw [e] at e1 b2
    exact ⟨u, _, gs, e1, b2, b3⟩
  refine call_of (fn := a49) f49 (P := fun u h' => ∃ (gs : List Fl), Below h.length h h' ∧ RowEx h' 2 h.length (gs.map Fl.av) u ∧ gs.Perm fs) ?_
  unfold a49
  have hlen := ha.len
  rw [List.length_map] at hlen
  simp (maxSteps := 2000000) (discharger := omega) only [xc,xo,xr,x0,x1,x2,x3,x4,x5,x6,xd,xe,xb,kont_call,kont_pure,kont_round,isNil,slOk,sliceV,selems,srcElems,copyTo,dlen,eqAV,eqCells,eqS,wr,place,partVals,partEs,placeEs,mapOf,keyOk,keyCells,findK,Bool.bne_false,Bool.bne_true,List.drop_zero,List.nil_append,List.append_nil,List.take_zero,List.cons_append,List.take_succ_cons,List.drop_succ_cons,List.take_nil,List.drop_nil,Reg.isA,Reg.isV,Reg.stays,Reg.onto,Bool.false_or,Bool.or_false,Bool.false_and,Bool.and_false,Bool.true_and,Bool.and_true,Bool.or_true,Bool.true_or,↓reduceIte,reduceCtorEq,Nat.reduceEqDiff,Nat.reduceLT,Nat.reduceAdd,Nat.reduceMul,Nat.add_zero,Nat.zero_add,Nat.not_lt_zero,Nat.zero_ne_one,Nat.one_ne_zero,Nat.reduceLeDiff,Nat.lt_irrefl,Nat.zero_lt_succ,Bool.false_eq_true,Bool.not_true,Bool.not_false,Option.map_some,Option.map_none,Option.bind_some,Option.getD_some,Option.getD_none,and_self,and_true,true_and,List.length_cons,List.length_nil,List.any_nil,List.any_cons,Int.toNat_natCast,Int.cast_ofNat_Int,Int.natCast_zero,Int.natCast_nonneg,true_implies,or_true,true_or,false_or,or_false,beq_self_eq_true,Option.some.injEq,exists_eq_left',Int.reduceEq,Int.reduceLT,Int.reduceLE,Int.reduceGT,Int.reduceGE,Nat.reduceGT,Int.reduceNeg,Int.reduceToNat,Int.reduceAdd,Int.reduceMul,Int.reduceSub,Int.reducePow,decide_true,decide_false,decide_eq_true_eq,List.getElem?_cons_zero,List.getElem?_cons_succ,Nat.reduceBEq,Nat.reduceSub,exists_false,and_false,false_and,xu,List.set_cons_zero,List.set_cons_succ,wrap_i64,int_lt_t,int_lt_f,int_le_t,int_le_f,int_gt_t,int_gt_f,int_ge_t,int_ge_f,int_eq_t,int_eq_f,int_beq_t,int_beq_f,int_bne_t,int_bne_f,nat_le_t,nat_le_f,Nat.sub_zero,Nat.sub_self,not_false_eq_true,not_true_eq_false,hlen]
  refine wpi_loop (fun x r g => ∃ (i : Nat) (lv : AV) (gs : List Fl), r = [(0, .val a), (3, .val lv), (4, .val (.int .i64 i))] ∧ x = fs.length - i ∧ i ≤ fs.length ∧ Below h.length h g ∧ RowEx g 2 h.length (gs.map Fl.av) lv ∧ gs.Perm (fs.take i)) fs.length (by omega)
    ⟨0, .nils, [], rfl, rfl, Nat.zero_le _, .refl _ _, .inl ⟨rfl, rfl⟩, .refl _⟩ ?_
  rintro x r g ⟨i, lv, gs, rfl, rfl, hi, hB, hR, hP⟩
  have hgl : gs.length = i := by rw [hP.length_eq, List.length_take]; omega
  by_cases hlt : i < fs.length
  · obtain ⟨cv, rfl⟩ := ha.imm (i := i) (by simpa using hlt)
    have q1 := fl_get' hlt
    have hf := hok _ (List.getElem_mem hlt)
    have hR2 : RowEx (g ++ [.row 2 [.agg [.str fs[i].p, fs[i].v]]]) 2 h.length (gs.map Fl.av) lv := hR.more
    obtain ⟨v', h2, w1, w2, w3⟩ := row_appx (bytes := 40) (xs := [.agg [.str fs[i].p, fs[i].v]]) hR2 (by simp [hgl]; omega) (by have := hB.1; simp; omega)
    have hB2 : Below h.length h h2 := hB.trans ((Below.app _ _ _ hB.1).trans (keepR_below2 w3 (by have := hB.1; simp; omega)))
    have hP2 : (gs ++ [fs[i]]).Perm (fs.take (i + 1)) := by rw [List.take_succ_eq_append_getElem hlt]; exact hP.append_right _
    have w2' : RowEx h2 2 h.length ((gs ++ [fs[i]]).map Fl.av) v' := by rw [List.map_append]; exact w2
    rcases w2' with ⟨_, e0⟩ | ⟨id, rfl, hid, hlo⟩
    · have := congrArg List.length e0
      simp at this
    · have hidf : h2[id]? = some (.row 2 (Full Fl.av [] [] (gs ++ [fs[i]]).toArray)) := by rw [hid]; simp [Full]
      have hsz : (gs ++ [fs[i]]).toArray.size = i + 1 := by simp [hgl]
      have hP3 : (gs ++ [fs[i]]).toArray.toList.Perm (fs.take (i + 1)) := by simpa using hP2
      generalize (gs ++ [fs[i]]).toArray = d at hidf hsz hP3
      have e1 : ((i + 1 : Nat) : Int) - 1 = ((i : Nat) : Int) := by omega
      rw [List.length_map, List.length_append, hgl] at w1
      simp (maxSteps := 2000000) (discharger := omega) only [xc,xo,xr,x0,x1,x2,x3,x4,x5,x6,xd,xe,xb,kont_call,kont_pure,kont_round,isNil,slOk,sliceV,selems,srcElems,copyTo,dlen,eqAV,eqCells,eqS,wr,place,partVals,partEs,placeEs,mapOf,keyOk,keyCells,findK,Bool.bne_false,Bool.bne_true,List.drop_zero,List.nil_append,List.append_nil,List.take_zero,List.cons_append,List.take_succ_cons,List.drop_succ_cons,List.take_nil,List.drop_nil,Reg.isA,Reg.isV,Reg.stays,Reg.onto,Bool.false_or,Bool.or_false,Bool.false_and,Bool.and_false,Bool.true_and,Bool.and_true,Bool.or_true,Bool.true_or,↓reduceIte,reduceCtorEq,Nat.reduceEqDiff,Nat.reduceLT,Nat.reduceAdd,Nat.reduceMul,Nat.add_zero,Nat.zero_add,Nat.not_lt_zero,Nat.zero_ne_one,Nat.one_ne_zero,Nat.reduceLeDiff,Nat.lt_irrefl,Nat.zero_lt_succ,Bool.false_eq_true,Bool.not_true,Bool.not_false,Option.map_some,Option.map_none,Option.bind_some,Option.getD_some,Option.getD_none,and_self,and_true,true_and,List.length_cons,List.length_nil,List.any_nil,List.any_cons,Int.toNat_natCast,Int.cast_ofNat_Int,Int.natCast_zero,Int.natCast_nonneg,true_implies,or_true,true_or,false_or,or_false,beq_self_eq_true,Option.some.injEq,exists_eq_left',Int.reduceEq,Int.reduceLT,Int.reduceLE,Int.reduceGT,Int.reduceGE,Nat.reduceGT,Int.reduceNeg,Int.reduceToNat,Int.reduceAdd,Int.reduceMul,Int.reduceSub,Int.reducePow,decide_true,decide_false,decide_eq_true_eq,List.getElem?_cons_zero,List.getElem?_cons_succ,Nat.reduceBEq,Nat.reduceSub,exists_false,and_false,false_and,xu,List.set_cons_zero,List.set_cons_succ,wrap_i64,int_lt_t,int_lt_f,int_le_t,int_le_f,int_gt_t,int_gt_f,int_ge_t,int_ge_f,int_eq_t,int_eq_f,int_beq_t,int_beq_f,int_bne_t,int_bne_f,nat_le_t,nat_le_f,Nat.sub_zero,Nat.sub_self,not_false_eq_true,not_true_eq_false,hlen,q1,hg0,w1,List.replicate,List.set_cons_zero,e1,List.length_map]
      refine wpi_loop (fun x r g2 => ∃ (j : Nat) (d : Array Fl), r = [(0, .val (.imm 2 (fs.map Fl.av) cv)), (3, .val (.row id 2 0 (i + 1) false)), (4, .val (.int .i64 i)), (5, .val (.int .i64 j))] ∧ j = x ∧ j ≤ i ∧ d.size = i + 1 ∧ g2[id]? = some (.row 2 (Full Fl.av [] [] d)) ∧ d.toList.Perm (fs.take (i + 1)) ∧ Below h.length h g2) i (by omega)
        ⟨i, d, rfl, rfl, Nat.le_refl _, hsz, hidf, hP3, hB2⟩ ?_
      rintro x r g2 ⟨j, d, rfl, rfl, hj, hsz, hidf, hP3, hB2⟩
      have fin : ∃ (gs : List Fl), Below h.length h g2 ∧ RowEx g2 2 h.length (gs.map Fl.av) (.row id 2 0 (i + 1) false) ∧ gs.Perm (fs.take (i + 1)) := ⟨d.toList, hB2, .inr ⟨id, by simp [hsz], by rw [hidf]; simp [Full], hlo⟩, hP3⟩
      have hid2 := (List.getElem?_eq_some_iff.1 hidf).1
      by_cases hj0 : 0 < j
      · obtain ⟨j, rfl⟩ : ∃ j', j = j' + 1 := ⟨j - 1, by omega⟩
        have e2 : (((j + 1 : Nat) : Int) - 1) = ((j : Nat) : Int) := by omega
        have r1 : (Full Fl.av [] [] d)[j + 1]? = some (.agg [.str d[j + 1]!.p, d[j + 1]!.v]) := full0_get (by omega)
        have r2 : (Full Fl.av [] [] d)[j]? = some (.agg [.str d[j]!.p, d[j]!.v]) := full0_get (by omega)
        cases hbl : Op.bytesLess d[j + 1]!.p d[j]!.p with
        | false =>
          simp (maxSteps := 2000000) (discharger := omega) only [xc,xo,xr,x0,x1,x2,x3,x4,x5,x6,xd,xe,xb,kont_call,kont_pure,kont_round,isNil,slOk,sliceV,selems,srcElems,copyTo,dlen,eqAV,eqCells,eqS,wr,place,partVals,partEs,placeEs,mapOf,keyOk,keyCells,findK,Bool.bne_false,Bool.bne_true,List.drop_zero,List.nil_append,List.append_nil,List.take_zero,List.cons_append,List.take_succ_cons,List.drop_succ_cons,List.take_nil,List.drop_nil,Reg.isA,Reg.isV,Reg.stays,Reg.onto,Bool.false_or,Bool.or_false,Bool.false_and,Bool.and_false,Bool.true_and,Bool.and_true,Bool.or_true,Bool.true_or,↓reduceIte,reduceCtorEq,Nat.reduceEqDiff,Nat.reduceLT,Nat.reduceAdd,Nat.reduceMul,Nat.add_zero,Nat.zero_add,Nat.not_lt_zero,Nat.zero_ne_one,Nat.one_ne_zero,Nat.reduceLeDiff,Nat.lt_irrefl,Nat.zero_lt_succ,Bool.false_eq_true,Bool.not_true,Bool.not_false,Option.map_some,Option.map_none,Option.bind_some,Option.getD_some,Option.getD_none,and_self,and_true,true_and,List.length_cons,List.length_nil,List.any_nil,List.any_cons,Int.toNat_natCast,Int.cast_ofNat_Int,Int.natCast_zero,Int.natCast_nonneg,true_implies,or_true,true_or,false_or,or_false,beq_self_eq_true,Option.some.injEq,exists_eq_left',Int.reduceEq,Int.reduceLT,Int.reduceLE,Int.reduceGT,Int.reduceGE,Nat.reduceGT,Int.reduceNeg,Int.reduceToNat,Int.reduceAdd,Int.reduceMul,Int.reduceSub,Int.reducePow,decide_true,decide_false,decide_eq_true_eq,List.getElem?_cons_zero,List.getElem?_cons_succ,Nat.reduceBEq,Nat.reduceSub,exists_false,and_false,false_and,xu,List.set_cons_zero,List.set_cons_succ,wrap_i64,int_lt_t,int_lt_f,int_le_t,int_le_f,int_gt_t,int_gt_f,int_ge_t,int_ge_f,int_eq_t,int_eq_f,int_beq_t,int_beq_f,int_bne_t,int_bne_f,nat_le_t,nat_le_f,Nat.sub_zero,Nat.sub_self,not_false_eq_true,not_true_eq_false,hidf,r1,r2,hbl,e2]
          obtain ⟨gs', f1, f2, f3⟩ := fin
          exact ⟨fs.length - (i + 1), by omega, i + 1, _, gs', by rw [show ((i : Nat) : Int) + 1 = ((i + 1 : Nat) : Int) by omega], rfl, by omega, f1, f2, f3⟩
        | true =>
          have u1 : (Full Fl.av [] [] d).set (j + 1) (.agg [.str d[j]!.p, d[j]!.v]) = Full Fl.av [] [] (d.setIfInBounds (j + 1) d[j]!) := full0_set (by omega)
          have u2 : (Full Fl.av [] [] (d.setIfInBounds (j + 1) d[j]!)).set j (.agg [.str d[j + 1]!.p, d[j + 1]!.v]) = Full Fl.av [] [] (swp d (j + 1) j) := full0_set (by simp; omega)
          obtain ⟨z, hz⟩ : ∃ z, (Full Fl.av [] [] (d.setIfInBounds (j + 1) d[j]!))[j]? = some (.agg z) ∧ z.length = 2 := ⟨_, full0_get (by simp; omega), rfl⟩
          obtain ⟨hz1, hz2⟩ := hz
          have hdz : List.drop 2 z = [] := List.drop_of_length_le (by omega)
          have pm := swp_permIn d 0 (i + 1) (j + 1) j (by omega) (by omega) (by omega) (by omega) (by omega)
          have hpm : (swp d (j + 1) j).toList.Perm (fs.take (i + 1)) := by
            have := pm.2.2
            have hs2 : (swp d (j + 1) j).size = i + 1 := by rw [pm.1, hsz]
            rw [show (swp d (j + 1) j).extract 0 (i + 1) = swp d (j + 1) j by rw [← hs2]; simp, show d.extract 0 (i + 1) = d by rw [← hsz]; simp] at this
            exact this.trans hP3
          simp (maxSteps := 2000000) (discharger := omega) only [xc,xo,xr,x0,x1,x2,x3,x4,x5,x6,xd,xe,xb,kont_call,kont_pure,kont_round,isNil,slOk,sliceV,selems,srcElems,copyTo,dlen,eqAV,eqCells,eqS,wr,place,partVals,partEs,placeEs,mapOf,keyOk,keyCells,findK,Bool.bne_false,Bool.bne_true,List.drop_zero,List.nil_append,List.append_nil,List.take_zero,List.cons_append,List.take_succ_cons,List.drop_succ_cons,List.take_nil,List.drop_nil,Reg.isA,Reg.isV,Reg.stays,Reg.onto,Bool.false_or,Bool.or_false,Bool.false_and,Bool.and_false,Bool.true_and,Bool.and_true,Bool.or_true,Bool.true_or,↓reduceIte,reduceCtorEq,Nat.reduceEqDiff,Nat.reduceLT,Nat.reduceAdd,Nat.reduceMul,Nat.add_zero,Nat.zero_add,Nat.not_lt_zero,Nat.zero_ne_one,Nat.one_ne_zero,Nat.reduceLeDiff,Nat.lt_irrefl,Nat.zero_lt_succ,Bool.false_eq_true,Bool.not_true,Bool.not_false,Option.map_some,Option.map_none,Option.bind_some,Option.getD_some,Option.getD_none,and_self,and_true,true_and,List.length_cons,List.length_nil,List.any_nil,List.any_cons,Int.toNat_natCast,Int.cast_ofNat_Int,Int.natCast_zero,Int.natCast_nonneg,true_implies,or_true,true_or,false_or,or_false,beq_self_eq_true,Option.some.injEq,exists_eq_left',Int.reduceEq,Int.reduceLT,Int.reduceLE,Int.reduceGT,Int.reduceGE,Nat.reduceGT,Int.reduceNeg,Int.reduceToNat,Int.reduceAdd,Int.reduceMul,Int.reduceSub,Int.reducePow,decide_true,decide_false,decide_eq_true_eq,List.getElem?_cons_zero,List.getElem?_cons_succ,Nat.reduceBEq,Nat.reduceSub,exists_false,and_false,false_and,xu,List.set_cons_zero,List.set_cons_succ,wrap_i64,int_lt_t,int_lt_f,int_le_t,int_le_f,int_gt_t,int_gt_f,int_ge_t,int_ge_f,int_eq_t,int_eq_f,int_beq_t,int_beq_f,int_bne_t,int_bne_f,nat_le_t,nat_le_f,Nat.sub_zero,Nat.sub_self,not_false_eq_true,not_true_eq_false,hidf,r1,r2,hbl,e2,u1,get_set_self,hz1,hz2,hdz,List.set_set,List.length_set,u2]
          refine ⟨j, by omega, j, swp d (j + 1) j, rfl, rfl, by omega, by rw [pm.1, hsz], rfl, hpm, hB2.trans ⟨by simp, fun q hq => ?_⟩⟩
          rw [get_set_ne (by omega)]
      · obtain rfl : j = 0 := by omega
        simp (maxSteps := 2000000) (discharger := omega) only [xc,xo,xr,x0,x1,x2,x3,x4,x5,x6,xd,xe,xb,kont_call,kont_pure,kont_round,isNil,slOk,sliceV,selems,srcElems,copyTo,dlen,eqAV,eqCells,eqS,wr,place,partVals,partEs,placeEs,mapOf,keyOk,keyCells,findK,Bool.bne_false,Bool.bne_true,List.drop_zero,List.nil_append,List.append_nil,List.take_zero,List.cons_append,List.take_succ_cons,List.drop_succ_cons,List.take_nil,List.drop_nil,Reg.isA,Reg.isV,Reg.stays,Reg.onto,Bool.false_or,Bool.or_false,Bool.false_and,Bool.and_false,Bool.true_and,Bool.and_true,Bool.or_true,Bool.true_or,↓reduceIte,reduceCtorEq,Nat.reduceEqDiff,Nat.reduceLT,Nat.reduceAdd,Nat.reduceMul,Nat.add_zero,Nat.zero_add,Nat.not_lt_zero,Nat.zero_ne_one,Nat.one_ne_zero,Nat.reduceLeDiff,Nat.lt_irrefl,Nat.zero_lt_succ,Bool.false_eq_true,Bool.not_true,Bool.not_false,Option.map_some,Option.map_none,Option.bind_some,Option.getD_some,Option.getD_none,and_self,and_true,true_and,List.length_cons,List.length_nil,List.any_nil,List.any_cons,Int.toNat_natCast,Int.cast_ofNat_Int,Int.natCast_zero,Int.natCast_nonneg,true_implies,or_true,true_or,false_or,or_false,beq_self_eq_true,Option.some.injEq,exists_eq_left',Int.reduceEq,Int.reduceLT,Int.reduceLE,Int.reduceGT,Int.reduceGE,Nat.reduceGT,Int.reduceNeg,Int.reduceToNat,Int.reduceAdd,Int.reduceMul,Int.reduceSub,Int.reducePow,decide_true,decide_false,decide_eq_true_eq,List.getElem?_cons_zero,List.getElem?_cons_succ,Nat.reduceBEq,Nat.reduceSub,exists_false,and_false,false_and,xu,List.set_cons_zero,List.set_cons_succ,wrap_i64,int_lt_t,int_lt_f,int_le_t,int_le_f,int_gt_t,int_gt_f,int_ge_t,int_ge_f,int_eq_t,int_eq_f,int_beq_t,int_beq_f,int_bne_t,int_bne_f,nat_le_t,nat_le_f,Nat.sub_zero,Nat.sub_self,not_false_eq_true,not_true_eq_false,hidf]
        obtain ⟨gs', f1, f2, f3⟩ := fin
        exact ⟨fs.length - (i + 1), by omega, i + 1, _, gs', by rw [show ((i : Nat) : Int) + 1 = ((i + 1 : Nat) : Int) by omega], rfl, by omega, f1, f2, f3⟩
  · obtain rfl : i = fs.length := by omega
    rw [List.take_length] at hP
    simp (maxSteps := 2000000) (discharger := omega) only [xc,xo,xr,x0,x1,x2,x3,x4,x5,x6,xd,xe,xb,kont_call,kont_pure,kont_round,isNil,slOk,sliceV,selems,srcElems,copyTo,dlen,eqAV,eqCells,eqS,wr,place,partVals,partEs,placeEs,mapOf,keyOk,keyCells,findK,Bool.bne_false,Bool.bne_true,List.drop_zero,List.nil_append,List.append_nil,List.take_zero,List.cons_append,List.take_succ_cons,List.drop_succ_cons,List.take_nil,List.drop_nil,Reg.isA,Reg.isV,Reg.stays,Reg.onto,Bool.false_or,Bool.or_false,Bool.false_and,Bool.and_false,Bool.true_and,Bool.and_true,Bool.or_true,Bool.true_or,↓reduceIte,reduceCtorEq,Nat.reduceEqDiff,Nat.reduceLT,Nat.reduceAdd,Nat.reduceMul,Nat.add_zero,Nat.zero_add,Nat.not_lt_zero,Nat.zero_ne_one,Nat.one_ne_zero,Nat.reduceLeDiff,Nat.lt_irrefl,Nat.zero_lt_succ,Bool.false_eq_true,Bool.not_true,Bool.not_false,Option.map_some,Option.map_none,Option.bind_some,Option.getD_some,Option.getD_none,and_self,and_true,true_and,List.length_cons,List.length_nil,List.any_nil,List.any_cons,Int.toNat_natCast,Int.cast_ofNat_Int,Int.natCast_zero,Int.natCast_nonneg,true_implies,or_true,true_or,false_or,or_false,beq_self_eq_true,Option.some.injEq,exists_eq_left',Int.reduceEq,Int.reduceLT,Int.reduceLE,Int.reduceGT,Int.reduceGE,Nat.reduceGT,Int.reduceNeg,Int.reduceToNat,Int.reduceAdd,Int.reduceMul,Int.reduceSub,Int.reducePow,decide_true,decide_false,decide_eq_true_eq,List.getElem?_cons_zero,List.getElem?_cons_succ,Nat.reduceBEq,Nat.reduceSub,exists_false,and_false,false_and,xu,List.set_cons_zero,List.set_cons_succ,wrap_i64,int_lt_t,int_lt_f,int_le_t,int_le_f,int_gt_t,int_gt_f,int_ge_t,int_ge_f,int_eq_t,int_eq_f,int_beq_t,int_beq_f,int_bne_t,int_bne_f,nat_le_t,nat_le_f,Nat.sub_zero,Nat.sub_self,not_false_eq_true,not_true_eq_false,hlen]
    exact ⟨gs, hB, hR, hP⟩

def partsL (d : By) : Nat → List Nat → List Pt
  | _, [] => []
  | at', k :: ks => ⟨shaR ((d.take (at' + k)).drop at'), (k : Nat)⟩ :: partsL d (at' + k) ks
def partsR (l m M : Int) (d : By) : List Pt := partsL d 0 (cutR l m M d)
theorem partsL_snoc (d : By) (k : Nat) : ∀ (ks : List Nat) (a : Nat), partsL d a (ks ++ [k]) = partsL d a ks ++ [⟨shaR ((d.take (a + ks.sum + k)).drop (a + ks.sum)), (k : Nat)⟩]
  | [], a => by simp [partsL]
  | x :: ks, a => by
    have := partsL_snoc d k ks (a + x)
    simp only [List.cons_append,partsL,this,List.sum_cons,Nat.add_assoc]
theorem partsL_len (d : By) : ∀ (ks : List Nat) (a : Nat), (partsL d a ks).length = ks.length
  | [], a => rfl
  | x :: ks, a => by simp [partsL,partsL_len d ks]
theorem shaR_len (s : By) : (shaR s).length = 32 := keyI_len _
theorem partsL_ok (d : By) : ∀ (ks : List Nat) (a : Nat), ∀ x ∈ partsL d a ks, x.ok
  | [], a, x, h => by cases h
  | k :: ks, a, x, h => by
    rcases List.mem_cons.1 h with rfl | h
    · exact shaR_len _
    · exact partsL_ok d ks _ x h

set_option maxHeartbeats 1000000 in
set_option maxRecDepth 100000 in
theorem c25 (c : AV) (l m M : Int) (d : By) (v : AV) (hc : Cf c l m M) (hm : 1 ≤ m) (hm2 : m ≤ 1000000000) (hd : IsRd 1 (bytesOf d) v) (hl : d.length ≤ 1000000) (hn : d.length + 300 < n) :
    ∃ v' h', call F n tot ω 25 [c, v] h = some (v', h') ∧ IsRd 33 ((partsR l m M d).map Pt.av) v' ∧ Below h.length h h' := by
  obtain ⟨n, rfl⟩ : ∃ m, n = m + 1 := ⟨n - 1, by omega⟩
  refine call_of (fn := a25) f25 (P := fun v' h' => IsRd 33 ((partsR l m M d).map Pt.av) v' ∧ Below h.length h h') ?_
  obtain ⟨cs, hcs, hcl, h8, h9, h10⟩ := hc.agg
  subst hcs
  have htk : List.take 12 cs = cs := List.take_of_length_le (by omega)
  obtain ⟨lv, h1, k52, hlv, hB1⟩ := c52 (n := n) (tot := tot) (ω := ω) (h := h) (.agg cs) l m M d hc hm hm2 (by omega) (by omega)
  obtain ⟨s1, s2, s3⟩ := cutR_sum l m M d
  unfold partsR
  have hel := rd_el hd
  have hsel : ∀ g, (match (some (AV.imm 1 (bytesOf d) .no) : Option AV) with | some v => elems g 1 v | none => none) = some (bytesOf d) := fun g => by simp [elems]
  generalize cutR l m M d = ks at *
  have hll := hlv.len
  rw [show (nsOf ks).length = ks.length by simp [nsOf]] at hll
  unfold a25
  simp (maxSteps := 2000000) (discharger := omega) only [xc,xo,xr,x0,x1,x2,x3,x4,x5,x6,xd,xe,xb,kont_call,kont_pure,kont_round,isNil,slOk,sliceV,selems,srcElems,copyTo,dlen,eqAV,eqCells,eqS,wr,place,partVals,partEs,placeEs,mapOf,keyOk,keyCells,findK,Bool.bne_false,Bool.bne_true,List.drop_zero,List.nil_append,List.append_nil,List.take_zero,List.cons_append,List.take_succ_cons,List.drop_succ_cons,List.take_nil,List.drop_nil,Reg.isA,Reg.isV,Reg.stays,Reg.onto,Bool.false_or,Bool.or_false,Bool.false_and,Bool.and_false,Bool.true_and,Bool.and_true,Bool.or_true,Bool.true_or,↓reduceIte,reduceCtorEq,Nat.reduceEqDiff,Nat.reduceLT,Nat.reduceAdd,Nat.reduceMul,Nat.add_zero,Nat.zero_add,Nat.not_lt_zero,Nat.zero_ne_one,Nat.one_ne_zero,Nat.reduceLeDiff,Nat.lt_irrefl,Nat.zero_lt_succ,Bool.false_eq_true,Bool.not_true,Bool.not_false,Option.map_some,Option.map_none,Option.bind_some,Option.getD_some,Option.getD_none,and_self,and_true,true_and,List.length_cons,List.length_nil,List.any_nil,List.any_cons,Int.toNat_natCast,Int.cast_ofNat_Int,Int.natCast_zero,Int.natCast_nonneg,true_implies,or_true,true_or,false_or,or_false,beq_self_eq_true,Option.some.injEq,exists_eq_left',Int.reduceEq,Int.reduceLT,Int.reduceLE,Int.reduceGT,Int.reduceGE,Nat.reduceGT,Int.reduceNeg,Int.reduceToNat,Int.reduceAdd,Int.reduceMul,Int.reduceSub,Int.reducePow,decide_true,decide_false,decide_eq_true_eq,List.getElem?_cons_zero,List.getElem?_cons_succ,Nat.reduceBEq,Nat.reduceSub,exists_false,and_false,false_and,xu,List.set_cons_zero,List.set_cons_succ,wrap_i64,int_lt_t,int_lt_f,int_le_t,int_le_f,int_gt_t,int_gt_f,int_ge_t,int_ge_f,int_eq_t,int_eq_f,int_beq_t,int_beq_f,int_bne_t,int_bne_f,nat_le_t,nat_le_f,Nat.sub_zero,Nat.sub_self,not_false_eq_true,not_true_eq_false,hcl,htk,hel,k52]
  refine wpi_loop (fun x r g => ∃ (i : Nat) (ov : AV), r = [(1, .val v), (5, .val ov), (6, .val lv), (7, .val (.int .i64 ((ks.take i).sum : Nat))), (8, .val (.int .i64 i))] ∧ x = ks.length - i ∧ i ≤ ks.length ∧ LateApp h.length 33 ((partsL d 0 (ks.take i)).map Pt.av) g ov ∧ Below h.length h g) ks.length (by omega)
    ⟨0, .nils, rfl, rfl, Nat.zero_le _, late_nils _ _ _, hB1⟩ ?_
  rintro x r g ⟨i, ov, rfl, rfl, hi, hA, hB⟩
  by_cases hlt : i < ks.length
  · have hk1 := s2 _ (List.getElem_mem hlt)
    have hsum : (ks.take i).sum + ks[i] ≤ d.length := by
      have e : (ks.take (i + 1)).sum + (ks.drop (i + 1)).sum = ks.sum := by rw [← List.sum_append_nat, List.take_append_drop]
      rw [List.take_succ_eq_append_getElem hlt, List.sum_append_nat] at e
      simp at e; omega
    obtain ⟨cl, rfl⟩ := hlv.imm (i := i) (by simpa [nsOf] using hlt)
    obtain ⟨cv, rfl⟩ := hd.imm (i := 0) (by rw [bytesOf_len]; omega)
    have q1 : (nsOf ks)[i]? = some (.int .i64 (ks[i] : Nat)) := by simp [nsOf,hlt]
    have hsn := partsL_snoc d ks[i] (ks.take i) 0
    rw [Nat.zero_add, ← List.take_succ_eq_append_getElem hlt] at hsn
    have htl : (ks.take (i + 1)).sum = (ks.take i).sum + ks[i] := by rw [List.take_succ_eq_append_getElem hlt, List.sum_append_nat]; simp
    have hpl := partsL_len d (ks.take i) 0
    rw [List.length_take] at hpl
    generalize (ks.take i).sum = a at *
    generalize ks[i] = k at *
    have e1 : ((a : Nat) : Int) + ((k : Nat) : Int) = ((a + k : Nat) : Int) := by omega
    obtain ⟨h2, k53, hB2⟩ := c53 (n := n) (tot := tot) (ω := ω) (h := g) ((d.take (a + k)).drop a) (by simp; omega) (by simp; omega)
    have sl := shaR_len ((d.take (a + k)).drop a)
    generalize hX : shaR ((d.take (a + k)).drop a) = X at *
    have x1' : (intsOf .u8 X).length = 32 := by rw [io_len', sl]
    have x2' : ∀ z, List.take 32 (intsOf .u8 X ++ [z]) = intsOf .u8 X := fun z => by rw [List.take_append_of_le_length (by omega), List.take_of_length_le (by omega)]
    have x3' : ∀ z, List.drop 33 (intsOf .u8 X ++ [z]) = [] := fun z => List.drop_of_length_le (by simp [x1'])
    obtain ⟨v', h3, w1, w2, w3⟩ := late_app (bytes := 40) (xs := [.agg (intsOf .u8 X ++ [.int .i64 (k : Nat)])]) (hA.belw (lo' := 0) hB2) (by have := hB.1; have := hB2.1; omega) (by simp) (by simp [hpl]; omega)
    simp (maxSteps := 2000000) (discharger := omega) only [xc,xo,xr,x0,x1,x2,x3,x4,x5,x6,xd,xe,xb,kont_call,kont_pure,kont_round,isNil,slOk,sliceV,selems,srcElems,copyTo,dlen,eqAV,eqCells,eqS,wr,place,partVals,partEs,placeEs,mapOf,keyOk,keyCells,findK,Bool.bne_false,Bool.bne_true,List.drop_zero,List.nil_append,List.append_nil,List.take_zero,List.cons_append,List.take_succ_cons,List.drop_succ_cons,List.take_nil,List.drop_nil,Reg.isA,Reg.isV,Reg.stays,Reg.onto,Bool.false_or,Bool.or_false,Bool.false_and,Bool.and_false,Bool.true_and,Bool.and_true,Bool.or_true,Bool.true_or,↓reduceIte,reduceCtorEq,Nat.reduceEqDiff,Nat.reduceLT,Nat.reduceAdd,Nat.reduceMul,Nat.add_zero,Nat.zero_add,Nat.not_lt_zero,Nat.zero_ne_one,Nat.one_ne_zero,Nat.reduceLeDiff,Nat.lt_irrefl,Nat.zero_lt_succ,Bool.false_eq_true,Bool.not_true,Bool.not_false,Option.map_some,Option.map_none,Option.bind_some,Option.getD_some,Option.getD_none,and_self,and_true,true_and,List.length_cons,List.length_nil,List.any_nil,List.any_cons,Int.toNat_natCast,Int.cast_ofNat_Int,Int.natCast_zero,Int.natCast_nonneg,true_implies,or_true,true_or,false_or,or_false,beq_self_eq_true,Option.some.injEq,exists_eq_left',Int.reduceEq,Int.reduceLT,Int.reduceLE,Int.reduceGT,Int.reduceGE,Nat.reduceGT,Int.reduceNeg,Int.reduceToNat,Int.reduceAdd,Int.reduceMul,Int.reduceSub,Int.reducePow,decide_true,decide_false,decide_eq_true_eq,List.getElem?_cons_zero,List.getElem?_cons_succ,Nat.reduceBEq,Nat.reduceSub,exists_false,and_false,false_and,xu,List.set_cons_zero,List.set_cons_succ,wrap_i64,int_lt_t,int_lt_f,int_le_t,int_le_f,int_gt_t,int_gt_f,int_ge_t,int_ge_f,int_eq_t,int_eq_f,int_beq_t,int_beq_f,int_bne_t,int_bne_f,nat_le_t,nat_le_f,Nat.sub_zero,Nat.sub_self,not_false_eq_true,not_true_eq_false,hll,q1,e1,w_regionA2,inOrd,List.filterMap_cons,List.filterMap_nil,Is,k53,x1',x2',x3',List.length_append,w1,hA.1.isRow,List.replicate,List.length_map,Nat.reduceLeDiff]
    exact ⟨ks.length - (i + 1), by omega, i + 1, v', by rw [htl, show ((i : Nat) : Int) + 1 = ((i + 1 : Nat) : Int) by omega], rfl, by omega, by rw [hsn, List.map_append]; exact w2, hB.trans ((hB2.low hB.1).trans w3)⟩
  · obtain rfl : i = ks.length := by omega
    rw [List.take_length] at hA
    simp (maxSteps := 2000000) (discharger := omega) only [xc,xo,xr,x0,x1,x2,x3,x4,x5,x6,xd,xe,xb,kont_call,kont_pure,kont_round,isNil,slOk,sliceV,selems,srcElems,copyTo,dlen,eqAV,eqCells,eqS,wr,place,partVals,partEs,placeEs,mapOf,keyOk,keyCells,findK,Bool.bne_false,Bool.bne_true,List.drop_zero,List.nil_append,List.append_nil,List.take_zero,List.cons_append,List.take_succ_cons,List.drop_succ_cons,List.take_nil,List.drop_nil,Reg.isA,Reg.isV,Reg.stays,Reg.onto,Bool.false_or,Bool.or_false,Bool.false_and,Bool.and_false,Bool.true_and,Bool.and_true,Bool.or_true,Bool.true_or,↓reduceIte,reduceCtorEq,Nat.reduceEqDiff,Nat.reduceLT,Nat.reduceAdd,Nat.reduceMul,Nat.add_zero,Nat.zero_add,Nat.not_lt_zero,Nat.zero_ne_one,Nat.one_ne_zero,Nat.reduceLeDiff,Nat.lt_irrefl,Nat.zero_lt_succ,Bool.false_eq_true,Bool.not_true,Bool.not_false,Option.map_some,Option.map_none,Option.bind_some,Option.getD_some,Option.getD_none,and_self,and_true,true_and,List.length_cons,List.length_nil,List.any_nil,List.any_cons,Int.toNat_natCast,Int.cast_ofNat_Int,Int.natCast_zero,Int.natCast_nonneg,true_implies,or_true,true_or,false_or,or_false,beq_self_eq_true,Option.some.injEq,exists_eq_left',Int.reduceEq,Int.reduceLT,Int.reduceLE,Int.reduceGT,Int.reduceGE,Nat.reduceGT,Int.reduceNeg,Int.reduceToNat,Int.reduceAdd,Int.reduceMul,Int.reduceSub,Int.reducePow,decide_true,decide_false,decide_eq_true_eq,List.getElem?_cons_zero,List.getElem?_cons_succ,Nat.reduceBEq,Nat.reduceSub,exists_false,and_false,false_and,xu,List.set_cons_zero,List.set_cons_succ,wrap_i64,int_lt_t,int_lt_f,int_le_t,int_le_f,int_gt_t,int_gt_f,int_ge_t,int_ge_f,int_eq_t,int_eq_f,int_beq_t,int_beq_f,int_bne_t,int_bne_f,nat_le_t,nat_le_f,Nat.sub_zero,Nat.sub_self,not_false_eq_true,not_true_eq_false,hll]
    exact ⟨isRd_app hA.1, hB⟩

theorem late_app2 {lo sz bytes : Nat} {es xs : List AV} {h : Hp} {v : AV} (hv : LateApp lo sz es h v) (hlo : lo ≤ h.length) (hx : xs ≠ []) (hb : (es.length + xs.length) * bytes ≤ 140737488355328) :
    ∃ v' h', appendV false sz bytes v xs h = some (v', h') ∧ LateApp lo sz (es ++ xs) h' v' ∧ Below lo h h' ∧ ∀ (id : Nat) o, h[id]? = some o → o.solid = true → h'[id]? = some o := by
  obtain ⟨v', h', w1, w2, w3⟩ := late_app (bytes := bytes) hv hlo hx hb
  obtain ⟨v2, h2, z1, _, z3, _⟩ := app_ok (bytes := bytes) hv.1 hx hb
  rw [w1] at z1
  cases z1
  exact ⟨v', h', w1, w2, w3, z3⟩
theorem partsR_len (l m M : Int) (d : By) : (partsR l m M d).length ≤ d.length := by
  unfold partsR
  rw [partsL_len]; exact (cutR_sum l m M d).2.2

set_option maxHeartbeats 1000000 in
set_option maxRecDepth 100000 in
theorem c21 (c : AV) (l m M : Int) (a : AV) (fs : List Fl) (hc : Cf c l m M) (hm : 1 ≤ m) (hm2 : m ≤ 1000000000) (ha : IsRd 2 (fs.map Fl.av) a) (hok : ∀ f ∈ fs, f.ok) (hd : ∀ f ∈ fs, f.d.length ≤ 1000000) (hl : fs.length ≤ 1000000) (hn : fs.length + 1000400 < n) :
    ∃ (v' : AV) (h' : Hp) (ls : List Lf), call F n tot ω 21 [c, a] h = some (v', h') ∧ IsRd 2 (ls.map Lf.av) v' ∧ Below h.length h h' ∧ ls.length = fs.length ∧ ∀ x ∈ ls, x.ok ∧ ∃ f ∈ fs, x.p = f.p ∧ x.ps = partsR l m M f.d := by
  obtain ⟨n, rfl⟩ : ∃ m, n = m + 1 := ⟨n - 1, by omega⟩
  suffices hx : ∃ v' h', call F (n + 1) tot ω 21 [c, a] h = some (v', h') ∧ ∃ ls : List Lf, IsRd 2 (ls.map Lf.av) v' ∧ Below h.length h h' ∧ ls.length = fs.length ∧ ∀ x ∈ ls, x.ok ∧ ∃ f ∈ fs, x.p = f.p ∧ x.ps = partsR l m M f.d by
    obtain ⟨v', h', e1, ls, e2⟩ := hx
    exact ⟨v', h', ls, e1, e2⟩
  refine call_of (fn := a21) f21 (P := fun v' h' => ∃ ls : List Lf, IsRd 2 (ls.map Lf.av) v' ∧ Below h.length h h' ∧ ls.length = fs.length ∧ ∀ x ∈ ls, x.ok ∧ ∃ f ∈ fs, x.p = f.p ∧ x.ps = partsR l m M f.d) ?_
  obtain ⟨cs, hcs, hcl, h8, h9, h10⟩ := hc.agg
  subst hcs
  have htk : List.take 12 cs = cs := List.take_of_length_le (by omega)
  obtain ⟨gv, m1, gs, k49, hg, hP⟩ := c49 (n := n) (tot := tot) (ω := ω) (h := h) a fs ha hok hl (by omega)
  have hgl : gs.length = fs.length := hP.length_eq
  have hglen := hg.at.len
  rw [List.length_map] at hglen
  unfold a21
  simp (maxSteps := 2000000) (discharger := omega) only [xc,xo,xr,x0,x1,x2,x3,x4,x5,x6,xd,xe,xb,kont_call,kont_pure,kont_round,isNil,slOk,sliceV,selems,srcElems,copyTo,dlen,eqAV,eqCells,eqS,wr,place,partVals,partEs,placeEs,mapOf,keyOk,keyCells,findK,Bool.bne_false,Bool.bne_true,List.drop_zero,List.nil_append,List.append_nil,List.take_zero,List.cons_append,List.take_succ_cons,List.drop_succ_cons,List.take_nil,List.drop_nil,Reg.isA,Reg.isV,Reg.stays,Reg.onto,Bool.false_or,Bool.or_false,Bool.false_and,Bool.and_false,Bool.true_and,Bool.and_true,Bool.or_true,Bool.true_or,↓reduceIte,reduceCtorEq,Nat.reduceEqDiff,Nat.reduceLT,Nat.reduceAdd,Nat.reduceMul,Nat.add_zero,Nat.zero_add,Nat.not_lt_zero,Nat.zero_ne_one,Nat.one_ne_zero,Nat.reduceLeDiff,Nat.lt_irrefl,Nat.zero_lt_succ,Bool.false_eq_true,Bool.not_true,Bool.not_false,Option.map_some,Option.map_none,Option.bind_some,Option.getD_some,Option.getD_none,and_self,and_true,true_and,List.length_cons,List.length_nil,List.any_nil,List.any_cons,Int.toNat_natCast,Int.cast_ofNat_Int,Int.natCast_zero,Int.natCast_nonneg,true_implies,or_true,true_or,false_or,or_false,beq_self_eq_true,Option.some.injEq,exists_eq_left',Int.reduceEq,Int.reduceLT,Int.reduceLE,Int.reduceGT,Int.reduceGE,Nat.reduceGT,Int.reduceNeg,Int.reduceToNat,Int.reduceAdd,Int.reduceMul,Int.reduceSub,Int.reducePow,decide_true,decide_false,decide_eq_true_eq,List.getElem?_cons_zero,List.getElem?_cons_succ,Nat.reduceBEq,Nat.reduceSub,exists_false,and_false,false_and,xu,List.set_cons_zero,List.set_cons_succ,wrap_i64,int_lt_t,int_lt_f,int_le_t,int_le_f,int_gt_t,int_gt_f,int_ge_t,int_ge_f,int_eq_t,int_eq_f,int_beq_t,int_beq_f,int_bne_t,int_bne_f,nat_le_t,nat_le_f,Nat.sub_zero,Nat.sub_self,not_false_eq_true,not_true_eq_false,hcl,htk,k49,hglen]
  refine wpi_loop (fun x r g => ∃ (i : Nat) (ov : AV) (ls : List Lf), r = [(2, .var (.agg cs)), (5, .val ov), (6, .val gv), (7, .val (.int .i64 i))] ∧ x = gs.length - i ∧ i ≤ gs.length ∧ LateApp h.length 2 (ls.map Lf.av) g ov ∧ Below h.length h g ∧ RowEx g 2 h.length (gs.map Fl.av) gv ∧ ls.length = i ∧ ∀ x ∈ ls, x.ok ∧ ∃ f ∈ fs, x.p = f.p ∧ x.ps = partsR l m M f.d) gs.length (by omega)
    ⟨0, .nils, [], rfl, rfl, Nat.zero_le _, late_nils _ _ _, .app _ _ _ (Nat.le_refl _), hg, rfl, fun x hx => by cases hx⟩ ?_
  rintro x r g ⟨i, ov, ls, rfl, rfl, hi, hA, hB, hR, hli, hls⟩
  by_cases hlt : i < gs.length
  · rcases hR with ⟨rfl, e0⟩ | ⟨id, rfl, hid, hlo⟩
    · have := congrArg List.length e0
      simp at this
      subst this
      simp at hlt
    · have q1 := fl_get' hlt
      have hmem : gs[i] ∈ fs := hP.mem_iff.1 (List.getElem_mem hlt)
      have of := hok _ hmem
      have t1 := rd_sub of 1
      have hidl := (List.getElem?_eq_some_iff.1 hid).1
      obtain ⟨pv, h2, k25, hpv, hB2⟩ := c25 (n := n) (tot := tot) (ω := ω) (h := g) (.agg cs) l m M gs[i].d gs[i].v hc hm hm2 of (hd _ hmem) (by have := hd _ hmem; omega)
      have t4 := rd_nt hpv
      have t5 := rd_cells hpv
      have hid2 : h2[id]? = some (.row 2 (gs.map Fl.av)) := by rw [hB2.2 id hidl]; exact hid
      obtain ⟨v', h3, w1, w2, w3, w4⟩ := late_app2 (bytes := 40) (xs := [.agg [.str gs[i].p, pv]]) (hA.belw (lo' := 0) hB2) (by have := hB.1; have := hB2.1; omega) (by simp) (by simp; omega)
      have hid3 : RowEx h3 2 h.length (gs.map Fl.av) (.row id 2 0 gs.length false) := .inr ⟨id, by simp, w4 _ _ hid2 rfl, hlo⟩
      simp (maxSteps := 2000000) (discharger := omega) only [xc,xo,xr,x0,x1,x2,x3,x4,x5,x6,xd,xe,xb,kont_call,kont_pure,kont_round,isNil,slOk,sliceV,selems,srcElems,copyTo,dlen,eqAV,eqCells,eqS,wr,place,partVals,partEs,placeEs,mapOf,keyOk,keyCells,findK,Bool.bne_false,Bool.bne_true,List.drop_zero,List.nil_append,List.append_nil,List.take_zero,List.cons_append,List.take_succ_cons,List.drop_succ_cons,List.take_nil,List.drop_nil,Reg.isA,Reg.isV,Reg.stays,Reg.onto,Bool.false_or,Bool.or_false,Bool.false_and,Bool.and_false,Bool.true_and,Bool.and_true,Bool.or_true,Bool.true_or,↓reduceIte,reduceCtorEq,Nat.reduceEqDiff,Nat.reduceLT,Nat.reduceAdd,Nat.reduceMul,Nat.add_zero,Nat.zero_add,Nat.not_lt_zero,Nat.zero_ne_one,Nat.one_ne_zero,Nat.reduceLeDiff,Nat.lt_irrefl,Nat.zero_lt_succ,Bool.false_eq_true,Bool.not_true,Bool.not_false,Option.map_some,Option.map_none,Option.bind_some,Option.getD_some,Option.getD_none,and_self,and_true,true_and,List.length_cons,List.length_nil,List.any_nil,List.any_cons,Int.toNat_natCast,Int.cast_ofNat_Int,Int.natCast_zero,Int.natCast_nonneg,true_implies,or_true,true_or,false_or,or_false,beq_self_eq_true,Option.some.injEq,exists_eq_left',Int.reduceEq,Int.reduceLT,Int.reduceLE,Int.reduceGT,Int.reduceGE,Nat.reduceGT,Int.reduceNeg,Int.reduceToNat,Int.reduceAdd,Int.reduceMul,Int.reduceSub,Int.reducePow,decide_true,decide_false,decide_eq_true_eq,List.getElem?_cons_zero,List.getElem?_cons_succ,Nat.reduceBEq,Nat.reduceSub,exists_false,and_false,false_and,xu,List.set_cons_zero,List.set_cons_succ,wrap_i64,int_lt_t,int_lt_f,int_le_t,int_le_f,int_gt_t,int_gt_f,int_ge_t,int_ge_f,int_eq_t,int_eq_f,int_beq_t,int_beq_f,int_bne_t,int_bne_f,nat_le_t,nat_le_f,Nat.sub_zero,Nat.sub_self,not_false_eq_true,not_true_eq_false,hglen,hid,hid2,q1,t1,t4,t5,htk,hcl,w_regionA2,inOrd,List.filterMap_cons,List.filterMap_nil,Is,k25,w1,hA.1.isRow,List.replicate,List.length_map,Nat.reduceLeDiff]
      refine ⟨gs.length - (i + 1), by omega, i + 1, v', ls ++ [⟨gs[i].p, partsR l m M gs[i].d, pv⟩], by rw [show ((i : Nat) : Int) + 1 = ((i + 1 : Nat) : Int) by omega], rfl, by omega, by rw [List.map_append]; exact w2, hB.trans ((hB2.low hB.1).trans w3), hid3, by simp [hli], fun x hx => ?_⟩
      rcases List.mem_append.1 hx with hx | hx
      · exact hls x hx
      · rw [List.mem_singleton] at hx
        subst hx
        exact ⟨⟨hpv, partsL_ok _ _ _⟩, gs[i], hmem, rfl, rfl⟩
  · obtain rfl : i = gs.length := by omega
    simp (maxSteps := 2000000) (discharger := omega) only [xc,xo,xr,x0,x1,x2,x3,x4,x5,x6,xd,xe,xb,kont_call,kont_pure,kont_round,isNil,slOk,sliceV,selems,srcElems,copyTo,dlen,eqAV,eqCells,eqS,wr,place,partVals,partEs,placeEs,mapOf,keyOk,keyCells,findK,Bool.bne_false,Bool.bne_true,List.drop_zero,List.nil_append,List.append_nil,List.take_zero,List.cons_append,List.take_succ_cons,List.drop_succ_cons,List.take_nil,List.drop_nil,Reg.isA,Reg.isV,Reg.stays,Reg.onto,Bool.false_or,Bool.or_false,Bool.false_and,Bool.and_false,Bool.true_and,Bool.and_true,Bool.or_true,Bool.true_or,↓reduceIte,reduceCtorEq,Nat.reduceEqDiff,Nat.reduceLT,Nat.reduceAdd,Nat.reduceMul,Nat.add_zero,Nat.zero_add,Nat.not_lt_zero,Nat.zero_ne_one,Nat.one_ne_zero,Nat.reduceLeDiff,Nat.lt_irrefl,Nat.zero_lt_succ,Bool.false_eq_true,Bool.not_true,Bool.not_false,Option.map_some,Option.map_none,Option.bind_some,Option.getD_some,Option.getD_none,and_self,and_true,true_and,List.length_cons,List.length_nil,List.any_nil,List.any_cons,Int.toNat_natCast,Int.cast_ofNat_Int,Int.natCast_zero,Int.natCast_nonneg,true_implies,or_true,true_or,false_or,or_false,beq_self_eq_true,Option.some.injEq,exists_eq_left',Int.reduceEq,Int.reduceLT,Int.reduceLE,Int.reduceGT,Int.reduceGE,Nat.reduceGT,Int.reduceNeg,Int.reduceToNat,Int.reduceAdd,Int.reduceMul,Int.reduceSub,Int.reducePow,decide_true,decide_false,decide_eq_true_eq,List.getElem?_cons_zero,List.getElem?_cons_succ,Nat.reduceBEq,Nat.reduceSub,exists_false,and_false,false_and,xu,List.set_cons_zero,List.set_cons_succ,wrap_i64,int_lt_t,int_lt_f,int_le_t,int_le_f,int_gt_t,int_gt_f,int_ge_t,int_ge_f,int_eq_t,int_eq_f,int_beq_t,int_beq_f,int_bne_t,int_bne_f,nat_le_t,nat_le_f,Nat.sub_zero,Nat.sub_self,not_false_eq_true,not_true_eq_false,hglen]
    exact ⟨ls, isRd_app hA.1, hB, by omega, hls⟩
end
end Go.Proofs.YtpgmohjmpaifbaaDoor.Im

/- S21Fd: the law TreeFinds. -/
set_option linter.unusedVariables false
set_option linter.unusedSimpArgs false
open Go Go.Im
namespace Go.Proofs.YtpgmohjmpaifbaaDoor.Im
section
variable {n : Nat} {tot : Bool} {ω : Nat → Nat} {h : Hp}
theorem f10 : F 10 = some (.inr yesG) := by kernel_rfl
theorem c10 (hn : 0 < n) : call F n tot ω 10 [] h = some (.bool true, h) := by
  obtain ⟨n, rfl⟩ : ∃ m, n = m + 1 := ⟨n - 1, by omega⟩
  rw [call_inr f10]; rfl

theorem chk_zero {fs : List Fl} (h : chk fs = 0) : Tog (psOf fs) := by
  unfold chk at h
  by_cases hT : Tog (psOf fs)
  · exact hT
  · rw [if_neg hT] at h; cases h

theorem diffL_len : ∀ (n : Nat) (A B : List Lf), A.length + B.length = n → (diffL A B).length ≤ n := by
  intro n
  induction n using Nat.strongRecOn with
  | _ n ih =>
    intro A B hn
    match A, B with
    | [], [] => simp [diffL]
    | a :: A, [] =>
      rw [diffL]
      have := ih (A.length + 0) (by simp at hn; omega) A [] rfl
      simp at hn this ⊢; omega
    | [], b :: B =>
      rw [diffL]
      have := ih (0 + B.length) (by simp at hn; omega) [] B rfl
      simp at hn this ⊢; omega
    | a :: A, b :: B =>
      have h1 := ih (A.length + (B.length + 1)) (by simp at hn; omega) A (b :: B) rfl
      have h2 := ih (A.length + 1 + B.length) (by simp at hn; omega) (a :: A) B rfl
      have h3 := ih (A.length + B.length) (by simp at hn; omega) A B rfl
      simp only [List.length_cons] at hn
      rw [diffL]
      split
      · simp only [List.length_cons]; omega
      · split
        · simp only [List.length_cons]; omega
        · split
          · omega
          · simp only [List.length_cons]; omega

theorem w_t8a (ls : List Lf) (a10 : AV) (v9 : AV) (p : By) (p' : By) (v' v2 : AV) (b b2 : Bool) (hok : ∀ x ∈ ls, x.ok ∧ x.ps.length ≤ 1000000)
    (h1 : (∃ x, fnd ls p = some x ∧ x ∈ ls ∧ b = true ∧ p' = p ∧ IsRd 33 (x.ps.map Pt.av) v') ∨ (fnd ls p = none ∧ b = false ∧ p' = [] ∧ v' = .nils))
    (h2 : (∃ x, fnd ls p = some x ∧ b2 = true ∧ v2 = x.v) ∨ (fnd ls p = none ∧ b2 = false ∧ v2 = .nils)) (hn : 1000100 < n) :
    Wp (kont F n tot ω) n t8a [(3, .val (.str p)), (9, .val v9), (10, .val a10), (11, .var (.agg [.str p', v'])), (12, .val (.bool b)), (13, .val v2), (14, .val (.bool b2))] h
      fun e r' h' => e = .normal ∧ h' = h ∧ r' = [(3, .val (.str p)), (9, .val v9), (10, .val a10), (87, .val (.bool false))] := by
  unfold t8a
  rcases h1 with ⟨x, f1, hx, rfl, rfl, hv⟩ | ⟨f1, rfl, rfl, rfl⟩
  · rcases h2 with ⟨y, f2, rfl, rfl⟩ | ⟨f2, _, _⟩
    · rw [f1] at f2
      cases f2
      have ox := hok x hx
      have k := fun h => c24 (n := n) (tot := tot) (ω := ω) (h := h) x.ps x.ps v' x.v hv ox.1.rd ox.1.all ox.1.all (by have := ox.2; omega) (by have := ox.2; omega) (by have := ox.2; omega)
      have e : decide (x.ps = x.ps) = true := by simp
      have e2 : (p' == p') = true := by simp
      rw [e] at k
      have s1 := rd_sub hv 1
      simp (maxSteps := 2000000) (discharger := omega) only [xc,xo,xr,x0,x1,x2,x3,x4,x5,x6,xd,xe,xb,kont_call,kont_pure,kont_round,isNil,slOk,sliceV,selems,srcElems,copyTo,dlen,eqAV,eqCells,eqS,wr,place,partVals,partEs,placeEs,mapOf,keyOk,keyCells,findK,Bool.bne_false,Bool.bne_true,List.drop_zero,List.nil_append,List.append_nil,List.take_zero,List.cons_append,List.take_succ_cons,List.drop_succ_cons,List.take_nil,List.drop_nil,Reg.isA,Reg.isV,Reg.stays,Reg.onto,Bool.false_or,Bool.or_false,Bool.false_and,Bool.and_false,Bool.true_and,Bool.and_true,Bool.or_true,Bool.true_or,↓reduceIte,reduceCtorEq,Nat.reduceEqDiff,Nat.reduceLT,Nat.reduceAdd,Nat.reduceMul,Nat.add_zero,Nat.zero_add,Nat.not_lt_zero,Nat.zero_ne_one,Nat.one_ne_zero,Nat.reduceLeDiff,Nat.lt_irrefl,Nat.zero_lt_succ,Bool.false_eq_true,Bool.not_true,Bool.not_false,Option.map_some,Option.map_none,Option.bind_some,Option.getD_some,Option.getD_none,and_self,and_true,true_and,List.length_cons,List.length_nil,List.any_nil,List.any_cons,Int.toNat_natCast,Int.cast_ofNat_Int,Int.natCast_zero,Int.natCast_nonneg,true_implies,or_true,true_or,false_or,or_false,beq_self_eq_true,Option.some.injEq,exists_eq_left',Int.reduceEq,Int.reduceLT,Int.reduceLE,Int.reduceGT,Int.reduceGE,Nat.reduceGT,Int.reduceNeg,Int.reduceToNat,Int.reduceAdd,Int.reduceMul,Int.reduceSub,Int.reducePow,decide_true,decide_false,decide_eq_true_eq,List.getElem?_cons_zero,List.getElem?_cons_succ,Nat.reduceBEq,Nat.reduceSub,exists_false,and_false,false_and,xu,List.set_cons_zero,List.set_cons_succ,wrap_i64,int_lt_t,int_lt_f,int_le_t,int_le_f,int_gt_t,int_gt_f,int_ge_t,int_ge_f,int_eq_t,int_eq_f,int_beq_t,int_beq_f,int_bne_t,int_bne_f,nat_le_t,nat_le_f,Nat.sub_zero,Nat.sub_self,not_false_eq_true,not_true_eq_false,k,s1,e2]
    · rw [f1] at f2; cases f2
  · rcases h2 with ⟨y, f2, _, _⟩ | ⟨f2, rfl, rfl⟩
    · rw [f1] at f2; cases f2
    · have k := fun h => c24 (n := n) (tot := tot) (ω := ω) (h := h) [] [] .nils .nils (.inl ⟨rfl, rfl⟩) (.inl ⟨rfl, rfl⟩) (by simp) (by simp) (by simp) (by simp) (by simp; omega)
      have e : decide (([] : List Pt) = []) = true := rfl
      rw [e] at k
      simp (maxSteps := 2000000) (discharger := omega) only [xc,xo,xr,x0,x1,x2,x3,x4,x5,x6,xd,xe,xb,kont_call,kont_pure,kont_round,isNil,slOk,sliceV,selems,srcElems,copyTo,dlen,eqAV,eqCells,eqS,wr,place,partVals,partEs,placeEs,mapOf,keyOk,keyCells,findK,Bool.bne_false,Bool.bne_true,List.drop_zero,List.nil_append,List.append_nil,List.take_zero,List.cons_append,List.take_succ_cons,List.drop_succ_cons,List.take_nil,List.drop_nil,Reg.isA,Reg.isV,Reg.stays,Reg.onto,Bool.false_or,Bool.or_false,Bool.false_and,Bool.and_false,Bool.true_and,Bool.and_true,Bool.or_true,Bool.true_or,↓reduceIte,reduceCtorEq,Nat.reduceEqDiff,Nat.reduceLT,Nat.reduceAdd,Nat.reduceMul,Nat.add_zero,Nat.zero_add,Nat.not_lt_zero,Nat.zero_ne_one,Nat.one_ne_zero,Nat.reduceLeDiff,Nat.lt_irrefl,Nat.zero_lt_succ,Bool.false_eq_true,Bool.not_true,Bool.not_false,Option.map_some,Option.map_none,Option.bind_some,Option.getD_some,Option.getD_none,and_self,and_true,true_and,List.length_cons,List.length_nil,List.any_nil,List.any_cons,Int.toNat_natCast,Int.cast_ofNat_Int,Int.natCast_zero,Int.natCast_nonneg,true_implies,or_true,true_or,false_or,or_false,beq_self_eq_true,Option.some.injEq,exists_eq_left',Int.reduceEq,Int.reduceLT,Int.reduceLE,Int.reduceGT,Int.reduceGE,Nat.reduceGT,Int.reduceNeg,Int.reduceToNat,Int.reduceAdd,Int.reduceMul,Int.reduceSub,Int.reducePow,decide_true,decide_false,decide_eq_true_eq,List.getElem?_cons_zero,List.getElem?_cons_succ,Nat.reduceBEq,Nat.reduceSub,exists_false,and_false,false_and,xu,List.set_cons_zero,List.set_cons_succ,wrap_i64,int_lt_t,int_lt_f,int_le_t,int_le_f,int_gt_t,int_gt_f,int_ge_t,int_ge_f,int_eq_t,int_eq_f,int_beq_t,int_beq_f,int_bne_t,int_bne_f,nat_le_t,nat_le_f,Nat.sub_zero,Nat.sub_self,not_false_eq_true,not_true_eq_false,k]

theorem w_t8b (ls : List Lf) (c9 : Cap) (a10 lv : AV) (p : By) (i : Nat) (hi : i < ls.length) (hp : p.length ≤ 9223372036854775807) (hok : ∀ x ∈ ls, x.ok ∧ x.p.length ≤ 1000000) (hl : ls.length ≤ 1000000) (hA : LateApp 0 1 ((listB p (ls.take i)).map AV.str) h lv) :
    Wp (kont F n tot ω) n t8b [(3, .val (.str p)), (9, .val (.imm 2 (ls.map Lf.av) c9)), (10, .val a10), (15, .val lv), (16, .val (.int .i64 i)), (91, .val (.bool true))] h
      fun e r' h' => e = .normal ∧ ∃ lv' x z, (r' = [(3, .val (.str p)), (9, .val (.imm 2 (ls.map Lf.av) c9)), (10, .val a10), (15, .val lv'), (16, .val (.int .i64 i))] ∨ r' = [(3, .val (.str p)), (9, .val (.imm 2 (ls.map Lf.av) c9)), (10, .val a10), (15, .val lv'), (16, .val (.int .i64 i)), (x, z)] ∧ x = 114) ∧ LateApp 0 1 ((listB p (ls.take (i + 1))).map AV.str) h' lv' := by
  have q1 := lf_get hi
  have o1 := hok _ (List.getElem_mem hi)
  have hsn := listB_snoc p ls i hi
  have hll := listB_len p (ls.take i)
  rw [List.length_take] at hll
  have t1 := rd_sub o1.1.rd 1
  unfold t8b
  by_cases hle : p.length ≤ ls[i].p.length
  · cases heq : (ls[i].p.take p.length == p) with
    | true =>
      obtain ⟨v', h2, w1, w2, w3⟩ := late_app (bytes := 16) (xs := [.str ls[i].p]) hA (Nat.zero_le _) (by simp) (by simp; omega)
      have hb : begins p ls[i].p = true := by unfold begins; rw [heq]; simp [hle]
      rw [hb] at hsn
      simp (maxSteps := 2000000) (discharger := omega) only [xc,xo,xr,x0,x1,x2,x3,x4,x5,x6,xd,xe,xb,kont_call,kont_pure,kont_round,isNil,slOk,sliceV,selems,srcElems,copyTo,dlen,eqAV,eqCells,eqS,wr,place,partVals,partEs,placeEs,mapOf,keyOk,keyCells,findK,Bool.bne_false,Bool.bne_true,List.drop_zero,List.nil_append,List.append_nil,List.take_zero,List.cons_append,List.take_succ_cons,List.drop_succ_cons,List.take_nil,List.drop_nil,Reg.isA,Reg.isV,Reg.stays,Reg.onto,Bool.false_or,Bool.or_false,Bool.false_and,Bool.and_false,Bool.true_and,Bool.and_true,Bool.or_true,Bool.true_or,↓reduceIte,reduceCtorEq,Nat.reduceEqDiff,Nat.reduceLT,Nat.reduceAdd,Nat.reduceMul,Nat.add_zero,Nat.zero_add,Nat.not_lt_zero,Nat.zero_ne_one,Nat.one_ne_zero,Nat.reduceLeDiff,Nat.lt_irrefl,Nat.zero_lt_succ,Bool.false_eq_true,Bool.not_true,Bool.not_false,Option.map_some,Option.map_none,Option.bind_some,Option.getD_some,Option.getD_none,and_self,and_true,true_and,List.length_cons,List.length_nil,List.any_nil,List.any_cons,Int.toNat_natCast,Int.cast_ofNat_Int,Int.natCast_zero,Int.natCast_nonneg,true_implies,or_true,true_or,false_or,or_false,beq_self_eq_true,Option.some.injEq,exists_eq_left',Int.reduceEq,Int.reduceLT,Int.reduceLE,Int.reduceGT,Int.reduceGE,Nat.reduceGT,Int.reduceNeg,Int.reduceToNat,Int.reduceAdd,Int.reduceMul,Int.reduceSub,Int.reducePow,decide_true,decide_false,decide_eq_true_eq,List.getElem?_cons_zero,List.getElem?_cons_succ,Nat.reduceBEq,Nat.reduceSub,exists_false,and_false,false_and,xu,List.set_cons_zero,List.set_cons_succ,wrap_i64,int_lt_t,int_lt_f,int_le_t,int_le_f,int_gt_t,int_gt_f,int_ge_t,int_ge_f,int_eq_t,int_eq_f,int_beq_t,int_beq_f,int_bne_t,int_bne_f,nat_le_t,nat_le_f,Nat.sub_zero,Nat.sub_self,not_false_eq_true,not_true_eq_false,q1,heq,w1,hA.1.isRow,List.replicate,List.length_map]
      exact ⟨v', 0, .un, .inl rfl, by rw [hsn, List.map_append]; exact w2⟩
    | false =>
      have hb : begins p ls[i].p = false := by unfold begins; rw [heq]; simp
      rw [hb] at hsn
      simp (maxSteps := 2000000) (discharger := omega) only [xc,xo,xr,x0,x1,x2,x3,x4,x5,x6,xd,xe,xb,kont_call,kont_pure,kont_round,isNil,slOk,sliceV,selems,srcElems,copyTo,dlen,eqAV,eqCells,eqS,wr,place,partVals,partEs,placeEs,mapOf,keyOk,keyCells,findK,Bool.bne_false,Bool.bne_true,List.drop_zero,List.nil_append,List.append_nil,List.take_zero,List.cons_append,List.take_succ_cons,List.drop_succ_cons,List.take_nil,List.drop_nil,Reg.isA,Reg.isV,Reg.stays,Reg.onto,Bool.false_or,Bool.or_false,Bool.false_and,Bool.and_false,Bool.true_and,Bool.and_true,Bool.or_true,Bool.true_or,↓reduceIte,reduceCtorEq,Nat.reduceEqDiff,Nat.reduceLT,Nat.reduceAdd,Nat.reduceMul,Nat.add_zero,Nat.zero_add,Nat.not_lt_zero,Nat.zero_ne_one,Nat.one_ne_zero,Nat.reduceLeDiff,Nat.lt_irrefl,Nat.zero_lt_succ,Bool.false_eq_true,Bool.not_true,Bool.not_false,Option.map_some,Option.map_none,Option.bind_some,Option.getD_some,Option.getD_none,and_self,and_true,true_and,List.length_cons,List.length_nil,List.any_nil,List.any_cons,Int.toNat_natCast,Int.cast_ofNat_Int,Int.natCast_zero,Int.natCast_nonneg,true_implies,or_true,true_or,false_or,or_false,beq_self_eq_true,Option.some.injEq,exists_eq_left',Int.reduceEq,Int.reduceLT,Int.reduceLE,Int.reduceGT,Int.reduceGE,Nat.reduceGT,Int.reduceNeg,Int.reduceToNat,Int.reduceAdd,Int.reduceMul,Int.reduceSub,Int.reducePow,decide_true,decide_false,decide_eq_true_eq,List.getElem?_cons_zero,List.getElem?_cons_succ,Nat.reduceBEq,Nat.reduceSub,exists_false,and_false,false_and,xu,List.set_cons_zero,List.set_cons_succ,wrap_i64,int_lt_t,int_lt_f,int_le_t,int_le_f,int_gt_t,int_gt_f,int_ge_t,int_ge_f,int_eq_t,int_eq_f,int_beq_t,int_beq_f,int_bne_t,int_bne_f,nat_le_t,nat_le_f,Nat.sub_zero,Nat.sub_self,not_false_eq_true,not_true_eq_false,q1,heq,List.length_map]
      exact ⟨lv, 114, _, .inr ⟨rfl, rfl⟩, by rw [hsn]; simpa using hA⟩
  · have hb : begins p ls[i].p = false := by unfold begins; simp [hle]
    rw [hb] at hsn
    simp (maxSteps := 2000000) (discharger := omega) only [xc,xo,xr,x0,x1,x2,x3,x4,x5,x6,xd,xe,xb,kont_call,kont_pure,kont_round,isNil,slOk,sliceV,selems,srcElems,copyTo,dlen,eqAV,eqCells,eqS,wr,place,partVals,partEs,placeEs,mapOf,keyOk,keyCells,findK,Bool.bne_false,Bool.bne_true,List.drop_zero,List.nil_append,List.append_nil,List.take_zero,List.cons_append,List.take_succ_cons,List.drop_succ_cons,List.take_nil,List.drop_nil,Reg.isA,Reg.isV,Reg.stays,Reg.onto,Bool.false_or,Bool.or_false,Bool.false_and,Bool.and_false,Bool.true_and,Bool.and_true,Bool.or_true,Bool.true_or,↓reduceIte,reduceCtorEq,Nat.reduceEqDiff,Nat.reduceLT,Nat.reduceAdd,Nat.reduceMul,Nat.add_zero,Nat.zero_add,Nat.not_lt_zero,Nat.zero_ne_one,Nat.one_ne_zero,Nat.reduceLeDiff,Nat.lt_irrefl,Nat.zero_lt_succ,Bool.false_eq_true,Bool.not_true,Bool.not_false,Option.map_some,Option.map_none,Option.bind_some,Option.getD_some,Option.getD_none,and_self,and_true,true_and,List.length_cons,List.length_nil,List.any_nil,List.any_cons,Int.toNat_natCast,Int.cast_ofNat_Int,Int.natCast_zero,Int.natCast_nonneg,true_implies,or_true,true_or,false_or,or_false,beq_self_eq_true,Option.some.injEq,exists_eq_left',Int.reduceEq,Int.reduceLT,Int.reduceLE,Int.reduceGT,Int.reduceGE,Nat.reduceGT,Int.reduceNeg,Int.reduceToNat,Int.reduceAdd,Int.reduceMul,Int.reduceSub,Int.reducePow,decide_true,decide_false,decide_eq_true_eq,List.getElem?_cons_zero,List.getElem?_cons_succ,Nat.reduceBEq,Nat.reduceSub,exists_false,and_false,false_and,xu,List.set_cons_zero,List.set_cons_succ,wrap_i64,int_lt_t,int_lt_f,int_le_t,int_le_f,int_gt_t,int_gt_f,int_ge_t,int_ge_f,int_eq_t,int_eq_f,int_beq_t,int_beq_f,int_bne_t,int_bne_f,nat_le_t,nat_le_f,Nat.sub_zero,Nat.sub_self,not_false_eq_true,not_true_eq_false,q1,List.length_map]
    exact ⟨lv, 114, _, .inr ⟨rfl, rfl⟩, by rw [hsn]; simpa using hA⟩

theorem w_t8c (ks ls : List Lf) (a b lv : AV) (p : By) (ha : IsRd 2 (ks.map Lf.av) a) (hb : IsRd 2 (ls.map Lf.av) b) (hk : ∀ x ∈ ks, x.ok ∧ x.ps.length ≤ 1000000 ∧ x.p.length ≤ 1000000) (hl : ∀ x ∈ ls, x.ok ∧ x.ps.length ≤ 1000000 ∧ x.p.length ≤ 1000000)
    (hkl : ks.length ≤ 1000) (hll : ls.length ≤ 1000) (hp : p.length ≤ 9223372036854775807) (hv : IsRd 1 ((listB p ks).map AV.str) lv) (hn : 1010000 < n) (x : AV) :
    Wp (kont F n tot ω) n t8c [(3, .val (.str p)), (9, .val a), (10, .val b), (15, .val lv), (16, .val (.int .i64 ks.length)), (91, .val x)] h (Ret [ARes.t 8] fun v h' => v = .bool true) := by
  obtain ⟨v1, h1, k1, r1⟩ := c32 (n := n) (tot := tot) (ω := ω) (h := h) ks a p ha (fun x hx => (hk x hx).1) (fun x hx => (hk x hx).2.2) hp (by omega) (by omega)
  have hlb := listB_len p ks
  have k2 := c31 (n := n) (tot := tot) (ω := ω) (h := h1) (listB p ks) v1 lv r1 hv (by omega) (by omega)
  obtain ⟨v3, h3, k3, r3⟩ := c29 (n := n) (tot := tot) (ω := ω) (h := h1) ks ls a b ha hb (fun x hx => ⟨(hk x hx).1, (hk x hx).2.1⟩) (fun x hx => ⟨(hl x hx).1, (hl x hx).2.1⟩) (by omega) (by omega)
  obtain ⟨v4, h4, k4, r4⟩ := c34 (n := n) (tot := tot) (ω := ω) (h := h3) ks ls a b ha hb (fun x hx => ⟨(hk x hx).1, (hk x hx).2.1⟩) (fun x hx => ⟨(hl x hx).1, (hl x hx).2.1⟩) (by omega) (by omega)
  have hdl := diffL_len _ ks ls rfl
  have k5 := c33 (n := n) (tot := tot) (ω := ω) (h := h4) (diffL ks ls) v3 v4 r3 r4 (by omega) (by omega)
  obtain ⟨v6, h6, k6, r6⟩ := c29 (n := n) (tot := tot) (ω := ω) (h := h4) ks ks a a ha ha (fun x hx => ⟨(hk x hx).1, (hk x hx).2.1⟩) (fun x hx => ⟨(hk x hx).1, (hk x hx).2.1⟩) (by omega) (by omega)
  rw [diffL_self] at r6
  have l6 := r6.len
  have e0 : (((0 : Nat) : Int) == 0) = true := rfl
  unfold t8c
  simp (maxSteps := 2000000) (discharger := omega) only [xc,xo,xr,x0,x1,x2,x3,x4,x5,x6,xd,xe,xb,kont_call,kont_pure,kont_round,isNil,slOk,sliceV,selems,srcElems,copyTo,dlen,eqAV,eqCells,eqS,wr,place,partVals,partEs,placeEs,mapOf,keyOk,keyCells,findK,Bool.bne_false,Bool.bne_true,List.drop_zero,List.nil_append,List.append_nil,List.take_zero,List.cons_append,List.take_succ_cons,List.drop_succ_cons,List.take_nil,List.drop_nil,Reg.isA,Reg.isV,Reg.stays,Reg.onto,Bool.false_or,Bool.or_false,Bool.false_and,Bool.and_false,Bool.true_and,Bool.and_true,Bool.or_true,Bool.true_or,↓reduceIte,reduceCtorEq,Nat.reduceEqDiff,Nat.reduceLT,Nat.reduceAdd,Nat.reduceMul,Nat.add_zero,Nat.zero_add,Nat.not_lt_zero,Nat.zero_ne_one,Nat.one_ne_zero,Nat.reduceLeDiff,Nat.lt_irrefl,Nat.zero_lt_succ,Bool.false_eq_true,Bool.not_true,Bool.not_false,Option.map_some,Option.map_none,Option.bind_some,Option.getD_some,Option.getD_none,and_self,and_true,true_and,List.length_cons,List.length_nil,List.any_nil,List.any_cons,Int.toNat_natCast,Int.cast_ofNat_Int,Int.natCast_zero,Int.natCast_nonneg,true_implies,or_true,true_or,false_or,or_false,beq_self_eq_true,Option.some.injEq,exists_eq_left',Int.reduceEq,Int.reduceLT,Int.reduceLE,Int.reduceGT,Int.reduceGE,Nat.reduceGT,Int.reduceNeg,Int.reduceToNat,Int.reduceAdd,Int.reduceMul,Int.reduceSub,Int.reducePow,decide_true,decide_false,decide_eq_true_eq,List.getElem?_cons_zero,List.getElem?_cons_succ,Nat.reduceBEq,Nat.reduceSub,exists_false,and_false,false_and,xu,List.set_cons_zero,List.set_cons_succ,wrap_i64,int_lt_t,int_lt_f,int_le_t,int_le_f,int_gt_t,int_gt_f,int_ge_t,int_ge_f,int_eq_t,int_eq_f,int_beq_t,int_beq_f,int_bne_t,int_bne_f,nat_le_t,nat_le_f,Nat.sub_zero,Nat.sub_self,not_false_eq_true,not_true_eq_false,k1,k2,k3,k4,k5,k6,l6,List.map_nil,List.length_nil]
end

set_option maxHeartbeats 2000000 in
set_option maxRecDepth 100000 in
theorem law_finds (y0 y1 y2 y3 y4 y5 y6 y7 y11 : AV) (l m M : Int) (hy : y0.notTup = true) (a b : AV) (fs gs : List Fl) (p : By) (ω : Nat → Nat) (hp : p.length ≤ 9223372036854775807) (ha : IsRd 2 (fs.map Fl.av) a) (hb : IsRd 2 (gs.map Fl.av) b) (hfo : ∀ f ∈ fs, f.ok) (hgo : ∀ f ∈ gs, f.ok) :
    ∃ h', call F 2000001 true ω 8 [.agg [y0, y1, y2, y3, y4, y5, y6, y7, .int .i64 l, .int .i64 m, .int .i64 M, y11], a, b, .str p] [] = some (.bool true, h') := by
  suffices hx : ∃ v2 h', call F 2000001 true ω 8 [.agg [y0, y1, y2, y3, y4, y5, y6, y7, .int .i64 l, .int .i64 m, .int .i64 M, y11], a, b, .str p] [] = some (v2, h') ∧ v2 = .bool true by
    obtain ⟨v2, h', e1, rfl⟩ := hx
    exact ⟨h', e1⟩
  refine call_of (fn := a8) f8 (P := fun v2 h' => v2 = .bool true) ?_
  obtain ⟨n, hN⟩ : ∃ n, n = 2000000 := ⟨_, rfl⟩
  rw [← hN]
  unfold a8
  have k10 := fun h => c10 (n := n) (tot := true) (ω := ω) (h := h) (by omega)
  obtain ⟨b1, k11, hb1⟩ := c11 (n := n) (tot := true) (ω := ω) (h := []) a fs ha hfo (by omega)
  obtain ⟨b2, k11b, hb2⟩ := c11 (n := n) (tot := true) (ω := ω) (h := []) b gs hb hgo (by omega)
  cases b1 with
  | false => simp (maxSteps := 2000000) (discharger := omega) only [xc,xo,xr,x0,x1,x2,x3,x4,x5,x6,xd,xe,xb,kont_call,kont_pure,kont_round,isNil,slOk,sliceV,selems,srcElems,copyTo,dlen,eqAV,eqCells,eqS,wr,place,partVals,partEs,placeEs,mapOf,keyOk,keyCells,findK,Bool.bne_false,Bool.bne_true,List.drop_zero,List.nil_append,List.append_nil,List.take_zero,List.cons_append,List.take_succ_cons,List.drop_succ_cons,List.take_nil,List.drop_nil,Reg.isA,Reg.isV,Reg.stays,Reg.onto,Bool.false_or,Bool.or_false,Bool.false_and,Bool.and_false,Bool.true_and,Bool.and_true,Bool.or_true,Bool.true_or,↓reduceIte,reduceCtorEq,Nat.reduceEqDiff,Nat.reduceLT,Nat.reduceAdd,Nat.reduceMul,Nat.add_zero,Nat.zero_add,Nat.not_lt_zero,Nat.zero_ne_one,Nat.one_ne_zero,Nat.reduceLeDiff,Nat.lt_irrefl,Nat.zero_lt_succ,Bool.false_eq_true,Bool.not_true,Bool.not_false,Option.map_some,Option.map_none,Option.bind_some,Option.getD_some,Option.getD_none,and_self,and_true,true_and,List.length_cons,List.length_nil,List.any_nil,List.any_cons,Int.toNat_natCast,Int.cast_ofNat_Int,Int.natCast_zero,Int.natCast_nonneg,true_implies,or_true,true_or,false_or,or_false,beq_self_eq_true,Option.some.injEq,exists_eq_left',Int.reduceEq,Int.reduceLT,Int.reduceLE,Int.reduceGT,Int.reduceGE,Nat.reduceGT,Int.reduceNeg,Int.reduceToNat,Int.reduceAdd,Int.reduceMul,Int.reduceSub,Int.reducePow,decide_true,decide_false,decide_eq_true_eq,List.getElem?_cons_zero,List.getElem?_cons_succ,Nat.reduceBEq,Nat.reduceSub,exists_false,and_false,false_and,xu,List.set_cons_zero,List.set_cons_succ,wrap_i64,int_lt_t,int_lt_f,int_le_t,int_le_f,int_gt_t,int_gt_f,int_ge_t,int_ge_f,int_eq_t,int_eq_f,int_beq_t,int_beq_f,int_bne_t,int_bne_f,nat_le_t,nat_le_f,Nat.sub_zero,Nat.sub_self,not_false_eq_true,not_true_eq_false,k10,k11]
  | true =>
    cases b2 with
    | false => simp (maxSteps := 2000000) (discharger := omega) only [xc,xo,xr,x0,x1,x2,x3,x4,x5,x6,xd,xe,xb,kont_call,kont_pure,kont_round,isNil,slOk,sliceV,selems,srcElems,copyTo,dlen,eqAV,eqCells,eqS,wr,place,partVals,partEs,placeEs,mapOf,keyOk,keyCells,findK,Bool.bne_false,Bool.bne_true,List.drop_zero,List.nil_append,List.append_nil,List.take_zero,List.cons_append,List.take_succ_cons,List.drop_succ_cons,List.take_nil,List.drop_nil,Reg.isA,Reg.isV,Reg.stays,Reg.onto,Bool.false_or,Bool.or_false,Bool.false_and,Bool.and_false,Bool.true_and,Bool.and_true,Bool.or_true,Bool.true_or,↓reduceIte,reduceCtorEq,Nat.reduceEqDiff,Nat.reduceLT,Nat.reduceAdd,Nat.reduceMul,Nat.add_zero,Nat.zero_add,Nat.not_lt_zero,Nat.zero_ne_one,Nat.one_ne_zero,Nat.reduceLeDiff,Nat.lt_irrefl,Nat.zero_lt_succ,Bool.false_eq_true,Bool.not_true,Bool.not_false,Option.map_some,Option.map_none,Option.bind_some,Option.getD_some,Option.getD_none,and_self,and_true,true_and,List.length_cons,List.length_nil,List.any_nil,List.any_cons,Int.toNat_natCast,Int.cast_ofNat_Int,Int.natCast_zero,Int.natCast_nonneg,true_implies,or_true,true_or,false_or,or_false,beq_self_eq_true,Option.some.injEq,exists_eq_left',Int.reduceEq,Int.reduceLT,Int.reduceLE,Int.reduceGT,Int.reduceGE,Nat.reduceGT,Int.reduceNeg,Int.reduceToNat,Int.reduceAdd,Int.reduceMul,Int.reduceSub,Int.reducePow,decide_true,decide_false,decide_eq_true_eq,List.getElem?_cons_zero,List.getElem?_cons_succ,Nat.reduceBEq,Nat.reduceSub,exists_false,and_false,false_and,xu,List.set_cons_zero,List.set_cons_succ,wrap_i64,int_lt_t,int_lt_f,int_le_t,int_le_f,int_gt_t,int_gt_f,int_ge_t,int_ge_f,int_eq_t,int_eq_f,int_beq_t,int_beq_f,int_bne_t,int_bne_f,nat_le_t,nat_le_f,Nat.sub_zero,Nat.sub_self,not_false_eq_true,not_true_eq_false,k10,k11,k11b]
    | true =>
      have fa := hb1 rfl
      have fb := hb2 rfl
      obtain ⟨h1, k15⟩ := c15 (n := n) (tot := true) (ω := ω) (h := []) a fs ha hfo fa (by omega)
      obtain ⟨h2, k15b⟩ := c15 (n := n) (tot := true) (ω := ω) (h := h1) b gs hb hgo fb (by omega)
      by_cases ca : chk fs = 0
      · by_cases cb : chk gs = 0
        · have ta := chk_zero ca
          have tb := chk_zero cb
          rw [ca] at k15
          rw [cb] at k15b
          have na := fa.num
          have nb := fb.num
          obtain ⟨c', l', m', M', k16, hcf, hm1, hm2, hnt⟩ := c16 (n := n) (tot := true) (ω := ω) (h := h2) y0 y1 y2 y3 y4 y5 y6 y7 y11 l m M hy (by omega)
          obtain ⟨kv, h3, ks, k21, rk, _, lk, ok⟩ := c21 (n := n) (tot := true) (ω := ω) (h := h2) c' l' m' M' a fs hcf hm1 (by omega) ha hfo (fun f hf => by have := fa.data f hf; omega) (by omega) (by omega)
          obtain ⟨c2, l2, m2, M2, k16b, hcf2, hm3, hm4, hnt2⟩ := c16 (n := n) (tot := true) (ω := ω) (h := h3) y0 y1 y2 y3 y4 y5 y6 y7 y11 l m M hy (by omega)
          obtain ⟨lv, h4, ls, k21b, rl, _, ll, ol⟩ := c21 (n := n) (tot := true) (ω := ω) (h := h3) c2 l2 m2 M2 b gs hcf2 hm3 (by omega) hb hgo (fun f hf => by have := fb.data f hf; omega) (by omega) (by omega)
          have oks : ∀ x ∈ ks, x.ok ∧ x.ps.length ≤ 1000000 ∧ x.p.length ≤ 1000000 := fun x hx => by
            obtain ⟨o1, f, hf, e1, e2⟩ := ok x hx
            have q1 := fa.data f hf
            have q2 := fa.path f hf
            have q3 := partsR_len l' m' M' f.d
            exact ⟨o1, by rw [e2]; omega, by rw [e1]; omega⟩
          have ols : ∀ x ∈ ls, x.ok ∧ x.ps.length ≤ 1000000 ∧ x.p.length ≤ 1000000 := fun x hx => by
            obtain ⟨o1, f, hf, e1, e2⟩ := ol x hx
            have q1 := fb.data f hf
            have q2 := fb.path f hf
            have q3 := partsR_len l2 m2 M2 f.d
            exact ⟨o1, by rw [e2]; omega, by rw [e1]; omega⟩
          obtain ⟨p', v', b3, h5, k28, r28⟩ := c28 (n := n) (tot := true) (ω := ω) (h := h4) ks kv p rk (fun x hx => (oks x hx).1) (fun x hx => (oks x hx).2.1) (by omega) (by omega)
          obtain ⟨v2, b4, k30, r30⟩ := c30 (n := n) (tot := true) (ω := ω) (h := h5) ks kv p rk (fun x hx => (oks x hx).1) (by omega) (by omega)
          have u1 : v'.notTup = true ∧ v'.cells = [v'] := by
            rcases r28 with ⟨x, _, _, _, _, r⟩ | ⟨_, _, _, rfl⟩
            · exact ⟨rd_nt r, rd_cells r⟩
            · exact ⟨rfl, rfl⟩
          have hkl := rk.len
          rw [List.length_map] at hkl
          have t8 := w_t8a (n := n) (tot := true) (ω := ω) (h := h5) ks lv kv p p' v' v2 b3 b4 (fun x hx => ⟨(oks x hx).1, (oks x hx).2.1⟩) r28 r30 (by omega)
          simp (maxSteps := 2000000) (discharger := omega) only [xc,xo,xr,x0,x1,x2,x3,x4,x5,x6,xd,xe,xb,kont_call,kont_pure,kont_round,isNil,slOk,sliceV,selems,srcElems,copyTo,dlen,eqAV,eqCells,eqS,wr,place,partVals,partEs,placeEs,mapOf,keyOk,keyCells,findK,Bool.bne_false,Bool.bne_true,List.drop_zero,List.nil_append,List.append_nil,List.take_zero,List.cons_append,List.take_succ_cons,List.drop_succ_cons,List.take_nil,List.drop_nil,Reg.isA,Reg.isV,Reg.stays,Reg.onto,Bool.false_or,Bool.or_false,Bool.false_and,Bool.and_false,Bool.true_and,Bool.and_true,Bool.or_true,Bool.true_or,↓reduceIte,reduceCtorEq,Nat.reduceEqDiff,Nat.reduceLT,Nat.reduceAdd,Nat.reduceMul,Nat.add_zero,Nat.zero_add,Nat.not_lt_zero,Nat.zero_ne_one,Nat.one_ne_zero,Nat.reduceLeDiff,Nat.lt_irrefl,Nat.zero_lt_succ,Bool.false_eq_true,Bool.not_true,Bool.not_false,Option.map_some,Option.map_none,Option.bind_some,Option.getD_some,Option.getD_none,and_self,and_true,true_and,List.length_cons,List.length_nil,List.any_nil,List.any_cons,Int.toNat_natCast,Int.cast_ofNat_Int,Int.natCast_zero,Int.natCast_nonneg,true_implies,or_true,true_or,false_or,or_false,beq_self_eq_true,Option.some.injEq,exists_eq_left',Int.reduceEq,Int.reduceLT,Int.reduceLE,Int.reduceGT,Int.reduceGE,Nat.reduceGT,Int.reduceNeg,Int.reduceToNat,Int.reduceAdd,Int.reduceMul,Int.reduceSub,Int.reducePow,decide_true,decide_false,decide_eq_true_eq,List.getElem?_cons_zero,List.getElem?_cons_succ,Nat.reduceBEq,Nat.reduceSub,exists_false,and_false,false_and,xu,List.set_cons_zero,List.set_cons_succ,wrap_i64,int_lt_t,int_lt_f,int_le_t,int_le_f,int_gt_t,int_gt_f,int_ge_t,int_ge_f,int_eq_t,int_eq_f,int_beq_t,int_beq_f,int_bne_t,int_bne_f,nat_le_t,nat_le_f,Nat.sub_zero,Nat.sub_self,not_false_eq_true,not_true_eq_false,k10,k11,k11b,k15,k15b,k16,k21,k16b,k21b,k28,k30,u1.1,u1.2]
          refine t8.mono ?_
          rintro e r' h' ⟨rfl, rfl, rfl⟩
          simp (maxSteps := 2000000) (discharger := omega) only [xc,xo,xr,x0,x1,x2,x3,x4,x5,x6,xd,xe,xb,kont_call,kont_pure,kont_round,isNil,slOk,sliceV,selems,srcElems,copyTo,dlen,eqAV,eqCells,eqS,wr,place,partVals,partEs,placeEs,mapOf,keyOk,keyCells,findK,Bool.bne_false,Bool.bne_true,List.drop_zero,List.nil_append,List.append_nil,List.take_zero,List.cons_append,List.take_succ_cons,List.drop_succ_cons,List.take_nil,List.drop_nil,Reg.isA,Reg.isV,Reg.stays,Reg.onto,Bool.false_or,Bool.or_false,Bool.false_and,Bool.and_false,Bool.true_and,Bool.and_true,Bool.or_true,Bool.true_or,↓reduceIte,reduceCtorEq,Nat.reduceEqDiff,Nat.reduceLT,Nat.reduceAdd,Nat.reduceMul,Nat.add_zero,Nat.zero_add,Nat.not_lt_zero,Nat.zero_ne_one,Nat.one_ne_zero,Nat.reduceLeDiff,Nat.lt_irrefl,Nat.zero_lt_succ,Bool.false_eq_true,Bool.not_true,Bool.not_false,Option.map_some,Option.map_none,Option.bind_some,Option.getD_some,Option.getD_none,and_self,and_true,true_and,List.length_cons,List.length_nil,List.any_nil,List.any_cons,Int.toNat_natCast,Int.cast_ofNat_Int,Int.natCast_zero,Int.natCast_nonneg,true_implies,or_true,true_or,false_or,or_false,beq_self_eq_true,Option.some.injEq,exists_eq_left',Int.reduceEq,Int.reduceLT,Int.reduceLE,Int.reduceGT,Int.reduceGE,Nat.reduceGT,Int.reduceNeg,Int.reduceToNat,Int.reduceAdd,Int.reduceMul,Int.reduceSub,Int.reducePow,decide_true,decide_false,decide_eq_true_eq,List.getElem?_cons_zero,List.getElem?_cons_succ,Nat.reduceBEq,Nat.reduceSub,exists_false,and_false,false_and,xu,List.set_cons_zero,List.set_cons_succ,wrap_i64,int_lt_t,int_lt_f,int_le_t,int_le_f,int_gt_t,int_gt_f,int_ge_t,int_ge_f,int_eq_t,int_eq_f,int_beq_t,int_beq_f,int_bne_t,int_bne_f,nat_le_t,nat_le_f,Nat.sub_zero,Nat.sub_self,not_false_eq_true,not_true_eq_false]
          refine wpi_loop (fun x r g => ∃ (i : Nat) (wv : AV), r = [(3, .val (.str p)), (9, .val kv), (10, .val lv), (15, .val wv), (16, .val (.int .i64 i))] ∧ x = ks.length - i ∧ i ≤ ks.length ∧ LateApp 0 1 ((listB p (ks.take i)).map AV.str) g wv) ks.length (by omega)
            ⟨0, .nils, rfl, rfl, Nat.zero_le _, late_nils _ _ _⟩ ?_
          rintro x r g ⟨i, wv, rfl, rfl, hi, hA⟩
          by_cases hlt : i < ks.length
          · obtain ⟨c9, rfl⟩ := lfs_el rk hlt
            have t8b' := w_t8b (n := n) (tot := true) (ω := ω) (h := g) ks c9 lv wv p i hlt hp (fun x hx => ⟨(oks x hx).1, (oks x hx).2.2⟩) (by omega) hA
            simp (maxSteps := 2000000) (discharger := omega) only [xc,xo,xr,x0,x1,x2,x3,x4,x5,x6,xd,xe,xb,kont_call,kont_pure,kont_round,isNil,slOk,sliceV,selems,srcElems,copyTo,dlen,eqAV,eqCells,eqS,wr,place,partVals,partEs,placeEs,mapOf,keyOk,keyCells,findK,Bool.bne_false,Bool.bne_true,List.drop_zero,List.nil_append,List.append_nil,List.take_zero,List.cons_append,List.take_succ_cons,List.drop_succ_cons,List.take_nil,List.drop_nil,Reg.isA,Reg.isV,Reg.stays,Reg.onto,Bool.false_or,Bool.or_false,Bool.false_and,Bool.and_false,Bool.true_and,Bool.and_true,Bool.or_true,Bool.true_or,↓reduceIte,reduceCtorEq,Nat.reduceEqDiff,Nat.reduceLT,Nat.reduceAdd,Nat.reduceMul,Nat.add_zero,Nat.zero_add,Nat.not_lt_zero,Nat.zero_ne_one,Nat.one_ne_zero,Nat.reduceLeDiff,Nat.lt_irrefl,Nat.zero_lt_succ,Bool.false_eq_true,Bool.not_true,Bool.not_false,Option.map_some,Option.map_none,Option.bind_some,Option.getD_some,Option.getD_none,and_self,and_true,true_and,List.length_cons,List.length_nil,List.any_nil,List.any_cons,Int.toNat_natCast,Int.cast_ofNat_Int,Int.natCast_zero,Int.natCast_nonneg,true_implies,or_true,true_or,false_or,or_false,beq_self_eq_true,Option.some.injEq,exists_eq_left',Int.reduceEq,Int.reduceLT,Int.reduceLE,Int.reduceGT,Int.reduceGE,Nat.reduceGT,Int.reduceNeg,Int.reduceToNat,Int.reduceAdd,Int.reduceMul,Int.reduceSub,Int.reducePow,decide_true,decide_false,decide_eq_true_eq,List.getElem?_cons_zero,List.getElem?_cons_succ,Nat.reduceBEq,Nat.reduceSub,exists_false,and_false,false_and,xu,List.set_cons_zero,List.set_cons_succ,wrap_i64,int_lt_t,int_lt_f,int_le_t,int_le_f,int_gt_t,int_gt_f,int_ge_t,int_ge_f,int_eq_t,int_eq_f,int_beq_t,int_beq_f,int_bne_t,int_bne_f,nat_le_t,nat_le_f,Nat.sub_zero,Nat.sub_self,not_false_eq_true,not_true_eq_false,hkl]
            refine t8b'.mono ?_
            rintro e r' h' ⟨rfl, lv', x, z, hr, hA'⟩
            rcases hr with rfl | ⟨rfl, rfl⟩
            · simp (maxSteps := 2000000) (discharger := omega) only [xc,xo,xr,x0,x1,x2,x3,x4,x5,x6,xd,xe,xb,kont_call,kont_pure,kont_round,isNil,slOk,sliceV,selems,srcElems,copyTo,dlen,eqAV,eqCells,eqS,wr,place,partVals,partEs,placeEs,mapOf,keyOk,keyCells,findK,Bool.bne_false,Bool.bne_true,List.drop_zero,List.nil_append,List.append_nil,List.take_zero,List.cons_append,List.take_succ_cons,List.drop_succ_cons,List.take_nil,List.drop_nil,Reg.isA,Reg.isV,Reg.stays,Reg.onto,Bool.false_or,Bool.or_false,Bool.false_and,Bool.and_false,Bool.true_and,Bool.and_true,Bool.or_true,Bool.true_or,↓reduceIte,reduceCtorEq,Nat.reduceEqDiff,Nat.reduceLT,Nat.reduceAdd,Nat.reduceMul,Nat.add_zero,Nat.zero_add,Nat.not_lt_zero,Nat.zero_ne_one,Nat.one_ne_zero,Nat.reduceLeDiff,Nat.lt_irrefl,Nat.zero_lt_succ,Bool.false_eq_true,Bool.not_true,Bool.not_false,Option.map_some,Option.map_none,Option.bind_some,Option.getD_some,Option.getD_none,and_self,and_true,true_and,List.length_cons,List.length_nil,List.any_nil,List.any_cons,Int.toNat_natCast,Int.cast_ofNat_Int,Int.natCast_zero,Int.natCast_nonneg,true_implies,or_true,true_or,false_or,or_false,beq_self_eq_true,Option.some.injEq,exists_eq_left',Int.reduceEq,Int.reduceLT,Int.reduceLE,Int.reduceGT,Int.reduceGE,Nat.reduceGT,Int.reduceNeg,Int.reduceToNat,Int.reduceAdd,Int.reduceMul,Int.reduceSub,Int.reducePow,decide_true,decide_false,decide_eq_true_eq,List.getElem?_cons_zero,List.getElem?_cons_succ,Nat.reduceBEq,Nat.reduceSub,exists_false,and_false,false_and,xu,List.set_cons_zero,List.set_cons_succ,wrap_i64,int_lt_t,int_lt_f,int_le_t,int_le_f,int_gt_t,int_gt_f,int_ge_t,int_ge_f,int_eq_t,int_eq_f,int_beq_t,int_beq_f,int_bne_t,int_bne_f,nat_le_t,nat_le_f,Nat.sub_zero,Nat.sub_self,not_false_eq_true,not_true_eq_false]
              exact ⟨ks.length - (i + 1), by omega, i + 1, lv', by rw [show ((i : Nat) : Int) + 1 = ((i + 1 : Nat) : Int) by omega], rfl, by omega, hA'⟩
            · simp (maxSteps := 2000000) (discharger := omega) only [xc,xo,xr,x0,x1,x2,x3,x4,x5,x6,xd,xe,xb,kont_call,kont_pure,kont_round,isNil,slOk,sliceV,selems,srcElems,copyTo,dlen,eqAV,eqCells,eqS,wr,place,partVals,partEs,placeEs,mapOf,keyOk,keyCells,findK,Bool.bne_false,Bool.bne_true,List.drop_zero,List.nil_append,List.append_nil,List.take_zero,List.cons_append,List.take_succ_cons,List.drop_succ_cons,List.take_nil,List.drop_nil,Reg.isA,Reg.isV,Reg.stays,Reg.onto,Bool.false_or,Bool.or_false,Bool.false_and,Bool.and_false,Bool.true_and,Bool.and_true,Bool.or_true,Bool.true_or,↓reduceIte,reduceCtorEq,Nat.reduceEqDiff,Nat.reduceLT,Nat.reduceAdd,Nat.reduceMul,Nat.add_zero,Nat.zero_add,Nat.not_lt_zero,Nat.zero_ne_one,Nat.one_ne_zero,Nat.reduceLeDiff,Nat.lt_irrefl,Nat.zero_lt_succ,Bool.false_eq_true,Bool.not_true,Bool.not_false,Option.map_some,Option.map_none,Option.bind_some,Option.getD_some,Option.getD_none,and_self,and_true,true_and,List.length_cons,List.length_nil,List.any_nil,List.any_cons,Int.toNat_natCast,Int.cast_ofNat_Int,Int.natCast_zero,Int.natCast_nonneg,true_implies,or_true,true_or,false_or,or_false,beq_self_eq_true,Option.some.injEq,exists_eq_left',Int.reduceEq,Int.reduceLT,Int.reduceLE,Int.reduceGT,Int.reduceGE,Nat.reduceGT,Int.reduceNeg,Int.reduceToNat,Int.reduceAdd,Int.reduceMul,Int.reduceSub,Int.reducePow,decide_true,decide_false,decide_eq_true_eq,List.getElem?_cons_zero,List.getElem?_cons_succ,Nat.reduceBEq,Nat.reduceSub,exists_false,and_false,false_and,xu,List.set_cons_zero,List.set_cons_succ,wrap_i64,int_lt_t,int_lt_f,int_le_t,int_le_f,int_gt_t,int_gt_f,int_ge_t,int_ge_f,int_eq_t,int_eq_f,int_beq_t,int_beq_f,int_bne_t,int_bne_f,nat_le_t,nat_le_f,Nat.sub_zero,Nat.sub_self,not_false_eq_true,not_true_eq_false]
              exact ⟨ks.length - (i + 1), by omega, i + 1, lv', by rw [show ((i : Nat) : Int) + 1 = ((i + 1 : Nat) : Int) by omega], rfl, by omega, hA'⟩
          · obtain rfl : i = ks.length := by omega
            rw [List.take_length] at hA
            simp (maxSteps := 2000000) (discharger := omega) only [xc,xo,xr,x0,x1,x2,x3,x4,x5,x6,xd,xe,xb,kont_call,kont_pure,kont_round,isNil,slOk,sliceV,selems,srcElems,copyTo,dlen,eqAV,eqCells,eqS,wr,place,partVals,partEs,placeEs,mapOf,keyOk,keyCells,findK,Bool.bne_false,Bool.bne_true,List.drop_zero,List.nil_append,List.append_nil,List.take_zero,List.cons_append,List.take_succ_cons,List.drop_succ_cons,List.take_nil,List.drop_nil,Reg.isA,Reg.isV,Reg.stays,Reg.onto,Bool.false_or,Bool.or_false,Bool.false_and,Bool.and_false,Bool.true_and,Bool.and_true,Bool.or_true,Bool.true_or,↓reduceIte,reduceCtorEq,Nat.reduceEqDiff,Nat.reduceLT,Nat.reduceAdd,Nat.reduceMul,Nat.add_zero,Nat.zero_add,Nat.not_lt_zero,Nat.zero_ne_one,Nat.one_ne_zero,Nat.reduceLeDiff,Nat.lt_irrefl,Nat.zero_lt_succ,Bool.false_eq_true,Bool.not_true,Bool.not_false,Option.map_some,Option.map_none,Option.bind_some,Option.getD_some,Option.getD_none,and_self,and_true,true_and,List.length_cons,List.length_nil,List.any_nil,List.any_cons,Int.toNat_natCast,Int.cast_ofNat_Int,Int.natCast_zero,Int.natCast_nonneg,true_implies,or_true,true_or,false_or,or_false,beq_self_eq_true,Option.some.injEq,exists_eq_left',Int.reduceEq,Int.reduceLT,Int.reduceLE,Int.reduceGT,Int.reduceGE,Nat.reduceGT,Int.reduceNeg,Int.reduceToNat,Int.reduceAdd,Int.reduceMul,Int.reduceSub,Int.reducePow,decide_true,decide_false,decide_eq_true_eq,List.getElem?_cons_zero,List.getElem?_cons_succ,Nat.reduceBEq,Nat.reduceSub,exists_false,and_false,false_and,xu,List.set_cons_zero,List.set_cons_succ,wrap_i64,int_lt_t,int_lt_f,int_le_t,int_le_f,int_gt_t,int_gt_f,int_ge_t,int_ge_f,int_eq_t,int_eq_f,int_beq_t,int_beq_f,int_bne_t,int_bne_f,nat_le_t,nat_le_f,Nat.sub_zero,Nat.sub_self,not_false_eq_true,not_true_eq_false,hkl]
            refine (w_t8c (n := n) (tot := true) (ω := ω) (h := g) ks ls kv lv wv p rk rl oks ols (by omega) (by omega) hp (isRd_app hA.1) (by omega) (.bool false)).mono ?_
            intro e r' h' hq
            exact hq
        · rw [ca] at k15
          simp (maxSteps := 2000000) (discharger := omega) only [xc,xo,xr,x0,x1,x2,x3,x4,x5,x6,xd,xe,xb,kont_call,kont_pure,kont_round,isNil,slOk,sliceV,selems,srcElems,copyTo,dlen,eqAV,eqCells,eqS,wr,place,partVals,partEs,placeEs,mapOf,keyOk,keyCells,findK,Bool.bne_false,Bool.bne_true,List.drop_zero,List.nil_append,List.append_nil,List.take_zero,List.cons_append,List.take_succ_cons,List.drop_succ_cons,List.take_nil,List.drop_nil,Reg.isA,Reg.isV,Reg.stays,Reg.onto,Bool.false_or,Bool.or_false,Bool.false_and,Bool.and_false,Bool.true_and,Bool.and_true,Bool.or_true,Bool.true_or,↓reduceIte,reduceCtorEq,Nat.reduceEqDiff,Nat.reduceLT,Nat.reduceAdd,Nat.reduceMul,Nat.add_zero,Nat.zero_add,Nat.not_lt_zero,Nat.zero_ne_one,Nat.one_ne_zero,Nat.reduceLeDiff,Nat.lt_irrefl,Nat.zero_lt_succ,Bool.false_eq_true,Bool.not_true,Bool.not_false,Option.map_some,Option.map_none,Option.bind_some,Option.getD_some,Option.getD_none,and_self,and_true,true_and,List.length_cons,List.length_nil,List.any_nil,List.any_cons,Int.toNat_natCast,Int.cast_ofNat_Int,Int.natCast_zero,Int.natCast_nonneg,true_implies,or_true,true_or,false_or,or_false,beq_self_eq_true,Option.some.injEq,exists_eq_left',Int.reduceEq,Int.reduceLT,Int.reduceLE,Int.reduceGT,Int.reduceGE,Nat.reduceGT,Int.reduceNeg,Int.reduceToNat,Int.reduceAdd,Int.reduceMul,Int.reduceSub,Int.reducePow,decide_true,decide_false,decide_eq_true_eq,List.getElem?_cons_zero,List.getElem?_cons_succ,Nat.reduceBEq,Nat.reduceSub,exists_false,and_false,false_and,xu,List.set_cons_zero,List.set_cons_succ,wrap_i64,int_lt_t,int_lt_f,int_le_t,int_le_f,int_gt_t,int_gt_f,int_ge_t,int_ge_f,int_eq_t,int_eq_f,int_beq_t,int_beq_f,int_bne_t,int_bne_f,nat_le_t,nat_le_f,Nat.sub_zero,Nat.sub_self,not_false_eq_true,not_true_eq_false,k10,k11,k11b,k15,k15b,int_bne_t cb]
      · simp (maxSteps := 2000000) (discharger := omega) only [xc,xo,xr,x0,x1,x2,x3,x4,x5,x6,xd,xe,xb,kont_call,kont_pure,kont_round,isNil,slOk,sliceV,selems,srcElems,copyTo,dlen,eqAV,eqCells,eqS,wr,place,partVals,partEs,placeEs,mapOf,keyOk,keyCells,findK,Bool.bne_false,Bool.bne_true,List.drop_zero,List.nil_append,List.append_nil,List.take_zero,List.cons_append,List.take_succ_cons,List.drop_succ_cons,List.take_nil,List.drop_nil,Reg.isA,Reg.isV,Reg.stays,Reg.onto,Bool.false_or,Bool.or_false,Bool.false_and,Bool.and_false,Bool.true_and,Bool.and_true,Bool.or_true,Bool.true_or,↓reduceIte,reduceCtorEq,Nat.reduceEqDiff,Nat.reduceLT,Nat.reduceAdd,Nat.reduceMul,Nat.add_zero,Nat.zero_add,Nat.not_lt_zero,Nat.zero_ne_one,Nat.one_ne_zero,Nat.reduceLeDiff,Nat.lt_irrefl,Nat.zero_lt_succ,Bool.false_eq_true,Bool.not_true,Bool.not_false,Option.map_some,Option.map_none,Option.bind_some,Option.getD_some,Option.getD_none,and_self,and_true,true_and,List.length_cons,List.length_nil,List.any_nil,List.any_cons,Int.toNat_natCast,Int.cast_ofNat_Int,Int.natCast_zero,Int.natCast_nonneg,true_implies,or_true,true_or,false_or,or_false,beq_self_eq_true,Option.some.injEq,exists_eq_left',Int.reduceEq,Int.reduceLT,Int.reduceLE,Int.reduceGT,Int.reduceGE,Nat.reduceGT,Int.reduceNeg,Int.reduceToNat,Int.reduceAdd,Int.reduceMul,Int.reduceSub,Int.reducePow,decide_true,decide_false,decide_eq_true_eq,List.getElem?_cons_zero,List.getElem?_cons_succ,Nat.reduceBEq,Nat.reduceSub,exists_false,and_false,false_and,xu,List.set_cons_zero,List.set_cons_succ,wrap_i64,int_lt_t,int_lt_f,int_le_t,int_le_f,int_gt_t,int_gt_f,int_ge_t,int_ge_f,int_eq_t,int_eq_f,int_beq_t,int_beq_f,int_bne_t,int_bne_f,nat_le_t,nat_le_f,Nat.sub_zero,Nat.sub_self,not_false_eq_true,not_true_eq_false,k10,k11,k11b,k15,int_bne_t ca]
end Go.Proofs.YtpgmohjmpaifbaaDoor.Im

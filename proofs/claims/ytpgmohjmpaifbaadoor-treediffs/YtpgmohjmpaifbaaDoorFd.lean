/- Joined: S21Bd, S21Fd. -/
import Derived.Test.YtpgmohjmpaifbaaDoorDi
import Derived.Test.YtpgmohjmpaifbaaDoorCa
import Derived.Sort.LotA
/- S21Bd: the reference's tree of files. -/
set_option linter.unusedVariables false
set_option linter.unusedSimpArgs false
open Go Go.Im Go.Sort
namespace Go.Proofs.YtpgmohjmpaifbaaDoor.Im

theorem fl_get' {fs : List Fl} {i : Nat} (hi : i < fs.length) : (fs.map Fl.av)[i]? = some (.agg [.str fs[i].p, fs[i].v]) := by simp [hi,Fl.av]
theorem wrap64_tmod (x m : Int) (hm : 0 < m) : 0 ≤ (IntKind.u64.wrap x).tmod m ∧ (IntKind.u64.wrap x).tmod m < m := by
  have h : 0 ≤ IntKind.u64.wrap x := by
    have : IntKind.u64.wrap x = x % 18446744073709551616 := by simp [IntKind.wrap,IntKind.signed,IntKind.bits]
    rw [this]; omega
  rw [tmod_pos h]
  exact ⟨Int.emod_nonneg _ (by omega), Int.emod_lt_of_pos _ hm⟩

section
variable {n : Nat} {tot : Bool} {ω : Nat → Nat} {h : Hp}

theorem c16 (y0 y1 y2 y3 y4 y5 y6 y7 y11 : AV) (l m M : Int) (hy : y0.notTup = true) (hn : 0 < n) :
    ∃ c' l' m' M', call F n tot ω 16 [.agg [y0, y1, y2, y3, y4, y5, y6, y7, .int .i64 l, .int .i64 m, .int .i64 M, y11]] h = some (c', h) ∧ Cf c' l' m' M' ∧ 1 ≤ m' ∧ m' ≤ 1000 ∧ c'.notTup = true := by
  obtain ⟨n, rfl⟩ : ∃ m, n = m + 1 := ⟨n - 1, by omega⟩
  obtain ⟨a1, a2⟩ := wrap64_tmod l 64 (by decide)
  obtain ⟨b1, b2⟩ := wrap64_tmod m 256 (by decide)
  obtain ⟨d1, d2⟩ := wrap64_tmod M 512 (by decide)
  obtain ⟨tl, htl⟩ : ∃ tl, (IntKind.u64.wrap l).tmod 64 = tl := ⟨_, rfl⟩
  obtain ⟨tm, htm⟩ : ∃ tm, (IntKind.u64.wrap m).tmod 256 = tm := ⟨_, rfl⟩
  obtain ⟨tM, htM⟩ : ∃ tM, (IntKind.u64.wrap M).tmod 512 = tM := ⟨_, rfl⟩
  rw [htl] at a1 a2
  rw [htm] at b1 b2
  rw [htM] at d1 d2
  suffices hx : ∃ u h', call F (n + 1) tot ω 16 [.agg [y0, y1, y2, y3, y4, y5, y6, y7, .int .i64 l, .int .i64 m, .int .i64 M, y11]] h = some (u, h') ∧ h' = h ∧ u = .agg [y0, y1, y2, y3, y4, y5, y6, y7, .int .i64 (1 + tl), .int .i64 (1 + tm), .int .i64 (1 + tl + tM), y11] by
    obtain ⟨u, h', e1, rfl, rfl⟩ := hx
    exact ⟨_, _, _, _, e1, ⟨_, rfl, rfl, rfl, rfl, rfl⟩, by omega, by omega, rfl⟩
  refine call_of (fn := a16) f16 (P := fun u h' => h' = h ∧ u = .agg [y0, y1, y2, y3, y4, y5, y6, y7, .int .i64 (1 + tl), .int .i64 (1 + tm), .int .i64 (1 + tl + tM), y11]) ?_
  unfold a16
  simp (maxSteps := 2000000) (discharger := omega) only [xc,xo,xr,x0,x1,x2,x3,x4,x5,x6,xd,xe,xb,kont_call,kont_pure,kont_round,isNil,slOk,sliceV,selems,srcElems,copyTo,dlen,eqAV,eqCells,eqS,wr,place,partVals,partEs,placeEs,mapOf,keyOk,keyCells,findK,Bool.bne_false,Bool.bne_true,List.drop_zero,List.nil_append,List.append_nil,List.take_zero,List.cons_append,List.take_succ_cons,List.drop_succ_cons,List.take_nil,List.drop_nil,Reg.isA,Reg.isV,Reg.stays,Reg.onto,Bool.false_or,Bool.or_false,Bool.false_and,Bool.and_false,Bool.true_and,Bool.and_true,Bool.or_true,Bool.true_or,↓reduceIte,reduceCtorEq,Nat.reduceEqDiff,Nat.reduceLT,Nat.reduceAdd,Nat.reduceMul,Nat.add_zero,Nat.zero_add,Nat.not_lt_zero,Nat.zero_ne_one,Nat.one_ne_zero,Nat.reduceLeDiff,Nat.lt_irrefl,Nat.zero_lt_succ,Bool.false_eq_true,Bool.not_true,Bool.not_false,Option.map_some,Option.map_none,Option.bind_some,Option.getD_some,Option.getD_none,and_self,and_true,true_and,List.length_cons,List.length_nil,List.any_nil,List.any_cons,Int.toNat_natCast,Int.cast_ofNat_Int,Int.natCast_zero,Int.natCast_nonneg,true_implies,or_true,true_or,false_or,or_false,beq_self_eq_true,Option.some.injEq,exists_eq_left',Int.reduceEq,Int.reduceLT,Int.reduceLE,Int.reduceGT,Int.reduceGE,Nat.reduceGT,Int.reduceNeg,Int.reduceToNat,Int.reduceAdd,Int.reduceMul,Int.reduceSub,Int.reducePow,decide_true,decide_false,decide_eq_true_eq,List.getElem?_cons_zero,List.getElem?_cons_succ,Nat.reduceBEq,Nat.reduceSub,exists_false,and_false,false_and,xu,List.set_cons_zero,List.set_cons_succ,wrap_i64,int_lt_t,int_lt_f,int_le_t,int_le_f,int_gt_t,int_gt_f,int_ge_t,int_ge_f,int_eq_t,int_eq_f,int_beq_t,int_beq_f,int_bne_t,int_bne_f,nat_le_t,nat_le_f,Nat.sub_zero,Nat.sub_self,not_false_eq_true,not_true_eq_false,htl,htm,htM]

theorem keepR_below2 {lo : Nat} {h h' : Hp} (k : KeepR lo 2 h h') (hl : lo ≤ h.length) : Below lo h h' := ⟨k.1, fun i hi => by
  have e : h[i]? = some h[i] := List.getElem?_eq_getElem (by omega)
  rw [e]; exact k.2 i _ e (.inl hi)⟩

theorem flLt_swo' : SWO flLt := ⟨fun x => bl_irrefl _, fun x y z h1 h2 => bl_trans _ _ _ h1 h2, fun x y z h1 h2 => bl_ntrans _ _ _ h1 h2⟩
def SrtF (gs : List Fl) : Prop := ∀ j k (hj : j < gs.length) (hk : k < gs.length), j < k → flLt gs[k] gs[j] = false

theorem c49 (a : AV) (fs : List Fl) (ha : IsRd 2 (fs.map Fl.av) a) (hok : ∀ f ∈ fs, f.ok) (hl : fs.length ≤ 1000000) (hn : fs.length + 10 < n) :
    ∃ (v : AV) (m : Hp) (gs : List Fl), call F n tot ω 49 [a] h = some (v, h ++ m) ∧ RowEx (h ++ m) 2 h.length (gs.map Fl.av) v ∧ gs.Perm fs ∧ SrtF gs := by
  obtain ⟨n, rfl⟩ : ∃ m, n = m + 1 := ⟨n - 1, by omega⟩
  suffices hx : ∃ u h', call F (n + 1) tot ω 49 [a] h = some (u, h') ∧ ∃ (gs : List Fl), Below h.length h h' ∧ RowEx h' 2 h.length (gs.map Fl.av) u ∧ gs.Perm fs ∧ SrtF gs by
    obtain ⟨u, h', e1, gs, b1, b2, b3⟩ := hx
    have e : h' = h ++ h'.drop h.length := by
      have : h'.take h.length = h := by
        apply List.ext_getElem?
        intro i
        rw [List.getElem?_take]
        by_cases hi : i < h.length
        · rw [if_pos hi]; exact b1.2 i hi
        · rw [if_neg hi, List.getElem?_eq_none (by omega)]
      conv => lhs; rw [← List.take_append_drop h.length h', this]
    rw [e] at e1 b2
    exact ⟨u, _, gs, e1, b2, b3⟩
  refine call_of (fn := a49) f49 (P := fun u h' => ∃ (gs : List Fl), Below h.length h h' ∧ RowEx h' 2 h.length (gs.map Fl.av) u ∧ gs.Perm fs ∧ SrtF gs) ?_
  unfold a49
  have hlen := ha.len
  rw [List.length_map] at hlen
  simp (maxSteps := 2000000) (discharger := omega) only [xc,xo,xr,x0,x1,x2,x3,x4,x5,x6,xd,xe,xb,kont_call,kont_pure,kont_round,isNil,slOk,sliceV,selems,srcElems,copyTo,dlen,eqAV,eqCells,eqS,wr,place,partVals,partEs,placeEs,mapOf,keyOk,keyCells,findK,Bool.bne_false,Bool.bne_true,List.drop_zero,List.nil_append,List.append_nil,List.take_zero,List.cons_append,List.take_succ_cons,List.drop_succ_cons,List.take_nil,List.drop_nil,Reg.isA,Reg.isV,Reg.stays,Reg.onto,Bool.false_or,Bool.or_false,Bool.false_and,Bool.and_false,Bool.true_and,Bool.and_true,Bool.or_true,Bool.true_or,↓reduceIte,reduceCtorEq,Nat.reduceEqDiff,Nat.reduceLT,Nat.reduceAdd,Nat.reduceMul,Nat.add_zero,Nat.zero_add,Nat.not_lt_zero,Nat.zero_ne_one,Nat.one_ne_zero,Nat.reduceLeDiff,Nat.lt_irrefl,Nat.zero_lt_succ,Bool.false_eq_true,Bool.not_true,Bool.not_false,Option.map_some,Option.map_none,Option.bind_some,Option.getD_some,Option.getD_none,and_self,and_true,true_and,List.length_cons,List.length_nil,List.any_nil,List.any_cons,Int.toNat_natCast,Int.cast_ofNat_Int,Int.natCast_zero,Int.natCast_nonneg,true_implies,or_true,true_or,false_or,or_false,beq_self_eq_true,Option.some.injEq,exists_eq_left',Int.reduceEq,Int.reduceLT,Int.reduceLE,Int.reduceGT,Int.reduceGE,Nat.reduceGT,Int.reduceNeg,Int.reduceToNat,Int.reduceAdd,Int.reduceMul,Int.reduceSub,Int.reducePow,decide_true,decide_false,decide_eq_true_eq,List.getElem?_cons_zero,List.getElem?_cons_succ,Nat.reduceBEq,Nat.reduceSub,exists_false,and_false,false_and,xu,List.set_cons_zero,List.set_cons_succ,wrap_i64,int_lt_t,int_lt_f,int_le_t,int_le_f,int_gt_t,int_gt_f,int_ge_t,int_ge_f,int_eq_t,int_eq_f,int_beq_t,int_beq_f,int_bne_t,int_bne_f,nat_le_t,nat_le_f,Nat.sub_zero,Nat.sub_self,not_false_eq_true,not_true_eq_false,hlen]
  refine wpi_loop (fun x r g => ∃ (i : Nat) (lv : AV) (gs : List Fl), r = [(0, .val a), (3, .val lv), (4, .val (.int .i64 i))] ∧ x = fs.length - i ∧ i ≤ fs.length ∧ Below h.length h g ∧ RowEx g 2 h.length (gs.map Fl.av) lv ∧ gs.Perm (fs.take i) ∧ SrtF gs) fs.length (by omega)
    ⟨0, .nils, [], rfl, rfl, Nat.zero_le _, .refl _ _, .inl ⟨rfl, rfl⟩, .refl _, fun j k hj => by simp at hj⟩ ?_
  rintro x r g ⟨i, lv, gs, rfl, rfl, hi, hB, hR, hP, hSr⟩
  have hgl : gs.length = i := by rw [hP.length_eq, List.length_take]; omega
  by_cases hlt : i < fs.length
  · obtain ⟨cv, rfl⟩ := ha.imm (i := i) (by simpa using hlt)
    have q1 := fl_get' hlt
    have hf := hok _ (List.getElem_mem hlt)
    have hR2 : RowEx (g ++ [.row 2 [.agg [.str fs[i].p, fs[i].v]]]) 2 h.length (gs.map Fl.av) lv := hR.more
    obtain ⟨v', h2, w1, w2, w3⟩ := row_appx (bytes := 40) (xs := [.agg [.str fs[i].p, fs[i].v]]) hR2 (by simp [hgl]; omega) (by have := hB.1; simp; omega)
    have hB2 : Below h.length h h2 := hB.trans ((Below.app _ _ _ hB.1).trans (keepR_below2 w3 (by have := hB.1; simp; omega)))
    have hP2 : (gs ++ [fs[i]]).Perm (fs.take (i + 1)) := by rw [List.take_succ_eq_append_getElem hlt]; exact hP.append_right _
    have w2' : RowEx h2 2 h.length ((gs ++ [fs[i]]).map Fl.av) v' := by rw [List.map_append]; exact w2
    rcases w2' with ⟨_, e0⟩ | ⟨id, rfl, hid, hlo⟩
    · have := congrArg List.length e0
      simp at this
    · have hidf : h2[id]? = some (.row 2 (Full Fl.av [] [] (gs ++ [fs[i]]).toArray)) := by rw [hid]; simp [Full]
      have hsz : (gs ++ [fs[i]]).toArray.size = i + 1 := by simp [hgl]
      have hP3 : (gs ++ [fs[i]]).toArray.toList.Perm (fs.take (i + 1)) := by simpa using hP2
      have hIns : Ins flLt 0 i i (gs ++ [fs[i]]).toArray := ⟨fun p q _ hpq hqi _ hq => by
        have hq' : q < gs.length := by omega
        have hp' : p < gs.length := by omega
        have := hSr p q hp' hq' hpq
        simpa [getElem!_pos, hp', hq', Nat.lt_succ_of_lt, List.getElem_append_left] using this, fun q h1 h2 => by omega⟩
      generalize (gs ++ [fs[i]]).toArray = d at hidf hsz hP3 hIns
      have e1 : ((i + 1 : Nat) : Int) - 1 = ((i : Nat) : Int) := by omega
      rw [List.length_map, List.length_append, hgl] at w1
      simp (maxSteps := 2000000) (discharger := omega) only [xc,xo,xr,x0,x1,x2,x3,x4,x5,x6,xd,xe,xb,kont_call,kont_pure,kont_round,isNil,slOk,sliceV,selems,srcElems,copyTo,dlen,eqAV,eqCells,eqS,wr,place,partVals,partEs,placeEs,mapOf,keyOk,keyCells,findK,Bool.bne_false,Bool.bne_true,List.drop_zero,List.nil_append,List.append_nil,List.take_zero,List.cons_append,List.take_succ_cons,List.drop_succ_cons,List.take_nil,List.drop_nil,Reg.isA,Reg.isV,Reg.stays,Reg.onto,Bool.false_or,Bool.or_false,Bool.false_and,Bool.and_false,Bool.true_and,Bool.and_true,Bool.or_true,Bool.true_or,↓reduceIte,reduceCtorEq,Nat.reduceEqDiff,Nat.reduceLT,Nat.reduceAdd,Nat.reduceMul,Nat.add_zero,Nat.zero_add,Nat.not_lt_zero,Nat.zero_ne_one,Nat.one_ne_zero,Nat.reduceLeDiff,Nat.lt_irrefl,Nat.zero_lt_succ,Bool.false_eq_true,Bool.not_true,Bool.not_false,Option.map_some,Option.map_none,Option.bind_some,Option.getD_some,Option.getD_none,and_self,and_true,true_and,List.length_cons,List.length_nil,List.any_nil,List.any_cons,Int.toNat_natCast,Int.cast_ofNat_Int,Int.natCast_zero,Int.natCast_nonneg,true_implies,or_true,true_or,false_or,or_false,beq_self_eq_true,Option.some.injEq,exists_eq_left',Int.reduceEq,Int.reduceLT,Int.reduceLE,Int.reduceGT,Int.reduceGE,Nat.reduceGT,Int.reduceNeg,Int.reduceToNat,Int.reduceAdd,Int.reduceMul,Int.reduceSub,Int.reducePow,decide_true,decide_false,decide_eq_true_eq,List.getElem?_cons_zero,List.getElem?_cons_succ,Nat.reduceBEq,Nat.reduceSub,exists_false,and_false,false_and,xu,List.set_cons_zero,List.set_cons_succ,wrap_i64,int_lt_t,int_lt_f,int_le_t,int_le_f,int_gt_t,int_gt_f,int_ge_t,int_ge_f,int_eq_t,int_eq_f,int_beq_t,int_beq_f,int_bne_t,int_bne_f,nat_le_t,nat_le_f,Nat.sub_zero,Nat.sub_self,not_false_eq_true,not_true_eq_false,hlen,q1,hg0,w1,List.replicate,List.set_cons_zero,e1,List.length_map]
      refine wpi_loop (fun x r g2 => ∃ (j : Nat) (d : Array Fl), r = [(0, .val (.imm 2 (fs.map Fl.av) cv)), (3, .val (.row id 2 0 (i + 1) false)), (4, .val (.int .i64 i)), (5, .val (.int .i64 j))] ∧ j = x ∧ j ≤ i ∧ d.size = i + 1 ∧ g2[id]? = some (.row 2 (Full Fl.av [] [] d)) ∧ d.toList.Perm (fs.take (i + 1)) ∧ Ins flLt 0 j i d ∧ Below h.length h g2) i (by omega)
        ⟨i, d, rfl, rfl, Nat.le_refl _, hsz, hidf, hP3, hIns, hB2⟩ ?_
      rintro x r g2 ⟨j, d, rfl, rfl, hj, hsz, hidf, hP3, hIns, hB2⟩
      have fin : (j ≤ 0 ∨ flLt d[j]! d[j - 1]! = false) → ∃ (gs : List Fl), Below h.length h g2 ∧ RowEx g2 2 h.length (gs.map Fl.av) (.row id 2 0 (i + 1) false) ∧ gs.Perm (fs.take (i + 1)) ∧ SrtF gs := fun hst => ⟨d.toList, hB2, .inr ⟨id, by simp [hsz], by rw [hidf]; simp [Full], hlo⟩, hP3, fun p q hp hq hpq => by
        have hp' : p < d.size := by simpa using hp
        have hq' : q < d.size := by simpa using hq
        have := hIns.stop flLt_swo' hst p q (Nat.zero_le _) hpq (by omega)
        simpa [getElem!_pos, hp', hq'] using this⟩
      have hid2 := (List.getElem?_eq_some_iff.1 hidf).1
      by_cases hj0 : 0 < j
      · obtain ⟨j, rfl⟩ : ∃ j', j = j' + 1 := ⟨j - 1, by omega⟩
        have e2 : (((j + 1 : Nat) : Int) - 1) = ((j : Nat) : Int) := by omega
        have r1 : (Full Fl.av [] [] d)[j + 1]? = some (.agg [.str d[j + 1]!.p, d[j + 1]!.v]) := full0_get (by omega)
        have r2 : (Full Fl.av [] [] d)[j]? = some (.agg [.str d[j]!.p, d[j]!.v]) := full0_get (by omega)
        cases hbl : Op.bytesLess d[j + 1]!.p d[j]!.p with
        | false =>
          simp (maxSteps := 2000000) (discharger := omega) only [xc,xo,xr,x0,x1,x2,x3,x4,x5,x6,xd,xe,xb,kont_call,kont_pure,kont_round,isNil,slOk,sliceV,selems,srcElems,copyTo,dlen,eqAV,eqCells,eqS,wr,place,partVals,partEs,placeEs,mapOf,keyOk,keyCells,findK,Bool.bne_false,Bool.bne_true,List.drop_zero,List.nil_append,List.append_nil,List.take_zero,List.cons_append,List.take_succ_cons,List.drop_succ_cons,List.take_nil,List.drop_nil,Reg.isA,Reg.isV,Reg.stays,Reg.onto,Bool.false_or,Bool.or_false,Bool.false_and,Bool.and_false,Bool.true_and,Bool.and_true,Bool.or_true,Bool.true_or,↓reduceIte,reduceCtorEq,Nat.reduceEqDiff,Nat.reduceLT,Nat.reduceAdd,Nat.reduceMul,Nat.add_zero,Nat.zero_add,Nat.not_lt_zero,Nat.zero_ne_one,Nat.one_ne_zero,Nat.reduceLeDiff,Nat.lt_irrefl,Nat.zero_lt_succ,Bool.false_eq_true,Bool.not_true,Bool.not_false,Option.map_some,Option.map_none,Option.bind_some,Option.getD_some,Option.getD_none,and_self,and_true,true_and,List.length_cons,List.length_nil,List.any_nil,List.any_cons,Int.toNat_natCast,Int.cast_ofNat_Int,Int.natCast_zero,Int.natCast_nonneg,true_implies,or_true,true_or,false_or,or_false,beq_self_eq_true,Option.some.injEq,exists_eq_left',Int.reduceEq,Int.reduceLT,Int.reduceLE,Int.reduceGT,Int.reduceGE,Nat.reduceGT,Int.reduceNeg,Int.reduceToNat,Int.reduceAdd,Int.reduceMul,Int.reduceSub,Int.reducePow,decide_true,decide_false,decide_eq_true_eq,List.getElem?_cons_zero,List.getElem?_cons_succ,Nat.reduceBEq,Nat.reduceSub,exists_false,and_false,false_and,xu,List.set_cons_zero,List.set_cons_succ,wrap_i64,int_lt_t,int_lt_f,int_le_t,int_le_f,int_gt_t,int_gt_f,int_ge_t,int_ge_f,int_eq_t,int_eq_f,int_beq_t,int_beq_f,int_bne_t,int_bne_f,nat_le_t,nat_le_f,Nat.sub_zero,Nat.sub_self,not_false_eq_true,not_true_eq_false,hidf,r1,r2,hbl,e2]
          obtain ⟨gs', f1, f2, f3⟩ := fin (.inr hbl)
          exact ⟨fs.length - (i + 1), by omega, i + 1, _, gs', by rw [show ((i : Nat) : Int) + 1 = ((i + 1 : Nat) : Int) by omega], rfl, by omega, f1, f2, f3⟩
        | true =>
          have u1 : (Full Fl.av [] [] d).set (j + 1) (.agg [.str d[j]!.p, d[j]!.v]) = Full Fl.av [] [] (d.setIfInBounds (j + 1) d[j]!) := full0_set (by omega)
          have u2 : (Full Fl.av [] [] (d.setIfInBounds (j + 1) d[j]!)).set j (.agg [.str d[j + 1]!.p, d[j + 1]!.v]) = Full Fl.av [] [] (swp d (j + 1) j) := full0_set (by simp; omega)
          obtain ⟨z, hz⟩ : ∃ z, (Full Fl.av [] [] (d.setIfInBounds (j + 1) d[j]!))[j]? = some (.agg z) ∧ z.length = 2 := ⟨_, full0_get (by simp; omega), rfl⟩
          obtain ⟨hz1, hz2⟩ := hz
          have hdz : List.drop 2 z = [] := List.drop_of_length_le (by omega)
          have pm := swp_permIn d 0 (i + 1) (j + 1) j (by omega) (by omega) (by omega) (by omega) (by omega)
          have hpm : (swp d (j + 1) j).toList.Perm (fs.take (i + 1)) := by
            have := pm.2.2
            have hs2 : (swp d (j + 1) j).size = i + 1 := by rw [pm.1, hsz]
            rw [show (swp d (j + 1) j).extract 0 (i + 1) = swp d (j + 1) j by rw [← hs2]; simp, show d.extract 0 (i + 1) = d by rw [← hsz]; simp] at this
            exact this.trans hP3
          simp (maxSteps := 2000000) (discharger := omega) only [xc,xo,xr,x0,x1,x2,x3,x4,x5,x6,xd,xe,xb,kont_call,kont_pure,kont_round,isNil,slOk,sliceV,selems,srcElems,copyTo,dlen,eqAV,eqCells,eqS,wr,place,partVals,partEs,placeEs,mapOf,keyOk,keyCells,findK,Bool.bne_false,Bool.bne_true,List.drop_zero,List.nil_append,List.append_nil,List.take_zero,List.cons_append,List.take_succ_cons,List.drop_succ_cons,List.take_nil,List.drop_nil,Reg.isA,Reg.isV,Reg.stays,Reg.onto,Bool.false_or,Bool.or_false,Bool.false_and,Bool.and_false,Bool.true_and,Bool.and_true,Bool.or_true,Bool.true_or,↓reduceIte,reduceCtorEq,Nat.reduceEqDiff,Nat.reduceLT,Nat.reduceAdd,Nat.reduceMul,Nat.add_zero,Nat.zero_add,Nat.not_lt_zero,Nat.zero_ne_one,Nat.one_ne_zero,Nat.reduceLeDiff,Nat.lt_irrefl,Nat.zero_lt_succ,Bool.false_eq_true,Bool.not_true,Bool.not_false,Option.map_some,Option.map_none,Option.bind_some,Option.getD_some,Option.getD_none,and_self,and_true,true_and,List.length_cons,List.length_nil,List.any_nil,List.any_cons,Int.toNat_natCast,Int.cast_ofNat_Int,Int.natCast_zero,Int.natCast_nonneg,true_implies,or_true,true_or,false_or,or_false,beq_self_eq_true,Option.some.injEq,exists_eq_left',Int.reduceEq,Int.reduceLT,Int.reduceLE,Int.reduceGT,Int.reduceGE,Nat.reduceGT,Int.reduceNeg,Int.reduceToNat,Int.reduceAdd,Int.reduceMul,Int.reduceSub,Int.reducePow,decide_true,decide_false,decide_eq_true_eq,List.getElem?_cons_zero,List.getElem?_cons_succ,Nat.reduceBEq,Nat.reduceSub,exists_false,and_false,false_and,xu,List.set_cons_zero,List.set_cons_succ,wrap_i64,int_lt_t,int_lt_f,int_le_t,int_le_f,int_gt_t,int_gt_f,int_ge_t,int_ge_f,int_eq_t,int_eq_f,int_beq_t,int_beq_f,int_bne_t,int_bne_f,nat_le_t,nat_le_f,Nat.sub_zero,Nat.sub_self,not_false_eq_true,not_true_eq_false,hidf,r1,r2,hbl,e2,u1,get_set_self,hz1,hz2,hdz,List.set_set,List.length_set,u2]
          refine ⟨j, by omega, j, swp d (j + 1) j, rfl, rfl, by omega, by rw [pm.1, hsz], rfl, hpm, hIns.step hbl (Nat.zero_le _) (by omega), hB2.trans ⟨by simp, fun q hq => ?_⟩⟩
          rw [get_set_ne (by omega)]
      · obtain rfl : j = 0 := by omega
        simp (maxSteps := 2000000) (discharger := omega) only [xc,xo,xr,x0,x1,x2,x3,x4,x5,x6,xd,xe,xb,kont_call,kont_pure,kont_round,isNil,slOk,sliceV,selems,srcElems,copyTo,dlen,eqAV,eqCells,eqS,wr,place,partVals,partEs,placeEs,mapOf,keyOk,keyCells,findK,Bool.bne_false,Bool.bne_true,List.drop_zero,List.nil_append,List.append_nil,List.take_zero,List.cons_append,List.take_succ_cons,List.drop_succ_cons,List.take_nil,List.drop_nil,Reg.isA,Reg.isV,Reg.stays,Reg.onto,Bool.false_or,Bool.or_false,Bool.false_and,Bool.and_false,Bool.true_and,Bool.and_true,Bool.or_true,Bool.true_or,↓reduceIte,reduceCtorEq,Nat.reduceEqDiff,Nat.reduceLT,Nat.reduceAdd,Nat.reduceMul,Nat.add_zero,Nat.zero_add,Nat.not_lt_zero,Nat.zero_ne_one,Nat.one_ne_zero,Nat.reduceLeDiff,Nat.lt_irrefl,Nat.zero_lt_succ,Bool.false_eq_true,Bool.not_true,Bool.not_false,Option.map_some,Option.map_none,Option.bind_some,Option.getD_some,Option.getD_none,and_self,and_true,true_and,List.length_cons,List.length_nil,List.any_nil,List.any_cons,Int.toNat_natCast,Int.cast_ofNat_Int,Int.natCast_zero,Int.natCast_nonneg,true_implies,or_true,true_or,false_or,or_false,beq_self_eq_true,Option.some.injEq,exists_eq_left',Int.reduceEq,Int.reduceLT,Int.reduceLE,Int.reduceGT,Int.reduceGE,Nat.reduceGT,Int.reduceNeg,Int.reduceToNat,Int.reduceAdd,Int.reduceMul,Int.reduceSub,Int.reducePow,decide_true,decide_false,decide_eq_true_eq,List.getElem?_cons_zero,List.getElem?_cons_succ,Nat.reduceBEq,Nat.reduceSub,exists_false,and_false,false_and,xu,List.set_cons_zero,List.set_cons_succ,wrap_i64,int_lt_t,int_lt_f,int_le_t,int_le_f,int_gt_t,int_gt_f,int_ge_t,int_ge_f,int_eq_t,int_eq_f,int_beq_t,int_beq_f,int_bne_t,int_bne_f,nat_le_t,nat_le_f,Nat.sub_zero,Nat.sub_self,not_false_eq_true,not_true_eq_false,hidf]
        obtain ⟨gs', f1, f2, f3⟩ := fin (.inl (Nat.le_refl _))
        exact ⟨fs.length - (i + 1), by omega, i + 1, _, gs', by rw [show ((i : Nat) : Int) + 1 = ((i + 1 : Nat) : Int) by omega], rfl, by omega, f1, f2, f3⟩
  · obtain rfl : i = fs.length := by omega
    rw [List.take_length] at hP
    simp (maxSteps := 2000000) (discharger := omega) only [xc,xo,xr,x0,x1,x2,x3,x4,x5,x6,xd,xe,xb,kont_call,kont_pure,kont_round,isNil,slOk,sliceV,selems,srcElems,copyTo,dlen,eqAV,eqCells,eqS,wr,place,partVals,partEs,placeEs,mapOf,keyOk,keyCells,findK,Bool.bne_false,Bool.bne_true,List.drop_zero,List.nil_append,List.append_nil,List.take_zero,List.cons_append,List.take_succ_cons,List.drop_succ_cons,List.take_nil,List.drop_nil,Reg.isA,Reg.isV,Reg.stays,Reg.onto,Bool.false_or,Bool.or_false,Bool.false_and,Bool.and_false,Bool.true_and,Bool.and_true,Bool.or_true,Bool.true_or,↓reduceIte,reduceCtorEq,Nat.reduceEqDiff,Nat.reduceLT,Nat.reduceAdd,Nat.reduceMul,Nat.add_zero,Nat.zero_add,Nat.not_lt_zero,Nat.zero_ne_one,Nat.one_ne_zero,Nat.reduceLeDiff,Nat.lt_irrefl,Nat.zero_lt_succ,Bool.false_eq_true,Bool.not_true,Bool.not_false,Option.map_some,Option.map_none,Option.bind_some,Option.getD_some,Option.getD_none,and_self,and_true,true_and,List.length_cons,List.length_nil,List.any_nil,List.any_cons,Int.toNat_natCast,Int.cast_ofNat_Int,Int.natCast_zero,Int.natCast_nonneg,true_implies,or_true,true_or,false_or,or_false,beq_self_eq_true,Option.some.injEq,exists_eq_left',Int.reduceEq,Int.reduceLT,Int.reduceLE,Int.reduceGT,Int.reduceGE,Nat.reduceGT,Int.reduceNeg,Int.reduceToNat,Int.reduceAdd,Int.reduceMul,Int.reduceSub,Int.reducePow,decide_true,decide_false,decide_eq_true_eq,List.getElem?_cons_zero,List.getElem?_cons_succ,Nat.reduceBEq,Nat.reduceSub,exists_false,and_false,false_and,xu,List.set_cons_zero,List.set_cons_succ,wrap_i64,int_lt_t,int_lt_f,int_le_t,int_le_f,int_gt_t,int_gt_f,int_ge_t,int_ge_f,int_eq_t,int_eq_f,int_beq_t,int_beq_f,int_bne_t,int_bne_f,nat_le_t,nat_le_f,Nat.sub_zero,Nat.sub_self,not_false_eq_true,not_true_eq_false,hlen]
    exact ⟨gs, hB, hR, hP, hSr⟩

def partsL (d : By) : Nat → List Nat → List Pt
  | _, [] => []
  | at', k :: ks => ⟨shaR ((d.take (at' + k)).drop at'), (k : Nat)⟩ :: partsL d (at' + k) ks
def partsR (l m M : Int) (d : By) : List Pt := partsL d 0 (cutR l m M d)
theorem partsL_snoc (d : By) (k : Nat) : ∀ (ks : List Nat) (a : Nat), partsL d a (ks ++ [k]) = partsL d a ks ++ [⟨shaR ((d.take (a + ks.sum + k)).drop (a + ks.sum)), (k : Nat)⟩]
  | [], a => by simp [partsL]
  | x :: ks, a => by
    have := partsL_snoc d k ks (a + x)
    simp only [List.cons_append,partsL,this,List.sum_cons,Nat.add_assoc]
theorem partsL_len (d : By) : ∀ (ks : List Nat) (a : Nat), (partsL d a ks).length = ks.length
  | [], a => rfl
  | x :: ks, a => by simp [partsL,partsL_len d ks]
theorem shaR_len (s : By) : (shaR s).length = 32 := keyI_len _
theorem partsL_ok (d : By) : ∀ (ks : List Nat) (a : Nat), ∀ x ∈ partsL d a ks, x.ok
  | [], a, x, h => by cases h
  | k :: ks, a, x, h => by
    rcases List.mem_cons.1 h with rfl | h
    · exact shaR_len _
    · exact partsL_ok d ks _ x h

set_option maxHeartbeats 1000000 in
set_option maxRecDepth 100000 in
theorem c25 (c : AV) (l m M : Int) (d : By) (v : AV) (hc : Cf c l m M) (hm : 1 ≤ m) (hm2 : m ≤ 1000000000) (hd : IsRd 1 (bytesOf d) v) (hl : d.length ≤ 1000000) (hn : d.length + 300 < n) :
    ∃ v' h', call F n tot ω 25 [c, v] h = some (v', h') ∧ IsRd 33 ((partsR l m M d).map Pt.av) v' ∧ Below h.length h h' := by
  obtain ⟨n, rfl⟩ : ∃ m, n = m + 1 := ⟨n - 1, by omega⟩
  refine call_of (fn := a25) f25 (P := fun v' h' => IsRd 33 ((partsR l m M d).map Pt.av) v' ∧ Below h.length h h') ?_
  obtain ⟨cs, hcs, hcl, h8, h9, h10⟩ := hc.agg
  subst hcs
  have htk : List.take 12 cs = cs := List.take_of_length_le (by omega)
  obtain ⟨lv, h1, k52, hlv, hB1⟩ := c52 (n := n) (tot := tot) (ω := ω) (h := h) (.agg cs) l m M d hc hm hm2 (by omega) (by omega)
  obtain ⟨s1, s2, s3⟩ := cutR_sum l m M d
  unfold partsR
  have hel := rd_el hd
  have hsel : ∀ g, (match (some (AV.imm 1 (bytesOf d) .no) : Option AV) with | some v => elems g 1 v | none => none) = some (bytesOf d) := fun g => by simp [elems]
  generalize cutR l m M d = ks at *
  have hll := hlv.len
  rw [show (nsOf ks).length = ks.length by simp [nsOf]] at hll
  unfold a25
  simp (maxSteps := 2000000) (discharger := omega) only [xc,xo,xr,x0,x1,x2,x3,x4,x5,x6,xd,xe,xb,kont_call,kont_pure,kont_round,isNil,slOk,sliceV,selems,srcElems,copyTo,dlen,eqAV,eqCells,eqS,wr,place,partVals,partEs,placeEs,mapOf,keyOk,keyCells,findK,Bool.bne_false,Bool.bne_true,List.drop_zero,List.nil_append,List.append_nil,List.take_zero,List.cons_append,List.take_succ_cons,List.drop_succ_cons,List.take_nil,List.drop_nil,Reg.isA,Reg.isV,Reg.stays,Reg.onto,Bool.false_or,Bool.or_false,Bool.false_and,Bool.and_false,Bool.true_and,Bool.and_true,Bool.or_true,Bool.true_or,↓reduceIte,reduceCtorEq,Nat.reduceEqDiff,Nat.reduceLT,Nat.reduceAdd,Nat.reduceMul,Nat.add_zero,Nat.zero_add,Nat.not_lt_zero,Nat.zero_ne_one,Nat.one_ne_zero,Nat.reduceLeDiff,Nat.lt_irrefl,Nat.zero_lt_succ,Bool.false_eq_true,Bool.not_true,Bool.not_false,Option.map_some,Option.map_none,Option.bind_some,Option.getD_some,Option.getD_none,and_self,and_true,true_and,List.length_cons,List.length_nil,List.any_nil,List.any_cons,Int.toNat_natCast,Int.cast_ofNat_Int,Int.natCast_zero,Int.natCast_nonneg,true_implies,or_true,true_or,false_or,or_false,beq_self_eq_true,Option.some.injEq,exists_eq_left',Int.reduceEq,Int.reduceLT,Int.reduceLE,Int.reduceGT,Int.reduceGE,Nat.reduceGT,Int.reduceNeg,Int.reduceToNat,Int.reduceAdd,Int.reduceMul,Int.reduceSub,Int.reducePow,decide_true,decide_false,decide_eq_true_eq,List.getElem?_cons_zero,List.getElem?_cons_succ,Nat.reduceBEq,Nat.reduceSub,exists_false,and_false,false_and,xu,List.set_cons_zero,List.set_cons_succ,wrap_i64,int_lt_t,int_lt_f,int_le_t,int_le_f,int_gt_t,int_gt_f,int_ge_t,int_ge_f,int_eq_t,int_eq_f,int_beq_t,int_beq_f,int_bne_t,int_bne_f,nat_le_t,nat_le_f,Nat.sub_zero,Nat.sub_self,not_false_eq_true,not_true_eq_false,hcl,htk,hel,k52]
  refine wpi_loop (fun x r g => ∃ (i : Nat) (ov : AV), r = [(1, .val v), (5, .val ov), (6, .val lv), (7, .val (.int .i64 ((ks.take i).sum : Nat))), (8, .val (.int .i64 i))] ∧ x = ks.length - i ∧ i ≤ ks.length ∧ LateApp h.length 33 ((partsL d 0 (ks.take i)).map Pt.av) g ov ∧ Below h.length h g) ks.length (by omega)
    ⟨0, .nils, rfl, rfl, Nat.zero_le _, late_nils _ _ _, hB1⟩ ?_
  rintro x r g ⟨i, ov, rfl, rfl, hi, hA, hB⟩
  by_cases hlt : i < ks.length
  · have hk1 := s2 _ (List.getElem_mem hlt)
    have hsum : (ks.take i).sum + ks[i] ≤ d.length := by
      have e : (ks.take (i + 1)).sum + (ks.drop (i + 1)).sum = ks.sum := by rw [← List.sum_append_nat, List.take_append_drop]
      rw [List.take_succ_eq_append_getElem hlt, List.sum_append_nat] at e
      simp at e; omega
    obtain ⟨cl, rfl⟩ := hlv.imm (i := i) (by simpa [nsOf] using hlt)
    obtain ⟨cv, rfl⟩ := hd.imm (i := 0) (by rw [bytesOf_len]; omega)
    have q1 : (nsOf ks)[i]? = some (.int .i64 (ks[i] : Nat)) := by simp [nsOf,hlt]
    have hsn := partsL_snoc d ks[i] (ks.take i) 0
    rw [Nat.zero_add, ← List.take_succ_eq_append_getElem hlt] at hsn
    have htl : (ks.take (i + 1)).sum = (ks.take i).sum + ks[i] := by rw [List.take_succ_eq_append_getElem hlt, List.sum_append_nat]; simp
    have hpl := partsL_len d (ks.take i) 0
    rw [List.length_take] at hpl
    generalize (ks.take i).sum = a at *
    generalize ks[i] = k at *
    have e1 : ((a : Nat) : Int) + ((k : Nat) : Int) = ((a + k : Nat) : Int) := by omega
    obtain ⟨h2, k53, hB2⟩ := c53 (n := n) (tot := tot) (ω := ω) (h := g) ((d.take (a + k)).drop a) (by simp; omega) (by simp; omega)
    have sl := shaR_len ((d.take (a + k)).drop a)
    generalize hX : shaR ((d.take (a + k)).drop a) = X at *
    have x1' : (intsOf .u8 X).length = 32 := by rw [io_len', sl]
    have x2' : ∀ z, List.take 32 (intsOf .u8 X ++ [z]) = intsOf .u8 X := fun z => by rw [List.take_append_of_le_length (by omega), List.take_of_length_le (by omega)]
    have x3' : ∀ z, List.drop 33 (intsOf .u8 X ++ [z]) = [] := fun z => List.drop_of_length_le (by simp [x1'])
    obtain ⟨v', h3, w1, w2, w3⟩ := late_app (bytes := 40) (xs := [.agg (intsOf .u8 X ++ [.int .i64 (k : Nat)])]) (hA.belw (lo' := 0) hB2) (by have := hB.1; have := hB2.1; omega) (by simp) (by simp [hpl]; omega)
    simp (maxSteps := 2000000) (discharger := omega) only [xc,xo,xr,x0,x1,x2,x3,x4,x5,x6,xd,xe,xb,kont_call,kont_pure,kont_round,isNil,slOk,sliceV,selems,srcElems,copyTo,dlen,eqAV,eqCells,eqS,wr,place,partVals,partEs,placeEs,mapOf,keyOk,keyCells,findK,Bool.bne_false,Bool.bne_true,List.drop_zero,List.nil_append,List.append_nil,List.take_zero,List.cons_append,List.take_succ_cons,List.drop_succ_cons,List.take_nil,List.drop_nil,Reg.isA,Reg.isV,Reg.stays,Reg.onto,Bool.false_or,Bool.or_false,Bool.false_and,Bool.and_false,Bool.true_and,Bool.and_true,Bool.or_true,Bool.true_or,↓reduceIte,reduceCtorEq,Nat.reduceEqDiff,Nat.reduceLT,Nat.reduceAdd,Nat.reduceMul,Nat.add_zero,Nat.zero_add,Nat.not_lt_zero,Nat.zero_ne_one,Nat.one_ne_zero,Nat.reduceLeDiff,Nat.lt_irrefl,Nat.zero_lt_succ,Bool.false_eq_true,Bool.not_true,Bool.not_false,Option.map_some,Option.map_none,Option.bind_some,Option.getD_some,Option.getD_none,and_self,and_true,true_and,List.length_cons,List.length_nil,List.any_nil,List.any_cons,Int.toNat_natCast,Int.cast_ofNat_Int,Int.natCast_zero,Int.natCast_nonneg,true_implies,or_true,true_or,false_or,or_false,beq_self_eq_true,Option.some.injEq,exists_eq_left',Int.reduceEq,Int.reduceLT,Int.reduceLE,Int.reduceGT,Int.reduceGE,Nat.reduceGT,Int.reduceNeg,Int.reduceToNat,Int.reduceAdd,Int.reduceMul,Int.reduceSub,Int.reducePow,decide_true,decide_false,decide_eq_true_eq,List.getElem?_cons_zero,List.getElem?_cons_succ,Nat.reduceBEq,Nat.reduceSub,exists_false,and_false,false_and,xu,List.set_cons_zero,List.set_cons_succ,wrap_i64,int_lt_t,int_lt_f,int_le_t,int_le_f,int_gt_t,int_gt_f,int_ge_t,int_ge_f,int_eq_t,int_eq_f,int_beq_t,int_beq_f,int_bne_t,int_bne_f,nat_le_t,nat_le_f,Nat.sub_zero,Nat.sub_self,not_false_eq_true,not_true_eq_false,hll,q1,e1,w_regionA2,inOrd,List.filterMap_cons,List.filterMap_nil,Is,k53,x1',x2',x3',List.length_append,w1,hA.1.isRow,List.replicate,List.length_map,Nat.reduceLeDiff]
    exact ⟨ks.length - (i + 1), by omega, i + 1, v', by rw [htl, show ((i : Nat) : Int) + 1 = ((i + 1 : Nat) : Int) by omega], rfl, by omega, by rw [hsn, List.map_append]; exact w2, hB.trans ((hB2.low hB.1).trans w3)⟩
  · obtain rfl : i = ks.length := by omega
    rw [List.take_length] at hA
    simp (maxSteps := 2000000) (discharger := omega) only [xc,xo,xr,x0,x1,x2,x3,x4,x5,x6,xd,xe,xb,kont_call,kont_pure,kont_round,isNil,slOk,sliceV,selems,srcElems,copyTo,dlen,eqAV,eqCells,eqS,wr,place,partVals,partEs,placeEs,mapOf,keyOk,keyCells,findK,Bool.bne_false,Bool.bne_true,List.drop_zero,List.nil_append,List.append_nil,List.take_zero,List.cons_append,List.take_succ_cons,List.drop_succ_cons,List.take_nil,List.drop_nil,Reg.isA,Reg.isV,Reg.stays,Reg.onto,Bool.false_or,Bool.or_false,Bool.false_and,Bool.and_false,Bool.true_and,Bool.and_true,Bool.or_true,Bool.true_or,↓reduceIte,reduceCtorEq,Nat.reduceEqDiff,Nat.reduceLT,Nat.reduceAdd,Nat.reduceMul,Nat.add_zero,Nat.zero_add,Nat.not_lt_zero,Nat.zero_ne_one,Nat.one_ne_zero,Nat.reduceLeDiff,Nat.lt_irrefl,Nat.zero_lt_succ,Bool.false_eq_true,Bool.not_true,Bool.not_false,Option.map_some,Option.map_none,Option.bind_some,Option.getD_some,Option.getD_none,and_self,and_true,true_and,List.length_cons,List.length_nil,List.any_nil,List.any_cons,Int.toNat_natCast,Int.cast_ofNat_Int,Int.natCast_zero,Int.natCast_nonneg,true_implies,or_true,true_or,false_or,or_false,beq_self_eq_true,Option.some.injEq,exists_eq_left',Int.reduceEq,Int.reduceLT,Int.reduceLE,Int.reduceGT,Int.reduceGE,Nat.reduceGT,Int.reduceNeg,Int.reduceToNat,Int.reduceAdd,Int.reduceMul,Int.reduceSub,Int.reducePow,decide_true,decide_false,decide_eq_true_eq,List.getElem?_cons_zero,List.getElem?_cons_succ,Nat.reduceBEq,Nat.reduceSub,exists_false,and_false,false_and,xu,List.set_cons_zero,List.set_cons_succ,wrap_i64,int_lt_t,int_lt_f,int_le_t,int_le_f,int_gt_t,int_gt_f,int_ge_t,int_ge_f,int_eq_t,int_eq_f,int_beq_t,int_beq_f,int_bne_t,int_bne_f,nat_le_t,nat_le_f,Nat.sub_zero,Nat.sub_self,not_false_eq_true,not_true_eq_false,hll]
    exact ⟨isRd_app hA.1, hB⟩

theorem late_app2 {lo sz bytes : Nat} {es xs : List AV} {h : Hp} {v : AV} (hv : LateApp lo sz es h v) (hlo : lo ≤ h.length) (hx : xs ≠ []) (hb : (es.length + xs.length) * bytes ≤ 140737488355328) :
    ∃ v' h', appendV false sz bytes v xs h = some (v', h') ∧ LateApp lo sz (es ++ xs) h' v' ∧ Below lo h h' ∧ ∀ (id : Nat) o, h[id]? = some o → o.solid = true → h'[id]? = some o := by
  obtain ⟨v', h', w1, w2, w3⟩ := late_app (bytes := bytes) hv hlo hx hb
  obtain ⟨v2, h2, z1, _, z3, _⟩ := app_ok (bytes := bytes) hv.1 hx hb
  rw [w1] at z1
  cases z1
  exact ⟨v', h', w1, w2, w3, z3⟩
theorem partsR_len (l m M : Int) (d : By) : (partsR l m M d).length ≤ d.length := by
  unfold partsR
  rw [partsL_len]; exact (cutR_sum l m M d).2.2

set_option maxHeartbeats 1000000 in
set_option maxRecDepth 100000 in
theorem c21 (c : AV) (l m M : Int) (a : AV) (fs : List Fl) (hc : Cf c l m M) (hm : 1 ≤ m) (hm2 : m ≤ 1000000000) (ha : IsRd 2 (fs.map Fl.av) a) (hok : ∀ f ∈ fs, f.ok) (hd : ∀ f ∈ fs, f.d.length ≤ 1000000) (hl : fs.length ≤ 1000000) (hn : fs.length + 1000400 < n) :
    ∃ (v' : AV) (h' : Hp) (ls : List Lf), call F n tot ω 21 [c, a] h = some (v', h') ∧ IsRd 2 (ls.map Lf.av) v' ∧ Below h.length h h' ∧ ls.length = fs.length ∧ (∃ gs : List Fl, gs.Perm fs ∧ SrtF gs ∧ ls.map (·.p) = gs.map (·.p)) ∧ ∀ x ∈ ls, x.ok ∧ ∃ f ∈ fs, x.p = f.p ∧ x.ps = partsR l m M f.d := by
  obtain ⟨n, rfl⟩ : ∃ m, n = m + 1 := ⟨n - 1, by omega⟩
  suffices hx : ∃ v' h', call F (n + 1) tot ω 21 [c, a] h = some (v', h') ∧ ∃ ls : List Lf, IsRd 2 (ls.map Lf.av) v' ∧ Below h.length h h' ∧ ls.length = fs.length ∧ (∃ gs : List Fl, gs.Perm fs ∧ SrtF gs ∧ ls.map (·.p) = gs.map (·.p)) ∧ ∀ x ∈ ls, x.ok ∧ ∃ f ∈ fs, x.p = f.p ∧ x.ps = partsR l m M f.d by
    obtain ⟨v', h', e1, ls, e2⟩ := hx
    exact ⟨v', h', ls, e1, e2⟩
  refine call_of (fn := a21) f21 (P := fun v' h' => ∃ ls : List Lf, IsRd 2 (ls.map Lf.av) v' ∧ Below h.length h h' ∧ ls.length = fs.length ∧ (∃ gs : List Fl, gs.Perm fs ∧ SrtF gs ∧ ls.map (·.p) = gs.map (·.p)) ∧ ∀ x ∈ ls, x.ok ∧ ∃ f ∈ fs, x.p = f.p ∧ x.ps = partsR l m M f.d) ?_
  obtain ⟨cs, hcs, hcl, h8, h9, h10⟩ := hc.agg
  subst hcs
  have htk : List.take 12 cs = cs := List.take_of_length_le (by omega)
  obtain ⟨gv, m1, gs, k49, hg, hP, hSr⟩ := c49 (n := n) (tot := tot) (ω := ω) (h := h) a fs ha hok hl (by omega)
  have hgl : gs.length = fs.length := hP.length_eq
  have hglen := hg.at.len
  rw [List.length_map] at hglen
  unfold a21
  simp (maxSteps := 2000000) (discharger := omega) only [xc,xo,xr,x0,x1,x2,x3,x4,x5,x6,xd,xe,xb,kont_call,kont_pure,kont_round,isNil,slOk,sliceV,selems,srcElems,copyTo,dlen,eqAV,eqCells,eqS,wr,place,partVals,partEs,placeEs,mapOf,keyOk,keyCells,findK,Bool.bne_false,Bool.bne_true,List.drop_zero,List.nil_append,List.append_nil,List.take_zero,List.cons_append,List.take_succ_cons,List.drop_succ_cons,List.take_nil,List.drop_nil,Reg.isA,Reg.isV,Reg.stays,Reg.onto,Bool.false_or,Bool.or_false,Bool.false_and,Bool.and_false,Bool.true_and,Bool.and_true,Bool.or_true,Bool.true_or,↓reduceIte,reduceCtorEq,Nat.reduceEqDiff,Nat.reduceLT,Nat.reduceAdd,Nat.reduceMul,Nat.add_zero,Nat.zero_add,Nat.not_lt_zero,Nat.zero_ne_one,Nat.one_ne_zero,Nat.reduceLeDiff,Nat.lt_irrefl,Nat.zero_lt_succ,Bool.false_eq_true,Bool.not_true,Bool.not_false,Option.map_some,Option.map_none,Option.bind_some,Option.getD_some,Option.getD_none,and_self,and_true,true_and,List.length_cons,List.length_nil,List.any_nil,List.any_cons,Int.toNat_natCast,Int.cast_ofNat_Int,Int.natCast_zero,Int.natCast_nonneg,true_implies,or_true,true_or,false_or,or_false,beq_self_eq_true,Option.some.injEq,exists_eq_left',Int.reduceEq,Int.reduceLT,Int.reduceLE,Int.reduceGT,Int.reduceGE,Nat.reduceGT,Int.reduceNeg,Int.reduceToNat,Int.reduceAdd,Int.reduceMul,Int.reduceSub,Int.reducePow,decide_true,decide_false,decide_eq_true_eq,List.getElem?_cons_zero,List.getElem?_cons_succ,Nat.reduceBEq,Nat.reduceSub,exists_false,and_false,false_and,xu,List.set_cons_zero,List.set_cons_succ,wrap_i64,int_lt_t,int_lt_f,int_le_t,int_le_f,int_gt_t,int_gt_f,int_ge_t,int_ge_f,int_eq_t,int_eq_f,int_beq_t,int_beq_f,int_bne_t,int_bne_f,nat_le_t,nat_le_f,Nat.sub_zero,Nat.sub_self,not_false_eq_true,not_true_eq_false,hcl,htk,k49,hglen]
  refine wpi_loop (fun x r g => ∃ (i : Nat) (ov : AV) (ls : List Lf), r = [(2, .var (.agg cs)), (5, .val ov), (6, .val gv), (7, .val (.int .i64 i))] ∧ x = gs.length - i ∧ i ≤ gs.length ∧ LateApp h.length 2 (ls.map Lf.av) g ov ∧ Below h.length h g ∧ RowEx g 2 h.length (gs.map Fl.av) gv ∧ ls.length = i ∧ ls.map (·.p) = (gs.take i).map (·.p) ∧ ∀ x ∈ ls, x.ok ∧ ∃ f ∈ fs, x.p = f.p ∧ x.ps = partsR l m M f.d) gs.length (by omega)
    ⟨0, .nils, [], rfl, rfl, Nat.zero_le _, late_nils _ _ _, .app _ _ _ (Nat.le_refl _), hg, rfl, rfl, fun x hx => by cases hx⟩ ?_
  rintro x r g ⟨i, ov, ls, rfl, rfl, hi, hA, hB, hR, hli, hlp, hls⟩
  by_cases hlt : i < gs.length
  · rcases hR with ⟨rfl, e0⟩ | ⟨id, rfl, hid, hlo⟩
    · have := congrArg List.length e0
      simp at this
      subst this
      simp at hlt
    · have q1 := fl_get' hlt
      have hmem : gs[i] ∈ fs := hP.mem_iff.1 (List.getElem_mem hlt)
      have of := hok _ hmem
      have t1 := rd_sub of 1
      have hidl := (List.getElem?_eq_some_iff.1 hid).1
      obtain ⟨pv, h2, k25, hpv, hB2⟩ := c25 (n := n) (tot := tot) (ω := ω) (h := g) (.agg cs) l m M gs[i].d gs[i].v hc hm hm2 of (hd _ hmem) (by have := hd _ hmem; omega)
      have t4 := rd_nt hpv
      have t5 := rd_cells hpv
      have hid2 : h2[id]? = some (.row 2 (gs.map Fl.av)) := by rw [hB2.2 id hidl]; exact hid
      obtain ⟨v', h3, w1, w2, w3, w4⟩ := late_app2 (bytes := 40) (xs := [.agg [.str gs[i].p, pv]]) (hA.belw (lo' := 0) hB2) (by have := hB.1; have := hB2.1; omega) (by simp) (by simp; omega)
      have hid3 : RowEx h3 2 h.length (gs.map Fl.av) (.row id 2 0 gs.length false) := .inr ⟨id, by simp, w4 _ _ hid2 rfl, hlo⟩
      simp (maxSteps := 2000000) (discharger := omega) only [xc,xo,xr,x0,x1,x2,x3,x4,x5,x6,xd,xe,xb,kont_call,kont_pure,kont_round,isNil,slOk,sliceV,selems,srcElems,copyTo,dlen,eqAV,eqCells,eqS,wr,place,partVals,partEs,placeEs,mapOf,keyOk,keyCells,findK,Bool.bne_false,Bool.bne_true,List.drop_zero,List.nil_append,List.append_nil,List.take_zero,List.cons_append,List.take_succ_cons,List.drop_succ_cons,List.take_nil,List.drop_nil,Reg.isA,Reg.isV,Reg.stays,Reg.onto,Bool.false_or,Bool.or_false,Bool.false_and,Bool.and_false,Bool.true_and,Bool.and_true,Bool.or_true,Bool.true_or,↓reduceIte,reduceCtorEq,Nat.reduceEqDiff,Nat.reduceLT,Nat.reduceAdd,Nat.reduceMul,Nat.add_zero,Nat.zero_add,Nat.not_lt_zero,Nat.zero_ne_one,Nat.one_ne_zero,Nat.reduceLeDiff,Nat.lt_irrefl,Nat.zero_lt_succ,Bool.false_eq_true,Bool.not_true,Bool.not_false,Option.map_some,Option.map_none,Option.bind_some,Option.getD_some,Option.getD_none,and_self,and_true,true_and,List.length_cons,List.length_nil,List.any_nil,List.any_cons,Int.toNat_natCast,Int.cast_ofNat_Int,Int.natCast_zero,Int.natCast_nonneg,true_implies,or_true,true_or,false_or,or_false,beq_self_eq_true,Option.some.injEq,exists_eq_left',Int.reduceEq,Int.reduceLT,Int.reduceLE,Int.reduceGT,Int.reduceGE,Nat.reduceGT,Int.reduceNeg,Int.reduceToNat,Int.reduceAdd,Int.reduceMul,Int.reduceSub,Int.reducePow,decide_true,decide_false,decide_eq_true_eq,List.getElem?_cons_zero,List.getElem?_cons_succ,Nat.reduceBEq,Nat.reduceSub,exists_false,and_false,false_and,xu,List.set_cons_zero,List.set_cons_succ,wrap_i64,int_lt_t,int_lt_f,int_le_t,int_le_f,int_gt_t,int_gt_f,int_ge_t,int_ge_f,int_eq_t,int_eq_f,int_beq_t,int_beq_f,int_bne_t,int_bne_f,nat_le_t,nat_le_f,Nat.sub_zero,Nat.sub_self,not_false_eq_true,not_true_eq_false,hglen,hid,hid2,q1,t1,t4,t5,htk,hcl,w_regionA2,inOrd,List.filterMap_cons,List.filterMap_nil,Is,k25,w1,hA.1.isRow,List.replicate,List.length_map,Nat.reduceLeDiff]
      refine ⟨gs.length - (i + 1), by omega, i + 1, v', ls ++ [⟨gs[i].p, partsR l m M gs[i].d, pv⟩], by rw [show ((i : Nat) : Int) + 1 = ((i + 1 : Nat) : Int) by omega], rfl, by omega, by rw [List.map_append]; exact w2, hB.trans ((hB2.low hB.1).trans w3), hid3, by simp [hli], by rw [List.take_succ_eq_append_getElem hlt, List.map_append, List.map_append, hlp]; rfl, fun x hx => ?_⟩
      rcases List.mem_append.1 hx with hx | hx
      · exact hls x hx
      · rw [List.mem_singleton] at hx
        subst hx
        exact ⟨⟨hpv, partsL_ok _ _ _⟩, gs[i], hmem, rfl, rfl⟩
  · obtain rfl : i = gs.length := by omega
    simp (maxSteps := 2000000) (discharger := omega) only [xc,xo,xr,x0,x1,x2,x3,x4,x5,x6,xd,xe,xb,kont_call,kont_pure,kont_round,isNil,slOk,sliceV,selems,srcElems,copyTo,dlen,eqAV,eqCells,eqS,wr,place,partVals,partEs,placeEs,mapOf,keyOk,keyCells,findK,Bool.bne_false,Bool.bne_true,List.drop_zero,List.nil_append,List.append_nil,List.take_zero,List.cons_append,List.take_succ_cons,List.drop_succ_cons,List.take_nil,List.drop_nil,Reg.isA,Reg.isV,Reg.stays,Reg.onto,Bool.false_or,Bool.or_false,Bool.false_and,Bool.and_false,Bool.true_and,Bool.and_true,Bool.or_true,Bool.true_or,↓reduceIte,reduceCtorEq,Nat.reduceEqDiff,Nat.reduceLT,Nat.reduceAdd,Nat.reduceMul,Nat.add_zero,Nat.zero_add,Nat.not_lt_zero,Nat.zero_ne_one,Nat.one_ne_zero,Nat.reduceLeDiff,Nat.lt_irrefl,Nat.zero_lt_succ,Bool.false_eq_true,Bool.not_true,Bool.not_false,Option.map_some,Option.map_none,Option.bind_some,Option.getD_some,Option.getD_none,and_self,and_true,true_and,List.length_cons,List.length_nil,List.any_nil,List.any_cons,Int.toNat_natCast,Int.cast_ofNat_Int,Int.natCast_zero,Int.natCast_nonneg,true_implies,or_true,true_or,false_or,or_false,beq_self_eq_true,Option.some.injEq,exists_eq_left',Int.reduceEq,Int.reduceLT,Int.reduceLE,Int.reduceGT,Int.reduceGE,Nat.reduceGT,Int.reduceNeg,Int.reduceToNat,Int.reduceAdd,Int.reduceMul,Int.reduceSub,Int.reducePow,decide_true,decide_false,decide_eq_true_eq,List.getElem?_cons_zero,List.getElem?_cons_succ,Nat.reduceBEq,Nat.reduceSub,exists_false,and_false,false_and,xu,List.set_cons_zero,List.set_cons_succ,wrap_i64,int_lt_t,int_lt_f,int_le_t,int_le_f,int_gt_t,int_gt_f,int_ge_t,int_ge_f,int_eq_t,int_eq_f,int_beq_t,int_beq_f,int_bne_t,int_bne_f,nat_le_t,nat_le_f,Nat.sub_zero,Nat.sub_self,not_false_eq_true,not_true_eq_false,hglen]
    rw [List.take_length] at hlp
    exact ⟨ls, isRd_app hA.1, hB, by omega, ⟨gs, hP, hSr, hlp⟩, hls⟩
end
end Go.Proofs.YtpgmohjmpaifbaaDoor.Im

/- S21Fd: the law TreeFinds. -/
set_option linter.unusedVariables false
set_option linter.unusedSimpArgs false
open Go Go.Im
namespace Go.Proofs.YtpgmohjmpaifbaaDoor.Im
section
variable {n : Nat} {tot : Bool} {ω : Nat → Nat} {h : Hp}
theorem f10 : F 10 = some (.inr yesG) := by kernel_rfl
theorem c10 (hn : 0 < n) : call F n tot ω 10 [] h = some (.bool true, h) := by
  obtain ⟨n, rfl⟩ : ∃ m, n = m + 1 := ⟨n - 1, by omega⟩
  rw [call_inr f10]; rfl

theorem chk_zero {fs : List Fl} (h : chk fs = 0) : Tog (psOf fs) := by
  unfold chk at h
  by_cases hT : Tog (psOf fs)
  · exact hT
  · rw [if_neg hT] at h; cases h

theorem diffL_len : ∀ (n : Nat) (A B : List Lf), A.length + B.length = n → (diffL A B).length ≤ n := by
  intro n
  induction n using Nat.strongRecOn with
  | _ n ih =>
    intro A B hn
    match A, B with
    | [], [] => simp [diffL]
    | a :: A, [] =>
      rw [diffL]
      have := ih (A.length + 0) (by simp at hn; omega) A [] rfl
      simp at hn this ⊢; omega
    | [], b :: B =>
      rw [diffL]
      have := ih (0 + B.length) (by simp at hn; omega) [] B rfl
      simp at hn this ⊢; omega
    | a :: A, b :: B =>
      have h1 := ih (A.length + (B.length + 1)) (by simp at hn; omega) A (b :: B) rfl
      have h2 := ih (A.length + 1 + B.length) (by simp at hn; omega) (a :: A) B rfl
      have h3 := ih (A.length + B.length) (by simp at hn; omega) A B rfl
      simp only [List.length_cons] at hn
      rw [diffL]
      split
      · simp only [List.length_cons]; omega
      · split
        · simp only [List.length_cons]; omega
        · split
          · omega
          · simp only [List.length_cons]; omega

end

end Go.Proofs.YtpgmohjmpaifbaaDoor.Im

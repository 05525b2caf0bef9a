/- Joined: S21Cu, S21Rs. -/
import Derived.Test.YtpgmohjmpaifbaaDoorPc
import Derived.Test.YtpgmohjmpaifbaaDoorImApp
import Derived.Test.YtpgmohjmpaifbaaDoorMx
/- S21Cu: the reference's cutting of bytes. -/
set_option linter.unusedVariables false
set_option linter.unusedSimpArgs false
open Go Go.Im
namespace Go.Proofs.YtpgmohjmpaifbaaDoor.Im

def sumR (s : By) (i : Nat) : Nat := ((s.take (i + 1)).drop (i - 15)).foldl (fun x b => (x * 31 + b.toNat + 1) % 4294967296) 0

section
variable {n : Nat} {tot : Bool} {ω : Nat → Nat} {h : Hp}

theorem fold_lt (l : By) : ∀ x : Nat, x < 4294967296 → l.foldl (fun x b => (x * 31 + b.toNat + 1) % 4294967296) x < 4294967296 := by
  induction l with
  | nil => intro x hx; exact hx
  | cons b l ih => intro x hx; exact ih _ (Nat.mod_lt _ (by decide))
theorem sumR_lt (s : By) (i : Nat) : sumR s i < 4294967296 := fold_lt _ 0 (by decide)

theorem c82 (s : By) (a : Nat) (ha : a < s.length) (hs : s.length ≤ 1000000000) (hn : 20 < n) : call F n tot ω 82 [.str s, .int .i64 a] h = some (.int .i64 (sumR s a : Nat), h) := by
  obtain ⟨n, rfl⟩ : ∃ m, n = m + 1 := ⟨n - 1, by omega⟩
  refine call_eq (fn := a82) f82 ?_
  unfold a82
  simp (maxSteps := 2000000) (discharger := omega) only [xc,xo,xr,x0,x1,x2,x3,x4,x5,x6,xd,xe,xb,kont_call,kont_pure,kont_round,isNil,slOk,sliceV,selems,srcElems,copyTo,dlen,eqAV,eqCells,eqS,wr,place,partVals,partEs,placeEs,mapOf,keyOk,keyCells,findK,Bool.bne_false,Bool.bne_true,List.drop_zero,List.nil_append,List.append_nil,List.take_zero,List.cons_append,List.take_succ_cons,List.drop_succ_cons,List.take_nil,List.drop_nil,Reg.isA,Reg.isV,Reg.stays,Reg.onto,Bool.false_or,Bool.or_false,Bool.false_and,Bool.and_false,Bool.true_and,Bool.and_true,Bool.or_true,Bool.true_or,↓reduceIte,reduceCtorEq,Nat.reduceEqDiff,Nat.reduceLT,Nat.reduceAdd,Nat.reduceMul,Nat.add_zero,Nat.zero_add,Nat.not_lt_zero,Nat.zero_ne_one,Nat.one_ne_zero,Nat.reduceLeDiff,Nat.lt_irrefl,Nat.zero_lt_succ,Bool.false_eq_true,Bool.not_true,Bool.not_false,Option.map_some,Option.map_none,Option.bind_some,Option.getD_some,Option.getD_none,and_self,and_true,true_and,List.length_cons,List.length_nil,List.any_nil,List.any_cons,Int.toNat_natCast,Int.cast_ofNat_Int,Int.natCast_zero,Int.natCast_nonneg,true_implies,or_true,true_or,false_or,or_false,beq_self_eq_true,Option.some.injEq,exists_eq_left',Int.reduceEq,Int.reduceLT,Int.reduceLE,Int.reduceGT,Int.reduceGE,Nat.reduceGT,Int.reduceNeg,Int.reduceToNat,Int.reduceAdd,Int.reduceMul,Int.reduceSub,Int.reducePow,decide_true,decide_false,decide_eq_true_eq,List.getElem?_cons_zero,List.getElem?_cons_succ,Nat.reduceBEq,Nat.reduceSub,exists_false,and_false,false_and,xu,List.set_cons_zero,List.set_cons_succ,wrap_i64,int_lt_t,int_lt_f,int_le_t,int_le_f,int_gt_t,int_gt_f,int_ge_t,int_ge_f,int_eq_t,int_eq_f,int_beq_t,int_beq_f,int_bne_t,int_bne_f,nat_le_t,nat_le_f,Nat.sub_zero,Nat.sub_self,not_false_eq_true,not_true_eq_false]
  refine wpi_loop (fun x r g' => ∃ (i : Int), r = [(0, .val (.str s)), (1, .val (.int .i64 a)), (5, .val (.int .i64 (((s.take i.toNat).drop (a - 15)).foldl (fun x b => (x * 31 + b.toNat + 1) % 4294967296) 0 : Nat))), (6, .val (.int .i64 i))] ∧ x = (a + 1 - i).toNat ∧ (a : Int) - 15 ≤ i ∧ i ≤ a + 1 ∧ g' = h) 16 (by omega)
    ⟨(a : Int) - 15, ?_, by omega, by omega, by omega, rfl⟩ ?_
  · have : (s.take ((a : Int) - 15).toNat).drop (a - 15) = [] := by
      rw [List.drop_eq_nil_iff, List.length_take]; omega
    rw [this]; rfl
  rintro x r g' ⟨i, rfl, rfl, hi1, hi2, rfl⟩
  by_cases hle : i ≤ a
  · by_cases h0 : i ≥ 0
    · obtain ⟨j, rfl⟩ : ∃ j : Nat, i = (j : Int) := ⟨i.toNat, by omega⟩
      have hj : j < s.length := by omega
      have q1 : s[j]? = some s[j] := List.getElem?_eq_getElem hj
      have hx := fold_lt ((s.take j).drop (a - 15)) 0 (by decide)
      have hb : s[j].toNat < 256 := s[j].toNat_lt
      have e : ((s.take (j + 1)).drop (a - 15)).foldl (fun x b => (x * 31 + b.toNat + 1) % 4294967296) 0 = (((s.take j).drop (a - 15)).foldl (fun x b => (x * 31 + b.toNat + 1) % 4294967296) 0 * 31 + s[j].toNat + 1) % 4294967296 := by
        rw [List.take_succ_eq_append_getElem hj, List.drop_append_of_le_length (by rw [List.length_take]; omega), List.foldl_append]; rfl
      simp only [Int.toNat_natCast]
      generalize ((s.take j).drop (a - 15)).foldl (fun x b => (x * 31 + b.toNat + 1) % 4294967296) 0 = y at hx e
      simp (maxSteps := 2000000) (discharger := omega) only [xc,xo,xr,x0,x1,x2,x3,x4,x5,x6,xd,xe,xb,kont_call,kont_pure,kont_round,isNil,slOk,sliceV,selems,srcElems,copyTo,dlen,eqAV,eqCells,eqS,wr,place,partVals,partEs,placeEs,mapOf,keyOk,keyCells,findK,Bool.bne_false,Bool.bne_true,List.drop_zero,List.nil_append,List.append_nil,List.take_zero,List.cons_append,List.take_succ_cons,List.drop_succ_cons,List.take_nil,List.drop_nil,Reg.isA,Reg.isV,Reg.stays,Reg.onto,Bool.false_or,Bool.or_false,Bool.false_and,Bool.and_false,Bool.true_and,Bool.and_true,Bool.or_true,Bool.true_or,↓reduceIte,reduceCtorEq,Nat.reduceEqDiff,Nat.reduceLT,Nat.reduceAdd,Nat.reduceMul,Nat.add_zero,Nat.zero_add,Nat.not_lt_zero,Nat.zero_ne_one,Nat.one_ne_zero,Nat.reduceLeDiff,Nat.lt_irrefl,Nat.zero_lt_succ,Bool.false_eq_true,Bool.not_true,Bool.not_false,Option.map_some,Option.map_none,Option.bind_some,Option.getD_some,Option.getD_none,and_self,and_true,true_and,List.length_cons,List.length_nil,List.any_nil,List.any_cons,Int.toNat_natCast,Int.cast_ofNat_Int,Int.natCast_zero,Int.natCast_nonneg,true_implies,or_true,true_or,false_or,or_false,beq_self_eq_true,Option.some.injEq,exists_eq_left',Int.reduceEq,Int.reduceLT,Int.reduceLE,Int.reduceGT,Int.reduceGE,Nat.reduceGT,Int.reduceNeg,Int.reduceToNat,Int.reduceAdd,Int.reduceMul,Int.reduceSub,Int.reducePow,decide_true,decide_false,decide_eq_true_eq,List.getElem?_cons_zero,List.getElem?_cons_succ,Nat.reduceBEq,Nat.reduceSub,exists_false,and_false,false_and,xu,List.set_cons_zero,List.set_cons_succ,wrap_i64,int_lt_t,int_lt_f,int_le_t,int_le_f,int_gt_t,int_gt_f,int_ge_t,int_ge_f,int_eq_t,int_eq_f,int_beq_t,int_beq_f,int_bne_t,int_bne_f,nat_le_t,nat_le_f,Nat.sub_zero,Nat.sub_self,not_false_eq_true,not_true_eq_false,q1,tmod_pos]
      refine ⟨((a : Int) + 1 - ((j : Int) + 1)).toNat, by omega, (j : Int) + 1, ?_, rfl, by omega, by omega⟩
      rw [show ((j : Int) + 1).toNat = j + 1 by omega, e]
      congr 3
    · simp (maxSteps := 2000000) (discharger := omega) only [xc,xo,xr,x0,x1,x2,x3,x4,x5,x6,xd,xe,xb,kont_call,kont_pure,kont_round,isNil,slOk,sliceV,selems,srcElems,copyTo,dlen,eqAV,eqCells,eqS,wr,place,partVals,partEs,placeEs,mapOf,keyOk,keyCells,findK,Bool.bne_false,Bool.bne_true,List.drop_zero,List.nil_append,List.append_nil,List.take_zero,List.cons_append,List.take_succ_cons,List.drop_succ_cons,List.take_nil,List.drop_nil,Reg.isA,Reg.isV,Reg.stays,Reg.onto,Bool.false_or,Bool.or_false,Bool.false_and,Bool.and_false,Bool.true_and,Bool.and_true,Bool.or_true,Bool.true_or,↓reduceIte,reduceCtorEq,Nat.reduceEqDiff,Nat.reduceLT,Nat.reduceAdd,Nat.reduceMul,Nat.add_zero,Nat.zero_add,Nat.not_lt_zero,Nat.zero_ne_one,Nat.one_ne_zero,Nat.reduceLeDiff,Nat.lt_irrefl,Nat.zero_lt_succ,Bool.false_eq_true,Bool.not_true,Bool.not_false,Option.map_some,Option.map_none,Option.bind_some,Option.getD_some,Option.getD_none,and_self,and_true,true_and,List.length_cons,List.length_nil,List.any_nil,List.any_cons,Int.toNat_natCast,Int.cast_ofNat_Int,Int.natCast_zero,Int.natCast_nonneg,true_implies,or_true,true_or,false_or,or_false,beq_self_eq_true,Option.some.injEq,exists_eq_left',Int.reduceEq,Int.reduceLT,Int.reduceLE,Int.reduceGT,Int.reduceGE,Nat.reduceGT,Int.reduceNeg,Int.reduceToNat,Int.reduceAdd,Int.reduceMul,Int.reduceSub,Int.reducePow,decide_true,decide_false,decide_eq_true_eq,List.getElem?_cons_zero,List.getElem?_cons_succ,Nat.reduceBEq,Nat.reduceSub,exists_false,and_false,false_and,xu,List.set_cons_zero,List.set_cons_succ,wrap_i64,int_lt_t,int_lt_f,int_le_t,int_le_f,int_gt_t,int_gt_f,int_ge_t,int_ge_f,int_eq_t,int_eq_f,int_beq_t,int_beq_f,int_bne_t,int_bne_f,nat_le_t,nat_le_f,Nat.sub_zero,Nat.sub_self,not_false_eq_true,not_true_eq_false]
      refine ⟨((a : Int) + 1 - (i + 1)).toNat, by omega, i + 1, ?_, rfl, by omega, by omega⟩
      rw [show (i + 1).toNat = 0 by omega, show i.toNat = 0 by omega]
  · obtain rfl : i = (a : Int) + 1 := by omega
    simp (maxSteps := 2000000) (discharger := omega) only [xc,xo,xr,x0,x1,x2,x3,x4,x5,x6,xd,xe,xb,kont_call,kont_pure,kont_round,isNil,slOk,sliceV,selems,srcElems,copyTo,dlen,eqAV,eqCells,eqS,wr,place,partVals,partEs,placeEs,mapOf,keyOk,keyCells,findK,Bool.bne_false,Bool.bne_true,List.drop_zero,List.nil_append,List.append_nil,List.take_zero,List.cons_append,List.take_succ_cons,List.drop_succ_cons,List.take_nil,List.drop_nil,Reg.isA,Reg.isV,Reg.stays,Reg.onto,Bool.false_or,Bool.or_false,Bool.false_and,Bool.and_false,Bool.true_and,Bool.and_true,Bool.or_true,Bool.true_or,↓reduceIte,reduceCtorEq,Nat.reduceEqDiff,Nat.reduceLT,Nat.reduceAdd,Nat.reduceMul,Nat.add_zero,Nat.zero_add,Nat.not_lt_zero,Nat.zero_ne_one,Nat.one_ne_zero,Nat.reduceLeDiff,Nat.lt_irrefl,Nat.zero_lt_succ,Bool.false_eq_true,Bool.not_true,Bool.not_false,Option.map_some,Option.map_none,Option.bind_some,Option.getD_some,Option.getD_none,and_self,and_true,true_and,List.length_cons,List.length_nil,List.any_nil,List.any_cons,Int.toNat_natCast,Int.cast_ofNat_Int,Int.natCast_zero,Int.natCast_nonneg,true_implies,or_true,true_or,false_or,or_false,beq_self_eq_true,Option.some.injEq,exists_eq_left',Int.reduceEq,Int.reduceLT,Int.reduceLE,Int.reduceGT,Int.reduceGE,Nat.reduceGT,Int.reduceNeg,Int.reduceToNat,Int.reduceAdd,Int.reduceMul,Int.reduceSub,Int.reducePow,decide_true,decide_false,decide_eq_true_eq,List.getElem?_cons_zero,List.getElem?_cons_succ,Nat.reduceBEq,Nat.reduceSub,exists_false,and_false,false_and,xu,List.set_cons_zero,List.set_cons_succ,wrap_i64,int_lt_t,int_lt_f,int_le_t,int_le_f,int_gt_t,int_gt_f,int_ge_t,int_ge_f,int_eq_t,int_eq_f,int_beq_t,int_beq_f,int_bne_t,int_bne_f,nat_le_t,nat_le_f,Nat.sub_zero,Nat.sub_self,not_false_eq_true,not_true_eq_false]
    rw [show ((a : Int) + 1).toNat = a + 1 by omega]; rfl

def cutSt (l m M : Int) (s : By) : Nat → Nat × List Nat
  | 0 => (0, [])
  | i + 1 => if ((cutSt l m M s i).1 + 1 : Int) = M ∨ ((cutSt l m M s i).1 + 1 : Int) ≥ l ∧ ((sumR s i : Nat) : Int) % m = m - 1 then (0, (cutSt l m M s i).2 ++ [(cutSt l m M s i).1 + 1]) else ((cutSt l m M s i).1 + 1, (cutSt l m M s i).2)
def cutR (l m M : Int) (s : By) : List Nat := if (cutSt l m M s s.length).1 > 0 then (cutSt l m M s s.length).2 ++ [(cutSt l m M s s.length).1] else (cutSt l m M s s.length).2

theorem cutSt_sum (l m M : Int) (s : By) : ∀ i, (cutSt l m M s i).2.sum + (cutSt l m M s i).1 = i ∧ (∀ x ∈ (cutSt l m M s i).2, 1 ≤ x) ∧ (cutSt l m M s i).2.length + (cutSt l m M s i).1 ≤ i
  | 0 => ⟨rfl, by simp [cutSt], Nat.le_refl _⟩
  | i + 1 => by
    obtain ⟨h1, h2, h3⟩ := cutSt_sum l m M s i
    unfold cutSt
    split
    · refine ⟨by simp; omega, fun x hx => ?_, by simp; omega⟩
      rcases List.mem_append.1 hx with hx | hx
      · exact h2 x hx
      · rw [List.mem_singleton] at hx; omega
    · exact ⟨by simp only; omega, h2, by simp only; omega⟩
theorem cutR_sum (l m M : Int) (s : By) : (cutR l m M s).sum = s.length ∧ (∀ x ∈ cutR l m M s, 1 ≤ x) ∧ (cutR l m M s).length ≤ s.length := by
  obtain ⟨h1, h2, h3⟩ := cutSt_sum l m M s s.length
  unfold cutR
  split
  · rename_i hp
    refine ⟨by simp; omega, fun x hx => ?_, by simp; omega⟩
    rcases List.mem_append.1 hx with hx | hx
    · exact h2 x hx
    · rw [List.mem_singleton] at hx; omega
  · exact ⟨by omega, h2, by omega⟩

def nsOf (l : List Nat) : List AV := l.map fun x => .int .i64 (x : Nat)

structure Cf (c : AV) (l m M : Int) : Prop where
  agg : ∃ cs, c = .agg cs ∧ cs.length = 12 ∧ cs[8]? = some (.int .i64 l) ∧ cs[9]? = some (.int .i64 m) ∧ cs[10]? = some (.int .i64 M)

def Below (lo : Nat) (h h' : Hp) : Prop := h.length ≤ h'.length ∧ ∀ i, i < lo → h'[i]? = h[i]?
theorem Below.refl (lo : Nat) (h : Hp) : Below lo h h := ⟨Nat.le_refl _, fun _ _ => rfl⟩
theorem Below.trans {lo : Nat} {a b c : Hp} (x : Below lo a b) (y : Below lo b c) : Below lo a c := ⟨Nat.le_trans x.1 y.1, fun i hi => (y.2 i hi).trans (x.2 i hi)⟩
theorem Below.low {lo lo' : Nat} {a b : Hp} (x : Below lo a b) (hl : lo' ≤ lo) : Below lo' a b := ⟨x.1, fun i hi => x.2 i (by omega)⟩
theorem Below.app (lo : Nat) (h m : Hp) (hl : lo ≤ h.length) : Below lo h (h ++ m) := ⟨by simp, fun i hi => List.getElem?_append_left (by omega)⟩

def LateApp (lo sz : Nat) (es : List AV) (h : Hp) (v : AV) : Prop := IsApp sz es h v ∧ ∀ id c, v = .imm sz es (.tok id c) → lo ≤ id
theorem late_app {lo sz bytes : Nat} {es xs : List AV} {h : Hp} {v : AV} (hv : LateApp lo sz es h v) (hlo : lo ≤ h.length) (hx : xs ≠ []) (hb : (es.length + xs.length) * bytes ≤ 140737488355328) :
    ∃ v' h', appendV false sz bytes v xs h = some (v', h') ∧ LateApp lo sz (es ++ xs) h' v' ∧ Below lo h h' := by
  obtain ⟨v', h', w1, w2, w3, w4, w5, c, w6⟩ := app_ok (bytes := bytes) hv.1 hx hb
  refine ⟨v', h', w1, ⟨w2, fun id c' e => ?_⟩, w4, fun i hi => ?_⟩
  · rw [w6] at e; cases e; exact hlo
  · have hlt : i < h.length := by omega
    have e : h[i]? = some h[i] := List.getElem?_eq_getElem hlt
    by_cases ht : ∃ c, v = .imm sz es (.tok i c)
    · obtain ⟨c', hc⟩ := ht
      have := hv.2 i c' hc
      omega
    · rw [e]; exact w5 i _ e fun c' hc => ht ⟨c', hc⟩
theorem late_nils (lo sz : Nat) (h : Hp) : LateApp lo sz [] h .nils := ⟨.nils _ _, fun _ _ e => by cases e⟩
theorem LateApp.keep {lo sz : Nat} {es : List AV} {h h' : Hp} {v : AV} (hv : LateApp lo sz es h v) (hk : ∀ (i : Nat) (o : AO), h[i]? = some o → h'[i]? = some o) : LateApp lo sz es h' v := by
  refine ⟨?_, hv.2⟩
  rcases hv.1 with h | h | ⟨id, h, e⟩
  · exact .inl h
  · exact .inr (.inl h)
  · exact .inr (.inr ⟨id, h, hk _ _ e⟩)
theorem LateApp.belw {lo lo' sz : Nat} {es : List AV} {h h' : Hp} {v : AV} (hv : LateApp lo sz es h v) (hk : Below h.length h h') : LateApp lo sz es h' v :=
  hv.keep fun i o e => by rw [hk.2 i (List.getElem?_eq_some_iff.1 e).1]; exact e

theorem c52 (c : AV) (l m M : Int) (s : By) (hc : Cf c l m M) (hm : 1 ≤ m) (hm2 : m ≤ 1000000000) (hs : s.length ≤ 1000000000) (hn : s.length + 30 < n) :
    ∃ v h', call F n tot ω 52 [c, .str s] h = some (v, h') ∧ IsRd 1 (nsOf (cutR l m M s)) v ∧ Below h.length h h' := by
  obtain ⟨n, rfl⟩ : ∃ m, n = m + 1 := ⟨n - 1, by omega⟩
  refine call_of (fn := a52) f52 (P := fun v h' => IsRd 1 (nsOf (cutR l m M s)) v ∧ Below h.length h h') ?_
  obtain ⟨cs, rfl, hl, h8, h9, h10⟩ := hc.agg
  unfold a52
  simp (maxSteps := 2000000) (discharger := omega) only [xc,xo,xr,x0,x1,x2,x3,x4,x5,x6,xd,xe,xb,kont_call,kont_pure,kont_round,isNil,slOk,sliceV,selems,srcElems,copyTo,dlen,eqAV,eqCells,eqS,wr,place,partVals,partEs,placeEs,mapOf,keyOk,keyCells,findK,Bool.bne_false,Bool.bne_true,List.drop_zero,List.nil_append,List.append_nil,List.take_zero,List.cons_append,List.take_succ_cons,List.drop_succ_cons,List.take_nil,List.drop_nil,Reg.isA,Reg.isV,Reg.stays,Reg.onto,Bool.false_or,Bool.or_false,Bool.false_and,Bool.and_false,Bool.true_and,Bool.and_true,Bool.or_true,Bool.true_or,↓reduceIte,reduceCtorEq,Nat.reduceEqDiff,Nat.reduceLT,Nat.reduceAdd,Nat.reduceMul,Nat.add_zero,Nat.zero_add,Nat.not_lt_zero,Nat.zero_ne_one,Nat.one_ne_zero,Nat.reduceLeDiff,Nat.lt_irrefl,Nat.zero_lt_succ,Bool.false_eq_true,Bool.not_true,Bool.not_false,Option.map_some,Option.map_none,Option.bind_some,Option.getD_some,Option.getD_none,and_self,and_true,true_and,List.length_cons,List.length_nil,List.any_nil,List.any_cons,Int.toNat_natCast,Int.cast_ofNat_Int,Int.natCast_zero,Int.natCast_nonneg,true_implies,or_true,true_or,false_or,or_false,beq_self_eq_true,Option.some.injEq,exists_eq_left',Int.reduceEq,Int.reduceLT,Int.reduceLE,Int.reduceGT,Int.reduceGE,Nat.reduceGT,Int.reduceNeg,Int.reduceToNat,Int.reduceAdd,Int.reduceMul,Int.reduceSub,Int.reducePow,decide_true,decide_false,decide_eq_true_eq,List.getElem?_cons_zero,List.getElem?_cons_succ,Nat.reduceBEq,Nat.reduceSub,exists_false,and_false,false_and,xu,List.set_cons_zero,List.set_cons_succ,wrap_i64,int_lt_t,int_lt_f,int_le_t,int_le_f,int_gt_t,int_gt_f,int_ge_t,int_ge_f,int_eq_t,int_eq_f,int_beq_t,int_beq_f,int_bne_t,int_bne_f,nat_le_t,nat_le_f,Nat.sub_zero,Nat.sub_self,not_false_eq_true,not_true_eq_false,hl]
  refine wpi_loop (fun x r g' => ∃ (i : Nat) (lv : AV), r = [(1, .val (.str s)), (2, .var (.agg cs)), (5, .val lv), (6, .val (.int .i64 ((cutSt l m M s i).1 : Nat))), (7, .val (.int .i64 i))] ∧ x = s.length - i ∧ i ≤ s.length ∧ LateApp h.length 1 (nsOf (cutSt l m M s i).2) g' lv ∧ Below h.length h g') s.length (by omega)
    ⟨0, .nils, rfl, rfl, Nat.zero_le _, late_nils _ _ _, .refl _ _⟩ ?_
  rintro x r g' ⟨i, lv, rfl, rfl, hi, hA, hB⟩
  obtain ⟨b1, b2, b3⟩ := cutSt_sum l m M s i
  by_cases hlt : i < s.length
  · have k82 := fun h => c82 (n := n) (tot := tot) (ω := ω) (h := h) s i hlt hs (by omega)
    have hsr := sumR_lt s i
    have hst : cutSt l m M s (i + 1) = if ((cutSt l m M s i).1 + 1 : Int) = M ∨ ((cutSt l m M s i).1 + 1 : Int) ≥ l ∧ ((sumR s i : Nat) : Int) % m = m - 1 then (0, (cutSt l m M s i).2 ++ [(cutSt l m M s i).1 + 1]) else ((cutSt l m M s i).1 + 1, (cutSt l m M s i).2) := rfl
    obtain ⟨lv', h2, w1, w2, w3⟩ := late_app (bytes := 8) (xs := [.int .i64 (((cutSt l m M s i).1 : Nat) + 1 : Int)]) hA hB.1 (by simp) (by simp [nsOf]; omega)
    have w2' : LateApp h.length 1 (nsOf ((cutSt l m M s i).2 ++ [(cutSt l m M s i).1 + 1])) h2 lv' := by
      unfold nsOf at w2 ⊢
      rw [List.map_append]; exact w2
    generalize cutSt l m M s i = st at *
    obtain ⟨nn, out⟩ := st
    simp only at *
    by_cases hM : ((nn : Nat) : Int) + 1 = M
    · rw [if_pos (.inl hM)] at hst
      simp (maxSteps := 2000000) (discharger := omega) only [xc,xo,xr,x0,x1,x2,x3,x4,x5,x6,xd,xe,xb,kont_call,kont_pure,kont_round,isNil,slOk,sliceV,selems,srcElems,copyTo,dlen,eqAV,eqCells,eqS,wr,place,partVals,partEs,placeEs,mapOf,keyOk,keyCells,findK,Bool.bne_false,Bool.bne_true,List.drop_zero,List.nil_append,List.append_nil,List.take_zero,List.cons_append,List.take_succ_cons,List.drop_succ_cons,List.take_nil,List.drop_nil,Reg.isA,Reg.isV,Reg.stays,Reg.onto,Bool.false_or,Bool.or_false,Bool.false_and,Bool.and_false,Bool.true_and,Bool.and_true,Bool.or_true,Bool.true_or,↓reduceIte,reduceCtorEq,Nat.reduceEqDiff,Nat.reduceLT,Nat.reduceAdd,Nat.reduceMul,Nat.add_zero,Nat.zero_add,Nat.not_lt_zero,Nat.zero_ne_one,Nat.one_ne_zero,Nat.reduceLeDiff,Nat.lt_irrefl,Nat.zero_lt_succ,Bool.false_eq_true,Bool.not_true,Bool.not_false,Option.map_some,Option.map_none,Option.bind_some,Option.getD_some,Option.getD_none,and_self,and_true,true_and,List.length_cons,List.length_nil,List.any_nil,List.any_cons,Int.toNat_natCast,Int.cast_ofNat_Int,Int.natCast_zero,Int.natCast_nonneg,true_implies,or_true,true_or,false_or,or_false,beq_self_eq_true,Option.some.injEq,exists_eq_left',Int.reduceEq,Int.reduceLT,Int.reduceLE,Int.reduceGT,Int.reduceGE,Nat.reduceGT,Int.reduceNeg,Int.reduceToNat,Int.reduceAdd,Int.reduceMul,Int.reduceSub,Int.reducePow,decide_true,decide_false,decide_eq_true_eq,List.getElem?_cons_zero,List.getElem?_cons_succ,Nat.reduceBEq,Nat.reduceSub,exists_false,and_false,false_and,xu,List.set_cons_zero,List.set_cons_succ,wrap_i64,int_lt_t,int_lt_f,int_le_t,int_le_f,int_gt_t,int_gt_f,int_ge_t,int_ge_f,int_eq_t,int_eq_f,int_beq_t,int_beq_f,int_bne_t,int_bne_f,nat_le_t,nat_le_f,Nat.sub_zero,Nat.sub_self,not_false_eq_true,not_true_eq_false,h8,h9,h10,w1,hA.1.isRow,List.replicate]
      exact ⟨s.length - (i + 1), by omega, i + 1, lv', by rw [hst, show ((i : Nat) : Int) + 1 = ((i + 1 : Nat) : Int) by omega]; rfl, rfl, by omega, by rw [hst]; exact w2', hB.trans w3⟩
    · by_cases hge : ((nn : Nat) : Int) + 1 ≥ l
      · by_cases hmd : ((sumR s i : Nat) : Int) % m = m - 1
        · rw [if_pos (.inr ⟨hge, hmd⟩)] at hst
          simp (maxSteps := 2000000) (discharger := omega) only [xc,xo,xr,x0,x1,x2,x3,x4,x5,x6,xd,xe,xb,kont_call,kont_pure,kont_round,isNil,slOk,sliceV,selems,srcElems,copyTo,dlen,eqAV,eqCells,eqS,wr,place,partVals,partEs,placeEs,mapOf,keyOk,keyCells,findK,Bool.bne_false,Bool.bne_true,List.drop_zero,List.nil_append,List.append_nil,List.take_zero,List.cons_append,List.take_succ_cons,List.drop_succ_cons,List.take_nil,List.drop_nil,Reg.isA,Reg.isV,Reg.stays,Reg.onto,Bool.false_or,Bool.or_false,Bool.false_and,Bool.and_false,Bool.true_and,Bool.and_true,Bool.or_true,Bool.true_or,↓reduceIte,reduceCtorEq,Nat.reduceEqDiff,Nat.reduceLT,Nat.reduceAdd,Nat.reduceMul,Nat.add_zero,Nat.zero_add,Nat.not_lt_zero,Nat.zero_ne_one,Nat.one_ne_zero,Nat.reduceLeDiff,Nat.lt_irrefl,Nat.zero_lt_succ,Bool.false_eq_true,Bool.not_true,Bool.not_false,Option.map_some,Option.map_none,Option.bind_some,Option.getD_some,Option.getD_none,and_self,and_true,true_and,List.length_cons,List.length_nil,List.any_nil,List.any_cons,Int.toNat_natCast,Int.cast_ofNat_Int,Int.natCast_zero,Int.natCast_nonneg,true_implies,or_true,true_or,false_or,or_false,beq_self_eq_true,Option.some.injEq,exists_eq_left',Int.reduceEq,Int.reduceLT,Int.reduceLE,Int.reduceGT,Int.reduceGE,Nat.reduceGT,Int.reduceNeg,Int.reduceToNat,Int.reduceAdd,Int.reduceMul,Int.reduceSub,Int.reducePow,decide_true,decide_false,decide_eq_true_eq,List.getElem?_cons_zero,List.getElem?_cons_succ,Nat.reduceBEq,Nat.reduceSub,exists_false,and_false,false_and,xu,List.set_cons_zero,List.set_cons_succ,wrap_i64,int_lt_t,int_lt_f,int_le_t,int_le_f,int_gt_t,int_gt_f,int_ge_t,int_ge_f,int_eq_t,int_eq_f,int_beq_t,int_beq_f,int_bne_t,int_bne_f,nat_le_t,nat_le_f,Nat.sub_zero,Nat.sub_self,not_false_eq_true,not_true_eq_false,h8,h9,h10,k82,tmod_pos,w1,hA.1.isRow,List.replicate]
          exact ⟨s.length - (i + 1), by omega, i + 1, lv', by rw [hst, show ((i : Nat) : Int) + 1 = ((i + 1 : Nat) : Int) by omega]; rfl, rfl, by omega, by rw [hst]; exact w2', hB.trans w3⟩
        · rw [if_neg (by omega)] at hst
          simp (maxSteps := 2000000) (discharger := omega) only [xc,xo,xr,x0,x1,x2,x3,x4,x5,x6,xd,xe,xb,kont_call,kont_pure,kont_round,isNil,slOk,sliceV,selems,srcElems,copyTo,dlen,eqAV,eqCells,eqS,wr,place,partVals,partEs,placeEs,mapOf,keyOk,keyCells,findK,Bool.bne_false,Bool.bne_true,List.drop_zero,List.nil_append,List.append_nil,List.take_zero,List.cons_append,List.take_succ_cons,List.drop_succ_cons,List.take_nil,List.drop_nil,Reg.isA,Reg.isV,Reg.stays,Reg.onto,Bool.false_or,Bool.or_false,Bool.false_and,Bool.and_false,Bool.true_and,Bool.and_true,Bool.or_true,Bool.true_or,↓reduceIte,reduceCtorEq,Nat.reduceEqDiff,Nat.reduceLT,Nat.reduceAdd,Nat.reduceMul,Nat.add_zero,Nat.zero_add,Nat.not_lt_zero,Nat.zero_ne_one,Nat.one_ne_zero,Nat.reduceLeDiff,Nat.lt_irrefl,Nat.zero_lt_succ,Bool.false_eq_true,Bool.not_true,Bool.not_false,Option.map_some,Option.map_none,Option.bind_some,Option.getD_some,Option.getD_none,and_self,and_true,true_and,List.length_cons,List.length_nil,List.any_nil,List.any_cons,Int.toNat_natCast,Int.cast_ofNat_Int,Int.natCast_zero,Int.natCast_nonneg,true_implies,or_true,true_or,false_or,or_false,beq_self_eq_true,Option.some.injEq,exists_eq_left',Int.reduceEq,Int.reduceLT,Int.reduceLE,Int.reduceGT,Int.reduceGE,Nat.reduceGT,Int.reduceNeg,Int.reduceToNat,Int.reduceAdd,Int.reduceMul,Int.reduceSub,Int.reducePow,decide_true,decide_false,decide_eq_true_eq,List.getElem?_cons_zero,List.getElem?_cons_succ,Nat.reduceBEq,Nat.reduceSub,exists_false,and_false,false_and,xu,List.set_cons_zero,List.set_cons_succ,wrap_i64,int_lt_t,int_lt_f,int_le_t,int_le_f,int_gt_t,int_gt_f,int_ge_t,int_ge_f,int_eq_t,int_eq_f,int_beq_t,int_beq_f,int_bne_t,int_bne_f,nat_le_t,nat_le_f,Nat.sub_zero,Nat.sub_self,not_false_eq_true,not_true_eq_false,h8,h9,h10,k82,tmod_pos]
          exact ⟨s.length - (i + 1), by omega, i + 1, lv, by rw [hst, show ((i : Nat) : Int) + 1 = ((i + 1 : Nat) : Int) by omega]; rfl, rfl, by omega, by rw [hst]; exact hA, hB⟩
      · rw [if_neg (by omega)] at hst
        simp (maxSteps := 2000000) (discharger := omega) only [xc,xo,xr,x0,x1,x2,x3,x4,x5,x6,xd,xe,xb,kont_call,kont_pure,kont_round,isNil,slOk,sliceV,selems,srcElems,copyTo,dlen,eqAV,eqCells,eqS,wr,place,partVals,partEs,placeEs,mapOf,keyOk,keyCells,findK,Bool.bne_false,Bool.bne_true,List.drop_zero,List.nil_append,List.append_nil,List.take_zero,List.cons_append,List.take_succ_cons,List.drop_succ_cons,List.take_nil,List.drop_nil,Reg.isA,Reg.isV,Reg.stays,Reg.onto,Bool.false_or,Bool.or_false,Bool.false_and,Bool.and_false,Bool.true_and,Bool.and_true,Bool.or_true,Bool.true_or,↓reduceIte,reduceCtorEq,Nat.reduceEqDiff,Nat.reduceLT,Nat.reduceAdd,Nat.reduceMul,Nat.add_zero,Nat.zero_add,Nat.not_lt_zero,Nat.zero_ne_one,Nat.one_ne_zero,Nat.reduceLeDiff,Nat.lt_irrefl,Nat.zero_lt_succ,Bool.false_eq_true,Bool.not_true,Bool.not_false,Option.map_some,Option.map_none,Option.bind_some,Option.getD_some,Option.getD_none,and_self,and_true,true_and,List.length_cons,List.length_nil,List.any_nil,List.any_cons,Int.toNat_natCast,Int.cast_ofNat_Int,Int.natCast_zero,Int.natCast_nonneg,true_implies,or_true,true_or,false_or,or_false,beq_self_eq_true,Option.some.injEq,exists_eq_left',Int.reduceEq,Int.reduceLT,Int.reduceLE,Int.reduceGT,Int.reduceGE,Nat.reduceGT,Int.reduceNeg,Int.reduceToNat,Int.reduceAdd,Int.reduceMul,Int.reduceSub,Int.reducePow,decide_true,decide_false,decide_eq_true_eq,List.getElem?_cons_zero,List.getElem?_cons_succ,Nat.reduceBEq,Nat.reduceSub,exists_false,and_false,false_and,xu,List.set_cons_zero,List.set_cons_succ,wrap_i64,int_lt_t,int_lt_f,int_le_t,int_le_f,int_gt_t,int_gt_f,int_ge_t,int_ge_f,int_eq_t,int_eq_f,int_beq_t,int_beq_f,int_bne_t,int_bne_f,nat_le_t,nat_le_f,Nat.sub_zero,Nat.sub_self,not_false_eq_true,not_true_eq_false,h8,h9,h10]
        exact ⟨s.length - (i + 1), by omega, i + 1, lv, by rw [hst, show ((i : Nat) : Int) + 1 = ((i + 1 : Nat) : Int) by omega]; rfl, rfl, by omega, by rw [hst]; exact hA, hB⟩
  · obtain rfl : i = s.length := by omega
    obtain ⟨lv', h2, w1, w2, w3⟩ := late_app (bytes := 8) (xs := [.int .i64 ((cutSt l m M s s.length).1 : Nat)]) hA hB.1 (by simp) (by simp [nsOf]; omega)
    have w2' : LateApp h.length 1 (nsOf ((cutSt l m M s s.length).2 ++ [(cutSt l m M s s.length).1])) h2 lv' := by
      unfold nsOf at w2 ⊢
      rw [List.map_append]; exact w2
    unfold cutR
    by_cases h0 : (cutSt l m M s s.length).1 > 0
    · rw [if_pos h0]
      simp (maxSteps := 2000000) (discharger := omega) only [xc,xo,xr,x0,x1,x2,x3,x4,x5,x6,xd,xe,xb,kont_call,kont_pure,kont_round,isNil,slOk,sliceV,selems,srcElems,copyTo,dlen,eqAV,eqCells,eqS,wr,place,partVals,partEs,placeEs,mapOf,keyOk,keyCells,findK,Bool.bne_false,Bool.bne_true,List.drop_zero,List.nil_append,List.append_nil,List.take_zero,List.cons_append,List.take_succ_cons,List.drop_succ_cons,List.take_nil,List.drop_nil,Reg.isA,Reg.isV,Reg.stays,Reg.onto,Bool.false_or,Bool.or_false,Bool.false_and,Bool.and_false,Bool.true_and,Bool.and_true,Bool.or_true,Bool.true_or,↓reduceIte,reduceCtorEq,Nat.reduceEqDiff,Nat.reduceLT,Nat.reduceAdd,Nat.reduceMul,Nat.add_zero,Nat.zero_add,Nat.not_lt_zero,Nat.zero_ne_one,Nat.one_ne_zero,Nat.reduceLeDiff,Nat.lt_irrefl,Nat.zero_lt_succ,Bool.false_eq_true,Bool.not_true,Bool.not_false,Option.map_some,Option.map_none,Option.bind_some,Option.getD_some,Option.getD_none,and_self,and_true,true_and,List.length_cons,List.length_nil,List.any_nil,List.any_cons,Int.toNat_natCast,Int.cast_ofNat_Int,Int.natCast_zero,Int.natCast_nonneg,true_implies,or_true,true_or,false_or,or_false,beq_self_eq_true,Option.some.injEq,exists_eq_left',Int.reduceEq,Int.reduceLT,Int.reduceLE,Int.reduceGT,Int.reduceGE,Nat.reduceGT,Int.reduceNeg,Int.reduceToNat,Int.reduceAdd,Int.reduceMul,Int.reduceSub,Int.reducePow,decide_true,decide_false,decide_eq_true_eq,List.getElem?_cons_zero,List.getElem?_cons_succ,Nat.reduceBEq,Nat.reduceSub,exists_false,and_false,false_and,xu,List.set_cons_zero,List.set_cons_succ,wrap_i64,int_lt_t,int_lt_f,int_le_t,int_le_f,int_gt_t,int_gt_f,int_ge_t,int_ge_f,int_eq_t,int_eq_f,int_beq_t,int_beq_f,int_bne_t,int_bne_f,nat_le_t,nat_le_f,Nat.sub_zero,Nat.sub_self,not_false_eq_true,not_true_eq_false,w1,hA.1.isRow,List.replicate]
      exact ⟨isRd_app w2'.1, hB.trans w3⟩
    · rw [if_neg h0]
      simp (maxSteps := 2000000) (discharger := omega) only [xc,xo,xr,x0,x1,x2,x3,x4,x5,x6,xd,xe,xb,kont_call,kont_pure,kont_round,isNil,slOk,sliceV,selems,srcElems,copyTo,dlen,eqAV,eqCells,eqS,wr,place,partVals,partEs,placeEs,mapOf,keyOk,keyCells,findK,Bool.bne_false,Bool.bne_true,List.drop_zero,List.nil_append,List.append_nil,List.take_zero,List.cons_append,List.take_succ_cons,List.drop_succ_cons,List.take_nil,List.drop_nil,Reg.isA,Reg.isV,Reg.stays,Reg.onto,Bool.false_or,Bool.or_false,Bool.false_and,Bool.and_false,Bool.true_and,Bool.and_true,Bool.or_true,Bool.true_or,↓reduceIte,reduceCtorEq,Nat.reduceEqDiff,Nat.reduceLT,Nat.reduceAdd,Nat.reduceMul,Nat.add_zero,Nat.zero_add,Nat.not_lt_zero,Nat.zero_ne_one,Nat.one_ne_zero,Nat.reduceLeDiff,Nat.lt_irrefl,Nat.zero_lt_succ,Bool.false_eq_true,Bool.not_true,Bool.not_false,Option.map_some,Option.map_none,Option.bind_some,Option.getD_some,Option.getD_none,and_self,and_true,true_and,List.length_cons,List.length_nil,List.any_nil,List.any_cons,Int.toNat_natCast,Int.cast_ofNat_Int,Int.natCast_zero,Int.natCast_nonneg,true_implies,or_true,true_or,false_or,or_false,beq_self_eq_true,Option.some.injEq,exists_eq_left',Int.reduceEq,Int.reduceLT,Int.reduceLE,Int.reduceGT,Int.reduceGE,Nat.reduceGT,Int.reduceNeg,Int.reduceToNat,Int.reduceAdd,Int.reduceMul,Int.reduceSub,Int.reducePow,decide_true,decide_false,decide_eq_true_eq,List.getElem?_cons_zero,List.getElem?_cons_succ,Nat.reduceBEq,Nat.reduceSub,exists_false,and_false,false_and,xu,List.set_cons_zero,List.set_cons_succ,wrap_i64,int_lt_t,int_lt_f,int_le_t,int_le_f,int_gt_t,int_gt_f,int_ge_t,int_ge_f,int_eq_t,int_eq_f,int_beq_t,int_beq_f,int_bne_t,int_bne_f,nat_le_t,nat_le_f,Nat.sub_zero,Nat.sub_self,not_false_eq_true,not_true_eq_false]
      exact ⟨isRd_app hA.1, hB⟩
end
end Go.Proofs.YtpgmohjmpaifbaaDoor.Im

/- S21Rs: the reference's digest: turns, the padded text. -/
set_option linter.unusedVariables false
set_option linter.unusedSimpArgs false
open Go Go.Im
namespace Go.Proofs.YtpgmohjmpaifbaaDoor.Im

def turnI (x : Int) : Nat → Int
  | 0 => x
  | k + 1 => IntKind.u32.wrap (IntKind.u32.wrap ((turnI x k).tdiv 2) + IntKind.u32.wrap ((turnI x k).tmod 2 * 2147483648))

section
variable {n : Nat} {tot : Bool} {ω : Nat → Nat} {h : Hp}

theorem c85 (x : Int) (k : Nat) (hk : k ≤ 32) (hn : 40 < n) : call F n tot ω 85 [.int .u32 x, .int .i64 k] h = some (.int .u32 (turnI x k), h) := by
  obtain ⟨n, rfl⟩ : ∃ m, n = m + 1 := ⟨n - 1, by omega⟩
  refine call_eq (fn := a85) f85 ?_
  unfold a85
  simp (maxSteps := 2000000) (discharger := omega) only [xc,xo,xr,x0,x1,x2,x3,x4,x5,x6,xd,xe,xb,kont_call,kont_pure,kont_round,isNil,slOk,sliceV,selems,srcElems,copyTo,dlen,eqAV,eqCells,eqS,wr,place,partVals,partEs,placeEs,mapOf,keyOk,keyCells,findK,Bool.bne_false,Bool.bne_true,List.drop_zero,List.nil_append,List.append_nil,List.take_zero,List.cons_append,List.take_succ_cons,List.drop_succ_cons,List.take_nil,List.drop_nil,Reg.isA,Reg.isV,Reg.stays,Reg.onto,Bool.false_or,Bool.or_false,Bool.false_and,Bool.and_false,Bool.true_and,Bool.and_true,Bool.or_true,Bool.true_or,↓reduceIte,reduceCtorEq,Nat.reduceEqDiff,Nat.reduceLT,Nat.reduceAdd,Nat.reduceMul,Nat.add_zero,Nat.zero_add,Nat.not_lt_zero,Nat.zero_ne_one,Nat.one_ne_zero,Nat.reduceLeDiff,Nat.lt_irrefl,Nat.zero_lt_succ,Bool.false_eq_true,Bool.not_true,Bool.not_false,Option.map_some,Option.map_none,Option.bind_some,Option.getD_some,Option.getD_none,and_self,and_true,true_and,List.length_cons,List.length_nil,List.any_nil,List.any_cons,Int.toNat_natCast,Int.cast_ofNat_Int,Int.natCast_zero,Int.natCast_nonneg,true_implies,or_true,true_or,false_or,or_false,beq_self_eq_true,Option.some.injEq,exists_eq_left',Int.reduceEq,Int.reduceLT,Int.reduceLE,Int.reduceGT,Int.reduceGE,Nat.reduceGT,Int.reduceNeg,Int.reduceToNat,Int.reduceAdd,Int.reduceMul,Int.reduceSub,Int.reducePow,decide_true,decide_false,decide_eq_true_eq,List.getElem?_cons_zero,List.getElem?_cons_succ,Nat.reduceBEq,Nat.reduceSub,exists_false,and_false,false_and,xu,List.set_cons_zero,List.set_cons_succ,wrap_i64,int_lt_t,int_lt_f,int_le_t,int_le_f,int_gt_t,int_gt_f,int_ge_t,int_ge_f,int_eq_t,int_eq_f,int_beq_t,int_beq_f,int_bne_t,int_bne_f,nat_le_t,nat_le_f,Nat.sub_zero,Nat.sub_self,not_false_eq_true,not_true_eq_false]
  refine wpi_loop (fun y r g' => ∃ (i : Nat), r = [(0, .val (.int .u32 (turnI x i))), (1, .val (.int .i64 k)), (5, .val (.int .i64 i))] ∧ y = k - i ∧ i ≤ k ∧ g' = h) k (by omega)
    ⟨0, rfl, rfl, Nat.zero_le _, rfl⟩ ?_
  rintro y r g' ⟨i, rfl, rfl, hi, rfl⟩
  by_cases hlt : i < k
  · simp (maxSteps := 2000000) (discharger := omega) only [xc,xo,xr,x0,x1,x2,x3,x4,x5,x6,xd,xe,xb,kont_call,kont_pure,kont_round,isNil,slOk,sliceV,selems,srcElems,copyTo,dlen,eqAV,eqCells,eqS,wr,place,partVals,partEs,placeEs,mapOf,keyOk,keyCells,findK,Bool.bne_false,Bool.bne_true,List.drop_zero,List.nil_append,List.append_nil,List.take_zero,List.cons_append,List.take_succ_cons,List.drop_succ_cons,List.take_nil,List.drop_nil,Reg.isA,Reg.isV,Reg.stays,Reg.onto,Bool.false_or,Bool.or_false,Bool.false_and,Bool.and_false,Bool.true_and,Bool.and_true,Bool.or_true,Bool.true_or,↓reduceIte,reduceCtorEq,Nat.reduceEqDiff,Nat.reduceLT,Nat.reduceAdd,Nat.reduceMul,Nat.add_zero,Nat.zero_add,Nat.not_lt_zero,Nat.zero_ne_one,Nat.one_ne_zero,Nat.reduceLeDiff,Nat.lt_irrefl,Nat.zero_lt_succ,Bool.false_eq_true,Bool.not_true,Bool.not_false,Option.map_some,Option.map_none,Option.bind_some,Option.getD_some,Option.getD_none,and_self,and_true,true_and,List.length_cons,List.length_nil,List.any_nil,List.any_cons,Int.toNat_natCast,Int.cast_ofNat_Int,Int.natCast_zero,Int.natCast_nonneg,true_implies,or_true,true_or,false_or,or_false,beq_self_eq_true,Option.some.injEq,exists_eq_left',Int.reduceEq,Int.reduceLT,Int.reduceLE,Int.reduceGT,Int.reduceGE,Nat.reduceGT,Int.reduceNeg,Int.reduceToNat,Int.reduceAdd,Int.reduceMul,Int.reduceSub,Int.reducePow,decide_true,decide_false,decide_eq_true_eq,List.getElem?_cons_zero,List.getElem?_cons_succ,Nat.reduceBEq,Nat.reduceSub,exists_false,and_false,false_and,xu,List.set_cons_zero,List.set_cons_succ,wrap_i64,int_lt_t,int_lt_f,int_le_t,int_le_f,int_gt_t,int_gt_f,int_ge_t,int_ge_f,int_eq_t,int_eq_f,int_beq_t,int_beq_f,int_bne_t,int_bne_f,nat_le_t,nat_le_f,Nat.sub_zero,Nat.sub_self,not_false_eq_true,not_true_eq_false]
    exact ⟨k - (i + 1), by omega, i + 1, by rw [show ((i : Nat) : Int) + 1 = ((i + 1 : Nat) : Int) by omega]; rfl, rfl, by omega⟩
  · obtain rfl : i = k := by omega
    simp (maxSteps := 2000000) (discharger := omega) only [xc,xo,xr,x0,x1,x2,x3,x4,x5,x6,xd,xe,xb,kont_call,kont_pure,kont_round,isNil,slOk,sliceV,selems,srcElems,copyTo,dlen,eqAV,eqCells,eqS,wr,place,partVals,partEs,placeEs,mapOf,keyOk,keyCells,findK,Bool.bne_false,Bool.bne_true,List.drop_zero,List.nil_append,List.append_nil,List.take_zero,List.cons_append,List.take_succ_cons,List.drop_succ_cons,List.take_nil,List.drop_nil,Reg.isA,Reg.isV,Reg.stays,Reg.onto,Bool.false_or,Bool.or_false,Bool.false_and,Bool.and_false,Bool.true_and,Bool.and_true,Bool.or_true,Bool.true_or,↓reduceIte,reduceCtorEq,Nat.reduceEqDiff,Nat.reduceLT,Nat.reduceAdd,Nat.reduceMul,Nat.add_zero,Nat.zero_add,Nat.not_lt_zero,Nat.zero_ne_one,Nat.one_ne_zero,Nat.reduceLeDiff,Nat.lt_irrefl,Nat.zero_lt_succ,Bool.false_eq_true,Bool.not_true,Bool.not_false,Option.map_some,Option.map_none,Option.bind_some,Option.getD_some,Option.getD_none,and_self,and_true,true_and,List.length_cons,List.length_nil,List.any_nil,List.any_cons,Int.toNat_natCast,Int.cast_ofNat_Int,Int.natCast_zero,Int.natCast_nonneg,true_implies,or_true,true_or,false_or,or_false,beq_self_eq_true,Option.some.injEq,exists_eq_left',Int.reduceEq,Int.reduceLT,Int.reduceLE,Int.reduceGT,Int.reduceGE,Nat.reduceGT,Int.reduceNeg,Int.reduceToNat,Int.reduceAdd,Int.reduceMul,Int.reduceSub,Int.reducePow,decide_true,decide_false,decide_eq_true_eq,List.getElem?_cons_zero,List.getElem?_cons_succ,Nat.reduceBEq,Nat.reduceSub,exists_false,and_false,false_and,xu,List.set_cons_zero,List.set_cons_succ,wrap_i64,int_lt_t,int_lt_f,int_le_t,int_le_f,int_gt_t,int_gt_f,int_ge_t,int_ge_f,int_eq_t,int_eq_f,int_beq_t,int_beq_f,int_bne_t,int_bne_f,nat_le_t,nat_le_f,Nat.sub_zero,Nat.sub_self,not_false_eq_true,not_true_eq_false]

theorem late_app0 {lo sz bytes : Nat} {es xs : List AV} {h : Hp} {v : AV} (hv : LateApp lo sz es h v) (hlo : lo ≤ h.length) (hb : (es.length + xs.length) * bytes ≤ 140737488355328) :
    ∃ v' h', appendV false sz bytes v xs h = some (v', h') ∧ LateApp lo sz (es ++ xs) h' v' ∧ Below lo h h' := by
  by_cases hx : xs = []
  · subst hx
    exact ⟨v, h, app_nil hv.1, by rw [List.append_nil]; exact hv, .refl _ _⟩
  · exact late_app hv hlo hx hb

def lenB (s : By) : Nat → By
  | 0 => []
  | k + 1 => lenB s k ++ [UInt8.ofNat (s.length * 8 / 256 ^ (7 - k) % 256)]
def padZ (s : By) : Nat := (119 - s.length % 64) % 64
def padR (s : By) : By := s ++ [128] ++ List.replicate (padZ s) 0 ++ lenB s 8

theorem lenB_len (s : By) : ∀ k, (lenB s k).length = k
  | 0 => rfl
  | k + 1 => by simp [lenB,lenB_len s k]
theorem padR_len (s : By) : (padR s).length % 64 = 0 ∧ (padR s).length = s.length + 9 + padZ s := by
  have : (padR s).length = s.length + 9 + padZ s := by simp [padR,lenB_len]; omega
  refine ⟨?_, this⟩
  rw [this]; unfold padZ; omega
theorem padZ_lt (s : By) : padZ s < 64 := Nat.mod_lt _ (by decide)

theorem u8_nat (x : Nat) (hx : x < 256) : (((UInt8.ofNat x).toNat : Nat) : Int) = (x : Int) := by
  have : (UInt8.ofNat x).toNat = x := by rw [UInt8.toNat_ofNat']; exact Nat.mod_eq_of_lt hx
  rw [this]

theorem c84 (s : By) (hs : s.length ≤ 1000000000) (hn : 80 < n) : ∃ h', call F n tot ω 84 [.str s] h = some (.str (padR s), h') ∧ Below h.length h h' := by
  obtain ⟨n, rfl⟩ : ∃ m, n = m + 1 := ⟨n - 1, by omega⟩
  suffices hx : ∃ v2 h', call F (n + 1) tot ω 84 [.str s] h = some (v2, h') ∧ v2 = .str (padR s) ∧ Below h.length h h' by
    obtain ⟨v2, h', e1, rfl, e2⟩ := hx
    exact ⟨h', e1, e2⟩
  refine call_of (fn := a84) f84 (P := fun v2 h' => v2 = .str (padR s) ∧ Below h.length h h') ?_
  unfold a84
  obtain ⟨v1, h1, w1, w2, w3⟩ := late_app0 (lo := h.length) (sz := 1) (bytes := 1) (xs := bytesOf s) (late_nils h.length 1 h) (Nat.le_refl _) (by simp [bytesOf]; omega)
  rw [List.nil_append] at w2
  obtain ⟨v2, h2, z1, z2, z3⟩ := late_app (bytes := 1) (xs := [.int .u8 128]) w2 w3.1 (by simp) (by simp [bytesOf]; omega)
  simp (maxSteps := 2000000) (discharger := omega) only [xc,xo,xr,x0,x1,x2,x3,x4,x5,x6,xd,xe,xb,kont_call,kont_pure,kont_round,isNil,slOk,sliceV,selems,srcElems,copyTo,dlen,eqAV,eqCells,eqS,wr,place,partVals,partEs,placeEs,mapOf,keyOk,keyCells,findK,Bool.bne_false,Bool.bne_true,List.drop_zero,List.nil_append,List.append_nil,List.take_zero,List.cons_append,List.take_succ_cons,List.drop_succ_cons,List.take_nil,List.drop_nil,Reg.isA,Reg.isV,Reg.stays,Reg.onto,Bool.false_or,Bool.or_false,Bool.false_and,Bool.and_false,Bool.true_and,Bool.and_true,Bool.or_true,Bool.true_or,↓reduceIte,reduceCtorEq,Nat.reduceEqDiff,Nat.reduceLT,Nat.reduceAdd,Nat.reduceMul,Nat.add_zero,Nat.zero_add,Nat.not_lt_zero,Nat.zero_ne_one,Nat.one_ne_zero,Nat.reduceLeDiff,Nat.lt_irrefl,Nat.zero_lt_succ,Bool.false_eq_true,Bool.not_true,Bool.not_false,Option.map_some,Option.map_none,Option.bind_some,Option.getD_some,Option.getD_none,and_self,and_true,true_and,List.length_cons,List.length_nil,List.any_nil,List.any_cons,Int.toNat_natCast,Int.cast_ofNat_Int,Int.natCast_zero,Int.natCast_nonneg,true_implies,or_true,true_or,false_or,or_false,beq_self_eq_true,Option.some.injEq,exists_eq_left',Int.reduceEq,Int.reduceLT,Int.reduceLE,Int.reduceGT,Int.reduceGE,Nat.reduceGT,Int.reduceNeg,Int.reduceToNat,Int.reduceAdd,Int.reduceMul,Int.reduceSub,Int.reducePow,decide_true,decide_false,decide_eq_true_eq,List.getElem?_cons_zero,List.getElem?_cons_succ,Nat.reduceBEq,Nat.reduceSub,exists_false,and_false,false_and,xu,List.set_cons_zero,List.set_cons_succ,wrap_i64,int_lt_t,int_lt_f,int_le_t,int_le_f,int_gt_t,int_gt_f,int_ge_t,int_ge_f,int_eq_t,int_eq_f,int_beq_t,int_beq_f,int_bne_t,int_bne_f,nat_le_t,nat_le_f,Nat.sub_zero,Nat.sub_self,not_false_eq_true,not_true_eq_false,w1,z1,w2.1.isRow,List.replicate]
  have hB2 := w3.trans z3
  have hZ := padZ_lt s
  have e128 : ∀ j, bytesOf (s ++ [128] ++ List.replicate j 0) ++ [.int .u8 0] = bytesOf (s ++ [128] ++ List.replicate (j + 1) 0) := fun j => by
    rw [List.replicate_succ', ← List.append_assoc]; simp [bytesOf]
  refine wpi_loop (fun y r g' => ∃ (j : Nat) (bv : AV), r = [(0, .val (.str s)), (3, .val bv)] ∧ y = padZ s - j ∧ j ≤ padZ s ∧ LateApp h.length 1 (bytesOf (s ++ [128] ++ List.replicate j 0)) g' bv ∧ Below h.length h g') (padZ s) (by omega)
    ⟨0, v2, rfl, rfl, Nat.zero_le _, by simpa [bytesOf] using z2, hB2⟩ ?_
  rintro y r g' ⟨j, bv, rfl, rfl, hj, hA, hB⟩
  have hlen := hA.1.len
  have hll : (bytesOf (s ++ [128] ++ List.replicate j 0)).length = s.length + 1 + j := by simp [bytesOf]; omega
  rw [hll] at hlen
  by_cases hlt : j < padZ s
  · obtain ⟨v3, h3, y1, y2, y3⟩ := late_app (bytes := 1) (xs := [.int .u8 0]) hA hB.1 (by simp) (by rw [hll]; simp; omega)
    have hne : ¬ ((s.length + 1 + j : Nat) : Int) % 64 = 56 := by unfold padZ at hlt; omega
    simp (maxSteps := 2000000) (discharger := omega) only [xc,xo,xr,x0,x1,x2,x3,x4,x5,x6,xd,xe,xb,kont_call,kont_pure,kont_round,isNil,slOk,sliceV,selems,srcElems,copyTo,dlen,eqAV,eqCells,eqS,wr,place,partVals,partEs,placeEs,mapOf,keyOk,keyCells,findK,Bool.bne_false,Bool.bne_true,List.drop_zero,List.nil_append,List.append_nil,List.take_zero,List.cons_append,List.take_succ_cons,List.drop_succ_cons,List.take_nil,List.drop_nil,Reg.isA,Reg.isV,Reg.stays,Reg.onto,Bool.false_or,Bool.or_false,Bool.false_and,Bool.and_false,Bool.true_and,Bool.and_true,Bool.or_true,Bool.true_or,↓reduceIte,reduceCtorEq,Nat.reduceEqDiff,Nat.reduceLT,Nat.reduceAdd,Nat.reduceMul,Nat.add_zero,Nat.zero_add,Nat.not_lt_zero,Nat.zero_ne_one,Nat.one_ne_zero,Nat.reduceLeDiff,Nat.lt_irrefl,Nat.zero_lt_succ,Bool.false_eq_true,Bool.not_true,Bool.not_false,Option.map_some,Option.map_none,Option.bind_some,Option.getD_some,Option.getD_none,and_self,and_true,true_and,List.length_cons,List.length_nil,List.any_nil,List.any_cons,Int.toNat_natCast,Int.cast_ofNat_Int,Int.natCast_zero,Int.natCast_nonneg,true_implies,or_true,true_or,false_or,or_false,beq_self_eq_true,Option.some.injEq,exists_eq_left',Int.reduceEq,Int.reduceLT,Int.reduceLE,Int.reduceGT,Int.reduceGE,Nat.reduceGT,Int.reduceNeg,Int.reduceToNat,Int.reduceAdd,Int.reduceMul,Int.reduceSub,Int.reducePow,decide_true,decide_false,decide_eq_true_eq,List.getElem?_cons_zero,List.getElem?_cons_succ,Nat.reduceBEq,Nat.reduceSub,exists_false,and_false,false_and,xu,List.set_cons_zero,List.set_cons_succ,wrap_i64,int_lt_t,int_lt_f,int_le_t,int_le_f,int_gt_t,int_gt_f,int_ge_t,int_ge_f,int_eq_t,int_eq_f,int_beq_t,int_beq_f,int_bne_t,int_bne_f,nat_le_t,nat_le_f,Nat.sub_zero,Nat.sub_self,not_false_eq_true,not_true_eq_false,hlen,tmod_pos,y1,hA.1.isRow,List.replicate]
    exact ⟨padZ s - (j + 1), by omega, j + 1, v3, rfl, rfl, by omega, by rw [← e128]; exact y2, hB.trans y3⟩
  · obtain rfl : j = padZ s := by omega
    have heq : ((s.length + 1 + padZ s : Nat) : Int) % 64 = 56 := by unfold padZ; omega
    have e8 : IntKind.u64.wrap ((s.length : Nat) : Int) = ((s.length : Nat) : Int) := wrap_u64 (by omega) (by omega)
    have e9 : IntKind.u64.wrap (((s.length : Nat) : Int) * 8) = ((s.length * 8 : Nat) : Int) := by rw [wrap_u64 (by omega) (by omega)]; omega
    simp (maxSteps := 2000000) (discharger := omega) only [xc,xo,xr,x0,x1,x2,x3,x4,x5,x6,xd,xe,xb,kont_call,kont_pure,kont_round,isNil,slOk,sliceV,selems,srcElems,copyTo,dlen,eqAV,eqCells,eqS,wr,place,partVals,partEs,placeEs,mapOf,keyOk,keyCells,findK,Bool.bne_false,Bool.bne_true,List.drop_zero,List.nil_append,List.append_nil,List.take_zero,List.cons_append,List.take_succ_cons,List.drop_succ_cons,List.take_nil,List.drop_nil,Reg.isA,Reg.isV,Reg.stays,Reg.onto,Bool.false_or,Bool.or_false,Bool.false_and,Bool.and_false,Bool.true_and,Bool.and_true,Bool.or_true,Bool.true_or,↓reduceIte,reduceCtorEq,Nat.reduceEqDiff,Nat.reduceLT,Nat.reduceAdd,Nat.reduceMul,Nat.add_zero,Nat.zero_add,Nat.not_lt_zero,Nat.zero_ne_one,Nat.one_ne_zero,Nat.reduceLeDiff,Nat.lt_irrefl,Nat.zero_lt_succ,Bool.false_eq_true,Bool.not_true,Bool.not_false,Option.map_some,Option.map_none,Option.bind_some,Option.getD_some,Option.getD_none,and_self,and_true,true_and,List.length_cons,List.length_nil,List.any_nil,List.any_cons,Int.toNat_natCast,Int.cast_ofNat_Int,Int.natCast_zero,Int.natCast_nonneg,true_implies,or_true,true_or,false_or,or_false,beq_self_eq_true,Option.some.injEq,exists_eq_left',Int.reduceEq,Int.reduceLT,Int.reduceLE,Int.reduceGT,Int.reduceGE,Nat.reduceGT,Int.reduceNeg,Int.reduceToNat,Int.reduceAdd,Int.reduceMul,Int.reduceSub,Int.reducePow,decide_true,decide_false,decide_eq_true_eq,List.getElem?_cons_zero,List.getElem?_cons_succ,Nat.reduceBEq,Nat.reduceSub,exists_false,and_false,false_and,xu,List.set_cons_zero,List.set_cons_succ,wrap_i64,int_lt_t,int_lt_f,int_le_t,int_le_f,int_gt_t,int_gt_f,int_ge_t,int_ge_f,int_eq_t,int_eq_f,int_beq_t,int_beq_f,int_bne_t,int_bne_f,nat_le_t,nat_le_f,Nat.sub_zero,Nat.sub_self,not_false_eq_true,not_true_eq_false,hlen,tmod_pos,e8,e9]
    refine wpi_loop (fun y r g => ∃ (k : Nat) (bv : AV), r = [(3, .val bv), (4, .val (.int .u64 (s.length * 8 : Nat))), (5, .val (.int .i64 (7 - (k : Int))))] ∧ y = 8 - k ∧ k ≤ 8 ∧ LateApp h.length 1 (bytesOf (s ++ [128] ++ List.replicate (padZ s) 0 ++ lenB s k)) g bv ∧ Below h.length h g) 8 (by omega)
      ⟨0, bv, rfl, rfl, by omega, by simpa [lenB] using hA, hB⟩ ?_
    rintro y r g ⟨k, bv', rfl, rfl, hk, hA', hB'⟩
    by_cases hk8 : k < 8
    · simp (maxSteps := 2000000) (discharger := omega) only [xc,xo,xr,x0,x1,x2,x3,x4,x5,x6,xd,xe,xb,kont_call,kont_pure,kont_round,isNil,slOk,sliceV,selems,srcElems,copyTo,dlen,eqAV,eqCells,eqS,wr,place,partVals,partEs,placeEs,mapOf,keyOk,keyCells,findK,Bool.bne_false,Bool.bne_true,List.drop_zero,List.nil_append,List.append_nil,List.take_zero,List.cons_append,List.take_succ_cons,List.drop_succ_cons,List.take_nil,List.drop_nil,Reg.isA,Reg.isV,Reg.stays,Reg.onto,Bool.false_or,Bool.or_false,Bool.false_and,Bool.and_false,Bool.true_and,Bool.and_true,Bool.or_true,Bool.true_or,↓reduceIte,reduceCtorEq,Nat.reduceEqDiff,Nat.reduceLT,Nat.reduceAdd,Nat.reduceMul,Nat.add_zero,Nat.zero_add,Nat.not_lt_zero,Nat.zero_ne_one,Nat.one_ne_zero,Nat.reduceLeDiff,Nat.lt_irrefl,Nat.zero_lt_succ,Bool.false_eq_true,Bool.not_true,Bool.not_false,Option.map_some,Option.map_none,Option.bind_some,Option.getD_some,Option.getD_none,and_self,and_true,true_and,List.length_cons,List.length_nil,List.any_nil,List.any_cons,Int.toNat_natCast,Int.cast_ofNat_Int,Int.natCast_zero,Int.natCast_nonneg,true_implies,or_true,true_or,false_or,or_false,beq_self_eq_true,Option.some.injEq,exists_eq_left',Int.reduceEq,Int.reduceLT,Int.reduceLE,Int.reduceGT,Int.reduceGE,Nat.reduceGT,Int.reduceNeg,Int.reduceToNat,Int.reduceAdd,Int.reduceMul,Int.reduceSub,Int.reducePow,decide_true,decide_false,decide_eq_true_eq,List.getElem?_cons_zero,List.getElem?_cons_succ,Nat.reduceBEq,Nat.reduceSub,exists_false,and_false,false_and,xu,List.set_cons_zero,List.set_cons_succ,wrap_i64,int_lt_t,int_lt_f,int_le_t,int_le_f,int_gt_t,int_gt_f,int_ge_t,int_ge_f,int_eq_t,int_eq_f,int_beq_t,int_beq_f,int_bne_t,int_bne_f,nat_le_t,nat_le_f,Nat.sub_zero,Nat.sub_self,not_false_eq_true,not_true_eq_false]
      refine wpi_loop (fun y r g2 => ∃ (q : Nat), r = [(3, .val bv'), (4, .val (.int .u64 (s.length * 8 : Nat))), (5, .val (.int .i64 (7 - (k : Int)))), (6, .val (.int .u64 (s.length * 8 / 256 ^ q : Nat))), (7, .val (.int .i64 q))] ∧ y = 7 - k - q ∧ q ≤ 7 - k ∧ g2 = g) (7 - k) (by omega)
        ⟨0, by simp, rfl, Nat.zero_le _, rfl⟩ ?_
      rintro y r g2 ⟨q, rfl, rfl, hq, rfl⟩
      have hle : s.length * 8 / 256 ^ q ≤ s.length * 8 := Nat.div_le_self _ _
      by_cases hqk : q < 7 - k
      · have e1 : s.length * 8 / 256 ^ (q + 1) = s.length * 8 / 256 ^ q / 256 := by rw [Nat.pow_succ, Nat.div_div_eq_div_mul]
        generalize s.length * 8 / 256 ^ q = x at *
        simp (maxSteps := 2000000) (discharger := omega) only [xc,xo,xr,x0,x1,x2,x3,x4,x5,x6,xd,xe,xb,kont_call,kont_pure,kont_round,isNil,slOk,sliceV,selems,srcElems,copyTo,dlen,eqAV,eqCells,eqS,wr,place,partVals,partEs,placeEs,mapOf,keyOk,keyCells,findK,Bool.bne_false,Bool.bne_true,List.drop_zero,List.nil_append,List.append_nil,List.take_zero,List.cons_append,List.take_succ_cons,List.drop_succ_cons,List.take_nil,List.drop_nil,Reg.isA,Reg.isV,Reg.stays,Reg.onto,Bool.false_or,Bool.or_false,Bool.false_and,Bool.and_false,Bool.true_and,Bool.and_true,Bool.or_true,Bool.true_or,↓reduceIte,reduceCtorEq,Nat.reduceEqDiff,Nat.reduceLT,Nat.reduceAdd,Nat.reduceMul,Nat.add_zero,Nat.zero_add,Nat.not_lt_zero,Nat.zero_ne_one,Nat.one_ne_zero,Nat.reduceLeDiff,Nat.lt_irrefl,Nat.zero_lt_succ,Bool.false_eq_true,Bool.not_true,Bool.not_false,Option.map_some,Option.map_none,Option.bind_some,Option.getD_some,Option.getD_none,and_self,and_true,true_and,List.length_cons,List.length_nil,List.any_nil,List.any_cons,Int.toNat_natCast,Int.cast_ofNat_Int,Int.natCast_zero,Int.natCast_nonneg,true_implies,or_true,true_or,false_or,or_false,beq_self_eq_true,Option.some.injEq,exists_eq_left',Int.reduceEq,Int.reduceLT,Int.reduceLE,Int.reduceGT,Int.reduceGE,Nat.reduceGT,Int.reduceNeg,Int.reduceToNat,Int.reduceAdd,Int.reduceMul,Int.reduceSub,Int.reducePow,decide_true,decide_false,decide_eq_true_eq,List.getElem?_cons_zero,List.getElem?_cons_succ,Nat.reduceBEq,Nat.reduceSub,exists_false,and_false,false_and,xu,List.set_cons_zero,List.set_cons_succ,wrap_i64,int_lt_t,int_lt_f,int_le_t,int_le_f,int_gt_t,int_gt_f,int_ge_t,int_ge_f,int_eq_t,int_eq_f,int_beq_t,int_beq_f,int_bne_t,int_bne_f,nat_le_t,nat_le_f,Nat.sub_zero,Nat.sub_self,not_false_eq_true,not_true_eq_false,tdiv_pos,wrap_u64]
        exact ⟨7 - k - (q + 1), by omega, q + 1, by rw [e1, show ((q : Nat) : Int) + 1 = ((q + 1 : Nat) : Int) by omega, show ((x : Nat) : Int) / 256 = ((x / 256 : Nat) : Int) by omega], rfl, by omega⟩
      · obtain rfl : q = 7 - k := by omega
        have e1 : lenB s (k + 1) = lenB s k ++ [UInt8.ofNat (s.length * 8 / 256 ^ (7 - k) % 256)] := rfl
        have e2 := u8_nat (s.length * 8 / 256 ^ (7 - k) % 256) (Nat.mod_lt _ (by decide))
        have hlk := lenB_len s k
        generalize s.length * 8 / 256 ^ (7 - k) = x at *
        have e3 : ((x : Nat) : Int) % 256 = (((UInt8.ofNat (x % 256)).toNat : Nat) : Int) := by rw [e2]; omega
        have e4 : (((UInt8.ofNat (x % 256)).toNat : Nat) : Int) ≤ 255 := by rw [e2]; omega
        obtain ⟨v3, h3, y1, y2, y3⟩ := late_app (bytes := 1) (xs := [.int .u8 ((UInt8.ofNat (x % 256)).toNat : Nat)]) hA' hB'.1 (by simp) (by simp [bytesOf,hlk]; omega)
        simp (maxSteps := 2000000) (discharger := omega) only [xc,xo,xr,x0,x1,x2,x3,x4,x5,x6,xd,xe,xb,kont_call,kont_pure,kont_round,isNil,slOk,sliceV,selems,srcElems,copyTo,dlen,eqAV,eqCells,eqS,wr,place,partVals,partEs,placeEs,mapOf,keyOk,keyCells,findK,Bool.bne_false,Bool.bne_true,List.drop_zero,List.nil_append,List.append_nil,List.take_zero,List.cons_append,List.take_succ_cons,List.drop_succ_cons,List.take_nil,List.drop_nil,Reg.isA,Reg.isV,Reg.stays,Reg.onto,Bool.false_or,Bool.or_false,Bool.false_and,Bool.and_false,Bool.true_and,Bool.and_true,Bool.or_true,Bool.true_or,↓reduceIte,reduceCtorEq,Nat.reduceEqDiff,Nat.reduceLT,Nat.reduceAdd,Nat.reduceMul,Nat.add_zero,Nat.zero_add,Nat.not_lt_zero,Nat.zero_ne_one,Nat.one_ne_zero,Nat.reduceLeDiff,Nat.lt_irrefl,Nat.zero_lt_succ,Bool.false_eq_true,Bool.not_true,Bool.not_false,Option.map_some,Option.map_none,Option.bind_some,Option.getD_some,Option.getD_none,and_self,and_true,true_and,List.length_cons,List.length_nil,List.any_nil,List.any_cons,Int.toNat_natCast,Int.cast_ofNat_Int,Int.natCast_zero,Int.natCast_nonneg,true_implies,or_true,true_or,false_or,or_false,beq_self_eq_true,Option.some.injEq,exists_eq_left',Int.reduceEq,Int.reduceLT,Int.reduceLE,Int.reduceGT,Int.reduceGE,Nat.reduceGT,Int.reduceNeg,Int.reduceToNat,Int.reduceAdd,Int.reduceMul,Int.reduceSub,Int.reducePow,decide_true,decide_false,decide_eq_true_eq,List.getElem?_cons_zero,List.getElem?_cons_succ,Nat.reduceBEq,Nat.reduceSub,exists_false,and_false,false_and,xu,List.set_cons_zero,List.set_cons_succ,wrap_i64,int_lt_t,int_lt_f,int_le_t,int_le_f,int_gt_t,int_gt_f,int_ge_t,int_ge_f,int_eq_t,int_eq_f,int_beq_t,int_beq_f,int_bne_t,int_bne_f,nat_le_t,nat_le_f,Nat.sub_zero,Nat.sub_self,not_false_eq_true,not_true_eq_false,tmod_pos,e3,wrap_u8,y1,hA'.1.isRow,List.replicate]
        refine ⟨8 - (k + 1), by omega, k + 1, v3, by rw [show 7 - ((k : Nat) : Int) - 1 = 7 - ((k + 1 : Nat) : Int) by omega], rfl, by omega, ?_, hB'.trans y3⟩
        rw [e1, ← List.append_assoc]
        simpa [bytesOf] using y2
    · obtain rfl : k = 8 := by omega
      obtain ⟨cc, hcc⟩ := hA'.1.imm (by simp [bytesOf])
      subst hcc
      simp (maxSteps := 2000000) (discharger := omega) only [xc,xo,xr,x0,x1,x2,x3,x4,x5,x6,xd,xe,xb,kont_call,kont_pure,kont_round,isNil,slOk,sliceV,selems,srcElems,copyTo,dlen,eqAV,eqCells,eqS,wr,place,partVals,partEs,placeEs,mapOf,keyOk,keyCells,findK,Bool.bne_false,Bool.bne_true,List.drop_zero,List.nil_append,List.append_nil,List.take_zero,List.cons_append,List.take_succ_cons,List.drop_succ_cons,List.take_nil,List.drop_nil,Reg.isA,Reg.isV,Reg.stays,Reg.onto,Bool.false_or,Bool.or_false,Bool.false_and,Bool.and_false,Bool.true_and,Bool.and_true,Bool.or_true,Bool.true_or,↓reduceIte,reduceCtorEq,Nat.reduceEqDiff,Nat.reduceLT,Nat.reduceAdd,Nat.reduceMul,Nat.add_zero,Nat.zero_add,Nat.not_lt_zero,Nat.zero_ne_one,Nat.one_ne_zero,Nat.reduceLeDiff,Nat.lt_irrefl,Nat.zero_lt_succ,Bool.false_eq_true,Bool.not_true,Bool.not_false,Option.map_some,Option.map_none,Option.bind_some,Option.getD_some,Option.getD_none,and_self,and_true,true_and,List.length_cons,List.length_nil,List.any_nil,List.any_cons,Int.toNat_natCast,Int.cast_ofNat_Int,Int.natCast_zero,Int.natCast_nonneg,true_implies,or_true,true_or,false_or,or_false,beq_self_eq_true,Option.some.injEq,exists_eq_left',Int.reduceEq,Int.reduceLT,Int.reduceLE,Int.reduceGT,Int.reduceGE,Nat.reduceGT,Int.reduceNeg,Int.reduceToNat,Int.reduceAdd,Int.reduceMul,Int.reduceSub,Int.reducePow,decide_true,decide_false,decide_eq_true_eq,List.getElem?_cons_zero,List.getElem?_cons_succ,Nat.reduceBEq,Nat.reduceSub,exists_false,and_false,false_and,xu,List.set_cons_zero,List.set_cons_succ,wrap_i64,int_lt_t,int_lt_f,int_le_t,int_le_f,int_gt_t,int_gt_f,int_ge_t,int_ge_f,int_eq_t,int_eq_f,int_beq_t,int_beq_f,int_bne_t,int_bne_f,nat_le_t,nat_le_f,Nat.sub_zero,Nat.sub_self,not_false_eq_true,not_true_eq_false]
      exact ⟨rfl, hB'⟩
end
end Go.Proofs.YtpgmohjmpaifbaaDoor.Im

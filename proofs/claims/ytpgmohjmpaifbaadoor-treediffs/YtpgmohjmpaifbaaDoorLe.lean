/- S21Le: parts and leaves: held against one another, found, listed. -/
import Derived.Test.YtpgmohjmpaifbaaDoorRv
set_option linter.unusedVariables false
set_option linter.unusedSimpArgs false
open Go Go.Im
namespace Go.Proofs.YtpgmohjmpaifbaaDoor.Im

theorem w_regionA2 {K : Kont} {n : Nat} {r : Regs} {h : Hp} {Q : AE → Regs → Hp → Prop} (o1 o2 : List Nat) (ops : List AOper) (ks : List Nat) :
    Wp K n (.regionA [o1, o2] ops ks) r h Q = Wo K (inOrd ops o1) r h (fun r' h' => Wo K (inOrd ops o2) r h (Is r' h') ∧ Settle ks Q r' h') := by
  apply propext
  constructor
  · rintro ⟨e, r', h', h1, h2⟩
    simp only [exec,execA] at h1
    split at h1
    · rename_i r2 h3 e1
      split at e1
      · rename_i a1 b1 a2 b2 e2 e3
        split at e1
        · rename_i e4
          simp only [Bool.and_eq_true] at e4
          obtain ⟨e5, e6⟩ := e4
          obtain rfl := (eqRegs_iff _ _).1 e5
          obtain rfl := (eqHp_iff _ _).1 e6
          cases e1
          cases h1
          exact ⟨_, _, e2, ⟨_, _, e3, rfl, rfl⟩, h2⟩
        · cases e1
      · cases e1
    · cases h1
  · rintro ⟨r', h', h1, h2, h3⟩
    exact wpi_regionA2 h1 (execs_is h2) h3

structure Pt where
  k : List Int
  n : Int
  deriving DecidableEq
def Pt.cs (x : Pt) : List AV := intsOf .u8 x.k ++ [.int .i64 x.n]
def Pt.av (x : Pt) : AV := .agg x.cs
def Pt.ok (x : Pt) : Prop := x.k.length = 32
structure Lf where
  p : By
  ps : List Pt
  v : AV
def Lf.av (x : Lf) : AV := .agg [.str x.p, x.v]
structure Lf.ok (x : Lf) : Prop where
  rd : IsRd 33 (x.ps.map Pt.av) x.v
  all : ∀ q ∈ x.ps, q.ok

theorem rd_sub {sz : Nat} {es : List AV} {v : AV} (h : IsRd sz es v) (n : Nat) : sub v 0 n false = some v := by
  rcases h with ⟨e, _⟩ | ⟨c, e⟩ <;> rw [e] <;> rfl
theorem rd_nt {sz : Nat} {es : List AV} {v : AV} (h : IsRd sz es v) : v.notTup = true := by
  rcases h with ⟨e, _⟩ | ⟨c, e⟩ <;> rw [e] <;> rfl
theorem rd_cells {sz : Nat} {es : List AV} {v : AV} (h : IsRd sz es v) : v.cells = [v] := by
  rcases h with ⟨e, _⟩ | ⟨c, e⟩ <;> rw [e] <;> rfl
theorem rd_one {sz : Nat} {es : List AV} {v : AV} (h : IsRd sz es v) : v.one = true := by
  rcases h with ⟨e, _⟩ | ⟨c, e⟩ <;> rw [e] <;> rfl
theorem rd_el {sz : Nat} {es : List AV} {v : AV} (h : IsRd sz es v) (g : Hp) : elems g sz v = some es := by
  rcases h with ⟨e, e2⟩ | ⟨c, e⟩
  · rw [e, e2]; rfl
  · rw [e]; simp [elems]

theorem pt_len {x : Pt} (h : x.ok) : x.cs.length = 33 := by simp [Pt.cs,io_len',h]; exact h
theorem pt_take {x : Pt} (h : x.ok) : List.take 33 x.cs = x.cs := List.take_of_length_le (by rw [pt_len h]; exact Nat.le_refl _)
theorem eqCells_ints : ∀ (a b : List Int) (m n : Int), a.length = b.length → eqCells (List.replicate (a.length + 1) .i) (intsOf .u8 a ++ [.int .i64 m]) (intsOf .u8 b ++ [.int .i64 n]) = some (decide (a = b ∧ m = n))
  | [], [], m, n, _ => by
    by_cases e : m = n <;> simp [intsOf,eqCells,eqS,List.replicate,e]
  | x :: a, y :: b, m, n, h => by
    have ih := eqCells_ints a b m n (by simpa using h)
    simp only [List.length_cons,List.replicate_succ (n := a.length + 1),intsOf,List.map_cons,List.cons_append,eqCells,eqS,if_true] at ih ⊢
    rw [ih]
    by_cases e : x = y <;> simp [e]
  | [], _ :: _, _, _, h => by simp at h
  | _ :: _, [], _, _, h => by simp at h
theorem pt_eq {x y : Pt} {ks : List CK} (hk : ks = List.replicate 33 .i) (hx : x.ok) (hy : y.ok) : eqCells ks x.cs y.cs = some (decide (x = y)) := by
  have := eqCells_ints x.k y.k x.n y.n (by rw [hx, hy])
  rw [hx] at this
  subst hk
  unfold Pt.cs
  rw [this]
  obtain ⟨a, m⟩ := x
  obtain ⟨b, n⟩ := y
  simp

theorem pt_get {ps : List Pt} {i : Nat} (hi : i < ps.length) : (ps.map Pt.av)[i]? = some (.agg ps[i].cs) := by simp [hi,Pt.av]
theorem lf_get {ls : List Lf} {i : Nat} (hi : i < ls.length) : (ls.map Lf.av)[i]? = some (.agg [.str ls[i].p, ls[i].v]) := by simp [hi,Lf.av]
theorem take_eq_next {α : Type} {l m : List α} {i : Nat} (hl : i < l.length) (hm : i < m.length) (h : l.take i = m.take i) (e : l[i] = m[i]) : l.take (i + 1) = m.take (i + 1) := by
  rw [List.take_succ_eq_append_getElem hl, List.take_succ_eq_append_getElem hm, h, e]
theorem lfs_el {ls : List Lf} {a : AV} {i : Nat} (ha : IsRd 2 (ls.map Lf.av) a) (hi : i < ls.length) : ∃ c, a = .imm 2 (ls.map Lf.av) c := ha.imm (i := i) (by simpa using hi)

section
variable {n : Nat} {tot : Bool} {ω : Nat → Nat} {h : Hp}

theorem c24 (ps qs : List Pt) (v w : AV) (hv : IsRd 33 (ps.map Pt.av) v) (hw : IsRd 33 (qs.map Pt.av) w) (hp : ∀ x ∈ ps, x.ok) (hq : ∀ x ∈ qs, x.ok) (hl : ps.length ≤ 9223372036854775807) (hl2 : qs.length ≤ 9223372036854775807) (hn : ps.length + 10 < n) :
    call F n tot ω 24 [v, w] h = some (.bool (decide (ps = qs)), h) := by
  obtain ⟨n, rfl⟩ : ∃ m, n = m + 1 := ⟨n - 1, by omega⟩
  refine call_eq (fn := a24) f24 ?_
  unfold a24
  have l1 := hv.len
  have l2 := hw.len
  rw [List.length_map] at l1 l2
  by_cases hle : ps.length = qs.length
  · simp (maxSteps := 2000000) (discharger := omega) only [xc,xo,xr,x0,x1,x2,x3,x4,x5,x6,xd,xe,xb,kont_call,kont_pure,kont_round,isNil,slOk,sliceV,selems,srcElems,copyTo,dlen,eqAV,eqCells,eqS,wr,place,partVals,partEs,placeEs,mapOf,keyOk,keyCells,findK,Bool.bne_false,Bool.bne_true,List.drop_zero,List.nil_append,List.append_nil,List.take_zero,List.cons_append,List.take_succ_cons,List.drop_succ_cons,List.take_nil,List.drop_nil,Reg.isA,Reg.isV,Reg.stays,Reg.onto,Bool.false_or,Bool.or_false,Bool.false_and,Bool.and_false,Bool.true_and,Bool.and_true,Bool.or_true,Bool.true_or,↓reduceIte,reduceCtorEq,Nat.reduceEqDiff,Nat.reduceLT,Nat.reduceAdd,Nat.reduceMul,Nat.add_zero,Nat.zero_add,Nat.not_lt_zero,Nat.zero_ne_one,Nat.one_ne_zero,Nat.reduceLeDiff,Nat.lt_irrefl,Nat.zero_lt_succ,Bool.false_eq_true,Bool.not_true,Bool.not_false,Option.map_some,Option.map_none,Option.bind_some,Option.getD_some,Option.getD_none,and_self,and_true,true_and,List.length_cons,List.length_nil,List.any_nil,List.any_cons,Int.toNat_natCast,Int.cast_ofNat_Int,Int.natCast_zero,Int.natCast_nonneg,true_implies,or_true,true_or,false_or,or_false,beq_self_eq_true,Option.some.injEq,exists_eq_left',Int.reduceEq,Int.reduceLT,Int.reduceLE,Int.reduceGT,Int.reduceGE,Nat.reduceGT,Int.reduceNeg,Int.reduceToNat,Int.reduceAdd,Int.reduceMul,Int.reduceSub,Int.reducePow,decide_true,decide_false,decide_eq_true_eq,List.getElem?_cons_zero,List.getElem?_cons_succ,Nat.reduceBEq,Nat.reduceSub,exists_false,and_false,false_and,xu,List.set_cons_zero,List.set_cons_succ,wrap_i64,int_lt_t,int_lt_f,int_le_t,int_le_f,int_gt_t,int_gt_f,int_ge_t,int_ge_f,int_eq_t,int_eq_f,int_beq_t,int_beq_f,int_bne_t,int_bne_f,nat_le_t,nat_le_f,Nat.sub_zero,Nat.sub_self,not_false_eq_true,not_true_eq_false,l1,l2]
    refine wpi_loop (fun x r g => ∃ (i : Nat), r = [(0, .val v), (1, .val w), (5, .val (.int .i64 i))] ∧ x = ps.length - i ∧ i ≤ ps.length ∧ g = h ∧ ps.take i = qs.take i) ps.length (by omega)
      ⟨0, rfl, rfl, Nat.zero_le _, rfl, rfl⟩ ?_
    rintro x r g ⟨i, rfl, rfl, hi, rfl, ht⟩
    by_cases hlt : i < ps.length
    · obtain ⟨cv, rfl⟩ := hv.imm (i := i) (by simpa using hlt)
      obtain ⟨cw, rfl⟩ := hw.imm (i := i) (by simpa [← hle] using hlt)
      have hlt2 : i < qs.length := by omega
      have q1 := pt_get hlt
      have q2 := pt_get hlt2
      have o1 := hp _ (List.getElem_mem hlt)
      have o2 := hq _ (List.getElem_mem hlt2)
      have s1 := pt_len o1
      have s2 := pt_len o2
      have s3 := pt_take o1
      have s4 := pt_take o2
      have e3 := pt_eq (ks := [CK.i, CK.i, CK.i, CK.i, CK.i, CK.i, CK.i, CK.i, CK.i, CK.i, CK.i, CK.i, CK.i, CK.i, CK.i, CK.i, CK.i, CK.i, CK.i, CK.i, CK.i, CK.i, CK.i, CK.i, CK.i, CK.i, CK.i, CK.i, CK.i, CK.i, CK.i, CK.i, CK.i]) rfl o1 o2
      by_cases he : ps[i] = qs[i]
      · have e4 : eqCells [CK.i, CK.i, CK.i, CK.i, CK.i, CK.i, CK.i, CK.i, CK.i, CK.i, CK.i, CK.i, CK.i, CK.i, CK.i, CK.i, CK.i, CK.i, CK.i, CK.i, CK.i, CK.i, CK.i, CK.i, CK.i, CK.i, CK.i, CK.i, CK.i, CK.i, CK.i, CK.i, CK.i] ps[i].cs qs[i].cs = some true := by rw [e3]; simp [he]
        simp (maxSteps := 2000000) (discharger := omega) only [xc,xo,xr,x0,x1,x2,x3,x4,x5,x6,xd,xe,xb,kont_call,kont_pure,kont_round,isNil,slOk,sliceV,selems,srcElems,copyTo,dlen,eqAV,eqCells,eqS,wr,place,partVals,partEs,placeEs,mapOf,keyOk,keyCells,findK,Bool.bne_false,Bool.bne_true,List.drop_zero,List.nil_append,List.append_nil,List.take_zero,List.cons_append,List.take_succ_cons,List.drop_succ_cons,List.take_nil,List.drop_nil,Reg.isA,Reg.isV,Reg.stays,Reg.onto,Bool.false_or,Bool.or_false,Bool.false_and,Bool.and_false,Bool.true_and,Bool.and_true,Bool.or_true,Bool.true_or,↓reduceIte,reduceCtorEq,Nat.reduceEqDiff,Nat.reduceLT,Nat.reduceAdd,Nat.reduceMul,Nat.add_zero,Nat.zero_add,Nat.not_lt_zero,Nat.zero_ne_one,Nat.one_ne_zero,Nat.reduceLeDiff,Nat.lt_irrefl,Nat.zero_lt_succ,Bool.false_eq_true,Bool.not_true,Bool.not_false,Option.map_some,Option.map_none,Option.bind_some,Option.getD_some,Option.getD_none,and_self,and_true,true_and,List.length_cons,List.length_nil,List.any_nil,List.any_cons,Int.toNat_natCast,Int.cast_ofNat_Int,Int.natCast_zero,Int.natCast_nonneg,true_implies,or_true,true_or,false_or,or_false,beq_self_eq_true,Option.some.injEq,exists_eq_left',Int.reduceEq,Int.reduceLT,Int.reduceLE,Int.reduceGT,Int.reduceGE,Nat.reduceGT,Int.reduceNeg,Int.reduceToNat,Int.reduceAdd,Int.reduceMul,Int.reduceSub,Int.reducePow,decide_true,decide_false,decide_eq_true_eq,List.getElem?_cons_zero,List.getElem?_cons_succ,Nat.reduceBEq,Nat.reduceSub,exists_false,and_false,false_and,xu,List.set_cons_zero,List.set_cons_succ,wrap_i64,int_lt_t,int_lt_f,int_le_t,int_le_f,int_gt_t,int_gt_f,int_ge_t,int_ge_f,int_eq_t,int_eq_f,int_beq_t,int_beq_f,int_bne_t,int_bne_f,nat_le_t,nat_le_f,Nat.sub_zero,Nat.sub_self,not_false_eq_true,not_true_eq_false,l1,q1,q2,s1,s2,s3,s4,e4,List.length_map]
        exact ⟨ps.length - (i + 1), by omega, i + 1, by rw [show ((i : Nat) : Int) + 1 = ((i + 1 : Nat) : Int) by omega], rfl, by omega, take_eq_next hlt hlt2 ht he⟩
      · have hne : ¬ ps = qs := fun e => he (by subst e; rfl)
        have e4 : eqCells [CK.i, CK.i, CK.i, CK.i, CK.i, CK.i, CK.i, CK.i, CK.i, CK.i, CK.i, CK.i, CK.i, CK.i, CK.i, CK.i, CK.i, CK.i, CK.i, CK.i, CK.i, CK.i, CK.i, CK.i, CK.i, CK.i, CK.i, CK.i, CK.i, CK.i, CK.i, CK.i, CK.i] ps[i].cs qs[i].cs = some false := by rw [e3]; simp [he]
        simp (maxSteps := 2000000) (discharger := omega) only [xc,xo,xr,x0,x1,x2,x3,x4,x5,x6,xd,xe,xb,kont_call,kont_pure,kont_round,isNil,slOk,sliceV,selems,srcElems,copyTo,dlen,eqAV,eqCells,eqS,wr,place,partVals,partEs,placeEs,mapOf,keyOk,keyCells,findK,Bool.bne_false,Bool.bne_true,List.drop_zero,List.nil_append,List.append_nil,List.take_zero,List.cons_append,List.take_succ_cons,List.drop_succ_cons,List.take_nil,List.drop_nil,Reg.isA,Reg.isV,Reg.stays,Reg.onto,Bool.false_or,Bool.or_false,Bool.false_and,Bool.and_false,Bool.true_and,Bool.and_true,Bool.or_true,Bool.true_or,↓reduceIte,reduceCtorEq,Nat.reduceEqDiff,Nat.reduceLT,Nat.reduceAdd,Nat.reduceMul,Nat.add_zero,Nat.zero_add,Nat.not_lt_zero,Nat.zero_ne_one,Nat.one_ne_zero,Nat.reduceLeDiff,Nat.lt_irrefl,Nat.zero_lt_succ,Bool.false_eq_true,Bool.not_true,Bool.not_false,Option.map_some,Option.map_none,Option.bind_some,Option.getD_some,Option.getD_none,and_self,and_true,true_and,List.length_cons,List.length_nil,List.any_nil,List.any_cons,Int.toNat_natCast,Int.cast_ofNat_Int,Int.natCast_zero,Int.natCast_nonneg,true_implies,or_true,true_or,false_or,or_false,beq_self_eq_true,Option.some.injEq,exists_eq_left',Int.reduceEq,Int.reduceLT,Int.reduceLE,Int.reduceGT,Int.reduceGE,Nat.reduceGT,Int.reduceNeg,Int.reduceToNat,Int.reduceAdd,Int.reduceMul,Int.reduceSub,Int.reducePow,decide_true,decide_false,decide_eq_true_eq,List.getElem?_cons_zero,List.getElem?_cons_succ,Nat.reduceBEq,Nat.reduceSub,exists_false,and_false,false_and,xu,List.set_cons_zero,List.set_cons_succ,wrap_i64,int_lt_t,int_lt_f,int_le_t,int_le_f,int_gt_t,int_gt_f,int_ge_t,int_ge_f,int_eq_t,int_eq_f,int_beq_t,int_beq_f,int_bne_t,int_bne_f,nat_le_t,nat_le_f,Nat.sub_zero,Nat.sub_self,not_false_eq_true,not_true_eq_false,l1,q1,q2,s1,s2,s3,s4,e4,hne,List.length_map]
    · obtain rfl : i = ps.length := by omega
      have he : ps = qs := by rw [List.take_length, hle, List.take_length] at ht; exact ht
      simp (maxSteps := 2000000) (discharger := omega) only [xc,xo,xr,x0,x1,x2,x3,x4,x5,x6,xd,xe,xb,kont_call,kont_pure,kont_round,isNil,slOk,sliceV,selems,srcElems,copyTo,dlen,eqAV,eqCells,eqS,wr,place,partVals,partEs,placeEs,mapOf,keyOk,keyCells,findK,Bool.bne_false,Bool.bne_true,List.drop_zero,List.nil_append,List.append_nil,List.take_zero,List.cons_append,List.take_succ_cons,List.drop_succ_cons,List.take_nil,List.drop_nil,Reg.isA,Reg.isV,Reg.stays,Reg.onto,Bool.false_or,Bool.or_false,Bool.false_and,Bool.and_false,Bool.true_and,Bool.and_true,Bool.or_true,Bool.true_or,↓reduceIte,reduceCtorEq,Nat.reduceEqDiff,Nat.reduceLT,Nat.reduceAdd,Nat.reduceMul,Nat.add_zero,Nat.zero_add,Nat.not_lt_zero,Nat.zero_ne_one,Nat.one_ne_zero,Nat.reduceLeDiff,Nat.lt_irrefl,Nat.zero_lt_succ,Bool.false_eq_true,Bool.not_true,Bool.not_false,Option.map_some,Option.map_none,Option.bind_some,Option.getD_some,Option.getD_none,and_self,and_true,true_and,List.length_cons,List.length_nil,List.any_nil,List.any_cons,Int.toNat_natCast,Int.cast_ofNat_Int,Int.natCast_zero,Int.natCast_nonneg,true_implies,or_true,true_or,false_or,or_false,beq_self_eq_true,Option.some.injEq,exists_eq_left',Int.reduceEq,Int.reduceLT,Int.reduceLE,Int.reduceGT,Int.reduceGE,Nat.reduceGT,Int.reduceNeg,Int.reduceToNat,Int.reduceAdd,Int.reduceMul,Int.reduceSub,Int.reducePow,decide_true,decide_false,decide_eq_true_eq,List.getElem?_cons_zero,List.getElem?_cons_succ,Nat.reduceBEq,Nat.reduceSub,exists_false,and_false,false_and,xu,List.set_cons_zero,List.set_cons_succ,wrap_i64,int_lt_t,int_lt_f,int_le_t,int_le_f,int_gt_t,int_gt_f,int_ge_t,int_ge_f,int_eq_t,int_eq_f,int_beq_t,int_beq_f,int_bne_t,int_bne_f,nat_le_t,nat_le_f,Nat.sub_zero,Nat.sub_self,not_false_eq_true,not_true_eq_false,l1]
      simp [he]
  · have hne : ¬ ps = qs := fun e => hle (by rw [e])
    simp (maxSteps := 2000000) (discharger := omega) only [xc,xo,xr,x0,x1,x2,x3,x4,x5,x6,xd,xe,xb,kont_call,kont_pure,kont_round,isNil,slOk,sliceV,selems,srcElems,copyTo,dlen,eqAV,eqCells,eqS,wr,place,partVals,partEs,placeEs,mapOf,keyOk,keyCells,findK,Bool.bne_false,Bool.bne_true,List.drop_zero,List.nil_append,List.append_nil,List.take_zero,List.cons_append,List.take_succ_cons,List.drop_succ_cons,List.take_nil,List.drop_nil,Reg.isA,Reg.isV,Reg.stays,Reg.onto,Bool.false_or,Bool.or_false,Bool.false_and,Bool.and_false,Bool.true_and,Bool.and_true,Bool.or_true,Bool.true_or,↓reduceIte,reduceCtorEq,Nat.reduceEqDiff,Nat.reduceLT,Nat.reduceAdd,Nat.reduceMul,Nat.add_zero,Nat.zero_add,Nat.not_lt_zero,Nat.zero_ne_one,Nat.one_ne_zero,Nat.reduceLeDiff,Nat.lt_irrefl,Nat.zero_lt_succ,Bool.false_eq_true,Bool.not_true,Bool.not_false,Option.map_some,Option.map_none,Option.bind_some,Option.getD_some,Option.getD_none,and_self,and_true,true_and,List.length_cons,List.length_nil,List.any_nil,List.any_cons,Int.toNat_natCast,Int.cast_ofNat_Int,Int.natCast_zero,Int.natCast_nonneg,true_implies,or_true,true_or,false_or,or_false,beq_self_eq_true,Option.some.injEq,exists_eq_left',Int.reduceEq,Int.reduceLT,Int.reduceLE,Int.reduceGT,Int.reduceGE,Nat.reduceGT,Int.reduceNeg,Int.reduceToNat,Int.reduceAdd,Int.reduceMul,Int.reduceSub,Int.reducePow,decide_true,decide_false,decide_eq_true_eq,List.getElem?_cons_zero,List.getElem?_cons_succ,Nat.reduceBEq,Nat.reduceSub,exists_false,and_false,false_and,xu,List.set_cons_zero,List.set_cons_succ,wrap_i64,int_lt_t,int_lt_f,int_le_t,int_le_f,int_gt_t,int_gt_f,int_ge_t,int_ge_f,int_eq_t,int_eq_f,int_beq_t,int_beq_f,int_bne_t,int_bne_f,nat_le_t,nat_le_f,Nat.sub_zero,Nat.sub_self,not_false_eq_true,not_true_eq_false,l1,l2,hne]

theorem c55 (ps qs : List Pt) (v w : AV) (hv : IsRd 33 (ps.map Pt.av) v) (hw : IsRd 33 (qs.map Pt.av) w) (hp : ∀ x ∈ ps, x.ok) (hq : ∀ x ∈ qs, x.ok) (hl : ps.length ≤ 9223372036854775807) (hl2 : qs.length ≤ 9223372036854775807) (hn : ps.length + 10 < n) :
    call F n tot ω 55 [v, w] h = some (.bool (decide (ps = qs)), h) := by
  obtain ⟨n, rfl⟩ : ∃ m, n = m + 1 := ⟨n - 1, by omega⟩
  refine call_eq (fn := a55) f55 ?_
  unfold a55
  have l1 := hv.len
  have l2 := hw.len
  rw [List.length_map] at l1 l2
  by_cases hle : ps.length = qs.length
  · simp (maxSteps := 2000000) (discharger := omega) only [xc,xo,xr,x0,x1,x2,x3,x4,x5,x6,xd,xe,xb,kont_call,kont_pure,kont_round,isNil,slOk,sliceV,selems,srcElems,copyTo,dlen,eqAV,eqCells,eqS,wr,place,partVals,partEs,placeEs,mapOf,keyOk,keyCells,findK,Bool.bne_false,Bool.bne_true,List.drop_zero,List.nil_append,List.append_nil,List.take_zero,List.cons_append,List.take_succ_cons,List.drop_succ_cons,List.take_nil,List.drop_nil,Reg.isA,Reg.isV,Reg.stays,Reg.onto,Bool.false_or,Bool.or_false,Bool.false_and,Bool.and_false,Bool.true_and,Bool.and_true,Bool.or_true,Bool.true_or,↓reduceIte,reduceCtorEq,Nat.reduceEqDiff,Nat.reduceLT,Nat.reduceAdd,Nat.reduceMul,Nat.add_zero,Nat.zero_add,Nat.not_lt_zero,Nat.zero_ne_one,Nat.one_ne_zero,Nat.reduceLeDiff,Nat.lt_irrefl,Nat.zero_lt_succ,Bool.false_eq_true,Bool.not_true,Bool.not_false,Option.map_some,Option.map_none,Option.bind_some,Option.getD_some,Option.getD_none,and_self,and_true,true_and,List.length_cons,List.length_nil,List.any_nil,List.any_cons,Int.toNat_natCast,Int.cast_ofNat_Int,Int.natCast_zero,Int.natCast_nonneg,true_implies,or_true,true_or,false_or,or_false,beq_self_eq_true,Option.some.injEq,exists_eq_left',Int.reduceEq,Int.reduceLT,Int.reduceLE,Int.reduceGT,Int.reduceGE,Nat.reduceGT,Int.reduceNeg,Int.reduceToNat,Int.reduceAdd,Int.reduceMul,Int.reduceSub,Int.reducePow,decide_true,decide_false,decide_eq_true_eq,List.getElem?_cons_zero,List.getElem?_cons_succ,Nat.reduceBEq,Nat.reduceSub,exists_false,and_false,false_and,xu,List.set_cons_zero,List.set_cons_succ,wrap_i64,int_lt_t,int_lt_f,int_le_t,int_le_f,int_gt_t,int_gt_f,int_ge_t,int_ge_f,int_eq_t,int_eq_f,int_beq_t,int_beq_f,int_bne_t,int_bne_f,nat_le_t,nat_le_f,Nat.sub_zero,Nat.sub_self,not_false_eq_true,not_true_eq_false,l1,l2]
    refine wpi_loop (fun x r g => ∃ (i : Nat), r = [(0, .val v), (1, .val w), (12, .val (.int .i64 ps.length)), (13, .val (.int .i64 i))] ∧ x = ps.length - i ∧ i ≤ ps.length ∧ g = h ∧ ps.take i = qs.take i) ps.length (by omega)
      ⟨0, rfl, rfl, Nat.zero_le _, rfl, rfl⟩ ?_
    rintro x r g ⟨i, rfl, rfl, hi, rfl, ht⟩
    by_cases hlt : i < ps.length
    · obtain ⟨cv, rfl⟩ := hv.imm (i := i) (by simpa using hlt)
      obtain ⟨cw, rfl⟩ := hw.imm (i := i) (by simpa [← hle] using hlt)
      have hlt2 : i < qs.length := by omega
      have q1 := pt_get hlt
      have q2 := pt_get hlt2
      have o1 := hp _ (List.getElem_mem hlt)
      have o2 := hq _ (List.getElem_mem hlt2)
      have s1 := pt_len o1
      have s2 := pt_len o2
      have s3 := pt_take o1
      have s4 := pt_take o2
      have e3 := pt_eq (ks := [CK.i, CK.i, CK.i, CK.i, CK.i, CK.i, CK.i, CK.i, CK.i, CK.i, CK.i, CK.i, CK.i, CK.i, CK.i, CK.i, CK.i, CK.i, CK.i, CK.i, CK.i, CK.i, CK.i, CK.i, CK.i, CK.i, CK.i, CK.i, CK.i, CK.i, CK.i, CK.i, CK.i]) rfl o1 o2
      by_cases he : ps[i] = qs[i]
      · have e4 : eqCells [CK.i, CK.i, CK.i, CK.i, CK.i, CK.i, CK.i, CK.i, CK.i, CK.i, CK.i, CK.i, CK.i, CK.i, CK.i, CK.i, CK.i, CK.i, CK.i, CK.i, CK.i, CK.i, CK.i, CK.i, CK.i, CK.i, CK.i, CK.i, CK.i, CK.i, CK.i, CK.i, CK.i] ps[i].cs qs[i].cs = some true := by rw [e3]; simp [he]
        simp (maxSteps := 2000000) (discharger := omega) only [xc,xo,xr,x0,x1,x2,x3,x4,x5,x6,xd,xe,xb,kont_call,kont_pure,kont_round,isNil,slOk,sliceV,selems,srcElems,copyTo,dlen,eqAV,eqCells,eqS,wr,place,partVals,partEs,placeEs,mapOf,keyOk,keyCells,findK,Bool.bne_false,Bool.bne_true,List.drop_zero,List.nil_append,List.append_nil,List.take_zero,List.cons_append,List.take_succ_cons,List.drop_succ_cons,List.take_nil,List.drop_nil,Reg.isA,Reg.isV,Reg.stays,Reg.onto,Bool.false_or,Bool.or_false,Bool.false_and,Bool.and_false,Bool.true_and,Bool.and_true,Bool.or_true,Bool.true_or,↓reduceIte,reduceCtorEq,Nat.reduceEqDiff,Nat.reduceLT,Nat.reduceAdd,Nat.reduceMul,Nat.add_zero,Nat.zero_add,Nat.not_lt_zero,Nat.zero_ne_one,Nat.one_ne_zero,Nat.reduceLeDiff,Nat.lt_irrefl,Nat.zero_lt_succ,Bool.false_eq_true,Bool.not_true,Bool.not_false,Option.map_some,Option.map_none,Option.bind_some,Option.getD_some,Option.getD_none,and_self,and_true,true_and,List.length_cons,List.length_nil,List.any_nil,List.any_cons,Int.toNat_natCast,Int.cast_ofNat_Int,Int.natCast_zero,Int.natCast_nonneg,true_implies,or_true,true_or,false_or,or_false,beq_self_eq_true,Option.some.injEq,exists_eq_left',Int.reduceEq,Int.reduceLT,Int.reduceLE,Int.reduceGT,Int.reduceGE,Nat.reduceGT,Int.reduceNeg,Int.reduceToNat,Int.reduceAdd,Int.reduceMul,Int.reduceSub,Int.reducePow,decide_true,decide_false,decide_eq_true_eq,List.getElem?_cons_zero,List.getElem?_cons_succ,Nat.reduceBEq,Nat.reduceSub,exists_false,and_false,false_and,xu,List.set_cons_zero,List.set_cons_succ,wrap_i64,int_lt_t,int_lt_f,int_le_t,int_le_f,int_gt_t,int_gt_f,int_ge_t,int_ge_f,int_eq_t,int_eq_f,int_beq_t,int_beq_f,int_bne_t,int_bne_f,nat_le_t,nat_le_f,Nat.sub_zero,Nat.sub_self,not_false_eq_true,not_true_eq_false,l1,q1,q2,s1,s2,s3,s4,e4,List.length_map]
        exact ⟨ps.length - (i + 1), by omega, i + 1, by rw [show ((i : Nat) : Int) + 1 = ((i + 1 : Nat) : Int) by omega], rfl, by omega, take_eq_next hlt hlt2 ht he⟩
      · have hne : ¬ ps = qs := fun e => he (by subst e; rfl)
        have e4 : eqCells [CK.i, CK.i, CK.i, CK.i, CK.i, CK.i, CK.i, CK.i, CK.i, CK.i, CK.i, CK.i, CK.i, CK.i, CK.i, CK.i, CK.i, CK.i, CK.i, CK.i, CK.i, CK.i, CK.i, CK.i, CK.i, CK.i, CK.i, CK.i, CK.i, CK.i, CK.i, CK.i, CK.i] ps[i].cs qs[i].cs = some false := by rw [e3]; simp [he]
        simp (maxSteps := 2000000) (discharger := omega) only [xc,xo,xr,x0,x1,x2,x3,x4,x5,x6,xd,xe,xb,kont_call,kont_pure,kont_round,isNil,slOk,sliceV,selems,srcElems,copyTo,dlen,eqAV,eqCells,eqS,wr,place,partVals,partEs,placeEs,mapOf,keyOk,keyCells,findK,Bool.bne_false,Bool.bne_true,List.drop_zero,List.nil_append,List.append_nil,List.take_zero,List.cons_append,List.take_succ_cons,List.drop_succ_cons,List.take_nil,List.drop_nil,Reg.isA,Reg.isV,Reg.stays,Reg.onto,Bool.false_or,Bool.or_false,Bool.false_and,Bool.and_false,Bool.true_and,Bool.and_true,Bool.or_true,Bool.true_or,↓reduceIte,reduceCtorEq,Nat.reduceEqDiff,Nat.reduceLT,Nat.reduceAdd,Nat.reduceMul,Nat.add_zero,Nat.zero_add,Nat.not_lt_zero,Nat.zero_ne_one,Nat.one_ne_zero,Nat.reduceLeDiff,Nat.lt_irrefl,Nat.zero_lt_succ,Bool.false_eq_true,Bool.not_true,Bool.not_false,Option.map_some,Option.map_none,Option.bind_some,Option.getD_some,Option.getD_none,and_self,and_true,true_and,List.length_cons,List.length_nil,List.any_nil,List.any_cons,Int.toNat_natCast,Int.cast_ofNat_Int,Int.natCast_zero,Int.natCast_nonneg,true_implies,or_true,true_or,false_or,or_false,beq_self_eq_true,Option.some.injEq,exists_eq_left',Int.reduceEq,Int.reduceLT,Int.reduceLE,Int.reduceGT,Int.reduceGE,Nat.reduceGT,Int.reduceNeg,Int.reduceToNat,Int.reduceAdd,Int.reduceMul,Int.reduceSub,Int.reducePow,decide_true,decide_false,decide_eq_true_eq,List.getElem?_cons_zero,List.getElem?_cons_succ,Nat.reduceBEq,Nat.reduceSub,exists_false,and_false,false_and,xu,List.set_cons_zero,List.set_cons_succ,wrap_i64,int_lt_t,int_lt_f,int_le_t,int_le_f,int_gt_t,int_gt_f,int_ge_t,int_ge_f,int_eq_t,int_eq_f,int_beq_t,int_beq_f,int_bne_t,int_bne_f,nat_le_t,nat_le_f,Nat.sub_zero,Nat.sub_self,not_false_eq_true,not_true_eq_false,l1,q1,q2,s1,s2,s3,s4,e4,hne,List.length_map]
    · obtain rfl : i = ps.length := by omega
      have he : ps = qs := by rw [List.take_length, hle, List.take_length] at ht; exact ht
      simp (maxSteps := 2000000) (discharger := omega) only [xc,xo,xr,x0,x1,x2,x3,x4,x5,x6,xd,xe,xb,kont_call,kont_pure,kont_round,isNil,slOk,sliceV,selems,srcElems,copyTo,dlen,eqAV,eqCells,eqS,wr,place,partVals,partEs,placeEs,mapOf,keyOk,keyCells,findK,Bool.bne_false,Bool.bne_true,List.drop_zero,List.nil_append,List.append_nil,List.take_zero,List.cons_append,List.take_succ_cons,List.drop_succ_cons,List.take_nil,List.drop_nil,Reg.isA,Reg.isV,Reg.stays,Reg.onto,Bool.false_or,Bool.or_false,Bool.false_and,Bool.and_false,Bool.true_and,Bool.and_true,Bool.or_true,Bool.true_or,↓reduceIte,reduceCtorEq,Nat.reduceEqDiff,Nat.reduceLT,Nat.reduceAdd,Nat.reduceMul,Nat.add_zero,Nat.zero_add,Nat.not_lt_zero,Nat.zero_ne_one,Nat.one_ne_zero,Nat.reduceLeDiff,Nat.lt_irrefl,Nat.zero_lt_succ,Bool.false_eq_true,Bool.not_true,Bool.not_false,Option.map_some,Option.map_none,Option.bind_some,Option.getD_some,Option.getD_none,and_self,and_true,true_and,List.length_cons,List.length_nil,List.any_nil,List.any_cons,Int.toNat_natCast,Int.cast_ofNat_Int,Int.natCast_zero,Int.natCast_nonneg,true_implies,or_true,true_or,false_or,or_false,beq_self_eq_true,Option.some.injEq,exists_eq_left',Int.reduceEq,Int.reduceLT,Int.reduceLE,Int.reduceGT,Int.reduceGE,Nat.reduceGT,Int.reduceNeg,Int.reduceToNat,Int.reduceAdd,Int.reduceMul,Int.reduceSub,Int.reducePow,decide_true,decide_false,decide_eq_true_eq,List.getElem?_cons_zero,List.getElem?_cons_succ,Nat.reduceBEq,Nat.reduceSub,exists_false,and_false,false_and,xu,List.set_cons_zero,List.set_cons_succ,wrap_i64,int_lt_t,int_lt_f,int_le_t,int_le_f,int_gt_t,int_gt_f,int_ge_t,int_ge_f,int_eq_t,int_eq_f,int_beq_t,int_beq_f,int_bne_t,int_bne_f,nat_le_t,nat_le_f,Nat.sub_zero,Nat.sub_self,not_false_eq_true,not_true_eq_false,l1]
      simp [he]
  · have hne : ¬ ps = qs := fun e => hle (by rw [e])
    simp (maxSteps := 2000000) (discharger := omega) only [xc,xo,xr,x0,x1,x2,x3,x4,x5,x6,xd,xe,xb,kont_call,kont_pure,kont_round,isNil,slOk,sliceV,selems,srcElems,copyTo,dlen,eqAV,eqCells,eqS,wr,place,partVals,partEs,placeEs,mapOf,keyOk,keyCells,findK,Bool.bne_false,Bool.bne_true,List.drop_zero,List.nil_append,List.append_nil,List.take_zero,List.cons_append,List.take_succ_cons,List.drop_succ_cons,List.take_nil,List.drop_nil,Reg.isA,Reg.isV,Reg.stays,Reg.onto,Bool.false_or,Bool.or_false,Bool.false_and,Bool.and_false,Bool.true_and,Bool.and_true,Bool.or_true,Bool.true_or,↓reduceIte,reduceCtorEq,Nat.reduceEqDiff,Nat.reduceLT,Nat.reduceAdd,Nat.reduceMul,Nat.add_zero,Nat.zero_add,Nat.not_lt_zero,Nat.zero_ne_one,Nat.one_ne_zero,Nat.reduceLeDiff,Nat.lt_irrefl,Nat.zero_lt_succ,Bool.false_eq_true,Bool.not_true,Bool.not_false,Option.map_some,Option.map_none,Option.bind_some,Option.getD_some,Option.getD_none,and_self,and_true,true_and,List.length_cons,List.length_nil,List.any_nil,List.any_cons,Int.toNat_natCast,Int.cast_ofNat_Int,Int.natCast_zero,Int.natCast_nonneg,true_implies,or_true,true_or,false_or,or_false,beq_self_eq_true,Option.some.injEq,exists_eq_left',Int.reduceEq,Int.reduceLT,Int.reduceLE,Int.reduceGT,Int.reduceGE,Nat.reduceGT,Int.reduceNeg,Int.reduceToNat,Int.reduceAdd,Int.reduceMul,Int.reduceSub,Int.reducePow,decide_true,decide_false,decide_eq_true_eq,List.getElem?_cons_zero,List.getElem?_cons_succ,Nat.reduceBEq,Nat.reduceSub,exists_false,and_false,false_and,xu,List.set_cons_zero,List.set_cons_succ,wrap_i64,int_lt_t,int_lt_f,int_le_t,int_le_f,int_gt_t,int_gt_f,int_ge_t,int_ge_f,int_eq_t,int_eq_f,int_beq_t,int_beq_f,int_bne_t,int_bne_f,nat_le_t,nat_le_f,Nat.sub_zero,Nat.sub_self,not_false_eq_true,not_true_eq_false,l1,l2,hne]

def fnd (ls : List Lf) (p : By) : Option Lf := ls.find? fun x => x.p == p
theorem fnd_skip {ls : List Lf} {p : By} {i : Nat} (hi : i < ls.length) (h : fnd ls p = fnd (ls.drop i) p) (he : (ls[i].p == p) = false) : fnd ls p = fnd (ls.drop (i + 1)) p := by
  rw [h, List.drop_eq_getElem_cons hi]; unfold fnd; rw [List.find?_cons_of_neg (by rw [he]; decide)]
theorem fnd_at {ls : List Lf} {p : By} {i : Nat} (hi : i < ls.length) (h : fnd ls p = fnd (ls.drop i) p) (he : (ls[i].p == p) = true) : fnd ls p = some ls[i] := by
  rw [h, List.drop_eq_getElem_cons hi]; unfold fnd; rw [List.find?_cons_of_pos (by show (ls[i].p == p) = true; exact he)]

theorem c30 (ls : List Lf) (a : AV) (p : By) (ha : IsRd 2 (ls.map Lf.av) a) (hok : ∀ x ∈ ls, x.ok) (hl : ls.length ≤ 1000000) (hn : ls.length + 10 < n) :
    ∃ v' b, call F n tot ω 30 [a, .str p] h = some (.tup [v', .bool b], h) ∧ ((∃ x, fnd ls p = some x ∧ b = true ∧ v' = x.v) ∨ (fnd ls p = none ∧ b = false ∧ v' = .nils)) := by
  obtain ⟨n, rfl⟩ : ∃ m, n = m + 1 := ⟨n - 1, by omega⟩
  suffices hx : ∃ u h', call F (n + 1) tot ω 30 [a, .str p] h = some (u, h') ∧ h' = h ∧ ∃ v' b, u = .tup [v', .bool b] ∧ ((∃ x, fnd ls p = some x ∧ b = true ∧ v' = x.v) ∨ (fnd ls p = none ∧ b = false ∧ v' = .nils)) by
    obtain ⟨u, h', e1, rfl, v', b, rfl, e2⟩ := hx
    exact ⟨v', b, e1, e2⟩
  refine call_of (fn := a30) f30 (P := fun u h' => h' = h ∧ ∃ v' b, u = .tup [v', .bool b] ∧ ((∃ x, fnd ls p = some x ∧ b = true ∧ v' = x.v) ∨ (fnd ls p = none ∧ b = false ∧ v' = .nils))) ?_
  unfold a30
  have hlen := ha.len
  rw [List.length_map] at hlen
  simp (maxSteps := 2000000) (discharger := omega) only [xc,xo,xr,x0,x1,x2,x3,x4,x5,x6,xd,xe,xb,kont_call,kont_pure,kont_round,isNil,slOk,sliceV,selems,srcElems,copyTo,dlen,eqAV,eqCells,eqS,wr,place,partVals,partEs,placeEs,mapOf,keyOk,keyCells,findK,Bool.bne_false,Bool.bne_true,List.drop_zero,List.nil_append,List.append_nil,List.take_zero,List.cons_append,List.take_succ_cons,List.drop_succ_cons,List.take_nil,List.drop_nil,Reg.isA,Reg.isV,Reg.stays,Reg.onto,Bool.false_or,Bool.or_false,Bool.false_and,Bool.and_false,Bool.true_and,Bool.and_true,Bool.or_true,Bool.true_or,↓reduceIte,reduceCtorEq,Nat.reduceEqDiff,Nat.reduceLT,Nat.reduceAdd,Nat.reduceMul,Nat.add_zero,Nat.zero_add,Nat.not_lt_zero,Nat.zero_ne_one,Nat.one_ne_zero,Nat.reduceLeDiff,Nat.lt_irrefl,Nat.zero_lt_succ,Bool.false_eq_true,Bool.not_true,Bool.not_false,Option.map_some,Option.map_none,Option.bind_some,Option.getD_some,Option.getD_none,and_self,and_true,true_and,List.length_cons,List.length_nil,List.any_nil,List.any_cons,Int.toNat_natCast,Int.cast_ofNat_Int,Int.natCast_zero,Int.natCast_nonneg,true_implies,or_true,true_or,false_or,or_false,beq_self_eq_true,Option.some.injEq,exists_eq_left',Int.reduceEq,Int.reduceLT,Int.reduceLE,Int.reduceGT,Int.reduceGE,Nat.reduceGT,Int.reduceNeg,Int.reduceToNat,Int.reduceAdd,Int.reduceMul,Int.reduceSub,Int.reducePow,decide_true,decide_false,decide_eq_true_eq,List.getElem?_cons_zero,List.getElem?_cons_succ,Nat.reduceBEq,Nat.reduceSub,exists_false,and_false,false_and,xu,List.set_cons_zero,List.set_cons_succ,wrap_i64,int_lt_t,int_lt_f,int_le_t,int_le_f,int_gt_t,int_gt_f,int_ge_t,int_ge_f,int_eq_t,int_eq_f,int_beq_t,int_beq_f,int_bne_t,int_bne_f,nat_le_t,nat_le_f,Nat.sub_zero,Nat.sub_self,not_false_eq_true,not_true_eq_false,hlen]
  refine wpi_loop (fun x r g => ∃ (i : Nat), r = [(0, .val a), (1, .val (.str p)), (6, .val (.int .i64 i))] ∧ x = ls.length - i ∧ i ≤ ls.length ∧ g = h ∧ fnd ls p = fnd (ls.drop i) p) ls.length (by omega)
    ⟨0, rfl, rfl, Nat.zero_le _, rfl, rfl⟩ ?_
  rintro x r g ⟨i, rfl, rfl, hi, rfl, hf⟩
  by_cases hlt : i < ls.length
  · obtain ⟨cv, rfl⟩ := lfs_el ha hlt
    have q1 := lf_get hlt
    have o1 := hok _ (List.getElem_mem hlt)
    have t1 := rd_sub o1.rd 1
    cases he : (ls[i].p == p) with
    | true =>
      simp (maxSteps := 2000000) (discharger := omega) only [xc,xo,xr,x0,x1,x2,x3,x4,x5,x6,xd,xe,xb,kont_call,kont_pure,kont_round,isNil,slOk,sliceV,selems,srcElems,copyTo,dlen,eqAV,eqCells,eqS,wr,place,partVals,partEs,placeEs,mapOf,keyOk,keyCells,findK,Bool.bne_false,Bool.bne_true,List.drop_zero,List.nil_append,List.append_nil,List.take_zero,List.cons_append,List.take_succ_cons,List.drop_succ_cons,List.take_nil,List.drop_nil,Reg.isA,Reg.isV,Reg.stays,Reg.onto,Bool.false_or,Bool.or_false,Bool.false_and,Bool.and_false,Bool.true_and,Bool.and_true,Bool.or_true,Bool.true_or,↓reduceIte,reduceCtorEq,Nat.reduceEqDiff,Nat.reduceLT,Nat.reduceAdd,Nat.reduceMul,Nat.add_zero,Nat.zero_add,Nat.not_lt_zero,Nat.zero_ne_one,Nat.one_ne_zero,Nat.reduceLeDiff,Nat.lt_irrefl,Nat.zero_lt_succ,Bool.false_eq_true,Bool.not_true,Bool.not_false,Option.map_some,Option.map_none,Option.bind_some,Option.getD_some,Option.getD_none,and_self,and_true,true_and,List.length_cons,List.length_nil,List.any_nil,List.any_cons,Int.toNat_natCast,Int.cast_ofNat_Int,Int.natCast_zero,Int.natCast_nonneg,true_implies,or_true,true_or,false_or,or_false,beq_self_eq_true,Option.some.injEq,exists_eq_left',Int.reduceEq,Int.reduceLT,Int.reduceLE,Int.reduceGT,Int.reduceGE,Nat.reduceGT,Int.reduceNeg,Int.reduceToNat,Int.reduceAdd,Int.reduceMul,Int.reduceSub,Int.reducePow,decide_true,decide_false,decide_eq_true_eq,List.getElem?_cons_zero,List.getElem?_cons_succ,Nat.reduceBEq,Nat.reduceSub,exists_false,and_false,false_and,xu,List.set_cons_zero,List.set_cons_succ,wrap_i64,int_lt_t,int_lt_f,int_le_t,int_le_f,int_gt_t,int_gt_f,int_ge_t,int_ge_f,int_eq_t,int_eq_f,int_beq_t,int_beq_f,int_bne_t,int_bne_f,nat_le_t,nat_le_f,Nat.sub_zero,Nat.sub_self,not_false_eq_true,not_true_eq_false,hlen,q1,t1,he,List.length_map]
      exact ⟨ls[i].v, true, rfl, .inl ⟨ls[i], fnd_at hlt hf he, rfl, rfl⟩⟩
    | false =>
      simp (maxSteps := 2000000) (discharger := omega) only [xc,xo,xr,x0,x1,x2,x3,x4,x5,x6,xd,xe,xb,kont_call,kont_pure,kont_round,isNil,slOk,sliceV,selems,srcElems,copyTo,dlen,eqAV,eqCells,eqS,wr,place,partVals,partEs,placeEs,mapOf,keyOk,keyCells,findK,Bool.bne_false,Bool.bne_true,List.drop_zero,List.nil_append,List.append_nil,List.take_zero,List.cons_append,List.take_succ_cons,List.drop_succ_cons,List.take_nil,List.drop_nil,Reg.isA,Reg.isV,Reg.stays,Reg.onto,Bool.false_or,Bool.or_false,Bool.false_and,Bool.and_false,Bool.true_and,Bool.and_true,Bool.or_true,Bool.true_or,↓reduceIte,reduceCtorEq,Nat.reduceEqDiff,Nat.reduceLT,Nat.reduceAdd,Nat.reduceMul,Nat.add_zero,Nat.zero_add,Nat.not_lt_zero,Nat.zero_ne_one,Nat.one_ne_zero,Nat.reduceLeDiff,Nat.lt_irrefl,Nat.zero_lt_succ,Bool.false_eq_true,Bool.not_true,Bool.not_false,Option.map_some,Option.map_none,Option.bind_some,Option.getD_some,Option.getD_none,and_self,and_true,true_and,List.length_cons,List.length_nil,List.any_nil,List.any_cons,Int.toNat_natCast,Int.cast_ofNat_Int,Int.natCast_zero,Int.natCast_nonneg,true_implies,or_true,true_or,false_or,or_false,beq_self_eq_true,Option.some.injEq,exists_eq_left',Int.reduceEq,Int.reduceLT,Int.reduceLE,Int.reduceGT,Int.reduceGE,Nat.reduceGT,Int.reduceNeg,Int.reduceToNat,Int.reduceAdd,Int.reduceMul,Int.reduceSub,Int.reducePow,decide_true,decide_false,decide_eq_true_eq,List.getElem?_cons_zero,List.getElem?_cons_succ,Nat.reduceBEq,Nat.reduceSub,exists_false,and_false,false_and,xu,List.set_cons_zero,List.set_cons_succ,wrap_i64,int_lt_t,int_lt_f,int_le_t,int_le_f,int_gt_t,int_gt_f,int_ge_t,int_ge_f,int_eq_t,int_eq_f,int_beq_t,int_beq_f,int_bne_t,int_bne_f,nat_le_t,nat_le_f,Nat.sub_zero,Nat.sub_self,not_false_eq_true,not_true_eq_false,hlen,q1,t1,he,List.length_map]
      exact ⟨ls.length - (i + 1), by omega, i + 1, by rw [show ((i : Nat) : Int) + 1 = ((i + 1 : Nat) : Int) by omega], rfl, by omega, fnd_skip hlt hf he⟩
  · obtain rfl : i = ls.length := by omega
    rw [List.drop_length] at hf
    simp (maxSteps := 2000000) (discharger := omega) only [xc,xo,xr,x0,x1,x2,x3,x4,x5,x6,xd,xe,xb,kont_call,kont_pure,kont_round,isNil,slOk,sliceV,selems,srcElems,copyTo,dlen,eqAV,eqCells,eqS,wr,place,partVals,partEs,placeEs,mapOf,keyOk,keyCells,findK,Bool.bne_false,Bool.bne_true,List.drop_zero,List.nil_append,List.append_nil,List.take_zero,List.cons_append,List.take_succ_cons,List.drop_succ_cons,List.take_nil,List.drop_nil,Reg.isA,Reg.isV,Reg.stays,Reg.onto,Bool.false_or,Bool.or_false,Bool.false_and,Bool.and_false,Bool.true_and,Bool.and_true,Bool.or_true,Bool.true_or,↓reduceIte,reduceCtorEq,Nat.reduceEqDiff,Nat.reduceLT,Nat.reduceAdd,Nat.reduceMul,Nat.add_zero,Nat.zero_add,Nat.not_lt_zero,Nat.zero_ne_one,Nat.one_ne_zero,Nat.reduceLeDiff,Nat.lt_irrefl,Nat.zero_lt_succ,Bool.false_eq_true,Bool.not_true,Bool.not_false,Option.map_some,Option.map_none,Option.bind_some,Option.getD_some,Option.getD_none,and_self,and_true,true_and,List.length_cons,List.length_nil,List.any_nil,List.any_cons,Int.toNat_natCast,Int.cast_ofNat_Int,Int.natCast_zero,Int.natCast_nonneg,true_implies,or_true,true_or,false_or,or_false,beq_self_eq_true,Option.some.injEq,exists_eq_left',Int.reduceEq,Int.reduceLT,Int.reduceLE,Int.reduceGT,Int.reduceGE,Nat.reduceGT,Int.reduceNeg,Int.reduceToNat,Int.reduceAdd,Int.reduceMul,Int.reduceSub,Int.reducePow,decide_true,decide_false,decide_eq_true_eq,List.getElem?_cons_zero,List.getElem?_cons_succ,Nat.reduceBEq,Nat.reduceSub,exists_false,and_false,false_and,xu,List.set_cons_zero,List.set_cons_succ,wrap_i64,int_lt_t,int_lt_f,int_le_t,int_le_f,int_gt_t,int_gt_f,int_ge_t,int_ge_f,int_eq_t,int_eq_f,int_beq_t,int_beq_f,int_bne_t,int_bne_f,nat_le_t,nat_le_f,Nat.sub_zero,Nat.sub_self,not_false_eq_true,not_true_eq_false,hlen]
    exact ⟨.nils, false, rfl, .inr ⟨hf, rfl, rfl⟩⟩
end
end Go.Proofs.YtpgmohjmpaifbaaDoor.Im

/- S14Li: lists of tables, stores and logs: what the library does with them. -/
import Derived.Test.YtabpndekmpjmhaaIs
import Derived.Test.YtabpndekmpjmhaaImRow
import Derived.Test.YtabpndekmpjmhaaImSl
set_option linter.unusedVariables false
set_option linter.unusedSimpArgs false
open Go Go.Im
namespace Go.Proofs.Ytabpndekmpjmhaa.Im

structure Ed where
  k : Int
  f : Int
  l : Int
  c : Int
  lo : List UInt8
  hi : List UInt8
  deriving DecidableEq

def edOf (e : Ed) : AV := .agg [.int .i64 e.k, .int .i64 e.f, .int .i64 e.l, .int .i64 e.c, .str e.lo, .str e.hi]
def edsOf (l : List Ed) : List AV := l.map edOf
theorem edsOf_len (l : List Ed) : (edsOf l).length = l.length := by simp [edsOf]
theorem edsOf_get {l : List Ed} {i : Nat} (h : i < l.length) : (edsOf l)[i]? = some (edOf l[i]) := by simp [edsOf,h]

structure Tb where
  f : Int
  l : Int
  c : Int
  lo : List UInt8
  hi : List UInt8
  deriving DecidableEq, Inhabited
structure Sr where
  f : Int
  t : Int
  deriving DecidableEq, Inhabited

def tbOf (t : Tb) : AV := .agg [.int .i64 t.f, .int .i64 t.l, .int .i64 t.c, .str t.lo, .str t.hi]
def srOf (s : Sr) : AV := .agg [.int .i64 s.f, .int .i64 s.t]
def inOf (n : Int) : AV := .int .i64 n

def IsRd (sz : Nat) (es : List AV) (v : AV) : Prop := (v = .nils ∧ es = []) ∨ ∃ c, v = .imm sz es c
theorem IsRd.len {sz : Nat} {es : List AV} {v : AV} (h : IsRd sz es v) : lenSl v = some es.length := by
  rcases h with ⟨rfl, rfl⟩ | ⟨c, rfl⟩ <;> rfl
theorem IsRd.imm {sz : Nat} {es : List AV} {v : AV} {i : Nat} (h : IsRd sz es v) (hi : i < es.length) : ∃ c, v = .imm sz es c := by
  rcases h with ⟨rfl, rfl⟩ | ⟨c, rfl⟩
  · exact absurd hi (Nat.not_lt_zero _)
  · exact ⟨c, rfl⟩
theorem isRd_sl {sz : Nat} {es : List AV} {v : AV} (h : IsSl sz es v) : IsRd sz es v := by
  rcases h with h | h
  · exact .inl h
  · exact .inr ⟨_, h⟩
theorem isRd_app {sz : Nat} {es : List AV} {h : Hp} {v : AV} (hv : IsApp sz es h v) : IsRd sz es v := by
  rcases hv with h | h | ⟨id, h, _⟩
  · exact .inl h
  · exact .inr ⟨_, h⟩
  · exact .inr ⟨_, h⟩

def idxOf {α : Type} (p : α → Bool) : List α → Int
  | [] => -1
  | a :: l => if p a then 0 else if idxOf p l < 0 then -1 else idxOf p l + 1
theorem idxOf_none {α : Type} {p : α → Bool} : ∀ {l : List α}, (∀ x ∈ l, p x = false) → idxOf p l = -1
  | [], _ => rfl
  | a :: l, h => by
    have h1 := h a (by simp)
    have h2 := idxOf_none (l := l) fun x hx => h x (by simp [hx])
    simp [idxOf,h1,h2]
theorem idxOf_at {α : Type} {p : α → Bool} : ∀ {l : List α} {i : Nat} (hi : i < l.length), p l[i] = true → (∀ j (hj : j < i), p (l[j]'(by omega)) = false) → idxOf p l = i
  | [], i, hi, _, _ => by simp at hi
  | a :: l, 0, hi, h, _ => by simp at h; simp [idxOf,h]
  | a :: l, i + 1, hi, h, hj => by
    have h0 := hj 0 (by omega)
    simp only [List.getElem_cons_zero] at h0
    have := idxOf_at (p := p) (l := l) (i := i) (by simpa using hi) (by simpa using h) fun j hji => by
      have := hj (j + 1) (by omega)
      simpa using this
    simp only [idxOf,h0,this]
    rw [if_neg (by simp), if_neg (by omega)]
    omega
theorem idxOf_any {α : Type} {p : α → Bool} : ∀ (l : List α), decide (idxOf p l ≥ 0) = l.any p
  | [] => rfl
  | a :: l => by
    have ih := idxOf_any (p := p) l
    by_cases h : p a = true
    · simp [idxOf,h]
    · simp only [Bool.not_eq_true] at h
      simp only [idxOf,List.any_cons,h,Bool.false_or,← ih]
      by_cases h2 : idxOf p l < 0
      · simp [h2]
      · simp [h2]; omega
theorem idxOf_inv {α : Type} {p : α → Bool} : ∀ (l : List α), idxOf p l = -1 ∨ ∃ i : Nat, ∃ hi : i < l.length, idxOf p l = i ∧ p l[i] = true ∧ ∀ j (hj : j < i), p (l[j]'(by omega)) = false
  | [] => .inl rfl
  | a :: l => by
    cases h : p a with
    | true => exact .inr ⟨0, by simp, by simp [idxOf,h], by simpa using h, by simp⟩
    | false =>
      rcases idxOf_inv (p := p) l with h1 | ⟨i, hi, h1, h2, h3⟩
      · left; simp [idxOf,h,h1]
      · right
        refine ⟨i + 1, by simpa using hi, ?_, by simpa using h2, fun j hj => ?_⟩
        · simp only [idxOf,h,h1]
          rw [if_neg (by simp), if_neg (by omega)]; omega
        · cases j with
          | zero => simpa using h
          | succ j => simpa using h3 j (by omega)

theorem row_el {es post : List AV} {k i : Nat} (hk : i + k = es.length) : ((es ++ post).drop i).take k = es.drop i := by
  rw [List.drop_append_of_le_length (by omega), List.take_left' (by simp; omega)]

theorem at_map {α : Type} {f : α → AV} {l : List α} {i : Nat} (h : i < l.length) (post : List AV) : (l.map f ++ post)[i]? = some (f l[i]) := by
  rw [List.getElem?_append_left (by simpa using h)]; simp [h]

theorem c11 {tot : Bool} {ω : Nat → Nat} {n : Nat} (v : AV) (es : List AV) (lo : Nat) (h : Hp) (hr : RowAt h 5 lo es v) (hl : es.length ≤ 1000000) (hn : 2 < n) :
    ∃ v' m, call F n tot ω 11 [v] h = some (v', h ++ m) ∧ RowAt (h ++ m) 5 h.length es v' := by
  obtain ⟨n, rfl⟩ : ∃ m, n = m + 1 := ⟨n - 1, by omega⟩
  rcases hr with ⟨rfl, rfl⟩ | ⟨id, post, rfl, e, g⟩
  · refine ⟨.nils, [], ?_, .inl ⟨rfl, rfl⟩⟩
    rw [List.append_nil]
    refine call_eq (fn := a11) f11 ?_
    unfold a11
    simp (maxSteps := 2000000) (discharger := omega) only [xz,xc,xo,xr,x0,x1,x2,x3,x4,x5,x6,xd,xe,xb,kont_call,kont_pure,kont_round,isNil,slOk,sliceV,selems,srcElems,copyTo,dlen,eqAV,eqCells,eqS,upd,wr,place,partVals,partEs,placeEs,mapOf,keyOk,keyCells,findK,Bool.bne_false,Bool.bne_true,Reg.isA,Reg.isV,Reg.stays,Reg.onto,↓reduceIte,reduceCtorEq,Nat.reduceEqDiff,Nat.reduceLT,Nat.reduceAdd,Nat.reduceMul,Nat.reduceLeDiff,Nat.zero_lt_succ,Option.bind_some,Option.getD_some,Option.getD_none,Int.cast_ofNat_Int,Int.natCast_zero,Int.natCast_nonneg,true_implies,or_true,true_or,false_or,or_false,beq_self_eq_true,exists_eq_left',Int.reduceEq,Int.reduceLT,Int.reduceLE,Int.reduceGT,Int.reduceGE,Nat.reduceGT,Int.reduceNeg,Int.reduceToNat,Int.reduceAdd,Int.reduceMul,Int.reduceSub,Int.reducePow,decide_eq_true_eq,Nat.reduceBEq,Nat.reduceSub,exists_false,wrap_i64,int_lt_t,int_lt_f,int_le_t,int_le_f,int_gt_t,int_gt_f,int_ge_t,int_ge_f,int_eq_t,int_eq_f,int_beq_t,int_beq_f,int_bne_t,int_bne_f,nat_le_t,nat_le_f,Nat.sub_zero,Nat.sub_self,not_false_eq_true,not_true_eq_false]
  · obtain ⟨v', m, e1, e2⟩ := row_all (h := h) (sz := 5) (es := es) (bytes := 56) (by omega)
    refine ⟨v', m, ?_, e2⟩
    refine call_eq (fn := a11) f11 ?_
    unfold a11
    have e3 : (h ++ [AO.row 5 []])[id]? = some (.row 5 (es ++ post)) := by
      rw [List.getElem?_append_left (List.getElem?_eq_some_iff.1 e).1]; exact e
    simp (maxSteps := 2000000) (discharger := omega) only [xz,xc,xo,xr,x0,x1,x2,x3,x4,x5,x6,xd,xe,xb,kont_call,kont_pure,kont_round,isNil,slOk,sliceV,selems,srcElems,copyTo,dlen,eqAV,eqCells,eqS,upd,wr,place,partVals,partEs,placeEs,mapOf,keyOk,keyCells,findK,Bool.bne_false,Bool.bne_true,Reg.isA,Reg.isV,Reg.stays,Reg.onto,↓reduceIte,reduceCtorEq,Nat.reduceEqDiff,Nat.reduceLT,Nat.reduceAdd,Nat.reduceMul,Nat.reduceLeDiff,Nat.zero_lt_succ,Option.bind_some,Option.getD_some,Option.getD_none,Int.cast_ofNat_Int,Int.natCast_zero,Int.natCast_nonneg,true_implies,or_true,true_or,false_or,or_false,beq_self_eq_true,exists_eq_left',Int.reduceEq,Int.reduceLT,Int.reduceLE,Int.reduceGT,Int.reduceGE,Nat.reduceGT,Int.reduceNeg,Int.reduceToNat,Int.reduceAdd,Int.reduceMul,Int.reduceSub,Int.reducePow,decide_eq_true_eq,Nat.reduceBEq,Nat.reduceSub,exists_false,wrap_i64,int_lt_t,int_lt_f,int_le_t,int_le_f,int_gt_t,int_gt_f,int_ge_t,int_ge_f,int_eq_t,int_eq_f,int_beq_t,int_beq_f,int_bne_t,int_bne_f,nat_le_t,nat_le_f,Nat.sub_zero,Nat.sub_self,not_false_eq_true,not_true_eq_false,e1,e3,List.replicate_zero,List.length_append,Nat.le_add_right,List.take_left']

theorem c21 {tot : Bool} {ω : Nat → Nat} {n B : Nat} (v : AV) (l : List Tb) (p : Tb → Bool) (g : FuncId) (fs caps : List AV) (lo : Nat) (h : Hp) (hr : RowAt h 5 lo (l.map tbOf) v)
    (hc : ∀ n, B < n → ∀ x ∈ l, call F n tot ω g (fs ++ [tbOf x] ++ caps) h = some (.bool (p x), h)) (hl : l.length ≤ 1000000) (hn : B + l.length + 3 < n) :
    call F n tot ω 21 [v, .fn (.func g) fs caps] h = some (.int .i64 (idxOf p l), h) := by
  obtain ⟨n, rfl⟩ : ∃ m, n = m + 1 := ⟨n - 1, by omega⟩
  refine call_eq (fn := a21) f21 ?_
  unfold a21
  have hlen := hr.len
  rw [List.length_map] at hlen
  simp (maxSteps := 2000000) (discharger := omega) only [xz,xc,xo,xr,x0,x1,x2,x3,x4,x5,x6,xd,xe,xb,kont_call,kont_pure,kont_round,isNil,slOk,sliceV,selems,srcElems,copyTo,dlen,eqAV,eqCells,eqS,upd,wr,place,partVals,partEs,placeEs,mapOf,keyOk,keyCells,findK,Bool.bne_false,Bool.bne_true,Reg.isA,Reg.isV,Reg.stays,Reg.onto,↓reduceIte,reduceCtorEq,Nat.reduceEqDiff,Nat.reduceLT,Nat.reduceAdd,Nat.reduceMul,Nat.reduceLeDiff,Nat.zero_lt_succ,Option.bind_some,Option.getD_some,Option.getD_none,Int.cast_ofNat_Int,Int.natCast_zero,Int.natCast_nonneg,true_implies,or_true,true_or,false_or,or_false,beq_self_eq_true,exists_eq_left',Int.reduceEq,Int.reduceLT,Int.reduceLE,Int.reduceGT,Int.reduceGE,Nat.reduceGT,Int.reduceNeg,Int.reduceToNat,Int.reduceAdd,Int.reduceMul,Int.reduceSub,Int.reducePow,decide_eq_true_eq,Nat.reduceBEq,Nat.reduceSub,exists_false,wrap_i64,int_lt_t,int_lt_f,int_le_t,int_le_f,int_gt_t,int_gt_f,int_ge_t,int_ge_f,int_eq_t,int_eq_f,int_beq_t,int_beq_f,int_bne_t,int_bne_f,nat_le_t,nat_le_f,Nat.sub_zero,Nat.sub_self,not_false_eq_true,not_true_eq_false,hlen]
  refine wpi_loop (fun k r h' => ∃ i : Nat, r = [(0, .val v), (1, .val (.fn (.func g) fs caps)), (7, .val (.int .i64 l.length)), (8, .val (.int .i64 i))] ∧ i ≤ l.length ∧ k = l.length - i ∧ (∀ j (hj : j < l.length), j < i → p l[j] = false) ∧ h' = h) l.length (by omega) ⟨0, rfl, by omega, by omega, by omega, rfl⟩ ?_
  rintro k r h' ⟨i, rfl, hi, rfl, hp, rfl⟩
  by_cases hlt : i < l.length
  · obtain ⟨id, post, rfl, e, _⟩ := hr.row (i := i) (by simpa using hlt)
    have e1 := at_map (f := tbOf) hlt post
    have hcx := hc n (by omega) l[i] (List.getElem_mem _)
    have s1 : ∀ x : Tb, sub (tbOf x) 0 5 true = some (tbOf x) := fun x => rfl
    cases hpx : p l[i] with
    | true =>
      rw [hpx] at hcx
      rw [idxOf_at hlt hpx fun j hj => hp j (by omega) hj]
      simp (maxSteps := 2000000) (discharger := omega) only [xz,xc,xo,xr,x0,x1,x2,x3,x4,x5,x6,xd,xe,xb,kont_call,kont_pure,kont_round,isNil,slOk,sliceV,selems,srcElems,copyTo,dlen,eqAV,eqCells,eqS,upd,wr,place,partVals,partEs,placeEs,mapOf,keyOk,keyCells,findK,Bool.bne_false,Bool.bne_true,Reg.isA,Reg.isV,Reg.stays,Reg.onto,↓reduceIte,reduceCtorEq,Nat.reduceEqDiff,Nat.reduceLT,Nat.reduceAdd,Nat.reduceMul,Nat.reduceLeDiff,Nat.zero_lt_succ,Option.bind_some,Option.getD_some,Option.getD_none,Int.cast_ofNat_Int,Int.natCast_zero,Int.natCast_nonneg,true_implies,or_true,true_or,false_or,or_false,beq_self_eq_true,exists_eq_left',Int.reduceEq,Int.reduceLT,Int.reduceLE,Int.reduceGT,Int.reduceGE,Nat.reduceGT,Int.reduceNeg,Int.reduceToNat,Int.reduceAdd,Int.reduceMul,Int.reduceSub,Int.reducePow,decide_eq_true_eq,Nat.reduceBEq,Nat.reduceSub,exists_false,wrap_i64,int_lt_t,int_lt_f,int_le_t,int_le_f,int_gt_t,int_gt_f,int_ge_t,int_ge_f,int_eq_t,int_eq_f,int_beq_t,int_beq_f,int_bne_t,int_bne_f,nat_le_t,nat_le_f,Nat.sub_zero,Nat.sub_self,not_false_eq_true,not_true_eq_false,e,e1,hcx,s1,List.length_map]
    | false =>
      rw [hpx] at hcx
      simp (maxSteps := 2000000) (discharger := omega) only [xz,xc,xo,xr,x0,x1,x2,x3,x4,x5,x6,xd,xe,xb,kont_call,kont_pure,kont_round,isNil,slOk,sliceV,selems,srcElems,copyTo,dlen,eqAV,eqCells,eqS,upd,wr,place,partVals,partEs,placeEs,mapOf,keyOk,keyCells,findK,Bool.bne_false,Bool.bne_true,Reg.isA,Reg.isV,Reg.stays,Reg.onto,↓reduceIte,reduceCtorEq,Nat.reduceEqDiff,Nat.reduceLT,Nat.reduceAdd,Nat.reduceMul,Nat.reduceLeDiff,Nat.zero_lt_succ,Option.bind_some,Option.getD_some,Option.getD_none,Int.cast_ofNat_Int,Int.natCast_zero,Int.natCast_nonneg,true_implies,or_true,true_or,false_or,or_false,beq_self_eq_true,exists_eq_left',Int.reduceEq,Int.reduceLT,Int.reduceLE,Int.reduceGT,Int.reduceGE,Nat.reduceGT,Int.reduceNeg,Int.reduceToNat,Int.reduceAdd,Int.reduceMul,Int.reduceSub,Int.reducePow,decide_eq_true_eq,Nat.reduceBEq,Nat.reduceSub,exists_false,wrap_i64,int_lt_t,int_lt_f,int_le_t,int_le_f,int_gt_t,int_gt_f,int_ge_t,int_ge_f,int_eq_t,int_eq_f,int_beq_t,int_beq_f,int_bne_t,int_bne_f,nat_le_t,nat_le_f,Nat.sub_zero,Nat.sub_self,not_false_eq_true,not_true_eq_false,e,e1,hcx,s1,List.length_map]
      refine ⟨l.length - (i + 1), by omega, i + 1, rfl, by omega, rfl, fun j hj hji => ?_⟩
      by_cases hjj : j = i
      · subst hjj; exact hpx
      · exact hp j hj (by omega)
  · have : idxOf p l = -1 := idxOf_none fun x hx => by
      obtain ⟨j, hj, rfl⟩ := List.getElem_of_mem hx
      exact hp j hj (by omega)
    rw [this]
    simp (maxSteps := 2000000) (discharger := omega) only [xz,xc,xo,xr,x0,x1,x2,x3,x4,x5,x6,xd,xe,xb,kont_call,kont_pure,kont_round,isNil,slOk,sliceV,selems,srcElems,copyTo,dlen,eqAV,eqCells,eqS,upd,wr,place,partVals,partEs,placeEs,mapOf,keyOk,keyCells,findK,Bool.bne_false,Bool.bne_true,Reg.isA,Reg.isV,Reg.stays,Reg.onto,↓reduceIte,reduceCtorEq,Nat.reduceEqDiff,Nat.reduceLT,Nat.reduceAdd,Nat.reduceMul,Nat.reduceLeDiff,Nat.zero_lt_succ,Option.bind_some,Option.getD_some,Option.getD_none,Int.cast_ofNat_Int,Int.natCast_zero,Int.natCast_nonneg,true_implies,or_true,true_or,false_or,or_false,beq_self_eq_true,exists_eq_left',Int.reduceEq,Int.reduceLT,Int.reduceLE,Int.reduceGT,Int.reduceGE,Nat.reduceGT,Int.reduceNeg,Int.reduceToNat,Int.reduceAdd,Int.reduceMul,Int.reduceSub,Int.reducePow,decide_eq_true_eq,Nat.reduceBEq,Nat.reduceSub,exists_false,wrap_i64,int_lt_t,int_lt_f,int_le_t,int_le_f,int_gt_t,int_gt_f,int_ge_t,int_ge_f,int_eq_t,int_eq_f,int_beq_t,int_beq_f,int_bne_t,int_bne_f,nat_le_t,nat_le_f,Nat.sub_zero,Nat.sub_self,not_false_eq_true,not_true_eq_false,hlen]

theorem c32 {tot : Bool} {ω : Nat → Nat} {n B : Nat} (v : AV) (l : List Tb) (p : Tb → Bool) (g : FuncId) (fs caps : List AV) (lo : Nat) (h : Hp) (hr : RowAt h 5 lo (l.map tbOf) v)
    (hc : ∀ n, B < n → ∀ x ∈ l, call F n tot ω g (fs ++ [tbOf x] ++ caps) h = some (.bool (p x), h)) (hl : l.length ≤ 1000000) (hn : B + l.length + 4 < n) :
    call F n tot ω 32 [v, .fn (.func g) fs caps] h = some (.bool (l.any p), h) := by
  obtain ⟨n, rfl⟩ : ∃ m, n = m + 1 := ⟨n - 1, by omega⟩
  refine call_eq (fn := a32) f32 ?_
  unfold a32
  have e1 := c21 v l p g fs caps lo h hr hc hl (n := n) (by omega)
  simp (maxSteps := 2000000) (discharger := omega) only [xz,xc,xo,xr,x0,x1,x2,x3,x4,x5,x6,xd,xe,xb,kont_call,kont_pure,kont_round,isNil,slOk,sliceV,selems,srcElems,copyTo,dlen,eqAV,eqCells,eqS,upd,wr,place,partVals,partEs,placeEs,mapOf,keyOk,keyCells,findK,Bool.bne_false,Bool.bne_true,Reg.isA,Reg.isV,Reg.stays,Reg.onto,↓reduceIte,reduceCtorEq,Nat.reduceEqDiff,Nat.reduceLT,Nat.reduceAdd,Nat.reduceMul,Nat.reduceLeDiff,Nat.zero_lt_succ,Option.bind_some,Option.getD_some,Option.getD_none,Int.cast_ofNat_Int,Int.natCast_zero,Int.natCast_nonneg,true_implies,or_true,true_or,false_or,or_false,beq_self_eq_true,exists_eq_left',Int.reduceEq,Int.reduceLT,Int.reduceLE,Int.reduceGT,Int.reduceGE,Nat.reduceGT,Int.reduceNeg,Int.reduceToNat,Int.reduceAdd,Int.reduceMul,Int.reduceSub,Int.reducePow,decide_eq_true_eq,Nat.reduceBEq,Nat.reduceSub,exists_false,wrap_i64,int_lt_t,int_lt_f,int_le_t,int_le_f,int_gt_t,int_gt_f,int_ge_t,int_ge_f,int_eq_t,int_eq_f,int_beq_t,int_beq_f,int_bne_t,int_bne_f,nat_le_t,nat_le_f,Nat.sub_zero,Nat.sub_self,not_false_eq_true,not_true_eq_false,e1,idxOf_any]

theorem c23 {tot : Bool} {ω : Nat → Nat} {n : Nat} (v : AV) (es : List AV) (i lo : Nat) (h : Hp) (hr : RowAt h 5 lo es v) (hi : i < es.length) (hl : es.length ≤ 1000000) (hn : 2 < n) :
    ∃ v' h', call F n tot ω 23 [v, .int .i64 i, .int .i64 ((i : Int) + 1)] h = some (v', h') ∧ RowAt h' 5 lo (es.eraseIdx i) v' ∧ KeepR lo 5 h h' := by
  obtain ⟨n, rfl⟩ : ∃ m, n = m + 1 := ⟨n - 1, by omega⟩
  suffices hx : ∃ v' h', call F (n + 1) tot ω 23 [v, .int .i64 i, .int .i64 ((i : Int) + 1)] h = some (v', h') ∧ RowAt h' 5 lo (es.eraseIdx i) v' ∧ KeepR lo 5 h h' from hx
  obtain ⟨id, post, rfl, e, g⟩ := hr.row hi
  refine call_of (fn := a23) f23 (P := fun v' h' => RowAt h' 5 lo (es.eraseIdx i) v' ∧ KeepR lo 5 h h') ?_
  unfold a23
  have hlt := (List.getElem?_eq_some_iff.1 e).1
  have t1 : ((i : Int) + 1).toNat = i + 1 := by omega
  have hel := row_el (es := es) (post := post) (k := es.length - (i + 1)) (i := i + 1) (by omega)
  have her : es.eraseIdx i = es.take i ++ es.drop (i + 1) := by rw [List.eraseIdx_eq_take_drop_succ]
  have hel2 : (es.eraseIdx i).length = es.length - 1 := by rw [List.length_eraseIdx]; simp [hi]
  have hgs : ∀ o, (h.set id o)[id]? = some o := fun o => by simp [hlt]
  by_cases hend : i + 1 = es.length
  · have hx : es.drop (i + 1) = [] := List.drop_of_length_le (by omega)
    rw [hx] at hel her
    have t2 : ((i : Int) + 1) = (es.length : Int) := by omega
    have t3 : es.length - (i + 1) = 0 := by omega
    simp (maxSteps := 2000000) (discharger := omega) only [xz,xc,xo,xr,x0,x1,x2,x3,x4,x5,x6,xd,xe,xb,kont_call,kont_pure,kont_round,isNil,slOk,sliceV,selems,srcElems,copyTo,dlen,eqAV,eqCells,eqS,upd,wr,place,partVals,partEs,placeEs,mapOf,keyOk,keyCells,findK,Bool.bne_false,Bool.bne_true,Reg.isA,Reg.isV,Reg.stays,Reg.onto,↓reduceIte,reduceCtorEq,Nat.reduceEqDiff,Nat.reduceLT,Nat.reduceAdd,Nat.reduceMul,Nat.reduceLeDiff,Nat.zero_lt_succ,Option.bind_some,Option.getD_some,Option.getD_none,Int.cast_ofNat_Int,Int.natCast_zero,Int.natCast_nonneg,true_implies,or_true,true_or,false_or,or_false,beq_self_eq_true,exists_eq_left',Int.reduceEq,Int.reduceLT,Int.reduceLE,Int.reduceGT,Int.reduceGE,Nat.reduceGT,Int.reduceNeg,Int.reduceToNat,Int.reduceAdd,Int.reduceMul,Int.reduceSub,Int.reducePow,decide_eq_true_eq,Nat.reduceBEq,Nat.reduceSub,exists_false,wrap_i64,int_lt_t,int_lt_f,int_le_t,int_le_f,int_gt_t,int_gt_f,int_ge_t,int_ge_f,int_eq_t,int_eq_f,int_beq_t,int_beq_f,int_bne_t,int_bne_f,nat_le_t,nat_le_f,Nat.sub_zero,Nat.sub_self,not_false_eq_true,not_true_eq_false,appendV,Im.newRow,t1,t2,t3,e,hx,hgs,List.length_append]
    refine ⟨.mk (hgs _) ?_ (by omega) g, .set e g⟩
    rw [her, List.append_nil, List.take_append_of_le_length (by simp; omega), List.take_take, List.take_append_of_le_length (by omega)]
    simp
  · have hxn : (es.drop (i + 1) = []) = False := eq_false (by
      intro h0
      have := congrArg List.length h0
      simp at this; omega)
    have hR : ((es ++ post).take i ++ (es.drop (i + 1) ++ (es ++ post).drop (i + (es.length - (i + 1))))).length = es.length + post.length := by simp; omega
    simp (maxSteps := 2000000) (discharger := omega) only [xz,xc,xo,xr,x0,x1,x2,x3,x4,x5,x6,xd,xe,xb,kont_call,kont_pure,kont_round,isNil,slOk,sliceV,selems,srcElems,copyTo,dlen,eqAV,eqCells,eqS,upd,wr,place,partVals,partEs,placeEs,mapOf,keyOk,keyCells,findK,Bool.bne_false,Bool.bne_true,Reg.isA,Reg.isV,Reg.stays,Reg.onto,↓reduceIte,reduceCtorEq,Nat.reduceEqDiff,Nat.reduceLT,Nat.reduceAdd,Nat.reduceMul,Nat.reduceLeDiff,Nat.zero_lt_succ,Option.bind_some,Option.getD_some,Option.getD_none,Int.cast_ofNat_Int,Int.natCast_zero,Int.natCast_nonneg,true_implies,or_true,true_or,false_or,or_false,beq_self_eq_true,exists_eq_left',Int.reduceEq,Int.reduceLT,Int.reduceLE,Int.reduceGT,Int.reduceGE,Nat.reduceGT,Int.reduceNeg,Int.reduceToNat,Int.reduceAdd,Int.reduceMul,Int.reduceSub,Int.reducePow,decide_eq_true_eq,Nat.reduceBEq,Nat.reduceSub,exists_false,wrap_i64,int_lt_t,int_lt_f,int_le_t,int_le_f,int_gt_t,int_gt_f,int_ge_t,int_ge_f,int_eq_t,int_eq_f,int_beq_t,int_beq_f,int_bne_t,int_bne_f,nat_le_t,nat_le_f,Nat.sub_zero,Nat.sub_self,not_false_eq_true,not_true_eq_false,appendV,Im.newRow,t1,e,hel,hxn,hgs,List.length_append,List.length_drop,List.length_take,hR]
    refine ⟨.mk (get_set_self (by rw [List.length_set]; exact hlt)) ?_ (by omega) g, (KeepR.set e g).trans (.set (hgs _) g)⟩
    rw [List.take_append_of_le_length (by rw [List.length_take, hR]; omega), List.take_take, Nat.min_self, her, List.take_append_of_le_length (l₂ := post) (by omega)]
    have e1 : (es.take i).length = i := by simp; omega
    have e2 : (es.drop (i + 1)).length = es.length - (i + 1) := by simp
    rw [← List.append_assoc, List.take_append_of_le_length (by simp; omega), List.take_of_length_le (by simp; omega)]
theorem c12 {tot : Bool} {ω : Nat → Nat} {n : Nat} (v : AV) (es : List AV) (lo : Nat) (h : Hp) (hr : RowAt h 2 lo es v) (hl : es.length ≤ 1000000) (hn : 2 < n) :
    ∃ v' m, call F n tot ω 12 [v] h = some (v', h ++ m) ∧ RowAt (h ++ m) 2 h.length es v' := by
  obtain ⟨n, rfl⟩ : ∃ m, n = m + 1 := ⟨n - 1, by omega⟩
  rcases hr with ⟨rfl, rfl⟩ | ⟨id, post, rfl, e, g⟩
  · refine ⟨.nils, [], ?_, .inl ⟨rfl, rfl⟩⟩
    rw [List.append_nil]
    refine call_eq (fn := a12) f12 ?_
    unfold a12
    simp (maxSteps := 2000000) (discharger := omega) only [xz,xc,xo,xr,x0,x1,x2,x3,x4,x5,x6,xd,xe,xb,kont_call,kont_pure,kont_round,isNil,slOk,sliceV,selems,srcElems,copyTo,dlen,eqAV,eqCells,eqS,upd,wr,place,partVals,partEs,placeEs,mapOf,keyOk,keyCells,findK,Bool.bne_false,Bool.bne_true,Reg.isA,Reg.isV,Reg.stays,Reg.onto,↓reduceIte,reduceCtorEq,Nat.reduceEqDiff,Nat.reduceLT,Nat.reduceAdd,Nat.reduceMul,Nat.reduceLeDiff,Nat.zero_lt_succ,Option.bind_some,Option.getD_some,Option.getD_none,Int.cast_ofNat_Int,Int.natCast_zero,Int.natCast_nonneg,true_implies,or_true,true_or,false_or,or_false,beq_self_eq_true,exists_eq_left',Int.reduceEq,Int.reduceLT,Int.reduceLE,Int.reduceGT,Int.reduceGE,Nat.reduceGT,Int.reduceNeg,Int.reduceToNat,Int.reduceAdd,Int.reduceMul,Int.reduceSub,Int.reducePow,decide_eq_true_eq,Nat.reduceBEq,Nat.reduceSub,exists_false,wrap_i64,int_lt_t,int_lt_f,int_le_t,int_le_f,int_gt_t,int_gt_f,int_ge_t,int_ge_f,int_eq_t,int_eq_f,int_beq_t,int_beq_f,int_bne_t,int_bne_f,nat_le_t,nat_le_f,Nat.sub_zero,Nat.sub_self,not_false_eq_true,not_true_eq_false]
  · obtain ⟨v', m, e1, e2⟩ := row_all (h := h) (sz := 2) (es := es) (bytes := 16) (by omega)
    refine ⟨v', m, ?_, e2⟩
    refine call_eq (fn := a12) f12 ?_
    unfold a12
    have e3 : (h ++ [AO.row 2 []])[id]? = some (.row 2 (es ++ post)) := by
      rw [List.getElem?_append_left (List.getElem?_eq_some_iff.1 e).1]; exact e
    simp (maxSteps := 2000000) (discharger := omega) only [xz,xc,xo,xr,x0,x1,x2,x3,x4,x5,x6,xd,xe,xb,kont_call,kont_pure,kont_round,isNil,slOk,sliceV,selems,srcElems,copyTo,dlen,eqAV,eqCells,eqS,upd,wr,place,partVals,partEs,placeEs,mapOf,keyOk,keyCells,findK,Bool.bne_false,Bool.bne_true,Reg.isA,Reg.isV,Reg.stays,Reg.onto,↓reduceIte,reduceCtorEq,Nat.reduceEqDiff,Nat.reduceLT,Nat.reduceAdd,Nat.reduceMul,Nat.reduceLeDiff,Nat.zero_lt_succ,Option.bind_some,Option.getD_some,Option.getD_none,Int.cast_ofNat_Int,Int.natCast_zero,Int.natCast_nonneg,true_implies,or_true,true_or,false_or,or_false,beq_self_eq_true,exists_eq_left',Int.reduceEq,Int.reduceLT,Int.reduceLE,Int.reduceGT,Int.reduceGE,Nat.reduceGT,Int.reduceNeg,Int.reduceToNat,Int.reduceAdd,Int.reduceMul,Int.reduceSub,Int.reducePow,decide_eq_true_eq,Nat.reduceBEq,Nat.reduceSub,exists_false,wrap_i64,int_lt_t,int_lt_f,int_le_t,int_le_f,int_gt_t,int_gt_f,int_ge_t,int_ge_f,int_eq_t,int_eq_f,int_beq_t,int_beq_f,int_bne_t,int_bne_f,nat_le_t,nat_le_f,Nat.sub_zero,Nat.sub_self,not_false_eq_true,not_true_eq_false,e1,e3,List.replicate_zero,List.length_append,Nat.le_add_right,List.take_left']

theorem c24 {tot : Bool} {ω : Nat → Nat} {n B : Nat} (v : AV) (l : List Sr) (p : Sr → Bool) (g : FuncId) (fs caps : List AV) (lo : Nat) (h : Hp) (hr : RowAt h 2 lo (l.map srOf) v)
    (hc : ∀ n, B < n → ∀ x ∈ l, call F n tot ω g (fs ++ [srOf x] ++ caps) h = some (.bool (p x), h)) (hl : l.length ≤ 1000000) (hn : B + l.length + 3 < n) :
    call F n tot ω 24 [v, .fn (.func g) fs caps] h = some (.int .i64 (idxOf p l), h) := by
  obtain ⟨n, rfl⟩ : ∃ m, n = m + 1 := ⟨n - 1, by omega⟩
  refine call_eq (fn := a24) f24 ?_
  unfold a24
  have hlen := hr.len
  rw [List.length_map] at hlen
  simp (maxSteps := 2000000) (discharger := omega) only [xz,xc,xo,xr,x0,x1,x2,x3,x4,x5,x6,xd,xe,xb,kont_call,kont_pure,kont_round,isNil,slOk,sliceV,selems,srcElems,copyTo,dlen,eqAV,eqCells,eqS,upd,wr,place,partVals,partEs,placeEs,mapOf,keyOk,keyCells,findK,Bool.bne_false,Bool.bne_true,Reg.isA,Reg.isV,Reg.stays,Reg.onto,↓reduceIte,reduceCtorEq,Nat.reduceEqDiff,Nat.reduceLT,Nat.reduceAdd,Nat.reduceMul,Nat.reduceLeDiff,Nat.zero_lt_succ,Option.bind_some,Option.getD_some,Option.getD_none,Int.cast_ofNat_Int,Int.natCast_zero,Int.natCast_nonneg,true_implies,or_true,true_or,false_or,or_false,beq_self_eq_true,exists_eq_left',Int.reduceEq,Int.reduceLT,Int.reduceLE,Int.reduceGT,Int.reduceGE,Nat.reduceGT,Int.reduceNeg,Int.reduceToNat,Int.reduceAdd,Int.reduceMul,Int.reduceSub,Int.reducePow,decide_eq_true_eq,Nat.reduceBEq,Nat.reduceSub,exists_false,wrap_i64,int_lt_t,int_lt_f,int_le_t,int_le_f,int_gt_t,int_gt_f,int_ge_t,int_ge_f,int_eq_t,int_eq_f,int_beq_t,int_beq_f,int_bne_t,int_bne_f,nat_le_t,nat_le_f,Nat.sub_zero,Nat.sub_self,not_false_eq_true,not_true_eq_false,hlen]
  refine wpi_loop (fun k r h' => ∃ i : Nat, r = [(0, .val v), (1, .val (.fn (.func g) fs caps)), (7, .val (.int .i64 l.length)), (8, .val (.int .i64 i))] ∧ i ≤ l.length ∧ k = l.length - i ∧ (∀ j (hj : j < l.length), j < i → p l[j] = false) ∧ h' = h) l.length (by omega) ⟨0, rfl, by omega, by omega, by omega, rfl⟩ ?_
  rintro k r h' ⟨i, rfl, hi, rfl, hp, rfl⟩
  by_cases hlt : i < l.length
  · obtain ⟨id, post, rfl, e, _⟩ := hr.row (i := i) (by simpa using hlt)
    have e1 := at_map (f := srOf) hlt post
    have hcx := hc n (by omega) l[i] (List.getElem_mem _)
    have s1 : ∀ x : Sr, sub (srOf x) 0 2 true = some (srOf x) := fun x => rfl
    cases hpx : p l[i] with
    | true =>
      rw [hpx] at hcx
      rw [idxOf_at hlt hpx fun j hj => hp j (by omega) hj]
      simp (maxSteps := 2000000) (discharger := omega) only [xz,xc,xo,xr,x0,x1,x2,x3,x4,x5,x6,xd,xe,xb,kont_call,kont_pure,kont_round,isNil,slOk,sliceV,selems,srcElems,copyTo,dlen,eqAV,eqCells,eqS,upd,wr,place,partVals,partEs,placeEs,mapOf,keyOk,keyCells,findK,Bool.bne_false,Bool.bne_true,Reg.isA,Reg.isV,Reg.stays,Reg.onto,↓reduceIte,reduceCtorEq,Nat.reduceEqDiff,Nat.reduceLT,Nat.reduceAdd,Nat.reduceMul,Nat.reduceLeDiff,Nat.zero_lt_succ,Option.bind_some,Option.getD_some,Option.getD_none,Int.cast_ofNat_Int,Int.natCast_zero,Int.natCast_nonneg,true_implies,or_true,true_or,false_or,or_false,beq_self_eq_true,exists_eq_left',Int.reduceEq,Int.reduceLT,Int.reduceLE,Int.reduceGT,Int.reduceGE,Nat.reduceGT,Int.reduceNeg,Int.reduceToNat,Int.reduceAdd,Int.reduceMul,Int.reduceSub,Int.reducePow,decide_eq_true_eq,Nat.reduceBEq,Nat.reduceSub,exists_false,wrap_i64,int_lt_t,int_lt_f,int_le_t,int_le_f,int_gt_t,int_gt_f,int_ge_t,int_ge_f,int_eq_t,int_eq_f,int_beq_t,int_beq_f,int_bne_t,int_bne_f,nat_le_t,nat_le_f,Nat.sub_zero,Nat.sub_self,not_false_eq_true,not_true_eq_false,e,e1,hcx,s1,List.length_map]
    | false =>
      rw [hpx] at hcx
      simp (maxSteps := 2000000) (discharger := omega) only [xz,xc,xo,xr,x0,x1,x2,x3,x4,x5,x6,xd,xe,xb,kont_call,kont_pure,kont_round,isNil,slOk,sliceV,selems,srcElems,copyTo,dlen,eqAV,eqCells,eqS,upd,wr,place,partVals,partEs,placeEs,mapOf,keyOk,keyCells,findK,Bool.bne_false,Bool.bne_true,Reg.isA,Reg.isV,Reg.stays,Reg.onto,↓reduceIte,reduceCtorEq,Nat.reduceEqDiff,Nat.reduceLT,Nat.reduceAdd,Nat.reduceMul,Nat.reduceLeDiff,Nat.zero_lt_succ,Option.bind_some,Option.getD_some,Option.getD_none,Int.cast_ofNat_Int,Int.natCast_zero,Int.natCast_nonneg,true_implies,or_true,true_or,false_or,or_false,beq_self_eq_true,exists_eq_left',Int.reduceEq,Int.reduceLT,Int.reduceLE,Int.reduceGT,Int.reduceGE,Nat.reduceGT,Int.reduceNeg,Int.reduceToNat,Int.reduceAdd,Int.reduceMul,Int.reduceSub,Int.reducePow,decide_eq_true_eq,Nat.reduceBEq,Nat.reduceSub,exists_false,wrap_i64,int_lt_t,int_lt_f,int_le_t,int_le_f,int_gt_t,int_gt_f,int_ge_t,int_ge_f,int_eq_t,int_eq_f,int_beq_t,int_beq_f,int_bne_t,int_bne_f,nat_le_t,nat_le_f,Nat.sub_zero,Nat.sub_self,not_false_eq_true,not_true_eq_false,e,e1,hcx,s1,List.length_map]
      refine ⟨l.length - (i + 1), by omega, i + 1, rfl, by omega, rfl, fun j hj hji => ?_⟩
      by_cases hjj : j = i
      · subst hjj; exact hpx
      · exact hp j hj (by omega)
  · have : idxOf p l = -1 := idxOf_none fun x hx => by
      obtain ⟨j, hj, rfl⟩ := List.getElem_of_mem hx
      exact hp j hj (by omega)
    rw [this]
    simp (maxSteps := 2000000) (discharger := omega) only [xz,xc,xo,xr,x0,x1,x2,x3,x4,x5,x6,xd,xe,xb,kont_call,kont_pure,kont_round,isNil,slOk,sliceV,selems,srcElems,copyTo,dlen,eqAV,eqCells,eqS,upd,wr,place,partVals,partEs,placeEs,mapOf,keyOk,keyCells,findK,Bool.bne_false,Bool.bne_true,Reg.isA,Reg.isV,Reg.stays,Reg.onto,↓reduceIte,reduceCtorEq,Nat.reduceEqDiff,Nat.reduceLT,Nat.reduceAdd,Nat.reduceMul,Nat.reduceLeDiff,Nat.zero_lt_succ,Option.bind_some,Option.getD_some,Option.getD_none,Int.cast_ofNat_Int,Int.natCast_zero,Int.natCast_nonneg,true_implies,or_true,true_or,false_or,or_false,beq_self_eq_true,exists_eq_left',Int.reduceEq,Int.reduceLT,Int.reduceLE,Int.reduceGT,Int.reduceGE,Nat.reduceGT,Int.reduceNeg,Int.reduceToNat,Int.reduceAdd,Int.reduceMul,Int.reduceSub,Int.reducePow,decide_eq_true_eq,Nat.reduceBEq,Nat.reduceSub,exists_false,wrap_i64,int_lt_t,int_lt_f,int_le_t,int_le_f,int_gt_t,int_gt_f,int_ge_t,int_ge_f,int_eq_t,int_eq_f,int_beq_t,int_beq_f,int_bne_t,int_bne_f,nat_le_t,nat_le_f,Nat.sub_zero,Nat.sub_self,not_false_eq_true,not_true_eq_false,hlen]

theorem c34 {tot : Bool} {ω : Nat → Nat} {n B : Nat} (v : AV) (l : List Sr) (p : Sr → Bool) (g : FuncId) (fs caps : List AV) (lo : Nat) (h : Hp) (hr : RowAt h 2 lo (l.map srOf) v)
    (hc : ∀ n, B < n → ∀ x ∈ l, call F n tot ω g (fs ++ [srOf x] ++ caps) h = some (.bool (p x), h)) (hl : l.length ≤ 1000000) (hn : B + l.length + 4 < n) :
    call F n tot ω 34 [v, .fn (.func g) fs caps] h = some (.bool (l.any p), h) := by
  obtain ⟨n, rfl⟩ : ∃ m, n = m + 1 := ⟨n - 1, by omega⟩
  refine call_eq (fn := a34) f34 ?_
  unfold a34
  have e1 := c24 v l p g fs caps lo h hr hc hl (n := n) (by omega)
  simp (maxSteps := 2000000) (discharger := omega) only [xz,xc,xo,xr,x0,x1,x2,x3,x4,x5,x6,xd,xe,xb,kont_call,kont_pure,kont_round,isNil,slOk,sliceV,selems,srcElems,copyTo,dlen,eqAV,eqCells,eqS,upd,wr,place,partVals,partEs,placeEs,mapOf,keyOk,keyCells,findK,Bool.bne_false,Bool.bne_true,Reg.isA,Reg.isV,Reg.stays,Reg.onto,↓reduceIte,reduceCtorEq,Nat.reduceEqDiff,Nat.reduceLT,Nat.reduceAdd,Nat.reduceMul,Nat.reduceLeDiff,Nat.zero_lt_succ,Option.bind_some,Option.getD_some,Option.getD_none,Int.cast_ofNat_Int,Int.natCast_zero,Int.natCast_nonneg,true_implies,or_true,true_or,false_or,or_false,beq_self_eq_true,exists_eq_left',Int.reduceEq,Int.reduceLT,Int.reduceLE,Int.reduceGT,Int.reduceGE,Nat.reduceGT,Int.reduceNeg,Int.reduceToNat,Int.reduceAdd,Int.reduceMul,Int.reduceSub,Int.reducePow,decide_eq_true_eq,Nat.reduceBEq,Nat.reduceSub,exists_false,wrap_i64,int_lt_t,int_lt_f,int_le_t,int_le_f,int_gt_t,int_gt_f,int_ge_t,int_ge_f,int_eq_t,int_eq_f,int_beq_t,int_beq_f,int_bne_t,int_bne_f,nat_le_t,nat_le_f,Nat.sub_zero,Nat.sub_self,not_false_eq_true,not_true_eq_false,e1,idxOf_any]

theorem c26 {tot : Bool} {ω : Nat → Nat} {n : Nat} (v : AV) (es : List AV) (i lo : Nat) (h : Hp) (hr : RowAt h 2 lo es v) (hi : i < es.length) (hl : es.length ≤ 1000000) (hn : 2 < n) :
    ∃ v' h', call F n tot ω 26 [v, .int .i64 i, .int .i64 ((i : Int) + 1)] h = some (v', h') ∧ RowAt h' 2 lo (es.eraseIdx i) v' ∧ KeepR lo 2 h h' := by
  obtain ⟨n, rfl⟩ : ∃ m, n = m + 1 := ⟨n - 1, by omega⟩
  suffices hx : ∃ v' h', call F (n + 1) tot ω 26 [v, .int .i64 i, .int .i64 ((i : Int) + 1)] h = some (v', h') ∧ RowAt h' 2 lo (es.eraseIdx i) v' ∧ KeepR lo 2 h h' from hx
  obtain ⟨id, post, rfl, e, g⟩ := hr.row hi
  refine call_of (fn := a26) f26 (P := fun v' h' => RowAt h' 2 lo (es.eraseIdx i) v' ∧ KeepR lo 2 h h') ?_
  unfold a26
  have hlt := (List.getElem?_eq_some_iff.1 e).1
  have t1 : ((i : Int) + 1).toNat = i + 1 := by omega
  have hel := row_el (es := es) (post := post) (k := es.length - (i + 1)) (i := i + 1) (by omega)
  have her : es.eraseIdx i = es.take i ++ es.drop (i + 1) := by rw [List.eraseIdx_eq_take_drop_succ]
  have hel2 : (es.eraseIdx i).length = es.length - 1 := by rw [List.length_eraseIdx]; simp [hi]
  have hgs : ∀ o, (h.set id o)[id]? = some o := fun o => by simp [hlt]
  by_cases hend : i + 1 = es.length
  · have hx : es.drop (i + 1) = [] := List.drop_of_length_le (by omega)
    rw [hx] at hel her
    have t2 : ((i : Int) + 1) = (es.length : Int) := by omega
    have t3 : es.length - (i + 1) = 0 := by omega
    simp (maxSteps := 2000000) (discharger := omega) only [xz,xc,xo,xr,x0,x1,x2,x3,x4,x5,x6,xd,xe,xb,kont_call,kont_pure,kont_round,isNil,slOk,sliceV,selems,srcElems,copyTo,dlen,eqAV,eqCells,eqS,upd,wr,place,partVals,partEs,placeEs,mapOf,keyOk,keyCells,findK,Bool.bne_false,Bool.bne_true,Reg.isA,Reg.isV,Reg.stays,Reg.onto,↓reduceIte,reduceCtorEq,Nat.reduceEqDiff,Nat.reduceLT,Nat.reduceAdd,Nat.reduceMul,Nat.reduceLeDiff,Nat.zero_lt_succ,Option.bind_some,Option.getD_some,Option.getD_none,Int.cast_ofNat_Int,Int.natCast_zero,Int.natCast_nonneg,true_implies,or_true,true_or,false_or,or_false,beq_self_eq_true,exists_eq_left',Int.reduceEq,Int.reduceLT,Int.reduceLE,Int.reduceGT,Int.reduceGE,Nat.reduceGT,Int.reduceNeg,Int.reduceToNat,Int.reduceAdd,Int.reduceMul,Int.reduceSub,Int.reducePow,decide_eq_true_eq,Nat.reduceBEq,Nat.reduceSub,exists_false,wrap_i64,int_lt_t,int_lt_f,int_le_t,int_le_f,int_gt_t,int_gt_f,int_ge_t,int_ge_f,int_eq_t,int_eq_f,int_beq_t,int_beq_f,int_bne_t,int_bne_f,nat_le_t,nat_le_f,Nat.sub_zero,Nat.sub_self,not_false_eq_true,not_true_eq_false,appendV,Im.newRow,t1,t2,t3,e,hx,hgs,List.length_append]
    refine ⟨.mk (hgs _) ?_ (by omega) g, .set e g⟩
    rw [her, List.append_nil, List.take_append_of_le_length (by simp; omega), List.take_take, List.take_append_of_le_length (by omega)]
    simp
  · have hxn : (es.drop (i + 1) = []) = False := eq_false (by
      intro h0
      have := congrArg List.length h0
      simp at this; omega)
    have hR : ((es ++ post).take i ++ (es.drop (i + 1) ++ (es ++ post).drop (i + (es.length - (i + 1))))).length = es.length + post.length := by simp; omega
    simp (maxSteps := 2000000) (discharger := omega) only [xz,xc,xo,xr,x0,x1,x2,x3,x4,x5,x6,xd,xe,xb,kont_call,kont_pure,kont_round,isNil,slOk,sliceV,selems,srcElems,copyTo,dlen,eqAV,eqCells,eqS,upd,wr,place,partVals,partEs,placeEs,mapOf,keyOk,keyCells,findK,Bool.bne_false,Bool.bne_true,Reg.isA,Reg.isV,Reg.stays,Reg.onto,↓reduceIte,reduceCtorEq,Nat.reduceEqDiff,Nat.reduceLT,Nat.reduceAdd,Nat.reduceMul,Nat.reduceLeDiff,Nat.zero_lt_succ,Option.bind_some,Option.getD_some,Option.getD_none,Int.cast_ofNat_Int,Int.natCast_zero,Int.natCast_nonneg,true_implies,or_true,true_or,false_or,or_false,beq_self_eq_true,exists_eq_left',Int.reduceEq,Int.reduceLT,Int.reduceLE,Int.reduceGT,Int.reduceGE,Nat.reduceGT,Int.reduceNeg,Int.reduceToNat,Int.reduceAdd,Int.reduceMul,Int.reduceSub,Int.reducePow,decide_eq_true_eq,Nat.reduceBEq,Nat.reduceSub,exists_false,wrap_i64,int_lt_t,int_lt_f,int_le_t,int_le_f,int_gt_t,int_gt_f,int_ge_t,int_ge_f,int_eq_t,int_eq_f,int_beq_t,int_beq_f,int_bne_t,int_bne_f,nat_le_t,nat_le_f,Nat.sub_zero,Nat.sub_self,not_false_eq_true,not_true_eq_false,appendV,Im.newRow,t1,e,hel,hxn,hgs,List.length_append,List.length_drop,List.length_take,hR]
    refine ⟨.mk (get_set_self (by rw [List.length_set]; exact hlt)) ?_ (by omega) g, (KeepR.set e g).trans (.set (hgs _) g)⟩
    rw [List.take_append_of_le_length (by rw [List.length_take, hR]; omega), List.take_take, Nat.min_self, her, List.take_append_of_le_length (l₂ := post) (by omega)]
    have e1 : (es.take i).length = i := by simp; omega
    have e2 : (es.drop (i + 1)).length = es.length - (i + 1) := by simp
    rw [← List.append_assoc, List.take_append_of_le_length (by simp; omega), List.take_of_length_le (by simp; omega)]
theorem c13 {tot : Bool} {ω : Nat → Nat} {n : Nat} (v : AV) (es : List AV) (lo : Nat) (h : Hp) (hr : RowAt h 1 lo es v) (hl : es.length ≤ 1000000) (hn : 2 < n) :
    ∃ v' m, call F n tot ω 13 [v] h = some (v', h ++ m) ∧ RowAt (h ++ m) 1 h.length es v' := by
  obtain ⟨n, rfl⟩ : ∃ m, n = m + 1 := ⟨n - 1, by omega⟩
  rcases hr with ⟨rfl, rfl⟩ | ⟨id, post, rfl, e, g⟩
  · refine ⟨.nils, [], ?_, .inl ⟨rfl, rfl⟩⟩
    rw [List.append_nil]
    refine call_eq (fn := a13) f13 ?_
    unfold a13
    simp (maxSteps := 2000000) (discharger := omega) only [xz,xc,xo,xr,x0,x1,x2,x3,x4,x5,x6,xd,xe,xb,kont_call,kont_pure,kont_round,isNil,slOk,sliceV,selems,srcElems,copyTo,dlen,eqAV,eqCells,eqS,upd,wr,place,partVals,partEs,placeEs,mapOf,keyOk,keyCells,findK,Bool.bne_false,Bool.bne_true,Reg.isA,Reg.isV,Reg.stays,Reg.onto,↓reduceIte,reduceCtorEq,Nat.reduceEqDiff,Nat.reduceLT,Nat.reduceAdd,Nat.reduceMul,Nat.reduceLeDiff,Nat.zero_lt_succ,Option.bind_some,Option.getD_some,Option.getD_none,Int.cast_ofNat_Int,Int.natCast_zero,Int.natCast_nonneg,true_implies,or_true,true_or,false_or,or_false,beq_self_eq_true,exists_eq_left',Int.reduceEq,Int.reduceLT,Int.reduceLE,Int.reduceGT,Int.reduceGE,Nat.reduceGT,Int.reduceNeg,Int.reduceToNat,Int.reduceAdd,Int.reduceMul,Int.reduceSub,Int.reducePow,decide_eq_true_eq,Nat.reduceBEq,Nat.reduceSub,exists_false,wrap_i64,int_lt_t,int_lt_f,int_le_t,int_le_f,int_gt_t,int_gt_f,int_ge_t,int_ge_f,int_eq_t,int_eq_f,int_beq_t,int_beq_f,int_bne_t,int_bne_f,nat_le_t,nat_le_f,Nat.sub_zero,Nat.sub_self,not_false_eq_true,not_true_eq_false]
  · obtain ⟨v', m, e1, e2⟩ := row_all (h := h) (sz := 1) (es := es) (bytes := 8) (by omega)
    refine ⟨v', m, ?_, e2⟩
    refine call_eq (fn := a13) f13 ?_
    unfold a13
    have e3 : (h ++ [AO.row 1 []])[id]? = some (.row 1 (es ++ post)) := by
      rw [List.getElem?_append_left (List.getElem?_eq_some_iff.1 e).1]; exact e
    simp (maxSteps := 2000000) (discharger := omega) only [xz,xc,xo,xr,x0,x1,x2,x3,x4,x5,x6,xd,xe,xb,kont_call,kont_pure,kont_round,isNil,slOk,sliceV,selems,srcElems,copyTo,dlen,eqAV,eqCells,eqS,upd,wr,place,partVals,partEs,placeEs,mapOf,keyOk,keyCells,findK,Bool.bne_false,Bool.bne_true,Reg.isA,Reg.isV,Reg.stays,Reg.onto,↓reduceIte,reduceCtorEq,Nat.reduceEqDiff,Nat.reduceLT,Nat.reduceAdd,Nat.reduceMul,Nat.reduceLeDiff,Nat.zero_lt_succ,Option.bind_some,Option.getD_some,Option.getD_none,Int.cast_ofNat_Int,Int.natCast_zero,Int.natCast_nonneg,true_implies,or_true,true_or,false_or,or_false,beq_self_eq_true,exists_eq_left',Int.reduceEq,Int.reduceLT,Int.reduceLE,Int.reduceGT,Int.reduceGE,Nat.reduceGT,Int.reduceNeg,Int.reduceToNat,Int.reduceAdd,Int.reduceMul,Int.reduceSub,Int.reducePow,decide_eq_true_eq,Nat.reduceBEq,Nat.reduceSub,exists_false,wrap_i64,int_lt_t,int_lt_f,int_le_t,int_le_f,int_gt_t,int_gt_f,int_ge_t,int_ge_f,int_eq_t,int_eq_f,int_beq_t,int_beq_f,int_bne_t,int_bne_f,nat_le_t,nat_le_f,Nat.sub_zero,Nat.sub_self,not_false_eq_true,not_true_eq_false,e1,e3,List.replicate_zero,List.length_append,Nat.le_add_right,List.take_left']

theorem c28 {tot : Bool} {ω : Nat → Nat} {n : Nat} (v : AV) (es : List AV) (i lo : Nat) (h : Hp) (hr : RowAt h 1 lo es v) (hi : i < es.length) (hl : es.length ≤ 1000000) (hn : 2 < n) :
    ∃ v' h', call F n tot ω 28 [v, .int .i64 i, .int .i64 ((i : Int) + 1)] h = some (v', h') ∧ RowAt h' 1 lo (es.eraseIdx i) v' ∧ KeepR lo 1 h h' := by
  obtain ⟨n, rfl⟩ : ∃ m, n = m + 1 := ⟨n - 1, by omega⟩
  suffices hx : ∃ v' h', call F (n + 1) tot ω 28 [v, .int .i64 i, .int .i64 ((i : Int) + 1)] h = some (v', h') ∧ RowAt h' 1 lo (es.eraseIdx i) v' ∧ KeepR lo 1 h h' from hx
  obtain ⟨id, post, rfl, e, g⟩ := hr.row hi
  refine call_of (fn := a28) f28 (P := fun v' h' => RowAt h' 1 lo (es.eraseIdx i) v' ∧ KeepR lo 1 h h') ?_
  unfold a28
  have hlt := (List.getElem?_eq_some_iff.1 e).1
  have t1 : ((i : Int) + 1).toNat = i + 1 := by omega
  have hel := row_el (es := es) (post := post) (k := es.length - (i + 1)) (i := i + 1) (by omega)
  have her : es.eraseIdx i = es.take i ++ es.drop (i + 1) := by rw [List.eraseIdx_eq_take_drop_succ]
  have hel2 : (es.eraseIdx i).length = es.length - 1 := by rw [List.length_eraseIdx]; simp [hi]
  have hgs : ∀ o, (h.set id o)[id]? = some o := fun o => by simp [hlt]
  by_cases hend : i + 1 = es.length
  · have hx : es.drop (i + 1) = [] := List.drop_of_length_le (by omega)
    rw [hx] at hel her
    have t2 : ((i : Int) + 1) = (es.length : Int) := by omega
    have t3 : es.length - (i + 1) = 0 := by omega
    simp (maxSteps := 2000000) (discharger := omega) only [xz,xc,xo,xr,x0,x1,x2,x3,x4,x5,x6,xd,xe,xb,kont_call,kont_pure,kont_round,isNil,slOk,sliceV,selems,srcElems,copyTo,dlen,eqAV,eqCells,eqS,upd,wr,place,partVals,partEs,placeEs,mapOf,keyOk,keyCells,findK,Bool.bne_false,Bool.bne_true,Reg.isA,Reg.isV,Reg.stays,Reg.onto,↓reduceIte,reduceCtorEq,Nat.reduceEqDiff,Nat.reduceLT,Nat.reduceAdd,Nat.reduceMul,Nat.reduceLeDiff,Nat.zero_lt_succ,Option.bind_some,Option.getD_some,Option.getD_none,Int.cast_ofNat_Int,Int.natCast_zero,Int.natCast_nonneg,true_implies,or_true,true_or,false_or,or_false,beq_self_eq_true,exists_eq_left',Int.reduceEq,Int.reduceLT,Int.reduceLE,Int.reduceGT,Int.reduceGE,Nat.reduceGT,Int.reduceNeg,Int.reduceToNat,Int.reduceAdd,Int.reduceMul,Int.reduceSub,Int.reducePow,decide_eq_true_eq,Nat.reduceBEq,Nat.reduceSub,exists_false,wrap_i64,int_lt_t,int_lt_f,int_le_t,int_le_f,int_gt_t,int_gt_f,int_ge_t,int_ge_f,int_eq_t,int_eq_f,int_beq_t,int_beq_f,int_bne_t,int_bne_f,nat_le_t,nat_le_f,Nat.sub_zero,Nat.sub_self,not_false_eq_true,not_true_eq_false,appendV,Im.newRow,t1,t2,t3,e,hx,hgs,List.length_append]
    refine ⟨.mk (hgs _) ?_ (by omega) g, .set e g⟩
    rw [her, List.append_nil, List.take_append_of_le_length (by simp; omega), List.take_take, List.take_append_of_le_length (by omega)]
    simp
  · have hxn : (es.drop (i + 1) = []) = False := eq_false (by
      intro h0
      have := congrArg List.length h0
      simp at this; omega)
    have hR : ((es ++ post).take i ++ (es.drop (i + 1) ++ (es ++ post).drop (i + (es.length - (i + 1))))).length = es.length + post.length := by simp; omega
    simp (maxSteps := 2000000) (discharger := omega) only [xz,xc,xo,xr,x0,x1,x2,x3,x4,x5,x6,xd,xe,xb,kont_call,kont_pure,kont_round,isNil,slOk,sliceV,selems,srcElems,copyTo,dlen,eqAV,eqCells,eqS,upd,wr,place,partVals,partEs,placeEs,mapOf,keyOk,keyCells,findK,Bool.bne_false,Bool.bne_true,Reg.isA,Reg.isV,Reg.stays,Reg.onto,↓reduceIte,reduceCtorEq,Nat.reduceEqDiff,Nat.reduceLT,Nat.reduceAdd,Nat.reduceMul,Nat.reduceLeDiff,Nat.zero_lt_succ,Option.bind_some,Option.getD_some,Option.getD_none,Int.cast_ofNat_Int,Int.natCast_zero,Int.natCast_nonneg,true_implies,or_true,true_or,false_or,or_false,beq_self_eq_true,exists_eq_left',Int.reduceEq,Int.reduceLT,Int.reduceLE,Int.reduceGT,Int.reduceGE,Nat.reduceGT,Int.reduceNeg,Int.reduceToNat,Int.reduceAdd,Int.reduceMul,Int.reduceSub,Int.reducePow,decide_eq_true_eq,Nat.reduceBEq,Nat.reduceSub,exists_false,wrap_i64,int_lt_t,int_lt_f,int_le_t,int_le_f,int_gt_t,int_gt_f,int_ge_t,int_ge_f,int_eq_t,int_eq_f,int_beq_t,int_beq_f,int_bne_t,int_bne_f,nat_le_t,nat_le_f,Nat.sub_zero,Nat.sub_self,not_false_eq_true,not_true_eq_false,appendV,Im.newRow,t1,e,hel,hxn,hgs,List.length_append,List.length_drop,List.length_take,hR]
    refine ⟨.mk (get_set_self (by rw [List.length_set]; exact hlt)) ?_ (by omega) g, (KeepR.set e g).trans (.set (hgs _) g)⟩
    rw [List.take_append_of_le_length (by rw [List.length_take, hR]; omega), List.take_take, Nat.min_self, her, List.take_append_of_le_length (l₂ := post) (by omega)]
    have e1 : (es.take i).length = i := by simp; omega
    have e2 : (es.drop (i + 1)).length = es.length - (i + 1) := by simp
    rw [← List.append_assoc, List.take_append_of_le_length (by simp; omega), List.take_of_length_le (by simp; omega)]

theorem c27 {tot : Bool} {ω : Nat → Nat} {n : Nat} (v : AV) (l : List Int) (x : Int) (lo : Nat) (h : Hp) (hr : RowAt h 1 lo (l.map inOf) v) (hl : l.length ≤ 1000000) (hn : l.length + 3 < n) :
    call F n tot ω 27 [v, .int .i64 x] h = some (.int .i64 (idxOf (fun y => x == y) l), h) := by
  obtain ⟨n, rfl⟩ : ∃ m, n = m + 1 := ⟨n - 1, by omega⟩
  refine call_eq (fn := a27) f27 ?_
  unfold a27
  have hlen := hr.len
  rw [List.length_map] at hlen
  simp (maxSteps := 2000000) (discharger := omega) only [xz,xc,xo,xr,x0,x1,x2,x3,x4,x5,x6,xd,xe,xb,kont_call,kont_pure,kont_round,isNil,slOk,sliceV,selems,srcElems,copyTo,dlen,eqAV,eqCells,eqS,upd,wr,place,partVals,partEs,placeEs,mapOf,keyOk,keyCells,findK,Bool.bne_false,Bool.bne_true,Reg.isA,Reg.isV,Reg.stays,Reg.onto,↓reduceIte,reduceCtorEq,Nat.reduceEqDiff,Nat.reduceLT,Nat.reduceAdd,Nat.reduceMul,Nat.reduceLeDiff,Nat.zero_lt_succ,Option.bind_some,Option.getD_some,Option.getD_none,Int.cast_ofNat_Int,Int.natCast_zero,Int.natCast_nonneg,true_implies,or_true,true_or,false_or,or_false,beq_self_eq_true,exists_eq_left',Int.reduceEq,Int.reduceLT,Int.reduceLE,Int.reduceGT,Int.reduceGE,Nat.reduceGT,Int.reduceNeg,Int.reduceToNat,Int.reduceAdd,Int.reduceMul,Int.reduceSub,Int.reducePow,decide_eq_true_eq,Nat.reduceBEq,Nat.reduceSub,exists_false,wrap_i64,int_lt_t,int_lt_f,int_le_t,int_le_f,int_gt_t,int_gt_f,int_ge_t,int_ge_f,int_eq_t,int_eq_f,int_beq_t,int_beq_f,int_bne_t,int_bne_f,nat_le_t,nat_le_f,Nat.sub_zero,Nat.sub_self,not_false_eq_true,not_true_eq_false,hlen]
  refine wpi_loop (fun k r h' => ∃ i : Nat, r = [(0, .val v), (1, .val (.int .i64 x)), (7, .val (.int .i64 l.length)), (8, .val (.int .i64 i))] ∧ i ≤ l.length ∧ k = l.length - i ∧ (∀ j (hj : j < l.length), j < i → (x == l[j]) = false) ∧ h' = h) l.length (by omega) ⟨0, rfl, by omega, by omega, by omega, rfl⟩ ?_
  rintro k r h' ⟨i, rfl, hi, rfl, hp, rfl⟩
  by_cases hlt : i < l.length
  · obtain ⟨id, post, rfl, e, _⟩ := hr.row (i := i) (by simpa using hlt)
    have e1 := at_map (f := inOf) hlt post
    have s1 : ∀ x : Int, sub (inOf x) 0 1 false = some (.int .i64 x) := fun x => rfl
    cases hpx : x == l[i] with
    | true =>
      rw [idxOf_at hlt hpx fun j hj => hp j (by omega) hj]
      simp (maxSteps := 2000000) (discharger := omega) only [xz,xc,xo,xr,x0,x1,x2,x3,x4,x5,x6,xd,xe,xb,kont_call,kont_pure,kont_round,isNil,slOk,sliceV,selems,srcElems,copyTo,dlen,eqAV,eqCells,eqS,upd,wr,place,partVals,partEs,placeEs,mapOf,keyOk,keyCells,findK,Bool.bne_false,Bool.bne_true,Reg.isA,Reg.isV,Reg.stays,Reg.onto,↓reduceIte,reduceCtorEq,Nat.reduceEqDiff,Nat.reduceLT,Nat.reduceAdd,Nat.reduceMul,Nat.reduceLeDiff,Nat.zero_lt_succ,Option.bind_some,Option.getD_some,Option.getD_none,Int.cast_ofNat_Int,Int.natCast_zero,Int.natCast_nonneg,true_implies,or_true,true_or,false_or,or_false,beq_self_eq_true,exists_eq_left',Int.reduceEq,Int.reduceLT,Int.reduceLE,Int.reduceGT,Int.reduceGE,Nat.reduceGT,Int.reduceNeg,Int.reduceToNat,Int.reduceAdd,Int.reduceMul,Int.reduceSub,Int.reducePow,decide_eq_true_eq,Nat.reduceBEq,Nat.reduceSub,exists_false,wrap_i64,int_lt_t,int_lt_f,int_le_t,int_le_f,int_gt_t,int_gt_f,int_ge_t,int_ge_f,int_eq_t,int_eq_f,int_beq_t,int_beq_f,int_bne_t,int_bne_f,nat_le_t,nat_le_f,Nat.sub_zero,Nat.sub_self,not_false_eq_true,not_true_eq_false,e,e1,hpx,s1,List.length_map]
    | false =>
      simp (maxSteps := 2000000) (discharger := omega) only [xz,xc,xo,xr,x0,x1,x2,x3,x4,x5,x6,xd,xe,xb,kont_call,kont_pure,kont_round,isNil,slOk,sliceV,selems,srcElems,copyTo,dlen,eqAV,eqCells,eqS,upd,wr,place,partVals,partEs,placeEs,mapOf,keyOk,keyCells,findK,Bool.bne_false,Bool.bne_true,Reg.isA,Reg.isV,Reg.stays,Reg.onto,↓reduceIte,reduceCtorEq,Nat.reduceEqDiff,Nat.reduceLT,Nat.reduceAdd,Nat.reduceMul,Nat.reduceLeDiff,Nat.zero_lt_succ,Option.bind_some,Option.getD_some,Option.getD_none,Int.cast_ofNat_Int,Int.natCast_zero,Int.natCast_nonneg,true_implies,or_true,true_or,false_or,or_false,beq_self_eq_true,exists_eq_left',Int.reduceEq,Int.reduceLT,Int.reduceLE,Int.reduceGT,Int.reduceGE,Nat.reduceGT,Int.reduceNeg,Int.reduceToNat,Int.reduceAdd,Int.reduceMul,Int.reduceSub,Int.reducePow,decide_eq_true_eq,Nat.reduceBEq,Nat.reduceSub,exists_false,wrap_i64,int_lt_t,int_lt_f,int_le_t,int_le_f,int_gt_t,int_gt_f,int_ge_t,int_ge_f,int_eq_t,int_eq_f,int_beq_t,int_beq_f,int_bne_t,int_bne_f,nat_le_t,nat_le_f,Nat.sub_zero,Nat.sub_self,not_false_eq_true,not_true_eq_false,e,e1,hpx,s1,List.length_map]
      refine ⟨l.length - (i + 1), by omega, i + 1, rfl, by omega, rfl, fun j hj hji => ?_⟩
      by_cases hjj : j = i
      · subst hjj; exact hpx
      · exact hp j hj (by omega)
  · have : idxOf (fun y => x == y) l = -1 := idxOf_none fun y hy => by
      obtain ⟨j, hj, rfl⟩ := List.getElem_of_mem hy
      exact hp j hj (by omega)
    rw [this]
    simp (maxSteps := 2000000) (discharger := omega) only [xz,xc,xo,xr,x0,x1,x2,x3,x4,x5,x6,xd,xe,xb,kont_call,kont_pure,kont_round,isNil,slOk,sliceV,selems,srcElems,copyTo,dlen,eqAV,eqCells,eqS,upd,wr,place,partVals,partEs,placeEs,mapOf,keyOk,keyCells,findK,Bool.bne_false,Bool.bne_true,Reg.isA,Reg.isV,Reg.stays,Reg.onto,↓reduceIte,reduceCtorEq,Nat.reduceEqDiff,Nat.reduceLT,Nat.reduceAdd,Nat.reduceMul,Nat.reduceLeDiff,Nat.zero_lt_succ,Option.bind_some,Option.getD_some,Option.getD_none,Int.cast_ofNat_Int,Int.natCast_zero,Int.natCast_nonneg,true_implies,or_true,true_or,false_or,or_false,beq_self_eq_true,exists_eq_left',Int.reduceEq,Int.reduceLT,Int.reduceLE,Int.reduceGT,Int.reduceGE,Nat.reduceGT,Int.reduceNeg,Int.reduceToNat,Int.reduceAdd,Int.reduceMul,Int.reduceSub,Int.reducePow,decide_eq_true_eq,Nat.reduceBEq,Nat.reduceSub,exists_false,wrap_i64,int_lt_t,int_lt_f,int_le_t,int_le_f,int_gt_t,int_gt_f,int_ge_t,int_ge_f,int_eq_t,int_eq_f,int_beq_t,int_beq_f,int_bne_t,int_bne_f,nat_le_t,nat_le_f,Nat.sub_zero,Nat.sub_self,not_false_eq_true,not_true_eq_false,hlen]

theorem c36 {tot : Bool} {ω : Nat → Nat} {n : Nat} (v : AV) (l : List Int) (x : Int) (lo : Nat) (h : Hp) (hr : RowAt h 1 lo (l.map inOf) v) (hl : l.length ≤ 1000000) (hn : l.length + 4 < n) :
    call F n tot ω 36 [v, .int .i64 x] h = some (.bool (l.any fun y => x == y), h) := by
  obtain ⟨n, rfl⟩ : ∃ m, n = m + 1 := ⟨n - 1, by omega⟩
  refine call_eq (fn := a36) f36 ?_
  unfold a36
  have e1 := c27 (tot := tot) (ω := ω) v l x lo h hr hl (n := n) (by omega)
  simp (maxSteps := 2000000) (discharger := omega) only [xz,xc,xo,xr,x0,x1,x2,x3,x4,x5,x6,xd,xe,xb,kont_call,kont_pure,kont_round,isNil,slOk,sliceV,selems,srcElems,copyTo,dlen,eqAV,eqCells,eqS,upd,wr,place,partVals,partEs,placeEs,mapOf,keyOk,keyCells,findK,Bool.bne_false,Bool.bne_true,Reg.isA,Reg.isV,Reg.stays,Reg.onto,↓reduceIte,reduceCtorEq,Nat.reduceEqDiff,Nat.reduceLT,Nat.reduceAdd,Nat.reduceMul,Nat.reduceLeDiff,Nat.zero_lt_succ,Option.bind_some,Option.getD_some,Option.getD_none,Int.cast_ofNat_Int,Int.natCast_zero,Int.natCast_nonneg,true_implies,or_true,true_or,false_or,or_false,beq_self_eq_true,exists_eq_left',Int.reduceEq,Int.reduceLT,Int.reduceLE,Int.reduceGT,Int.reduceGE,Nat.reduceGT,Int.reduceNeg,Int.reduceToNat,Int.reduceAdd,Int.reduceMul,Int.reduceSub,Int.reducePow,decide_eq_true_eq,Nat.reduceBEq,Nat.reduceSub,exists_false,wrap_i64,e1,idxOf_any]

theorem c33 {tot : Bool} {ω : Nat → Nat} {n : Nat} (t : Tb) (p : Nat) (x : Int) (h : Hp) (hp : h[p]? = some (.row 1 [.int .i64 x])) (hn : 1 < n) : call F n tot ω 33 [tbOf t, .ptr p 1 0 0] h = some (.bool (t.f == x), h) := by
  obtain ⟨n, rfl⟩ : ∃ m, n = m + 1 := ⟨n - 1, by omega⟩
  refine call_eq (fn := a33) f33 ?_
  unfold a33 tbOf
  simp (maxSteps := 2000000) (discharger := omega) only [xz,xc,xo,xr,x0,x1,x2,x3,x4,x5,x6,xd,xe,xb,kont_call,kont_pure,kont_round,isNil,slOk,sliceV,selems,srcElems,copyTo,dlen,eqAV,eqCells,eqS,upd,wr,place,partVals,partEs,placeEs,mapOf,keyOk,keyCells,findK,Bool.bne_false,Bool.bne_true,Reg.isA,Reg.isV,Reg.stays,Reg.onto,↓reduceIte,reduceCtorEq,Nat.reduceEqDiff,Nat.reduceLT,Nat.reduceAdd,Nat.reduceMul,Nat.reduceLeDiff,Nat.zero_lt_succ,Option.bind_some,Option.getD_some,Option.getD_none,Int.cast_ofNat_Int,Int.natCast_zero,Int.natCast_nonneg,true_implies,or_true,true_or,false_or,or_false,beq_self_eq_true,exists_eq_left',Int.reduceEq,Int.reduceLT,Int.reduceLE,Int.reduceGT,Int.reduceGE,Nat.reduceGT,Int.reduceNeg,Int.reduceToNat,Int.reduceAdd,Int.reduceMul,Int.reduceSub,Int.reducePow,decide_eq_true_eq,Nat.reduceBEq,Nat.reduceSub,exists_false,wrap_i64,int_lt_t,int_lt_f,int_le_t,int_le_f,int_gt_t,int_gt_f,int_ge_t,int_ge_f,int_eq_t,int_eq_f,int_beq_t,int_beq_f,int_bne_t,int_bne_f,nat_le_t,nat_le_f,Nat.sub_zero,Nat.sub_self,not_false_eq_true,not_true_eq_false,hp]
theorem c35 {tot : Bool} {ω : Nat → Nat} {n : Nat} (t : Sr) (p : Nat) (x : Int) (h : Hp) (hp : h[p]? = some (.row 1 [.int .i64 x])) (hn : 1 < n) : call F n tot ω 35 [srOf t, .ptr p 1 0 0] h = some (.bool (t.f == x), h) := by
  obtain ⟨n, rfl⟩ : ∃ m, n = m + 1 := ⟨n - 1, by omega⟩
  refine call_eq (fn := a35) f35 ?_
  unfold a35 srOf
  simp (maxSteps := 2000000) (discharger := omega) only [xz,xc,xo,xr,x0,x1,x2,x3,x4,x5,x6,xd,xe,xb,kont_call,kont_pure,kont_round,isNil,slOk,sliceV,selems,srcElems,copyTo,dlen,eqAV,eqCells,eqS,upd,wr,place,partVals,partEs,placeEs,mapOf,keyOk,keyCells,findK,Bool.bne_false,Bool.bne_true,Reg.isA,Reg.isV,Reg.stays,Reg.onto,↓reduceIte,reduceCtorEq,Nat.reduceEqDiff,Nat.reduceLT,Nat.reduceAdd,Nat.reduceMul,Nat.reduceLeDiff,Nat.zero_lt_succ,Option.bind_some,Option.getD_some,Option.getD_none,Int.cast_ofNat_Int,Int.natCast_zero,Int.natCast_nonneg,true_implies,or_true,true_or,false_or,or_false,beq_self_eq_true,exists_eq_left',Int.reduceEq,Int.reduceLT,Int.reduceLE,Int.reduceGT,Int.reduceGE,Nat.reduceGT,Int.reduceNeg,Int.reduceToNat,Int.reduceAdd,Int.reduceMul,Int.reduceSub,Int.reducePow,decide_eq_true_eq,Nat.reduceBEq,Nat.reduceSub,exists_false,wrap_i64,int_lt_t,int_lt_f,int_le_t,int_le_f,int_gt_t,int_gt_f,int_ge_t,int_ge_f,int_eq_t,int_eq_f,int_beq_t,int_beq_f,int_bne_t,int_bne_f,nat_le_t,nat_le_f,Nat.sub_zero,Nat.sub_self,not_false_eq_true,not_true_eq_false,hp]
theorem c22 {tot : Bool} {ω : Nat → Nat} {n : Nat} (t : Tb) (p : Nat) (x : Ed) (h : Hp) (hp : h[p]? = some (.row 6 [edOf x])) (hn : 1 < n) : call F n tot ω 22 [tbOf t, .ptr p 6 0 0] h = some (.bool (t.f == x.f), h) := by
  obtain ⟨n, rfl⟩ : ∃ m, n = m + 1 := ⟨n - 1, by omega⟩
  refine call_eq (fn := a22) f22 ?_
  unfold a22 tbOf
  unfold edOf at hp
  simp (maxSteps := 2000000) (discharger := omega) only [xz,xc,xo,xr,x0,x1,x2,x3,x4,x5,x6,xd,xe,xb,kont_call,kont_pure,kont_round,isNil,slOk,sliceV,selems,srcElems,copyTo,dlen,eqAV,eqCells,eqS,upd,wr,place,partVals,partEs,placeEs,mapOf,keyOk,keyCells,findK,Bool.bne_false,Bool.bne_true,Reg.isA,Reg.isV,Reg.stays,Reg.onto,↓reduceIte,reduceCtorEq,Nat.reduceEqDiff,Nat.reduceLT,Nat.reduceAdd,Nat.reduceMul,Nat.reduceLeDiff,Nat.zero_lt_succ,Option.bind_some,Option.getD_some,Option.getD_none,Int.cast_ofNat_Int,Int.natCast_zero,Int.natCast_nonneg,true_implies,or_true,true_or,false_or,or_false,beq_self_eq_true,exists_eq_left',Int.reduceEq,Int.reduceLT,Int.reduceLE,Int.reduceGT,Int.reduceGE,Nat.reduceGT,Int.reduceNeg,Int.reduceToNat,Int.reduceAdd,Int.reduceMul,Int.reduceSub,Int.reducePow,decide_eq_true_eq,Nat.reduceBEq,Nat.reduceSub,exists_false,wrap_i64,int_lt_t,int_lt_f,int_le_t,int_le_f,int_gt_t,int_gt_f,int_ge_t,int_ge_f,int_eq_t,int_eq_f,int_beq_t,int_beq_f,int_bne_t,int_bne_f,nat_le_t,nat_le_f,Nat.sub_zero,Nat.sub_self,not_false_eq_true,not_true_eq_false,hp]
theorem c25 {tot : Bool} {ω : Nat → Nat} {n : Nat} (t : Sr) (p : Nat) (x : Ed) (h : Hp) (hp : h[p]? = some (.row 6 [edOf x])) (hn : 1 < n) : call F n tot ω 25 [srOf t, .ptr p 6 0 0] h = some (.bool (t.f == x.f), h) := by
  obtain ⟨n, rfl⟩ : ∃ m, n = m + 1 := ⟨n - 1, by omega⟩
  refine call_eq (fn := a25) f25 ?_
  unfold a25 srOf
  unfold edOf at hp
  simp (maxSteps := 2000000) (discharger := omega) only [xz,xc,xo,xr,x0,x1,x2,x3,x4,x5,x6,xd,xe,xb,kont_call,kont_pure,kont_round,isNil,slOk,sliceV,selems,srcElems,copyTo,dlen,eqAV,eqCells,eqS,upd,wr,place,partVals,partEs,placeEs,mapOf,keyOk,keyCells,findK,Bool.bne_false,Bool.bne_true,Reg.isA,Reg.isV,Reg.stays,Reg.onto,↓reduceIte,reduceCtorEq,Nat.reduceEqDiff,Nat.reduceLT,Nat.reduceAdd,Nat.reduceMul,Nat.reduceLeDiff,Nat.zero_lt_succ,Option.bind_some,Option.getD_some,Option.getD_none,Int.cast_ofNat_Int,Int.natCast_zero,Int.natCast_nonneg,true_implies,or_true,true_or,false_or,or_false,beq_self_eq_true,exists_eq_left',Int.reduceEq,Int.reduceLT,Int.reduceLE,Int.reduceGT,Int.reduceGE,Nat.reduceGT,Int.reduceNeg,Int.reduceToNat,Int.reduceAdd,Int.reduceMul,Int.reduceSub,Int.reducePow,decide_eq_true_eq,Nat.reduceBEq,Nat.reduceSub,exists_false,wrap_i64,int_lt_t,int_lt_f,int_le_t,int_le_f,int_gt_t,int_gt_f,int_ge_t,int_ge_f,int_eq_t,int_eq_f,int_beq_t,int_beq_f,int_bne_t,int_bne_f,nat_le_t,nat_le_f,Nat.sub_zero,Nat.sub_self,not_false_eq_true,not_true_eq_false,hp]

end Go.Proofs.Ytabpndekmpjmhaa.Im

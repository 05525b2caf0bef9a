/- S18N: the sketch of bytes, as the reference reckons it. -/
import Derived.Test.YtdjlcddkfjbebaaM
set_option linter.unusedVariables false
set_option linter.unusedSimpArgs false
open Go Go.Im
namespace Go.Proofs.Ytdjlcddkfjbebaa.Im

def sumS (bs : List UInt8) : Int := bs.foldl (fun x b => (x * 257 + b.toNat) % 4294967296) 0

theorem foldS_lt : ∀ (bs : List UInt8) (x : Int), 0 ≤ x → x < 4294967296 → 0 ≤ bs.foldl (fun x b => (x * 257 + (b.toNat : Int)) % 4294967296) x ∧ bs.foldl (fun x b => (x * 257 + (b.toNat : Int)) % 4294967296) x < 4294967296
  | [], x, h1, h2 => ⟨h1, h2⟩
  | b :: bs, x, h1, h2 => by
    simp only [List.foldl_cons]
    exact foldS_lt bs _ (by omega) (by omega)
theorem sumS_lt (bs : List UInt8) : 0 ≤ sumS bs ∧ sumS bs < 4294967296 := foldS_lt bs 0 (by omega) (by omega)
theorem sumS_snoc (bs : List UInt8) (b : UInt8) : sumS (bs ++ [b]) = (sumS bs * 257 + b.toNat) % 4294967296 := by
  unfold sumS; rw [List.foldl_append]; rfl

theorem sumS_take (bs : List UInt8) (i : Nat) (hi : i < bs.length) : sumS (bs.take (i + 1)) = (sumS (bs.take i) * 257 + bs[i].toNat) % 4294967296 := by
  rw [List.take_succ_eq_append_getElem hi, sumS_snoc]

def big (bs : List UInt8) (x : Int) : Int := bs.foldl (fun x b => x * 257 + b.toNat) x

theorem big_mod : ∀ (bs : List UInt8) (x : Int), bs.foldl (fun x b => (x * 257 + (b.toNat : Int)) % 4294967296) (x % 4294967296) = big bs x % 4294967296
  | [], x => rfl
  | b :: bs, x => by
    simp only [List.foldl_cons,big]
    rw [show ((x % 4294967296) * 257 + (b.toNat : Int)) % 4294967296 = (x * 257 + b.toNat) % 4294967296 by omega]
    exact big_mod bs _
theorem sumS_big (bs : List UInt8) : sumS bs = big bs 0 % 4294967296 := big_mod bs 0
theorem big_add : ∀ (bs : List UInt8) (x : Int), big bs x = x * 257 ^ bs.length + big bs 0
  | [], x => by simp [big]
  | b :: bs, x => by
    have h1 := big_add bs (x * 257 + b.toNat)
    have h2 := big_add bs (0 * 257 + b.toNat)
    simp only [big,List.foldl_cons,List.length_cons] at h1 h2 ⊢
    rw [h1, h2, Int.pow_succ]
    grind

theorem roll (x b : UInt8) (l : List UInt8) (hl : l.length = 7) : sumS (l ++ [b]) = ((sumS (x :: l) * 257 + b.toNat) % 4294967296 - x.toNat * 941361153 % 4294967296) % 4294967296 := by
  have h1 := sumS_snoc (x :: l) b
  have h2 := sumS_big (x :: (l ++ [b]))
  have h3 := sumS_big (l ++ [b])
  have h4 := big_add (l ++ [b]) (0 * 257 + (x.toNat : Int))
  have h5 : big (x :: (l ++ [b])) 0 = big (l ++ [b]) (0 * 257 + (x.toNat : Int)) := rfl
  have h6 : (l ++ [b]).length = 8 := by simp [hl]
  rw [h6] at h4
  rw [List.cons_append] at h1
  have h7 : (257 : Int) ^ 8 = 19031147999601100801 := by decide
  rw [h7] at h4
  omega

def numS (h seed row : Int) : Int :=
  let v := (bitsI .xor .u32 h ((seed + row) % 4294967296 * 40503 % 4294967296) * (2654435761 * ((2 * row + 1) % 4294967296) % 4294967296)) % 4294967296
  bitsI .xor .u32 v (v / 32768)

theorem wrap64_mod32 (x : Int) : IntKind.i64.wrap x % 4294967296 = x % 4294967296 := by
  simp [IntKind.wrap,IntKind.signed,IntKind.bits]
  omega

theorem bits_u32 (op : BinOp) (a b : Int) : 0 ≤ bitsI op .u32 a b ∧ bitsI op .u32 a b ≤ 4294967295 := by
  simp only [bitsI,wrap_u32_mod]
  omega
theorem numS_le (h seed row : Int) : 0 ≤ numS h seed row ∧ numS h seed row ≤ 4294967295 := by unfold numS; exact bits_u32 _ _ _

theorem c22 {tot : Bool} {ω : Nat → Nat} {n : Nat} (hn : 0 < n) (x seed row : Int) (h : Hp) (hr : 0 ≤ row) (hr' : row ≤ 7) : call F n tot ω 22 [.int .u32 x, .int .i64 seed, .int .i64 row] h = some (.int .u32 (numS x seed row), h) := by
  obtain ⟨n, rfl⟩ : ∃ m, n = m + 1 := ⟨n - 1, by omega⟩
  refine call_eq (fn := a22) f22 ?_
  unfold a22
  simp (maxSteps := 2000000) (discharger := omega) only [xc,xo,xr,x0,x1,x2,x3,x4,x5,x6,xd,xe,xb,kont_call,kont_pure,kont_round,isNil,slOk,sliceV,selems,srcElems,copyTo,dlen,eqAV,eqCells,eqS,upd,wr,place,partVals,partEs,placeEs,mapOf,keyOk,keyCells,findK,Bool.bne_false,Bool.bne_true,List.drop_zero,List.nil_append,List.append_nil,List.take_zero,List.cons_append,List.take_succ_cons,List.drop_succ_cons,List.take_nil,List.drop_nil,Reg.isA,Reg.isV,Reg.stays,Reg.onto,Bool.false_or,Bool.or_false,Bool.false_and,Bool.and_false,Bool.true_and,Bool.and_true,Bool.or_true,Bool.true_or,↓reduceIte,reduceCtorEq,Nat.reduceEqDiff,Nat.reduceLT,Nat.reduceAdd,Nat.reduceMul,Nat.add_zero,Nat.zero_add,Nat.not_lt_zero,Nat.zero_ne_one,Nat.one_ne_zero,Nat.reduceLeDiff,Nat.lt_irrefl,Nat.zero_lt_succ,Bool.false_eq_true,Bool.not_true,Bool.not_false,Option.map_some,Option.map_none,Option.bind_some,Option.getD_some,Option.getD_none,and_self,and_true,true_and,List.length_cons,List.length_nil,List.any_nil,List.any_cons,Int.toNat_natCast,Int.cast_ofNat_Int,Int.natCast_zero,Int.natCast_nonneg,true_implies,or_true,true_or,false_or,or_false,beq_self_eq_true,Option.some.injEq,exists_eq_left',Int.reduceEq,Int.reduceLT,Int.reduceLE,Int.reduceGT,Int.reduceGE,Nat.reduceGT,Int.reduceNeg,Int.reduceToNat,Int.reduceAdd,Int.reduceMul,Int.reduceSub,Int.reducePow,decide_true,decide_false,decide_eq_true_eq,List.getElem?_cons_zero,List.getElem?_cons_succ,Nat.reduceBEq,Nat.reduceSub,exists_false,and_false,false_and,wrap_i64,wrap_u32_mod,wrap64_mod32]
  have hf : ∀ v : Int, v.fdiv (2 ^ min 15 IntKind.u32.bits) = v / 32768 := fun v => by
    rw [show (2 : Int) ^ min 15 IntKind.u32.bits = 32768 from rfl]
    exact Int.fdiv_eq_ediv_of_nonneg _ (by omega)
  rw [hf]
  rfl
theorem c23 {tot : Bool} {ω : Nat → Nat} {n : Nat} (hn : 0 < n) (x seed row : Int) (h : Hp) (hr : 0 ≤ row) (hr' : row ≤ 7) (hx : 0 ≤ x) (hx' : x < 4294967296) : call F n tot ω 23 [.int .i64 x, .int .i64 seed, .int .i64 row] h = some (.int .u32 (numS x seed row), h) := by
  obtain ⟨n, rfl⟩ : ∃ m, n = m + 1 := ⟨n - 1, by omega⟩
  refine call_eq (fn := a23) f23 ?_
  unfold a23
  simp (maxSteps := 2000000) (discharger := omega) only [xc,xo,xr,x0,x1,x2,x3,x4,x5,x6,xd,xe,xb,kont_call,kont_pure,kont_round,isNil,slOk,sliceV,selems,srcElems,copyTo,dlen,eqAV,eqCells,eqS,upd,wr,place,partVals,partEs,placeEs,mapOf,keyOk,keyCells,findK,Bool.bne_false,Bool.bne_true,List.drop_zero,List.nil_append,List.append_nil,List.take_zero,List.cons_append,List.take_succ_cons,List.drop_succ_cons,List.take_nil,List.drop_nil,Reg.isA,Reg.isV,Reg.stays,Reg.onto,Bool.false_or,Bool.or_false,Bool.false_and,Bool.and_false,Bool.true_and,Bool.and_true,Bool.or_true,Bool.true_or,↓reduceIte,reduceCtorEq,Nat.reduceEqDiff,Nat.reduceLT,Nat.reduceAdd,Nat.reduceMul,Nat.add_zero,Nat.zero_add,Nat.not_lt_zero,Nat.zero_ne_one,Nat.one_ne_zero,Nat.reduceLeDiff,Nat.lt_irrefl,Nat.zero_lt_succ,Bool.false_eq_true,Bool.not_true,Bool.not_false,Option.map_some,Option.map_none,Option.bind_some,Option.getD_some,Option.getD_none,and_self,and_true,true_and,List.length_cons,List.length_nil,List.any_nil,List.any_cons,Int.toNat_natCast,Int.cast_ofNat_Int,Int.natCast_zero,Int.natCast_nonneg,true_implies,or_true,true_or,false_or,or_false,beq_self_eq_true,Option.some.injEq,exists_eq_left',Int.reduceEq,Int.reduceLT,Int.reduceLE,Int.reduceGT,Int.reduceGE,Nat.reduceGT,Int.reduceNeg,Int.reduceToNat,Int.reduceAdd,Int.reduceMul,Int.reduceSub,Int.reducePow,decide_true,decide_false,decide_eq_true_eq,List.getElem?_cons_zero,List.getElem?_cons_succ,Nat.reduceBEq,Nat.reduceSub,exists_false,and_false,false_and,wrap_i64,wrap_u32_mod]
  rw [show x % 4294967296 = x by omega, show (seed % 4294967296 + row % 4294967296) % 4294967296 = (seed + row) % 4294967296 by omega, show (2 * (row % 4294967296) % 4294967296 + 1) % 4294967296 = (2 * row + 1) % 4294967296 by omega]
  have hv : ∀ a b : Int, (a * b % 4294967296).tdiv 32768 % 4294967296 = a * b % 4294967296 / 32768 := fun a b => by
    generalize a * b = c
    rw [tdiv_pos (by omega)]
    omega
  rw [hv]
  rfl

theorem c24 {tot : Bool} {ω : Nat → Nat} {n : Nat} (bs : List UInt8) (cc : Cap) (h : Hp) (hl : bs.length < 4611686018427387904) (hn : bs.length + 2 < n) :
    call F n tot ω 24 [.imm 1 (bytesOf bs) cc] h = some (.int .i64 (sumS bs), h) := by
  obtain ⟨n, rfl⟩ : ∃ m, n = m + 1 := ⟨n - 1, by omega⟩
  refine call_eq (fn := a24) f24 ?_
  unfold a24
  simp only [xc,xo,xr,x0,x1,x2,x3,x4,x5,x6,xd,xe,xb,kont_call,kont_pure,kont_round,isNil,slOk,sliceV,selems,srcElems,copyTo,dlen,eqAV,eqCells,eqS,upd,wr,place,partVals,partEs,placeEs,mapOf,keyOk,keyCells,findK,Bool.bne_false,Bool.bne_true,List.drop_zero,List.nil_append,List.append_nil,List.take_zero,List.cons_append,List.take_succ_cons,List.drop_succ_cons,List.take_nil,List.drop_nil,Reg.isA,Reg.isV,Reg.stays,Reg.onto,Bool.false_or,Bool.or_false,Bool.false_and,Bool.and_false,Bool.true_and,Bool.and_true,Bool.or_true,Bool.true_or,↓reduceIte,reduceCtorEq,Nat.reduceEqDiff,Nat.reduceLT,Nat.reduceAdd,Nat.reduceMul,Nat.add_zero,Nat.zero_add,Nat.not_lt_zero,Nat.zero_ne_one,Nat.one_ne_zero,Nat.reduceLeDiff,Nat.lt_irrefl,Nat.zero_lt_succ,Bool.false_eq_true,Bool.not_true,Bool.not_false,Option.map_some,Option.map_none,Option.bind_some,Option.getD_some,Option.getD_none,and_self,and_true,true_and,List.length_cons,List.length_nil,List.any_nil,List.any_cons,Int.toNat_natCast,Int.cast_ofNat_Int,Int.natCast_zero,Int.natCast_nonneg,true_implies,or_true,true_or,false_or,or_false,beq_self_eq_true,Option.some.injEq,exists_eq_left',Int.reduceEq,Int.reduceLT,Int.reduceLE,Int.reduceGT,Int.reduceGE,Nat.reduceGT,Int.reduceNeg,Int.reduceToNat,Int.reduceAdd,Int.reduceMul,Int.reduceSub,Int.reducePow,decide_true,decide_false,decide_eq_true_eq,List.getElem?_cons_zero,List.getElem?_cons_succ,Nat.reduceBEq,Nat.reduceSub,exists_false,and_false,false_and]
  refine wpi_loop (fun k r h' => ∃ i : Nat, r = [(0, .val (.imm 1 (bytesOf bs) cc)), (3, .val (.int .i64 (sumS (bs.take i)))), (4, .val (.int .i64 i))] ∧ i ≤ bs.length ∧ k = bs.length - i ∧ h' = h) bs.length (by omega) ⟨0, rfl, by omega, by omega, rfl⟩ ?_
  rintro k r h' ⟨i, rfl, hi, rfl, rfl⟩
  by_cases hlt : i < bs.length
  · have e1 := bytesOf_get hlt
    have e2 := sumS_lt (bs.take i)
    have e3 := bs[i].toNat_lt
    simp (maxSteps := 2000000) (discharger := omega) only [xc,xo,xr,x0,x1,x2,x3,x4,x5,x6,xd,xe,xb,kont_call,kont_pure,kont_round,isNil,slOk,sliceV,selems,srcElems,copyTo,dlen,eqAV,eqCells,eqS,upd,wr,place,partVals,partEs,placeEs,mapOf,keyOk,keyCells,findK,Bool.bne_false,Bool.bne_true,List.drop_zero,List.nil_append,List.append_nil,List.take_zero,List.cons_append,List.take_succ_cons,List.drop_succ_cons,List.take_nil,List.drop_nil,Reg.isA,Reg.isV,Reg.stays,Reg.onto,Bool.false_or,Bool.or_false,Bool.false_and,Bool.and_false,Bool.true_and,Bool.and_true,Bool.or_true,Bool.true_or,↓reduceIte,reduceCtorEq,Nat.reduceEqDiff,Nat.reduceLT,Nat.reduceAdd,Nat.reduceMul,Nat.add_zero,Nat.zero_add,Nat.not_lt_zero,Nat.zero_ne_one,Nat.one_ne_zero,Nat.reduceLeDiff,Nat.lt_irrefl,Nat.zero_lt_succ,Bool.false_eq_true,Bool.not_true,Bool.not_false,Option.map_some,Option.map_none,Option.bind_some,Option.getD_some,Option.getD_none,and_self,and_true,true_and,List.length_cons,List.length_nil,List.any_nil,List.any_cons,Int.toNat_natCast,Int.cast_ofNat_Int,Int.natCast_zero,Int.natCast_nonneg,true_implies,or_true,true_or,false_or,or_false,beq_self_eq_true,Option.some.injEq,exists_eq_left',Int.reduceEq,Int.reduceLT,Int.reduceLE,Int.reduceGT,Int.reduceGE,Nat.reduceGT,Int.reduceNeg,Int.reduceToNat,Int.reduceAdd,Int.reduceMul,Int.reduceSub,Int.reducePow,decide_true,decide_false,decide_eq_true_eq,List.getElem?_cons_zero,List.getElem?_cons_succ,Nat.reduceBEq,Nat.reduceSub,exists_false,and_false,false_and,wrap_i64,e1,Int.ofNat_lt,hlt,tmod_pos]
    exact ⟨bs.length - (i + 1), by omega, i + 1, by rw [sumS_take _ _ hlt]; rfl, by omega, rfl⟩
  · simp only [xc,xo,xr,x0,x1,x2,x3,x4,x5,x6,xd,xe,xb,kont_call,kont_pure,kont_round,isNil,slOk,sliceV,selems,srcElems,copyTo,dlen,eqAV,eqCells,eqS,upd,wr,place,partVals,partEs,placeEs,mapOf,keyOk,keyCells,findK,Bool.bne_false,Bool.bne_true,List.drop_zero,List.nil_append,List.append_nil,List.take_zero,List.cons_append,List.take_succ_cons,List.drop_succ_cons,List.take_nil,List.drop_nil,Reg.isA,Reg.isV,Reg.stays,Reg.onto,Bool.false_or,Bool.or_false,Bool.false_and,Bool.and_false,Bool.true_and,Bool.and_true,Bool.or_true,Bool.true_or,↓reduceIte,reduceCtorEq,Nat.reduceEqDiff,Nat.reduceLT,Nat.reduceAdd,Nat.reduceMul,Nat.add_zero,Nat.zero_add,Nat.not_lt_zero,Nat.zero_ne_one,Nat.one_ne_zero,Nat.reduceLeDiff,Nat.lt_irrefl,Nat.zero_lt_succ,Bool.false_eq_true,Bool.not_true,Bool.not_false,Option.map_some,Option.map_none,Option.bind_some,Option.getD_some,Option.getD_none,and_self,and_true,true_and,List.length_cons,List.length_nil,List.any_nil,List.any_cons,Int.toNat_natCast,Int.cast_ofNat_Int,Int.natCast_zero,Int.natCast_nonneg,true_implies,or_true,true_or,false_or,or_false,beq_self_eq_true,Option.some.injEq,exists_eq_left',Int.reduceEq,Int.reduceLT,Int.reduceLE,Int.reduceGT,Int.reduceGE,Nat.reduceGT,Int.reduceNeg,Int.reduceToNat,Int.reduceAdd,Int.reduceMul,Int.reduceSub,Int.reducePow,decide_true,decide_false,decide_eq_true_eq,List.getElem?_cons_zero,List.getElem?_cons_succ,Nat.reduceBEq,Nat.reduceSub,exists_false,and_false,false_and,Int.ofNat_lt,hlt]
    rw [List.take_of_length_le (by omega)]
def rowK (bs : List UInt8) (n : Nat) (seed row : Int) : Nat → Int
  | 0 => 4294967295
  | k + 1 => if numS (sumS ((bs.drop k).take n)) seed row < rowK bs n seed row k then numS (sumS ((bs.drop k).take n)) seed row else rowK bs n seed row k

def wid (bs : List UInt8) : Nat := if bs.length < 8 then bs.length else 8
def many (bs : List UInt8) : Nat := if bs.length = 0 then 0 else bs.length - wid bs + 1
def rowsOf (bs : List UInt8) (seed : Int) (r : Nat) : Int := rowK bs (wid bs) seed r (many bs)

def arr8 (f : Nat → Int) : List AV := (List.range 8).map fun r => .int .u32 (f r)
theorem arr8_len (f : Nat → Int) : (arr8 f).length = 8 := by simp [arr8]
theorem arr8_get (f : Nat → Int) {i : Nat} (hi : i < 8) : (arr8 f)[i]? = some (.int .u32 (f i)) := by simp [arr8,hi]
theorem arr8_set (f : Nat → Int) {i : Nat} (v : Int) : (arr8 f).set i (.int .u32 v) = arr8 fun r => if r = i then v else f r := by
  apply List.ext_getElem?
  intro j
  rw [List.getElem?_set]
  by_cases hj : j < 8
  · by_cases hij : i = j
    · subst hij; simp [arr8,hj]
    · rw [if_neg hij, arr8_get f hj, arr8_get _ hj]; simp [Ne.symm hij]
  · have h1 : (arr8 f)[j]? = none := List.getElem?_eq_none (by rw [arr8_len]; omega)
    have h2 : (arr8 fun r => if r = i then v else f r)[j]? = none := List.getElem?_eq_none (by rw [arr8_len]; omega)
    rw [h1, h2, arr8_len]
    split
    · rw [if_neg (by omega)]
    · rfl
theorem arr8_congr {f g : Nat → Int} (h : ∀ r, r < 8 → f r = g r) : arr8 f = arr8 g := by
  unfold arr8
  exact List.map_congr_left fun r hr => by rw [h r (by simpa using hr)]
theorem arr8_zero : [AV.int .u32 0, .int .u32 0, .int .u32 0, .int .u32 0, .int .u32 0, .int .u32 0, .int .u32 0, .int .u32 0] = arr8 fun _ => 0 := rfl
theorem arr8_drop (f : Nat → Int) : (arr8 f).drop 8 = [] := List.drop_of_length_le (by rw [arr8_len]; omega)
theorem arr8_take (f : Nat → Int) : (arr8 f).take 8 = arr8 f := List.take_of_length_le (by rw [arr8_len]; omega)

def IsB (bs : List UInt8) (v : AV) : Prop := (v = .nils ∧ bs = []) ∨ v = .imm 1 (bytesOf bs) .no
theorem IsB.len {bs : List UInt8} {v : AV} (h : IsB bs v) : lenSl v = some bs.length := by
  rcases h with ⟨rfl, rfl⟩ | rfl
  · rfl
  · simp [lenSl,bytesOf]

theorem c10 {tot : Bool} {ω : Nat → Nat} {n : Nat} (bs : List UInt8) (v : AV) (seed : Int) (h : Hp) (hv : IsB bs v) (hl : bs.length ≤ 6000) (hn : 6040 < n) :
    call F n tot ω 10 [v, .int .i64 seed] h = some (.agg (arr8 (rowsOf bs seed)), h) := by
  obtain ⟨n, rfl⟩ : ∃ m, n = m + 1 := ⟨n - 1, by omega⟩
  refine call_eq (fn := a10) f10 ?_
  unfold a10
  have hlen := hv.len
  simp only [xc,xo,xr,x0,x1,x2,x3,x4,x5,x6,xd,xe,xb,kont_call,kont_pure,kont_round,isNil,slOk,sliceV,selems,srcElems,copyTo,dlen,eqAV,eqCells,eqS,upd,wr,place,partVals,partEs,placeEs,mapOf,keyOk,keyCells,findK,Bool.bne_false,Bool.bne_true,List.drop_zero,List.nil_append,List.append_nil,List.take_zero,List.cons_append,List.take_succ_cons,List.drop_succ_cons,List.take_nil,List.drop_nil,Reg.isA,Reg.isV,Reg.stays,Reg.onto,Bool.false_or,Bool.or_false,Bool.false_and,Bool.and_false,Bool.true_and,Bool.and_true,Bool.or_true,Bool.true_or,↓reduceIte,reduceCtorEq,Nat.reduceEqDiff,Nat.reduceLT,Nat.reduceAdd,Nat.reduceMul,Nat.add_zero,Nat.zero_add,Nat.not_lt_zero,Nat.zero_ne_one,Nat.one_ne_zero,Nat.reduceLeDiff,Nat.lt_irrefl,Nat.zero_lt_succ,Bool.false_eq_true,Bool.not_true,Bool.not_false,Option.map_some,Option.map_none,Option.bind_some,Option.getD_some,Option.getD_none,and_self,and_true,true_and,List.length_cons,List.length_nil,List.any_nil,List.any_cons,Int.toNat_natCast,Int.cast_ofNat_Int,Int.natCast_zero,Int.natCast_nonneg,true_implies,or_true,true_or,false_or,or_false,beq_self_eq_true,Option.some.injEq,exists_eq_left',Int.reduceEq,Int.reduceLT,Int.reduceLE,Int.reduceGT,Int.reduceGE,Nat.reduceGT,Int.reduceNeg,Int.reduceToNat,Int.reduceAdd,Int.reduceMul,Int.reduceSub,Int.reducePow,decide_true,decide_false,decide_eq_true_eq,List.getElem?_cons_zero,List.getElem?_cons_succ,Nat.reduceBEq,Nat.reduceSub,exists_false,and_false,false_and,arr8_zero]
  refine wpi_loop (fun k r h' => ∃ i : Nat, r = [(0, .val v), (1, .val (.int .i64 seed)), (4, .var (.agg (arr8 fun _ => 0))), (5, .var (.agg (arr8 fun r => if r < i then rowsOf bs seed r else 0))), (6, .val (.int .i64 i))] ∧ i ≤ 8 ∧ k = 8 - i ∧ h' = h) 8 (by omega) ⟨0, by simp, by omega, by omega, rfl⟩ ?_
  rintro k r h' ⟨i, rfl, hi, rfl, rfl⟩
  by_cases hlt : i < 8
  · have hlt' : ((i : Nat) : Int) < 8 := by omega
    have hwid : wid bs ≤ 8 ∧ wid bs ≤ bs.length := by unfold wid; split <;> omega
    have hw1 : bs.length < 8 → (bs.length : Int) = (wid bs : Nat) := fun h => by unfold wid; rw [if_pos h]
    have hw2 : ¬ bs.length < 8 → (8 : Int) = (wid bs : Nat) := fun h => by unfold wid; rw [if_neg h]; rfl
    have hmany : many bs ≤ 6001 := by unfold many; split <;> omega
    have hm0 : ∀ j, j < many bs ↔ j + wid bs ≤ bs.length ∧ 0 < wid bs := fun j => by unfold many wid; split <;> split <;> omega
    simp (maxSteps := 2000000) (discharger := omega) only [xc,xo,xr,x0,x1,x2,x3,x4,x5,x6,xd,xe,xb,kont_call,kont_pure,kont_round,isNil,slOk,sliceV,selems,srcElems,copyTo,dlen,eqAV,eqCells,eqS,upd,wr,place,partVals,partEs,placeEs,mapOf,keyOk,keyCells,findK,Bool.bne_false,Bool.bne_true,List.drop_zero,List.nil_append,List.append_nil,List.take_zero,List.cons_append,List.take_succ_cons,List.drop_succ_cons,List.take_nil,List.drop_nil,Reg.isA,Reg.isV,Reg.stays,Reg.onto,Bool.false_or,Bool.or_false,Bool.false_and,Bool.and_false,Bool.true_and,Bool.and_true,Bool.or_true,Bool.true_or,↓reduceIte,reduceCtorEq,Nat.reduceEqDiff,Nat.reduceLT,Nat.reduceAdd,Nat.reduceMul,Nat.add_zero,Nat.zero_add,Nat.not_lt_zero,Nat.zero_ne_one,Nat.one_ne_zero,Nat.reduceLeDiff,Nat.lt_irrefl,Nat.zero_lt_succ,Bool.false_eq_true,Bool.not_true,Bool.not_false,Option.map_some,Option.map_none,Option.bind_some,Option.getD_some,Option.getD_none,and_self,and_true,true_and,List.length_cons,List.length_nil,List.any_nil,List.any_cons,Int.toNat_natCast,Int.cast_ofNat_Int,Int.natCast_zero,Int.natCast_nonneg,true_implies,or_true,true_or,false_or,or_false,beq_self_eq_true,Option.some.injEq,exists_eq_left',Int.reduceEq,Int.reduceLT,Int.reduceLE,Int.reduceGT,Int.reduceGE,Nat.reduceGT,Int.reduceNeg,Int.reduceToNat,Int.reduceAdd,Int.reduceMul,Int.reduceSub,Int.reducePow,decide_true,decide_false,decide_eq_true_eq,List.getElem?_cons_zero,List.getElem?_cons_succ,Nat.reduceBEq,Nat.reduceSub,exists_false,and_false,false_and,wrap_i64,hlt',hlen]
    split
    all_goals
      rename_i h8
      refine wpi_loop (fun k r h'' => ∃ j : Nat, r = [(0, .val v), (1, .val (.int .i64 seed)), (4, .var (.agg (arr8 fun _ => 0))), (5, .var (.agg (arr8 fun r => if r < i then rowsOf bs seed r else 0))), (6, .val (.int .i64 i)), (7, .val (.int .u32 (rowK bs (wid bs) seed i j))), (8, .val (.int .i64 ((wid bs : Nat) : Int))), (9, .val (.int .i64 j))] ∧ j ≤ many bs ∧ k = many bs - j ∧ h'' = h') (many bs) (by omega) ⟨0, by first | (rw [← hw1 (by omega)]; rfl) | (rw [← hw2 (by omega)]; rfl), by omega, by omega, rfl⟩ ?_
      rintro k r h'' ⟨j, rfl, hj, rfl, rfl⟩
      by_cases hjl : j < many bs
      · obtain ⟨k1, k2⟩ := (hm0 j).1 hjl
        have c1 : ((j : Nat) : Int) + ((wid bs : Nat) : Int) ≤ (bs.length : Int) := by omega
        have c2 : ((wid bs : Nat) : Int) > 0 := by omega
        have c3 : ((j : Nat) : Int) ≤ ((j : Nat) : Int) + ((wid bs : Nat) : Int) := by omega
        have c4 : (((j : Nat) : Int) + ((wid bs : Nat) : Int)).toNat = j + wid bs := by omega
        have hv' : v = .imm 1 (bytesOf bs) .no := by
          rcases hv with ⟨_, rfl⟩ | hv
          · simp at c1; omega
          · exact hv
        have hwl : ((bs.drop j).take (wid bs)).length ≤ 8 := by rw [List.length_take]; omega
        have hs1 := sumS_lt ((bs.drop j).take (wid bs))
        subst hv'
        have hlr : ((i : Nat) : Int) ≤ 7 := by omega
        by_cases hlo : numS (sumS ((bs.drop j).take (wid bs))) seed i < rowK bs (wid bs) seed i j
        · simp (maxSteps := 2000000) (discharger := omega) only [xc,xo,xr,x0,x1,x2,x3,x4,x5,x6,xd,xe,xb,kont_call,kont_pure,kont_round,isNil,slOk,sliceV,selems,srcElems,copyTo,dlen,eqAV,eqCells,eqS,upd,wr,place,partVals,partEs,placeEs,mapOf,keyOk,keyCells,findK,Bool.bne_false,Bool.bne_true,List.drop_zero,List.nil_append,List.append_nil,List.take_zero,List.cons_append,List.take_succ_cons,List.drop_succ_cons,List.take_nil,List.drop_nil,Reg.isA,Reg.isV,Reg.stays,Reg.onto,Bool.false_or,Bool.or_false,Bool.false_and,Bool.and_false,Bool.true_and,Bool.and_true,Bool.or_true,Bool.true_or,↓reduceIte,reduceCtorEq,Nat.reduceEqDiff,Nat.reduceLT,Nat.reduceAdd,Nat.reduceMul,Nat.add_zero,Nat.zero_add,Nat.not_lt_zero,Nat.zero_ne_one,Nat.one_ne_zero,Nat.reduceLeDiff,Nat.lt_irrefl,Nat.zero_lt_succ,Bool.false_eq_true,Bool.not_true,Bool.not_false,Option.map_some,Option.map_none,Option.bind_some,Option.getD_some,Option.getD_none,and_self,and_true,true_and,List.length_cons,List.length_nil,List.any_nil,List.any_cons,Int.toNat_natCast,Int.cast_ofNat_Int,Int.natCast_zero,Int.natCast_nonneg,true_implies,or_true,true_or,false_or,or_false,beq_self_eq_true,Option.some.injEq,exists_eq_left',Int.reduceEq,Int.reduceLT,Int.reduceLE,Int.reduceGT,Int.reduceGE,Nat.reduceGT,Int.reduceNeg,Int.reduceToNat,Int.reduceAdd,Int.reduceMul,Int.reduceSub,Int.reducePow,decide_true,decide_false,decide_eq_true_eq,List.getElem?_cons_zero,List.getElem?_cons_succ,Nat.reduceBEq,Nat.reduceSub,exists_false,and_false,false_and,wrap_i64,hlen,c1,c2,c3,c4,ite_self,List.drop_take,Nat.add_sub_cancel_left,c24,c23,hlo]
          exact ⟨many bs - (j + 1), by omega, j + 1, by simp only [rowK,hlo,if_true]; rfl, by omega, rfl⟩
        · simp (maxSteps := 2000000) (discharger := omega) only [xc,xo,xr,x0,x1,x2,x3,x4,x5,x6,xd,xe,xb,kont_call,kont_pure,kont_round,isNil,slOk,sliceV,selems,srcElems,copyTo,dlen,eqAV,eqCells,eqS,upd,wr,place,partVals,partEs,placeEs,mapOf,keyOk,keyCells,findK,Bool.bne_false,Bool.bne_true,List.drop_zero,List.nil_append,List.append_nil,List.take_zero,List.cons_append,List.take_succ_cons,List.drop_succ_cons,List.take_nil,List.drop_nil,Reg.isA,Reg.isV,Reg.stays,Reg.onto,Bool.false_or,Bool.or_false,Bool.false_and,Bool.and_false,Bool.true_and,Bool.and_true,Bool.or_true,Bool.true_or,↓reduceIte,reduceCtorEq,Nat.reduceEqDiff,Nat.reduceLT,Nat.reduceAdd,Nat.reduceMul,Nat.add_zero,Nat.zero_add,Nat.not_lt_zero,Nat.zero_ne_one,Nat.one_ne_zero,Nat.reduceLeDiff,Nat.lt_irrefl,Nat.zero_lt_succ,Bool.false_eq_true,Bool.not_true,Bool.not_false,Option.map_some,Option.map_none,Option.bind_some,Option.getD_some,Option.getD_none,and_self,and_true,true_and,List.length_cons,List.length_nil,List.any_nil,List.any_cons,Int.toNat_natCast,Int.cast_ofNat_Int,Int.natCast_zero,Int.natCast_nonneg,true_implies,or_true,true_or,false_or,or_false,beq_self_eq_true,Option.some.injEq,exists_eq_left',Int.reduceEq,Int.reduceLT,Int.reduceLE,Int.reduceGT,Int.reduceGE,Nat.reduceGT,Int.reduceNeg,Int.reduceToNat,Int.reduceAdd,Int.reduceMul,Int.reduceSub,Int.reducePow,decide_true,decide_false,decide_eq_true_eq,List.getElem?_cons_zero,List.getElem?_cons_succ,Nat.reduceBEq,Nat.reduceSub,exists_false,and_false,false_and,wrap_i64,hlen,c1,c2,c3,c4,ite_self,List.drop_take,Nat.add_sub_cancel_left,c24,c23,hlo]
          exact ⟨many bs - (j + 1), by omega, j + 1, by simp only [rowK,hlo,if_false]; rfl, by omega, rfl⟩
      · have hjm : j = many bs := by omega
        have c0 := mt (hm0 j).2 hjl
        have hset : (arr8 fun r => if r < i then rowsOf bs seed r else 0).set i (.int .u32 (rowK bs (wid bs) seed i j)) = arr8 fun r => if r < i + 1 then rowsOf bs seed r else 0 := by
          rw [arr8_set]
          refine arr8_congr fun r hr => ?_
          by_cases h1 : r = i
          · subst h1; rw [if_pos rfl, if_pos (by omega), hjm]; rfl
          · rw [if_neg h1]
            by_cases h2 : r < i
            · rw [if_pos h2, if_pos (by omega)]
            · rw [if_neg h2, if_neg (by omega)]
        by_cases c1 : ((j : Nat) : Int) + ((wid bs : Nat) : Int) ≤ (bs.length : Int)
        · have c2 : ¬ ((wid bs : Nat) : Int) > 0 := by omega
          simp (maxSteps := 2000000) (discharger := omega) only [xc,xo,xr,x0,x1,x2,x3,x4,x5,x6,xd,xe,xb,kont_call,kont_pure,kont_round,isNil,slOk,sliceV,selems,srcElems,copyTo,dlen,eqAV,eqCells,eqS,upd,wr,place,partVals,partEs,placeEs,mapOf,keyOk,keyCells,findK,Bool.bne_false,Bool.bne_true,List.drop_zero,List.nil_append,List.append_nil,List.take_zero,List.cons_append,List.take_succ_cons,List.drop_succ_cons,List.take_nil,List.drop_nil,Reg.isA,Reg.isV,Reg.stays,Reg.onto,Bool.false_or,Bool.or_false,Bool.false_and,Bool.and_false,Bool.true_and,Bool.and_true,Bool.or_true,Bool.true_or,↓reduceIte,reduceCtorEq,Nat.reduceEqDiff,Nat.reduceLT,Nat.reduceAdd,Nat.reduceMul,Nat.add_zero,Nat.zero_add,Nat.not_lt_zero,Nat.zero_ne_one,Nat.one_ne_zero,Nat.reduceLeDiff,Nat.lt_irrefl,Nat.zero_lt_succ,Bool.false_eq_true,Bool.not_true,Bool.not_false,Option.map_some,Option.map_none,Option.bind_some,Option.getD_some,Option.getD_none,and_self,and_true,true_and,List.length_cons,List.length_nil,List.any_nil,List.any_cons,Int.toNat_natCast,Int.cast_ofNat_Int,Int.natCast_zero,Int.natCast_nonneg,true_implies,or_true,true_or,false_or,or_false,beq_self_eq_true,Option.some.injEq,exists_eq_left',Int.reduceEq,Int.reduceLT,Int.reduceLE,Int.reduceGT,Int.reduceGE,Nat.reduceGT,Int.reduceNeg,Int.reduceToNat,Int.reduceAdd,Int.reduceMul,Int.reduceSub,Int.reducePow,decide_true,decide_false,decide_eq_true_eq,List.getElem?_cons_zero,List.getElem?_cons_succ,Nat.reduceBEq,Nat.reduceSub,exists_false,and_false,false_and,wrap_i64,hlen,c1,c2,hlt',arr8_len,hset,hlt,Nat.mul_one]
          exact ⟨8 - (i + 1), by omega, i + 1, rfl, by omega, rfl⟩
        · simp (maxSteps := 2000000) (discharger := omega) only [xc,xo,xr,x0,x1,x2,x3,x4,x5,x6,xd,xe,xb,kont_call,kont_pure,kont_round,isNil,slOk,sliceV,selems,srcElems,copyTo,dlen,eqAV,eqCells,eqS,upd,wr,place,partVals,partEs,placeEs,mapOf,keyOk,keyCells,findK,Bool.bne_false,Bool.bne_true,List.drop_zero,List.nil_append,List.append_nil,List.take_zero,List.cons_append,List.take_succ_cons,List.drop_succ_cons,List.take_nil,List.drop_nil,Reg.isA,Reg.isV,Reg.stays,Reg.onto,Bool.false_or,Bool.or_false,Bool.false_and,Bool.and_false,Bool.true_and,Bool.and_true,Bool.or_true,Bool.true_or,↓reduceIte,reduceCtorEq,Nat.reduceEqDiff,Nat.reduceLT,Nat.reduceAdd,Nat.reduceMul,Nat.add_zero,Nat.zero_add,Nat.not_lt_zero,Nat.zero_ne_one,Nat.one_ne_zero,Nat.reduceLeDiff,Nat.lt_irrefl,Nat.zero_lt_succ,Bool.false_eq_true,Bool.not_true,Bool.not_false,Option.map_some,Option.map_none,Option.bind_some,Option.getD_some,Option.getD_none,and_self,and_true,true_and,List.length_cons,List.length_nil,List.any_nil,List.any_cons,Int.toNat_natCast,Int.cast_ofNat_Int,Int.natCast_zero,Int.natCast_nonneg,true_implies,or_true,true_or,false_or,or_false,beq_self_eq_true,Option.some.injEq,exists_eq_left',Int.reduceEq,Int.reduceLT,Int.reduceLE,Int.reduceGT,Int.reduceGE,Nat.reduceGT,Int.reduceNeg,Int.reduceToNat,Int.reduceAdd,Int.reduceMul,Int.reduceSub,Int.reducePow,decide_true,decide_false,decide_eq_true_eq,List.getElem?_cons_zero,List.getElem?_cons_succ,Nat.reduceBEq,Nat.reduceSub,exists_false,and_false,false_and,wrap_i64,hlen,c1,hlt',arr8_len,hset,hlt,Nat.mul_one]
          exact ⟨8 - (i + 1), by omega, i + 1, rfl, by omega, rfl⟩
  · have hlt' : ¬ ((i : Nat) : Int) < 8 := by omega
    obtain rfl : i = 8 := by omega
    have hall : (arr8 fun r => if r < 8 then rowsOf bs seed r else 0) = arr8 (rowsOf bs seed) := arr8_congr fun r hr => if_pos hr
    simp only [xc,xo,xr,x0,x1,x2,x3,x4,x5,x6,xd,xe,xb,kont_call,kont_pure,kont_round,isNil,slOk,sliceV,selems,srcElems,copyTo,dlen,eqAV,eqCells,eqS,upd,wr,place,partVals,partEs,placeEs,mapOf,keyOk,keyCells,findK,Bool.bne_false,Bool.bne_true,List.drop_zero,List.nil_append,List.append_nil,List.take_zero,List.cons_append,List.take_succ_cons,List.drop_succ_cons,List.take_nil,List.drop_nil,Reg.isA,Reg.isV,Reg.stays,Reg.onto,Bool.false_or,Bool.or_false,Bool.false_and,Bool.and_false,Bool.true_and,Bool.and_true,Bool.or_true,Bool.true_or,↓reduceIte,reduceCtorEq,Nat.reduceEqDiff,Nat.reduceLT,Nat.reduceAdd,Nat.reduceMul,Nat.add_zero,Nat.zero_add,Nat.not_lt_zero,Nat.zero_ne_one,Nat.one_ne_zero,Nat.reduceLeDiff,Nat.lt_irrefl,Nat.zero_lt_succ,Bool.false_eq_true,Bool.not_true,Bool.not_false,Option.map_some,Option.map_none,Option.bind_some,Option.getD_some,Option.getD_none,and_self,and_true,true_and,List.length_cons,List.length_nil,List.any_nil,List.any_cons,Int.toNat_natCast,Int.cast_ofNat_Int,Int.natCast_zero,Int.natCast_nonneg,true_implies,or_true,true_or,false_or,or_false,beq_self_eq_true,Option.some.injEq,exists_eq_left',Int.reduceEq,Int.reduceLT,Int.reduceLE,Int.reduceGT,Int.reduceGE,Nat.reduceGT,Int.reduceNeg,Int.reduceToNat,Int.reduceAdd,Int.reduceMul,Int.reduceSub,Int.reducePow,decide_true,decide_false,decide_eq_true_eq,List.getElem?_cons_zero,List.getElem?_cons_succ,Nat.reduceBEq,Nat.reduceSub,exists_false,and_false,false_and,hlt',arr8_len,arr8_take,arr8_drop,hall]
end Go.Proofs.Ytdjlcddkfjbebaa.Im

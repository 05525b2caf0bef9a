/- Joined: S20Mx, S20Cg, S20Tabs, S20BTabs, S20BIs, S20Bm. -/
import Derived.Test.YtcnbllelfinlmaaDoorG
import Derived.Test.YtcnbllelfinlmaaDoorImX4
import Derived.Test.YtcnbllelfinlmaaDoorImCrc
import Derived.Test.YtcnbllelfinlmaaDoorFns
import Derived.Test.YtcnbllelfinlmaaDoorFnsB
import Derived.Test.YtcnbllelfinlmaaDoorImExt3
import Derived.Test.YtcnbllelfinlmaaDoorBFns
import Derived.KernelRfl
import Derived.Test.YtcnbllelfinlmaaDoorImRow
/- S20Mx: what sha.mixed computes. -/
set_option linter.unusedVariables false
namespace Go.Proofs.YtcnbllelfinlmaaDoor.Im
open Go Go.Im

def rl (x : Int) (s : Nat) : Int := bitsI .or .u32 (IntKind.u32.wrap (x * 2 ^ s)) (x.fdiv (2 ^ (32 - s)))
def add32 (x y : Int) : Int := IntKind.u32.wrap (x + y)
def xor32 (x y : Int) : Int := bitsI .xor .u32 x y
def and32 (x y : Int) : Int := bitsI .and .u32 x y
def not32 (x : Int) : Int := bitsI .xor .u32 4294967295 x

def word4 (b : List Int) (i : Nat) : Nat → Int
  | 0 => 0
  | k + 1 => bitsI .or .u32 (IntKind.u32.wrap (word4 b i k * 256)) (b.getD (4 * i + k) 0)

def wNext (b w : List Int) (i : Nat) : Int :=
  if i < 16 then word4 b i 4 else
    add32 (add32 (add32 (w.getD (i - 16) 0) (xor32 (xor32 (rl (w.getD (i - 15) 0) 25) (rl (w.getD (i - 15) 0) 14)) ((w.getD (i - 15) 0).fdiv 8))) (w.getD (i - 7) 0))
      (xor32 (xor32 (rl (w.getD (i - 2) 0) 15) (rl (w.getD (i - 2) 0) 13)) ((w.getD (i - 2) 0).fdiv 1024))
def wList (b : List Int) : Nat → List Int
  | 0 => []
  | i + 1 => wList b i ++ [wNext b (wList b i) i]

structure S8 where
  (a b c d e f g h : Int)
def S8.list (s : S8) : List Int := [s.a, s.b, s.c, s.d, s.e, s.f, s.g, s.h]

def one (s : S8) (k x : Int) : Int :=
  add32 (add32 (add32 (add32 s.h (xor32 (xor32 (rl s.e 26) (rl s.e 21)) (rl s.e 7))) (xor32 (and32 s.e s.f) (and32 (not32 s.e) s.g))) k) x
def two (s : S8) : Int :=
  add32 (xor32 (xor32 (rl s.a 30) (rl s.a 19)) (rl s.a 10)) (xor32 (xor32 (and32 s.a s.b) (and32 s.a s.c)) (and32 s.b s.c))
def rnd (s : S8) (k x : Int) : S8 := ⟨add32 (one s k x) (two s), s.a, s.b, s.c, add32 s.d (one s k x), s.e, s.f, s.g⟩

def rnds (w : List Int) (s : S8) : Nat → S8
  | 0 => s
  | i + 1 => rnd (rnds w s i) (roundsZ.getD i 0) (w.getD i 0)

def addS (s t : S8) : S8 := ⟨add32 s.a t.a, add32 s.b t.b, add32 s.c t.c, add32 s.d t.d, add32 s.e t.e, add32 s.f t.f, add32 s.g t.g, add32 s.h t.h⟩

def mixS (s : S8) (b : List Int) : S8 := addS s (rnds (wList b 64) s 64)

def unInts (k : IntKind) : List AV → Option (List Int)
  | [] => some []
  | .int j n :: r => if j = k then (unInts k r).map (n :: ·) else none
  | _ :: _ => none

def mixG : Kont → List AV → Hp → Option (AV × Hp) := fun _ args h => match args with
  | [.agg [.int .u32 a, .int .u32 b, .int .u32 c, .int .u32 d, .int .u32 e, .int .u32 f, .int .u32 g, .int .u32 i], .agg bs] => match unInts .u8 bs with
    | some ys => if ys.length = 64 ∧ (ys.all fun x => decide (0 ≤ x ∧ x ≤ 255)) = true then some (.agg (intsOf .u32 (mixS ⟨a, b, c, d, e, f, g, i⟩ ys).list), h) else none
    | none => none
  | _ => none

theorem unInts_some {k : IntKind} : ∀ {l : List AV} {xs : List Int}, unInts k l = some xs → l = intsOf k xs
  | [], xs, h => by cases h; rfl
  | .int j n :: r, xs, h => by
    simp only [unInts] at h
    split at h
    · rename_i e
      subst e
      cases hr : unInts j r with
      | none => rw [hr] at h; cases h
      | some ys =>
        rw [hr] at h
        cases h
        rw [unInts_some hr]; rfl
    · cases h
  | .bool _ :: _, _, h | .str _ :: _, _, h | .agg _ :: _, _, h | .tup _ :: _, _, h | .nilp :: _, _, h | .ptr .. :: _, _, h | .iptr _ :: _, _, h | .nils :: _, _, h | .imm .. :: _, _, h | .row .. :: _, _, h | .nilm :: _, _, h | .mp _ :: _, _, h | .nilf :: _, _, h | .fn .. :: _, _, h | .nili :: _, _, h | .ifc .. :: _, _, h | .yld _ :: _, _, h => by cases h
theorem unInts_ok (k : IntKind) : ∀ xs : List Int, unInts k (intsOf k xs) = some xs
  | [] => rfl
  | x :: xs => by
    have := unInts_ok k xs
    simp only [intsOf,List.map_cons,unInts,if_true] at this ⊢
    rw [this]; rfl

end Go.Proofs.YtcnbllelfinlmaaDoor.Im

/- S20Cg: what crc.Sum does, of one text. -/
set_option linter.unusedVariables false
namespace Go.Proofs.YtcnbllelfinlmaaDoor.Im
open Go Go.Im
def crcG : Kont → List AV → Hp → Option (AV × Hp) := fun _ args h => match args with
  | [.imm 1 [.str s] c] => if s.length ≤ 1000000 then some (.int .u32 (Crc.N (Crc.sum s)), h) else none
  | _ => none
end Go.Proofs.YtcnbllelfinlmaaDoor.Im

/- S20Tabs: the table of the functions. -/
namespace Go.Proofs.YtcnbllelfinlmaaDoor.Im
open Go Go.Im

def tab : Array (Option AF) := #[none, none, none, none, some a4, none, none, none, none, some a9, some a10, some a11, none, none, none, some a15, some a16, some a17, some a18, some a19, some a20, none, some a22, some a23, none, none, some a26, some a27, none, none, none, some a31, some a32, some a33, some a34, some a35, some a36, some a37, some a38, some a39, some a40, some a41, none, none, none, none, some a46, some a47, some a48, some a49, some a50, none, none, some a53, some a54, some a55, some a56, some a57, none, none, none, some a61, some a62, none, none, some a65, some a66, some a67, some a68, some a69, some a70, some a71, some a72, some a73, some a74, none, none, none, some a78, some a79, some a80, some a81, some a82, some a83, some a84, some a85, some a86, some a87, none, some a89, some a90, some a91, none, some a93, some a94, none, some a96, some a97, some a98, some a99, some a100, some a101, some a102, some a103, some a104, some a105, none, some a107, some a108, some a109, none, some a111, none, some a113, some a114, some a115, some a116, some a117, some a118]

def FA : Fns := fun f => if f = 51 then some (.inr mixG) else if f = 106 then some (.inr cmpG) else if f = 75 then some (.inr crcG) else match tab[f]? with
  | some (some x) => some (.inl x)
  | _ => none

def F : Fns := fun f => if f = 9 then some (.inr yesG) else FA f

end Go.Proofs.YtcnbllelfinlmaaDoor.Im

/- S20BTabs: the table of the functions. -/
namespace Go.Proofs.YtcnbllelfinlmaaDoor.Im
open Go Go.Im

def tabB : Array (Option AF) := #[none, none, none, none, none, none, none, none, none, none, none, none, none, none, none, none, none, none, none, none, none, none, none, none, none, none, none, none, none, none, none, none, none, none, none, none, none, none, none, none, none, none, none, none, none, none, none, none, none, none, none, some a51, none, none, none, none, none, none, none, none, none, none, none, none, none, none, none, none, none, none, none, none, none, none, none, some a75, none, none, none, none, none, none, none, none, none, none, none, none, some a88]

def FB : Fns := fun f => match tabB[f]? with
  | some (some x) => some (.inl x)
  | _ => none

end Go.Proofs.YtcnbllelfinlmaaDoor.Im

/- S20BIs: which functions stand where. -/
open Go Go.Im
namespace Go.Proofs.YtcnbllelfinlmaaDoor.Im

theorem g51 : FB 51 = some (.inl a51) := by kernel_rfl
theorem g75 : FB 75 = some (.inl a75) := by kernel_rfl
theorem g88 : FB 88 = some (.inl a88) := by kernel_rfl

end Go.Proofs.YtcnbllelfinlmaaDoor.Im

/- S20Bm: sha.mixed does what S21Mx says. -/
set_option linter.unusedVariables false
set_option linter.unusedSimpArgs false
open Go Go.Im
namespace Go.Proofs.YtcnbllelfinlmaaDoor.Im
section
variable {n : Nat} {tot : Bool} {ω : Nat → Nat} {h : Hp}

theorem io_get {k : IntKind} {l : List Int} {j : Nat} (hj : j < l.length) : (intsOf k l)[j]? = some (.int k (l.getD j 0)) := by
  simp [intsOf,hj,List.getD]
theorem io_set (k : IntKind) (l : List Int) (j : Nat) (v : Int) : (intsOf k l).set j (.int k v) = intsOf k (l.set j v) := by simp [intsOf,List.map_set]
theorem io_len (k : IntKind) (l : List Int) : (intsOf k l).length = l.length := by simp [intsOf]
theorem io_take {k : IntKind} {l : List Int} {m : Nat} (hm : l.length ≤ m) : (intsOf k l).take m = intsOf k l := List.take_of_length_le (by simpa [intsOf] using hm)

theorem c88 (x k : Int) (s : Nat) (hs : bitsI .and .u64 (IntKind.u64.wrap k) 31 = (s : Int)) (h1 : 1 ≤ s) (h2 : s ≤ 31) (hn : 0 < n) : call FB n tot ω 88 [.int .u32 x, .int .i64 k] h = some (.int .u32 (rl x s), h) := by
  obtain ⟨n, rfl⟩ : ∃ m, n = m + 1 := ⟨n - 1, by omega⟩
  refine call_eq (fn := a88) g88 ?_
  unfold a88
  have e1 : IntKind.u64.wrap (32 - (s : Int)) = ((32 - s : Nat) : Int) := by rw [wrap_u64 (by omega) (by omega)]; omega
  have e2 : min s IntKind.u32.bits = s := by show min s 32 = s; omega
  have e3 : min (32 - s) IntKind.u32.bits = 32 - s := by show min (32 - s) 32 = _; omega
  simp (maxSteps := 2000000) (discharger := omega) only [xc,xo,xr,x0,x1,x2,x3,x4,x5,x6,xd,xe,xb,kont_call,kont_pure,kont_round,isNil,slOk,sliceV,selems,srcElems,copyTo,dlen,eqAV,eqCells,eqS,upd,wr,place,partVals,partEs,placeEs,mapOf,keyOk,keyCells,findK,Bool.bne_false,Bool.bne_true,List.drop_zero,List.nil_append,List.append_nil,List.take_zero,List.cons_append,List.take_succ_cons,List.drop_succ_cons,List.take_nil,List.drop_nil,Reg.isA,Reg.isV,Reg.stays,Reg.onto,Bool.false_or,Bool.or_false,Bool.false_and,Bool.and_false,Bool.true_and,Bool.and_true,Bool.or_true,Bool.true_or,↓reduceIte,reduceCtorEq,Nat.reduceEqDiff,Nat.reduceLT,Nat.reduceAdd,Nat.reduceMul,Nat.add_zero,Nat.zero_add,Nat.not_lt_zero,Nat.zero_ne_one,Nat.one_ne_zero,Nat.reduceLeDiff,Nat.lt_irrefl,Nat.zero_lt_succ,Bool.false_eq_true,Bool.not_true,Bool.not_false,Option.map_some,Option.map_none,Option.bind_some,Option.getD_some,Option.getD_none,and_self,and_true,true_and,List.length_cons,List.length_nil,List.any_nil,List.any_cons,Int.toNat_natCast,Int.cast_ofNat_Int,Int.natCast_zero,Int.natCast_nonneg,true_implies,or_true,true_or,false_or,or_false,beq_self_eq_true,Option.some.injEq,exists_eq_left',Int.reduceEq,Int.reduceLT,Int.reduceLE,Int.reduceGT,Int.reduceGE,Nat.reduceGT,Int.reduceNeg,Int.reduceToNat,Int.reduceAdd,Int.reduceMul,Int.reduceSub,Int.reducePow,decide_true,decide_false,decide_eq_true_eq,List.getElem?_cons_zero,List.getElem?_cons_succ,Nat.reduceBEq,Nat.reduceSub,exists_false,and_false,false_and,wrap_i64,hs,e1,e2,e3,int_lt_f]
  simp [rl,e1,e2,e3]

def K8 (s : S8) : AV := .agg [.int .u32 s.a, .int .u32 s.b, .int .u32 s.c, .int .u32 s.d, .int .u32 s.e, .int .u32 s.f, .int .u32 s.g, .int .u32 s.h]
def Z8 : AV := .agg [.int .u32 0, .int .u32 0, .int .u32 0, .int .u32 0, .int .u32 0, .int .u32 0, .int .u32 0, .int .u32 0]

theorem nat_lt_t {a b : Nat} (h : a < b) : (a < b) = True := eq_true h
theorem mm8 : min 8 IntKind.u32.bits = 8 := rfl
theorem mm3 : min 3 IntKind.u32.bits = 3 := rfl
theorem mm10 : min 10 IntKind.u32.bits = 10 := rfl

theorem set_getD (l : List Int) (i j : Nat) (v : Int) (hi : i < l.length) : (l.set i v).getD j 0 = if j = i then v else l.getD j 0 := by
  by_cases e : j = i
  · subst e; simp [List.getD,hi]
  · rw [if_neg e]; simp [List.getD,List.getElem?_set_ne (Ne.symm e)]

theorem w_x51a (s : S8) (b W : List Int) (i : Nat) (hi : i < 16) (hb : b.length = 64) (hW : W.length = 64) (h0 : W.getD i 0 = 0) (hbb : ∀ x ∈ b, 0 ≤ x ∧ x ≤ 255) (hn : 5 < n) :
    Wp (kont FB n tot ω) n x51a [(2, .var (K8 s)), (3, .var (.agg (intsOf .u8 b))), (4, .var Z8), (5, .var (.agg (intsOf .u32 W))), (6, .val (.int .i64 i)), (18, .val (.int .i64 i))] h fun e r' h' => e = .normal ∧ h' = h ∧
      ∃ W', r' = [(2, .var (K8 s)), (3, .var (.agg (intsOf .u8 b))), (4, .var Z8), (5, .var (.agg (intsOf .u32 W'))), (6, .val (.int .i64 i)), (18, .val (.int .i64 i)), (23, .val (.int .i64 4)), (24, .val (.bool false))] ∧ W'.length = 64 ∧ ∀ j, W'.getD j 0 = if j = i then word4 b i 4 else W.getD j 0 := by
  unfold x51a
  simp (maxSteps := 2000000) (discharger := omega) only [xc,xo,xr,x0,x1,x2,x3,x4,x5,x6,xd,xe,xb,kont_call,kont_pure,kont_round,isNil,slOk,sliceV,selems,srcElems,copyTo,dlen,eqAV,eqCells,eqS,upd,wr,place,partVals,partEs,placeEs,mapOf,keyOk,keyCells,findK,Bool.bne_false,Bool.bne_true,List.drop_zero,List.nil_append,List.append_nil,List.take_zero,List.cons_append,List.take_succ_cons,List.drop_succ_cons,List.take_nil,List.drop_nil,Reg.isA,Reg.isV,Reg.stays,Reg.onto,Bool.false_or,Bool.or_false,Bool.false_and,Bool.and_false,Bool.true_and,Bool.and_true,Bool.or_true,Bool.true_or,↓reduceIte,reduceCtorEq,Nat.reduceEqDiff,Nat.reduceLT,Nat.reduceAdd,Nat.reduceMul,Nat.add_zero,Nat.zero_add,Nat.not_lt_zero,Nat.zero_ne_one,Nat.one_ne_zero,Nat.reduceLeDiff,Nat.lt_irrefl,Nat.zero_lt_succ,Bool.false_eq_true,Bool.not_true,Bool.not_false,Option.map_some,Option.map_none,Option.bind_some,Option.getD_some,Option.getD_none,and_self,and_true,true_and,List.length_cons,List.length_nil,List.any_nil,List.any_cons,Int.toNat_natCast,Int.cast_ofNat_Int,Int.natCast_zero,Int.natCast_nonneg,true_implies,or_true,true_or,false_or,or_false,beq_self_eq_true,Option.some.injEq,exists_eq_left',Int.reduceEq,Int.reduceLT,Int.reduceLE,Int.reduceGT,Int.reduceGE,Nat.reduceGT,Int.reduceNeg,Int.reduceToNat,Int.reduceAdd,Int.reduceMul,Int.reduceSub,Int.reducePow,decide_true,decide_false,decide_eq_true_eq,List.getElem?_cons_zero,List.getElem?_cons_succ,Nat.reduceBEq,Nat.reduceSub,exists_false,and_false,false_and,wrap_i64]
  refine wpi_loop (fun x r g => ∃ (k : Nat) (W' : List Int), r = [(2, .var (K8 s)), (3, .var (.agg (intsOf .u8 b))), (4, .var Z8), (5, .var (.agg (intsOf .u32 W'))), (6, .val (.int .i64 i)), (18, .val (.int .i64 i)), (23, .val (.int .i64 k))] ∧ x = 4 - k ∧ k ≤ 4 ∧ g = h ∧ W'.length = 64 ∧ ∀ j, W'.getD j 0 = if j = i then word4 b i k else W.getD j 0) 4 (by omega)
    ⟨0, W, rfl, rfl, by omega, rfl, hW, fun j => by by_cases e : j = i <;> simp [e,h0,word4,-List.getD_eq_getElem?_getD]⟩ ?_
  rintro x r g ⟨k, W', rfl, rfl, hk, rfl, hW', hg⟩
  by_cases hk4 : k < 4
  · have e1 : (4 * (i : Int) + (k : Int)).toNat = 4 * i + k := by omega
    have hg2 := hg i
    rw [if_pos rfl] at hg2
    have hbx : IntKind.u32.wrap (b.getD (4 * i + k) 0) = b.getD (4 * i + k) 0 := by
      have hlt : 4 * i + k < b.length := by omega
      have := hbb b[4 * i + k] (List.getElem_mem hlt)
      have e : b.getD (4 * i + k) 0 = b[4 * i + k] := by simp [List.getD,hlt]
      rw [e]; exact wrap_u32 (by omega) (by omega)
    simp (maxSteps := 2000000) (discharger := omega) only [xc,xo,xr,x0,x1,x2,x3,x4,x5,x6,xd,xe,xb,kont_call,kont_pure,kont_round,isNil,slOk,sliceV,selems,srcElems,copyTo,dlen,eqAV,eqCells,eqS,wr,place,partVals,partEs,placeEs,mapOf,keyOk,keyCells,findK,Bool.bne_false,Bool.bne_true,List.drop_zero,List.nil_append,List.append_nil,List.take_zero,List.cons_append,List.take_succ_cons,List.drop_succ_cons,List.take_nil,List.drop_nil,Reg.isA,Reg.isV,Reg.stays,Reg.onto,Bool.false_or,Bool.or_false,Bool.false_and,Bool.and_false,Bool.true_and,Bool.and_true,Bool.or_true,Bool.true_or,↓reduceIte,reduceCtorEq,Nat.reduceEqDiff,Nat.reduceLT,Nat.reduceAdd,Nat.reduceMul,Nat.add_zero,Nat.zero_add,Nat.not_lt_zero,Nat.zero_ne_one,Nat.one_ne_zero,Nat.reduceLeDiff,Nat.lt_irrefl,Nat.zero_lt_succ,Bool.false_eq_true,Bool.not_true,Bool.not_false,Option.map_some,Option.map_none,Option.bind_some,Option.getD_some,Option.getD_none,and_self,and_true,true_and,List.length_cons,List.length_nil,List.any_nil,List.any_cons,Int.toNat_natCast,Int.cast_ofNat_Int,Int.natCast_zero,Int.natCast_nonneg,true_implies,or_true,true_or,false_or,or_false,beq_self_eq_true,Option.some.injEq,exists_eq_left',Int.reduceEq,Int.reduceLT,Int.reduceLE,Int.reduceGT,Int.reduceGE,Nat.reduceGT,Int.reduceNeg,Int.reduceToNat,Int.reduceAdd,Int.reduceMul,Int.reduceSub,Int.reducePow,decide_true,decide_false,decide_eq_true_eq,List.getElem?_cons_zero,List.getElem?_cons_succ,Nat.reduceBEq,Nat.reduceSub,exists_false,and_false,false_and,xu,List.set_cons_zero,List.set_cons_succ,wrap_i64,int_lt_t,int_lt_f,int_le_t,int_le_f,int_gt_t,int_gt_f,int_ge_t,int_ge_f,int_eq_t,int_eq_f,int_beq_t,int_beq_f,int_bne_t,int_bne_f,nat_le_t,nat_le_f,Nat.sub_zero,Nat.sub_self,not_false_eq_true,not_true_eq_false,e1,io_get,io_set,io_len,hW',hb,hg2,mm8,hbx,Nat.mul_one,Nat.reduceLeDiff,nat_lt_t]
    refine ⟨4 - (k + 1), by omega, k + 1, W'.set i (word4 b i (k + 1)), by rw [show ((k : Nat) : Int) + 1 = ((k + 1 : Nat) : Int) by omega]; rfl, rfl, by omega, by simpa using hW', fun j => ?_⟩
    rw [set_getD _ _ _ _ (by omega)]
    by_cases e : j = i
    · simp only [e,if_true]
    · simp only [e,if_false]; rw [hg j, if_neg e]
  · obtain rfl : k = 4 := by omega
    simp (maxSteps := 2000000) (discharger := omega) only [xc,xo,xr,x0,x1,x2,x3,x4,x5,x6,xd,xe,xb,kont_call,kont_pure,kont_round,isNil,slOk,sliceV,selems,srcElems,copyTo,dlen,eqAV,eqCells,eqS,wr,place,partVals,partEs,placeEs,mapOf,keyOk,keyCells,findK,Bool.bne_false,Bool.bne_true,List.drop_zero,List.nil_append,List.append_nil,List.take_zero,List.cons_append,List.take_succ_cons,List.drop_succ_cons,List.take_nil,List.drop_nil,Reg.isA,Reg.isV,Reg.stays,Reg.onto,Bool.false_or,Bool.or_false,Bool.false_and,Bool.and_false,Bool.true_and,Bool.and_true,Bool.or_true,Bool.true_or,↓reduceIte,reduceCtorEq,Nat.reduceEqDiff,Nat.reduceLT,Nat.reduceAdd,Nat.reduceMul,Nat.add_zero,Nat.zero_add,Nat.not_lt_zero,Nat.zero_ne_one,Nat.one_ne_zero,Nat.reduceLeDiff,Nat.lt_irrefl,Nat.zero_lt_succ,Bool.false_eq_true,Bool.not_true,Bool.not_false,Option.map_some,Option.map_none,Option.bind_some,Option.getD_some,Option.getD_none,and_self,and_true,true_and,List.length_cons,List.length_nil,List.any_nil,List.any_cons,Int.toNat_natCast,Int.cast_ofNat_Int,Int.natCast_zero,Int.natCast_nonneg,true_implies,or_true,true_or,false_or,or_false,beq_self_eq_true,Option.some.injEq,exists_eq_left',Int.reduceEq,Int.reduceLT,Int.reduceLE,Int.reduceGT,Int.reduceGE,Nat.reduceGT,Int.reduceNeg,Int.reduceToNat,Int.reduceAdd,Int.reduceMul,Int.reduceSub,Int.reducePow,decide_true,decide_false,decide_eq_true_eq,List.getElem?_cons_zero,List.getElem?_cons_succ,Nat.reduceBEq,Nat.reduceSub,exists_false,and_false,false_and,xu,List.set_cons_zero,List.set_cons_succ,wrap_i64,int_lt_t,int_lt_f,int_le_t,int_le_f,int_gt_t,int_gt_f,int_ge_t,int_ge_f,int_eq_t,int_eq_f,int_beq_t,int_beq_f,int_bne_t,int_bne_f,nat_le_t,nat_le_f,Nat.sub_zero,Nat.sub_self,not_false_eq_true,not_true_eq_false]
    exact ⟨W', rfl, hW', hg⟩

theorem hb25 : bitsI .and .u64 (IntKind.u64.wrap (-7)) 31 = ((25 : Nat) : Int) := by decide
theorem hb14 : bitsI .and .u64 (IntKind.u64.wrap (-18)) 31 = ((14 : Nat) : Int) := by decide
theorem hb15 : bitsI .and .u64 (IntKind.u64.wrap (-17)) 31 = ((15 : Nat) : Int) := by decide
theorem hb13 : bitsI .and .u64 (IntKind.u64.wrap (-19)) 31 = ((13 : Nat) : Int) := by decide
theorem hb26 : bitsI .and .u64 (IntKind.u64.wrap (-6)) 31 = ((26 : Nat) : Int) := by decide
theorem hb21 : bitsI .and .u64 (IntKind.u64.wrap (-11)) 31 = ((21 : Nat) : Int) := by decide
theorem hb7 : bitsI .and .u64 (IntKind.u64.wrap (-25)) 31 = ((7 : Nat) : Int) := by decide
theorem hb30 : bitsI .and .u64 (IntKind.u64.wrap (-2)) 31 = ((30 : Nat) : Int) := by decide
theorem hb19 : bitsI .and .u64 (IntKind.u64.wrap (-13)) 31 = ((19 : Nat) : Int) := by decide
theorem hb10 : bitsI .and .u64 (IntKind.u64.wrap (-22)) 31 = ((10 : Nat) : Int) := by decide

theorem wList_len (b : List Int) : ∀ i, (wList b i).length = i
  | 0 => rfl
  | i + 1 => by simp [wList,wList_len b i]
theorem wList_pre (b : List Int) (i : Nat) : ∀ k j, j < i → (wList b (i + k)).getD j 0 = (wList b i).getD j 0
  | 0, j, _ => rfl
  | k + 1, j, hj => by
    rw [← wList_pre b i k j hj]
    show (wList b (i + k) ++ [_]).getD j 0 = _
    simp [List.getD,List.getElem?_append_left (show j < (wList b (i + k)).length by rw [wList_len]; omega)]
theorem wList_at (b : List Int) (i : Nat) (hi : i < 64) : (wList b 64).getD i 0 = wNext b (wList b i) i := by
  have e := wList_pre b (i + 1) (63 - i) i (by omega)
  rw [show i + 1 + (63 - i) = 64 by omega] at e
  rw [e]
  show (wList b i ++ [_]).getD i 0 = _
  simp [List.getD,List.getElem?_append_right,wList_len]

structure Sch (b W : List Int) (i : Nat) : Prop where
  len : W.length = 64
  done : ∀ j, j < i → W.getD j 0 = (wList b 64).getD j 0
  zero : ∀ j, i ≤ j → W.getD j 0 = 0

theorem Sch.next {b W W' : List Int} {i : Nat} (hs : Sch b W i) (hi : i < 64) (hl : W'.length = 64) (hg : ∀ j, W'.getD j 0 = if j = i then wNext b (wList b i) i else W.getD j 0) : Sch b W' (i + 1) := by
  refine ⟨hl, fun j hj => ?_, fun j hj => ?_⟩
  · rw [hg]
    by_cases e : j = i
    · rw [if_pos e, e, wList_at b i hi]
    · rw [if_neg e]; exact hs.done j (by omega)
  · rw [hg, if_neg (by omega)]; exact hs.zero j (by omega)
theorem Sch.old {b W : List Int} {i : Nat} (hs : Sch b W i) (hi : i ≤ 64) (j : Nat) (hj : j < i) : W.getD j 0 = (wList b i).getD j 0 := by
  rw [hs.done j hj]
  have e := wList_pre b i (64 - i) j hj
  rwa [show i + (64 - i) = 64 by omega] at e

theorem w_x51b (s : S8) (b W : List Int) (i : Nat) (hi : 16 ≤ i) (hi2 : i < 64) (hW : W.length = 64) (hn : 5 < n) :
    Wp (kont FB n tot ω) n x51b [(2, .var (K8 s)), (3, .var (.agg (intsOf .u8 b))), (4, .var Z8), (5, .var (.agg (intsOf .u32 W))), (6, .val (.int .i64 i)), (18, .val (.int .i64 i)), (22, .val (.bool false))] h fun e r' h' => e = .normal ∧ h' = h ∧
      ∃ W', r' = [(2, .var (K8 s)), (3, .var (.agg (intsOf .u8 b))), (4, .var Z8), (5, .var (.agg (intsOf .u32 W'))), (18, .val (.int .i64 i))] ∧ W'.length = 64 ∧ ∀ j, W'.getD j 0 = if j = i then wNext b W i else W.getD j 0 := by
  unfold x51b
  have e2 : ((i : Int) - 2).toNat = i - 2 := by omega
  have e7 : ((i : Int) - 7).toNat = i - 7 := by omega
  have e15 : ((i : Int) - 15).toNat = i - 15 := by omega
  have e16 : ((i : Int) - 16).toNat = i - 16 := by omega
  have k1 := fun x => c88 (n := n) (tot := false) (ω := fun _ => 0) (h := []) x (-7) 25 hb25 (by omega) (by omega) (by omega)
  have k2 := fun x => c88 (n := n) (tot := false) (ω := fun _ => 0) (h := []) x (-18) 14 hb14 (by omega) (by omega) (by omega)
  have k3 := fun x => c88 (n := n) (tot := false) (ω := fun _ => 0) (h := []) x (-17) 15 hb15 (by omega) (by omega) (by omega)
  have k4 := fun x => c88 (n := n) (tot := false) (ω := fun _ => 0) (h := []) x (-19) 13 hb13 (by omega) (by omega) (by omega)
  simp (maxSteps := 2000000) (discharger := omega) only [xc,xo,xr,x0,x1,x2,x3,x4,x5,x6,xd,xe,xb,kont_call,kont_pure,kont_round,isNil,slOk,sliceV,selems,srcElems,copyTo,dlen,eqAV,eqCells,eqS,wr,place,partVals,partEs,placeEs,mapOf,keyOk,keyCells,findK,Bool.bne_false,Bool.bne_true,List.drop_zero,List.nil_append,List.append_nil,List.take_zero,List.cons_append,List.take_succ_cons,List.drop_succ_cons,List.take_nil,List.drop_nil,Reg.isA,Reg.isV,Reg.stays,Reg.onto,Bool.false_or,Bool.or_false,Bool.false_and,Bool.and_false,Bool.true_and,Bool.and_true,Bool.or_true,Bool.true_or,↓reduceIte,reduceCtorEq,Nat.reduceEqDiff,Nat.reduceLT,Nat.reduceAdd,Nat.reduceMul,Nat.add_zero,Nat.zero_add,Nat.not_lt_zero,Nat.zero_ne_one,Nat.one_ne_zero,Nat.reduceLeDiff,Nat.lt_irrefl,Nat.zero_lt_succ,Bool.false_eq_true,Bool.not_true,Bool.not_false,Option.map_some,Option.map_none,Option.bind_some,Option.getD_some,Option.getD_none,and_self,and_true,true_and,List.length_cons,List.length_nil,List.any_nil,List.any_cons,Int.toNat_natCast,Int.cast_ofNat_Int,Int.natCast_zero,Int.natCast_nonneg,true_implies,or_true,true_or,false_or,or_false,beq_self_eq_true,Option.some.injEq,exists_eq_left',Int.reduceEq,Int.reduceLT,Int.reduceLE,Int.reduceGT,Int.reduceGE,Nat.reduceGT,Int.reduceNeg,Int.reduceToNat,Int.reduceAdd,Int.reduceMul,Int.reduceSub,Int.reducePow,decide_true,decide_false,decide_eq_true_eq,List.getElem?_cons_zero,List.getElem?_cons_succ,Nat.reduceBEq,Nat.reduceSub,exists_false,and_false,false_and,xu,List.set_cons_zero,List.set_cons_succ,wrap_i64,int_lt_t,int_lt_f,int_le_t,int_le_f,int_gt_t,int_gt_f,int_ge_t,int_ge_f,int_eq_t,int_eq_f,int_beq_t,int_beq_f,int_bne_t,int_bne_f,nat_le_t,nat_le_f,Nat.sub_zero,Nat.sub_self,not_false_eq_true,not_true_eq_false,e2,e7,e15,e16,k1,k2,k3,k4,io_get,io_set,io_len,hW,mm3,mm10,Nat.mul_one,Nat.reduceLeDiff,nat_lt_t]
  refine ⟨_, rfl, by simpa using hW, fun j => ?_⟩
  rw [set_getD _ _ _ _ (by omega)]
  by_cases e : j = i
  · simp only [e,if_true]
    unfold wNext
    rw [if_neg (by omega)]
    rfl
  · simp only [e,if_false]

theorem wNext_old {b W V : List Int} {i : Nat} (hi : i ≤ 64) (hW : ∀ j, j < i → W.getD j 0 = V.getD j 0) : wNext b W i = wNext b V i := by
  unfold wNext
  by_cases h : i < 16
  · rw [if_pos h, if_pos h]
  · rw [if_neg h, if_neg h, hW _ (by omega), hW _ (by omega), hW _ (by omega), hW _ (by omega)]

theorem rep_getD (n j : Nat) : (List.replicate n (0 : Int)).getD j 0 = 0 := by
  simp only [List.getD,List.getElem?_replicate]
  split <;> rfl
theorem ext_getD {l m : List Int} (hl : l.length = m.length) (h : ∀ j, l.getD j 0 = m.getD j 0) : l = m := by
  apply List.ext_getElem hl
  intro j h1 h2
  have := h j
  simpa [List.getD, h1, h2] using this
theorem getD_big {l : List Int} {j : Nat} (h : l.length ≤ j) : l.getD j 0 = 0 := by simp [List.getD,h]
theorem addS_get (s t : S8) (j : Nat) (hj : j < 8) : (addS s t).list.getD j 0 = add32 (s.list.getD j 0) (t.list.getD j 0) := by
  match j, hj with
  | 0, _ => rfl
  | 1, _ => rfl
  | 2, _ => rfl
  | 3, _ => rfl
  | 4, _ => rfl
  | 5, _ => rfl
  | 6, _ => rfl
  | 7, _ => rfl

set_option maxRecDepth 100000 in
theorem w_x51c (s : S8) (b W : List Int) (hW : W.length = 64) (hn : 70 < n) :
    Wp (kont FB n tot ω) n x51c [(2, .var (K8 s)), (4, .var Z8), (5, .var (.agg (intsOf .u32 W)))] h (Ret [ARes.cell 4 true 8] fun v h2 => v = K8 (addS s (rnds W s 64)) ∧ h2 = h) := by
  unfold x51c
  have k1 := fun x => c88 (n := n) (tot := false) (ω := fun _ => 0) (h := []) x (-6) 26 hb26 (by omega) (by omega) (by omega)
  have k2 := fun x => c88 (n := n) (tot := false) (ω := fun _ => 0) (h := []) x (-11) 21 hb21 (by omega) (by omega) (by omega)
  have k3 := fun x => c88 (n := n) (tot := false) (ω := fun _ => 0) (h := []) x (-25) 7 hb7 (by omega) (by omega) (by omega)
  have k4 := fun x => c88 (n := n) (tot := false) (ω := fun _ => 0) (h := []) x (-2) 30 hb30 (by omega) (by omega) (by omega)
  have k5 := fun x => c88 (n := n) (tot := false) (ω := fun _ => 0) (h := []) x (-13) 19 hb19 (by omega) (by omega) (by omega)
  have k6 := fun x => c88 (n := n) (tot := false) (ω := fun _ => 0) (h := []) x (-22) 10 hb10 (by omega) (by omega) (by omega)
  have hR : roundsZ.length = 64 := rfl
  have hmx : (if IntKind.u32.signed = true then (-1 : Int) else IntKind.u32.max) = 4294967295 := rfl
  have hG : G0 = .agg (intsOf .u32 roundsZ) := rfl
  unfold K8 Z8
  simp (maxSteps := 2000000) (discharger := omega) only [xc,xo,xr,x0,x1,x2,x3,x4,x5,x6,xd,xe,xb,kont_call,kont_pure,kont_round,isNil,slOk,sliceV,selems,srcElems,copyTo,dlen,eqAV,eqCells,eqS,wr,place,partVals,partEs,placeEs,mapOf,keyOk,keyCells,findK,Bool.bne_false,Bool.bne_true,List.drop_zero,List.nil_append,List.append_nil,List.take_zero,List.cons_append,List.take_succ_cons,List.drop_succ_cons,List.take_nil,List.drop_nil,Reg.isA,Reg.isV,Reg.stays,Reg.onto,Bool.false_or,Bool.or_false,Bool.false_and,Bool.and_false,Bool.true_and,Bool.and_true,Bool.or_true,Bool.true_or,↓reduceIte,reduceCtorEq,Nat.reduceEqDiff,Nat.reduceLT,Nat.reduceAdd,Nat.reduceMul,Nat.add_zero,Nat.zero_add,Nat.not_lt_zero,Nat.zero_ne_one,Nat.one_ne_zero,Nat.reduceLeDiff,Nat.lt_irrefl,Nat.zero_lt_succ,Bool.false_eq_true,Bool.not_true,Bool.not_false,Option.map_some,Option.map_none,Option.bind_some,Option.getD_some,Option.getD_none,and_self,and_true,true_and,List.length_cons,List.length_nil,List.any_nil,List.any_cons,Int.toNat_natCast,Int.cast_ofNat_Int,Int.natCast_zero,Int.natCast_nonneg,true_implies,or_true,true_or,false_or,or_false,beq_self_eq_true,Option.some.injEq,exists_eq_left',Int.reduceEq,Int.reduceLT,Int.reduceLE,Int.reduceGT,Int.reduceGE,Nat.reduceGT,Int.reduceNeg,Int.reduceToNat,Int.reduceAdd,Int.reduceMul,Int.reduceSub,Int.reducePow,decide_true,decide_false,decide_eq_true_eq,List.getElem?_cons_zero,List.getElem?_cons_succ,Nat.reduceBEq,Nat.reduceSub,exists_false,and_false,false_and,xu,List.set_cons_zero,List.set_cons_succ,wrap_i64,int_lt_t,int_lt_f,int_le_t,int_le_f,int_gt_t,int_gt_f,int_ge_t,int_ge_f,int_eq_t,int_eq_f,int_beq_t,int_beq_f,int_bne_t,int_bne_f,nat_le_t,nat_le_f,Nat.sub_zero,Nat.sub_self,not_false_eq_true,not_true_eq_false,io_take,io_len,hW,List.drop_zero,Nat.reduceLeDiff]
  refine wpi_loop (fun x r g => ∃ (i : Nat) (t : S8), r = [(2, .var (K8 s)), (4, .var Z8), (10, .var (K8 t)), (82, .val (.agg (intsOf .u32 W))), (83, .val (.int .i64 i))] ∧ x = 64 - i ∧ i ≤ 64 ∧ g = h ∧ t = rnds W s i) 64 (by omega)
    ⟨0, s, rfl, rfl, by omega, rfl, rfl⟩ ?_
  rintro x r g ⟨i, t, rfl, rfl, hi, rfl, ht⟩
  by_cases hi2 : i < 64
  · unfold K8 Z8
    simp (maxSteps := 2000000) (discharger := omega) only [xc,xo,xr,x0,x1,x2,x3,x4,x5,x6,xd,xe,xb,kont_call,kont_pure,kont_round,isNil,slOk,sliceV,selems,srcElems,copyTo,dlen,eqAV,eqCells,eqS,wr,place,partVals,partEs,placeEs,mapOf,keyOk,keyCells,findK,Bool.bne_false,Bool.bne_true,List.drop_zero,List.nil_append,List.append_nil,List.take_zero,List.cons_append,List.take_succ_cons,List.drop_succ_cons,List.take_nil,List.drop_nil,Reg.isA,Reg.isV,Reg.stays,Reg.onto,Bool.false_or,Bool.or_false,Bool.false_and,Bool.and_false,Bool.true_and,Bool.and_true,Bool.or_true,Bool.true_or,↓reduceIte,reduceCtorEq,Nat.reduceEqDiff,Nat.reduceLT,Nat.reduceAdd,Nat.reduceMul,Nat.add_zero,Nat.zero_add,Nat.not_lt_zero,Nat.zero_ne_one,Nat.one_ne_zero,Nat.reduceLeDiff,Nat.lt_irrefl,Nat.zero_lt_succ,Bool.false_eq_true,Bool.not_true,Bool.not_false,Option.map_some,Option.map_none,Option.bind_some,Option.getD_some,Option.getD_none,and_self,and_true,true_and,List.length_cons,List.length_nil,List.any_nil,List.any_cons,Int.toNat_natCast,Int.cast_ofNat_Int,Int.natCast_zero,Int.natCast_nonneg,true_implies,or_true,true_or,false_or,or_false,beq_self_eq_true,Option.some.injEq,exists_eq_left',Int.reduceEq,Int.reduceLT,Int.reduceLE,Int.reduceGT,Int.reduceGE,Nat.reduceGT,Int.reduceNeg,Int.reduceToNat,Int.reduceAdd,Int.reduceMul,Int.reduceSub,Int.reducePow,decide_true,decide_false,decide_eq_true_eq,List.getElem?_cons_zero,List.getElem?_cons_succ,Nat.reduceBEq,Nat.reduceSub,exists_false,and_false,false_and,xu,List.set_cons_zero,List.set_cons_succ,wrap_i64,int_lt_t,int_lt_f,int_le_t,int_le_f,int_gt_t,int_gt_f,int_ge_t,int_ge_f,int_eq_t,int_eq_f,int_beq_t,int_beq_f,int_bne_t,int_bne_f,nat_le_t,nat_le_f,Nat.sub_zero,Nat.sub_self,not_false_eq_true,not_true_eq_false,k1,k2,k3,k4,k5,k6,io_get,io_len,hW,hG,hR,Nat.mul_one,Nat.reduceLeDiff,nat_lt_t,hmx]
    refine ⟨64 - (i + 1), by omega, i + 1, rnd t (roundsZ.getD i 0) (W.getD i 0), by rw [show ((i : Nat) : Int) + 1 = ((i + 1 : Nat) : Int) by omega]; rfl, rfl, by omega, by rw [ht]; rfl⟩
  · obtain rfl : i = 64 := by omega
    unfold K8 Z8
    simp (maxSteps := 2000000) (discharger := omega) only [xc,xo,xr,x0,x1,x2,x3,x4,x5,x6,xd,xe,xb,kont_call,kont_pure,kont_round,isNil,slOk,sliceV,selems,srcElems,copyTo,dlen,eqAV,eqCells,eqS,wr,place,partVals,partEs,placeEs,mapOf,keyOk,keyCells,findK,Bool.bne_false,Bool.bne_true,List.drop_zero,List.nil_append,List.append_nil,List.take_zero,List.cons_append,List.take_succ_cons,List.drop_succ_cons,List.take_nil,List.drop_nil,Reg.isA,Reg.isV,Reg.stays,Reg.onto,Bool.false_or,Bool.or_false,Bool.false_and,Bool.and_false,Bool.true_and,Bool.and_true,Bool.or_true,Bool.true_or,↓reduceIte,reduceCtorEq,Nat.reduceEqDiff,Nat.reduceLT,Nat.reduceAdd,Nat.reduceMul,Nat.add_zero,Nat.zero_add,Nat.not_lt_zero,Nat.zero_ne_one,Nat.one_ne_zero,Nat.reduceLeDiff,Nat.lt_irrefl,Nat.zero_lt_succ,Bool.false_eq_true,Bool.not_true,Bool.not_false,Option.map_some,Option.map_none,Option.bind_some,Option.getD_some,Option.getD_none,and_self,and_true,true_and,List.length_cons,List.length_nil,List.any_nil,List.any_cons,Int.toNat_natCast,Int.cast_ofNat_Int,Int.natCast_zero,Int.natCast_nonneg,true_implies,or_true,true_or,false_or,or_false,beq_self_eq_true,Option.some.injEq,exists_eq_left',Int.reduceEq,Int.reduceLT,Int.reduceLE,Int.reduceGT,Int.reduceGE,Nat.reduceGT,Int.reduceNeg,Int.reduceToNat,Int.reduceAdd,Int.reduceMul,Int.reduceSub,Int.reducePow,decide_true,decide_false,decide_eq_true_eq,List.getElem?_cons_zero,List.getElem?_cons_succ,Nat.reduceBEq,Nat.reduceSub,exists_false,and_false,false_and,xu,List.set_cons_zero,List.set_cons_succ,wrap_i64,int_lt_t,int_lt_f,int_le_t,int_le_f,int_gt_t,int_gt_f,int_ge_t,int_ge_f,int_eq_t,int_eq_f,int_beq_t,int_beq_f,int_bne_t,int_bne_f,nat_le_t,nat_le_f,Nat.sub_zero,Nat.sub_self,not_false_eq_true,not_true_eq_false]
    subst ht
    have hT : ∀ t : S8, AV.agg [AV.int .u32 t.a, AV.int .u32 t.b, AV.int .u32 t.c, AV.int .u32 t.d, AV.int .u32 t.e, AV.int .u32 t.f, AV.int .u32 t.g, AV.int .u32 t.h] = .agg (intsOf .u32 t.list) := fun t => rfl
    have hl8 : ∀ t : S8, t.list.length = 8 := fun t => rfl
    rw [hT, hT]
    generalize rnds W s 64 = t
    have q8 : t.list.length = 8 := rfl
    refine wpi_loop (fun x r g' => ∃ (i : Nat) (L : List Int), r = [(2, .var (.agg (intsOf .u32 L))), (4, .var Z8), (10, .var (.agg (intsOf .u32 t.list))), (162, .val (.int .i64 i))] ∧ x = 8 - i ∧ i ≤ 8 ∧ g' = g ∧ L.length = 8 ∧ ∀ j, L.getD j 0 = if j < i then (addS s t).list.getD j 0 else s.list.getD j 0) 8 (by omega)
      ⟨0, s.list, rfl, rfl, by omega, rfl, rfl, fun j => by rw [if_neg (by omega)]⟩ ?_
    rintro x r g' ⟨i, L, rfl, rfl, hi, rfl, hL, hg⟩
    by_cases hi2 : i < 8
    · have h1 := hg i
      rw [if_neg (by omega)] at h1
      unfold Z8
      simp (maxSteps := 2000000) (discharger := omega) only [xc,xo,xr,x0,x1,x2,x3,x4,x5,x6,xd,xe,xb,kont_call,kont_pure,kont_round,isNil,slOk,sliceV,selems,srcElems,copyTo,dlen,eqAV,eqCells,eqS,wr,place,partVals,partEs,placeEs,mapOf,keyOk,keyCells,findK,Bool.bne_false,Bool.bne_true,List.drop_zero,List.nil_append,List.append_nil,List.take_zero,List.cons_append,List.take_succ_cons,List.drop_succ_cons,List.take_nil,List.drop_nil,Reg.isA,Reg.isV,Reg.stays,Reg.onto,Bool.false_or,Bool.or_false,Bool.false_and,Bool.and_false,Bool.true_and,Bool.and_true,Bool.or_true,Bool.true_or,↓reduceIte,reduceCtorEq,Nat.reduceEqDiff,Nat.reduceLT,Nat.reduceAdd,Nat.reduceMul,Nat.add_zero,Nat.zero_add,Nat.not_lt_zero,Nat.zero_ne_one,Nat.one_ne_zero,Nat.reduceLeDiff,Nat.lt_irrefl,Nat.zero_lt_succ,Bool.false_eq_true,Bool.not_true,Bool.not_false,Option.map_some,Option.map_none,Option.bind_some,Option.getD_some,Option.getD_none,and_self,and_true,true_and,List.length_cons,List.length_nil,List.any_nil,List.any_cons,Int.toNat_natCast,Int.cast_ofNat_Int,Int.natCast_zero,Int.natCast_nonneg,true_implies,or_true,true_or,false_or,or_false,beq_self_eq_true,Option.some.injEq,exists_eq_left',Int.reduceEq,Int.reduceLT,Int.reduceLE,Int.reduceGT,Int.reduceGE,Nat.reduceGT,Int.reduceNeg,Int.reduceToNat,Int.reduceAdd,Int.reduceMul,Int.reduceSub,Int.reducePow,decide_true,decide_false,decide_eq_true_eq,List.getElem?_cons_zero,List.getElem?_cons_succ,Nat.reduceBEq,Nat.reduceSub,exists_false,and_false,false_and,xu,List.set_cons_zero,List.set_cons_succ,wrap_i64,int_lt_t,int_lt_f,int_le_t,int_le_f,int_gt_t,int_gt_f,int_ge_t,int_ge_f,int_eq_t,int_eq_f,int_beq_t,int_beq_f,int_bne_t,int_bne_f,nat_le_t,nat_le_f,Nat.sub_zero,Nat.sub_self,not_false_eq_true,not_true_eq_false,io_get,io_set,io_len,hL,hl8,Nat.mul_one,Nat.reduceLeDiff,nat_lt_t]
      refine ⟨8 - (i + 1), by omega, i + 1, L.set i (add32 (L.getD i 0) (t.list.getD i 0)), by rw [show ((i : Nat) : Int) + 1 = ((i + 1 : Nat) : Int) by omega]; rfl, rfl, by omega, by simpa using hL, fun j => ?_⟩
      rw [set_getD _ _ _ _ (by omega)]
      by_cases e : j = i
      · rw [if_pos e, if_pos (by omega), e, h1, addS_get _ _ _ hi2]
      · rw [if_neg e, hg j]
        by_cases e2 : j < i
        · rw [if_pos e2, if_pos (by omega)]
        · rw [if_neg e2, if_neg (by omega)]
    · obtain rfl : i = 8 := by omega
      have : L = (addS s t).list := ext_getD (by rw [hL]; rfl) fun j => by
        rw [hg j]
        by_cases e : j < 8
        · rw [if_pos e]
        · rw [if_neg e, getD_big (by show 8 ≤ j; omega), getD_big (by show 8 ≤ j; omega)]
      subst this
      unfold Z8
      simp (maxSteps := 2000000) (discharger := omega) only [xc,xo,xr,x0,x1,x2,x3,x4,x5,x6,xd,xe,xb,kont_call,kont_pure,kont_round,isNil,slOk,sliceV,selems,srcElems,copyTo,dlen,eqAV,eqCells,eqS,wr,place,partVals,partEs,placeEs,mapOf,keyOk,keyCells,findK,Bool.bne_false,Bool.bne_true,List.drop_zero,List.nil_append,List.append_nil,List.take_zero,List.cons_append,List.take_succ_cons,List.drop_succ_cons,List.take_nil,List.drop_nil,Reg.isA,Reg.isV,Reg.stays,Reg.onto,Bool.false_or,Bool.or_false,Bool.false_and,Bool.and_false,Bool.true_and,Bool.and_true,Bool.or_true,Bool.true_or,↓reduceIte,reduceCtorEq,Nat.reduceEqDiff,Nat.reduceLT,Nat.reduceAdd,Nat.reduceMul,Nat.add_zero,Nat.zero_add,Nat.not_lt_zero,Nat.zero_ne_one,Nat.one_ne_zero,Nat.reduceLeDiff,Nat.lt_irrefl,Nat.zero_lt_succ,Bool.false_eq_true,Bool.not_true,Bool.not_false,Option.map_some,Option.map_none,Option.bind_some,Option.getD_some,Option.getD_none,and_self,and_true,true_and,List.length_cons,List.length_nil,List.any_nil,List.any_cons,Int.toNat_natCast,Int.cast_ofNat_Int,Int.natCast_zero,Int.natCast_nonneg,true_implies,or_true,true_or,false_or,or_false,beq_self_eq_true,Option.some.injEq,exists_eq_left',Int.reduceEq,Int.reduceLT,Int.reduceLE,Int.reduceGT,Int.reduceGE,Nat.reduceGT,Int.reduceNeg,Int.reduceToNat,Int.reduceAdd,Int.reduceMul,Int.reduceSub,Int.reducePow,decide_true,decide_false,decide_eq_true_eq,List.getElem?_cons_zero,List.getElem?_cons_succ,Nat.reduceBEq,Nat.reduceSub,exists_false,and_false,false_and,xu,List.set_cons_zero,List.set_cons_succ,wrap_i64,int_lt_t,int_lt_f,int_le_t,int_le_f,int_gt_t,int_gt_f,int_ge_t,int_ge_f,int_eq_t,int_eq_f,int_beq_t,int_beq_f,int_bne_t,int_bne_f,nat_le_t,nat_le_f,Nat.sub_zero,Nat.sub_self,not_false_eq_true,not_true_eq_false,Nat.reduceLeDiff,io_len,hL,io_take]
      rfl

set_option maxRecDepth 100000 in
theorem c51 (s : S8) (b : List Int) (hb : b.length = 64) (hbb : ∀ x ∈ b, 0 ≤ x ∧ x ≤ 255) (hn : 80 < n) : call FB n tot ω 51 [K8 s, .agg (intsOf .u8 b)] h = some (K8 (mixS s b), h) := by
  obtain ⟨n, rfl⟩ : ∃ m, n = m + 1 := ⟨n - 1, by omega⟩
  refine call_eq (fn := a51) g51 ?_
  unfold a51
  have z64 : (AV.agg [AV.int .u32 0, AV.int .u32 0, AV.int .u32 0, AV.int .u32 0, AV.int .u32 0, AV.int .u32 0, AV.int .u32 0, AV.int .u32 0, AV.int .u32 0, AV.int .u32 0, AV.int .u32 0, AV.int .u32 0, AV.int .u32 0, AV.int .u32 0, AV.int .u32 0, AV.int .u32 0, AV.int .u32 0, AV.int .u32 0, AV.int .u32 0, AV.int .u32 0, AV.int .u32 0, AV.int .u32 0, AV.int .u32 0, AV.int .u32 0, AV.int .u32 0, AV.int .u32 0, AV.int .u32 0, AV.int .u32 0, AV.int .u32 0, AV.int .u32 0, AV.int .u32 0, AV.int .u32 0, AV.int .u32 0, AV.int .u32 0, AV.int .u32 0, AV.int .u32 0, AV.int .u32 0, AV.int .u32 0, AV.int .u32 0, AV.int .u32 0, AV.int .u32 0, AV.int .u32 0, AV.int .u32 0, AV.int .u32 0, AV.int .u32 0, AV.int .u32 0, AV.int .u32 0, AV.int .u32 0, AV.int .u32 0, AV.int .u32 0, AV.int .u32 0, AV.int .u32 0, AV.int .u32 0, AV.int .u32 0, AV.int .u32 0, AV.int .u32 0, AV.int .u32 0, AV.int .u32 0, AV.int .u32 0, AV.int .u32 0, AV.int .u32 0, AV.int .u32 0, AV.int .u32 0, AV.int .u32 0] : AV) = .agg (intsOf .u32 (List.replicate 64 0)) := rfl
  have z8 : (AV.agg [AV.int .u32 0, AV.int .u32 0, AV.int .u32 0, AV.int .u32 0, AV.int .u32 0, AV.int .u32 0, AV.int .u32 0, AV.int .u32 0] : AV) = Z8 := rfl
  have c8 : AV.cells (K8 s) = intsOf .u32 s.list := rfl
  have n8 : AV.notTup (K8 s) = true := rfl
  have l8 : s.list.length = 8 := rfl
  rw [z64, z8]
  simp (maxSteps := 2000000) (discharger := omega) only [xc,xo,xr,x0,x1,x2,x3,x4,x5,x6,xd,xe,xb,kont_call,kont_pure,kont_round,isNil,slOk,sliceV,selems,srcElems,copyTo,dlen,eqAV,eqCells,eqS,wr,place,partVals,partEs,placeEs,mapOf,keyOk,keyCells,findK,Bool.bne_false,Bool.bne_true,List.drop_zero,List.nil_append,List.append_nil,List.take_zero,List.cons_append,List.take_succ_cons,List.drop_succ_cons,List.take_nil,List.drop_nil,Reg.isA,Reg.isV,Reg.stays,Reg.onto,Bool.false_or,Bool.or_false,Bool.false_and,Bool.and_false,Bool.true_and,Bool.and_true,Bool.or_true,Bool.true_or,↓reduceIte,reduceCtorEq,Nat.reduceEqDiff,Nat.reduceLT,Nat.reduceAdd,Nat.reduceMul,Nat.add_zero,Nat.zero_add,Nat.not_lt_zero,Nat.zero_ne_one,Nat.one_ne_zero,Nat.reduceLeDiff,Nat.lt_irrefl,Nat.zero_lt_succ,Bool.false_eq_true,Bool.not_true,Bool.not_false,Option.map_some,Option.map_none,Option.bind_some,Option.getD_some,Option.getD_none,and_self,and_true,true_and,List.length_cons,List.length_nil,List.any_nil,List.any_cons,Int.toNat_natCast,Int.cast_ofNat_Int,Int.natCast_zero,Int.natCast_nonneg,true_implies,or_true,true_or,false_or,or_false,beq_self_eq_true,Option.some.injEq,exists_eq_left',Int.reduceEq,Int.reduceLT,Int.reduceLE,Int.reduceGT,Int.reduceGE,Nat.reduceGT,Int.reduceNeg,Int.reduceToNat,Int.reduceAdd,Int.reduceMul,Int.reduceSub,Int.reducePow,decide_true,decide_false,decide_eq_true_eq,List.getElem?_cons_zero,List.getElem?_cons_succ,Nat.reduceBEq,Nat.reduceSub,exists_false,and_false,false_and,xu,List.set_cons_zero,List.set_cons_succ,wrap_i64,int_lt_t,int_lt_f,int_le_t,int_le_f,int_gt_t,int_gt_f,int_ge_t,int_ge_f,int_eq_t,int_eq_f,int_beq_t,int_beq_f,int_bne_t,int_bne_f,nat_le_t,nat_le_f,Nat.sub_zero,Nat.sub_self,not_false_eq_true,not_true_eq_false,c8,n8,io_len,hb,l8,Nat.reduceLeDiff]
  refine wpi_loop (fun x r g => ∃ (i : Nat) (W : List Int), r = [(2, .var (K8 s)), (3, .var (.agg (intsOf .u8 b))), (4, .var Z8), (5, .var (.agg (intsOf .u32 W))), (18, .val (.int .i64 i))] ∧ x = 64 - i ∧ i ≤ 64 ∧ g = h ∧ Sch b W i) 64 (by omega)
    ⟨0, List.replicate 64 0, rfl, rfl, by omega, rfl, by simp, fun j hj => by omega, fun j _ => rep_getD 64 j⟩ ?_
  rintro x r g ⟨i, W, rfl, rfl, hi, rfl, hs⟩
  by_cases hi2 : i < 64
  · by_cases h16 : i < 16
    · simp (maxSteps := 2000000) (discharger := omega) only [xc,xo,xr,x0,x1,x2,x3,x4,x5,x6,xd,xe,xb,kont_call,kont_pure,kont_round,isNil,slOk,sliceV,selems,srcElems,copyTo,dlen,eqAV,eqCells,eqS,wr,place,partVals,partEs,placeEs,mapOf,keyOk,keyCells,findK,Bool.bne_false,Bool.bne_true,List.drop_zero,List.nil_append,List.append_nil,List.take_zero,List.cons_append,List.take_succ_cons,List.drop_succ_cons,List.take_nil,List.drop_nil,Reg.isA,Reg.isV,Reg.stays,Reg.onto,Bool.false_or,Bool.or_false,Bool.false_and,Bool.and_false,Bool.true_and,Bool.and_true,Bool.or_true,Bool.true_or,↓reduceIte,reduceCtorEq,Nat.reduceEqDiff,Nat.reduceLT,Nat.reduceAdd,Nat.reduceMul,Nat.add_zero,Nat.zero_add,Nat.not_lt_zero,Nat.zero_ne_one,Nat.one_ne_zero,Nat.reduceLeDiff,Nat.lt_irrefl,Nat.zero_lt_succ,Bool.false_eq_true,Bool.not_true,Bool.not_false,Option.map_some,Option.map_none,Option.bind_some,Option.getD_some,Option.getD_none,and_self,and_true,true_and,List.length_cons,List.length_nil,List.any_nil,List.any_cons,Int.toNat_natCast,Int.cast_ofNat_Int,Int.natCast_zero,Int.natCast_nonneg,true_implies,or_true,true_or,false_or,or_false,beq_self_eq_true,Option.some.injEq,exists_eq_left',Int.reduceEq,Int.reduceLT,Int.reduceLE,Int.reduceGT,Int.reduceGE,Nat.reduceGT,Int.reduceNeg,Int.reduceToNat,Int.reduceAdd,Int.reduceMul,Int.reduceSub,Int.reducePow,decide_true,decide_false,decide_eq_true_eq,List.getElem?_cons_zero,List.getElem?_cons_succ,Nat.reduceBEq,Nat.reduceSub,exists_false,and_false,false_and,xu,List.set_cons_zero,List.set_cons_succ,wrap_i64,int_lt_t,int_lt_f,int_le_t,int_le_f,int_gt_t,int_gt_f,int_ge_t,int_ge_f,int_eq_t,int_eq_f,int_beq_t,int_beq_f,int_bne_t,int_bne_f,nat_le_t,nat_le_f,Nat.sub_zero,Nat.sub_self,not_false_eq_true,not_true_eq_false]
      refine (w_x51a (n := n) s b W i h16 hb hs.len (hs.zero i (Nat.le_refl _)) hbb (by omega)).mono ?_
      rintro e r' h' ⟨rfl, rfl, W', rfl, hl, hg⟩
      simp (maxSteps := 2000000) (discharger := omega) only [xc,xo,xr,x0,x1,x2,x3,x4,x5,x6,xd,xe,xb,kont_call,kont_pure,kont_round,isNil,slOk,sliceV,selems,srcElems,copyTo,dlen,eqAV,eqCells,eqS,wr,place,partVals,partEs,placeEs,mapOf,keyOk,keyCells,findK,Bool.bne_false,Bool.bne_true,List.drop_zero,List.nil_append,List.append_nil,List.take_zero,List.cons_append,List.take_succ_cons,List.drop_succ_cons,List.take_nil,List.drop_nil,Reg.isA,Reg.isV,Reg.stays,Reg.onto,Bool.false_or,Bool.or_false,Bool.false_and,Bool.and_false,Bool.true_and,Bool.and_true,Bool.or_true,Bool.true_or,↓reduceIte,reduceCtorEq,Nat.reduceEqDiff,Nat.reduceLT,Nat.reduceAdd,Nat.reduceMul,Nat.add_zero,Nat.zero_add,Nat.not_lt_zero,Nat.zero_ne_one,Nat.one_ne_zero,Nat.reduceLeDiff,Nat.lt_irrefl,Nat.zero_lt_succ,Bool.false_eq_true,Bool.not_true,Bool.not_false,Option.map_some,Option.map_none,Option.bind_some,Option.getD_some,Option.getD_none,and_self,and_true,true_and,List.length_cons,List.length_nil,List.any_nil,List.any_cons,Int.toNat_natCast,Int.cast_ofNat_Int,Int.natCast_zero,Int.natCast_nonneg,true_implies,or_true,true_or,false_or,or_false,beq_self_eq_true,Option.some.injEq,exists_eq_left',Int.reduceEq,Int.reduceLT,Int.reduceLE,Int.reduceGT,Int.reduceGE,Nat.reduceGT,Int.reduceNeg,Int.reduceToNat,Int.reduceAdd,Int.reduceMul,Int.reduceSub,Int.reducePow,decide_true,decide_false,decide_eq_true_eq,List.getElem?_cons_zero,List.getElem?_cons_succ,Nat.reduceBEq,Nat.reduceSub,exists_false,and_false,false_and,xu,List.set_cons_zero,List.set_cons_succ,wrap_i64,int_lt_t,int_lt_f,int_le_t,int_le_f,int_gt_t,int_gt_f,int_ge_t,int_ge_f,int_eq_t,int_eq_f,int_beq_t,int_beq_f,int_bne_t,int_bne_f,nat_le_t,nat_le_f,Nat.sub_zero,Nat.sub_self,not_false_eq_true,not_true_eq_false]
      refine ⟨64 - (i + 1), by omega, i + 1, W', by rw [show ((i : Nat) : Int) + 1 = ((i + 1 : Nat) : Int) by omega], rfl, by omega, hs.next hi2 hl fun j => ?_⟩
      rw [hg]
      by_cases e : j = i
      · rw [if_pos e, if_pos e]; unfold wNext; rw [if_pos h16]
      · rw [if_neg e, if_neg e]
    · simp (maxSteps := 2000000) (discharger := omega) only [xc,xo,xr,x0,x1,x2,x3,x4,x5,x6,xd,xe,xb,kont_call,kont_pure,kont_round,isNil,slOk,sliceV,selems,srcElems,copyTo,dlen,eqAV,eqCells,eqS,wr,place,partVals,partEs,placeEs,mapOf,keyOk,keyCells,findK,Bool.bne_false,Bool.bne_true,List.drop_zero,List.nil_append,List.append_nil,List.take_zero,List.cons_append,List.take_succ_cons,List.drop_succ_cons,List.take_nil,List.drop_nil,Reg.isA,Reg.isV,Reg.stays,Reg.onto,Bool.false_or,Bool.or_false,Bool.false_and,Bool.and_false,Bool.true_and,Bool.and_true,Bool.or_true,Bool.true_or,↓reduceIte,reduceCtorEq,Nat.reduceEqDiff,Nat.reduceLT,Nat.reduceAdd,Nat.reduceMul,Nat.add_zero,Nat.zero_add,Nat.not_lt_zero,Nat.zero_ne_one,Nat.one_ne_zero,Nat.reduceLeDiff,Nat.lt_irrefl,Nat.zero_lt_succ,Bool.false_eq_true,Bool.not_true,Bool.not_false,Option.map_some,Option.map_none,Option.bind_some,Option.getD_some,Option.getD_none,and_self,and_true,true_and,List.length_cons,List.length_nil,List.any_nil,List.any_cons,Int.toNat_natCast,Int.cast_ofNat_Int,Int.natCast_zero,Int.natCast_nonneg,true_implies,or_true,true_or,false_or,or_false,beq_self_eq_true,Option.some.injEq,exists_eq_left',Int.reduceEq,Int.reduceLT,Int.reduceLE,Int.reduceGT,Int.reduceGE,Nat.reduceGT,Int.reduceNeg,Int.reduceToNat,Int.reduceAdd,Int.reduceMul,Int.reduceSub,Int.reducePow,decide_true,decide_false,decide_eq_true_eq,List.getElem?_cons_zero,List.getElem?_cons_succ,Nat.reduceBEq,Nat.reduceSub,exists_false,and_false,false_and,xu,List.set_cons_zero,List.set_cons_succ,wrap_i64,int_lt_t,int_lt_f,int_le_t,int_le_f,int_gt_t,int_gt_f,int_ge_t,int_ge_f,int_eq_t,int_eq_f,int_beq_t,int_beq_f,int_bne_t,int_bne_f,nat_le_t,nat_le_f,Nat.sub_zero,Nat.sub_self,not_false_eq_true,not_true_eq_false]
      refine (w_x51b (n := n) s b W i (by omega) hi2 hs.len (by omega)).mono ?_
      rintro e r' h' ⟨rfl, rfl, W', rfl, hl, hg⟩
      simp (maxSteps := 2000000) (discharger := omega) only [xc,xo,xr,x0,x1,x2,x3,x4,x5,x6,xd,xe,xb,kont_call,kont_pure,kont_round,isNil,slOk,sliceV,selems,srcElems,copyTo,dlen,eqAV,eqCells,eqS,wr,place,partVals,partEs,placeEs,mapOf,keyOk,keyCells,findK,Bool.bne_false,Bool.bne_true,List.drop_zero,List.nil_append,List.append_nil,List.take_zero,List.cons_append,List.take_succ_cons,List.drop_succ_cons,List.take_nil,List.drop_nil,Reg.isA,Reg.isV,Reg.stays,Reg.onto,Bool.false_or,Bool.or_false,Bool.false_and,Bool.and_false,Bool.true_and,Bool.and_true,Bool.or_true,Bool.true_or,↓reduceIte,reduceCtorEq,Nat.reduceEqDiff,Nat.reduceLT,Nat.reduceAdd,Nat.reduceMul,Nat.add_zero,Nat.zero_add,Nat.not_lt_zero,Nat.zero_ne_one,Nat.one_ne_zero,Nat.reduceLeDiff,Nat.lt_irrefl,Nat.zero_lt_succ,Bool.false_eq_true,Bool.not_true,Bool.not_false,Option.map_some,Option.map_none,Option.bind_some,Option.getD_some,Option.getD_none,and_self,and_true,true_and,List.length_cons,List.length_nil,List.any_nil,List.any_cons,Int.toNat_natCast,Int.cast_ofNat_Int,Int.natCast_zero,Int.natCast_nonneg,true_implies,or_true,true_or,false_or,or_false,beq_self_eq_true,Option.some.injEq,exists_eq_left',Int.reduceEq,Int.reduceLT,Int.reduceLE,Int.reduceGT,Int.reduceGE,Nat.reduceGT,Int.reduceNeg,Int.reduceToNat,Int.reduceAdd,Int.reduceMul,Int.reduceSub,Int.reducePow,decide_true,decide_false,decide_eq_true_eq,List.getElem?_cons_zero,List.getElem?_cons_succ,Nat.reduceBEq,Nat.reduceSub,exists_false,and_false,false_and,xu,List.set_cons_zero,List.set_cons_succ,wrap_i64,int_lt_t,int_lt_f,int_le_t,int_le_f,int_gt_t,int_gt_f,int_ge_t,int_ge_f,int_eq_t,int_eq_f,int_beq_t,int_beq_f,int_bne_t,int_bne_f,nat_le_t,nat_le_f,Nat.sub_zero,Nat.sub_self,not_false_eq_true,not_true_eq_false]
      refine ⟨64 - (i + 1), by omega, i + 1, W', by rw [show ((i : Nat) : Int) + 1 = ((i + 1 : Nat) : Int) by omega], rfl, by omega, hs.next hi2 hl fun j => ?_⟩
      rw [hg, wNext_old hi fun j hj => hs.old hi j hj]
  · obtain rfl : i = 64 := by omega
    have : W = wList b 64 := ext_getD (by rw [hs.len, wList_len]) fun j => by
      by_cases e : j < 64
      · exact hs.done j e
      · rw [getD_big (by rw [hs.len]; omega), getD_big (by rw [wList_len]; omega)]
    have hm : mixS s b = addS s (rnds W s 64) := by unfold mixS; rw [this]
    rw [hm]
    simp (maxSteps := 2000000) (discharger := omega) only [xc,xo,xr,x0,x1,x2,x3,x4,x5,x6,xd,xe,xb,kont_call,kont_pure,kont_round,isNil,slOk,sliceV,selems,srcElems,copyTo,dlen,eqAV,eqCells,eqS,wr,place,partVals,partEs,placeEs,mapOf,keyOk,keyCells,findK,Bool.bne_false,Bool.bne_true,List.drop_zero,List.nil_append,List.append_nil,List.take_zero,List.cons_append,List.take_succ_cons,List.drop_succ_cons,List.take_nil,List.drop_nil,Reg.isA,Reg.isV,Reg.stays,Reg.onto,Bool.false_or,Bool.or_false,Bool.false_and,Bool.and_false,Bool.true_and,Bool.and_true,Bool.or_true,Bool.true_or,↓reduceIte,reduceCtorEq,Nat.reduceEqDiff,Nat.reduceLT,Nat.reduceAdd,Nat.reduceMul,Nat.add_zero,Nat.zero_add,Nat.not_lt_zero,Nat.zero_ne_one,Nat.one_ne_zero,Nat.reduceLeDiff,Nat.lt_irrefl,Nat.zero_lt_succ,Bool.false_eq_true,Bool.not_true,Bool.not_false,Option.map_some,Option.map_none,Option.bind_some,Option.getD_some,Option.getD_none,and_self,and_true,true_and,List.length_cons,List.length_nil,List.any_nil,List.any_cons,Int.toNat_natCast,Int.cast_ofNat_Int,Int.natCast_zero,Int.natCast_nonneg,true_implies,or_true,true_or,false_or,or_false,beq_self_eq_true,Option.some.injEq,exists_eq_left',Int.reduceEq,Int.reduceLT,Int.reduceLE,Int.reduceGT,Int.reduceGE,Nat.reduceGT,Int.reduceNeg,Int.reduceToNat,Int.reduceAdd,Int.reduceMul,Int.reduceSub,Int.reducePow,decide_true,decide_false,decide_eq_true_eq,List.getElem?_cons_zero,List.getElem?_cons_succ,Nat.reduceBEq,Nat.reduceSub,exists_false,and_false,false_and,xu,List.set_cons_zero,List.set_cons_succ,wrap_i64,int_lt_t,int_lt_f,int_le_t,int_le_f,int_gt_t,int_gt_f,int_ge_t,int_ge_f,int_eq_t,int_eq_f,int_beq_t,int_beq_f,int_bne_t,int_bne_f,nat_le_t,nat_le_f,Nat.sub_zero,Nat.sub_self,not_false_eq_true,not_true_eq_false]
    exact w_x51c (n := n) s b W hs.len (by omega)
end
end Go.Proofs.YtcnbllelfinlmaaDoor.Im

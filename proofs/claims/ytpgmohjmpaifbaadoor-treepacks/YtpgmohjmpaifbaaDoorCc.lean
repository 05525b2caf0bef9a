/- Joined: S21Mx, S21Tabs, S21BTabs, S21BIs, S21Bm, S21Is, S21Six, S21Wr, S21Dec, S21Rdr, S21Rrd, S21Inv, S21P0, S21Pb, S21Pc, S21Cu, S21Cc. -/
import Derived.Test.YtpgmohjmpaifbaaDoorG
import Derived.Test.YtpgmohjmpaifbaaDoorImX4
import Derived.Test.YtpgmohjmpaifbaaDoorFns
import Derived.Test.YtpgmohjmpaifbaaDoorFnsB
import Derived.Test.YtpgmohjmpaifbaaDoorImExt3
import Derived.Test.YtpgmohjmpaifbaaDoorBFns
import Derived.KernelRfl
import Derived.Test.YtpgmohjmpaifbaaDoorImRow
import Derived.Test.YtpgmohjmpaifbaaDoorImSl
import Derived.Test.YtpgmohjmpaifbaaDoorImApp
import Derived.Test.YtpgmohjmpaifbaaDoorImMapT
/- S21Mx: what sha.mixed computes. -/
set_option linter.unusedVariables false
namespace Go.Proofs.YtpgmohjmpaifbaaDoor.Im
open Go Go.Im

def rl (x : Int) (s : Nat) : Int := bitsI .or .u32 (IntKind.u32.wrap (x * 2 ^ s)) (x.fdiv (2 ^ (32 - s)))
def add32 (x y : Int) : Int := IntKind.u32.wrap (x + y)
def xor32 (x y : Int) : Int := bitsI .xor .u32 x y
def and32 (x y : Int) : Int := bitsI .and .u32 x y
def not32 (x : Int) : Int := bitsI .xor .u32 4294967295 x

def word4 (b : List Int) (i : Nat) : Nat → Int
  | 0 => 0
  | k + 1 => bitsI .or .u32 (IntKind.u32.wrap (word4 b i k * 256)) (b.getD (4 * i + k) 0)

def wNext (b w : List Int) (i : Nat) : Int :=
  if i < 16 then word4 b i 4 else
    add32 (add32 (add32 (w.getD (i - 16) 0) (xor32 (xor32 (rl (w.getD (i - 15) 0) 25) (rl (w.getD (i - 15) 0) 14)) ((w.getD (i - 15) 0).fdiv 8))) (w.getD (i - 7) 0))
      (xor32 (xor32 (rl (w.getD (i - 2) 0) 15) (rl (w.getD (i - 2) 0) 13)) ((w.getD (i - 2) 0).fdiv 1024))
def wList (b : List Int) : Nat → List Int
  | 0 => []
  | i + 1 => wList b i ++ [wNext b (wList b i) i]

structure S8 where
  (a b c d e f g h : Int)
def S8.list (s : S8) : List Int := [s.a, s.b, s.c, s.d, s.e, s.f, s.g, s.h]

def one (s : S8) (k x : Int) : Int :=
  add32 (add32 (add32 (add32 s.h (xor32 (xor32 (rl s.e 26) (rl s.e 21)) (rl s.e 7))) (xor32 (and32 s.e s.f) (and32 (not32 s.e) s.g))) k) x
def two (s : S8) : Int :=
  add32 (xor32 (xor32 (rl s.a 30) (rl s.a 19)) (rl s.a 10)) (xor32 (xor32 (and32 s.a s.b) (and32 s.a s.c)) (and32 s.b s.c))
def rnd (s : S8) (k x : Int) : S8 := ⟨add32 (one s k x) (two s), s.a, s.b, s.c, add32 s.d (one s k x), s.e, s.f, s.g⟩

def rnds (w : List Int) (s : S8) : Nat → S8
  | 0 => s
  | i + 1 => rnd (rnds w s i) (roundsZ.getD i 0) (w.getD i 0)

def addS (s t : S8) : S8 := ⟨add32 s.a t.a, add32 s.b t.b, add32 s.c t.c, add32 s.d t.d, add32 s.e t.e, add32 s.f t.f, add32 s.g t.g, add32 s.h t.h⟩

def mixS (s : S8) (b : List Int) : S8 := addS s (rnds (wList b 64) s 64)

def unInts (k : IntKind) : List AV → Option (List Int)
  | [] => some []
  | .int j n :: r => if j = k then (unInts k r).map (n :: ·) else none
  | _ :: _ => none

def mixG : Kont → List AV → Hp → Option (AV × Hp) := fun _ args h => match args with
  | [.agg [.int .u32 a, .int .u32 b, .int .u32 c, .int .u32 d, .int .u32 e, .int .u32 f, .int .u32 g, .int .u32 i], .agg bs] => match unInts .u8 bs with
    | some ys => if ys.length = 64 ∧ (ys.all fun x => decide (0 ≤ x ∧ x ≤ 255)) = true then some (.agg (intsOf .u32 (mixS ⟨a, b, c, d, e, f, g, i⟩ ys).list), h) else none
    | none => none
  | _ => none

theorem unInts_some {k : IntKind} : ∀ {l : List AV} {xs : List Int}, unInts k l = some xs → l = intsOf k xs
  | [], xs, h => by cases h; rfl
  | .int j n :: r, xs, h => by
    simp only [unInts] at h
    split at h
    · rename_i e
      subst e
      cases hr : unInts j r with
      | none => rw [hr] at h; cases h
      | some ys =>
        rw [hr] at h
        cases h
        rw [unInts_some hr]; rfl
    · cases h
  | .bool _ :: _, _, h | .str _ :: _, _, h | .agg _ :: _, _, h | .tup _ :: _, _, h | .nilp :: _, _, h | .ptr .. :: _, _, h | .iptr _ :: _, _, h | .nils :: _, _, h | .imm .. :: _, _, h | .row .. :: _, _, h | .nilm :: _, _, h | .mp _ :: _, _, h | .nilf :: _, _, h | .fn .. :: _, _, h | .nili :: _, _, h | .ifc .. :: _, _, h | .yld _ :: _, _, h => by cases h
end Go.Proofs.YtpgmohjmpaifbaaDoor.Im

/- S21Tabs: the table of the functions. -/
namespace Go.Proofs.YtpgmohjmpaifbaaDoor.Im
open Go Go.Im

def tab : Array (Option AF) := #[none, none, none, none, none, none, none, none, none, some a9, some a10, some a11, some a12, some a13, some a14, some a15, some a16, none, some a18, none, some a20, some a21, some a22, none, some a24, some a25, none, none, none, none, none, none, none, none, none, some a35, some a36, some a37, some a38, some a39, some a40, some a41, some a42, some a43, some a44, some a45, some a46, some a47, some a48, some a49, some a50, none, some a52, some a53, none, none, none, some a57, some a58, some a59, some a60, some a61, some a62, some a63, some a64, some a65, some a66, some a67, some a68, some a69, some a70, some a71, some a72, some a73, some a74, some a75, some a76, some a77, some a78, some a79, some a80, none, some a82, some a83, some a84, some a85, none, some a87, some a88, some a89, some a90, some a91, some a92, some a93, some a94, some a95, some a96, some a97, some a98, some a99, some a100, some a101, some a102, some a103, some a104, some a105, some a106, some a107, some a108, some a109, some a110, some a111, some a112, none, some a114, some a115, none, some a117, some a118, some a119, none, some a121, some a122]

def FA : Fns := fun f => if f = 51 then some (.inr mixG) else if f = 113 then some (.inr cmpG) else if f = 116 then some (.inr nopG) else if f = 120 then some (.inr idxG) else match tab[f]? with
  | some (some x) => some (.inl x)
  | _ => none

def F : Fns := fun f => if f = 10 then some (.inr yesG) else FA f

end Go.Proofs.YtpgmohjmpaifbaaDoor.Im

/- S21BTabs: the table of the functions. -/
namespace Go.Proofs.YtpgmohjmpaifbaaDoor.Im
open Go Go.Im

def tabB : Array (Option AF) := #[none, none, none, none, none, none, none, none, none, none, none, none, none, none, none, none, none, none, none, none, none, none, none, none, none, none, none, none, none, none, none, none, none, none, none, none, none, none, none, none, none, none, none, none, none, none, none, none, none, none, none, some a51, none, none, none, none, none, none, none, none, none, none, none, none, none, none, none, none, none, none, none, none, none, none, none, none, none, none, none, none, none, some a81]

def FB : Fns := fun f => match tabB[f]? with
  | some (some x) => some (.inl x)
  | _ => none

end Go.Proofs.YtpgmohjmpaifbaaDoor.Im

/- S21BIs: which functions stand where. -/
open Go Go.Im
namespace Go.Proofs.YtpgmohjmpaifbaaDoor.Im

theorem g51 : FB 51 = some (.inl a51) := by kernel_rfl
theorem g81 : FB 81 = some (.inl a81) := by kernel_rfl

end Go.Proofs.YtpgmohjmpaifbaaDoor.Im

/- S21Bm: sha.mixed does what S21Mx says. -/
set_option linter.unusedVariables false
set_option linter.unusedSimpArgs false
open Go Go.Im
namespace Go.Proofs.YtpgmohjmpaifbaaDoor.Im
section
variable {n : Nat} {tot : Bool} {ω : Nat → Nat} {h : Hp}

theorem io_get {k : IntKind} {l : List Int} {j : Nat} (hj : j < l.length) : (intsOf k l)[j]? = some (.int k (l.getD j 0)) := by
  simp [intsOf,hj,List.getD]
theorem io_set (k : IntKind) (l : List Int) (j : Nat) (v : Int) : (intsOf k l).set j (.int k v) = intsOf k (l.set j v) := by simp [intsOf,List.map_set]
theorem io_take {k : IntKind} {l : List Int} {m : Nat} (hm : l.length ≤ m) : (intsOf k l).take m = intsOf k l := List.take_of_length_le (by simpa [intsOf] using hm)

theorem c81 (x k : Int) (s : Nat) (hs : bitsI .and .u64 (IntKind.u64.wrap k) 31 = (s : Int)) (h1 : 1 ≤ s) (h2 : s ≤ 31) (hn : 0 < n) : call FB n tot ω 81 [.int .u32 x, .int .i64 k] h = some (.int .u32 (rl x s), h) := by
  obtain ⟨n, rfl⟩ : ∃ m, n = m + 1 := ⟨n - 1, by omega⟩
  refine call_eq (fn := a81) g81 ?_
  unfold a81
  have e1 : IntKind.u64.wrap (32 - (s : Int)) = ((32 - s : Nat) : Int) := by rw [wrap_u64 (by omega) (by omega)]; omega
  have e2 : min s IntKind.u32.bits = s := by show min s 32 = s; omega
  have e3 : min (32 - s) IntKind.u32.bits = 32 - s := by show min (32 - s) 32 = _; omega
  simp (maxSteps := 2000000) (discharger := omega) only [xz,xc,xo,xr,x0,x1,x2,xd,Reg.isA,Reg.isV,Reg.stays,Reg.onto,↓reduceIte,reduceCtorEq,Nat.reduceEqDiff,Nat.reduceLT,Nat.reduceAdd,exists_eq_left',hs,e1,e2,e3,int_lt_f]
  simp [rl]

def K8 (s : S8) : AV := .agg [.int .u32 s.a, .int .u32 s.b, .int .u32 s.c, .int .u32 s.d, .int .u32 s.e, .int .u32 s.f, .int .u32 s.g, .int .u32 s.h]
def Z8 : AV := .agg [.int .u32 0, .int .u32 0, .int .u32 0, .int .u32 0, .int .u32 0, .int .u32 0, .int .u32 0, .int .u32 0]

theorem nat_lt_t {a b : Nat} (h : a < b) : (a < b) = True := eq_true h
theorem mm8 : min 8 IntKind.u32.bits = 8 := rfl
theorem mm3 : min 3 IntKind.u32.bits = 3 := rfl
theorem mm10 : min 10 IntKind.u32.bits = 10 := rfl

theorem set_getD (l : List Int) (i j : Nat) (v : Int) (hi : i < l.length) : (l.set i v).getD j 0 = if j = i then v else l.getD j 0 := by
  by_cases e : j = i
  · subst e; simp [List.getD,hi]
  · rw [if_neg e]; simp [List.getD,List.getElem?_set_ne (Ne.symm e)]

theorem w_x51a (s : S8) (b W : List Int) (i : Nat) (hi : i < 16) (hb : b.length = 64) (hW : W.length = 64) (h0 : W.getD i 0 = 0) (hbb : ∀ x ∈ b, 0 ≤ x ∧ x ≤ 255) (hn : 5 < n) :
    Wp (kont FB n tot ω) n x51a [(2, .var (K8 s)), (3, .var (.agg (intsOf .u8 b))), (4, .var Z8), (5, .var (.agg (intsOf .u32 W))), (6, .val (.int .i64 i)), (18, .val (.int .i64 i))] h fun e r' h' => e = .normal ∧ h' = h ∧
      ∃ W', r' = [(2, .var (K8 s)), (3, .var (.agg (intsOf .u8 b))), (4, .var Z8), (5, .var (.agg (intsOf .u32 W'))), (6, .val (.int .i64 i)), (18, .val (.int .i64 i)), (23, .val (.int .i64 4)), (24, .val (.bool false))] ∧ W'.length = 64 ∧ ∀ j, W'.getD j 0 = if j = i then word4 b i 4 else W.getD j 0 := by
  unfold x51a
  simp (maxSteps := 2000000) (discharger := omega) only [xz,xc,xo,xr,x0,Reg.isA,Reg.isV,Reg.stays,Reg.onto,↓reduceIte,Nat.reduceEqDiff,Nat.reduceLT]
  refine wpi_loop (fun x r g => ∃ (k : Nat) (W' : List Int), r = [(2, .var (K8 s)), (3, .var (.agg (intsOf .u8 b))), (4, .var Z8), (5, .var (.agg (intsOf .u32 W'))), (6, .val (.int .i64 i)), (18, .val (.int .i64 i)), (23, .val (.int .i64 k))] ∧ x = 4 - k ∧ k ≤ 4 ∧ g = h ∧ W'.length = 64 ∧ ∀ j, W'.getD j 0 = if j = i then word4 b i k else W.getD j 0) 4 (by omega)
    ⟨0, W, rfl, rfl, by omega, rfl, hW, fun j => by by_cases e : j = i <;> simp [e,h0,word4,-List.getD_eq_getElem?_getD]⟩ ?_
  rintro x r g ⟨k, W', rfl, rfl, hk, rfl, hW', hg⟩
  by_cases hk4 : k < 4
  · have e1 : (4 * (i : Int) + (k : Int)).toNat = 4 * i + k := by omega
    have hg2 := hg i
    rw [if_pos rfl] at hg2
    have hbx : IntKind.u32.wrap (b.getD (4 * i + k) 0) = b.getD (4 * i + k) 0 := by
      have hlt : 4 * i + k < b.length := by omega
      have := hbb b[4 * i + k] (List.getElem_mem hlt)
      have e : b.getD (4 * i + k) 0 = b[4 * i + k] := by simp [List.getD,hlt]
      rw [e]; exact wrap_u32 (by omega) (by omega)
    simp (maxSteps := 2000000) (discharger := omega) only [xz,xc,xo,xr,x0,x1,x2,x5,xd,xe,wr,Reg.isA,Reg.isV,Reg.stays,Reg.onto,↓reduceIte,Nat.reduceEqDiff,Nat.reduceLT,Int.cast_ofNat_Int,Int.reduceToNat,Int.reducePow,Nat.reduceBEq,xu,wrap_i64,int_lt_t,int_lt_f,int_le_t,e1,io_get,io_set,hW',hg2,mm8,hbx,Nat.mul_one,nat_lt_t]
    refine ⟨4 - (k + 1), by omega, k + 1, W'.set i (word4 b i (k + 1)), by rw [show ((k : Nat) : Int) + 1 = ((k + 1 : Nat) : Int) by omega]; rfl, rfl, by omega, by simpa using hW', fun j => ?_⟩
    rw [set_getD _ _ _ _ (by omega)]
    by_cases e : j = i
    · simp only [e,if_true]
    · simp only [e,if_false]; rw [hg j, if_neg e]
  · obtain rfl : k = 4 := by omega
    simp (maxSteps := 2000000) (discharger := omega) only [xz,xc,xo,xr,x1,xd,Reg.isA,Reg.isV,Reg.stays,Reg.onto,↓reduceIte,Nat.reduceEqDiff,Nat.reduceLT,Int.cast_ofNat_Int,int_lt_f,Nat.sub_self]
    exact ⟨W', rfl, hW', hg⟩

theorem hb25 : bitsI .and .u64 (IntKind.u64.wrap (-7)) 31 = ((25 : Nat) : Int) := by decide
theorem hb14 : bitsI .and .u64 (IntKind.u64.wrap (-18)) 31 = ((14 : Nat) : Int) := by decide
theorem hb15 : bitsI .and .u64 (IntKind.u64.wrap (-17)) 31 = ((15 : Nat) : Int) := by decide
theorem hb13 : bitsI .and .u64 (IntKind.u64.wrap (-19)) 31 = ((13 : Nat) : Int) := by decide
theorem hb26 : bitsI .and .u64 (IntKind.u64.wrap (-6)) 31 = ((26 : Nat) : Int) := by decide
theorem hb21 : bitsI .and .u64 (IntKind.u64.wrap (-11)) 31 = ((21 : Nat) : Int) := by decide
theorem hb7 : bitsI .and .u64 (IntKind.u64.wrap (-25)) 31 = ((7 : Nat) : Int) := by decide
theorem hb30 : bitsI .and .u64 (IntKind.u64.wrap (-2)) 31 = ((30 : Nat) : Int) := by decide
theorem hb19 : bitsI .and .u64 (IntKind.u64.wrap (-13)) 31 = ((19 : Nat) : Int) := by decide
theorem hb10 : bitsI .and .u64 (IntKind.u64.wrap (-22)) 31 = ((10 : Nat) : Int) := by decide

theorem wList_len (b : List Int) : ∀ i, (wList b i).length = i
  | 0 => rfl
  | i + 1 => by simp [wList,wList_len b i]
theorem wList_pre (b : List Int) (i : Nat) : ∀ k j, j < i → (wList b (i + k)).getD j 0 = (wList b i).getD j 0
  | 0, j, _ => rfl
  | k + 1, j, hj => by
    rw [← wList_pre b i k j hj]
    show (wList b (i + k) ++ [_]).getD j 0 = _
    simp [List.getD,List.getElem?_append_left (show j < (wList b (i + k)).length by rw [wList_len]; omega)]
theorem wList_at (b : List Int) (i : Nat) (hi : i < 64) : (wList b 64).getD i 0 = wNext b (wList b i) i := by
  have e := wList_pre b (i + 1) (63 - i) i (by omega)
  rw [show i + 1 + (63 - i) = 64 by omega] at e
  rw [e]
  show (wList b i ++ [_]).getD i 0 = _
  simp [List.getD,wList_len]

structure Sch (b W : List Int) (i : Nat) : Prop where
  len : W.length = 64
  done : ∀ j, j < i → W.getD j 0 = (wList b 64).getD j 0
  zero : ∀ j, i ≤ j → W.getD j 0 = 0

theorem Sch.next {b W W' : List Int} {i : Nat} (hs : Sch b W i) (hi : i < 64) (hl : W'.length = 64) (hg : ∀ j, W'.getD j 0 = if j = i then wNext b (wList b i) i else W.getD j 0) : Sch b W' (i + 1) := by
  refine ⟨hl, fun j hj => ?_, fun j hj => ?_⟩
  · rw [hg]
    by_cases e : j = i
    · rw [if_pos e, e, wList_at b i hi]
    · rw [if_neg e]; exact hs.done j (by omega)
  · rw [hg, if_neg (by omega)]; exact hs.zero j (by omega)
theorem Sch.old {b W : List Int} {i : Nat} (hs : Sch b W i) (hi : i ≤ 64) (j : Nat) (hj : j < i) : W.getD j 0 = (wList b i).getD j 0 := by
  rw [hs.done j hj]
  have e := wList_pre b i (64 - i) j hj
  rwa [show i + (64 - i) = 64 by omega] at e

theorem w_x51b (s : S8) (b W : List Int) (i : Nat) (hi : 16 ≤ i) (hi2 : i < 64) (hW : W.length = 64) (hn : 5 < n) :
    Wp (kont FB n tot ω) n x51b [(2, .var (K8 s)), (3, .var (.agg (intsOf .u8 b))), (4, .var Z8), (5, .var (.agg (intsOf .u32 W))), (6, .val (.int .i64 i)), (18, .val (.int .i64 i)), (22, .val (.bool false))] h fun e r' h' => e = .normal ∧ h' = h ∧
      ∃ W', r' = [(2, .var (K8 s)), (3, .var (.agg (intsOf .u8 b))), (4, .var Z8), (5, .var (.agg (intsOf .u32 W'))), (18, .val (.int .i64 i))] ∧ W'.length = 64 ∧ ∀ j, W'.getD j 0 = if j = i then wNext b W i else W.getD j 0 := by
  unfold x51b
  have e2 : ((i : Int) - 2).toNat = i - 2 := by omega
  have e7 : ((i : Int) - 7).toNat = i - 7 := by omega
  have e15 : ((i : Int) - 15).toNat = i - 15 := by omega
  have e16 : ((i : Int) - 16).toNat = i - 16 := by omega
  have k1 := fun x => c81 (n := n) (tot := false) (ω := fun _ => 0) (h := []) x (-7) 25 hb25 (by omega) (by omega) (by omega)
  have k2 := fun x => c81 (n := n) (tot := false) (ω := fun _ => 0) (h := []) x (-18) 14 hb14 (by omega) (by omega) (by omega)
  have k3 := fun x => c81 (n := n) (tot := false) (ω := fun _ => 0) (h := []) x (-17) 15 hb15 (by omega) (by omega) (by omega)
  have k4 := fun x => c81 (n := n) (tot := false) (ω := fun _ => 0) (h := []) x (-19) 13 hb13 (by omega) (by omega) (by omega)
  simp (maxSteps := 2000000) (discharger := omega) only [xz,xc,xo,xr,x0,x1,x5,xd,xe,kont_pure,wr,Reg.isA,Reg.isV,Reg.stays,Reg.onto,↓reduceIte,Nat.reduceEqDiff,Nat.reduceLT,Int.cast_ofNat_Int,Int.reduceNeg,Int.reduceToNat,Int.reducePow,Nat.reduceBEq,xu,wrap_i64,int_lt_t,int_lt_f,int_le_t,e2,e7,e15,e16,k1,k2,k3,k4,io_get,io_set,hW,mm3,mm10,Nat.mul_one,nat_lt_t]
  refine ⟨_, rfl, by simpa using hW, fun j => ?_⟩
  rw [set_getD _ _ _ _ (by omega)]
  by_cases e : j = i
  · simp only [e,if_true]
    unfold wNext
    rw [if_neg (by omega)]
    rfl
  · simp only [e,if_false]

theorem wNext_old {b W V : List Int} {i : Nat} (hi : i ≤ 64) (hW : ∀ j, j < i → W.getD j 0 = V.getD j 0) : wNext b W i = wNext b V i := by
  unfold wNext
  by_cases h : i < 16
  · rw [if_pos h, if_pos h]
  · rw [if_neg h, if_neg h, hW _ (by omega), hW _ (by omega), hW _ (by omega), hW _ (by omega)]

theorem rep_getD (n j : Nat) : (List.replicate n (0 : Int)).getD j 0 = 0 := by
  simp only [List.getD,List.getElem?_replicate]
  split <;> rfl
theorem ext_getD {l m : List Int} (hl : l.length = m.length) (h : ∀ j, l.getD j 0 = m.getD j 0) : l = m := by
  apply List.ext_getElem hl
  intro j h1 h2
  have := h j
  simpa [List.getD, h1, h2] using this
theorem getD_big {l : List Int} {j : Nat} (h : l.length ≤ j) : l.getD j 0 = 0 := by simp [List.getD,h]
theorem addS_get (s t : S8) (j : Nat) (hj : j < 8) : (addS s t).list.getD j 0 = add32 (s.list.getD j 0) (t.list.getD j 0) := by
  match j, hj with
  | 0, _ => rfl
  | 1, _ => rfl
  | 2, _ => rfl
  | 3, _ => rfl
  | 4, _ => rfl
  | 5, _ => rfl
  | 6, _ => rfl
  | 7, _ => rfl

set_option maxRecDepth 100000 in
theorem w_x51c (s : S8) (b W : List Int) (hW : W.length = 64) (hn : 70 < n) :
    Wp (kont FB n tot ω) n x51c [(2, .var (K8 s)), (4, .var Z8), (5, .var (.agg (intsOf .u32 W)))] h (Ret [ARes.cell 4 true 8] fun v h2 => v = K8 (addS s (rnds W s 64)) ∧ h2 = h) := by
  unfold x51c
  have k1 := fun x => c81 (n := n) (tot := false) (ω := fun _ => 0) (h := []) x (-6) 26 hb26 (by omega) (by omega) (by omega)
  have k2 := fun x => c81 (n := n) (tot := false) (ω := fun _ => 0) (h := []) x (-11) 21 hb21 (by omega) (by omega) (by omega)
  have k3 := fun x => c81 (n := n) (tot := false) (ω := fun _ => 0) (h := []) x (-25) 7 hb7 (by omega) (by omega) (by omega)
  have k4 := fun x => c81 (n := n) (tot := false) (ω := fun _ => 0) (h := []) x (-2) 30 hb30 (by omega) (by omega) (by omega)
  have k5 := fun x => c81 (n := n) (tot := false) (ω := fun _ => 0) (h := []) x (-13) 19 hb19 (by omega) (by omega) (by omega)
  have k6 := fun x => c81 (n := n) (tot := false) (ω := fun _ => 0) (h := []) x (-22) 10 hb10 (by omega) (by omega) (by omega)
  have hR : roundsZ.length = 64 := rfl
  have hmx : (if IntKind.u32.signed = true then (-1 : Int) else IntKind.u32.max) = 4294967295 := rfl
  have hG : G0 = .agg (intsOf .u32 roundsZ) := rfl
  unfold K8 Z8
  simp (maxSteps := 2000000) (discharger := omega) only [xz,xc,xo,xr,x0,x5,xd,xe,wr,Reg.isA,Reg.isV,Reg.stays,Reg.onto,↓reduceIte,Nat.reduceEqDiff,Nat.reduceLT,Nat.reduceAdd,Int.reduceNeg,xu,nat_le_t,io_take,hW]
  refine wpi_loop (fun x r g => ∃ (i : Nat) (t : S8), r = [(2, .var (K8 s)), (4, .var Z8), (10, .var (K8 t)), (82, .val (.agg (intsOf .u32 W))), (83, .val (.int .i64 i))] ∧ x = 64 - i ∧ i ≤ 64 ∧ g = h ∧ t = rnds W s i) 64 (by omega)
    ⟨0, s, rfl, rfl, by omega, rfl, rfl⟩ ?_
  rintro x r g ⟨i, t, rfl, rfl, hi, rfl, ht⟩
  by_cases hi2 : i < 64
  · unfold K8 Z8
    simp (maxSteps := 2000000) (discharger := omega) only [xz,xc,xo,xr,x0,x1,x2,x3,x5,xd,xe,kont_pure,wr,place,partVals,Reg.isA,Reg.isV,Reg.stays,Reg.onto,↓reduceIte,Nat.reduceEqDiff,Nat.reduceLT,Nat.reduceAdd,Int.cast_ofNat_Int,Int.reduceNeg,Int.reduceToNat,Nat.reduceBEq,xu,wrap_i64,int_lt_t,int_le_t,nat_le_t,k1,k2,k3,k4,k5,k6,io_get,hG,Nat.mul_one,nat_lt_t,hmx]
    refine ⟨64 - (i + 1), by omega, i + 1, rnd t (roundsZ.getD i 0) (W.getD i 0), by rw [show ((i : Nat) : Int) + 1 = ((i + 1 : Nat) : Int) by omega]; rfl, rfl, by omega, by rw [ht]; rfl⟩
  · obtain rfl : i = 64 := by omega
    unfold K8 Z8
    simp (maxSteps := 2000000) (discharger := omega) only [xz,xc,xo,xr,x0,x1,xd,Reg.isA,Reg.isV,Reg.stays,Reg.onto,↓reduceIte,Nat.reduceEqDiff,Nat.reduceLT,Int.cast_ofNat_Int,Int.reduceNeg,int_lt_f,Nat.sub_self]
    subst ht
    have hT : ∀ t : S8, AV.agg [AV.int .u32 t.a, AV.int .u32 t.b, AV.int .u32 t.c, AV.int .u32 t.d, AV.int .u32 t.e, AV.int .u32 t.f, AV.int .u32 t.g, AV.int .u32 t.h] = .agg (intsOf .u32 t.list) := fun t => rfl
    have hl8 : ∀ t : S8, t.list.length = 8 := fun t => rfl
    rw [hT, hT]
    generalize rnds W s 64 = t
    have q8 : t.list.length = 8 := rfl
    refine wpi_loop (fun x r g' => ∃ (i : Nat) (L : List Int), r = [(2, .var (.agg (intsOf .u32 L))), (4, .var Z8), (10, .var (.agg (intsOf .u32 t.list))), (162, .val (.int .i64 i))] ∧ x = 8 - i ∧ i ≤ 8 ∧ g' = g ∧ L.length = 8 ∧ ∀ j, L.getD j 0 = if j < i then (addS s t).list.getD j 0 else s.list.getD j 0) 8 (by omega)
      ⟨0, s.list, rfl, rfl, by omega, rfl, rfl, fun j => by rw [if_neg (by omega)]⟩ ?_
    rintro x r g' ⟨i, L, rfl, rfl, hi, rfl, hL, hg⟩
    by_cases hi2 : i < 8
    · have h1 := hg i
      rw [if_neg (by omega)] at h1
      unfold Z8
      simp (maxSteps := 2000000) (discharger := omega) only [xz,xc,xo,xr,x0,x1,x5,xd,xe,wr,Reg.isA,Reg.isV,Reg.stays,Reg.onto,↓reduceIte,Nat.reduceEqDiff,Nat.reduceLT,Int.cast_ofNat_Int,Nat.reduceBEq,xu,wrap_i64,int_lt_t,int_le_t,io_get,io_set,hL,Nat.mul_one,nat_lt_t]
      refine ⟨8 - (i + 1), by omega, i + 1, L.set i (add32 (L.getD i 0) (t.list.getD i 0)), by rw [show ((i : Nat) : Int) + 1 = ((i + 1 : Nat) : Int) by omega]; rfl, rfl, by omega, by simpa using hL, fun j => ?_⟩
      rw [set_getD _ _ _ _ (by omega)]
      by_cases e : j = i
      · rw [if_pos e, if_pos (by omega), e, h1, addS_get _ _ _ hi2]
      · rw [if_neg e, hg j]
        by_cases e2 : j < i
        · rw [if_pos e2, if_pos (by omega)]
        · rw [if_neg e2, if_neg (by omega)]
    · obtain rfl : i = 8 := by omega
      have : L = (addS s t).list := ext_getD (by rw [hL]; rfl) fun j => by
        rw [hg j]
        by_cases e : j < 8
        · rw [if_pos e]
        · rw [if_neg e, getD_big (by show 8 ≤ j; omega), getD_big (by show 8 ≤ j; omega)]
      subst this
      unfold Z8
      simp (maxSteps := 2000000) (discharger := omega) only [xz,xc,xo,xr,x0,x1,x5,xd,xe,wr,Reg.isA,Reg.isV,Reg.stays,Reg.onto,↓reduceIte,Nat.reduceEqDiff,Nat.reduceLT,Nat.reduceAdd,Int.cast_ofNat_Int,exists_eq_left',xu,int_lt_f,nat_le_t,Nat.sub_self,hL,io_take]
      rfl

set_option maxRecDepth 100000 in
theorem c51 (s : S8) (b : List Int) (hb : b.length = 64) (hbb : ∀ x ∈ b, 0 ≤ x ∧ x ≤ 255) (hn : 80 < n) : call FB n tot ω 51 [K8 s, .agg (intsOf .u8 b)] h = some (K8 (mixS s b), h) := by
  obtain ⟨n, rfl⟩ : ∃ m, n = m + 1 := ⟨n - 1, by omega⟩
  refine call_eq (fn := a51) g51 ?_
  unfold a51
  have z64 : (AV.agg [AV.int .u32 0, AV.int .u32 0, AV.int .u32 0, AV.int .u32 0, AV.int .u32 0, AV.int .u32 0, AV.int .u32 0, AV.int .u32 0, AV.int .u32 0, AV.int .u32 0, AV.int .u32 0, AV.int .u32 0, AV.int .u32 0, AV.int .u32 0, AV.int .u32 0, AV.int .u32 0, AV.int .u32 0, AV.int .u32 0, AV.int .u32 0, AV.int .u32 0, AV.int .u32 0, AV.int .u32 0, AV.int .u32 0, AV.int .u32 0, AV.int .u32 0, AV.int .u32 0, AV.int .u32 0, AV.int .u32 0, AV.int .u32 0, AV.int .u32 0, AV.int .u32 0, AV.int .u32 0, AV.int .u32 0, AV.int .u32 0, AV.int .u32 0, AV.int .u32 0, AV.int .u32 0, AV.int .u32 0, AV.int .u32 0, AV.int .u32 0, AV.int .u32 0, AV.int .u32 0, AV.int .u32 0, AV.int .u32 0, AV.int .u32 0, AV.int .u32 0, AV.int .u32 0, AV.int .u32 0, AV.int .u32 0, AV.int .u32 0, AV.int .u32 0, AV.int .u32 0, AV.int .u32 0, AV.int .u32 0, AV.int .u32 0, AV.int .u32 0, AV.int .u32 0, AV.int .u32 0, AV.int .u32 0, AV.int .u32 0, AV.int .u32 0, AV.int .u32 0, AV.int .u32 0, AV.int .u32 0] : AV) = .agg (intsOf .u32 (List.replicate 64 0)) := rfl
  have z8 : (AV.agg [AV.int .u32 0, AV.int .u32 0, AV.int .u32 0, AV.int .u32 0, AV.int .u32 0, AV.int .u32 0, AV.int .u32 0, AV.int .u32 0] : AV) = Z8 := rfl
  have c8 : AV.cells (K8 s) = intsOf .u32 s.list := rfl
  have n8 : AV.notTup (K8 s) = true := rfl
  have l8 : s.list.length = 8 := rfl
  rw [z64, z8]
  simp (maxSteps := 2000000) (discharger := omega) only [xz,xc,xo,xr,x0,xd,xe,Reg.isA,Reg.isV,Reg.stays,Reg.onto,↓reduceIte,reduceCtorEq,Nat.reduceEqDiff,Nat.reduceLT,Nat.reduceAdd,c8,n8,hb,l8]
  refine wpi_loop (fun x r g => ∃ (i : Nat) (W : List Int), r = [(2, .var (K8 s)), (3, .var (.agg (intsOf .u8 b))), (4, .var Z8), (5, .var (.agg (intsOf .u32 W))), (18, .val (.int .i64 i))] ∧ x = 64 - i ∧ i ≤ 64 ∧ g = h ∧ Sch b W i) 64 (by omega)
    ⟨0, List.replicate 64 0, rfl, rfl, by omega, rfl, by simp, fun j hj => by omega, fun j _ => rep_getD 64 j⟩ ?_
  rintro x r g ⟨i, W, rfl, rfl, hi, rfl, hs⟩
  by_cases hi2 : i < 64
  · by_cases h16 : i < 16
    · simp (maxSteps := 2000000) (discharger := omega) only [xz,xc,xo,xr,x0,x1,xd,Reg.isA,Reg.isV,Reg.stays,Reg.onto,↓reduceIte,Nat.reduceEqDiff,Nat.reduceLT,int_lt_t]
      refine (w_x51a (n := n) s b W i h16 hb hs.len (hs.zero i (Nat.le_refl _)) hbb (by omega)).mono ?_
      rintro e r' h' ⟨rfl, rfl, W', rfl, hl, hg⟩
      simp (maxSteps := 2000000) (discharger := omega) only [xz,xc,xo,xr,x0,x1,xd,Reg.isA,Reg.isV,Reg.stays,Reg.onto,↓reduceIte,Nat.reduceEqDiff,Nat.reduceLT,wrap_i64]
      refine ⟨64 - (i + 1), by omega, i + 1, W', by rw [show ((i : Nat) : Int) + 1 = ((i + 1 : Nat) : Int) by omega], rfl, by omega, hs.next hi2 hl fun j => ?_⟩
      rw [hg]
      by_cases e : j = i
      · rw [if_pos e, if_pos e]; unfold wNext; rw [if_pos h16]
      · rw [if_neg e, if_neg e]
    · simp (maxSteps := 2000000) (discharger := omega) only [xz,xc,xo,xr,x0,x1,xd,Reg.isA,Reg.isV,Reg.stays,Reg.onto,↓reduceIte,Nat.reduceEqDiff,Nat.reduceLT,int_lt_t,int_lt_f]
      refine (w_x51b (n := n) s b W i (by omega) hi2 hs.len (by omega)).mono ?_
      rintro e r' h' ⟨rfl, rfl, W', rfl, hl, hg⟩
      simp (maxSteps := 2000000) (discharger := omega) only [xz,xc,xo,xr,x0,x1,xd,Reg.isA,Reg.isV,Reg.stays,Reg.onto,↓reduceIte,Nat.reduceEqDiff,Nat.reduceLT,wrap_i64]
      refine ⟨64 - (i + 1), by omega, i + 1, W', by rw [show ((i : Nat) : Int) + 1 = ((i + 1 : Nat) : Int) by omega], rfl, by omega, hs.next hi2 hl fun j => ?_⟩
      rw [hg, wNext_old hi fun j hj => hs.old hi j hj]
  · obtain rfl : i = 64 := by omega
    have : W = wList b 64 := ext_getD (by rw [hs.len, wList_len]) fun j => by
      by_cases e : j < 64
      · exact hs.done j e
      · rw [getD_big (by rw [hs.len]; omega), getD_big (by rw [wList_len]; omega)]
    have hm : mixS s b = addS s (rnds W s 64) := by unfold mixS; rw [this]
    rw [hm]
    simp (maxSteps := 2000000) (discharger := omega) only [xz,xc,xo,xr,x1,xd,Reg.isA,Reg.isV,Reg.stays,Reg.onto,↓reduceIte,Nat.reduceEqDiff,Nat.reduceLT,Int.cast_ofNat_Int,int_lt_f,Nat.sub_self]
    exact w_x51c (n := n) s b W hs.len (by omega)
end
end Go.Proofs.YtpgmohjmpaifbaaDoor.Im

/- S21Is: which functions stand where. -/
open Go Go.Im
namespace Go.Proofs.YtpgmohjmpaifbaaDoor.Im

theorem f9 : F 9 = some (.inl a9) := by kernel_rfl
theorem f11 : F 11 = some (.inl a11) := by kernel_rfl
theorem f12 : F 12 = some (.inl a12) := by kernel_rfl
theorem f13 : F 13 = some (.inl a13) := by kernel_rfl
theorem f15 : F 15 = some (.inl a15) := by kernel_rfl
theorem f16 : F 16 = some (.inl a16) := by kernel_rfl
theorem f20 : F 20 = some (.inl a20) := by kernel_rfl
theorem f21 : F 21 = some (.inl a21) := by kernel_rfl
theorem f24 : F 24 = some (.inl a24) := by kernel_rfl
theorem f25 : F 25 = some (.inl a25) := by kernel_rfl
theorem f35 : F 35 = some (.inl a35) := by kernel_rfl
theorem f36 : F 36 = some (.inl a36) := by kernel_rfl
theorem f37 : F 37 = some (.inl a37) := by kernel_rfl
theorem f38 : F 38 = some (.inl a38) := by kernel_rfl
theorem f39 : F 39 = some (.inl a39) := by kernel_rfl
theorem f40 : F 40 = some (.inl a40) := by kernel_rfl
theorem f41 : F 41 = some (.inl a41) := by kernel_rfl
theorem f42 : F 42 = some (.inl a42) := by kernel_rfl
theorem f43 : F 43 = some (.inl a43) := by kernel_rfl
theorem f45 : F 45 = some (.inl a45) := by kernel_rfl
theorem f46 : F 46 = some (.inl a46) := by kernel_rfl
theorem f49 : F 49 = some (.inl a49) := by kernel_rfl
theorem f52 : F 52 = some (.inl a52) := by kernel_rfl
theorem f53 : F 53 = some (.inl a53) := by kernel_rfl
theorem f57 : F 57 = some (.inl a57) := by kernel_rfl
theorem f58 : F 58 = some (.inl a58) := by kernel_rfl
theorem f59 : F 59 = some (.inl a59) := by kernel_rfl
theorem f60 : F 60 = some (.inl a60) := by kernel_rfl
theorem f61 : F 61 = some (.inl a61) := by kernel_rfl
theorem f62 : F 62 = some (.inl a62) := by kernel_rfl
theorem f63 : F 63 = some (.inl a63) := by kernel_rfl
theorem f64 : F 64 = some (.inl a64) := by kernel_rfl
theorem f65 : F 65 = some (.inl a65) := by kernel_rfl
theorem f66 : F 66 = some (.inl a66) := by kernel_rfl
theorem f67 : F 67 = some (.inl a67) := by kernel_rfl
theorem f68 : F 68 = some (.inl a68) := by kernel_rfl
theorem f69 : F 69 = some (.inl a69) := by kernel_rfl
theorem f70 : F 70 = some (.inl a70) := by kernel_rfl
theorem f71 : F 71 = some (.inl a71) := by kernel_rfl
theorem f72 : F 72 = some (.inl a72) := by kernel_rfl
theorem f73 : F 73 = some (.inl a73) := by kernel_rfl
theorem f74 : F 74 = some (.inl a74) := by kernel_rfl
theorem f82 : F 82 = some (.inl a82) := by kernel_rfl
theorem f84 : F 84 = some (.inl a84) := by kernel_rfl
theorem f85 : F 85 = some (.inl a85) := by kernel_rfl
theorem f87 : F 87 = some (.inl a87) := by kernel_rfl
theorem f88 : F 88 = some (.inl a88) := by kernel_rfl
theorem f89 : F 89 = some (.inl a89) := by kernel_rfl
theorem f90 : F 90 = some (.inl a90) := by kernel_rfl
theorem f91 : F 91 = some (.inl a91) := by kernel_rfl
theorem f92 : F 92 = some (.inl a92) := by kernel_rfl
theorem f93 : F 93 = some (.inl a93) := by kernel_rfl
theorem f94 : F 94 = some (.inl a94) := by kernel_rfl
theorem f95 : F 95 = some (.inl a95) := by kernel_rfl
theorem f96 : F 96 = some (.inl a96) := by kernel_rfl
theorem f97 : F 97 = some (.inl a97) := by kernel_rfl
theorem f98 : F 98 = some (.inl a98) := by kernel_rfl
theorem f99 : F 99 = some (.inl a99) := by kernel_rfl
theorem f101 : F 101 = some (.inl a101) := by kernel_rfl
theorem f108 : F 108 = some (.inl a108) := by kernel_rfl
theorem f110 : F 110 = some (.inl a110) := by kernel_rfl
theorem f115 : F 115 = some (.inl a115) := by kernel_rfl
end Go.Proofs.YtpgmohjmpaifbaaDoor.Im

/- S21Six: numbers and texts in groups of six bits: the reference. -/
set_option linter.unusedVariables false
set_option linter.unusedSimpArgs false
open Go Go.Im
namespace Go.Proofs.YtpgmohjmpaifbaaDoor.Im

def hi (x : Nat) : List UInt8 := if h : x = 0 then [] else hi (x / 64) ++ [UInt8.ofNat (x % 64)]
termination_by x
decreasing_by omega
theorem hi_zero : hi 0 = [] := by rw [hi]; rfl
theorem hi_pos {x : Nat} (h : 0 < x) : hi x = hi (x / 64) ++ [UInt8.ofNat (x % 64)] := by rw [hi]; rw [dif_neg (by omega)]

def enc (x m : Nat) : List UInt8 := hi (x / 64) ++ [UInt8.ofNat (m + x % 64)]

theorem toBytes_one (n : Int) : toBytes [.int .u8 n] = some [UInt8.ofNat n.toNat] := rfl
theorem tm64 (x : Nat) : ((x : Nat) : Int).tmod 64 = ((x % 64 : Nat) : Int) := rfl
theorem td64 (x : Nat) : ((x : Nat) : Int).tdiv 64 = ((x / 64 : Nat) : Int) := rfl

theorem c98 {tot : Bool} {ω : Nat → Nat} {n : Nat} (x m : Nat) (h : Hp) (hx : x ≤ 18446744073709551615) (hm : m ≤ 128) (hn : 12 < n) :
    call F n tot ω 98 [.int .u64 x, .int .i64 m] h = some (.str (enc x m), h) := by
  obtain ⟨n, rfl⟩ : ∃ m, n = m + 1 := ⟨n - 1, by omega⟩
  refine call_eq (fn := a98) f98 ?_
  unfold a98
  have hm2 : ((m : Int) + ((x % 64 : Nat) : Int)).toNat = m + x % 64 := by omega
  simp (maxSteps := 2000000) (discharger := omega) only [xc,xo,xr,x0,x1,x2,x3,xd,xb,selems,partEs,placeEs,Reg.isA,Reg.isV,Reg.stays,Reg.onto,Bool.or_false,Bool.and_false,↓reduceIte,reduceCtorEq,Nat.reduceEqDiff,Nat.reduceLT,Nat.reduceAdd,Nat.zero_add,Nat.not_lt_zero,Nat.zero_ne_one,Nat.one_ne_zero,Nat.lt_irrefl,Nat.zero_lt_succ,Bool.false_eq_true,Option.map_some,and_self,List.length_cons,List.length_nil,List.any_nil,List.any_cons,Int.reduceEq,wrap_i64,toBytes_one,tm64,td64,wrap_u8,wrap_u64,List.replicate_one,List.set_cons_zero,hm2]
  refine wpi_loop (fun k r h' => ∃ (y : Nat) (s : List UInt8), r = [(0, .val (.int .u64 y)), (5, .val (.str s))] ∧ y < 64 ^ k ∧ y ≤ 18446744073709551615 ∧ hi y ++ s = enc x m ∧ s.length + k ≤ 12 ∧ h' = h) 11 (by omega) ⟨x / 64, _, rfl, by omega, by omega, rfl, by simp, rfl⟩ ?_
  rintro k r h' ⟨y, s, rfl, hy, hb, he, hs, rfl⟩
  by_cases hy0 : 0 < y
  · have hlt : ((y : Nat) : Int) > 0 := by omega
    have hk : 0 < k := by rcases k with _ | k; simp at hy; omega; omega
    have hl : 1 + s.length ≤ 9223372036854775807 := by omega
    simp (maxSteps := 2000000) (discharger := omega) only [xc,xo,xr,x0,x1,x2,x3,xd,xb,selems,partEs,placeEs,List.nil_append,List.cons_append,Reg.isA,Reg.isV,Reg.stays,Reg.onto,Bool.or_false,Bool.and_false,↓reduceIte,reduceCtorEq,Nat.reduceEqDiff,Nat.reduceLT,Nat.zero_add,Nat.not_lt_zero,Nat.lt_irrefl,Nat.zero_lt_succ,Bool.false_eq_true,Option.map_some,and_self,and_true,List.length_cons,List.length_nil,List.any_nil,List.any_cons,Int.toNat_natCast,Int.reduceEq,decide_true,toBytes_one,tm64,td64,wrap_u8,wrap_u64,List.replicate_one,List.set_cons_zero,hlt,hl]
    obtain ⟨k, rfl⟩ : ∃ j, k = j + 1 := ⟨k - 1, by omega⟩
    refine ⟨k, by omega, y / 64, _, rfl, ?_, by omega, ?_, by simp; omega⟩
    · rw [Nat.pow_succ] at hy; omega
    · rw [hi_pos hy0] at he; simpa using he
  · obtain rfl : y = 0 := by omega
    rw [hi_zero] at he
    simp (maxSteps := 2000000) (discharger := omega) only [xc,xo,xr,x0,x1,xd,Reg.isA,Reg.isV,Reg.stays,Reg.onto,Bool.or_false,Bool.and_false,↓reduceIte,reduceCtorEq,Nat.reduceEqDiff,Nat.reduceLT,Nat.not_lt_zero,Bool.false_eq_true,Option.map_some,and_true,List.any_nil,List.any_cons,Int.cast_ofNat_Int,Option.some.injEq,exists_eq_left',decide_false,Int.lt_irrefl]
    rw [← he]; rfl

theorem sh64 {x t : Nat} {z : Int} (hz : z = 6 * t) (ht : t ≤ 10) : ((x : Nat) : Int).fdiv (2 ^ min z.toNat IntKind.u64.bits) = ((x / 64 ^ t : Nat) : Int) := by
  have h1 : min z.toNat IntKind.u64.bits = 6 * t := by
    have : IntKind.u64.bits = 64 := rfl
    omega
  rw [h1, show (2 : Int) ^ (6 * t) = ((64 ^ t : Nat) : Int) by rw [Int.pow_mul]; simp]
  exact (Int.fdiv_eq_ediv_of_nonneg _ (Int.natCast_nonneg _)).trans rfl

theorem and63 (x : Nat) (hx : x ≤ 18446744073709551615) : bitsI .and .u64 x 63 = ((x % 64 : Nat) : Int) := by
  have h1 : ((BitVec.ofInt 64 (x : Int)) &&& (BitVec.ofInt 64 63)).toNat = x % 64 := by
    rw [BitVec.toNat_and]
    have h2 : (BitVec.ofInt 64 63).toNat = 2 ^ 6 - 1 := by decide
    rw [h2, Nat.and_two_pow_sub_one_eq_mod]
    simp
  show IntKind.u64.wrap (((BitVec.ofInt 64 (x : Int)) &&& (BitVec.ofInt 64 63)).toNat : Int) = _
  rw [h1, wrap_u64 (by omega) (by omega)]

theorem bytesOf_app (a b : List UInt8) : bytesOf (a ++ b) = bytesOf a ++ bytesOf b := by simp [bytesOf]
theorem bytesOf_len (a : List UInt8) : (bytesOf a).length = a.length := by simp [bytesOf]
theorem bytesOf_one (n : Nat) (h : n ≤ 255) : bytesOf [UInt8.ofNat n] = [.int .u8 n] := by
  simp [bytesOf,UInt8.toNat_ofNat']
  omega

theorem c94 {tot : Bool} {ω : Nat → Nat} {n : Nat} (v : AV) (bs : List UInt8) (x m : Nat) (h : Hp) (hv : IsApp 1 (bytesOf bs) h v) (hl : bs.length ≤ 10000000000000) (hx : x ≤ 18446744073709551615) (hm : m ≤ 128) (hn : 12 < n) :
    ∃ v' h', call F n tot ω 94 [v, .int .u64 x, .int .u8 m] h = some (v', h') ∧ IsApp 1 (bytesOf (bs ++ enc x m)) h' v' ∧ keeps h h' ∧ h.length ≤ h'.length := by
  obtain ⟨n, rfl⟩ : ∃ m, n = m + 1 := ⟨n - 1, by omega⟩
  refine call_of (fn := a94) f94 (P := fun v' h' => IsApp 1 (bytesOf (bs ++ enc x m)) h' v' ∧ keeps h h' ∧ h.length ≤ h'.length) ?_
  unfold a94
  simp (maxSteps := 2000000) (discharger := omega) only [xc,xo,xr,x0,Reg.isA,Reg.isV,Reg.stays,Reg.onto,Bool.or_false,Bool.and_false,↓reduceIte,reduceCtorEq,Nat.reduceEqDiff,Nat.reduceLT,Nat.reduceAdd,Nat.zero_add,Nat.not_lt_zero,Nat.one_ne_zero,Bool.false_eq_true,Option.map_some,List.any_nil,List.any_cons]
  refine wpi_loop (fun k r h' => ∃ (t : Nat) (z : Int), r = [(0, .val v), (1, .val (.int .u64 x)), (2, .val (.int .u8 m)), (7, .val (.int .i64 z))] ∧ z = 6 * t ∧ t + k = 10 ∧ (t = 0 ∨ 64 ^ t ≤ x) ∧ h' = h) 10 (by omega) ⟨0, 0, rfl, by omega, by omega, .inl rfl, rfl⟩ ?_
  rintro k r h' ⟨t, z, rfl, hz, htk, ht, rfl⟩
  have hs := sh64 (x := x) hz (by omega)
  have hz0 : ¬ z < 0 := by omega
  have hp : 0 < 64 ^ t := Nat.pow_pos (by omega)
  by_cases hlt : x / 64 ^ t > 63
  · have hlt' : ((x / 64 ^ t : Nat) : Int) > 63 := by omega
    have h64 : 64 ^ (t + 1) ≤ x := by
      rw [Nat.pow_succ, Nat.mul_comm]
      exact (Nat.le_div_iff_mul_le hp).1 hlt
    have ht10 : t ≠ 10 := by
      rintro rfl
      have : (64 : Nat) ^ (10 + 1) = 73786976294838206464 := by decide
      omega
    simp (maxSteps := 2000000) (discharger := omega) only [xc,xo,xr,x0,x1,xd,Reg.isA,Reg.isV,Reg.stays,Reg.onto,Bool.or_false,Bool.and_false,↓reduceIte,reduceCtorEq,Nat.reduceEqDiff,Nat.reduceLT,Nat.not_lt_zero,Nat.zero_ne_one,Nat.one_ne_zero,Nat.lt_irrefl,Bool.false_eq_true,Option.map_some,and_true,List.any_nil,List.any_cons,decide_true,wrap_i64,hs,hlt',hz0]
    exact ⟨k - 1, by omega, t + 1, _, rfl, by omega, by omega, .inr h64⟩
  · have hlt' : ¬ ((x / 64 ^ t : Nat) : Int) > 63 := by omega
    simp (maxSteps := 2000000) (discharger := omega) only [xc,xo,xr,x0,x1,xd,Reg.isA,Reg.isV,Reg.stays,Reg.onto,Bool.or_false,Bool.and_false,↓reduceIte,reduceCtorEq,Nat.reduceEqDiff,Nat.reduceLT,Nat.not_lt_zero,Nat.zero_ne_one,Nat.one_ne_zero,Bool.false_eq_true,Option.map_some,List.any_nil,List.any_cons,decide_false,hs,hlt',hz0]
    refine wpi_loop (fun k r g => ∃ (j : Nat) (z : Int) (u : AV) (e : Regs), r = (0, .val u) :: (1, .val (.int .u64 x)) :: (2, .val (.int .u8 m)) :: (7, .val (.int .i64 z)) :: e ∧ (e = [] ∨ e = [(11, .val (.bool false))]) ∧ z = 6 * j ∧ j = k ∧ j ≤ t ∧ IsApp 1 (bytesOf (bs ++ hi (x / 64 ^ (j + 1)))) g u ∧ (hi (x / 64 ^ (j + 1))).length + j = t ∧ keeps h' g ∧ h'.length ≤ g.length) t (by omega) ⟨t, z, v, _, rfl, .inr rfl, hz, rfl, by omega, ?_, ?_, ?_, by omega⟩ ?_
    · have h1 : x / 64 ^ (t + 1) = 0 := by
        rw [Nat.pow_succ, ← Nat.div_div_eq_div_mul]; exact Nat.div_eq_of_lt (by omega)
      rw [h1, hi_zero, List.append_nil]; exact hv
    · have h1 : x / 64 ^ (t + 1) = 0 := by
        rw [Nat.pow_succ, ← Nat.div_div_eq_div_mul]; exact Nat.div_eq_of_lt (by omega)
      rw [h1, hi_zero]; simp
    · exact fun _ _ h _ => h
    rintro k r g ⟨j, z, u, e, rfl, he, hz, rfl, hjt, hu, hul, hk, hkl⟩
    have hs := sh64 (x := x) hz (by omega)
    have hz0 : ¬ z < 0 := by omega
    have hu2 := hu.isRow
    by_cases hj : 0 < j
    · have hzp : z > 0 := by omega
      have hpos : 0 < x / 64 ^ j := by
        have h1 : 64 ^ j ≤ 64 ^ t := Nat.pow_le_pow_right (by omega) hjt
        exact Nat.div_pos (by omega) (Nat.pow_pos (by omega))
      have hyb : x / 64 ^ j ≤ 18446744073709551615 := Nat.le_trans (Nat.div_le_self _ _) hx
      have ha := and63 (x / 64 ^ j) hyb
      generalize hy : x / 64 ^ j = y at *
      have hb : IntKind.u8.wrap ((y % 64 : Nat) : Int) = ((y % 64 : Nat) : Int) := wrap_u8 (by omega) (by omega)
      obtain ⟨u', g', e1, e2, e3, e4, e5, _⟩ := app_ok (bytes := 1) (xs := [.int .u8 ((y % 64 : Nat) : Int)]) hu (by simp) (by rw [bytesOf_len]; simp; omega)
      have hx1 : x / 64 ^ (j + 1) = y / 64 := by rw [Nat.pow_succ, ← Nat.div_div_eq_div_mul, hy]
      rw [hx1] at hu hul e2
      rcases he with rfl | rfl <;> simp (maxSteps := 2000000) (discharger := omega) only [xc,xo,xr,x0,x1,x2,x3,x5,xd,xb,selems,srcElems,partEs,placeEs,Reg.isA,Reg.isV,Reg.stays,Reg.onto,Bool.or_false,Bool.and_false,↓reduceIte,reduceCtorEq,Nat.reduceEqDiff,Nat.reduceLT,Nat.zero_add,Nat.not_lt_zero,Nat.zero_ne_one,Nat.one_ne_zero,Nat.lt_irrefl,Nat.zero_lt_succ,Bool.false_eq_true,Option.map_some,and_self,List.length_cons,List.length_nil,List.any_nil,List.any_cons,decide_true,wrap_i64,hs,hz0,hzp,ha,hb,List.replicate_one,List.set_cons_zero,hu2,e1] <;>
      refine ⟨j - 1, by omega, j - 1, _, u', _, rfl, .inl rfl, by omega, rfl, by omega, ?_, ?_, fun i o h1 h2 => e3 i o (hk i o h1 h2) h2, by omega⟩
      all_goals rw [show j - 1 + 1 = j by omega, hy, hi_pos hpos]
      all_goals first | (rw [← List.append_assoc, bytesOf_app, bytesOf_one _ (by omega)]; exact e2) | (simp; omega)
    · obtain rfl : j = 0 := by omega
      have hzp : ¬ z > 0 := by omega
      simp only [Nat.zero_add,Nat.pow_one] at hu hul
      have ha := and63 x hx
      have hb : IntKind.u8.wrap ((x % 64 : Nat) : Int) = ((x % 64 : Nat) : Int) := wrap_u8 (by omega) (by omega)
      have hb2 : IntKind.u8.wrap ((m : Int) + ((x % 64 : Nat) : Int)) = ((m + x % 64 : Nat) : Int) := by rw [wrap_u8 (by omega) (by omega)]; rfl
      obtain ⟨u', g', e1, e2, e3, e4, e5, _⟩ := app_ok (bytes := 1) (xs := [.int .u8 ((m + x % 64 : Nat) : Int)]) hu (by simp) (by rw [bytesOf_len]; simp; omega)
      rcases he with rfl | rfl <;> simp (maxSteps := 2000000) (discharger := omega) only [xc,xo,xr,x0,x1,x2,x3,x5,xd,xb,selems,srcElems,partEs,placeEs,Reg.isA,Reg.isV,Reg.stays,Reg.onto,Bool.or_false,Bool.and_false,↓reduceIte,reduceCtorEq,Nat.reduceEqDiff,Nat.reduceLT,Nat.zero_add,Nat.not_lt_zero,Nat.zero_ne_one,Nat.one_ne_zero,Nat.zero_lt_succ,Bool.false_eq_true,Option.map_some,and_self,List.length_cons,List.length_nil,List.any_nil,List.any_cons,Option.some.injEq,exists_eq_left',decide_false,hzp,ha,hb,hb2,List.replicate_one,List.set_cons_zero,hu2,e1] <;>
      refine ⟨?_, fun i o h1 h2 => e3 i o (hk i o h1 h2) h2, by omega⟩
      all_goals
        rw [enc, ← List.append_assoc, bytesOf_app, bytesOf_one _ (by omega)]
        simpa using e2

end Go.Proofs.YtpgmohjmpaifbaaDoor.Im

/- S21Wr: the writer's methods. -/
set_option linter.unusedVariables false
set_option linter.unusedSimpArgs false
open Go Go.Im
namespace Go.Proofs.YtpgmohjmpaifbaaDoor.Im

theorem isApp_setS {sz : Nat} {es : List AV} {h : Hp} {v : AV} {id : Nat} {o o' : AO} (hv : IsApp sz es h v) (hid : h[id]? = some o) (hs : o.solid = true) : IsApp sz es (h.set id o') v := by
  rcases hv with h1 | h1 | ⟨j, h1, h2⟩
  · exact .inl h1
  · exact .inr (.inl h1)
  · refine .inr (.inr ⟨j, h1, ?_⟩)
    rw [List.getElem?_set]
    split
    · rename_i e; subst e; rw [hid] at h2; cases h2; cases hs
    · exact h2

def keepsBut (id : Nat) (h h' : Hp) : Prop := ∀ (j : Nat) o, j ≠ id → h[j]? = some o → o.solid = true → h'[j]? = some o

def WR (id : Nat) (bs : List UInt8) (h : Hp) : Prop := ∃ v, h[id]? = some (.row 1 [.agg [v]]) ∧ IsApp 1 (bytesOf bs) h v

theorem WR.lt {id : Nat} {bs : List UInt8} {h : Hp} (w : WR id bs h) : id < h.length := by
  obtain ⟨v, h1, _⟩ := w
  exact (List.getElem?_eq_some_iff.1 h1).1

theorem WR.upd {id : Nat} {bs cs : List UInt8} {h h' : Hp} {v : AV} (w : WR id bs h) (hk : keeps h h') (hv : IsApp 1 (bytesOf cs) h' v) (hl : h.length ≤ h'.length) :
    WR id cs (h'.set id (.row 1 [.agg [v]])) ∧ keepsBut id h (h'.set id (.row 1 [.agg [v]])) ∧ h.length ≤ (h'.set id (.row 1 [.agg [v]])).length := by
  obtain ⟨u, h1, _⟩ := w
  have h2 := hk id _ h1 rfl
  have h3 := (List.getElem?_eq_some_iff.1 h2).1
  refine ⟨⟨v, by simp [h3], isApp_setS hv h2 rfl⟩, fun j o hj ho hs => ?_, by simpa using hl⟩
  rw [List.getElem?_set_ne (Ne.symm hj)]
  exact hk j o ho hs

theorem c66 {tot : Bool} {ω : Nat → Nat} {n : Nat} (h : Hp) (hn : 0 < n) : call F n tot ω 66 [] h = some (.ptr h.length 1 0 0, h ++ [.row 1 [.agg [.nils]]]) := by
  obtain ⟨n, rfl⟩ : ∃ m, n = m + 1 := ⟨n - 1, by omega⟩
  refine call_eq (fn := a66) f66 ?_
  unfold a66
  simp (maxSteps := 2000000) (discharger := omega) only [xc,xo,xr,x0,x3,x5,xd,place,partVals,Reg.isA,Reg.isV,Reg.stays,Reg.onto,Bool.or_false,Bool.and_false,↓reduceIte,reduceCtorEq,Nat.reduceEqDiff,Nat.reduceLT,Nat.zero_add,Nat.one_ne_zero,Nat.zero_lt_succ,Bool.false_eq_true,Option.map_some,and_self,and_true,List.length_cons,List.length_nil,List.any_nil,List.any_cons,Option.some.injEq,exists_eq_left']

theorem WR.new (h : Hp) : WR h.length [] (h ++ [.row 1 [.agg [.nils]]]) := ⟨.nils, by simp, IsApp.nils _ _⟩

def encW (n : Int) : List UInt8 := if n < 0 then enc (-(n + 1)).toNat 128 else enc n.toNat 64
def encT (s : List UInt8) : List UInt8 := enc s.length 64 ++ s

theorem bytesOf_ne {bs cs : List UInt8} (h : cs ≠ []) : bytesOf (bs ++ cs) ≠ [] := by
  intro e
  have := congrArg List.length e
  rw [bytesOf_len] at this
  cases cs with
  | nil => exact h rfl
  | cons a l => simp at this
theorem enc_ne (x m : Nat) : enc x m ≠ [] := by unfold enc; simp
theorem c93 {tot : Bool} {ω : Nat → Nat} {n : Nat} (id : Nat) (bs : List UInt8) (x : Nat) (h : Hp) (hw : WR id bs h) (hl : bs.length ≤ 10000000000000) (hx2 : x ≤ 9223372036854775807) (hn : 13 < n) :
    ∃ h', call F n tot ω 93 [.ptr id 1 0 0, .int .i64 x] h = some (.int .i64 0, h') ∧ WR id (bs ++ enc x 64) h' ∧ keepsBut id h h' ∧ h.length ≤ h'.length := by
  obtain ⟨n, rfl⟩ : ∃ m, n = m + 1 := ⟨n - 1, by omega⟩
  suffices hh : ∃ v' h', call F (n + 1) tot ω 93 [.ptr id 1 0 0, .int .i64 x] h = some (v', h') ∧ v' = .int .i64 0 ∧ WR id (bs ++ enc x 64) h' ∧ keepsBut id h h' ∧ h.length ≤ h'.length by
    obtain ⟨v', h', e1, rfl, e2⟩ := hh
    exact ⟨h', e1, e2⟩
  refine call_of (fn := a93) f93 (P := fun v' h' => v' = .int .i64 0 ∧ WR id (bs ++ enc x 64) h' ∧ keepsBut id h h' ∧ h.length ≤ h'.length) ?_
  unfold a93
  have hw2 := hw
  obtain ⟨v, hid, hv⟩ := hw2
  obtain ⟨v', h2, e1, e2, e3, e4⟩ := c94 (tot := tot) (ω := ω) (n := n) v bs x 64 h hv hl (by omega) (by omega) (by omega)
  rw [show ((64 : Nat) : Int) = 64 from rfl] at e1
  have hid2 := e3 _ _ hid rfl
  obtain ⟨c, rfl⟩ := e2.imm (bytesOf_ne (enc_ne x 64))
  have hr := hw.upd e3 e2 e4
  have hneg : ¬ ((x : Nat) : Int) < 0 := by omega
  simp (maxSteps := 2000000) (discharger := omega) only [xc,xo,xr,x0,x1,x2,x3,x5,xd,kont_call,isNil,upd,wr,Bool.bne_false,Reg.isA,Reg.isV,Reg.stays,Reg.onto,Bool.or_false,Bool.and_false,↓reduceIte,reduceCtorEq,Nat.reduceEqDiff,Nat.reduceLT,Nat.reduceAdd,Nat.add_zero,Nat.zero_add,Nat.not_lt_zero,Nat.zero_ne_one,Nat.one_ne_zero,Nat.zero_lt_succ,Bool.false_eq_true,Option.map_some,and_self,and_true,List.length_cons,List.length_nil,List.any_nil,List.any_cons,beq_self_eq_true,Option.some.injEq,exists_eq_left',decide_false,List.getElem?_cons_zero,hneg,hid,wrap_u64,e1,hid2,List.set_cons_zero,hr]

theorem keeps_trans {a b c : Hp} (h1 : keeps a b) (h2 : keeps b c) : keeps a c := fun i o ho hs => h2 i o (h1 i o ho hs) hs

theorem app_any {sz bytes : Nat} {es xs : List AV} {h : Hp} {v : AV} (hv : IsApp sz es h v) (hb : (es.length + xs.length) * bytes ≤ 140737488355328) :
    ∃ v' h', appendV false sz bytes v xs h = some (v', h') ∧ IsApp sz (es ++ xs) h' v' ∧ keeps h h' ∧ h.length ≤ h'.length := by
  by_cases hx : xs = []
  · subst hx
    exact ⟨v, h, app_nil hv, by rw [List.append_nil]; exact hv, fun _ _ h _ => h, Nat.le_refl _⟩
  · obtain ⟨v', h', a, b, c, d, _⟩ := app_ok hv hx hb
    exact ⟨v', h', a, b, c, d⟩

theorem hi_len : ∀ (k y : Nat), y < 64 ^ k → (hi y).length ≤ k
  | 0, y, h => by
    obtain rfl : y = 0 := by simp at h; exact h
    rw [hi_zero]; simp
  | k + 1, y, h => by
    by_cases hy : 0 < y
    · have := hi_len k (y / 64) (by rw [Nat.pow_succ] at h; omega)
      rw [hi_pos hy]; simp; omega
    · obtain rfl : y = 0 := by omega
      rw [hi_zero]; simp

theorem enc_len (x m : Nat) (hx : x ≤ 18446744073709551615) : (enc x m).length ≤ 11 := by
  have := hi_len 10 (x / 64) (by
    have : (64 : Nat) ^ 10 = 1152921504606846976 := by decide
    omega)
  unfold enc; simp; omega

theorem c69 {tot : Bool} {ω : Nat → Nat} {n : Nat} (id : Nat) (bs s : List UInt8) (h : Hp) (hw : WR id bs h) (hl : bs.length ≤ 10000000000000) (hs : s.length ≤ 10000000000000) (hn : 13 < n) :
    ∃ h', call F n tot ω 69 [.ptr id 1 0 0, .str s] h = some (.int .i64 0, h') ∧ WR id (bs ++ encT s) h' ∧ keepsBut id h h' ∧ h.length ≤ h'.length := by
  obtain ⟨n, rfl⟩ : ∃ m, n = m + 1 := ⟨n - 1, by omega⟩
  suffices hh : ∃ v' h', call F (n + 1) tot ω 69 [.ptr id 1 0 0, .str s] h = some (v', h') ∧ v' = .int .i64 0 ∧ WR id (bs ++ encT s) h' ∧ keepsBut id h h' ∧ h.length ≤ h'.length by
    obtain ⟨v', h', e1, rfl, e2⟩ := hh
    exact ⟨h', e1, e2⟩
  refine call_of (fn := a69) f69 (P := fun v' h' => v' = .int .i64 0 ∧ WR id (bs ++ encT s) h' ∧ keepsBut id h h' ∧ h.length ≤ h'.length) ?_
  unfold a69
  have hw2 := hw
  obtain ⟨v, hid, hv⟩ := hw2
  obtain ⟨v', h2, e1, e2, e3, e4⟩ := c94 (tot := tot) (ω := ω) (n := n) v bs s.length 64 h hv hl (by omega) (by omega) (by omega)
  rw [show ((64 : Nat) : Int) = 64 from rfl] at e1
  have hid2 := e3 _ _ hid rfl
  have hr0 := e2.isRow
  have hle := enc_len s.length 64 (by omega)
  obtain ⟨v3, h3, g1, g2, g3, g4⟩ := app_any (bytes := 1) (xs := bytesOf s) e2 (by rw [bytesOf_len, bytesOf_len]; simp; omega)
  rw [← bytesOf_app, List.append_assoc] at g2
  obtain ⟨c, rfl⟩ := g2.imm (bytesOf_ne (by simp [enc_ne]))
  have hr := hw.upd (cs := bs ++ encT s) (keeps_trans e3 g3) g2 (by omega)
  have hid3 := g3 _ _ hid2 rfl
  simp (maxSteps := 2000000) (discharger := omega) only [xc,xo,xr,x0,x1,x2,x3,x4,x5,xd,kont_call,isNil,srcElems,upd,wr,Bool.bne_false,Reg.isA,Reg.isV,Reg.stays,Reg.onto,Bool.or_false,Bool.and_false,↓reduceIte,reduceCtorEq,Nat.reduceEqDiff,Nat.reduceLT,Nat.reduceAdd,Nat.add_zero,Nat.zero_add,Nat.not_lt_zero,Nat.zero_ne_one,Nat.one_ne_zero,Nat.zero_lt_succ,Bool.false_eq_true,Option.map_some,and_self,and_true,List.length_cons,List.length_nil,List.any_nil,List.any_cons,Option.some.injEq,exists_eq_left',List.getElem?_cons_zero,hid,wrap_u64,e1,List.set_cons_zero,hr,hr0,g1,hid3]

theorem toBytes_bytesOf : ∀ bs : List UInt8, toBytes (bytesOf bs) = some bs
  | [] => rfl
  | b :: bs => by
    have := toBytes_bytesOf bs
    simp only [bytesOf,List.map_cons,toBytes] at this ⊢
    rw [this]
    simp

theorem isApp_elems {bs : List UInt8} {h : Hp} {v : AV} (hv : IsApp 1 (bytesOf bs) h v) (g : Hp) : elems g 1 v = some (bytesOf bs) := by
  rcases hv with ⟨rfl, h0⟩ | rfl | ⟨id, rfl, _⟩
  · rw [h0]; rfl
  · simp [elems]
  · simp [elems]

theorem c71 {tot : Bool} {ω : Nat → Nat} {n : Nat} (id : Nat) (bs : List UInt8) (h : Hp) (hw : WR id bs h) (hn : 1 < n) : call F n tot ω 71 [.ptr id 1 0 0] h = some (.str bs, h) := by
  obtain ⟨n, rfl⟩ : ∃ m, n = m + 1 := ⟨n - 1, by omega⟩
  refine call_eq (fn := a71) f71 ?_
  unfold a71
  obtain ⟨v, hid, hv⟩ := hw
  have he := isApp_elems hv h
  simp (maxSteps := 2000000) (discharger := omega) only [xc,xo,xr,x0,x1,x2,x3,xd,xe,isNil,selems,Bool.bne_false,Reg.isA,Reg.isV,Reg.stays,Reg.onto,Bool.or_false,Bool.and_false,↓reduceIte,reduceCtorEq,Nat.reduceEqDiff,Nat.reduceLT,Nat.add_zero,Nat.zero_add,Nat.not_lt_zero,Bool.false_eq_true,Option.map_some,and_true,List.any_nil,List.any_cons,Option.some.injEq,exists_eq_left',List.getElem?_cons_zero,hid,he]

theorem c57 {tot : Bool} {ω : Nat → Nat} {n : Nat} (s : List UInt8) (h : Hp) (hn : 1 < n) : call F n tot ω 57 [.str s] h = some (.ptr h.length 1 0 0, h ++ [.row 1 [.agg [.str s]]]) := by
  obtain ⟨n, rfl⟩ : ∃ m, n = m + 1 := ⟨n - 1, by omega⟩
  refine call_eq (fn := a57) f57 ?_
  unfold a57
  simp (maxSteps := 2000000) (discharger := omega) only [xc,xo,xr,x0,x3,x5,xd,place,partVals,List.nil_append,List.append_nil,List.take_zero,List.drop_succ_cons,List.drop_nil,Reg.isA,Reg.isV,Reg.stays,Reg.onto,Bool.or_false,Bool.and_false,↓reduceIte,reduceCtorEq,Nat.reduceEqDiff,Nat.reduceLT,Nat.zero_add,Nat.not_lt_zero,Nat.reduceLeDiff,Bool.false_eq_true,Option.map_some,and_self,and_true,List.length_cons,List.length_nil,List.any_nil,List.any_cons,Option.some.injEq,exists_eq_left']

end Go.Proofs.YtpgmohjmpaifbaaDoor.Im

/- S21Dec: numbers read. -/
set_option linter.unusedVariables false
set_option linter.unusedSimpArgs false
open Go Go.Im
namespace Go.Proofs.YtpgmohjmpaifbaaDoor.Im

inductive NR where
  | err (e : Int) | ok (x : Nat) (below : Bool) (size : Nat)

def dec (x i : Nat) : List UInt8 → NR
  | [] => .err 2
  | c :: s => if 191 < c.toNat ∨ 144115188075855871 < x ∨ (i = 0 ∧ c.toNat = 0) then .err 3 else
    if 63 < c.toNat then .ok (64 * x + c.toNat % 64) (decide (127 < c.toNat)) (i + 1) else dec (64 * x + c.toNat % 64) (i + 1) s

theorem and63b (x : Nat) (hx : x ≤ 255) : bitsI .and .u8 x 63 = ((x % 64 : Nat) : Int) := by
  have h1 : ((BitVec.ofInt 8 (x : Int)) &&& (BitVec.ofInt 8 63)).toNat = x % 64 := by
    rw [BitVec.toNat_and]
    have h2 : (BitVec.ofInt 8 63).toNat = 2 ^ 6 - 1 := by decide
    rw [h2, Nat.and_two_pow_sub_one_eq_mod]
    simp
  show IntKind.u8.wrap (((BitVec.ofInt 8 (x : Int)) &&& (BitVec.ofInt 8 63)).toNat : Int) = _
  rw [h1, wrap_u8 (by omega) (by omega)]

theorem or64 (x y : Nat) (hx : x ≤ 144115188075855871) (hy : y < 64) : bitsI .or .u64 ((64 * x : Nat) : Int) (y : Int) = ((64 * x + y : Nat) : Int) := by
  have h1 : ((BitVec.ofInt 64 ((64 * x : Nat) : Int)) ||| (BitVec.ofInt 64 (y : Int))).toNat = 64 * x + y := by
    rw [BitVec.toNat_or]
    have h2 : (BitVec.ofInt 64 ((64 * x : Nat) : Int)).toNat = 64 * x := by
      rw [BitVec.ofInt_natCast, BitVec.toNat_ofNat]; omega
    have h3 : (BitVec.ofInt 64 (y : Int)).toNat = y := by
      rw [BitVec.ofInt_natCast, BitVec.toNat_ofNat]; omega
    rw [h2, h3]
    exact (Nat.two_pow_add_eq_or_of_lt (i := 6) (by omega) x).symm
  show IntKind.u64.wrap (((BitVec.ofInt 64 ((64 * x : Nat) : Int)) ||| (BitVec.ofInt 64 (y : Int))).toNat : Int) = _
  rw [h1, wrap_u64 (by omega) (by omega)]

theorem shl6 (x : Nat) (hx : x ≤ 144115188075855871) : IntKind.u64.wrap (((x : Nat) : Int) * 2 ^ min 6 IntKind.u64.bits) = ((64 * x : Nat) : Int) := by
  have h1 : min 6 IntKind.u64.bits = 6 := rfl
  rw [h1, show (2 : Int) ^ 6 = 64 from rfl, wrap_u64 (by omega) (by omega)]
  omega

def numAV : NR → AV
  | .err e => .tup [.int .i64 0, .bool false, .int .i64 0, .int .i64 e]
  | .ok x b k => .tup [.int .i64 x, .bool b, .int .i64 k, .int .i64 0]

theorem c108 {tot : Bool} {ω : Nat → Nat} {n : Nat} (id : Nat) (s : List UInt8) (h : Hp) (hid : h[id]? = some (.row 1 [.agg [.str s]])) (hs : s.length ≤ 1000000000000) (hn : s.length + 2 < n) :
    call F n tot ω 108 [.ptr id 1 0 0] h = some (numAV (dec 0 0 s), h) := by
  obtain ⟨n, rfl⟩ : ∃ m, n = m + 1 := ⟨n - 1, by omega⟩
  refine call_eq (fn := a108) f108 ?_
  generalize hR : dec 0 0 s = R
  unfold a108
  simp (maxSteps := 2000000) (discharger := omega) only [xc,xo,xr,x0,x2,isNil,Bool.bne_false,Reg.isA,Reg.isV,Reg.stays,Reg.onto,Bool.or_false,Bool.and_false,↓reduceIte,reduceCtorEq,Nat.reduceEqDiff,Nat.reduceLT,Nat.zero_add,Nat.not_lt_zero,Bool.false_eq_true,Option.map_some,List.any_nil,List.any_cons]
  refine wpi_loop (fun k r g => ∃ (x i : Nat), r = [(0, .val (.ptr id 1 0 0)), (6, .val (.int .u64 x)), (7, .val (.int .i64 i))] ∧ i + k = s.length ∧ x ≤ 9223372036854775807 ∧ dec x i (s.drop i) = R ∧ g = h) s.length (by omega) ⟨0, 0, rfl, by omega, by omega, hR, rfl⟩ ?_
  clear hR
  rintro k r g ⟨x, i, rfl, hik, hx, hd, rfl⟩
  by_cases hlt : i < s.length
  · have hlt' : ((i : Nat) : Int) < (s.length : Int) := by omega
    have hge : s[i]? = some s[i] := List.getElem?_eq_getElem hlt
    have hi0 : (0 : Int) ≤ (i : Int) := by omega
    rw [List.drop_eq_getElem_cons hlt] at hd
    have hc := s[i].toNat_lt
    generalize s[i] = c at *
    unfold dec at hd
    by_cases A : 191 < c.toNat
    · rw [if_pos (.inl A)] at hd
      subst hd
      have A' : ((c.toNat : Nat) : Int) > 191 := by omega
      simp (maxSteps := 2000000) (discharger := omega) only [xc,xo,xr,x0,x1,x3,x4,xd,xb,Reg.isA,Reg.isV,Reg.stays,Reg.onto,Bool.or_false,Bool.and_false,↓reduceIte,reduceCtorEq,Nat.reduceEqDiff,Nat.reduceLT,Nat.add_zero,Nat.not_lt_zero,Bool.false_eq_true,Option.map_some,and_true,List.any_nil,List.any_cons,Int.toNat_natCast,Int.natCast_nonneg,Option.some.injEq,exists_eq_left',decide_true,List.getElem?_cons_zero,hid,hlt',hge,A',numAV]
    · have A' : ¬ ((c.toNat : Nat) : Int) > 191 := by omega
      by_cases B : 144115188075855871 < x
      · rw [if_pos (.inr (.inl B))] at hd
        subst hd
        have B' : ((x : Nat) : Int) > 144115188075855871 := by omega
        simp (maxSteps := 2000000) (discharger := omega) only [xc,xo,xr,x0,x1,x3,x4,xd,xb,Reg.isA,Reg.isV,Reg.stays,Reg.onto,Bool.or_false,Bool.and_false,↓reduceIte,reduceCtorEq,Nat.reduceEqDiff,Nat.reduceLT,Nat.add_zero,Nat.not_lt_zero,Bool.false_eq_true,Option.map_some,and_true,List.any_nil,List.any_cons,Int.toNat_natCast,Int.natCast_nonneg,beq_self_eq_true,Option.some.injEq,exists_eq_left',decide_true,decide_false,List.getElem?_cons_zero,hid,hlt',hge,A',B',numAV]
      · have B' : ¬ ((x : Nat) : Int) > 144115188075855871 := by omega
        by_cases C : i = 0 ∧ c.toNat = 0
        · rw [if_pos (.inr (.inr C))] at hd
          subst hd
          have C' : (((i : Nat) : Int) == 0) = true := by simp [C.1]
          have D' : (((c.toNat : Nat) : Int) == 0) = true := by rw [C.2]; rfl
          simp (maxSteps := 2000000) (discharger := omega) only [xc,xo,xr,x0,x1,x3,x4,xd,Reg.isA,Reg.isV,Reg.stays,Reg.onto,Bool.or_false,Bool.and_false,↓reduceIte,reduceCtorEq,Nat.reduceEqDiff,Nat.reduceLT,Nat.add_zero,Nat.not_lt_zero,Bool.false_eq_true,Option.map_some,and_true,List.any_nil,List.any_cons,Int.toNat_natCast,Int.natCast_nonneg,beq_self_eq_true,Option.some.injEq,exists_eq_left',decide_true,decide_false,List.getElem?_cons_zero,hid,hlt',hge,A',B',C',D',numAV]
        · rw [if_neg (by omega)] at hd
          have hCD : (((i : Nat) : Int) == 0) = false ∨ ((((i : Nat) : Int) == 0) = true ∧ (((c.toNat : Nat) : Int) == 0) = false) := by
            by_cases hi : i = 0
            · right; exact ⟨by simp [hi], by simp; omega⟩
            · left; simp; omega
          have w1 := shl6 x (by omega)
          have w2 := and63b c.toNat (by omega)
          have w3 := or64 x (c.toNat % 64) (by omega) (by omega)
          by_cases E : 63 < c.toNat
          · rw [if_pos E] at hd
            subst hd
            have E' : ((c.toNat : Nat) : Int) > 63 := by omega
            have G : decide (((c.toNat : Nat) : Int) > 127) = decide (127 < c.toNat) := by
              by_cases h : 127 < c.toNat
              · rw [decide_eq_true h, decide_eq_true (by omega)]
              · rw [decide_eq_false h, decide_eq_false (by omega)]
            rcases hCD with C' | ⟨C', D'⟩
            · simp (maxSteps := 2000000) (discharger := omega) only [xc,xo,xr,x0,x1,x2,x3,x4,xd,xb,Reg.isA,Reg.isV,Reg.stays,Reg.onto,Bool.or_false,Bool.and_false,↓reduceIte,reduceCtorEq,Nat.reduceEqDiff,Nat.reduceLT,Nat.add_zero,Nat.not_lt_zero,Nat.lt_irrefl,Bool.false_eq_true,Option.map_some,and_true,List.any_nil,List.any_cons,Int.toNat_natCast,Int.natCast_nonneg,beq_self_eq_true,Option.some.injEq,exists_eq_left',Int.reduceLT,Int.reduceToNat,decide_true,decide_false,List.getElem?_cons_zero,wrap_i64,hid,hlt',hge,A',B',C',E',w1,w2,w3,wrap_u64,numAV,G]
              rfl
            · simp (maxSteps := 2000000) (discharger := omega) only [xc,xo,xr,x0,x1,x2,x3,x4,xd,Reg.isA,Reg.isV,Reg.stays,Reg.onto,Bool.or_false,Bool.and_false,↓reduceIte,reduceCtorEq,Nat.reduceEqDiff,Nat.reduceLT,Nat.add_zero,Nat.not_lt_zero,Nat.lt_irrefl,Bool.false_eq_true,Option.map_some,and_true,List.any_nil,List.any_cons,Int.toNat_natCast,Int.natCast_nonneg,beq_self_eq_true,Option.some.injEq,exists_eq_left',Int.reduceLT,Int.reduceToNat,decide_true,decide_false,List.getElem?_cons_zero,wrap_i64,hid,hlt',hge,A',B',C',D',E',w1,w2,w3,wrap_u64,numAV,G]
              rfl
          · rw [if_neg E] at hd
            have E' : ¬ ((c.toNat : Nat) : Int) > 63 := by omega
            rcases hCD with C' | ⟨C', D'⟩
            · simp (maxSteps := 2000000) (discharger := omega) only [xc,xo,xr,x0,x1,x2,x3,x4,xd,xb,Reg.isA,Reg.isV,Reg.stays,Reg.onto,Bool.or_false,Bool.and_false,↓reduceIte,reduceCtorEq,Nat.reduceEqDiff,Nat.reduceLT,Nat.add_zero,Nat.not_lt_zero,Nat.lt_irrefl,Bool.false_eq_true,Option.map_some,and_true,List.any_nil,List.any_cons,Int.toNat_natCast,Int.natCast_nonneg,beq_self_eq_true,Int.reduceLT,Int.reduceToNat,decide_true,decide_false,List.getElem?_cons_zero,wrap_i64,hid,hlt',hge,A',B',C',E',w1,w2,w3,wrap_u64]
              exact ⟨k - 1, by omega, _, i + 1, rfl, by omega, by omega, hd⟩
            · simp (maxSteps := 2000000) (discharger := omega) only [xc,xo,xr,x0,x1,x2,x3,x4,xd,Reg.isA,Reg.isV,Reg.stays,Reg.onto,Bool.or_false,Bool.and_false,↓reduceIte,reduceCtorEq,Nat.reduceEqDiff,Nat.reduceLT,Nat.add_zero,Nat.not_lt_zero,Nat.lt_irrefl,Bool.false_eq_true,Option.map_some,and_true,List.any_nil,List.any_cons,Int.toNat_natCast,Int.natCast_nonneg,beq_self_eq_true,Int.reduceLT,Int.reduceToNat,decide_true,decide_false,List.getElem?_cons_zero,wrap_i64,hid,hlt',hge,A',B',C',D',E',w1,w2,w3,wrap_u64]
              exact ⟨k - 1, by omega, _, i + 1, rfl, by omega, by omega, hd⟩
  · have hlt' : ¬ ((i : Nat) : Int) < (s.length : Int) := by omega
    rw [List.drop_of_length_le (by omega)] at hd
    unfold dec at hd
    subst hd
    simp (maxSteps := 2000000) (discharger := omega) only [xc,xo,xr,x0,x1,x3,x4,xd,Reg.isA,Reg.isV,Reg.stays,Reg.onto,Bool.or_false,Bool.and_false,↓reduceIte,reduceCtorEq,Nat.reduceEqDiff,Nat.reduceLT,Nat.add_zero,Nat.not_lt_zero,Bool.false_eq_true,Option.map_some,and_true,List.any_nil,List.any_cons,Option.some.injEq,exists_eq_left',decide_false,List.getElem?_cons_zero,hid,hlt',numAV]

end Go.Proofs.YtpgmohjmpaifbaaDoor.Im

/- S21Rdr: the reader's methods. -/
set_option linter.unusedVariables false
set_option linter.unusedSimpArgs false
open Go Go.Im
namespace Go.Proofs.YtpgmohjmpaifbaaDoor.Im

inductive PR (α : Type) where
  | err (e : Int) | ok (v : α) (k : Nat)

def rdW (s : List UInt8) : PR Int := match dec 0 0 s with
  | .err e => .err e
  | .ok x b k => .ok (if b then -(x : Int) - 1 else x) k
def rdC (s : List UInt8) : PR Nat := match dec 0 0 s with
  | .err e => .err e
  | .ok x b k => if b then .err 3 else .ok x k
def rdT (s : List UInt8) : PR (List UInt8) := match rdC s with
  | .err e => .err e
  | .ok n k => if (s.drop k).length < n then .err 2 else .ok ((s.drop k).take n) (k + n)

theorem dec_err {e : Int} : ∀ {s : List UInt8} {x i : Nat}, dec x i s = .err e → e = 2 ∨ e = 3
  | [], x, i, h => by unfold dec at h; cases h; exact .inl rfl
  | c :: s, x, i, h => by
    unfold dec at h
    split at h
    · cases h; exact .inr rfl
    · split at h
      · cases h
      · exact dec_err h

theorem dec_ok {v k : Nat} {b : Bool} : ∀ {s : List UInt8} {x i : Nat}, dec x i s = .ok v b k → v ≤ 9223372036854775807 ∧ i < k ∧ k ≤ i + s.length
  | [], x, i, h => by unfold dec at h; cases h
  | c :: s, x, i, h => by
    unfold dec at h
    split at h
    · cases h
    · split at h
      · simp only [NR.ok.injEq] at h
        obtain ⟨rfl, _, rfl⟩ := h
        simp
        omega
      · have := dec_ok h
        simp; omega

theorem rdC_ok {s : List UInt8} {v k : Nat} (h : rdC s = .ok v k) : dec 0 0 s = .ok v false k := by
  unfold rdC at h
  split at h
  · cases h
  · rename_i x b k' h1
    cases b with
    | true => cases h
    | false => cases h; exact h1
theorem rdC_err {s : List UInt8} {e : Int} (h : rdC s = .err e) : (dec 0 0 s = .err e ∧ (e = 2 ∨ e = 3)) ∨ (e = 3 ∧ ∃ x k, dec 0 0 s = .ok x true k) := by
  unfold rdC at h
  split at h
  · rename_i h1; cases h; exact .inl ⟨h1, dec_err h1⟩
  · rename_i x b k' h1
    cases b with
    | true => cases h; exact .inr ⟨rfl, x, k', h1⟩
    | false => cases h

def Rr (s : List UInt8) : AO := .row 1 [.agg [.str s]]

theorem c87e {tot : Bool} {ω : Nat → Nat} {n : Nat} (id : Nat) (s : List UInt8) (h : Hp) (hid : h[id]? = some (Rr s)) (hs : s.length ≤ 1000000000000) (hn : s.length + 3 < n) {e : Int} (hr : rdC s = .err e) :
    call F n tot ω 87 [.ptr id 1 0 0] h = some (.tup [.int .i64 0, .int .i64 e], h) := by
  obtain ⟨n, rfl⟩ : ∃ m, n = m + 1 := ⟨n - 1, by omega⟩
  refine call_eq (fn := a87) f87 ?_
  unfold a87
  have r1 := c108 (tot := tot) (ω := ω) (n := n) id s h hid hs (by omega)
  rcases rdC_err hr with ⟨hd, h23⟩ | ⟨rfl, x, k, hd⟩
  · rw [hd] at r1
    unfold numAV at r1
    have he : (e != 0) = true := by rcases h23 with rfl | rfl <;> rfl
    have he2 : (e == 0) = false := by rcases h23 with rfl | rfl <;> rfl
    simp (maxSteps := 2000000) (discharger := omega) only [xc,xo,xr,x0,x1,x3,xd,xb,kont_call,Reg.isA,Reg.isV,Reg.stays,Reg.onto,Bool.or_false,Bool.and_false,↓reduceIte,reduceCtorEq,Nat.reduceEqDiff,Nat.reduceLT,Nat.zero_add,Nat.not_lt_zero,Bool.false_eq_true,Option.map_some,and_true,List.any_nil,List.any_cons,Option.some.injEq,exists_eq_left',List.getElem?_cons_zero,List.getElem?_cons_succ,r1,he,he2]
  · rw [hd] at r1
    unfold numAV at r1
    have he : ((3 : Int) != 0) = true := rfl
    simp (maxSteps := 2000000) (discharger := omega) only [xc,xo,xr,x0,x1,x3,xd,kont_call,Reg.isA,Reg.isV,Reg.stays,Reg.onto,Bool.or_false,Bool.and_false,↓reduceIte,reduceCtorEq,Nat.reduceEqDiff,Nat.reduceLT,Nat.zero_add,Nat.not_lt_zero,Nat.lt_irrefl,Bool.false_eq_true,Option.map_some,and_true,List.any_nil,List.any_cons,beq_self_eq_true,Option.some.injEq,exists_eq_left',List.getElem?_cons_zero,List.getElem?_cons_succ,r1,he]

theorem c87o {tot : Bool} {ω : Nat → Nat} {n : Nat} (id : Nat) (s : List UInt8) (h : Hp) (hid : h[id]? = some (Rr s)) (hs : s.length ≤ 1000000000000) (hn : s.length + 3 < n) {v : Nat} {k : Nat} (hr : rdC s = .ok v k) :
    call F n tot ω 87 [.ptr id 1 0 0] h = some (.tup [.int .i64 v, .int .i64 0], h.set id (Rr (s.drop k))) := by
  obtain ⟨n, rfl⟩ : ∃ m, n = m + 1 := ⟨n - 1, by omega⟩
  refine call_eq (fn := a87) f87 ?_
  unfold a87
  have r1 := c108 (tot := tot) (ω := ω) (n := n) id s h hid hs (by omega)
  have hd := rdC_ok hr
  have hb := dec_ok hd
  rw [hd] at r1
  unfold numAV at r1
  unfold Rr at hid
  have he : ((0 : Int) != 0) = false := rfl
  have hkl : ((k : Nat) : Int) ≤ (s.length : Int) := by omega
  have ht : List.take s.length s = s := List.take_length
  simp (maxSteps := 2000000) (discharger := omega) only [xc,xo,xr,x0,x1,x3,x5,xd,kont_call,slOk,sliceV,upd,wr,Reg.isA,Reg.isV,Reg.stays,Reg.onto,Bool.or_false,Bool.and_false,↓reduceIte,reduceCtorEq,Nat.reduceEqDiff,Nat.reduceLT,Nat.add_zero,Nat.zero_add,Nat.not_lt_zero,Nat.zero_lt_succ,Bool.false_eq_true,Option.map_some,Option.getD_none,and_self,and_true,List.length_cons,List.length_nil,List.any_nil,List.any_cons,Int.toNat_natCast,Int.natCast_nonneg,beq_self_eq_true,Option.some.injEq,exists_eq_left',List.getElem?_cons_zero,List.getElem?_cons_succ,r1,he,hid,hkl,ht,Int.le_refl,Rr,List.set_cons_zero]

theorem c88e {tot : Bool} {ω : Nat → Nat} {n : Nat} (id m : Nat) (s : List UInt8) (h : Hp) (hid : h[id]? = some (Rr s)) (hn : 2 < n) (hm : s.length < m) :
    call F n tot ω 88 [.ptr id 1 0 0, .int .i64 m] h = some (.tup [.str [], .int .i64 2], h) := by
  obtain ⟨n, rfl⟩ : ∃ m, n = m + 1 := ⟨n - 1, by omega⟩
  refine call_eq (fn := a88) f88 ?_
  unfold a88
  unfold Rr at hid
  have h0 : ¬ ((m : Nat) : Int) < 0 := by omega
  have h1 : ((m : Nat) : Int) > (s.length : Int) := by omega
  simp (maxSteps := 2000000) (discharger := omega) only [xc,xo,xr,x0,x1,x2,x3,x4,xd,isNil,Bool.bne_false,Reg.isA,Reg.isV,Reg.stays,Reg.onto,Bool.or_false,Bool.and_false,↓reduceIte,reduceCtorEq,Nat.reduceEqDiff,Nat.reduceLT,Nat.reduceAdd,Nat.add_zero,Nat.zero_add,Nat.not_lt_zero,Nat.zero_ne_one,Nat.one_ne_zero,Bool.false_eq_true,Option.map_some,and_true,List.any_nil,List.any_cons,beq_self_eq_true,Option.some.injEq,exists_eq_left',decide_true,decide_false,List.getElem?_cons_zero,hid,h0,h1]

theorem c88o {tot : Bool} {ω : Nat → Nat} {n : Nat} (id m : Nat) (s : List UInt8) (h : Hp) (hid : h[id]? = some (Rr s)) (hn : 2 < n) (hm : m ≤ s.length) :
    call F n tot ω 88 [.ptr id 1 0 0, .int .i64 m] h = some (.tup [.str (s.take m), .int .i64 0], h.set id (Rr (s.drop m))) := by
  obtain ⟨n, rfl⟩ : ∃ m, n = m + 1 := ⟨n - 1, by omega⟩
  refine call_eq (fn := a88) f88 ?_
  unfold a88
  unfold Rr at hid
  have h0 : ¬ ((m : Nat) : Int) < 0 := by omega
  have h1 : ¬ ((m : Nat) : Int) > (s.length : Int) := by omega
  have h2 : (0 : Int) ≤ (m : Int) := by omega
  have h3 : (m : Int) ≤ (s.length : Int) := by omega
  have ht : List.take s.length s = s := List.take_length
  have hz : (0 : Int).toNat = 0 := rfl
  simp (maxSteps := 2000000) (discharger := omega) only [xc,xo,xr,x0,x1,x2,x3,x4,x5,xd,isNil,slOk,sliceV,upd,wr,Bool.bne_false,List.drop_zero,Reg.isA,Reg.isV,Reg.stays,Reg.onto,Bool.or_false,Bool.and_false,↓reduceIte,reduceCtorEq,Nat.reduceEqDiff,Nat.reduceLT,Nat.reduceAdd,Nat.add_zero,Nat.zero_add,Nat.not_lt_zero,Nat.zero_ne_one,Nat.one_ne_zero,Nat.zero_lt_succ,Bool.false_eq_true,Option.map_some,Option.getD_some,Option.getD_none,and_self,and_true,List.length_cons,List.length_nil,List.any_nil,List.any_cons,Int.toNat_natCast,beq_self_eq_true,Option.some.injEq,exists_eq_left',decide_false,List.getElem?_cons_zero,hid,h0,h1,h2,h3,ht,hz,Int.le_refl,Rr,List.set_cons_zero]

theorem set_get {h : Hp} {id : Nat} {o : AO} (hid : h[id]? = some o) (o' : AO) : (h.set id o')[id]? = some o' := by
  have := (List.getElem?_eq_some_iff.1 hid).1
  simp [this]
theorem set_back {h : Hp} {id : Nat} {o : AO} (hid : h[id]? = some o) (o' : AO) : (h.set id o').set id o = h := by
  obtain ⟨h1, h2⟩ := List.getElem?_eq_some_iff.1 hid
  rw [List.set_set]
  rw [← h2]
  exact List.set_getElem_self h1

theorem c60e {tot : Bool} {ω : Nat → Nat} {n : Nat} (id : Nat) (s : List UInt8) (h : Hp) (hid : h[id]? = some (Rr s)) (hs : s.length ≤ 1000000000000) (hn : s.length + 4 < n) {e : Int} (hr : rdT s = .err e) :
    call F n tot ω 60 [.ptr id 1 0 0] h = some (.tup [.str [], .int .i64 e], h) := by
  obtain ⟨n, rfl⟩ : ∃ m, n = m + 1 := ⟨n - 1, by omega⟩
  refine call_eq (fn := a60) f60 ?_
  unfold a60
  have hid' := hid
  unfold Rr at hid'
  unfold rdT at hr
  split at hr
  · rename_i e' hc
    cases hr
    have r1 := c87e (tot := tot) (ω := ω) (n := n) id s h hid hs (by omega) hc
    have he : (e != 0) = true := by
      rcases rdC_err hc with ⟨_, rfl | rfl⟩ | ⟨rfl, _⟩ <;> rfl
    simp (maxSteps := 2000000) (discharger := omega) only [xc,xo,xr,x0,x1,x2,x3,xd,kont_call,isNil,Bool.bne_false,Reg.isA,Reg.isV,Reg.stays,Reg.onto,Bool.or_false,Bool.and_false,↓reduceIte,reduceCtorEq,Nat.reduceEqDiff,Nat.reduceLT,Nat.add_zero,Nat.zero_add,Nat.not_lt_zero,Bool.false_eq_true,Option.map_some,and_true,List.any_nil,List.any_cons,Option.some.injEq,exists_eq_left',List.getElem?_cons_zero,List.getElem?_cons_succ,hid',r1,he]
  · rename_i m k hc
    split at hr
    · rename_i hlt
      cases hr
      have r1 := c87o (tot := tot) (ω := ω) (n := n) id s h hid hs (by omega) hc
      have g1 := set_get hid (Rr (s.drop k))
      have r2 := c88e (tot := tot) (ω := ω) (n := n) id m _ _ g1 (by omega) hlt
      have he : ((0 : Int) != 0) = false := rfl
      have he2 : ((2 : Int) != 0) = true := rfl
      have g2 := g1
      unfold Rr at g2
      have hb := set_back hid (Rr (s.drop k))
      unfold Rr at r1 r2 hb
      simp (maxSteps := 2000000) (discharger := omega) only [xc,xo,xr,x0,x1,x2,x3,x5,xd,kont_call,isNil,upd,wr,Bool.bne_false,Reg.isA,Reg.isV,Reg.stays,Reg.onto,Bool.or_false,Bool.and_false,↓reduceIte,reduceCtorEq,Nat.reduceEqDiff,Nat.reduceLT,Nat.add_zero,Nat.zero_add,Nat.not_lt_zero,Nat.lt_irrefl,Nat.zero_lt_succ,Bool.false_eq_true,Option.map_some,and_self,and_true,List.length_cons,List.length_nil,List.any_nil,List.any_cons,Option.some.injEq,exists_eq_left',List.getElem?_cons_zero,List.getElem?_cons_succ,hid',r1,r2,he,he2,g2,List.set_cons_zero,hb]
    · cases hr

theorem c60o {tot : Bool} {ω : Nat → Nat} {n : Nat} (id : Nat) (s : List UInt8) (h : Hp) (hid : h[id]? = some (Rr s)) (hs : s.length ≤ 1000000000000) (hn : s.length + 4 < n) {v : List UInt8} {k : Nat} (hr : rdT s = .ok v k) :
    call F n tot ω 60 [.ptr id 1 0 0] h = some (.tup [.str v, .int .i64 0], h.set id (Rr (s.drop k))) := by
  obtain ⟨n, rfl⟩ : ∃ m, n = m + 1 := ⟨n - 1, by omega⟩
  refine call_eq (fn := a60) f60 ?_
  unfold a60
  have hid' := hid
  unfold Rr at hid'
  unfold rdT at hr
  split at hr
  · cases hr
  · rename_i m k' hc
    split at hr
    · cases hr
    · rename_i hlt
      cases hr
      have r1 := c87o (tot := tot) (ω := ω) (n := n) id s h hid hs (by omega) hc
      have g1 := set_get hid (Rr (s.drop k'))
      have r2 := c88o (tot := tot) (ω := ω) (n := n) id m _ _ g1 (by omega) (by omega)
      have he : ((0 : Int) != 0) = false := rfl
      rw [List.set_set, List.drop_drop] at r2
      unfold Rr at r1 r2
      simp (maxSteps := 2000000) (discharger := omega) only [xc,xo,xr,x0,x1,x2,x3,xd,kont_call,isNil,Bool.bne_false,Reg.isA,Reg.isV,Reg.stays,Reg.onto,Bool.or_false,Bool.and_false,↓reduceIte,reduceCtorEq,Nat.reduceEqDiff,Nat.reduceLT,Nat.add_zero,Nat.zero_add,Nat.not_lt_zero,Nat.lt_irrefl,Bool.false_eq_true,Option.map_some,and_true,List.any_nil,List.any_cons,Option.some.injEq,exists_eq_left',List.getElem?_cons_zero,List.getElem?_cons_succ,hid',r1,r2,he,Rr]

theorem c62 {tot : Bool} {ω : Nat → Nat} {n : Nat} (id : Nat) (s : List UInt8) (h : Hp) (hid : h[id]? = some (Rr s)) (hn : 2 < n) :
    call F n tot ω 62 [.ptr id 1 0 0] h = some (.int .i64 (if s = [] then 0 else 5), h) := by
  obtain ⟨n, rfl⟩ : ∃ m, n = m + 1 := ⟨n - 1, by omega⟩
  refine call_eq (fn := a62) f62 ?_
  unfold a62
  unfold Rr at hid
  by_cases hs : s = []
  · subst hs
    have hq : (([] : List UInt8) == []) = true := rfl
    simp (maxSteps := 2000000) (discharger := omega) only [xc,xo,xr,x0,x1,x2,x3,xd,isNil,Bool.bne_false,Reg.isA,Reg.isV,Reg.stays,Reg.onto,Bool.or_false,Bool.and_false,↓reduceIte,reduceCtorEq,Nat.reduceEqDiff,Nat.reduceLT,Nat.add_zero,Nat.zero_add,Nat.not_lt_zero,Bool.false_eq_true,Bool.not_true,Option.map_some,and_true,List.any_nil,List.any_cons,beq_self_eq_true,Option.some.injEq,exists_eq_left',List.getElem?_cons_zero,hid]
  · have hq : (s == []) = false := by simp [hs]
    simp (maxSteps := 2000000) (discharger := omega) only [xc,xo,xr,x0,x1,x2,x3,xd,isNil,Bool.bne_false,Reg.isA,Reg.isV,Reg.stays,Reg.onto,Bool.or_false,Bool.and_false,↓reduceIte,reduceCtorEq,Nat.reduceEqDiff,Nat.reduceLT,Nat.add_zero,Nat.zero_add,Nat.not_lt_zero,Bool.false_eq_true,Bool.not_false,Option.map_some,and_true,List.any_nil,List.any_cons,Option.some.injEq,exists_eq_left',List.getElem?_cons_zero,hid,hq,hs]

end Go.Proofs.YtpgmohjmpaifbaaDoor.Im

/- S21Rrd: the reference's readers. -/
set_option linter.unusedVariables false
set_option linter.unusedSimpArgs false
open Go Go.Im
namespace Go.Proofs.YtpgmohjmpaifbaaDoor.Im

def rdWAV : PR Int → AV
  | .err e => .tup [.int .i64 0, .int .i64 0, .int .i64 e]
  | .ok v k => .tup [.int .i64 v, .int .i64 k, .int .i64 0]
def rdCAV : PR Nat → AV
  | .err e => .tup [.int .i64 0, .int .i64 0, .int .i64 e]
  | .ok v k => .tup [.int .i64 v, .int .i64 k, .int .i64 0]
def rdTAV : PR (List UInt8) → AV
  | .err e => .tup [.str [], .int .i64 0, .int .i64 e]
  | .ok v k => .tup [.str v, .int .i64 k, .int .i64 0]

def toW : NR → PR Int
  | .err e => .err e
  | .ok x b k => .ok (if b then -(x : Int) - 1 else x) k
theorem rdW_toW (s : List UInt8) : rdW s = toW (dec 0 0 s) := by
  unfold rdW toW; cases dec 0 0 s <;> rfl

theorem c91 {tot : Bool} {ω : Nat → Nat} {n : Nat} (s : List UInt8) (h : Hp) (hs : s.length ≤ 1000000000000) (hn : s.length + 2 < n) :
    call F n tot ω 91 [.str s] h = some (rdWAV (rdW s), h) := by
  obtain ⟨n, rfl⟩ : ∃ m, n = m + 1 := ⟨n - 1, by omega⟩
  refine call_eq (fn := a91) f91 ?_
  rw [rdW_toW]
  generalize hR : dec 0 0 s = R
  unfold a91
  simp (maxSteps := 2000000) (discharger := omega) only [xc,xo,xr,x0,Reg.isA,Reg.isV,Reg.stays,Reg.onto,Bool.or_false,Bool.and_false,↓reduceIte,reduceCtorEq,Nat.reduceEqDiff,Nat.reduceLT,Nat.zero_add,Nat.not_lt_zero,Bool.false_eq_true,Option.map_some,List.any_nil,List.any_cons,Int.reduceNeg]
  refine wpi_loop (fun k r g => ∃ (x i : Nat), r = [(0, .val (.str s)), (5, .val (.int .u64 x)), (6, .val (.int .i64 i))] ∧ i + k = s.length ∧ x ≤ 9223372036854775807 ∧ dec x i (s.drop i) = R ∧ g = h) s.length (by omega) ⟨0, 0, rfl, by omega, by omega, hR, rfl⟩ ?_
  clear hR
  rintro k r g ⟨x, i, rfl, hik, hx, hd, rfl⟩
  by_cases hlt : i < s.length
  · have hlt' : ((i : Nat) : Int) < (s.length : Int) := by omega
    have hge : s[i]? = some s[i] := List.getElem?_eq_getElem hlt
    have hi0 : (0 : Int) ≤ (i : Int) := by omega
    rw [List.drop_eq_getElem_cons hlt] at hd
    have hc := s[i].toNat_lt
    generalize s[i] = c at *
    unfold dec at hd
    have ht := tm64 c.toNat
    by_cases A : 191 < c.toNat
    · rw [if_pos (.inl A)] at hd
      subst hd
      have A' : ((c.toNat : Nat) : Int) ≥ 192 := by omega
      simp (maxSteps := 2000000) (discharger := omega) only [xc,xo,xr,x0,x1,x2,x4,xd,xb,Reg.isA,Reg.isV,Reg.stays,Reg.onto,Bool.or_false,Bool.and_false,↓reduceIte,reduceCtorEq,Nat.reduceEqDiff,Nat.reduceLT,Nat.not_lt_zero,Bool.false_eq_true,Option.map_some,and_true,List.any_nil,List.any_cons,Int.toNat_natCast,Int.natCast_nonneg,Option.some.injEq,exists_eq_left',Int.reduceNeg,decide_true,wrap_i64,hlt',hge,A',rdWAV,toW]
    · have A' : ¬ ((c.toNat : Nat) : Int) ≥ 192 := by omega
      by_cases C : i = 0 ∧ c.toNat = 0
      · rw [if_pos (.inr (.inr C))] at hd
        subst hd
        have C' : (((i : Nat) : Int) == 0) = true := by simp [C.1]
        have D' : (((c.toNat : Nat) : Int) == 0) = true := by rw [C.2]; rfl
        simp (maxSteps := 2000000) (discharger := omega) only [xc,xo,xr,x0,x1,x2,x4,xd,xb,Reg.isA,Reg.isV,Reg.stays,Reg.onto,Bool.or_false,Bool.and_false,↓reduceIte,reduceCtorEq,Nat.reduceEqDiff,Nat.reduceLT,Nat.not_lt_zero,Bool.false_eq_true,Option.map_some,and_true,List.any_nil,List.any_cons,Int.toNat_natCast,Int.natCast_nonneg,beq_self_eq_true,Option.some.injEq,exists_eq_left',Int.reduceNeg,decide_true,decide_false,wrap_i64,hlt',hge,A',C',D',rdWAV,toW]
      · have hCD : (((c.toNat : Nat) : Int) == 0) = false ∨ ((((c.toNat : Nat) : Int) == 0) = true ∧ (((i : Nat) : Int) == 0) = false) := by
          by_cases hi : c.toNat = 0
          · right; exact ⟨by simp [hi], by simp; omega⟩
          · left; simp; omega
        by_cases B : 144115188075855871 < x
        · rw [if_pos (.inr (.inl B))] at hd
          subst hd
          have B' : ((x : Nat) : Int) > 144115188075855871 := by omega
          rcases hCD with C' | ⟨C', D'⟩
          · simp (maxSteps := 2000000) (discharger := omega) only [xc,xo,xr,x0,x1,x2,x4,xd,xb,Reg.isA,Reg.isV,Reg.stays,Reg.onto,Bool.or_false,Bool.and_false,↓reduceIte,reduceCtorEq,Nat.reduceEqDiff,Nat.reduceLT,Nat.not_lt_zero,Bool.false_eq_true,Option.map_some,and_true,List.any_nil,List.any_cons,Int.toNat_natCast,Int.natCast_nonneg,beq_self_eq_true,Option.some.injEq,exists_eq_left',Int.reduceNeg,decide_true,decide_false,wrap_i64,hlt',hge,A',B',C',rdWAV,toW]
          · simp (maxSteps := 2000000) (discharger := omega) only [xc,xo,xr,x0,x1,x2,x4,xd,Reg.isA,Reg.isV,Reg.stays,Reg.onto,Bool.or_false,Bool.and_false,↓reduceIte,reduceCtorEq,Nat.reduceEqDiff,Nat.reduceLT,Nat.not_lt_zero,Bool.false_eq_true,Option.map_some,and_true,List.any_nil,List.any_cons,Int.toNat_natCast,Int.natCast_nonneg,beq_self_eq_true,Option.some.injEq,exists_eq_left',Int.reduceNeg,decide_true,decide_false,wrap_i64,hlt',hge,A',B',C',D',rdWAV,toW]
        · have B' : ¬ ((x : Nat) : Int) > 144115188075855871 := by omega
          rw [if_neg (by omega)] at hd
          have w3 : (64 : Int) * (x : Int) + ((c.toNat % 64 : Nat) : Int) = ((64 * x + c.toNat % 64 : Nat) : Int) := by omega
          by_cases E : 63 < c.toNat
          · rw [if_pos E] at hd
            subst hd
            have E' : ((c.toNat : Nat) : Int) ≥ 64 := by omega
            by_cases G : 127 < c.toNat
            · have G' : ((c.toNat : Nat) : Int) ≥ 128 := by omega
              have G2 : decide (127 < c.toNat) = true := by simp [G]
              have hz : (-1 : Int) - ((64 * x + c.toNat % 64 : Nat) : Int) = -((64 * x + c.toNat % 64 : Nat) : Int) - 1 := by omega
              rw [G2]
              rcases hCD with C' | ⟨C', D'⟩
              · simp (maxSteps := 2000000) (discharger := omega) only [xc,xo,xr,x0,x1,x2,x4,xd,xb,Reg.isA,Reg.isV,Reg.stays,Reg.onto,Bool.or_false,Bool.and_false,↓reduceIte,reduceCtorEq,Nat.reduceEqDiff,Nat.reduceLT,Nat.not_lt_zero,Nat.lt_irrefl,Bool.false_eq_true,Option.map_some,and_true,List.any_nil,List.any_cons,Int.toNat_natCast,Int.natCast_nonneg,beq_self_eq_true,Option.some.injEq,exists_eq_left',Int.reduceEq,Int.reduceNeg,decide_true,decide_false,wrap_i64,hlt',hge,A',B',C',G',ht,w3,wrap_u64,hz,rdWAV,toW]
                rfl
              · simp (maxSteps := 2000000) (discharger := omega) only [xc,xo,xr,x0,x1,x2,x4,xd,Reg.isA,Reg.isV,Reg.stays,Reg.onto,Bool.or_false,Bool.and_false,↓reduceIte,reduceCtorEq,Nat.reduceEqDiff,Nat.reduceLT,Nat.not_lt_zero,Nat.lt_irrefl,Bool.false_eq_true,Option.map_some,and_true,List.any_nil,List.any_cons,Int.toNat_natCast,Int.natCast_nonneg,beq_self_eq_true,Option.some.injEq,exists_eq_left',Int.reduceEq,Int.reduceNeg,decide_true,decide_false,wrap_i64,hlt',hge,A',B',C',D',G',ht,w3,wrap_u64,hz,rdWAV,toW]
                rfl
            · have G' : ¬ ((c.toNat : Nat) : Int) ≥ 128 := by omega
              have G2 : decide (127 < c.toNat) = false := by simp [G]
              rw [G2]
              rcases hCD with C' | ⟨C', D'⟩
              · simp (maxSteps := 2000000) (discharger := omega) only [xc,xo,xr,x0,x1,x2,x4,xd,xb,Reg.isA,Reg.isV,Reg.stays,Reg.onto,Bool.or_false,Bool.and_false,↓reduceIte,reduceCtorEq,Nat.reduceEqDiff,Nat.reduceLT,Nat.not_lt_zero,Nat.lt_irrefl,Bool.false_eq_true,Option.map_some,and_true,List.any_nil,List.any_cons,Int.toNat_natCast,Int.natCast_nonneg,beq_self_eq_true,Option.some.injEq,exists_eq_left',Int.reduceEq,Int.reduceNeg,decide_true,decide_false,wrap_i64,hlt',hge,A',B',C',E',G',ht,w3,wrap_u64,rdWAV,toW]
                rfl
              · simp (maxSteps := 2000000) (discharger := omega) only [xc,xo,xr,x0,x1,x2,x4,xd,Reg.isA,Reg.isV,Reg.stays,Reg.onto,Bool.or_false,Bool.and_false,↓reduceIte,reduceCtorEq,Nat.reduceEqDiff,Nat.reduceLT,Nat.not_lt_zero,Nat.lt_irrefl,Bool.false_eq_true,Option.map_some,and_true,List.any_nil,List.any_cons,Int.toNat_natCast,Int.natCast_nonneg,beq_self_eq_true,Option.some.injEq,exists_eq_left',Int.reduceEq,Int.reduceNeg,decide_true,decide_false,wrap_i64,hlt',hge,A',B',C',D',E',G',ht,w3,wrap_u64,rdWAV,toW]
                rfl
          · rw [if_neg E] at hd
            have E' : ¬ ((c.toNat : Nat) : Int) ≥ 64 := by omega
            have G' : ¬ ((c.toNat : Nat) : Int) ≥ 128 := by omega
            rcases hCD with C' | ⟨C', D'⟩
            · simp (maxSteps := 2000000) (discharger := omega) only [xc,xo,xr,x0,x1,x2,x4,xd,xb,Reg.isA,Reg.isV,Reg.stays,Reg.onto,Bool.or_false,Bool.and_false,↓reduceIte,reduceCtorEq,Nat.reduceEqDiff,Nat.reduceLT,Nat.not_lt_zero,Nat.lt_irrefl,Bool.false_eq_true,Option.map_some,and_true,List.any_nil,List.any_cons,Int.toNat_natCast,Int.natCast_nonneg,beq_self_eq_true,Int.reduceEq,Int.reduceNeg,decide_true,decide_false,wrap_i64,hlt',hge,A',B',C',E',G',ht,w3,wrap_u64]
              exact ⟨k - 1, by omega, _, i + 1, rfl, by omega, by omega, hd⟩
            · simp (maxSteps := 2000000) (discharger := omega) only [xc,xo,xr,x0,x1,x2,x4,xd,Reg.isA,Reg.isV,Reg.stays,Reg.onto,Bool.or_false,Bool.and_false,↓reduceIte,reduceCtorEq,Nat.reduceEqDiff,Nat.reduceLT,Nat.not_lt_zero,Nat.lt_irrefl,Bool.false_eq_true,Option.map_some,and_true,List.any_nil,List.any_cons,Int.toNat_natCast,Int.natCast_nonneg,beq_self_eq_true,Int.reduceEq,Int.reduceNeg,decide_true,decide_false,wrap_i64,hlt',hge,A',B',C',D',E',G',ht,w3,wrap_u64]
              exact ⟨k - 1, by omega, _, i + 1, rfl, by omega, by omega, hd⟩
  · have hlt' : ¬ ((i : Nat) : Int) < (s.length : Int) := by omega
    rw [List.drop_of_length_le (by omega)] at hd
    unfold dec at hd
    subst hd
    simp (maxSteps := 2000000) (discharger := omega) only [xc,xo,xr,x0,x1,x4,xd,Reg.isA,Reg.isV,Reg.stays,Reg.onto,Bool.or_false,Bool.and_false,↓reduceIte,reduceCtorEq,Nat.reduceEqDiff,Nat.reduceLT,Nat.not_lt_zero,Bool.false_eq_true,Option.map_some,and_true,List.any_nil,List.any_cons,Option.some.injEq,exists_eq_left',Int.reduceNeg,decide_false,hlt',rdWAV,toW]

theorem c63 {tot : Bool} {ω : Nat → Nat} {n : Nat} (s : List UInt8) (h : Hp) (hs : s.length ≤ 1000000000000) (hn : s.length + 3 < n) :
    call F n tot ω 63 [.str s] h = some (rdCAV (rdC s), h) := by
  obtain ⟨n, rfl⟩ : ∃ m, n = m + 1 := ⟨n - 1, by omega⟩
  refine call_eq (fn := a63) f63 ?_
  unfold a63
  have r1 := c91 (tot := tot) (ω := ω) (n := n) s h hs (by omega)
  rw [rdW_toW] at r1
  unfold rdC
  have hb := @dec_ok
  cases hd : dec 0 0 s with
  | err e =>
    rw [hd] at r1
    unfold toW rdWAV at r1
    have he2 : (e == 0) = false := by rcases dec_err hd with rfl | rfl <;> rfl
    simp (maxSteps := 2000000) (discharger := omega) only [xc,xo,xr,x0,x1,x3,xd,xb,kont_call,Reg.isA,Reg.isV,Reg.stays,Reg.onto,Bool.or_false,Bool.and_false,↓reduceIte,reduceCtorEq,Nat.reduceEqDiff,Nat.reduceLT,Nat.zero_add,Nat.not_lt_zero,Bool.false_eq_true,Option.map_some,and_true,List.any_nil,List.any_cons,Option.some.injEq,exists_eq_left',List.getElem?_cons_zero,List.getElem?_cons_succ,r1,he2,rdCAV]
  | ok x b k =>
    rw [hd] at r1
    unfold toW rdWAV at r1
    have hb := dec_ok hd
    have he : ((0 : Int) == 0) = true := rfl
    cases b with
    | true =>
      have hneg : -(x : Int) - 1 < 0 := by omega
      simp only [if_true] at r1
      simp (maxSteps := 2000000) (discharger := omega) only [xc,xo,xr,x0,x1,x3,xd,kont_call,Reg.isA,Reg.isV,Reg.stays,Reg.onto,Bool.or_false,Bool.and_false,↓reduceIte,reduceCtorEq,Nat.reduceEqDiff,Nat.reduceLT,Nat.zero_add,Nat.not_lt_zero,Bool.false_eq_true,Option.map_some,and_true,List.any_nil,List.any_cons,beq_self_eq_true,Option.some.injEq,exists_eq_left',decide_true,List.getElem?_cons_zero,List.getElem?_cons_succ,r1,hneg,rdCAV]
    | false =>
      have hneg : ¬ (x : Int) < 0 := by omega
      simp only [Bool.false_eq_true,if_false] at r1
      simp (maxSteps := 2000000) (discharger := omega) only [xc,xo,xr,x0,x1,x3,xd,kont_call,Reg.isA,Reg.isV,Reg.stays,Reg.onto,Bool.or_false,Bool.and_false,↓reduceIte,reduceCtorEq,Nat.reduceEqDiff,Nat.reduceLT,Nat.zero_add,Nat.not_lt_zero,Bool.false_eq_true,Option.map_some,and_true,List.any_nil,List.any_cons,beq_self_eq_true,Option.some.injEq,exists_eq_left',decide_false,List.getElem?_cons_zero,List.getElem?_cons_succ,r1,hneg,rdCAV]

theorem c92e {tot : Bool} {ω : Nat → Nat} {n : Nat} (m : Nat) (s : List UInt8) (h : Hp) (hn : 2 < n) (hm : s.length < m) :
    call F n tot ω 92 [.str s, .int .i64 m] h = some (.tup [.str [], .int .i64 0, .int .i64 2], h) := by
  obtain ⟨n, rfl⟩ : ∃ m, n = m + 1 := ⟨n - 1, by omega⟩
  refine call_eq (fn := a92) f92 ?_
  unfold a92
  have h0 : ¬ ((m : Nat) : Int) < 0 := by omega
  have h1 : ((m : Nat) : Int) > (s.length : Int) := by omega
  simp (maxSteps := 2000000) (discharger := omega) only [xc,xo,xr,x0,x1,x4,xd,Reg.isA,Reg.isV,Reg.stays,Reg.onto,Bool.or_false,Bool.and_false,↓reduceIte,reduceCtorEq,Nat.reduceEqDiff,Nat.reduceLT,Nat.reduceAdd,Nat.zero_add,Nat.not_lt_zero,Nat.zero_ne_one,Nat.one_ne_zero,Bool.false_eq_true,Option.map_some,and_true,List.any_nil,List.any_cons,Option.some.injEq,exists_eq_left',decide_true,decide_false,h0,h1]
theorem c92o {tot : Bool} {ω : Nat → Nat} {n : Nat} (m : Nat) (s : List UInt8) (h : Hp) (hn : 2 < n) (hm : m ≤ s.length) :
    call F n tot ω 92 [.str s, .int .i64 m] h = some (.tup [.str (s.take m), .int .i64 m, .int .i64 0], h) := by
  obtain ⟨n, rfl⟩ : ∃ m, n = m + 1 := ⟨n - 1, by omega⟩
  refine call_eq (fn := a92) f92 ?_
  unfold a92
  have h0 : ¬ ((m : Nat) : Int) < 0 := by omega
  have h1 : ¬ ((m : Nat) : Int) > (s.length : Int) := by omega
  have h2 : (0 : Int) ≤ (m : Int) := by omega
  have h3 : (m : Int) ≤ (s.length : Int) := by omega
  have hz : (0 : Int).toNat = 0 := rfl
  simp (maxSteps := 2000000) (discharger := omega) only [xc,xo,xr,x0,x1,x3,x4,xd,slOk,sliceV,List.drop_zero,Reg.isA,Reg.isV,Reg.stays,Reg.onto,Bool.or_false,Bool.and_false,↓reduceIte,reduceCtorEq,Nat.reduceEqDiff,Nat.reduceLT,Nat.reduceAdd,Nat.zero_add,Nat.not_lt_zero,Nat.zero_ne_one,Nat.one_ne_zero,Bool.false_eq_true,Option.map_some,Option.getD_some,and_self,and_true,List.any_nil,List.any_cons,Int.toNat_natCast,Option.some.injEq,exists_eq_left',decide_false,h0,h1,h2,h3,hz,Int.le_refl]

theorem c64 {tot : Bool} {ω : Nat → Nat} {n : Nat} (s : List UInt8) (h : Hp) (hs : s.length ≤ 1000000000000) (hn : s.length + 4 < n) :
    call F n tot ω 64 [.str s] h = some (rdTAV (rdT s), h) := by
  obtain ⟨n, rfl⟩ : ∃ m, n = m + 1 := ⟨n - 1, by omega⟩
  refine call_eq (fn := a64) f64 ?_
  unfold a64
  have r1 := c63 (tot := tot) (ω := ω) (n := n) s h hs (by omega)
  unfold rdT
  cases hc : rdC s with
  | err e =>
    rw [hc] at r1
    unfold rdCAV at r1
    have he : (e != 0) = true := by
      rcases rdC_err hc with ⟨_, rfl | rfl⟩ | ⟨rfl, _⟩ <;> rfl
    simp (maxSteps := 2000000) (discharger := omega) only [xc,xo,xr,x0,x1,x3,xd,kont_call,Reg.isA,Reg.isV,Reg.stays,Reg.onto,Bool.or_false,Bool.and_false,↓reduceIte,reduceCtorEq,Nat.reduceEqDiff,Nat.reduceLT,Nat.zero_add,Nat.not_lt_zero,Bool.false_eq_true,Option.map_some,and_true,List.any_nil,List.any_cons,Option.some.injEq,exists_eq_left',List.getElem?_cons_zero,List.getElem?_cons_succ,r1,he,rdTAV]
  | ok m k =>
    rw [hc] at r1
    unfold rdCAV at r1
    have hb := dec_ok (rdC_ok hc)
    have he : ((0 : Int) != 0) = false := rfl
    have hkl : ((k : Nat) : Int) ≤ (s.length : Int) := by omega
    have ht : List.take s.length s = s := List.take_length
    by_cases hlt : (s.drop k).length < m
    · have r2 := c92e (tot := tot) (ω := ω) (n := n) m (s.drop k) h (by omega) hlt
      have he2 : ((2 : Int) != 0) = true := rfl
      simp (maxSteps := 2000000) (discharger := omega) only [xc,xo,xr,x0,x1,x3,xd,kont_call,slOk,sliceV,Reg.isA,Reg.isV,Reg.stays,Reg.onto,Bool.or_false,Bool.and_false,↓reduceIte,reduceCtorEq,Nat.reduceEqDiff,Nat.reduceLT,Nat.zero_add,Nat.not_lt_zero,Bool.false_eq_true,Option.map_some,Option.getD_none,and_self,and_true,List.any_nil,List.any_cons,Int.toNat_natCast,Int.natCast_nonneg,Option.some.injEq,exists_eq_left',List.getElem?_cons_zero,List.getElem?_cons_succ,r1,he,he2,hkl,ht,Int.le_refl,r2,hlt,rdTAV]
    · have r2 := c92o (tot := tot) (ω := ω) (n := n) m (s.drop k) h (by omega) (by omega)
      have hml : m ≤ s.length := by simp at hlt; omega
      simp (maxSteps := 2000000) (discharger := omega) only [xc,xo,xr,x0,x1,x3,xd,kont_call,slOk,sliceV,Reg.isA,Reg.isV,Reg.stays,Reg.onto,Bool.or_false,Bool.and_false,↓reduceIte,reduceCtorEq,Nat.reduceEqDiff,Nat.reduceLT,Nat.zero_add,Nat.not_lt_zero,Bool.false_eq_true,Option.map_some,Option.getD_none,and_self,and_true,List.any_nil,List.any_cons,Int.toNat_natCast,Int.natCast_nonneg,Option.some.injEq,exists_eq_left',List.getElem?_cons_zero,List.getElem?_cons_succ,wrap_i64,r1,he,hkl,ht,Int.le_refl,r2,hlt,rdTAV]
      rfl

end Go.Proofs.YtpgmohjmpaifbaaDoor.Im

/- S21Inv: numbers and texts: what was written is read, and what was read was so written. -/
set_option linter.unusedVariables false
set_option linter.unusedSimpArgs false
open Go Go.Im
namespace Go.Proofs.YtpgmohjmpaifbaaDoor.Im

theorem toNat_of {n : Nat} (h : n ≤ 255) : (UInt8.ofNat n).toNat = n := by
  rw [UInt8.toNat_ofNat']; omega
theorem of_toNat (c : UInt8) : UInt8.ofNat c.toNat = c := by simp

theorem dec_hi (r : List UInt8) : ∀ (z : Nat), z ≤ 144115188075855871 → ∀ r, dec 0 0 (hi z ++ r) = dec z (hi z).length r := by
  intro z
  induction z using Nat.strongRecOn with
  | ind z ih =>
    intro hz r
    by_cases h0 : 0 < z
    · have := ih (z / 64) (by omega) (by omega) (UInt8.ofNat (z % 64) :: r)
      rw [hi_pos h0, List.append_assoc, List.singleton_append, this]
      have h1 : 64 * (z / 64) + z % 64 = z := by omega
      have h2 : (hi (z / 64)).length = 0 → z / 64 = 0 := by
        intro h
        by_cases h3 : 0 < z / 64
        · rw [hi_pos h3] at h; simp at h
        · omega
      conv => lhs; unfold dec
      rw [toNat_of (by omega), if_neg (by omega), if_neg (by omega)]
      rw [show z % 64 % 64 = z % 64 by omega, h1]
      simp
    · obtain rfl : z = 0 := by omega
      rw [hi_zero]; rfl

theorem dec_enc (x m : Nat) (hx : x ≤ 9223372036854775807) (hm : m = 64 ∨ m = 128) (r : List UInt8) : dec 0 0 (enc x m ++ r) = .ok x (decide (m = 128)) (enc x m).length := by
  unfold enc
  rw [List.append_assoc, dec_hi r _ (by omega), List.singleton_append]
  conv => lhs; unfold dec
  rw [toNat_of (by omega), if_neg (by omega), if_pos (by omega)]
  have h1 : 64 * (x / 64) + (m + x % 64) % 64 = x := by omega
  rw [h1]
  have h2 : decide (127 < m + x % 64) = decide (m = 128) := by
    rcases hm with rfl | rfl
    · simp; omega
    · simp; omega
  rw [h2]
  simp

theorem rdC_enc {n : Nat} (h2 : n ≤ 9223372036854775807) (r : List UInt8) : rdC (enc n 64 ++ r) = .ok n (enc n 64).length := by
  unfold rdC
  rw [dec_enc _ _ h2 (.inl rfl)]
  simp
theorem rdT_enc {s : List UInt8} (h : s.length ≤ 9223372036854775807) (r : List UInt8) : rdT (encT s ++ r) = .ok s (encT s).length := by
  unfold rdT encT
  rw [List.append_assoc, rdC_enc h]
  simp

theorem drop_app (a b : List UInt8) : (a ++ b).drop a.length = b := by simp

theorem dec_inv {v k : Nat} {b : Bool} : ∀ {s : List UInt8} {x i : Nat}, (hi x).length = i → dec x i s = .ok v b k → hi x ++ s.take (k - i) = enc v (if b then 128 else 64)
  | [], x, i, hi0, h => by unfold dec at h; cases h
  | c :: s, x, i, hi0, h => by
    have hc := c.toNat_lt
    unfold dec at h
    split at h
    · cases h
    · rename_i h1
      split at h
      · simp only [NR.ok.injEq] at h
        obtain ⟨rfl, rfl, rfl⟩ := h
        rw [show i + 1 - i = 1 by omega]
        unfold enc
        rw [show (64 * x + c.toNat % 64) / 64 = x by omega, show (64 * x + c.toNat % 64) % 64 = c.toNat % 64 by omega]
        congr 1
        simp only [List.take_succ_cons,List.take_zero,List.cons.injEq,and_true]
        by_cases h2 : 127 < c.toNat
        · rw [decide_eq_true h2, if_pos rfl, show 128 + c.toNat % 64 = c.toNat by omega, of_toNat]
        · rw [decide_eq_false h2, if_neg (by simp), show 64 + c.toNat % 64 = c.toNat by omega, of_toNat]
      · have hk := dec_ok h
        have hpos : 0 < 64 * x + c.toNat % 64 := by
          by_cases hx : 0 < x
          · omega
          · obtain rfl : x = 0 := by omega
            rw [hi_zero] at hi0
            simp at hi0
            omega
        have hh : hi (64 * x + c.toNat % 64) = hi x ++ [c] := by
          rw [hi_pos hpos, show (64 * x + c.toNat % 64) / 64 = x by omega, show (64 * x + c.toNat % 64) % 64 = c.toNat by omega, of_toNat]
        have := dec_inv (by rw [hh]; simp [hi0]) h
        rw [hh] at this
        rw [← this, show k - i = (k - (i + 1)) + 1 by omega]
        simp

theorem rdC_inv {s : List UInt8} {n k : Nat} (h : rdC s = .ok n k) : s = enc n 64 ++ s.drop k := by
  have h1 := rdC_ok h
  have h3 := dec_inv (by rw [hi_zero]; rfl) h1
  rw [hi_zero, List.nil_append, Nat.sub_zero] at h3
  simp only [Bool.false_eq_true,if_false] at h3
  rw [← h3, List.take_append_drop]

theorem rdT_inv {s t : List UInt8} {k : Nat} (h : rdT s = .ok t k) : s = encT t ++ s.drop k ∧ t.length ≤ s.length := by
  unfold rdT at h
  split at h
  · cases h
  · rename_i n k' hc
    split at h
    · cases h
    · rename_i hlt
      cases h
      have h1 := rdC_inv hc
      have hl : ((s.drop k').take n).length = n := by rw [List.length_take]; omega
      refine ⟨?_, by rw [hl]; rw [List.length_drop] at hlt; omega⟩
      unfold encT
      rw [hl, List.append_assoc, ← List.drop_drop, List.take_append_drop]
      exact h1

end Go.Proofs.YtpgmohjmpaifbaaDoor.Im

/- S21P0: what is a path. -/
set_option linter.unusedVariables false
set_option linter.unusedSimpArgs false
open Go Go.Im
namespace Go.Proofs.YtpgmohjmpaifbaaDoor.Im

abbrev By := List UInt8

/-! ### what is a path -/
def goodC (c : UInt8) : Bool := decide (32 < c.toNat ∧ c.toNat < 127)
def slashOk : Bool → By → Bool
  | pv, [] => !pv
  | pv, c :: cs => if c = 47 then !pv && slashOk true cs else slashOk false cs
def pathB (s : By) : Bool := decide (s.length ≤ 64) && (slashOk true s && s.all goodC)


theorem hg0 (h l : Hp) : (h ++ l)[h.length]? = l[0]? := by
  rw [List.getElem?_append_right (Nat.le_refl _), Nat.sub_self]
theorem hgk (h l : Hp) (k : Nat) : (h ++ l)[h.length + k]? = l[k]? := by
  rw [List.getElem?_append_right (by omega)]; congr 1; omega
theorem hs0 (h l : Hp) (o : AO) : (h ++ l).set h.length o = h ++ l.set 0 o := by
  rw [List.set_append_right _ _ (Nat.le_refl _), Nat.sub_self]
theorem hsk (h l : Hp) (k : Nat) (o : AO) : (h ++ l).set (h.length + k) o = h ++ l.set k o := by
  rw [List.set_append_right _ _ (by omega)]; congr 2; omega

theorem all_bad {s : By} {i : Nat} (hi : i < s.length) (hb : goodC s[i] = false) : s.all goodC = false := by
  rw [List.all_eq_false]
  exact ⟨s[i], List.getElem_mem hi, by simp [hb]⟩

end Go.Proofs.YtpgmohjmpaifbaaDoor.Im

/- S21Pb: the reference's paths; which paths go together. -/
set_option linter.unusedVariables false
set_option linter.unusedSimpArgs false
open Go Go.Im
namespace Go.Proofs.YtpgmohjmpaifbaaDoor.Im
section
variable {n : Nat} {tot : Bool} {ω : Nat → Nat} {h : Hp}

theorem u8_47 (c : UInt8) : (((c.toNat : Nat) : Int) = 47) = (c = 47) := by
  apply propext
  constructor
  · intro h
    apply UInt8.toNat_inj.1
    show c.toNat = 47
    omega
  · rintro rfl; rfl

theorem c13 (s : By) (hs : s.length ≤ 9223372036854775807) (hn : 70 < n) : call F n tot ω 13 [.str s] h = some (.bool (pathB s), h) := by
  obtain ⟨n, rfl⟩ : ∃ m, n = m + 1 := ⟨n - 1, by omega⟩
  refine call_eq (fn := a13) f13 ?_
  unfold a13
  by_cases h0 : s.length < 1
  · have hp : pathB s = false := by
      have : s = [] := List.length_eq_zero_iff.1 (by omega)
      subst this; rfl
    simp (maxSteps := 2000000) (discharger := omega) only [xz,xc,xo,xr,x0,x1,x4,xd,xb,Reg.isA,Reg.isV,Reg.stays,Reg.onto,↓reduceIte,reduceCtorEq,Nat.reduceEqDiff,Nat.reduceLT,exists_eq_left',int_lt_t,hp]
  · by_cases hl : s.length ≤ 64
    · simp (maxSteps := 2000000) (discharger := omega) only [xz,xc,xo,xr,x0,x1,x4,xd,Reg.isA,Reg.isV,Reg.stays,Reg.onto,↓reduceIte,reduceCtorEq,Nat.reduceEqDiff,Nat.reduceLT,beq_self_eq_true,int_lt_f]
      refine wpi_loop (fun x r g' => ∃ (i : Nat) (l : UInt8), r = [(0, .val (.str s)), (3, .val (.int .u8 (l.toNat : Nat))), (4, .val (.int .i64 i))] ∧ x = s.length - i ∧ i ≤ s.length ∧ g' = h ∧ (s.take i).all goodC = true ∧ slashOk true s = slashOk (decide (l = 47)) (s.drop i)) s.length (by omega)
        ⟨0, 47, rfl, rfl, Nat.zero_le _, rfl, rfl, rfl⟩ ?_
      rintro x r g' ⟨i, l, rfl, rfl, hi, rfl, hg, hsl⟩
      by_cases hlt : i < s.length
      · have qb : s[i]? = some s[i] := List.getElem?_eq_getElem hlt
        have hd : s.drop i = s[i] :: s.drop (i + 1) := List.drop_eq_getElem_cons hlt
        rw [hd] at hsl
        by_cases h1 : ((s[i].toNat : Nat) : Int) ≤ 32
        · have hp : pathB s = false := by
            unfold pathB
            rw [show s.all goodC = false from all_bad hlt (by simp [goodC]; omega)]; simp
          simp (maxSteps := 2000000) (discharger := omega) only [xz,xc,xo,xr,x0,x1,x4,xd,xb,Reg.isA,Reg.isV,Reg.stays,Reg.onto,↓reduceIte,reduceCtorEq,Nat.reduceEqDiff,Nat.reduceLT,exists_eq_left',int_lt_t,int_le_t,qb,hp]
        · by_cases h2 : ((s[i].toNat : Nat) : Int) ≥ 127
          · have hp : pathB s = false := by
              unfold pathB
              rw [show s.all goodC = false from all_bad hlt (by simp [goodC]; omega)]; simp
            simp (maxSteps := 2000000) (discharger := omega) only [xz,xc,xo,xr,x0,x1,x4,xd,xb,Reg.isA,Reg.isV,Reg.stays,Reg.onto,↓reduceIte,reduceCtorEq,Nat.reduceEqDiff,Nat.reduceLT,beq_self_eq_true,exists_eq_left',int_lt_t,int_le_t,int_le_f,qb,hp]
          · have hg' : (s.take (i + 1)).all goodC = true := by
              rw [List.take_succ_eq_append_getElem hlt, List.all_append, hg]
              simp [goodC]; omega
            by_cases h3 : ((s[i].toNat : Nat) : Int) = 47
            · have h3' : s[i] = 47 := by rwa [u8_47] at h3
              by_cases h4 : ((l.toNat : Nat) : Int) = 47
              · have h4' : l = 47 := by rwa [u8_47] at h4
                have hp : pathB s = false := by
                  unfold pathB
                  rw [hsl]; simp [slashOk,h3',h4']
                simp (maxSteps := 2000000) (discharger := omega) only [xz,xc,xo,xr,x0,x1,x4,xd,Reg.isA,Reg.isV,Reg.stays,Reg.onto,↓reduceIte,reduceCtorEq,Nat.reduceEqDiff,Nat.reduceLT,beq_self_eq_true,exists_eq_left',int_lt_t,int_le_t,int_le_f,int_beq_t,qb,hp]
              · have h4' : ¬ l = 47 := by rwa [u8_47] at h4
                simp (maxSteps := 2000000) (discharger := omega) only [xz,xc,xo,xr,x0,x1,x4,xd,Reg.isA,Reg.isV,Reg.stays,Reg.onto,↓reduceIte,reduceCtorEq,Nat.reduceEqDiff,Nat.reduceLT,beq_self_eq_true,wrap_i64,int_lt_t,int_le_t,int_le_f,int_beq_t,int_beq_f,qb]
                exact ⟨s.length - (i + 1), by omega, i + 1, s[i], by rw [show ((i : Nat) : Int) + 1 = ((i + 1 : Nat) : Int) by omega], rfl, by omega, hg', by rw [hsl]; simp [slashOk,h3',h4']⟩
            · have h3' : ¬ s[i] = 47 := by rwa [u8_47] at h3
              simp (maxSteps := 2000000) (discharger := omega) only [xz,xc,xo,xr,x0,x1,x4,xd,xb,Reg.isA,Reg.isV,Reg.stays,Reg.onto,↓reduceIte,reduceCtorEq,Nat.reduceEqDiff,Nat.reduceLT,beq_self_eq_true,wrap_i64,int_lt_t,int_le_t,int_le_f,int_beq_f,qb]
              exact ⟨s.length - (i + 1), by omega, i + 1, s[i], by rw [show ((i : Nat) : Int) + 1 = ((i + 1 : Nat) : Int) by omega], rfl, by omega, hg', by rw [hsl]; simp [slashOk,h3']⟩
      · obtain rfl : i = s.length := by omega
        rw [List.take_length] at hg
        rw [List.drop_length] at hsl
        by_cases h4 : ((l.toNat : Nat) : Int) = 47
        · have h4' : l = 47 := by rwa [u8_47] at h4
          have hp : pathB s = false := by unfold pathB; rw [hsl]; simp [slashOk,h4']
          simp (maxSteps := 2000000) (discharger := omega) only [xz,xc,xo,xr,x0,x1,x4,xd,Reg.isA,Reg.isV,Reg.stays,Reg.onto,↓reduceIte,reduceCtorEq,Nat.reduceEqDiff,Nat.reduceLT,exists_eq_left',int_lt_f,int_bne_f,Nat.sub_self,hp]
        · have h4' : ¬ l = 47 := by rwa [u8_47] at h4
          have hp : pathB s = true := by unfold pathB; rw [hsl, hg]; simp [slashOk,h4',hl]
          simp (maxSteps := 2000000) (discharger := omega) only [xz,xc,xo,xr,x0,x1,x4,xd,Reg.isA,Reg.isV,Reg.stays,Reg.onto,↓reduceIte,reduceCtorEq,Nat.reduceEqDiff,Nat.reduceLT,exists_eq_left',int_lt_f,int_bne_t,Nat.sub_self,hp]
    · have hp : pathB s = false := by unfold pathB; simp [hl]
      simp (maxSteps := 2000000) (discharger := omega) only [xz,xc,xo,xr,x0,x1,x4,xd,Reg.isA,Reg.isV,Reg.stays,Reg.onto,↓reduceIte,reduceCtorEq,Nat.reduceEqDiff,Nat.reduceLT,beq_self_eq_true,exists_eq_left',int_lt_t,int_lt_f,hp]
end
end Go.Proofs.YtpgmohjmpaifbaaDoor.Im

/- S21Pc: which rising paths may be in one snapshot. -/
set_option linter.unusedVariables false
set_option linter.unusedSimpArgs false
open Go Go.Im
namespace Go.Proofs.YtpgmohjmpaifbaaDoor.Im

def IsRd (sz : Nat) (es : List AV) (v : AV) : Prop := (v = .nils ∧ es = []) ∨ ∃ c, v = .imm sz es c
theorem IsRd.len {sz : Nat} {es : List AV} {v : AV} (h : IsRd sz es v) : lenSl v = some es.length := by
  rcases h with ⟨rfl, rfl⟩ | ⟨c, rfl⟩ <;> rfl
theorem IsRd.imm {sz : Nat} {es : List AV} {v : AV} {i : Nat} (h : IsRd sz es v) (hi : i < es.length) : ∃ c, v = .imm sz es c := by
  rcases h with ⟨rfl, rfl⟩ | ⟨c, rfl⟩
  · exact absurd hi (Nat.not_lt_zero _)
  · exact ⟨c, rfl⟩
theorem isRd_app {sz : Nat} {es : List AV} {h : Hp} {v : AV} (hv : IsApp sz es h v) : IsRd sz es v := by
  rcases hv with h | h | ⟨id, h, _⟩
  · exact .inl h
  · exact .inr ⟨_, h⟩
  · exact .inr ⟨_, h⟩
/-! ### texts -/
theorem bl_irrefl : ∀ (a : List UInt8), Op.bytesLess a a = false
  | [] => rfl
  | a :: l => by simp [Op.bytesLess,bl_irrefl l]
theorem bl_trans : ∀ (a b c : List UInt8), Op.bytesLess a b = true → Op.bytesLess b c = true → Op.bytesLess a c = true
  | a, b, [], _, h => by cases b <;> simp [Op.bytesLess] at h
  | a, [], c :: cs, h, _ => by cases a <;> simp [Op.bytesLess] at h
  | [], b :: bs, c :: cs, _, _ => rfl
  | a :: aq, b :: bs, c :: cs, h1, h2 => by
    simp only [Op.bytesLess,Bool.or_eq_true,Bool.and_eq_true,decide_eq_true_eq,beq_iff_eq] at *
    rcases h1 with h1 | ⟨rfl, h1⟩
    · rcases h2 with h2 | ⟨rfl, h2⟩
      · left; exact UInt8.lt_trans h1 h2
      · left; exact h1
    · rcases h2 with h2 | ⟨rfl, h2⟩
      · left; exact h2
      · right; exact ⟨rfl, bl_trans aq bs cs h1 h2⟩
theorem bl_tri : ∀ (a b : List UInt8), Op.bytesLess a b = false → Op.bytesLess b a = false → a = b
  | [], [], _, _ => rfl
  | [], b :: bs, h, _ => by simp [Op.bytesLess] at h
  | a :: aq, [], _, h => by simp [Op.bytesLess] at h
  | a :: aq, b :: bs, h1, h2 => by
    simp only [Op.bytesLess,Bool.or_eq_false_iff,decide_eq_false_iff_not,Bool.and_eq_false_imp,beq_iff_eq] at h1 h2
    have hab : a = b := by
      have k1 := h1.1; have k2 := h2.1
      rw [UInt8.lt_iff_toNat_lt] at k1 k2
      exact UInt8.toNat_inj.1 (by omega)
    subst hab
    rw [bl_tri aq bs (h1.2 rfl) (h2.2 rfl)]
theorem bl_ntrans (a b c : List UInt8) (h1 : Op.bytesLess a b = false) (h2 : Op.bytesLess b c = false) : Op.bytesLess a c = false := by
  cases h : Op.bytesLess a c with
  | false => rfl
  | true =>
    cases h3 : Op.bytesLess b a with
    | true => rw [bl_trans b a c h3 h] at h2; cases h2
    | false => rw [bl_tri a b h1 h3] at h; rw [h] at h2; cases h2
/-! ### paths together -/
def Under (p q : By) : Prop := q.length < p.length ∧ p.take (q.length + 1) = q ++ [47]
structure Rising (l : List By) : Prop where
  few : l.length ≤ 64
  path : ∀ p ∈ l, pathB p = true
  rise : ∀ j k (hj : j < l.length) (hk : k < l.length), j < k → Op.bytesLess l[j] l[k] = true
  apart : ∀ p ∈ l, ∀ q ∈ l, ¬ Under p q

theorem under_iff {p q : By} : Under p q ↔ ∃ h : q.length < p.length, p[q.length] = 47 ∧ p.take q.length = q := by
  constructor
  · rintro ⟨h, e⟩
    refine ⟨h, ?_, ?_⟩
    · have := congrArg (·[q.length]?) e
      simpa [List.getElem?_take, h] using this
    · have := congrArg (List.take q.length) e
      simpa [List.take_take] using this
  · rintro ⟨h, h1, h2⟩
    exact ⟨h, by rw [List.take_succ_eq_append_getElem h, h1, h2]⟩

theorem key_str : KeyEnc (κ := By) false [CK.s] AV.str := ⟨fun a b => by simp only [eqAV,eqS]; congr 1; by_cases e : a = b <;> simp [e], fun a => rfl⟩

theorem path_len {p : By} (h : pathB p = true) : p.length ≤ 64 := by
  unfold pathB at h
  simp only [Bool.and_eq_true,decide_eq_true_eq] at h
  exact h.1

end Go.Proofs.YtpgmohjmpaifbaaDoor.Im

/- S21Cu: the reference's cutting of bytes. -/
set_option linter.unusedVariables false
set_option linter.unusedSimpArgs false
open Go Go.Im
namespace Go.Proofs.YtpgmohjmpaifbaaDoor.Im

def sumR (s : By) (i : Nat) : Nat := ((s.take (i + 1)).drop (i - 15)).foldl (fun x b => (x * 31 + b.toNat + 1) % 4294967296) 0

section
variable {n : Nat} {tot : Bool} {ω : Nat → Nat} {h : Hp}

theorem fold_lt (l : By) : ∀ x : Nat, x < 4294967296 → l.foldl (fun x b => (x * 31 + b.toNat + 1) % 4294967296) x < 4294967296 := by
  induction l with
  | nil => intro x hx; exact hx
  | cons b l ih => intro x hx; exact ih _ (Nat.mod_lt _ (by decide))
theorem sumR_lt (s : By) (i : Nat) : sumR s i < 4294967296 := fold_lt _ 0 (by decide)

theorem c82 (s : By) (a : Nat) (ha : a < s.length) (hs : s.length ≤ 1000000000) (hn : 20 < n) : call F n tot ω 82 [.str s, .int .i64 a] h = some (.int .i64 (sumR s a : Nat), h) := by
  obtain ⟨n, rfl⟩ : ∃ m, n = m + 1 := ⟨n - 1, by omega⟩
  refine call_eq (fn := a82) f82 ?_
  unfold a82
  simp (maxSteps := 2000000) (discharger := omega) only [xz,xc,xo,xr,x0,x1,xd,Reg.isA,Reg.isV,Reg.stays,Reg.onto,↓reduceIte,reduceCtorEq,Nat.reduceEqDiff,Nat.reduceLT,Nat.reduceAdd,wrap_i64]
  refine wpi_loop (fun x r g' => ∃ (i : Int), r = [(0, .val (.str s)), (1, .val (.int .i64 a)), (5, .val (.int .i64 (((s.take i.toNat).drop (a - 15)).foldl (fun x b => (x * 31 + b.toNat + 1) % 4294967296) 0 : Nat))), (6, .val (.int .i64 i))] ∧ x = (a + 1 - i).toNat ∧ (a : Int) - 15 ≤ i ∧ i ≤ a + 1 ∧ g' = h) 16 (by omega)
    ⟨(a : Int) - 15, ?_, by omega, by omega, by omega, rfl⟩ ?_
  · have : (s.take ((a : Int) - 15).toNat).drop (a - 15) = [] := by
      rw [List.drop_eq_nil_iff, List.length_take]; omega
    rw [this]; rfl
  rintro x r g' ⟨i, rfl, rfl, hi1, hi2, rfl⟩
  by_cases hle : i ≤ a
  · by_cases h0 : i ≥ 0
    · obtain ⟨j, rfl⟩ : ∃ j : Nat, i = (j : Int) := ⟨i.toNat, by omega⟩
      have hj : j < s.length := by omega
      have q1 : s[j]? = some s[j] := List.getElem?_eq_getElem hj
      have hx := fold_lt ((s.take j).drop (a - 15)) 0 (by decide)
      have hb : s[j].toNat < 256 := s[j].toNat_lt
      have e : ((s.take (j + 1)).drop (a - 15)).foldl (fun x b => (x * 31 + b.toNat + 1) % 4294967296) 0 = (((s.take j).drop (a - 15)).foldl (fun x b => (x * 31 + b.toNat + 1) % 4294967296) 0 * 31 + s[j].toNat + 1) % 4294967296 := by
        rw [List.take_succ_eq_append_getElem hj, List.drop_append_of_le_length (by rw [List.length_take]; omega), List.foldl_append]; rfl
      simp only [Int.toNat_natCast]
      generalize ((s.take j).drop (a - 15)).foldl (fun x b => (x * 31 + b.toNat + 1) % 4294967296) 0 = y at hx e
      simp (maxSteps := 2000000) (discharger := omega) only [xz,xc,xo,xr,x0,x1,x2,xd,Reg.isA,Reg.isV,Reg.stays,Reg.onto,↓reduceIte,reduceCtorEq,Nat.reduceEqDiff,Nat.reduceLT,wrap_i64,int_le_t,int_eq_f,q1,tmod_pos]
      refine ⟨((a : Int) + 1 - ((j : Int) + 1)).toNat, by omega, (j : Int) + 1, ?_, rfl, by omega, by omega⟩
      rw [show ((j : Int) + 1).toNat = j + 1 by omega, e]
      congr 3
    · simp (maxSteps := 2000000) (discharger := omega) only [xz,xc,xo,xr,x0,x1,xd,Reg.isA,Reg.isV,Reg.stays,Reg.onto,↓reduceIte,reduceCtorEq,Nat.reduceEqDiff,Nat.reduceLT,wrap_i64,int_le_t,int_le_f]
      refine ⟨((a : Int) + 1 - (i + 1)).toNat, by omega, i + 1, ?_, rfl, by omega, by omega⟩
      rw [show (i + 1).toNat = 0 by omega, show i.toNat = 0 by omega]
  · obtain rfl : i = (a : Int) + 1 := by omega
    simp (maxSteps := 2000000) (discharger := omega) only [xz,xc,xo,xr,x0,x1,xd,Reg.isA,Reg.isV,Reg.stays,Reg.onto,↓reduceIte,reduceCtorEq,Nat.reduceEqDiff,Nat.reduceLT,exists_eq_left',int_le_f]
    rw [show ((a : Int) + 1).toNat = a + 1 by omega]; rfl

def cutSt (l m M : Int) (s : By) : Nat → Nat × List Nat
  | 0 => (0, [])
  | i + 1 => if ((cutSt l m M s i).1 + 1 : Int) = M ∨ ((cutSt l m M s i).1 + 1 : Int) ≥ l ∧ ((sumR s i : Nat) : Int) % m = m - 1 then (0, (cutSt l m M s i).2 ++ [(cutSt l m M s i).1 + 1]) else ((cutSt l m M s i).1 + 1, (cutSt l m M s i).2)
def cutR (l m M : Int) (s : By) : List Nat := if (cutSt l m M s s.length).1 > 0 then (cutSt l m M s s.length).2 ++ [(cutSt l m M s s.length).1] else (cutSt l m M s s.length).2

theorem cutSt_sum (l m M : Int) (s : By) : ∀ i, (cutSt l m M s i).2.sum + (cutSt l m M s i).1 = i ∧ (∀ x ∈ (cutSt l m M s i).2, 1 ≤ x) ∧ (cutSt l m M s i).2.length + (cutSt l m M s i).1 ≤ i
  | 0 => ⟨rfl, by simp [cutSt], Nat.le_refl _⟩
  | i + 1 => by
    obtain ⟨h1, h2, h3⟩ := cutSt_sum l m M s i
    unfold cutSt
    split
    · refine ⟨by simp; omega, fun x hx => ?_, by simp; omega⟩
      rcases List.mem_append.1 hx with hx | hx
      · exact h2 x hx
      · rw [List.mem_singleton] at hx; omega
    · exact ⟨by simp only; omega, h2, by simp only; omega⟩
theorem cutR_sum (l m M : Int) (s : By) : (cutR l m M s).sum = s.length ∧ (∀ x ∈ cutR l m M s, 1 ≤ x) ∧ (cutR l m M s).length ≤ s.length := by
  obtain ⟨h1, h2, h3⟩ := cutSt_sum l m M s s.length
  unfold cutR
  split
  · rename_i hp
    refine ⟨by simp; omega, fun x hx => ?_, by simp; omega⟩
    rcases List.mem_append.1 hx with hx | hx
    · exact h2 x hx
    · rw [List.mem_singleton] at hx; omega
  · exact ⟨by omega, h2, by omega⟩

def nsOf (l : List Nat) : List AV := l.map fun x => .int .i64 (x : Nat)

structure Cf (c : AV) (l m M : Int) : Prop where
  agg : ∃ cs, c = .agg cs ∧ cs.length = 12 ∧ cs[8]? = some (.int .i64 l) ∧ cs[9]? = some (.int .i64 m) ∧ cs[10]? = some (.int .i64 M)

def Below (lo : Nat) (h h' : Hp) : Prop := h.length ≤ h'.length ∧ ∀ i, i < lo → h'[i]? = h[i]?
theorem Below.refl (lo : Nat) (h : Hp) : Below lo h h := ⟨Nat.le_refl _, fun _ _ => rfl⟩
theorem Below.trans {lo : Nat} {a b c : Hp} (x : Below lo a b) (y : Below lo b c) : Below lo a c := ⟨Nat.le_trans x.1 y.1, fun i hi => (y.2 i hi).trans (x.2 i hi)⟩
theorem Below.low {lo lo' : Nat} {a b : Hp} (x : Below lo a b) (hl : lo' ≤ lo) : Below lo' a b := ⟨x.1, fun i hi => x.2 i (by omega)⟩
theorem Below.app (lo : Nat) (h m : Hp) (hl : lo ≤ h.length) : Below lo h (h ++ m) := ⟨by simp, fun i hi => List.getElem?_append_left (by omega)⟩

def LateApp (lo sz : Nat) (es : List AV) (h : Hp) (v : AV) : Prop := IsApp sz es h v ∧ ∀ id c, v = .imm sz es (.tok id c) → lo ≤ id
theorem late_app {lo sz bytes : Nat} {es xs : List AV} {h : Hp} {v : AV} (hv : LateApp lo sz es h v) (hlo : lo ≤ h.length) (hx : xs ≠ []) (hb : (es.length + xs.length) * bytes ≤ 140737488355328) :
    ∃ v' h', appendV false sz bytes v xs h = some (v', h') ∧ LateApp lo sz (es ++ xs) h' v' ∧ Below lo h h' := by
  obtain ⟨v', h', w1, w2, w3, w4, w5, c, w6⟩ := app_ok (bytes := bytes) hv.1 hx hb
  refine ⟨v', h', w1, ⟨w2, fun id c' e => ?_⟩, w4, fun i hi => ?_⟩
  · rw [w6] at e; cases e; exact hlo
  · have hlt : i < h.length := by omega
    have e : h[i]? = some h[i] := List.getElem?_eq_getElem hlt
    by_cases ht : ∃ c, v = .imm sz es (.tok i c)
    · obtain ⟨c', hc⟩ := ht
      have := hv.2 i c' hc
      omega
    · rw [e]; exact w5 i _ e fun c' hc => ht ⟨c', hc⟩
theorem late_nils (lo sz : Nat) (h : Hp) : LateApp lo sz [] h .nils := ⟨.nils _ _, fun _ _ e => by cases e⟩
theorem LateApp.keep {lo sz : Nat} {es : List AV} {h h' : Hp} {v : AV} (hv : LateApp lo sz es h v) (hk : ∀ (i : Nat) (o : AO), h[i]? = some o → h'[i]? = some o) : LateApp lo sz es h' v := by
  refine ⟨?_, hv.2⟩
  rcases hv.1 with h | h | ⟨id, h, e⟩
  · exact .inl h
  · exact .inr (.inl h)
  · exact .inr (.inr ⟨id, h, hk _ _ e⟩)
theorem LateApp.belw {lo lo' sz : Nat} {es : List AV} {h h' : Hp} {v : AV} (hv : LateApp lo sz es h v) (hk : Below h.length h h') : LateApp lo sz es h' v :=
  hv.keep fun i o e => by rw [hk.2 i (List.getElem?_eq_some_iff.1 e).1]; exact e

theorem c52 (c : AV) (l m M : Int) (s : By) (hc : Cf c l m M) (hm : 1 ≤ m) (hm2 : m ≤ 1000000000) (hs : s.length ≤ 1000000000) (hn : s.length + 30 < n) :
    ∃ v h', call F n tot ω 52 [c, .str s] h = some (v, h') ∧ IsRd 1 (nsOf (cutR l m M s)) v ∧ Below h.length h h' := by
  obtain ⟨n, rfl⟩ : ∃ m, n = m + 1 := ⟨n - 1, by omega⟩
  refine call_of (fn := a52) f52 (P := fun v h' => IsRd 1 (nsOf (cutR l m M s)) v ∧ Below h.length h h') ?_
  obtain ⟨cs, rfl, hl, h8, h9, h10⟩ := hc.agg
  unfold a52
  simp (maxSteps := 2000000) (discharger := omega) only [xz,xc,xo,xr,x0,xd,Reg.isA,Reg.isV,Reg.stays,Reg.onto,↓reduceIte,reduceCtorEq,Nat.reduceEqDiff,Nat.reduceLT,Nat.reduceAdd,hl]
  refine wpi_loop (fun x r g' => ∃ (i : Nat) (lv : AV), r = [(1, .val (.str s)), (2, .var (.agg cs)), (5, .val lv), (6, .val (.int .i64 ((cutSt l m M s i).1 : Nat))), (7, .val (.int .i64 i))] ∧ x = s.length - i ∧ i ≤ s.length ∧ LateApp h.length 1 (nsOf (cutSt l m M s i).2) g' lv ∧ Below h.length h g') s.length (by omega)
    ⟨0, .nils, rfl, rfl, Nat.zero_le _, late_nils _ _ _, .refl _ _⟩ ?_
  rintro x r g' ⟨i, lv, rfl, rfl, hi, hA, hB⟩
  obtain ⟨b1, b2, b3⟩ := cutSt_sum l m M s i
  by_cases hlt : i < s.length
  · have k82 := fun h => c82 (n := n) (tot := tot) (ω := ω) (h := h) s i hlt hs (by omega)
    have hsr := sumR_lt s i
    have hst : cutSt l m M s (i + 1) = if ((cutSt l m M s i).1 + 1 : Int) = M ∨ ((cutSt l m M s i).1 + 1 : Int) ≥ l ∧ ((sumR s i : Nat) : Int) % m = m - 1 then (0, (cutSt l m M s i).2 ++ [(cutSt l m M s i).1 + 1]) else ((cutSt l m M s i).1 + 1, (cutSt l m M s i).2) := rfl
    obtain ⟨lv', h2, w1, w2, w3⟩ := late_app (bytes := 8) (xs := [.int .i64 (((cutSt l m M s i).1 : Nat) + 1 : Int)]) hA hB.1 (by simp) (by simp [nsOf]; omega)
    have w2' : LateApp h.length 1 (nsOf ((cutSt l m M s i).2 ++ [(cutSt l m M s i).1 + 1])) h2 lv' := by
      unfold nsOf at w2 ⊢
      rw [List.map_append]; exact w2
    generalize cutSt l m M s i = st at *
    obtain ⟨nn, out⟩ := st
    simp only at *
    by_cases hM : ((nn : Nat) : Int) + 1 = M
    · rw [if_pos (.inl hM)] at hst
      simp (maxSteps := 2000000) (discharger := omega) only [xz,xc,xo,xr,x0,x1,x3,x4,x5,xd,xb,selems,srcElems,partEs,placeEs,Reg.isA,Reg.isV,Reg.stays,Reg.onto,↓reduceIte,Nat.reduceEqDiff,Nat.reduceLT,Nat.zero_lt_succ,Nat.reduceBEq,List.set_cons_zero,wrap_i64,int_lt_t,int_beq_t,h10,w1,hA.1.isRow,List.replicate]
      exact ⟨s.length - (i + 1), by omega, i + 1, lv', by rw [hst, show ((i : Nat) : Int) + 1 = ((i + 1 : Nat) : Int) by omega]; rfl, rfl, by omega, by rw [hst]; exact w2', hB.trans w3⟩
    · by_cases hge : ((nn : Nat) : Int) + 1 ≥ l
      · by_cases hmd : ((sumR s i : Nat) : Int) % m = m - 1
        · rw [if_pos (.inr ⟨hge, hmd⟩)] at hst
          simp (maxSteps := 2000000) (discharger := omega) only [xz,xc,xo,xr,x0,x1,x3,x4,x5,xd,xb,kont_call,selems,srcElems,partEs,placeEs,Reg.isA,Reg.isV,Reg.stays,Reg.onto,↓reduceIte,Nat.reduceEqDiff,Nat.reduceLT,Nat.zero_lt_succ,beq_self_eq_true,Nat.reduceBEq,List.set_cons_zero,wrap_i64,int_lt_t,int_le_t,int_eq_f,int_beq_t,int_beq_f,h8,h9,h10,k82,tmod_pos,w1,hA.1.isRow,List.replicate]
          exact ⟨s.length - (i + 1), by omega, i + 1, lv', by rw [hst, show ((i : Nat) : Int) + 1 = ((i + 1 : Nat) : Int) by omega]; rfl, rfl, by omega, by rw [hst]; exact w2', hB.trans w3⟩
        · rw [if_neg (by omega)] at hst
          simp (maxSteps := 2000000) (discharger := omega) only [xz,xc,xo,xr,x0,x1,x4,xd,kont_call,Reg.isA,Reg.isV,Reg.stays,Reg.onto,↓reduceIte,Nat.reduceEqDiff,Nat.reduceLT,beq_self_eq_true,Nat.reduceBEq,wrap_i64,int_lt_t,int_le_t,int_eq_f,int_beq_f,h8,h9,h10,k82,tmod_pos]
          exact ⟨s.length - (i + 1), by omega, i + 1, lv, by rw [hst, show ((i : Nat) : Int) + 1 = ((i + 1 : Nat) : Int) by omega]; rfl, rfl, by omega, by rw [hst]; exact hA, hB⟩
      · rw [if_neg (by omega)] at hst
        simp (maxSteps := 2000000) (discharger := omega) only [xz,xc,xo,xr,x0,x1,x4,xd,xb,Reg.isA,Reg.isV,Reg.stays,Reg.onto,↓reduceIte,Nat.reduceEqDiff,Nat.reduceLT,beq_self_eq_true,Nat.reduceBEq,wrap_i64,int_lt_t,int_le_f,int_beq_f,h8,h10]
        exact ⟨s.length - (i + 1), by omega, i + 1, lv, by rw [hst, show ((i : Nat) : Int) + 1 = ((i + 1 : Nat) : Int) by omega]; rfl, rfl, by omega, by rw [hst]; exact hA, hB⟩
  · obtain rfl : i = s.length := by omega
    obtain ⟨lv', h2, w1, w2, w3⟩ := late_app (bytes := 8) (xs := [.int .i64 ((cutSt l m M s s.length).1 : Nat)]) hA hB.1 (by simp) (by simp [nsOf]; omega)
    have w2' : LateApp h.length 1 (nsOf ((cutSt l m M s s.length).2 ++ [(cutSt l m M s s.length).1])) h2 lv' := by
      unfold nsOf at w2 ⊢
      rw [List.map_append]; exact w2
    unfold cutR
    by_cases h0 : (cutSt l m M s s.length).1 > 0
    · rw [if_pos h0]
      simp (maxSteps := 2000000) (discharger := omega) only [xz,xc,xo,xr,x0,x1,x3,x4,x5,xd,xb,selems,srcElems,partEs,placeEs,Reg.isA,Reg.isV,Reg.stays,Reg.onto,↓reduceIte,Nat.reduceEqDiff,Nat.reduceLT,Nat.zero_lt_succ,exists_eq_left',List.set_cons_zero,int_lt_t,int_lt_f,Nat.sub_self,w1,hA.1.isRow,List.replicate]
      exact ⟨isRd_app w2'.1, hB.trans w3⟩
    · rw [if_neg h0]
      simp (maxSteps := 2000000) (discharger := omega) only [xz,xc,xo,xr,x0,x1,x4,xd,Reg.isA,Reg.isV,Reg.stays,Reg.onto,↓reduceIte,Nat.reduceEqDiff,Nat.reduceLT,exists_eq_left',int_lt_f,Nat.sub_self]
      exact ⟨isRd_app hA.1, hB⟩
end
end Go.Proofs.YtpgmohjmpaifbaaDoor.Im

/- S21Cc: chunk's cutter. -/
set_option linter.unusedVariables false
set_option linter.unusedSimpArgs false
open Go Go.Im
namespace Go.Proofs.YtpgmohjmpaifbaaDoor.Im

/-! ### the sum of a window -/
def fv (x : Nat) (b : UInt8) : Nat := x * 31 + b.toNat + 1
/-! ### tokens: slices that are appended to, side by side -/
def TokAt (sz : Nat) (es : List AV) (h : Hp) (v : AV) (tk : Option Nat) : Prop := IsApp sz es h v ∧ ∀ id c, v = .imm sz es (.tok id c) → tk = some id
theorem TokAt.keep {sz : Nat} {es : List AV} {h h' : Hp} {v : AV} {tk : Option Nat} (hv : TokAt sz es h v tk) (hk : ∀ (i : Nat) (o : AO), tk = some i → h[i]? = some o → h'[i]? = some o) : TokAt sz es h' v tk := by
  refine ⟨?_, hv.2⟩
  rcases hv.1 with h | h | ⟨id, h, e⟩
  · exact .inl h
  · exact .inr (.inl h)
  · exact .inr (.inr ⟨id, h, hk _ _ (hv.2 _ _ h) e⟩)
theorem tok_app {sz bytes : Nat} {es xs : List AV} {h : Hp} {v : AV} {tk : Option Nat} (hv : TokAt sz es h v tk) (hx : xs ≠ []) (hb : (es.length + xs.length) * bytes ≤ 140737488355328) :
    ∃ v' h', appendV false sz bytes v xs h = some (v', h') ∧ TokAt sz (es ++ xs) h' v' (some h.length) ∧ h.length < h'.length ∧ (∀ (i : Nat) (o : AO), h[i]? = some o → tk ≠ some i → h'[i]? = some o) ∧ ∃ c, v' = .imm sz (es ++ xs) c := by
  obtain ⟨v', h', w1, w2, w3, w4, w5, c, w6⟩ := app_ok (bytes := bytes) hv.1 hx hb
  refine ⟨v', h', w1, ⟨w2, fun id c' e => ?_⟩, ?_, fun i o ho hne => w5 i o ho fun c' hc => hne (hv.2 _ _ hc), _, w6⟩
  · rw [w6] at e; cases e; rfl
  · rcases w2 with ⟨e, _⟩ | e | ⟨id, e, he⟩
    · rw [w6] at e; cases e
    · rw [w6] at e; cases e
    · rw [w6] at e; cases e
      exact (List.getElem?_eq_some_iff.1 he).1

/-! ### pieces -/
def PE : List By → List AV → Prop
  | [], [] => True
  | p :: ps, v :: vs => (∃ c, v = .imm 1 (bytesOf p) c) ∧ PE ps vs
  | _, _ => False
theorem PE.app : ∀ {ps : List By} {vs : List AV} {p : By} {v : AV}, PE ps vs → (∃ c, v = .imm 1 (bytesOf p) c) → PE (ps ++ [p]) (vs ++ [v])
  | [], [], _, _, _, h => ⟨h, trivial⟩
  | _ :: _, _ :: _, _, _, h, h2 => ⟨h.1, PE.app h.2 h2⟩
  | [], _ :: _, _, _, h, _ => h.elim
  | _ :: _, [], _, _, h, _ => h.elim
theorem PE.len : ∀ {ps : List By} {vs : List AV}, PE ps vs → vs.length = ps.length
  | [], [], _ => rfl
  | _ :: _, _ :: _, h => by simp [PE.len h.2]
  | [], _ :: _, h => h.elim
  | _ :: _, [], h => h.elim
theorem PE.get : ∀ {ps : List By} {vs : List AV} {i : Nat} (hi : i < ps.length), PE ps vs → ∃ c, vs[i]? = some (.imm 1 (bytesOf ps[i]) c)
  | _ :: _, v :: _, 0, _, h => by obtain ⟨c, rfl⟩ := h.1; exact ⟨c, rfl⟩
  | _ :: ps, _ :: _, i + 1, hi, h => by obtain ⟨c, e⟩ := PE.get (i := i) (by simpa using hi) h.2; exact ⟨c, by simpa using e⟩
  | [], [], _, hi, _ => by simp at hi
  | [], _ :: _, _, hi, _ => by simp at hi
  | _ :: _, [], _, _, h => h.elim

def pcs : List Nat → By → List By
  | [], _ => []
  | n :: ns, s => s.take n :: pcs ns (s.drop n)
theorem pcs_len : ∀ (l : List Nat) (s : By), (pcs l s).length = l.length
  | [], _ => rfl
  | _ :: l, s => by simp [pcs,pcs_len l]

/-! ### the cutter -/
section
variable {cs R : List AV} {a b c d x : AV}
end

structure Ring (s : By) (i : Nat) (R : List Int) : Prop where
  len : R.length = 16
  is : ∀ j (hj : j < s.length), j < i → i ≤ j + 16 → R.getD (j % 16) 0 = (s[j].toNat : Nat)
theorem Ring.next {s : By} {i : Nat} {R : List Int} (r : Ring s i R) (hi : i < s.length) : Ring s (i + 1) (R.set (i % 16) (s[i].toNat : Nat)) := by
  refine ⟨by simp [r.len], fun j hj h1 h2 => ?_⟩
  have hm : i % 16 < 16 := Nat.mod_lt _ (by decide)
  have e : (R.set (i % 16) ((s[i].toNat : Nat) : Int)).getD (j % 16) 0 = if j % 16 = i % 16 then ((s[i].toNat : Nat) : Int) else R.getD (j % 16) 0 := by
    by_cases e : j % 16 = i % 16
    · rw [e]; simp [List.getD,r.len,hm]
    · rw [if_neg e]; simp [List.getD,List.getElem?_set_ne (Ne.symm e)]
  rw [e]
  by_cases hji : j = i
  · subst hji; rw [if_pos rfl]
  · rw [if_neg (by omega)]
    exact r.is j hj (by omega) (by omega)

section
variable {n : Nat} {tot : Bool} {ω : Nat → Nat} {h : Hp}

def okConf (l m M : Int) : Prop := 1 ≤ l ∧ 1 ≤ m ∧ m ≤ 65536 ∧ l ≤ M ∧ M ≤ 4096
instance (l m M : Int) : Decidable (okConf l m M) := by unfold okConf; infer_instance

end
end Go.Proofs.YtpgmohjmpaifbaaDoor.Im

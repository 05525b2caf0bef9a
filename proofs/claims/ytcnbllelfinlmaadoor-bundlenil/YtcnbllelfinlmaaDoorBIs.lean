/- Joined: S20Mx, S20Cg, S20Tabs, S20BTabs, S20BIs. -/
import Derived.Test.YtcnbllelfinlmaaDoorG
import Derived.Test.YtcnbllelfinlmaaDoorImX4
import Derived.Test.YtcnbllelfinlmaaDoorImCrc
import Derived.Test.YtcnbllelfinlmaaDoorFns
import Derived.Test.YtcnbllelfinlmaaDoorImExt3
import Derived.Test.YtcnbllelfinlmaaDoorBFns
import Derived.KernelRfl
/- S20Mx: what sha.mixed computes. -/
set_option linter.unusedVariables false
namespace Go.Proofs.YtcnbllelfinlmaaDoor.Im
open Go Go.Im

def rl (x : Int) (s : Nat) : Int := bitsI .or .u32 (IntKind.u32.wrap (x * 2 ^ s)) (x.fdiv (2 ^ (32 - s)))
def add32 (x y : Int) : Int := IntKind.u32.wrap (x + y)
def xor32 (x y : Int) : Int := bitsI .xor .u32 x y
def and32 (x y : Int) : Int := bitsI .and .u32 x y
def not32 (x : Int) : Int := bitsI .xor .u32 4294967295 x

def word4 (b : List Int) (i : Nat) : Nat → Int
  | 0 => 0
  | k + 1 => bitsI .or .u32 (IntKind.u32.wrap (word4 b i k * 256)) (b.getD (4 * i + k) 0)

def wNext (b w : List Int) (i : Nat) : Int :=
  if i < 16 then word4 b i 4 else
    add32 (add32 (add32 (w.getD (i - 16) 0) (xor32 (xor32 (rl (w.getD (i - 15) 0) 25) (rl (w.getD (i - 15) 0) 14)) ((w.getD (i - 15) 0).fdiv 8))) (w.getD (i - 7) 0))
      (xor32 (xor32 (rl (w.getD (i - 2) 0) 15) (rl (w.getD (i - 2) 0) 13)) ((w.getD (i - 2) 0).fdiv 1024))
def wList (b : List Int) : Nat → List Int
  | 0 => []
  | i + 1 => wList b i ++ [wNext b (wList b i) i]

structure S8 where
  (a b c d e f g h : Int)
def S8.list (s : S8) : List Int := [s.a, s.b, s.c, s.d, s.e, s.f, s.g, s.h]

def one (s : S8) (k x : Int) : Int :=
  add32 (add32 (add32 (add32 s.h (xor32 (xor32 (rl s.e 26) (rl s.e 21)) (rl s.e 7))) (xor32 (and32 s.e s.f) (and32 (not32 s.e) s.g))) k) x
def two (s : S8) : Int :=
  add32 (xor32 (xor32 (rl s.a 30) (rl s.a 19)) (rl s.a 10)) (xor32 (xor32 (and32 s.a s.b) (and32 s.a s.c)) (and32 s.b s.c))
def rnd (s : S8) (k x : Int) : S8 := ⟨add32 (one s k x) (two s), s.a, s.b, s.c, add32 s.d (one s k x), s.e, s.f, s.g⟩

def rnds (w : List Int) (s : S8) : Nat → S8
  | 0 => s
  | i + 1 => rnd (rnds w s i) (roundsZ.getD i 0) (w.getD i 0)

def addS (s t : S8) : S8 := ⟨add32 s.a t.a, add32 s.b t.b, add32 s.c t.c, add32 s.d t.d, add32 s.e t.e, add32 s.f t.f, add32 s.g t.g, add32 s.h t.h⟩

def mixS (s : S8) (b : List Int) : S8 := addS s (rnds (wList b 64) s 64)

def unInts (k : IntKind) : List AV → Option (List Int)
  | [] => some []
  | .int j n :: r => if j = k then (unInts k r).map (n :: ·) else none
  | _ :: _ => none

def mixG : Kont → List AV → Hp → Option (AV × Hp) := fun _ args h => match args with
  | [.agg [.int .u32 a, .int .u32 b, .int .u32 c, .int .u32 d, .int .u32 e, .int .u32 f, .int .u32 g, .int .u32 i], .agg bs] => match unInts .u8 bs with
    | some ys => if ys.length = 64 ∧ (ys.all fun x => decide (0 ≤ x ∧ x ≤ 255)) = true then some (.agg (intsOf .u32 (mixS ⟨a, b, c, d, e, f, g, i⟩ ys).list), h) else none
    | none => none
  | _ => none

theorem unInts_some {k : IntKind} : ∀ {l : List AV} {xs : List Int}, unInts k l = some xs → l = intsOf k xs
  | [], xs, h => by cases h; rfl
  | .int j n :: r, xs, h => by
    simp only [unInts] at h
    split at h
    · rename_i e
      subst e
      cases hr : unInts j r with
      | none => rw [hr] at h; cases h
      | some ys =>
        rw [hr] at h
        cases h
        rw [unInts_some hr]; rfl
    · cases h
  | .bool _ :: _, _, h | .str _ :: _, _, h | .agg _ :: _, _, h | .tup _ :: _, _, h | .nilp :: _, _, h | .ptr .. :: _, _, h | .iptr _ :: _, _, h | .nils :: _, _, h | .imm .. :: _, _, h | .row .. :: _, _, h | .nilm :: _, _, h | .mp _ :: _, _, h | .nilf :: _, _, h | .fn .. :: _, _, h | .nili :: _, _, h | .ifc .. :: _, _, h | .yld _ :: _, _, h => by cases h
end Go.Proofs.YtcnbllelfinlmaaDoor.Im

/- S20Cg: what crc.Sum does, of one text. -/
set_option linter.unusedVariables false
namespace Go.Proofs.YtcnbllelfinlmaaDoor.Im
open Go Go.Im
def crcG : Kont → List AV → Hp → Option (AV × Hp) := fun _ args h => match args with
  | [.imm 1 [.str s] c] => if s.length ≤ 1000000 then some (.int .u32 (Crc.N (Crc.sum s)), h) else none
  | _ => none
end Go.Proofs.YtcnbllelfinlmaaDoor.Im

/- S20Tabs: the table of the functions. -/
namespace Go.Proofs.YtcnbllelfinlmaaDoor.Im
open Go Go.Im

def tab : Array (Option AF) := #[none, none, none, none, none, none, none, some a7, none, some a9, none, some a11, none, none, none, none, none, some a17, none, some a19, none, none, some a22, some a23, none, some a25, some a26, some a27, none, some a29, none, some a31, some a32, some a33, some a34, some a35, some a36, some a37, some a38, some a39, some a40, some a41, none, none, none, none, some a46, some a47, none, none, some a50, none, none, some a53, some a54, some a55, some a56, some a57, none, none, none, none, some a62, none, none, some a65, some a66, some a67, some a68, some a69, some a70, some a71, some a72, some a73, some a74, none, none, none, some a78, some a79, some a80, some a81, some a82, none, none, none, none, none, none, some a89, some a90, some a91, none, none, some a94, none, some a96, some a97, some a98, some a99, some a100, some a101, some a102, some a103, some a104, some a105, none, some a107, some a108, some a109, none, some a111, none, some a113, some a114, some a115, some a116, some a117, some a118]

def FA : Fns := fun f => if f = 51 then some (.inr mixG) else if f = 106 then some (.inr cmpG) else if f = 75 then some (.inr crcG) else match tab[f]? with
  | some (some x) => some (.inl x)
  | _ => none

def F : Fns := fun f => if f = 9 then some (.inr yesG) else FA f

end Go.Proofs.YtcnbllelfinlmaaDoor.Im

/- S20BTabs: the table of the functions. -/
namespace Go.Proofs.YtcnbllelfinlmaaDoor.Im
open Go Go.Im

def tabB : Array (Option AF) := #[none, none, none, none, none, none, none, none, none, none, none, none, none, none, none, none, none, none, none, none, none, none, none, none, none, none, none, none, none, none, none, none, none, none, none, none, none, none, none, none, none, none, none, none, none, none, none, none, none, none, none, some a51, none, none, none, none, none, none, none, none, none, none, none, none, none, none, none, none, none, none, none, none, none, none, none, some a75, none, none, none, none, none, none, none, none, none, none, none, none, some a88]

def FB : Fns := fun f => match tabB[f]? with
  | some (some x) => some (.inl x)
  | _ => none

end Go.Proofs.YtcnbllelfinlmaaDoor.Im

/- S20BIs: which functions stand where. -/
open Go Go.Im
namespace Go.Proofs.YtcnbllelfinlmaaDoor.Im

theorem g51 : FB 51 = some (.inl a51) := by kernel_rfl
theorem g75 : FB 75 = some (.inl a75) := by kernel_rfl
theorem g88 : FB 88 = some (.inl a88) := by kernel_rfl

end Go.Proofs.YtcnbllelfinlmaaDoor.Im

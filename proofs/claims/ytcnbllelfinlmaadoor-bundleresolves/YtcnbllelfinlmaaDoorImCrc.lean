/- ImCrc: the check sum of 32 bits, bit by bit and byte by byte. -/
import Derived.Test.YtcnbllelfinlmaaDoorImX4
set_option linter.unusedVariables false
set_option linter.unusedSimpArgs false
namespace Go.Im.Crc

abbrev W := BitVec 32
def poly : W := 0x82f63b78#32
def f (x : W) : W := (x >>> 1) ^^^ (if x.getLsbD 0 then poly else 0#32)
def g (x : W) (b : Bool) : W := (x >>> 1) ^^^ (if (x.getLsbD 0) != b then poly else 0#32)

theorem f_get (x : W) (i : Nat) : (f x).getLsbD i = (x.getLsbD (i + 1) ^^ (poly.getLsbD i && x.getLsbD 0)) := by
  unfold f
  rw [BitVec.getLsbD_xor, BitVec.getLsbD_ushiftRight, Nat.add_comm 1 i]
  cases h : x.getLsbD 0 <;> simp
theorem f_xor (x y : W) : f (x ^^^ y) = f x ^^^ f y := by
  apply BitVec.eq_of_getLsbD_eq
  intro i hi
  rw [BitVec.getLsbD_xor, f_get, f_get, f_get, BitVec.getLsbD_xor, BitVec.getLsbD_xor]
  cases x.getLsbD (i + 1) <;> cases y.getLsbD (i + 1) <;> cases x.getLsbD 0 <;> cases y.getLsbD 0 <;> cases poly.getLsbD i <;> rfl
theorem g_f (x : W) (b : Bool) : g x b = f (x ^^^ (if b then 1#32 else 0#32)) := by
  apply BitVec.eq_of_getLsbD_eq
  intro i hi
  rw [f_get]
  unfold g
  rw [BitVec.getLsbD_xor, BitVec.getLsbD_ushiftRight, Nat.add_comm 1 i, BitVec.getLsbD_xor, BitVec.getLsbD_xor]
  have h1 : (1#32).getLsbD (i + 1) = false := by simp
  cases b <;> cases x.getLsbD 0 <;> simp
def up (b : Nat) (k : Nat) : W := BitVec.ofNat 32 (b / 2 ^ k)
def bit (b k : Nat) : Bool := b / 2 ^ k % 2 == 1
theorem f_up (b k : Nat) (hb : b < 256) : f (up b k) = up b (k + 1) ^^^ f (if bit b k then 1#32 else 0#32) := by
  have hk : b / 2 ^ k < 256 := Nat.lt_of_le_of_lt (Nat.div_le_self _ _) hb
  have e : b / 2 ^ (k + 1) = b / 2 ^ k / 2 := by rw [Nat.pow_succ, Nat.div_div_eq_div_mul]
  unfold up bit
  rw [e]
  generalize b / 2 ^ k = y at *
  have : ∀ y : Fin 256, f (BitVec.ofNat 32 y.1) = BitVec.ofNat 32 (y.1 / 2) ^^^ f (if (y.1 % 2 == 1) = true then 1#32 else 0#32) := by decide +kernel
  exact this ⟨y, hk⟩
def gs (x : W) (b : Nat) : Nat → W
  | 0 => x
  | k + 1 => g (gs x b k) (bit b k)
def fs (x : W) : Nat → W
  | 0 => x
  | k + 1 => f (fs x k)
theorem fs_gs (x : W) (b : Nat) (hb : b < 256) : ∀ k, fs (x ^^^ BitVec.ofNat 32 b) k = gs x b k ^^^ up b k
  | 0 => by simp [fs,gs,up]
  | k + 1 => by
    show f (fs (x ^^^ BitVec.ofNat 32 b) k) = g (gs x b k) (bit b k) ^^^ up b (k + 1)
    rw [fs_gs x b hb k, f_xor, f_up b k hb, g_f, f_xor]
    generalize f (gs x b k) = p
    generalize f (if bit b k = true then 1#32 else 0#32) = q
    generalize up b (k + 1) = r
    rw [BitVec.xor_assoc, BitVec.xor_comm r q]
theorem byte_gs (x : W) (b : Nat) (hb : b < 256) : fs (x ^^^ BitVec.ofNat 32 b) 8 = gs x b 8 := by
  rw [fs_gs x b hb]
  have : up b 8 = 0#32 := by
    unfold up
    rw [show b / 2 ^ 8 = 0 by omega]
  rw [this, BitVec.xor_zero]
def byte (x : W) (b : UInt8) : W := gs x b.toNat 8
def run (x : W) (s : List UInt8) : W := s.foldl byte x
def sum (s : List UInt8) : W := ~~~ run (BitVec.allOnes 32) s

/-! ### a turned byte is told -/
theorem xor_zero {x y : W} (h : x ^^^ y = 0#32) : x = y := by
  have : x ^^^ y ^^^ y = 0#32 ^^^ y := by rw [h]
  rw [BitVec.xor_assoc, BitVec.xor_self, BitVec.xor_zero, BitVec.zero_xor] at this
  exact this
theorem run_app (x : W) (s t : List UInt8) : run x (s ++ t) = run (run x s) t := by simp [run,List.foldl_append]
/-! ### numbers -/
def N (x : W) : Int := ((x.toNat : Nat) : Int)
theorem u32_wrap (x : Int) : IntKind.u32.wrap x = x % 4294967296 := by simp [IntKind.wrap,IntKind.signed,IntKind.bits]
theorem wrap_N (x : W) : IntKind.u32.wrap (N x) = N x := by
  have := x.isLt
  rw [u32_wrap]; unfold N; omega
theorem of_N (x : W) : BitVec.ofInt 32 (N x) = x := by
  apply BitVec.eq_of_toNat_eq
  have := x.isLt
  simp [N,BitVec.toNat_ofInt]
theorem xor_N (x y : W) : bitsI .xor .u32 (N x) (N y) = N (x ^^^ y) := by
  unfold bitsI
  show IntKind.u32.wrap (((BitVec.ofInt 32 (N x) ^^^ BitVec.ofInt 32 (N y)).toNat : Nat) : Int) = _
  rw [of_N, of_N]; exact wrap_N _
theorem and_N (x y : W) : bitsI .and .u32 (N x) (N y) = N (x &&& y) := by
  unfold bitsI
  show IntKind.u32.wrap (((BitVec.ofInt 32 (N x) &&& BitVec.ofInt 32 (N y)).toNat : Nat) : Int) = _
  rw [of_N, of_N]; exact wrap_N _
theorem shr_N (x : W) : (N x).fdiv (2 ^ min (Int.toNat 1) IntKind.u32.bits) = N (x >>> 1) := by
  have e : (2 : Int) ^ min (Int.toNat 1) IntKind.u32.bits = 2 := by decide
  rw [e]
  unfold N
  rw [BitVec.toNat_ushiftRight, Nat.shiftRight_eq_div_pow, Int.fdiv_eq_ediv_of_nonneg _ (by omega)]
  omega
theorem neg_N (x : W) : IntKind.u32.wrap (0 - N x) = N (-x) := by
  have := x.isLt
  rw [u32_wrap]; unfold N
  rw [BitVec.toNat_neg]
  omega
theorem not_N (x : W) : bitsI .xor .u32 IntKind.u32.max (N x) = N (~~~ x) := by
  have e : IntKind.u32.max = N (BitVec.allOnes 32) := by decide
  rw [e, xor_N]
  congr 1
theorem mask (x : W) : poly &&& -(x &&& 1#32) = if x.getLsbD 0 then poly else 0#32 := by
  have h : x &&& 1#32 = if x.getLsbD 0 then 1#32 else 0#32 := by
    apply BitVec.eq_of_getLsbD_eq
    intro i hi
    rw [BitVec.getLsbD_and]
    cases i with
    | zero => cases x.getLsbD 0 <;> rfl
    | succ i => cases x.getLsbD 0 <;> simp
  rw [h]
  cases x.getLsbD 0 <;> decide
theorem f_N (x : W) : bitsI .xor .u32 (N (x >>> 1)) (bitsI .and .u32 2197175160 (N (-(x &&& 1#32)))) = N (f x) := by
  have e : (2197175160 : Int) = N poly := by decide
  rw [e, and_N, xor_N, mask]
  rfl
theorem byte_N (b : UInt8) : ((b.toNat : Nat) : Int) = N (BitVec.ofNat 32 b.toNat) := by
  have := b.toNat_lt
  unfold N
  rw [BitVec.toNat_ofNat, Nat.mod_eq_of_lt (by omega)]
def four (x : W) : List UInt8 := [UInt8.ofNat (x.toNat / 16777216), UInt8.ofNat (x.toNat / 65536 % 256), UInt8.ofNat (x.toNat / 256 % 256), UInt8.ofNat (x.toNat % 256)]
def put (s : List UInt8) : List UInt8 := s ++ four (sum s)
def take (s : List UInt8) : Int ⊕ List UInt8 := if s.length < 4 then .inl 2 else if put (s.take (s.length - 4)) = s then .inr (s.take (s.length - 4)) else .inl 4
end Go.Im.Crc

/- Joined: S20Eq, S20Rv, S20Sh. -/
import Derived.Test.YtcnbllelfinlmaaDoorRu
/- S20Eq: the two digests' steps are the same. -/
set_option linter.unusedVariables false
set_option linter.unusedSimpArgs false
open Go Go.Im
namespace Go.Proofs.YtcnbllelfinlmaaDoor.Im

theorem wrapN (n : Nat) (h : n < 4294967296) : IntKind.u32.wrap (n : Int) = (n : Int) := by rw [wrap_u32_mod]; omega
theorem wrapN_mod (n : Nat) : IntKind.u32.wrap (n : Int) = ((n % 4294967296 : Nat) : Int) := by rw [wrap_u32_mod]; omega

theorem bvN (a : Nat) (h : a < 4294967296) : (BitVec.ofInt 32 (a : Int)).toNat = a := by
  simp only [BitVec.ofInt_natCast,BitVec.toNat_ofNat]
  exact Nat.mod_eq_of_lt h
theorem or_N (a b : Nat) (ha : a < 4294967296) (hb : b < 4294967296) : bitsI .or .u32 (a : Int) (b : Int) = ((a ||| b : Nat) : Int) := by
  have hl : a ||| b < 4294967296 := Nat.or_lt_two_pow (n := 32) ha hb
  show IntKind.u32.wrap (((BitVec.ofInt 32 (a : Int) ||| BitVec.ofInt 32 (b : Int)).toNat : Nat) : Int) = _
  rw [BitVec.toNat_or, bvN a ha, bvN b hb, wrapN _ hl]
theorem not_N (x : Nat) (hx : x < 4294967296) : not32 (x : Int) = ((4294967295 - x : Nat) : Int) := by
  have hl : 4294967295 - x < 4294967296 := by omega
  show IntKind.u32.wrap (((BitVec.ofInt 32 4294967295 ^^^ BitVec.ofInt 32 (x : Int)).toNat : Nat) : Int) = _
  have e : BitVec.ofInt 32 4294967295 = BitVec.allOnes 32 := by decide
  rw [e, BitVec.allOnes_xor, BitVec.toNat_not, bvN x hx]
  exact wrapN _ hl

def R32 (x : Int) : Prop := 0 ≤ x ∧ x < 4294967296
theorem R32.nat {x : Int} (h : R32 x) : ∃ n : Nat, x = (n : Int) ∧ n < 4294967296 := ⟨x.toNat, by have := h.1; omega, by have := h.1; have := h.2; omega⟩
theorem R32.of (n : Nat) (h : n < 4294967296) : R32 (n : Int) := ⟨by omega, by omega⟩
theorem R32.wrap (x : Int) : R32 (IntKind.u32.wrap x) := by rw [wrap_u32_mod]; exact ⟨by omega, by omega⟩
theorem R32.bits (op : BinOp) (x y : Int) : R32 (bitsI op .u32 x y) := R32.wrap _

theorem not_eq {x : Int} (h : R32 x) : not32 x = IntKind.u32.wrap (4294967295 - x) := by
  obtain ⟨n, rfl, hn⟩ := h.nat
  rw [not_N n hn, show (4294967295 : Int) - (n : Int) = ((4294967295 - n : Nat) : Int) by omega, wrapN _ (by omega)]

theorem turn_N (x : Nat) (hx : x < 4294967296) : ∀ k, k ≤ 32 → turnI (x : Int) k = ((x / 2 ^ k + x % 2 ^ k * 2 ^ (32 - k) : Nat) : Int)
  | 0, _ => by simp [turnI,Nat.mod_one]
  | k + 1, hk => by
    have ih := turn_N x hx k (by omega)
    have hp : (2 : Nat) ^ (32 - k) = 2 * 2 ^ (31 - k) := by rw [show 32 - k = (31 - k) + 1 by omega, Nat.pow_succ, Nat.mul_comm]
    have hq : (2 : Nat) ^ (k + 1) = 2 * 2 ^ k := by rw [Nat.pow_succ, Nat.mul_comm]
    have hm : x % 2 ^ (k + 1) = x % 2 ^ k + 2 ^ k * (x / 2 ^ k % 2) := by rw [Nat.pow_succ, Nat.mod_mul]
    have hd : x / 2 ^ (k + 1) = x / 2 ^ k / 2 := by rw [Nat.pow_succ, Nat.div_div_eq_div_mul]
    have h31 : (2 : Nat) ^ k * 2 ^ (31 - k) = 2147483648 := by rw [← Nat.pow_add, show k + (31 - k) = 31 by omega]
    have hlt : x % 2 ^ k < 2 ^ k := Nat.mod_lt _ (Nat.two_pow_pos k)
    have hr : x % 2 ^ k * 2 ^ (31 - k) < 2147483648 := by
      rw [← h31]; exact Nat.mul_lt_mul_of_pos_right hlt (Nat.two_pow_pos _)
    have hle : x / 2 ^ k ≤ x := Nat.div_le_self _ _
    have hsum : x / 2 ^ k / 2 + x % 2 ^ k * 2 ^ (31 - k) < 2147483648 := by
      have a1 : x / 2 ^ k / 2 < 2 ^ (31 - k) := by
        rw [Nat.div_div_eq_div_mul, Nat.div_lt_iff_lt_mul (by have := Nat.two_pow_pos k; omega)]
        have : 2 ^ (31 - k) * (2 ^ k * 2) = 4294967296 := by rw [← Nat.mul_assoc, Nat.mul_comm (2 ^ (31 - k)), h31]
        omega
      have a2 : (x % 2 ^ k + 1) * 2 ^ (31 - k) ≤ 2 ^ k * 2 ^ (31 - k) := Nat.mul_le_mul_right _ hlt
      rw [h31, Nat.add_mul, Nat.one_mul] at a2
      omega
    have e32 : 32 - (k + 1) = 31 - k := by omega
    show IntKind.u32.wrap (IntKind.u32.wrap ((turnI x k).tdiv 2) + IntKind.u32.wrap ((turnI x k).tmod 2 * 2147483648)) = _
    rw [ih, hp, hm, hd, e32]
    have hdist : (x % 2 ^ k + 2 ^ k * (x / 2 ^ k % 2)) * 2 ^ (31 - k) = x % 2 ^ k * 2 ^ (31 - k) + 2147483648 * (x / 2 ^ k % 2) := by
      rw [Nat.add_mul, Nat.mul_right_comm, h31]
    rw [hdist]
    have ht : x % 2 ^ k * (2 * 2 ^ (31 - k)) = 2 * (x % 2 ^ k * 2 ^ (31 - k)) := by rw [Nat.mul_left_comm]
    rw [ht]
    generalize x % 2 ^ k * 2 ^ (31 - k) = r at *
    generalize x / 2 ^ k = q at *
    rw [tdiv_pos (by omega), tmod_pos (by omega), show (((q + 2 * r : Nat) : Int) / 2) = ((q / 2 + r : Nat) : Int) by omega, show (((q + 2 * r : Nat) : Int) % 2 * 2147483648) = ((q % 2 * 2147483648 : Nat) : Int) by omega]
    have hq2 : q % 2 < 2 := Nat.mod_lt _ (by decide)
    have hb : q / 2 + r < 4294967296 := by omega
    rw [wrapN _ hb, wrapN _ (by omega), show (((q / 2 + r : Nat) : Int) + ((q % 2 * 2147483648 : Nat) : Int)) = ((q / 2 + r + q % 2 * 2147483648 : Nat) : Int) by omega, wrapN]
    · congr 1; omega
    · omega

theorem rl_N (x : Nat) (hx : x < 4294967296) (s : Nat) (h1 : 1 ≤ s) (h2 : s ≤ 31) : rl (x : Int) s = ((x / 2 ^ (32 - s) + x % 2 ^ (32 - s) * 2 ^ s : Nat) : Int) := by
  have hp : (2 : Nat) ^ (32 - s) * 2 ^ s = 4294967296 := by rw [← Nat.pow_add, show 32 - s + s = 32 by omega]
  have hps := Nat.two_pow_pos s
  have hpq := Nat.two_pow_pos (32 - s)
  have hd : x / 2 ^ (32 - s) < 2 ^ s := by rw [Nat.div_lt_iff_lt_mul hpq, Nat.mul_comm, hp]; exact hx
  have hm : x * 2 ^ s % 4294967296 = x % 2 ^ (32 - s) * 2 ^ s := by rw [← hp, Nat.mul_mod_mul_right]
  have hml : x % 2 ^ (32 - s) * 2 ^ s < 4294967296 := by rw [← hp]; exact Nat.mul_lt_mul_of_pos_right (Nat.mod_lt _ hpq) hps
  have e1 : (x : Int) * 2 ^ s = ((x * 2 ^ s : Nat) : Int) := by simp
  have e2 : (x : Int).fdiv (2 ^ (32 - s)) = ((x / 2 ^ (32 - s) : Nat) : Int) := by
    rw [show ((2 : Int) ^ (32 - s)) = ((2 ^ (32 - s) : Nat) : Int) by simp, Int.fdiv_eq_ediv_of_nonneg _ (by omega)]; simp
  unfold rl
  rw [e1, wrapN_mod, hm, e2, or_N _ _ hml (Nat.lt_of_le_of_lt (Nat.div_le_self _ _) hx)]
  congr 1
  rw [Nat.mul_comm (x % 2 ^ (32 - s)), ← Nat.two_pow_add_eq_or_of_lt hd, Nat.add_comm]

theorem turn_rl {x : Int} (h : R32 x) (k : Nat) (h1 : 1 ≤ k) (h2 : k ≤ 31) : turnI x k = rl x (32 - k) := by
  obtain ⟨n, rfl, hn⟩ := h.nat
  rw [turn_N n hn k (by omega), rl_N n hn (32 - k) (by omega) (by omega), show 32 - (32 - k) = k by omega]

theorem or8 (x : Nat) (hx : x < 4294967296) (b : Nat) (hb : b < 256) : bitsI .or .u32 (IntKind.u32.wrap ((x : Int) * 256)) (b : Int) = add32 (IntKind.u32.wrap ((x : Int) * 256)) (b : Int) := by
  have e1 : (x : Int) * 256 = ((x * 256 : Nat) : Int) := by omega
  rw [e1, wrapN_mod]
  have hm : x * 256 % 4294967296 = 2 ^ 8 * (x % 16777216) := by omega
  rw [hm, or_N _ _ (by omega) (by omega), ← Nat.two_pow_add_eq_or_of_lt (i := 8) (by omega)]
  unfold add32
  rw [show (((2 ^ 8 * (x % 16777216) : Nat) : Int) + (b : Int)) = ((2 ^ 8 * (x % 16777216) + b : Nat) : Int) by omega, wrapN _ (by omega)]
theorem fdiv_eq {x : Int} (h : R32 x) (k : Int) (hk : 0 < k) : x.fdiv k = div32 x k := by
  have h0 := h.1
  have h1 := h.2
  unfold div32
  rw [tdiv_pos h0, Int.fdiv_eq_ediv_of_nonneg _ (by omega)]
  have a1 : 0 ≤ x / k := Int.ediv_nonneg h0 (by omega)
  have a2 : x / k ≤ x := Int.ediv_le_self _ h0
  rw [wrap_u32 a1 (by omega)]

theorem add32_R (x y : Int) : R32 (add32 x y) := R32.wrap _
def blkB (p : By) (a : Nat) : List Int := (List.range 64).map fun j => byt p (a + j)
theorem blkB_get (p : By) (a j : Nat) (hj : j < 64) : (blkB p a).getD j 0 = byt p (a + j) := by simp [blkB,List.getD,hj]
theorem byt_R (p : By) (j : Nat) : ∃ b : Nat, byt p j = (b : Int) ∧ b < 256 := ⟨_, rfl, (p.getD j 0).toNat_lt⟩

theorem word_eq (p : By) (a i : Nat) (hi : i < 16) : ∀ k, k ≤ 4 → word4 (blkB p a) i k = wordR p a i k ∧ R32 (wordR p a i k)
  | 0, _ => ⟨rfl, by show R32 0; exact ⟨by decide, by decide⟩⟩
  | k + 1, hk => by
    obtain ⟨h1, h2⟩ := word_eq p a i hi k (by omega)
    obtain ⟨b, hb, hb2⟩ := byt_R p (a + (4 * i + k))
    obtain ⟨n, hn, hn2⟩ := h2.nat
    refine ⟨?_, R32.wrap _⟩
    show bitsI .or .u32 (IntKind.u32.wrap (word4 (blkB p a) i k * 256)) ((blkB p a).getD (4 * i + k) 0) = add32 (IntKind.u32.wrap (wordR p a i k * 256)) (byt p (a + 4 * i + k))
    rw [h1, blkB_get _ _ _ (by omega), show a + 4 * i + k = a + (4 * i + k) by omega, hb, hn]
    exact or8 n hn2 b hb2

theorem getD_R {w : List Int} (h : ∀ x ∈ w, R32 x) (j : Nat) : R32 (w.getD j 0) := by
  by_cases hj : j < w.length
  · have : w.getD j 0 = w[j] := by simp [List.getD,hj]
    rw [this]; exact h _ (List.getElem_mem hj)
  · have : w.getD j 0 = 0 := by simp [List.getD,hj]
    rw [this]; exact ⟨by decide, by decide⟩

theorem next_eq (p : By) (a : Nat) (w : List Int) (i : Nat) (hw : ∀ x ∈ w, R32 x) : wNext (blkB p a) w i = wRNext p a w i ∧ R32 (wRNext p a w i) := by
  unfold wNext wRNext
  by_cases hi : i < 16
  · rw [if_pos hi, if_pos hi]; exact word_eq p a i hi 4 (Nat.le_refl _)
  · rw [if_neg hi, if_neg hi]
    have r1 := getD_R hw (i - 15)
    have r2 := getD_R hw (i - 2)
    rw [turn_rl r1 7 (by decide) (by decide), turn_rl r1 18 (by decide) (by decide), turn_rl r2 17 (by decide) (by decide), turn_rl r2 19 (by decide) (by decide), fdiv_eq r1 8 (by decide), fdiv_eq r2 1024 (by decide)]
    exact ⟨rfl, add32_R _ _⟩

theorem list_eq (p : By) (a : Nat) : ∀ i, wList (blkB p a) i = wRList p a i ∧ ∀ x ∈ wRList p a i, R32 x
  | 0 => ⟨rfl, by simp [wRList]⟩
  | i + 1 => by
    obtain ⟨h1, h2⟩ := list_eq p a i
    obtain ⟨h3, h4⟩ := next_eq p a (wRList p a i) i h2
    refine ⟨?_, fun x hx => ?_⟩
    · show wList (blkB p a) i ++ [wNext (blkB p a) (wList (blkB p a) i) i] = wRList p a i ++ [wRNext p a (wRList p a i) i]
      rw [h1, h3]
    · rcases List.mem_append.1 (show x ∈ wRList p a i ++ [wRNext p a (wRList p a i) i] from hx) with hx | hx
      · exact h2 x hx
      · rw [List.mem_singleton] at hx; rw [hx]; exact h4

structure S8.R (s : S8) : Prop where
  (a : R32 s.a) (b : R32 s.b) (c : R32 s.c) (d : R32 s.d) (e : R32 s.e) (f : R32 s.f) (g : R32 s.g) (h : R32 s.h)

theorem rnd_eq (s : S8) (k x : Int) (h : s.R) : rnd s k x = rndR s k x ∧ (rndR s k x).R := by
  have e1 : one s k x = oneR s k x := by
    unfold one oneR
    rw [turn_rl h.e 6 (by decide) (by decide), turn_rl h.e 11 (by decide) (by decide), turn_rl h.e 25 (by decide) (by decide), not_eq h.e]
  have e2 : two s = twoR s := by
    unfold two twoR
    rw [turn_rl h.a 2 (by decide) (by decide), turn_rl h.a 13 (by decide) (by decide), turn_rl h.a 22 (by decide) (by decide)]
  refine ⟨by unfold rnd rndR; rw [e1, e2], ⟨add32_R _ _, h.a, h.b, h.c, add32_R _ _, h.e, h.f, h.g⟩⟩
theorem rnds_eq (w : List Int) (s : S8) (h : s.R) : ∀ i, rnds w s i = rndsR w s i ∧ (rndsR w s i).R
  | 0 => ⟨rfl, h⟩
  | i + 1 => by
    obtain ⟨h1, h2⟩ := rnds_eq w s h i
    obtain ⟨h3, h4⟩ := rnd_eq (rndsR w s i) (roundsZ.getD i 0) (w.getD i 0) h2
    exact ⟨by show rnd (rnds w s i) _ _ = _; rw [h1, h3]; rfl, h4⟩
theorem mix_eq (s : S8) (p : By) (a : Nat) (h : s.R) : mixS s (blkB p a) = blkR s p a ∧ (blkR s p a).R := by
  obtain ⟨h1, h2⟩ := rnds_eq (wRList p a 64) s h 64
  refine ⟨?_, ⟨add32_R _ _, add32_R _ _, add32_R _ _, add32_R _ _, add32_R _ _, add32_R _ _, add32_R _ _, add32_R _ _⟩⟩
  unfold mixS blkR
  rw [(list_eq p a 64).1, h1]
theorem s0_R : s0.R := ⟨⟨by decide, by decide⟩, ⟨by decide, by decide⟩, ⟨by decide, by decide⟩, ⟨by decide, by decide⟩, ⟨by decide, by decide⟩, ⟨by decide, by decide⟩, ⟨by decide, by decide⟩, ⟨by decide, by decide⟩⟩
theorem blks_R (p : By) : ∀ m, (blksR p m).R
  | 0 => s0_R
  | m + 1 => (mix_eq _ p (64 * m) (blks_R p m)).2
theorem blks_next (p : By) (m : Nat) : mixS (blksR p m) (blkB p (64 * m)) = blksR p (m + 1) := (mix_eq _ p (64 * m) (blks_R p m)).1
end Go.Proofs.YtcnbllelfinlmaaDoor.Im

/- S20Rv: the reference's digest, whole. -/
set_option linter.unusedVariables false
set_option linter.unusedSimpArgs false
open Go Go.Im
namespace Go.Proofs.YtcnbllelfinlmaaDoor.Im

def shaR (s : By) : List Int := keyI (blksR (padR s) ((padR s).length / 64)).list

section
variable {n : Nat} {tot : Bool} {ω : Nat → Nat} {h : Hp}

theorem keepR_below {lo lo' : Nat} {h h' : Hp} (k : KeepR lo 1 h h') (hl : lo' ≤ lo) (hl2 : lo' ≤ h.length) : Below lo' h h' := ⟨k.1, fun i hi => by
  have e : h[i]? = some h[i] := List.getElem?_eq_getElem (by omega)
  rw [e]; exact k.2 i _ e (.inl (by omega))⟩
theorem keepR_get {lo i : Nat} {h h' : Hp} {o : AO} (k : KeepR lo 1 h h') (hi : i < lo) (e : h[i]? = some o) : h'[i]? = some o := k.2 i o e (.inl hi)

set_option maxRecDepth 100000 in
set_option maxHeartbeats 2000000 in
theorem c49 (s : By) (hs : s.length ≤ 1000000000) (hn : s.length + 200 < n) : ∃ h', call F n tot ω 49 [.str s] h = some (.agg (intsOf .u8 (shaR s)), h') ∧ Below h.length h h' := by
  obtain ⟨n, rfl⟩ : ∃ m, n = m + 1 := ⟨n - 1, by omega⟩
  suffices hx : ∃ v2 h', call F (n + 1) tot ω 49 [.str s] h = some (v2, h') ∧ v2 = .agg (intsOf .u8 (shaR s)) ∧ Below h.length h h' by
    obtain ⟨v2, h', e1, rfl, e2⟩ := hx
    exact ⟨h', e1, e2⟩
  refine call_of (fn := a49) f49 (P := fun v2 h' => v2 = .agg (intsOf .u8 (shaR s)) ∧ Below h.length h h') ?_
  have z32 : (AV.agg [AV.int .u8 0, AV.int .u8 0, AV.int .u8 0, AV.int .u8 0, AV.int .u8 0, AV.int .u8 0, AV.int .u8 0, AV.int .u8 0, AV.int .u8 0, AV.int .u8 0, AV.int .u8 0, AV.int .u8 0, AV.int .u8 0, AV.int .u8 0, AV.int .u8 0, AV.int .u8 0, AV.int .u8 0, AV.int .u8 0, AV.int .u8 0, AV.int .u8 0, AV.int .u8 0, AV.int .u8 0, AV.int .u8 0, AV.int .u8 0, AV.int .u8 0, AV.int .u8 0, AV.int .u8 0, AV.int .u8 0, AV.int .u8 0, AV.int .u8 0, AV.int .u8 0, AV.int .u8 0] : AV) = .agg (intsOf .u8 Z32R) := rfl
  have hs0 : [AV.int .u32 1779033703, AV.int .u32 3144134277, AV.int .u32 1013904242, AV.int .u32 2773480762, AV.int .u32 1359893119, AV.int .u32 2600822924, AV.int .u32 528734635, AV.int .u32 1541459225] = intsOf .u32 s0.list := rfl
  obtain ⟨h1, k84, hB1⟩ := c86 (n := n) (tot := tot) (ω := ω) (h := h ++ [.row 1 (intsOf .u32 s0.list)]) s hs (by omega)
  have k83 : ∀ h, call F n tot ω 85 [] h = some (.imm 1 (intsOf .u32 roundsZ) .full, h) := fun h => by
    obtain ⟨n', rfl⟩ : ∃ m, n = m + 1 := ⟨n - 1, by omega⟩
    exact c85
  obtain ⟨p1, p2⟩ := padR_len s
  have hZ := padZ_lt s
  obtain ⟨M, hM⟩ : ∃ M, (padR s).length = 64 * M := ⟨(padR s).length / 64, by omega⟩
  have hs1 : h1[h.length]? = some (.row 1 (intsOf .u32 s0.list)) := by
    rw [hB1.2 h.length (by simp)]; simp
  have hB2 : Below h.length h h1 := (Below.app h.length h _ (Nat.le_refl _)).trans (hB1.low (by simp))
  have hshaR : shaR s = keyI (blksR (padR s) M).list := by unfold shaR; rw [hM, Nat.mul_div_cancel_left _ (by decide)]
  rw [hshaR]
  generalize padR s = p at *
  unfold a49
  rw [z32]
  simp (maxSteps := 2000000) (discharger := omega) only [xc,xo,xr,x0,x5,xd,kont_call,partEs,placeEs,Reg.isA,Reg.isV,Reg.stays,Reg.onto,Bool.or_false,Bool.and_false,Bool.or_true,↓reduceIte,reduceCtorEq,Nat.reduceEqDiff,Nat.reduceLT,Nat.reduceAdd,Nat.zero_add,Nat.not_lt_zero,Nat.zero_lt_succ,Bool.false_eq_true,Option.map_some,and_self,List.length_cons,List.length_nil,List.any_nil,List.any_cons,List.set_cons_zero,List.set_cons_succ,k83,List.replicate,List.set_cons_zero,List.set_cons_succ]
  rw [hs0]
  simp (maxSteps := 2000000) (discharger := omega) only [xc,xo,xr,x0,Reg.isA,Reg.isV,Reg.stays,Reg.onto,Bool.or_false,Bool.and_false,↓reduceIte,reduceCtorEq,Nat.reduceEqDiff,Nat.reduceLT,Nat.not_lt_zero,Bool.false_eq_true,Option.map_some,List.any_nil,List.any_cons,k84]
  generalize hVz : AV.agg (intsOf .u8 Z32R) = Vz
  refine wpi_loop (fun x r g => ∃ m : Nat, r = [(2, .var Vz), (3, .val (.row h.length 1 0 8 false)), (4, .val (.imm 1 (intsOf .u32 roundsZ) .full)), (5, .val (.str p)), (6, .val (.int .i64 (64 * m : Nat)))] ∧ x = M - m ∧ m ≤ M ∧
    g[h.length]? = some (.row 1 (intsOf .u32 (blksR p m).list)) ∧ Below h.length h g) M (by omega)
    ⟨0, rfl, rfl, Nat.zero_le _, hs1, hB2⟩ ?_
  rintro x r g ⟨m, rfl, rfl, hm, hg1, hg2⟩
  have hgl : h.length < g.length := (List.getElem?_eq_some_iff.1 hg1).1
  by_cases hlt : m < M
  · simp (maxSteps := 2000000) (discharger := omega) only [xc,xo,xr,x0,x1,x4,xd,Reg.isA,Reg.isV,Reg.stays,Reg.onto,Bool.or_false,Bool.and_false,↓reduceIte,Nat.reduceEqDiff,Nat.reduceLT,Bool.false_eq_true,Option.map_some,List.any_nil,List.any_cons,decide_true,int_lt_t,hM]
    refine wpi_loop (fun x r g' => ∃ (i : Nat) (v7 : AV), r = [(2, .var Vz), (3, .val (.row h.length 1 0 8 false)), (4, .val (.imm 1 (intsOf .u32 roundsZ) .full)), (5, .val (.str p)), (6, .val (.int .i64 (64 * m : Nat))), (7, .val v7), (8, .val (.int .i64 i))] ∧ x = 64 - i ∧ i ≤ 64 ∧
      RowEx g' 1 g.length (intsOf .u32 (wRList p (64 * m) i)) v7 ∧ KeepR g.length 1 g g') 64 (by omega)
      ⟨0, .nils, rfl, rfl, by omega, .inl ⟨rfl, rfl⟩, .refl⟩ ?_
    rintro x r g' ⟨i, v7, rfl, rfl, hi, hR, hK⟩
    have hwl := wRList_len p (64 * m) i
    by_cases hi64 : i < 64
    · by_cases h16 : i < 16
      · have ra := w_r53a (n := n) (tot := tot) (ω := ω) (h := g') p (64 * m) i Vz (.row h.length 1 0 8 false) (.imm 1 (intsOf .u32 roundsZ) .full) v7 (by omega) (by omega) (by omega)
        simp (maxSteps := 2000000) (discharger := omega) only [xc,xo,xr,x0,x1,xd,Reg.isA,Reg.isV,Reg.stays,Reg.onto,Bool.or_false,Bool.and_false,↓reduceIte,Nat.reduceEqDiff,Nat.reduceLT,Bool.false_eq_true,Option.map_some,List.any_nil,List.any_cons,decide_true,int_lt_t]
        refine ra.mono ?_
        rintro e r' h' ⟨rfl, rfl, rfl⟩
        have hR2 : RowEx (h' ++ [.row 1 [.int .u32 (wordR p (64 * m) i 4)]]) 1 g.length (intsOf .u32 (wRList p (64 * m) i)) v7 := hR.more
        obtain ⟨v', h2, w1, w2, w3⟩ := row_appx (bytes := 4) (xs := [.int .u32 (wordR p (64 * m) i 4)]) hR2 (by rw [io_len', hwl]; simp; omega) (by have := hK.1; simp; omega)
        simp (maxSteps := 2000000) (discharger := omega) only [xc,xo,xr,x0,x1,x5,xd,xb,selems,srcElems,partEs,placeEs,List.drop_zero,List.take_succ_cons,List.take_nil,Reg.isA,Reg.isV,Reg.stays,Reg.onto,Bool.or_false,Bool.false_and,Bool.and_false,↓reduceIte,Nat.reduceEqDiff,Nat.reduceLT,Nat.zero_add,Nat.lt_irrefl,Nat.zero_lt_succ,Bool.false_eq_true,Option.map_some,and_self,List.length_cons,List.length_nil,List.any_nil,List.any_cons,List.getElem?_cons_zero,List.set_cons_zero,wrap_i64,nat_le_t,hg0,w1,List.replicate,List.set_cons_zero]
        refine ⟨64 - (i + 1), by omega, i + 1, v', by rw [show ((i : Nat) : Int) + 1 = ((i + 1 : Nat) : Int) by omega], rfl, by omega, ?_, hK.trans ((KeepR.app _).trans w3)⟩
        have e : wRList p (64 * m) (i + 1) = wRList p (64 * m) i ++ [wordR p (64 * m) i 4] := by
          show wRList p (64 * m) i ++ [wRNext p (64 * m) (wRList p (64 * m) i) i] = _
          unfold wRNext; rw [if_pos h16]
        rw [e]
        simpa [intsOf] using w2
      · rcases hR with ⟨rfl, e0⟩ | ⟨id, rfl, hid, hlo⟩
        · have := congrArg List.length e0
          rw [io_len', hwl] at this
          simp at this
          omega
        · rw [io_len', hwl]
          have rb := w_r53b (n := n) (tot := tot) (ω := ω) (h := g') p (64 * m) i g.length id (wRList p (64 * m) i) Vz (.row h.length 1 0 8 false) (.imm 1 (intsOf .u32 roundsZ) .full) hwl (by omega) hi64 hid hlo (by omega)
          simp (maxSteps := 2000000) (discharger := omega) only [xc,xo,xr,x0,x1,xd,Reg.isA,Reg.isV,Reg.stays,Reg.onto,Bool.or_false,Bool.and_false,↓reduceIte,Nat.reduceEqDiff,Nat.reduceLT,Bool.false_eq_true,Option.map_some,List.any_nil,List.any_cons,decide_true,decide_false,int_lt_t,int_lt_f]
          refine rb.mono ?_
          rintro e r' h' ⟨rfl, v', rfl, w2, w3⟩
          simp (maxSteps := 2000000) (discharger := omega) only [xc,xo,xr,x0,x1,xd,Reg.isA,Reg.isV,Reg.stays,Reg.onto,Bool.or_false,Bool.and_false,↓reduceIte,Nat.reduceEqDiff,Nat.reduceLT,Nat.lt_irrefl,Bool.false_eq_true,Option.map_some,List.any_nil,List.any_cons,wrap_i64]
          exact ⟨64 - (i + 1), by omega, i + 1, v', by rw [show ((i : Nat) : Int) + 1 = ((i + 1 : Nat) : Int) by omega], rfl, by omega, w2, hK.trans w3⟩
    · obtain rfl : i = 64 := by omega
      rcases hR with ⟨rfl, e0⟩ | ⟨id, rfl, hid, hlo⟩
      · have := congrArg List.length e0
        rw [io_len', hwl] at this
        simp at this
      · rw [io_len', hwl]
        have hst := keepR_get hK hgl hg1
        have hst' : g'[h.length]? = some (.row 1 [.int .u32 (blksR p m).a, .int .u32 (blksR p m).b, .int .u32 (blksR p m).c, .int .u32 (blksR p m).d, .int .u32 (blksR p m).e, .int .u32 (blksR p m).f, .int .u32 (blksR p m).g, .int .u32 (blksR p m).h]) := hst
        have rc := w_r53c (n := n) (tot := tot) (ω := ω) (h := g') p (64 * m) id (wRList p (64 * m) 64) (blksR p m) Vz (.row h.length 1 0 8 false) .full hwl hid (by omega)
        simp (maxSteps := 2000000) (discharger := omega) only [xc,xo,xr,x0,x1,xd,Reg.isA,Reg.isV,Reg.stays,Reg.onto,Bool.or_false,Bool.and_false,↓reduceIte,Nat.reduceEqDiff,Nat.reduceLT,Nat.add_zero,Nat.zero_add,Bool.false_eq_true,Option.map_some,and_self,List.any_nil,List.any_cons,Int.cast_ofNat_Int,Int.reduceToNat,decide_false,List.getElem?_cons_zero,List.getElem?_cons_succ,int_lt_t,int_lt_f,int_le_t,Nat.sub_self,hst']
        refine rc.mono ?_
        rintro e r' h' ⟨rfl, rfl, rfl⟩
        have rd := w_r53d (n := n) (tot := tot) (ω := ω) (h := h') p (64 * m) id h.length h.length (blksR p m) (rndsR (wRList p (64 * m) 64) (blksR p m) 64) Vz (.imm 1 (intsOf .u32 roundsZ) .full) (.row id 1 0 64 false) hst (Nat.le_refl _) (by omega)
        rw [then_n]
        refine rd.mono ?_
        rintro e r' h2 ⟨rfl, ⟨u, v, rfl⟩, d1, d2⟩
        simp (maxSteps := 2000000) (discharger := omega) only [xc,xo,xr,x0,x1,xd,Reg.isA,Reg.isV,Reg.stays,Reg.onto,Bool.or_false,Bool.and_false,↓reduceIte,Nat.reduceEqDiff,Nat.reduceLT,Nat.lt_irrefl,Bool.false_eq_true,Option.map_some,List.any_nil,List.any_cons,wrap_i64]
        refine ⟨M - (m + 1), by omega, m + 1, by rw [show ((64 * m : Nat) : Int) + 64 = ((64 * (m + 1) : Nat) : Int) by omega], rfl, by omega, d1, ?_⟩
        exact hg2.trans ((keepR_below hK (by omega) (by omega)).trans (keepR_below d2 (Nat.le_refl _) (by have := hK.1; omega)))
  · obtain rfl : m = M := by omega
    have re := w_r53e (n := n) (tot := tot) (ω := ω) (h := g) h.length (blksR p m).list rfl hg1 Vz hVz.symm (.imm 1 (intsOf .u32 roundsZ) .full) (.str p) (.int .i64 (64 * m : Nat)) (.bool false) (by omega)
    simp (maxSteps := 2000000) (discharger := omega) only [xc,xo,xr,x0,x1,x4,xd,Reg.isA,Reg.isV,Reg.stays,Reg.onto,Bool.or_false,Bool.and_false,↓reduceIte,Nat.reduceEqDiff,Nat.reduceLT,Bool.false_eq_true,Option.map_some,List.any_nil,List.any_cons,decide_false,int_lt_f,Nat.sub_self,hM]
    refine re.mono ?_
    intro e r' h' hq
    cases e with
    | exit i => exact hq.elim
    | normal => obtain ⟨v, h1, rfl, rfl⟩ := hq; exact ⟨_, h1, rfl, hg2⟩
    | ret => obtain ⟨v, h1, rfl, rfl⟩ := hq; exact ⟨_, h1, rfl, hg2⟩
end
end Go.Proofs.YtcnbllelfinlmaaDoor.Im

/- S20Sh: sha.Sum answers the reference's digest. -/
set_option linter.unusedVariables false
set_option linter.unusedSimpArgs false
open Go Go.Im
namespace Go.Proofs.YtcnbllelfinlmaaDoor.Im

structure BOk (p : By) (j : Nat) (B : List Int) : Prop where
  len : B.length = 64
  rng : ∀ x ∈ B, 0 ≤ x ∧ x ≤ 255
  is : ∀ t, t < j % 64 → B.getD t 0 = byt p (64 * (j / 64) + t)

def HS (h : Hp) (p : By) (j : Nat) (B : List Int) : Hp := h ++ [.row 8 [.agg (intsOf .u32 (blksR p (j / 64)).list)], .row 64 [.agg (intsOf .u8 B)], .row 1 [.int .i64 (j % 64 : Nat)]]

theorem byt_rng (p : By) (j : Nat) : 0 ≤ byt p j ∧ byt p j ≤ 255 := by
  have := (p.getD j 0).toNat_lt
  unfold byt; omega
theorem z64_ok (p : By) : BOk p 0 (List.replicate 64 0) := ⟨rfl, fun x hx => by rw [List.eq_of_mem_replicate hx]; decide, fun t ht => by omega⟩

theorem mem_set_or {α : Type} {l : List α} {i : Nat} {v x : α} (h : x ∈ l.set i v) : x ∈ l ∨ x = v := List.mem_or_eq_of_mem_set h

section
variable {n : Nat} {tot : Bool} {ω : Nat → Nat} {h : Hp}

theorem f51 : F 51 = some (.inr mixG) := by kernel_rfl
theorem c51F (s : S8) (b : List Int) (hb : b.length = 64) (hbb : ∀ x ∈ b, 0 ≤ x ∧ x ≤ 255) (hn : 0 < n) : call F n tot ω 51 [AV.agg (intsOf .u32 s.list), AV.agg (intsOf .u8 b)] h = some (AV.agg (intsOf .u32 (mixS s b).list), h) := by
  obtain ⟨n, rfl⟩ : ∃ m, n = m + 1 := ⟨n - 1, by omega⟩
  rw [call_inr f51]
  show (match unInts .u8 (intsOf .u8 b) with
    | some ys => if ys.length = 64 ∧ (ys.all fun x => decide (0 ≤ x ∧ x ≤ 255)) = true then some (AV.agg (intsOf .u32 (mixS ⟨s.a, s.b, s.c, s.d, s.e, s.f, s.g, s.h⟩ ys).list), h) else none
    | none => none) = _
  rw [unInts_ok]
  simp only
  rw [if_pos ⟨hb, by rw [List.all_eq_true]; intro x hx; exact decide_eq_true (hbb x hx)⟩]

theorem c50 (p : By) (j : Nat) (B : List Int) (hB : BOk p j B) (hn : 10 < n) :
    ∃ B', call F n tot ω 50 [.int .u8 (byt p j), .ptr (h.length + 1) 64 0 0, .ptr (h.length + 2) 1 0 0, .ptr h.length 8 0 0] (HS h p j B) = some (.tup [], HS h p (j + 1) B') ∧ BOk p (j + 1) B' := by
  obtain ⟨n, rfl⟩ : ∃ m, n = m + 1 := ⟨n - 1, by omega⟩
  have hr := byt_rng p j
  have hm : j % 64 < 64 := Nat.mod_lt _ (by decide)
  refine ⟨B.set (j % 64) (byt p j), ?_, ?_⟩
  · refine call_eq (fn := a50) f50 ?_
    unfold a50 HS
    have k51 : ∀ h, call F n tot ω 51 [AV.agg (intsOf .u32 (blksR p (j / 64)).list), AV.agg (intsOf .u8 (B.set (j % 64) (byt p j)))] h = some (AV.agg (intsOf .u32 (mixS (blksR p (j / 64)) (B.set (j % 64) (byt p j))).list), h) := fun h => c51F _ _ (by simp [hB.len]) (fun x hx => by
      rcases mem_set_or hx with hx | rfl
      · exact hB.rng x hx
      · exact hr) (by omega)
    by_cases he : j % 64 = 63
    · have e1 : (j + 1) / 64 = j / 64 + 1 := by omega
      have e2 : (j + 1) % 64 = 0 := by omega
      have e3 : ((63 : Nat) : Int) + 1 = 64 := rfl
      have hblk : B.set (j % 64) (byt p j) = blkB p (64 * (j / 64)) := by
        apply List.ext_getElem
        · simp [blkB,hB.len]
        · intro t h1 h2
          have ht : t < 64 := by simpa [hB.len] using h1
          rw [List.getElem_set]
          simp only [blkB,List.getElem_map,List.getElem_range]
          split
          · rename_i e; congr 1; omega
          · have := hB.is t (by omega)
            rw [← this]
            simp [List.getD,hB.len,ht]
      have hmix : mixS (blksR p (j / 64)) (B.set (j % 64) (byt p j)) = blksR p ((j + 1) / 64) := by rw [hblk, blks_next, e1]
      rw [hmix] at k51
      have k51' := k51
      rw [he] at k51' 
      have hl8 : ∀ s : S8, s.list.length = 8 := fun _ => rfl
      have t8 : ∀ s : S8, (intsOf .u32 s.list).take 8 = intsOf .u32 s.list := fun _ => rfl
      have d8 : ∀ s : S8, (intsOf .u32 s.list).drop 8 = [] := fun _ => rfl
      have hls : (B.set 63 (byt p j)).length = 64 := by simp [hB.len]
      have t64 : (intsOf .u8 (B.set 63 (byt p j))).take 64 = intsOf .u8 (B.set 63 (byt p j)) := List.take_of_length_le (by rw [io_len', hls]; exact Nat.le_refl _)
      simp (maxSteps := 2000000) (discharger := omega) only [xc,xo,xr,x0,x1,x5,xd,xe,kont_call,wr,List.drop_zero,List.nil_append,List.append_nil,List.take_zero,Reg.isA,Reg.isV,Reg.stays,Reg.onto,Bool.or_false,Bool.and_false,↓reduceIte,reduceCtorEq,Nat.reduceEqDiff,Nat.reduceLT,Nat.reduceAdd,Nat.reduceMul,Nat.zero_add,Nat.not_lt_zero,Nat.zero_ne_one,Bool.false_eq_true,Option.map_some,and_self,and_true,List.length_cons,List.length_nil,List.any_nil,List.any_cons,Int.cast_ofNat_Int,beq_self_eq_true,Option.some.injEq,exists_eq_left',Int.reduceToNat,Int.reduceAdd,List.getElem?_cons_zero,List.getElem?_cons_succ,xu,List.set_cons_zero,List.set_cons_succ,wrap_i64,int_lt_t,int_le_t,nat_le_t,hgk,hsk,hg0,hs0,io_set',hB.len,he,k51',hl8,t8,d8,hls,t64,e2]
    · have e1 : (j + 1) / 64 = j / 64 := by omega
      have e2 : (j + 1) % 64 = j % 64 + 1 := by omega
      have hne : ((j % 64 : Nat) : Int) + 1 ≠ 64 := by omega
      simp (maxSteps := 2000000) (discharger := omega) only [xc,xo,xr,x0,x1,x5,xd,xe,wr,Reg.isA,Reg.isV,Reg.stays,Reg.onto,Bool.or_false,Bool.and_false,↓reduceIte,reduceCtorEq,Nat.reduceEqDiff,Nat.reduceLT,Nat.reduceAdd,Nat.zero_add,Nat.not_lt_zero,Nat.zero_ne_one,Bool.false_eq_true,Option.map_some,and_self,and_true,List.length_cons,List.length_nil,List.any_nil,List.any_cons,Int.toNat_natCast,Int.cast_ofNat_Int,Option.some.injEq,exists_eq_left',List.getElem?_cons_zero,List.getElem?_cons_succ,xu,List.set_cons_zero,List.set_cons_succ,wrap_i64,int_lt_t,int_le_t,int_beq_f,hgk,hsk,io_set',hB.len,e1,e2,Nat.mul_one,nat_lt_t',Int.natCast_add]
  · refine ⟨by simp [hB.len], fun x hx => ?_, fun t ht => ?_⟩
    · rcases mem_set_or hx with hx | rfl
      · exact hB.rng x hx
      · exact hr
    · rw [set_getD' _ _ _ _ (by rw [hB.len]; exact hm)]
      split
      · rename_i e; congr 1; omega
      · rw [hB.is t (by omega)]; congr 1; omega

theorem byt_of {p : By} {j : Nat} {b : UInt8} (h : p[j]? = some b) : byt p j = (b.toNat : Nat) := by
  unfold byt; rw [List.getD, h]; rfl
theorem pad_s (s : By) (i : Nat) (hi : i < s.length) : byt (padR s) i = ((s[i].toNat : Nat) : Int) := byt_of (by
  unfold padR
  rw [List.append_assoc, List.append_assoc, List.getElem?_append_left hi, List.getElem?_eq_getElem hi])
theorem pad_1 (s : By) : byt (padR s) s.length = 128 := byt_of (b := 128) (by
  unfold padR
  rw [List.append_assoc, List.append_assoc, List.getElem?_append_right (Nat.le_refl _), Nat.sub_self]; rfl)
theorem pad_z (s : By) (k : Nat) (hk : k < padZ s) : byt (padR s) (s.length + 1 + k) = 0 := byt_of (b := 0) (by
  unfold padR
  rw [List.getElem?_append_left (by simp; omega), List.getElem?_append_right (by simp <;> omega), List.getElem?_replicate, if_pos (by simp; omega)])
theorem lenB_get (s : By) : ∀ k j, j < k → (lenB s k)[j]? = some (UInt8.ofNat (s.length * 8 / 256 ^ (7 - j) % 256))
  | 0, j, h => by omega
  | k + 1, j, h => by
    unfold lenB
    by_cases e : j < k
    · rw [List.getElem?_append_left (by rw [lenB_len]; exact e)]; exact lenB_get s k j e
    · obtain rfl : j = k := by omega
      rw [List.getElem?_append_right (by rw [lenB_len]; omega), lenB_len, Nat.sub_self]; rfl
theorem pad_l (s : By) (k : Nat) (hk : k < 8) : byt (padR s) (s.length + 1 + padZ s + k) = ((s.length * 8 / 256 ^ (7 - k) % 256 : Nat) : Int) := by
  rw [byt_of (b := UInt8.ofNat (s.length * 8 / 256 ^ (7 - k) % 256))]
  · exact u8_nat _ (Nat.mod_lt _ (by decide))
  · unfold padR
    rw [List.getElem?_append_right (by simp; omega)]
    simp only [List.length_append,List.length_cons,List.length_nil,List.length_replicate]
    rw [show s.length + 1 + padZ s + k - (s.length + (0 + 1) + padZ s) = k by omega]
    exact lenB_get s 8 k hk

theorem divI_N (x : Nat) (hx : x < 4294967296) : ∀ k, divI (x : Int) k = ((x / 256 ^ k : Nat) : Int)
  | 0 => by simp [divI]
  | k + 1 => by
    have hle : x / 256 ^ k ≤ x := Nat.div_le_self _ _
    show div32 (divI x k) 256 = _
    rw [divI_N x hx k, Nat.pow_succ, ← Nat.div_div_eq_div_mul]
    generalize x / 256 ^ k = y at *
    unfold div32
    rw [tdiv_pos (by omega), show ((y : Nat) : Int) / 256 = ((y / 256 : Nat) : Int) by omega, wrapN _ (by omega)]
theorem byte_fd {x : Int} (h : R32 x) (k : Nat) (hk : k < 4) : IntKind.u8.wrap (x.fdiv (2 ^ (24 - 8 * k))) = byteI x (3 - k) := by
  obtain ⟨n, rfl, hn⟩ := h.nat
  unfold byteI
  rw [divI_N n hn]
  have hp : (2 : Int) ^ (24 - 8 * k) = ((256 ^ (3 - k) : Nat) : Int) := by
    match k, hk with
    | 0, _ => rfl
    | 1, _ => rfl
    | 2, _ => rfl
    | 3, _ => rfl
  rw [hp, Int.fdiv_eq_ediv_of_nonneg _ (Int.natCast_nonneg _)]
  have : ((n : Nat) : Int) / ((256 ^ (3 - k) : Nat) : Int) = ((n / 256 ^ (3 - k) : Nat) : Int) := by simp
  rw [this, tmod_pos (Int.natCast_nonneg _)]
  generalize n / 256 ^ (3 - k) = y
  have w : ∀ z : Int, IntKind.u8.wrap z = z % 256 := fun z => by
    simp [IntKind.wrap,IntKind.signed,IntKind.bits]
  rw [w, w]; omega

set_option maxRecDepth 100000 in
theorem c19 (s : By) (c : Cap) (hs : s.length ≤ 1000000000) (hn : s.length + 200 < n) : ∃ h', call F n tot ω 19 [.imm 1 [.str s] c] h = some (.agg (intsOf .u8 (shaR s)), h') ∧ Below h.length h h' := by
  obtain ⟨n, rfl⟩ : ∃ m, n = m + 1 := ⟨n - 1, by omega⟩
  suffices hx : ∃ v2 h', call F (n + 1) tot ω 19 [.imm 1 [.str s] c] h = some (v2, h') ∧ v2 = .agg (intsOf .u8 (shaR s)) ∧ Below h.length h h' by
    obtain ⟨v2, h', e1, rfl, e2⟩ := hx
    exact ⟨h', e1, e2⟩
  refine call_of (fn := a19) f19 (P := fun v2 h' => v2 = .agg (intsOf .u8 (shaR s)) ∧ Below h.length h h') ?_
  have q0 : [AV.int .u32 1779033703, AV.int .u32 3144134277, AV.int .u32 1013904242, AV.int .u32 2773480762, AV.int .u32 1359893119, AV.int .u32 2600822924, AV.int .u32 528734635, AV.int .u32 1541459225] = intsOf .u32 s0.list := rfl
  have z32 : (AV.agg [AV.int .u8 0, AV.int .u8 0, AV.int .u8 0, AV.int .u8 0, AV.int .u8 0, AV.int .u8 0, AV.int .u8 0, AV.int .u8 0, AV.int .u8 0, AV.int .u8 0, AV.int .u8 0, AV.int .u8 0, AV.int .u8 0, AV.int .u8 0, AV.int .u8 0, AV.int .u8 0, AV.int .u8 0, AV.int .u8 0, AV.int .u8 0, AV.int .u8 0, AV.int .u8 0, AV.int .u8 0, AV.int .u8 0, AV.int .u8 0, AV.int .u8 0, AV.int .u8 0, AV.int .u8 0, AV.int .u8 0, AV.int .u8 0, AV.int .u8 0, AV.int .u8 0, AV.int .u8 0] : AV) = .agg (intsOf .u8 Z32R) := rfl
  have hz : Z32R.length = 32 := rfl
  unfold a19
  rw [z32]
  simp (maxSteps := 2000000) (discharger := omega) only [xc,xo,xr,x0,x3,x4,x5,xd,wr,place,partVals,List.drop_zero,List.nil_append,List.append_nil,List.take_zero,List.cons_append,List.take_succ_cons,List.drop_succ_cons,List.drop_nil,Reg.isA,Reg.isV,Reg.stays,Reg.onto,Bool.or_false,Bool.and_false,Bool.or_true,↓reduceIte,reduceCtorEq,Nat.reduceEqDiff,Nat.reduceLT,Nat.reduceAdd,Nat.zero_add,Nat.not_lt_zero,Bool.false_eq_true,Option.map_some,and_self,List.length_cons,List.length_nil,List.any_nil,List.any_cons,Int.cast_ofNat_Int,List.getElem?_cons_zero,List.getElem?_cons_succ,xu,List.set_cons_zero,List.set_cons_succ,nat_le_t,List.set_cons_zero,List.set_cons_succ,hgk,hsk,hg0,hs0,List.length_append,List.append_assoc]
  rw [q0]
  generalize hp : padR s = p
  obtain ⟨p1, p2⟩ := padR_len s
  have hZ := padZ_lt s
  rw [hp] at p1 p2
  have g2 : ∀ j B, (HS h p j B)[h.length + 2]? = some (.row 1 [.int .i64 (j % 64 : Nat)]) := fun j B => by unfold HS; rw [hgk]; rfl
  have g0 : ∀ j B, (HS h p j B)[h.length]? = some (.row 8 [.agg (intsOf .u32 (blksR p (j / 64)).list)]) := fun j B => by unfold HS; rw [hg0]; rfl
  refine wpi_loop (fun x r g => ∃ i k B, r = [(2, .var (.agg (intsOf .u8 Z32R))), (3, .val (.ptr h.length 8 0 0)), (5, .val (.ptr (h.length + 2) 1 0 0)), (6, .val (.int .u64 (k : Nat))), (7, .val (.fn (.func 50) [] [.ptr (h.length + 1) 64 0 0, .ptr (h.length + 2) 1 0 0, .ptr h.length 8 0 0])), (18, .val (.imm 1 [.str s] c)), (19, .val (.int .i64 1)), (20, .val (.int .i64 (i : Nat)))] ∧ x = 1 - i ∧ (i = 0 ∧ k = 0 ∨ i = 1 ∧ k = s.length) ∧ g = HS h p k B ∧ BOk p k B) 1 (by omega)
    ⟨0, 0, List.replicate 64 0, rfl, rfl, .inl ⟨rfl, rfl⟩, rfl, z64_ok p⟩ ?_
  rintro x r g ⟨i, k, B, rfl, rfl, hik, rfl, hB⟩
  have RV : ∀ (f : List (Nat × Reg)), f = f := fun _ => rfl
  rcases hik with ⟨rfl, rfl⟩ | ⟨rfl, rfl⟩
  · have wl : IntKind.u64.wrap (0 + IntKind.u64.wrap ((s.length : Nat) : Int)) = ((s.length : Nat) : Int) := by
      rw [Int.zero_add, wrap_u64 (x := IntKind.u64.wrap _) (by rw [wrap_u64 (by omega) (by omega)]; omega) (by rw [wrap_u64 (by omega) (by omega)]; omega), wrap_u64 (by omega) (by omega)]
    simp (maxSteps := 2000000) (discharger := omega) only [xc,xo,xr,x0,x1,x2,x4,xd,Reg.isA,Reg.isV,Reg.stays,Reg.onto,Bool.or_false,Bool.and_false,↓reduceIte,Nat.reduceEqDiff,Nat.reduceLT,Nat.lt_irrefl,Bool.false_eq_true,Option.map_some,and_self,List.any_nil,List.any_cons,Int.cast_ofNat_Int,Int.reduceToNat,decide_true,List.getElem?_cons_zero,int_lt_t,int_le_t,Nat.sub_zero,wl]
    refine wpi_loop (fun x r g => ∃ i B, r = [(2, .var (.agg (intsOf .u8 Z32R))), (3, .val (.ptr h.length 8 0 0)), (5, .val (.ptr (h.length + 2) 1 0 0)), (6, .val (.int .u64 (s.length : Nat))), (7, .val (.fn (.func 50) [] [.ptr (h.length + 1) 64 0 0, .ptr (h.length + 2) 1 0 0, .ptr h.length 8 0 0])), (9, .val (.str s)), (10, .val (.int .i64 (i : Nat))), (18, .val (.imm 1 [.str s] c)), (19, .val (.int .i64 1)), (20, .val (.int .i64 0))] ∧ x = s.length - i ∧ i ≤ s.length ∧ g = HS h p i B ∧ BOk p i B) s.length (by omega)
      ⟨0, B, rfl, rfl, Nat.zero_le _, rfl, hB⟩ ?_
    rintro x r g ⟨i, B, rfl, rfl, hi, rfl, hB⟩
    by_cases hlt : i < s.length
    · obtain ⟨B', k50, hB'⟩ := c50 (n := n) (tot := tot) (ω := ω) (h := h) p i B hB (by omega)
      have q1 : s[i]? = some s[i] := List.getElem?_eq_getElem hlt
      have q2 := pad_s s i hlt
      rw [hp] at q2
      rw [q2] at k50
      simp (maxSteps := 2000000) (discharger := omega) only [xc,xo,xr,x0,x1,x4,xd,kont_call,List.nil_append,List.cons_append,Reg.isA,Reg.isV,Reg.stays,Reg.onto,Bool.or_false,Bool.and_false,↓reduceIte,Nat.reduceEqDiff,Nat.reduceLT,Nat.lt_irrefl,Bool.false_eq_true,Option.map_some,List.any_nil,List.any_cons,Int.toNat_natCast,decide_true,wrap_i64,int_lt_t,int_le_t,q1,k50]
      exact ⟨s.length - (i + 1), by omega, i + 1, B', by rw [show ((i : Nat) : Int) + 1 = ((i + 1 : Nat) : Int) by omega], rfl, by omega, rfl, hB'⟩
    · obtain rfl : i = s.length := by omega
      simp (maxSteps := 2000000) (discharger := omega) only [xc,xo,xr,x0,x1,x4,xd,Reg.isA,Reg.isV,Reg.stays,Reg.onto,Bool.or_false,Bool.and_false,↓reduceIte,Nat.reduceEqDiff,Nat.reduceLT,Nat.lt_irrefl,Bool.false_eq_true,Option.map_some,List.any_nil,List.any_cons,Int.reduceAdd,decide_false,wrap_i64,int_lt_f,Nat.sub_self]
      exact ⟨0, by omega, 1, s.length, B, rfl, rfl, .inr ⟨rfl, rfl⟩, rfl, hB⟩
  · obtain ⟨B', k50, hB'⟩ := c50 (n := n) (tot := tot) (ω := ω) (h := h) p s.length B hB (by omega)
    have q2 := pad_1 s
    rw [hp] at q2
    rw [q2] at k50
    simp (maxSteps := 2000000) (discharger := omega) only [xc,xo,xr,x0,x1,xd,kont_call,List.nil_append,List.cons_append,Reg.isA,Reg.isV,Reg.stays,Reg.onto,Bool.or_false,Bool.and_false,↓reduceIte,Nat.reduceEqDiff,Nat.reduceLT,Bool.false_eq_true,Option.map_some,List.any_nil,List.any_cons,Int.cast_ofNat_Int,decide_false,int_lt_f,Nat.sub_self,k50]
    refine wpi_loop (fun x r g => ∃ k B, r = [(2, .var (.agg (intsOf .u8 Z32R))), (3, .val (.ptr h.length 8 0 0)), (5, .val (.ptr (h.length + 2) 1 0 0)), (6, .val (.int .u64 (s.length : Nat))), (7, .val (.fn (.func 50) [] [.ptr (h.length + 1) 64 0 0, .ptr (h.length + 2) 1 0 0, .ptr h.length 8 0 0]))] ∧ x = padZ s - k ∧ k ≤ padZ s ∧ g = HS h p (s.length + 1 + k) B ∧ BOk p (s.length + 1 + k) B) (padZ s) (by omega)
      ⟨0, B', rfl, rfl, Nat.zero_le _, rfl, hB'⟩ ?_
    rintro x r g ⟨k, B, rfl, rfl, hk, rfl, hB⟩
    by_cases hlt : k < padZ s
    · obtain ⟨B', k50, hB'⟩ := c50 (n := n) (tot := tot) (ω := ω) (h := h) p (s.length + 1 + k) B hB (by omega)
      have q2 := pad_z s k hlt
      rw [hp] at q2
      rw [q2] at k50
      have hne : (((s.length + 1 + k) % 64 : Nat) : Int) ≠ 56 := by unfold padZ at hlt; omega
      simp (maxSteps := 2000000) (discharger := omega) only [xc,xo,xr,x0,x1,xd,kont_call,List.nil_append,List.cons_append,Reg.isA,Reg.isV,Reg.stays,Reg.onto,Bool.or_false,Bool.and_false,↓reduceIte,Nat.reduceEqDiff,Nat.reduceLT,Bool.false_eq_true,Option.map_some,true_and,List.any_nil,List.any_cons,List.getElem?_cons_zero,int_bne_t,g2,k50]
      exact ⟨padZ s - (k + 1), by omega, k + 1, B', rfl, by omega, rfl, hB'⟩
    · obtain rfl : k = padZ s := by omega
      have heq : (((s.length + 1 + padZ s) % 64 : Nat) : Int) = 56 := by unfold padZ; omega
      simp (maxSteps := 2000000) (discharger := omega) only [xc,xo,xr,x0,x1,xd,Reg.isA,Reg.isV,Reg.stays,Reg.onto,Bool.or_false,Bool.and_false,↓reduceIte,Nat.reduceEqDiff,Nat.reduceLT,Bool.false_eq_true,Option.map_some,List.any_nil,List.any_cons,List.getElem?_cons_zero,int_bne_f,Nat.sub_self,g2]
      refine wpi_loop (fun x r g => ∃ (q : Nat) (B : List Int), r = [(2, .var (.agg (intsOf .u8 Z32R))), (3, .val (.ptr h.length 8 0 0)), (6, .val (.int .u64 (s.length : Nat))), (7, .val (.fn (.func 50) [] [.ptr (h.length + 1) 64 0 0, .ptr (h.length + 2) 1 0 0, .ptr h.length 8 0 0])), (11, .val (.int .i64 (56 - 8 * (q : Int))))] ∧ x = 8 - q ∧ q ≤ 8 ∧ g = HS h p (s.length + 1 + padZ s + q) B ∧ BOk p (s.length + 1 + padZ s + q) B) 8 (by omega)
        ⟨0, B, rfl, rfl, by omega, rfl, hB⟩ ?_
      rintro x r g ⟨q, B, rfl, rfl, hq, rfl, hB⟩
      by_cases hlt : q < 8
      · obtain ⟨B', k50, hB'⟩ := c50 (n := n) (tot := tot) (ω := ω) (h := h) p (s.length + 1 + padZ s + q) B hB (by omega)
        have q2 := pad_l s q hlt
        rw [hp] at q2
        rw [q2] at k50
        have w3 : IntKind.u64.wrap (((s.length : Nat) : Int) * 2 ^ min 3 IntKind.u64.bits) = ((s.length * 8 : Nat) : Int) := by
          rw [show min 3 IntKind.u64.bits = 3 from rfl, show ((2 : Int) ^ 3) = 8 from rfl, wrap_u64 (by omega) (by omega)]; omega
        have w4 : IntKind.u8.wrap (((s.length * 8 : Nat) : Int).fdiv (2 ^ min (56 - 8 * (q : Int)).toNat IntKind.u64.bits)) = ((s.length * 8 / 256 ^ (7 - q) % 256 : Nat) : Int) := by
          have hp : (2 : Int) ^ min (56 - 8 * (q : Int)).toNat IntKind.u64.bits = ((256 ^ (7 - q) : Nat) : Int) := by
            match q, hlt with
            | 0, _ => rfl
            | 1, _ => rfl
            | 2, _ => rfl
            | 3, _ => rfl
            | 4, _ => rfl
            | 5, _ => rfl
            | 6, _ => rfl
            | 7, _ => rfl
          rw [hp, Int.fdiv_eq_ediv_of_nonneg _ (Int.natCast_nonneg _)]
          have : ((s.length * 8 : Nat) : Int) / ((256 ^ (7 - q) : Nat) : Int) = ((s.length * 8 / 256 ^ (7 - q) : Nat) : Int) := by simp
          rw [this]
          generalize s.length * 8 / 256 ^ (7 - q) = y
          have w : ∀ z : Int, IntKind.u8.wrap z = z % 256 := fun z => by simp [IntKind.wrap,IntKind.signed,IntKind.bits]
          rw [w]; omega
        simp (maxSteps := 2000000) (discharger := omega) only [xc,xo,xr,x0,x1,x2,xd,kont_call,List.nil_append,List.cons_append,Reg.isA,Reg.isV,Reg.stays,Reg.onto,Bool.or_false,Bool.and_false,↓reduceIte,Nat.reduceEqDiff,Nat.reduceLT,Nat.lt_irrefl,Bool.false_eq_true,Option.map_some,List.any_nil,List.any_cons,Int.reduceToNat,decide_true,wrap_i64,int_lt_f,int_le_t,w3,w4,k50]
        exact ⟨8 - (q + 1), by omega, q + 1, B', by rw [show 56 - 8 * (q : Int) - 8 = 56 - 8 * ((q + 1 : Nat) : Int) by omega], rfl, by omega, rfl, hB'⟩
      · obtain rfl : q = 8 := by omega
        have hM : (s.length + 1 + padZ s + 8) / 64 = p.length / 64 := by rw [p2]; congr 1; omega
        have hl8 : ∀ s : S8, s.list.length = 8 := fun _ => rfl
        have t8 : ∀ s : S8, (intsOf .u32 s.list).take 8 = intsOf .u32 s.list := fun _ => rfl
        have hR := blks_R p (p.length / 64)
        have hsha : shaR s = keyI (blksR p (p.length / 64)).list := by unfold shaR; rw [hp]
        rw [hsha]
        have hBel : Below h.length h (HS h p (s.length + 1 + padZ s + 8) B) := .app _ _ _ (Nat.le_refl _)
        have g0' := g0 (s.length + 1 + padZ s + 8) B
        rw [hM] at g0'
        generalize HS h p (s.length + 1 + padZ s + 8) B = hh at *
        simp (maxSteps := 2000000) (discharger := omega) only [xc,xo,xr,x0,x1,xd,xe,List.drop_zero,Reg.isA,Reg.isV,Reg.stays,Reg.onto,Bool.or_false,Bool.and_false,Bool.or_true,↓reduceIte,Nat.reduceEqDiff,Nat.reduceLT,Nat.zero_add,Bool.false_eq_true,Option.map_some,List.any_nil,List.any_cons,Int.cast_ofNat_Int,Int.reduceNeg,Int.reduceMul,Int.reduceSub,decide_false,List.getElem?_cons_zero,int_le_f,nat_le_t,Nat.sub_self,g0',hl8,t8]
        have hRL : ∀ i, R32 ((blksR p (p.length / 64)).list.getD i 0) := fun i => by
          refine getD_R (fun x hx => ?_) i
          simp only [S8.list,List.mem_cons,List.not_mem_nil,or_false] at hx
          rcases hx with rfl | rfl | rfl | rfl | rfl | rfl | rfl | rfl
          · exact hR.a
          · exact hR.b
          · exact hR.c
          · exact hR.d
          · exact hR.e
          · exact hR.f
          · exact hR.g
          · exact hR.h
        have hL := hl8 (blksR p (p.length / 64))
        generalize (blksR p (p.length / 64)).list = L at *
        refine wpi_loop (fun x r g => ∃ (i : Nat) (K : List Int), r = [(2, .var (.agg (intsOf .u8 Z32R))), (12, .var (.agg (intsOf .u8 K))), (58, .val (.agg (intsOf .u32 L))), (59, .val (.int .i64 i))] ∧ x = 8 - i ∧ i ≤ 8 ∧ g = hh ∧ K.length = 32 ∧ ∀ t, t < 4 * i → K.getD t 0 = (keyI L).getD t 0) 8 (by omega)
          ⟨0, Z32R, rfl, rfl, by omega, rfl, rfl, fun t ht => absurd ht (by simp)⟩ ?_
        rintro x r g ⟨i, K, rfl, rfl, hi, rfl, hK, hg⟩
        by_cases hi2 : i < 8
        · have qi := io_get' (k := .u32) (l := L) (j := i) (by omega)
          simp (maxSteps := 2000000) (discharger := omega) only [xc,xo,xr,x0,x1,xd,Reg.isA,Reg.isV,Reg.stays,Reg.onto,Bool.or_false,Bool.and_false,↓reduceIte,Nat.reduceEqDiff,Nat.reduceLT,Bool.false_eq_true,Option.map_some,and_self,List.any_nil,List.any_cons,Int.toNat_natCast,Int.cast_ofNat_Int,decide_true,int_lt_t,int_le_t,qi,Nat.mul_one]
          refine wpi_loop (fun x r g2 => ∃ (q : Nat) (K2 : List Int), r = [(2, .var (.agg (intsOf .u8 Z32R))), (12, .var (.agg (intsOf .u8 K2))), (13, .val (.int .i64 i)), (14, .val (.int .u32 (L.getD i 0))), (58, .val (.agg (intsOf .u32 L))), (59, .val (.int .i64 i)), (63, .val (.int .i64 q))] ∧ x = 4 - q ∧ q ≤ 4 ∧ g2 = g ∧ K2.length = 32 ∧
            (∀ t, t < 4 * i + q → K2.getD t 0 = (keyI L).getD t 0)) 4 (by omega)
            ⟨0, K, rfl, rfl, by omega, rfl, hK, hg⟩ ?_
          rintro x r g2 ⟨q, K2, rfl, rfl, hq, rfl, hK2, hg2⟩
          by_cases hq4 : q < 4
          · have e1 : (4 * (i : Int) + (q : Int)).toNat = 4 * i + q := by omega
            have e2 : (24 - 8 * (q : Int)).toNat = 24 - 8 * q := by omega
            have e3 : min (24 - 8 * q) IntKind.u32.bits = 24 - 8 * q := by show min (24 - 8 * q) 32 = _; omega
            have e4 := byte_fd (hRL i) q hq4
            simp (maxSteps := 2000000) (discharger := omega) only [xc,xo,xr,x0,x1,x2,x5,xd,xe,wr,Reg.isA,Reg.isV,Reg.stays,Reg.onto,Bool.or_false,Bool.and_false,↓reduceIte,Nat.reduceEqDiff,Nat.reduceLT,Nat.zero_add,Nat.lt_irrefl,Bool.false_eq_true,Option.map_some,and_self,true_and,List.length_cons,List.length_nil,List.any_nil,List.any_cons,Int.cast_ofNat_Int,decide_true,xu,wrap_i64,int_lt_t,int_lt_f,int_le_t,e1,e2,e3,e4,io_set',hK2,nat_lt_t',Nat.mul_one]
            refine ⟨4 - (q + 1), by omega, q + 1, K2.set (4 * i + q) (byteI (L.getD i 0) (3 - q)), by rw [show ((q : Nat) : Int) + 1 = ((q + 1 : Nat) : Int) by omega], rfl, by omega, by simpa using hK2, fun t ht => ?_⟩
            rw [set_getD' _ _ _ _ (by omega)]
            by_cases e : t = 4 * i + q
            · rw [if_pos e, keyI_get _ _ (by omega), show t / 4 = i by omega, show t % 4 = q by omega]
            · rw [if_neg e]; exact hg2 t (by omega)
          · obtain rfl : q = 4 := by omega
            simp (maxSteps := 2000000) (discharger := omega) only [xc,xo,xr,x0,x1,xd,Reg.isA,Reg.isV,Reg.stays,Reg.onto,Bool.or_false,Bool.and_false,↓reduceIte,Nat.reduceEqDiff,Nat.reduceLT,Nat.lt_irrefl,Bool.false_eq_true,Option.map_some,true_and,List.any_nil,List.any_cons,Int.cast_ofNat_Int,decide_false,wrap_i64,int_lt_f,Nat.sub_self]
            exact ⟨8 - (i + 1), by omega, i + 1, K2, by rw [show ((i : Nat) : Int) + 1 = ((i + 1 : Nat) : Int) by omega], rfl, by omega, hK2, fun t ht => hg2 t (by omega)⟩
        · obtain rfl : i = 8 := by omega
          have : K = keyI L := by
            apply List.ext_getElem (by rw [hK, keyI_len])
            intro j h1 h2
            have := hg j (by omega)
            simpa [List.getD, h1, h2] using this
          subst this
          have ht : (intsOf .u8 (keyI L)).take 32 = intsOf .u8 (keyI L) := List.take_of_length_le (by rw [io_len', keyI_len]; exact Nat.le_refl _)
          have hd : List.drop 32 (intsOf .u8 Z32R) = [] := rfl
          simp (maxSteps := 2000000) (discharger := omega) only [xc,xo,xr,x0,x1,x5,xd,xe,wr,List.drop_zero,List.nil_append,List.append_nil,List.take_zero,Reg.isA,Reg.isV,Reg.stays,Reg.onto,Bool.or_false,Bool.and_false,↓reduceIte,Nat.reduceEqDiff,Nat.reduceLT,Nat.zero_add,Nat.lt_irrefl,Bool.false_eq_true,Option.map_some,and_self,true_and,List.any_nil,List.any_cons,Int.cast_ofNat_Int,Option.some.injEq,exists_eq_left',decide_false,xu,int_lt_f,nat_le_t,Nat.sub_self,keyI_len,ht,hd,hz]
          exact hBel
end
end Go.Proofs.YtcnbllelfinlmaaDoor.Im

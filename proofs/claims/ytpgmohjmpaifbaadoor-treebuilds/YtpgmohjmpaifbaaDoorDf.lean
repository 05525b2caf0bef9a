/- Joined: S21Cx, S21Dp, S21Fd, S21Df. -/
import Derived.Test.YtpgmohjmpaifbaaDoorCa
/- S21Cx: tree.Cut; are there unlike chunks of one key?; are parts these bytes? -/
set_option linter.unusedVariables false
set_option linter.unusedSimpArgs false
open Go Go.Im
namespace Go.Proofs.YtpgmohjmpaifbaaDoor.Im

section
variable {n : Nat} {tot : Bool} {ω : Nat → Nat} {h : Hp}

theorem c19 (c : AV) (l m M : Int) (hc : Cf c l m M) (hn : 0 < n) : call F n tot ω 19 [c] h = some (.bool (decide (okConf l m M)), h) := by
  obtain ⟨n, rfl⟩ : ∃ m, n = m + 1 := ⟨n - 1, by omega⟩
  obtain ⟨cs, rfl, hl, h8, h9, h10⟩ := hc.agg
  refine call_eq (fn := a19) f19 ?_
  by_cases hok : okConf l m M
  · rw [decide_eq_true hok]
    obtain ⟨k1, k2, k3, k4, k5⟩ := hok
    unfold a19
    simp (maxSteps := 2000000) (discharger := omega) only [xz,xc,xo,xr,x0,x1,xd,Reg.isA,Reg.isV,Reg.stays,Reg.onto,↓reduceIte,reduceCtorEq,Nat.reduceEqDiff,Nat.reduceLT,beq_self_eq_true,exists_eq_left',Nat.reduceBEq,int_le_t,hl,h8,h9,h10]
  · rw [decide_eq_false hok]
    unfold okConf at hok
    unfold a19
    by_cases e1 : l < 1
    · simp (maxSteps := 2000000) (discharger := omega) only [xz,xc,xo,xr,x0,x1,xd,xb,Reg.isA,Reg.isV,Reg.stays,Reg.onto,↓reduceIte,reduceCtorEq,Nat.reduceEqDiff,Nat.reduceLT,exists_eq_left',Nat.reduceBEq,int_le_f,hl,h8]
    · by_cases e2 : m < 1
      · simp (maxSteps := 2000000) (discharger := omega) only [xz,xc,xo,xr,x0,x1,xd,xb,Reg.isA,Reg.isV,Reg.stays,Reg.onto,↓reduceIte,reduceCtorEq,Nat.reduceEqDiff,Nat.reduceLT,beq_self_eq_true,exists_eq_left',Nat.reduceBEq,int_le_t,int_le_f,hl,h8,h9]
      · by_cases e3 : m > 65536
        · simp (maxSteps := 2000000) (discharger := omega) only [xz,xc,xo,xr,x0,x1,xd,xb,Reg.isA,Reg.isV,Reg.stays,Reg.onto,↓reduceIte,reduceCtorEq,Nat.reduceEqDiff,Nat.reduceLT,beq_self_eq_true,exists_eq_left',Nat.reduceBEq,int_le_t,int_le_f,hl,h8,h9]
        · by_cases e4 : M < l
          · simp (maxSteps := 2000000) (discharger := omega) only [xz,xc,xo,xr,x0,x1,xd,xb,Reg.isA,Reg.isV,Reg.stays,Reg.onto,↓reduceIte,reduceCtorEq,Nat.reduceEqDiff,Nat.reduceLT,beq_self_eq_true,exists_eq_left',Nat.reduceBEq,int_le_t,int_le_f,hl,h8,h9,h10]
          · have e5 : M > 4096 := by omega
            simp (maxSteps := 2000000) (discharger := omega) only [xz,xc,xo,xr,x0,x1,xd,Reg.isA,Reg.isV,Reg.stays,Reg.onto,↓reduceIte,reduceCtorEq,Nat.reduceEqDiff,Nat.reduceLT,beq_self_eq_true,exists_eq_left',Nat.reduceBEq,int_le_t,int_le_f,hl,h8,h9,h10]

end

/-! ### keys that are told apart -/
theorem tk32 (q : By) (z : List AV) : List.take 32 (intsOf .u8 (shaR q) ++ z) = intsOf .u8 (shaR q) := by
  have : (intsOf .u8 (shaR q)).length = 32 := by rw [io_len', shaR_len]
  rw [List.take_append_of_le_length (by omega), List.take_of_length_le (by omega)]
theorem tk32' (q : By) : List.take 32 (intsOf .u8 (shaR q)) = intsOf .u8 (shaR q) := List.take_of_length_le (by rw [io_len', shaR_len]; exact Nat.le_refl _)
theorem eqk (p q : By) : eqCells [CK.i, CK.i, CK.i, CK.i, CK.i, CK.i, CK.i, CK.i, CK.i, CK.i, CK.i, CK.i, CK.i, CK.i, CK.i, CK.i, CK.i, CK.i, CK.i, CK.i, CK.i, CK.i, CK.i, CK.i, CK.i, CK.i, CK.i, CK.i, CK.i, CK.i, CK.i, CK.i] (intsOf .u8 (shaR p)) (intsOf .u8 (shaR q)) = some (decide (keyOf p = keyOf q)) := by
  have := (kaEnc (ks := List.replicate 32 .i) rfl).eq (keyOf p) (keyOf q)
  simp only [eqAV,kA,if_true,List.replicate] at this
  exact this
section
variable {n : Nat} {tot : Bool} {ω : Nat → Nat} {h : Hp}

def Nc (l : List By) : Prop := ∀ p ∈ l, ∀ q ∈ l, keyOf p = keyOf q → p = q
def allP (l m M : Int) (fs : List Fl) : List By := fs.flatMap fun f => pcs (cutR l m M f.d) f.d
structure Seen (l : List By) (g : Hp) (kv tv : AV) : Prop where
  ex : ∃ a b, TokAt 32 (l.map fun p => kA (keyOf p)) g kv a ∧ TokAt 1 (l.map AV.str) g tv b ∧ (∀ x, a = some x → x < g.length ∧ b ≠ some x) ∧ (∀ x, b = some x → x < g.length)
theorem Seen.push {l : List By} {g : Hp} {kv tv : AV} (s : Seen l g kv tv) (p : By) (hl : l.length ≤ 1000000000) :
    ∃ kv' g1 tv' g2, appendV false 32 32 kv [.agg (intsOf .u8 (shaR p))] g = some (kv', g1) ∧ appendV false 1 16 tv [.str p] g1 = some (tv', g2) ∧ Seen (l ++ [p]) g2 kv' tv' ∧ kv.isRow = false ∧ tv.isRow = false := by
  obtain ⟨a, b, h1, h2, h3, h4⟩ := s.ex
  obtain ⟨kv', g1, w1, w2, w3, w4, cw, w5⟩ := tok_app (bytes := 32) (xs := [.agg (intsOf .u8 (shaR p))]) h1 (by simp) (by simp; omega)
  have h2' : TokAt 1 (l.map AV.str) g1 tv b := h2.keep fun i o hi ho => w4 i o ho fun e => (h3 i e).2 hi
  obtain ⟨tv', g2, y1, y2, y3, y4, cy, y5⟩ := tok_app (bytes := 16) (xs := [.str p]) h2' (by simp) (by simp; omega)
  refine ⟨kv', g1, tv', g2, w1, y1, ⟨some g.length, some g1.length, ?_, ?_, fun x hx => ?_, fun x hx => ?_⟩, h1.1.isRow, h2.1.isRow⟩
  · rw [List.map_append]
    exact w2.keep fun i o hi ho => by cases hi; exact y4 _ o ho fun e => by have := h4 _ e; omega
  · rw [List.map_append]; exact y2
  · cases hx; exact ⟨by omega, fun e => by have := Option.some.inj e; omega⟩
  · cases hx; exact y3

end
end Go.Proofs.YtpgmohjmpaifbaaDoor.Im

/- S21Dp: the plain law of where two trees differ. -/
set_option linter.unusedVariables false
set_option linter.unusedSimpArgs false
open Go Go.Im
namespace Go.Proofs.YtpgmohjmpaifbaaDoor.Im

def Rise (L : List Lf) : Prop := L.Pairwise fun x y => Op.bytesLess x.p y.p = true
def same (B : List Lf) (x : Lf) : Bool := match fnd B x.p with
  | some y => decide (x.ps = y.ps)
  | none => false
def cnt (A B : List Lf) : Nat := (A.filter (same B)).length
def both (D : List Ch) : Nat := (D.filter fun c => c.w && c.i).length

theorem bl_asymm {a b : By} (h : Op.bytesLess a b = true) : Op.bytesLess b a = false := by
  cases h2 : Op.bytesLess b a with
  | false => rfl
  | true => have := bl_trans _ _ _ h h2; rw [bl_irrefl] at this; cases this

structure DiffOk (A B : List Lf) (D : List Ch) : Prop where
  from' : ∀ c ∈ D, (∃ x ∈ A, x.p = c.p) ∨ ∃ y ∈ B, y.p = c.p
  rise : D.Pairwise fun x y => Op.bytesLess x.p y.p = true
  was : ∀ c ∈ D, (fnd A c.p).isSome = c.w
  is' : ∀ c ∈ D, (fnd B c.p).isSome = c.i
  ne : ∀ c ∈ D, ∀ x y, fnd A c.p = some x → fnd B c.p = some y → ¬ x.ps = y.ps
  num : A.length + B.length = 2 * cnt A B + D.length + both D

end Go.Proofs.YtpgmohjmpaifbaaDoor.Im

/- S21Fd: the law TreeFinds. -/
set_option linter.unusedVariables false
set_option linter.unusedSimpArgs false
open Go Go.Im
namespace Go.Proofs.YtpgmohjmpaifbaaDoor.Im
section
variable {n : Nat} {tot : Bool} {ω : Nat → Nat} {h : Hp}
theorem f10 : F 10 = some (.inr yesG) := by kernel_rfl
theorem c10 (hn : 0 < n) : call F n tot ω 10 [] h = some (.bool true, h) := by
  obtain ⟨n, rfl⟩ : ∃ m, n = m + 1 := ⟨n - 1, by omega⟩
  rw [call_inr f10]; rfl

theorem chk_zero {fs : List Fl} (h : chk fs = 0) : Tog (psOf fs) := by
  unfold chk at h
  by_cases hT : Tog (psOf fs)
  · exact hT
  · rw [if_neg hT] at h; cases h

end

end Go.Proofs.YtpgmohjmpaifbaaDoor.Im

/- S21Df: the law TreeDiffs. -/
set_option linter.unusedVariables false
set_option linter.unusedSimpArgs false
open Go Go.Im
namespace Go.Proofs.YtpgmohjmpaifbaaDoor.Im

def mir (c : Ch) : Ch := ⟨c.p, c.i, c.w⟩
section
variable {n : Nat} {tot : Bool} {ω : Nat → Nat} {h : Hp}

end

end Go.Proofs.YtpgmohjmpaifbaaDoor.Im

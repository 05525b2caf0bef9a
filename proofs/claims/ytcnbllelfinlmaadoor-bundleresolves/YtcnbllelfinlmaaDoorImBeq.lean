/- ImBeq: values, registers and heaps that are the same. -/
import Derived.Test.YtcnbllelfinlmaaDoorImDefs
namespace Go.Im

def eqReg : Reg → Reg → Bool
  | .un, .un => true
  | .val a, .val b | .var a, .var b => eqv a b
  | .adr a b, .adr a' b' => a == a' && b == b'
  | .slc a b c d, .slc a' b' c' d' => a == a' && b == b' && c == c' && d == d'
  | .hslc a b c d e f, .hslc a' b' c' d' e' f' => a == a' && b == b' && c == c' && d == d' && e == e' && f == f'
  | _, _ => false

theorem eqReg_iff (a b : Reg) : eqReg a b = true ↔ a = b := by
  constructor
  · intro h
    cases a <;> cases b <;> simp only [eqReg,Bool.false_eq_true,Bool.and_eq_true,beq_iff_eq,eqv_iff] at h <;> first | rfl | (subst h; rfl) | (simp_all)
  · rintro rfl
    cases a <;> simp [eqReg,eqv_refl]

def eqRegs : Regs → Regs → Bool
  | [], [] => true
  | (t, a) :: r, (u, b) :: s => t == u && eqReg a b && eqRegs r s
  | _, _ => false

theorem eqRegs_iff : ∀ (a b : Regs), eqRegs a b = true ↔ a = b
  | [], [] => by simp [eqRegs]
  | [], _ :: _ => by simp [eqRegs]
  | _ :: _, [] => by simp [eqRegs]
  | (t, a) :: r, (u, b) :: s => by simp [eqRegs,eqReg_iff,eqRegs_iff r s,and_assoc]

def eqEs : List (AV × AV × Nat) → List (AV × AV × Nat) → Bool
  | [], [] => true
  | (k, v, b) :: r, (k', v', b') :: s => eqv k k' && eqv v v' && b == b' && eqEs r s
  | _, _ => false

theorem eqEs_iff : ∀ (a b : List (AV × AV × Nat)), eqEs a b = true ↔ a = b
  | [], [] => by simp [eqEs]
  | [], _ :: _ => by simp [eqEs]
  | _ :: _, [] => by simp [eqEs]
  | (k, v, b) :: r, (k', v', b') :: s => by simp [eqEs,eqv_iff,eqEs_iff r s,and_assoc]

def eqAO : AO → AO → Bool
  | .row s es, .row s' es' => s == s' && eqvs es es'
  | .map es c, .map es' c' => eqEs es es' && c == c'
  | .iter m a b c, .iter m' a' b' c' => m == m' && a == a' && b == b' && c == c'
  | .tail a b, .tail a' b' => a == a' && b == b'
  | .dead, .dead => true
  | .loop r ps hd bd st pd, .loop r' ps' hd' bd' st' pd' => eqRegs r r' && ps == ps' && decide (hd = hd') && decide (bd = bd') && st == st' && decide (pd = pd')
  | _, _ => false

theorem eqAO_iff (a b : AO) : eqAO a b = true ↔ a = b := by
  cases a <;> cases b <;> simp [eqAO,eqvs_iff,eqEs_iff,eqRegs_iff,and_assoc]

def eqHp : Hp → Hp → Bool
  | [], [] => true
  | a :: as, b :: bs => eqAO a b && eqHp as bs
  | _, _ => false

theorem eqHp_iff : ∀ (a b : Hp), eqHp a b = true ↔ a = b
  | [], [] => by simp [eqHp]
  | [], _ :: _ => by simp [eqHp]
  | _ :: _, [] => by simp [eqHp]
  | a :: r, b :: s => by simp [eqHp,eqAO_iff,eqHp_iff r s]

end Go.Im

/- ImBeq: values, registers and heaps that are the same. -/
import Derived.Test.YtlognommhffmcaaImDefs
namespace Go.Im

mutual
def eqv : AV → AV → Bool
  | .bool a, .bool b => a == b
  | .int k a, .int j b => k == j && a == b
  | .str a, .str b => a == b
  | .agg a, .agg b => eqvs a b
  | .tup a, .tup b => eqvs a b
  | .nilp, .nilp => true
  | .ptr a b c d, .ptr a' b' c' d' => a == a' && b == b' && c == c' && d == d'
  | .iptr a, .iptr b => eqv a b
  | .nils, .nils => true
  | .imm s es c, .imm s' es' c' => s == s' && eqvs es es' && decide (c = c')
  | .row a b c d e, .row a' b' c' d' e' => a == a' && b == b' && c == c' && d == d' && e == e'
  | .nilm, .nilm => true
  | .mp a, .mp b => a == b
  | .nilf, .nilf => true
  | .fn f a c, .fn f' a' c' => f == f' && eqvs a a' && eqvs c c'
  | .nili, .nili => true
  | .ifc t v, .ifc t' v' => t == t' && eqv v v'
  | _, _ => false
def eqvs : List AV → List AV → Bool
  | [], [] => true
  | a :: as, b :: bs => eqv a b && eqvs as bs
  | _, _ => false
end

mutual
theorem eqv_eq : ∀ (a b : AV), eqv a b = true → a = b
  | .bool a, b, h => by cases b <;> simp_all [eqv]
  | .int k a, b, h => by cases b <;> simp_all [eqv]
  | .str a, b, h => by cases b <;> simp_all [eqv]
  | .agg a, b, h => by
    cases b <;> simp only [eqv,Bool.false_eq_true] at h
    rw [eqvs_eq a _ h]
  | .tup a, b, h => by
    cases b <;> simp only [eqv,Bool.false_eq_true] at h
    rw [eqvs_eq a _ h]
  | .nilp, b, h => by cases b <;> simp_all [eqv]
  | .ptr _ _ _ _, b, h => by cases b <;> simp_all [eqv]
  | .iptr a, b, h => by
    cases b <;> simp only [eqv,Bool.false_eq_true] at h
    rw [eqv_eq a _ h]
  | .nils, b, h => by cases b <;> simp_all [eqv]
  | .imm s es c, b, h => by
    cases b <;> simp only [eqv,Bool.false_eq_true,Bool.and_eq_true,beq_iff_eq,decide_eq_true_eq] at h
    obtain ⟨⟨rfl, h2⟩, rfl⟩ := h
    rw [eqvs_eq es _ h2]
  | .row .., b, h => by cases b <;> simp_all [eqv]
  | .nilm, b, h => by cases b <;> simp_all [eqv]
  | .mp _, b, h => by cases b <;> simp_all [eqv]
  | .nilf, b, h => by cases b <;> simp_all [eqv]
  | .fn f a c, b, h => by
    cases b <;> simp only [eqv,Bool.false_eq_true,Bool.and_eq_true,beq_iff_eq] at h
    obtain ⟨⟨rfl, h2⟩, h3⟩ := h
    rw [eqvs_eq a _ h2, eqvs_eq c _ h3]
  | .nili, b, h => by cases b <;> simp_all [eqv]
  | .ifc t v, b, h => by
    cases b <;> simp only [eqv,Bool.false_eq_true,Bool.and_eq_true,beq_iff_eq] at h
    obtain ⟨rfl, h2⟩ := h
    rw [eqv_eq v _ h2]
theorem eqvs_eq : ∀ (a b : List AV), eqvs a b = true → a = b
  | [], b, h => by cases b <;> simp_all [eqvs]
  | a :: as, b, h => by
    cases b <;> simp only [eqvs,Bool.false_eq_true,Bool.and_eq_true] at h
    rw [eqv_eq a _ h.1, eqvs_eq as _ h.2]
end

mutual
theorem eqv_refl : ∀ (a : AV), eqv a a = true
  | .bool a => by simp [eqv]
  | .int k a => by simp [eqv]
  | .str a => by simp [eqv]
  | .agg a => by simp [eqv,eqvs_refl a]
  | .tup a => by simp [eqv,eqvs_refl a]
  | .nilp => rfl
  | .ptr _ _ _ _ => by simp [eqv]
  | .iptr a => by simp [eqv,eqv_refl a]
  | .nils => rfl
  | .imm s es c => by simp [eqv,eqvs_refl es]
  | .row .. => by simp [eqv]
  | .nilm => rfl
  | .mp _ => by simp [eqv]
  | .nilf => rfl
  | .fn f a c => by simp [eqv,eqvs_refl a,eqvs_refl c]
  | .nili => rfl
  | .ifc t v => by simp [eqv,eqv_refl v]
theorem eqvs_refl : ∀ (a : List AV), eqvs a a = true
  | [] => rfl
  | a :: as => by simp [eqvs,eqv_refl a,eqvs_refl as]
end

theorem eqv_iff (a b : AV) : eqv a b = true ↔ a = b := ⟨eqv_eq a b, fun h => h ▸ eqv_refl a⟩
theorem eqvs_iff (a b : List AV) : eqvs a b = true ↔ a = b := ⟨eqvs_eq a b, fun h => h ▸ eqvs_refl a⟩

def eqReg : Reg → Reg → Bool
  | .un, .un => true
  | .val a, .val b | .var a, .var b => eqv a b
  | .adr a b, .adr a' b' => a == a' && b == b'
  | .slc a b c d, .slc a' b' c' d' => a == a' && b == b' && c == c' && d == d'
  | .hslc a b c d e f, .hslc a' b' c' d' e' f' => a == a' && b == b' && c == c' && d == d' && e == e' && f == f'
  | _, _ => false

theorem eqReg_iff (a b : Reg) : eqReg a b = true ↔ a = b := by
  constructor
  · intro h
    cases a <;> cases b <;> simp only [eqReg,Bool.false_eq_true,Bool.and_eq_true,beq_iff_eq,eqv_iff] at h <;> first | rfl | (subst h; rfl) | (simp_all)
  · rintro rfl
    cases a <;> simp [eqReg,eqv_refl]

def eqRegs : Regs → Regs → Bool
  | [], [] => true
  | (t, a) :: r, (u, b) :: s => t == u && eqReg a b && eqRegs r s
  | _, _ => false

theorem eqRegs_iff : ∀ (a b : Regs), eqRegs a b = true ↔ a = b
  | [], [] => by simp [eqRegs]
  | [], _ :: _ => by simp [eqRegs]
  | _ :: _, [] => by simp [eqRegs]
  | (t, a) :: r, (u, b) :: s => by simp [eqRegs,eqReg_iff,eqRegs_iff r s,and_assoc]

def eqEs : List (AV × AV × Nat) → List (AV × AV × Nat) → Bool
  | [], [] => true
  | (k, v, b) :: r, (k', v', b') :: s => eqv k k' && eqv v v' && b == b' && eqEs r s
  | _, _ => false

theorem eqEs_iff : ∀ (a b : List (AV × AV × Nat)), eqEs a b = true ↔ a = b
  | [], [] => by simp [eqEs]
  | [], _ :: _ => by simp [eqEs]
  | _ :: _, [] => by simp [eqEs]
  | (k, v, b) :: r, (k', v', b') :: s => by simp [eqEs,eqv_iff,eqEs_iff r s,and_assoc]

def eqAO : AO → AO → Bool
  | .row s es, .row s' es' => s == s' && eqvs es es'
  | .map es c, .map es' c' => eqEs es es' && c == c'
  | .iter m a b c, .iter m' a' b' c' => m == m' && a == a' && b == b' && c == c'
  | .tail a b, .tail a' b' => a == a' && b == b'
  | .dead, .dead => true
  | _, _ => false

theorem eqAO_iff (a b : AO) : eqAO a b = true ↔ a = b := by
  cases a <;> cases b <;> simp [eqAO,eqvs_iff,eqEs_iff,and_assoc]

def eqHp : Hp → Hp → Bool
  | [], [] => true
  | a :: as, b :: bs => eqAO a b && eqHp as bs
  | _, _ => false

theorem eqHp_iff : ∀ (a b : Hp), eqHp a b = true ↔ a = b
  | [], [] => by simp [eqHp]
  | [], _ :: _ => by simp [eqHp]
  | _ :: _, [] => by simp [eqHp]
  | a :: r, b :: s => by simp [eqHp,eqAO_iff,eqHp_iff r s]

end Go.Im

/- ImWp: proofs about the idealised machine's code: rules, one for each form of code. -/
import Derived.Test.YtcnbllelfinlmaaDoorImDrawA
set_option linter.unusedVariables false
namespace Go.Im

def Wp (K : Kont) (n : Nat) (c : AC) (r : Regs) (h : Hp) (Q : AE → Regs → Hp → Prop) : Prop := ∃ e r' h', exec K n c (r, h) = some (e, (r', h')) ∧ Q e r' h'

variable {K : Kont} {n : Nat} {c a b : AC} {r r' : Regs} {h h' : Hp} {Q R : AE → Regs → Hp → Prop}

theorem Wp.mono (hw : Wp K n c r h Q) (hm : ∀ e r' h', Q e r' h' → R e r' h') : Wp K n c r h R :=
  let ⟨e, r', h', h1, h2⟩ := hw; ⟨e, r', h', h1, hm e r' h' h2⟩

theorem wpi_skip (hq : Q .normal r h) : Wp K n .skip r h Q := ⟨_, _, _, rfl, hq⟩
theorem wpi_ret (hq : Q .ret r h) : Wp K n .ret r h Q := ⟨_, _, _, rfl, hq⟩
theorem wpi_exit {i : Nat} (hq : Q (.exit i) r h) : Wp K n (.exit i) r h Q := ⟨_, _, _, rfl, hq⟩

def Then (K : Kont) (n : Nat) (b : AC) (Q : AE → Regs → Hp → Prop) : AE → Regs → Hp → Prop
  | .normal, r, h => Wp K n b r h Q
  | e, r, h => Q e r h

theorem wpi_seq (hw : Wp K n a r h (Then K n b Q)) : Wp K n (.seq a b) r h Q := by
  obtain ⟨e, r', h', h1, h2⟩ := hw
  cases e with
  | normal =>
    obtain ⟨e, r2, h3, h4, h5⟩ := h2
    exact ⟨e, r2, h3, by simp only [exec,h1,h4], h5⟩
  | exit i => exact ⟨_, _, _, by simp only [exec,h1], h2⟩
  | ret => exact ⟨_, _, _, by simp only [exec,h1], h2⟩

def InBlock (i : Nat) (Q : AE → Regs → Hp → Prop) : AE → Regs → Hp → Prop
  | .exit j, r, h => if j = i then Q .normal r h else Q (.exit j) r h
  | e, r, h => Q e r h

theorem wpi_block {i : Nat} (hw : Wp K n b r h (InBlock i Q)) : Wp K n (.block i b) r h Q := by
  obtain ⟨e, r', h', h1, h2⟩ := hw
  cases e with
  | normal => exact ⟨_, _, _, by simp only [exec,h1], h2⟩
  | ret => exact ⟨_, _, _, by simp only [exec,h1], h2⟩
  | exit j =>
    simp only [InBlock] at h2
    split at h2
    · rename_i hj; exact ⟨_, _, _, by simp only [exec,h1,if_pos hj], h2⟩
    · rename_i hj; exact ⟨_, _, _, by simp only [exec,h1,if_neg hj], h2⟩

theorem wpi_cond {x : AX} (v : Bool) (hv : vl r x = some (.bool v)) (h1 : v = true → Wp K n a r h Q) (h2 : v = false → Wp K n b r h Q) : Wp K n (.cond x a b) r h Q := by
  cases v with
  | true => obtain ⟨e, r', h', h3, h4⟩ := h1 rfl; exact ⟨e, r', h', by simp only [exec,hv,h3], h4⟩
  | false => obtain ⟨e, r', h', h3, h4⟩ := h2 rfl; exact ⟨e, r', h', by simp only [exec,hv,h3], h4⟩

theorem wpi_region {ord : List Nat} {ops : List AOper} {ks : List Nat} (he : execs K ops r h = some (r', h')) (hq : Q .normal (settle ks r') h') : Wp K n (.region ord ops ks) r h Q :=
  ⟨_, _, _, by simp only [exec,he], hq⟩

def LoopP (I : Nat → Regs → Hp → Prop) (k : Nat) (Q : AE → Regs → Hp → Prop) : AE → Regs → Hp → Prop
  | .normal, r, h => ∃ j, j < k ∧ I j r h
  | e, r, h => Q e r h

theorem wpi_loop (I : Nat → Regs → Hp → Prop) (k : Nat) (hk : k < n) (h0 : I k r h)
    (hr : ∀ k r h, I k r h → Wp K n b r h (LoopP I k Q)) : Wp K n (.loop b) r h Q := by
  have key : ∀ (m k : Nat) (r : Regs) (h : Hp), k < m → I k r h → ∃ e r' h', iter (exec K n b) m (r, h) = some (e, (r', h')) ∧ Q e r' h' := by
    intro m
    induction m with
    | zero => intro k r h hk; omega
    | succ m ih =>
      intro k r h hk hI
      obtain ⟨e, r', h', h1, h2⟩ := hr k r h hI
      cases e with
      | normal =>
        obtain ⟨j, hj, hI'⟩ := h2
        obtain ⟨e, r2, h2', h3, h4⟩ := ih j r' h' (by omega) hI'
        exact ⟨e, r2, h2', by simp only [iter,h1,h3], h4⟩
      | exit i => exact ⟨_, _, _, by simp only [iter,h1], h2⟩
      | ret => exact ⟨_, _, _, by simp only [iter,h1], h2⟩
  obtain ⟨e, r', h', h1, h2⟩ := key n k r h hk h0
  exact ⟨e, r', h', by simp only [exec,h1], h2⟩

def Ret (rs : List ARes) (P : AV → Hp → Prop) : AE → Regs → Hp → Prop
  | .exit _, _, _ => False
  | _, r, h => ∃ v, result r h rs = some v ∧ P v h

theorem call_of {F : Fns} {tot : Bool} {ω : Nat → Nat} {f : FuncId} {fn : AF} (hf : F f = some (.inl fn)) {args : List AV} {P : AV → Hp → Prop}
    (hw : Wp (kont F n tot ω) n fn.body (initRegs 0 args) h (Ret fn.results P)) : ∃ v h', call F (n + 1) tot ω f args h = some (v, h') ∧ P v h' := by
  obtain ⟨e, r', h2, h1, h3⟩ := hw
  have : call F (n + 1) tot ω f args h = match exec (kont F n tot ω) n fn.body (initRegs 0 args, h) with
    | some (.normal, (r, h')) => (result r h' fn.results).map fun v => (v, h')
    | some (.ret, (r, h')) => (result r h' fn.results).map fun v => (v, h')
    | _ => none := call_inl hf args h
  rw [this, h1]
  cases e with
  | exit i => exact h3.elim
  | normal => obtain ⟨v, h4, h5⟩ := h3; exact ⟨v, h2, by simp only [h4,Option.map_some], h5⟩
  | ret => obtain ⟨v, h4, h5⟩ := h3; exact ⟨v, h2, by simp only [h4,Option.map_some], h5⟩

theorem call_eq {F : Fns} {tot : Bool} {ω : Nat → Nat} {f : FuncId} {fn : AF} (hf : F f = some (.inl fn)) {args : List AV} {v : AV} 
    (hw : Wp (kont F n tot ω) n fn.body (initRegs 0 args) h (Ret fn.results fun u h2 => u = v ∧ h2 = h')) : call F (n + 1) tot ω f args h = some (v, h') := by
  obtain ⟨_, _, h1, rfl, rfl⟩ := call_of hf hw
  exact h1

end Go.Im

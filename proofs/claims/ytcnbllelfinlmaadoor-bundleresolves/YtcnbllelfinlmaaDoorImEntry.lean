/- ImEntry: from the idealised machine back to the model's calls. -/
import Derived.Test.YtcnbllelfinlmaaDoorImDrawA
set_option linter.unusedVariables false
namespace Go.Im

def Env.of (w : World) (cdv : Nat → AC → Code → Prop) : Env := { n := 0, ob := fun _ => 0, cp := fun _ => 0, sg := fun b o => w.cell? ⟨b, o, none⟩, cd := cdv }

theorem hrel_of (w : World) (cdv : Nat → AC → Code → Prop) : HRel (.of w cdv) [] w :=
  ⟨rfl, fun _ _ _ h => h, fun id ha => by obtain ⟨o, ho, _⟩ := ha; simp at ho, fun id o ho => by simp at ho, fun i j hi => by obtain ⟨o, ho, _⟩ := hi; simp at ho⟩

structure Only (w w' : World) : Prop where
  os : w'.os = w.os
  out : w'.output = w.output
  size : w.heap.size ≤ w'.heap.size
  heap : ∀ b, b < w.heap.size → w'.heap[b]? = w.heap[b]?

theorem entry {P : Program} {GT : GTab} {F : Fns} {n : Nat} (CO : CallsOk P GT F n) {f : FuncId} (hf : okFn P f = true) {w : World} (hG : GOk (.of w GT.cd) GT) {args : List AV} {vs : Array Value} (ha : ArgsR (.of w GT.cd) args vs)
    (h : ∀ ω, ∃ h', call F n true ω f args [] = some (.bool true, h')) : Calls P f vs w fun e w' => e = .returned (.bool true) ∧ Only w w' := by
  have hd := CO.fn true (fun _ => 0) f args [] (.of w GT.cd) w vs (hrel_of w _) hG ha fun ω' _ => by obtain ⟨h', e⟩ := h ω'; rw [e]; rfl
  unfold okFn at hf
  split at hf
  · rename_i fn hfn
    simp only [Bool.and_eq_true,Bool.not_eq_true'] at hf
    rcases hd with ⟨_, hc⟩ | ⟨u, w', hv, _⟩
    · refine hc.mono fun e w' ⟨u, e1, e2⟩ => ?_
      obtain ⟨ω1, v, h', E', q1, q2, q3, q4, q5⟩ := e2
      obtain ⟨h2, e3⟩ := h ω1
      have this : call F n true ω1 f args [] = some (v, h') := q2 ω1 (.refl _ _)
      rw [e3] at this
      cases this
      rw [bool_inv q3] at e1
      exact ⟨e1, q4.os, q4.out, q4.size, fun b hb => q4.heap b hb no_owned id⟩
    · rw [run_callFunc hfn hf.1 hf.2] at hv
      cases hv
  · cases hf
end Go.Im

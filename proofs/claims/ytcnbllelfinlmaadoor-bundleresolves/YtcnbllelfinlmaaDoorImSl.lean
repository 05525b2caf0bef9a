/- ImSl: slices that came in. -/
import Derived.Test.YtcnbllelfinlmaaDoorImX4
set_option linter.unusedVariables false
namespace Go.Im

def IsSl (sz : Nat) (es : List AV) (v : AV) : Prop := (v = .nils ∧ es = []) ∨ v = .imm sz es .no

theorem IsSl.len {sz : Nat} {es : List AV} {v : AV} (h : IsSl sz es v) : lenSl v = some es.length := by
  rcases h with ⟨rfl, rfl⟩ | rfl <;> rfl
theorem IsSl.imm {sz : Nat} {es : List AV} {v : AV} (h : IsSl sz es v) {i : Nat} (hi : i < es.length) : v = .imm sz es .no := by
  rcases h with ⟨_, rfl⟩ | h
  · simp at hi
  · exact h
theorem IsSl.nils (sz : Nat) : IsSl sz [] .nils := .inl ⟨rfl, rfl⟩
theorem IsSl.notTup {sz : Nat} {es : List AV} {v : AV} (h : IsSl sz es v) : v.notTup = true := by
  rcases h with ⟨rfl, rfl⟩ | rfl <;> rfl
theorem IsSl.cells {sz : Nat} {es : List AV} {v : AV} (h : IsSl sz es v) : v.cells = [v] := by
  rcases h with ⟨rfl, rfl⟩ | rfl <;> rfl
theorem IsSl.sub {sz : Nat} {es : List AV} {v : AV} (h : IsSl sz es v) (n : Nat) : sub v 0 n false = some v := by
  rcases h with ⟨rfl, rfl⟩ | rfl <;> rfl

end Go.Im

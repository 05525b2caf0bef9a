/- ImApp: slices that are appended to. -/
import Derived.Test.YtcnbllelfinlmaaDoorImX4
set_option linter.unusedVariables false
namespace Go.Im

def IsApp (sz : Nat) (es : List AV) (h : Hp) (v : AV) : Prop := (v = .nils ∧ es = []) ∨ (v = .imm sz es .full) ∨ ∃ id, v = .imm sz es (.tok id es.length) ∧ h[id]? = some (.tail sz es.length)

theorem IsApp.nils (sz : Nat) (h : Hp) : IsApp sz [] h .nils := .inl ⟨rfl, rfl⟩
theorem IsApp.isRow {sz : Nat} {es : List AV} {h : Hp} {v : AV} (hv : IsApp sz es h v) : v.isRow = false := by
  rcases hv with ⟨rfl, _⟩ | rfl | ⟨id, rfl, _⟩ <;> rfl
theorem IsApp.len {sz : Nat} {es : List AV} {h : Hp} {v : AV} (hv : IsApp sz es h v) : lenSl v = some es.length := by
  rcases hv with ⟨rfl, rfl⟩ | rfl | ⟨id, rfl, _⟩ <;> rfl
theorem IsApp.imm {sz : Nat} {es : List AV} {h : Hp} {v : AV} (hv : IsApp sz es h v) (hne : es ≠ []) : ∃ c, v = .imm sz es c := by
  rcases hv with ⟨rfl, h0⟩ | rfl | ⟨id, rfl, _⟩
  · exact absurd h0 hne
  · exact ⟨_, rfl⟩
  · exact ⟨_, rfl⟩

end Go.Im

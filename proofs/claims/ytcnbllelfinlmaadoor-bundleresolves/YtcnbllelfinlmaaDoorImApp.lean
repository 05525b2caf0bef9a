/- ImApp: slices that are appended to. -/
import Derived.Test.YtcnbllelfinlmaaDoorImX4
set_option linter.unusedVariables false
namespace Go.Im

def IsApp (sz : Nat) (es : List AV) (h : Hp) (v : AV) : Prop := (v = .nils ∧ es = []) ∨ (v = .imm sz es .full) ∨ ∃ id, v = .imm sz es (.tok id es.length) ∧ h[id]? = some (.tail sz es.length)

theorem IsApp.nils (sz : Nat) (h : Hp) : IsApp sz [] h .nils := .inl ⟨rfl, rfl⟩
theorem IsApp.isRow {sz : Nat} {es : List AV} {h : Hp} {v : AV} (hv : IsApp sz es h v) : v.isRow = false := by
  rcases hv with ⟨rfl, _⟩ | rfl | ⟨id, rfl, _⟩ <;> rfl
theorem IsApp.len {sz : Nat} {es : List AV} {h : Hp} {v : AV} (hv : IsApp sz es h v) : lenSl v = some es.length := by
  rcases hv with ⟨rfl, rfl⟩ | rfl | ⟨id, rfl, _⟩ <;> rfl
theorem IsApp.imm {sz : Nat} {es : List AV} {h : Hp} {v : AV} (hv : IsApp sz es h v) (hne : es ≠ []) : ∃ c, v = .imm sz es c := by
  rcases hv with ⟨rfl, h0⟩ | rfl | ⟨id, rfl, _⟩
  · exact absurd h0 hne
  · exact ⟨_, rfl⟩
  · exact ⟨_, rfl⟩

theorem app_ok {sz bytes : Nat} {es xs : List AV} {h : Hp} {v : AV} (hv : IsApp sz es h v) (hx : xs ≠ []) (hb : (es.length + xs.length) * bytes ≤ 140737488355328) :
    ∃ v' h', appendV false sz bytes v xs h = some (v', h') ∧ IsApp sz (es ++ xs) h' v' ∧ (∀ (id : Nat) o, h[id]? = some o → o.solid = true → h'[id]? = some o) ∧ h.length ≤ h'.length ∧
      (∀ (id : Nat) o, h[id]? = some o → (∀ c, v ≠ .imm sz es (.tok id c)) → h'[id]? = some o) ∧ (∃ c, v' = .imm sz (es ++ xs) (.tok h.length c)) := by
  rcases hv with ⟨rfl, rfl⟩ | rfl | ⟨id, rfl, hid⟩
  · refine ⟨.imm sz xs (.tok h.length xs.length), h ++ [.tail sz xs.length], ?_, .inr (.inr ⟨h.length, rfl, by simp⟩), fun id o ho _ => ?_, by simp, fun id o ho _ => ?_, _, rfl⟩
    · simp only [appendV,if_neg hx,Im.newRow,Bool.false_eq_true,if_false]
      rw [if_pos (by simpa using hb)]
    · rw [List.getElem?_append_left (List.getElem?_eq_some_iff.1 ho).1]; exact ho
    · rw [List.getElem?_append_left (List.getElem?_eq_some_iff.1 ho).1]; exact ho
  · refine ⟨.imm sz (es ++ xs) (.tok h.length (es ++ xs).length), h ++ [.tail sz (es ++ xs).length], ?_, .inr (.inr ⟨h.length, rfl, by simp⟩), fun id o ho _ => ?_, by simp, fun id o ho _ => ?_, _, rfl⟩
    · simp only [appendV,if_neg hx,Im.newRow,Bool.false_eq_true,if_false]
      rw [if_pos ⟨trivial, hb⟩]
    · rw [List.getElem?_append_left (List.getElem?_eq_some_iff.1 ho).1]; exact ho
    · rw [List.getElem?_append_left (List.getElem?_eq_some_iff.1 ho).1]; exact ho
  · have hlt := (List.getElem?_eq_some_iff.1 hid).1
    refine ⟨.imm sz (es ++ xs) (.tok h.length (es.length + xs.length)), h.set id .dead ++ [.tail sz (es.length + xs.length)], ?_, .inr (.inr ⟨h.length, by simp, by simp⟩), fun j o ho hs => ?_, by simp, fun j o ho hne => ?_, _, rfl⟩
    · simp only [appendV,if_neg hx,hid]
      rw [if_pos ⟨trivial, hb⟩, if_pos ⟨trivial, trivial, trivial⟩]
    · have hj := (List.getElem?_eq_some_iff.1 ho).1
      rw [List.getElem?_append_left (by simpa using hj), List.getElem?_set]
      split
      · rename_i e; subst e; rw [hid] at ho; cases ho; simp [AO.solid] at hs
      · exact ho
    · have hj := (List.getElem?_eq_some_iff.1 ho).1
      rw [List.getElem?_append_left (by simpa using hj), List.getElem?_set]
      split
      · rename_i e; subst e; exact absurd rfl (hne _)
      · exact ho

theorem app_nil {row : Bool} {sz bytes : Nat} {es : List AV} {h : Hp} {v : AV} (hv : IsApp sz es h v) : appendV row sz bytes v [] h = some (v, h) := by
  rcases hv with ⟨rfl, _⟩ | rfl | ⟨id, rfl, _⟩ <;> simp [appendV]

end Go.Im

/- ImSl: slices that came in. -/
import Derived.Test.YtpgmohjmpaifbaaDoorImX4
set_option linter.unusedVariables false
namespace Go.Im

def IsSl (sz : Nat) (es : List AV) (v : AV) : Prop := (v = .nils ∧ es = []) ∨ v = .imm sz es .no

theorem IsSl.len {sz : Nat} {es : List AV} {v : AV} (h : IsSl sz es v) : lenSl v = some es.length := by
  rcases h with ⟨rfl, rfl⟩ | rfl <;> rfl
theorem IsSl.el {sz : Nat} {es : List AV} {v : AV} (h : IsSl sz es v) (hp : Hp) : elems hp sz v = some es := by
  rcases h with ⟨rfl, rfl⟩ | rfl
  · rfl
  · simp [elems]
theorem IsSl.imm {sz : Nat} {es : List AV} {v : AV} (h : IsSl sz es v) {i : Nat} (hi : i < es.length) : v = .imm sz es .no := by
  rcases h with ⟨_, rfl⟩ | h
  · simp at hi
  · exact h
theorem IsSl.nils (sz : Nat) : IsSl sz [] .nils := .inl ⟨rfl, rfl⟩
theorem IsSl.notTup {sz : Nat} {es : List AV} {v : AV} (h : IsSl sz es v) : v.notTup = true := by
  rcases h with ⟨rfl, rfl⟩ | rfl <;> rfl
theorem IsSl.cells {sz : Nat} {es : List AV} {v : AV} (h : IsSl sz es v) : v.cells = [v] := by
  rcases h with ⟨rfl, rfl⟩ | rfl <;> rfl
theorem IsSl.sub {sz : Nat} {es : List AV} {v : AV} (h : IsSl sz es v) (n : Nat) : sub v 0 n false = some v := by
  rcases h with ⟨rfl, rfl⟩ | rfl <;> rfl

def strsOf (l : List (List UInt8)) : List AV := l.map .str
theorem strsOf_len (l : List (List UInt8)) : (strsOf l).length = l.length := by simp [strsOf]
theorem strsOf_get {l : List (List UInt8)} {i : Nat} (hi : i < l.length) : (strsOf l)[i]? = some (.str l[i]) := by simp [strsOf,hi]
theorem intsOf_len {k : IntKind} (l : List Int) : (intsOf k l).length = l.length := by simp [intsOf]

theorem take_next {α : Type} {a b : List α} {i : Nat} (ha : i < a.length) (hb : i < b.length) (h : a.take i = b.take i) (he : a[i] = b[i]) : a.take (i + 1) = b.take (i + 1) := by
  rw [List.take_succ_eq_append_getElem ha, List.take_succ_eq_append_getElem hb, h, he]
theorem ne_at {α : Type} {a b : List α} {i : Nat} (ha : i < a.length) (hb : i < b.length) (he : a[i] ≠ b[i]) : a ≠ b := by
  rintro rfl; exact he rfl
theorem eq_all {α : Type} {a b : List α} {i : Nat} (ha : i = a.length) (hl : a.length = b.length) (h : a.take i = b.take i) : a = b := by
  rw [List.take_of_length_le (by omega), List.take_of_length_le (by omega)] at h; exact h

end Go.Im

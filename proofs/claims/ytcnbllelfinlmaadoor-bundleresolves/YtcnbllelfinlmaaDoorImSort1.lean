/- ImSort1: slices.SortFunc at the idealised machine: elements, rows, comparing functions. -/
import Derived.Test.YtcnbllelfinlmaaDoorImSem
import Derived.Test.YtcnbllelfinlmaaDoorImApp
import Derived.Sort.Defs
set_option linter.unusedVariables false
set_option linter.unusedSectionVars false
namespace Go.Im

section
variable {α : Type} [Inhabited α] {e : α → AV} {pre post : List AV} {d : Array α} {i j : Nat} {x y : α}

end

structure Lies (h0 : Hp) (id sz : Nat) (es : List AV) (h : Hp) : Prop where
  lt : id < h0.length
  le : h0.length ≤ h.length
  other : ∀ i, i < h0.length → i ≠ id → h[i]? = h0[i]?
  row : h[id]? = some (.row sz es)

def More (h h' : Hp) : Prop := ∃ m, h' = h ++ m
theorem More.refl (h : Hp) : More h h := ⟨[], by simp⟩
theorem More.trans {a b c : Hp} : More a b → More b c → More a c := fun ⟨m, e⟩ ⟨k, f⟩ => ⟨m ++ k, by rw [f, e, List.append_assoc]⟩
theorem More.get {h h' : Hp} {i : Nat} {o : AO} (m : More h h') (hi : h[i]? = some o) : h'[i]? = some o := by
  obtain ⟨m, rfl⟩ := m
  rw [List.getElem?_append_left (List.getElem?_eq_some_iff.1 hi).1]; exact hi
theorem More.le {h h' : Hp} (m : More h h') : h.length ≤ h'.length := by obtain ⟨m, rfl⟩ := m; simp

section
variable {h0 h h' : Hp} {id sz p : Nat} {es es' : List AV}
theorem Lies.more (L : Lies h0 id sz es h) (m : More h h') : Lies h0 id sz es h' := by
  have := L.lt; have := L.le
  refine ⟨L.lt, Nat.le_trans L.le m.le, fun i h1 h2 => ?_, m.get L.row⟩
  rw [← L.other i h1 h2]
  obtain ⟨m, rfl⟩ := m
  exact List.getElem?_append_left (by omega)
theorem Lies.idlt (L : Lies h0 id sz es h) : id < h.length := Nat.lt_of_lt_of_le L.lt L.le
theorem Lies.set (L : Lies h0 id sz es h) : Lies h0 id sz es' (h.set id (.row sz es')) := by
  refine ⟨L.lt, by simpa using L.le, fun i h1 h2 => ?_, ?_⟩
  · rw [List.getElem?_set_ne (by omega)]; exact L.other i h1 h2
  · simp [L.idlt]
theorem Lies.app (L : Lies h0 id sz es h) (m : Hp) : Lies h0 id sz es (h ++ m) := L.more ⟨m, rfl⟩
theorem Lies.fin (L : Lies h0 id sz es h) : More (h0.set id (.row sz es)) h := by
  refine ⟨h.drop h0.length, ?_⟩
  have := L.lt; have := L.le
  apply List.ext_getElem?
  intro i
  by_cases hi : i < h0.length
  · rw [List.getElem?_append_left (by simpa using hi), List.getElem?_set]
    split
    · rename_i e; subst e; simpa [hi] using L.row
    · exact L.other i hi (by omega)
  · rw [List.getElem?_append_right (by simpa using hi)]
    simp only [List.length_set,List.getElem?_drop]
    congr 1; omega
theorem get_set_self {h : Hp} {id : Nat} {o : AO} (hi : id < h.length) : (h.set id o)[id]? = some o := by simp [hi]
theorem get_set_ne {h : Hp} {id p : Nat} {o : AO} (hi : id ≠ p) : (h.set id o)[p]? = h[p]? := by simp [hi]
end

theorem int_lt_t {a b : Int} (h : a < b) : (a < b) = True := eq_true h
theorem int_lt_f {a b : Int} (h : ¬ a < b) : (a < b) = False := eq_false h
theorem int_le_t {a b : Int} (h : a ≤ b) : (a ≤ b) = True := eq_true h
theorem int_le_f {a b : Int} (h : ¬ a ≤ b) : (a ≤ b) = False := eq_false h
theorem int_gt_t {a b : Int} (h : a > b) : (a > b) = True := eq_true h
theorem int_gt_f {a b : Int} (h : ¬ a > b) : (a > b) = False := eq_false h
theorem int_ge_t {a b : Int} (h : a ≥ b) : (a ≥ b) = True := eq_true h
theorem int_ge_f {a b : Int} (h : ¬ a ≥ b) : (a ≥ b) = False := eq_false h
theorem xz :
    ((false = true) = False) ∧
    (∀ {α β : Type} (f : α → β) (a : α), (some a).map f = some (f a)) ∧
    (∀ {α β : Type} (f : α → β), (none : Option α).map f = none) ∧
    (∀ b : Bool, (b && false) = false) ∧
    (∀ b : Bool, (b || false) = b) ∧
    (∀ {α : Type} (p : α → Bool) (a : α) (l : List α), (a :: l).any p = (p a || l.any p)) ∧
    (∀ {α : Type} (p : α → Bool), ([] : List α).any p = false) ∧
    (∀ {α : Type} (a : α) (l : List α), (a :: l)[0]? = some a) ∧
    (∀ {α : Type} (a : α) (l : List α) (i : Nat), (a :: l)[i + 1]? = l[i]?) ∧
    (∀ n : Nat, ¬ n < 0) ∧
    (∀ n : Nat, 0 + n = n) ∧
    (∀ n : Nat, n + 0 = n) ∧
    ((1 : Nat) ≠ 0) ∧
    ((0 : Nat) ≠ 1) ∧
    (∀ {α : Type} (a b : α), (some a = some b) = (a = b)) ∧
    (∀ p : Prop, (p ∧ p) = p) ∧
    (∀ {α : Type} (a : α) (l : List α), (a :: l).length = l.length + 1) ∧
    (∀ {α : Type}, ([] : List α).length = 0) ∧
    (∀ n : Nat, ((n : Int)).toNat = n) ∧
    (∀ n : Nat, ¬ n < n) ∧
    (∀ h : Decidable True, @decide True h = true) ∧
    (∀ h : Decidable False, @decide False h = false) ∧
    (∀ p : Prop, (True ∧ p) = p) ∧
    (∀ p : Prop, (p ∧ True) = p) ∧
    (∀ p : Prop, (False ∧ p) = False) ∧
    (∀ p : Prop, (p ∧ False) = False) ∧
    (∀ {α : Type} (a : α) (l : List α) (i : Nat), (a :: l).take (i + 1) = a :: l.take i) ∧
    (∀ {α : Type} (l : List α), l.drop 0 = l) ∧
    (∀ {α : Type} (i : Nat), ([] : List α).take i = []) ∧
    (∀ b : Bool, (b || true) = true) ∧
    (∀ b : Bool, (true || b) = true) ∧
    (∀ {α : Type} (a : α) (l : List α) (i : Nat), (a :: l).drop (i + 1) = l.drop i) ∧
    (∀ {α : Type} (l : List α), [] ++ l = l) ∧
    (∀ {α : Type} (l : List α), l.take 0 = []) ∧
    ((!true) = false) ∧
    ((!false) = true) ∧
    (∀ {α : Type} (l : List α), l ++ [] = l) ∧
    (∀ {α : Type} (i : Nat), ([] : List α).drop i = []) ∧
    (∀ b : Bool, (b && true) = b) ∧
    (∀ b : Bool, (true && b) = b) ∧
    (∀ b : Bool, (false && b) = false) ∧
    (∀ b : Bool, (false || b) = b) ∧
    (∀ {α : Type} (a : α) (l m : List α), (a :: l) ++ m = a :: (l ++ m)) :=
  ⟨by simp, by (intros; simp), by (intros; simp), by (intros; simp), by (intros; simp), by (intros; simp), by (intros; simp), by (intros; simp), by (intros; simp), by (intros; simp), by (intros; simp), by (intros; simp), by simp, by simp, by (intros; simp), by (intros; simp), by (intros; simp), by (intros; simp), by (intros; simp), by (intros; simp), by (intros; simp), by (intros; simp), by (intros; simp), by (intros; simp), by (intros; simp), by (intros; simp), by (intros; simp), by (intros; simp), by (intros; simp), by (intros; simp), by (intros; simp), by (intros; simp), by (intros; simp), by (intros; simp), by simp, by simp, by (intros; simp), by (intros; simp), by (intros; simp), by (intros; simp), by (intros; simp), by (intros; simp), by (intros; simp)⟩


end Go.Im

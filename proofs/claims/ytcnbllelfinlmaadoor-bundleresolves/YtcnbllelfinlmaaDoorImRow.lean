/- ImRow: slices of their own row: appended to, cut, read. -/
import Derived.Test.YtcnbllelfinlmaaDoorImSort1
set_option linter.unusedVariables false
set_option linter.unusedSimpArgs false
namespace Go.Im

def RowAt (h : Hp) (sz lo : Nat) (es : List AV) (v : AV) : Prop := (v = .nils ∧ es = []) ∨ ∃ id post, v = .row id sz 0 es.length false ∧ h[id]? = some (.row sz (es ++ post)) ∧ lo ≤ id

def KeepR (lo sz : Nat) (h h' : Hp) : Prop := h.length ≤ h'.length ∧ ∀ i o, h[i]? = some o → (i < lo ∨ ∀ es, o ≠ .row sz es) → h'[i]? = some o

section
variable {lo sz : Nat} {h h' h2 : Hp} {es xs : List AV} {v : AV}

theorem KeepR.refl : KeepR lo sz h h := ⟨Nat.le_refl _, fun _ _ h _ => h⟩
theorem KeepR.trans (a : KeepR lo sz h h') (b : KeepR lo sz h' h2) : KeepR lo sz h h2 := ⟨Nat.le_trans a.1 b.1, fun i o h1 h3 => b.2 i o (a.2 i o h1 h3) h3⟩
theorem KeepR.app (m : Hp) : KeepR lo sz h (h ++ m) := ⟨by simp, fun i o h1 _ => by rw [List.getElem?_append_left (List.getElem?_eq_some_iff.1 h1).1]; exact h1⟩
theorem KeepR.set {id : Nat} {es' : List AV} {o' : AO} (hid : h[id]? = some (.row sz es')) (hl : lo ≤ id) : KeepR lo sz h (h.set id o') :=
  ⟨by simp, fun i o h1 h3 => by
    rw [List.getElem?_set]
    split
    · rename_i e
      subst e
      rw [hid] at h1
      cases h1
      rcases h3 with h3 | h3
      · omega
      · exact absurd rfl (h3 _)
    · exact h1⟩
theorem RowAt.nils : RowAt h sz lo [] .nils := .inl ⟨rfl, rfl⟩
theorem RowAt.len (r : RowAt h sz lo es v) : lenSl v = some es.length := by
  rcases r with ⟨rfl, rfl⟩ | ⟨id, post, rfl, _⟩ <;> rfl
theorem RowAt.low {l2 : Nat} (r : RowAt h sz lo es v) (hl : l2 ≤ lo) : RowAt h sz l2 es v := by
  rcases r with r | ⟨id, post, r, e, g⟩
  · exact .inl r
  · exact .inr ⟨id, post, r, e, by omega⟩
theorem RowAt.notTup (r : RowAt h sz lo es v) : v.notTup = true := by
  rcases r with ⟨rfl, rfl⟩ | ⟨id, post, rfl, _⟩ <;> rfl
theorem RowAt.cells (r : RowAt h sz lo es v) : v.cells = [v] := by
  rcases r with ⟨rfl, rfl⟩ | ⟨id, post, rfl, _⟩ <;> rfl
theorem RowAt.keep {sz2 lo2 : Nat} (r : RowAt h sz lo es v) (k : KeepR lo2 sz2 h h') (hne : sz ≠ sz2) : RowAt h' sz lo es v := by
  rcases r with r | ⟨id, post, r, e, g⟩
  · exact .inl r
  · exact .inr ⟨id, post, r, k.2 id _ e (.inr fun es hh => by cases hh; exact hne rfl), g⟩
theorem RowAt.more {m : Hp} (r : RowAt h sz lo es v) : RowAt (h ++ m) sz lo es v := by
  rcases r with r | ⟨id, post, r, e, g⟩
  · exact .inl r
  · exact .inr ⟨id, post, r, by rw [List.getElem?_append_left (List.getElem?_eq_some_iff.1 e).1]; exact e, g⟩
theorem RowAt.row (r : RowAt h sz lo es v) {i : Nat} (hi : i < es.length) : ∃ id post, v = .row id sz 0 es.length false ∧ h[id]? = some (.row sz (es ++ post)) ∧ lo ≤ id := by
  rcases r with ⟨_, rfl⟩ | r
  · simp at hi
  · exact r

theorem RowAt.mk {id m : Nat} {R : List AV} (hid : h[id]? = some (.row sz R)) (ht : R.take m = es) (hm : m = es.length) (hl : lo ≤ id) : RowAt h sz lo es (.row id sz 0 m false) := by
  subst hm
  exact .inr ⟨id, R.drop es.length, rfl, by rw [hid]; congr 2; conv => lhs; rw [← List.take_append_drop es.length R, ht], hl⟩

def RowEx (h : Hp) (sz lo : Nat) (es : List AV) (v : AV) : Prop := (v = .nils ∧ es = []) ∨ ∃ id, v = .row id sz 0 es.length false ∧ h[id]? = some (.row sz es) ∧ lo ≤ id
theorem RowEx.at (r : RowEx h sz lo es v) : RowAt h sz lo es v := by
  rcases r with r | ⟨id, r, e, g⟩
  · exact .inl r
  · exact .inr ⟨id, [], r, by rw [List.append_nil]; exact e, g⟩
theorem RowEx.more {m : Hp} (r : RowEx h sz lo es v) : RowEx (h ++ m) sz lo es v := by
  rcases r with r | ⟨id, r, e, g⟩
  · exact .inl r
  · exact .inr ⟨id, r, by rw [List.getElem?_append_left (List.getElem?_eq_some_iff.1 e).1]; exact e, g⟩
theorem row_appx {bytes : Nat} (r : RowEx h sz lo es v) (hb : (es.length + xs.length) * bytes ≤ 140737488355328) (hlo : lo ≤ h.length) :
    ∃ v' h', appendV true sz bytes v xs h = some (v', h') ∧ RowEx h' sz lo (es ++ xs) v' ∧ KeepR lo sz h h' := by
  by_cases hx : xs = []
  · subst hx
    refine ⟨v, h, ?_, by rw [List.append_nil]; exact r, .refl⟩
    rcases r with ⟨rfl, rfl⟩ | ⟨id, rfl, _⟩ <;> simp [appendV]
  · have hl : 0 < xs.length := List.length_pos_iff.2 hx
    rcases r with ⟨rfl, rfl⟩ | ⟨id, rfl, e, g⟩
    · refine ⟨.row h.length sz 0 xs.length false, h ++ [.row sz xs], ?_, .inr ⟨h.length, by simp, by simp, hlo⟩, .app _⟩
      simp only [appendV,if_neg hx,Im.newRow,if_true]
      rw [if_pos (by simpa using hb)]
    · refine ⟨.row h.length sz 0 (es.length + xs.length) false, h.set id .dead ++ [.row sz (es ++ xs)], ?_, .inr ⟨h.length, by simp, by simp, hlo⟩, (KeepR.set e g).trans (.app _)⟩
      simp only [appendV,if_neg hx,e]
      rw [if_pos ⟨trivial, trivial, by simp, hb⟩]
      simp only [Bool.false_eq_true,if_false,Nat.zero_add]
      rw [if_neg (by omega), if_pos ⟨trivial, trivial⟩]

theorem RowAt.one (r : RowAt h sz lo es v) : v.one = true := by
  rcases r with ⟨rfl, rfl⟩ | ⟨id, post, rfl, _⟩ <;> rfl
theorem xu :
  (∀ (cs : List AV) (off : Nat) (k : IntKind) (n : Int), upd (.agg cs) off (.int k n) = if off < cs.length then some (.agg (cs.set off (.int k n))) else none) ∧
  (∀ (cs : List AV) (off : Nat) (b : Bool), upd (.agg cs) off (.bool b) = if off < cs.length then some (.agg (cs.set off (.bool b))) else none) ∧
  (∀ (cs : List AV) (off : Nat) (b : List UInt8), upd (.agg cs) off (.str b) = if off < cs.length then some (.agg (cs.set off (.str b))) else none) ∧
  (∀ (cs : List AV) (off a b c d : Nat), upd (.agg cs) off (.ptr a b c d) = if off < cs.length then some (.agg (cs.set off (.ptr a b c d))) else none) ∧
  (∀ (cs : List AV) (off a b c d : Nat) (e : Bool), upd (.agg cs) off (.row a b c d e) = if off < cs.length then some (.agg (cs.set off (.row a b c d e))) else none) ∧
  (∀ (cs : List AV) (off : Nat) (a : Nat) (es : List AV) (c : Cap), upd (.agg cs) off (.imm a es c) = if off < cs.length then some (.agg (cs.set off (.imm a es c))) else none) ∧
  (∀ (cs : List AV) (off : Nat), upd (.agg cs) off .nils = if off < cs.length then some (.agg (cs.set off .nils)) else none) ∧
  (∀ (cs : List AV) (off : Nat), upd (.agg cs) off .nilp = if off < cs.length then some (.agg (cs.set off .nilp)) else none) ∧
  (∀ (cs us : List AV) (off : Nat), upd (.agg cs) off (.agg us) = if off + us.length ≤ cs.length then some (.agg (cs.take off ++ (us ++ cs.drop (off + us.length)))) else none) ∧
  (∀ (k k' : IntKind) (n n' : Int), upd (.int k n) 0 (.int k' n') = some (.int k' n')) ∧
  (∀ (b b' : Bool), upd (.bool b) 0 (.bool b') = some (.bool b')) ∧
  (∀ (b b' : List UInt8), upd (.str b) 0 (.str b') = some (.str b')) :=
  ⟨fun _ _ _ _ => rfl, fun _ _ _ => rfl, fun _ _ _ => rfl, fun _ _ _ _ _ _ => rfl, fun _ _ _ _ _ _ _ => rfl, fun _ _ _ _ _ => rfl, fun _ _ => rfl, fun _ _ => rfl, fun _ _ _ => rfl, fun _ _ _ _ => rfl, fun _ _ => rfl, fun _ _ => rfl⟩

theorem nat_le_t {a b : Nat} (h : a ≤ b) : (a ≤ b) = True := eq_true h
theorem nat_le_f {a b : Nat} (h : ¬ a ≤ b) : (a ≤ b) = False := eq_false h
theorem int_eq_t {a b : Int} (h : a = b) : (a = b) = True := eq_true h
theorem int_eq_f {a b : Int} (h : ¬ a = b) : (a = b) = False := eq_false h
theorem int_beq_t {a b : Int} (h : a = b) : (a == b) = true := by simp [h]
theorem int_beq_f {a b : Int} (h : ¬ a = b) : (a == b) = false := by simp [h]
theorem int_bne_t {a b : Int} (h : ¬ a = b) : (a != b) = true := by simp [h]
theorem int_bne_f {a b : Int} (h : a = b) : (a != b) = false := by simp [h]
end
section
variable {α : Type} [Inhabited α] {e : α → AV} {post : List AV} {d : Array α} {i j : Nat} {x y : α}
end
end Go.Im

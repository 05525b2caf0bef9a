/- ImOps3: operations that make variables and literals. -/
import Derived.Test.YtlognommhffmcaaImGrow
set_option linter.unusedVariables false
set_option linter.unusedSimpArgs false
namespace Go.Im
section
variable {P : Program} {E : Env} {h : Hp} {w : World} {r : Regs} {a : Act} {o : Oper} {reg : Reg}

/-- What an operation owes: the value that it yields, the world behind it. -/
def Res (P : Program) (E : Env) (h : Hp) (w : World) (r : Regs) (a : Act) (o : Oper) (reg : Reg) (r' : Regs) (h' : Hp) : Prop :=
  ∃ u w' E', Runs P a w o u w' ∧ Keep E h (Vars r a.tmps) w E' h' (Vars r' a.tmps) w' ∧ FRel E' h' w' r' a.tmps ∧ HRel E' h' w' ∧ Yields E' h' w' r' a.tmps u reg ∧
    ∀ v, reg = .var v → ∃ b, u = .pointer (some ⟨b, 0, none⟩) ∧ w.heap.size ≤ b

theorem Pure.not_var (hp : Pure P E h w r a o reg) (hv : ∀ v, reg ≠ .var v) (hf : FRel E h w r a.tmps) (hh : HRel E h w) : Res P E h w r a o reg r h :=
  let ⟨u, h1, h2⟩ := hp; ⟨u, w, E, h1, Keep.refl _ _ _ _, hf, hh, h2, fun v e => absurd e (hv v)⟩

theorem info_of {t : TypeId} {i : TypeInfo} (h : P.info? t = some i) : Sz P t i.size := ⟨i, h, rfl⟩

theorem ev_allocL (hf : FRel E h w r a.tmps) (hh : HRel E h w) {t : TypeId} {i : TypeInfo} {u : Value} {z : AV} (ho : o.op = .alloc t) (hi : P.info? t = some i) (hz : i.zero = some u) (hv : VRel E z u) (hn : z.notTup = true)
    (he : evalV r h (.allocL z) = some reg) : Res P E h w r a o reg r h := by
  cases he
  have g := Grow.alloc w (.cells u.cells t)
  refine ⟨.pointer (some ⟨w.heap.size, 0, none⟩), _, E, .inl ?_, Keep.grow E h _ g, hf.grow g, hh.grow g, new_var hf hh hv hn t, fun v _ => ⟨_, rfl, Nat.le_refl _⟩⟩
  simp [execOp, ho, Instr.alloc, zeroValue, typeInfo, hi, hz, newVar, Go.newRow]

theorem ev_boxL (hf : FRel E h w r a.tmps) (hh : HRel E h w) {t : TypeId} {y : Operand} {x : AX} {s : Nat} (ho : o.op = .box t y) (hx : XRel E a x y)
    (he : evalV r h (.boxL s x) = some reg) : Res P E h w r a o reg r h := by
  simp only [evalV] at he
  split at he
  · rename_i v hv
    split at he
    · rename_i hn
      cases he
      have g := Grow.alloc w (.cells (a.eval y).cells t)
      refine ⟨.pointer (some ⟨w.heap.size, 0, none⟩), _, E, .inl ?_, Keep.grow E h _ g, hf.grow g, hh.grow g, new_var hf hh (vl_spec hf hx hv) hn.1 t, fun v _ => ⟨_, rfl, Nat.le_refl _⟩⟩
      simp [execOp, ho, Instr.box, newVar, Go.newRow]
    · cases he
  · cases he

/-! ### aggregates -/

theorem foldl_set (off : Nat) : ∀ (l : List Value) (s : Nat) (cells : Array Value), off + s + l.length ≤ cells.size →
    ((l.zipIdx s).foldl (fun cs (x : Value × Nat) => cs.setIfInBounds (off + x.2) x.1) cells).size = cells.size ∧
    (∀ k, k < l.length → ((l.zipIdx s).foldl (fun cs (x : Value × Nat) => cs.setIfInBounds (off + x.2) x.1) cells)[off + s + k]? = l[k]?) ∧
    (∀ k, k < off + s ∨ off + s + l.length ≤ k → ((l.zipIdx s).foldl (fun cs (x : Value × Nat) => cs.setIfInBounds (off + x.2) x.1) cells)[k]? = cells[k]?) := by
  intro l
  induction l with
  | nil => intro s cells _; exact ⟨rfl, fun k hk => absurd hk (Nat.not_lt_zero _), fun _ _ => rfl⟩
  | cons c l ih =>
    intro s cells hl
    simp only [List.length_cons] at hl
    simp only [List.zipIdx_cons, List.foldl_cons]
    obtain ⟨i1, i2, i3⟩ := ih (s + 1) (cells.setIfInBounds (off + s) c) (by simp; omega)
    refine ⟨by rw [i1]; simp, fun k hk => ?_, fun k hk => ?_⟩
    · cases k with
      | zero =>
        rw [i3 _ (Or.inl (by omega))]
        simp only [Nat.add_zero, List.getElem?_cons_zero, Array.getElem?_setIfInBounds_self]
        rw [if_pos (by omega)]
      | succ k =>
        have := i2 k (by simpa using hk)
        rw [show off + s + (k + 1) = off + (s + 1) + k by omega]
        simpa using this
    · simp only [List.length_cons] at hk
      rw [i3 k (by omega), Array.getElem?_setIfInBounds_ne (by omega)]

/-- Cells of a value, laid over cells from place 'off' on. -/
theorem fill_one (cells : Array Value) (v : Value) (off : Nat) (hle : off + v.cells.size ≤ cells.size) :
    ∃ cs : Array Value, (v.cells.zipIdx.foldl (fun cs (c, j) => cs.setIfInBounds (off + j) c) cells) = cs ∧ cs.size = cells.size ∧ (∀ k, k < v.cells.size → cs[off + k]? = v.cells[k]?) ∧ (∀ k, k < off ∨ off + v.cells.size ≤ k → cs[k]? = cells[k]?) := by
  obtain ⟨h1, h2, h3⟩ := foldl_set off v.cells.toList 0 cells (by simpa using hle)
  have e : (v.cells.zipIdx.foldl (fun cs (c, j) => cs.setIfInBounds (off + j) c) cells) = ((v.cells.toList.zipIdx 0).foldl (fun cs (x : Value × Nat) => cs.setIfInBounds (off + x.2) x.1) cells) := by
    rw [← Array.foldl_toList, Array.toList_zipIdx]
  rw [e]
  exact ⟨_, rfl, h1, fun k hk => by have := h2 k (by simpa using hk); simpa using this, fun k hk => by have := h3 k (by simpa using hk); simpa using this⟩

/-- The model's 'fill' of what 'place' places. -/
theorem fill_spec (pl : Nat → Option (Nat × Nat)) : ∀ (ps : List (Nat × Nat × AV)) (qs : List (Nat × Value)) (zs : List AV) (cells : Array Value) (out : List AV),
    ps.length = qs.length → (∀ (i : Nat) p q, ps[i]? = some p → qs[i]? = some q → pl q.1 = some (p.1, p.2.1) ∧ VRel E p.2.2 q.2) →
    zs.length = cells.size → (∀ z ∈ zs, z.one = true) → (∀ (i : Nat) z u, zs[i]? = some z → cells[i]? = some u → VRel E z u) → place zs ps = some out →
    ∃ cs, Instr.fill pl cells qs = some cs ∧ out.length = cs.size ∧ (∀ z ∈ out, z.one = true) ∧ ∀ (i : Nat) z u, out[i]? = some z → cs[i]? = some u → VRel E z u
  | [], [], zs, cells, out, _, _, h1, h2, h3, he => by simp [place] at he; subst he; exact ⟨cells, rfl, h1, h2, h3⟩
  | [], q :: qs, _, _, _, hl, _, _, _, _, _ => by simp at hl
  | p :: ps, [], _, _, _, hl, _, _, _, _, _ => by simp at hl
  | (off, size, v) :: ps, (i, q) :: qs, zs, cells, out, hl, hp, h1, h2, h3, he => by
    simp only [place] at he
    split at he
    · rename_i hc
      obtain ⟨c1, c2, c3⟩ := hc
      obtain ⟨p1, p2⟩ := hp 0 _ _ rfl rfl
      simp only at p1 p2
      obtain ⟨q1, q2⟩ := cells_rel p2 c1
      obtain ⟨cs, e1, e2, e3, e4⟩ := fill_one cells q off (by omega)
      have hlen : (zs.take off ++ (v.cells ++ zs.drop (off + size))).length = cs.size := by simp; omega
      have hget : ∀ k, (zs.take off ++ (v.cells ++ zs.drop (off + size)))[k]? = if k < off then zs[k]? else if k < off + size then v.cells[k - off]? else zs[k]? := fun k => by
        by_cases hk : k < off
        · rw [List.getElem?_append_left (by simp; omega), if_pos hk, List.getElem?_take, if_pos hk]
        · rw [List.getElem?_append_right (by simp; omega), if_neg hk]
          have hto : (zs.take off).length = off := by simp; omega
          rw [hto]
          by_cases hk2 : k < off + size
          · rw [if_pos hk2, List.getElem?_append_left (by omega)]
          · rw [if_neg hk2, List.getElem?_append_right (by omega), List.getElem?_drop]
            congr 1; omega
      obtain ⟨cs', f1, f2, f3, f4⟩ := fill_spec pl ps qs _ cs out (by simpa using hl) (fun j p q hp' hq' => hp (j + 1) p q hp' hq') hlen
        (fun z hz => by
          rcases List.mem_append.1 hz with hz | hz
          · exact h2 z (List.mem_of_mem_take hz)
          · rcases List.mem_append.1 hz with hz | hz
            · obtain ⟨k, hk, rfl⟩ := List.getElem_of_mem hz
              exact (q2 k _ (List.getElem?_eq_getElem hk)).1
            · exact h2 z (List.mem_of_mem_drop hz))
        (fun k z u hz hu => by
          rw [hget] at hz
          split at hz
          · rw [e4 k (Or.inl (by omega))] at hu; exact h3 k z u hz hu
          · split at hz
            · obtain ⟨_, u', hu', hv'⟩ := q2 (k - off) z hz
              simp only [Nat.zero_add] at hu'
              rw [show k = off + (k - off) by omega, e3 (k - off) (by omega), hu'] at hu
              cases hu; exact hv'
            · rw [e4 k (Or.inr (by omega))] at hu; exact h3 k z u hz hu) he
      refine ⟨cs', ?_, f2, f3, f4⟩
      simp only [Instr.fill, p1]
      rw [if_neg (by simp; omega), e1]
      exact f1
    · cases he
end
end Go.Im

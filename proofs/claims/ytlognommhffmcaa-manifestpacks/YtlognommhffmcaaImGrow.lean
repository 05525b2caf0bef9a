/- ImGrow: new blocks: variables, what stays, heap entries. -/
import Derived.Test.YtlognommhffmcaaImOps2
set_option linter.unusedVariables false
set_option linter.unusedSimpArgs false
namespace Go.Im

structure Grow (w w' : World) : Prop where
  size : w.heap.size ≤ w'.heap.size
  heap : ∀ b, b < w.heap.size → w'.heap[b]? = w.heap[b]?
  os : w'.os = w.os
  out : w'.output = w.output

theorem Grow.refl (w : World) : Grow w w := ⟨Nat.le_refl _, fun _ _ => rfl, rfl, rfl⟩
theorem Grow.trans {a b c : World} (h : Grow a b) (g : Grow b c) : Grow a c :=
  ⟨Nat.le_trans h.size g.size, fun i hi => (g.heap i (Nat.lt_of_lt_of_le hi h.size)).trans (h.heap i hi), g.os.trans h.os, g.out.trans h.out⟩
theorem Grow.alloc (w : World) (o : Obj) : Grow w (w.alloc o) :=
  ⟨by simp, fun b hb => by simp only [World.alloc, Array.getElem?_push]; rw [if_neg (by omega)], rfl, rfl⟩
theorem Grow.drew (w : World) : Grow w w.drew := ⟨Nat.le_refl _, fun _ _ => rfl, rfl, rfl⟩
theorem alloc_at (w : World) (o : Obj) : (w.alloc o).heap[w.heap.size]? = some o := by show (w.heap.push o)[w.heap.size]? = some o; simp

theorem Grow.cell {w w' : World} (g : Grow w w') {b o : Nat} {v : Value} (h : w.cell? ⟨b, o, none⟩ = some v) : w'.cell? ⟨b, o, none⟩ = some v := by
  have hb := World.block_lt_of_cell? w _ h
  simp only [World.cell?] at h ⊢
  rw [g.heap b hb]; exact h

section
variable {P : Program} {E : Env} {h : Hp} {w w' : World} {r : Regs} {tm : Array Value}

theorem HRel.sg_lt (hh : HRel E h w) {b o : Nat} {v : Value} (hs : E.sg b o = some v) : b < w.heap.size := World.block_lt_of_cell? w _ (hh.sg b o v hs)

theorem alive_lt {id : Nat} (ha : alive h id) : id < h.length := let ⟨o, ho, _⟩ := ha; (List.getElem?_eq_some_iff.1 ho).1

theorem HRel.grow (hh : HRel E h w) (g : Grow w w') : HRel E h w' := by
  refine ⟨hh.n, fun b o v hs => g.cell (hh.sg b o v hs), fun id ha => Nat.lt_of_lt_of_le (hh.lt id ha) g.size, fun id o ho => ?_, hh.inj⟩
  by_cases hd : o = .dead
  · subst hd; trivial
  · exact ORel.congr (g.heap _ (hh.lt id ⟨o, ho, hd⟩)) (hh.obj id o ho)

theorem FRel.grow (hf : FRel E h w r tm) (g : Grow w w') : FRel E h w' r tm :=
  hf.mono (.refl E) fun t ht => ⟨g.heap _ (var_lt hf ht), fun _ => rfl, hf.own t ht⟩

theorem Keep.grow (E : Env) (h : Hp) (X : Nat → Prop) (g : Grow w w') : Keep E h X w E h X w' :=
  ⟨.refl E, g.size, g.os, g.out, fun b hb _ _ => g.heap b hb, fun _ h => .inl h, fun _ h => .inl h, fun _ _ h => .inl h⟩

theorem FRel.lt_vars (hf : FRel E h w r tm) {b : Nat} (hb : Vars r tm b) : b < w.heap.size := by
  obtain ⟨t, ht, rfl⟩ := hb
  exact var_lt hf ht

theorem Owned.lt (hh : HRel E h w) {b : Nat} (ho : Owned E h b) : b < w.heap.size := by
  obtain ⟨id, ha, rfl⟩ := ho
  exact hh.lt id ha

/-! ### a new variable -/

theorem cells_rel {v : AV} {u : Value} (hv : VRel E v u) (ht : v.notTup = true) : v.cells.length = u.cells.size ∧ CellsAt E (fun o => u.cells[o]?) 0 v := by
  cases hv with
  | agg cs vs hl h1 hh =>
    refine ⟨by simpa [AV.cells, Value.cells] using hl, fun k x hk => ?_⟩
    simp only [AV.cells] at hk
    obtain ⟨u, hu⟩ := get_agg hl k (List.getElem?_eq_some_iff.1 hk).1
    exact ⟨h1 x (List.mem_of_getElem? hk), u, by simpa [Value.cells] using hu, hh k x u hk hu⟩
  | tup => simp [AV.notTup] at ht
  | _ =>
    refine ⟨rfl, fun k x hk => ?_⟩
    cases k with
    | zero =>
      simp [AV.cells] at hk
      subst hk
      refine ⟨rfl, _, rfl, ?_⟩
      constructor <;> assumption
    | succ k => simp [AV.cells] at hk

/-- A block that is new: the value lies in it. -/
theorem new_var (hf : FRel E h w r tm) (hh : HRel E h w) {v : AV} {u : Value} (hv : VRel E v u) (ht : v.notTup = true) (T : TypeId) :
    Yields E h (w.alloc (.cells u.cells T)) r tm (.pointer (some ⟨w.heap.size, 0, none⟩)) (.var v) := by
  obtain ⟨h1, h2⟩ := cells_rel hv ht
  refine ⟨w.heap.size, u.cells, T, (0, 0), rfl, alloc_at _ _, fun o _ => by simp, h1.symm, h2, fun o => ?_, fun ho => ?_, fun hx => ?_⟩
  · cases hs : E.sg w.heap.size o with
    | none => rfl
    | some v => exact absurd (hh.sg_lt hs) (Nat.lt_irrefl _)
  · exact absurd (Owned.lt hh ho) (Nat.lt_irrefl _)
  · exact absurd (hf.lt_vars hx) (Nat.lt_irrefl _)

/-! ### what stays -/

/-- The block b's cells stay as 's' says. -/
def Env.stay (E : Env) (b : Nat) (s : Nat → Option Value) : Env := { E with sg := fun b' o => if b' = b then s o else E.sg b' o }

/-- One more heap entry, its block b. -/
def Env.add (E : Env) (b cp : Nat) : Env := { E with n := E.n + 1, ob := fun id => if id = E.n then b else E.ob id, cp := fun id => if id = E.n then cp else E.cp id }

theorem Env.stay_le (E : Env) {b : Nat} {s : Nat → Option Value} (hb : ∀ o, E.sg b o = none) : E.le (E.stay b s) :=
  ⟨Nat.le_refl _, fun _ _ => rfl, fun _ _ => rfl, fun b' o v h => by
    simp only [Env.stay]
    split
    · rename_i e; subst e; rw [hb] at h; cases h
    · exact h⟩

theorem Env.add_le (E : Env) (b cp : Nat) : E.le (E.add b cp) :=
  ⟨Nat.le_succ _, fun id hi => by simp only [Env.add]; rw [if_neg (by omega)], fun id hi => by simp only [Env.add]; rw [if_neg (by omega)], fun _ _ _ h => h⟩

theorem HRel.sg_new (hh : HRel E h w) {b : Nat} (hb : w.heap.size ≤ b) (o : Nat) : E.sg b o = none := by
  cases hs : E.sg b o with
  | none => rfl
  | some v => exact absurd (hh.sg_lt hs) (by omega)

theorem HRel.stay (hh : HRel E h w) (g : Grow w w') {b : Nat} (hb : w.heap.size ≤ b) {s : Nat → Option Value} (hs : ∀ o v, s o = some v → w'.cell? ⟨b, o, none⟩ = some v) : HRel (E.stay b s) h w' := by
  have hh' := hh.grow g
  have hle := E.stay_le (b := b) (s := s) (hh.sg_new hb)
  refine ⟨hh'.n, fun b' o v hv => ?_, hh'.lt, fun id o ho => ?_, hh'.inj⟩
  · simp only [Env.stay] at hv
    split at hv
    · rename_i e; subst e; exact hs o v hv
    · exact hh'.sg b' o v hv
  · by_cases hd : o = .dead
    · subst hd; trivial
    · have hlt := hh.lt id ⟨o, ho, hd⟩
      exact ORel.mono hle (fun o' => by simp only [Env.stay]; rw [if_neg (by omega)]) (hh'.obj id o ho)

theorem FRel.stay (hf : FRel E h w r tm) (hh : HRel E h w) (g : Grow w w') {b : Nat} (hb : w.heap.size ≤ b) (s : Nat → Option Value) : FRel (E.stay b s) h w' r tm :=
  (hf.grow g).mono (E.stay_le (hh.sg_new hb)) fun t ht => ⟨rfl, fun o => by simp only [Env.stay]; rw [if_neg]; have := var_lt hf ht; omega, hf.own t ht⟩

theorem Keep.stay (hh : HRel E h w) (X : Nat → Prop) (g : Grow w w') {b : Nat} (hb : w.heap.size ≤ b) (s : Nat → Option Value) : Keep E h X w (E.stay b s) h X w' :=
  ⟨E.stay_le (hh.sg_new hb), g.size, g.os, g.out, fun b hb _ _ => g.heap b hb, fun _ h => .inl h, fun _ h => .inl h, fun b' o h => by
    simp only [Env.stay] at h
    split at h
    · rename_i e; subst e; exact .inr (.inr hb)
    · exact .inl h⟩

/-! ### a new heap entry -/

theorem alive_push {o : AO} {id : Nat} (ha : alive (h ++ [o]) id) : alive h id ∨ (id = h.length ∧ o ≠ .dead) := by
  obtain ⟨x, hx, hd⟩ := ha
  by_cases hlt : id < h.length
  · exact .inl ⟨x, by rwa [List.getElem?_append_left hlt] at hx, hd⟩
  · rw [List.getElem?_append_right (by omega)] at hx
    have : id = h.length := by
      have := (List.getElem?_eq_some_iff.1 hx).1
      simp at this; omega
    subst this
    simp at hx
    subst hx
    exact .inr ⟨rfl, hd⟩

theorem HRel.add (hh : HRel E h w) {b cp : Nat} (hb : ¬ Owned E h b) (hlt : b < w.heap.size) {o : AO} (ho : ORel (E.add b cp) w b cp o) : HRel (E.add b cp) (h ++ [o]) w := by
  have hob : ∀ id, id < h.length → (E.add b cp).ob id = E.ob id := fun id hi => by simp only [Env.add]; rw [if_neg (by rw [hh.n]; omega)]
  have hcp : ∀ id, id < h.length → (E.add b cp).cp id = E.cp id := fun id hi => by simp only [Env.add]; rw [if_neg (by rw [hh.n]; omega)]
  have hobn : (E.add b cp).ob h.length = b := by simp only [Env.add]; rw [if_pos hh.n.symm]
  have hcpn : (E.add b cp).cp h.length = cp := by simp only [Env.add]; rw [if_pos hh.n.symm]
  refine ⟨by simp [Env.add, hh.n], hh.sg, fun id ha => ?_, fun id x hx => ?_, fun i j hi hj he => ?_⟩
  · rcases alive_push ha with ha | ⟨rfl, _⟩
    · rw [hob id (alive_lt ha)]; exact hh.lt id ha
    · rw [hobn]; exact hlt
  · by_cases hi : id < h.length
    · rw [List.getElem?_append_left hi] at hx
      rw [hob id hi, hcp id hi]
      exact ORel.mono (E.add_le b cp) (fun _ => rfl) (hh.obj id x hx)
    · rw [List.getElem?_append_right (by omega)] at hx
      have : id = h.length := by
        have := (List.getElem?_eq_some_iff.1 hx).1
        simp at this; omega
      subst this
      simp at hx
      subst hx
      rw [hobn, hcpn]; exact ho
  · rcases alive_push hi with hi | ⟨rfl, _⟩ <;> rcases alive_push hj with hj | ⟨rfl, _⟩
    · rw [hob i (alive_lt hi), hob j (alive_lt hj)] at he; exact hh.inj i j hi hj he
    · rw [hob i (alive_lt hi), hobn] at he; exact absurd ⟨i, hi, he⟩ hb
    · rw [hob j (alive_lt hj), hobn] at he; exact absurd ⟨j, hj, he.symm⟩ hb
    · rfl

theorem Owned.add (hh : HRel E h w) {b cp : Nat} {o : AO} {b' : Nat} (ho : Owned (E.add b cp) (h ++ [o]) b') : Owned E h b' ∨ b' = b := by
  obtain ⟨id, ha, rfl⟩ := ho
  rcases alive_push ha with ha | ⟨rfl, _⟩
  · refine .inl ⟨id, ha, ?_⟩
    simp only [Env.add]; rw [if_neg]; have := alive_lt ha; rw [hh.n]; omega
  · right; simp only [Env.add]; rw [if_pos hh.n.symm]

theorem FRel.add (hf : FRel E h w r tm) (hh : HRel E h w) {b cp : Nat} {o : AO} (hb : ¬ Vars r tm b) : FRel (E.add b cp) (h ++ [o]) w r tm :=
  hf.mono (E.add_le b cp) fun t ht => ⟨rfl, fun _ => rfl, fun ho => (Owned.add hh ho).elim (hf.own t ht) fun e => hb ⟨t, ht, e⟩⟩

theorem Keep.add (hh : HRel E h w) (X : Nat → Prop) {b cp : Nat} {o : AO} (hb : Owned E h b ∨ w.heap.size ≤ b) : Keep E h X w (E.add b cp) (h ++ [o]) X w :=
  ⟨E.add_le b cp, Nat.le_refl _, rfl, rfl, fun _ _ _ _ => rfl, fun b' ho => (Owned.add hh ho).elim .inl fun e => e ▸ hb, fun _ h => .inl h, fun _ _ h => .inl h⟩

/-- A new heap entry in a new block. -/
theorem new_entry (hf : FRel E h w r tm) (hh : HRel E h w) (g : Grow w w') {b cp : Nat} (hb : w.heap.size ≤ b) (hlt : b < w'.heap.size) {o : AO} (ho : ORel (E.add b cp) w' b cp o) :
    Keep E h (Vars r tm) w (E.add b cp) (h ++ [o]) (Vars r tm) w' ∧ FRel (E.add b cp) (h ++ [o]) w' r tm ∧ HRel (E.add b cp) (h ++ [o]) w' := by
  have hno : ¬ Owned E h b := fun ho => by have := Owned.lt hh ho; omega
  have hh' := hh.grow g
  refine ⟨?_, (hf.grow g).add hh' (fun hx => by have := hf.lt_vars hx; omega), hh'.add hno hlt ho⟩
  refine ⟨E.add_le b cp, g.size, g.os, g.out, fun b hb _ _ => g.heap b hb, fun b' ho => (Owned.add hh' ho).elim .inl fun e => .inr (e ▸ hb), fun _ h => .inl h, fun _ _ h => .inl h⟩

end
end Go.Im

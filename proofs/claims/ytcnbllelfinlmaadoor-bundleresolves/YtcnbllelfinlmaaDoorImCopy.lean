/- ImCopy: slices of slices and strings, new objects, clear of a slice. -/
import Derived.Test.YtcnbllelfinlmaaDoorImMaps3
set_option linter.unusedVariables false
set_option linter.unusedSimpArgs false
namespace Go.Im
section
variable {P : Program} {E : Env} {h : Hp} {w : World} {r : Regs} {a : Act} {o : Oper} {reg : Reg}

def SliceT (P : Program) (t : TypeId) : Option Nat → Prop
  | none => P.underlying t = some .string
  | some sz => ∃ e, P.underlying t = some (.slice e) ∧ Sz P e sz

theorem slOk_of {sz : Option Nat} {v : AV} (hk : slOk sz v = true) {t : TypeId} (ht : SliceT P t sz) :
    (∃ s, v = .str s ∧ P.underlying t = some .string) ∨ ((∀ s, v ≠ .str s) ∧ ∃ e z, P.underlying t = some (.slice e) ∧ Sz P e z ∧ (∀ s es c, v = .imm s es c → s = z) ∧ ∀ i s f n c, v = .row i s f n c → s = z) := by
  cases sz with
  | none =>
    cases v <;> simp [slOk] at hk
    exact .inl ⟨_, rfl, ht⟩
  | some z =>
    obtain ⟨e, h1, h2⟩ := ht
    refine .inr ⟨fun s e => by subst e; simp [slOk] at hk, e, z, h1, h2, fun s es c e => ?_, fun i s f n c e => ?_⟩
    · subst e; simpa [slOk] using hk
    · subst e; simpa [slOk] using hk

theorem slice_chk {v : AV} {u : Value} (hv : VRel E v u) {n : Nat} (hn : lenSl v = some n) {l i j : Int} {lo hi mx : Option Operand} (hb : Bounds a E lo hi mx l (some i) (some j)) (c0 : 0 ≤ l) (c1 : l ≤ i) (c2 : i ≤ j) (c3 : j ≤ (n : Int))
    {t : TypeId} (ht : (∃ s, v = .str s ∧ P.underlying t = some .string) ∨ ((∀ s, v ≠ .str s) ∧ ∃ e sz, P.underlying t = some (.slice e) ∧ Sz P e sz ∧ (∀ s es c, v = .imm s es c → s = sz) ∧ ∀ i s f n c, v = .row i s f n c → s = sz)) :
    ∃ u', (Instr.slice t u (lo.map a.eval) (hi.map a.eval) (mx.map a.eval)).run P w = .ok u' w := by
  rcases ht with ⟨s, rfl, ht⟩ | ⟨_, e, sz, ht, hs, _, _⟩
  · simp [lenSl] at hn
  have key : ∀ (p : Option Addr) (cap : Nat), u = .slice p n cap → n ≤ cap → ∃ u', (Instr.slice t u (lo.map a.eval) (hi.map a.eval) (mx.map a.eval)).run P w = .ok u' w := by
    rintro p cap rfl hcap
    have := run_bounds (P := P) (w := w) hb true n cap c0 (by simpa using c1) (by simpa using c2) (by simp only [Option.getD_some]; omega) (by simp)
    simp only [Option.getD_some] at this
    cases p with
    | none => exact ⟨_, by simp [Instr.slice,run_underlying ht,hs.run,this]; rfl⟩
    | some p => exact ⟨_, by simp [Instr.slice,run_underlying ht,hs.run,this]; rfl⟩
  cases hv with
  | nils => simp only [lenSl,Option.some.injEq] at hn; subst hn; exact key _ _ rfl (Nat.le_refl _)
  | imm size es c b o' cap hcap => simp only [lenSl,Option.some.injEq] at hn; subst hn; exact key _ _ rfl hcap
  | imz size ad c hc => simp only [lenSl,List.length_nil,Option.some.injEq] at hn; subst hn; exact key _ _ rfl (Nat.le_refl _)
  | row id size off m clip b o' cap hr => simp only [lenSl,Option.some.injEq] at hn; subst hn; exact key _ _ rfl hr.2.1
  | _ => simp [lenSl] at hn

theorem ev_slice (hf : FRel E h w r a.tmps) {t : TypeId} {y : Operand} {x : AX} {sz : Option Nat} {lo hi mx : Option Operand} {xlo xhi xmx : Option AX} (ho : o.op = .slice t y lo hi mx) (hx : XRel E a x y) (ht : SliceT P t sz)
    (hlo : XOpt E a xlo lo) (hhi : XOpt E a xhi hi) (hmx : XOpt E a xmx mx)
    (he : evalV r h (.slice sz x xlo xhi xmx) = some reg) : Pure P E h w r a o reg := by
  simp only [evalV] at he
  split at he
  · rename_i v l hv hl
    split at he
    · rename_i hk
      have hvr := vl_spec hf hx hv
      have hsl := slOk_of hk ht
      have b1 : (∃ y k, lo = some y ∧ a.eval y = .int k l) ∨ (lo = none ∧ l = 0) := by
        rcases ivo_spec hf hlo hl with ⟨z, k, q1, q2, _⟩ | ⟨q1, _, q2⟩
        · exact .inl ⟨z, k, q1, q2⟩
        · exact .inr ⟨q1, q2⟩
      have fin : ∀ hh mm v', sliceV v l hh mm = some v' → Bounds a E lo hi mx l hh mm → (mm.isSome → hh.isSome) → Pure P E h w r a o (.val v') := by
        intro hh mm v' hs hb hm
        obtain ⟨u', q1, q2⟩ := slice_spec (P := P) (w := w) hvr hs hb hm hsl
        have q0 : (Instr.sliceAt t (a.eval y) (lo.map a.eval) (hi.map a.eval) (mx.map a.eval)).run P w = .ok u' w := by
          rw [← q1]
          rcases hsl with ⟨_, _, hs⟩ | ⟨_, _, _, hs, _⟩ <;> simp [Instr.sliceAt,run_underlying hs]
        exact .val (by simp [execOp,ho,q0]) q2
      split at he
      · obtain ⟨v', q, rfl⟩ := map_some he
        cases hi with
        | some _ => exact absurd hhi (by simp [XOpt])
        | none =>
          cases mx with
          | some _ => exact absurd hmx (by simp [XOpt])
          | none => exact fin none none v' q ⟨b1, .inr ⟨rfl, rfl⟩, .inr ⟨rfl, rfl⟩⟩ (by simp)
      · rename_i hx'
        split at he
        · rename_i i hi'
          obtain ⟨v', q, rfl⟩ := map_some he
          cases hi with
          | none => exact absurd hhi (by simp [XOpt])
          | some yh =>
            cases mx with
            | some _ => exact absurd hmx (by simp [XOpt])
            | none =>
              obtain ⟨k, hk'⟩ := iv_spec hf hhi hi'
              exact fin (some i) none v' q ⟨b1, .inl ⟨_, k, i, rfl, hk', rfl⟩, .inr ⟨rfl, rfl⟩⟩ (by simp)
        · cases he
      · rename_i hx' mx'
        split at he
        · rename_i i j hi' hj'
          split at he
          · obtain ⟨v', q, rfl⟩ := map_some he
            cases hi with
            | none => exact absurd hhi (by simp [XOpt])
            | some yh =>
              cases mx with
              | none => exact absurd hmx (by simp [XOpt])
              | some ym =>
                obtain ⟨k, hk'⟩ := iv_spec hf hhi hi'
                obtain ⟨k2, hk2⟩ := iv_spec hf hmx hj'
                exact fin (some i) (some j) v' q ⟨b1, .inl ⟨_, k, i, rfl, hk', rfl⟩, .inl ⟨_, k2, j, rfl, hk2, rfl⟩⟩ (by simp)
          · split at he
            · rename_i n hn
              split at he
              · rename_i hc
                obtain ⟨c0, c1, c2, c3⟩ := hc
                cases he
                cases hi with
                | none => exact absurd hhi (by simp [XOpt])
                | some yh =>
                  cases mx with
                  | none => exact absurd hmx (by simp [XOpt])
                  | some ym =>
                    obtain ⟨k, hk'⟩ := iv_spec hf hhi hi'
                    obtain ⟨k2, hk2⟩ := iv_spec hf hmx hj'
                    obtain ⟨u', q1⟩ := slice_chk (P := P) (w := w) hvr hn (lo := lo) (hi := some yh) (mx := some ym) ⟨b1, .inl ⟨_, k, i, rfl, hk', rfl⟩, .inl ⟨_, k2, j, rfl, hk2, rfl⟩⟩ c0 c1 c2 c3 hsl
                    have q0 : (Instr.sliceAt t (a.eval y) (lo.map a.eval) ((some yh).map a.eval) ((some ym).map a.eval)).run P w = .ok u' w := by
                      rw [← q1]
                      rcases hsl with ⟨_, _, hs⟩ | ⟨_, _, _, hs, _⟩ <;> simp [Instr.sliceAt,run_underlying hs]
                    exact ⟨u', .inl (by simp only [Option.map_some] at q0; simp [execOp,ho,q0]), trivial⟩
              · cases he
            · cases he
        · cases he
      · cases he
    · cases he
  · cases he

theorem ev_sliceX (hf : FRel E h w r a.tmps) (hh : HRel E h w) {t e : TypeId} {y lo hi : Operand} {x xlo xhi : AX} {sz : Nat} (ho : o.op = .slice t y (some lo) (some hi) none) (hx : XRel E a x y) (ht : P.underlying t = some (.slice e)) (hs : Sz P e sz)
    (hlo : XRel E a xlo lo) (hhi : XRel E a xhi hi) (he : evalV r h (.sliceX sz x xlo xhi) = some reg) : Pure P E h w r a o reg := by
  simp only [evalV] at he
  split at he
  · rename_i id s off n l i hv hl hi'
    split at he
    · rename_i s' es hid
      split at he
      · rename_i hc
        obtain ⟨rfl, rfl, c0, c1, c2⟩ := hc
        cases he
        have hvr := vl_spec hf hx hv
        obtain ⟨k1, e1⟩ := iv_spec hf hlo hl
        obtain ⟨k2, e2⟩ := iv_spec hf hhi hi'
        obtain ⟨c, T, fr, o1, o2, o3, o4, _⟩ := hh.obj id _ hid
        generalize hu : a.eval y = u at hvr
        cases hvr with
        | row _ _ _ _ _ b o' cap hr =>
        obtain ⟨r1, r2, r3, r4⟩ := hr
        have hcap : i ≤ (cap : Int) := by
          rcases r4 with ⟨_, _, r5⟩ | ⟨_, _, r7⟩
          · have := r5 rfl; omega
          · have := r7 rfl; omega
        have hb : Bounds a E (some lo) (some hi) none l (some i) none := ⟨.inl ⟨_, k1, rfl, e1⟩, .inl ⟨_, k2, i, rfl, e2, rfl⟩, .inr ⟨rfl, rfl⟩⟩
        have := run_bounds (P := P) (w := w) hb true n cap c0 (by simpa using c1) (by simpa using hcap) (by simp) (by simp)
        simp only [Option.getD_none,Option.getD_some,Int.toNat_natCast] at this
        have key : VRel E (.row id s' (off + l.toNat) (i.toNat - l.toNat) false) (.slice (if cap = l.toNat then some ⟨b, o', none⟩ else some ⟨b, o' + l.toNat * s', none⟩) (i.toNat - l.toNat) (cap - l.toNat)) := by
          split
          · rename_i hml
            refine .row _ _ _ _ _ _ _ _ ⟨r1, by omega, fun h => by omega, .inr ⟨by omega, by omega, fun h => ?_⟩⟩
            rcases r4 with ⟨_, _, r5⟩ | ⟨_, _, r7⟩
            · have := r5 rfl; omega
            · have := r7 rfl; omega
          · rename_i hml
            refine .row _ _ _ _ _ _ _ _ ⟨r1, by omega, fun h => (by cases h), ?_⟩
            rcases r4 with ⟨rfl, rfl, r5⟩ | ⟨r5, r6, r7⟩
            · left
              refine ⟨rfl, by rw [Nat.add_mul], fun h => ?_⟩
              have := r5 rfl
              omega
            · omega
        have q1 : (Instr.slice t (.slice (some ⟨b, o', none⟩) n cap) ((some lo).map a.eval) ((some hi).map a.eval) ((none : Option Operand).map a.eval)).run P w = .ok (.slice (if cap = l.toNat then some ⟨b, o', none⟩ else some ⟨b, o' + l.toNat * s', none⟩) (i.toNat - l.toNat) (cap - l.toNat)) w := by
          simp only [Option.map_some,Option.map_none] at this ⊢
          simp [Instr.slice,run_underlying ht,hs.run,this]
          split <;> simp [addr_add]
        have q0 : (Instr.sliceAt t (a.eval y) ((some lo).map a.eval) ((some hi).map a.eval) ((none : Option Operand).map a.eval)).run P w = .ok (.slice (if cap = l.toNat then some ⟨b, o', none⟩ else some ⟨b, o' + l.toNat * s', none⟩) (i.toNat - l.toNat) (cap - l.toNat)) w := by
          rw [← q1, hu]
          simp [Instr.sliceAt,run_underlying ht]
        exact .val (by simp only [Option.map_some,Option.map_none] at q0; simp [execOp,ho,q0]) key
      · cases he
    · cases he
  · cases he

/-! ### new objects -/

theorem one_EC {v : AV} {u : Value} (hv : VRel E v u) (hn : v.notTup = true) {s : Nat} (hs : v.cells.length = s) : EC E u.cells s [v] := by
  refine ⟨fun e he => by simp at he; subst he; exact hs, fun i e hi => ?_⟩
  cases i with
  | zero => simp at hi; subst hi; rw [Nat.zero_mul]; exact (cells_rel hv hn).2
  | succ i => simp at hi

theorem new_ptr (hf : FRel E h w r a.tmps) (hh : HRel E h w) {v : AV} {u : Value} (hv : VRel E v u) (hn : v.notTup = true) {s : Nat} (hs : v.cells.length = s) (T : TypeId) :
    ∃ E', Keep E h (Vars r a.tmps) w E' (h ++ [.row s [v]]) (Vars r a.tmps) (w.alloc (.cells u.cells T)) ∧ FRel E' (h ++ [.row s [v]]) (w.alloc (.cells u.cells T)) r a.tmps ∧ HRel E' (h ++ [.row s [v]]) (w.alloc (.cells u.cells T)) ∧ VRel E' (.ptr h.length s 0 0) (.pointer (some ⟨w.heap.size, 0, none⟩)) := by
  have hl := (cells_rel hv hn).1
  obtain ⟨E', k1, k2, k3, k4, k5, k6⟩ := new_row hf hh (Grow.alloc w (.cells u.cells T)) (Nat.le_refl _) (alloc_at _ _) (fun o _ => by simp) (one_EC hv hn hs) (cp := 1) (by omega) (by simp)
  refine ⟨E', k1, k2, k3, ?_⟩
  have := VRel.ptr (E := E') h.length s 0 0 k4
  rw [k5] at this
  simpa using this

theorem st_allocH {K : Kont} (hf : FRel E h w r a.tmps) (hh : HRel E h w) {t : TypeId} {i : TypeInfo} {u : Value} {z : AV} {s : Nat} (ho : o.op = .alloc t) (hi : P.info? t = some i) (hz : i.zero = some u) (hv : VRel E z u) (hn : z.notTup = true) (hs : z.cells.length = s) {r' : Regs} {h' : Hp}
    (he : step K r h (.allocH s z) = some (reg, r', h')) : Res P E h w r a o reg r' h' := by
  cases he
  obtain ⟨E', k1, k2, k3, k4⟩ := new_ptr hf hh hv hn hs t
  exact .of_val (.inl (by simp [execOp,ho,Instr.alloc,zeroValue,typeInfo,hi,hz,newVar,Go.newRow])) k1 k2 k3 k4

theorem st_boxH {K : Kont} (hf : FRel E h w r a.tmps) (hh : HRel E h w) {t : TypeId} {y : Operand} {x : AX} {s : Nat} (ho : o.op = .box t y) (hx : XRel E a x y) {r' : Regs} {h' : Hp}
    (he : step K r h (.boxH s x) = some (reg, r', h')) : Res P E h w r a o reg r' h' := by
  simp only [step] at he
  split at he
  · rename_i v hv
    split at he
    · rename_i hn
      cases he
      obtain ⟨E', k1, k2, k3, k4⟩ := new_ptr hf hh (vl_spec hf hx hv) hn.1 hn.2 t
      exact .of_val (.inl (by simp [execOp,ho,Instr.box,newVar,Go.newRow])) k1 k2 k3 k4
    · cases he
  · cases he

/-! ### clear of a slice -/

theorem EC.over {c c' : Array Value} {size k0 : Nat} {es xs : List AV} (hc : EC E c size es) (hs : ∀ e ∈ xs, e.cells.length = size) (hx : ∀ (i : Nat) e, xs[i]? = some e → CellsAt E (fun o => c'[o]?) (k0 * size + i * size) e) (hk : k0 ≤ es.length)
    (h4 : ∀ k, k < k0 * size ∨ k0 * size + xs.length * size ≤ k → c'[k]? = c[k]?) : EC E c' size (es.take k0 ++ (xs ++ es.drop (k0 + xs.length))) := by
  refine ⟨fun e he => ?_, fun i e hi => ?_⟩
  · rcases List.mem_append.1 he with he | he
    · exact hc.1 e (List.mem_of_mem_take he)
    · rcases List.mem_append.1 he with he | he
      · exact hs e he
      · exact hc.1 e (List.mem_of_mem_drop he)
  · have hto : (es.take k0).length = k0 := by simp; omega
    by_cases h1 : i < k0
    · rw [List.getElem?_append_left (by omega), List.getElem?_take, if_pos h1] at hi
      have hes := hc.1 e (List.mem_of_getElem? hi)
      refine (hc.2 i e hi).congr fun k hk => h4 _ (.inl ?_)
      exact mul_lt h1 (by omega)
    · rw [List.getElem?_append_right (by omega), hto] at hi
      by_cases h2 : i - k0 < xs.length
      · rw [List.getElem?_append_left h2] at hi
        have := hx _ _ hi
        rwa [← Nat.add_mul, show k0 + (i - k0) = i by omega] at this
      · rw [List.getElem?_append_right (by omega), List.getElem?_drop, show k0 + xs.length + (i - k0 - xs.length) = i by omega] at hi
        refine (hc.2 i e hi).congr fun k hk => h4 _ (.inr ?_)
        have : (k0 + xs.length) * size ≤ i * size := Nat.mul_le_mul_right _ (by omega)
        rw [Nat.add_mul] at this
        omega

theorem row_over (hf : FRel E h w r a.tmps) (hh : HRel E h w) {id s k0 : Nat} {es xs : List AV} (hes : h[id]? = some (.row s es)) {us : List Value} (h1 : ∀ u ∈ us, u.oneCell' = true) (hl : us.length = xs.length * s) (hk : k0 + xs.length ≤ es.length) (hs : ∀ e ∈ xs, e.cells.length = s)
    (hx : ∀ (i : Nat) e (k : Nat) x, xs[i]? = some e → e.cells[k]? = some x → x.one = true ∧ ∃ u, us[i * s + k]? = some u ∧ VRel E x u) :
    ∃ w', (storeCells ⟨E.ob id, k0 * s, none⟩ us).run P w = .ok () w' ∧ Keep E h (Vars r a.tmps) w E (h.set id (.row s (es.take k0 ++ (xs ++ es.drop (k0 + xs.length))))) (Vars r a.tmps) w' ∧
      FRel E (h.set id (.row s (es.take k0 ++ (xs ++ es.drop (k0 + xs.length))))) w' r a.tmps ∧ HRel E (h.set id (.row s (es.take k0 ++ (xs ++ es.drop (k0 + xs.length))))) w' := by
  obtain ⟨c, T, fr, h2, h3, h4, h5, h6, h7, h8⟩ := row_of hh hes
  have hmul : (k0 + xs.length) * s ≤ E.cp id * s := Nat.mul_le_mul_right _ (by omega)
  rw [Nat.add_mul] at hmul
  obtain ⟨c', e1, e2, e3, e4, e5, e6, e7, e8⟩ := heap_setCells (E.ob id) us (k0 * s) w c T fr h2 (by omega)
  have hec : EC E c' s (es.take k0 ++ (xs ++ es.drop (k0 + xs.length))) := EC.over ⟨h6, h7⟩ hs (fun i e hi k x hk' => by
    obtain ⟨p1, u, p2, p3⟩ := hx i e k x hi hk'
    refine ⟨p1, u, ?_, p3⟩
    have hlt := (List.getElem?_eq_some_iff.1 p2).1
    have := e3 _ hlt
    rw [p2] at this
    rw [Nat.add_assoc]
    exact this) (by omega) (fun k hk' => e4 k (by omega))
  have hown : Owned E h (E.ob id) := ⟨id, ⟨_, hes, by simp⟩, rfl⟩
  refine ⟨_, run_store_room h2 h3 h1 (by omega), ?_, ?_, ?_⟩
  · exact ⟨.refl E, by omega, e7, e8, fun b' _ hx' _ => e5 b' fun e => hx' (e ▸ hown), fun b' h => .inl (Owned.set hes (by simp) h), fun _ h => .inl h, fun _ _ h => .inl h⟩
  · exact hf.other (owned_no_var hf hown) e5 fun b' h => Owned.set hes (by simp) h
  · exact hh.set hes (by simp) e6 e5 h8 ⟨c', T, fr, e1, by rw [e2]; exact h3, by omega, by simp; omega, hec.1, hec.2, h8⟩

theorem row_inv {id s off n : Nat} {clip : Bool} {u : Value} (hu : VRel E (.row id s off n clip) u) : ∃ b o cap, u = .slice (some ⟨b, o, none⟩) n cap ∧ rowOk E id s off n clip b o cap := by
  cases hu; exact ⟨_, _, _, rfl, by assumption⟩

theorem set_same {id : Nat} {x : AO} (he : h[id]? = some x) : h.set id x = h := by
  obtain ⟨hl, hg⟩ := List.getElem?_eq_some_iff.1 he
  rw [← hg, List.set_getElem_self]

theorem st_clearS {K : Kont} (hf : FRel E h w r a.tmps) (hh : HRel E h w) {t e : TypeId} {i : TypeInfo} {zv : Value} {z : AV} {y : Operand} {x : AX} (ho : o.op = .call { callee := .builtin .clear, args := #[y], argTypes := #[t] }) (ht : P.underlying t = some (.slice e)) (hi : P.info? e = some i)
    (hz : i.zero = some zv) (hzv : VRel E z zv) (hn : z.notTup = true) (hx : XRel E a x y) {r' : Regs} {h' : Hp}
    (he : step K r h (.clearS z x) = some (reg, r', h')) : Res P E h w r a o reg r' h' := by
  have hnil : VRel E (.tup []) (.tuple #[]) := .tup _ _ rfl fun i x y hi => by simp at hi
  simp only [step] at he
  split at he
  · rename_i hm
    cases he
    have hv := vl_spec hf hx hm
    cases hv' : a.eval y with
    | slice b n c =>
      rw [hv'] at hv
      cases hv
      refine .of_val (u := .tuple #[]) (.inl ?_) (Keep.refl _ _ _ _) hf hh hnil
      simp [execOp,ho,resolve,invoke,builtin,Builtin.clear_,run_underlying ht,hv']
    | _ => rw [hv'] at hv; cases hv
  · rename_i s es c hm
    split at he
    · rename_i h0
      subst h0
      cases he
      have hv := vl_spec hf hx hm
      cases hv' : a.eval y with
      | slice b n c =>
        rw [hv'] at hv
        cases hv
        all_goals
          refine .of_val (u := .tuple #[]) (.inl ?_) (Keep.refl _ _ _ _) hf hh hnil
          simp [execOp,ho,resolve,invoke,builtin,Builtin.clear_,run_underlying ht,hv']
      | _ => rw [hv'] at hv; cases hv
    · cases he
  · rename_i id s off n clip hm
    obtain ⟨b, oo, cap, hu, hid, hr1, hr2, hr3⟩ := row_inv (vl_spec hf hx hm)
    split at he
    · rename_i s' es hes
      split at he
      · rename_i hc
        obtain ⟨c1, c2, c3⟩ := hc
        subst c1
        cases he
        by_cases h0 : n = 0
        · subst h0
          have : es.take off ++ (List.replicate 0 z ++ es.drop (off + 0)) = es := by simp
          rw [this, set_same hes]
          refine .of_val (u := .tuple #[]) (.inl ?_) (Keep.refl _ _ _ _) hf hh hnil
          simp [execOp,ho,resolve,invoke,builtin,Builtin.clear_,run_underlying ht,hu]
        · obtain ⟨rfl, rfl, _⟩ : b = E.ob id ∧ oo = off * s' ∧ (clip = false → off + cap = E.cp id) := by
            rcases hr3 with h | h
            · exact h
            · omega
          have hzs : zv.cells.size = s' := by have := (cells_rel hzv hn).1; omega
          by_cases hs0 : s' = 0
          · subst hs0
            have hrow := row_of hh hes
            obtain ⟨w', k0, k1, k2, k3⟩ := row_over (P := P) (k0 := off) (xs := List.replicate n z) (us := []) hf hh hes (fun u hu => by simp at hu) (by simp) (by simpa using c3) (fun e he => by rw [List.mem_replicate] at he; rw [he.2]; exact c2) (fun i e k x hi hk => by
              rw [List.getElem?_replicate] at hi
              split at hi
              · cases hi
                have := (List.getElem?_eq_some_iff.1 hk).1
                omega
              · cases hi)
            simp only [List.length_replicate] at k1 k2 k3
            refine .of_val (u := .tuple #[]) (.inl ?_) k1 k2 k3 hnil
            rw [Nat.mul_zero] at k0
            have hz0 : (Builtin.zeroCells zv.cells n).toList = [] := by simp [Builtin.zeroCells,hzs]
            cases n with
            | zero => exact absurd rfl h0
            | succ n => simp [execOp,ho,resolve,invoke,builtin,Builtin.clear_,run_underlying ht,hu,zeroValue,typeInfo,hi,hz,hz0,k0]
          · have hz1 := zero_cells zv (n * s')
            have hzz : Builtin.zeroCells zv.cells n = (Array.range (n * s')).map fun j => zv.cells[j % zv.cells.size]! := by unfold Builtin.zeroCells; rw [hzs]
            obtain ⟨w', k0, k1, k2, k3⟩ := row_over (P := P) (k0 := off) (xs := List.replicate n z) (us := (Builtin.zeroCells zv.cells n).toList) hf hh hes (fun u hu => by
              rw [hzz] at hu
              obtain ⟨j, hj, rfl⟩ := List.getElem_of_mem hu
              have hj' : j < n * s' := by simpa using hj
              have q := hz1.2 j hj' (by omega)
              have hjm : j % s' < s' := Nat.mod_lt _ (by omega)
              have hone := cells_one hzv hn (zv.cells[j % zv.cells.size]'(by rw [hzs]; exact hjm)) (by simp)
              have : zv.cells[j % zv.cells.size]? = some (zv.cells[j % zv.cells.size]'(by rw [hzs]; exact hjm)) := Array.getElem?_eq_getElem _
              rw [this] at q
              have q' : (((Array.range (n * s')).map fun j => zv.cells[j % zv.cells.size]!).toList)[j]? = some (zv.cells[j % zv.cells.size]'(by rw [hzs]; exact hjm)) := by rw [Array.getElem?_toList]; exact q
              rw [List.getElem?_eq_getElem hj] at q'
              rw [Option.some.inj q']
              exact hone) (by rw [hzz]; simp) (by simpa using c3) (fun e he => by rw [List.mem_replicate] at he; rw [he.2]; exact c2) (fun i e k x hi hk => by
              rw [List.getElem?_replicate] at hi
              split at hi
              · rename_i hin
                cases hi
                have hks := (List.getElem?_eq_some_iff.1 hk).1
                obtain ⟨p1, u', p2, p3⟩ := (cells_rel hzv hn).2 k x hk
                refine ⟨p1, u', ?_, p3⟩
                have hlt : i * s' + k < n * s' := mul_lt hin (by omega)
                have q := hz1.2 _ hlt (by omega)
                rw [hzs] at q
                rw [Nat.mul_comm i s', Nat.mul_add_mod, Nat.mod_eq_of_lt (by omega)] at q
                rw [hzz]
                simp only [Nat.zero_add] at p2
                have hlt2 : s' * i + k < n * s' := by rw [Nat.mul_comm s' i]; exact hlt
                rw [← p2, ← q, Nat.mul_comm i s', hzs]
                simp [hlt2]
              · cases hi)
            simp only [List.length_replicate] at k1 k2 k3
            refine .of_val (u := .tuple #[]) (.inl ?_) k1 k2 k3 hnil
            cases n with
            | zero => exact absurd rfl h0
            | succ n => simp [execOp,ho,resolve,invoke,builtin,Builtin.clear_,run_underlying ht,hu,zeroValue,typeInfo,hi,hz,k0]
      · cases he
    · cases he
  · cases he
end
end Go.Im

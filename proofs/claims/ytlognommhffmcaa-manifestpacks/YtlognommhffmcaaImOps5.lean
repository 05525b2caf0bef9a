/- ImOps5: literals of slices, bytes of strings, parts of arrays, the least and the greatest, heap variables, stores. -/
import Derived.Test.YtlognommhffmcaaImOps4
set_option linter.unusedVariables false
set_option linter.unusedSimpArgs false
namespace Go.Im
section
variable {P : Program} {E : Env} {h : Hp} {w : World} {r : Regs} {a : Act} {o : Oper} {reg : Reg}

theorem Res.of_val {reg : AV} {r' : Regs} {h' : Hp} {u : Value} {w' : World} {E' : Env} (h1 : Runs P a w o u w') (h2 : Keep E h (Vars r a.tmps) w E' h' (Vars r' a.tmps) w') (h3 : FRel E' h' w' r' a.tmps) (h4 : HRel E' h' w') (h5 : VRel E' reg u) :
    Res P E h w r a o (.val reg) r' h' := ⟨u, w', E', h1, h2, h3, h4, h5, fun v e => by cases e⟩

theorem ev_litS_imm (hf : FRel E h w r a.tmps) (hh : HRel E h w) {t e : TypeId} {i : TypeInfo} {zv : Value} {z : AV} {len size : Nat} {xs : List (Nat × AX)} {ys : Array (Nat × Operand)} (ho : o.op = .buildSlice t len ys) (ht : P.underlying t = some (.slice e)) (hi : P.info? e = some i) (hsz : i.size = size)
    (hz : i.zero = some zv) (hzv : VRel E z zv) (hn : z.notTup = true) (hs : z.cells.length = size) (hs0 : 0 < size) (hl : len * size ≤ 16777216) (hx : PartsE E a xs ys.toList)
    (he : evalV r h (.litS false size z len xs) = some reg) : Res P E h w r a o reg r h := by
  simp only [evalV] at he
  split at he
  · rename_i ps hps
    obtain ⟨es, hes, rfl⟩ := map_some he
    obtain ⟨q1, c, q2, q3, q4⟩ := run_buildSlice hf ht hi hsz hz hzv hn hs hs0 hl hx hps hes
    subst q1
    obtain ⟨E', k1, k2, k3, k4⟩ := new_imm hf hh (Grow.alloc w (.cells c e)) (Nat.le_refl _) (alloc_at _ _) q4 (Nat.le_refl _) (cc := .full) (.inr ⟨rfl, rfl⟩)
    exact .of_val (.inl (by simp [execOp, ho]; rw [q2]; rfl)) k1 k2 k3 k4
  · cases he

theorem st_litS_row {K : Kont} (hf : FRel E h w r a.tmps) (hh : HRel E h w) {t e : TypeId} {i : TypeInfo} {zv : Value} {z : AV} {len size : Nat} {xs : List (Nat × AX)} {ys : Array (Nat × Operand)} (ho : o.op = .buildSlice t len ys) (ht : P.underlying t = some (.slice e)) (hi : P.info? e = some i) (hsz : i.size = size)
    (hz : i.zero = some zv) (hzv : VRel E z zv) (hn : z.notTup = true) (hs : z.cells.length = size) (hs0 : 0 < size) (hl : len * size ≤ 16777216) (hx : PartsE E a xs ys.toList) {r' : Regs} {h' : Hp}
    (he : step K r h (.litS true size z len xs) = some (reg, r', h')) : Res P E h w r a o reg r' h' := by
  simp only [step] at he
  split at he
  · rename_i ps hps
    obtain ⟨es, hes, hq⟩ := map_some he
    cases hq
    obtain ⟨q1, c, q2, q3, q4⟩ := run_buildSlice hf ht hi hsz hz hzv hn hs hs0 hl hx hps hes
    subst q1
    obtain ⟨E', k1, k2, k3, k4, k5, k6⟩ := new_row hf hh (Grow.alloc w (.cells c e)) (Nat.le_refl _) (alloc_at _ _) (fun o _ => by simp) q4 q3 (Nat.le_refl _)
    exact .of_val (.inl (by simp [execOp, ho]; rw [q2]; rfl)) k1 k2 k3 (row_val k4 k5 k6 (Nat.le_refl _))
  · cases he

/-! ### a string's bytes -/

theorem bytesOf_EC {s : List UInt8} {c : Array Value} (hc : ∀ k, k < s.length → c[k]? = some (.int .u8 (s.getD k 0).toNat)) : EC E c 1 (bytesOf s) := by
  refine ⟨fun e he => ?_, fun i e hi => ?_⟩
  · obtain ⟨b, _, rfl⟩ := List.mem_map.1 he; rfl
  · simp only [bytesOf, List.getElem?_map, Option.map_eq_some_iff] at hi
    obtain ⟨b, hb, rfl⟩ := hi
    have hlt := (List.getElem?_eq_some_iff.1 hb).1
    intro k x hk
    cases k with
    | zero =>
      simp [AV.cells] at hk
      subst hk
      refine ⟨rfl, _, ?_, .int _ _⟩
      show c[i * 1 + 0]? = _
      simp only [Nat.mul_one, Nat.add_zero]
      rw [hc i hlt]
      simp [List.getD, hb]
    | succ k => simp [AV.cells] at hk

/-- The world behind the conversion of a string to bytes. -/
theorem run_strToBytes {e : TypeId} (s : List UInt8) (w : World) : ∃ c cap fr w', (Conv.stringToBytes e ⟨s.toArray⟩).run P w = .ok (.slice (some ⟨w.heap.size, 0, none⟩) s.length cap) w' ∧ Grow w w' ∧ w'.heap[w.heap.size]? = some (.cells c e fr) ∧
    (∀ o, o < c.size → (fr.1 ≤ o && o < fr.2) = false) ∧ c.size = cap * 1 ∧ s.length ≤ cap ∧ EC E c 1 (bytesOf s) := by
  have hq : (Question.appendCap s.length 0 e).forced = false := rfl
  have hcap : s.length ≤ (Question.appendCap s.length 0 e).cut (w.tape w.drawn (.appendCap s.length 0 e)) := by simp [Question.cut]
  generalize hcp : (Question.appendCap s.length 0 e).cut (w.tape w.drawn (.appendCap s.length 0 e)) = cap at hcap
  let c : Array Value := (s.toArray.map fun b => Value.int .u8 b.toNat) ++ Array.replicate (cap - s.length) (.int .u8 0)
  have hc : c.size = cap := by simp [c]; omega
  let w1 := w.drew.alloc (.cells c e)
  have hsh : w1.shape? w.heap.size = some (e, c.size) := by simp only [World.shape?, w1]; rw [show w.heap.size = w.drew.heap.size from rfl, alloc_at]
  have hfz : (w1.freeze ⟨w.heap.size, c.size, none⟩ 1).heap[w.heap.size]? = some (.cells c e (c.size, c.size + 1)) := by
    have h1 : w1.heap[w.heap.size]? = some (.cells c e) := by simp only [w1]; rw [show w.heap.size = w.drew.heap.size from rfl, alloc_at]
    simp [World.freeze, Array.getElem?_modify, h1]
  refine ⟨c, cap, (c.size, c.size + 1), w1.freeze ⟨w.heap.size, c.size, none⟩ 1, ?_, ?_, hfz, fun o ho => by simp; omega, by omega, hcap, bytesOf_EC fun k hk => ?_⟩
  · unfold Conv.stringToBytes
    simp only [Sem.run_bind, run_choose, ba_size, hq, Bool.false_eq_true, if_false, Result.andThen_ok, hcp, Go.newRow, run_newObj, Sem.run_pure, markStringish]
    show (((shape w.heap.size).run P w1).andThen _).andThen _ = _
    simp only [run_shape, Result.andThen_ok, hsh, run_freeze, Sem.run_pure]
  · refine ⟨?_, fun b hb => ?_, rfl, rfl⟩
    · simp [World.freeze, w1]
    · have h1 : w1.heap[b]? = w.heap[b]? := (Grow.alloc w.drew (.cells c e)).heap b hb
      rw [← h1]
      show (w1.heap.modify w.heap.size _)[b]? = _
      rw [Array.getElem?_modify, if_neg (by omega)]
  · simp only [c]
    rw [Array.getElem?_append_left (by simpa using hk)]
    simp [hk, List.getD]

theorem ev_strToBytes_imm (hf : FRel E h w r a.tmps) (hh : HRel E h w) {t t' e : TypeId} {d : TypeDesc} {y : Operand} {x : AX} (ho : o.op = .convert t t' y) (hx : XRel E a x y) (hd : P.underlying t = some d) (ht : P.underlying t' = some (.slice e)) (hu : P.underlying e = some (.int .u8))
    (he : evalV r h (.strToBytes false x) = some reg) : Res P E h w r a o reg r h := by
  simp only [evalV] at he
  split at he
  · rename_i s hv
    cases he
    have h1 := str_inv (vl_spec hf hx hv)
    obtain ⟨c, cap, fr, w', q1, q2, q3, q4, q5, q6, q7⟩ := run_strToBytes (P := P) (E := E) (e := e) s w
    have hlen : (bytesOf s).length = s.length := by simp [bytesOf]
    obtain ⟨E', k1, k2, k3, k4⟩ := new_imm hf hh q2 (Nat.le_refl _) q3 q7 (cap := cap) (by omega) (cc := .no) (.inl rfl)
    rw [hlen] at k4
    exact .of_val (.inl (by simp [execOp, ho, convert, run_underlying hd, run_underlying ht, h1, run_underlying hu, q1])) k1 k2 k3 k4
  · cases he

theorem st_strToBytes_row {K : Kont} (hf : FRel E h w r a.tmps) (hh : HRel E h w) {t t' e : TypeId} {d : TypeDesc} {y : Operand} {x : AX} (ho : o.op = .convert t t' y) (hx : XRel E a x y) (hd : P.underlying t = some d) (ht : P.underlying t' = some (.slice e)) (hu : P.underlying e = some (.int .u8)) {r' : Regs} {h' : Hp}
    (he : step K r h (.strToBytes true x) = some (reg, r', h')) : Res P E h w r a o reg r' h' := by
  simp only [step] at he
  split at he
  · rename_i s hv
    cases he
    have h1 := str_inv (vl_spec hf hx hv)
    obtain ⟨c, cap, fr, w', q1, q2, q3, q4, q5, q6, q7⟩ := run_strToBytes (P := P) (E := E) (e := e) s w
    have hlen : (bytesOf s).length = s.length := by simp [bytesOf]
    obtain ⟨E', k1, k2, k3, k4, k5, k6⟩ := new_row hf hh q2 (Nat.le_refl _) q3 q4 q7 q5 (by omega)
    exact .of_val (.inl (by simp [execOp, ho, convert, run_underlying hd, run_underlying ht, h1, run_underlying hu, q1])) k1 k2 k3 (row_val k4 k5 k6 q6)
  · cases he

/-! ### a part of an array -/

def XOpt (E : Env) (a : Act) : Option AX → Option Operand → Prop
  | some x, some y => XRel E a x y
  | none, none => True
  | _, _ => False

theorem ivo_spec (hf : FRel E h w r a.tmps) {x : Option AX} {y : Option Operand} {d n : Int} (hx : XOpt E a x y) (hv : ivo r d x = some n) :
    (∃ z k, y = some z ∧ a.eval z = .int k n ∧ x.isSome) ∨ (y = none ∧ x = none ∧ n = d) := by
  cases x <;> cases y <;> simp [ivo, XOpt] at hx hv
  · right; exact ⟨rfl, rfl, hv.symm⟩
  · obtain ⟨k, hk⟩ := iv_spec hf hx hv
    left; exact ⟨_, k, rfl, hk, rfl⟩

theorem ev_sliceA (hf : FRel E h w r a.tmps) (hh : HRel E h w) {t e : TypeId} {y : Operand} {x : AX} {len size : Nat} {lo hi : Option Operand} {xlo xhi : Option AX} (ho : o.op = .slice t y lo hi none) (hx : XRel E a x y) (ht : P.underlying t = some (.array len e)) (hs : Sz P e size)
    (hlo : XOpt E a xlo lo) (hhi : XOpt E a xhi hi)
    (he : evalV r h (.sliceA len size x xlo xhi) = some reg) : Res P E h w r a o reg r h := by
  simp only [evalV] at he
  split at he
  · rename_i p l i hp hl hi'
    split at he
    · rename_i hc
      obtain ⟨c1, c2, c3⟩ := hc
      obtain ⟨b, off, h1, h2⟩ := plc_spec hf hx hp
      have hb : ∃ hv : Option Int, Bounds a E lo hi none l hv none ∧ hv.getD len = i := by
        rcases ivo_spec hf hlo hl with ⟨z, k, rfl, hz, _⟩ | ⟨rfl, _, rfl⟩ <;> rcases ivo_spec hf hhi hi' with ⟨z', k', rfl, hz', _⟩ | ⟨rfl, _, rfl⟩
        · exact ⟨some i, ⟨.inl ⟨z, k, rfl, hz⟩, .inl ⟨z', k', i, rfl, hz', rfl⟩, .inr ⟨rfl, rfl⟩⟩, rfl⟩
        · exact ⟨none, ⟨.inl ⟨z, k, rfl, hz⟩, .inr ⟨rfl, rfl⟩, .inr ⟨rfl, rfl⟩⟩, rfl⟩
        · exact ⟨some i, ⟨.inr ⟨rfl, rfl⟩, .inl ⟨z', k', i, rfl, hz', rfl⟩, .inr ⟨rfl, rfl⟩⟩, rfl⟩
        · exact ⟨none, ⟨.inr ⟨rfl, rfl⟩, .inr ⟨rfl, rfl⟩, .inr ⟨rfl, rfl⟩⟩, rfl⟩
      obtain ⟨hv, hb, rfl⟩ := hb
      have hrun := run_bounds (P := P) (w := w) hb false len len c1 c2 (by simpa using c3) (by simp) (by simp)
      simp only [Option.map_none, Option.getD_none, Int.toNat_natCast] at hrun
      have hsl : (execOp a.eval o).run P w = .ok (.value (.slice (some (if len = l.toNat then (⟨b, off, none⟩ : Addr) else ⟨b, off + l.toNat * size, none⟩)) ((hv.getD len).toNat - l.toNat) (len - l.toNat))) w := by
        simp [execOp, ho, Instr.sliceAt, run_underlying ht, Instr.sureAddr, h1, hrun, hs.run, addr_add]
      have hif : ∃ off', (if len = l.toNat then (⟨b, off, none⟩ : Addr) else ⟨b, off + l.toNat * size, none⟩) = ⟨b, off', none⟩ ∧ (off' = off + l.toNat * size ∨ (hv.getD (len : Int)).toNat - l.toNat = 0) := by
        split
        · exact ⟨off, rfl, .inr (by omega)⟩
        · exact ⟨_, rfl, .inl rfl⟩
      obtain ⟨off', e1, e2⟩ := hif
      rw [e1] at hsl
      split at he
      · rename_i t' o'
        cases he
        obtain ⟨p1, p2, p3⟩ := h2
        refine Pure.not_var ⟨_, .inl hsl, p1, off', len - l.toNat, by rw [vb_of p2], by omega, ?_⟩ (fun v e => by cases e) hf hh
        rcases e2 with e2 | e2
        · left; omega
        · right; exact e2
      · rename_i id s k o'
        cases he
        obtain ⟨p1, rfl, p3⟩ := h2
        refine Pure.not_var ⟨_, .inl hsl, p1, off', len - l.toNat, rfl, by omega, ?_⟩ (fun v e => by cases e) hf hh
        rcases e2 with e2 | e2
        · left; omega
        · right; exact e2
      · rename_i cs
        split at he
        · rename_i hc2
          obtain ⟨rfl, hcl⟩ := hc2
          cases he
          have hlen : ((cs.take (hv.getD len).toNat).drop l.toNat).length = (hv.getD len).toNat - l.toNat := by
            rw [List.length_drop, List.length_take, Nat.min_eq_left (by omega)]
          have hsub : ∀ (i : Nat) x, ((cs.take (hv.getD len).toNat).drop l.toNat)[i]? = some x → cs[l.toNat + i]? = some x := fun i x hi => by
            simp only [List.getElem?_drop, List.getElem?_take] at hi
            split at hi
            · exact hi
            · cases hi
          have hone : ∀ (i : Nat) x, ((cs.take (hv.getD len).toNat).drop l.toNat)[i]? = some x → x.one = true := fun i x hi => (h2 _ x (hsub i x hi)).1
          refine Pure.not_var ⟨_, .inl hsl, ?_⟩ (fun v e => by cases e) hf hh
          show VRel E _ _
          rw [← hlen]
          refine .imm 1 _ .no b off' _ (by omega) (fun e he => ?_) (fun e he x hx' => ?_) (fun i k hi hk => ?_) (fun i e k x u hi hk hu => ?_) trivial
          · obtain ⟨i, hi, rfl⟩ := List.getElem_of_mem he
            rw [AV.cells_of_one (hone i _ (List.getElem?_eq_getElem hi))]; rfl
          · obtain ⟨i, hi, rfl⟩ := List.getElem_of_mem he
            have := hone i _ (List.getElem?_eq_getElem hi)
            rw [AV.cells_of_one this] at hx'
            rw [List.mem_singleton] at hx'
            rw [hx']; exact this
          · have hoff : off' = off + l.toNat * 1 := by rcases e2 with e2 | e2 <;> omega
            obtain ⟨_, u, hu, _⟩ := h2 (l.toNat + i) _ (hsub i _ (List.getElem?_eq_getElem hi))
            rw [hoff, show off + l.toNat * 1 + i * 1 + k = off + (l.toNat + i) by omega, hu]; rfl
          · have hi0 := (List.getElem?_eq_some_iff.1 hi).1
            have hoff : off' = off + l.toNat * 1 := by rcases e2 with e2 | e2 <;> omega
            rw [AV.cells_of_one (hone i e hi)] at hk
            cases k with
            | zero =>
              simp at hk; subst hk
              obtain ⟨_, u', hu', hv'⟩ := h2 (l.toNat + i) _ (hsub i _ hi)
              rw [hoff, show off + l.toNat * 1 + i * 1 + 0 = off + (l.toNat + i) by omega, hu'] at hu
              cases hu; exact hv'
            | succ k => simp at hk
        · cases he
      · cases he
    · cases he
  · cases he

theorem ev_mm (hf : FRel E h w r a.tmps) {y z : Operand} {x xz : AX} {ts : Array TypeId} {mn : Bool} (ho : o.op = .call { callee := .builtin (if mn then .min else .max), args := #[y, z], argTypes := ts }) (hx : XRel E a x y) (hz : XRel E a xz z)
    (he : evalV r h (.mm mn x xz) = some reg) : Pure P E h w r a o reg := by
  simp only [evalV] at he
  split at he
  · rename_i k m k' n hv hv'
    cases he
    have h1 := int_inv (vl_spec hf hx hv)
    have h2 := int_inv (vl_spec hf hz hv')
    cases mn with
    | true => exact .val (by simp [execOp, ho, resolve, invoke, builtin, h1, h2, Builtin.min_, Builtin.min2]) (.int _ _)
    | false => exact .val (by simp [execOp, ho, resolve, invoke, builtin, h1, h2, Builtin.max_, Builtin.max2]) (.int _ _)
  · rename_i s s' hv hv'
    cases he
    have h1 := str_inv (vl_spec hf hx hv)
    have h2 := str_inv (vl_spec hf hz hv')
    cases mn with
    | true =>
      by_cases hc : (Op.bytesLess s s' || s == s') = true
      · exact .val (u := .string ⟨s.toArray⟩) (by simp [execOp, ho, resolve, invoke, builtin, h1, h2, Builtin.min_, Builtin.min2, Op.stringOp, asBool, hc]; try (intro hx1; simp [hx1] at hc)) (by rw [if_pos rfl, if_pos hc]; exact .str _)
      · exact .val (u := .string ⟨s'.toArray⟩) (by simp [execOp, ho, resolve, invoke, builtin, h1, h2, Builtin.min_, Builtin.min2, Op.stringOp, asBool]; simp at hc; simp [hc]) (by rw [if_pos rfl, if_neg hc]; exact .str _)
    | false =>
      by_cases hc : (!(Op.bytesLess s s')) = true
      · exact .val (u := .string ⟨s.toArray⟩) (by simp [execOp, ho, resolve, invoke, builtin, h1, h2, Builtin.max_, Builtin.max2, Op.stringOp, asBool]; simp at hc; simp [hc]) (by rw [if_neg (by simp), if_pos hc]; exact .str _)
      · exact .val (u := .string ⟨s'.toArray⟩) (by simp [execOp, ho, resolve, invoke, builtin, h1, h2, Builtin.max_, Builtin.max2, Op.stringOp, asBool]; simp at hc; simp [hc]) (by rw [if_neg (by simp), if_neg hc]; exact .str _)
  · cases he

end
end Go.Im

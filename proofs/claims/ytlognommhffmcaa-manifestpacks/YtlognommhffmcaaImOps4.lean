/- ImOps4: literals, byte slices, parts of arrays, heap variables. -/
import Derived.Test.YtlognommhffmcaaImNew
import Derived.Laws.Tables
set_option linter.unusedVariables false
set_option linter.unusedSimpArgs false
namespace Go.Im
section
variable {P : Program} {E : Env} {h : Hp} {w : World} {r : Regs} {a : Act} {o : Oper} {reg : Reg}

/-- Parts of a literal: where each lies, its operand. -/
def PartsOk (E : Env) (a : Act) (pl : Nat → Option (Nat × Nat)) (xs : List (Nat × Nat × AX)) (ys : List (Nat × Operand)) : Prop :=
  xs.length = ys.length ∧ ∀ (i : Nat) x y, xs[i]? = some x → ys[i]? = some y → pl y.1 = some (x.1, x.2.1) ∧ XRel E a x.2.2 y.2

theorem partVals_spec (hf : FRel E h w r a.tmps) {pl : Nat → Option (Nat × Nat)} : ∀ {xs : List (Nat × Nat × AX)} {ys : List (Nat × Operand)}, PartsOk E a pl xs ys → ∀ {ps : List (Nat × Nat × AV)}, partVals r xs = some ps →
    ps.length = (ys.map fun y => (y.1, a.eval y.2)).length ∧ ∀ (i : Nat) p q, ps[i]? = some p → (ys.map fun y => (y.1, a.eval y.2))[i]? = some q → pl q.1 = some (p.1, p.2.1) ∧ VRel E p.2.2 q.2
  | [], [], _, ps, hv => by simp [partVals] at hv; subst hv; simp
  | [], y :: ys, hx, _, _ => by simp [PartsOk] at hx
  | x :: xs, [], hx, _, _ => by simp [PartsOk] at hx
  | (o, s, x) :: xs, y :: ys, hx, ps, hv => by
    simp only [partVals] at hv
    split at hv
    · rename_i v vs' h1 h2
      cases hv
      have hx' : PartsOk E a pl xs ys := ⟨by have := hx.1; simpa using this, fun i => hx.2 (i + 1)⟩
      obtain ⟨q1, q2⟩ := partVals_spec hf hx' h2
      refine ⟨by simpa using q1, fun i p q hp hq => ?_⟩
      cases i with
      | zero =>
        simp at hp hq
        subst hp; subst hq
        obtain ⟨e1, e2⟩ := hx.2 0 _ _ rfl rfl
        exact ⟨e1, vl_spec hf e2 h1⟩
      | succ i =>
        refine q2 i p q (by simpa using hp) ?_
        simpa using hq
    · cases hv

theorem ev_lit (hf : FRel E h w r a.tmps) {t : TypeId} {i : TypeInfo} {zv : Value} {zs : List AV} {xs : List (Nat × Nat × AX)} {ys : Array (Nat × Operand)} {pl : Nat → Option (Nat × Nat)} (ho : o.op = .build t ys)
    (hi : P.info? t = some i) (hz : i.zero = some zv) (hzv : VRel E (.agg zs) zv)
    (hpl : (∃ len e sz, P.underlying t = some (.array len e) ∧ Sz P e sz ∧ pl = fun i => some (i * sz, sz)) ∨ (∃ fs places, P.underlying t = some (.struct fs) ∧ fs.toList.mapM (fun f => (P.info? f.type).map fun i => (f.offset, i.size)) = some places ∧ pl = fun i => (places.toArray)[i]?))
    (hx : PartsOk E a pl xs ys.toList) (he : evalV r h (.lit zs xs) = some reg) : Pure P E h w r a o reg := by
  simp only [evalV] at he
  split at he
  · rename_i ps hps
    obtain ⟨out, hout, rfl⟩ := map_some he
    obtain ⟨q1, q2⟩ := partVals_spec hf hx hps
    cases hzv with
    | agg _ vs hl h1 hh =>
    obtain ⟨cs, c1, c2, c3, c4⟩ := fill_spec pl ps (ys.toList.map fun y => (y.1, a.eval y.2)) zs vs out q1 q2 hl h1 hh hout
    refine .val (u := .agg cs) ?_ (.agg _ _ c2 c3 c4)
    rcases hpl with ⟨len, e, sz, hu, hs, rfl⟩ | ⟨fs, places, hu, hm, rfl⟩
    · simp [execOp, ho, Instr.build, zeroValue, typeInfo, hi, hz, run_underlying hu, hs.run, Value.cells]
      simp [c1]
    · simp [execOp, ho, Instr.build, zeroValue, typeInfo, hi, hz, run_underlying hu, Value.cells, Array.mapM_eq_mapM_toList, run_places _ _ _ hm]
      simp at c1
      simp [c1]
  · cases he

/-! ### slices of elements -/

def PartsE (E : Env) (a : Act) (xs : List (Nat × AX)) (ys : List (Nat × Operand)) : Prop :=
  xs.length = ys.length ∧ ∀ (i : Nat) x y, xs[i]? = some x → ys[i]? = some y → x.1 = y.1 ∧ XRel E a x.2 y.2

theorem partEs_spec (hf : FRel E h w r a.tmps) : ∀ {xs : List (Nat × AX)} {ys : List (Nat × Operand)}, PartsE E a xs ys → ∀ {ps : List (Nat × AV)}, partEs r xs = some ps →
    ps.length = (ys.map fun y => (y.1, a.eval y.2)).length ∧ ∀ (i : Nat) p q, ps[i]? = some p → (ys.map fun y => (y.1, a.eval y.2))[i]? = some q → p.1 = q.1 ∧ VRel E p.2 q.2
  | [], [], _, ps, hv => by simp [partEs] at hv; subst hv; simp
  | [], y :: ys, hx, _, _ => by simp [PartsE] at hx
  | x :: xs, [], hx, _, _ => by simp [PartsE] at hx
  | (o, x) :: xs, y :: ys, hx, ps, hv => by
    simp only [partEs] at hv
    split at hv
    · rename_i v vs' h1 h2
      cases hv
      have hx' : PartsE E a xs ys := ⟨by have := hx.1; simpa using this, fun i => hx.2 (i + 1)⟩
      obtain ⟨q1, q2⟩ := partEs_spec hf hx' h2
      refine ⟨by simpa using q1, fun i p q hp hq => ?_⟩
      cases i with
      | zero =>
        simp at hp hq
        subst hp; subst hq
        obtain ⟨e1, e2⟩ := hx.2 0 _ _ rfl rfl
        exact ⟨e1, vl_spec hf e2 h1⟩
      | succ i =>
        refine q2 i p q (by simpa using hp) ?_
        simpa using hq
    · cases hv

theorem mul_apart {i j size k : Nat} (hk : k < size) (h : i ≠ j) : i * size + k < j * size ∨ j * size + size ≤ i * size + k := by
  rcases Nat.lt_or_ge i j with hl | hl
  · left; exact mul_lt hl hk
  · right
    have : (j + 1) * size ≤ i * size := Nat.mul_le_mul_right _ (by omega)
    rw [Nat.succ_mul] at this
    omega

/-- A value put over element i. -/
theorem EC.set {c cs : Array Value} {size : Nat} {es : List AV} (hc : EC E c size es) {i : Nat} {v : AV} {u : Value} (hi : i < es.length) (hv : VRel E v u) (hn : v.notTup = true) (hl : v.cells.length = size)
    (e3 : ∀ k, k < u.cells.size → cs[i * size + k]? = u.cells[k]?) (e4 : ∀ k, k < i * size ∨ i * size + u.cells.size ≤ k → cs[k]? = c[k]?) : EC E cs size (es.set i v) := by
  obtain ⟨q1, q2⟩ := cells_rel hv hn
  refine ⟨fun e he => ?_, fun j e hj => ?_⟩
  · rcases List.mem_or_eq_of_mem_set he with he | rfl
    · exact hc.1 e he
    · exact hl
  · rw [List.getElem?_set] at hj
    split at hj
    · rename_i hij
      subst hij
      simp [hi] at hj
      subst hj
      refine fun k x hk => ?_
      have hk' := (List.getElem?_eq_some_iff.1 hk).1
      obtain ⟨p1, u', p2, p3⟩ := q2 k x hk
      refine ⟨p1, u', ?_, p3⟩
      show cs[i * size + k]? = some u'
      rw [e3 k (by omega)]
      simpa using p2
    · rename_i hij
      have hje := hc.1 e (List.mem_of_getElem? hj)
      refine (hc.2 j e hj).congr fun k hk => ?_
      exact e4 _ (by have := mul_apart (i := j) (j := i) (k := k) (size := size) (by omega) (Ne.symm hij); omega)

theorem fillEs_spec {size : Nat} : ∀ (ps : List (Nat × AV)) (qs : List (Nat × Value)) (es : List AV) (cells : Array Value) (out : List AV),
    ps.length = qs.length → (∀ (i : Nat) p q, ps[i]? = some p → qs[i]? = some q → p.1 = q.1 ∧ VRel E p.2 q.2) → es.length * size ≤ cells.size → EC E cells size es → placeEs es size ps = some out →
    ∃ cs, Instr.fill (fun i => some (i * size, size)) cells qs = some cs ∧ cs.size = cells.size ∧ out.length = es.length ∧ EC E cs size out
  | [], [], es, cells, out, _, _, h1, h2, he => by simp [placeEs] at he; subst he; exact ⟨cells, rfl, rfl, rfl, h2⟩
  | [], q :: qs, _, _, _, hl, _, _, _, _ => by simp at hl
  | p :: ps, [], _, _, _, hl, _, _, _, _ => by simp at hl
  | (i, v) :: ps, (i', u) :: qs, es, cells, out, hl, hp, h1, h2, he => by
    simp only [placeEs] at he
    split at he
    · rename_i hc
      obtain ⟨c1, c2, c3⟩ := hc
      obtain ⟨rfl, p2⟩ := hp 0 _ _ rfl rfl
      simp only at p2
      obtain ⟨q1, q2⟩ := cells_rel p2 c1
      have hle : i * size + size ≤ es.length * size := by
        have : (i + 1) * size ≤ es.length * size := Nat.mul_le_mul_right _ c3
        rwa [Nat.succ_mul] at this
      obtain ⟨cs, e1, e2, e3, e4⟩ := fill_one cells u (i * size) (by omega)
      obtain ⟨cs', f1, f2, f3, f4⟩ := fillEs_spec ps qs (es.set i v) cs out (by simpa using hl) (fun j p q hp' hq' => hp (j + 1) p q hp' hq') (by simp; omega) (h2.set c3 p2 c1 c2 e3 e4) he
      refine ⟨cs', ?_, by omega, by simpa using f3, f4⟩
      simp only [Instr.fill]
      rw [if_neg (by simp; omega), e1]
      exact f1
    · cases he

/-- Zeros. -/
theorem zeros_EC {z : AV} {zv : Value} (hz : VRel E z zv) (hn : z.notTup = true) {size : Nat} (hs : z.cells.length = size) (n m : Nat) (hm : n ≤ m) {c : Array Value} (hc : ∀ k, k < m * size → c[k]? = zv.cells[k % size]?) : EC E c size (List.replicate n z) := by
  obtain ⟨q1, q2⟩ := cells_rel hz hn
  refine ⟨fun e he => by rw [(List.mem_replicate.1 he).2]; exact hs, fun i e hi => ?_⟩
  have hi' := (List.getElem?_eq_some_iff.1 hi).1
  simp at hi'
  rw [List.getElem?_replicate, if_pos hi'] at hi
  cases hi
  intro k x hk
  have hk' := (List.getElem?_eq_some_iff.1 hk).1
  obtain ⟨p1, u, p2, p3⟩ := q2 k x hk
  refine ⟨p1, u, ?_, p3⟩
  show c[i * size + k]? = some u
  have hlt : i * size + k < m * size := Nat.lt_of_lt_of_le (mul_lt hi' (by omega)) (Nat.mul_le_mul_right _ hm)
  rw [hc _ hlt, Nat.mul_comm, Nat.mul_add_mod, Nat.mod_eq_of_lt (by omega)]
  simpa using p2

theorem zero_cells (zv : Value) (n : Nat) : ((Array.range n).map fun j => zv.cells[j % zv.cells.size]!).size = n ∧ ∀ k, k < n → 0 < zv.cells.size → ((Array.range n).map fun j => zv.cells[j % zv.cells.size]!)[k]? = zv.cells[k % zv.cells.size]? := by
  refine ⟨by simp, fun k hk h0 => ?_⟩
  have : k % zv.cells.size < zv.cells.size := Nat.mod_lt _ h0
  simp [hk, this]

theorem run_buildSlice (hf : FRel E h w r a.tmps) {t e : TypeId} {i : TypeInfo} {zv : Value} {z : AV} {len size : Nat} {xs : List (Nat × AX)} {ys : Array (Nat × Operand)} (ht : P.underlying t = some (.slice e)) (hi : P.info? e = some i) (hsz : i.size = size)
    (hz : i.zero = some zv) (hzv : VRel E z zv) (hn : z.notTup = true) (hs : z.cells.length = size) (hs0 : 0 < size) (hl : len * size ≤ 16777216) (hx : PartsE E a xs ys.toList) {ps : List (Nat × AV)} (hps : partEs r xs = some ps) {es : List AV} (he : placeEs (List.replicate len z) size ps = some es) :
    es.length = len ∧ ∃ c, (Instr.buildSlice t len (ys.map fun (i, x) => (i, a.eval x))).run P w = .ok (.slice (some ⟨w.heap.size, 0, none⟩) len len) (w.alloc (.cells c e)) ∧ c.size = len * size ∧ EC E c size es := by
  obtain ⟨q1, q2⟩ := partEs_spec hf hx hps
  obtain ⟨z1, z2⟩ := zero_cells zv (len * size)
  have hzs : zv.cells.size = size := by have := (cells_rel hzv hn).1; omega
  let c0 : Array Value := (Array.range (len * size)).map fun j => (if len * size = 0 then #[] else zv.cells)[j % (if len * size = 0 then #[] else zv.cells).size]!
  have hc0 : c0.size = len * size ∧ EC E c0 size (List.replicate len z) := by
    by_cases h0 : len * size = 0
    · refine ⟨by simp [c0], ?_⟩
      have : len = 0 := by rcases Nat.mul_eq_zero.1 h0 with h | h <;> omega
      subst this
      exact ⟨fun e he => by simp at he, fun i e hi => by simp at hi⟩
    · refine ⟨by simp [c0], zeros_EC hzv hn hs len len (Nat.le_refl _) fun k hk => ?_⟩
      simp only [c0, if_neg h0]
      rw [z2 k hk (by omega), hzs]
  obtain ⟨cs, e1, e2, e3, e4⟩ := fillEs_spec ps _ _ c0 es q1 q2 (by simp [hc0.1]) hc0.2 he
  refine ⟨by simpa using e3, cs, ?_, by rw [e2, hc0.1], e4⟩
  have hle : ¬ (len * size > 2 ^ 24) := by simp; omega
  have e1' : Instr.fill (fun i => some (i * size, size)) c0 (ys.map fun (i, x) => (i, a.eval x)).toList = some cs := by
    rw [← e1]; congr 1; simp
  unfold Instr.buildSlice
  by_cases h0 : len * size = 0
  · simp only [c0, if_pos h0] at e1'
    simp [run_underlying ht, sizeOf, typeInfo, hi, hsz, h0, Go.newRow]
    simp only [h0] at e1'
    simp at e1'
    rw [e1']
    rfl
  · simp only [c0, if_neg h0] at e1'
    simp at hle
    simp [run_underlying ht, sizeOf, typeInfo, hi, hsz, h0, Go.newRow, zeroValue, hz, Nat.not_lt.2 hle]
    simp at e1'
    rw [e1']
    rfl

end
end Go.Im

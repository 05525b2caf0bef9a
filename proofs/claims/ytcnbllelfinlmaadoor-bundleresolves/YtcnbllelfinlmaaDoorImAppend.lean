/- ImAppend: append, and make of a slice. -/
import Derived.Test.YtcnbllelfinlmaaDoorImWrite
set_option linter.unusedVariables false
set_option linter.unusedSimpArgs false
namespace Go.Im
section
variable {P : Program} {E : Env} {h : Hp} {w : World} {r : Regs} {a : Act} {o : Oper} {reg : Reg}

structure Src (P : Program) (E : Env) (w : World) (u : Value) (size : Nat) (es : List AV) (us : List Value) : Prop where
  sz : ∀ e ∈ es, e.cells.length = size
  len : us.length = es.length * size
  n : ∀ w1, (Builtin.lenOf u).run P w1 = .ok es.length w1
  run : ∀ w1 n, Grow w w1 → n ≤ es.length → (Builtin.firstCells size n u).run P w1 = .ok (us.take (n * size)).toArray w1
  rel : ∀ (j : Nat) x y, (flat es)[j]? = some x → us[j]? = some y → x.one = true ∧ VRel E x y

theorem ElemsAt.sz {b o size : Nat} {es : List AV} (he : ElemsAt E w b o size es) : ∀ e ∈ es, e.cells.length = size := fun e hm => by
  obtain ⟨i, hi, rfl⟩ := List.getElem_of_mem hm
  exact (he i _ (List.getElem?_eq_getElem hi)).1

theorem src_slice {u : Value} {size : Nat} {es : List AV} (hs : SliceAt E w u size es) : ∃ us, Src P E w u size es us := by
  rcases hs with ⟨rfl, rfl⟩ | ⟨z, rfl, rfl⟩ | ⟨b, off, cap, rfl, h1, h2⟩
  · exact ⟨[], (fun e he => by simp at he), (by simp), fun w1 => by simp [Builtin.lenOf], fun w1 n _ hn => by simp [Builtin.firstCells], fun j x y hx => by simp [flat] at hx⟩
  · refine ⟨[], (fun e he => by simp at he), (by simp), fun w1 => by simp [Builtin.lenOf], fun w1 n _ hn => ?_, fun j x y hx => by simp [flat] at hx⟩
    have : n = 0 := by simpa using hn
    subst this
    have := run_loadCells_list (P := P) w1 z [] (fun j y hj => by simp at hj)
    simpa [Builtin.firstCells] using this
  · obtain ⟨us, q1, q2, q3⟩ := h2.cells
    refine ⟨us, h2.sz, q1, fun w1 => by simp [Builtin.lenOf], fun w1 n g hn => ?_, fun j x y hx hy => q3 j x y hx hy⟩
    have hle : n * size ≤ us.length := by rw [q1]; exact Nat.mul_le_mul_right _ hn
    have := run_loadCells_list (P := P) w1 ⟨b, off, none⟩ (us.take (n * size)) (fun j y hj => by
      rw [addr_add]
      rw [List.getElem?_take] at hj
      split at hj
      · exact g.cell (q2 j y hj)
      · cases hj)
    rw [List.length_take, Nat.min_eq_left hle] at this
    simpa [Builtin.firstCells] using this

theorem src_str (s : List UInt8) : Src P E w (.string ⟨s.toArray⟩) 1 (bytesOf s) (s.map fun b => .int .u8 b.toNat) := by
  have hone : ∀ e ∈ bytesOf s, e.one = true := fun e he => by obtain ⟨b, _, rfl⟩ := List.mem_map.1 he; rfl
  refine ⟨fun e he => by rw [AV.cells_of_one (hone e he)]; rfl, by simp [bytesOf], fun w1 => by simp [Builtin.lenOf,ba_size,bytesOf], fun w1 n _ hn => ?_, fun j x y hx hy => ?_⟩
  · simp only [Builtin.firstCells,Sem.run_pure,Nat.mul_one]
    congr 1
    rw [ba_extract]
    simp [List.map_take]
  · rw [flat_one hone] at hx
    simp only [bytesOf,List.getElem?_map,Option.map_eq_some_iff] at hx hy
    obtain ⟨b, hb, rfl⟩ := hx
    obtain ⟨b', hb', rfl⟩ := hy
    rw [hb] at hb'
    cases hb'
    exact ⟨rfl, .int _ _⟩

theorem srcElems_spec (hf : FRel E h w r a.tmps) (hh : HRel E h w) {x : AX} {y : Operand} (hx : XRel E a x y) {sz : Nat} {es : List AV} (he : srcElems r h sz x = some es) : ∃ us, Src P E w (a.eval y) sz es us := by
  unfold srcElems at he
  split at he
  · rename_i s hv
    split at he
    · rename_i h1
      subst h1
      cases he
      rw [str_inv (vl_spec hf hx hv)]
      exact ⟨_, src_str s⟩
    · cases he
  · exact src_slice (selems_spec hf hh hx he)

theorem flat_at {size : Nat} : ∀ {es : List AV}, (∀ e ∈ es, e.cells.length = size) → ∀ {i k : Nat} {e x : AV}, es[i]? = some e → e.cells[k]? = some x → (flat es)[i * size + k]? = some x
  | [], _, i, k, e, x, hi, _ => by simp at hi
  | e0 :: es, hs, i, k, e, x, hi, hk => by
    simp only [flat,List.flatMap_cons]
    have h0 := hs e0 (by simp)
    cases i with
    | zero =>
      simp at hi; subst hi
      rw [List.getElem?_append_left (by have := (List.getElem?_eq_some_iff.1 hk).1; omega)]
      simpa using hk
    | succ i =>
      rw [List.getElem?_append_right (by rw [h0, Nat.succ_mul]; omega), h0, show (i + 1) * size + k - size = i * size + k by rw [Nat.succ_mul]; omega]
      exact flat_at (fun e he => hs e (by simp [he])) (by simpa using hi) hk

theorem Src.cells {u : Value} {size : Nat} {es : List AV} {us : List Value} (hs : Src P E w u size es us) {c : Array Value} {off : Nat} (hc : ∀ j, j < us.length → c[off + j]? = us[j]?) {i : Nat} {e : AV} (hi : es[i]? = some e) :
    CellsAt E (fun o => c[o]?) (off + i * size) e := by
  intro k x hk
  have hf := flat_at hs.sz hi hk
  have hlt : i * size + k < us.length := by
    rw [hs.len]
    have hk' := (List.getElem?_eq_some_iff.1 hk).1
    rw [hs.sz e (List.mem_of_getElem? hi)] at hk'
    exact mul_lt (List.getElem?_eq_some_iff.1 hi).1 hk'
  obtain ⟨p1, p2⟩ := hs.rel _ x _ hf (List.getElem?_eq_getElem hlt)
  refine ⟨p1, us[i * size + k], ?_, p2⟩
  show c[off + i * size + k]? = _
  rw [Nat.add_assoc, hc _ hlt, List.getElem?_eq_getElem hlt]

theorem EC.append {c : Array Value} {size : Nat} {es xs : List AV} (h1 : EC E c size es) (h2 : ∀ e ∈ xs, e.cells.length = size) (h3 : ∀ (i : Nat) e, xs[i]? = some e → CellsAt E (fun o => c[o]?) (es.length * size + i * size) e) : EC E c size (es ++ xs) := by
  refine ⟨fun e he => (List.mem_append.1 he).elim (h1.1 e) (h2 e), fun i e hi => ?_⟩
  by_cases hl : i < es.length
  · rw [List.getElem?_append_left hl] at hi
    exact h1.2 i e hi
  · rw [List.getElem?_append_right (by omega)] at hi
    have := h3 _ e hi
    rwa [← Nat.add_mul, show es.length + (i - es.length) = i by omega] at this

structure AppT (P : Program) (t xt e : TypeId) (size bytes : Nat) : Prop where
  t : P.underlying t = some (.slice e)
  x : ∃ d, P.underlying xt = some d ∧ ∀ k, d ≠ .int k
  i : ∃ i zv, P.info? e = some i ∧ i.size = size ∧ i.bytes = bytes ∧ i.zero = some zv ∧ zv.cells.size = size
  b : 0 < bytes
  s : 0 < size

theorem run_room {t xt ty e : TypeId} {size bytes : Nat} (hT : AppT P t xt e size bytes) {base : Option Addr} {n cap m : Nat} {u : Value} (hm : ∀ w1, (Builtin.lenOf u).run P w1 = .ok m w1) (hle : n + m ≤ cap) {us : List Value} (hu : (Builtin.firstCells size m u).run P w = .ok us.toArray w)
    {w' : World} (hst : (match base with | some a => storeCells (a.add (n * size)) us | none => pure ()).run P w = .ok () w') :
    (Builtin.append_ #[t, xt] ty #[.slice base n cap, u]).run P w = .ok (.slice base (n + m) cap) w' := by
  obtain ⟨d, hd, hdn⟩ := hT.x
  obtain ⟨i, zv, hi, rfl, rfl, hz, hzs⟩ := hT.i
  unfold Builtin.append_
  simp only [List.getElem?_toArray,List.getElem?_cons_zero,List.getElem?_cons_succ,Sem.run_bind,run_underlying hT.t,run_underlying hd,Result.andThen_ok,sizeOf,typeInfo,run_program,hi,Sem.run_pure]
  simp only [Bool.false_eq_true,if_false,Bool.not_false,if_true,Sem.run_bind,hm,Result.andThen_ok,Sem.run_ite,if_pos hle,hu]
  cases base with
  | none => simp only [Sem.run_pure] at hst; cases hst; rfl
  | some ad => simp only [Sem.run_bind,hst,Result.andThen_ok,Sem.run_pure]

theorem run_grow {t xt ty e : TypeId} {size bytes : Nat} (hT : AppT P t xt e size bytes) {base : Option Addr} {n cap : Nat} {olds : List Value} (ho : ∀ w1, Grow w w1 → (Builtin.firstCells size n (.slice base n cap)).run P w1 = .ok olds.toArray w1) (hol : olds.length = n * size)
    {u : Value} {es : List AV} {us : List Value} (hs : Src P E w u size es us) (hcap : cap < n + es.length) (hb : (n + es.length) * bytes ≤ 140737488355328) :
    ∃ c w' cap', (Builtin.append_ #[t, xt] ty #[.slice base n cap, u]).run P w = .ok (.slice (some ⟨w.heap.size, 0, none⟩) (n + es.length) cap') w' ∧ Grow w w' ∧ w'.heap[w.heap.size]? = some (.cells c e (0, 0)) ∧ n + es.length ≤ cap' ∧ c.size = cap' * size ∧
      (∀ j, j < olds.length → c[j]? = olds[j]?) ∧ (∀ j, j < us.length → c[n * size + j]? = us[j]?) := by
  obtain ⟨d, hd, hdn⟩ := hT.x
  obtain ⟨i, zv, hi, rfl, rfl, hz, hzs⟩ := hT.i
  have hnot : ¬ (n + es.length ≤ cap) := by omega
  have hfit : ¬ (Builtin.nextslicecap (n + es.length) cap * i.bytes > 2 ^ 48) := by
    have := growslice_fits (bytes := i.bytes) hcap hb
    simp; omega
  have hcut : n + es.length ≤ (Question.appendCap (n + es.length) cap e).cut (w.tape w.drawn (.appendCap (n + es.length) cap e)) := by simp [Question.cut]
  have hforced : (Question.appendCap (n + es.length) cap e).forced = false := rfl
  generalize hc : (Question.appendCap (n + es.length) cap e).cut (w.tape w.drawn (.appendCap (n + es.length) cap e)) = cap' at hcut
  have hfo := ho w.drew (Grow.drew w)
  have hfn := hs.run w.drew es.length (Grow.drew w) (Nat.le_refl _)
  rw [← hs.len, List.take_length] at hfn
  have hb0 : ¬ ((((n + es.length : Nat)) : Int) > IntKind.i64.max ∧ (False ∨ i.bytes = 0)) := fun ⟨_, h⟩ => by
    have := hT.b
    rcases h with h | h
    · exact h
    · omega
  let c := olds.toArray ++ us.toArray ++ Builtin.zeroCells zv.cells (cap' - (n + es.length))
  refine ⟨c, w.drew.alloc (.cells c e), cap', ?_, (Grow.drew w).trans (Grow.alloc _ _), alloc_at _ _, hcut, ?_, fun j hj => ?_, fun j hj => ?_⟩
  · unfold Builtin.append_
    simp only [List.getElem?_toArray,List.getElem?_cons_zero,List.getElem?_cons_succ,Sem.run_bind,run_underlying hT.t,run_underlying hd,Result.andThen_ok,sizeOf,typeInfo,run_program,hi,Sem.run_pure]
    simp only [Bool.false_eq_true,if_false,Bool.not_false,if_true,Sem.run_bind,hs.n,Result.andThen_ok,Sem.run_ite,if_neg hnot,run_program,hi,Sem.run_pure,if_neg hb0,if_neg hfit,run_choose,hforced,hc,run_askRoom]
    show ((Builtin.firstCells i.size n (Value.slice base n cap)).run P w.drew).andThen _ = _
    simp only [hfo,Result.andThen_ok,hfn,zeroValue,typeInfo,Sem.run_bind,run_program,hi,hz,Sem.run_pure,Go.newRow,run_newObj]
    rfl
  · simp only [c,Array.size_append,List.size_toArray,hol,hs.len,Builtin.zeroCells,Array.size_map,Array.size_range,hzs]
    rw [← Nat.add_mul, ← Nat.add_mul]; congr 1; omega
  · simp only [c]
    rw [Array.append_assoc, Array.getElem?_append_left (by simpa using hj)]
    simp
  · simp only [c]
    rw [Array.getElem?_append_left (by simp; omega), Array.getElem?_append_right (by simp; omega)]
    simp [hol]

theorem grow_EC {u : Value} {size : Nat} {es xs : List AV} {us olds : List Value} {c : Array Value} (hs : Src P E w u size xs us) (ho : ∀ e ∈ es, e.cells.length = size) (hr : ∀ (j : Nat) x y, (flat es)[j]? = some x → olds[j]? = some y → x.one = true ∧ VRel E x y) (hol : olds.length = es.length * size)
    (h1 : ∀ j, j < olds.length → c[j]? = olds[j]?) (h2 : ∀ j, j < us.length → c[es.length * size + j]? = us[j]?) : EC E c size (es ++ xs) := by
  refine EC.append ⟨ho, fun i e hi k x hk => ?_⟩ hs.sz fun i e hi => hs.cells h2 hi
  have hf := flat_at ho hi hk
  have hk' := (List.getElem?_eq_some_iff.1 hk).1
  rw [ho e (List.mem_of_getElem? hi)] at hk'
  have hlt : i * size + k < olds.length := by rw [hol]; exact mul_lt (List.getElem?_eq_some_iff.1 hi).1 hk'
  obtain ⟨p1, p2⟩ := hr _ x _ hf (List.getElem?_eq_getElem hlt)
  exact ⟨p1, olds[i * size + k], by show c[i * size + k]? = _; rw [h1 _ hlt, List.getElem?_eq_getElem hlt], p2⟩

/-! ### the heap behind an append -/

theorem HRel.dead (hh : HRel E h w) (id : Nat) : HRel E (h.set id .dead) w := by
  have hal : ∀ j, alive (h.set id .dead) j → alive h j := fun j ⟨x, hx, hd⟩ => by
    rw [List.getElem?_set] at hx
    split at hx
    · split at hx
      · cases hx; exact absurd rfl hd
      · cases hx
    · exact ⟨x, hx, hd⟩
  refine ⟨by simpa using hh.n, hh.sg, fun j ha => hh.lt j (hal j ha), fun j y hy => ?_, fun i j hi hj he => hh.inj i j (hal i hi) (hal j hj) he⟩
  rw [List.getElem?_set] at hy
  split at hy
  · split at hy
    · cases hy; trivial
    · cases hy
  · exact hh.obj j y hy

theorem Owned.dead {id b : Nat} (ho : Owned E (h.set id .dead) b) : Owned E h b := by
  obtain ⟨j, ⟨x, hx, hd⟩, e⟩ := ho
  rw [List.getElem?_set] at hx
  split at hx
  · split at hx
    · cases hx; exact absurd rfl hd
    · cases hx
  · exact ⟨j, ⟨x, hx, hd⟩, e⟩

theorem not_owned_dead (hh : HRel E h w) {id : Nat} (ha : alive h id) : ¬ Owned E (h.set id .dead) (E.ob id) := fun ⟨j, ⟨x, hx, hd⟩, e⟩ => by
  rw [List.getElem?_set] at hx
  split at hx
  · split at hx
    · cases hx; exact hd rfl
    · cases hx
  · rename_i hne
    exact hne (hh.inj j id ⟨x, hx, hd⟩ ha e).symm

theorem FRel.dead {tm : Array Value} (hf : FRel E h w r tm) (id : Nat) : FRel E (h.set id .dead) w r tm :=
  hf.mono (.refl E) fun t ht => ⟨rfl, fun _ => rfl, fun ho => hf.own t ht (Owned.dead ho)⟩

theorem Keep.dead (E : Env) (h : Hp) (X : Nat → Prop) (w : World) (id : Nat) : Keep E h X w E (h.set id .dead) X w :=
  ⟨.refl E, Nat.le_refl _, rfl, rfl, fun _ _ _ _ => rfl, fun _ h => .inl (Owned.dead h), fun _ h => .inl h, fun _ _ h => .inl h⟩

def Env.more (E : Env) (b lo hi : Nat) (c : Array Value) : Env := { E with sg := fun b' o => if b' = b ∧ lo ≤ o ∧ o < hi then c[o]? else E.sg b' o }

theorem Env.more_le {b lo hi : Nat} {c : Array Value} (hn : ∀ o, lo ≤ o → E.sg b o = none) : E.le (E.more b lo hi c) :=
  ⟨Nat.le_refl _, fun _ _ => rfl, fun _ _ => rfl, fun b' o v h => by
    simp only [Env.more]
    split
    · rename_i e; obtain ⟨rfl, e1, _⟩ := e; rw [hn o e1] at h; cases h
    · exact h, rfl⟩

theorem HRel.more (hh : HRel E h w) {w' : World} {b lo hi : Nat} {c c' : Array Value} {T : TypeId} {fr : Nat × Nat} (hb : w.heap[b]? = some (.cells c T fr)) (hb' : w'.heap[b]? = some (.cells c' T fr)) (hno : ¬ Owned E h b) (hn : ∀ o, lo ≤ o → E.sg b o = none)
    (hc : ∀ k, k < lo → c'[k]? = c[k]?) (hsz : w'.heap.size = w.heap.size) (ho : ∀ b', b' ≠ b → w'.heap[b']? = w.heap[b']?) : HRel (E.more b lo hi c') h w' := by
  refine ⟨hh.n, fun b' o v hv => ?_, fun id ha => by rw [hsz]; exact hh.lt id ha, fun id x hx => ?_, hh.inj⟩
  · simp only [Env.more] at hv
    split at hv
    · rename_i e; obtain ⟨rfl, _, _⟩ := e; rw [cell_of hb']; exact hv
    · rename_i e
      by_cases hbb : b' = b
      · subst hbb
        have hlt : o < lo := by
          rcases Nat.lt_or_ge o lo with h | h
          · exact h
          · rw [hn o h] at hv; cases hv
        have := hh.sg b' o v hv
        rw [cell_of hb] at this
        rw [cell_of hb', hc o hlt]; exact this
      · have := hh.sg b' o v hv
        simp only [World.cell?,ho b' hbb] at this ⊢
        exact this
  · by_cases hd : x = .dead
    · subst hd; trivial
    · have hne : E.ob id ≠ b := fun e => hno ⟨id, ⟨x, hx, hd⟩, e⟩
      refine ORel.mono (Env.more_le hn) (fun o => ?_) (ORel.congr (ho _ hne) (hh.obj id x hx))
      simp only [Env.more]; rw [if_neg fun e => hne e.1]

theorem FRel.more {tm : Array Value} (hf : FRel E h w r tm) {w' : World} {b lo hi : Nat} {c' : Array Value} (hv : ¬ Vars r tm b) (hn : ∀ o, lo ≤ o → E.sg b o = none) (ho : ∀ b', b' ≠ b → w'.heap[b']? = w.heap[b']?) : FRel (E.more b lo hi c') h w' r tm :=
  hf.mono (Env.more_le hn) fun t ht => by
    have hne : vb tm t ≠ b := fun e => hv ⟨t, ht, e⟩
    exact ⟨ho _ hne, fun o => by simp only [Env.more]; rw [if_neg fun e => hne e.1], hf.own t ht⟩

theorem run_store_room {b off : Nat} {c : Array Value} {T : TypeId} {fr : Nat × Nat} (hb : w.heap[b]? = some (.cells c T fr)) (hfr : ∀ o, o < c.size → (fr.1 ≤ o && o < fr.2) = false) {us : List Value} (h1 : ∀ u ∈ us, u.oneCell' = true) (hle : off + us.length ≤ c.size) :
    (storeCells ⟨b, off, none⟩ us).run P w = .ok () (w.setCells b off us) := by
  have := run_storeCells_cells (P := P) b off us 0 w (fun j hj => by rw [cell_of hb]; simp; omega) (fun j hj => by rw [frozen_of hb]; exact hfr _ (by omega)) h1
  simpa using this

theorem Src.one {u : Value} {size : Nat} {es : List AV} {us : List Value} (hs : Src P E w u size es us) : ∀ y ∈ us, y.oneCell' = true := by
  intro y hy
  obtain ⟨j, hj, rfl⟩ := List.getElem_of_mem hy
  obtain ⟨hl, _⟩ := flat_get hs.sz
  have hj' : j < (flat es).length := by rw [hl, ← hs.len]; exact hj
  obtain ⟨p1, p2⟩ := hs.rel j _ _ (List.getElem?_eq_getElem hj') (List.getElem?_eq_getElem hj)
  exact p2.oneCell p1

theorem grown (hf : FRel E h w r a.tmps) (hh : HRel E h w) {w' : World} (g : Grow w w') {c : Array Value} {e : TypeId} {cap' n size : Nat} {es : List AV} {row : Bool} (hn : n = es.length) (hb : w'.heap[w.heap.size]? = some (.cells c e (0, 0))) (hcap : n ≤ cap') (hsz : c.size = cap' * size) (hec : EC E c size es) :
    ∃ E', Keep E h (Vars r a.tmps) w E' (newRow row size es h).2 (Vars r a.tmps) w' ∧ FRel E' (newRow row size es h).2 w' r a.tmps ∧ HRel E' (newRow row size es h).2 w' ∧ VRel E' (newRow row size es h).1 (.slice (some ⟨w.heap.size, 0, none⟩) n cap') := by
  subst hn
  cases row with
  | true =>
    obtain ⟨E', k1, k2, k3, k4, k5, k6⟩ := new_row hf hh g (Nat.le_refl _) hb (fun o _ => by simp) hec hsz hcap
    exact ⟨E', k1, k2, k3, row_val k4 k5 k6 hcap⟩
  | false => exact new_tail hf hh g (Nat.le_refl _) hb (fun o _ => by simp) hec (Nat.le_of_eq hsz.symm) hcap

theorem EC.splice {c c' : Array Value} {size k0 : Nat} {es xs : List AV} {u : Value} {uu : List Value} (hc : EC E c size es) (hx : Src P E w u size xs uu) (hk : k0 ≤ es.length) (h3 : ∀ k, k < uu.length → c'[k0 * size + k]? = uu[k]?)
    (h4 : ∀ k, k < k0 * size ∨ k0 * size + uu.length ≤ k → c'[k]? = c[k]?) : EC E c' size (es.take k0 ++ (xs ++ es.drop (k0 + xs.length))) := by
  refine ⟨fun e he => ?_, fun i e hi => ?_⟩
  · rcases List.mem_append.1 he with he | he
    · exact hc.1 e (List.mem_of_mem_take he)
    · rcases List.mem_append.1 he with he | he
      · exact hx.sz e he
      · exact hc.1 e (List.mem_of_mem_drop he)
  · have hto : (es.take k0).length = k0 := by simp; omega
    by_cases h1 : i < k0
    · rw [List.getElem?_append_left (by omega), List.getElem?_take, if_pos h1] at hi
      have hes := hc.1 e (List.mem_of_getElem? hi)
      refine (hc.2 i e hi).congr fun k hk => h4 _ (.inl ?_)
      exact mul_lt h1 (by omega)
    · rw [List.getElem?_append_right (by omega), hto] at hi
      by_cases h2 : i - k0 < xs.length
      · rw [List.getElem?_append_left h2] at hi
        have := hx.cells (off := k0 * size) h3 hi
        rwa [← Nat.add_mul, show k0 + (i - k0) = i by omega] at this
      · rw [List.getElem?_append_right (by omega), List.getElem?_drop, show k0 + xs.length + (i - k0 - xs.length) = i by omega] at hi
        refine (hc.2 i e hi).congr fun k hk => h4 _ (.inr ?_)
        have : (k0 + xs.length) * size ≤ i * size := Nat.mul_le_mul_right _ (by omega)
        rw [Nat.add_mul] at this
        rw [hx.len]
        omega

theorem appendV_spec {K : Kont} (hf : FRel E h w r a.tmps) (hh : HRel E h w) {t xt ty e : TypeId} {size bytes : Nat} (hT : AppT P t xt e size bytes) {row : Bool} {s v : AV} {xs : List AV} {h' : Hp} {us uv : Value} {uu : List Value} (hs : VRel E s us) (hx : Src P E w uv size xs uu)
    (he : appendV row size bytes s xs h = some (v, h')) : ∃ u w' E', (Builtin.append_ #[t, xt] ty #[us, uv]).run P w = .ok u w' ∧ Keep E h (Vars r a.tmps) w E' h' (Vars r a.tmps) w' ∧ FRel E' h' w' r a.tmps ∧ HRel E' h' w' ∧ VRel E' v u := by
  unfold appendV at he
  split at he
  · rename_i hnil
    subst hnil
    have huu : uu = [] := List.eq_nil_of_length_eq_zero (by rw [hx.len]; simp)
    subst huu
    have key : ∀ (base : Option Addr) (n cap : Nat), n ≤ cap → us = .slice base n cap → v = s → h' = h → ∃ u w' E', (Builtin.append_ #[t, xt] ty #[us, uv]).run P w = .ok u w' ∧ Keep E h (Vars r a.tmps) w E' h' (Vars r a.tmps) w' ∧ FRel E' h' w' r a.tmps ∧ HRel E' h' w' ∧ VRel E' v u := by
      intro base n cap hle hu hv hh'
      subst hu; subst hv; subst hh'
      have hr := run_room (ty := ty) hT (m := 0) (u := uv) (fun w1 => by simpa using hx.n w1) (by omega) (us := []) (by simpa using hx.run w 0 (Grow.refl w) (by simp)) (base := base) (n := n) (cap := cap) (w := w) (w' := w) (by cases base <;> simp [storeCells])
      exact ⟨_, w, E, hr, Keep.refl _ _ _ _, hf, hh, hs⟩
    split at he
    · cases he; cases hs; exact key _ _ _ (Nat.le_refl _) rfl rfl rfl
    · rename_i sz es c
      cases he
      have hs' := hs
      cases hs' with
      | imm _ _ _ b off cap hcap => exact key _ _ _ hcap rfl rfl rfl
      | imz _ _ _ _ => exact key _ _ _ (Nat.le_refl _) rfl rfl rfl
    · rename_i id sz off n clip
      cases he
      have hs' := hs
      cases hs' with
      | row _ _ _ _ _ b o' cap hr => exact key _ _ _ hr.2.1 rfl rfl rfl
    · cases he
  · rename_i hne
    have hpos : 0 < xs.length := by cases xs with | nil => exact absurd rfl hne | cons _ _ => simp
    split at he
    · split at he
      · rename_i hb
        obtain ⟨e1, e2⟩ := Prod.mk.inj (Option.some.inj he)
        subst e1; subst e2
        cases hs
        obtain ⟨c, w', cap', q1, q2, q3, q4, q5, q6, q7⟩ := run_grow (ty := ty) hT (base := none) (n := 0) (cap := 0) (olds := []) (fun w1 _ => by simp [Builtin.firstCells]) (by simp) hx (by omega) (by simpa using hb)
        simp only [Nat.zero_add,Nat.zero_mul] at q1 q4 q7
        obtain ⟨E', k1, k2, k3, k4⟩ := grown (row := row) hf hh q2 rfl q3 q4 q5 (by simpa using EC.append (es := []) ⟨fun e he => by simp at he, fun i e hi => by simp at hi⟩ hx.sz (fun i e hi => by simpa using hx.cells (off := 0) (by simpa using q7) hi))
        exact ⟨_, w', E', q1, k1, k2, k3, k4⟩
      · cases he
    · rename_i sz es c
      split at he
      · rename_i hc
        obtain ⟨rfl, hb⟩ := hc
        cases hs with
        | imz _ za _ hcz =>
          rcases hcz with rfl | rfl
          · cases he
          · obtain ⟨e1, e2⟩ := Prod.mk.inj (Option.some.inj he)
            subst e1; subst e2
            simp only [List.nil_append,List.length_nil,Nat.zero_add] at hb ⊢
            obtain ⟨c, w', cap', q1, q2, q3, q4, q5, q6, q7⟩ := run_grow (ty := ty) hT (base := some za) (n := 0) (cap := 0) (olds := []) (fun w1 _ => by
              have := run_loadCells_list (P := P) w1 za [] (fun j y hj => by simp at hj)
              simpa [Builtin.firstCells] using this) (by simp) hx (by omega) (by simpa using hb)
            simp only [Nat.zero_add,Nat.zero_mul] at q1 q4 q7
            obtain ⟨E', k1, k2, k3, k4⟩ := grown (row := row) hf hh q2 rfl q3 q4 q5 (by simpa using EC.append (es := []) ⟨fun e he => by simp at he, fun i e hi => by simp at hi⟩ hx.sz (fun i e hi => by simpa using hx.cells (off := 0) (by simpa using q7) hi))
            exact ⟨_, w', E', q1, k1, k2, k3, k4⟩
        | imm _ _ _ b off cap hcap hsz h1 hs1 hvr hcp =>
        have hEA : ElemsAt E w b off sz es := fun i e hi => by
          refine ⟨hsz e (List.mem_of_getElem? hi), fun k x hk => ?_⟩
          have hlt := (List.getElem?_eq_some_iff.1 hi).1
          have hk' := (List.getElem?_eq_some_iff.1 hk).1
          rw [hsz e (List.mem_of_getElem? hi)] at hk'
          obtain ⟨u, hu⟩ := Option.isSome_iff_exists.1 (hs1 i k hlt hk')
          exact ⟨h1 e (List.mem_of_getElem? hi) x (List.mem_of_getElem? hk), u, hh.sg _ _ _ hu, hvr i e k x u hi hk hu⟩
        obtain ⟨olds, o1⟩ := src_slice (P := P) (E := E) (w := w) (u := .slice (some ⟨b, off, none⟩) es.length cap) (.inr <| .inr ⟨b, off, cap, rfl, hcap, hEA⟩)
        have hgrow : ∀ (row : Bool), cap < es.length + xs.length → ∀ {h0 : Hp}, FRel E h0 w r a.tmps → HRel E h0 w → ∃ u w' E', (Builtin.append_ #[t, xt] ty #[.slice (some ⟨b, off, none⟩) es.length cap, uv]).run P w = .ok u w' ∧ Keep E h0 (Vars r a.tmps) w E' (newRow row sz (es ++ xs) h0).2 (Vars r a.tmps) w' ∧
            FRel E' (newRow row sz (es ++ xs) h0).2 w' r a.tmps ∧ HRel E' (newRow row sz (es ++ xs) h0).2 w' ∧ VRel E' (newRow row sz (es ++ xs) h0).1 u := by
          intro row hlt h0 hf0 hh0
          obtain ⟨c, w', cap', q1, q2, q3, q4, q5, q6, q7⟩ := run_grow (ty := ty) hT (base := some ⟨b, off, none⟩) (n := es.length) (cap := cap) (olds := olds) (fun w1 g => by have := o1.run w1 es.length g (Nat.le_refl _); rwa [← o1.len, List.take_length] at this) o1.len hx hlt hb
          obtain ⟨E', k1, k2, k3, k4⟩ := grown (row := row) hf0 hh0 q2 (es := es ++ xs) (by simp) q3 q4 q5 (grow_EC hx o1.sz o1.rel o1.len q6 q7)
          exact ⟨_, w', E', q1, k1, k2, k3, k4⟩
        split at he
        · obtain ⟨e1, e2⟩ := Prod.mk.inj (Option.some.inj he)
          subst e1; subst e2
          simp only [capOk] at hcp
          exact hgrow row (by omega) hf hh
        · rename_i id e'
          split at he
          · rename_i sz' e'' htl
            split at he
            · rename_i hc
              obtain ⟨hq, rfl, rfl⟩ := hc
              subst sz'
              cases he
              obtain ⟨p1, p2⟩ := hcp
              have hal : alive h id := ⟨_, htl, by simp⟩
              rcases Nat.lt_or_ge cap (es.length + xs.length) with hlt | hge
              · obtain ⟨u, w', E', k0, k1, k2, k3, k4⟩ := hgrow false hlt (hf.dead id) (hh.dead id)
                refine ⟨u, w', E', k0, (Keep.dead E h _ w id).trans ?_, ?_, ?_, ?_⟩
                · simpa [newRow] using k1
                · simpa [newRow] using k2
                · simpa [newRow] using k3
                · simpa [newRow] using k4
              · rcases p2 with p2 | ⟨rfl, p3, p4⟩
                · omega
                · have hoff : off = 0 := by omega
                  subst hoff
                  obtain ⟨c, T, fr, t1, t2, t3, t4⟩ := hh.obj id _ htl
                  have hmul : (es.length + xs.length) * sz ≤ cap * sz := Nat.mul_le_mul_right _ hge
                  rw [Nat.add_mul] at hmul
                  have hul := hx.len
                  obtain ⟨c', e1, e2, e3, e4, e5, e6, e7, e8⟩ := heap_setCells (E.ob id) uu (es.length * sz) w c T fr t1 (by omega)
                  have hst := run_store_room (P := P) t1 t2 hx.one (off := es.length * sz) (by omega)
                  have hrun := run_room (ty := ty) hT (base := some ⟨E.ob id, 0, none⟩) (n := es.length) (cap := cap) (m := xs.length) (u := uv) hx.n hge (us := uu) (by have := hx.run w xs.length (Grow.refl w) (Nat.le_refl _); rwa [← hul, List.take_length] at this)
                    (w' := w.setCells (E.ob id) (es.length * sz) uu) (by simpa [addr_add] using hst)
                  have hno := not_owned_dead hh hal
                  have hnv : ¬ Vars r a.tmps (E.ob id) := owned_no_var hf ⟨id, hal, rfl⟩
                  have m1 := (hh.dead id).more (hi := (es.length + xs.length) * sz) (c' := c') t1 e1 hno t4 (fun k hk => e4 k (.inl hk)) e6 e5
                  have m2 := (hf.dead id).more (c' := c') (hi := (es.length + xs.length) * sz) hnv t4 e5
                  have mle := Env.more_le (E := E) (b := E.ob id) (lo := es.length * sz) (hi := (es.length + xs.length) * sz) (c := c') t4
                  generalize hE1 : E.more (E.ob id) (es.length * sz) ((es.length + xs.length) * sz) c' = E1 at m1 m2 mle
                  have hsg : ∀ o, E1.sg (E.ob id) o = if es.length * sz ≤ o ∧ o < (es.length + xs.length) * sz then c'[o]? else E.sg (E.ob id) o := fun o => by
                    subst hE1; simp [Env.more]
                  have hno1 : ¬ Owned E1 (h.set id .dead) (E.ob id) := by subst hE1; exact hno
                  have ho : ORel (E1.add (E.ob id) (E.cp id)) (w.setCells (E.ob id) (es.length * sz) uu) (E.ob id) (E.cp id) (.tail sz (es.length + xs.length)) :=
                    ⟨c', T, fr, e1, by rw [e2]; exact t2, by rw [e2]; exact t3, fun o ho => by
                      show E1.sg (E.ob id) o = none
                      rw [hsg, if_neg (by omega)]
                      exact t4 o (by rw [Nat.add_mul] at ho; omega)⟩
                  have hbl : E.ob id < (w.setCells (E.ob id) (es.length * sz) uu).heap.size := by rw [e6]; exact hh.lt id hal
                  have a1 := m1.add hno1 hbl ho
                  have a2 := m2.add m1 (o := .tail sz (es.length + xs.length)) (cp := E.cp id) hnv
                  have hn1 : h.length = E1.n := by have := m1.n; simpa using this.symm
                  refine ⟨_, _, E1.add (E.ob id) (E.cp id), hrun, ⟨mle.trans (E1.add_le _ _), by omega, e7, e8, fun b' _ ho' _ => e5 b' fun e => ho' (e ▸ ⟨id, hal, rfl⟩), fun b' ho' => ?_, fun _ h => .inl h, fun b' o hs => ?_⟩, a2, a1, ?_⟩
                  · rcases Owned.add m1 ho' with ho' | rfl
                    · left; subst hE1; exact Owned.dead ho'
                    · left; exact ⟨id, hal, rfl⟩
                  · by_cases hbb : b' = E.ob id
                    · subst hbb; exact .inr (.inl ⟨id, hal, rfl⟩)
                    · left
                      subst hE1
                      simp only [Env.add,Env.more,if_neg (fun e : b' = E.ob id ∧ _ => hbb e.1)] at hs
                      exact hs
                  · have hlen : (es ++ xs).length = es.length + xs.length := by simp
                    have hEC : EC E c' sz (es ++ xs) := by
                      refine EC.append ⟨hsz, fun i e hi k x hk => ?_⟩ hx.sz fun i e hi => hx.cells e3 hi
                      have hlt := (List.getElem?_eq_some_iff.1 hi).1
                      have hk' := (List.getElem?_eq_some_iff.1 hk).1
                      rw [hsz e (List.mem_of_getElem? hi)] at hk'
                      obtain ⟨u, hu⟩ := Option.isSome_iff_exists.1 (hs1 i k hlt hk')
                      have hcell := hh.sg _ _ _ hu
                      rw [cell_of t1] at hcell
                      refine ⟨h1 e (List.mem_of_getElem? hi) x (List.mem_of_getElem? hk), u, ?_, hvr i e k x u hi hk hu⟩
                      show c'[i * sz + k]? = some u
                      rw [e4 _ (.inl (mul_lt hlt hk'))]
                      simpa using hcell
                    have hall : ∀ (i k : Nat), i < es.length + xs.length → k < sz → (E1.add (E.ob id) (E.cp id)).sg (E.ob id) (i * sz + k) = c'[i * sz + k]? := fun i k hi hk => by
                      show E1.sg (E.ob id) (i * sz + k) = _
                      rw [hsg]
                      split
                      · rfl
                      · rename_i hcond
                        have hil : i < es.length := by
                          rcases Nat.lt_or_ge i es.length with h | h
                          · exact h
                          · have : es.length * sz ≤ i * sz := Nat.mul_le_mul_right _ h
                            have := mul_lt hi hk
                            exact absurd ⟨by omega, by omega⟩ hcond
                        obtain ⟨u, hu⟩ := Option.isSome_iff_exists.1 (hs1 i k hil hk)
                        have hcell := hh.sg _ _ _ hu
                        rw [cell_of t1] at hcell
                        simp only [Nat.zero_add] at hu hcell
                        rw [e4 _ (.inl (mul_lt hil hk)), hcell, hu]
                    rw [← hlen]
                    refine .imm _ _ _ _ _ _ (by omega) hEC.1 (fun e he x hx' => ?_) (fun i k hi hk => ?_) (fun i e k x u hi hk hu => ?_) ⟨?_, .inr ⟨?_, ?_, ?_⟩⟩
                    · obtain ⟨i, hi, rfl⟩ := List.getElem_of_mem he
                      obtain ⟨k, hk, rfl⟩ := List.getElem_of_mem hx'
                      exact (hEC.2 i _ (List.getElem?_eq_getElem hi) k _ (List.getElem?_eq_getElem hk)).1
                    · rw [Nat.zero_add, hall i k (by omega) hk]
                      have hk' : k < ((es ++ xs)[i]).cells.length := by rw [hEC.1 _ (List.getElem_mem hi)]; exact hk
                      obtain ⟨_, u, hu, _⟩ := hEC.2 i _ (List.getElem?_eq_getElem hi) k _ (List.getElem?_eq_getElem hk')
                      have hu : c'[i * sz + k]? = some u := hu
                      rw [hu]; rfl
                    · have hk' := (List.getElem?_eq_some_iff.1 hk).1
                      rw [hEC.1 e (List.mem_of_getElem? hi)] at hk'
                      have hi' := (List.getElem?_eq_some_iff.1 hi).1
                      rw [Nat.zero_add, hall i k (by omega) hk'] at hu
                      obtain ⟨_, u', hu', hv⟩ := hEC.2 i e hi k x hk
                      have hu' : c'[i * sz + k]? = some u' := hu'
                      rw [hu] at hu'
                      cases hu'
                      exact hv.mono (mle.trans (E1.add_le _ _))
                    · simp only [Env.add]; omega
                    · simp only [Env.add]; rw [if_pos hn1]
                    · rw [hlen]; simp
                    · simp only [Env.add]; rw [if_pos hn1]; simpa using p4
            · cases he
          · cases he
        · cases he
      · cases he
    · rename_i id sz off n clip
      split at he
      · rename_i sz' es hes
        split at he
        · rename_i hc
          obtain ⟨hq1, hq2, hle, hb⟩ := hc
          subst sz
          subst sz'
          have hs0 := hs
          cases hs with
          | row _ _ _ _ _ b o' cap hr =>
          obtain ⟨r1, r2, r3, r4⟩ := hr
          obtain ⟨c, T, fr, t1, t2, t3, t4, t5, t6, t7⟩ := row_of hh hes
          have hal : alive h id := ⟨_, hes, by simp⟩
          have hel := elems_spec hh hs0 (sz := size) (es := (es.drop off).take n) (by simp [elems,hes,hle])
          have hln : ((es.drop off).take n).length = n := by simp; omega
          obtain ⟨olds, o1⟩ := src_slice (P := P) hel
          have hgrow : ∀ (row : Bool), cap < n + xs.length → ∀ {h0 : Hp}, FRel E h0 w r a.tmps → HRel E h0 w → ∃ u w' E', (Builtin.append_ #[t, xt] ty #[.slice (some ⟨b, o', none⟩) n cap, uv]).run P w = .ok u w' ∧ Keep E h0 (Vars r a.tmps) w E' (newRow row size ((es.drop off).take n ++ xs) h0).2 (Vars r a.tmps) w' ∧
              FRel E' (newRow row size ((es.drop off).take n ++ xs) h0).2 w' r a.tmps ∧ HRel E' (newRow row size ((es.drop off).take n ++ xs) h0).2 w' ∧ VRel E' (newRow row size ((es.drop off).take n ++ xs) h0).1 u := by
            intro row hlt h0 hf0 hh0
            have hol : olds.length = n * size := by rw [o1.len, hln]
            obtain ⟨c, w', cap', q1, q2, q3, q4, q5, q6, q7⟩ := run_grow (ty := ty) hT (base := some ⟨b, o', none⟩) (n := n) (cap := cap) (olds := olds) (fun w1 g => by have := o1.run w1 n g (by rw [hln]; omega); rwa [← hol, List.take_length] at this) hol hx hlt hb
            obtain ⟨E', k1, k2, k3, k4⟩ := grown (row := row) hf0 hh0 q2 (es := (es.drop off).take n ++ xs) (n := n + xs.length) (by rw [List.length_append, hln]) q3 q4 q5 (grow_EC hx o1.sz o1.rel o1.len q6 (by rw [hln]; exact q7))
            exact ⟨_, w', E', q1, k1, k2, k3, k4⟩
          split at he
          · rename_i hcl
            obtain ⟨e1, e2⟩ := Prod.mk.inj (Option.some.inj he)
            subst e1; subst e2
            exact hgrow row (by have := r3 hcl; omega) hf hh
          · rename_i hcl
            have hcl : clip = false := by simpa using hcl
            have hul := hx.len
            have hroom : n + xs.length ≤ cap → b = E.ob id → o' = off * size → off + cap = E.cp id → ∃ c' w', (Builtin.append_ #[t, xt] ty #[.slice (some ⟨b, o', none⟩) n cap, uv]).run P w = .ok (.slice (some ⟨b, o', none⟩) (n + xs.length) cap) w' ∧ w'.heap[E.ob id]? = some (.cells c' T fr) ∧ c'.size = c.size ∧
                EC E c' size (es.take (off + n) ++ (xs ++ es.drop (off + n + xs.length))) ∧ (∀ b', b' ≠ E.ob id → w'.heap[b']? = w.heap[b']?) ∧ w'.heap.size = w.heap.size ∧ w'.os = w.os ∧ w'.output = w.output := by
              intro hge hb1 ho1 hcp
              subst hb1; subst ho1
              have hmul : (off + (n + xs.length)) * size ≤ E.cp id * size := Nat.mul_le_mul_right _ (by omega)
              simp only [Nat.add_mul] at hmul
              obtain ⟨c', e1, e2, e3, e4, e5, e6, e7, e8⟩ := heap_setCells (E.ob id) uu (off * size + n * size) w c T fr t1 (by omega)
              have hst := run_store_room (P := P) t1 t2 hx.one (off := off * size + n * size) (by omega)
              have hrun := run_room (ty := ty) hT (base := some ⟨E.ob id, off * size, none⟩) (n := n) (cap := cap) (m := xs.length) (u := uv) hx.n hge (us := uu) (by have := hx.run w xs.length (Grow.refl w) (Nat.le_refl _); rwa [← hul, List.take_length] at this)
                (w' := w.setCells (E.ob id) (off * size + n * size) uu) (by simpa [addr_add] using hst)
              refine ⟨c', _, hrun, e1, e2, EC.splice (k0 := off + n) ⟨t5, t6⟩ hx hle (by rw [Nat.add_mul]; exact e3) (by rw [Nat.add_mul]; exact e4), e5, e6, e7, e8⟩
            have hown : Owned E h (E.ob id) := ⟨id, hal, rfl⟩
            split at he
            · rename_i hin
              cases he
              rcases r4 with ⟨rfl, rfl, r5⟩ | ⟨q1, q2, q3⟩
              · have hcp := r5 hcl
                obtain ⟨c', w', k0, k1, k2, k3, k4, k5, k6, k7⟩ := hroom (by omega) rfl rfl hcp
                have hlen : (es.take (off + n) ++ (xs ++ es.drop (off + n + xs.length))).length = es.length := by simp; omega
                refine ⟨_, w', E, k0, ⟨.refl E, by omega, k6, k7, fun b' _ ho' _ => k4 b' fun e => ho' (e ▸ hown), fun b' h => .inl (Owned.set hes (by simp) h), fun _ h => .inl h, fun _ _ h => .inl h⟩, ?_, ?_, ?_⟩
                · exact hf.other (owned_no_var hf hown) k4 fun b' h => Owned.set hes (by simp) h
                · exact hh.set hes (by simp) k5 k4 t7 ⟨c', T, fr, k1, by rw [k2]; exact t2, by rw [k2]; exact t3, by rw [hlen]; exact t4, k3.1, k3.2, t7⟩
                · exact .row _ _ _ _ _ _ _ _ ⟨r1, by omega, (fun h => by cases h), .inl ⟨rfl, rfl, fun _ => hcp⟩⟩
              · have := q3 hcl; omega
            · split at he
              · rename_i hin hend
                obtain ⟨hoff, hnl⟩ := hend
                subst hoff
                cases he
                have htk : (es.drop 0).take n = es := by rw [List.drop_zero, hnl, List.take_length]
                rw [htk] at hgrow
                rcases Nat.lt_or_ge cap (n + xs.length) with hlt | hge
                · obtain ⟨u, w', E', k0, k1, k2, k3, k4⟩ := hgrow true hlt (hf.dead id) (hh.dead id)
                  refine ⟨u, w', E', k0, (Keep.dead E h _ w id).trans ?_, ?_, ?_, ?_⟩
                  · simpa [newRow] using k1
                  · simpa [newRow] using k2
                  · simpa [newRow] using k3
                  · simpa [newRow, hnl] using k4
                · rcases r4 with ⟨rfl, rfl, r5⟩ | ⟨q1, q2, q3⟩
                  · have hcp := r5 hcl
                    obtain ⟨c', w', k0, k1, k2, k3, k4, k5, k6, k7⟩ := hroom hge rfl rfl hcp
                    have hes2 : es.take (0 + n) ++ (xs ++ es.drop (0 + n + xs.length)) = es ++ xs := by
                      rw [Nat.zero_add, hnl, List.take_length, List.drop_of_length_le (by omega), List.append_nil]
                    rw [hes2] at k3
                    have hno := not_owned_dead hh hal
                    have hnv : ¬ Vars r a.tmps (E.ob id) := owned_no_var hf hown
                    have m1 := (hh.dead id).other hno t7 k5 k4
                    have m2 : FRel E (h.set id .dead) w' r a.tmps := (hf.dead id).other hnv k4 fun _ h => h
                    have hbl : E.ob id < w'.heap.size := by rw [k5]; exact hh.lt id hal
                    have ho : ORel (E.add (E.ob id) (E.cp id)) w' (E.ob id) (E.cp id) (.row size (es ++ xs)) :=
                      ⟨c', T, fr, k1, by rw [k2]; exact t2, by rw [k2]; exact t3, by rw [List.length_append]; omega, k3.1, fun i e hi => (k3.2 i e hi).mono (E.add_le _ _), t7⟩
                    have hn1 : h.length = E.n := hh.n.symm
                    refine ⟨_, w', E.add (E.ob id) (E.cp id), k0, ⟨E.add_le _ _, by omega, k6, k7, fun b' _ ho' _ => k4 b' fun e => ho' (e ▸ hown), fun b' ho' => ?_, fun _ h => .inl h, fun b' o hs => .inl hs⟩, m2.add m1 hnv, m1.add hno hbl ho, ?_⟩
                    · rcases Owned.add m1 ho' with ho' | rfl
                      · exact .inl (Owned.dead ho')
                      · exact .inl hown
                    · rw [Nat.zero_mul]
                      exact row_val (by simp only [Env.add]; omega) (by simp only [Env.add]; rw [if_pos hn1]) (by simp only [Env.add]; rw [if_pos hn1]; omega) (by omega)
                  · omega
              · cases he
        · cases he
      · cases he
    · cases he

theorem st_append {K : Kont} (hf : FRel E h w r a.tmps) (hh : HRel E h w) {t xt e : TypeId} {size bytes : Nat} {g row : Bool} {y z : Operand} {x xz : AX} (ho : o.op = .call { callee := .builtin .append, args := #[y, z], argTypes := #[t, xt] }) (hT : AppT P t xt e size bytes) (hx : XRel E a x y) (hz : XRel E a xz z)
    {r' : Regs} {h' : Hp} (he : step K r h (.append g row size bytes x xz) = some (reg, r', h')) : Res P E h w r a o reg r' h' := by
  simp only [step] at he
  split at he
  · rename_i v xs hv hxs
    split at he
    · cases he
    obtain ⟨y', hy, hq⟩ := map_some he
    obtain ⟨v', h2⟩ := y'
    cases hq
    obtain ⟨uu, hsrc⟩ := srcElems_spec (P := P) hf hh hz hxs
    obtain ⟨u, w', E', k0, k1, k2, k3, k4⟩ := appendV_spec (K := K) (ty := o.type) hf hh hT (vl_spec hf hx hv) hsrc hy
    exact .of_val (.inl (by simp [execOp,ho,resolve,invoke,builtin,k0])) k1 k2 k3 k4
  · cases he

/-! ### make -/

theorem st_mkSlice {K : Kont} (hf : FRel E h w r a.tmps) (hh : HRel E h w) {t e : TypeId} {i : TypeInfo} {zv : Value} {z : AV} {size bytes : Nat} {row : Bool} {yl yc : Operand} {xl xc : AX} (ho : o.op = .makeSlice t yl yc) (ht : P.underlying t = some (.slice e)) (hi : P.info? e = some i) (hsz : i.size = size) (hbt : i.bytes = bytes)
    (hz : i.zero = some zv) (hzv : VRel E z zv) (hn : z.notTup = true) (hs : z.cells.length = size) (hs0 : 0 < size) (hb0 : 0 < bytes) (hl : XRel E a xl yl) (hc : XRel E a xc yc)
    {r' : Regs} {h' : Hp} (he : step K r h (.mkSlice row size bytes z xl xc) = some (reg, r', h')) : Res P E h w r a o reg r' h' := by
  simp only [step] at he
  split at he
  · rename_i l c hvl hvc
    split at he
    · rename_i hcond
      obtain ⟨c1, c2, c3, c4⟩ := hcond
      cases he
      obtain ⟨kl, hkl⟩ := iv_spec hf hl hvl
      obtain ⟨kc, hkc⟩ := iv_spec hf hc hvc
      have hwl : IntKind.i64.wrap l = l := by simp only [IntKind.wrap,IntKind.signed,IntKind.bits]; simp; omega
      have hwc : IntKind.i64.wrap c = c := by simp only [IntKind.wrap,IntKind.signed,IntKind.bits]; simp; omega
      let cells : Array Value := (Array.range (c.toNat * size)).map fun j => (if c.toNat * size = 0 then #[] else zv.cells)[j % (if c.toNat * size = 0 then #[] else zv.cells).size]!
      have hzs : zv.cells.size = size := by have := (cells_rel hzv hn).1; omega
      have hcs : cells.size = c.toNat * size := by simp [cells]
      have hec : EC E cells size (List.replicate l.toNat z) := by
        by_cases h0 : c.toNat * size = 0
        · have : c.toNat = 0 := by rcases Nat.mul_eq_zero.1 h0 with h | h <;> omega
          have : l.toNat = 0 := by omega
          rw [this]
          exact ⟨fun e he => by simp at he, fun i e hi => by simp at hi⟩
        · refine zeros_EC hzv hn hs l.toNat c.toNat (by omega) fun k hk => ?_
          simp only [cells,if_neg h0]
          have := (zero_cells zv (c.toNat * size)).2 k hk (by omega)
          rw [this, hzs]
      have hrun : (Instr.makeSlice t (.int kl l) (.int kc c)).run P w = .ok (.slice (some ⟨w.heap.size, 0, none⟩) l.toNat c.toNat) (w.alloc (.cells cells e)) := by
        unfold Instr.makeSlice
        have n1 : ¬ (c < 0) := by omega
        have n2 : ¬ (l < 0) := by omega
        have n3 : ¬ (l > c) := by omega
        have n4 : ¬ ((i.bytes : Int) * c > 2 ^ 48) := by rw [hbt]; simp; omega
        by_cases h0 : c.toNat * size = 0
        · simp only [cells,if_pos h0] at *
          simp [run_underlying ht,asInt,asIntOf,typeInfo,hi,hwl,hwc,n1,n2,n3,n4,sizeOf,hsz,h0,Go.newRow]
          exact fun hx => absurd hx (by rw [hbt]; omega)
        · simp only [cells,if_neg h0] at *
          simp [run_underlying ht,asInt,asIntOf,typeInfo,hi,hwl,hwc,n1,n2,n3,n4,sizeOf,hsz,h0,Go.newRow,zeroValue,hz]
          exact fun hx => absurd hx (by rw [hbt]; omega)
      obtain ⟨E', k1, k2, k3, k4⟩ := grown (row := row) hf hh (Grow.alloc w (.cells cells e)) (n := l.toNat) (cap' := c.toNat) (by simp) (alloc_at _ _) (by omega) hcs hec
      exact .of_val (.inl (by simp [execOp,ho,hkl,hkc,hrun])) k1 k2 k3 k4
    · cases he
  · cases he

end
end Go.Im

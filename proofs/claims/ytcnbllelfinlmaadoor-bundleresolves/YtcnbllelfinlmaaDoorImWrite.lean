/- ImWrite: cells that are written: variables and heap entries. -/
import Derived.Test.YtcnbllelfinlmaaDoorImOps5
set_option linter.unusedVariables false
set_option linter.unusedSimpArgs false
namespace Go.Im
section
variable {P : Program} {E : Env} {h : Hp} {w : World} {r : Regs} {tm : Array Value}

theorem heap_setCells (b : Nat) : ∀ (vs : List Value) (o : Nat) (w : World) (c : Array Value) (T : TypeId) (fr : Nat × Nat), w.heap[b]? = some (.cells c T fr) → o + vs.length ≤ c.size →
    ∃ c', (w.setCells b o vs).heap[b]? = some (.cells c' T fr) ∧ c'.size = c.size ∧ (∀ k, k < vs.length → c'[o + k]? = vs[k]?) ∧ (∀ k, k < o ∨ o + vs.length ≤ k → c'[k]? = c[k]?) ∧
      (∀ b', b' ≠ b → (w.setCells b o vs).heap[b']? = w.heap[b']?) ∧ (w.setCells b o vs).heap.size = w.heap.size ∧ (w.setCells b o vs).os = w.os ∧ (w.setCells b o vs).output = w.output
  | [], o, w, c, T, fr, hb, _ => ⟨c, hb, rfl, fun k hk => absurd hk (Nat.not_lt_zero _), fun _ _ => rfl, fun _ _ => rfl, rfl, rfl, rfl⟩
  | v :: vs, o, w, c, T, fr, hb, hl => by
    simp only [List.length_cons] at hl
    have h1 : (w.setCell ⟨b, o, none⟩ v).heap[b]? = some (.cells (c.setIfInBounds o v) T fr) := by
      simp [World.setCell,Array.getElem?_modify,hb]
    have h2 : ∀ b', b' ≠ b → (w.setCell ⟨b, o, none⟩ v).heap[b']? = w.heap[b']? := fun b' hb' => by
      simp only [World.setCell,Array.getElem?_modify]; rw [if_neg (Ne.symm hb')]
    obtain ⟨c', e1, e2, e3, e4, e5, e6, e7, e8⟩ := heap_setCells b vs (o + 1) _ _ T fr h1 (by rw [Array.size_setIfInBounds]; omega)
    refine ⟨c', e1, by simpa using e2, fun k hk => ?_, fun k hk => ?_, fun b' hb' => (e5 b' hb').trans (h2 b' hb'), by rw [World.setCells, e6]; simp, e7, e8⟩
    · cases k with
      | zero =>
        rw [e4 _ (Or.inl (by omega)), Nat.add_zero, List.getElem?_cons_zero, Array.getElem?_setIfInBounds_self, if_pos (by omega)]
      | succ k =>
        rw [show o + (k + 1) = o + 1 + k by omega, e3 k (by simpa using hk)]
        simp
    · simp only [List.length_cons] at hk
      rw [e4 k (by omega), Array.getElem?_setIfInBounds_ne (by omega)]

theorem cells_one {v : AV} {u : Value} (hv : VRel E v u) (hn : v.notTup = true) : ∀ x ∈ u.cells.toList, x.oneCell' = true := by
  obtain ⟨q1, q2⟩ := cells_rel hv hn
  intro x hx
  obtain ⟨k, hk, rfl⟩ := List.getElem_of_mem hx
  have hk' : k < v.cells.length := by simp at hk; omega
  obtain ⟨p1, u', p2, p3⟩ := q2 k _ (List.getElem?_eq_getElem hk')
  simp only [Nat.zero_add] at p2
  have : u.cells.toList[k] = u' := by
    simp at hk
    simp [hk] at p2
    simpa using p2
  rw [this]
  exact p3.oneCell p1

theorem run_storeVar {t : TypeId} {size : Nat} (hs : Sz P t size) {b o : Nat} {c : Array Value} {T : TypeId} {fr : Nat × Nat} (hb : w.heap[b]? = some (.cells c T fr)) (hfr : ∀ o, o < c.size → (fr.1 ≤ o && o < fr.2) = false)
    {v : AV} {u : Value} (hv : VRel E v u) (hn : v.notTup = true) (hl : v.cells.length = size) (hle : o + size ≤ c.size) : (storeVar t ⟨b, o, none⟩ u).run P w = .ok () (w.setCells b o u.cells.toList) := by
  have hu : u.cells.size = size := by have := (cells_rel hv hn).1; omega
  have := run_storeCells_cells (P := P) b o u.cells.toList 0 w (fun j hj => by rw [cell_of hb]; simp at hj ⊢; omega) (fun j hj => by rw [frozen_of hb]; exact hfr _ (by simp at hj; omega)) (cells_one hv hn)
  simp [storeVar,hs.run,hu,this]

theorem upd_spec {c c' : Array Value} {o k : Nat} {x v y : AV} {u : Value} (hx : CellsAt E (fun o => c[o]?) o x) (hy : upd x k v = some y) (hv : VRel E v u) (hn : v.notTup = true)
    (h3 : ∀ j, j < u.cells.size → c'[o + k + j]? = u.cells[j]?) (h4 : ∀ j, j < o + k ∨ o + k + u.cells.size ≤ j → c'[j]? = c[j]?) : CellsAt E (fun o => c'[o]?) o y ∧ y.cells.length = x.cells.length ∧ k + v.cells.length ≤ x.cells.length := by
  obtain ⟨q1, q2⟩ := cells_rel hv hn
  have hnew : ∀ (j : Nat) z, v.cells[j]? = some z → z.one = true ∧ ∃ u', c'[o + k + j]? = some u' ∧ VRel E z u' := fun j z hz => by
    obtain ⟨p1, u', p2, p3⟩ := q2 j z hz
    refine ⟨p1, u', ?_, p3⟩
    rw [h3 j (by have := (List.getElem?_eq_some_iff.1 hz).1; omega)]
    simpa using p2
  have hold : ∀ (j : Nat) z, x.cells[j]? = some z → (j < k ∨ k + v.cells.length ≤ j) → z.one = true ∧ ∃ u', c'[o + j]? = some u' ∧ VRel E z u' := fun j z hz hj => by
    obtain ⟨p1, u', p2, p3⟩ := hx j z hz
    refine ⟨p1, u', ?_, p3⟩
    rw [h4 (o + j) (by omega)]; exact p2
  unfold upd at hy
  split at hy
  · rename_i cs us
    split at hy
    · rename_i hle
      cases hy
      refine ⟨fun j z hz => ?_, by simp [AV.cells]; omega, by simpa [AV.cells] using hle⟩
      simp only [AV.cells] at hz
      by_cases hj : j < k
      · rw [List.getElem?_append_left (by simp; omega), List.getElem?_take, if_pos hj] at hz
        exact hold j z hz (.inl hj)
      · rw [List.getElem?_append_right (by simp; omega)] at hz
        have hto : (cs.take k).length = k := by simp; omega
        rw [hto] at hz
        by_cases hj2 : j - k < us.length
        · rw [List.getElem?_append_left hj2] at hz
          have := hnew (j - k) z hz
          rwa [show o + k + (j - k) = o + j by omega] at this
        · rw [List.getElem?_append_right (by omega), List.getElem?_drop] at hz
          exact hold j z (by rw [← hz]; simp only [AV.cells]; congr 1; omega) (.inr (by simp only [AV.cells]; omega))
    · cases hy
  · rename_i cs u' hnagg
    have hc1 : v.cells = [v] := by cases v <;> first | rfl | exact absurd rfl (hnagg _)
    split at hy
    · rename_i hlt
      cases hy
      refine ⟨fun j z hz => ?_, by simp [AV.cells], by rw [hc1]; simp only [AV.cells,List.length_singleton]; omega⟩
      simp only [AV.cells,List.getElem?_set] at hz
      split at hz
      · rename_i hkj
        subst hkj
        simp [hlt] at hz
        subst hz
        exact hnew 0 _ (by rw [hc1]; rfl)
      · exact hold j z hz (by rw [hc1]; simp; omega)
    · cases hy
  · cases hy
  · rename_i x' v' hx1 hv1 hv2
    have hc1 : v.cells = [v] := by cases v <;> first | rfl | exact (hv1 _ rfl).elim
    have hc2 : x.cells = [x] := by cases x <;> first | rfl | exact (hx1 _ rfl).elim
    split at hy
    · rename_i hk0
      subst hk0
      cases hy
      refine ⟨fun j z hz => ?_, by rw [hc1, hc2]; rfl, by rw [hc1, hc2]; simp⟩
      have := hnew j z hz
      simpa using this
    · cases hy

/-! ### the frame and the heap behind a store -/

theorem FRel.set_var (hf : FRel E h w r tm) (hs : Sorted r) {w' : World} {t : Nat} {x y : AV} (hx : get r t = .var x) {c' : Array Value} {T : TypeId} {fr : Nat × Nat} (hb : w'.heap[vb tm t]? = some (.cells c' T fr)) (hfr : ∀ o, o < c'.size → (fr.1 ≤ o && o < fr.2) = false)
    (hl : c'.size = y.cells.length) (hy : CellsAt E (fun o => c'[o]?) 0 y) (ho : ∀ b, b ≠ vb tm t → w'.heap[b]? = w.heap[b]?) : FRel E h w' (put r t (.var y)) tm ∧ ∀ b, Vars (put r t (.var y)) tm b ↔ Vars r tm b := by
  have hv : isVar r t := ⟨x, hx⟩
  have hiff : ∀ u, isVar (put r t (.var y)) u ↔ isVar r u := fun u => by
    simp only [isVar,get_put]
    by_cases h : t = u
    · subst h; simp [hx]
    · simp [h]
  refine ⟨⟨fun u => ?_, fun u hu => ?_, fun u s hu hs he => hf.apart u s ((hiff u).1 hu) ((hiff s).1 hs) he, fun u hu => hf.own u ((hiff u).1 hu)⟩, fun b => by simp only [Vars,hiff]⟩
  · rw [get_put]
    split
    · rename_i e; subst e
      obtain ⟨c, T0, fr0, h1, h2, h3, h4, h5, h6⟩ := var_at hf hx
      exact ⟨_, c', T, fr, h1, hb, hfr, hl, hy, h6⟩
    · rename_i hne
      have hr := hf.reg u
      cases hg : get r u with
      | un => trivial
      | val v => rw [hg] at hr; exact hr
      | var v =>
        rw [hg] at hr
        refine RRel.mono (.refl E) (fun v' _ => ⟨ho _ fun e => ?_, fun _ => rfl⟩) hr
        exact hne (hf.apart t u hv ⟨v, hg⟩ e.symm)
      | adr s off =>
        rw [hg] at hr
        intro b hb hs
        exact hr b hb ((hiff s).1 hs)
      | slc s off n es =>
        rw [hg] at hr
        intro b hb hs
        exact hr b hb ((hiff s).1 hs)
      | hslc id size i off n es => rw [hg] at hr; exact hr
  · rw [get_put] at hu
    split at hu
    · rename_i e; subst e; exact hf.sz t (by rw [hx]; simp)
    · exact hf.sz u hu

theorem HRel.other (hh : HRel E h w) {w' : World} {b : Nat} (hn : ¬ Owned E h b) (hs : ∀ o, E.sg b o = none) (hsz : w'.heap.size = w.heap.size) (ho : ∀ b', b' ≠ b → w'.heap[b']? = w.heap[b']?) : HRel E h w' := by
  refine ⟨hh.n, fun b' o v hv => ?_, fun id ha => by rw [hsz]; exact hh.lt id ha, fun id x hx => ?_, hh.inj⟩
  · have hne : b' ≠ b := fun e => by rw [e, hs] at hv; cases hv
    have := hh.sg b' o v hv
    simp only [World.cell?,ho b' hne] at this ⊢
    exact this
  · by_cases hd : x = .dead
    · subst hd; trivial
    · exact ORel.congr (ho _ fun e => hn ⟨id, ⟨x, hx, hd⟩, e⟩) (hh.obj id x hx)

theorem alive_set {id : Nat} {o : AO} {j : Nat} (ha : alive (h.set id o) j) (hid : alive h id) : alive h j := by
  obtain ⟨x, hx, hd⟩ := ha
  rw [List.getElem?_set] at hx
  split at hx
  · rename_i e; subst e; exact hid
  · exact ⟨x, hx, hd⟩

theorem HRel.set (hh : HRel E h w) {w' : World} {id : Nat} {x o : AO} (hx : h[id]? = some x) (hd : x ≠ .dead) (hsz : w'.heap.size = w.heap.size) (ho : ∀ b', b' ≠ E.ob id → w'.heap[b']? = w.heap[b']?) (hs : ∀ o, E.sg (E.ob id) o = none)
    (hr : ORel E w' (E.ob id) (E.cp id) o) : HRel E (h.set id o) w' := by
  have hal : alive h id := ⟨x, hx, hd⟩
  refine ⟨by simpa using hh.n, fun b' o v hv => ?_, fun j ha => by rw [hsz]; exact hh.lt j (alive_set ha hal), fun j y hy => ?_, fun i j hi hj he => hh.inj i j (alive_set hi hal) (alive_set hj hal) he⟩
  · have hne : b' ≠ E.ob id := fun e => by rw [e, hs] at hv; cases hv
    have := hh.sg b' o v hv
    simp only [World.cell?,ho b' hne] at this ⊢
    exact this
  · rw [List.getElem?_set] at hy
    split at hy
    · rename_i e
      subst e
      split at hy
      · cases hy; exact hr
      · cases hy
    · rename_i hne
      by_cases hd' : y = .dead
      · subst hd'; trivial
      · exact ORel.congr (ho _ fun e => hne (hh.inj id j hal ⟨y, hy, hd'⟩ e.symm)) (hh.obj j y hy)

theorem FRel.other (hf : FRel E h w r tm) {h' : Hp} {w' : World} {b : Nat} (hb : ¬ Vars r tm b) (ho : ∀ b', b' ≠ b → w'.heap[b']? = w.heap[b']?) (hown : ∀ b', Owned E h' b' → Owned E h b') : FRel E h' w' r tm :=
  hf.mono (.refl E) fun t ht => ⟨ho _ fun e => hb ⟨t, ht, e⟩, fun _ => rfl, fun hx => hf.own t ht (hown _ hx)⟩

theorem Owned.set {id : Nat} {x o : AO} (hx : h[id]? = some x) (hd : x ≠ .dead) {b : Nat} (ho : Owned E (h.set id o) b) : Owned E h b := by
  obtain ⟨j, ha, e⟩ := ho
  exact ⟨j, alive_set ha ⟨x, hx, hd⟩, e⟩

theorem owned_no_var (hf : FRel E h w r tm) {b : Nat} (ho : Owned E h b) : ¬ Vars r tm b := fun ⟨t, ht, e⟩ => hf.own t ht (e ▸ ho)

theorem EC_upd {c c' : Array Value} {size : Nat} {es : List AV} (hc : EC E c size es) {i k : Nat} {x v y : AV} {u : Value} (hx : es[i]? = some x) (hy : upd x k v = some y) (hv : VRel E v u) (hn : v.notTup = true)
    (h3 : ∀ j, j < u.cells.size → c'[i * size + k + j]? = u.cells[j]?) (h4 : ∀ j, j < i * size + k ∨ i * size + k + u.cells.size ≤ j → c'[j]? = c[j]?) : EC E c' size (es.set i y) := by
  have hxs := hc.1 x (List.mem_of_getElem? hx)
  obtain ⟨p1, p2, p3⟩ := upd_spec (hc.2 i x hx) hy hv hn h3 h4
  have hq := (cells_rel hv hn).1
  refine ⟨fun e he => ?_, fun j e hj => ?_⟩
  · rcases List.mem_or_eq_of_mem_set he with he | rfl
    · exact hc.1 e he
    · omega
  · rw [List.getElem?_set] at hj
    split at hj
    · rename_i hij
      subst hij
      split at hj
      · cases hj; exact p1
      · cases hj
    · rename_i hij
      have hje := hc.1 e (List.mem_of_getElem? hj)
      refine (hc.2 j e hj).congr fun m hm => ?_
      exact h4 _ (by have := mul_apart (i := j) (j := i) (k := m) (size := size) (by omega) (Ne.symm hij); omega)

theorem upd_le {x v y : AV} {k : Nat} (hy : upd x k v = some y) : k + v.cells.length ≤ x.cells.length := by
  unfold upd at hy
  split at hy
  · split at hy
    · assumption
    · cases hy
  · rename_i cs _ hnagg
    have hc1 : v.cells = [v] := by cases v <;> first | rfl | exact (hnagg _ rfl).elim
    split at hy
    · rename_i hlt
      rw [hc1]; simp only [AV.cells,List.length_singleton]; omega
    · cases hy
  · cases hy
  · rename_i x' v' hx1 hv1 hv2
    have hc1 : v.cells = [v] := by cases v <;> first | rfl | exact (hv1 _ rfl).elim
    have hc2 : x.cells = [x] := by cases x <;> first | rfl | exact (hx1 _ rfl).elim
    split at hy
    · rename_i hk0; rw [hc1, hc2, hk0]; simp
    · cases hy

theorem wr_spec (hf : FRel E h w r tm) (hh : HRel E h w) (hs : Sorted r) {p : Pl} {b o : Nat} (hp : PlAt E r tm b o p) {v : AV} {u : Value} (hv : VRel E v u) (hn : v.notTup = true) {r' : Regs} {h' : Hp} (he : wr r h p v = some (r', h'))
    {t : TypeId} (hsz : Sz P t v.cells.length) :
    ∃ w', (storeVar t ⟨b, o, none⟩ u).run P w = .ok () w' ∧ Keep E h (Vars r tm) w E h' (Vars r' tm) w' ∧ FRel E h' w' r' tm ∧ HRel E h' w' ∧ Sorted r' := by
  have hq := (cells_rel hv hn).1
  cases p with
  | im x => simp [wr] at he
  | loc s off =>
    obtain ⟨p1, p2, rfl⟩ := hp
    simp only [wr] at he
    split at he
    · rename_i x hx
      obtain ⟨y, hy, hq'⟩ := map_some he
      cases hq'
      obtain ⟨c, T, fr, h1, h2, h3, h4, h5, h6⟩ := var_at hf hx
      have hb := vb_of p2
      have hle := upd_le hy
      obtain ⟨c', e1, e2, e3, e4, e5, e6, e7, e8⟩ := heap_setCells (vb tm s) u.cells.toList o w c T fr h2 (by simp; omega)
      obtain ⟨u1, u2, u3⟩ := upd_spec (c' := c') h5 hy hv hn (fun j hj => by have := e3 j (by simpa using hj); simpa using this) (fun j hj => e4 j (by simp; omega))
      refine ⟨_, run_storeVar hsz (by rw [← hb]; exact h2) h3 hv hn rfl (by omega), ?_⟩
      rw [← hb]
      obtain ⟨k1, k2⟩ := hf.set_var hs hx e1 (by rw [e2]; exact h3) (by omega) u1 e5
      exact ⟨⟨.refl E, by omega, e7, e8, fun b' _ _ hx' => e5 b' fun e => hx' ⟨s, p1, e.symm⟩, fun _ h => .inl h, fun b' h => .inl ((k2 b').1 h), fun _ _ h => .inl h⟩, k1, hh.other (hf.own s p1) h6 e6 e5, hs.put _ _⟩
    · cases he
  | hp id s i off =>
    obtain ⟨hi, rfl, rfl⟩ := hp
    simp only [wr] at he
    split at he
    · rename_i s' es hes
      split at he
      · rename_i hss; subst hss
        split at he
        · rename_i x hx
          obtain ⟨y, hy, hq'⟩ := map_some he
          cases hq'
          obtain ⟨c, T, fr, h2, h3, h4, h5, h6, h7, h8⟩ := row_of hh hes
          have hle := upd_le hy
          have hxs := h6 x (List.mem_of_getElem? hx)
          have hilt := (List.getElem?_eq_some_iff.1 hx).1
          have hmul : i * s' + s' ≤ E.cp id * s' := by
            have : (i + 1) * s' ≤ E.cp id * s' := Nat.mul_le_mul_right _ (by omega)
            rwa [Nat.succ_mul] at this
          obtain ⟨c', e1, e2, e3, e4, e5, e6, e7, e8⟩ := heap_setCells (E.ob id) u.cells.toList (i * s' + off) w c T fr h2 (by simp; omega)
          have hec := EC_upd ⟨h6, h7⟩ hx hy hv hn (c' := c') (fun j hj => by have := e3 j (by simpa using hj); simpa using this) (fun j hj => e4 j (by simp; omega))
          have hown : Owned E h (E.ob id) := ⟨id, ⟨_, hes, by simp⟩, rfl⟩
          refine ⟨_, run_storeVar hsz h2 h3 hv hn rfl (by omega), ?_, ?_, ?_, hs⟩
          · exact ⟨.refl E, by omega, e7, e8, fun b' _ hx' _ => e5 b' fun e => hx' (e ▸ hown), fun b' h => .inl (Owned.set hes (by simp) h), fun _ h => .inl h, fun _ _ h => .inl h⟩
          · exact hf.other (owned_no_var hf hown) e5 fun b' h => Owned.set hes (by simp) h
          · exact hh.set hes (by simp) e6 e5 h8 ⟨c', T, fr, e1, by rw [e2]; exact h3, by omega, by simpa using h5, hec.1, hec.2, h8⟩
        · cases he
      · cases he
    · cases he

theorem st_store {K : Kont} {a : Act} {o : Oper} {reg : Reg} (hf : FRel E h w r a.tmps) (hh : HRel E h w) (hs : Sorted r) {t : TypeId} {size : Nat} {ya yv : Operand} {xa xv : AX} (ho : o.op = .store t ya yv) (ha : XRel E a xa ya) (hx : XRel E a xv yv) (hsz : Sz P t size)
    {r' : Regs} {h' : Hp} (he : step K r h (.store size xa xv) = some (reg, r', h')) : Res P E h w r a o reg r' h' ∧ Sorted r' := by
  simp only [step] at he
  split at he
  · rename_i p v hp hv
    split at he
    · rename_i hc
      obtain ⟨y, hy, hq⟩ := map_some he
      obtain ⟨r2, h2⟩ := y
      cases hq
      obtain ⟨b, off, e1, e2⟩ := plc_spec hf ha hp
      obtain ⟨hc1, rfl⟩ := hc
      obtain ⟨w', k1, k2, k3, k4, k5⟩ := wr_spec hf hh hs e2 (vl_spec hf hx hv) hc1 hy hsz
      refine ⟨⟨undef, w', E, .inr ⟨?_, rfl⟩, k2, k3, k4, trivial, fun v e => by cases e⟩, k5⟩
      simp [execOp,ho,Instr.storeAt,Instr.sureAddr,e1,k1]
    · cases he
  · cases he

end
end Go.Im

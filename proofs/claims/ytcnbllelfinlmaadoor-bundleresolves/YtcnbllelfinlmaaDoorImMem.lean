/- ImMem: reading and writing places: what the idealised machine reads and writes stands for what the model reads and writes. -/
import Derived.Test.YtcnbllelfinlmaaDoorImRel
import Derived.Laws.IdiomCopy
namespace Go.Im

theorem CellsAt.congr {E : Env} {c c' : Nat → Option Value} {o : Nat} {v : AV} (h : CellsAt E c o v) (hc : ∀ k, k < v.cells.length → c' (o + k) = c (o + k)) : CellsAt E c' o v :=
  fun k a hk => let ⟨h1, u, hu, hv⟩ := h k a hk; ⟨h1, u, by rw [hc k (List.getElem?_eq_some_iff.1 hk).1]; exact hu, hv⟩

theorem AV.cells_of_one {v : AV} (h : v.one = true) : v.cells = [v] := by cases v <;> first | rfl | simp [AV.one] at h

def Shape (agg : Bool) (size : Nat) (v : AV) : Prop := (agg = true → ∃ cs, v = .agg cs ∧ cs.length = size) ∧ (agg = false → v.one = true)

theorem sub_scalar {E : Env} {c : Nat → Option Value} {o : Nat} {v : AV} (hc : v.cells = [v]) (h : CellsAt E c o v) {off size : Nat} {agg : Bool} {v' : AV} (hs : (if agg then none else if off = 0 then some v else none) = some v') :
    CellsAt E c (o + off) v' ∧ Shape agg size v' := by
  cases agg with
  | true => simp at hs
  | false =>
    simp only [Bool.false_eq_true,if_false] at hs
    split at hs
    · rename_i h0; subst h0
      obtain rfl := Option.some.inj hs
      exact ⟨h, ⟨fun e => (by simp at e), fun _ => (h 0 v (by simp [hc])).1⟩⟩
    · cases hs

theorem sub_spec {E : Env} {c : Nat → Option Value} {o : Nat} {v : AV} (h : CellsAt E c o v) {off size : Nat} {agg : Bool} {v' : AV} (hs : sub v off size agg = some v') :
    CellsAt E c (o + off) v' ∧ Shape agg size v' := by
  cases v with
  | agg cs =>
    simp only [sub] at hs
    cases agg with
    | true =>
      simp only [if_true] at hs
      split at hs
      · rename_i hl
        obtain rfl := Option.some.inj hs
        refine ⟨fun k a hk => ?_, ⟨fun _ => ⟨_, rfl, by simp; omega⟩, fun e => (by simp at e)⟩⟩
        simp only [AV.cells,List.getElem?_take,List.getElem?_drop] at hk
        split at hk
        · have := h (off + k) a hk
          rwa [← Nat.add_assoc] at this
        · cases hk
      · cases hs
    | false =>
      simp only [Bool.false_eq_true,if_false] at hs
      have := h off v' hs
      refine ⟨fun k a hk => ?_, ⟨fun e => (by simp at e), fun _ => this.1⟩⟩
      rw [AV.cells_of_one this.1] at hk
      cases k with
      | zero => simp at hk; subst hk; simpa using this
      | succ k => simp at hk
  | _ => exact sub_scalar rfl h hs

structure Ty (P : Program) (t : TypeId) (agg : Bool) (size : Nat) : Prop where
  agg : ∀ w, (isAgg t).run P w = .ok agg w
  size : ∀ w, (sizeOf t).run P w = .ok size w

theorem run_loadVar {P : Program} {E : Env} {w : World} {t : TypeId} {agg : Bool} {size : Nat} (hT : Ty P t agg size) {b o : Nat} {v : AV}
    (h : CellsAt E (fun o => w.cell? ⟨b, o, none⟩) o v) (hs : Shape agg size v) : ∃ u, (loadVar t ⟨b, o, none⟩).run P w = .ok u w ∧ VRel E v u := by
  have hadd : ∀ j, (⟨b, o, none⟩ : Addr).add j = ⟨b, o + j, none⟩ := fun j => by unfold Addr.add; split <;> simp_all
  cases agg with
  | false =>
    have h1 := hs.2 rfl
    obtain ⟨_, u, hu, hv⟩ := h 0 v (by rw [AV.cells_of_one h1]; rfl)
    refine ⟨u, ?_, hv⟩
    simp only [Nat.add_zero] at hu
    simp [loadVar,hT.agg,hu]
  | true =>
    obtain ⟨cs, rfl, hl⟩ := hs.1 rfl
    have hall : ∀ k, k < cs.length → ∃ u, w.cell? ⟨b, o + k, none⟩ = some u ∧ ∀ a, cs[k]? = some a → VRel E a u := by
      intro k hk
      obtain ⟨_, u, hu, hv⟩ := h k cs[k] (by simp [AV.cells,List.getElem?_eq_getElem hk])
      exact ⟨u, hu, fun a ha => by rw [List.getElem?_eq_getElem hk] at ha; cases ha; exact hv⟩
    let f : Nat → Value := fun k => (w.cell? ⟨b, o + k, none⟩).getD undef
    have hf : ∀ k, k < cs.length → w.cell? ⟨b, o + k, none⟩ = some (f k) := fun k hk => by
      obtain ⟨u, hu, _⟩ := hall k hk; simp [f,hu]
    have hrun := run_loadCells (P := P) w ⟨b, o, none⟩ size f (fun j hj => by rw [hadd]; exact hf j (by omega))
    refine ⟨.agg ((List.range size).map f).toArray, ?_, .agg _ _ (by simp [hl]) (fun a ha => ?_) fun i a u hi hu => ?_⟩
    · simp [loadVar,hT.agg,hT.size,hrun]
    · obtain ⟨k, hk, rfl⟩ := List.getElem_of_mem ha
      exact (h k cs[k] (by simp [AV.cells,List.getElem?_eq_getElem hk])).1
    · have hlt := (List.getElem?_eq_some_iff.1 hi).1
      obtain ⟨u', hu', hv'⟩ := hall i hlt
      have : u = f i := by
        simp [hl ▸ hlt] at hu
        exact hu.symm
      subst this
      have : f i = u' := by simp [f,hu']
      rw [this]
      exact hv' a hi

/-! ### Where a place lies -/

def PlAt (E : Env) (r : Regs) (tmps : Array Value) (b o : Nat) : Pl → Prop
  | .loc t off => isVar r t ∧ tmps.getD t undef = .pointer (some ⟨b, 0, none⟩) ∧ o = off
  | .hp id s i off => id < E.n ∧ b = E.ob id ∧ o = i * s + off
  | .im v => CellsAt E (E.sg b) o v

theorem plV_spec {E : Env} {r : Regs} {tmps : Array Value} {v : AV} {u : Value} {p : Pl} (h : VRel E v u) (hp : plV v = some p) :
    ∃ b o, u = .pointer (some ⟨b, o, none⟩) ∧ PlAt E r tmps b o p := by
  cases h <;> simp [plV] at hp
  case ptr id s i off hi => subst hp; exact ⟨_, _, rfl, hi, rfl, rfl⟩
  case iptr v b o h1 hs h =>
    subst hp
    refine ⟨b, o, rfl, fun k a hk => ⟨h1 a (List.mem_of_getElem? hk), ?_⟩⟩
    obtain ⟨u, hu⟩ := Option.isSome_iff_exists.1 (hs k (List.getElem?_eq_some_iff.1 hk).1)
    exact ⟨u, hu, h k a u hk hu⟩

def XRel (E : Env) (a : Act) : AX → Operand → Prop
  | .t n, x => x = .tmp n
  | .c v, x => VRel E v (a.eval x)

theorem eval_tmp (a : Act) (n : Nat) : a.eval (.tmp n) = a.tmps.getD n undef := rfl

theorem vl_spec {E : Env} {h : Hp} {w : World} {r : Regs} {a : Act} (hf : FRel E h w r a.tmps) {x : AX} {y : Operand} (hx : XRel E a x y) {v : AV} (hv : vl r x = some v) : VRel E v (a.eval y) := by
  cases x with
  | c u => simp [vl] at hv; subst hv; exact hx
  | t n =>
    simp only [XRel] at hx
    subst hx
    simp only [vl] at hv
    have := hf.reg n
    split at hv
    · rename_i u hu
      rw [hu] at this
      cases hv
      exact this
    · cases hv

theorem vb_of {tmps : Array Value} {t b : Nat} {o : Nat} (h : tmps.getD t undef = .pointer (some ⟨b, o, none⟩)) : vb tmps t = b := by simp [vb,h]

theorem var_at {E : Env} {h : Hp} {w : World} {r : Regs} {tmps : Array Value} (hf : FRel E h w r tmps) {t : Nat} {v : AV} (hv : get r t = .var v) :
    ∃ c T fr, tmps.getD t undef = .pointer (some ⟨vb tmps t, 0, none⟩) ∧ w.heap[vb tmps t]? = some (.cells c T fr) ∧ (∀ o, o < c.size → (fr.1 ≤ o && o < fr.2) = false) ∧
      c.size = v.cells.length ∧ CellsAt E (fun o => c[o]?) 0 v ∧ ∀ o, E.sg (vb tmps t) o = none := by
  have := hf.reg t
  rw [hv] at this
  obtain ⟨b, c, T, fr, h1, h2, h3, h4, h5, h6⟩ := this
  have hb := vb_of h1
  rw [hb]
  exact ⟨c, T, fr, h1, h2, h3, h4, h5, h6⟩

theorem plc_spec {E : Env} {h : Hp} {w : World} {r : Regs} {a : Act} (hf : FRel E h w r a.tmps) {x : AX} {y : Operand} (hx : XRel E a x y) {p : Pl} (hp : plc r x = some p) :
    ∃ b o, a.eval y = .pointer (some ⟨b, o, none⟩) ∧ PlAt E r a.tmps b o p := by
  cases x with
  | c u => exact plV_spec hx hp
  | t n =>
    simp only [XRel] at hx
    subst hx
    simp only [plc] at hp
    have := hf.reg n
    split at hp
    · rename_i u hu
      rw [hu] at this
      exact plV_spec this hp
    · rename_i u hu
      obtain ⟨c, T, fr, h1, h2, h3, h4⟩ := var_at hf hu
      cases hp
      exact ⟨_, 0, h1, ⟨_, hu⟩, h1, rfl⟩
    · rename_i t o hu
      rw [hu] at this
      split at hp
      · rename_i u' hu'
        cases hp
        obtain ⟨c, T, fr, h1, _⟩ := var_at hf hu'
        exact ⟨_, o, this _ h1 ⟨_, hu'⟩, ⟨_, hu'⟩, h1, rfl⟩
      · cases hp
    · cases hp

theorem cell_of {w : World} {b : Nat} {c : Array Value} {T : TypeId} {fr : Nat × Nat} (h : w.heap[b]? = some (.cells c T fr)) (o : Nat) : w.cell? ⟨b, o, none⟩ = c[o]? := by simp [World.cell?,h]
theorem frozen_of {w : World} {b : Nat} {c : Array Value} {T : TypeId} {fr : Nat × Nat} (h : w.heap[b]? = some (.cells c T fr)) (o : Nat) : w.frozen? ⟨b, o, none⟩ = (fr.1 ≤ o && o < fr.2) := by simp [World.frozen?,h]

theorem CellsAt.world {E : Env} {h : Hp} {w : World} (hh : HRel E h w) {b o : Nat} {v : AV} (hc : CellsAt E (E.sg b) o v) : CellsAt E (fun o => w.cell? ⟨b, o, none⟩) o v :=
  fun k a hk => let ⟨h1, u, hu, hv⟩ := hc k a hk; ⟨h1, u, hh.sg _ _ _ hu, hv⟩

theorem CellsAt.shift {E : Env} {c : Nat → Option Value} {o : Nat} {v : AV} : CellsAt E c o v ↔ CellsAt E (fun k => c (o + k)) 0 v := by simp [CellsAt]

theorem rd_spec {E : Env} {h : Hp} {w : World} {r : Regs} {tmps : Array Value} (hf : FRel E h w r tmps) (hh : HRel E h w) {p : Pl} {b o : Nat} (hp : PlAt E r tmps b o p) {agg : Bool} {size : Nat} {v : AV}
    (hr : rd r h agg size p = some v) : CellsAt E (fun o => w.cell? ⟨b, o, none⟩) o v ∧ Shape agg size v := by
  cases p with
  | loc t off =>
    obtain ⟨_, h1, rfl⟩ := hp
    simp only [rd] at hr
    split at hr
    · rename_i x hx
      obtain ⟨c, T, fr, h1', h2, h3, h4, h5, h6⟩ := var_at hf hx
      rw [vb_of h1] at h2
      have := sub_spec h5 hr
      simp only [Nat.zero_add] at this
      exact ⟨this.1.congr (fun k _ => cell_of h2 _), this.2⟩
    · cases hr
  | hp id s i off =>
    obtain ⟨hi, rfl, rfl⟩ := hp
    simp only [rd] at hr
    split at hr
    · rename_i s' es hes
      split at hr
      · rename_i hss; subst hss
        split at hr
        · rename_i x hx
          obtain ⟨c, T, fr, h2, h3, h4, h5, h6, h7, h8⟩ := hh.obj id _ hes
          have := sub_spec (h7 i x hx) hr
          exact ⟨this.1.congr (fun k _ => cell_of h2 _), this.2⟩
        · cases hr
      · cases hr
    · cases hr
  | im x =>
    simp only [rd] at hr
    have := sub_spec (CellsAt.world hh hp) hr
    simpa using this

end Go.Im

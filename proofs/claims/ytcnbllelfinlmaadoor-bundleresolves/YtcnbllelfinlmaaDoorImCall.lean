/- ImCall: calls. -/
import Derived.Test.YtcnbllelfinlmaaDoorImStep2
import Derived.CallsIn
set_option linter.unusedVariables false
set_option linter.unusedSimpArgs false
namespace Go.Im
section
variable {P : Program} {E : Env} {h : Hp} {w : World} {r : Regs} {a : Act} {o : Oper} {reg : Reg} {GT : GTab} {F : Fns}

def Agree (k : Nat) (ω ω' : Nat → Nat) : Prop := ∀ i, i < k → ω i = ω' i

theorem Agree.refl (k : Nat) (ω : Nat → Nat) : Agree k ω ω := fun _ _ => rfl
theorem Agree.trans {k : Nat} {a b c : Nat → Nat} (h : Agree k a b) (g : Agree k b c) : Agree k a c := fun i hi => (h i hi).trans (g i hi)
theorem Agree.le {k k' : Nat} (hk : k ≤ k') {a b : Nat → Nat} (h : Agree k' a b) : Agree k a b := fun i hi => h i (by omega)

def Does (P : Program) (f : FuncId) (args : Array Value) (w : World) (R : Value → World → Prop) : Prop :=
  ((callFunc f args).run P w = .ok (.enter f args) w ∧ Calls P f args w fun e w' => ∃ u, e = .returned u ∧ R u w') ∨ ∃ u w', (callFunc f args).run P w = .ok (.value u) w' ∧ R u w'

def RF (ρ : Option Nat) : Fence := { Fence.wide with round := ρ }

def RDoes (P : Program) (l : Nat) (args : Array Value) (w : World) (R : Value → World → Prop) : Prop :=
  ∃ fn tmps hd bd, (Instr.yield l args).run P w = .ok (.round l fn tmps hd bd) w ∧ RoundIn Fence.wide 0 P l fn tmps hd bd w fun e w' => ∃ u, e = .returned u ∧ R u w'

def Opd (P : Program) (a : Act) (w : World) (o : Oper) (R : Value → World → Prop) : Prop :=
  (∃ u w', Runs P a w o u w' ∧ R u w') ∨ (∃ f args, (execOp a.eval o).run P w = .ok (.enter f args) w ∧ Calls P f args w fun e w' => ∃ u, e = .returned u ∧ R u w') ∨
  ∃ l fn tmps hd bd, (execOp a.eval o).run P w = .ok (.round l fn tmps hd bd) w ∧ RoundIn Fence.wide 0 P l fn tmps hd bd w fun e w' => ∃ u, e = .returned u ∧ R u w'

theorem RDoes.mono {l : Nat} {args : Array Value} {R R' : Value → World → Prop} (hd : RDoes P l args w R) (hr : ∀ u w', R u w' → R' u w') : RDoes P l args w R' := by
  obtain ⟨fn, tmps, x, y, h1, h2⟩ := hd
  exact ⟨fn, tmps, x, y, h1, h2.mono fun e w' ⟨u, e1, e2⟩ => ⟨u, e1, hr _ _ e2⟩⟩

theorem RDoes.opd {l : Nat} {args : Array Value} {R : Value → World → Prop} (hd : RDoes P l args w R) (he : (execOp a.eval o).run P w = (Instr.yield l args).run P w) : Opd P a w o R := by
  obtain ⟨fn, tmps, x, y, h1, h2⟩ := hd
  exact .inr (.inr ⟨l, fn, tmps, x, y, by rw [he, h1], h2⟩)

theorem Does.mono {f : FuncId} {args : Array Value} {R R' : Value → World → Prop} (hd : Does P f args w R) (hr : ∀ u w', R u w' → R' u w') : Does P f args w R' := by
  rcases hd with ⟨h1, h2⟩ | ⟨u, w', h1, h2⟩
  · exact .inl ⟨h1, h2.mono fun e w' ⟨u, e1, e2⟩ => ⟨u, e1, hr _ _ e2⟩⟩
  · exact .inr ⟨u, w', h1, hr _ _ h2⟩

theorem Does.opd {f : FuncId} {args : Array Value} {R : Value → World → Prop} (hd : Does P f args w R) (he : (execOp a.eval o).run P w = (callFunc f args).run P w) : Opd P a w o R := by
  rcases hd with ⟨h1, h2⟩ | ⟨u, w', h1, h2⟩
  · exact .inr (.inl ⟨f, args, by rw [he, h1], h2⟩)
  · exact .inl ⟨u, w', .inl (by rw [he, h1]), h2⟩

theorem Opd.wpIn {ρ : Option Nat} {R : Value → World → Prop} {next : Act → World → Prop} {Q : Exit → Act → World → Prop} (hnd : ∀ c, o.op ≠ .defer c) (hd : Opd P a w o R) (hn : ∀ u w', R u w' → next (a.put o.dst u) w') : o.wpIn (RF ρ) 0 P a w next Q := by
  unfold Oper.wpIn
  refine ⟨fun _ _ => trivial, ?_⟩
  rw [Oper.semAt_eq _ _ _ hnd]
  rcases hd with ⟨u, w', h1 | ⟨h1, rfl⟩, h2⟩ | ⟨f, args, h1, h2⟩ | ⟨l, fn, tmps, hd, bd, h1, h2⟩
  · rw [h1]; exact hn _ _ h2
  · rw [h1]; exact hn _ _ h2
  · rw [h1, Oper.uponIn_enter]
    refine ⟨fun h => (by cases h), ?_⟩
    have h3 : Calls P f args w fun
        | .returned v, w'' => next (a.put o.dst v) w''
        | .panicked chain, w'' => Q (.panic chain) a w''
        | .outgrown, _ => LetsOut Q := h2.mono fun e w' ⟨u, e1, e2⟩ => by subst e1; exact hn _ _ e2
    exact callsIn_wide.2 h3
  · rw [h1, Oper.uponIn_round]
    refine ⟨fun h => (by cases h), ?_⟩
    have h3 : RoundIn Fence.wide 0 P l fn tmps hd bd w fun
        | .returned v, w'' => next (a.put o.dst v) w''
        | .panicked chain, w'' => Q (.panic chain) a w''
        | .outgrown, _ => LetsOut Q := h2.mono fun e w' ⟨u, e1, e2⟩ => by subst e1; exact hn _ _ e2
    exact h3

def CallRes (F : Fns) (n : Nat) (tot : Bool) (ω : Nat → Nat) (t : FuncId ⊕ Nat) (args : List AV) (h : Hp) (E : Env) (w : World) (u : Value) (w' : World) : Prop :=
  ∃ ω1 v h' E', Agree h.length ω ω1 ∧ (∀ ω', Agree h'.length ω1 ω' → callR F n tot ω' t args h = some (v, h')) ∧ VRel E' v u ∧ Keep E h (fun _ => False) w E' h' (fun _ => False) w' ∧ HRel E' h' w'

def ArgsR (E : Env) (args : List AV) (vs : Array Value) : Prop := args.length = vs.size ∧ ∀ (i : Nat) x y, args[i]? = some x → vs[i]? = some y → VRel E x y

structure CallsOk (P : Program) (GT : GTab) (F : Fns) (n : Nat) : Prop where
  fn : ∀ (tot : Bool) (ω : Nat → Nat) (f : FuncId) (args : List AV) (h : Hp) (E : Env) (w : World) (vs : Array Value), HRel E h w → GOk E GT → ArgsR E args vs → (∀ ω', Agree h.length ω ω' → (call F n tot ω' f args h).isSome = true) →
    Does P f vs w (CallRes F n tot ω (.inl f) args h E w)
  rd : ∀ (tot : Bool) (ω : Nat → Nat) (id : Nat) (args : List AV) (h : Hp) (E : Env) (w : World) (vs : Array Value), HRel E h w → GOk E GT → ArgsR E args vs → (∀ ω', Agree h.length ω ω' → (round F n tot ω' id args h).isSome = true) →
    RDoes P (E.ob id) vs w (CallRes F n tot ω (.inr id) args h E w)
  en : ∀ (f : FuncId) (x : AF), F f = some (.inl x) → ∀ (vs : Array Value) (w : World), (callFunc f vs).run P w = .ok (.enter f vs) w

theorem Keep.length {E' : Env} {h' : Hp} {w' : World} {X X' : Nat → Prop} (hk : Keep E h X w E' h' X' w') (h1 : HRel E h w) (h2 : HRel E' h' w') : h.length ≤ h'.length := by
  have := hk.le.n; rw [h1.n, h2.n] at this; exact this

/-! ### values that name no entry of the heap -/

theorem plains_get : ∀ {as bs : List AV}, plains as = some bs → as.length = bs.length ∧ ∀ (i : Nat) b, bs[i]? = some b → ∃ a, as[i]? = some a ∧ plain a = some b
  | [], bs, hp => by simp [plains] at hp; subst hp; exact ⟨rfl, fun i b hb => by simp at hb⟩
  | a :: as, bs, hp => by
    simp only [plains] at hp
    split at hp
    · rename_i v vs h1 h2
      cases hp
      obtain ⟨q1, q2⟩ := plains_get h2
      refine ⟨by simp [q1], fun i b hb => ?_⟩
      cases i with
      | zero => simp at hb; subst hb; exact ⟨a, rfl, h1⟩
      | succ i => exact q2 i b (by simpa using hb)
    · cases hp

theorem plain_cells {v v' : AV} (hp : plain v = some v') : plains v.cells = some v'.cells ∧ v'.one = v.one := by
  cases v with
  | agg cs =>
    simp only [plain] at hp
    obtain ⟨cs', h1, rfl⟩ := map_some hp
    exact ⟨h1, rfl⟩
  | tup vs =>
    have hp0 := hp
    simp only [plain] at hp
    obtain ⟨cs', h1, rfl⟩ := map_some hp
    exact ⟨by simp only [AV.cells,plains,hp0], rfl⟩
  | imm s es c =>
    have hp0 := hp
    cases c <;> simp only [plain] at hp <;> obtain ⟨cs', h1, rfl⟩ := map_some hp <;> exact ⟨by simp only [AV.cells,plains,hp0], rfl⟩
  | iptr v =>
    have hp0 := hp
    simp only [plain] at hp
    obtain ⟨cs', h1, rfl⟩ := map_some hp
    exact ⟨by simp only [AV.cells,plains,hp0], rfl⟩
  | ifc t v =>
    have hp0 := hp
    simp only [plain] at hp
    obtain ⟨cs', h1, rfl⟩ := map_some hp
    exact ⟨by simp only [AV.cells,plains,hp0], rfl⟩
  | fn f as cs =>
    have hp0 := hp
    simp only [plain] at hp
    split at hp
    · cases hp; exact ⟨by simp only [AV.cells,plains,hp0], rfl⟩
    · cases hp
  | ptr => simp [plain] at hp
  | row => simp [plain] at hp
  | mp => simp [plain] at hp
  | yld => simp [plain] at hp
  | _ =>
    have hp0 := hp
    simp only [plain] at hp
    cases hp
    exact ⟨by simp only [AV.cells,plains,hp0], rfl⟩

theorem plain_one {v v' : AV} (hp : plain v = some v') (hc : ∀ a ∈ v.cells, a.one = true) : v'.cells.length = v.cells.length ∧ (∀ a ∈ v'.cells, a.one = true) ∧ ∀ (k : Nat) a', v'.cells[k]? = some a' → ∃ a, v.cells[k]? = some a ∧ plain a = some a' := by
  obtain ⟨q1, q2⟩ := plains_get (plain_cells hp).1
  refine ⟨q1.symm, fun a' ha' => ?_, q2⟩
  obtain ⟨i, hi, rfl⟩ := List.getElem_of_mem ha'
  obtain ⟨a, h1, h2⟩ := q2 i _ (List.getElem?_eq_getElem hi)
  rw [(plain_cells h2).2]
  exact hc a (List.mem_of_getElem? h1)

theorem plain_rel {v : AV} {u : Value} (hv : VRel E v u) : ∀ {v' : AV}, plain v = some v' → VRel E.bare v' u := by
  induction hv with
  | bool b => intro v' hp; simp only [plain] at hp; cases hp; exact .bool _
  | int k n => intro v' hp; simp only [plain] at hp; cases hp; exact .int _ _
  | str s => intro v' hp; simp only [plain] at hp; cases hp; exact .str _
  | nilp => intro v' hp; simp only [plain] at hp; cases hp; exact .nilp
  | nils => intro v' hp; simp only [plain] at hp; cases hp; exact .nils
  | nilm => intro v' hp; simp only [plain] at hp; cases hp; exact .nilm
  | nilf => intro v' hp; simp only [plain] at hp; cases hp; exact .nilf
  | nili => intro v' hp; simp only [plain] at hp; cases hp; exact .nili
  | ptr => intro v' hp; simp [plain] at hp
  | row => intro v' hp; simp [plain] at hp
  | imz size a c hc =>
    intro v' hp
    rcases hc with rfl | rfl
    · simp only [plain,plains,Option.map_some] at hp; cases hp; exact .imz _ _ _ (.inl rfl)
    · simp only [plain,plains,Option.map_some] at hp; cases hp; exact .imz _ _ _ (.inr rfl)
  | mp => intro v' hp; simp [plain] at hp
  | yld => intro v' hp; simp [plain] at hp
  | agg cs vs hl h1 h ih =>
    intro v' hp
    obtain ⟨q1, q2, q3⟩ := plain_one hp h1
    simp only [plain] at hp
    obtain ⟨cs', hc, rfl⟩ := map_some hp
    simp only [AV.cells] at q1 q2 q3
    refine .agg _ _ (q1.trans hl) q2 fun i a y hi hy => ?_
    obtain ⟨x, k1, k2⟩ := q3 i a hi
    exact ih i x y k1 hy k2
  | tup cs vs hl h ih =>
    intro v' hp
    simp only [plain] at hp
    obtain ⟨cs', hc, rfl⟩ := map_some hp
    obtain ⟨q1, q2⟩ := plains_get hc
    refine .tup _ _ (q1.symm.trans hl) fun i a y hi hy => ?_
    obtain ⟨x, k1, k2⟩ := q2 i a hi
    exact ih i x y k1 hy k2
  | iptr v b o h1 hs h ih =>
    intro v' hp
    simp only [plain] at hp
    obtain ⟨x', hc, rfl⟩ := map_some hp
    obtain ⟨q1, q2, q3⟩ := plain_one hc h1
    refine .iptr _ _ _ q2 (fun k hk => hs k (by omega)) fun k a' y hk hy => ?_
    obtain ⟨x, k1, k2⟩ := q3 k a' hk
    exact ih k x y k1 hy k2
  | imm size es c b o cap hcap hsz h1 hs h hc ih =>
    intro v' hp
    have fin : ∀ (c' : Cap) es', plains es = some es' → capOk E.bare b o size es'.length cap c' → VRel E.bare (.imm size es' c') (.slice (some ⟨b, o, none⟩) es.length cap) := by
      intro c' es' hes hcc
      obtain ⟨q1, q2⟩ := plains_get hes
      rw [q1]
      have each : ∀ (i : Nat) e', es'[i]? = some e' → ∃ e, es[i]? = some e ∧ plain e = some e' ∧ e'.cells.length = size ∧ (∀ a ∈ e'.cells, a.one = true) ∧ ∀ (k : Nat) a', e'.cells[k]? = some a' → ∃ a, e.cells[k]? = some a ∧ plain a = some a' := by
        intro i e' hi
        obtain ⟨e, k1, k2⟩ := q2 i e' hi
        obtain ⟨p1, p2, p3⟩ := plain_one k2 (h1 e (List.mem_of_getElem? k1))
        exact ⟨e, k1, k2, by rw [p1]; exact hsz e (List.mem_of_getElem? k1), p2, p3⟩
      refine .imm size es' c' b o cap (by omega) (fun e' he' => ?_) (fun e' he' => ?_) (fun i k hi hk => hs i k (by omega) hk) (fun i e' k a' y hi hk hy => ?_) hcc
      · obtain ⟨i, hi, rfl⟩ := List.getElem_of_mem he'
        obtain ⟨e, _, _, p, _⟩ := each i _ (List.getElem?_eq_getElem hi)
        exact p
      · obtain ⟨i, hi, rfl⟩ := List.getElem_of_mem he'
        obtain ⟨e, _, _, _, p, _⟩ := each i _ (List.getElem?_eq_getElem hi)
        exact p
      · obtain ⟨e, k1, _, _, _, p⟩ := each i e' hi
        obtain ⟨x, k2, k3⟩ := p k a' hk
        exact ih i e k x y k1 k2 hy k3
    cases c with
    | full =>
      simp only [plain] at hp
      obtain ⟨es', hes, rfl⟩ := map_some hp
      refine fin .full es' hes ?_
      rw [← (plains_get hes).1]; exact hc
    | no =>
      simp only [plain] at hp
      obtain ⟨es', hes, rfl⟩ := map_some hp
      exact fin .no es' hes trivial
    | tok id e =>
      simp only [plain] at hp
      obtain ⟨es', hes, rfl⟩ := map_some hp
      exact fin .no es' hes trivial
  | fn f as cs vs us hl hl' h h' ih ih' =>
    intro v' hp
    simp only [plain] at hp
    split at hp
    · rename_i as' cs' e1 e2
      cases hp
      obtain ⟨q1, q2⟩ := plains_get e1
      obtain ⟨q3, q4⟩ := plains_get e2
      refine .fn f _ _ _ _ (q1.symm.trans hl) (q3.symm.trans hl') (fun i a y hi hy => ?_) fun i a y hi hy => ?_
      · obtain ⟨x, k1, k2⟩ := q2 i a hi
        exact ih i x y k1 hy k2
      · obtain ⟨x, k1, k2⟩ := q4 i a hi
        exact ih' i x y k1 hy k2
    · cases hp
  | ifc t v u h ih =>
    intro v' hp
    simp only [plain] at hp
    obtain ⟨x', hc, rfl⟩ := map_some hp
    exact .ifc _ _ _ (ih hc)

theorem callR_false (F : Fns) : ∀ (n : Nat) (ω ω' : Nat → Nat), callR F n false ω = callR F n false ω'
  | 0, ω, ω' => by funext t args h; simp [callR]
  | n + 1, ω, ω' => by
    funext t args h
    simp only [callR,callR_false F n ω ω',Bool.false_eq_true,if_false]

theorem call_false (F : Fns) (n : Nat) (ω ω' : Nat → Nat) : call F n false ω = call F n false ω' := by
  funext f args h
  simp only [call,callR_false F n ω ω']

theorem bare_hrel (hh : HRel E h w) : HRel E.bare [] w :=
  ⟨rfl, hh.sg, fun id ha => by obtain ⟨o, ho, _⟩ := ha; simp at ho, fun id o ho => by simp at ho, fun i j hi => by obtain ⟨o, ho, _⟩ := hi; simp at ho⟩

theorem no_owned {E : Env} {b : Nat} : ¬ Owned E [] b := fun ⟨id, ⟨o, ho, _⟩, _⟩ => by simp at ho

theorem bare_back (hh : HRel E h w) {E' : Env} {h' : Hp} {w' : World} (hk : Keep E.bare [] (fun _ => False) w E' h' (fun _ => False) w') (hh' : HRel E' h' w') :
    Keep E h (fun _ => False) w { E with sg := E'.sg } h (fun _ => False) w' ∧ HRel { E with sg := E'.sg } h w' ∧ E'.bare.le { E with sg := E'.sg } := by
  have hle : E.le { E with sg := E'.sg } := ⟨Nat.le_refl _, fun _ _ => rfl, fun _ _ => rfl, hk.le.sg, rfl⟩
  have hheap : ∀ b, b < w.heap.size → w'.heap[b]? = w.heap[b]? := fun b hb => hk.heap b hb no_owned id
  have hsg : ∀ b, b < w.heap.size → ∀ o, E'.sg b o = E.sg b o := fun b hb o => by
    cases hs : E'.sg b o with
    | none =>
      cases hs2 : E.sg b o with
      | none => rfl
      | some v => have := hk.le.sg b o v hs2; rw [hs] at this; cases this
    | some v =>
      rcases hk.sg b o (by rw [hs]; rfl) with h1 | h1 | h1
      · obtain ⟨v', hv'⟩ := Option.isSome_iff_exists.1 h1
        have := hk.le.sg b o v' hv'
        rw [hs] at this
        have hv'' : E.sg b o = some v' := hv'
        rw [hv'', ← this]
      · exact absurd h1 no_owned
      · omega
  refine ⟨⟨hle, hk.size, hk.os, hk.out, fun b hb _ _ => hheap b hb, fun b ho => .inl ho, fun _ h => .inl h, fun b o hs => ?_⟩, ⟨hh.n, hh'.sg, fun id ha => Nat.lt_of_lt_of_le (hh.lt id ha) hk.size, fun id o ho => ?_, hh.inj⟩, ⟨Nat.zero_le _, fun id hi => absurd hi (Nat.not_lt_zero _), fun id hi => absurd hi (Nat.not_lt_zero _), fun _ _ _ h => h, hk.le.cd.symm⟩⟩
  · rcases hk.sg b o hs with h1 | h1 | h1
    · exact .inl h1
    · exact absurd h1 no_owned
    · exact .inr (.inr h1)
  · by_cases hd : o = .dead
    · subst hd; trivial
    · have hlt := hh.lt id ⟨o, ho, hd⟩
      exact ORel.mono hle (fun k => hsg _ hlt k) (ORel.congr (hheap _ hlt) (hh.obj id o ho))

theorem Keep.widen {E' : Env} {h' : Hp} {w' : World} (hk : Keep E h (fun _ => False) w E' h' (fun _ => False) w') (X : Nat → Prop) : Keep E h X w E' h' X w' :=
  ⟨hk.le, hk.size, hk.os, hk.out, fun b hb ho _ => hk.heap b hb ho id, hk.owned, fun _ h => .inl h, hk.sg⟩

def OpRes (F : Fns) (n : Nat) (tot : Bool) (ω : Nat → Nat) (x : AOp) (E : Env) (h : Hp) (w : World) (r : Regs) (tm : Array Value) (u : Value) (w' : World) : Prop :=
  ∃ ω1 E' reg r' h', Agree h.length ω ω1 ∧ (∀ ω', Agree h'.length ω1 ω' → step (kont F n tot ω') r h x = some (reg, r', h')) ∧ Keep E h (Vars r tm) w E' h' (Vars r' tm) w' ∧ FRel E' h' w' r' tm ∧ HRel E' h' w' ∧ Sorted r' ∧
    Yields E' h' w' r' tm u reg ∧ ∀ v, reg = .var v → ∃ b, u = .pointer (some ⟨b, 0, none⟩) ∧ w.heap.size ≤ b

theorem step_indep {n : Nat} {tot : Bool} (ω ω' : Nat → Nat) {x : AOp} (h1 : x.calls = false) (h2 : ∀ it, x ≠ .next it) (r : Regs) (h : Hp) : step (kont F n tot ω) r h x = step (kont F n tot ω') r h x := by
  cases x <;> first
    | rfl
    | exact absurd rfl (h2 _)
    | (rename_i row x; cases row <;> rfl)
    | (rename_i row s z l ps; cases row <;> rfl)
    | (simp [AOp.calls] at h1; done)

theorem next_congr {K K' : Kont} {it : AX} {r' : Regs} {h' : Hp} (he : step K r h (.next it) = some (reg, r', h')) (hp : h.length < h'.length → K'.pick h.length = K.pick h.length) : step K' r h (.next it) = some (reg, r', h') := by
  by_cases hlt : h.length < h'.length
  · rw [← he]
    simp only [step,hp hlt]
  · simp only [step] at he ⊢
    split at he
    · rename_i id hv
      split at he
      · rename_i hit; exact he
      · rename_i m since seen stepped hit
        split at he
        · rename_i es clock hes
          split at he
          · cases he
          · split at he
            · cases he; simp at hlt
            · cases he; simp at hlt
            · cases he
        · cases he
      · cases he
    · cases he
end
end Go.Im

/- ImFree3: two operations that do not look at one another may be turned about. -/
import Derived.Test.YtabpndekmpjmhaaImFree2
set_option linter.unusedVariables false
set_option linter.unusedSimpArgs false
namespace Go.Im

def Sim (r r' : Regs) : Prop := ∀ t, get r t = get r' t ∨ ((get r t).isV = true ∧ (get r' t).isV = true)

theorem Sim.refl (r : Regs) : Sim r r := fun _ => .inl rfl
theorem Sim.symm {r r' : Regs} (h : Sim r r') : Sim r' r := fun t => (h t).elim (fun e => .inl e.symm) fun ⟨a, b⟩ => .inr ⟨b, a⟩
theorem Sim.trans {a b c : Regs} (h : Sim a b) (g : Sim b c) : Sim a c := fun t => by
  rcases h t with e | ⟨e1, e2⟩
  · rw [e]; exact g t
  · rcases g t with e | ⟨e3, e4⟩
    · exact .inr ⟨e1, e ▸ e2⟩
    · exact .inr ⟨e1, e4⟩

theorem Sim.isV {r r' : Regs} (h : Sim r r') (t : Nat) : (get r t).isV = (get r' t).isV := by
  rcases h t with e | ⟨e1, e2⟩
  · rw [e]
  · rw [e1, e2]
theorem isV_not {x : Reg} (h : x.isV = true) : x.isA = false ∧ ∀ u, x.onto u = false := by cases x <;> simp_all [Reg.isV, Reg.isA, Reg.onto]
theorem Sim.isA {r r' : Regs} (h : Sim r r') (t : Nat) : (get r t).isA = (get r' t).isA := by
  rcases h t with e | ⟨e1, e2⟩
  · rw [e]
  · rw [(isV_not e1).1, (isV_not e2).1]
theorem Sim.onto {r r' : Regs} (h : Sim r r') (t u : Nat) : (get r t).onto u = (get r' t).onto u := by
  rcases h t with e | ⟨e1, e2⟩
  · rw [e]
  · rw [(isV_not e1).2, (isV_not e2).2]

theorem Sim.vl {r r' : Regs} (h : Sim r r') (a : AX) : Im.vl r' a = Im.vl r a := by
  cases a with
  | c v => rfl
  | t n =>
    simp only [Im.vl]
    rcases h n with e | ⟨e1, e2⟩
    · rw [e]
    · cases hx : get r n <;> cases hy : get r' n <;> simp_all [Reg.isV]

theorem Sim.plc {r r' : Regs} (h : Sim r r') (a : AX) : Im.plc r' a = Im.plc r a := by
  cases a with
  | c v => rfl
  | t n =>
    simp only [Im.plc]
    rcases h n with e | ⟨e1, e2⟩
    · rw [e]
      cases hx : get r' n with
      | adr t o =>
        simp only
        rcases h t with e | ⟨e1, e2⟩
        · rw [e]
        · cases hx : get r t <;> cases hy : get r' t <;> simp_all [Reg.isV]
      | _ => rfl
    · cases hx : get r n <;> cases hy : get r' n <;> simp_all [Reg.isV]

theorem sim_put_var {r : Regs} {t : Nat} {v y : AV} (hv : get r t = .var v) : Sim r (put r t (.var y)) := fun u => by
  rw [get_put]
  split
  · rename_i e; subst e; exact .inr ⟨by rw [hv]; rfl, rfl⟩
  · exact .inl rfl

/-! ### an operation with its guard -/

def act1 (K : Kont) (o : AOper) (r : Regs) (h : Hp) : Option (Reg × Regs × Hp) :=
  match wanted r o.guard with
  | some true => step K r h o.op
  | some false => some (.val (.tup []), r, h)
  | none => none

theorem exec1_act (K : Kont) (o : AOper) (r : Regs) (h : Hp) : exec1 K o r h = match act1 K o r h with
    | some (x, r', h') => (setD o.dst x r').map fun r' => (r', h')
    | none => none := by
  unfold exec1 act1
  cases wanted r o.guard with
  | none => rfl
  | some b => cases b <;> rfl

def gtmp : Option (Nat × Bool) → List Nat
  | none => []
  | some (t, _) => [t]

def AOper.names (o : AOper) : List Nat := gtmp o.guard ++ o.op.names

section
variable {r r' : Regs} {h h' : Hp} {d : Nat} {x : Reg} {K : Kont} {o : AOper}

theorem wanted_put {g : Option (Nat × Bool)} (hd : d ∉ gtmp g) : wanted (put r d x) g = wanted r g := by
  cases g with
  | none => rfl
  | some p =>
    obtain ⟨t, b⟩ := p
    simp only [gtmp,List.mem_singleton] at hd
    simp only [wanted,get_put,if_neg hd]

theorem wanted_sim (hs : Sim r r') (g : Option (Nat × Bool)) : wanted r' g = wanted r g := by
  cases g with
  | none => rfl
  | some p =>
    obtain ⟨t, b⟩ := p
    simp only [wanted]
    rcases hs t with e | ⟨e1, e2⟩
    · rw [e]
    · cases hx : get r t <;> cases hy : get r' t <;> simp_all [Reg.isV]

theorem act1_put (hd : d ∉ o.names) (hc : Clear r d x) : act1 K o (put r d x) h = (act1 K o r h).map fun y => (y.1, put y.2.1 d x, y.2.2) := by
  simp only [AOper.names,List.mem_append,not_or] at hd
  unfold act1
  rw [wanted_put hd.1]
  split
  · exact step_put hd.2 hc
  · rfl
  · rfl

theorem act1_sim {z : Reg × Regs × Hp} (hs : act1 K o r h = some z) : Sim r z.2.1 := by
  unfold act1 at hs
  split at hs
  · rcases step_any hs with e | ⟨t, v, y, e1, e2⟩
    · rw [e]; exact .refl r
    · rw [e2]; exact sim_put_var e1
  · cases hs; exact .refl r
  · cases hs

theorem act1_sorted (hs : Sorted r) {z : Reg × Regs × Hp} (he : act1 K o r h = some z) : Sorted z.2.1 := by
  obtain ⟨a, b, c⟩ := z
  unfold act1 at he
  split at he
  · exact step_sorted hs he
  · cases he; exact hs
  · cases he

theorem act1_onto {z : Reg × Regs × Hp} (hs : act1 K o r h = some z) {u : Nat} (ho : z.1.onto u = true) : (get r u).isV = true ∧ (u ∈ o.names ∨ ∃ t, (get r t).onto u = true) := by
  unfold act1 at hs
  split at hs
  · obtain ⟨h1, h2⟩ := step_onto hs ho
    exact ⟨h1, h2.imp (fun h => by simp [AOper.names,h]) id⟩
  · cases hs; simp [Reg.onto] at ho
  · cases hs

theorem act1_p (hc : o.op.cls = .p) (hs : Sim r r') : act1 K o r' h' = (act1 K o r h).map fun z => (z.1, r', h') := by
  unfold act1
  rw [wanted_sim hs]
  split
  · exact step_p hc hs.vl hs.plc
  · rfl
  · rfl

theorem act1_p_same (hc : o.op.cls = .p) {z : Reg × Regs × Hp} (hs : act1 K o r h = some z) : z = (z.1, r, h) := by
  have := act1_p (K := K) (h := h) (h' := h) hc (Sim.refl r)
  rw [hs] at this
  exact Option.some.inj this

theorem act1_l (hc : o.op.cls = .l) : act1 K o r h' = (act1 K o r h).map fun z => (z.1, r, h') := by
  unfold act1
  split
  · exact step_l hc
  · rfl
  · rfl

theorem act1_l_same (hc : o.op.cls = .l) {z : Reg × Regs × Hp} (hs : act1 K o r h = some z) : z = (z.1, r, h) := by
  have := act1_l (K := K) (h := h) (h' := h) hc (r := r)
  rw [hs] at this
  exact Option.some.inj this

theorem act1_r (hc : o.op.cls = .r) (hk : keeps h h') {z : Reg × Regs × Hp} (hs : act1 K o r h = some z) : z = (z.1, r, h) ∧ act1 K o r h' = some (z.1, r, h') := by
  unfold act1 at hs ⊢
  split at hs
  · exact step_r hc hk hs
  · cases hs; exact ⟨rfl, rfl⟩
  · cases hs

theorem act1_g (hc : o.op.cls = .g) {z : Reg × Regs × Hp} (hs : act1 K o r h = some z) : z.2.1 = r ∧ keeps h z.2.2 := by
  unfold act1 at hs
  split at hs
  · exact step_g hc hs
  · cases hs; exact ⟨rfl, .refl _⟩
  · cases hs

theorem act1_c (hc : o.op.cls ≠ .s) {z : Reg × Regs × Hp} (hs : act1 K o r h = some z) : z.2.1 = r := by
  unfold act1 at hs
  split at hs
  · exact step_c hc hs
  · cases hs; rfl
  · cases hs

theorem act_swap {i j : AOper} (hc : comm i.op.cls j.op.cls = true) {xi xj : Reg} {ri rj : Regs} {hi hj : Hp} (h1 : act1 K i r h = some (xi, ri, hi)) (h2 : act1 K j ri hi = some (xj, rj, hj)) :
    ∃ rj' hj', act1 K j r h = some (xj, rj', hj') ∧ act1 K i rj' hj' = some (xi, rj, hj) := by
  by_cases hp : i.op.cls = .p
  · have e := act1_p_same hp h1
    cases e
    refine ⟨rj, hj, h2, ?_⟩
    rw [act1_p (h := h) hp (act1_sim h2), h1]; rfl
  by_cases hq : j.op.cls = .p
  · have e := act1_p_same hq h2
    cases e
    refine ⟨r, h, ?_, h1⟩
    rw [act1_p (r := ri) (h := hi) hq (act1_sim h1).symm, h2]; rfl
  cases ci : i.op.cls <;> cases cj : j.op.cls <;> rw [ci, cj] at hc <;> first
    | (simp [comm] at hc; done)
    | exact absurd ci hp
    | exact absurd cj hq
    | (have e1 := act1_l_same ci h1
       cases e1
       have e2 := act1_c (by rw [cj]; simp) h2
       simp only at e2
       subst e2
       refine ⟨_, hj, h2, ?_⟩
       rw [act1_l (h := h) ci, h1]; rfl)
    | (have e1 := act1_c (by rw [ci]; simp) h1
       simp only at e1
       subst e1
       have e2 := act1_l_same cj h2
       cases e2
       refine ⟨_, h, ?_, h1⟩
       rw [act1_l (h := hi) cj, h2]; rfl)
    | (have e1 := (act1_r ci (.refl _) h1).1
       have e2 := (act1_r cj (.refl _) h2).1
       cases e1
       cases e2
       exact ⟨r, h, h2, h1⟩)
    | (have e1 := (act1_r ci (.refl _) h1).1
       cases e1
       obtain ⟨e2, hk⟩ := act1_g cj h2
       simp only at e2 hk
       subst e2
       exact ⟨_, hj, h2, (act1_r ci hk h1).2⟩)

/-! ### with the registers put -/

def OkD (dst : Option Nat) (x : Reg) (r : Regs) : Prop := ∀ d, dst = some d → (get r d).isA = false ∧ Clear r d x

def putD (dst : Option Nat) (x : Reg) (r : Regs) : Regs :=
  match dst with
  | none => r
  | some d => put r d x

theorem get_mem {t : Nat} : ∀ {r : Regs}, get r t ≠ .un → (t, get r t) ∈ r
  | [], h => by simp [get] at h
  | (u, y) :: r, h => by
    simp only [get] at h ⊢
    split
    · rename_i e; subst e; simp
    · rename_i e; rw [if_neg e] at h; exact List.mem_cons_of_mem _ (get_mem h)

theorem mem_get {p : Nat × Reg} : ∀ {r : Regs}, Sorted r → p ∈ r → get r p.1 = p.2
  | [], _, h => by simp at h
  | (u, y) :: r, hs, h => by
    have hs' := List.pairwise_cons.1 hs
    simp only [get]
    rcases List.mem_cons.1 h with rfl | h
    · simp
    · have := hs'.1 p h
      rw [if_neg (by simp at this; omega)]
      exact mem_get hs'.2 h

theorem any_onto (hs : Sorted r) : (r.any fun p => p.2.onto d) = false ↔ ∀ t, (get r t).onto d = false := by
  constructor
  · intro h t
    by_cases hg : get r t = .un
    · rw [hg]; rfl
    · have := List.any_eq_false.1 h _ (get_mem hg)
      simpa using this
  · intro h
    rw [List.any_eq_false]
    intro p hp
    rw [← mem_get hs hp, h]
    simp

theorem setD_iff (hs : Sorted r) {dst : Option Nat} : setD dst x r = some r' ↔ OkD dst x r ∧ r' = putD dst x r := by
  cases dst with
  | none => simp only [setD,putD,OkD]; constructor
            · intro h; cases h; exact ⟨fun d e => (by cases e), rfl⟩
            · intro h; rw [h.2]
  | some d =>
    simp only [setD,putD]
    have key : ((get r d).isA || (((get r d).isV || x.isV) && r.any fun p => p.2.onto d)) = false ↔ OkD (some d) x r := by
      rw [Bool.or_eq_false_iff]
      constructor
      · intro ⟨h1, h2⟩ d' e
        cases e
        refine ⟨h1, fun hv => ?_⟩
        rw [hv, Bool.true_and] at h2
        exact (any_onto hs).1 h2
      · intro h
        obtain ⟨h1, h2⟩ := h d rfl
        refine ⟨h1, ?_⟩
        cases hv : ((get r d).isV || x.isV) with
        | false => rfl
        | true => rw [Bool.true_and]; exact (any_onto hs).2 (h2 hv)
    constructor
    · intro h
      split at h
      · cases h
      · rename_i hc
        cases h
        exact ⟨key.1 (by simpa using hc), rfl⟩
    · intro ⟨h1, h2⟩
      rw [if_neg (by rw [key.2 h1]; simp), h2]

theorem putD_comm {di dj : Option Nat} (hne : ∀ a b, di = some a → dj = some b → a ≠ b) (xi xj : Reg) (r : Regs) : putD dj xj (putD di xi r) = putD di xi (putD dj xj r) := by
  cases di with
  | none => rfl
  | some a =>
    cases dj with
    | none => rfl
    | some b => exact put_comm r (hne a b rfl rfl) xi xj

theorem act1_putD {dst : Option Nat} (hd : ∀ d, dst = some d → d ∉ o.names) (hc : ∀ d, dst = some d → Clear r d x) : act1 K o (putD dst x r) h = (act1 K o r h).map fun y => (y.1, putD dst x y.2.1, y.2.2) := by
  cases dst with
  | none => simp only [putD]; cases act1 K o r h <;> rfl
  | some d => exact act1_put (hd d rfl) (hc d rfl)

theorem get_putD {dst : Option Nat} (t : Nat) : get (putD dst x r) t = if dst = some t then x else get r t := by
  cases dst with
  | none => simp [putD]
  | some d => simp only [putD,get_put,Option.some.injEq]

def indep (i j : AOper) : Bool :=
  (match i.dst with
  | some d => !j.names.contains d && j.dst != some d
  | none => true) && (match j.dst with
  | some d => !i.names.contains d
  | none => true) && comm i.op.cls j.op.cls

theorem Sorted.putD {dst : Option Nat} (hs : Sorted r) : Sorted (putD dst x r) := by
  cases dst with
  | none => exact hs
  | some d => exact hs.put _ _

theorem exec_swap (hs : Sorted r) {i j : AOper} (hc : indep i j = true) {r1 r2 : Regs} {h1 h2 : Hp} (e1 : exec1 K i r h = some (r1, h1)) (e2 : exec1 K j r1 h1 = some (r2, h2)) :
    ∃ r1' h1', exec1 K j r h = some (r1', h1') ∧ exec1 K i r1' h1' = some (r2, h2) := by
  simp only [indep,Bool.and_eq_true] at hc
  obtain ⟨⟨c1, c2⟩, c3⟩ := hc
  have nij : ∀ d, i.dst = some d → d ∉ j.names ∧ j.dst ≠ some d := fun d e => by
    rw [e] at c1
    simp only [Bool.and_eq_true,Bool.not_eq_true',bne_iff_ne,ne_eq] at c1
    refine ⟨fun hm => ?_, c1.2⟩
    have := List.contains_iff_mem.2 hm
    rw [c1.1] at this
    cases this
  have nji : ∀ d, j.dst = some d → d ∉ i.names := fun d e hm => by
    rw [e] at c2
    simp only [Bool.not_eq_true'] at c2
    have := List.contains_iff_mem.2 hm
    rw [c2] at this; cases this
  rw [exec1_act] at e1 e2
  cases a1 : act1 K i r h with
  | none => rw [a1] at e1; cases e1
  | some z1 =>
  obtain ⟨xi, ri, hi⟩ := z1
  rw [a1] at e1
  obtain ⟨r1', d1, q⟩ := map_some e1
  cases q
  have sri : Sorted ri := act1_sorted hs a1
  obtain ⟨o1, rfl⟩ := (setD_iff sri).1 d1
  have p2 := act1_putD (K := K) (o := j) (r := ri) (x := xi) (h := h1) (dst := i.dst) (fun d e => (nij d e).1) (fun d e => (o1 d e).2)
  cases a2 : act1 K j ri h1 with
  | none => rw [p2, a2] at e2; cases e2
  | some z2 =>
  obtain ⟨xj, rj, hj⟩ := z2
  rw [p2, a2] at e2
  simp only [Option.map_some] at e2
  obtain ⟨r2', d2, q⟩ := map_some e2
  cases q
  have srj : Sorted rj := act1_sorted sri a2
  obtain ⟨o2, rfl⟩ := (setD_iff srj.putD).1 d2
  obtain ⟨rj', hj', s1, s2⟩ := act_swap c3 a1 a2
  have srj' : Sorted rj' := act1_sorted hs s1
  have sim1 : Sim r ri := act1_sim a1
  have sim2 : Sim ri rj := act1_sim a2
  have sim3 : Sim r rj' := act1_sim s1
  have sim4 : Sim rj' rj := act1_sim s2
  have okj : OkD j.dst xj rj' := fun d e => by
    obtain ⟨k1, k2⟩ := o2 d e
    have hne : i.dst ≠ some d := fun e' => (nij d e').2 e
    rw [get_putD, if_neg hne] at k1
    refine ⟨(by rw [sim4.isA]; exact k1), fun hv t => ?_⟩
    rw [sim4.isV] at hv
    have := k2 (by rw [get_putD, if_neg hne]; exact hv) t
    rw [get_putD] at this
    rw [sim4.onto]
    split at this
    · rename_i et
      obtain ⟨k3, _⟩ := o1 t et
      rw [sim2.isA] at k3
      cases hg : get rj t <;> rw [hg] at k3 <;> simp_all [Reg.isA, Reg.onto]
    · exact this
  refine ⟨putD j.dst xj rj', hj', ?_, ?_⟩
  · rw [exec1_act, s1]
    simp only
    rw [(setD_iff srj').2 ⟨okj, rfl⟩]; rfl
  · have p3 := act1_putD (K := K) (o := i) (r := rj') (x := xj) (h := hj') (dst := j.dst) nji (fun d e => (okj d e).2)
    rw [exec1_act, p3, s2]
    simp only [Option.map_some]
    have oki : OkD i.dst xi (putD j.dst xj rj) := fun d e => by
      obtain ⟨k1, k2⟩ := o1 d e
      have hne : j.dst ≠ some d := (nij d e).2
      rw [get_putD, if_neg hne]
      refine ⟨(by rw [← sim2.isA]; exact k1), fun hv t => ?_⟩
      rw [get_putD, if_neg hne, ← sim2.isV] at hv
      have hno := k2 hv
      rw [get_putD]
      split
      · rename_i et
        cases hxo : xj.onto d with
        | false => rfl
        | true =>
          obtain ⟨m1, m2⟩ := act1_onto a2 hxo
          rcases m2 with m2 | ⟨t', m2⟩
          · exact absurd m2 (nij d e).1
          · rw [hno t'] at m2; cases m2
      · rw [← sim2.onto]; exact hno t
    rw [(setD_iff srj.putD).2 ⟨oki, rfl⟩, putD_comm (fun a b ea eb => fun e => (nij a ea).2 (e ▸ eb))]
    rfl
end
end Go.Im

/- ImExec: code of the idealised machine that stands for the model's code does what that does (regions in their textual order). -/
import Derived.Test.YtlognommhffmcaaImOp
import Derived.LoopN
set_option linter.unusedVariables false
set_option linter.unusedSimpArgs false
namespace Go.Im
section
variable {P : Program} {E : Env} {h : Hp} {w : World} {r : Regs} {a : Act} {o : Oper} {reg : Reg} {GT : Nat → Option AV} {F : Fns} {n : Nat} {tot : Bool} {ω : Nat → Nat} {N : Nat}

structure SRel (N : Nat) (E : Env) (h : Hp) (w : World) (r : Regs) (a : Act) : Prop where
  f : FRel E h w r a.tmps
  h : HRel E h w
  s : Sorted r
  d : a.defers = []
  n : N ≤ a.tmps.size

def After {α : Type} (N : Nat) (ω : Nat → Nat) (E : Env) (h : Hp) (w : World) (r : Regs) (a : Act) (f : (Nat → Nat) → Option (α × Regs × Hp)) (x : α) (a' : Act) (w' : World) : Prop :=
  ∃ ω1 E' r' h', Agree h.length ω ω1 ∧ (∀ ω', Agree h'.length ω1 ω' → f ω' = some (x, r', h')) ∧ Keep E h (Vars r a.tmps) w E' h' (Vars r' a'.tmps) w' ∧ SRel N E' h' w' r' a'

theorem Keep.vars_of {E' : Env} {h' : Hp} {w' : World} {X X' X'' : Nat → Prop} (hk : Keep E h X w E' h' X' w') (hx : ∀ b, X'' b → X' b ∨ w.heap.size ≤ b) : Keep E h X w E' h' X'' w' :=
  ⟨hk.le, hk.size, hk.os, hk.out, hk.heap, hk.owned, fun b hb => (hx b hb).elim (hk.vars b) .inr, hk.sg⟩

theorem noAdr_same {d : Nat} {r : Regs} (hr : r.any (fun p => p.2.onto d) = false) : noAdr d r = r := by
  unfold noAdr
  rw [List.filter_eq_self]
  intro p hp
  have := List.any_eq_false.1 hr p hp
  simpa using this

theorem put_spec {E' : Env} {h' : Hp} {w' : World} {r' r2 : Regs} {x : Reg} {u : Value} {dst : Option Nat} (hN : N ≤ a.tmps.size) (hd : ∀ d, dst = some d → d < N) (hk : Keep E h (Vars r a.tmps) w E' h' (Vars r' a.tmps) w') (hf : FRel E' h' w' r' a.tmps) (hh : HRel E' h' w') (hs : Sorted r') (hde : a.defers = [])
    (hy : Yields E' h' w' r' a.tmps u x) (hv : ∀ v, x = .var v → ∃ b, u = .pointer (some ⟨b, 0, none⟩) ∧ w.heap.size ≤ b) (hset : setD dst x r' = some r2) :
    Keep E h (Vars r a.tmps) w E' h' (Vars r2 (a.put dst u).tmps) w' ∧ SRel N E' h' w' r2 (a.put dst u) := by
  unfold setD at hset
  cases dst with
  | none => cases hset; exact ⟨hk, ⟨hf, hh, hs, hde, hN⟩⟩
  | some d =>
    have hd := hd d rfl
    simp only at hset
    split at hset
    · cases hset
    · rename_i hcond
      cases hset
      have hsz : N ≤ (a.put (some d) u).tmps.size := by simp [Act.put,hN]
      have hdef : (a.put (some d) u).defers = [] := hde
      by_cases hvar : ∃ v, x = .var v
      · obtain ⟨v, rfl⟩ := hvar
        have hr : r'.any (fun p => p.2.onto d) = false := by
          simp only [Reg.isV,Bool.or_true,Bool.true_and,Bool.not_eq_true,Bool.or_eq_false_iff] at hcond
          exact hcond.2
        obtain ⟨b, rfl, hb⟩ := hv v rfl
        obtain ⟨p1, p2⟩ := hf.put_var hs (by omega : d < a.tmps.size) hy
        rw [noAdr_same hr] at p1 p2
        refine ⟨hk.vars_of fun b' hb' => ?_, ⟨p1, hh, hs.put _ _, hdef, hsz⟩⟩
        rcases p2 b' hb' with h1 | h1
        · exact .inl h1
        · rw [vb_set_same a.tmps (by omega : d < a.tmps.size)] at h1
          exact .inr (h1 ▸ hb)
      · obtain ⟨p1, p2⟩ := hf.put_val (by omega : d < a.tmps.size) (fun v e => hvar ⟨v, e⟩) hy
        exact ⟨hk.vars_of fun b' hb' => .inl (p2 b' hb'), ⟨p1, hh, hs.put _ _, hdef, hsz⟩⟩

def okGuard (ops : Array Oper) : Option (Nat × Bool) → Option (Nat × Bool) → Bool
  | none, none => true
  | some (t, b), some (j, b') => (ops[j]?).bind (·.dst) == some t && b == b'
  | _, _ => false

def okOper (P : Program) (GT : Nat → Option AV) (N : Nat) (ops : Array Oper) (o : Oper) (x : AOper) : Bool :=
  o.dst == x.dst && (match x.dst with
    | some d => decide (d < N)
    | none => true) && okGuard ops x.guard o.guard && okOp P GT o.op x.op

theorem wanted_spec {ops : Array Oper} (hf : FRel E h w r a.tmps) {g : Option (Nat × Bool)} (hk : okGuard ops g o.guard = true) {b : Bool} (hw : wanted r g = some b) : Region.wanted o (yielded ops a.tmps) = b := by
  unfold okGuard at hk
  unfold Region.wanted
  split at hk
  · rename_i e
    rw [e]
    simp [wanted] at hw
    rw [hw]
  · rename_i t b1 j b2 e
    simp only [Bool.and_eq_true,beq_iff_eq] at hk
    obtain ⟨h1, rfl⟩ := hk
    rw [e]
    simp only [wanted] at hw
    simp only [yielded,h1,Option.bind_some]
    have hr := hf.reg t
    split at hw
    · rename_i c hg
      rw [hg] at hr
      have hsz := hf.sz t (by rw [hg]; simp)
      have hc := bool_inv hr
      have : a.tmps[t]? = some (.bool c) := by
        rw [← hc]; simp [Array.getD,hsz]
      rw [this]
      cases hw
      cases c <;> cases b1 <;> rfl
    · rename_i hg
      rw [hg] at hr
      have hsz := hf.sz t (by rw [hg]; simp)
      cases hw
      have hr : VRel E (.tup []) (a.tmps.getD t undef) := hr
      have hc : a.tmps.getD t undef = .tuple #[] := by
        generalize a.tmps.getD t undef = u at hr
        cases hr with
        | tup _ vs hl _ =>
          have : vs = #[] := Array.eq_empty_of_size_eq_zero (by simpa using hl.symm)
          rw [this]
      have : a.tmps[t]? = some (.tuple #[]) := by
        rw [← hc]; simp [Array.getD,hsz]
      rw [this]
      rfl
    · cases hw
  · cases hk

theorem exec1_sound (CO : CallsOk P GT F n) (hG : GOk E GT) (hS : SRel N E h w r a) {ops : Array Oper} {x : AOper} (hk : okOper P GT N ops o x = true) (hw : ∀ ω', Agree h.length ω ω' → (exec1 (kont F n tot ω') x r h).isSome = true)
    {K : Act → World → Prop} {Q : Exit → Act → World → Prop} (hK : ∀ a' w', After N ω E h w r a (fun ω' => (exec1 (kont F n tot ω') x r h).map fun y => ((), y)) () a' w' → K a' w') :
    if Region.wanted o (yielded ops a.tmps) then o.wp P a w K Q ∨ (o.asks P a w ∧ LetsOut Q) else K (a.put o.dst undef) w := by
  simp only [okOper,Bool.and_eq_true,beq_iff_eq] at hk
  obtain ⟨⟨⟨k1, k2⟩, k3⟩, k4⟩ := hk
  have hd : ∀ d, x.dst = some d → d < N := fun d e => by rw [e] at k2; simpa using k2
  have h0 := hw ω (.refl _ _)
  unfold exec1 at h0
  split at h0
  · rename_i hwt
    rw [wanted_spec hS.f k3 hwt, if_pos rfl]
    have hst : ∀ ω', Agree h.length ω ω' → (step (kont F n tot ω') r h x.op).isSome = true := fun ω' hω => by
      have := hw ω' hω
      unfold exec1 at this
      rw [hwt] at this
      simp only at this
      cases hs : step (kont F n tot ω') r h x.op with
      | none => rw [hs] at this; cases this
      | some y => rfl
    refine .inl ((op_sound CO hG hS.f hS.h hS.s k4 hst).wp fun u w' hq => hK _ _ ?_)
    obtain ⟨ω1, E', reg, r', h', q1, q2, q3, q4, q5, q6, q7, q8⟩ := hq
    have hex : ∀ ω', Agree h'.length ω1 ω' → exec1 (kont F n tot ω') x r h = (setD x.dst reg r').map fun r' => (r', h') := fun ω' hω => by
      unfold exec1
      rw [hwt, q2 ω' hω]
    cases hset : setD x.dst reg r' with
    | none =>
      have h1 := hw ω1 q1
      rw [hex ω1 (.refl _ _), hset] at h1
      cases h1
    | some r2 =>
      rw [k1]
      obtain ⟨p1, p2⟩ := put_spec hS.n hd q3 q4 q5 q6 hS.d q7 q8 hset
      exact ⟨ω1, E', r2, h', q1, fun ω' hω => by simp only [hex ω' hω,hset]; rfl, p1, p2⟩
  · rename_i hwt
    rw [wanted_spec hS.f k3 hwt, if_neg (by simp)]
    refine hK _ _ ?_
    cases hset : setD x.dst (.val (.tup [])) r with
    | none => rw [hset] at h0; cases h0
    | some r2 =>
      rw [k1]
      obtain ⟨p1, p2⟩ := put_spec (u := undef) hS.n hd (Keep.refl E h (Vars r a.tmps) w) hS.f hS.h hS.s hS.d (x := .val (.tup [])) (VRel.tup [] #[] rfl fun i x y hi => by simp at hi) (fun v e => by cases e) hset
      refine ⟨ω, E, r2, h, .refl _ _, fun ω' hω => ?_, p1, p2⟩
      simp only [exec1,hwt,hset,Option.map_some]
  · cases h0

theorem After.bind {α β : Type} {f : (Nat → Nat) → Option (α × Regs × Hp)} {g k : (Nat → Nat) → Option (β × Regs × Hp)} {x : α} {ω1 : Nat → Nat} {E1 : Env} {r1 : Regs} {h1 : Hp} {a1 : Act} {w1 : World}
    (hh : HRel E h w) (q1 : Agree h.length ω ω1) (q2 : ∀ ω', Agree h1.length ω1 ω' → f ω' = some (x, r1, h1)) (q3 : Keep E h (Vars r a.tmps) w E1 h1 (Vars r1 a1.tmps) w1) (hS1 : SRel N E1 h1 w1 r1 a1)
    {y : β} {a2 : Act} {w2 : World} (hk : ∀ ω', f ω' = some (x, r1, h1) → k ω' = g ω') (hA : After N ω1 E1 h1 w1 r1 a1 g y a2 w2) : After N ω E h w r a k y a2 w2 := by
  obtain ⟨ω2, E2, r2, h2, p1, p2, p3, p4⟩ := hA
  exact ⟨ω2, E2, r2, h2, q1.trans (p1.le (q3.length hh hS1.h)), fun ω' hω => by
    rw [hk ω' (q2 ω' (p1.trans (hω.le (p3.length hS1.h p4.h))))]
    exact p2 ω' hω, q3.trans p3, p4⟩

/-! ### a list of operations -/

def okOpers (P : Program) (GT : Nat → Option AV) (N : Nat) (ops : Array Oper) : List Nat → List AOper → Bool
  | [], [] => true
  | i :: l, x :: xs => (match ops[i]? with
    | some o => okOper P GT N ops o x
    | none => false) && okOpers P GT N ops l xs
  | _, _ => false

theorem execs_sound (CO : CallsOk P GT F n) {ops : Array Oper} {Q : Exit → Act → World → Prop} : ∀ (l : List Nat) (xs : List AOper) {ω : Nat → Nat} {E : Env} {h : Hp} {w : World} {r : Regs} {a : Act}, GOk E GT → SRel N E h w r a → okOpers P GT N ops l xs = true →
    (∀ ω', Agree h.length ω ω' → (execs (kont F n tot ω') xs r h).isSome = true) → (∀ a' w', After N ω E h w r a (fun ω' => (execs (kont F n tot ω') xs r h).map fun y => ((), y)) () a' w' → Q .normal a' w') → wpOps P ops Q l a w
  | [], [], ω, E, h, w, r, a, hG, hS, _, hw, hQ => hQ a w ⟨ω, E, r, h, .refl _ _, fun ω' _ => rfl, .refl _ _ _ _, hS⟩
  | [], x :: xs, ω, E, h, w, r, a, hG, hS, hk, hw, hQ => by simp [okOpers] at hk
  | i :: l, [], ω, E, h, w, r, a, hG, hS, hk, hw, hQ => by simp [okOpers] at hk
  | i :: l, x :: xs, ω, E, h, w, r, a, hG, hS, hk, hw, hQ => by
    simp only [okOpers,Bool.and_eq_true] at hk
    obtain ⟨k1, k2⟩ := hk
    split at k1
    · rename_i o ho
      simp only [wpOps,ho]
      refine exec1_sound (ω := ω) (tot := tot) CO hG hS k1 (fun ω' hω => ?_) fun a' w' hA => ?_
      · have := hw ω' hω
        simp only [execs] at this
        split at this
        · rename_i e; rw [e]; rfl
        · cases this
      · obtain ⟨ω1, E1, r1, h1, q1, q2, q3, q4⟩ := hA
        have q2' : ∀ ω', Agree h1.length ω1 ω' → exec1 (kont F n tot ω') x r h = some (r1, h1) := fun ω' hω => by
          obtain ⟨y, e1, e2⟩ := map_some (q2 ω' hω)
          cases e2
          exact e1
        have hex : ∀ ω', exec1 (kont F n tot ω') x r h = some (r1, h1) → execs (kont F n tot ω') (x :: xs) r h = execs (kont F n tot ω') xs r1 h1 := fun ω' e => by
          simp only [execs,e]
        refine execs_sound (ω := ω1) CO l xs (hG.mono q3.le) q4 k2 (fun ω' hω => ?_) fun a2 w2 hA2 => hQ a2 w2 ?_
        · rw [← hex ω' (q2' ω' hω)]
          exact hw ω' (q1.trans (hω.le (q3.length hS.h q4.h)))
        · refine After.bind (f := fun ω' => (exec1 (kont F n tot ω') x r h).map fun y => ((), y)) hS.h q1 (fun ω' hω => by simp only [q2' ω' hω]; rfl) q3 q4 (fun ω' e => ?_) hA2
          obtain ⟨y, e1, e2⟩ := map_some e
          cases e2
          rw [hex ω' e1]
    · cases k1

/-! ### code -/

theorem settle_spec {ks : List Nat} (hS : SRel N E h w r a) : SRel N E h w (settle ks r) a ∧ ∀ b, Vars (settle ks r) a.tmps b → Vars r a.tmps b := by
  have hg : ∀ t, get (settle ks r) t = if ((get r t).stays && ks.contains t) then get r t else .un := fun t => by
    unfold settle; rw [get_filter hS.s]
  have hv : ∀ t, isVar (settle ks r) t → isVar r t := fun t ⟨v, hv⟩ => by
    rw [hg] at hv
    split at hv
    · exact ⟨v, hv⟩
    · cases hv
  refine ⟨⟨⟨fun t => ?_, fun t ht => ?_, fun t u ht hu he => hS.f.apart t u (hv t ht) (hv u hu) he, fun t ht => hS.f.own t (hv t ht)⟩, hS.h, hS.s.filter _, hS.d, hS.n⟩, fun b ⟨t, ht, e⟩ => ⟨t, hv t ht, e⟩⟩
  · rw [hg]
    have hr := hS.f.reg t
    split
    · rename_i hst
      cases hx : get r t with
      | val v => rw [hx] at hr; exact hr
      | var v => rw [hx] at hr; exact hr
      | un => trivial
      | adr _ _ => rw [hx] at hst; simp [Reg.stays] at hst
      | slc _ _ _ _ => rw [hx] at hst; simp [Reg.stays] at hst
      | hslc _ _ _ _ _ _ => rw [hx] at hst; simp [Reg.stays] at hst
    · trivial
  · rw [hg] at ht
    split at ht
    · exact hS.f.sz t ht
    · exact absurd rfl ht

def exitOf : AE → Exit
  | .normal => .normal
  | .exit id => .exit id
  | .ret => .ret

section
variable (P GT N)
variable (okD : Array Oper → List (List Nat) → List AOper → Bool)

def okC : AC → Code → Bool
  | .skip, .skip | .skip, .label _ | .ret, .ret => true
  | .exit i, .exit j => i == j
  | .seq a b, .seq x y => okC a x && okC b y
  | .cond c a b, .cond y x z => okX GT c y && okC a x && okC b z
  | .block i b, .block j x => i == j && okC b x
  | .loop b, .loop x => okC b x
  | .region ord ops _, .region _ os draw => if draw then okD os [ord] ops else okOpers P GT N os (List.range os.size) ops
  | .regionA ords ops _, .region _ os draw => draw && ords.length != 1 && okD os ords ops
  | _, _ => false
end

def DrawsOk (P : Program) (GT : Nat → Option AV) (F : Fns) (n : Nat) (tot : Bool) (N : Nat) (okD : Array Oper → List (List Nat) → List AOper → Bool) : Prop :=
  (∀ (id : Nat) (ops : Array Oper) (ord : List Nat) (xs : List AOper), okD ops [ord] xs = true → ∀ {ω : Nat → Nat} {E : Env} {h : Hp} {w : World} {r : Regs} {a : Act} {Q : Exit → Act → World → Prop}, GOk E GT → SRel N E h w r a →
    (∀ ω', Agree h.length ω ω' → (execs (kont F n tot ω') xs r h).isSome = true) → (∀ a' w', After N ω E h w r a (fun ω' => (execs (kont F n tot ω') xs r h).map fun y => ((), y)) () a' w' → Q .normal a' w') → (Code.region id ops true).wp P Q a w) ∧
  ∀ (id : Nat) (ops : Array Oper) (ords : List (List Nat)) (xs : List AOper), ords.length ≠ 1 → okD ops ords xs = true → ∀ {ω : Nat → Nat} {E : Env} {h : Hp} {w : World} {r : Regs} {a : Act} {Q : Exit → Act → World → Prop}, GOk E GT → SRel N E h w r a →
    (∀ ω', Agree h.length ω ω' → (execA (kont F n tot ω') xs ords r h).isSome = true) → (∀ a' w', After N ω E h w r a (fun ω' => (execA (kont F n tot ω') xs ords r h).map fun y => ((), y)) () a' w' → Q .normal a' w') → (Code.region id ops true).wp P Q a w

theorem exec_sound {okD : Array Oper → List (List Nat) → List AOper → Bool} (CO : CallsOk P GT F n) (DO : DrawsOk P GT F n tot N okD) (m : Nat) : ∀ (c : AC) (code : Code), okC P GT N okD c code = true → ∀ {ω : Nat → Nat} {E : Env} {h : Hp} {w : World} {r : Regs} {a : Act} {Q : Exit → Act → World → Prop}, GOk E GT → SRel N E h w r a →
    (∀ ω', Agree h.length ω ω' → (exec (kont F n tot ω') m c (r, h)).isSome = true) → (∀ ae a' w', After N ω E h w r a (fun ω' => exec (kont F n tot ω') m c (r, h)) ae a' w' → Q (exitOf ae) a' w') → code.wp P Q a w := by
  intro c
  induction c with
  | skip =>
    intro code hk ω E h w r a Q hG hS hw hQ
    have hn : Q .normal a w := hQ .normal a w ⟨ω, E, r, h, .refl _ _, fun ω' _ => rfl, .refl _ _ _ _, hS⟩
    cases code <;> simp [okC] at hk
    · exact wp_skip hn
    · exact wp_label hn
  | ret =>
    intro code hk ω E h w r a Q hG hS hw hQ
    have hn : Q .ret a w := hQ .ret a w ⟨ω, E, r, h, .refl _ _, fun ω' _ => rfl, .refl _ _ _ _, hS⟩
    cases code <;> simp [okC] at hk
    exact wp_ret hn
  | exit i =>
    intro code hk ω E h w r a Q hG hS hw hQ
    have hn : Q (.exit i) a w := hQ (.exit i) a w ⟨ω, E, r, h, .refl _ _, fun ω' _ => rfl, .refl _ _ _ _, hS⟩
    cases code <;> simp [okC] at hk
    subst hk
    exact wp_exit hn
  | seq c1 c2 ih1 ih2 =>
    intro code hk ω E h w r a Q hG hS hw hQ
    cases code <;> simp [okC] at hk
    refine wp_seq (ih1 _ hk.1 (ω := ω) hG hS (fun ω' hω => ?_) fun ae a1 w1 hA => ?_)
    · have := hw ω' hω
      simp only [exec] at this
      split at this
      · rename_i s' e; rw [e]; rfl
      · exact this
    · obtain ⟨ω1, E1, r1, h1, q1, q2, q3, q4⟩ := hA
      cases ae with
      | normal =>
        have hex : ∀ ω', exec (kont F n tot ω') m c1 (r, h) = some (.normal, r1, h1) → exec (kont F n tot ω') m (.seq c1 c2) (r, h) = exec (kont F n tot ω') m c2 (r1, h1) := fun ω' e => by
          simp only [exec,e]
        refine ih2 _ hk.2 (ω := ω1) (hG.mono q3.le) q4 (fun ω' hω => ?_) fun ae a2 w2 hA2 => hQ ae a2 w2 (After.bind hS.h q1 q2 q3 q4 hex hA2)
        rw [← hex ω' (q2 ω' hω)]
        exact hw ω' (q1.trans (hω.le (q3.length hS.h q4.h)))
      | exit i => exact hQ (.exit i) a1 w1 ⟨ω1, E1, r1, h1, q1, fun ω' hω => by simp only [exec,q2 ω' hω], q3, q4⟩
      | ret => exact hQ .ret a1 w1 ⟨ω1, E1, r1, h1, q1, fun ω' hω => by simp only [exec,q2 ω' hω], q3, q4⟩
  | cond x c1 c2 ih1 ih2 =>
    intro code hk ω E h w r a Q hG hS hw hQ
    cases code <;> simp [okC] at hk
    obtain ⟨⟨k1, k2⟩, k3⟩ := hk
    have h0 := hw ω (.refl _ _)
    simp only [exec] at h0
    split at h0
    · rename_i hv
      have hev := bool_inv (vl_spec hS.f (okX_rel (a := a) hG k1) hv)
      have hex : ∀ ω', exec (kont F n tot ω') m (.cond x c1 c2) (r, h) = exec (kont F n tot ω') m c1 (r, h) := fun ω' => by simp only [exec,hv]
      refine wp_cond_true hev (ih1 _ k2 (ω := ω) hG hS (fun ω' hω => by rw [← hex]; exact hw ω' hω) fun ae a1 w1 hA => hQ ae a1 w1 ?_)
      simpa only [hex] using hA
    · rename_i hv
      have hev := bool_inv (vl_spec hS.f (okX_rel (a := a) hG k1) hv)
      have hex : ∀ ω', exec (kont F n tot ω') m (.cond x c1 c2) (r, h) = exec (kont F n tot ω') m c2 (r, h) := fun ω' => by simp only [exec,hv]
      refine wp_cond_false hev (ih2 _ k3 (ω := ω) hG hS (fun ω' hω => by rw [← hex]; exact hw ω' hω) fun ae a1 w1 hA => hQ ae a1 w1 ?_)
      simpa only [hex] using hA
    · cases h0
  | block i c1 ih =>
    intro code hk ω E h w r a Q hG hS hw hQ
    cases code <;> simp [okC] at hk
    obtain ⟨rfl, k2⟩ := hk
    refine wp_block (ih _ k2 (ω := ω) hG hS (fun ω' hω => ?_) fun ae a1 w1 hA => ?_)
    · have := hw ω' hω
      simp only [exec] at this
      split at this
      · rename_i e; rw [e]; rfl
      · exact this
    · obtain ⟨ω1, E1, r1, h1, q1, q2, q3, q4⟩ := hA
      cases ae with
      | normal => exact hQ .normal a1 w1 ⟨ω1, E1, r1, h1, q1, fun ω' hω => by simp only [exec,q2 ω' hω], q3, q4⟩
      | ret => exact hQ .ret a1 w1 ⟨ω1, E1, r1, h1, q1, fun ω' hω => by simp only [exec,q2 ω' hω], q3, q4⟩
      | exit j =>
        simp only [exitOf,Exit.inBlock]
        split
        · rename_i hj
          exact hQ .normal a1 w1 ⟨ω1, E1, r1, h1, q1, fun ω' hω => by simp only [exec,q2 ω' hω,if_pos hj], q3, q4⟩
        · rename_i hj
          exact hQ (.exit j) a1 w1 ⟨ω1, E1, r1, h1, q1, fun ω' hω => by simp only [exec,q2 ω' hω,if_neg hj], q3, q4⟩
  | loop c1 ih =>
    intro code hk ω E h w r a Q hG hS hw hQ
    cases code <;> simp [okC] at hk
    rename_i x
    refine wp_loop_rounds m ?_
    simp only [exec] at hw hQ
    have key : ∀ (k : Nat) {ω : Nat → Nat} {E : Env} {h : Hp} {w : World} {r : Regs} {a : Act}, GOk E GT → SRel N E h w r a → (∀ ω', Agree h.length ω ω' → (iter (exec (kont F n tot ω') m c1) k (r, h)).isSome = true) →
        (∀ ae a' w', After N ω E h w r a (fun ω' => iter (exec (kont F n tot ω') m c1) k (r, h)) ae a' w' → Q (exitOf ae) a' w') → Code.rounds P x Q k a w := by
      intro k
      induction k with
      | zero => intro ω E h w r a hG hS hw hQ; have := hw ω (.refl _ _); simp [iter] at this
      | succ k ihk =>
        intro ω E h w r a hG hS hw hQ
        rw [rounds_succ]
        refine ih _ hk (ω := ω) hG hS (fun ω' hω => ?_) fun ae a1 w1 hA => ?_
        · have := hw ω' hω
          simp only [iter] at this
          split at this
          · rename_i s' e; rw [e]; rfl
          · exact this
        · obtain ⟨ω1, E1, r1, h1, q1, q2, q3, q4⟩ := hA
          cases ae with
          | normal =>
            have hex : ∀ ω', exec (kont F n tot ω') m c1 (r, h) = some (.normal, r1, h1) → iter (exec (kont F n tot ω') m c1) (k + 1) (r, h) = iter (exec (kont F n tot ω') m c1) k (r1, h1) := fun ω' e => by
              simp only [iter,e]
            refine ihk (ω := ω1) (hG.mono q3.le) q4 (fun ω' hω => ?_) fun ae a2 w2 hA2 => hQ ae a2 w2 (After.bind hS.h q1 q2 q3 q4 hex hA2)
            rw [← hex ω' (q2 ω' hω)]
            exact hw ω' (q1.trans (hω.le (q3.length hS.h q4.h)))
          | exit i => exact hQ (.exit i) a1 w1 ⟨ω1, E1, r1, h1, q1, fun ω' hω => by simp only [iter,q2 ω' hω], q3, q4⟩
          | ret => exact hQ .ret a1 w1 ⟨ω1, E1, r1, h1, q1, fun ω' hω => by simp only [iter,q2 ω' hω], q3, q4⟩
    exact key m hG hS hw hQ
  | region ord xs ks =>
    intro code hk ω E h w r a Q hG hS hw hQ
    cases code <;> simp only [okC,Bool.false_eq_true] at hk
    rename_i id os draw
    have hw' : ∀ ω', Agree h.length ω ω' → (execs (kont F n tot ω') xs r h).isSome = true := fun ω' hω => by
      have := hw ω' hω
      simp only [exec] at this
      split at this
      · rename_i e; rw [e]; rfl
      · cases this
    have hQ' : ∀ a' w', After N ω E h w r a (fun ω' => (execs (kont F n tot ω') xs r h).map fun y => ((), y)) () a' w' → Q .normal a' w' := fun a1 w1 hA => by
      obtain ⟨ω1, E1, r1, h1, q1, q2, q3, q4⟩ := hA
      obtain ⟨s1, s2⟩ := settle_spec (ks := ks) q4
      refine hQ .normal a1 w1 ⟨ω1, E1, settle ks r1, h1, q1, fun ω' hω => ?_, q3.vars_of fun b hb => .inl (s2 b hb), s1⟩
      obtain ⟨y, e1, e2⟩ := map_some (q2 ω' hω)
      cases e2
      simp only [exec,e1]
    cases draw with
    | true => exact DO.1 id os ord xs (by simpa using hk) hG hS hw' hQ'
    | false => exact wp_region (execs_sound (ω := ω) (tot := tot) CO _ xs hG hS (by simpa using hk) hw' hQ')
  | regionA ords xs ks =>
    intro code hk ω E h w r a Q hG hS hw hQ
    cases code <;> simp only [okC,Bool.false_eq_true] at hk
    rename_i id os draw
    simp only [Bool.and_eq_true,bne_iff_ne] at hk
    obtain ⟨⟨rfl, k1⟩, k2⟩ := hk
    refine DO.2 id os ords xs k1 k2 (ω := ω) hG hS (fun ω' hω => ?_) fun a1 w1 hA => ?_
    · have := hw ω' hω
      simp only [exec] at this
      split at this
      · rename_i e; rw [e]; rfl
      · cases this
    · obtain ⟨ω1, E1, r1, h1, q1, q2, q3, q4⟩ := hA
      obtain ⟨s1, s2⟩ := settle_spec (ks := ks) q4
      refine hQ .normal a1 w1 ⟨ω1, E1, settle ks r1, h1, q1, fun ω' hω => ?_, q3.vars_of fun b hb => .inl (s2 b hb), s1⟩
      obtain ⟨y, e1, e2⟩ := map_some (q2 ω' hω)
      cases e2
      simp only [exec,e1]
end
end Go.Im

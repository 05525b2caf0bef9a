/- ImExec: code of the idealised machine that stands for the model's code does what that does (regions in their textual order). -/
import Derived.Test.YtcnbllelfinlmaaDoorImOp
import Derived.LoopNIn
import Derived.RangeFuncLeaves
import Derived.RangeFuncRecord
import Derived.Below
set_option linter.unusedVariables false
set_option linter.unusedSimpArgs false
namespace Go.Im
section
variable {P : Program} {E : Env} {h : Hp} {w : World} {r : Regs} {a : Act} {o : Oper} {reg : Reg} {GT : GTab} {F : Fns} {n : Nat} {tot : Bool} {ω : Nat → Nat} {N : Nat}

def mk (b : Nat) : Deferred := { target := .collected b, args := #[] }

theorem mk_inj {b b' : Nat} (h : mk b = mk b') : b = b' := by
  unfold mk at h
  injection h with h1 h2
  injection h1

def Marks (w : World) (ds : List Deferred) : Prop := ∃ Ds : List Nat, ds = Ds.map mk ∧ Ds.Nodup ∧ ∀ D ∈ Ds, w.heap[D]? = some (.deferred (some []))

def FV (r : Regs) (a : Act) (b : Nat) : Prop := Vars r a.tmps b ∨ mk b ∈ a.defers

theorem Keep.fv {E' : Env} {h' : Hp} {w' : World} {r' : Regs} {a' : Act} (k : Keep E h (Vars r a.tmps) w E' h' (Vars r' a'.tmps) w') (e : a'.defers = a.defers) : Keep E h (FV r a) w E' h' (FV r' a') w' :=
  ⟨k.le, k.size, k.os, k.out, fun b hb ho hx => k.heap b hb ho fun h => hx (.inl h), k.owned, fun b hx => hx.elim (fun h => (k.vars b h).imp .inl id) fun h => .inl (.inr (e ▸ h)), k.sg⟩

theorem not_owned_def (hh : HRel E h w) {D : Nat} {ds : Option (List Deferred)} (hD : w.heap[D]? = some (.deferred ds)) : ¬ Owned E h D := by
  rintro ⟨id, ⟨x, hx, hd⟩, rfl⟩
  have := hh.obj id x hx
  cases x with
  | row => obtain ⟨c, T, fr, h1, _⟩ := this; rw [hD] at h1; cases h1
  | map => obtain ⟨c, h1, _⟩ := this; rw [hD] at h1; cases h1
  | iter => obtain ⟨c, h1, _⟩ := this; rw [hD] at h1; cases h1
  | tail => obtain ⟨c, T, fr, h1, _⟩ := this; rw [hD] at h1; cases h1
  | loop => obtain ⟨c, h1, _⟩ := this; rw [hD] at h1; cases h1
  | dead => exact hd rfl

theorem not_var_def {tm : Array Value} (hf : FRel E h w r tm) {D : Nat} {ds : Option (List Deferred)} (hD : w.heap[D]? = some (.deferred ds)) : ¬ Vars r tm D := by
  rintro ⟨t, ⟨v, hv⟩, rfl⟩
  obtain ⟨c, T, fr, _, h2, _⟩ := var_at hf hv
  rw [hD] at h2; cases h2

theorem Marks.keep {E' : Env} {h' : Hp} {w' : World} {X X' : Nat → Prop} {ds : List Deferred} (hm : Marks w ds) (hh : HRel E h w) (k : Keep E h X w E' h' X' w') (hX : ∀ D, w.heap[D]? = some (.deferred (some [])) → ¬ X D) : Marks w' ds := by
  obtain ⟨Ds, e, h1, h2⟩ := hm
  exact ⟨Ds, e, h1, fun D hD => (k.heap D (Array.getElem?_eq_some_iff.1 (h2 D hD)).1 (not_owned_def hh (h2 D hD)) (hX D (h2 D hD))).trans (h2 D hD)⟩

theorem Marks.grow {w w' : World} {ds : List Deferred} (hm : Marks w ds) (g : Grow w w') : Marks w' ds := by
  obtain ⟨Ds, e, h1, h2⟩ := hm
  exact ⟨Ds, e, h1, fun D hD => (g.heap D (Array.getElem?_eq_some_iff.1 (h2 D hD)).1).trans (h2 D hD)⟩

structure SRel (N : Nat) (E : Env) (h : Hp) (w : World) (r : Regs) (a : Act) : Prop where
  f : FRel E h w r a.tmps
  h : HRel E h w
  s : Sorted r
  d : Marks w a.defers
  n : N ≤ a.tmps.size

def After {α : Type} (N : Nat) (ω : Nat → Nat) (E : Env) (h : Hp) (w : World) (r : Regs) (a : Act) (f : (Nat → Nat) → Option (α × Regs × Hp)) (x : α) (a' : Act) (w' : World) : Prop :=
  ∃ ω1 E' r' h', Agree h.length ω ω1 ∧ (∀ ω', Agree h'.length ω1 ω' → f ω' = some (x, r', h')) ∧ Keep E h (FV r a) w E' h' (FV r' a') w' ∧ SRel N E' h' w' r' a'

theorem Keep.vars_of {E' : Env} {h' : Hp} {w' : World} {X X' X'' : Nat → Prop} (hk : Keep E h X w E' h' X' w') (hx : ∀ b, X'' b → X' b ∨ w.heap.size ≤ b) : Keep E h X w E' h' X'' w' :=
  ⟨hk.le, hk.size, hk.os, hk.out, hk.heap, hk.owned, fun b hb => (hx b hb).elim (hk.vars b) .inr, hk.sg⟩

theorem noAdr_same {d : Nat} {r : Regs} (hr : r.any (fun p => p.2.onto d) = false) : noAdr d r = r := by
  unfold noAdr
  rw [List.filter_eq_self]
  intro p hp
  have := List.any_eq_false.1 hr p hp
  simpa using this

theorem put_spec {E' : Env} {h' : Hp} {w' : World} {r' r2 : Regs} {x : Reg} {u : Value} {dst : Option Nat} (hN : N ≤ a.tmps.size) (hd : ∀ d, dst = some d → d < N) (hk : Keep E h (Vars r a.tmps) w E' h' (Vars r' a.tmps) w') (hf : FRel E' h' w' r' a.tmps) (hh : HRel E' h' w') (hs : Sorted r') (hde : Marks w' a.defers)
    (hy : Yields E' h' w' r' a.tmps u x) (hv : ∀ v, x = .var v → ∃ b, u = .pointer (some ⟨b, 0, none⟩) ∧ w.heap.size ≤ b) (hset : setD dst x r' = some r2) :
    Keep E h (FV r a) w E' h' (FV r2 (a.put dst u)) w' ∧ SRel N E' h' w' r2 (a.put dst u) := by
  suffices hx : Keep E h (Vars r a.tmps) w E' h' (Vars r2 (a.put dst u).tmps) w' ∧ SRel N E' h' w' r2 (a.put dst u) from ⟨hx.1.fv (by cases dst <;> rfl), hx.2⟩
  unfold setD at hset
  cases dst with
  | none => cases hset; exact ⟨hk, ⟨hf, hh, hs, hde, hN⟩⟩
  | some d =>
    have hd := hd d rfl
    simp only at hset
    split at hset
    · cases hset
    · rename_i hcond
      cases hset
      have hsz : N ≤ (a.put (some d) u).tmps.size := by simp [Act.put,hN]
      have hdef : Marks w' (a.put (some d) u).defers := hde
      by_cases hvar : ∃ v, x = .var v
      · obtain ⟨v, rfl⟩ := hvar
        have hr : r'.any (fun p => p.2.onto d) = false := by
          simp only [Reg.isV,Bool.or_true,Bool.true_and,Bool.not_eq_true,Bool.or_eq_false_iff] at hcond
          exact hcond.2
        obtain ⟨b, rfl, hb⟩ := hv v rfl
        obtain ⟨p1, p2⟩ := hf.put_var hs (by omega : d < a.tmps.size) hy
        rw [noAdr_same hr] at p1 p2
        refine ⟨hk.vars_of fun b' hb' => ?_, ⟨p1, hh, hs.put _ _, hdef, hsz⟩⟩
        rcases p2 b' hb' with h1 | h1
        · exact .inl h1
        · rw [vb_set_same a.tmps (by omega : d < a.tmps.size)] at h1
          exact .inr (h1 ▸ hb)
      · obtain ⟨p1, p2⟩ := hf.put_val (by omega : d < a.tmps.size) (fun v e => hvar ⟨v, e⟩) hy
        exact ⟨hk.vars_of fun b' hb' => .inl (p2 b' hb'), ⟨p1, hh, hs.put _ _, hdef, hsz⟩⟩

def okGuard (ops : Array Oper) : Option (Nat × Bool) → Option (Nat × Bool) → Bool
  | none, none => true
  | some (t, b), some (j, b') => (ops[j]?).bind (·.dst) == some t && b == b'
  | _, _ => false

def okOper (P : Program) (GT : Nat → Option AV) (N : Nat) (ops : Array Oper) (o : Oper) (x : AOper) : Bool :=
  o.dst == x.dst && (match x.dst with
    | some d => decide (d < N)
    | none => true) && okGuard ops x.guard o.guard && okOp P GT o.op x.op

theorem wanted_spec {ops : Array Oper} (hf : FRel E h w r a.tmps) {g : Option (Nat × Bool)} (hk : okGuard ops g o.guard = true) {b : Bool} (hw : wanted r g = some b) : Region.wanted o (yielded ops a.tmps) = b := by
  unfold okGuard at hk
  unfold Region.wanted
  split at hk
  · rename_i e
    rw [e]
    simp [wanted] at hw
    rw [hw]
  · rename_i t b1 j b2 e
    simp only [Bool.and_eq_true,beq_iff_eq] at hk
    obtain ⟨h1, rfl⟩ := hk
    rw [e]
    simp only [wanted] at hw
    simp only [yielded,h1,Option.bind_some]
    have hr := hf.reg t
    split at hw
    · rename_i c hg
      rw [hg] at hr
      have hsz := hf.sz t (by rw [hg]; simp)
      have hc := bool_inv hr
      have : a.tmps[t]? = some (.bool c) := by
        rw [← hc]; simp [Array.getD,hsz]
      rw [this]
      cases hw
      cases c <;> cases b1 <;> rfl
    · rename_i hg
      rw [hg] at hr
      have hsz := hf.sz t (by rw [hg]; simp)
      cases hw
      have hr : VRel E (.tup []) (a.tmps.getD t undef) := hr
      have hc : a.tmps.getD t undef = .tuple #[] := by
        generalize a.tmps.getD t undef = u at hr
        cases hr with
        | tup _ vs hl _ =>
          have : vs = #[] := Array.eq_empty_of_size_eq_zero (by simpa using hl.symm)
          rw [this]
      have : a.tmps[t]? = some (.tuple #[]) := by
        rw [← hc]; simp [Array.getD,hsz]
      rw [this]
      rfl
    · cases hw
  · cases hk

theorem okOp_nd {op : Op} {x : AOp} (hk : okOp P GT op x = true) : ∀ c, op ≠ .defer c := by
  rintro c rfl
  cases x <;> simp [okOp] at hk

theorem exec1_sound {ρ : Option Nat} (CO : CallsOk P GT F n) (hG : GOk E GT) (hS : SRel N E h w r a) {ops : Array Oper} {x : AOper} (hk : okOper P GT N ops o x = true) (hw : ∀ ω', Agree h.length ω ω' → (exec1 (kont F n tot ω') x r h).isSome = true)
    {K : Act → World → Prop} {Q : Exit → Act → World → Prop} (hK : ∀ a' w', After N ω E h w r a (fun ω' => (exec1 (kont F n tot ω') x r h).map fun y => ((), y)) () a' w' → K a' w') :
    if Region.wanted o (yielded ops a.tmps) then o.wpIn (RF ρ) 0 P a w K Q else K (a.put o.dst undef) w := by
  simp only [okOper,Bool.and_eq_true,beq_iff_eq] at hk
  obtain ⟨⟨⟨k1, k2⟩, k3⟩, k4⟩ := hk
  have hd : ∀ d, x.dst = some d → d < N := fun d e => by rw [e] at k2; simpa using k2
  have h0 := hw ω (.refl _ _)
  unfold exec1 at h0
  split at h0
  · rename_i hwt
    rw [wanted_spec hS.f k3 hwt, if_pos rfl]
    have hst : ∀ ω', Agree h.length ω ω' → (step (kont F n tot ω') r h x.op).isSome = true := fun ω' hω => by
      have := hw ω' hω
      unfold exec1 at this
      rw [hwt] at this
      simp only at this
      cases hs : step (kont F n tot ω') r h x.op with
      | none => rw [hs] at this; cases this
      | some y => rfl
    refine (op_sound CO hG hS.f hS.h hS.s k4 hst).wpIn (okOp_nd k4) fun u w' hq => hK _ _ ?_
    obtain ⟨ω1, E', reg, r', h', q1, q2, q3, q4, q5, q6, q7, q8⟩ := hq
    have hex : ∀ ω', Agree h'.length ω1 ω' → exec1 (kont F n tot ω') x r h = (setD x.dst reg r').map fun r' => (r', h') := fun ω' hω => by
      unfold exec1
      rw [hwt, q2 ω' hω]
    cases hset : setD x.dst reg r' with
    | none =>
      have h1 := hw ω1 q1
      rw [hex ω1 (.refl _ _), hset] at h1
      cases h1
    | some r2 =>
      rw [k1]
      obtain ⟨p1, p2⟩ := put_spec hS.n hd q3 q4 q5 q6 (hS.d.keep hS.h q3 fun D hD => not_var_def hS.f hD) q7 q8 hset
      exact ⟨ω1, E', r2, h', q1, fun ω' hω => by simp only [hex ω' hω,hset]; rfl, p1, p2⟩
  · rename_i hwt
    rw [wanted_spec hS.f k3 hwt, if_neg (by simp)]
    refine hK _ _ ?_
    cases hset : setD x.dst (.val (.tup [])) r with
    | none => rw [hset] at h0; cases h0
    | some r2 =>
      rw [k1]
      obtain ⟨p1, p2⟩ := put_spec (u := undef) hS.n hd (Keep.refl E h (Vars r a.tmps) w) hS.f hS.h hS.s hS.d (x := .val (.tup [])) (VRel.tup [] #[] rfl fun i x y hi => by simp at hi) (fun v e => by cases e) hset
      refine ⟨ω, E, r2, h, .refl _ _, fun ω' hω => ?_, p1, p2⟩
      simp only [exec1,hwt,hset,Option.map_some]
  · cases h0

theorem After.bind {α β : Type} {f : (Nat → Nat) → Option (α × Regs × Hp)} {g k : (Nat → Nat) → Option (β × Regs × Hp)} {x : α} {ω1 : Nat → Nat} {E1 : Env} {r1 : Regs} {h1 : Hp} {a1 : Act} {w1 : World}
    (hh : HRel E h w) (q1 : Agree h.length ω ω1) (q2 : ∀ ω', Agree h1.length ω1 ω' → f ω' = some (x, r1, h1)) (q3 : Keep E h (FV r a) w E1 h1 (FV r1 a1) w1) (hS1 : SRel N E1 h1 w1 r1 a1)
    {y : β} {a2 : Act} {w2 : World} (hk : ∀ ω', f ω' = some (x, r1, h1) → k ω' = g ω') (hA : After N ω1 E1 h1 w1 r1 a1 g y a2 w2) : After N ω E h w r a k y a2 w2 := by
  obtain ⟨ω2, E2, r2, h2, p1, p2, p3, p4⟩ := hA
  exact ⟨ω2, E2, r2, h2, q1.trans (p1.le (q3.length hh hS1.h)), fun ω' hω => by
    rw [hk ω' (q2 ω' (p1.trans (hω.le (p3.length hS1.h p4.h))))]
    exact p2 ω' hω, q3.trans p3, p4⟩

theorem op_in {ρ : Option Nat} {K : Act → World → Prop} {Q : Exit → Act → World → Prop} {b : Prop} [Decidable b] (h : if b then o.wpIn (RF ρ) 0 P a w K Q else K (a.put o.dst undef) w) :
    if b then o.wpIn (RF ρ) 0 P a w K Q else (∀ f, o.about P w a.eval = some f → (RF ρ).fn f) ∧ K (a.put o.dst undef) w := by
  split
  · rename_i hb; rw [if_pos hb] at h; exact h
  · rename_i hb; rw [if_neg hb] at h; exact ⟨fun _ _ => trivial, h⟩

/-! ### a list of operations -/

def okOpers (P : Program) (GT : Nat → Option AV) (N : Nat) (ops : Array Oper) : List Nat → List AOper → Bool
  | [], [] => true
  | i :: l, x :: xs => (match ops[i]? with
    | some o => okOper P GT N ops o x
    | none => false) && okOpers P GT N ops l xs
  | _, _ => false

theorem execs_sound {ρ : Option Nat} (CO : CallsOk P GT F n) {ops : Array Oper} {Q : Exit → Act → World → Prop} : ∀ (l : List Nat) (xs : List AOper) {ω : Nat → Nat} {E : Env} {h : Hp} {w : World} {r : Regs} {a : Act}, GOk E GT → SRel N E h w r a → okOpers P GT N ops l xs = true →
    (∀ ω', Agree h.length ω ω' → (execs (kont F n tot ω') xs r h).isSome = true) → (∀ a' w', After N ω E h w r a (fun ω' => (execs (kont F n tot ω') xs r h).map fun y => ((), y)) () a' w' → Q .normal a' w') → wpOpsIn (RF ρ) 0 P ops Q l a w
  | [], [], ω, E, h, w, r, a, hG, hS, _, hw, hQ => hQ a w ⟨ω, E, r, h, .refl _ _, fun ω' _ => rfl, .refl _ _ _ _, hS⟩
  | [], x :: xs, ω, E, h, w, r, a, hG, hS, hk, hw, hQ => by simp [okOpers] at hk
  | i :: l, [], ω, E, h, w, r, a, hG, hS, hk, hw, hQ => by simp [okOpers] at hk
  | i :: l, x :: xs, ω, E, h, w, r, a, hG, hS, hk, hw, hQ => by
    simp only [okOpers,Bool.and_eq_true] at hk
    obtain ⟨k1, k2⟩ := hk
    split at k1
    · rename_i o ho
      simp only [wpOpsIn,ho]
      have hstep := exec1_sound (ρ := ρ) (ω := ω) (tot := tot) (K := wpOpsIn (RF ρ) 0 P ops Q l) (Q := Q) CO hG hS k1 (fun ω' hω => ?_) fun a' w' hA => ?_
      · split
        · rename_i hwt; rw [if_pos hwt] at hstep; exact hstep
        · rename_i hwt; rw [if_neg hwt] at hstep; exact ⟨fun _ _ => trivial, hstep⟩
      · have := hw ω' hω
        simp only [execs] at this
        split at this
        · rename_i e; rw [e]; rfl
        · cases this
      · obtain ⟨ω1, E1, r1, h1, q1, q2, q3, q4⟩ := hA
        have q2' : ∀ ω', Agree h1.length ω1 ω' → exec1 (kont F n tot ω') x r h = some (r1, h1) := fun ω' hω => by
          obtain ⟨y, e1, e2⟩ := map_some (q2 ω' hω)
          cases e2
          exact e1
        have hex : ∀ ω', exec1 (kont F n tot ω') x r h = some (r1, h1) → execs (kont F n tot ω') (x :: xs) r h = execs (kont F n tot ω') xs r1 h1 := fun ω' e => by
          simp only [execs,e]
        refine execs_sound (ρ := ρ) (ω := ω1) CO l xs (hG.mono q3.le) q4 k2 (fun ω' hω => ?_) fun a2 w2 hA2 => hQ a2 w2 ?_
        · rw [← hex ω' (q2' ω' hω)]
          exact hw ω' (q1.trans (hω.le (q3.length hS.h q4.h)))
        · refine After.bind (f := fun ω' => (exec1 (kont F n tot ω') x r h).map fun y => ((), y)) hS.h q1 (fun ω' hω => by simp only [q2' ω' hω]; rfl) q3 q4 (fun ω' e => ?_) hA2
          obtain ⟨y, e1, e2⟩ := map_some e
          cases e2
          rw [hex ω' e1]
    · cases k1

/-! ### code -/

theorem settle_spec {ks : List Nat} (hS : SRel N E h w r a) : SRel N E h w (settle ks r) a ∧ ∀ b, Vars (settle ks r) a.tmps b → Vars r a.tmps b := by
  have hg : ∀ t, get (settle ks r) t = if ((get r t).stays && ks.contains t) then get r t else .un := fun t => by
    unfold settle; rw [get_filter hS.s]
  have hv : ∀ t, isVar (settle ks r) t → isVar r t := fun t ⟨v, hv⟩ => by
    rw [hg] at hv
    split at hv
    · exact ⟨v, hv⟩
    · cases hv
  refine ⟨⟨⟨fun t => ?_, fun t ht => ?_, fun t u ht hu he => hS.f.apart t u (hv t ht) (hv u hu) he, fun t ht => hS.f.own t (hv t ht)⟩, hS.h, hS.s.filter _, hS.d, hS.n⟩, fun b ⟨t, ht, e⟩ => ⟨t, hv t ht, e⟩⟩
  · rw [hg]
    have hr := hS.f.reg t
    split
    · rename_i hst
      cases hx : get r t with
      | val v => rw [hx] at hr; exact hr
      | var v => rw [hx] at hr; exact hr
      | un => trivial
      | adr _ _ => rw [hx] at hst; simp [Reg.stays] at hst
      | slc _ _ _ _ => rw [hx] at hst; simp [Reg.stays] at hst
      | hslc _ _ _ _ _ _ => rw [hx] at hst; simp [Reg.stays] at hst
    · trivial
  · rw [hg] at ht
    split at ht
    · exact hS.f.sz t ht
    · exact absurd rfl ht

def exitOf : AE → Exit
  | .normal => .normal
  | .exit id => .exit id
  | .ret => .ret

section
variable (P : Program) (GT : Nat → Option AV) (N : Nat)
variable (okD : Array Oper → List (List Nat) → List AOper → Bool)

def okC (top : Bool) : AC → Code → Bool
  | .skip, .skip | .skip, .label _ | .ret, .ret => true
  | .exit i, .exit j => i == j
  | .seq a b, .seq x y => okC top a x && okC top b y
  | .cond c a b, .cond y x z => okX GT c y && okC top a x && okC top b z
  | .block i b, .block j x => i == j && okC top b x
  | .loop b, .loop x => okC top b x
  | .region ord ops _, .region _ os draw => if draw then okD os [ord] ops else okOpers P GT N os (List.range os.size) ops
  | .regionA ords ops _, .region _ os draw => draw && ords.length != 1 && okD os ords ops
  | .rangeF x ps hd bd, .rangeFunc g qs chd cbd => top && okX GT x g && ps == qs.toList && ps.all (fun p => decide (p < N)) && okC false hd chd && okC false bd cbd
  | _, _ => false
end

theorem valsOf_get (hs : Sorted r) (t : Nat) : get (valsOf r) t = (match get r t with
    | .val v => .val v
    | _ => .un) := by
  unfold valsOf
  rw [get_filter hs]
  cases get r t <;> rfl

theorem ArgsR.append {xs ys : List AV} {us vs : Array Value} (hx : ArgsR E xs us) (hy : ArgsR E ys vs) : ArgsR E (xs ++ ys) (us ++ vs) := by
  refine ⟨by simp [hx.1,hy.1], fun i x y h1 h2 => ?_⟩
  have hl := hx.1
  by_cases hi : i < xs.length
  · rw [List.getElem?_append_left hi] at h1
    rw [Array.getElem?_append_left (by omega)] at h2
    exact hx.2 i x y h1 h2
  · rw [List.getElem?_append_right (by omega)] at h1
    rw [Array.getElem?_append_right (by omega)] at h2
    refine hy.2 _ x y h1 ?_
    rw [hl]; exact h2

theorem endF_some {id : Nat} {y : AE × St} (he : endF r id h = some y) : ∃ r' ps hd bd st pd, h[id]? = some (.loop r' ps hd bd st pd) ∧ st ≠ 1 ∧ y = (pd.getD .normal, (r, h.set id .dead)) := by
  unfold endF at he
  split at he
  · rename_i e
    split at he
    · cases he
    · rename_i hst
      cases he
      exact ⟨_, _, _, _, _, _, e, hst, rfl⟩
  · cases he

theorem rangeF_sound {okD : Array Oper → List (List Nat) → List AOper → Bool} (hcd : ∀ c code, okC P GT N okD false c code = true → GT.cd N c code) (CO : CallsOk P GT F n) (m : Nat) {x : AX} {ps : List Nat} {hd bd : AC} {g : Operand} {qs : Array Tmp} {chd cbd : Code}
    (k1 : okX GT x g = true) (k2 : ps = qs.toList) (k3 : ∀ p ∈ ps, p < N) (k4 : okC P GT N okD false hd chd = true) (k5 : okC P GT N okD false bd cbd = true) {Q : Exit → Act → World → Prop} (hG : GOk E GT) (hS : SRel N E h w r a)
    (hw : ∀ ω', Agree h.length ω ω' → (exec (kont F n tot ω') m (.rangeF x ps hd bd) (r, h)).isSome = true) (hQ : ∀ ae a' w', After N ω E h w r a (fun ω' => exec (kont F n tot ω') m (.rangeF x ps hd bd) (r, h)) ae a' w' → Q (exitOf ae) a' w') :
    (Code.rangeFunc g qs chd cbd).wpIn (RF none) 0 P Q a w := by
  have h0 := hw ω (.refl _ _)
  cases hv : vl r x with
  | none => simp [exec,hv] at h0
  | some v =>
  obtain ⟨f, first, captured, rfl⟩ : ∃ f first captured, v = .fn (.func f) first captured := by
    simp only [exec,hv] at h0
    split at h0
    · rename_i e; cases e; exact ⟨_, _, _, rfl⟩
    · cases h0
  have hev := vl_spec hS.f (okX_rel (a := a) hG k1) hv
  obtain ⟨fs, cs, hy, a1, a2⟩ : ∃ fs cs, a.eval g = .func (.func f) fs cs ∧ ArgsR E first fs ∧ ArgsR E captured cs := by
    generalize a.eval g = u at hev
    cases hev with
    | fn _ _ _ fs cs l1 l2 r1 r2 => exact ⟨fs, cs, rfl, ⟨l1, r1⟩, ⟨l2, r2⟩⟩
  obtain ⟨fx, hfx⟩ : ∃ fx, F f = some (.inl fx) := by
    simp only [exec,hv] at h0
    split at h0
    · rename_i hc
      simp only [kont] at hc
      split at hc
      · rename_i fx hfx; exact ⟨fx, hfx⟩
      · cases hc
    · cases h0
  have hen := CO.en f fx hfx
  have hex : ∀ ω', exec (kont F n tot ω') m (.rangeF x ps hd bd) (r, h) = match call F n tot ω' f (first ++ .yld h.length :: captured) (h ++ [.loop (valsOf r) ps hd bd 0 none]) with
      | some (_, h2) => endF r h.length h2
      | none => none := fun ω' => by
    have hc : (kont F n tot ω').code f = true := by simp [kont,hfx]
    simp only [exec,hv,hc,if_true]
    rfl
  refine wpIn_rangeFunc ?_
  intro fid _
  obtain ⟨lr, hlr⟩ : ∃ lr : Loop, lr = { state := .ready, pending := none, fn := fid, tmps := a.tmps, params := qs, assign := chd, body := cbd, defers := w.heap.size } := ⟨_, rfl⟩
  obtain ⟨w1, hw1⟩ : ∃ w1, (w.alloc (.deferred (some []))).alloc (.loop lr) = w1 := ⟨_, rfl⟩
  have hsz : w1.heap.size = w.heap.size + 2 := by rw [← hw1]; simp
  have g1 : Grow w w1 := by rw [← hw1]; exact (Grow.alloc w _).trans (Grow.alloc _ _)
  have hL : w1.heap[w.heap.size + 1]? = some (.loop lr) := by
    rw [← hw1]; have := World.alloc_heap_new (w.alloc (.deferred (some []))) (.loop lr); rwa [World.size_alloc] at this
  have hD : w1.heap[w.heap.size]? = some (.deferred (some [])) := by
    rw [← hw1]; exact ((Grow.alloc (w.alloc (.deferred (some []))) (.loop lr)).heap _ (by simp)).trans (World.alloc_heap_new w _)
  have ho : ORel (E.add (w.heap.size + 1) 0) w1 (w.heap.size + 1) 0 (.loop (valsOf r) ps hd bd 0 none) := by
    refine ⟨lr, hL, ⟨by rw [hlr, k2], ⟨N, by rw [hlr]; exact hS.n, fun p hp => by rw [hlr]; exact Nat.lt_of_lt_of_le (k3 p hp) hS.n, ?_, ?_⟩, hS.s.filter _, fun t => ?_, by rw [hlr]; trivial, by rw [hlr]; trivial⟩, fun o => hS.h.sg_new (by omega) o⟩
    · show E.cd N hd lr.assign
      rw [hG.2, hlr]; exact hcd _ _ k4
    · show E.cd N bd lr.body
      rw [hG.2, hlr]; exact hcd _ _ k5
    · rw [valsOf_get hS.s]
      have hr := hS.f.reg t
      have hz := hS.f.sz t
      cases hx : get r t with
      | val v => rw [hx] at hr hz; rw [hlr]; exact ⟨hz (by simp), VRel.mono (E.add_le _ _) hr⟩
      | _ => trivial
  obtain ⟨n1, n2, n3⟩ := new_entry hS.f hS.h g1 (b := w.heap.size + 1) (cp := 0) (by omega) (by omega) ho
  have hob1 : (E.add (w.heap.size + 1) 0).ob h.length = w.heap.size + 1 := by simp only [Env.add]; rw [if_pos hS.h.n.symm]
  have hid : h.length < (E.add (w.heap.size + 1) 0).n := by simp only [Env.add,hS.h.n]; omega
  have hargs : ArgsR (E.add (w.heap.size + 1) 0) (first ++ .yld h.length :: captured) (fs ++ #[.func (.yield (w.heap.size + 1)) #[] #[]] ++ cs) := by
    have b1 : ArgsR (E.add (w.heap.size + 1) 0) first fs := ⟨a1.1, fun i x y h1 h2 => (a1.2 i x y h1 h2).mono n1.le⟩
    have b2 : ArgsR (E.add (w.heap.size + 1) 0) captured cs := ⟨a2.1, fun i x y h1 h2 => (a2.2 i x y h1 h2).mono n1.le⟩
    have b3 : ArgsR (E.add (w.heap.size + 1) 0) [.yld h.length] #[.func (.yield (w.heap.size + 1)) #[] #[]] := ⟨rfl, fun i x y h1 h2 => by
      cases i with
      | zero =>
        simp at h1 h2
        subst h1; subst h2
        have := VRel.yld (E := E.add (w.heap.size + 1) 0) h.length hid
        rwa [hob1] at this
      | succ i => simp at h1⟩
    have := (b1.append b3).append b2
    simpa using this
  have hcall := CO.fn tot ω f _ _ (E.add (w.heap.size + 1) 0) w1 _ n3 (hG.mono n1.le) hargs (fun ω' hω => by
    have := hw ω' (hω.le (by simp))
    rw [hex] at this
    split at this
    · rename_i e; rw [e]; rfl
    · cases this)
  have hc := (hcall.resolve_right fun ⟨u, w', hval, _⟩ => by rw [hen] at hval; cases hval).2
  refine ⟨w.heap.size + 1, [mk w.heap.size], w1, { target := .fn (.func f) cs, args := fs ++ #[.func (.yield (w.heap.size + 1)) #[] #[]] }, w1, f, fs ++ #[.func (.yield (w.heap.size + 1)) #[] #[]] ++ cs, w1, ?_, ?_, fun _ _ => trivial, ?_, fun h => (by cases h), ?_⟩
  · rw [← hw1, hlr]; exact run_enterLoop_outer _ _ _ _ _
  · simp [resolve,hy,Deferred.ofValue]
    rfl
  · simp only [invoke]; exact hen _ _
  refine callsIn_wide.2 (hc.mono ?_)
  rintro e w3 ⟨u, rfl, hcr⟩
  obtain ⟨ω1, v, h', E', q1, q2, q3, q4, q5⟩ := hcr
  have q2 : ∀ ω', Agree h'.length ω1 ω' → call F n tot ω' f (first ++ .yld h.length :: captured) (h ++ [.loop (valsOf r) ps hd bd 0 none]) = some (v, h') := q2
  have qa : Agree h.length ω ω1 := q1.le (by simp)
  have hfin : ∀ ω', Agree h'.length ω1 ω' → exec (kont F n tot ω') m (.rangeF x ps hd bd) (r, h) = endF r h.length h' := fun ω' hω => by rw [hex, q2 ω' hω]
  obtain ⟨y, hy1⟩ := Option.isSome_iff_exists.1 (hw ω1 qa)
  rw [hfin ω1 (.refl _ _)] at hy1
  obtain ⟨r', ps', hd', bd', st, pd, hl', hst, rfl⟩ := endF_some hy1
  have hob : E'.ob h.length = w.heap.size + 1 := (q4.le.ob _ hid).trans hob1
  obtain ⟨lr', hl3, hLR, hsg⟩ := q5.obj _ _ hl'
  rw [hob] at hl3 hsg
  have hbusy : lr'.state ≠ .busy := fun e => by
    have := hLR.state
    rw [e] at this
    unfold StR at this
    split at this <;> first | contradiction | exact this
  have hown : Owned E' h' (w.heap.size + 1) := ⟨h.length, ⟨_, hl', by simp⟩, hob⟩
  have hA : After N ω E h w r a (fun ω' => exec (kont F n tot ω') m (.rangeF x ps hd bd) (r, h)) (pd.getD .normal) { a with defers := [mk w.heap.size] ++ a.defers } (w3.putObj (w.heap.size + 1) (.loop { lr' with state := .exhausted })) := by
    refine ⟨ω1, E', r, h'.set h.length .dead, qa, fun ω' hω => (hfin ω' (by simpa using hω)).trans hy1, ?_, ?_⟩
    · have K1 : Keep E h (FV r a) w (E.add (w.heap.size + 1) 0) (h ++ [.loop (valsOf r) ps hd bd 0 none]) (FV r { a with defers := [mk w.heap.size] ++ a.defers }) w1 :=
        ⟨n1.le, n1.size, n1.os, n1.out, fun b hb ho hx => n1.heap b hb ho fun h => hx (.inl h), n1.owned, fun b hx => by
          rcases hx with hx | hx
          · exact (n1.vars b hx).imp .inl id
          · rcases List.mem_append.1 hx with hx | hx
            · have := mk_inj (List.mem_singleton.1 hx); exact .inr (by omega)
            · exact .inl (.inr hx), n1.sg⟩
      have K3 : Keep E' h' (FV r { a with defers := [mk w.heap.size] ++ a.defers }) w3 E' (h'.set h.length .dead) (FV r { a with defers := [mk w.heap.size] ++ a.defers }) (w3.putObj (w.heap.size + 1) (.loop { lr' with state := .exhausted })) :=
        ⟨.refl _, by simp, rfl, rfl, fun b hb ho hx => World.putObj_heap_other fun e => ho (e ▸ hown), fun b ho => .inl (Owned.dead ho), fun _ h => .inl h, fun _ _ h => .inl h⟩
      exact (K1.trans (q4.widen _)).trans K3
    · have f3 : FRel E' h' w3 r a.tmps := n2.call q4
      refine ⟨f3.other (owned_no_var f3 hown) (fun b' hb => World.putObj_heap_other hb) fun b' ho => Owned.dead ho, (q5.dead h.length).other ?_ hsg (by simp) (fun b' hb => World.putObj_heap_other hb), hS.s, ?_, hS.n⟩
      · rintro ⟨j, ⟨o, ho1, ho2⟩, hj⟩
        have hjl : j = h.length := by
          by_cases e : h.length = j
          · exact e.symm
          · rw [List.getElem?_set, if_neg e] at ho1
            exact q5.inj j h.length ⟨o, ho1, ho2⟩ ⟨_, hl', by simp⟩ (hj.trans hob.symm)
        subst hjl
        rw [List.getElem?_set] at ho1
        simp only [if_true] at ho1
        split at ho1
        · cases ho1; exact ho2 rfl
        · cases ho1
      · obtain ⟨Ds, e1, e2, e3⟩ := hS.d
        have m1 : Marks w1 ([mk w.heap.size] ++ a.defers) := by
          refine ⟨w.heap.size :: Ds, by rw [e1]; rfl, List.nodup_cons.2 ⟨fun hx => ?_, e2⟩, fun D hD' => ?_⟩
          · have := (Array.getElem?_eq_some_iff.1 (e3 _ hx)).1; omega
          · rcases List.mem_cons.1 hD' with rfl | hD'
            · exact hD
            · rw [g1.heap D (Array.getElem?_eq_some_iff.1 (e3 D hD')).1]; exact e3 D hD'
        obtain ⟨Ds', e4, e5, e6⟩ := m1.keep n3 q4 fun D _ h => h
        refine ⟨Ds', e4, e5, fun D hD' => ?_⟩
        rw [World.putObj_heap_other]
        · exact e6 D hD'
        · rintro rfl
          rw [e6 _ hD'] at hl3
          cases hl3
  have hend := run_endLoop (P := P) hl3 hbusy
  have hq := hQ _ _ _ hA
  have hp := hLR.pend
  generalize (w3.putObj (w.heap.size + 1) (.loop { lr' with state := .exhausted })) = w4 at hend hq
  refine ⟨lr'.pending, w4, hend, ?_⟩
  cases pd with
  | none =>
    cases hpe : lr'.pending with
    | none => exact hq
    | some c => rw [hpe] at hp; exact hp.elim
  | some ae =>
    cases hpe : lr'.pending with
    | none => rw [hpe] at hp; cases ae <;> exact hp.elim
    | some c =>
      rw [hpe] at hp
      cases ae with
      | normal => exact hp.elim
      | ret => cases c <;> first | exact hp.elim | exact wpIn_ret hq
      | exit i => cases c <;> first | exact hp.elim | (obtain rfl : i = _ := hp; exact wpIn_exit hq)

def DrawsOk (P : Program) (GT : GTab) (F : Fns) (n : Nat) (tot : Bool) (N : Nat) (okD : Array Oper → List (List Nat) → List AOper → Bool) : Prop :=
  (∀ (id : Nat) (ops : Array Oper) (ord : List Nat) (xs : List AOper), okD ops [ord] xs = true → ∀ {ρ : Option Nat} {ω : Nat → Nat} {E : Env} {h : Hp} {w : World} {r : Regs} {a : Act} {Q : Exit → Act → World → Prop}, GOk E GT → SRel N E h w r a →
    (∀ ω', Agree h.length ω ω' → (execs (kont F n tot ω') xs r h).isSome = true) → (∀ a' w', After N ω E h w r a (fun ω' => (execs (kont F n tot ω') xs r h).map fun y => ((), y)) () a' w' → Q .normal a' w') → (Code.region id ops true).wpIn (RF ρ) 0 P Q a w) ∧
  ∀ (id : Nat) (ops : Array Oper) (ords : List (List Nat)) (xs : List AOper), ords.length ≠ 1 → okD ops ords xs = true → ∀ {ρ : Option Nat} {ω : Nat → Nat} {E : Env} {h : Hp} {w : World} {r : Regs} {a : Act} {Q : Exit → Act → World → Prop}, GOk E GT → SRel N E h w r a →
    (∀ ω', Agree h.length ω ω' → (execA (kont F n tot ω') xs ords r h).isSome = true) → (∀ a' w', After N ω E h w r a (fun ω' => (execA (kont F n tot ω') xs ords r h).map fun y => ((), y)) () a' w' → Q .normal a' w') → (Code.region id ops true).wpIn (RF ρ) 0 P Q a w

theorem exec_sound {ρ : Option Nat} {top : Bool} {okD : Array Oper → List (List Nat) → List AOper → Bool} (htop : top = true → ρ = none) (hcd : ∀ c code, okC P GT N okD false c code = true → GT.cd N c code) (CO : CallsOk P GT F n) (DO : DrawsOk P GT F n tot N okD) (m : Nat) : ∀ (c : AC) (code : Code), okC P GT N okD top c code = true → ∀ {ω : Nat → Nat} {E : Env} {h : Hp} {w : World} {r : Regs} {a : Act} {Q : Exit → Act → World → Prop}, GOk E GT → SRel N E h w r a →
    (∀ ω', Agree h.length ω ω' → (exec (kont F n tot ω') m c (r, h)).isSome = true) → (∀ ae a' w', After N ω E h w r a (fun ω' => exec (kont F n tot ω') m c (r, h)) ae a' w' → Q (exitOf ae) a' w') → code.wpIn (RF ρ) 0 P Q a w := by
  intro c
  induction c with
  | skip =>
    intro code hk ω E h w r a Q hG hS hw hQ
    have hn : Q .normal a w := hQ .normal a w ⟨ω, E, r, h, .refl _ _, fun ω' _ => rfl, .refl _ _ _ _, hS⟩
    cases code <;> simp [okC] at hk
    · exact wpIn_skip hn
    · exact wpIn_label hn
  | ret =>
    intro code hk ω E h w r a Q hG hS hw hQ
    have hn : Q .ret a w := hQ .ret a w ⟨ω, E, r, h, .refl _ _, fun ω' _ => rfl, .refl _ _ _ _, hS⟩
    cases code <;> simp [okC] at hk
    exact wpIn_ret hn
  | exit i =>
    intro code hk ω E h w r a Q hG hS hw hQ
    have hn : Q (.exit i) a w := hQ (.exit i) a w ⟨ω, E, r, h, .refl _ _, fun ω' _ => rfl, .refl _ _ _ _, hS⟩
    cases code <;> simp [okC] at hk
    subst hk
    exact wpIn_exit hn
  | seq c1 c2 ih1 ih2 =>
    intro code hk ω E h w r a Q hG hS hw hQ
    cases code <;> simp [okC] at hk
    refine wpIn_seq (ih1 _ hk.1 (ω := ω) hG hS (fun ω' hω => ?_) fun ae a1 w1 hA => ?_)
    · have := hw ω' hω
      simp only [exec] at this
      split at this
      · rename_i s' e; rw [e]; rfl
      · exact this
    · obtain ⟨ω1, E1, r1, h1, q1, q2, q3, q4⟩ := hA
      cases ae with
      | normal =>
        have hex : ∀ ω', exec (kont F n tot ω') m c1 (r, h) = some (.normal, r1, h1) → exec (kont F n tot ω') m (.seq c1 c2) (r, h) = exec (kont F n tot ω') m c2 (r1, h1) := fun ω' e => by
          simp only [exec,e]
        refine ih2 _ hk.2 (ω := ω1) (hG.mono q3.le) q4 (fun ω' hω => ?_) fun ae a2 w2 hA2 => hQ ae a2 w2 (After.bind hS.h q1 q2 q3 q4 hex hA2)
        rw [← hex ω' (q2 ω' hω)]
        exact hw ω' (q1.trans (hω.le (q3.length hS.h q4.h)))
      | exit i => exact hQ (.exit i) a1 w1 ⟨ω1, E1, r1, h1, q1, fun ω' hω => by simp only [exec,q2 ω' hω], q3, q4⟩
      | ret => exact hQ .ret a1 w1 ⟨ω1, E1, r1, h1, q1, fun ω' hω => by simp only [exec,q2 ω' hω], q3, q4⟩
  | cond x c1 c2 ih1 ih2 =>
    intro code hk ω E h w r a Q hG hS hw hQ
    cases code <;> simp [okC] at hk
    obtain ⟨⟨k1, k2⟩, k3⟩ := hk
    have h0 := hw ω (.refl _ _)
    simp only [exec] at h0
    split at h0
    · rename_i hv
      have hev := bool_inv (vl_spec hS.f (okX_rel (a := a) hG k1) hv)
      have hex : ∀ ω', exec (kont F n tot ω') m (.cond x c1 c2) (r, h) = exec (kont F n tot ω') m c1 (r, h) := fun ω' => by simp only [exec,hv]
      refine wpIn_cond_true hev (ih1 _ k2 (ω := ω) hG hS (fun ω' hω => by rw [← hex]; exact hw ω' hω) fun ae a1 w1 hA => hQ ae a1 w1 ?_)
      simpa only [hex] using hA
    · rename_i hv
      have hev := bool_inv (vl_spec hS.f (okX_rel (a := a) hG k1) hv)
      have hex : ∀ ω', exec (kont F n tot ω') m (.cond x c1 c2) (r, h) = exec (kont F n tot ω') m c2 (r, h) := fun ω' => by simp only [exec,hv]
      refine wpIn_cond_false hev (ih2 _ k3 (ω := ω) hG hS (fun ω' hω => by rw [← hex]; exact hw ω' hω) fun ae a1 w1 hA => hQ ae a1 w1 ?_)
      simpa only [hex] using hA
    · cases h0
  | block i c1 ih =>
    intro code hk ω E h w r a Q hG hS hw hQ
    cases code <;> simp [okC] at hk
    obtain ⟨rfl, k2⟩ := hk
    refine wpIn_block (ih _ k2 (ω := ω) hG hS (fun ω' hω => ?_) fun ae a1 w1 hA => ?_)
    · have := hw ω' hω
      simp only [exec] at this
      split at this
      · rename_i e; rw [e]; rfl
      · exact this
    · obtain ⟨ω1, E1, r1, h1, q1, q2, q3, q4⟩ := hA
      cases ae with
      | normal => exact hQ .normal a1 w1 ⟨ω1, E1, r1, h1, q1, fun ω' hω => by simp only [exec,q2 ω' hω], q3, q4⟩
      | ret => exact hQ .ret a1 w1 ⟨ω1, E1, r1, h1, q1, fun ω' hω => by simp only [exec,q2 ω' hω], q3, q4⟩
      | exit j =>
        simp only [exitOf,Exit.inBlock]
        split
        · rename_i hj
          exact hQ .normal a1 w1 ⟨ω1, E1, r1, h1, q1, fun ω' hω => by simp only [exec,q2 ω' hω,if_pos hj], q3, q4⟩
        · rename_i hj
          exact hQ (.exit j) a1 w1 ⟨ω1, E1, r1, h1, q1, fun ω' hω => by simp only [exec,q2 ω' hω,if_neg hj], q3, q4⟩
  | loop c1 ih =>
    intro code hk ω E h w r a Q hG hS hw hQ
    cases code <;> simp [okC] at hk
    rename_i x
    refine wpIn_loop_rounds m ?_
    simp only [exec] at hw hQ
    have key : ∀ (k : Nat) {ω : Nat → Nat} {E : Env} {h : Hp} {w : World} {r : Regs} {a : Act}, GOk E GT → SRel N E h w r a → (∀ ω', Agree h.length ω ω' → (iter (exec (kont F n tot ω') m c1) k (r, h)).isSome = true) →
        (∀ ae a' w', After N ω E h w r a (fun ω' => iter (exec (kont F n tot ω') m c1) k (r, h)) ae a' w' → Q (exitOf ae) a' w') → Code.roundsIn (RF ρ) 0 P x Q k a w := by
      intro k
      induction k with
      | zero => intro ω E h w r a hG hS hw hQ; have := hw ω (.refl _ _); simp [iter] at this
      | succ k ihk =>
        intro ω E h w r a hG hS hw hQ
        rw [roundsIn_succ]
        refine ih _ hk (ω := ω) hG hS (fun ω' hω => ?_) fun ae a1 w1 hA => ?_
        · have := hw ω' hω
          simp only [iter] at this
          split at this
          · rename_i s' e; rw [e]; rfl
          · exact this
        · obtain ⟨ω1, E1, r1, h1, q1, q2, q3, q4⟩ := hA
          cases ae with
          | normal =>
            have hex : ∀ ω', exec (kont F n tot ω') m c1 (r, h) = some (.normal, r1, h1) → iter (exec (kont F n tot ω') m c1) (k + 1) (r, h) = iter (exec (kont F n tot ω') m c1) k (r1, h1) := fun ω' e => by
              simp only [iter,e]
            refine ihk (ω := ω1) (hG.mono q3.le) q4 (fun ω' hω => ?_) fun ae a2 w2 hA2 => hQ ae a2 w2 (After.bind hS.h q1 q2 q3 q4 hex hA2)
            rw [← hex ω' (q2 ω' hω)]
            exact hw ω' (q1.trans (hω.le (q3.length hS.h q4.h)))
          | exit i => exact hQ (.exit i) a1 w1 ⟨ω1, E1, r1, h1, q1, fun ω' hω => by simp only [iter,q2 ω' hω], q3, q4⟩
          | ret => exact hQ .ret a1 w1 ⟨ω1, E1, r1, h1, q1, fun ω' hω => by simp only [iter,q2 ω' hω], q3, q4⟩
    exact key m hG hS hw hQ
  | region ord xs ks =>
    intro code hk ω E h w r a Q hG hS hw hQ
    cases code <;> simp only [okC,Bool.false_eq_true] at hk
    rename_i id os draw
    have hw' : ∀ ω', Agree h.length ω ω' → (execs (kont F n tot ω') xs r h).isSome = true := fun ω' hω => by
      have := hw ω' hω
      simp only [exec] at this
      split at this
      · rename_i e; rw [e]; rfl
      · cases this
    have hQ' : ∀ a' w', After N ω E h w r a (fun ω' => (execs (kont F n tot ω') xs r h).map fun y => ((), y)) () a' w' → Q .normal a' w' := fun a1 w1 hA => by
      obtain ⟨ω1, E1, r1, h1, q1, q2, q3, q4⟩ := hA
      obtain ⟨s1, s2⟩ := settle_spec (ks := ks) q4
      refine hQ .normal a1 w1 ⟨ω1, E1, settle ks r1, h1, q1, fun ω' hω => ?_, q3.vars_of fun b hb => .inl (hb.imp (s2 b) fun h => h), s1⟩
      obtain ⟨y, e1, e2⟩ := map_some (q2 ω' hω)
      cases e2
      simp only [exec,e1]
    cases draw with
    | true => exact DO.1 id os ord xs (by simpa using hk) hG hS hw' hQ'
    | false => exact wpIn_region (execs_sound (ω := ω) (tot := tot) CO _ xs hG hS (by simpa using hk) hw' hQ')
  | regionA ords xs ks =>
    intro code hk ω E h w r a Q hG hS hw hQ
    cases code <;> simp only [okC,Bool.false_eq_true] at hk
    rename_i id os draw
    simp only [Bool.and_eq_true,bne_iff_ne] at hk
    obtain ⟨⟨rfl, k1⟩, k2⟩ := hk
    refine DO.2 id os ords xs k1 k2 (ω := ω) hG hS (fun ω' hω => ?_) fun a1 w1 hA => ?_
    · have := hw ω' hω
      simp only [exec] at this
      split at this
      · rename_i e; rw [e]; rfl
      · cases this
    · obtain ⟨ω1, E1, r1, h1, q1, q2, q3, q4⟩ := hA
      obtain ⟨s1, s2⟩ := settle_spec (ks := ks) q4
      refine hQ .normal a1 w1 ⟨ω1, E1, settle ks r1, h1, q1, fun ω' hω => ?_, q3.vars_of fun b hb => .inl (hb.imp (s2 b) fun h => h), s1⟩
      obtain ⟨y, e1, e2⟩ := map_some (q2 ω' hω)
      cases e2
      simp only [exec,e1]
  | rangeF x ps hd bd ih1 ih2 =>
    intro code hk ω E h w r a Q hG hS hw hQ
    cases code <;> simp only [okC,Bool.false_eq_true] at hk
    rename_i g qs chd cbd
    simp only [Bool.and_eq_true,beq_iff_eq,List.all_eq_true,decide_eq_true_eq] at hk
    obtain ⟨⟨⟨⟨⟨k0, k1⟩, k2⟩, k3⟩, k4⟩, k5⟩ := hk
    obtain rfl := htop k0
    exact rangeF_sound hcd CO m k1 k2 k3 k4 k5 hG hS hw hQ
end
end Go.Im

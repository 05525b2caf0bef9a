/- ImFun: functions: a call in the idealised machine does what the model's call does. -/
import Derived.Test.YtlognommhffmcaaImExec
set_option linter.unusedVariables false
set_option linter.unusedSimpArgs false
namespace Go.Im
section
variable {P : Program} {E : Env} {h : Hp} {w : World} {r : Regs} {a : Act} {GT : Nat → Option AV} {F : Fns} {n : Nat} {tot : Bool} {ω : Nat → Nat} {N : Nat}

section
variable (P GT)

def okRes : List ARes → List ResultVar → Bool
  | [], [] => true
  | .t k :: xs, .tmp j :: ys => k == j && okRes xs ys
  | .cell t agg size :: xs, .cell j ty :: ys => t == j && okTy P ty agg size && okRes xs ys
  | _, _ => false

def okF (okD : Nat → Array Oper → List (List Nat) → List AOper → Bool) (f : FuncId) (x : AF) : Bool := match P.funcs[f]? with
  | some fn => (match fn.body with
    | some c => okC P GT fn.ntmps (okD fn.ntmps) x.body c
    | none => false) && okRes P x.results fn.results.toList && !(fn.name == "runtime.NumGoroutine")
  | none => false
end

def runRes (tm : Array Value) : ResultVar → Sem Value
  | .tmp t => pure (tm.getD t undef)
  | .cell a t => do loadVar t (← asAddr (tm.getD a undef))

theorem resVs_spec (hf : FRel E h w r a.tmps) (hh : HRel E h w) : ∀ {xs : List ARes} {ys : List ResultVar}, okRes P xs ys = true → ∀ {vs : List AV}, resVs r h xs = some vs →
    ∃ us : List Value, us.length = vs.length ∧ (∀ (i : Nat) v u, vs[i]? = some v → us[i]? = some u → VRel E v u) ∧ (ys.mapM (runRes a.tmps) : Sem (List Value)).run P w = .ok us w
  | [], [], _, vs, hv => by simp [resVs] at hv; subst hv; exact ⟨[], rfl, fun i v u hi => by simp at hi, by simp⟩
  | [], y :: ys, hk, vs, hv => by simp [okRes] at hk
  | x :: xs, [], hk, vs, hv => by cases x <;> simp [okRes] at hk
  | x :: xs, y :: ys, hk, vs, hv => by
    simp only [resVs] at hv
    split at hv
    · rename_i v vs' h1 h2
      cases hv
      have main : okRes P xs ys = true ∧ ∃ u, (runRes a.tmps y).run P w = .ok u w ∧ VRel E v u := by
        cases x with
        | t k =>
          cases y with
          | tmp j =>
            simp only [okRes,Bool.and_eq_true,beq_iff_eq] at hk
            obtain ⟨rfl, hk⟩ := hk
            exact ⟨hk, _, rfl, vl_spec hf (x := .t k) (y := .tmp k) rfl h1⟩
          | cell => simp [okRes] at hk
        | cell t agg size =>
          cases y with
          | tmp j => simp [okRes] at hk
          | cell j ty =>
            simp only [okRes,Bool.and_eq_true,beq_iff_eq] at hk
            obtain ⟨⟨rfl, k1⟩, hk⟩ := hk
            refine ⟨hk, ?_⟩
            simp only [resV] at h1
            split at h1
            · rename_i p hp
              obtain ⟨b, off, e1, e2⟩ := plc_spec hf (x := .t t) (y := .tmp t) rfl hp
              obtain ⟨e3, e4⟩ := rd_spec hf hh e2 h1
              obtain ⟨u, e5, e6⟩ := run_loadVar (okTy_ty k1) e3 e4
              rw [eval_tmp] at e1
              exact ⟨u, by simp [runRes,e1,asAddr,e5], e6⟩
            · cases h1
      obtain ⟨hk', u, m1, m2⟩ := main
      obtain ⟨us, q1, q2, q3⟩ := resVs_spec hf hh hk' h2
      refine ⟨u :: us, by simp [q1], fun i v' u' hi hu => ?_, ?_⟩
      · cases i with
        | zero => simp at hi hu; subst hi; subst hu; exact m2
        | succ i => exact q2 i v' u' (by simpa using hi) (by simpa using hu)
      · simp only [List.mapM_cons,Sem.run_bind,m1,Result.andThen_ok,q3,Sem.run_pure]
    · cases hv

theorem result_spec (hf : FRel E h w r a.tmps) (hh : HRel E h w) {xs : List ARes} {fn : Func} (hk : okRes P xs fn.results.toList = true) {v : AV} (hv : result r h xs = some v) : ∃ u, (results fn a.tmps).run P w = .ok u w ∧ VRel E v u := by
  unfold result at hv
  cases hr : resVs r h xs with
  | none => rw [hr] at hv; cases hv
  | some vs =>
    rw [hr] at hv
    obtain ⟨us, q1, q2, q3⟩ := resVs_spec hf hh hk hr
    have hm : (fn.results.mapM (runRes a.tmps) : Sem (Array Value)).run P w = .ok us.toArray w := by
      rw [Array.mapM_eq_mapM_toList]
      simp [q3]
    have hres : (results fn a.tmps).run P w = .ok (if h : us.toArray.size = 1 then us.toArray[0] else .tuple us.toArray) w := by
      have hfe : results fn a.tmps = (do let vs ← fn.results.mapM (runRes a.tmps); pure (if h : vs.size = 1 then vs[0] else .tuple vs)) := by
        unfold results
        congr 2
      rw [hfe]
      simp only [Sem.run_bind,hm,Result.andThen_ok,Sem.run_pure]
    refine ⟨_, hres, ?_⟩
    match vs, us, q1, q2, hv with
    | [v'], [u], _, q2, hv =>
      cases hv
      exact q2 0 _ _ rfl rfl
    | [], [], _, q2, hv =>
      cases hv
      exact .tup _ _ rfl fun i x y hi => by simp at hi
    | v1 :: v2 :: vs, u1 :: u2 :: us, q1, q2, hv =>
      cases hv
      rw [dif_neg (by simp)]
      exact .tup _ _ (by simpa using q1.symm) fun i x y hx hy => q2 i x y hx (by simpa using hy)

/-! ### the frame of a call -/

theorem get_init : ∀ (k : Nat) (args : List AV) (t : Nat), get (initRegs k args) t = if k ≤ t then (match args[t - k]? with
    | some v => .val v
    | none => .un) else .un
  | k, [], t => by simp [initRegs,get]
  | k, v :: vs, t => by
    simp only [initRegs,get]
    split
    · rename_i e; subst e; simp
    · rename_i hne
      rw [get_init (k + 1) vs t]
      by_cases h : k ≤ t
      · have h' : k + 1 ≤ t := by omega
        rw [if_pos h, if_pos h', show t - k = (t - (k + 1)) + 1 by omega]
        simp
      · rw [if_neg h, if_neg (by omega)]

theorem init_sorted : ∀ (k : Nat) (args : List AV), Sorted (initRegs k args) ∧ ∀ p ∈ initRegs k args, k ≤ p.1
  | k, [] => ⟨by simp [initRegs,Sorted], fun p hp => by simp [initRegs] at hp⟩
  | k, v :: vs => by
    obtain ⟨h1, h2⟩ := init_sorted (k + 1) vs
    refine ⟨List.pairwise_cons.2 ⟨fun p hp => ?_, h1⟩, fun p hp => ?_⟩
    · have := h2 p hp
      show k < p.1
      omega
    · simp only [initRegs,List.mem_cons] at hp
      rcases hp with rfl | hp
      · exact Nat.le_refl _
      · have := h2 p hp; omega

theorem init_frel {args : List AV} {vs : Array Value} {m : Nat} (ha : ArgsR E args vs) : FRel E h w (initRegs 0 args) (vs ++ Array.replicate m undef) ∧ ∀ t, ¬ isVar (initRegs 0 args) t := by
  have hv : ∀ t, ¬ isVar (initRegs 0 args) t := fun t ⟨v, hv⟩ => by
    rw [get_init] at hv
    simp only [Nat.zero_le,if_true] at hv
    split at hv <;> cases hv
  refine ⟨⟨fun t => ?_, fun t ht => ?_, fun t u ht => absurd ht (hv t), fun t ht => absurd ht (hv t)⟩, hv⟩
  · rw [get_init]
    simp only [Nat.zero_le,if_true,Nat.sub_zero]
    cases hx : args[t]? with
    | none => trivial
    | some v =>
      have hlt : t < vs.size := by have := (List.getElem?_eq_some_iff.1 hx).1; rw [ha.1] at this; exact this
      have := ha.2 t v vs[t] hx (Array.getElem?_eq_getElem hlt)
      show VRel E v ((vs ++ Array.replicate m undef).getD t undef)
      have hg : (vs ++ Array.replicate m undef).getD t undef = vs[t] := by
        simp [Array.getD,Array.getElem_append,hlt]
        intro h; omega
      rw [hg]; exact this
  · rw [get_init] at ht
    simp only [Nat.zero_le,if_true,Nat.sub_zero] at ht
    cases hx : args[t]? with
    | none => rw [hx] at ht; exact absurd rfl ht
    | some v =>
      have := (List.getElem?_eq_some_iff.1 hx).1
      rw [ha.1] at this
      simp; omega

def ExtOk (P : Program) (GT : Nat → Option AV) (F : Fns) (f : FuncId) (g : Kont → List AV → Hp → Option (AV × Hp)) : Prop :=
  ∀ (n : Nat), CallsOk P GT F n → ∀ (tot : Bool) (ω : Nat → Nat) (args : List AV) (h : Hp) (E : Env) (w : World) (vs : Array Value), HRel E h w → GOk E GT → ArgsR E args vs → (∀ ω', Agree h.length ω ω' → (g (kont F n tot ω') args h).isSome = true) →
    Does P f vs w fun u w' => ∃ ω1 v h' E', Agree h.length ω ω1 ∧ (∀ ω', Agree h'.length ω1 ω' → g (kont F n tot ω') args h = some (v, h')) ∧ VRel E' v u ∧ Keep E h (fun _ => False) w E' h' (fun _ => False) w' ∧ HRel E' h' w'

structure TableOk (P : Program) (GT : Nat → Option AV) (F : Fns) (okD : Nat → Array Oper → List (List Nat) → List AOper → Bool) : Prop where
  code : ∀ f x, F f = some (.inl x) → okF P GT okD f x = true
  ext : ∀ f g, F f = some (.inr g) → ExtOk P GT F f g
  draws : ∀ n tot N, CallsOk P GT F n → DrawsOk P GT F n tot N (okD N)

theorem run_callFunc {f : FuncId} {fn : Func} {vs : Array Value} (hf : P.funcs[f]? = some fn) (hb : fn.body.isSome = true) (hn : (fn.name == "runtime.NumGoroutine") = false) : (callFunc f vs).run P w = .ok (.enter f vs) w := by
  obtain ⟨c, hc⟩ := Option.isSome_iff_exists.1 hb
  simp only [callFunc,Sem.run_bind,run_program,Result.andThen_ok,hf,hn,hc]
  simp

theorem callsOk {okD : Nat → Array Oper → List (List Nat) → List AOper → Bool} (TO : TableOk P GT F okD) : ∀ n, CallsOk P GT F n
  | 0 => by
    intro tot ω f args h E w vs hh hG ha hw
    have := hw ω (.refl _ _)
    simp [call] at this
  | n + 1 => by
    have CO := callsOk TO n
    intro tot ω f args h E w vs hh hG ha hw
    cases hF : F f with
    | none => have := hw ω (.refl _ _); simp [call,hF] at this
    | some x =>
      cases x with
      | inr g =>
        have he : ∀ ω', call F (n + 1) tot ω' f args h = g (kont F n tot ω') args h := fun ω' => by simp only [call,hF]; rfl
        have := TO.ext f g hF n CO tot ω args h E w vs hh hG ha (fun ω' hω => by rw [← he]; exact hw ω' hω)
        refine this.mono fun u w' hq => ?_
        obtain ⟨ω1, v, h', E', q1, q2, q3, q4, q5⟩ := hq
        exact ⟨ω1, v, h', E', q1, fun ω' hω => by rw [he]; exact q2 ω' hω, q3, q4, q5⟩
      | inl x =>
        have hok := TO.code f x hF
        unfold okF at hok
        split at hok
        · rename_i fn hfn
          simp only [Bool.and_eq_true] at hok
          obtain ⟨⟨k1, k2⟩, k3⟩ := hok
          split at k1
          · rename_i c hc
            have hname : (fn.name == "runtime.NumGoroutine") = false := by simpa using k3
            refine .inl ⟨run_callFunc hfn (by rw [hc]; rfl) hname, ?_⟩
            obtain ⟨i1, i2⟩ := init_frel (h := h) (w := w) (m := fn.ntmps - vs.size) ha
            have hS : SRel fn.ntmps E h w (initRegs 0 args) { tmps := vs ++ Array.replicate (fn.ntmps - vs.size) undef, defers := [] } :=
              ⟨i1, hh, (init_sorted 0 args).1, rfl, by simp; omega⟩
            have he : ∀ ω', call F (n + 1) tot ω' f args h = match exec (kont F n tot ω') n x.body (initRegs 0 args, h) with
                | some (.normal, (r, h')) => (result r h' x.results).map fun v => (v, h')
                | some (.ret, (r, h')) => (result r h' x.results).map fun v => (v, h')
                | _ => none := fun ω' => by simp only [call,hF]; rfl
            refine calls_of_wp hfn hc (exec_sound (ω := ω) (tot := tot) CO (TO.draws n tot _ CO) n x.body c k1 hG hS (fun ω' hω => ?_) fun ae a' w' hA => ?_)
            · have := hw ω' hω
              rw [he] at this
              split at this
              · rename_i e; rw [e]; rfl
              · rename_i e; rw [e]; rfl
              · cases this
            · obtain ⟨ω1, E1, r1, h1, q1, q2, q3, q4⟩ := hA
              have q2 : ∀ ω', Agree h1.length ω1 ω' → exec (kont F n tot ω') n x.body (initRegs 0 args, h) = some (ae, r1, h1) := q2
              have hq := hw ω1 q1
              rw [he, q2 ω1 (.refl _ _)] at hq
              have hkeep : Keep E h (fun _ => False) w E1 h1 (fun _ => False) w' :=
                ⟨q3.le, q3.size, q3.os, q3.out, fun b hb ho _ => q3.heap b hb ho fun ⟨t, ht, _⟩ => i2 t ht, q3.owned, fun _ h => h.elim, q3.sg⟩
              have fin : ∀ v, result r1 h1 x.results = some v → (∀ ω', Agree h1.length ω1 ω' → call F (n + 1) tot ω' f args h = some (v, h1)) → a'.defers = [] ∧ ∃ u, (results fn a'.tmps).run P w' = .ok u w' ∧ ∃ u', Ending.returned u = .returned u' ∧ CallRes F (n + 1) tot ω f args h E w u' w' := fun v hv hall => by
                obtain ⟨u, m1, m2⟩ := result_spec (P := P) q4.f q4.h k2 hv
                exact ⟨q4.d, u, m1, u, rfl, ω1, v, h1, E1, q1, hall, m2, hkeep, q4.h⟩
              cases ae with
              | normal =>
                simp only at hq
                cases hr : result r1 h1 x.results with
                | none => rw [hr] at hq; cases hq
                | some v => exact fin v hr fun ω' hω => by rw [he, q2 ω' hω]; simp [hr]
              | ret =>
                simp only at hq
                cases hr : result r1 h1 x.results with
                | none => rw [hr] at hq; cases hq
                | some v => exact fin v hr fun ω' hω => by rw [he, q2 ω' hω]; simp [hr]
              | exit i => cases hq
          · cases k1
        · cases hok
end
end Go.Im

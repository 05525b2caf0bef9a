/- ImFun: functions: a call in the idealised machine does what the model's call does. -/
import Derived.Test.YtcnbllelfinlmaaDoorImExec
set_option linter.unusedVariables false
set_option linter.unusedSimpArgs false
namespace Go.Im
section
variable {P : Program} {E : Env} {h : Hp} {w : World} {r : Regs} {a : Act} {GT : GTab} {F : Fns} {n : Nat} {tot : Bool} {ω : Nat → Nat} {N : Nat}

section
variable (P : Program) (GT : Nat → Option AV)

def okRes : List ARes → List ResultVar → Bool
  | [], [] => true
  | .t k :: xs, .tmp j :: ys => k == j && okRes xs ys
  | .cell t agg size :: xs, .cell j ty :: ys => t == j && okTy P ty agg size && okRes xs ys
  | _, _ => false

def okF (okD : Nat → Array Oper → List (List Nat) → List AOper → Bool) (f : FuncId) (x : AF) : Bool := match P.funcs[f]? with
  | some fn => (match fn.body with
    | some c => okC P GT fn.ntmps (okD fn.ntmps) true x.body c
    | none => false) && okRes P x.results fn.results.toList && !(fn.name == "runtime.NumGoroutine")
  | none => false
end

def runRes (tm : Array Value) : ResultVar → Sem Value
  | .tmp t => pure (tm.getD t undef)
  | .cell a t => do loadVar t (← asAddr (tm.getD a undef))

theorem resVs_spec (hf : FRel E h w r a.tmps) (hh : HRel E h w) : ∀ {xs : List ARes} {ys : List ResultVar}, okRes P xs ys = true → ∀ {vs : List AV}, resVs r h xs = some vs →
    ∃ us : List Value, us.length = vs.length ∧ (∀ (i : Nat) v u, vs[i]? = some v → us[i]? = some u → VRel E v u) ∧ (ys.mapM (runRes a.tmps) : Sem (List Value)).run P w = .ok us w
  | [], [], _, vs, hv => by simp [resVs] at hv; subst hv; exact ⟨[], rfl, fun i v u hi => by simp at hi, by simp⟩
  | [], y :: ys, hk, vs, hv => by simp [okRes] at hk
  | x :: xs, [], hk, vs, hv => by cases x <;> simp [okRes] at hk
  | x :: xs, y :: ys, hk, vs, hv => by
    simp only [resVs] at hv
    split at hv
    · rename_i v vs' h1 h2
      cases hv
      have main : okRes P xs ys = true ∧ ∃ u, (runRes a.tmps y).run P w = .ok u w ∧ VRel E v u := by
        cases x with
        | t k =>
          cases y with
          | tmp j =>
            simp only [okRes,Bool.and_eq_true,beq_iff_eq] at hk
            obtain ⟨rfl, hk⟩ := hk
            exact ⟨hk, _, rfl, vl_spec hf (x := .t k) (y := .tmp k) rfl h1⟩
          | cell => simp [okRes] at hk
        | cell t agg size =>
          cases y with
          | tmp j => simp [okRes] at hk
          | cell j ty =>
            simp only [okRes,Bool.and_eq_true,beq_iff_eq] at hk
            obtain ⟨⟨rfl, k1⟩, hk⟩ := hk
            refine ⟨hk, ?_⟩
            simp only [resV] at h1
            split at h1
            · rename_i p hp
              obtain ⟨b, off, e1, e2⟩ := plc_spec hf (x := .t t) (y := .tmp t) rfl hp
              obtain ⟨e3, e4⟩ := rd_spec hf hh e2 h1
              obtain ⟨u, e5, e6⟩ := run_loadVar (okTy_ty k1) e3 e4
              rw [eval_tmp] at e1
              exact ⟨u, by simp [runRes,e1,asAddr,e5], e6⟩
            · cases h1
      obtain ⟨hk', u, m1, m2⟩ := main
      obtain ⟨us, q1, q2, q3⟩ := resVs_spec hf hh hk' h2
      refine ⟨u :: us, by simp [q1], fun i v' u' hi hu => ?_, ?_⟩
      · cases i with
        | zero => simp at hi hu; subst hi; subst hu; exact m2
        | succ i => exact q2 i v' u' (by simpa using hi) (by simpa using hu)
      · simp only [List.mapM_cons,Sem.run_bind,m1,Result.andThen_ok,q3,Sem.run_pure]
    · cases hv

theorem result_spec (hf : FRel E h w r a.tmps) (hh : HRel E h w) {xs : List ARes} {fn : Func} (hk : okRes P xs fn.results.toList = true) {v : AV} (hv : result r h xs = some v) : ∃ u, (results fn a.tmps).run P w = .ok u w ∧ VRel E v u := by
  unfold result at hv
  cases hr : resVs r h xs with
  | none => rw [hr] at hv; cases hv
  | some vs =>
    rw [hr] at hv
    obtain ⟨us, q1, q2, q3⟩ := resVs_spec hf hh hk hr
    have hm : (fn.results.mapM (runRes a.tmps) : Sem (Array Value)).run P w = .ok us.toArray w := by
      rw [Array.mapM_eq_mapM_toList]
      simp [q3]
    have hres : (results fn a.tmps).run P w = .ok (if h : us.toArray.size = 1 then us.toArray[0] else .tuple us.toArray) w := by
      have hfe : results fn a.tmps = (do let vs ← fn.results.mapM (runRes a.tmps); pure (if h : vs.size = 1 then vs[0] else .tuple vs)) := by
        unfold results
        congr 2
      rw [hfe]
      simp only [Sem.run_bind,hm,Result.andThen_ok,Sem.run_pure]
    refine ⟨_, hres, ?_⟩
    match vs, us, q1, q2, hv with
    | [v'], [u], _, q2, hv =>
      cases hv
      exact q2 0 _ _ rfl rfl
    | [], [], _, q2, hv =>
      cases hv
      exact .tup _ _ rfl fun i x y hi => by simp at hi
    | v1 :: v2 :: vs, u1 :: u2 :: us, q1, q2, hv =>
      cases hv
      rw [dif_neg (by simp)]
      exact .tup _ _ (by simpa using q1.symm) fun i x y hx hy => q2 i x y hx (by simpa using hy)

/-! ### the frame of a call -/

theorem get_init : ∀ (k : Nat) (args : List AV) (t : Nat), get (initRegs k args) t = if k ≤ t then (match args[t - k]? with
    | some v => .val v
    | none => .un) else .un
  | k, [], t => by simp [initRegs,get]
  | k, v :: vs, t => by
    simp only [initRegs,get]
    split
    · rename_i e; subst e; simp
    · rename_i hne
      rw [get_init (k + 1) vs t]
      by_cases h : k ≤ t
      · have h' : k + 1 ≤ t := by omega
        rw [if_pos h, if_pos h', show t - k = (t - (k + 1)) + 1 by omega]
        simp
      · rw [if_neg h, if_neg (by omega)]

theorem init_sorted : ∀ (k : Nat) (args : List AV), Sorted (initRegs k args) ∧ ∀ p ∈ initRegs k args, k ≤ p.1
  | k, [] => ⟨by simp [initRegs,Sorted], fun p hp => by simp [initRegs] at hp⟩
  | k, v :: vs => by
    obtain ⟨h1, h2⟩ := init_sorted (k + 1) vs
    refine ⟨List.pairwise_cons.2 ⟨fun p hp => ?_, h1⟩, fun p hp => ?_⟩
    · have := h2 p hp
      show k < p.1
      omega
    · simp only [initRegs,List.mem_cons] at hp
      rcases hp with rfl | hp
      · exact Nat.le_refl _
      · have := h2 p hp; omega

theorem init_frel {args : List AV} {vs : Array Value} {m : Nat} (ha : ArgsR E args vs) : FRel E h w (initRegs 0 args) (vs ++ Array.replicate m undef) ∧ ∀ t, ¬ isVar (initRegs 0 args) t := by
  have hv : ∀ t, ¬ isVar (initRegs 0 args) t := fun t ⟨v, hv⟩ => by
    rw [get_init] at hv
    simp only [Nat.zero_le,if_true] at hv
    split at hv <;> cases hv
  refine ⟨⟨fun t => ?_, fun t ht => ?_, fun t u ht => absurd ht (hv t), fun t ht => absurd ht (hv t)⟩, hv⟩
  · rw [get_init]
    simp only [Nat.zero_le,if_true,Nat.sub_zero]
    cases hx : args[t]? with
    | none => trivial
    | some v =>
      have hlt : t < vs.size := by have := (List.getElem?_eq_some_iff.1 hx).1; rw [ha.1] at this; exact this
      have := ha.2 t v vs[t] hx (Array.getElem?_eq_getElem hlt)
      show VRel E v ((vs ++ Array.replicate m undef).getD t undef)
      have hg : (vs ++ Array.replicate m undef).getD t undef = vs[t] := by
        simp [Array.getD,Array.getElem_append,hlt]
        intro h; omega
      rw [hg]; exact this
  · rw [get_init] at ht
    simp only [Nat.zero_le,if_true,Nat.sub_zero] at ht
    cases hx : args[t]? with
    | none => rw [hx] at ht; exact absurd rfl ht
    | some v =>
      have := (List.getElem?_eq_some_iff.1 hx).1
      rw [ha.1] at this
      simp; omega

def ExtOk (P : Program) (GT : GTab) (F : Fns) (f : FuncId) (g : Kont → List AV → Hp → Option (AV × Hp)) : Prop :=
  ∀ (n : Nat), CallsOk P GT F n → ∀ (tot : Bool) (ω : Nat → Nat) (args : List AV) (h : Hp) (E : Env) (w : World) (vs : Array Value), HRel E h w → GOk E GT → ArgsR E args vs → (∀ ω', Agree h.length ω ω' → (g (kont F n tot ω') args h).isSome = true) →
    Does P f vs w fun u w' => ∃ ω1 v h' E', Agree h.length ω ω1 ∧ (∀ ω', Agree h'.length ω1 ω' → g (kont F n tot ω') args h = some (v, h')) ∧ VRel E' v u ∧ Keep E h (fun _ => False) w E' h' (fun _ => False) w' ∧ HRel E' h' w'

def gtab (P : Program) (g : Nat → Option AV) (okD : Nat → Array Oper → List (List Nat) → List AOper → Bool) : GTab := ⟨g, fun N c code => okC P g N (okD N) false c code = true⟩

structure TableOk (P : Program) (GT : Nat → Option AV) (F : Fns) (okD : Nat → Array Oper → List (List Nat) → List AOper → Bool) : Prop where
  code : ∀ f x, F f = some (.inl x) → okF P GT okD f x = true
  ext : ∀ f g, F f = some (.inr g) → ExtOk P (gtab P GT okD) F f g
  draws : ∀ n tot N, CallsOk P (gtab P GT okD) F n → DrawsOk P (gtab P GT okD) F n tot N (okD N)

theorem run_callFunc {f : FuncId} {fn : Func} {vs : Array Value} (hf : P.funcs[f]? = some fn) (hb : fn.body.isSome = true) (hn : (fn.name == "runtime.NumGoroutine") = false) : (callFunc f vs).run P w = .ok (.enter f vs) w := by
  obtain ⟨c, hc⟩ := Option.isSome_iff_exists.1 hb
  simp only [callFunc,Sem.run_bind,run_program,Result.andThen_ok,hf,hn,hc]
  simp

theorem shut_rel (hf : FRel E h w r a.tmps) (hh : HRel E h w) {D : Nat} (hD : w.heap[D]? = some (.deferred (some []))) : FRel E h (w.putObj D (.deferred none)) r a.tmps ∧ HRel E h (w.putObj D (.deferred none)) := by
  refine ⟨hf.other (not_var_def hf hD) (fun b' hb => World.putObj_heap_other hb) fun _ h => h, hh.other (not_owned_def hh hD) (fun o => ?_) (by simp) fun b' hb => World.putObj_heap_other hb⟩
  cases hs : E.sg D o with
  | none => rfl
  | some v =>
    have := hh.sg _ _ _ hs
    simp [World.cell?,hD] at this

theorem leaves_marks {fn : Func} {xs : List ARes} (hk : okRes P xs fn.results.toList = true) {v : AV} (hv : result r h xs = some v) {R : Ending → World → Prop} {w0 : World} {E0 : Env} {h0 : Hp}
    (hR : ∀ (w : World) u, HRel E h w → Keep E0 h0 (fun _ => False) w0 E h (fun _ => False) w → VRel E v u → R (.returned u) w) :
    ∀ (Ds : List Nat) (w : World), FRel E h w r a.tmps → HRel E h w → Keep E0 h0 (fun _ => False) w0 E h (fun _ => False) w → Ds.Nodup → (∀ D ∈ Ds, w.heap[D]? = some (.deferred (some [])) ∧ w0.heap.size ≤ D) → LeavesInM (RF none) 0 P fn a.tmps R (Ds.map mk) .returning w
  | [], w, hf, hh, hkp, _, _ => by
    obtain ⟨u, m1, m2⟩ := result_spec (P := P) hf hh hk hv
    exact ⟨u, m1, hR w u hh hkp m2⟩
  | D :: Ds, w, hf, hh, hkp, hn, hD => by
    obtain ⟨d1, d2⟩ := hD D (by simp)
    obtain ⟨f1, f2⟩ := shut_rel hf hh d1
    refine ⟨by simp, .inl ⟨D, _, rfl, run_takeDeferred d1, leaves_marks hk hv hR Ds _ f1 f2 ?_ (List.nodup_cons.1 hn).2 fun D' hD' => ?_⟩⟩
    · exact ⟨hkp.le, by simpa using hkp.size, hkp.os, hkp.out, fun b hb ho hx => (World.putObj_heap_other (by omega)).trans (hkp.heap b hb ho hx), hkp.owned, hkp.vars, hkp.sg⟩
    · obtain ⟨d3, d4⟩ := hD D' (by simp [hD'])
      exact ⟨(World.putObj_heap_other (by rintro rfl; exact (List.nodup_cons.1 hn).1 hD')).trans d3, d4⟩

theorem setLoop (hf : FRel E h w r a.tmps) (hh : HRel E h w) {id : Nat} {r' : Regs} {ps : List Nat} {hd bd : AC} {st st' : Nat} {pd pd' : Option AE} {lr : Loop} (hl : h[id]? = some (.loop r' ps hd bd st pd)) (h1 : w.heap[E.ob id]? = some (.loop lr)) (hL : LoopR E lr r' ps hd bd st pd)
    (hs : ∀ o, E.sg (E.ob id) o = none) {sm : LoopState} {pm : Option Code} (k1 : StR st' sm) (k2 : PdR pd' pm) :
    Keep E h (Vars r a.tmps) w E (h.set id (.loop r' ps hd bd st' pd')) (Vars r a.tmps) (w.putObj (E.ob id) (.loop { lr with state := sm, pending := pm })) ∧
    FRel E (h.set id (.loop r' ps hd bd st' pd')) (w.putObj (E.ob id) (.loop { lr with state := sm, pending := pm })) r a.tmps ∧ HRel E (h.set id (.loop r' ps hd bd st' pd')) (w.putObj (E.ob id) (.loop { lr with state := sm, pending := pm })) :=
  set_obj (y := .loop r' ps hd bd st' pd') (ob := .loop { lr with state := sm, pending := pm }) hf hh hl (by simp) hs
    ⟨{ lr with state := sm, pending := pm }, setO_same w _ (Array.getElem?_eq_some_iff.1 h1).1, ⟨hL.par, hL.code, hL.sort, hL.regs, k1, k2⟩, hs⟩

def Reg.pl : Reg → Prop
  | .un | .val _ => True
  | _ => False

theorem putArgs_vals : ∀ (r : Regs) (ps : List Nat) (vs : List AV), (∀ t, (get r t).pl) → ∀ t, (get (putArgs r ps vs) t).pl
  | r, [], _, h => by simpa [putArgs] using h
  | r, _ :: _, [], h => by simpa [putArgs] using h
  | r, p :: ps, v :: vs, h => by
    simp only [putArgs]
    refine putArgs_vals _ ps vs fun t => ?_
    rw [get_put]
    by_cases e : p = t
    · rw [if_pos e]; trivial
    · rw [if_neg e]; exact h t

theorem putArgs_sorted : ∀ (r : Regs) (ps : List Nat) (vs : List AV), Sorted r → Sorted (putArgs r ps vs)
  | r, [], _, h => by simpa [putArgs] using h
  | r, _ :: _, [], h => by simpa [putArgs] using h
  | r, p :: ps, v :: vs, h => by simp only [putArgs]; exact putArgs_sorted _ ps vs (h.put _ _)

theorem putArgs_rel : ∀ (r : Regs) (ps : List Nat) (vs : List AV) (tm : Array Value) (us : List Value), vs.length = us.length → (∀ (i : Nat) x y, vs[i]? = some x → us[i]? = some y → VRel E x y) → (∀ p ∈ ps, p < tm.size) →
    (∀ t, match get r t with | .un => True | .val v => t < tm.size ∧ VRel E v (tm.getD t undef) | _ => False) →
    ((ps.zip us).foldl (fun t (p : Nat × Value) => t.setIfInBounds p.1 p.2) tm).size = tm.size ∧
    ∀ t, match get (putArgs r ps vs) t with | .un => True | .val v => t < tm.size ∧ VRel E v (((ps.zip us).foldl (fun t (p : Nat × Value) => t.setIfInBounds p.1 p.2) tm).getD t undef) | _ => False
  | r, [], vs, tm, us, _, _, _, h => by simp only [putArgs,List.zip_nil_left,List.foldl_nil]; exact ⟨trivial, h⟩
  | r, p :: ps, [], tm, [], _, _, _, h => by simp only [putArgs,List.zip_nil_right,List.foldl_nil]; exact ⟨trivial, h⟩
  | r, p :: ps, [], tm, _ :: _, hl, _, _, _ => by simp at hl
  | r, p :: ps, _ :: _, tm, [], hl, _, _, _ => by simp at hl
  | r, p :: ps, v :: vs, tm, u :: us, hl, hr, hp, h => by
    simp only [putArgs,List.zip_cons_cons,List.foldl_cons]
    have hpz := hp p (by simp)
    have := putArgs_rel (put r p (.val v)) ps vs (tm.setIfInBounds p u) us (by simpa using hl) (fun i x y hx hy => hr (i + 1) x y (by simpa using hx) (by simpa using hy)) (fun q hq => by rw [Array.size_setIfInBounds]; exact hp q (by simp [hq])) fun t => by
      rw [get_put]
      by_cases e : p = t
      · subst e
        rw [if_pos rfl]
        refine ⟨by simpa using hpz, ?_⟩
        rw [getD_set tm p p u hpz, if_pos rfl]
        exact hr 0 v u rfl rfl
      · rw [if_neg e]
        have := h t
        split
        · trivial
        · rename_i x hx
          rw [hx] at this
          rw [getD_set tm p t u hpz, if_neg e, Array.size_setIfInBounds]
          exact this
        · rename_i h1 h2
          split at this
          · rename_i e; exact h1 e
          · rename_i x e; exact h2 x e
          · exact this
    rw [Array.size_setIfInBounds] at this
    exact this

theorem no_vars {tm : Array Value} {r : Regs} (h : ∀ t, (get r t).pl) (b : Nat) : ¬ Vars r tm b := by
  rintro ⟨t, ⟨v, hv⟩, _⟩
  have := h t
  rw [hv] at this
  exact this

theorem stR_ready {st : Nat} {s : LoopState} (h : StR st s) (h0 : st = 0) : s = .ready := by
  subst h0
  cases s <;> first | rfl | exact h.elim

theorem round_sound {okD : Nat → Array Oper → List (List Nat) → List AOper → Bool} {g : Nat → Option AV} (CO : CallsOk P (gtab P g okD) F n) (DO : ∀ N, DrawsOk P (gtab P g okD) F n tot N (okD N)) {id : Nat} {args : List AV} {vs : Array Value} (hh : HRel E h w) (hG : GOk E (gtab P g okD)) (ha : ArgsR E args vs)
    (hw : ∀ ω', Agree h.length ω ω' → (roundK (kont F n tot ω') n id args h).isSome = true) : RDoes P (E.ob id) vs w (CallRes F (n + 1) tot ω (.inr id) args h E w) := by
  have h0 := hw ω (.refl _ _)
  obtain ⟨r0, ps, hd, bd, st, pd, hl, hlen⟩ : ∃ r ps hd bd st pd, h[id]? = some (.loop r ps hd bd st pd) ∧ ps.length = args.length := by
    unfold roundK at h0
    split at h0
    · rename_i e
      split at h0
      · rename_i e2; exact ⟨_, _, _, _, _, _, e, e2⟩
      · cases h0
    · cases h0
  have hrk : ∀ ω', roundK (kont F n tot ω') n id args h = match exec (kont F n tot ω') n hd (putArgs r0 ps args, h) with
      | some (.normal, (r1, h1)) => (match beginR id h1 with
        | some h2 => (match exec (kont F n tot ω') n bd (r1, h2) with
          | some (e, (_, h3)) => endR id e h3
          | none => none)
        | none => none)
      | _ => none := fun ω' => by simp only [roundK,hl,hlen,if_true]; rfl
  obtain ⟨lr, hl1, hL, hsg⟩ := hh.obj id _ hl
  obtain ⟨N, n1, n2, n3, n4⟩ := hL.code
  rw [hG.2] at n3 n4
  have hpz : lr.params.size = vs.size := by rw [hL.par, ← ha.1, ← hlen]; simp
  refine ⟨lr.fn, _, lr.assign, lr.body, run_yield hl1 hpz.symm, ?_⟩
  obtain ⟨z1, z2⟩ := putArgs_rel (E := E) r0 ps args lr.tmps vs.toList (by simpa using ha.1) (fun i x y hx hy => ha.2 i x y hx (by simpa using hy)) n2 hL.regs
  have htm : (lr.params.zip vs).foldl (fun tmps (t, a) => tmps.setIfInBounds t a) lr.tmps = (ps.zip vs.toList).foldl (fun t (p : Nat × Value) => t.setIfInBounds p.1 p.2) lr.tmps := by
    rw [hL.par, ← Array.foldl_toList]
    simp
  have hvals : ∀ t, (get (putArgs r0 ps args) t).pl := putArgs_vals r0 ps args fun t => by
    have := hL.regs t
    split at this
    · rename_i e; rw [e]; trivial
    · rename_i x e; rw [e]; trivial
    · exact this.elim
  have hS : SRel N E h w (putArgs r0 ps args) { tmps := (ps.zip vs.toList).foldl (fun t (p : Nat × Value) => t.setIfInBounds p.1 p.2) lr.tmps, defers := [] } := by
    refine ⟨⟨fun t => ?_, fun t ht => ?_, fun t u ⟨v, hv⟩ _ _ => ?_, fun t ⟨v, hv⟩ => ?_⟩, hh, putArgs_sorted _ _ _ hL.sort, ⟨[], rfl, by simp, by simp⟩, by rw [z1]; exact n1⟩
    · have := z2 t
      split at this
      · rename_i e; rw [e]; trivial
      · rename_i v e; rw [e]; exact this.2
      · exact this.elim
    · have := z2 t
      split at this
      · rename_i e; exact absurd e ht
      · rw [z1]; exact this.1
      · exact this.elim
    · have := hvals t; rw [hv] at this; exact this.elim
    · have := hvals t; rw [hv] at this; exact this.elim
  have hFV : ∀ b, ¬ FV (putArgs r0 ps args) { tmps := (ps.zip vs.toList).foldl (fun t (p : Nat × Value) => t.setIfInBounds p.1 p.2) lr.tmps, defers := [] } b := fun b hb => by
    rcases hb with hb | hb
    · exact no_vars hvals b hb
    · simp at hb
  rw [htm]
  refine roundIn_of_wpIn (F := Fence.wide) (n := 0) trivial ?_
  refine exec_sound (ρ := some (E.ob id)) (top := false) (ω := ω) (tot := tot) (fun e => by cases e) (fun c code h => h) CO (DO N) n hd lr.assign n3 hG hS (fun ω' hω => ?_) fun ae a1 w1 hA => ?_
  · have := hw ω' hω
    rw [hrk] at this
    split at this
    · rename_i e; rw [e]; rfl
    · cases this
  obtain ⟨ω1, E1, r1, h1, q1, q2, q3, q4⟩ := hA
  have q2 : ∀ ω', Agree h1.length ω1 ω' → exec (kont F n tot ω') n hd (putArgs r0 ps args, h) = some (ae, r1, h1) := q2
  have hq := hw ω1 q1
  rw [hrk, q2 ω1 (.refl _ _)] at hq
  have hle1 := q3.length hh q4.h
  obtain rfl : ae = .normal := by
    split at hq
    · rename_i e; simp at e; exact e.1
    · cases hq
  simp only at hq
  obtain ⟨rb, psb, hdb, bdb, pdb, hlb, hbeg⟩ : ∃ r ps hd bd pd, h1[id]? = some (.loop r ps hd bd 0 pd) ∧ beginR id h1 = some (h1.set id (.loop r ps hd bd 1 pd)) := by
    unfold beginR at hq ⊢
    split at hq
    · rename_i e
      split at e
      · rename_i e2; simp only [e2]; exact ⟨_, _, _, _, _, rfl, rfl⟩
      · cases e
    · cases hq
  have hidn : id < E.n := by rw [hh.n]; exact (List.getElem?_eq_some_iff.1 hl).1
  have hob1 : E1.ob id = E.ob id := q3.le.ob id hidn
  obtain ⟨lb, hb1, hLb, hsb⟩ := q4.h.obj id _ hlb
  obtain ⟨s1, s2, s3⟩ := setLoop q4.f q4.h hlb hb1 hLb hsb (st' := 1) (sm := .busy) (pd' := pdb) (pm := lb.pending) trivial hLb.pend
  have hbeg2 := run_beginRound (P := P) (by rw [← hob1]; exact hb1 : w1.heap[E.ob id]? = some (.loop lb)) (stR_ready hLb.state rfl)
  rw [hob1] at s1 s2 s3
  refine ⟨_, hbeg2, ?_⟩
  have hd1 : ∀ D, w1.heap[D]? = some (.deferred (some [])) → ¬ Vars r1 a1.tmps D := fun D hD => not_var_def q4.f hD
  have hS1 : SRel N E1 (h1.set id (.loop rb psb hdb bdb 1 pdb)) (w1.putObj (E.ob id) (.loop { lb with state := .busy })) r1 a1 := ⟨s2, s3, q4.s, q4.d.keep q4.h s1 hd1, q4.n⟩
  have hbegin : ∀ ω', Agree h1.length ω1 ω' → roundK (kont F n tot ω') n id args h = match exec (kont F n tot ω') n bd (r1, h1.set id (.loop rb psb hdb bdb 1 pdb)) with
      | some (e, (_, h3)) => endR id e h3
      | none => none := fun ω' hω => by rw [hrk, q2 ω' hω]; simp only [hbeg]
  refine exec_sound (ρ := some (E.ob id)) (top := false) (ω := ω1) (tot := tot) (fun e => by cases e) (fun c code h => h) CO (DO N) n bd lr.body n4 (hG.mono q3.le) hS1 (fun ω' hω => ?_) fun ae a2 w2 hA => ?_
  · have hω' : Agree h1.length ω1 ω' := by simpa using hω
    have := hw ω' (q1.trans (hω'.le hle1))
    rw [hbegin ω' hω'] at this
    split at this
    · rename_i e; rw [e]; rfl
    · cases this
  obtain ⟨ω2, E2, r2, h2, p1, p2, p3, p4⟩ := hA
  have p2 : ∀ ω', Agree h2.length ω2 ω' → exec (kont F n tot ω') n bd (r1, h1.set id (.loop rb psb hdb bdb 1 pdb)) = some (ae, r2, h2) := p2
  have p1' : Agree h1.length ω1 ω2 := by simpa using p1
  have hle2 : h1.length ≤ h2.length := by have := p3.length s3 p4.h; simpa using this
  have hend0 := hw ω2 (q1.trans (p1'.le hle1))
  rw [hbegin ω2 p1', p2 ω2 (.refl _ _)] at hend0
  simp only at hend0
  obtain ⟨rc, psc, hdc, bdc, stc, pdc, hlc, hendR⟩ : ∃ r ps hd bd st pd, h2[id]? = some (.loop r ps hd bd st pd) ∧ endR id ae h2 = some (.bool (decide (ae = .normal)), h2.set id (.loop r ps hd bd (if ae = .normal then 0 else 2) (if ae = .normal then none else some ae))) := by
    unfold endR at hend0 ⊢
    split at hend0
    · rename_i e2; simp only [e2]; exact ⟨_, _, _, _, _, _, rfl, rfl⟩
    · cases hend0
  have hob2 : E2.ob id = E.ob id := (p3.le.ob id (Nat.lt_of_lt_of_le hidn q3.le.n)).trans hob1
  obtain ⟨lc, hc1, hLc, hsc⟩ := p4.h.obj id _ hlc
  have key : ∀ (jump : Option Code), PdR (if ae = .normal then none else some ae) jump → jump.isNone = decide (ae = .normal) →
      ∃ v w', (Instr.endRound (E.ob id) jump).run P w2 = .ok v w' ∧ ∃ u, Ending.returned v = .returned u ∧ CallRes F (n + 1) tot ω (.inr id) args h E w u w' := by
    intro jump hj hn
    obtain ⟨t1, t2, t3⟩ := setLoop p4.f p4.h hlc hc1 hLc hsc (st' := if ae = .normal then 0 else 2) (sm := if jump.isNone then .ready else .done) (pd' := if ae = .normal then none else some ae) (pm := jump) (by
      rw [hn]
      by_cases e : ae = .normal <;> simp [e,StR]) hj
    rw [hob2] at t1 t3
    have he := run_endRound (P := P) jump (by rw [← hob2]; exact hc1 : w2.heap[E.ob id]? = some (.loop lc))
    refine ⟨_, _, he, _, rfl, ω2, .bool (decide (ae = .normal)), _, E2, (q1.trans (p1'.le hle1)), fun ω' hω => ?_, ?_, ?_, t3⟩
    · have hω' : Agree h2.length ω2 ω' := by simpa using hω
      show roundK (kont F n tot ω') n id args h = _
      rw [hbegin ω' (p1'.trans (hω'.le hle2)), p2 ω' hω']
      exact hendR
    · rw [hn]; exact .bool _
    · have s1' := s1.fv (a := a1) (a' := a1) rfl
      have t1' := t1.fv (a := a2) (a' := a2) rfl
      have K := ((q3.trans s1').trans p3).trans t1'
      exact ⟨K.le, K.size, K.os, K.out, fun b hb ho _ => K.heap b hb ho (hFV b), K.owned, fun _ h => h.elim, K.sg⟩
  cases ae with
  | normal => exact key none trivial rfl
  | ret => exact key (some .ret) trivial rfl
  | exit i => exact key (some (.exit i)) rfl rfl

theorem callsOk {GT : Nat → Option AV} {okD : Nat → Array Oper → List (List Nat) → List AOper → Bool} (TO : TableOk P GT F okD) : ∀ n, CallsOk P (gtab P GT okD) F n := by
  have en : ∀ (f : FuncId) (x : AF), F f = some (.inl x) → ∀ (vs : Array Value) (w : World), (callFunc f vs).run P w = .ok (.enter f vs) w := by
    intro f x hF vs w
    have hok := TO.code f x hF
    unfold okF at hok
    split at hok
    · rename_i fn hfn
      simp only [Bool.and_eq_true] at hok
      obtain ⟨⟨k1, k2⟩, k3⟩ := hok
      split at k1
      · rename_i c hc
        exact run_callFunc hfn (by rw [hc]; rfl) (by simpa using k3)
      · cases k1
    · cases hok
  intro n
  induction n with
  | zero =>
    refine ⟨fun tot ω f args h E w vs hh hG ha hw => ?_, fun tot ω id args h E w vs hh hG ha hw => ?_, en⟩
    · have := hw ω (.refl _ _)
      rw [call_zero] at this; cases this
    · have := hw ω (.refl _ _)
      rw [round_zero] at this; cases this
  | succ n CO =>
    refine ⟨fun tot ω f args h E w vs hh hG ha hw => ?_, fun tot ω id args h E w vs hh hG ha hw => round_sound CO (fun N => TO.draws n tot N CO) hh hG ha fun ω' hω => by rw [← round_succ]; exact hw ω' hω, en⟩
    cases hF : F f with
    | none => have := hw ω (.refl _ _); rw [call_none hF] at this; cases this
    | some x =>
      cases x with
      | inr g =>
        have he : ∀ ω', call F (n + 1) tot ω' f args h = g (kont F n tot ω') args h := fun ω' => call_inr hF args h
        have := TO.ext f g hF n CO tot ω args h E w vs hh hG ha (fun ω' hω => by rw [← he]; exact hw ω' hω)
        refine this.mono fun u w' hq => ?_
        obtain ⟨ω1, v, h', E', q1, q2, q3, q4, q5⟩ := hq
        exact ⟨ω1, v, h', E', q1, fun ω' hω => (he ω').trans (q2 ω' hω), q3, q4, q5⟩
      | inl x =>
        have hok := TO.code f x hF
        unfold okF at hok
        split at hok
        · rename_i fn hfn
          simp only [Bool.and_eq_true] at hok
          obtain ⟨⟨k1, k2⟩, k3⟩ := hok
          split at k1
          · rename_i c hc
            refine .inl ⟨en f x hF _ _, ?_⟩
            obtain ⟨i1, i2⟩ := init_frel (h := h) (w := w) (m := fn.ntmps - vs.size) ha
            have hS : SRel fn.ntmps E h w (initRegs 0 args) { tmps := vs ++ Array.replicate (fn.ntmps - vs.size) undef, defers := [] } :=
              ⟨i1, hh, (init_sorted 0 args).1, ⟨[], rfl, by simp, by simp⟩, by simp; omega⟩
            have he : ∀ ω', call F (n + 1) tot ω' f args h = match exec (kont F n tot ω') n x.body (initRegs 0 args, h) with
                | some (.normal, (r, h')) => (result r h' x.results).map fun v => (v, h')
                | some (.ret, (r, h')) => (result r h' x.results).map fun v => (v, h')
                | _ => none := fun ω' => call_inl hF args h
            refine (callsIn_wide (n := 0)).1 (callsIn_of_wp_marks (F := RF none) (n := 0) hfn hc trivial (exec_sound (ρ := none) (top := true) (ω := ω) (tot := tot) (fun _ => rfl) (fun c code h => h) CO (TO.draws n tot _ CO) n x.body c k1 hG hS (fun ω' hω => ?_) fun ae a' w' hA => ?_) rfl)
            · have := hw ω' hω
              rw [he] at this
              split at this
              · rename_i e; rw [e]; rfl
              · rename_i e; rw [e]; rfl
              · cases this
            · obtain ⟨ω1, E1, r1, h1, q1, q2, q3, q4⟩ := hA
              have q2 : ∀ ω', Agree h1.length ω1 ω' → exec (kont F n tot ω') n x.body (initRegs 0 args, h) = some (ae, r1, h1) := q2
              have hq := hw ω1 q1
              rw [he, q2 ω1 (.refl _ _)] at hq
              have hFV : ∀ b, ¬ FV (initRegs 0 args) { tmps := vs ++ Array.replicate (fn.ntmps - vs.size) undef, defers := [] } b := fun b hb => by
                rcases hb with ⟨t, ht, _⟩ | hb
                · exact i2 t ht
                · simp at hb
              have hkeep : Keep E h (fun _ => False) w E1 h1 (fun _ => False) w' :=
                ⟨q3.le, q3.size, q3.os, q3.out, fun b hb ho _ => q3.heap b hb ho (hFV b), q3.owned, fun _ h => h.elim, q3.sg⟩
              have fin : ∀ v, result r1 h1 x.results = some v → (∀ ω', Agree h1.length ω1 ω' → call F (n + 1) tot ω' f args h = some (v, h1)) → LeavesInM (RF none) 0 P fn a'.tmps (fun e w' => ∃ u, e = .returned u ∧ CallRes F (n + 1) tot ω (.inl f) args h E w u w') a'.defers .returning w' := fun v hv hall => by
                obtain ⟨Ds, d1, d2, d3⟩ := q4.d
                rw [d1]
                refine leaves_marks (a := a') k2 hv (w0 := w) (E0 := E) (h0 := h) (fun w'' u hh'' hk'' hu => ⟨u, rfl, ω1, v, h1, E1, q1, hall, hu, hk'', hh''⟩) Ds w' q4.f q4.h hkeep d2 fun D hD => ⟨d3 D hD, ?_⟩
                rcases q3.vars D (.inr (by rw [d1]; exact List.mem_map_of_mem hD)) with hb | hb
                · exact absurd hb (hFV D)
                · exact hb
              cases ae with
              | normal =>
                simp only at hq
                cases hr : result r1 h1 x.results with
                | none => rw [hr] at hq; cases hq
                | some v => exact fin v hr fun ω' hω => by rw [he, q2 ω' hω]; simp [hr]
              | ret =>
                simp only at hq
                cases hr : result r1 h1 x.results with
                | none => rw [hr] at hq; cases hq
                | some v => exact fin v hr fun ω' hω => by rw [he, q2 ω' hω]; simp [hr]
              | exit i => cases hq
          · cases k1
        · cases hok
end
end Go.Im

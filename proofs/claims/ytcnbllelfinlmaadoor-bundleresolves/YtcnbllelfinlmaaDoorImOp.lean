/- ImOp: every operation. -/
import Derived.Test.YtcnbllelfinlmaaDoorImCall
set_option linter.unusedVariables false
set_option linter.unusedSimpArgs false
namespace Go.Im
section
variable {P : Program} {E : Env} {h : Hp} {w : World} {r : Regs} {a : Act} {o : Oper} {reg : Reg} {GT : GTab} {F : Fns} {n : Nat} {tot : Bool} {ω : Nat → Nat}

theorem run_call {c : Call} {f : FuncId} (ho : o.op = .call c) (hc : c.callee = .value (.func f)) : (execOp a.eval o).run P w = (callFunc f (c.args.map a.eval)).run P w := by
  simp [execOp,ho,resolve,hc,Deferred.ofValue,Act.eval,invoke]

theorem run_callV {c : Call} {y : Operand} {f : FuncId} {as cs : Array Value} (ho : o.op = .call c) (hc : c.callee = .value y) (hy : a.eval y = .func (.func f) as cs) : (execOp a.eval o).run P w = (callFunc f (as ++ c.args.map a.eval ++ cs)).run P w := by
  simp [execOp,ho,resolve,hc,Deferred.ofValue,hy,invoke]

theorem run_callY {c : Call} {y : Operand} {l : Nat} (ho : o.op = .call c) (hc : c.callee = .value y) (hy : a.eval y = .func (.yield l) #[] #[]) : (execOp a.eval o).run P w = (Instr.yield l (c.args.map a.eval)).run P w := by
  simp [execOp,ho,resolve,hc,Deferred.ofValue,hy,invoke]

theorem args_rel (hG : GOk E GT) (hf : FRel E h w r a.tmps) {xs : List AX} {c : Call} (hk : okXs GT xs c.args.toList = true) {vs : List AV} (hv : vls r xs = some vs) : ArgsR E vs (c.args.map a.eval) := by
  have := vls_spec hf (okXs_rel hG hk) hv
  simpa [ArgsR] using this

theorem callRes_op (hh : HRel E h w) (hf : FRel E h w r a.tmps) (hs : Sorted r) {t : FuncId ⊕ Nat} {vs : List AV} {x : AOp} (hx : ∀ ω', step (kont F n tot ω') r h x = (callR F n tot ω' t vs h).map fun y => (Reg.val y.1, r, y.2)) {u : Value} {w' : World}
    (hc : CallRes F n tot ω t vs h E w u w') : OpRes F n tot ω x E h w r a.tmps u w' := by
  obtain ⟨ω1, v, h', E', q1, q2, q3, q4, q5⟩ := hc
  refine ⟨ω1, E', .val v, r, h', q1, fun ω' hω => by rw [hx, q2 ω' hω]; rfl, q4.widen _, hf.call q4, q5, hs, q3, fun v e => by cases e⟩

theorem op_sound (CO : CallsOk P GT F n) (hG : GOk E GT) (hf : FRel E h w r a.tmps) (hh : HRel E h w) (hs : Sorted r) {x : AOp} (hk : okOp P GT o.op x = true)
    (hw : ∀ ω', Agree h.length ω ω' → (step (kont F n tot ω') r h x).isSome = true) : Opd P a w o (OpRes F n tot ω x E h w r a.tmps) := by
  by_cases hc : x.calls = true
  · cases x <;> simp [AOp.calls] at hc
    · -- call
      rename_i f xs
      cases ho : o.op <;> rw [ho] at hk <;> simp [okOp] at hk
      rename_i c
      simp only [okCall] at hk
      split at hk
      · rename_i g hce
        simp only [Bool.and_eq_true,beq_iff_eq] at hk
        obtain ⟨rfl, hk⟩ := hk
        cases hv : vls r xs with
        | none => have := hw ω (.refl _ _); simp [step,hv] at this
        | some vs =>
          have hx : ∀ ω', step (kont F n tot ω') r h (.call f xs) = (call F n tot ω' f vs h).map fun y => (Reg.val y.1, r, y.2) := fun ω' => by simp only [step,hv]; rfl
          have := CO.fn tot ω f vs h E w _ hh hG (args_rel hG hf hk hv) (fun ω' hω => by have := hw ω' hω; rw [hx] at this; simpa using this)
          exact (this.mono fun u w' hq => callRes_op hh hf hs hx hq).opd (run_call ho hce)
      · cases hk
    · -- callP
      rename_i f xs
      cases ho : o.op <;> rw [ho] at hk <;> simp [okOp] at hk
      rename_i c
      simp only [okCall] at hk
      split at hk
      · rename_i g hce
        simp only [Bool.and_eq_true,beq_iff_eq] at hk
        obtain ⟨rfl, hk⟩ := hk
        have h0 := hw ω (.refl _ _)
        simp only [step] at h0
        split at h0
        · rename_i vs hv
          split at h0
          · rename_i vs' hp
            have hargs := args_rel hG hf hk hv
            obtain ⟨p1, p2⟩ := plains_get hp
            have hargs' : ArgsR E.bare vs' (c.args.map a.eval) := ⟨p1.symm.trans hargs.1, fun i x y hx hy => by
              obtain ⟨x0, k1, k2⟩ := p2 i x hx
              exact plain_rel (hargs.2 i x0 y k1 hy) k2⟩
            cases hcl : call F n false (fun _ => 0) f vs' [] with
            | none => simp [kont,hcl] at h0
            | some y =>
              obtain ⟨v, h2⟩ := y
              have := CO.fn false (fun _ => 0) f vs' [] E.bare w _ (bare_hrel hh) hG hargs' (fun ω' _ => by rw [call_false F n ω' (fun _ => 0), hcl]; rfl)
              refine (this.mono fun u w' hq => ?_).opd (run_call ho hce)
              obtain ⟨ω1, v', h', E', q1, q2, q3, q4, q5⟩ := hq
              have hcl2 : call F n false ω1 f vs' [] = some (v', h') := q2 ω1 (.refl _ _)
              rw [call_false F n ω1 (fun _ => 0), hcl] at hcl2
              cases hcl2
              simp only [kont,hcl,Option.map_some] at h0
              cases hpv : plain v with
              | none => rw [hpv] at h0; cases h0
              | some v2 =>
                obtain ⟨b1, b2, b3⟩ := bare_back hh q4 q5
                refine ⟨ω, _, .val v2, r, h, .refl _ _, fun ω' _ => ?_, b1.widen _, hf.call b1, b2, hs, (plain_rel q3 hpv).mono b3, fun v e => by cases e⟩
                simp [step,hv,hp,kont,hcl,hpv]
          · cases h0
        · cases h0
      · cases hk
    · -- callV
      rename_i y0 xs
      cases ho : o.op <;> rw [ho] at hk <;> simp [okOp] at hk
      rename_i c
      simp only [okCall] at hk
      split at hk
      · rename_i y hce
        simp only [Bool.and_eq_true] at hk
        obtain ⟨hk1, hk⟩ := hk
        have h0 := hw ω (.refl _ _)
        simp only [step] at h0
        split at h0
        · rename_i f first captured vs hvf hv
          have hx : ∀ ω', step (kont F n tot ω') r h (.callV y0 xs) = (call F n tot ω' f (first ++ vs ++ captured) h).map fun y => (Reg.val y.1, r, y.2) := fun ω' => by simp only [step,hv,hvf]; rfl
          have hargs := args_rel hG hf hk hv
          have hfn := vl_spec hf (okX_rel (a := a) hG hk1) hvf
          cases hy : a.eval y with
          | func fn as cs =>
            rw [hy] at hfn
            cases hfn with
            | fn _ _ _ _ _ l1 l2 r1 r2 =>
            have hargs' : ArgsR E (first ++ vs ++ captured) (as ++ c.args.map a.eval ++ cs) := by
              refine ⟨by simp [l1,l2,hargs.1], fun i x y hx hy => ?_⟩
              have ha := hargs.1
              by_cases h1 : i < first.length
              · rw [List.append_assoc, List.getElem?_append_left h1] at hx
                rw [Array.append_assoc, Array.getElem?_append_left (by omega)] at hy
                exact r1 i x y hx hy
              · rw [List.append_assoc, List.getElem?_append_right (by omega)] at hx
                rw [Array.append_assoc, Array.getElem?_append_right (by omega)] at hy
                by_cases h2 : i - first.length < vs.length
                · rw [List.getElem?_append_left h2] at hx
                  rw [Array.getElem?_append_left (by omega)] at hy
                  exact hargs.2 _ x y hx (by rw [l1]; exact hy)
                · rw [List.getElem?_append_right (by omega)] at hx
                  rw [Array.getElem?_append_right (by omega)] at hy
                  refine r2 _ x y hx ?_
                  rw [l1, ha]; exact hy
            have := CO.fn tot ω f _ h E w _ hh hG hargs' (fun ω' hω => by have := hw ω' hω; rw [hx] at this; simpa using this)
            exact (this.mono fun u w' hq => callRes_op hh hf hs hx hq).opd (run_callV ho hce hy)
          | _ => rw [hy] at hfn; cases hfn
        · rename_i id vs hvf hv
          have hx : ∀ ω', step (kont F n tot ω') r h (.callV y0 xs) = (round F n tot ω' id vs h).map fun y => (Reg.val y.1, r, y.2) := fun ω' => by simp only [step,hv,hvf]; rfl
          have hargs := args_rel hG hf hk hv
          have hfn := vl_spec hf (okX_rel (a := a) hG hk1) hvf
          have hy : a.eval y = .func (.yield (E.ob id)) #[] #[] := by
            generalize a.eval y = u at hfn
            cases hfn
            rfl
          have := CO.rd tot ω id vs h E w _ hh hG hargs (fun ω' hω => by have := hw ω' hω; rw [hx] at this; simpa using this)
          exact (this.mono fun u w' hq => callRes_op hh hf hs hx hq).opd (run_callY ho hce hy)
        · cases h0
      · cases hk
  · have hc : x.calls = false := by simpa using hc
    by_cases hnx : ∃ it, x = .next it
    · obtain ⟨it, rfl⟩ := hnx
      let t := w.tape w.drawn (.mapNext (askN r h it))
      let ω1 : Nat → Nat := fun i => if i = h.length then t else ω i
      have ha : Agree h.length ω ω1 := fun i hi => by simp only [ω1]; rw [if_neg (by omega)]
      obtain ⟨y, hy⟩ := Option.isSome_iff_exists.1 (hw ω1 ha)
      obtain ⟨reg, r', h'⟩ := y
      obtain ⟨u, w', E', k1, k2, k3, k4, k5, k6⟩ := st_sound hG hf hh hs rfl hk (fun it' e t' ht' => by
        cases e
        simp only [kont] at ht'
        split at ht'
        · have := Option.some.inj ht'
          simp only [ω1,if_true] at this
          exact this.symm
        · cases ht') hc hy
      refine .inl ⟨u, w', k1, ω1, E', reg, r', h', ha, fun ω' hω => ?_, k2, k3, k4, step_sorted hs hy, k5, k6⟩
      refine next_congr hy fun hlt => ?_
      simp only [kont]
      rw [hω _ hlt]
    · obtain ⟨y, hy⟩ := Option.isSome_iff_exists.1 (hw ω (.refl _ _))
      obtain ⟨reg, r', h'⟩ := y
      obtain ⟨u, w', E', k1, k2, k3, k4, k5, k6⟩ := st_sound hG hf hh hs rfl hk (fun it e => absurd ⟨it, e⟩ hnx) hc hy
      refine .inl ⟨u, w', k1, ω, E', reg, r', h', .refl _ _, fun ω' _ => ?_, k2, k3, k4, step_sorted hs hy, k5, k6⟩
      rw [step_indep ω' ω hc (fun it e => hnx ⟨it, e⟩), hy]
end
end Go.Im

/- Joined: ImExt, ImExt2, ImExt3. -/
import Derived.Test.YtcnbllelfinlmaaDoorImFun
import Derived.Lib.Bytealg
import Derived.Laws.Externs
import Derived.Test.YtcnbllelfinlmaaDoorImEntry
/- ImExt: functions without a body that are known by what they do: the comparing of two strings. -/
set_option linter.unusedVariables false
namespace Go.Im
open Go

def cmpG : Kont → List AV → Hp → Option (AV × Hp) := fun _ args h => match args with
  | [.str a, .str b] => some (.int .i64 (Go.Lib.compareBytes a b), h)
  | _ => none

theorem cmpG_ok {P : Program} {GT : GTab} {F : Fns} {f : FuncId} {fn : Func} (hf : P.funcs[f]? = some fn) (hn : (fn.name == "runtime.NumGoroutine") = false) (hb : fn.body.isNone = true)
    (hx : Extern.findNext fn = none) (he : Extern.find fn = some Extern.BytealgCompare.compare) : ExtOk P GT F f cmpG := by
  intro n CO tot ω args h E w vs hh hG ha hw
  have h0 := hw ω (.refl _ _)
  unfold cmpG at h0
  split at h0
  · rename_i a b
    obtain ⟨hl, hv⟩ := ha
    match vs, hl, hv with
    | ⟨[x, y]⟩, _, hv =>
      have hx' := hv 0 _ _ rfl rfl
      have hy' := hv 1 _ _ rfl rfl
      cases hx'
      cases hy'
      refine .inr ⟨.int .i64 (Go.Lib.compareBytes a b), w, ?_, ω, .int .i64 (Go.Lib.compareBytes a b), h, E, .refl _ _, fun _ _ => rfl, .int _ _, Keep.refl _ _ _ _, hh⟩
      rw [run_callFunc_extern hf hn hb hx he]
      have h2 := Go.Lib.run_compareString (P := P) ⟨a.toArray⟩ ⟨b.toArray⟩ w
      have h3 : (Extern.BytealgCompare.compare ⟨[Value.string ⟨a.toArray⟩, Value.string ⟨b.toArray⟩]⟩).run P w = .ok (.int .i64 (Go.Lib.compareBytes a b)) w := h2
      rw [h3]
      rfl
  · cases h0

end Go.Im

/- ImExt2: functions without a body: the place of a byte in a string; one that is not called. -/
set_option linter.unusedVariables false
namespace Go.Im
open Go

theorem ext_of {P : Program} {GT : Nat → Option AV} {F F0 : Fns} {okD : Nat → Array Oper → List (List Nat) → List AOper → Bool} (TO : TableOk P GT F0 okD) {f : FuncId} {g : Kont → List AV → Hp → Option (AV × Hp)} (N : Nat)
    (hc : ∀ K args h v h', g K args h = some (v, h') → (∀ K', g K' args h = some (v, h')) ∧ ∀ tot ω, call F0 N tot ω f args h = some (v, h')) : ExtOk P (gtab P GT okD) F f g := by
  intro n CO tot ω args h E w vs hh hG ha hw
  obtain ⟨⟨v, h'⟩, h0⟩ := Option.isSome_iff_exists.1 (hw ω (.refl _ _))
  obtain ⟨h1, h2⟩ := hc _ _ _ _ _ h0
  refine ((callsOk TO N).fn tot ω f args h E w vs hh hG ha fun ω' _ => by rw [h2]; rfl).mono fun u w' ⟨ω1, v2, h3, E', a1, a2, a3, a4, a5⟩ => ?_
  have e : call F0 N tot ω1 f args h = some (v2, h3) := a2 ω1 (.refl _ _)
  rw [h2] at e
  cases e
  exact ⟨ω1, v, h', E', a1, fun ω' _ => h1 _, a3, a4, a5⟩

end Go.Im

/- ImExt3: a function that wants nothing and says yes, whatever there is: run once from an empty heap. -/
set_option linter.unusedVariables false
namespace Go.Im
open Go

def yesG : Kont → List AV → Hp → Option (AV × Hp) := fun _ args h => match args with
  | [] => some (.bool true, h)
  | _ => none

theorem yesG_ok {P : Program} {GT : Nat → Option AV} {F F0 : Fns} {okD : Nat → Array Oper → List (List Nat) → List AOper → Bool} (TO : TableOk P GT F0 okD) {f : FuncId} (hf : okFn P f = true) (hen : ∀ (vs : Array Value) (w : World), (callFunc f vs).run P w = .ok (.enter f vs) w) (N : Nat)
    (hc : ∀ ω, ∃ h', call F0 N true ω f [] [] = some (.bool true, h')) : ExtOk P (gtab P GT okD) F f yesG := by
  intro n CO tot ω args h E w vs hh hG ha hw
  have h0 := hw ω (.refl _ _)
  unfold yesG at h0
  split at h0
  · have hv : vs = #[] := by
      have := ha.1
      simp at this
      exact Array.eq_empty_of_size_eq_zero this.symm
    subst hv
    have hG' : GOk (.of w (gtab P GT okD).cd) (gtab P GT okD) := by
      have hle : E.bare.le (Env.of w (gtab P GT okD).cd).bare := ⟨Nat.le_refl _, fun id hi => absurd hi (Nat.not_lt_zero _), fun id hi => absurd hi (Nat.not_lt_zero _), fun b o u hu => hh.sg b o u hu, hG.2.symm⟩
      exact ⟨fun g v hv => (hG.1 g v hv).mono hle, rfl⟩
    refine .inl ⟨hen _ _, (entry (callsOk TO N) hf hG' ⟨rfl, fun i x y hx => by simp at hx⟩ hc).mono fun e w' ⟨e1, e2⟩ => ⟨_, e1, ω, .bool true, h, E, .refl _ _, fun _ _ => rfl, .bool _, ?_, ?_⟩⟩
    · exact Keep.grow E h _ ⟨e2.size, e2.heap, e2.os, e2.out⟩
    · exact hh.grow ⟨e2.size, e2.heap, e2.os, e2.out⟩
  · cases h0

end Go.Im

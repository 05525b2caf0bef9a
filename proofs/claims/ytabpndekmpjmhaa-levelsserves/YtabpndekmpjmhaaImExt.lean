/- ImExt: functions without a body that are known by what they do: the comparing of two strings. -/
import Derived.Test.YtabpndekmpjmhaaImFun
import Derived.Lib.Bytealg
import Derived.Laws.Externs
set_option linter.unusedVariables false
namespace Go.Im
open Go

def cmpG : Kont → List AV → Hp → Option (AV × Hp) := fun _ args h => match args with
  | [.str a, .str b] => some (.int .i64 (Go.Lib.compareBytes a b), h)
  | _ => none

theorem cmpG_ok {P : Program} {GT : GTab} {F : Fns} {f : FuncId} {fn : Func} (hf : P.funcs[f]? = some fn) (hn : (fn.name == "runtime.NumGoroutine") = false) (hb : fn.body.isNone = true)
    (hx : Extern.findNext fn = none) (he : Extern.find fn = some Extern.BytealgCompare.compare) : ExtOk P GT F f cmpG := by
  intro n CO tot ω args h E w vs hh hG ha hw
  have h0 := hw ω (.refl _ _)
  unfold cmpG at h0
  split at h0
  · rename_i a b
    obtain ⟨hl, hv⟩ := ha
    match vs, hl, hv with
    | ⟨[x, y]⟩, _, hv =>
      have hx' := hv 0 _ _ rfl rfl
      have hy' := hv 1 _ _ rfl rfl
      cases hx'
      cases hy'
      refine .inr ⟨.int .i64 (Go.Lib.compareBytes a b), w, ?_, ω, .int .i64 (Go.Lib.compareBytes a b), h, E, .refl _ _, fun _ _ => rfl, .int _ _, Keep.refl _ _ _ _, hh⟩
      rw [run_callFunc_extern hf hn hb hx he]
      have h2 := Go.Lib.run_compareString (P := P) ⟨a.toArray⟩ ⟨b.toArray⟩ w
      have h3 : (Extern.BytealgCompare.compare ⟨[Value.string ⟨a.toArray⟩, Value.string ⟨b.toArray⟩]⟩).run P w = .ok (.int .i64 (Go.Lib.compareBytes a b)) w := h2
      rw [h3]
      rfl
  · cases h0

end Go.Im

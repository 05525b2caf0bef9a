/- ImSort2: slices.SortFunc at the idealised machine: insertion. -/
import Derived.Test.YtpgmohjmpaifbaaDoorImSort1
set_option linter.unusedVariables false
set_option linter.unusedSimpArgs false
set_option linter.unusedSectionVars false
namespace Go.Im
open Go.Sort

section
variable {α : Type} [Inhabited α] {F : Fns} {I : SortIds} {ag : Bool} {sz : Nat} {e : α → AV} {lt : α → α → Bool} {tot : Bool} {ω : Nat → Nat} {B : Nat} {g : FuncId} {fs caps : List AV} {h0 : Hp} {id : Nat} {pre post : List AV}

end
end Go.Im

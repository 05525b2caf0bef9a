/- S22Awake: the laws' first look, run. -/
import Derived.Test.YtljcnoifjhifcaaDoorTabs
import Derived.KernelRfl
open Go Go.Im
namespace Go.Proofs.YtljcnoifjhifcaaDoor.Im

/-- The heap behind the first look. -/
def H1 : Hp := ((call F 200 true (fun _ => 0) 8 [] []).getD (.bool false, [])).2

theorem awake1 (m : Nat) (ω : Nat → Nat) : call F (m + 200) true ω 8 [] [] = some (.bool true, H1) := by kernel_rfl

end Go.Proofs.YtljcnoifjhifcaaDoor.Im

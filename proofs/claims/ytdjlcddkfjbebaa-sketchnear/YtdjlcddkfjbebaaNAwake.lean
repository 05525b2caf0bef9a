/- S18NAwake: the laws' first look, run. -/
import Derived.Test.YtdjlcddkfjbebaaTabs
import Derived.KernelRfl
open Go Go.Im
namespace Go.Proofs.Ytdjlcddkfjbebaa.Im

def H1 : Hp := ((call F 200 true (fun _ => 0) 8 [] []).getD (.bool false, [])).2
def H2 : Hp := ((call F 200 true (fun _ => 0) 8 [] H1).getD (.bool false, [])).2

theorem awake1 (m : Nat) (ω : Nat → Nat) : call F (m + 200) true ω 8 [] [] = some (.bool true, H1) := by kernel_rfl
theorem awake2 (m : Nat) (ω : Nat → Nat) : call F (m + 200) true ω 8 [] H1 = some (.bool true, H2) := by kernel_rfl

end Go.Proofs.Ytdjlcddkfjbebaa.Im

/- S14Awake: the law's first look, run. -/
import Derived.Test.YtabpndekmpjmhaaTabs
import Derived.KernelRfl
open Go Go.Im
namespace Go.Proofs.Ytabpndekmpjmhaa.Im

def H1 : Hp := ((call F 200 true (fun _ => 0) 4 [] []).getD (.bool false, [])).2
def H2 : Hp := ((call F 200 true (fun _ => 0) 4 [] H1).getD (.bool false, [])).2

theorem awake1 (m : Nat) (ω : Nat → Nat) : call F (m + 200) true ω 4 [] [] = some (.bool true, H1) := by kernel_rfl
theorem awake2 (m : Nat) (ω : Nat → Nat) : call F (m + 200) true ω 4 [] H1 = some (.bool true, H2) := by kernel_rfl

end Go.Proofs.Ytabpndekmpjmhaa.Im

/- S13Awake: the laws' first look, run. -/
import Derived.Test.YtlognommhffmcaaTabs
import Derived.KernelRfl
open Go Go.Im
namespace Go.Proofs.Ytlognommhffmcaa.Im

/-- The heap behind the first look. -/
def H1 : Hp := ((call F 200 true (fun _ => 0) 6 [] []).getD (.bool false, [])).2

def H2 : Hp := ((call F 200 true (fun _ => 0) 6 [] H1).getD (.bool false, [])).2

theorem awake1 (m : Nat) (ω : Nat → Nat) : call F (m + 200) true ω 6 [] [] = some (.bool true, H1) := by kernel_rfl
theorem awake2 (m : Nat) (ω : Nat → Nat) : call F (m + 200) true ω 6 [] H1 = some (.bool true, H2) := by kernel_rfl

end Go.Proofs.Ytlognommhffmcaa.Im

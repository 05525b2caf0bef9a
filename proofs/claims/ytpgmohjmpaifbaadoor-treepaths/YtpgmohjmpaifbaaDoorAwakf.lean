/- S21Awakf: the law's second look, run. -/
import Derived.Test.YtpgmohjmpaifbaaDoorTabs
import Derived.Test.YtpgmohjmpaifbaaDoorAwake
import Derived.KernelRfl
open Go Go.Im
namespace Go.Proofs.YtpgmohjmpaifbaaDoor.Im

def saysTrue : Option (AV × Hp) → Bool
  | some (.bool true, _) => true
  | _ => false
theorem saysTrue_ex {o : Option (AV × Hp)} (h : saysTrue o = true) : ∃ h', o = some (.bool true, h') := by
  unfold saysTrue at h
  split at h
  · exact ⟨_, rfl⟩
  · cases h

theorem awake2 (m : Nat) (ω : Nat → Nat) : saysTrue (call F (m + 300) true ω 10 [] H1) = true := by kernel_rfl

end Go.Proofs.YtpgmohjmpaifbaaDoor.Im

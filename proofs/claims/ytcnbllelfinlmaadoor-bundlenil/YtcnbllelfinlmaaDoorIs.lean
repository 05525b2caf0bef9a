/- S20Is: which functions stand where. -/
import Derived.Test.YtcnbllelfinlmaaDoorBIs
import Derived.KernelRfl
open Go Go.Im
namespace Go.Proofs.YtcnbllelfinlmaaDoor.Im

theorem f7 : F 7 = some (.inl a7) := by kernel_rfl
theorem f22 : F 22 = some (.inl a22) := by kernel_rfl
theorem f25 : F 25 = some (.inl a25) := by kernel_rfl
theorem f26 : F 26 = some (.inl a26) := by kernel_rfl
theorem f27 : F 27 = some (.inl a27) := by kernel_rfl
theorem f29 : F 29 = some (.inl a29) := by kernel_rfl
end Go.Proofs.YtcnbllelfinlmaaDoor.Im

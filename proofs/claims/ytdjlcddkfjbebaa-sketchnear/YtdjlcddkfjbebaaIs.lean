/- S18Is: which functions stand where. -/
import Derived.Test.YtdjlcddkfjbebaaTabs
import Derived.KernelRfl
open Go Go.Im
namespace Go.Proofs.Ytdjlcddkfjbebaa.Im

theorem f6 : F 6 = some (.inl a6) := by kernel_rfl
theorem f8 : F 8 = some (.inl a8) := by kernel_rfl
theorem f9 : F 9 = some (.inl a9) := by kernel_rfl
theorem f10 : F 10 = some (.inl a10) := by kernel_rfl
theorem f11 : F 11 = some (.inl a11) := by kernel_rfl
theorem f12 : F 12 = some (.inl a12) := by kernel_rfl
theorem f13 : F 13 = some (.inl a13) := by kernel_rfl
theorem f14 : F 14 = some (.inl a14) := by kernel_rfl
theorem f15 : F 15 = some (.inl a15) := by kernel_rfl
theorem f16 : F 16 = some (.inl a16) := by kernel_rfl
theorem f17 : F 17 = some (.inl a17) := by kernel_rfl
theorem f18 : F 18 = some (.inl a18) := by kernel_rfl
theorem f19 : F 19 = some (.inl a19) := by kernel_rfl
theorem f20 : F 20 = some (.inl a20) := by kernel_rfl
theorem f21 : F 21 = some (.inl a21) := by kernel_rfl
theorem f22 : F 22 = some (.inl a22) := by kernel_rfl
theorem f23 : F 23 = some (.inl a23) := by kernel_rfl
theorem f24 : F 24 = some (.inl a24) := by kernel_rfl
theorem f25 : F 25 = some (.inl a25) := by kernel_rfl
theorem f26 : F 26 = some (.inl a26) := by kernel_rfl
theorem f27 : F 27 = some (.inl a27) := by kernel_rfl
theorem f28 : F 28 = some (.inl a28) := by kernel_rfl
theorem f29 : F 29 = some (.inl a29) := by kernel_rfl
theorem f30 : F 30 = some (.inl a30) := by kernel_rfl
theorem f31 : F 31 = some (.inl a31) := by kernel_rfl
theorem f32 : F 32 = some (.inl a32) := by kernel_rfl
theorem f33 : F 33 = some (.inl a33) := by kernel_rfl
theorem f34 : F 34 = some (.inl a34) := by kernel_rfl
theorem f35 : F 35 = some (.inl a35) := by kernel_rfl
theorem f36 : F 36 = some (.inl a36) := by kernel_rfl
theorem f37 : F 37 = some (.inl a37) := by kernel_rfl
theorem f38 : F 38 = some (.inl a38) := by kernel_rfl
theorem f39 : F 39 = some (.inl a39) := by kernel_rfl
theorem f40 : F 40 = some (.inl a40) := by kernel_rfl
theorem f41 : F 41 = some (.inl a41) := by kernel_rfl
theorem f42 : F 42 = some (.inl a42) := by kernel_rfl
theorem f43 : F 43 = some (.inl a43) := by kernel_rfl
theorem f44 : F 44 = some (.inl a44) := by kernel_rfl
theorem f45 : F 45 = some (.inl a45) := by kernel_rfl
theorem f46 : F 46 = some (.inl a46) := by kernel_rfl
theorem f47 : F 47 = some (.inl a47) := by kernel_rfl
theorem f48 : F 48 = some (.inl a48) := by kernel_rfl
theorem f49 : F 49 = some (.inl a49) := by kernel_rfl

end Go.Proofs.Ytdjlcddkfjbebaa.Im

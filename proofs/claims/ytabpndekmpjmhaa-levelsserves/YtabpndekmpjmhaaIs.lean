/- S14Is: which functions stand where. -/
import Derived.Test.YtabpndekmpjmhaaTabs
import Derived.KernelRfl
open Go Go.Im
namespace Go.Proofs.Ytabpndekmpjmhaa.Im

theorem f3 : F 3 = some (.inl a3) := by kernel_rfl
theorem f4 : F 4 = some (.inl a4) := by kernel_rfl
theorem f5 : F 5 = some (.inl a5) := by kernel_rfl
theorem f6 : F 6 = some (.inl a6) := by kernel_rfl
theorem f7 : F 7 = some (.inl a7) := by kernel_rfl
theorem f8 : F 8 = some (.inl a8) := by kernel_rfl
theorem f9 : F 9 = some (.inl a9) := by kernel_rfl
theorem f10 : F 10 = some (.inl a10) := by kernel_rfl
theorem f11 : F 11 = some (.inl a11) := by kernel_rfl
theorem f12 : F 12 = some (.inl a12) := by kernel_rfl
theorem f13 : F 13 = some (.inl a13) := by kernel_rfl
theorem f14 : F 14 = some (.inl a14) := by kernel_rfl
theorem f15 : F 15 = some (.inl a15) := by kernel_rfl
theorem f16 : F 16 = some (.inl a16) := by kernel_rfl
theorem f17 : F 17 = some (.inl a17) := by kernel_rfl
theorem f18 : F 18 = some (.inl a18) := by kernel_rfl
theorem f19 : F 19 = some (.inl a19) := by kernel_rfl
theorem f20 : F 20 = some (.inl a20) := by kernel_rfl
theorem f21 : F 21 = some (.inl a21) := by kernel_rfl
theorem f22 : F 22 = some (.inl a22) := by kernel_rfl
theorem f23 : F 23 = some (.inl a23) := by kernel_rfl
theorem f24 : F 24 = some (.inl a24) := by kernel_rfl
theorem f25 : F 25 = some (.inl a25) := by kernel_rfl
theorem f26 : F 26 = some (.inl a26) := by kernel_rfl
theorem f27 : F 27 = some (.inl a27) := by kernel_rfl
theorem f28 : F 28 = some (.inl a28) := by kernel_rfl
theorem f29 : F 29 = some (.inl a29) := by kernel_rfl
theorem f30 : F 30 = some (.inl a30) := by kernel_rfl
theorem f31 : F 31 = some (.inl a31) := by kernel_rfl
theorem f32 : F 32 = some (.inl a32) := by kernel_rfl
theorem f33 : F 33 = some (.inl a33) := by kernel_rfl
theorem f34 : F 34 = some (.inl a34) := by kernel_rfl
theorem f35 : F 35 = some (.inl a35) := by kernel_rfl
theorem f36 : F 36 = some (.inl a36) := by kernel_rfl
theorem f37 : F 37 = some (.inl a37) := by kernel_rfl
theorem f38 : F 38 = some (.inl a38) := by kernel_rfl
theorem f39 : F 39 = some (.inl a39) := by kernel_rfl
theorem f40 : F 40 = some (.inl a40) := by kernel_rfl
theorem f41 : F 41 = some (.inl a41) := by kernel_rfl
theorem f42 : F 42 = some (.inl a42) := by kernel_rfl
theorem f43 : F 43 = some (.inl a43) := by kernel_rfl
theorem f44 : F 44 = some (.inl a44) := by kernel_rfl
theorem f45 : F 45 = some (.inl a45) := by kernel_rfl
theorem f46 : F 46 = some (.inl a46) := by kernel_rfl
theorem f47 : F 47 = some (.inl a47) := by kernel_rfl
theorem f48 : F 48 = some (.inl a48) := by kernel_rfl
theorem f49 : F 49 = some (.inl a49) := by kernel_rfl
theorem f50 : F 50 = some (.inl a50) := by kernel_rfl
theorem f51 : F 51 = some (.inl a51) := by kernel_rfl
theorem f52 : F 52 = some (.inl a52) := by kernel_rfl
theorem f53 : F 53 = some (.inl a53) := by kernel_rfl
theorem f54 : F 54 = some (.inl a54) := by kernel_rfl
theorem f55 : F 55 = some (.inl a55) := by kernel_rfl
theorem f56 : F 56 = some (.inl a56) := by kernel_rfl
theorem f57 : F 57 = some (.inl a57) := by kernel_rfl
theorem f58 : F 58 = some (.inl a58) := by kernel_rfl
theorem f59 : F 59 = some (.inl a59) := by kernel_rfl
theorem f60 : F 60 = some (.inl a60) := by kernel_rfl
theorem f61 : F 61 = some (.inl a61) := by kernel_rfl
theorem f63 : F 63 = some (.inl a63) := by kernel_rfl
theorem f64 : F 64 = some (.inl a64) := by kernel_rfl
theorem f65 : F 65 = some (.inl a65) := by kernel_rfl
theorem f66 : F 66 = some (.inl a66) := by kernel_rfl
theorem f67 : F 67 = some (.inl a67) := by kernel_rfl

end Go.Proofs.Ytabpndekmpjmhaa.Im

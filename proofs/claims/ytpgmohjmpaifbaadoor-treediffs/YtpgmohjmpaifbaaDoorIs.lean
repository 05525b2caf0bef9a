/- S21Is: which functions stand where. -/
import Derived.Test.YtpgmohjmpaifbaaDoorTabs
import Derived.KernelRfl
open Go Go.Im
namespace Go.Proofs.YtpgmohjmpaifbaaDoor.Im

theorem f7 : F 7 = some (.inl a7) := by kernel_rfl
theorem f11 : F 11 = some (.inl a11) := by kernel_rfl
theorem f12 : F 12 = some (.inl a12) := by kernel_rfl
theorem f13 : F 13 = some (.inl a13) := by kernel_rfl
theorem f14 : F 14 = some (.inl a14) := by kernel_rfl
theorem f15 : F 15 = some (.inl a15) := by kernel_rfl
theorem f16 : F 16 = some (.inl a16) := by kernel_rfl
theorem f18 : F 18 = some (.inl a18) := by kernel_rfl
theorem f21 : F 21 = some (.inl a21) := by kernel_rfl
theorem f22 : F 22 = some (.inl a22) := by kernel_rfl
theorem f24 : F 24 = some (.inl a24) := by kernel_rfl
theorem f25 : F 25 = some (.inl a25) := by kernel_rfl
theorem f29 : F 29 = some (.inl a29) := by kernel_rfl
theorem f30 : F 30 = some (.inl a30) := by kernel_rfl
theorem f43 : F 43 = some (.inl a43) := by kernel_rfl
theorem f44 : F 44 = some (.inl a44) := by kernel_rfl
theorem f45 : F 45 = some (.inl a45) := by kernel_rfl
theorem f46 : F 46 = some (.inl a46) := by kernel_rfl
theorem f47 : F 47 = some (.inl a47) := by kernel_rfl
theorem f48 : F 48 = some (.inl a48) := by kernel_rfl
theorem f49 : F 49 = some (.inl a49) := by kernel_rfl
theorem f50 : F 50 = some (.inl a50) := by kernel_rfl
theorem f52 : F 52 = some (.inl a52) := by kernel_rfl
theorem f53 : F 53 = some (.inl a53) := by kernel_rfl
theorem f55 : F 55 = some (.inl a55) := by kernel_rfl
theorem f74 : F 74 = some (.inl a74) := by kernel_rfl
theorem f75 : F 75 = some (.inl a75) := by kernel_rfl
theorem f76 : F 76 = some (.inl a76) := by kernel_rfl
theorem f77 : F 77 = some (.inl a77) := by kernel_rfl
theorem f78 : F 78 = some (.inl a78) := by kernel_rfl
theorem f79 : F 79 = some (.inl a79) := by kernel_rfl
theorem f80 : F 80 = some (.inl a80) := by kernel_rfl
theorem f82 : F 82 = some (.inl a82) := by kernel_rfl
theorem f83 : F 83 = some (.inl a83) := by kernel_rfl
theorem f84 : F 84 = some (.inl a84) := by kernel_rfl
theorem f85 : F 85 = some (.inl a85) := by kernel_rfl
theorem f99 : F 99 = some (.inl a99) := by kernel_rfl
theorem f100 : F 100 = some (.inl a100) := by kernel_rfl
theorem f101 : F 101 = some (.inl a101) := by kernel_rfl
theorem f102 : F 102 = some (.inl a102) := by kernel_rfl
theorem f103 : F 103 = some (.inl a103) := by kernel_rfl
theorem f104 : F 104 = some (.inl a104) := by kernel_rfl
theorem f105 : F 105 = some (.inl a105) := by kernel_rfl
theorem f106 : F 106 = some (.inl a106) := by kernel_rfl
theorem f107 : F 107 = some (.inl a107) := by kernel_rfl
theorem f109 : F 109 = some (.inl a109) := by kernel_rfl
theorem f110 : F 110 = some (.inl a110) := by kernel_rfl
theorem f111 : F 111 = some (.inl a111) := by kernel_rfl
theorem f112 : F 112 = some (.inl a112) := by kernel_rfl
theorem f114 : F 114 = some (.inl a114) := by kernel_rfl
theorem f115 : F 115 = some (.inl a115) := by kernel_rfl
theorem f117 : F 117 = some (.inl a117) := by kernel_rfl
theorem f118 : F 118 = some (.inl a118) := by kernel_rfl
theorem f119 : F 119 = some (.inl a119) := by kernel_rfl
theorem f121 : F 121 = some (.inl a121) := by kernel_rfl
theorem f122 : F 122 = some (.inl a122) := by kernel_rfl

end Go.Proofs.YtpgmohjmpaifbaaDoor.Im

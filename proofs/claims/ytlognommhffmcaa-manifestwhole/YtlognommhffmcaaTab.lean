/- Joined: S13XIs, S13XTab. -/
import Derived.Test.YtlognommhffmcaaTabs
import Derived.KernelRfl
import Derived.Test.YtlognommhffmcaaProg
import Derived.Test.YtlognommhffmcaaImRd
/- S13XIs: which functions stand where. -/
open Go Go.Im
namespace Go.Proofs.Ytlognommhffmcaa.Im

theorem f5 : F 5 = some (.inl a5) := by kernel_rfl
theorem f6 : F 6 = some (.inl a6) := by kernel_rfl
theorem f7 : F 7 = some (.inl a7) := by kernel_rfl
theorem f8 : F 8 = some (.inl a8) := by kernel_rfl
theorem f14 : F 14 = some (.inl a14) := by kernel_rfl
theorem f16 : F 16 = some (.inl a16) := by kernel_rfl
theorem f17 : F 17 = some (.inl a17) := by kernel_rfl
theorem f18 : F 18 = some (.inl a18) := by kernel_rfl
theorem f20 : F 20 = some (.inl a20) := by kernel_rfl
theorem f21 : F 21 = some (.inl a21) := by kernel_rfl
theorem f22 : F 22 = some (.inl a22) := by kernel_rfl
theorem f23 : F 23 = some (.inl a23) := by kernel_rfl
theorem f24 : F 24 = some (.inl a24) := by kernel_rfl
theorem f25 : F 25 = some (.inl a25) := by kernel_rfl
theorem f26 : F 26 = some (.inl a26) := by kernel_rfl
theorem f27 : F 27 = some (.inl a27) := by kernel_rfl
theorem f38 : F 38 = some (.inl a38) := by kernel_rfl
theorem f39 : F 39 = some (.inl a39) := by kernel_rfl
theorem f40 : F 40 = some (.inl a40) := by kernel_rfl
theorem f41 : F 41 = some (.inl a41) := by kernel_rfl
theorem f43 : F 43 = some (.inl a43) := by kernel_rfl
theorem f44 : F 44 = some (.inl a44) := by kernel_rfl
theorem f45 : F 45 = some (.inl a45) := by kernel_rfl
theorem f51 : F 51 = some (.inl a51) := by kernel_rfl
theorem f52 : F 52 = some (.inl a52) := by kernel_rfl
theorem f53 : F 53 = some (.inl a53) := by kernel_rfl
theorem f54 : F 54 = some (.inl a54) := by kernel_rfl
theorem f55 : F 55 = some (.inl a55) := by kernel_rfl
theorem f56 : F 56 = some (.inl a56) := by kernel_rfl
theorem f57 : F 57 = some (.inl a57) := by kernel_rfl
theorem f58 : F 58 = some (.inl a58) := by kernel_rfl
theorem f59 : F 59 = some (.inl a59) := by kernel_rfl
theorem f60 : F 60 = some (.inl a60) := by kernel_rfl
theorem f61 : F 61 = some (.inl a61) := by kernel_rfl
theorem f62 : F 62 = some (.inl a62) := by kernel_rfl
theorem f63 : F 63 = some (.inl a63) := by kernel_rfl
theorem f64 : F 64 = some (.inl a64) := by kernel_rfl
theorem f67 : F 67 = some (.inl a67) := by kernel_rfl
theorem f68 : F 68 = some (.inl a68) := by kernel_rfl
theorem f69 : F 69 = some (.inl a69) := by kernel_rfl
theorem f70 : F 70 = some (.inl a70) := by kernel_rfl
theorem f71 : F 71 = some (.inl a71) := by kernel_rfl
theorem f72 : F 72 = some (.inl a72) := by kernel_rfl
theorem f73 : F 73 = some (.inl a73) := by kernel_rfl
theorem f74 : F 74 = some (.inl a74) := by kernel_rfl
theorem f75 : F 75 = some (.inl a75) := by kernel_rfl
theorem f76 : F 76 = some (.inl a76) := by kernel_rfl
theorem f77 : F 77 = some (.inl a77) := by kernel_rfl
theorem f78 : F 78 = some (.inl a78) := by kernel_rfl
theorem f79 : F 79 = some (.inl a79) := by kernel_rfl
theorem f80 : F 80 = some (.inl a80) := by kernel_rfl
theorem f81 : F 81 = some (.inl a81) := by kernel_rfl
theorem f82 : F 82 = some (.inl a82) := by kernel_rfl
theorem f83 : F 83 = some (.inl a83) := by kernel_rfl
theorem f84 : F 84 = some (.inl a84) := by kernel_rfl
theorem f85 : F 85 = some (.inl a85) := by kernel_rfl
theorem f86 : F 86 = some (.inl a86) := by kernel_rfl
theorem f87 : F 87 = some (.inl a87) := by kernel_rfl
theorem f88 : F 88 = some (.inl a88) := by kernel_rfl
theorem f89 : F 89 = some (.inl a89) := by kernel_rfl
theorem f90 : F 90 = some (.inl a90) := by kernel_rfl
theorem f91 : F 91 = some (.inl a91) := by kernel_rfl
theorem f92 : F 92 = some (.inl a92) := by kernel_rfl
theorem f93 : F 93 = some (.inl a93) := by kernel_rfl
theorem f94 : F 94 = some (.inl a94) := by kernel_rfl
theorem f95 : F 95 = some (.inl a95) := by kernel_rfl
theorem f96 : F 96 = some (.inl a96) := by kernel_rfl
theorem f97 : F 97 = some (.inl a97) := by kernel_rfl
theorem f98 : F 98 = some (.inl a98) := by kernel_rfl
theorem f99 : F 99 = some (.inl a99) := by kernel_rfl
theorem f100 : F 100 = some (.inl a100) := by kernel_rfl
theorem f101 : F 101 = some (.inl a101) := by kernel_rfl
theorem f102 : F 102 = some (.inl a102) := by kernel_rfl
theorem f103 : F 103 = some (.inl a103) := by kernel_rfl
theorem f104 : F 104 = some (.inl a104) := by kernel_rfl
theorem f105 : F 105 = some (.inl a105) := by kernel_rfl
theorem f106 : F 106 = some (.inl a106) := by kernel_rfl
theorem f107 : F 107 = some (.inl a107) := by kernel_rfl
theorem f108 : F 108 = some (.inl a108) := by kernel_rfl
theorem f109 : F 109 = some (.inl a109) := by kernel_rfl
theorem f110 : F 110 = some (.inl a110) := by kernel_rfl
theorem f111 : F 111 = some (.inl a111) := by kernel_rfl
theorem f112 : F 112 = some (.inl a112) := by kernel_rfl
theorem f113 : F 113 = some (.inl a113) := by kernel_rfl
theorem f115 : F 115 = some (.inl a115) := by kernel_rfl
theorem f116 : F 116 = some (.inl a116) := by kernel_rfl
theorem f117 : F 117 = some (.inl a117) := by kernel_rfl
theorem f118 : F 118 = some (.inl a118) := by kernel_rfl
theorem f119 : F 119 = some (.inl a119) := by kernel_rfl
theorem f120 : F 120 = some (.inl a120) := by kernel_rfl

end Go.Proofs.Ytlognommhffmcaa.Im

/- S13XTab: the functions' idealised forms stand for the functions. -/
set_option linter.unusedVariables false
open Go Go.Im
namespace Go.Proofs.Ytlognommhffmcaa.Im

def GT : Nat → Option AV := fun _ => none

theorem okAll : ((List.range tab.size).all fun f => match F f with
  | some (.inl x) => okF Try.prog GT (fun N => okDrawA Try.prog GT N) f x
  | _ => true) = true := by kernel_rfl

theorem F_inl {f : FuncId} {x : AF} (h : F f = some (.inl x)) : f < tab.size := by
  unfold F at h
  split at h
  · cases h
  · split at h
    · rename_i y hy; exact (Array.getElem?_eq_some_iff.1 hy).1
    · cases h
theorem F_inr {f : FuncId} {g : Kont → List AV → Hp → Option (AV × Hp)} (h : F f = some (.inr g)) : f = 114 ∧ g = cmpG := by
  unfold F at h
  split at h
  · rename_i e; cases h; exact ⟨e, rfl⟩
  · split at h <;> cases h

theorem tableOk : TableOk Try.prog GT F (fun N => okDrawA Try.prog GT N) :=
  ⟨fun f x h => by
    have := List.all_eq_true.1 okAll f (List.mem_range.2 (F_inl h))
    rw [h] at this
    exact this,
   fun f g h => (by
    obtain ⟨rfl, rfl⟩ := F_inr h
    exact cmpG_ok Try.func114 (by kernel_rfl) (by kernel_rfl) (by kernel_rfl) (by kernel_rfl)),
   fun n tot N CO => draws_ok CO (by kernel_rfl)⟩

end Go.Proofs.Ytlognommhffmcaa.Im

/- S20Tab: the functions' idealised forms stand for the functions; the first look says yes. -/
import Derived.Test.YtcnbllelfinlmaaDoorProg
import Derived.Test.YtcnbllelfinlmaaDoorBm
import Derived.Test.YtcnbllelfinlmaaDoorBTab
import Derived.Test.YtcnbllelfinlmaaDoorImRd
import Derived.KernelRfl
set_option linter.unusedVariables false
open Go Go.Im
namespace Go.Proofs.YtcnbllelfinlmaaDoor.Im

theorem okAll : ((List.range tab.size).all fun f => match FA f with
  | some (.inl x) => okF Tryd.prog GT (fun N => okDrawA Tryd.prog GT N) f x
  | _ => true) = true := by kernel_rfl

theorem FA_inl {f : FuncId} {x : AF} (h : FA f = some (.inl x)) : f < tab.size := by
  unfold FA at h
  split at h
  · cases h
  · split at h
    · cases h
    · split at h
      · cases h
      · split at h
        · rename_i y hy; exact (Array.getElem?_eq_some_iff.1 hy).1
        · cases h
theorem FA_inr {f : FuncId} {g : Kont → List AV → Hp → Option (AV × Hp)} (h : FA f = some (.inr g)) : (f = 51 ∧ g = mixG) ∨ (f = 106 ∧ g = cmpG) ∨ (f = 75 ∧ g = crcG) := by
  unfold FA at h
  split at h
  · rename_i e; cases h; exact .inl ⟨e, rfl⟩
  · split at h
    · rename_i e; cases h; exact .inr (.inl ⟨e, rfl⟩)
    · split at h
      · rename_i e; cases h; exact .inr (.inr ⟨e, rfl⟩)
      · split at h <;> cases h

theorem ext_ok {F : Fns} {f : FuncId} {g : Kont → List AV → Hp → Option (AV × Hp)} (h : FA f = some (.inr g)) : ExtOk Tryd.prog (gtab Tryd.prog GT (fun N => okDrawA Tryd.prog GT N)) F f g := by
  rcases FA_inr h with ⟨rfl, rfl⟩ | ⟨rfl, rfl⟩ | ⟨rfl, rfl⟩
  · exact mixG_ok
  · exact cmpG_ok Tryd.func106 (by kernel_rfl) (by kernel_rfl) (by kernel_rfl) (by kernel_rfl)
  · exact crcG_ok

theorem code_ok {f : FuncId} {x : AF} (h : FA f = some (.inl x)) : okF Tryd.prog GT (fun N => okDrawA Tryd.prog GT N) f x = true := by
  have := List.all_eq_true.1 okAll f (List.mem_range.2 (FA_inl h))
  rw [h] at this
  exact this

theorem tableOkA : TableOk Tryd.prog GT FA (fun N => okDrawA Tryd.prog GT N) :=
  ⟨fun f x h => code_ok h, fun f g h => ext_ok h, fun n tot N CO => draws_ok CO (by kernel_rfl)⟩

def saysTrue : Option (AV × Hp) → Bool
  | some (.bool true, _) => true
  | _ => false
theorem saysTrue_ex {o : Option (AV × Hp)} (h : saysTrue o = true) : ∃ h', o = some (.bool true, h') := by
  unfold saysTrue at h
  split at h
  · exact ⟨_, rfl⟩
  · cases h
theorem awake (ω : Nat → Nat) : saysTrue (call FA 300 true ω 9 [] []) = true := by kernel_rfl

theorem tableOk : TableOk Tryd.prog GT F (fun N => okDrawA Tryd.prog GT N) :=
  ⟨fun f x h => by
    unfold F at h
    split at h
    · cases h
    · exact code_ok h,
   fun f g h => by
    unfold F at h
    split at h
    · rename_i e
      cases h
      subst e
      exact yesG_ok tableOkA (by kernel_rfl) (fun vs w => run_callFunc Tryd.func9 (by kernel_rfl) (by kernel_rfl)) 300 fun ω => saysTrue_ex (awake ω)
    · exact ext_ok h,
   fun n tot N CO => draws_ok CO (by kernel_rfl)⟩

end Go.Proofs.YtcnbllelfinlmaaDoor.Im

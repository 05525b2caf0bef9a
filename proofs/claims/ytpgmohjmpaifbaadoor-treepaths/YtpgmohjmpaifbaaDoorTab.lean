/- S21Tab: the functions' idealised forms stand for the functions. -/
import Derived.Test.YtpgmohjmpaifbaaDoorProg
import Derived.Test.YtpgmohjmpaifbaaDoorTabs
import Derived.Test.YtpgmohjmpaifbaaDoorBTab
import Derived.Test.YtpgmohjmpaifbaaDoorImRd
import Derived.KernelRfl
set_option linter.unusedVariables false
open Go Go.Im
namespace Go.Proofs.YtpgmohjmpaifbaaDoor.Im

theorem okAll : ((List.range tab.size).all fun f => match F f with
  | some (.inl x) => okF Tryd.prog GT (fun N => okDrawA Tryd.prog GT N) f x
  | _ => true) = true := by kernel_rfl

theorem F_inl {f : FuncId} {x : AF} (h : F f = some (.inl x)) : f < tab.size := by
  unfold F at h
  split at h
  · cases h
  · split at h
    · cases h
    · split at h
      · cases h
      · split at h
        · cases h
        · split at h
          · rename_i y hy; exact (Array.getElem?_eq_some_iff.1 hy).1
          · cases h
theorem F_inr {f : FuncId} {g : Kont → List AV → Hp → Option (AV × Hp)} (h : F f = some (.inr g)) : (f = 51 ∧ g = mixG) ∨ (f = 113 ∧ g = cmpG) ∨ (f = 116 ∧ g = nopG) ∨ (f = 120 ∧ g = idxG) := by
  unfold F at h
  split at h
  · rename_i e; cases h; exact .inl ⟨e, rfl⟩
  · split at h
    · rename_i e; cases h; exact .inr (.inl ⟨e, rfl⟩)
    · split at h
      · rename_i e; cases h; exact .inr (.inr (.inl ⟨e, rfl⟩))
      · split at h
        · rename_i e; cases h; exact .inr (.inr (.inr ⟨e, rfl⟩))
        · split at h <;> cases h

theorem tableOk : TableOk Tryd.prog GT F (fun N => okDrawA Tryd.prog GT N) :=
  ⟨fun f x h => by
    have := List.all_eq_true.1 okAll f (List.mem_range.2 (F_inl h))
    rw [h] at this
    exact this,
   fun f g h => (by
    rcases F_inr h with ⟨rfl, rfl⟩ | ⟨rfl, rfl⟩ | ⟨rfl, rfl⟩ | ⟨rfl, rfl⟩
    · exact mixG_ok
    · exact cmpG_ok Tryd.func113 (by kernel_rfl) (by kernel_rfl) (by kernel_rfl) (by kernel_rfl)
    · exact nopG_ok
    · exact idxG_ok Tryd.func120 (by kernel_rfl) (by kernel_rfl) (by kernel_rfl) (by kernel_rfl)),
   fun n tot N CO => draws_ok CO (by kernel_rfl)⟩

end Go.Proofs.YtpgmohjmpaifbaaDoor.Im

/- S14Tab: the functions' idealised forms stand for the functions. -/
import Derived.Test.YtabpndekmpjmhaaProg
import Derived.Test.YtabpndekmpjmhaaTabs
import Derived.Test.YtabpndekmpjmhaaImRd
import Derived.KernelRfl
set_option linter.unusedVariables false
open Go Go.Im
namespace Go.Proofs.Ytabpndekmpjmhaa.Im

def GT : Nat → Option AV := fun _ => none

theorem okAll : ((List.range tab.size).all fun f => match F f with
  | some (.inl x) => okF Try.prog GT (fun N => okDrawA Try.prog GT N) f x
  | _ => true) = true := by kernel_rfl

theorem F_inl {f : FuncId} {x : AF} (h : F f = some (.inl x)) : f < tab.size := by
  unfold F at h
  split at h
  · cases h
  · split at h
    · rename_i y hy; exact (Array.getElem?_eq_some_iff.1 hy).1
    · cases h
theorem F_inr {f : FuncId} {g : Kont → List AV → Hp → Option (AV × Hp)} (h : F f = some (.inr g)) : f = 62 ∧ g = cmpG := by
  unfold F at h
  split at h
  · rename_i e; cases h; exact ⟨e, rfl⟩
  · split at h <;> cases h

theorem tableOk : TableOk Try.prog GT F (fun N => okDrawA Try.prog GT N) :=
  ⟨fun f x h => by
    have := List.all_eq_true.1 okAll f (List.mem_range.2 (F_inl h))
    rw [h] at this
    exact this,
   fun f g h => (by
    obtain ⟨rfl, rfl⟩ := F_inr h
    exact cmpG_ok Try.func62 (by kernel_rfl) (by kernel_rfl) (by kernel_rfl) (by kernel_rfl)),
   fun n tot N CO => draws_ok CO (by kernel_rfl)⟩

end Go.Proofs.Ytabpndekmpjmhaa.Im

/- S18NTab: the functions' idealised forms stand for the functions. -/
import Derived.Test.YtdjlcddkfjbebaaProg
import Derived.Test.YtdjlcddkfjbebaaTabs
import Derived.Test.YtdjlcddkfjbebaaImRd
import Derived.KernelRfl
set_option linter.unusedVariables false
open Go Go.Im
namespace Go.Proofs.Ytdjlcddkfjbebaa.Im

def GT : Nat → Option AV := fun _ => none

theorem okAll : ((List.range tab.size).all fun f => match F f with
  | some (.inl x) => okF Try.prog GT (fun N => okDrawA Try.prog GT N) f x
  | _ => true) = true := by kernel_rfl

theorem F_lt {f : FuncId} {x : AF ⊕ (Kont → List AV → Hp → Option (AV × Hp))} (h : F f = some x) : f < tab.size ∧ ∃ y, x = .inl y := by
  unfold F at h
  split at h
  · rename_i y hy
    cases h
    exact ⟨(Array.getElem?_eq_some_iff.1 hy).1, y, rfl⟩
  · cases h

theorem tableOk : TableOk Try.prog GT F (fun N => okDrawA Try.prog GT N) :=
  ⟨fun f x h => by
    have := List.all_eq_true.1 okAll f (List.mem_range.2 (F_lt h).1)
    rw [h] at this
    exact this,
   fun f g h => (by obtain ⟨_, y, hy⟩ := F_lt h; cases hy),
   fun n tot N CO => draws_ok CO (by kernel_rfl)⟩

end Go.Proofs.Ytdjlcddkfjbebaa.Im

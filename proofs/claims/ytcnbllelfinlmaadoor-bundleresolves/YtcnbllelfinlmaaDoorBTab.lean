/- S20BTab: sha.mixed's idealised form stands for it; what it does. -/
import Derived.Test.YtcnbllelfinlmaaDoorProg
import Derived.Test.YtcnbllelfinlmaaDoorBm
import Derived.Test.YtcnbllelfinlmaaDoorDec
import Derived.Test.YtcnbllelfinlmaaDoorImRd
import Derived.Test.YtcnbllelfinlmaaDoorImExt3
import Derived.KernelRfl
set_option linter.unusedVariables false
open Go Go.Im
namespace Go.Proofs.YtcnbllelfinlmaaDoor.Im

theorem okAllB : ((List.range tabB.size).all fun f => match FB f with
  | some (.inl x) => okF Tryd.prog GT (fun N => okDrawA Tryd.prog GT N) f x
  | _ => true) = true := by kernel_rfl

theorem FB_lt {f : FuncId} {x : AF ⊕ (Kont → List AV → Hp → Option (AV × Hp))} (h : FB f = some x) : f < tabB.size ∧ ∃ y, x = .inl y := by
  unfold FB at h
  split at h
  · rename_i y hy
    cases h
    exact ⟨(Array.getElem?_eq_some_iff.1 hy).1, y, rfl⟩
  · cases h

theorem tableOkB : TableOk Tryd.prog GT FB (fun N => okDrawA Tryd.prog GT N) :=
  ⟨fun f x h => by
    have := List.all_eq_true.1 okAllB f (List.mem_range.2 (FB_lt h).1)
    rw [h] at this
    exact this,
   fun f g h => (by obtain ⟨_, y, hy⟩ := FB_lt h; cases hy),
   fun n tot N CO => draws_ok CO (by kernel_rfl)⟩

theorem mixG_ok {F : Fns} : ExtOk Tryd.prog (gtab Tryd.prog GT (fun N => okDrawA Tryd.prog GT N)) F 51 mixG := by
  refine ext_of tableOkB 100 ?_
  intro K args h v h' hg
  unfold mixG at hg
  split at hg
  · rename_i a b c d e f g i bs
    split at hg
    · rename_i ys hy
      split at hg
      · rename_i hl
        cases hg
        obtain ⟨h1, h2⟩ := hl
        refine ⟨fun K' => ?_, fun tot ω => ?_⟩
        · simp only [mixG,hy,if_pos (show ys.length = 64 ∧ (ys.all fun x => decide (0 ≤ x ∧ x ≤ 255)) = true from ⟨h1,h2⟩)]
        · rw [unInts_some hy]
          refine c51 ⟨a, b, c, d, e, f, g, i⟩ ys h1 (fun x hx => ?_) (by omega)
          have := List.all_eq_true.1 h2 x hx
          simpa using this
      · cases hg
    · cases hg
  · cases hg

theorem crcG_ok {F : Fns} : ExtOk Tryd.prog (gtab Tryd.prog GT (fun N => okDrawA Tryd.prog GT N)) F 75 crcG := by
  refine ext_of tableOkB 1000100 ?_
  intro K args h v h' hg
  unfold crcG at hg
  split at hg
  · rename_i s c
    split at hg
    · rename_i hl
      cases hg
      exact ⟨fun K' => by simp only [crcG,if_pos hl], fun tot ω => c75 s c hl (by omega)⟩
    · cases hg
  · cases hg

end Go.Proofs.YtcnbllelfinlmaaDoor.Im

/- S20Ba: what every text here needs. -/
import Derived.Test.YtcnbllelfinlmaaDoorIs
import Derived.Test.YtcnbllelfinlmaaDoorImRow
import Derived.Test.YtcnbllelfinlmaaDoorImSl
import Derived.Test.YtcnbllelfinlmaaDoorImApp
import Derived.KernelRfl
set_option linter.unusedVariables false
set_option linter.unusedSimpArgs false
open Go Go.Im
namespace Go.Proofs.YtcnbllelfinlmaaDoor.Im

def IsRd (sz : Nat) (es : List AV) (v : AV) : Prop := (v = .nils ∧ es = []) ∨ ∃ c, v = .imm sz es c
theorem IsRd.len {sz : Nat} {es : List AV} {v : AV} (h : IsRd sz es v) : lenSl v = some es.length := by
  rcases h with ⟨rfl, rfl⟩ | ⟨c, rfl⟩ <;> rfl
theorem IsRd.imm {sz : Nat} {es : List AV} {v : AV} {i : Nat} (h : IsRd sz es v) (hi : i < es.length) : ∃ c, v = .imm sz es c := by
  rcases h with ⟨rfl, rfl⟩ | ⟨c, rfl⟩
  · exact absurd hi (Nat.not_lt_zero _)
  · exact ⟨c, rfl⟩
theorem hs0 (h l : Hp) (o : AO) : (h ++ l).set h.length o = h ++ l.set 0 o := by
  rw [List.set_append_right _ _ (Nat.le_refl _), Nat.sub_self]
theorem hsk (h l : Hp) (k : Nat) (o : AO) : (h ++ l).set (h.length + k) o = h ++ l.set k o := by
  rw [List.set_append_right _ _ (by omega)]; congr 2; omega
def Below (lo : Nat) (h h' : Hp) : Prop := h.length ≤ h'.length ∧ ∀ i, i < lo → h'[i]? = h[i]?
theorem Below.refl (lo : Nat) (h : Hp) : Below lo h h := ⟨Nat.le_refl _, fun _ _ => rfl⟩
theorem Below.trans {lo : Nat} {a b c : Hp} (x : Below lo a b) (y : Below lo b c) : Below lo a c := ⟨Nat.le_trans x.1 y.1, fun i hi => (y.2 i hi).trans (x.2 i hi)⟩
def LateApp (lo sz : Nat) (es : List AV) (h : Hp) (v : AV) : Prop := IsApp sz es h v ∧ ∀ id c, v = .imm sz es (.tok id c) → lo ≤ id
theorem LateApp.keep {lo sz : Nat} {es : List AV} {h h' : Hp} {v : AV} (hv : LateApp lo sz es h v) (hk : ∀ (i : Nat) (o : AO), h[i]? = some o → h'[i]? = some o) : LateApp lo sz es h' v := by
  refine ⟨?_, hv.2⟩
  rcases hv.1 with h | h | ⟨id, h, e⟩
  · exact .inl h
  · exact .inr (.inl h)
  · exact .inr (.inr ⟨id, h, hk _ _ e⟩)
def TokAt (sz : Nat) (es : List AV) (h : Hp) (v : AV) (tk : Option Nat) : Prop := IsApp sz es h v ∧ ∀ id c, v = .imm sz es (.tok id c) → tk = some id
theorem TokAt.keep {sz : Nat} {es : List AV} {h h' : Hp} {v : AV} {tk : Option Nat} (hv : TokAt sz es h v tk) (hk : ∀ (i : Nat) (o : AO), tk = some i → h[i]? = some o → h'[i]? = some o) : TokAt sz es h' v tk := by
  refine ⟨?_, hv.2⟩
  rcases hv.1 with h | h | ⟨id, h, e⟩
  · exact .inl h
  · exact .inr (.inl h)
  · exact .inr (.inr ⟨id, h, hk _ _ (hv.2 _ _ h) e⟩)
theorem f9 : F 9 = some (.inr yesG) := by kernel_rfl
theorem c9 {n : Nat} {tot : Bool} {ω : Nat → Nat} {h : Hp} (hn : 0 < n) : call F n tot ω 9 [] h = some (.bool true, h) := by
  obtain ⟨n, rfl⟩ : ∃ m, n = m + 1 := ⟨n - 1, by omega⟩
  rw [call_inr f9]; rfl
end Go.Proofs.YtcnbllelfinlmaaDoor.Im

/- A nil book, and a disk that is none: ManifestNil answers true for every edit and every number of a file. No condition. -/
import Derived.Test.YtlognommhffmcaaGreatRows
import Derived.Test.YtlognommhffmcaaGreatTab
import Derived.Test.YtlognommhffmcaaGreatNilR
set_option linter.unusedVariables false
set_option linter.unusedSimpArgs false
open Go Go.Im
namespace Go.Proofs.YtlognommhffmcaaGreat
open Go.Proofs.YtlognommhffmcaaGreat.Im Go.ChangeShapes Go.WideShapes Go.ChangeAt Go.RowKit

theorem manifestNil_im (avs : List AV) (h : RdAll Tryz.prog 10 Tryz.f4.params.toList avs) : ∃ n, ∀ ω, ∃ h', call F n true ω 4 avs [] = some (.bool true, h') := by
  have hp : Tryz.f4.params.toList = [49, 3] := by rw [Tryz.params4]
  rw [hp] at h
  obtain ⟨a, r, rfl, h1, h⟩ := rdAll_cons h
  obtain ⟨b, r, rfl, h2, h⟩ := rdAll_cons h
  cases rdAll_nil h
  obtain ⟨f, rfl, _⟩ := rdT_int Tryz.underlying3 h2
  obtain ⟨l, rfl, g⟩ := rdT_structC Tryz.underlying49 h1
  obtain ⟨x0, r, rfl, g0, g⟩ := g
  obtain ⟨x1, r, rfl, g1, g⟩ := g
  obtain ⟨x2, r, rfl, g2, g⟩ := g
  obtain ⟨x3, r, rfl, g3, g⟩ := g
  obtain ⟨x4, r, rfl, g4, g⟩ := g
  obtain ⟨x5, r, rfl, g5, g⟩ := g
  cases g
  obtain ⟨a, rfl, _⟩ := rdC_int Tryz.underlying3 g0
  obtain ⟨b, rfl, _⟩ := rdC_int Tryz.underlying3 g1
  obtain ⟨c, rfl, _⟩ := rdC_int Tryz.underlying3 g2
  obtain ⟨d, rfl, _⟩ := rdC_int Tryz.underlying3 g3
  obtain ⟨s, rfl, hs1⟩ := rdC_str Tryz.underlying9 g4
  obtain ⟨t, rfl, hs2⟩ := rdC_str Tryz.underlying9 g5
  refine ⟨300, fun ω => ?_⟩
  have := run_nil ω a b c d f s t
  obtain ⟨y, e1, e2⟩ := map_some this
  obtain ⟨v, h'⟩ := y
  simp only at e2
  subst e2
  exact ⟨h', e1⟩

theorem own : ownKnob Tryz.prog.godebug = none := by kernel_rfl

set_option maxRecDepth 100000 in
theorem manifestNil_lifted (os : Os) (started : os.Started) (H : Type) (enc : TypeId × Value → H) :
    ReturnsInHanded {} Tryz.checked os 4 .any (Rows.manifestNilSpec.pre6 enc Tryz.prog Tryz.f4 Rows.manifestNilRow.domain false) (Rows.manifestNilSpec.post enc Tryz.prog Tryz.f4 false true false false) := by
  refine returnsInHanded_of_change (C := Tryz.checked) own started (by kernel_rfl) Tryz.func4
    (ChangeSpec.witness6 (enc := enc) (C := Tryz.checked) false ⟨#[], #[.agg #[.int .i64 0, .int .i64 0, .int .i64 0, .int .i64 0, .string .empty, .string .empty], .int .i64 0], []⟩ 12 (by kernel_rfl) (by kernel_rfl) (by kernel_rfl) (by kernel_rfl)) ?_
  intro W base args ds gs before hval hW _ _
  exact law_contract (P := Tryz.prog) (m := 10) (tb := 4) tableOk (by kernel_rfl) (fun _ => rfl) rfl (fun ds h => by
    rw [Tryz.params4] at h
    match ds, h with
    | [d1, d2], _ => rfl) (by kernel_rfl) (by kernel_rfl) (by kernel_rfl) (by kernel_rfl) Tryz.underlying4 manifestNil_im W base args ds gs before hval hW

theorem manifestNil_holds : Rows.ManifestNilSaid :=
  OpenClaim.holds_of_wide 4 Tryz.f4 rfl rfl rfl rfl rfl rfl rfl ⟨rfl, rfl, rfl, rfl, rfl⟩ rfl rfl rfl rfl rfl (by kernel_rfl) Tryz.func4 (by kernel_rfl)
    (of_decide_eq_true (by kernel_rfl)) (by unfold Func.isWrapper; first | (rw [if_pos (by decide +kernel)]; kernel_rfl) | (rw [if_neg (by decide +kernel)]; exact ⟨rfl, rfl⟩))
    (fun os started H enc _ => manifestNil_lifted os started H enc)

#print axioms manifestNil_holds
end Go.Proofs.YtlognommhffmcaaGreat

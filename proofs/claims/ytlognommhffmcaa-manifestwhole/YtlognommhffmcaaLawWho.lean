/- A state's own edits: ManifestWhole answers true for all groups of edits. No condition. -/
import Derived.Test.YtlognommhffmcaaRows
import Derived.Test.YtlognommhffmcaaTab
import Derived.Test.YtlognommhffmcaaLv
set_option linter.unusedVariables false
set_option linter.unusedSimpArgs false
open Go Go.Im
namespace Go.Proofs.Ytlognommhffmcaa
open Go.Proofs.Ytlognommhffmcaa.Im Go.ChangeShapes Go.WideShapes Go.ChangeAt Go.RowKit

def rng (e : Ed) : Prop := (-9223372036854775808 ≤ e.k ∧ e.k ≤ 9223372036854775807) ∧ (-9223372036854775808 ≤ e.f ∧ e.f ≤ 9223372036854775807) ∧ (-9223372036854775808 ≤ e.l ∧ e.l ≤ 9223372036854775807) ∧
  (-9223372036854775808 ≤ e.c ∧ e.c ≤ 9223372036854775807)

theorem wf_i64 {n : Int} (h : (Lit.int .i64 n).wf = true) : -9223372036854775808 ≤ n ∧ n ≤ 9223372036854775807 := by
  simp [Lit.wf,IntKind.wrap,IntKind.min,IntKind.max,IntKind.signed,IntKind.bits] at h
  omega

theorem eds_of : ∀ {es : List AV}, (∀ x ∈ es, ∃ y, x = edOf y ∧ rng y) → ∃ l : List Ed, es = edsOf l ∧ ∀ y ∈ l, rng y
  | [], _ => ⟨[], rfl, by simp⟩
  | x :: es, h => by
    obtain ⟨y, rfl, hy⟩ := h x (by simp)
    obtain ⟨l, rfl, hl⟩ := eds_of (es := es) fun z hz => h z (by simp [hz])
    exact ⟨y :: l, rfl, by
      intro z hz
      rcases List.mem_cons.1 hz with rfl | hz
      · exact hy
      · exact hl z hz⟩

theorem ed_of {x : AV} (h : RdT Try.prog 8 31 x) : ∃ y, x = edOf y ∧ rng y := by
  obtain ⟨l, rfl, g⟩ := rdT_structC Try.underlying31 h
  obtain ⟨x0, r, rfl, g0, g⟩ := g
  obtain ⟨x1, r, rfl, g1, g⟩ := g
  obtain ⟨x2, r, rfl, g2, g⟩ := g
  obtain ⟨x3, r, rfl, g3, g⟩ := g
  obtain ⟨x4, r, rfl, g4, g⟩ := g
  obtain ⟨x5, r, rfl, g5, g⟩ := g
  cases g
  obtain ⟨a, rfl, w1⟩ := rdC_int Try.underlying3 g0
  obtain ⟨b, rfl, w2⟩ := rdC_int Try.underlying3 g1
  obtain ⟨c, rfl, w3⟩ := rdC_int Try.underlying3 g2
  obtain ⟨d, rfl, w4⟩ := rdC_int Try.underlying3 g3
  obtain ⟨s, rfl, hs1⟩ := rdC_str Try.underlying9 g4
  obtain ⟨t, rfl, hs2⟩ := rdC_str Try.underlying9 g5
  exact ⟨⟨a, b, c, d, s, t⟩, rfl, wf_i64 w1, wf_i64 w2, wf_i64 w3, wf_i64 w4⟩

theorem grp_of {x : AV} (h : RdT Try.prog 9 22 x) : ∃ l, IsRd 6 (edsOf l) x ∧ ∀ y ∈ l, rng y := by
  rcases rdT_slice Try.underlying22 h with rfl | ⟨es, rfl, _, hes⟩
  · exact ⟨[], .inl ⟨rfl, rfl⟩, by simp⟩
  · obtain ⟨l, rfl, hl⟩ := eds_of fun x hx => ed_of (hes x hx)
    have hz : Try.prog.cellsOf 31 = 6 := by kernel_rfl
    rw [hz]
    exact ⟨l, .inr ⟨_, rfl⟩, hl⟩
theorem grps_of : ∀ {es : List AV}, (∀ x ∈ es, RdT Try.prog 9 22 x) → ∃ L : List (List Ed), Grps L es ∧ ∀ l ∈ L, ∀ y ∈ l, rng y
  | [], _ => ⟨[], ⟨rfl, fun i h => absurd h (Nat.not_lt_zero _)⟩, by simp⟩
  | x :: es, h => by
    obtain ⟨l, h1, h2⟩ := grp_of (h x (by simp))
    obtain ⟨L, ⟨g1, g2⟩, g3⟩ := grps_of (es := es) fun z hz => h z (by simp [hz])
    refine ⟨l :: L, ⟨by simp [g1], fun i hi => ?_⟩, ?_⟩
    · cases i with
      | zero => exact ⟨x, rfl, h1⟩
      | succ i => simpa using g2 i (by simpa using hi)
    · intro m hm
      rcases List.mem_cons.1 hm with rfl | hm
      · exact h2
      · exact g3 m hm

theorem manifestWhole_im (avs : List AV) (h : RdAll Try.prog 10 Try.f5.params.toList avs) : ∃ n, ∀ ω, ∃ h', call F n true ω 5 avs [] = some (.bool true, h') := by
  have hp : Try.f5.params.toList = [25] := by rw [Try.params5]
  rw [hp] at h
  obtain ⟨a, r, rfl, h1, h⟩ := rdAll_cons h
  cases rdAll_nil h
  rcases rdT_slice Try.underlying25 h1 with rfl | ⟨es, rfl, hml, hes⟩
  · exact ⟨100001, fun ω => law_whole 100001 ω _ [] [] (.inl ⟨rfl, rfl⟩) ⟨rfl, fun i h => absurd h (Nat.not_lt_zero _)⟩ (by simp) (by simp) (by simp)⟩
  · obtain ⟨L, hL, hr⟩ := grps_of hes
    have hz : Try.prog.cellsOf 22 = 1 := by kernel_rfl
    rw [hz]
    exact ⟨L.length + 100001, fun ω => law_whole _ ω _ es L (.inr ⟨_, rfl⟩) hL (by have := hL.1; unfold Go.maxLen at hml; omega) (fun l hl x hx => (hr l hl x hx).2.1.2) (by omega)⟩

theorem own : ownKnob Try.prog.godebug = none := by kernel_rfl

set_option maxRecDepth 100000 in
theorem manifestWhole_lifted (os : Os) (started : os.Started) (H : Type) (enc : TypeId × Value → H) :
    ReturnsInHanded {} Try.checked os 5 .any (Rows.manifestWholeSpec.pre6 enc Try.prog Try.f5 Rows.manifestWholeRow.domain false) (Rows.manifestWholeSpec.post enc Try.prog Try.f5 false true false false) := by
  refine returnsInHanded_of_change (C := Try.checked) own started (by kernel_rfl) Try.func5
    (ChangeSpec.witness6 (enc := enc) (C := Try.checked) false ⟨#[], #[.slice none 0 0], []⟩ 12 (by kernel_rfl) (by kernel_rfl) (by kernel_rfl) (by kernel_rfl)) ?_
  intro W base args ds gs before hval hW _ _
  exact law_contract (P := Try.prog) (m := 10) (tb := 4) tableOk (by kernel_rfl) (fun _ => rfl) rfl (fun ds h => by
    rw [Try.params5] at h
    match ds, h with
    | [d1], _ => rfl) (by kernel_rfl) (by kernel_rfl) (by kernel_rfl) (by kernel_rfl) Try.underlying4 manifestWhole_im W base args ds gs before hval hW

theorem manifestWhole_holds : Rows.ManifestWholeSaid :=
  OpenClaim.holds_of_wide 5 Try.f5 rfl rfl rfl rfl rfl rfl rfl ⟨rfl, rfl, rfl, rfl, rfl⟩ rfl rfl rfl rfl rfl (by kernel_rfl) Try.func5 (by kernel_rfl)
    (of_decide_eq_true (by kernel_rfl)) (by unfold Func.isWrapper; first | (rw [if_pos (by decide +kernel)]; kernel_rfl) | (rw [if_neg (by decide +kernel)]; exact ⟨rfl, rfl⟩))
    (fun os started H enc _ => manifestWhole_lifted os started H enc)

#print axioms manifestWhole_holds


end Go.Proofs.Ytlognommhffmcaa

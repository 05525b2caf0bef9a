/- What is found near a sketch: SketchNear answers true for all scripts and seeds. No condition. -/
import Derived.Test.YtdjlcddkfjbebaaRows
import Derived.Test.YtdjlcddkfjbebaaNTab
import Derived.Test.YtdjlcddkfjbebaaQ
set_option linter.unusedVariables false
set_option linter.unusedSimpArgs false
open Go Go.Im
namespace Go.Proofs.Ytdjlcddkfjbebaa
open Go.Proofs.Ytdjlcddkfjbebaa.Im Go.ChangeShapes Go.WideShapes Go.ChangeAt Go.RowKit

theorem lns_of : ∀ {es : List AV}, (∀ x ∈ es, ∃ o : Ln, x = o.av ∧ o.ok) → ∃ l : List Ln, es = l.map Ln.av ∧ ∀ o ∈ l, o.ok
  | [], _ => ⟨[], rfl, by simp⟩
  | x :: es, h => by
    obtain ⟨y, rfl, hy⟩ := h x (by simp)
    obtain ⟨l, rfl, hl⟩ := lns_of (es := es) fun z hz => h z (by simp [hz])
    exact ⟨y :: l, rfl, by
      intro z hz
      rcases List.mem_cons.1 hz with rfl | hz
      · exact hy
      · exact hl z hz⟩

theorem ln_of {x : AV} (h : RdT Try.prog 9 39 x) : ∃ o : Ln, x = o.av ∧ o.ok := by
  obtain ⟨l, rfl, g⟩ := rdT_structC Try.underlying39 h
  obtain ⟨x0, r, rfl, g0, g⟩ := g
  obtain ⟨x1, r, rfl, g1, g⟩ := g
  obtain ⟨x2, r, rfl, g2, g⟩ := g
  cases g
  obtain ⟨a, rfl, w1⟩ := rdC_int Try.underlying3 g0
  obtain ⟨b, rfl, w2⟩ := rdC_int Try.underlying3 g1
  rcases rdC_slice Try.underlying22 g2 with rfl | ⟨es, rfl, hl, hes⟩
  · exact ⟨⟨a, b, [], .nils⟩, rfl, .inl ⟨rfl, rfl⟩⟩
  · obtain ⟨bs, rfl⟩ := rd_bytes Try.underlying5 hes
    have hsz : Try.prog.cellsOf 5 = 1 := by kernel_rfl
    rw [hsz]
    exact ⟨⟨a, b, bs, .imm 1 (bytesOf bs) .no⟩, rfl, .inr rfl⟩

theorem sketchNear_im (avs : List AV) (h : RdAll Try.prog 10 Try.f6.params.toList avs) : ∃ n, ∀ ω, ∃ h', call F n true ω 6 avs [] = some (.bool true, h') := by
  have hp : Try.f6.params.toList = [34, 3] := by rw [Try.params6]
  rw [hp] at h
  obtain ⟨a, r, rfl, h1, h⟩ := rdAll_cons h
  obtain ⟨b, r, rfl, h2, h⟩ := rdAll_cons h
  cases rdAll_nil h
  obtain ⟨seed, rfl, _⟩ := rdT_int Try.underlying3 h2
  rcases rdT_slice Try.underlying34 h1 with rfl | ⟨es, rfl, hl, hes⟩
  · exact ⟨6302, fun ω => law_near [] .nils seed ω (.inl ⟨rfl, rfl⟩) (by simp)⟩
  · obtain ⟨os, rfl, hos⟩ := lns_of fun x hx => ln_of (hes x hx)
    have hsz : Try.prog.cellsOf 39 = 3 := by kernel_rfl
    rw [hsz]
    exact ⟨6302, fun ω => law_near os _ seed ω (.inr ⟨_, rfl⟩) hos⟩
theorem own : ownKnob Try.prog.godebug = none := by kernel_rfl

set_option maxRecDepth 100000 in
theorem sketchNear_lifted (os : Os) (started : os.Started) (H : Type) (enc : TypeId × Value → H) :
    ReturnsInHanded {} Try.checked os 6 .any (Rows.sketchNearSpec.pre6 enc Try.prog Try.f6 Rows.sketchNearRow.domain false) (Rows.sketchNearSpec.post enc Try.prog Try.f6 false true false false) := by
  refine returnsInHanded_of_change (C := Try.checked) own started (by kernel_rfl) Try.func6
    (ChangeSpec.witness6 (enc := enc) (C := Try.checked) false ⟨#[], #[.slice none 0 0, .int .i64 0], []⟩ 12 (by kernel_rfl) (by kernel_rfl) (by kernel_rfl) (by kernel_rfl)) ?_
  intro W base args ds gs before hval hW _ _
  exact law_contract (P := Try.prog) (m := 10) (tb := 4) tableOk (by kernel_rfl) (fun _ => rfl) rfl (fun ds h => by
    rw [Try.params6] at h
    match ds, h with
    | [d1, d2], _ => rfl) (by kernel_rfl) (by kernel_rfl) (by kernel_rfl) (by kernel_rfl) Try.underlying4 sketchNear_im W base args ds gs before hval hW

theorem sketchNear_holds : Rows.SketchNearSaid :=
  OpenClaim.holds_of_wide 6 Try.f6 rfl rfl rfl rfl rfl rfl rfl ⟨rfl, rfl, rfl, rfl, rfl⟩ rfl rfl rfl rfl rfl (by kernel_rfl) Try.func6 (by kernel_rfl)
    (of_decide_eq_true (by kernel_rfl)) (by unfold Func.isWrapper; first | (rw [if_pos (by decide +kernel)]; kernel_rfl) | (rw [if_neg (by decide +kernel)]; exact ⟨rfl, rfl⟩))
    (fun os started H enc _ => sketchNear_lifted os started H enc)

#print axioms sketchNear_holds
end Go.Proofs.Ytdjlcddkfjbebaa

/- At each time what was laid last is found first: LevelsServes answers true for all turns, fans and keys asked for. No condition. -/
import Derived.Test.YtabpndekmpjmhaaRows
import Derived.Test.YtabpndekmpjmhaaTab
import Derived.Test.YtabpndekmpjmhaaTc
set_option linter.unusedVariables false
set_option linter.unusedSimpArgs false
open Go Go.Im
namespace Go.Proofs.Ytabpndekmpjmhaa
open Go.Proofs.Ytabpndekmpjmhaa.Im Go.ChangeShapes Go.WideShapes Go.ChangeAt Go.RowKit

theorem strs_of {m : Nat} : ∀ {es : List AV}, (∀ x ∈ es, RdT Try.prog (m + 1) 9 x) → ∃ l : List By, es = ksOf l
  | [], _ => ⟨[], rfl⟩
  | x :: es, h => by
    obtain ⟨s, rfl, _⟩ := rdT_str Try.underlying9 (h x (by simp))
    obtain ⟨l, rfl⟩ := strs_of (es := es) fun z hz => h z (by simp [hz])
    exact ⟨s :: l, rfl⟩

set_option maxRecDepth 100000 in
theorem tn_of {x : AV} (h : RdT Try.prog 9 33 x) : ∃ o : Tn, x = o.av ∧ o.ok := by
  obtain ⟨l, rfl, g⟩ := rdT_structC Try.underlying33 h
  obtain ⟨x0, r, rfl, g0, g⟩ := g
  cases g
  rcases rdC_slice Try.underlying23 g0 with rfl | ⟨es, rfl, hl, hes⟩
  · exact ⟨⟨[], .nils⟩, rfl, .inl ⟨rfl, rfl⟩⟩
  · have hsz : Try.prog.cellsOf 9 = 1 := by kernel_rfl
    rw [hsz]
    obtain ⟨ks, rfl⟩ := strs_of hes
    exact ⟨⟨ks, .imm 1 (ksOf ks) .no⟩, rfl, .inr ⟨_, rfl⟩⟩
theorem tns_of : ∀ {es : List AV}, (∀ x ∈ es, ∃ o : Tn, x = o.av ∧ o.ok) → ∃ l : List Tn, es = tnsOf l ∧ ∀ o ∈ l, o.ok
  | [], _ => ⟨[], rfl, by simp⟩
  | x :: es, h => by
    obtain ⟨y, rfl, hy⟩ := h x (by simp)
    obtain ⟨l, rfl, hl⟩ := tns_of (es := es) fun z hz => h z (by simp [hz])
    exact ⟨y :: l, rfl, by
      intro z hz
      rcases List.mem_cons.1 hz with rfl | hz
      · exact hy
      · exact hl z hz⟩

theorem levelsServes_im (avs : List AV) (h : RdAll Try.prog 10 Try.f3.params.toList avs) : ∃ n, ∀ ω, ∃ h', call F n true ω 3 avs [] = some (.bool true, h') := by
  have hp : Try.f3.params.toList = [22, 5, 23] := by rw [Try.params3]
  rw [hp] at h
  obtain ⟨a, r, rfl, h1, h⟩ := rdAll_cons h
  obtain ⟨b, r, rfl, h2, h⟩ := rdAll_cons h
  obtain ⟨c, r, rfl, h3, h⟩ := rdAll_cons h
  cases rdAll_nil h
  obtain ⟨fan, rfl, hf⟩ := rdT_int Try.underlying5 h2
  have hf := wf_u8 hf
  obtain ⟨fn, rfl⟩ : ∃ fn : Nat, fan = (fn : Int) := ⟨fan.toNat, by omega⟩
  have hA : ∃ tns : List Tn, IsRd 1 (tnsOf tns) a ∧ ∀ t ∈ tns, t.ok := by
    rcases rdT_slice Try.underlying22 h1 with rfl | ⟨es, rfl, hl, hes⟩
    · exact ⟨[], .inl ⟨rfl, rfl⟩, by simp⟩
    · obtain ⟨l, rfl, hok⟩ := tns_of fun x hx => tn_of (hes x hx)
      have hsz : Try.prog.cellsOf 33 = 1 := by kernel_rfl
      rw [hsz]
      exact ⟨l, .inr ⟨_, rfl⟩, hok⟩
  have hC : ∃ asks : List By, IsRd 1 (ksOf asks) c := by
    rcases rdT_slice Try.underlying23 h3 with rfl | ⟨es, rfl, hl, hes⟩
    · exact ⟨[], .inl ⟨rfl, rfl⟩⟩
    · obtain ⟨l, rfl⟩ := strs_of hes
      have hsz : Try.prog.cellsOf 9 = 1 := by kernel_rfl
      rw [hsz]
      exact ⟨l, .inr ⟨_, rfl⟩⟩
  obtain ⟨tns, ht, hok⟩ := hA
  obtain ⟨asks, hask⟩ := hC
  exact ⟨6302, fun ω => law_serves tns a c fn asks ω ht hok (by omega) hask⟩

theorem own : ownKnob Try.prog.godebug = none := by kernel_rfl

set_option maxRecDepth 100000 in
theorem levelsServes_lifted (os : Os) (started : os.Started) (H : Type) (enc : TypeId × Value → H) :
    ReturnsInHanded {} Try.checked os 3 .any (Rows.levelsServesSpec.pre6 enc Try.prog Try.f3 Rows.levelsServesRow.domain false) (Rows.levelsServesSpec.post enc Try.prog Try.f3 false true false false) := by
  refine returnsInHanded_of_change (C := Try.checked) own started (by kernel_rfl) Try.func3
    (ChangeSpec.witness6 (enc := enc) (C := Try.checked) false ⟨#[], #[.slice none 0 0, .int .u8 0, .slice none 0 0], []⟩ 12 (by kernel_rfl) (by kernel_rfl) (by kernel_rfl) (by kernel_rfl)) ?_
  intro W base args ds gs before hval hW _ _
  exact law_contract (P := Try.prog) (m := 10) (tb := 4) tableOk (by kernel_rfl) (fun _ => rfl) rfl (fun ds h => by
    rw [Try.params3] at h
    match ds, h with
    | [d1, d2, d3], _ => rfl) (by kernel_rfl) (by kernel_rfl) (by kernel_rfl) (by kernel_rfl) Try.underlying4 levelsServes_im W base args ds gs before hval hW

theorem levelsServes_holds : Rows.LevelsServesSaid :=
  OpenClaim.holds_of_wide 3 Try.f3 rfl rfl rfl rfl rfl rfl rfl ⟨rfl, rfl, rfl, rfl, rfl⟩ rfl rfl rfl rfl rfl (by kernel_rfl) Try.func3 (by kernel_rfl)
    (of_decide_eq_true (by kernel_rfl)) (by unfold Func.isWrapper; first | (rw [if_pos (by decide +kernel)]; kernel_rfl) | (rw [if_neg (by decide +kernel)]; exact ⟨rfl, rfl⟩))
    (fun os started H enc _ => levelsServes_lifted os started H enc)

#print axioms levelsServes_holds
end Go.Proofs.Ytabpndekmpjmhaa

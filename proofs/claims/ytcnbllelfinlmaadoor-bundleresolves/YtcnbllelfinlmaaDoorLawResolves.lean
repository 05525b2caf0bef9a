/- A chunk that is there is made of the patches that lay over it, and the code answers as the reference; a source that hands out something else is told, and so is none: BundleResolves answers true for all records, keys and a bool, where the package's table reads as its text lays it. No other condition. -/
import Derived.Test.YtcnbllelfinlmaaDoorCards
import Derived.Test.YtcnbllelfinlmaaDoorTie
import Derived.Test.YtcnbllelfinlmaaDoorTab
import Derived.Test.YtcnbllelfinlmaaDoorRl
import Derived.Deep.DeepHandedRow
import Derived.Lib.LaidTab
set_option linter.unusedVariables false
set_option linter.unusedSimpArgs false
open Go Go.Im
namespace Go.Proofs.YtcnbllelfinlmaaDoor
open Go.Proofs.YtcnbllelfinlmaaDoor.Im Go.ChangeShapes Go.WideShapes Go.ChangeAt Go.RowKit

theorem laid_gt {W : World} {rest : List (String × DataW Unit)} (h : laidMet Tryd.prog (("silo/sha.rounds", Lib.tabData .u32 roundsZ) :: rest) W) :
    ∀ cd g v, GT g = some v → VRel (Env.of W cd).bare (.iptr v) (.pointer (some ⟨g, 0, none⟩)) := by
  intro cd g v hv
  have hg : Tryd.prog.globalNamed "silo/sha.rounds" = some 0 := by kernel_rfl
  have ht : Lib.TabIs Tryd.prog W "silo/sha.rounds" .u32 roundsZ :=
    Lib.tabIs_of_head (g := 0) (t := 151) (e := 94) (n := 64) hg (by kernel_rfl) (by kernel_rfl) (by kernel_rfl) (by kernel_rfl) (by kernel_rfl) h
  unfold GT at hv
  split at hv
  · rename_i e
    subst e
    cases hv
    have hl : roundsZ.length = 64 := by decide
    have hc : G0.cells = roundsZ.map (AV.int .u32) := rfl
    have hk : ∀ k, k < 64 → (Env.of W cd).bare.sg 0 (0 + k) = some (.int .u32 (roundsZ.getD k 0)) := fun k hk => by
      rw [Nat.zero_add]; exact ht.cell hg k (by rw [hl]; exact hk)
    refine .iptr G0 0 0 (fun a ha => ?_) (fun k hlt => ?_) fun k a u ha hu => ?_
    · rw [hc] at ha
      obtain ⟨z, _, rfl⟩ := List.mem_map.1 ha
      rfl
    · rw [hc, List.length_map, hl] at hlt
      rw [hk k hlt]; rfl
    · have hlt : k < 64 := by
        have := (List.getElem?_eq_some_iff.1 ha).1
        rw [hc, List.length_map, hl] at this; exact this
      rw [hk k hlt] at hu
      cases hu
      rw [hc, List.getElem?_map] at ha
      have hlt' : k < roundsZ.length := by rw [hl]; exact hlt
      rw [List.getElem?_eq_getElem hlt'] at ha
      cases ha
      have : roundsZ.getD k 0 = roundsZ[k] := by simp [List.getD,hlt']
      rw [this]
      exact .int _ _
  · cases hv

set_option maxRecDepth 100000 in
theorem rc_of {x : AV} (h : RdT Tryd.prog 9 39 x) : ∃ f : Rc, x = f.av ∧ f.ok0 := by
  obtain ⟨l, rfl, g⟩ := rdT_structC Tryd.underlying39 h
  obtain ⟨x0, r, rfl, g0, g⟩ := g
  obtain ⟨x1, r, rfl, g1, g⟩ := g
  obtain ⟨x2, r, rfl, g2, g⟩ := g
  obtain ⟨x3, r, rfl, g3, g⟩ := g
  cases g
  obtain ⟨k0, rfl, hk0, _⟩ := rdN_ints Tryd.underlying5 (rdC_array Tryd.underlying37 g0)
  obtain ⟨k1, rfl, hk1, _⟩ := rdN_ints Tryd.underlying5 (rdC_array Tryd.underlying37 g1)
  obtain ⟨p, rfl⟩ := rdC_bool Tryd.underlying4 g2
  obtain ⟨s, rfl, hs⟩ := rdC_str Tryd.underlying9 g3
  exact ⟨⟨k0, k1, p, s⟩, rfl, hk0, hk1, hs⟩
theorem rcs_of : ∀ {es : List AV}, (∀ x ∈ es, ∃ f : Rc, x = f.av ∧ f.ok0) → ∃ l : List Rc, es = l.map Rc.av ∧ ∀ f ∈ l, f.ok0
  | [], _ => ⟨[], rfl, by simp⟩
  | x :: es, h => by
    obtain ⟨y, rfl, hy⟩ := h x (by simp)
    obtain ⟨l, rfl, hl⟩ := rcs_of (es := es) fun z hz => h z (by simp [hz])
    exact ⟨y :: l, rfl, by
      intro z hz
      rcases List.mem_cons.1 hz with rfl | hz
      · exact hy
      · exact hl z hz⟩
theorem recs_of {a : AV} (h : RdT Tryd.prog 10 22 a) : ∃ fs : List Rc, IsRd 66 (fs.map Rc.av) a ∧ fs.length ≤ 9223372036854775807 ∧ ∀ f ∈ fs, f.ok0 := by
  rcases rdT_slice Tryd.underlying22 h with rfl | ⟨es, rfl, hl, hes⟩
  · exact ⟨[], .inl ⟨rfl, rfl⟩, by simp, by simp⟩
  · obtain ⟨l, rfl, hok⟩ := rcs_of fun x hx => rc_of (hes x hx)
    have hsz : Tryd.prog.cellsOf 39 = 66 := by kernel_rfl
    rw [hsz]
    rw [List.length_map] at hl
    exact ⟨l, .inr ⟨_, rfl⟩, hl, hok⟩

theorem bundleResolves_im (avs : List AV) (h : RdAll Tryd.prog 10 Tryd.f4.params.toList avs) : ∃ n, ∀ ω, ∃ h', call F n true ω 4 avs [] = some (.bool true, h') := by
  have hp : Tryd.f4.params.toList = [22, 37, 4] := by rw [Tryd.params4]
  rw [hp] at h
  obtain ⟨a0, r, rfl, h0, h⟩ := rdAll_cons h
  obtain ⟨a1, r, rfl, h1, h⟩ := rdAll_cons h
  obtain ⟨a2, r, rfl, h2, h⟩ := rdAll_cons h
  cases rdAll_nil h
  obtain ⟨rs0, hv0, hl0, hok0⟩ := recs_of h0
  obtain ⟨l1, rfl, hl1⟩ := rdT_array Tryd.underlying37 h1
  obtain ⟨k1, rfl, hk1, _⟩ := rdN_ints Tryd.underlying5 hl1
  obtain ⟨b2, rfl⟩ := rdT_bool Tryd.underlying4 h2
  exact ⟨400001, fun ω => law_resolves rs0 a0 k1 b2 ω hv0 hok0 hl0 hk1⟩

theorem own : ownKnob Tryd.prog.godebug = none := by kernel_rfl

mutual
def cellsOfD : DataW Unit → List Value
  | .lit (.int k n) => [.int k n]
  | .lit (.bool b) => [.bool b]
  | .agg ps => cellsOfDs ps
  | _ => []
def cellsOfDs : List (DataW Unit) → List Value
  | [] => []
  | d :: ds => cellsOfD d ++ cellsOfDs ds
end

noncomputable def laidWorld (os : Os) : World :=
  { World.holding Tryd.prog os ⟨#[], #[], []⟩ with heap := (World.holding Tryd.prog os ⟨#[], #[], []⟩).heap.modify 0 (fun
      | .cells _ t frozen => .cells (cellsOfD Rows.laid_silo_sha_rounds).toArray t frozen
      | o => o) }
theorem laid_met (os : Os) : laidMet Tryd.prog Rows.bundleResolvesRow.laid ((laidWorld os).forCall (fun _ _ => 0) ⟨#[], #[.slice none 0 0, .agg #[.int .u8 0, .int .u8 0, .int .u8 0, .int .u8 0, .int .u8 0, .int .u8 0, .int .u8 0, .int .u8 0, .int .u8 0, .int .u8 0, .int .u8 0, .int .u8 0, .int .u8 0, .int .u8 0, .int .u8 0, .int .u8 0, .int .u8 0, .int .u8 0, .int .u8 0, .int .u8 0, .int .u8 0, .int .u8 0, .int .u8 0, .int .u8 0, .int .u8 0, .int .u8 0, .int .u8 0, .int .u8 0, .int .u8 0, .int .u8 0, .int .u8 0, .int .u8 0], .bool false], []⟩).memory :=
  laidMet_of_run' 8 (by kernel_rfl) (by kernel_rfl)
theorem reads (os : Os) {H : Type} (enc : TypeId × Value → H) : ∃ places, DataW.whole enc Tryd.prog ((laidWorld os).forCall (fun _ _ => 0) ⟨#[], #[.slice none 0 0, .agg #[.int .u8 0, .int .u8 0, .int .u8 0, .int .u8 0, .int .u8 0, .int .u8 0, .int .u8 0, .int .u8 0, .int .u8 0, .int .u8 0, .int .u8 0, .int .u8 0, .int .u8 0, .int .u8 0, .int .u8 0, .int .u8 0, .int .u8 0, .int .u8 0, .int .u8 0, .int .u8 0, .int .u8 0, .int .u8 0, .int .u8 0, .int .u8 0, .int .u8 0, .int .u8 0, .int .u8 0, .int .u8 0, .int .u8 0, .int .u8 0, .int .u8 0, .int .u8 0], .bool false], []⟩).memory Tryd.f4.params.toList Rows.bundleResolvesSpec.vars false [.slice none 0 0, .agg #[.int .u8 0, .int .u8 0, .int .u8 0, .int .u8 0, .int .u8 0, .int .u8 0, .int .u8 0, .int .u8 0, .int .u8 0, .int .u8 0, .int .u8 0, .int .u8 0, .int .u8 0, .int .u8 0, .int .u8 0, .int .u8 0, .int .u8 0, .int .u8 0, .int .u8 0, .int .u8 0, .int .u8 0, .int .u8 0, .int .u8 0, .int .u8 0, .int .u8 0, .int .u8 0, .int .u8 0, .int .u8 0, .int .u8 0, .int .u8 0, .int .u8 0, .int .u8 0], .bool false] 12 = some ([.nil, .agg [.lit (.int .u8 0), .lit (.int .u8 0), .lit (.int .u8 0), .lit (.int .u8 0), .lit (.int .u8 0), .lit (.int .u8 0), .lit (.int .u8 0), .lit (.int .u8 0), .lit (.int .u8 0), .lit (.int .u8 0), .lit (.int .u8 0), .lit (.int .u8 0), .lit (.int .u8 0), .lit (.int .u8 0), .lit (.int .u8 0), .lit (.int .u8 0), .lit (.int .u8 0), .lit (.int .u8 0), .lit (.int .u8 0), .lit (.int .u8 0), .lit (.int .u8 0), .lit (.int .u8 0), .lit (.int .u8 0), .lit (.int .u8 0), .lit (.int .u8 0), .lit (.int .u8 0), .lit (.int .u8 0), .lit (.int .u8 0), .lit (.int .u8 0), .lit (.int .u8 0), .lit (.int .u8 0), .lit (.int .u8 0)], .lit (.bool false)], [], places) :=
  ⟨[], by kernel_rfl⟩

set_option maxRecDepth 100000 in
theorem lifted (os : Os) (started : os.Started) (H : Type) (enc : TypeId × Value → H) (F : Stop.Interp) :
    ReturnsInHanded {} Tryd.checked os 4 .any ((OpenSpec.ofChange Rows.bundleResolvesSpec).preRow enc Tryd.prog Tryd.f4 Rows.bundleResolvesRow.domain false Rows.bundleResolvesRow.laid) (((OpenSpec.ofChange Rows.bundleResolvesSpec).at F).post enc Tryd.prog Tryd.f4 false true false false) := by
  obtain ⟨places, hx⟩ := reads os enc
  refine returnsInHanded_of_row (C := Tryd.checked) (s := OpenSpec.ofChange Rows.bundleResolvesSpec) own started (by kernel_rfl) Tryd.func4
    (witness_row_at (enc := enc) (C := Tryd.checked) false (laidWorld os) #[.slice none 0 0, .agg #[.int .u8 0, .int .u8 0, .int .u8 0, .int .u8 0, .int .u8 0, .int .u8 0, .int .u8 0, .int .u8 0, .int .u8 0, .int .u8 0, .int .u8 0, .int .u8 0, .int .u8 0, .int .u8 0, .int .u8 0, .int .u8 0, .int .u8 0, .int .u8 0, .int .u8 0, .int .u8 0, .int .u8 0, .int .u8 0, .int .u8 0, .int .u8 0, .int .u8 0, .int .u8 0, .int .u8 0, .int .u8 0, .int .u8 0, .int .u8 0, .int .u8 0, .int .u8 0], .bool false] rfl (by kernel_rfl) (by kernel_rfl) (by kernel_rfl)
      (OpenSpec.preRow_of_cond 12 hx (by kernel_rfl) (fun k hk => by cases hk) (by kernel_rfl) (laid_met os))) ?_
  intro W base args ds gs before hval hW h1 h2 h3 hL h4 h5
  exact law_contractG (P := Tryd.prog) (m := 10) (tb := 4) tableOk (by kernel_rfl) rfl (fun ds h => by
    rw [Tryd.params4] at h
    match ds, h with
    | [d1, d2, d3], _ => rfl) (by kernel_rfl) (by kernel_rfl) (by kernel_rfl) (by kernel_rfl) Tryd.underlying4 bundleResolves_im W (laid_gt hL) base args ds gs before hval hW

theorem bundleResolves_said : Rows.BundleResolvesSaid :=
  OpenClaim.holds_of_cond 4 Tryd.f4 rfl rfl rfl rfl rfl rfl rfl ⟨rfl, rfl, rfl, rfl, rfl⟩ rfl rfl rfl rfl rfl (by kernel_rfl) Tryd.func4 (by kernel_rfl)
    (of_decide_eq_true (by kernel_rfl)) (by unfold Func.isWrapper; first | (rw [if_pos (by decide +kernel)]; kernel_rfl) | (rw [if_neg (by decide +kernel)]; exact ⟨rfl, rfl⟩))
    (fun os started H enc _ F => by rw [OpenClaim.pre_eq_preRow]; exact lifted os started H enc F)

theorem plainly (f : FuncId) (fn : Func) (hf : Tryd.pinned.checked.prog.funcNamed "silo/silolaw20.BundleResolves" = some f) (hfn : Tryd.pinned.checked.prog.funcs[f]? = some fn) :
    false = Tryd.pinned.checked.prog.looks [] ∧ ∀ (j : Nat) t, fn.params[j]? = some t → Tryd.pinned.checked.prog.wantsStandIn t = false := by
  obtain rfl : f = 4 := Option.some.inj ((show Tryd.prog.funcNamed "silo/silolaw20.BundleResolves" = some 4 by kernel_rfl).symm.trans hf) |>.symm
  obtain rfl : fn = Tryd.f4 := (Option.some.inj (Tryd.func4.symm.trans hfn)).symm
  refine ⟨by kernel_rfl, fun j t ht => ?_⟩
  rw [Tryd.params4] at ht
  have hm := Array.mem_of_getElem? ht
  have ht : t = 22 ∨ t = 37 ∨ t = 4 := by
    simp at hm
    rcases hm with hm | hm | hm <;> simp [hm]
  rcases ht with rfl | rfl | rfl
  · exact (show Tryd.prog.wantsStandIn 22 = false by kernel_rfl)
  · exact (show Tryd.prog.wantsStandIn 37 = false by kernel_rfl)
  · exact (show Tryd.prog.wantsStandIn 4 = false by kernel_rfl)

theorem bundleResolves_card : Rows.BundleResolvesCardSaid :=
  Claim7.holds_tied_plain_at .later [] _ _ _ _ bundleResolves_said (fun _ h => by cases h) (by kernel_rfl) (fun _ h => by cases h) bundleResolves_row_tie rfl ⟨rfl, rfl⟩ (by kernel_rfl) rfl plainly (by kernel_rfl)

#print axioms bundleResolves_card
end Go.Proofs.YtcnbllelfinlmaaDoor

/- Trees and parts have the document's bytes, and come back; any bytes are a tree, or parts, or refused, as it says: TreePacks answers true for all confs, files and texts, where the package's tables read as their text lays them. No other condition. -/
import Derived.Test.YtpgmohjmpaifbaaDoorCards
import Derived.Test.YtpgmohjmpaifbaaDoorTie
import Derived.Test.YtpgmohjmpaifbaaDoorTab
import Derived.Test.YtpgmohjmpaifbaaDoorLr
import Derived.Deep.DeepHandedRow
import Derived.Lib.LaidTab
set_option linter.unusedVariables false
set_option linter.unusedSimpArgs false
open Go Go.Im
namespace Go.Proofs.YtpgmohjmpaifbaaDoor
open Go.Proofs.YtpgmohjmpaifbaaDoor.Im Go.ChangeShapes Go.WideShapes Go.ChangeAt Go.RowKit

set_option maxRecDepth 100000 in
theorem fl_of {x : AV} (h : RdT Tryd.prog 9 41 x) : ∃ f : Fl, x = f.av ∧ f.ok := by
  obtain ⟨l, rfl, g⟩ := rdT_structC Tryd.underlying41 h
  obtain ⟨x0, r, rfl, g0, g⟩ := g
  obtain ⟨x1, r, rfl, g1, g⟩ := g
  cases g
  obtain ⟨s, rfl, _⟩ := rdC_str Tryd.underlying9 g0
  rcases rdC_slice Tryd.underlying39 g1 with rfl | ⟨es, rfl, hl, hes⟩
  · exact ⟨⟨s, [], .nils⟩, rfl, .inl ⟨rfl, rfl⟩⟩
  · obtain ⟨bs, rfl⟩ := rd_bytes Tryd.underlying5 hes
    have hsz : Tryd.prog.cellsOf 5 = 1 := by kernel_rfl
    rw [hsz]
    exact ⟨⟨s, bs, .imm 1 (bytesOf bs) .no⟩, rfl, .inr ⟨_, rfl⟩⟩
theorem fls_of : ∀ {es : List AV}, (∀ x ∈ es, ∃ f : Fl, x = f.av ∧ f.ok) → ∃ l : List Fl, es = l.map Fl.av ∧ ∀ f ∈ l, f.ok
  | [], _ => ⟨[], rfl, by simp⟩
  | x :: es, h => by
    obtain ⟨y, rfl, hy⟩ := h x (by simp)
    obtain ⟨l, rfl, hl⟩ := fls_of (es := es) fun z hz => h z (by simp [hz])
    exact ⟨y :: l, rfl, by
      intro z hz
      rcases List.mem_cons.1 hz with rfl | hz
      · exact hy
      · exact hl z hz⟩
theorem files_of {a : AV} (h : RdT Tryd.prog 10 22 a) : ∃ fs : List Fl, IsRd 2 (fs.map Fl.av) a ∧ ∀ f ∈ fs, f.ok := by
  rcases rdT_slice Tryd.underlying22 h with rfl | ⟨es, rfl, hl, hes⟩
  · exact ⟨[], .inl ⟨rfl, rfl⟩, by simp⟩
  · obtain ⟨l, rfl, hok⟩ := fls_of fun x hx => fl_of (hes x hx)
    have hsz : Tryd.prog.cellsOf 41 = 2 := by kernel_rfl
    rw [hsz]
    exact ⟨l, .inr ⟨_, rfl⟩, hok⟩

theorem laid_gt {W : World} {rest : List (String × DataW Unit)} (h : laidMet Tryd.prog (("silo/sha.rounds", Lib.tabData .u32 roundsZ) :: rest) W) :
    ∀ cd g v, GT g = some v → VRel (Env.of W cd).bare (.iptr v) (.pointer (some ⟨g, 0, none⟩)) := by
  intro cd g v hv
  have hg : Tryd.prog.globalNamed "silo/sha.rounds" = some 0 := by kernel_rfl
  have ht : Lib.TabIs Tryd.prog W "silo/sha.rounds" .u32 roundsZ :=
    Lib.tabIs_of_head (g := 0) (t := 140) (e := 96) (n := 64) hg (by kernel_rfl) (by kernel_rfl) (by kernel_rfl) (by kernel_rfl) (by kernel_rfl) h
  unfold GT at hv
  split at hv
  · rename_i e
    subst e
    cases hv
    have hl : roundsZ.length = 64 := by decide
    have hc : G0.cells = roundsZ.map (AV.int .u32) := rfl
    have hk : ∀ k, k < 64 → (Env.of W cd).bare.sg 0 (0 + k) = some (.int .u32 (roundsZ.getD k 0)) := fun k hk => by
      rw [Nat.zero_add]; exact ht.cell hg k (by rw [hl]; exact hk)
    refine .iptr G0 0 0 (fun a ha => ?_) (fun k hlt => ?_) fun k a u ha hu => ?_
    · rw [hc] at ha
      obtain ⟨z, _, rfl⟩ := List.mem_map.1 ha
      rfl
    · rw [hc, List.length_map, hl] at hlt
      rw [hk k hlt]; rfl
    · have hlt : k < 64 := by
        have := (List.getElem?_eq_some_iff.1 ha).1
        rw [hc, List.length_map, hl] at this; exact this
      rw [hk k hlt] at hu
      cases hu
      rw [hc, List.getElem?_map] at ha
      have hlt' : k < roundsZ.length := by rw [hl]; exact hlt
      rw [List.getElem?_eq_getElem hlt'] at ha
      cases ha
      have : roundsZ.getD k 0 = roundsZ[k] := by simp [List.getD,hlt']
      rw [this]
      exact .int _ _
  · split at hv
    · cases hv
      exact .iptr _ _ _ (fun a ha => by cases ha) (fun k hlt => absurd hlt (Nat.not_lt_zero _)) fun k a u ha => by simp [AV.cells] at ha
    · cases hv

set_option maxRecDepth 100000 in
theorem conf_of {a : AV} (h : RdT Tryd.prog 10 31 a) : ∃ i0 i1 i2 i3 i4 i5 i6 i7 l m M i11 : Int, a = .agg [.int .i64 i0, .int .i64 i1, .int .i64 i2, .int .i64 i3, .int .i64 i4, .int .i64 i5, .int .i64 i6, .int .i64 i7, .int .i64 l, .int .i64 m, .int .i64 M, .int .i64 i11] := by
  obtain ⟨l, rfl, g⟩ := rdT_structC Tryd.underlying31 h
  obtain ⟨z0, r, rfl, g0, g⟩ := g
  obtain ⟨z1, r, rfl, g1, g⟩ := g
  obtain ⟨z2, r, rfl, g2, g⟩ := g
  obtain ⟨z3, r, rfl, g3, g⟩ := g
  obtain ⟨z4, r, rfl, g4, g⟩ := g
  obtain ⟨z5, r, rfl, g5, g⟩ := g
  obtain ⟨z6, r, rfl, g6, g⟩ := g
  obtain ⟨z7, r, rfl, g7, g⟩ := g
  obtain ⟨z8, r, rfl, g8, g⟩ := g
  obtain ⟨z9, r, rfl, g9, g⟩ := g
  obtain ⟨z10, r, rfl, g10, g⟩ := g
  obtain ⟨z11, r, rfl, g11, g⟩ := g
  cases g
  obtain ⟨i0, rfl, _⟩ := rdC_int Tryd.underlying3 g0
  obtain ⟨i1, rfl, _⟩ := rdC_int Tryd.underlying3 g1
  obtain ⟨i2, rfl, _⟩ := rdC_int Tryd.underlying3 g2
  obtain ⟨i3, rfl, _⟩ := rdC_int Tryd.underlying3 g3
  obtain ⟨i4, rfl, _⟩ := rdC_int Tryd.underlying3 g4
  obtain ⟨i5, rfl, _⟩ := rdC_int Tryd.underlying3 g5
  obtain ⟨i6, rfl, _⟩ := rdC_int Tryd.underlying3 g6
  obtain ⟨i7, rfl, _⟩ := rdC_int Tryd.underlying3 g7
  obtain ⟨i8, rfl, _⟩ := rdC_int Tryd.underlying3 g8
  obtain ⟨i9, rfl, _⟩ := rdC_int Tryd.underlying3 g9
  obtain ⟨i10, rfl, _⟩ := rdC_int Tryd.underlying3 g10
  obtain ⟨i11, rfl, _⟩ := rdC_int Tryd.underlying3 g11
  exact ⟨i0, i1, i2, i3, i4, i5, i6, i7, i8, i9, i10, i11, rfl⟩

theorem treePacks_im (avs : List AV) (h : RdAll Tryd.prog 10 Tryd.f9.params.toList avs) : ∃ n, ∀ ω, ∃ h', call F n true ω 9 avs [] = some (.bool true, h') := by
  have hp : Tryd.f9.params.toList = [31, 22, 9] := by rw [Tryd.params9]
  rw [hp] at h
  obtain ⟨a0, r, rfl, h0, h⟩ := rdAll_cons h
  obtain ⟨a1, r, rfl, h1, h⟩ := rdAll_cons h
  obtain ⟨a2, r, rfl, h2, h⟩ := rdAll_cons h
  cases rdAll_nil h
  obtain ⟨i0, i1, i2, i3, i4, i5, i6, i7, l, m, M, i11, rfl⟩ := conf_of h0
  obtain ⟨fs1, hf1, hok1⟩ := files_of h1
  obtain ⟨s2, rfl, hs2⟩ := rdT_str Tryd.underlying9 h2
  exact ⟨50000002, fun ω => law_packs _ _ _ _ _ _ _ _ _ l m M rfl a1 fs1 s2 ω hf1 hok1⟩

theorem own : ownKnob Tryd.prog.godebug = none := by kernel_rfl

mutual
def cellsOfD : DataW Unit → List Value
  | .lit (.int k n) => [.int k n]
  | .lit (.bool b) => [.bool b]
  | .agg ps => cellsOfDs ps
  | _ => []
def cellsOfDs : List (DataW Unit) → List Value
  | [] => []
  | d :: ds => cellsOfD d ++ cellsOfDs ds
end

noncomputable def laidWorld (os : Os) : World :=
  { World.holding Tryd.prog os ⟨#[], #[], []⟩ with heap := ((((World.holding Tryd.prog os ⟨#[], #[], []⟩).heap.modify 0 (fun
      | .cells _ t frozen => .cells (cellsOfD Rows.laid_silo_sha_rounds).toArray t frozen
      | o => o)).modify 2 (fun
      | .cells _ t frozen => .cells (cellsOfD Rows.laid_unicode_utf8_first).toArray t frozen
      | o => o)).modify 3 (fun
      | .cells _ t frozen => .cells (cellsOfD Rows.laid_unicode_utf8_acceptRanges).toArray t frozen
      | o => o)) }
theorem laid_met (os : Os) : laidMet Tryd.prog Rows.treePacksRow.laid ((laidWorld os).forCall (fun _ _ => 0) ⟨#[], #[.agg #[.int .i64 0, .int .i64 0, .int .i64 0, .int .i64 0, .int .i64 0, .int .i64 0, .int .i64 0, .int .i64 0, .int .i64 0, .int .i64 0, .int .i64 0, .int .i64 0], .slice none 0 0, .string .empty], []⟩).memory :=
  laidMet_of_run' 8 (by kernel_rfl) (by kernel_rfl)
theorem reads (os : Os) {H : Type} (enc : TypeId × Value → H) : ∃ places, DataW.whole enc Tryd.prog ((laidWorld os).forCall (fun _ _ => 0) ⟨#[], #[.agg #[.int .i64 0, .int .i64 0, .int .i64 0, .int .i64 0, .int .i64 0, .int .i64 0, .int .i64 0, .int .i64 0, .int .i64 0, .int .i64 0, .int .i64 0, .int .i64 0], .slice none 0 0, .string .empty], []⟩).memory Tryd.f9.params.toList Rows.treePacksSpec.vars false [.agg #[.int .i64 0, .int .i64 0, .int .i64 0, .int .i64 0, .int .i64 0, .int .i64 0, .int .i64 0, .int .i64 0, .int .i64 0, .int .i64 0, .int .i64 0, .int .i64 0], .slice none 0 0, .string .empty] 12 = some ([.agg [.lit (.int .i64 0), .lit (.int .i64 0), .lit (.int .i64 0), .lit (.int .i64 0), .lit (.int .i64 0), .lit (.int .i64 0), .lit (.int .i64 0), .lit (.int .i64 0), .lit (.int .i64 0), .lit (.int .i64 0), .lit (.int .i64 0), .lit (.int .i64 0)], .nil, .lit (.string [])], [], places) :=
  ⟨[], by kernel_rfl⟩

set_option maxRecDepth 100000 in
theorem lifted (os : Os) (started : os.Started) (H : Type) (enc : TypeId × Value → H) (F : Stop.Interp) :
    ReturnsInHanded {} Tryd.checked os 9 .any ((OpenSpec.ofChange Rows.treePacksSpec).preRow enc Tryd.prog Tryd.f9 Rows.treePacksRow.domain false Rows.treePacksRow.laid) (((OpenSpec.ofChange Rows.treePacksSpec).at F).post enc Tryd.prog Tryd.f9 false true false false) := by
  obtain ⟨places, hx⟩ := reads os enc
  refine returnsInHanded_of_row (C := Tryd.checked) (s := OpenSpec.ofChange Rows.treePacksSpec) own started (by kernel_rfl) Tryd.func9
    (witness_row_at (enc := enc) (C := Tryd.checked) false (laidWorld os) #[.agg #[.int .i64 0, .int .i64 0, .int .i64 0, .int .i64 0, .int .i64 0, .int .i64 0, .int .i64 0, .int .i64 0, .int .i64 0, .int .i64 0, .int .i64 0, .int .i64 0], .slice none 0 0, .string .empty] rfl (by kernel_rfl) (by kernel_rfl) (by kernel_rfl)
      (OpenSpec.preRow_of_cond 12 hx (by kernel_rfl) (fun k hk => by cases hk) (by kernel_rfl) (laid_met os))) ?_
  intro W base args ds gs before hval hW h1 h2 h3 hL h4 h5
  exact law_contractG (P := Tryd.prog) (m := 10) (tb := 4) tableOk (by kernel_rfl) rfl (fun ds h => by
    rw [Tryd.params9] at h
    match ds, h with
    | [d1, d2, d3], _ => rfl) (by kernel_rfl) (by kernel_rfl) (by kernel_rfl) (by kernel_rfl) Tryd.underlying4 treePacks_im W (laid_gt hL) base args ds gs before hval hW

theorem treePacks_said : Rows.TreePacksSaid :=
  OpenClaim.holds_of_cond 9 Tryd.f9 rfl rfl rfl rfl rfl rfl rfl ⟨rfl, rfl, rfl, rfl, rfl⟩ rfl rfl rfl rfl rfl (by kernel_rfl) Tryd.func9 (by kernel_rfl)
    (of_decide_eq_true (by kernel_rfl)) (by unfold Func.isWrapper; first | (rw [if_pos (by decide +kernel)]; kernel_rfl) | (rw [if_neg (by decide +kernel)]; exact ⟨rfl, rfl⟩))
    (fun os started H enc _ F => by rw [OpenClaim.pre_eq_preRow]; exact lifted os started H enc F)

theorem plainly (f : FuncId) (fn : Func) (hf : Tryd.pinned.checked.prog.funcNamed "silo/silolaw21.TreePacks" = some f) (hfn : Tryd.pinned.checked.prog.funcs[f]? = some fn) :
    false = Tryd.pinned.checked.prog.looks [] ∧ ∀ (j : Nat) t, fn.params[j]? = some t → Tryd.pinned.checked.prog.wantsStandIn t = false := by
  obtain rfl : f = 9 := Option.some.inj ((show Tryd.prog.funcNamed "silo/silolaw21.TreePacks" = some 9 by kernel_rfl).symm.trans hf) |>.symm
  obtain rfl : fn = Tryd.f9 := (Option.some.inj (Tryd.func9.symm.trans hfn)).symm
  refine ⟨by kernel_rfl, fun j t ht => ?_⟩
  rw [Tryd.params9] at ht
  have hm := Array.mem_of_getElem? ht
  have ht : t = 31 ∨ t = 22 ∨ t = 9 := by simpa using hm
  rcases ht with rfl | rfl | rfl
  · exact (show Tryd.prog.wantsStandIn 31 = false by kernel_rfl)
  · exact (show Tryd.prog.wantsStandIn 22 = false by kernel_rfl)
  · exact (show Tryd.prog.wantsStandIn 9 = false by kernel_rfl)

theorem treePacks_card : Rows.TreePacksCardSaid :=
  Claim7.holds_tied_plain_at .later [] _ _ _ _ treePacks_said (fun _ h => by cases h) (by kernel_rfl) (fun _ h => by cases h) treePacks_row_tie rfl ⟨rfl, rfl⟩ (by kernel_rfl) rfl plainly (by kernel_rfl)

#print axioms treePacks_card
end Go.Proofs.YtpgmohjmpaifbaaDoor

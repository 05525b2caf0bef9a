/- Which answers are one, and which say that nothing was done: JudgeAnswers answers true for all answers and calls. No condition. -/
import Derived.Test.YtljcnoifjhifcaaDoorCards
import Derived.Test.YtljcnoifjhifcaaDoorTie
import Derived.Test.YtljcnoifjhifcaaDoorTab
import Derived.Test.YtljcnoifjhifcaaDoorAwake
import Derived.Test.YtljcnoifjhifcaaDoorSame
import Derived.Deep.DeepHandedRow
import Derived.Lib.LaidTab
set_option linter.unusedVariables false
set_option linter.unusedSimpArgs false
open Go Go.Im
namespace Go.Proofs.YtljcnoifjhifcaaDoor
open Go.Proofs.YtljcnoifjhifcaaDoor.Im Go.ChangeShapes Go.WideShapes Go.ChangeAt Go.RowKit

theorem sl_of {e sz : Nat} {l : List AV} {α : Type} {f : α → AV} (hsz : Tryd.prog.cellsOf e = sz) (hf : ∀ x, RdT Tryd.prog 8 e x → ∃ y, x = f y) (h : l = [.nils] ∨ ∃ es, l = [.imm (Tryd.prog.cellsOf e) es .no] ∧ es.length ≤ maxLen ∧ ∀ x ∈ es, RdT Tryd.prog 8 e x) :
    ∃ (v : AV) (xs : List α), l = [v] ∧ IsSl sz (xs.map f) v ∧ xs.length ≤ maxLen := by
  rcases h with rfl | ⟨es, rfl, hl, hes⟩
  · exact ⟨.nils, [], rfl, .nils _, by simp⟩
  · obtain ⟨xs, rfl⟩ := list_of (f := f) fun x hx => hf x (hes x hx)
    exact ⟨_, xs, rfl, .inr (by rw [hsz]), by simpa using hl⟩

theorem answer_of {a : AV} (h : RdT Tryd.prog 10 37 a) : ∃ x : An, IsAn x a ∧ x.le 9223372036854775807 := by
  obtain ⟨l, rfl, g⟩ := rdT_structC Tryd.underlying37 h
  obtain ⟨x0, r, rfl, g0, g⟩ := g
  obtain ⟨x1, r, rfl, g1, g⟩ := g
  obtain ⟨x2, r, rfl, g2, g⟩ := g
  obtain ⟨x3, r, rfl, g3, g⟩ := g
  obtain ⟨x4, r, rfl, g4, g⟩ := g
  obtain ⟨x5, r, rfl, g5, g⟩ := g
  cases g
  obtain ⟨e, rfl, _⟩ := rdC_int Tryd.underlying31 g0
  obtain ⟨n, rfl, _⟩ := rdC_int Tryd.underlying3 g1
  obtain ⟨d, D, rfl, i1, _⟩ := sl_of (sz := 1) (f := fun b : UInt8 => .int .u8 b.toNat) (by kernel_rfl) (fun x hx => by
    obtain ⟨bs, hb⟩ := rd_bytes (es := [x]) Tryd.underlying5 (fun y hy => by rw [List.mem_singleton] at hy; subst hy; exact hx)
    match bs, hb with
    | [b], hb => exact ⟨b, by simpa [bytesOf] using hb⟩) (rdC_slice Tryd.underlying32 g2)
  obtain ⟨p, P, rfl, i2, l2⟩ := sl_of (sz := 1) (f := fun s : List UInt8 => .str s) (by kernel_rfl) (fun x hx => by obtain ⟨s, hs, _⟩ := rdT_str Tryd.underlying9 hx; exact ⟨s, hs⟩) (rdC_slice Tryd.underlying33 g3)
  obtain ⟨c, C, rfl, i3, l3⟩ := sl_of (sz := 3) (f := fun c : List UInt8 × Bool × Bool => .agg [.str c.1, .bool c.2.1, .bool c.2.2]) (by kernel_rfl) (fun x hx => by
    obtain ⟨l, rfl, g⟩ := rdT_structC Tryd.underlying75 hx
    obtain ⟨y0, r, rfl, k0, g⟩ := g
    obtain ⟨y1, r, rfl, k1, g⟩ := g
    obtain ⟨y2, r, rfl, k2, g⟩ := g
    cases g
    obtain ⟨s, rfl, _⟩ := rdC_str Tryd.underlying9 k0
    obtain ⟨b, rfl⟩ := rdC_bool Tryd.underlying4 k1
    obtain ⟨b', rfl⟩ := rdC_bool Tryd.underlying4 k2
    exact ⟨(s, b, b'), rfl⟩) (rdC_slice Tryd.underlying34 g4)
  obtain ⟨m, M, rfl, i4, l4⟩ := sl_of (sz := 1) (f := fun n : Int => .int .i64 n) (by kernel_rfl) (fun x hx => by obtain ⟨n, hn, _⟩ := rdT_int Tryd.underlying3 hx; exact ⟨n, hn⟩) (rdC_slice Tryd.underlying35 g5)
  exact ⟨⟨e, n, D, P, C, M⟩, ⟨d, p, c, m, rfl, i1, i2, i3, i4⟩, l2, l3, l4⟩

theorem judgeAnswers_im (avs : List AV) (h : RdAll Tryd.prog 10 Tryd.f4.params.toList avs) : ∃ n, ∀ ω, ∃ h', call F n true ω 4 avs [] = some (.bool true, h') := by
  have hp : Tryd.f4.params.toList = [37, 37, 42] := by rw [Tryd.params4]
  rw [hp] at h
  obtain ⟨a, r, rfl, h1, h⟩ := rdAll_cons h
  obtain ⟨b, r, rfl, h2, h⟩ := rdAll_cons h
  obtain ⟨c, r, rfl, h3, h⟩ := rdAll_cons h
  cases rdAll_nil h
  obtain ⟨x, hx, lx⟩ := answer_of h1
  obtain ⟨y, hy, ly⟩ := answer_of h2
  obtain ⟨l, rfl, g⟩ := rdT_structC Tryd.underlying42 h3
  obtain ⟨x0, r, rfl, g0, g⟩ := g
  obtain ⟨x1, r, rfl, g1, g⟩ := g
  obtain ⟨x2, r, rfl, g2, g⟩ := g
  obtain ⟨x3, r, rfl, g3, g⟩ := g
  obtain ⟨x4, r, rfl, g4, g⟩ := g
  cases g
  obtain ⟨k, rfl, _⟩ := rdC_int Tryd.underlying3 g0
  obtain ⟨u1, rfl, _⟩ := rdC_int Tryd.underlying3 g1
  obtain ⟨u2, rfl, _⟩ := rdC_int Tryd.underlying3 g2
  obtain ⟨u3, rfl, _⟩ := rdC_str Tryd.underlying9 g3
  obtain ⟨u4, e4⟩ : ∃ u, x4 = [u] := by
    rcases rdC_slice Tryd.underlying40 g4 with e | ⟨es, e, _⟩
    · exact ⟨_, e⟩
    · exact ⟨_, e⟩
  subst e4
  exact ⟨9223372036854775807 + 301, fun ω => law_answers x y a b k _ _ _ _ hx hy lx (Nat.le_refl _) H1 (awake1 (9223372036854775807 + 100) ω)⟩
theorem own : ownKnob Tryd.prog.godebug = none := by kernel_rfl

mutual
/-- The cells of a datum of numbers. -/
def cellsOfD : DataW Unit → List Value
  | .lit (.int k n) => [.int k n]
  | .lit (.bool b) => [.bool b]
  | .agg ps => cellsOfDs ps
  | _ => []
def cellsOfDs : List (DataW Unit) → List Value
  | [] => []
  | d :: ds => cellsOfD d ++ cellsOfDs ds
end

/-- A world for the witness: the settled one, its tables holding what their initialisers lay. -/
noncomputable def laidWorld (os : Os) : World :=
  { World.holding Tryd.prog os ⟨#[], #[], []⟩ with heap := (((World.holding Tryd.prog os ⟨#[], #[], []⟩).heap.modify 1 (fun
      | .cells _ t frozen => .cells (cellsOfD Rows.laid_unicode_utf8_first).toArray t frozen
      | o => o)).modify 2 (fun
      | .cells _ t frozen => .cells (cellsOfD Rows.laid_unicode_utf8_acceptRanges).toArray t frozen
      | o => o)) }
theorem laid_met (os : Os) : laidMet Tryd.prog Rows.judgeAnswersRow.laid ((laidWorld os).forCall (fun _ _ => 0) ⟨#[], #[.agg #[.int .i64 0, .int .i64 0, .slice none 0 0, .slice none 0 0, .slice none 0 0, .slice none 0 0], .agg #[.int .i64 0, .int .i64 0, .slice none 0 0, .slice none 0 0, .slice none 0 0, .slice none 0 0], .agg #[.int .i64 0, .int .i64 0, .int .i64 0, .string .empty, .slice none 0 0]], []⟩).memory :=
  laidMet_of_run' 8 (by kernel_rfl) (by kernel_rfl)
theorem reads (os : Os) {H : Type} (enc : TypeId × Value → H) : ∃ places, DataW.whole enc Tryd.prog ((laidWorld os).forCall (fun _ _ => 0) ⟨#[], #[.agg #[.int .i64 0, .int .i64 0, .slice none 0 0, .slice none 0 0, .slice none 0 0, .slice none 0 0], .agg #[.int .i64 0, .int .i64 0, .slice none 0 0, .slice none 0 0, .slice none 0 0, .slice none 0 0], .agg #[.int .i64 0, .int .i64 0, .int .i64 0, .string .empty, .slice none 0 0]], []⟩).memory Tryd.f4.params.toList Rows.judgeAnswersSpec.vars false [.agg #[.int .i64 0, .int .i64 0, .slice none 0 0, .slice none 0 0, .slice none 0 0, .slice none 0 0], .agg #[.int .i64 0, .int .i64 0, .slice none 0 0, .slice none 0 0, .slice none 0 0, .slice none 0 0], .agg #[.int .i64 0, .int .i64 0, .int .i64 0, .string .empty, .slice none 0 0]] 12 = some ([.agg [.lit (.int .i64 0), .lit (.int .i64 0), .nil, .nil, .nil, .nil], .agg [.lit (.int .i64 0), .lit (.int .i64 0), .nil, .nil, .nil, .nil], .agg [.lit (.int .i64 0), .lit (.int .i64 0), .lit (.int .i64 0), .lit (.string []), .nil]], [], places) :=
  ⟨[], by kernel_rfl⟩

set_option maxRecDepth 100000 in
theorem lifted (os : Os) (started : os.Started) (H : Type) (enc : TypeId × Value → H) (F : Stop.Interp) :
    ReturnsInHanded {} Tryd.checked os 4 .any ((OpenSpec.ofChange Rows.judgeAnswersSpec).preRow enc Tryd.prog Tryd.f4 Rows.judgeAnswersRow.domain false Rows.judgeAnswersRow.laid) (((OpenSpec.ofChange Rows.judgeAnswersSpec).at F).post enc Tryd.prog Tryd.f4 false true false false) := by
  obtain ⟨places, hx⟩ := reads os enc
  refine returnsInHanded_of_row (C := Tryd.checked) (s := OpenSpec.ofChange Rows.judgeAnswersSpec) own started (by kernel_rfl) Tryd.func4
    (witness_row_at (enc := enc) (C := Tryd.checked) false (laidWorld os) #[.agg #[.int .i64 0, .int .i64 0, .slice none 0 0, .slice none 0 0, .slice none 0 0, .slice none 0 0], .agg #[.int .i64 0, .int .i64 0, .slice none 0 0, .slice none 0 0, .slice none 0 0, .slice none 0 0], .agg #[.int .i64 0, .int .i64 0, .int .i64 0, .string .empty, .slice none 0 0]] rfl (by kernel_rfl) (by kernel_rfl) (by kernel_rfl)
      (OpenSpec.preRow_of_cond 12 hx (by kernel_rfl) (fun k hk => by cases hk) (by kernel_rfl) (laid_met os))) ?_
  intro W base args ds gs before hval hW _ _ _ hL _ _
  exact law_contract (P := Tryd.prog) (m := 10) (tb := 4) tableOk (by kernel_rfl) (fun _ => rfl) rfl (fun ds h => by
    rw [Tryd.params4] at h
    match ds, h with
    | [d1, d2, d3], _ => rfl) (by kernel_rfl) (by kernel_rfl) (by kernel_rfl) (by kernel_rfl) Tryd.underlying4 judgeAnswers_im W base args ds gs before hval hW

theorem judgeAnswers_said : Rows.JudgeAnswersSaid :=
  OpenClaim.holds_of_cond 4 Tryd.f4 rfl rfl rfl rfl rfl rfl rfl ⟨rfl, rfl, rfl, rfl, rfl⟩ rfl rfl rfl rfl rfl (by kernel_rfl) Tryd.func4 (by kernel_rfl)
    (of_decide_eq_true (by kernel_rfl)) (by unfold Func.isWrapper; first | (rw [if_pos (by decide +kernel)]; kernel_rfl) | (rw [if_neg (by decide +kernel)]; exact ⟨rfl, rfl⟩))
    (fun os started H enc _ F => by rw [OpenClaim.pre_eq_preRow]; exact lifted os started H enc F)

/-- No parameter wants a stand-in. -/
theorem plainly (f : FuncId) (fn : Func) (hf : Tryd.pinned.checked.prog.funcNamed "silo/silolaw22.JudgeAnswers" = some f) (hfn : Tryd.pinned.checked.prog.funcs[f]? = some fn) :
    false = Tryd.pinned.checked.prog.looks [] ∧ ∀ (j : Nat) t, fn.params[j]? = some t → Tryd.pinned.checked.prog.wantsStandIn t = false := by
  obtain rfl : f = 4 := Option.some.inj ((show Tryd.prog.funcNamed "silo/silolaw22.JudgeAnswers" = some 4 by kernel_rfl).symm.trans hf) |>.symm
  obtain rfl : fn = Tryd.f4 := (Option.some.inj (Tryd.func4.symm.trans hfn)).symm
  refine ⟨by kernel_rfl, fun j t ht => ?_⟩
  rw [Tryd.params4] at ht
  have hm := Array.mem_of_getElem? ht
  have ht : t = 37 ∨ t = 42 := by simpa using hm
  rcases ht with rfl | rfl
  · exact (show Tryd.prog.wantsStandIn 37 = false by kernel_rfl)
  · exact (show Tryd.prog.wantsStandIn 42 = false by kernel_rfl)

theorem judgeAnswers_card : Rows.JudgeAnswersCardSaid :=
  Claim7.holds_tied_plain_at .later [] _ _ _ _ judgeAnswers_said (fun _ h => by cases h) (by kernel_rfl) (fun _ h => by cases h) judgeAnswers_row_tie rfl ⟨rfl, rfl⟩ (by kernel_rfl) rfl plainly (by kernel_rfl)

#print axioms judgeAnswers_card
end Go.Proofs.YtljcnoifjhifcaaDoor

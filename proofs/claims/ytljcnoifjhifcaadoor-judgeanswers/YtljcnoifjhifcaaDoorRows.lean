/-
  NARROWER THAN 'FOR EVERY INPUT', by the rows' own cells (each row's printed sentence says how): JudgeStores: laid · JudgeAnswers: laid · JudgeTakes: laid · JudgeTells: laid · JudgeWider: laid.
  DERIVED. THE GIVEN ROWS OF THIS SEAT. 5 by the template 'for every input the law returns true; each argument reads behind the call as it read before'; 0 by the template 'total and deterministic' (their statements: YtljcnoifjhifcaaDoorTotals.lean).
  GIVEN WITH THE SEED: the statements are not yours to turn. If you find one false, say at which input.
  Laid BY PROGRAM, IN A SANDBOX (cutbox-rows.mjs): the forced cells as the released guide's own fill.sh prints them over the translation a4ad0b4f421af813… (all of the seat's roots in one cut). By AI agents, Wed Nov 11 2026. No macro, syntax, notation, axiom, sorry.
-/
import Derived.Test.YtljcnoifjhifcaaDoorChecked
import GoSem.PinnedTables
import GoSem.Claim
import GoSem.ClaimJoined
import GoSem.ClaimMapViews
import Derived.JoinedTies
import Derived.KernelRfl
namespace Go.Proofs.YtljcnoifjhifcaaDoor
/- THE CELL 'sum', in the pinned program and in every row, IS THE sha256 OF THE DUMP (.gsa) THAT YtljcnoifjhifcaaDoorProg.lean LOADS. Nothing in Lean hashes anything: it is a label: what it is worth is what the hold of that sum in a sandbox is worth. -/
noncomputable def Tryd.pinned : Pinned := { name := "ytljcnoifjhifcaadoor", sum := "a4ad0b4f421af813d46ecc1cda003e3bad0c5d18164cb0b8dec04729ef6f5af0", checked := Tryd.checked }
namespace Rows
def none {H : Type} : Left H := { results := [], args := [] }

/- WHAT THE LISTED PACKAGE-LEVEL VARIABLES READ AS WHEN THE CALL BEGINS. Each datum BY PROGRAM (the guide's laid-datum.mjs) off the statement by which the dump's own 'gosem.cut.vars' lays the variable. In a bare row this is a premise. The card (YtljcnoifjhifcaaDoorCards.lean) ties it to the program's text. -/
def laid_unicode_utf8_acceptRanges {H : Type} : DataW H := .agg [.agg [.lit (.int .u8 128), .lit (.int .u8 191)], .agg [.lit (.int .u8 160), .lit (.int .u8 191)], .agg [.lit (.int .u8 128), .lit (.int .u8 159)], .agg [.lit (.int .u8 144), .lit (.int .u8 191)], .agg [.lit (.int .u8 128), .lit (.int .u8 143)], .agg [.lit (.int .u8 0), .lit (.int .u8 0)], .agg [.lit (.int .u8 0), .lit (.int .u8 0)], .agg [.lit (.int .u8 0), .lit (.int .u8 0)], .agg [.lit (.int .u8 0), .lit (.int .u8 0)], .agg [.lit (.int .u8 0), .lit (.int .u8 0)], .agg [.lit (.int .u8 0), .lit (.int .u8 0)], .agg [.lit (.int .u8 0), .lit (.int .u8 0)], .agg [.lit (.int .u8 0), .lit (.int .u8 0)], .agg [.lit (.int .u8 0), .lit (.int .u8 0)], .agg [.lit (.int .u8 0), .lit (.int .u8 0)], .agg [.lit (.int .u8 0), .lit (.int .u8 0)]]
/-- One of Go's own tables, pinned by name: the form's constant. -/
def laid_unicode_utf8_first : DataW Unit := Go.Pinned.utf8First

/-- 'silolaw22.JudgeStores': WHATEVER THE INPUT: true; the input reads as it did. -/
def judgeStoresSpec : ChangeSpec := { name := "judgeStores", fn := fun _ => fun
  | [d] => { results := [.lit (.bool true)], args := [d] }
  | _ => none }
def judgeStoresRow : OpenClaim := { program := "ytljcnoifjhifcaadoor", sum := "a4ad0b4f421af813d46ecc1cda003e3bad0c5d18164cb0b8dec04729ef6f5af0", func := "silo/silolaw22.JudgeStores", spec := "judgeStores", inPlace := ["internal/bytealg.abigen_runtime_cmpstring", "internal/bytealg.IndexByteString", "internal/bytealg.IndexString"], unfollowed := true, recurses := true, named := ["unicode/utf8.first", "unicode/utf8.acceptRanges", "internal/bytealg.MaxLen"], apart := false, laid := [("unicode/utf8.acceptRanges", laid_unicode_utf8_acceptRanges), ("unicode/utf8.first", laid_unicode_utf8_first)] }
def JudgeStoresSaid : Prop := judgeStoresRow.holds Tryd.pinned (OpenSpec.ofChange judgeStoresSpec)

/-- ITS FALSE NEIGHBOUR: 'it returns false'. Refute it at one input. -/
def judgeStoresWrong : ChangeSpec := { name := "judgeStores", fn := fun _ => fun
  | [d] => { results := [.lit (.bool false)], args := [d] }
  | _ => none }
def JudgeStoresWrongFalsely : Prop := judgeStoresRow.holds Tryd.pinned (OpenSpec.ofChange judgeStoresWrong)

/-- 'silolaw22.JudgeAnswers': WHATEVER THE INPUT: true; the input reads as it did. -/
def judgeAnswersSpec : ChangeSpec := { name := "judgeAnswers", fn := fun _ => fun
  | [d1, d2, d3] => { results := [.lit (.bool true)], args := [d1, d2, d3] }
  | _ => none }
def judgeAnswersRow : OpenClaim := { program := "ytljcnoifjhifcaadoor", sum := "a4ad0b4f421af813d46ecc1cda003e3bad0c5d18164cb0b8dec04729ef6f5af0", func := "silo/silolaw22.JudgeAnswers", spec := "judgeAnswers", inPlace := ["internal/bytealg.abigen_runtime_cmpstring", "internal/bytealg.IndexByteString", "internal/bytealg.IndexString"], unfollowed := true, recurses := true, named := ["unicode/utf8.first", "unicode/utf8.acceptRanges", "internal/bytealg.MaxLen"], apart := false, laid := [("unicode/utf8.acceptRanges", laid_unicode_utf8_acceptRanges), ("unicode/utf8.first", laid_unicode_utf8_first)] }
def JudgeAnswersSaid : Prop := judgeAnswersRow.holds Tryd.pinned (OpenSpec.ofChange judgeAnswersSpec)

/-- ITS FALSE NEIGHBOUR: 'it returns false'. Refute it at one input. -/
def judgeAnswersWrong : ChangeSpec := { name := "judgeAnswers", fn := fun _ => fun
  | [d1, d2, d3] => { results := [.lit (.bool false)], args := [d1, d2, d3] }
  | _ => none }
def JudgeAnswersWrongFalsely : Prop := judgeAnswersRow.holds Tryd.pinned (OpenSpec.ofChange judgeAnswersWrong)

/-- 'silolaw22.JudgeTakes': WHATEVER THE INPUT: true; the input reads as it did. -/
def judgeTakesSpec : ChangeSpec := { name := "judgeTakes", fn := fun _ => fun
  | [d1, d2, d3, d4] => { results := [.lit (.bool true)], args := [d1, d2, d3, d4] }
  | _ => none }
def judgeTakesRow : OpenClaim := { program := "ytljcnoifjhifcaadoor", sum := "a4ad0b4f421af813d46ecc1cda003e3bad0c5d18164cb0b8dec04729ef6f5af0", func := "silo/silolaw22.JudgeTakes", spec := "judgeTakes", inPlace := ["internal/bytealg.abigen_runtime_cmpstring", "internal/bytealg.IndexByteString", "internal/bytealg.IndexString"], unfollowed := true, recurses := true, named := ["unicode/utf8.first", "unicode/utf8.acceptRanges", "internal/bytealg.MaxLen"], apart := false, laid := [("unicode/utf8.acceptRanges", laid_unicode_utf8_acceptRanges), ("unicode/utf8.first", laid_unicode_utf8_first)] }
def JudgeTakesSaid : Prop := judgeTakesRow.holds Tryd.pinned (OpenSpec.ofChange judgeTakesSpec)

/-- ITS FALSE NEIGHBOUR: 'it returns false'. Refute it at one input. -/
def judgeTakesWrong : ChangeSpec := { name := "judgeTakes", fn := fun _ => fun
  | [d1, d2, d3, d4] => { results := [.lit (.bool false)], args := [d1, d2, d3, d4] }
  | _ => none }
def JudgeTakesWrongFalsely : Prop := judgeTakesRow.holds Tryd.pinned (OpenSpec.ofChange judgeTakesWrong)

/-- 'silolaw22.JudgeTells': WHATEVER THE INPUT: true; the input reads as it did. -/
def judgeTellsSpec : ChangeSpec := { name := "judgeTells", fn := fun _ => fun
  | [d1, d2, d3] => { results := [.lit (.bool true)], args := [d1, d2, d3] }
  | _ => none }
def judgeTellsRow : OpenClaim := { program := "ytljcnoifjhifcaadoor", sum := "a4ad0b4f421af813d46ecc1cda003e3bad0c5d18164cb0b8dec04729ef6f5af0", func := "silo/silolaw22.JudgeTells", spec := "judgeTells", inPlace := ["internal/bytealg.abigen_runtime_cmpstring", "internal/bytealg.IndexByteString", "internal/bytealg.IndexString"], unfollowed := true, recurses := true, named := ["unicode/utf8.first", "unicode/utf8.acceptRanges", "internal/bytealg.MaxLen"], apart := false, laid := [("unicode/utf8.acceptRanges", laid_unicode_utf8_acceptRanges), ("unicode/utf8.first", laid_unicode_utf8_first)] }
def JudgeTellsSaid : Prop := judgeTellsRow.holds Tryd.pinned (OpenSpec.ofChange judgeTellsSpec)

/-- ITS FALSE NEIGHBOUR: 'it returns false'. Refute it at one input. -/
def judgeTellsWrong : ChangeSpec := { name := "judgeTells", fn := fun _ => fun
  | [d1, d2, d3] => { results := [.lit (.bool false)], args := [d1, d2, d3] }
  | _ => none }
def JudgeTellsWrongFalsely : Prop := judgeTellsRow.holds Tryd.pinned (OpenSpec.ofChange judgeTellsWrong)

/-- 'silolaw22.JudgeWider': WHATEVER THE INPUT: true; the input reads as it did. -/
def judgeWiderSpec : ChangeSpec := { name := "judgeWider", fn := fun _ => fun
  | [d1, d2, d3, d4] => { results := [.lit (.bool true)], args := [d1, d2, d3, d4] }
  | _ => none }
def judgeWiderRow : OpenClaim := { program := "ytljcnoifjhifcaadoor", sum := "a4ad0b4f421af813d46ecc1cda003e3bad0c5d18164cb0b8dec04729ef6f5af0", func := "silo/silolaw22.JudgeWider", spec := "judgeWider", inPlace := ["internal/bytealg.abigen_runtime_cmpstring", "internal/bytealg.IndexByteString", "internal/bytealg.IndexString"], unfollowed := true, recurses := true, named := ["unicode/utf8.first", "unicode/utf8.acceptRanges", "internal/bytealg.MaxLen"], apart := false, laid := [("unicode/utf8.acceptRanges", laid_unicode_utf8_acceptRanges), ("unicode/utf8.first", laid_unicode_utf8_first)] }
def JudgeWiderSaid : Prop := judgeWiderRow.holds Tryd.pinned (OpenSpec.ofChange judgeWiderSpec)

/-- ITS FALSE NEIGHBOUR: 'it returns false'. Refute it at one input. -/
def judgeWiderWrong : ChangeSpec := { name := "judgeWider", fn := fun _ => fun
  | [d1, d2, d3, d4] => { results := [.lit (.bool false)], args := [d1, d2, d3, d4] }
  | _ => none }
def JudgeWiderWrongFalsely : Prop := judgeWiderRow.holds Tryd.pinned (OpenSpec.ofChange judgeWiderWrong)

/- THE SECOND FORM. 'bulk': how many values and letters a reading holds, each counted each time it is reached (what is shared counts as often as it is met; a slice's spare places count too). A statement '..UptoSaid' is the law's where the arguments, and the package variables that the reading takes, are together of bulk at most 1048576: NARROWER than '..Said'. Prove '..Said' where nothing that the law and all that it calls make is longer than what came in: it says more and counts as full. Else prove '..UptoSaid'. A law counts once. -/
mutual
def uptoBulk {H : Type} : DataW H → Nat
  | .lit (.string bytes) => bytes.length + 1
  | .lit _ => 1
  | .nil => 1
  | .ptr d => uptoBulk d + 1
  | .slice elems spare => uptoBulkAll elems + uptoBulkAll spare + 1
  | .agg parts => uptoBulkAll parts + 1
  | .iface _ d => uptoBulk d + 1
  | .map entries => uptoBulkEntries entries + 1
  | .held _ => 1
def uptoBulkAll {H : Type} : List (DataW H) → Nat
  | [] => 0
  | d :: r => uptoBulk d + uptoBulkAll r
def uptoBulkEntries {H : Type} : List (Lit × DataW H) → Nat
  | [] => 0
  | x :: r => uptoBulkEntry x + uptoBulkEntries r
def uptoBulkEntry {H : Type} : Lit × DataW H → Nat
  | (.string bytes, d) => bytes.length + uptoBulk d + 1
  | (_, d) => uptoBulk d + 1
 end
def uptoSmall : (H : Type) → List (DataW H) → Bool := fun _ ds => decide (uptoBulkAll ds ≤ 1048576)
def OpenSpec.upto (s : _root_.Go.ChangeSpec) : _root_.Go.OpenSpec := { _root_.Go.OpenSpec.ofChange s with cond := some uptoSmall }

/-- 'silolaw22.JudgeStores', WHERE WHAT IT READS IS OF BULK AT MOST 1048576: true; the input reads as it did. -/
def judgeStoresUptoRow : OpenClaim := { program := "ytljcnoifjhifcaadoor", sum := "a4ad0b4f421af813d46ecc1cda003e3bad0c5d18164cb0b8dec04729ef6f5af0", func := "silo/silolaw22.JudgeStores", spec := "judgeStores", inPlace := ["internal/bytealg.abigen_runtime_cmpstring", "internal/bytealg.IndexByteString", "internal/bytealg.IndexString"], unfollowed := true, recurses := true, named := ["unicode/utf8.first", "unicode/utf8.acceptRanges", "internal/bytealg.MaxLen"], apart := false, laid := [("unicode/utf8.acceptRanges", laid_unicode_utf8_acceptRanges), ("unicode/utf8.first", laid_unicode_utf8_first)], narrowed := true }
def JudgeStoresUptoSaid : Prop := judgeStoresUptoRow.holds Tryd.pinned (OpenSpec.upto judgeStoresSpec)

/-- 'silolaw22.JudgeAnswers', WHERE WHAT IT READS IS OF BULK AT MOST 1048576: true; the input reads as it did. -/
def judgeAnswersUptoRow : OpenClaim := { program := "ytljcnoifjhifcaadoor", sum := "a4ad0b4f421af813d46ecc1cda003e3bad0c5d18164cb0b8dec04729ef6f5af0", func := "silo/silolaw22.JudgeAnswers", spec := "judgeAnswers", inPlace := ["internal/bytealg.abigen_runtime_cmpstring", "internal/bytealg.IndexByteString", "internal/bytealg.IndexString"], unfollowed := true, recurses := true, named := ["unicode/utf8.first", "unicode/utf8.acceptRanges", "internal/bytealg.MaxLen"], apart := false, laid := [("unicode/utf8.acceptRanges", laid_unicode_utf8_acceptRanges), ("unicode/utf8.first", laid_unicode_utf8_first)], narrowed := true }
def JudgeAnswersUptoSaid : Prop := judgeAnswersUptoRow.holds Tryd.pinned (OpenSpec.upto judgeAnswersSpec)

/-- 'silolaw22.JudgeTakes', WHERE WHAT IT READS IS OF BULK AT MOST 1048576: true; the input reads as it did. -/
def judgeTakesUptoRow : OpenClaim := { program := "ytljcnoifjhifcaadoor", sum := "a4ad0b4f421af813d46ecc1cda003e3bad0c5d18164cb0b8dec04729ef6f5af0", func := "silo/silolaw22.JudgeTakes", spec := "judgeTakes", inPlace := ["internal/bytealg.abigen_runtime_cmpstring", "internal/bytealg.IndexByteString", "internal/bytealg.IndexString"], unfollowed := true, recurses := true, named := ["unicode/utf8.first", "unicode/utf8.acceptRanges", "internal/bytealg.MaxLen"], apart := false, laid := [("unicode/utf8.acceptRanges", laid_unicode_utf8_acceptRanges), ("unicode/utf8.first", laid_unicode_utf8_first)], narrowed := true }
def JudgeTakesUptoSaid : Prop := judgeTakesUptoRow.holds Tryd.pinned (OpenSpec.upto judgeTakesSpec)

/-- 'silolaw22.JudgeTells', WHERE WHAT IT READS IS OF BULK AT MOST 1048576: true; the input reads as it did. -/
def judgeTellsUptoRow : OpenClaim := { program := "ytljcnoifjhifcaadoor", sum := "a4ad0b4f421af813d46ecc1cda003e3bad0c5d18164cb0b8dec04729ef6f5af0", func := "silo/silolaw22.JudgeTells", spec := "judgeTells", inPlace := ["internal/bytealg.abigen_runtime_cmpstring", "internal/bytealg.IndexByteString", "internal/bytealg.IndexString"], unfollowed := true, recurses := true, named := ["unicode/utf8.first", "unicode/utf8.acceptRanges", "internal/bytealg.MaxLen"], apart := false, laid := [("unicode/utf8.acceptRanges", laid_unicode_utf8_acceptRanges), ("unicode/utf8.first", laid_unicode_utf8_first)], narrowed := true }
def JudgeTellsUptoSaid : Prop := judgeTellsUptoRow.holds Tryd.pinned (OpenSpec.upto judgeTellsSpec)

/-- 'silolaw22.JudgeWider', WHERE WHAT IT READS IS OF BULK AT MOST 1048576: true; the input reads as it did. -/
def judgeWiderUptoRow : OpenClaim := { program := "ytljcnoifjhifcaadoor", sum := "a4ad0b4f421af813d46ecc1cda003e3bad0c5d18164cb0b8dec04729ef6f5af0", func := "silo/silolaw22.JudgeWider", spec := "judgeWider", inPlace := ["internal/bytealg.abigen_runtime_cmpstring", "internal/bytealg.IndexByteString", "internal/bytealg.IndexString"], unfollowed := true, recurses := true, named := ["unicode/utf8.first", "unicode/utf8.acceptRanges", "internal/bytealg.MaxLen"], apart := false, laid := [("unicode/utf8.acceptRanges", laid_unicode_utf8_acceptRanges), ("unicode/utf8.first", laid_unicode_utf8_first)], narrowed := true }
def JudgeWiderUptoSaid : Prop := judgeWiderUptoRow.holds Tryd.pinned (OpenSpec.upto judgeWiderSpec)

end Rows
end Go.Proofs.YtljcnoifjhifcaaDoor

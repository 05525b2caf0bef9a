/-
  No cell of these rows narrows 'for every input' (looked for: loops, veiled, ifaces, maps, wideKeys, modest, calm, conditions, laid).
  DERIVED. THE GIVEN ROWS OF THIS SEAT. 4 by the template 'for every input the law returns true; each argument reads behind the call as it read before'; 0 by the template 'total and deterministic' (their statements: YtlognommhffmcaaGreatTotals.lean).
  GIVEN WITH THE SEED: the statements are not yours to turn. If you find one false, say at which input.
  Laid BY PROGRAM, IN A SANDBOX (cutbox-rows.mjs): the forced cells as the released guide's own fill.sh prints them over the translation 4787fa23b97df9c1… (all of the seat's roots in one cut). By AI agents, Wed Nov 11 2026. No macro, syntax, notation, axiom, sorry.
-/
import Derived.Test.YtlognommhffmcaaGreatChecked
import GoSem.Claim
import GoSem.ClaimJoined
import GoSem.ClaimMapViews
import Derived.JoinedTies
import Derived.KernelRfl
namespace Go.Proofs.YtlognommhffmcaaGreat
/- THE CELL 'sum', in the pinned program and in every row, IS THE sha256 OF THE DUMP (.gsa) THAT YtlognommhffmcaaGreatProg.lean LOADS. Nothing in Lean hashes anything: it is a label: what it is worth is what the hold of that sum in a sandbox is worth. -/
noncomputable def Tryz.pinned : Pinned := { name := "ytlognommhffmcaagreat", sum := "4787fa23b97df9c15f13a73d0773c48f32d16d6356084bbf4f8319a7f1d24adc", checked := Tryz.checked }
namespace Rows
def none {H : Type} : Left H := { results := [], args := [] }

/-- 'silolaw13.ManifestLoads': WHATEVER THE INPUT: true; the input reads as it did. -/
def manifestLoadsSpec : ChangeSpec := { name := "manifestLoads", fn := fun _ => fun
  | [d1, d2] => { results := [.lit (.bool true)], args := [d1, d2] }
  | _ => none }
def manifestLoadsRow : OpenClaim := { program := "ytlognommhffmcaagreat", sum := "4787fa23b97df9c15f13a73d0773c48f32d16d6356084bbf4f8319a7f1d24adc", func := "silo/silolaw13.ManifestLoads", spec := "manifestLoads", inPlace := ["internal/bytealg.abigen_runtime_cmpstring"], unfollowed := true, recurses := true, apart := false }
def ManifestLoadsSaid : Prop := manifestLoadsRow.holds Tryz.pinned (OpenSpec.ofChange manifestLoadsSpec)

/-- ITS FALSE NEIGHBOUR: 'it returns false'. Refute it at one input. -/
def manifestLoadsWrong : ChangeSpec := { name := "manifestLoads", fn := fun _ => fun
  | [d1, d2] => { results := [.lit (.bool false)], args := [d1, d2] }
  | _ => none }
def ManifestLoadsWrongFalsely : Prop := manifestLoadsRow.holds Tryz.pinned (OpenSpec.ofChange manifestLoadsWrong)

/-- 'silolaw13.ManifestNil': WHATEVER THE INPUT: true; the input reads as it did. -/
def manifestNilSpec : ChangeSpec := { name := "manifestNil", fn := fun _ => fun
  | [d1, d2] => { results := [.lit (.bool true)], args := [d1, d2] }
  | _ => none }
def manifestNilRow : OpenClaim := { program := "ytlognommhffmcaagreat", sum := "4787fa23b97df9c15f13a73d0773c48f32d16d6356084bbf4f8319a7f1d24adc", func := "silo/silolaw13.ManifestNil", spec := "manifestNil", inPlace := ["internal/bytealg.abigen_runtime_cmpstring"], unfollowed := true, recurses := true, apart := false }
def ManifestNilSaid : Prop := manifestNilRow.holds Tryz.pinned (OpenSpec.ofChange manifestNilSpec)

/-- ITS FALSE NEIGHBOUR: 'it returns false'. Refute it at one input. -/
def manifestNilWrong : ChangeSpec := { name := "manifestNil", fn := fun _ => fun
  | [d1, d2] => { results := [.lit (.bool false)], args := [d1, d2] }
  | _ => none }
def ManifestNilWrongFalsely : Prop := manifestNilRow.holds Tryz.pinned (OpenSpec.ofChange manifestNilWrong)

/-- 'silolaw13.ManifestPlays': WHATEVER THE INPUT: true; the input reads as it did. -/
def manifestPlaysSpec : ChangeSpec := { name := "manifestPlays", fn := fun _ => fun
  | [d] => { results := [.lit (.bool true)], args := [d] }
  | _ => none }
def manifestPlaysRow : OpenClaim := { program := "ytlognommhffmcaagreat", sum := "4787fa23b97df9c15f13a73d0773c48f32d16d6356084bbf4f8319a7f1d24adc", func := "silo/silolaw13.ManifestPlays", spec := "manifestPlays", inPlace := ["internal/bytealg.abigen_runtime_cmpstring"], unfollowed := true, recurses := true, apart := false }
def ManifestPlaysSaid : Prop := manifestPlaysRow.holds Tryz.pinned (OpenSpec.ofChange manifestPlaysSpec)

/-- ITS FALSE NEIGHBOUR: 'it returns false'. Refute it at one input. -/
def manifestPlaysWrong : ChangeSpec := { name := "manifestPlays", fn := fun _ => fun
  | [d] => { results := [.lit (.bool false)], args := [d] }
  | _ => none }
def ManifestPlaysWrongFalsely : Prop := manifestPlaysRow.holds Tryz.pinned (OpenSpec.ofChange manifestPlaysWrong)

/-- 'silolaw13.ManifestUndo': WHATEVER THE INPUT: true; the input reads as it did. -/
def manifestUndoSpec : ChangeSpec := { name := "manifestUndo", fn := fun _ => fun
  | [d1, d2, d3] => { results := [.lit (.bool true)], args := [d1, d2, d3] }
  | _ => none }
def manifestUndoRow : OpenClaim := { program := "ytlognommhffmcaagreat", sum := "4787fa23b97df9c15f13a73d0773c48f32d16d6356084bbf4f8319a7f1d24adc", func := "silo/silolaw13.ManifestUndo", spec := "manifestUndo", inPlace := ["internal/bytealg.abigen_runtime_cmpstring"], unfollowed := true, recurses := true, apart := false }
def ManifestUndoSaid : Prop := manifestUndoRow.holds Tryz.pinned (OpenSpec.ofChange manifestUndoSpec)

/-- ITS FALSE NEIGHBOUR: 'it returns false'. Refute it at one input. -/
def manifestUndoWrong : ChangeSpec := { name := "manifestUndo", fn := fun _ => fun
  | [d1, d2, d3] => { results := [.lit (.bool false)], args := [d1, d2, d3] }
  | _ => none }
def ManifestUndoWrongFalsely : Prop := manifestUndoRow.holds Tryz.pinned (OpenSpec.ofChange manifestUndoWrong)

/- THE SECOND FORM. 'bulk': how many values and letters a reading holds, each counted each time it is reached (what is shared counts as often as it is met; a slice's spare places count too). A statement '..UptoSaid' is the law's where the arguments, and the package variables that the reading takes, are together of bulk at most 1048576: NARROWER than '..Said'. Prove '..Said' where nothing that the law and all that it calls make is longer than what came in: it says more and counts as full. Else prove '..UptoSaid'. A law counts once. -/
mutual
def uptoBulk {H : Type} : DataW H → Nat
  | .lit (.string bytes) => bytes.length + 1
  | .lit _ => 1
  | .nil => 1
  | .ptr d => uptoBulk d + 1
  | .slice elems spare => uptoBulkAll elems + uptoBulkAll spare + 1
  | .agg parts => uptoBulkAll parts + 1
  | .iface _ d => uptoBulk d + 1
  | .map entries => uptoBulkEntries entries + 1
  | .held _ => 1
def uptoBulkAll {H : Type} : List (DataW H) → Nat
  | [] => 0
  | d :: r => uptoBulk d + uptoBulkAll r
def uptoBulkEntries {H : Type} : List (Lit × DataW H) → Nat
  | [] => 0
  | x :: r => uptoBulkEntry x + uptoBulkEntries r
def uptoBulkEntry {H : Type} : Lit × DataW H → Nat
  | (.string bytes, d) => bytes.length + uptoBulk d + 1
  | (_, d) => uptoBulk d + 1
 end
def uptoSmall : (H : Type) → List (DataW H) → Bool := fun _ ds => decide (uptoBulkAll ds ≤ 1048576)
def OpenSpec.upto (s : _root_.Go.ChangeSpec) : _root_.Go.OpenSpec := { _root_.Go.OpenSpec.ofChange s with cond := some uptoSmall }

/-- 'silolaw13.ManifestLoads', WHERE WHAT IT READS IS OF BULK AT MOST 1048576: true; the input reads as it did. -/
def manifestLoadsUptoRow : OpenClaim := { program := "ytlognommhffmcaagreat", sum := "4787fa23b97df9c15f13a73d0773c48f32d16d6356084bbf4f8319a7f1d24adc", func := "silo/silolaw13.ManifestLoads", spec := "manifestLoads", inPlace := ["internal/bytealg.abigen_runtime_cmpstring"], unfollowed := true, recurses := true, apart := false, narrowed := true }
def ManifestLoadsUptoSaid : Prop := manifestLoadsUptoRow.holds Tryz.pinned (OpenSpec.upto manifestLoadsSpec)

/-- 'silolaw13.ManifestNil', WHERE WHAT IT READS IS OF BULK AT MOST 1048576: true; the input reads as it did. -/
def manifestNilUptoRow : OpenClaim := { program := "ytlognommhffmcaagreat", sum := "4787fa23b97df9c15f13a73d0773c48f32d16d6356084bbf4f8319a7f1d24adc", func := "silo/silolaw13.ManifestNil", spec := "manifestNil", inPlace := ["internal/bytealg.abigen_runtime_cmpstring"], unfollowed := true, recurses := true, apart := false, narrowed := true }
def ManifestNilUptoSaid : Prop := manifestNilUptoRow.holds Tryz.pinned (OpenSpec.upto manifestNilSpec)

/-- 'silolaw13.ManifestPlays', WHERE WHAT IT READS IS OF BULK AT MOST 1048576: true; the input reads as it did. -/
def manifestPlaysUptoRow : OpenClaim := { program := "ytlognommhffmcaagreat", sum := "4787fa23b97df9c15f13a73d0773c48f32d16d6356084bbf4f8319a7f1d24adc", func := "silo/silolaw13.ManifestPlays", spec := "manifestPlays", inPlace := ["internal/bytealg.abigen_runtime_cmpstring"], unfollowed := true, recurses := true, apart := false, narrowed := true }
def ManifestPlaysUptoSaid : Prop := manifestPlaysUptoRow.holds Tryz.pinned (OpenSpec.upto manifestPlaysSpec)

/-- 'silolaw13.ManifestUndo', WHERE WHAT IT READS IS OF BULK AT MOST 1048576: true; the input reads as it did. -/
def manifestUndoUptoRow : OpenClaim := { program := "ytlognommhffmcaagreat", sum := "4787fa23b97df9c15f13a73d0773c48f32d16d6356084bbf4f8319a7f1d24adc", func := "silo/silolaw13.ManifestUndo", spec := "manifestUndo", inPlace := ["internal/bytealg.abigen_runtime_cmpstring"], unfollowed := true, recurses := true, apart := false, narrowed := true }
def ManifestUndoUptoSaid : Prop := manifestUndoUptoRow.holds Tryz.pinned (OpenSpec.upto manifestUndoSpec)

end Rows
end Go.Proofs.YtlognommhffmcaaGreat

/-
  No cell of these rows narrows 'for every input' (looked for: loops, veiled, ifaces, maps, wideKeys, modest, calm, conditions, laid).
  DERIVED. THE GIVEN ROWS OF THIS SEAT. 5 by the template 'for every input the law returns true; each argument reads behind the call as it read before'; 0 by the template 'total and deterministic' (their statements: YtdjlcddkfjbebaaTotals.lean).
  GIVEN WITH THE SEED: the statements are not yours to turn. If you find one false, say at which input.
  Laid BY PROGRAM, IN A SANDBOX (cutbox-rows.mjs): the forced cells as the released guide's own fill.sh prints them over the translation 6e753ea364b4ae2b… (all of the seat's roots in one cut). By AI agents, Wed Nov 11 2026. No macro, syntax, notation, axiom, sorry.
-/
import Derived.Test.YtdjlcddkfjbebaaChecked
import GoSem.Claim
import GoSem.ClaimJoined
import GoSem.ClaimMapViews
import Derived.JoinedTies
import Derived.KernelRfl
namespace Go.Proofs.Ytdjlcddkfjbebaa
/- THE CELL 'sum', in the pinned program and in every row, IS THE sha256 OF THE DUMP (.gsa) THAT YtdjlcddkfjbebaaProg.lean LOADS. Nothing in Lean hashes anything: it is a label: what it is worth is what the hold of that sum in a sandbox is worth. -/
noncomputable def Try.pinned : Pinned := { name := "ytdjlcddkfjbebaa", sum := "6e753ea364b4ae2bd02f0b2e49b4fd93170dce89687a0e99c3184a0a39e5f81a", checked := Try.checked }
namespace Rows
def none {H : Type} : Left H := { results := [], args := [] }

/-- 'silolaw18.SketchOf': WHATEVER THE INPUT: true; the input reads as it did. -/
def sketchOfSpec : ChangeSpec := { name := "sketchOf", fn := fun _ => fun
  | [d1, d2] => { results := [.lit (.bool true)], args := [d1, d2] }
  | _ => none }
def sketchOfRow : OpenClaim := { program := "ytdjlcddkfjbebaa", sum := "6e753ea364b4ae2bd02f0b2e49b4fd93170dce89687a0e99c3184a0a39e5f81a", func := "silo/silolaw18.SketchOf", spec := "sketchOf", unfollowed := true, recurses := true, plainKeys := false, apart := false }
def SketchOfSaid : Prop := sketchOfRow.holds Try.pinned (OpenSpec.ofChange sketchOfSpec)

/-- ITS FALSE NEIGHBOUR: 'it returns false'. Refute it at one input. -/
def sketchOfWrong : ChangeSpec := { name := "sketchOf", fn := fun _ => fun
  | [d1, d2] => { results := [.lit (.bool false)], args := [d1, d2] }
  | _ => none }
def SketchOfWrongFalsely : Prop := sketchOfRow.holds Try.pinned (OpenSpec.ofChange sketchOfWrong)

/-- 'silolaw18.SketchAlike': WHATEVER THE INPUT: true; the input reads as it did. -/
def sketchAlikeSpec : ChangeSpec := { name := "sketchAlike", fn := fun _ => fun
  | [d1, d2] => { results := [.lit (.bool true)], args := [d1, d2] }
  | _ => none }
def sketchAlikeRow : OpenClaim := { program := "ytdjlcddkfjbebaa", sum := "6e753ea364b4ae2bd02f0b2e49b4fd93170dce89687a0e99c3184a0a39e5f81a", func := "silo/silolaw18.SketchAlike", spec := "sketchAlike", unfollowed := true, recurses := true, plainKeys := false, apart := false }
def SketchAlikeSaid : Prop := sketchAlikeRow.holds Try.pinned (OpenSpec.ofChange sketchAlikeSpec)

/-- ITS FALSE NEIGHBOUR: 'it returns false'. Refute it at one input. -/
def sketchAlikeWrong : ChangeSpec := { name := "sketchAlike", fn := fun _ => fun
  | [d1, d2] => { results := [.lit (.bool false)], args := [d1, d2] }
  | _ => none }
def SketchAlikeWrongFalsely : Prop := sketchAlikeRow.holds Try.pinned (OpenSpec.ofChange sketchAlikeWrong)

/-- 'silolaw18.SketchWindows': WHATEVER THE INPUT: true; the input reads as it did. -/
def sketchWindowsSpec : ChangeSpec := { name := "sketchWindows", fn := fun _ => fun
  | [d1, d2, d3] => { results := [.lit (.bool true)], args := [d1, d2, d3] }
  | _ => none }
def sketchWindowsRow : OpenClaim := { program := "ytdjlcddkfjbebaa", sum := "6e753ea364b4ae2bd02f0b2e49b4fd93170dce89687a0e99c3184a0a39e5f81a", func := "silo/silolaw18.SketchWindows", spec := "sketchWindows", unfollowed := true, recurses := true, plainKeys := false, apart := false }
def SketchWindowsSaid : Prop := sketchWindowsRow.holds Try.pinned (OpenSpec.ofChange sketchWindowsSpec)

/-- ITS FALSE NEIGHBOUR: 'it returns false'. Refute it at one input. -/
def sketchWindowsWrong : ChangeSpec := { name := "sketchWindows", fn := fun _ => fun
  | [d1, d2, d3] => { results := [.lit (.bool false)], args := [d1, d2, d3] }
  | _ => none }
def SketchWindowsWrongFalsely : Prop := sketchWindowsRow.holds Try.pinned (OpenSpec.ofChange sketchWindowsWrong)

/-- 'silolaw18.SketchNear': WHATEVER THE INPUT: true; the input reads as it did. -/
def sketchNearSpec : ChangeSpec := { name := "sketchNear", fn := fun _ => fun
  | [d1, d2] => { results := [.lit (.bool true)], args := [d1, d2] }
  | _ => none }
def sketchNearRow : OpenClaim := { program := "ytdjlcddkfjbebaa", sum := "6e753ea364b4ae2bd02f0b2e49b4fd93170dce89687a0e99c3184a0a39e5f81a", func := "silo/silolaw18.SketchNear", spec := "sketchNear", unfollowed := true, recurses := true, plainKeys := false, apart := false }
def SketchNearSaid : Prop := sketchNearRow.holds Try.pinned (OpenSpec.ofChange sketchNearSpec)

/-- ITS FALSE NEIGHBOUR: 'it returns false'. Refute it at one input. -/
def sketchNearWrong : ChangeSpec := { name := "sketchNear", fn := fun _ => fun
  | [d1, d2] => { results := [.lit (.bool false)], args := [d1, d2] }
  | _ => none }
def SketchNearWrongFalsely : Prop := sketchNearRow.holds Try.pinned (OpenSpec.ofChange sketchNearWrong)

/-- 'silolaw18.SketchNil': WHATEVER THE INPUT: true; the input reads as it did. -/
def sketchNilSpec : ChangeSpec := { name := "sketchNil", fn := fun _ => fun
  | [d1, d2, d3] => { results := [.lit (.bool true)], args := [d1, d2, d3] }
  | _ => none }
def sketchNilRow : OpenClaim := { program := "ytdjlcddkfjbebaa", sum := "6e753ea364b4ae2bd02f0b2e49b4fd93170dce89687a0e99c3184a0a39e5f81a", func := "silo/silolaw18.SketchNil", spec := "sketchNil", unfollowed := true, recurses := true, plainKeys := false, apart := false }
def SketchNilSaid : Prop := sketchNilRow.holds Try.pinned (OpenSpec.ofChange sketchNilSpec)

/-- ITS FALSE NEIGHBOUR: 'it returns false'. Refute it at one input. -/
def sketchNilWrong : ChangeSpec := { name := "sketchNil", fn := fun _ => fun
  | [d1, d2, d3] => { results := [.lit (.bool false)], args := [d1, d2, d3] }
  | _ => none }
def SketchNilWrongFalsely : Prop := sketchNilRow.holds Try.pinned (OpenSpec.ofChange sketchNilWrong)

/- THE SECOND FORM. 'bulk': how many values and letters a reading holds, each counted each time it is reached (what is shared counts as often as it is met; a slice's spare places count too). A statement '..UptoSaid' is the law's where the arguments, and the package variables that the reading takes, are together of bulk at most 1048576: NARROWER than '..Said'. Prove '..Said' where nothing that the law and all that it calls make is longer than what came in: it says more and counts as full. Else prove '..UptoSaid'. A law counts once. -/
mutual
def uptoBulk {H : Type} : DataW H → Nat
  | .lit (.string bytes) => bytes.length + 1
  | .lit _ => 1
  | .nil => 1
  | .ptr d => uptoBulk d + 1
  | .slice elems spare => uptoBulkAll elems + uptoBulkAll spare + 1
  | .agg parts => uptoBulkAll parts + 1
  | .iface _ d => uptoBulk d + 1
  | .map entries => uptoBulkEntries entries + 1
  | .held _ => 1
def uptoBulkAll {H : Type} : List (DataW H) → Nat
  | [] => 0
  | d :: r => uptoBulk d + uptoBulkAll r
def uptoBulkEntries {H : Type} : List (Lit × DataW H) → Nat
  | [] => 0
  | x :: r => uptoBulkEntry x + uptoBulkEntries r
def uptoBulkEntry {H : Type} : Lit × DataW H → Nat
  | (.string bytes, d) => bytes.length + uptoBulk d + 1
  | (_, d) => uptoBulk d + 1
 end
def uptoSmall : (H : Type) → List (DataW H) → Bool := fun _ ds => decide (uptoBulkAll ds ≤ 1048576)
def OpenSpec.upto (s : _root_.Go.ChangeSpec) : _root_.Go.OpenSpec := { _root_.Go.OpenSpec.ofChange s with cond := some uptoSmall }

/-- 'silolaw18.SketchOf', WHERE WHAT IT READS IS OF BULK AT MOST 1048576: true; the input reads as it did. -/
def sketchOfUptoRow : OpenClaim := { program := "ytdjlcddkfjbebaa", sum := "6e753ea364b4ae2bd02f0b2e49b4fd93170dce89687a0e99c3184a0a39e5f81a", func := "silo/silolaw18.SketchOf", spec := "sketchOf", unfollowed := true, recurses := true, plainKeys := false, apart := false, narrowed := true }
def SketchOfUptoSaid : Prop := sketchOfUptoRow.holds Try.pinned (OpenSpec.upto sketchOfSpec)

/-- 'silolaw18.SketchAlike', WHERE WHAT IT READS IS OF BULK AT MOST 1048576: true; the input reads as it did. -/
def sketchAlikeUptoRow : OpenClaim := { program := "ytdjlcddkfjbebaa", sum := "6e753ea364b4ae2bd02f0b2e49b4fd93170dce89687a0e99c3184a0a39e5f81a", func := "silo/silolaw18.SketchAlike", spec := "sketchAlike", unfollowed := true, recurses := true, plainKeys := false, apart := false, narrowed := true }
def SketchAlikeUptoSaid : Prop := sketchAlikeUptoRow.holds Try.pinned (OpenSpec.upto sketchAlikeSpec)

/-- 'silolaw18.SketchWindows', WHERE WHAT IT READS IS OF BULK AT MOST 1048576: true; the input reads as it did. -/
def sketchWindowsUptoRow : OpenClaim := { program := "ytdjlcddkfjbebaa", sum := "6e753ea364b4ae2bd02f0b2e49b4fd93170dce89687a0e99c3184a0a39e5f81a", func := "silo/silolaw18.SketchWindows", spec := "sketchWindows", unfollowed := true, recurses := true, plainKeys := false, apart := false, narrowed := true }
def SketchWindowsUptoSaid : Prop := sketchWindowsUptoRow.holds Try.pinned (OpenSpec.upto sketchWindowsSpec)

/-- 'silolaw18.SketchNear', WHERE WHAT IT READS IS OF BULK AT MOST 1048576: true; the input reads as it did. -/
def sketchNearUptoRow : OpenClaim := { program := "ytdjlcddkfjbebaa", sum := "6e753ea364b4ae2bd02f0b2e49b4fd93170dce89687a0e99c3184a0a39e5f81a", func := "silo/silolaw18.SketchNear", spec := "sketchNear", unfollowed := true, recurses := true, plainKeys := false, apart := false, narrowed := true }
def SketchNearUptoSaid : Prop := sketchNearUptoRow.holds Try.pinned (OpenSpec.upto sketchNearSpec)

/-- 'silolaw18.SketchNil', WHERE WHAT IT READS IS OF BULK AT MOST 1048576: true; the input reads as it did. -/
def sketchNilUptoRow : OpenClaim := { program := "ytdjlcddkfjbebaa", sum := "6e753ea364b4ae2bd02f0b2e49b4fd93170dce89687a0e99c3184a0a39e5f81a", func := "silo/silolaw18.SketchNil", spec := "sketchNil", unfollowed := true, recurses := true, plainKeys := false, apart := false, narrowed := true }
def SketchNilUptoSaid : Prop := sketchNilUptoRow.holds Try.pinned (OpenSpec.upto sketchNilSpec)

end Rows
end Go.Proofs.Ytdjlcddkfjbebaa

/-
  NARROWER THAN 'FOR EVERY INPUT', by the rows' own cells (each row's printed sentence says how): TreePaths: laid · TreeBuilds: laid · TreeCuts: laid · TreeBack: laid · TreeDiffs: laid · TreeFinds: laid · TreePacks: laid.
  DERIVED. THE GIVEN ROWS OF THIS SEAT. 7 by the template 'for every input the law returns true; each argument reads behind the call as it read before'; 0 by the template 'total and deterministic' (their statements: YtpgmohjmpaifbaaDoorTotals.lean).
  GIVEN WITH THE SEED: the statements are not yours to turn. If you find one false, say at which input.
  Laid BY PROGRAM, IN A SANDBOX (cutbox-rows.mjs): the forced cells as the released guide's own fill.sh prints them over the translation 546047bf39c80155… (all of the seat's roots in one cut). By AI agents, Wed Nov 11 2026. No macro, syntax, notation, axiom, sorry.
-/
import Derived.Test.YtpgmohjmpaifbaaDoorChecked
import GoSem.PinnedTables
import GoSem.Claim
import GoSem.ClaimJoined
import GoSem.ClaimMapViews
import Derived.JoinedTies
import Derived.KernelRfl
namespace Go.Proofs.YtpgmohjmpaifbaaDoor
/- THE CELL 'sum', in the pinned program and in every row, IS THE sha256 OF THE DUMP (.gsa) THAT YtpgmohjmpaifbaaDoorProg.lean LOADS. Nothing in Lean hashes anything: it is a label: what it is worth is what the hold of that sum in a sandbox is worth. -/
noncomputable def Tryd.pinned : Pinned := { name := "ytpgmohjmpaifbaadoor", sum := "546047bf39c801554553353671f6a538426a6583c782627ea33e5acb7ad05187", checked := Tryd.checked }
namespace Rows
def none {H : Type} : Left H := { results := [], args := [] }

/- WHAT THE LISTED PACKAGE-LEVEL VARIABLES READ AS WHEN THE CALL BEGINS. Each datum BY PROGRAM (the guide's laid-datum.mjs) off the statement by which the dump's own 'gosem.cut.vars' lays the variable. In a bare row this is a premise. The card (YtpgmohjmpaifbaaDoorCards.lean) ties it to the program's text. -/
def laid_silo_sha_rounds {H : Type} : DataW H := .agg [.lit (.int .u32 1116352408), .lit (.int .u32 1899447441), .lit (.int .u32 3049323471), .lit (.int .u32 3921009573), .lit (.int .u32 961987163), .lit (.int .u32 1508970993), .lit (.int .u32 2453635748), .lit (.int .u32 2870763221), .lit (.int .u32 3624381080), .lit (.int .u32 310598401), .lit (.int .u32 607225278), .lit (.int .u32 1426881987), .lit (.int .u32 1925078388), .lit (.int .u32 2162078206), .lit (.int .u32 2614888103), .lit (.int .u32 3248222580), .lit (.int .u32 3835390401), .lit (.int .u32 4022224774), .lit (.int .u32 264347078), .lit (.int .u32 604807628), .lit (.int .u32 770255983), .lit (.int .u32 1249150122), .lit (.int .u32 1555081692), .lit (.int .u32 1996064986), .lit (.int .u32 2554220882), .lit (.int .u32 2821834349), .lit (.int .u32 2952996808), .lit (.int .u32 3210313671), .lit (.int .u32 3336571891), .lit (.int .u32 3584528711), .lit (.int .u32 113926993), .lit (.int .u32 338241895), .lit (.int .u32 666307205), .lit (.int .u32 773529912), .lit (.int .u32 1294757372), .lit (.int .u32 1396182291), .lit (.int .u32 1695183700), .lit (.int .u32 1986661051), .lit (.int .u32 2177026350), .lit (.int .u32 2456956037), .lit (.int .u32 2730485921), .lit (.int .u32 2820302411), .lit (.int .u32 3259730800), .lit (.int .u32 3345764771), .lit (.int .u32 3516065817), .lit (.int .u32 3600352804), .lit (.int .u32 4094571909), .lit (.int .u32 275423344), .lit (.int .u32 430227734), .lit (.int .u32 506948616), .lit (.int .u32 659060556), .lit (.int .u32 883997877), .lit (.int .u32 958139571), .lit (.int .u32 1322822218), .lit (.int .u32 1537002063), .lit (.int .u32 1747873779), .lit (.int .u32 1955562222), .lit (.int .u32 2024104815), .lit (.int .u32 2227730452), .lit (.int .u32 2361852424), .lit (.int .u32 2428436474), .lit (.int .u32 2756734187), .lit (.int .u32 3204031479), .lit (.int .u32 3329325298)]
def laid_unicode_utf8_acceptRanges {H : Type} : DataW H := .agg [.agg [.lit (.int .u8 128), .lit (.int .u8 191)], .agg [.lit (.int .u8 160), .lit (.int .u8 191)], .agg [.lit (.int .u8 128), .lit (.int .u8 159)], .agg [.lit (.int .u8 144), .lit (.int .u8 191)], .agg [.lit (.int .u8 128), .lit (.int .u8 143)], .agg [.lit (.int .u8 0), .lit (.int .u8 0)], .agg [.lit (.int .u8 0), .lit (.int .u8 0)], .agg [.lit (.int .u8 0), .lit (.int .u8 0)], .agg [.lit (.int .u8 0), .lit (.int .u8 0)], .agg [.lit (.int .u8 0), .lit (.int .u8 0)], .agg [.lit (.int .u8 0), .lit (.int .u8 0)], .agg [.lit (.int .u8 0), .lit (.int .u8 0)], .agg [.lit (.int .u8 0), .lit (.int .u8 0)], .agg [.lit (.int .u8 0), .lit (.int .u8 0)], .agg [.lit (.int .u8 0), .lit (.int .u8 0)], .agg [.lit (.int .u8 0), .lit (.int .u8 0)]]
/-- One of Go's own tables, pinned by name: the form's constant. -/
def laid_unicode_utf8_first : DataW Unit := Go.Pinned.utf8First

/-- 'silolaw21.TreePaths': WHATEVER THE INPUT: true; the input reads as it did. -/
def treePathsSpec : ChangeSpec := { name := "treePaths", fn := fun _ => fun
  | [d1, d2] => { results := [.lit (.bool true)], args := [d1, d2] }
  | _ => none }
def treePathsRow : OpenClaim := { program := "ytpgmohjmpaifbaadoor", sum := "546047bf39c801554553353671f6a538426a6583c782627ea33e5acb7ad05187", func := "silo/silolaw21.TreePaths", spec := "treePaths", inPlace := ["internal/bytealg.abigen_runtime_cmpstring", "internal/bytealg.IndexByteString", "internal/bytealg.IndexString"], unfollowed := true, recurses := true, named := ["unicode/utf8.first", "unicode/utf8.acceptRanges", "internal/bytealg.MaxLen", "silo/sha.rounds"], plainKeys := false, apart := false, laid := [("silo/sha.rounds", laid_silo_sha_rounds), ("unicode/utf8.acceptRanges", laid_unicode_utf8_acceptRanges), ("unicode/utf8.first", laid_unicode_utf8_first)] }
def TreePathsSaid : Prop := treePathsRow.holds Tryd.pinned (OpenSpec.ofChange treePathsSpec)

/-- ITS FALSE NEIGHBOUR: 'it returns false'. Refute it at one input. -/
def treePathsWrong : ChangeSpec := { name := "treePaths", fn := fun _ => fun
  | [d1, d2] => { results := [.lit (.bool false)], args := [d1, d2] }
  | _ => none }
def TreePathsWrongFalsely : Prop := treePathsRow.holds Tryd.pinned (OpenSpec.ofChange treePathsWrong)

/-- 'silolaw21.TreeBuilds': WHATEVER THE INPUT: true; the input reads as it did. -/
def treeBuildsSpec : ChangeSpec := { name := "treeBuilds", fn := fun _ => fun
  | [d1, d2, d3] => { results := [.lit (.bool true)], args := [d1, d2, d3] }
  | _ => none }
def treeBuildsRow : OpenClaim := { program := "ytpgmohjmpaifbaadoor", sum := "546047bf39c801554553353671f6a538426a6583c782627ea33e5acb7ad05187", func := "silo/silolaw21.TreeBuilds", spec := "treeBuilds", inPlace := ["internal/bytealg.abigen_runtime_cmpstring", "internal/bytealg.IndexByteString", "internal/bytealg.IndexString"], unfollowed := true, recurses := true, named := ["unicode/utf8.first", "unicode/utf8.acceptRanges", "internal/bytealg.MaxLen", "silo/sha.rounds"], plainKeys := false, apart := false, laid := [("silo/sha.rounds", laid_silo_sha_rounds), ("unicode/utf8.acceptRanges", laid_unicode_utf8_acceptRanges), ("unicode/utf8.first", laid_unicode_utf8_first)] }
def TreeBuildsSaid : Prop := treeBuildsRow.holds Tryd.pinned (OpenSpec.ofChange treeBuildsSpec)

/-- ITS FALSE NEIGHBOUR: 'it returns false'. Refute it at one input. -/
def treeBuildsWrong : ChangeSpec := { name := "treeBuilds", fn := fun _ => fun
  | [d1, d2, d3] => { results := [.lit (.bool false)], args := [d1, d2, d3] }
  | _ => none }
def TreeBuildsWrongFalsely : Prop := treeBuildsRow.holds Tryd.pinned (OpenSpec.ofChange treeBuildsWrong)

/-- 'silolaw21.TreeCuts': WHATEVER THE INPUT: true; the input reads as it did. -/
def treeCutsSpec : ChangeSpec := { name := "treeCuts", fn := fun _ => fun
  | [d1, d2, d3] => { results := [.lit (.bool true)], args := [d1, d2, d3] }
  | _ => none }
def treeCutsRow : OpenClaim := { program := "ytpgmohjmpaifbaadoor", sum := "546047bf39c801554553353671f6a538426a6583c782627ea33e5acb7ad05187", func := "silo/silolaw21.TreeCuts", spec := "treeCuts", inPlace := ["internal/bytealg.abigen_runtime_cmpstring", "internal/bytealg.IndexByteString", "internal/bytealg.IndexString"], unfollowed := true, recurses := true, named := ["unicode/utf8.first", "unicode/utf8.acceptRanges", "internal/bytealg.MaxLen", "silo/sha.rounds"], plainKeys := false, apart := false, laid := [("silo/sha.rounds", laid_silo_sha_rounds), ("unicode/utf8.acceptRanges", laid_unicode_utf8_acceptRanges), ("unicode/utf8.first", laid_unicode_utf8_first)] }
def TreeCutsSaid : Prop := treeCutsRow.holds Tryd.pinned (OpenSpec.ofChange treeCutsSpec)

/-- ITS FALSE NEIGHBOUR: 'it returns false'. Refute it at one input. -/
def treeCutsWrong : ChangeSpec := { name := "treeCuts", fn := fun _ => fun
  | [d1, d2, d3] => { results := [.lit (.bool false)], args := [d1, d2, d3] }
  | _ => none }
def TreeCutsWrongFalsely : Prop := treeCutsRow.holds Tryd.pinned (OpenSpec.ofChange treeCutsWrong)

/-- 'silolaw21.TreeBack': WHATEVER THE INPUT: true; the input reads as it did. -/
def treeBackSpec : ChangeSpec := { name := "treeBack", fn := fun _ => fun
  | [d1, d2] => { results := [.lit (.bool true)], args := [d1, d2] }
  | _ => none }
def treeBackRow : OpenClaim := { program := "ytpgmohjmpaifbaadoor", sum := "546047bf39c801554553353671f6a538426a6583c782627ea33e5acb7ad05187", func := "silo/silolaw21.TreeBack", spec := "treeBack", inPlace := ["internal/bytealg.abigen_runtime_cmpstring", "internal/bytealg.IndexByteString", "internal/bytealg.IndexString"], unfollowed := true, recurses := true, named := ["unicode/utf8.first", "unicode/utf8.acceptRanges", "internal/bytealg.MaxLen", "silo/sha.rounds"], plainKeys := false, apart := false, laid := [("silo/sha.rounds", laid_silo_sha_rounds), ("unicode/utf8.acceptRanges", laid_unicode_utf8_acceptRanges), ("unicode/utf8.first", laid_unicode_utf8_first)] }
def TreeBackSaid : Prop := treeBackRow.holds Tryd.pinned (OpenSpec.ofChange treeBackSpec)

/-- ITS FALSE NEIGHBOUR: 'it returns false'. Refute it at one input. -/
def treeBackWrong : ChangeSpec := { name := "treeBack", fn := fun _ => fun
  | [d1, d2] => { results := [.lit (.bool false)], args := [d1, d2] }
  | _ => none }
def TreeBackWrongFalsely : Prop := treeBackRow.holds Tryd.pinned (OpenSpec.ofChange treeBackWrong)

/-- 'silolaw21.TreeDiffs': WHATEVER THE INPUT: true; the input reads as it did. -/
def treeDiffsSpec : ChangeSpec := { name := "treeDiffs", fn := fun _ => fun
  | [d1, d2, d3, d4] => { results := [.lit (.bool true)], args := [d1, d2, d3, d4] }
  | _ => none }
def treeDiffsRow : OpenClaim := { program := "ytpgmohjmpaifbaadoor", sum := "546047bf39c801554553353671f6a538426a6583c782627ea33e5acb7ad05187", func := "silo/silolaw21.TreeDiffs", spec := "treeDiffs", inPlace := ["internal/bytealg.abigen_runtime_cmpstring", "internal/bytealg.IndexByteString", "internal/bytealg.IndexString"], unfollowed := true, recurses := true, named := ["unicode/utf8.first", "unicode/utf8.acceptRanges", "internal/bytealg.MaxLen", "silo/sha.rounds"], plainKeys := false, apart := false, laid := [("silo/sha.rounds", laid_silo_sha_rounds), ("unicode/utf8.acceptRanges", laid_unicode_utf8_acceptRanges), ("unicode/utf8.first", laid_unicode_utf8_first)] }
def TreeDiffsSaid : Prop := treeDiffsRow.holds Tryd.pinned (OpenSpec.ofChange treeDiffsSpec)

/-- ITS FALSE NEIGHBOUR: 'it returns false'. Refute it at one input. -/
def treeDiffsWrong : ChangeSpec := { name := "treeDiffs", fn := fun _ => fun
  | [d1, d2, d3, d4] => { results := [.lit (.bool false)], args := [d1, d2, d3, d4] }
  | _ => none }
def TreeDiffsWrongFalsely : Prop := treeDiffsRow.holds Tryd.pinned (OpenSpec.ofChange treeDiffsWrong)

/-- 'silolaw21.TreeFinds': WHATEVER THE INPUT: true; the input reads as it did. -/
def treeFindsSpec : ChangeSpec := { name := "treeFinds", fn := fun _ => fun
  | [d1, d2, d3, d4] => { results := [.lit (.bool true)], args := [d1, d2, d3, d4] }
  | _ => none }
def treeFindsRow : OpenClaim := { program := "ytpgmohjmpaifbaadoor", sum := "546047bf39c801554553353671f6a538426a6583c782627ea33e5acb7ad05187", func := "silo/silolaw21.TreeFinds", spec := "treeFinds", inPlace := ["internal/bytealg.abigen_runtime_cmpstring", "internal/bytealg.IndexByteString", "internal/bytealg.IndexString"], unfollowed := true, recurses := true, named := ["unicode/utf8.first", "unicode/utf8.acceptRanges", "internal/bytealg.MaxLen", "silo/sha.rounds"], plainKeys := false, apart := false, laid := [("silo/sha.rounds", laid_silo_sha_rounds), ("unicode/utf8.acceptRanges", laid_unicode_utf8_acceptRanges), ("unicode/utf8.first", laid_unicode_utf8_first)] }
def TreeFindsSaid : Prop := treeFindsRow.holds Tryd.pinned (OpenSpec.ofChange treeFindsSpec)

/-- ITS FALSE NEIGHBOUR: 'it returns false'. Refute it at one input. -/
def treeFindsWrong : ChangeSpec := { name := "treeFinds", fn := fun _ => fun
  | [d1, d2, d3, d4] => { results := [.lit (.bool false)], args := [d1, d2, d3, d4] }
  | _ => none }
def TreeFindsWrongFalsely : Prop := treeFindsRow.holds Tryd.pinned (OpenSpec.ofChange treeFindsWrong)

/-- 'silolaw21.TreePacks': WHATEVER THE INPUT: true; the input reads as it did. -/
def treePacksSpec : ChangeSpec := { name := "treePacks", fn := fun _ => fun
  | [d1, d2, d3] => { results := [.lit (.bool true)], args := [d1, d2, d3] }
  | _ => none }
def treePacksRow : OpenClaim := { program := "ytpgmohjmpaifbaadoor", sum := "546047bf39c801554553353671f6a538426a6583c782627ea33e5acb7ad05187", func := "silo/silolaw21.TreePacks", spec := "treePacks", inPlace := ["internal/bytealg.abigen_runtime_cmpstring", "internal/bytealg.IndexByteString", "internal/bytealg.IndexString"], unfollowed := true, recurses := true, named := ["unicode/utf8.first", "unicode/utf8.acceptRanges", "internal/bytealg.MaxLen", "silo/sha.rounds"], plainKeys := false, apart := false, laid := [("silo/sha.rounds", laid_silo_sha_rounds), ("unicode/utf8.acceptRanges", laid_unicode_utf8_acceptRanges), ("unicode/utf8.first", laid_unicode_utf8_first)] }
def TreePacksSaid : Prop := treePacksRow.holds Tryd.pinned (OpenSpec.ofChange treePacksSpec)

/-- ITS FALSE NEIGHBOUR: 'it returns false'. Refute it at one input. -/
def treePacksWrong : ChangeSpec := { name := "treePacks", fn := fun _ => fun
  | [d1, d2, d3] => { results := [.lit (.bool false)], args := [d1, d2, d3] }
  | _ => none }
def TreePacksWrongFalsely : Prop := treePacksRow.holds Tryd.pinned (OpenSpec.ofChange treePacksWrong)

/- THE SECOND FORM. 'bulk': how many values and letters a reading holds, each counted each time it is reached (what is shared counts as often as it is met; a slice's spare places count too). A statement '..UptoSaid' is the law's where the arguments, and the package variables that the reading takes, are together of bulk at most 1048576: NARROWER than '..Said'. Prove '..Said' where nothing that the law and all that it calls make is longer than what came in: it says more and counts as full. Else prove '..UptoSaid'. A law counts once. -/
mutual
def uptoBulk {H : Type} : DataW H → Nat
  | .lit (.string bytes) => bytes.length + 1
  | .lit _ => 1
  | .nil => 1
  | .ptr d => uptoBulk d + 1
  | .slice elems spare => uptoBulkAll elems + uptoBulkAll spare + 1
  | .agg parts => uptoBulkAll parts + 1
  | .iface _ d => uptoBulk d + 1
  | .map entries => uptoBulkEntries entries + 1
  | .held _ => 1
def uptoBulkAll {H : Type} : List (DataW H) → Nat
  | [] => 0
  | d :: r => uptoBulk d + uptoBulkAll r
def uptoBulkEntries {H : Type} : List (Lit × DataW H) → Nat
  | [] => 0
  | x :: r => uptoBulkEntry x + uptoBulkEntries r
def uptoBulkEntry {H : Type} : Lit × DataW H → Nat
  | (.string bytes, d) => bytes.length + uptoBulk d + 1
  | (_, d) => uptoBulk d + 1
 end
def uptoSmall : (H : Type) → List (DataW H) → Bool := fun _ ds => decide (uptoBulkAll ds ≤ 1048576)
def OpenSpec.upto (s : _root_.Go.ChangeSpec) : _root_.Go.OpenSpec := { _root_.Go.OpenSpec.ofChange s with cond := some uptoSmall }

/-- 'silolaw21.TreePaths', WHERE WHAT IT READS IS OF BULK AT MOST 1048576: true; the input reads as it did. -/
def treePathsUptoRow : OpenClaim := { program := "ytpgmohjmpaifbaadoor", sum := "546047bf39c801554553353671f6a538426a6583c782627ea33e5acb7ad05187", func := "silo/silolaw21.TreePaths", spec := "treePaths", inPlace := ["internal/bytealg.abigen_runtime_cmpstring", "internal/bytealg.IndexByteString", "internal/bytealg.IndexString"], unfollowed := true, recurses := true, named := ["unicode/utf8.first", "unicode/utf8.acceptRanges", "internal/bytealg.MaxLen", "silo/sha.rounds"], plainKeys := false, apart := false, laid := [("silo/sha.rounds", laid_silo_sha_rounds), ("unicode/utf8.acceptRanges", laid_unicode_utf8_acceptRanges), ("unicode/utf8.first", laid_unicode_utf8_first)], narrowed := true }
def TreePathsUptoSaid : Prop := treePathsUptoRow.holds Tryd.pinned (OpenSpec.upto treePathsSpec)

/-- 'silolaw21.TreeBuilds', WHERE WHAT IT READS IS OF BULK AT MOST 1048576: true; the input reads as it did. -/
def treeBuildsUptoRow : OpenClaim := { program := "ytpgmohjmpaifbaadoor", sum := "546047bf39c801554553353671f6a538426a6583c782627ea33e5acb7ad05187", func := "silo/silolaw21.TreeBuilds", spec := "treeBuilds", inPlace := ["internal/bytealg.abigen_runtime_cmpstring", "internal/bytealg.IndexByteString", "internal/bytealg.IndexString"], unfollowed := true, recurses := true, named := ["unicode/utf8.first", "unicode/utf8.acceptRanges", "internal/bytealg.MaxLen", "silo/sha.rounds"], plainKeys := false, apart := false, laid := [("silo/sha.rounds", laid_silo_sha_rounds), ("unicode/utf8.acceptRanges", laid_unicode_utf8_acceptRanges), ("unicode/utf8.first", laid_unicode_utf8_first)], narrowed := true }
def TreeBuildsUptoSaid : Prop := treeBuildsUptoRow.holds Tryd.pinned (OpenSpec.upto treeBuildsSpec)

/-- 'silolaw21.TreeCuts', WHERE WHAT IT READS IS OF BULK AT MOST 1048576: true; the input reads as it did. -/
def treeCutsUptoRow : OpenClaim := { program := "ytpgmohjmpaifbaadoor", sum := "546047bf39c801554553353671f6a538426a6583c782627ea33e5acb7ad05187", func := "silo/silolaw21.TreeCuts", spec := "treeCuts", inPlace := ["internal/bytealg.abigen_runtime_cmpstring", "internal/bytealg.IndexByteString", "internal/bytealg.IndexString"], unfollowed := true, recurses := true, named := ["unicode/utf8.first", "unicode/utf8.acceptRanges", "internal/bytealg.MaxLen", "silo/sha.rounds"], plainKeys := false, apart := false, laid := [("silo/sha.rounds", laid_silo_sha_rounds), ("unicode/utf8.acceptRanges", laid_unicode_utf8_acceptRanges), ("unicode/utf8.first", laid_unicode_utf8_first)], narrowed := true }
def TreeCutsUptoSaid : Prop := treeCutsUptoRow.holds Tryd.pinned (OpenSpec.upto treeCutsSpec)

/-- 'silolaw21.TreeBack', WHERE WHAT IT READS IS OF BULK AT MOST 1048576: true; the input reads as it did. -/
def treeBackUptoRow : OpenClaim := { program := "ytpgmohjmpaifbaadoor", sum := "546047bf39c801554553353671f6a538426a6583c782627ea33e5acb7ad05187", func := "silo/silolaw21.TreeBack", spec := "treeBack", inPlace := ["internal/bytealg.abigen_runtime_cmpstring", "internal/bytealg.IndexByteString", "internal/bytealg.IndexString"], unfollowed := true, recurses := true, named := ["unicode/utf8.first", "unicode/utf8.acceptRanges", "internal/bytealg.MaxLen", "silo/sha.rounds"], plainKeys := false, apart := false, laid := [("silo/sha.rounds", laid_silo_sha_rounds), ("unicode/utf8.acceptRanges", laid_unicode_utf8_acceptRanges), ("unicode/utf8.first", laid_unicode_utf8_first)], narrowed := true }
def TreeBackUptoSaid : Prop := treeBackUptoRow.holds Tryd.pinned (OpenSpec.upto treeBackSpec)

/-- 'silolaw21.TreeDiffs', WHERE WHAT IT READS IS OF BULK AT MOST 1048576: true; the input reads as it did. -/
def treeDiffsUptoRow : OpenClaim := { program := "ytpgmohjmpaifbaadoor", sum := "546047bf39c801554553353671f6a538426a6583c782627ea33e5acb7ad05187", func := "silo/silolaw21.TreeDiffs", spec := "treeDiffs", inPlace := ["internal/bytealg.abigen_runtime_cmpstring", "internal/bytealg.IndexByteString", "internal/bytealg.IndexString"], unfollowed := true, recurses := true, named := ["unicode/utf8.first", "unicode/utf8.acceptRanges", "internal/bytealg.MaxLen", "silo/sha.rounds"], plainKeys := false, apart := false, laid := [("silo/sha.rounds", laid_silo_sha_rounds), ("unicode/utf8.acceptRanges", laid_unicode_utf8_acceptRanges), ("unicode/utf8.first", laid_unicode_utf8_first)], narrowed := true }
def TreeDiffsUptoSaid : Prop := treeDiffsUptoRow.holds Tryd.pinned (OpenSpec.upto treeDiffsSpec)

/-- 'silolaw21.TreeFinds', WHERE WHAT IT READS IS OF BULK AT MOST 1048576: true; the input reads as it did. -/
def treeFindsUptoRow : OpenClaim := { program := "ytpgmohjmpaifbaadoor", sum := "546047bf39c801554553353671f6a538426a6583c782627ea33e5acb7ad05187", func := "silo/silolaw21.TreeFinds", spec := "treeFinds", inPlace := ["internal/bytealg.abigen_runtime_cmpstring", "internal/bytealg.IndexByteString", "internal/bytealg.IndexString"], unfollowed := true, recurses := true, named := ["unicode/utf8.first", "unicode/utf8.acceptRanges", "internal/bytealg.MaxLen", "silo/sha.rounds"], plainKeys := false, apart := false, laid := [("silo/sha.rounds", laid_silo_sha_rounds), ("unicode/utf8.acceptRanges", laid_unicode_utf8_acceptRanges), ("unicode/utf8.first", laid_unicode_utf8_first)], narrowed := true }
def TreeFindsUptoSaid : Prop := treeFindsUptoRow.holds Tryd.pinned (OpenSpec.upto treeFindsSpec)

/-- 'silolaw21.TreePacks', WHERE WHAT IT READS IS OF BULK AT MOST 1048576: true; the input reads as it did. -/
def treePacksUptoRow : OpenClaim := { program := "ytpgmohjmpaifbaadoor", sum := "546047bf39c801554553353671f6a538426a6583c782627ea33e5acb7ad05187", func := "silo/silolaw21.TreePacks", spec := "treePacks", inPlace := ["internal/bytealg.abigen_runtime_cmpstring", "internal/bytealg.IndexByteString", "internal/bytealg.IndexString"], unfollowed := true, recurses := true, named := ["unicode/utf8.first", "unicode/utf8.acceptRanges", "internal/bytealg.MaxLen", "silo/sha.rounds"], plainKeys := false, apart := false, laid := [("silo/sha.rounds", laid_silo_sha_rounds), ("unicode/utf8.acceptRanges", laid_unicode_utf8_acceptRanges), ("unicode/utf8.first", laid_unicode_utf8_first)], narrowed := true }
def TreePacksUptoSaid : Prop := treePacksUptoRow.holds Tryd.pinned (OpenSpec.upto treePacksSpec)

end Rows
end Go.Proofs.YtpgmohjmpaifbaaDoor

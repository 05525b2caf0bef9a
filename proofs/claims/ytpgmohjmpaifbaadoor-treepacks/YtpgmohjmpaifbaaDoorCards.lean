/-
  DERIVED. GIVEN WITH THE SEED: THE CARDS: each row of YtpgmohjmpaifbaaDoorRows.lean that lists a variable, with what it lists TIED to the program's text (the seventh form; the later family's looks); each row that meets fmt, with fmt's text TOLD by the authors' own Lean function (tested against real Go, not proved from fmt's source: count such statements apart). THE CARD IS WHAT COUNTS. Prove the row's statement (the work); the ties are given (YtpgmohjmpaifbaaDoorTie.lean); close each card by the builder's one call (the guide's Derived/Test/ToyasCard.lean, 'card_holds'). Laid BY PROGRAM, IN A SANDBOX (cutbox-door.mjs). By AI agents, Wed Nov 11 2026. No macro, syntax, notation, axiom, sorry.
-/
import Derived.Test.YtpgmohjmpaifbaaDoorRows
import GoSem.ClaimSeven
namespace Go.Proofs.YtpgmohjmpaifbaaDoor
namespace Rows

def treePathsCard : Claim7 := { stood := { row := treePathsRow, standIns := [], harness := (true, "5849f917669ad7ed7f1d217c80cdb312eb1d5f3818b93489ece17d748ea34879"), looks := false }, kinds := [], alts := [], laidByText := true, laidKinds := [.data, .data, .pinned], laidTests := true, laidLooks := .later }
def TreePathsCardSaid : Prop := Claim7.holds Tryd.pinned (.plain (OpenSpec.ofChange treePathsSpec)) treePathsCard

def treeBuildsCard : Claim7 := { stood := { row := treeBuildsRow, standIns := [], harness := (true, "5849f917669ad7ed7f1d217c80cdb312eb1d5f3818b93489ece17d748ea34879"), looks := false }, kinds := [], alts := [], laidByText := true, laidKinds := [.data, .data, .pinned], laidTests := true, laidLooks := .later }
def TreeBuildsCardSaid : Prop := Claim7.holds Tryd.pinned (.plain (OpenSpec.ofChange treeBuildsSpec)) treeBuildsCard

def treeCutsCard : Claim7 := { stood := { row := treeCutsRow, standIns := [], harness := (true, "5849f917669ad7ed7f1d217c80cdb312eb1d5f3818b93489ece17d748ea34879"), looks := false }, kinds := [], alts := [], laidByText := true, laidKinds := [.data, .data, .pinned], laidTests := true, laidLooks := .later }
def TreeCutsCardSaid : Prop := Claim7.holds Tryd.pinned (.plain (OpenSpec.ofChange treeCutsSpec)) treeCutsCard

def treeBackCard : Claim7 := { stood := { row := treeBackRow, standIns := [], harness := (true, "5849f917669ad7ed7f1d217c80cdb312eb1d5f3818b93489ece17d748ea34879"), looks := false }, kinds := [], alts := [], laidByText := true, laidKinds := [.data, .data, .pinned], laidTests := true, laidLooks := .later }
def TreeBackCardSaid : Prop := Claim7.holds Tryd.pinned (.plain (OpenSpec.ofChange treeBackSpec)) treeBackCard

def treeDiffsCard : Claim7 := { stood := { row := treeDiffsRow, standIns := [], harness := (true, "5849f917669ad7ed7f1d217c80cdb312eb1d5f3818b93489ece17d748ea34879"), looks := false }, kinds := [], alts := [], laidByText := true, laidKinds := [.data, .data, .pinned], laidTests := true, laidLooks := .later }
def TreeDiffsCardSaid : Prop := Claim7.holds Tryd.pinned (.plain (OpenSpec.ofChange treeDiffsSpec)) treeDiffsCard

def treeFindsCard : Claim7 := { stood := { row := treeFindsRow, standIns := [], harness := (true, "5849f917669ad7ed7f1d217c80cdb312eb1d5f3818b93489ece17d748ea34879"), looks := false }, kinds := [], alts := [], laidByText := true, laidKinds := [.data, .data, .pinned], laidTests := true, laidLooks := .later }
def TreeFindsCardSaid : Prop := Claim7.holds Tryd.pinned (.plain (OpenSpec.ofChange treeFindsSpec)) treeFindsCard

def treePacksCard : Claim7 := { stood := { row := treePacksRow, standIns := [], harness := (true, "5849f917669ad7ed7f1d217c80cdb312eb1d5f3818b93489ece17d748ea34879"), looks := false }, kinds := [], alts := [], laidByText := true, laidKinds := [.data, .data, .pinned], laidTests := true, laidLooks := .later }
def TreePacksCardSaid : Prop := Claim7.holds Tryd.pinned (.plain (OpenSpec.ofChange treePacksSpec)) treePacksCard

def treePathsUptoCard : Claim7 := { stood := { row := treePathsUptoRow, standIns := [], harness := (true, "5849f917669ad7ed7f1d217c80cdb312eb1d5f3818b93489ece17d748ea34879"), looks := false }, kinds := [], alts := [], laidByText := true, laidKinds := [.data, .data, .pinned], laidTests := true, laidLooks := .later }
def TreePathsUptoCardSaid : Prop := Claim7.holds Tryd.pinned (.plain (OpenSpec.upto treePathsSpec)) treePathsUptoCard

def treeBuildsUptoCard : Claim7 := { stood := { row := treeBuildsUptoRow, standIns := [], harness := (true, "5849f917669ad7ed7f1d217c80cdb312eb1d5f3818b93489ece17d748ea34879"), looks := false }, kinds := [], alts := [], laidByText := true, laidKinds := [.data, .data, .pinned], laidTests := true, laidLooks := .later }
def TreeBuildsUptoCardSaid : Prop := Claim7.holds Tryd.pinned (.plain (OpenSpec.upto treeBuildsSpec)) treeBuildsUptoCard

def treeCutsUptoCard : Claim7 := { stood := { row := treeCutsUptoRow, standIns := [], harness := (true, "5849f917669ad7ed7f1d217c80cdb312eb1d5f3818b93489ece17d748ea34879"), looks := false }, kinds := [], alts := [], laidByText := true, laidKinds := [.data, .data, .pinned], laidTests := true, laidLooks := .later }
def TreeCutsUptoCardSaid : Prop := Claim7.holds Tryd.pinned (.plain (OpenSpec.upto treeCutsSpec)) treeCutsUptoCard

def treeBackUptoCard : Claim7 := { stood := { row := treeBackUptoRow, standIns := [], harness := (true, "5849f917669ad7ed7f1d217c80cdb312eb1d5f3818b93489ece17d748ea34879"), looks := false }, kinds := [], alts := [], laidByText := true, laidKinds := [.data, .data, .pinned], laidTests := true, laidLooks := .later }
def TreeBackUptoCardSaid : Prop := Claim7.holds Tryd.pinned (.plain (OpenSpec.upto treeBackSpec)) treeBackUptoCard

def treeDiffsUptoCard : Claim7 := { stood := { row := treeDiffsUptoRow, standIns := [], harness := (true, "5849f917669ad7ed7f1d217c80cdb312eb1d5f3818b93489ece17d748ea34879"), looks := false }, kinds := [], alts := [], laidByText := true, laidKinds := [.data, .data, .pinned], laidTests := true, laidLooks := .later }
def TreeDiffsUptoCardSaid : Prop := Claim7.holds Tryd.pinned (.plain (OpenSpec.upto treeDiffsSpec)) treeDiffsUptoCard

def treeFindsUptoCard : Claim7 := { stood := { row := treeFindsUptoRow, standIns := [], harness := (true, "5849f917669ad7ed7f1d217c80cdb312eb1d5f3818b93489ece17d748ea34879"), looks := false }, kinds := [], alts := [], laidByText := true, laidKinds := [.data, .data, .pinned], laidTests := true, laidLooks := .later }
def TreeFindsUptoCardSaid : Prop := Claim7.holds Tryd.pinned (.plain (OpenSpec.upto treeFindsSpec)) treeFindsUptoCard

def treePacksUptoCard : Claim7 := { stood := { row := treePacksUptoRow, standIns := [], harness := (true, "5849f917669ad7ed7f1d217c80cdb312eb1d5f3818b93489ece17d748ea34879"), looks := false }, kinds := [], alts := [], laidByText := true, laidKinds := [.data, .data, .pinned], laidTests := true, laidLooks := .later }
def TreePacksUptoCardSaid : Prop := Claim7.holds Tryd.pinned (.plain (OpenSpec.upto treePacksSpec)) treePacksUptoCard
end Rows
end Go.Proofs.YtpgmohjmpaifbaaDoor

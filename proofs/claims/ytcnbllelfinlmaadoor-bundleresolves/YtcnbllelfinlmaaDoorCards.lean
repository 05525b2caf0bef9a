/-
  DERIVED. GIVEN WITH THE SEED: THE CARDS: each row of YtcnbllelfinlmaaDoorRows.lean that lists a variable, with what it lists TIED to the program's text (the seventh form; the later family's looks); each row that meets fmt, with fmt's text TOLD by the authors' own Lean function (tested against real Go, not proved from fmt's source: count such statements apart). THE CARD IS WHAT COUNTS. Prove the row's statement (the work); the ties are given (YtcnbllelfinlmaaDoorTie.lean); close each card by the builder's one call (the guide's Derived/Test/ToyasCard.lean, 'card_holds'). Laid BY PROGRAM, IN A SANDBOX (cutbox-door.mjs). By AI agents, Wed Nov 11 2026. No macro, syntax, notation, axiom, sorry.
-/
import Derived.Test.YtcnbllelfinlmaaDoorRows
import GoSem.ClaimSeven
namespace Go.Proofs.YtcnbllelfinlmaaDoor
namespace Rows

def bundleBuildsCard : Claim7 := { stood := { row := bundleBuildsRow, standIns := [], harness := (true, "be0f859df443c6d666ee6789f24a1143c91221cb830596a4a37beb096b8d704c"), looks := false }, kinds := [], alts := [], laidByText := true, laidKinds := [.data], laidTests := true, laidLooks := .later }
def BundleBuildsCardSaid : Prop := Claim7.holds Tryd.pinned (.plain (OpenSpec.ofChange bundleBuildsSpec)) bundleBuildsCard

def bundleResolvesCard : Claim7 := { stood := { row := bundleResolvesRow, standIns := [], harness := (true, "be0f859df443c6d666ee6789f24a1143c91221cb830596a4a37beb096b8d704c"), looks := false }, kinds := [], alts := [], laidByText := true, laidKinds := [.data], laidTests := true, laidLooks := .later }
def BundleResolvesCardSaid : Prop := Claim7.holds Tryd.pinned (.plain (OpenSpec.ofChange bundleResolvesSpec)) bundleResolvesCard

def bundleOpensCard : Claim7 := { stood := { row := bundleOpensRow, standIns := [], harness := (true, "be0f859df443c6d666ee6789f24a1143c91221cb830596a4a37beb096b8d704c"), looks := false }, kinds := [], alts := [], laidByText := true, laidKinds := [.data], laidTests := true, laidLooks := .later }
def BundleOpensCardSaid : Prop := Claim7.holds Tryd.pinned (.plain (OpenSpec.ofChange bundleOpensSpec)) bundleOpensCard

def bundleTellsCard : Claim7 := { stood := { row := bundleTellsRow, standIns := [], harness := (true, "be0f859df443c6d666ee6789f24a1143c91221cb830596a4a37beb096b8d704c"), looks := false }, kinds := [], alts := [], laidByText := true, laidKinds := [.data], laidTests := true, laidLooks := .later }
def BundleTellsCardSaid : Prop := Claim7.holds Tryd.pinned (.plain (OpenSpec.ofChange bundleTellsSpec)) bundleTellsCard

def bundleNilCard : Claim7 := { stood := { row := bundleNilRow, standIns := [], harness := (true, "be0f859df443c6d666ee6789f24a1143c91221cb830596a4a37beb096b8d704c"), looks := false }, kinds := [], alts := [], laidByText := true, laidKinds := [.data], laidTests := true, laidLooks := .later }
def BundleNilCardSaid : Prop := Claim7.holds Tryd.pinned (.plain (OpenSpec.ofChange bundleNilSpec)) bundleNilCard

def bundleChainsCard : Claim7 := { stood := { row := bundleChainsRow, standIns := [], harness := (true, "be0f859df443c6d666ee6789f24a1143c91221cb830596a4a37beb096b8d704c"), looks := false }, kinds := [], alts := [], laidByText := true, laidKinds := [.data], laidTests := true, laidLooks := .later }
def BundleChainsCardSaid : Prop := Claim7.holds Tryd.pinned (.plain (OpenSpec.ofChange bundleChainsSpec)) bundleChainsCard

def bundleBuildsUptoCard : Claim7 := { stood := { row := bundleBuildsUptoRow, standIns := [], harness := (true, "be0f859df443c6d666ee6789f24a1143c91221cb830596a4a37beb096b8d704c"), looks := false }, kinds := [], alts := [], laidByText := true, laidKinds := [.data], laidTests := true, laidLooks := .later }
def BundleBuildsUptoCardSaid : Prop := Claim7.holds Tryd.pinned (.plain (OpenSpec.upto bundleBuildsSpec)) bundleBuildsUptoCard

def bundleResolvesUptoCard : Claim7 := { stood := { row := bundleResolvesUptoRow, standIns := [], harness := (true, "be0f859df443c6d666ee6789f24a1143c91221cb830596a4a37beb096b8d704c"), looks := false }, kinds := [], alts := [], laidByText := true, laidKinds := [.data], laidTests := true, laidLooks := .later }
def BundleResolvesUptoCardSaid : Prop := Claim7.holds Tryd.pinned (.plain (OpenSpec.upto bundleResolvesSpec)) bundleResolvesUptoCard

def bundleOpensUptoCard : Claim7 := { stood := { row := bundleOpensUptoRow, standIns := [], harness := (true, "be0f859df443c6d666ee6789f24a1143c91221cb830596a4a37beb096b8d704c"), looks := false }, kinds := [], alts := [], laidByText := true, laidKinds := [.data], laidTests := true, laidLooks := .later }
def BundleOpensUptoCardSaid : Prop := Claim7.holds Tryd.pinned (.plain (OpenSpec.upto bundleOpensSpec)) bundleOpensUptoCard

def bundleTellsUptoCard : Claim7 := { stood := { row := bundleTellsUptoRow, standIns := [], harness := (true, "be0f859df443c6d666ee6789f24a1143c91221cb830596a4a37beb096b8d704c"), looks := false }, kinds := [], alts := [], laidByText := true, laidKinds := [.data], laidTests := true, laidLooks := .later }
def BundleTellsUptoCardSaid : Prop := Claim7.holds Tryd.pinned (.plain (OpenSpec.upto bundleTellsSpec)) bundleTellsUptoCard

def bundleNilUptoCard : Claim7 := { stood := { row := bundleNilUptoRow, standIns := [], harness := (true, "be0f859df443c6d666ee6789f24a1143c91221cb830596a4a37beb096b8d704c"), looks := false }, kinds := [], alts := [], laidByText := true, laidKinds := [.data], laidTests := true, laidLooks := .later }
def BundleNilUptoCardSaid : Prop := Claim7.holds Tryd.pinned (.plain (OpenSpec.upto bundleNilSpec)) bundleNilUptoCard

def bundleChainsUptoCard : Claim7 := { stood := { row := bundleChainsUptoRow, standIns := [], harness := (true, "be0f859df443c6d666ee6789f24a1143c91221cb830596a4a37beb096b8d704c"), looks := false }, kinds := [], alts := [], laidByText := true, laidKinds := [.data], laidTests := true, laidLooks := .later }
def BundleChainsUptoCardSaid : Prop := Claim7.holds Tryd.pinned (.plain (OpenSpec.upto bundleChainsSpec)) bundleChainsUptoCard
end Rows
end Go.Proofs.YtcnbllelfinlmaaDoor

/-
  DERIVED. GIVEN WITH THE SEED: THE CARDS: each row of YtljcnoifjhifcaaDoorRows.lean that lists a variable, with what it lists TIED to the program's text (the seventh form; the later family's looks); each row that meets fmt, with fmt's text TOLD by the authors' own Lean function (tested against real Go, not proved from fmt's source: count such statements apart). THE CARD IS WHAT COUNTS. Prove the row's statement (the work); the ties are given (YtljcnoifjhifcaaDoorTie.lean); close each card by the builder's one call (the guide's Derived/Test/ToyasCard.lean, 'card_holds'). Laid BY PROGRAM, IN A SANDBOX (cutbox-door.mjs). By AI agents, Wed Nov 11 2026. No macro, syntax, notation, axiom, sorry.
-/
import Derived.Test.YtljcnoifjhifcaaDoorRows
import GoSem.ClaimSeven
namespace Go.Proofs.YtljcnoifjhifcaaDoor
namespace Rows

/-- THE TIED CARD OF 'silolaw22.JudgeStores'. -/
def judgeStoresCard : Claim7 := { stood := { row := judgeStoresRow, standIns := [], harness := (true, "0bf93025b8ae0bf351f672d57b3f3a8837bc38b6c9bac56808a0ea408c1a2ccc"), looks := false }, kinds := [], alts := [], laidByText := true, laidKinds := [.data, .pinned], laidTests := true, laidLooks := .later }
def JudgeStoresCardSaid : Prop := Claim7.holds Tryd.pinned (.plain (OpenSpec.ofChange judgeStoresSpec)) judgeStoresCard

/-- THE TIED CARD OF 'silolaw22.JudgeAnswers'. -/
def judgeAnswersCard : Claim7 := { stood := { row := judgeAnswersRow, standIns := [], harness := (true, "0bf93025b8ae0bf351f672d57b3f3a8837bc38b6c9bac56808a0ea408c1a2ccc"), looks := false }, kinds := [], alts := [], laidByText := true, laidKinds := [.data, .pinned], laidTests := true, laidLooks := .later }
def JudgeAnswersCardSaid : Prop := Claim7.holds Tryd.pinned (.plain (OpenSpec.ofChange judgeAnswersSpec)) judgeAnswersCard

/-- THE TIED CARD OF 'silolaw22.JudgeTakes'. -/
def judgeTakesCard : Claim7 := { stood := { row := judgeTakesRow, standIns := [], harness := (true, "0bf93025b8ae0bf351f672d57b3f3a8837bc38b6c9bac56808a0ea408c1a2ccc"), looks := false }, kinds := [], alts := [], laidByText := true, laidKinds := [.data, .pinned], laidTests := true, laidLooks := .later }
def JudgeTakesCardSaid : Prop := Claim7.holds Tryd.pinned (.plain (OpenSpec.ofChange judgeTakesSpec)) judgeTakesCard

/-- THE TIED CARD OF 'silolaw22.JudgeTells'. -/
def judgeTellsCard : Claim7 := { stood := { row := judgeTellsRow, standIns := [], harness := (true, "0bf93025b8ae0bf351f672d57b3f3a8837bc38b6c9bac56808a0ea408c1a2ccc"), looks := false }, kinds := [], alts := [], laidByText := true, laidKinds := [.data, .pinned], laidTests := true, laidLooks := .later }
def JudgeTellsCardSaid : Prop := Claim7.holds Tryd.pinned (.plain (OpenSpec.ofChange judgeTellsSpec)) judgeTellsCard

/-- THE TIED CARD OF 'silolaw22.JudgeWider'. -/
def judgeWiderCard : Claim7 := { stood := { row := judgeWiderRow, standIns := [], harness := (true, "0bf93025b8ae0bf351f672d57b3f3a8837bc38b6c9bac56808a0ea408c1a2ccc"), looks := false }, kinds := [], alts := [], laidByText := true, laidKinds := [.data, .pinned], laidTests := true, laidLooks := .later }
def JudgeWiderCardSaid : Prop := Claim7.holds Tryd.pinned (.plain (OpenSpec.ofChange judgeWiderSpec)) judgeWiderCard

/-- THE SECOND FORM's CARD OF 'silolaw22.JudgeStores'. -/
def judgeStoresUptoCard : Claim7 := { stood := { row := judgeStoresUptoRow, standIns := [], harness := (true, "0bf93025b8ae0bf351f672d57b3f3a8837bc38b6c9bac56808a0ea408c1a2ccc"), looks := false }, kinds := [], alts := [], laidByText := true, laidKinds := [.data, .pinned], laidTests := true, laidLooks := .later }
def JudgeStoresUptoCardSaid : Prop := Claim7.holds Tryd.pinned (.plain (OpenSpec.upto judgeStoresSpec)) judgeStoresUptoCard

/-- THE SECOND FORM's CARD OF 'silolaw22.JudgeAnswers'. -/
def judgeAnswersUptoCard : Claim7 := { stood := { row := judgeAnswersUptoRow, standIns := [], harness := (true, "0bf93025b8ae0bf351f672d57b3f3a8837bc38b6c9bac56808a0ea408c1a2ccc"), looks := false }, kinds := [], alts := [], laidByText := true, laidKinds := [.data, .pinned], laidTests := true, laidLooks := .later }
def JudgeAnswersUptoCardSaid : Prop := Claim7.holds Tryd.pinned (.plain (OpenSpec.upto judgeAnswersSpec)) judgeAnswersUptoCard

/-- THE SECOND FORM's CARD OF 'silolaw22.JudgeTakes'. -/
def judgeTakesUptoCard : Claim7 := { stood := { row := judgeTakesUptoRow, standIns := [], harness := (true, "0bf93025b8ae0bf351f672d57b3f3a8837bc38b6c9bac56808a0ea408c1a2ccc"), looks := false }, kinds := [], alts := [], laidByText := true, laidKinds := [.data, .pinned], laidTests := true, laidLooks := .later }
def JudgeTakesUptoCardSaid : Prop := Claim7.holds Tryd.pinned (.plain (OpenSpec.upto judgeTakesSpec)) judgeTakesUptoCard

/-- THE SECOND FORM's CARD OF 'silolaw22.JudgeTells'. -/
def judgeTellsUptoCard : Claim7 := { stood := { row := judgeTellsUptoRow, standIns := [], harness := (true, "0bf93025b8ae0bf351f672d57b3f3a8837bc38b6c9bac56808a0ea408c1a2ccc"), looks := false }, kinds := [], alts := [], laidByText := true, laidKinds := [.data, .pinned], laidTests := true, laidLooks := .later }
def JudgeTellsUptoCardSaid : Prop := Claim7.holds Tryd.pinned (.plain (OpenSpec.upto judgeTellsSpec)) judgeTellsUptoCard

/-- THE SECOND FORM's CARD OF 'silolaw22.JudgeWider'. -/
def judgeWiderUptoCard : Claim7 := { stood := { row := judgeWiderUptoRow, standIns := [], harness := (true, "0bf93025b8ae0bf351f672d57b3f3a8837bc38b6c9bac56808a0ea408c1a2ccc"), looks := false }, kinds := [], alts := [], laidByText := true, laidKinds := [.data, .pinned], laidTests := true, laidLooks := .later }
def JudgeWiderUptoCardSaid : Prop := Claim7.holds Tryd.pinned (.plain (OpenSpec.upto judgeWiderSpec)) judgeWiderUptoCard
end Rows
end Go.Proofs.YtljcnoifjhifcaaDoor

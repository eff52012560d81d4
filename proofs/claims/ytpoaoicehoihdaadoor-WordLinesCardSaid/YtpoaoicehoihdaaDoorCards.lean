/-
  DERIVED. GIVEN WITH THE SEED: THE CARDS: each row of YtpoaoicehoihdaaDoorRows.lean that lists a variable, with what it lists TIED to the program's text (the seventh form; the later family's looks); each row that meets fmt, with fmt's text TOLD by the authors' own Lean function (tested against real Go, not proved from fmt's source: count such statements apart). THE CARD IS WHAT COUNTS. Prove the row's statement (the work); the ties are given (YtpoaoicehoihdaaDoorTie.lean); close each card by the builder's one call (the guide's Derived/Test/ToyasCard.lean, 'card_holds'). Laid BY PROGRAM, IN A SANDBOX (cutbox-door.mjs). By AI agents, Wed Nov 11 2026. No macro, syntax, notation, axiom, sorry.
-/
import Derived.Test.YtpoaoicehoihdaaDoorRows
import GoSem.ClaimSeven
namespace Go.Proofs.YtpoaoicehoihdaaDoor
namespace Rows

/-- THE TIED CARD OF 'lychgatelaw07.WordNumbers'. -/
def wordNumbersCard : Claim7 := { stood := { row := wordNumbersRow, standIns := [], harness := (true, "d66152715049050e4716e92496197ef83858ba487661e036fbfccb202b328530"), looks := false }, kinds := [], alts := [], laidByText := true, laidKinds := [.data, .pinned], laidTests := true, laidLooks := .later }
def WordNumbersCardSaid : Prop := Claim7.holds Tryd.pinned (.plain (OpenSpec.ofChange wordNumbersSpec)) wordNumbersCard

/-- THE TIED CARD OF 'lychgatelaw07.WordApart'. -/
def wordApartCard : Claim7 := { stood := { row := wordApartRow, standIns := [], harness := (true, "d66152715049050e4716e92496197ef83858ba487661e036fbfccb202b328530"), looks := false }, kinds := [], alts := [], laidByText := true, laidKinds := [.data, .pinned], laidTests := true, laidLooks := .later }
def WordApartCardSaid : Prop := Claim7.holds Tryd.pinned (.plain (OpenSpec.ofChange wordApartSpec)) wordApartCard

/-- THE TIED CARD OF 'lychgatelaw07.WordSplits'. -/
def wordSplitsCard : Claim7 := { stood := { row := wordSplitsRow, standIns := [], harness := (true, "d66152715049050e4716e92496197ef83858ba487661e036fbfccb202b328530"), looks := false }, kinds := [], alts := [], laidByText := true, laidKinds := [.data, .pinned], laidTests := true, laidLooks := .later }
def WordSplitsCardSaid : Prop := Claim7.holds Tryd.pinned (.plain (OpenSpec.ofChange wordSplitsSpec)) wordSplitsCard

/-- THE TIED CARD OF 'lychgatelaw07.WordLines'. -/
def wordLinesCard : Claim7 := { stood := { row := wordLinesRow, standIns := [], harness := (true, "d66152715049050e4716e92496197ef83858ba487661e036fbfccb202b328530"), looks := false }, kinds := [], alts := [], laidByText := true, laidKinds := [.data, .pinned], laidTests := true, laidLooks := .later }
def WordLinesCardSaid : Prop := Claim7.holds Tryd.pinned (.plain (OpenSpec.ofChange wordLinesSpec)) wordLinesCard

/-- THE TIED CARD OF 'lychgatelaw07.WordNames'. -/
def wordNamesCard : Claim7 := { stood := { row := wordNamesRow, standIns := [], harness := (true, "d66152715049050e4716e92496197ef83858ba487661e036fbfccb202b328530"), looks := false }, kinds := [], alts := [], laidByText := true, laidKinds := [.data, .pinned], laidTests := true, laidLooks := .later }
def WordNamesCardSaid : Prop := Claim7.holds Tryd.pinned (.plain (OpenSpec.ofChange wordNamesSpec)) wordNamesCard

/-- THE TIED CARD OF 'lychgatelaw07.WordBack'. -/
def wordBackCard : Claim7 := { stood := { row := wordBackRow, standIns := [], harness := (true, "d66152715049050e4716e92496197ef83858ba487661e036fbfccb202b328530"), looks := false }, kinds := [], alts := [], laidByText := true, laidKinds := [.data, .pinned], laidTests := true, laidLooks := .later }
def WordBackCardSaid : Prop := Claim7.holds Tryd.pinned (.plain (OpenSpec.ofChange wordBackSpec)) wordBackCard

/-- THE TIED CARD OF 'lychgatelaw07.WordLists'. -/
def wordListsCard : Claim7 := { stood := { row := wordListsRow, standIns := [], harness := (true, "d66152715049050e4716e92496197ef83858ba487661e036fbfccb202b328530"), looks := false }, kinds := [], alts := [], laidByText := true, laidKinds := [.data, .pinned], laidTests := true, laidLooks := .later }
def WordListsCardSaid : Prop := Claim7.holds Tryd.pinned (.plain (OpenSpec.ofChange wordListsSpec)) wordListsCard

/-- THE SECOND FORM's CARD OF 'lychgatelaw07.WordNumbers'. -/
def wordNumbersUptoCard : Claim7 := { stood := { row := wordNumbersUptoRow, standIns := [], harness := (true, "d66152715049050e4716e92496197ef83858ba487661e036fbfccb202b328530"), looks := false }, kinds := [], alts := [], laidByText := true, laidKinds := [.data, .pinned], laidTests := true, laidLooks := .later }
def WordNumbersUptoCardSaid : Prop := Claim7.holds Tryd.pinned (.plain (OpenSpec.upto wordNumbersSpec)) wordNumbersUptoCard

/-- THE SECOND FORM's CARD OF 'lychgatelaw07.WordApart'. -/
def wordApartUptoCard : Claim7 := { stood := { row := wordApartUptoRow, standIns := [], harness := (true, "d66152715049050e4716e92496197ef83858ba487661e036fbfccb202b328530"), looks := false }, kinds := [], alts := [], laidByText := true, laidKinds := [.data, .pinned], laidTests := true, laidLooks := .later }
def WordApartUptoCardSaid : Prop := Claim7.holds Tryd.pinned (.plain (OpenSpec.upto wordApartSpec)) wordApartUptoCard

/-- THE SECOND FORM's CARD OF 'lychgatelaw07.WordSplits'. -/
def wordSplitsUptoCard : Claim7 := { stood := { row := wordSplitsUptoRow, standIns := [], harness := (true, "d66152715049050e4716e92496197ef83858ba487661e036fbfccb202b328530"), looks := false }, kinds := [], alts := [], laidByText := true, laidKinds := [.data, .pinned], laidTests := true, laidLooks := .later }
def WordSplitsUptoCardSaid : Prop := Claim7.holds Tryd.pinned (.plain (OpenSpec.upto wordSplitsSpec)) wordSplitsUptoCard

/-- THE SECOND FORM's CARD OF 'lychgatelaw07.WordLines'. -/
def wordLinesUptoCard : Claim7 := { stood := { row := wordLinesUptoRow, standIns := [], harness := (true, "d66152715049050e4716e92496197ef83858ba487661e036fbfccb202b328530"), looks := false }, kinds := [], alts := [], laidByText := true, laidKinds := [.data, .pinned], laidTests := true, laidLooks := .later }
def WordLinesUptoCardSaid : Prop := Claim7.holds Tryd.pinned (.plain (OpenSpec.upto wordLinesSpec)) wordLinesUptoCard

/-- THE SECOND FORM's CARD OF 'lychgatelaw07.WordNames'. -/
def wordNamesUptoCard : Claim7 := { stood := { row := wordNamesUptoRow, standIns := [], harness := (true, "d66152715049050e4716e92496197ef83858ba487661e036fbfccb202b328530"), looks := false }, kinds := [], alts := [], laidByText := true, laidKinds := [.data, .pinned], laidTests := true, laidLooks := .later }
def WordNamesUptoCardSaid : Prop := Claim7.holds Tryd.pinned (.plain (OpenSpec.upto wordNamesSpec)) wordNamesUptoCard

/-- THE SECOND FORM's CARD OF 'lychgatelaw07.WordBack'. -/
def wordBackUptoCard : Claim7 := { stood := { row := wordBackUptoRow, standIns := [], harness := (true, "d66152715049050e4716e92496197ef83858ba487661e036fbfccb202b328530"), looks := false }, kinds := [], alts := [], laidByText := true, laidKinds := [.data, .pinned], laidTests := true, laidLooks := .later }
def WordBackUptoCardSaid : Prop := Claim7.holds Tryd.pinned (.plain (OpenSpec.upto wordBackSpec)) wordBackUptoCard

/-- THE SECOND FORM's CARD OF 'lychgatelaw07.WordLists'. -/
def wordListsUptoCard : Claim7 := { stood := { row := wordListsUptoRow, standIns := [], harness := (true, "d66152715049050e4716e92496197ef83858ba487661e036fbfccb202b328530"), looks := false }, kinds := [], alts := [], laidByText := true, laidKinds := [.data, .pinned], laidTests := true, laidLooks := .later }
def WordListsUptoCardSaid : Prop := Claim7.holds Tryd.pinned (.plain (OpenSpec.upto wordListsSpec)) wordListsUptoCard
end Rows
end Go.Proofs.YtpoaoicehoihdaaDoor

/-
  DERIVED. GIVEN WITH THE SEED: THE CARDS: each row of YtgjfebnafjpcaaaDoorRows.lean that lists a variable, with what it lists TIED to the program's text (the seventh form; the later family's looks); each row that meets fmt, with fmt's text TOLD by the authors' own Lean function (tested against real Go, not proved from fmt's source: count such statements apart). THE CARD IS WHAT COUNTS. Prove the row's statement (the work); the ties are given (YtgjfebnafjpcaaaDoorTie.lean); close each card by the builder's one call (the guide's Derived/Test/ToyasCard.lean, 'card_holds'). Laid BY PROGRAM, IN A SANDBOX (cutbox-door.mjs). By AI agents, Wed Nov 11 2026. No macro, syntax, notation, axiom, sorry.
-/
import Derived.Test.YtgjfebnafjpcaaaDoorRows
import GoSem.ClaimSeven
namespace Go.Proofs.YtgjfebnafjpcaaaDoor
namespace Rows

/-- THE TIED CARD OF 'glazierlaw26.FontBuiltin'. -/
def fontBuiltinCard : Claim7 := { stood := { row := fontBuiltinRow, standIns := [], harness := (true, "1dab44fca146fef7fdbcec53abacc3ca415c600360287fe5d85ecf4e3c9eaf3d"), looks := false }, kinds := [], alts := [], laidByText := true, laidKinds := [.data, .data, .data], laidTests := true, laidLooks := .later }
def FontBuiltinCardSaid : Prop := Claim7.holds Tryd.pinned (.plain (OpenSpec.ofChange fontBuiltinSpec)) fontBuiltinCard

/-- THE TIED CARD OF 'glazierlaw26.FontLetters'. -/
def fontLettersCard : Claim7 := { stood := { row := fontLettersRow, standIns := [], harness := (true, "1dab44fca146fef7fdbcec53abacc3ca415c600360287fe5d85ecf4e3c9eaf3d"), looks := false }, kinds := [], alts := [], laidByText := true, laidKinds := [.data, .pinned], laidTests := true, laidLooks := .later }
def FontLettersCardSaid : Prop := Claim7.holds Tryd.pinned (.plain (OpenSpec.ofChange fontLettersSpec)) fontLettersCard

/-- THE TIED CARD OF 'glazierlaw26.FontParses'. -/
def fontParsesCard : Claim7 := { stood := { row := fontParsesRow, standIns := [], harness := (true, "1dab44fca146fef7fdbcec53abacc3ca415c600360287fe5d85ecf4e3c9eaf3d"), looks := false }, kinds := [], alts := [], laidByText := true, laidKinds := [.data, .data, .data, .data, .pinned], laidTests := true, laidLooks := .later }
def FontParsesCardSaid : Prop := Claim7.holds Tryd.pinned (.plain (OpenSpec.ofChange fontParsesSpec)) fontParsesCard

/-- THE TIED CARD OF 'glazierlaw26.FontBack'. -/
def fontBackCard : Claim7 := { stood := { row := fontBackRow, standIns := [], harness := (true, "1dab44fca146fef7fdbcec53abacc3ca415c600360287fe5d85ecf4e3c9eaf3d"), looks := false }, kinds := [], alts := [], laidByText := true, laidKinds := [.data, .data, .data, .data, .pinned], laidTests := true, laidLooks := .later }
def FontBackCardSaid : Prop := Claim7.holds Tryd.pinned (.plain (OpenSpec.ofChange fontBackSpec)) fontBackCard

/-- THE TIED CARD OF 'glazierlaw26.FontLines'. -/
def fontLinesCard : Claim7 := { stood := { row := fontLinesRow, standIns := [], harness := (true, "1dab44fca146fef7fdbcec53abacc3ca415c600360287fe5d85ecf4e3c9eaf3d"), looks := false }, kinds := [], alts := [], laidByText := true, laidKinds := [.data, .data, .data, .data, .pinned], laidTests := true, laidLooks := .later }
def FontLinesCardSaid : Prop := Claim7.holds Tryd.pinned (.plain (OpenSpec.ofChange fontLinesSpec)) fontLinesCard

/-- THE SECOND FORM's CARD OF 'glazierlaw26.FontBuiltin'. -/
def fontBuiltinUptoCard : Claim7 := { stood := { row := fontBuiltinUptoRow, standIns := [], harness := (true, "1dab44fca146fef7fdbcec53abacc3ca415c600360287fe5d85ecf4e3c9eaf3d"), looks := false }, kinds := [], alts := [], laidByText := true, laidKinds := [.data, .data, .data], laidTests := true, laidLooks := .later }
def FontBuiltinUptoCardSaid : Prop := Claim7.holds Tryd.pinned (.plain (OpenSpec.upto fontBuiltinSpec)) fontBuiltinUptoCard

/-- THE SECOND FORM's CARD OF 'glazierlaw26.FontLetters'. -/
def fontLettersUptoCard : Claim7 := { stood := { row := fontLettersUptoRow, standIns := [], harness := (true, "1dab44fca146fef7fdbcec53abacc3ca415c600360287fe5d85ecf4e3c9eaf3d"), looks := false }, kinds := [], alts := [], laidByText := true, laidKinds := [.data, .pinned], laidTests := true, laidLooks := .later }
def FontLettersUptoCardSaid : Prop := Claim7.holds Tryd.pinned (.plain (OpenSpec.upto fontLettersSpec)) fontLettersUptoCard

/-- THE SECOND FORM's CARD OF 'glazierlaw26.FontParses'. -/
def fontParsesUptoCard : Claim7 := { stood := { row := fontParsesUptoRow, standIns := [], harness := (true, "1dab44fca146fef7fdbcec53abacc3ca415c600360287fe5d85ecf4e3c9eaf3d"), looks := false }, kinds := [], alts := [], laidByText := true, laidKinds := [.data, .data, .data, .data, .pinned], laidTests := true, laidLooks := .later }
def FontParsesUptoCardSaid : Prop := Claim7.holds Tryd.pinned (.plain (OpenSpec.upto fontParsesSpec)) fontParsesUptoCard

/-- THE SECOND FORM's CARD OF 'glazierlaw26.FontBack'. -/
def fontBackUptoCard : Claim7 := { stood := { row := fontBackUptoRow, standIns := [], harness := (true, "1dab44fca146fef7fdbcec53abacc3ca415c600360287fe5d85ecf4e3c9eaf3d"), looks := false }, kinds := [], alts := [], laidByText := true, laidKinds := [.data, .data, .data, .data, .pinned], laidTests := true, laidLooks := .later }
def FontBackUptoCardSaid : Prop := Claim7.holds Tryd.pinned (.plain (OpenSpec.upto fontBackSpec)) fontBackUptoCard

/-- THE SECOND FORM's CARD OF 'glazierlaw26.FontLines'. -/
def fontLinesUptoCard : Claim7 := { stood := { row := fontLinesUptoRow, standIns := [], harness := (true, "1dab44fca146fef7fdbcec53abacc3ca415c600360287fe5d85ecf4e3c9eaf3d"), looks := false }, kinds := [], alts := [], laidByText := true, laidKinds := [.data, .data, .data, .data, .pinned], laidTests := true, laidLooks := .later }
def FontLinesUptoCardSaid : Prop := Claim7.holds Tryd.pinned (.plain (OpenSpec.upto fontLinesSpec)) fontLinesUptoCard
end Rows
end Go.Proofs.YtgjfebnafjpcaaaDoor

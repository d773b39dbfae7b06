/-
  DERIVED. GIVEN WITH THE SEED: THE CARDS: each row of YtojeldemfccilaaGreatDoorRows.lean that lists a variable, with what it lists TIED to the program's text (the seventh form; the later family's looks); each row that meets fmt, with fmt's text TOLD by the authors' own Lean function (tested against real Go, not proved from fmt's source: count such statements apart). THE CARD IS WHAT COUNTS. Prove the row's statement (the work); the ties are given (YtojeldemfccilaaGreatDoorTie.lean); close each card by the builder's one call (the guide's Derived/Test/ToyasCard.lean, 'card_holds'). Laid BY PROGRAM, IN A SANDBOX (cutbox-door.mjs). By AI agents, Wed Nov 11 2026. No macro, syntax, notation, axiom, sorry.
-/
import Derived.Test.YtojeldemfccilaaGreatDoorRows
import GoSem.ClaimSeven
namespace Go.Proofs.YtojeldemfccilaaGreatDoor
namespace Rows

/-- THE TIED CARD OF 'treadwheellaw16.ImageNumbers'. -/
def imageNumbersCard : Claim7 := { stood := { row := imageNumbersRow, standIns := [], harness := (true, "83da2ea0fbd34128f7c96e3617e80b279b4374d706409da8cc812745047ecf78"), looks := false }, kinds := [], alts := [], laidByText := true, laidKinds := [.data, .pinned], laidTests := true, laidLooks := .later }
def ImageNumbersCardSaid : Prop := Claim7.holds Tryz.pinned (.plain (OpenSpec.ofChange imageNumbersSpec)) imageNumbersCard

/-- THE TIED CARD OF 'treadwheellaw16.ImageTells'. -/
def imageTellsCard : Claim7 := { stood := { row := imageTellsRow, standIns := [], harness := (true, "83da2ea0fbd34128f7c96e3617e80b279b4374d706409da8cc812745047ecf78"), looks := false }, kinds := [], alts := [], laidByText := true, laidKinds := [.data, .pinned], laidTests := true, laidLooks := .later }
def ImageTellsCardSaid : Prop := Claim7.holds Tryz.pinned (.plain (OpenSpec.ofChange imageTellsSpec)) imageTellsCard

/-- THE TIED CARD OF 'treadwheellaw16.ImageBack'. -/
def imageBackCard : Claim7 := { stood := { row := imageBackRow, standIns := [], harness := (true, "83da2ea0fbd34128f7c96e3617e80b279b4374d706409da8cc812745047ecf78"), looks := false }, kinds := [], alts := [], laidByText := true, laidKinds := [.data, .pinned], laidTests := true, laidLooks := .later }
def ImageBackCardSaid : Prop := Claim7.holds Tryz.pinned (.plain (OpenSpec.ofChange imageBackSpec)) imageBackCard

/-- THE TIED CARD OF 'treadwheellaw16.ImageApart'. -/
def imageApartCard : Claim7 := { stood := { row := imageApartRow, standIns := [], harness := (true, "83da2ea0fbd34128f7c96e3617e80b279b4374d706409da8cc812745047ecf78"), looks := false }, kinds := [], alts := [], laidByText := true, laidKinds := [.data, .pinned], laidTests := true, laidLooks := .later }
def ImageApartCardSaid : Prop := Claim7.holds Tryz.pinned (.plain (OpenSpec.ofChange imageApartSpec)) imageApartCard

/-- THE TIED CARD OF 'treadwheellaw16.ImageCounts'. -/
def imageCountsCard : Claim7 := { stood := { row := imageCountsRow, standIns := [], harness := (true, "83da2ea0fbd34128f7c96e3617e80b279b4374d706409da8cc812745047ecf78"), looks := false }, kinds := [], alts := [], laidByText := true, laidKinds := [.data, .pinned], laidTests := true, laidLooks := .later }
def ImageCountsCardSaid : Prop := Claim7.holds Tryz.pinned (.plain (OpenSpec.ofChange imageCountsSpec)) imageCountsCard

/-- THE SECOND FORM's CARD OF 'treadwheellaw16.ImageNumbers'. -/
def imageNumbersUptoCard : Claim7 := { stood := { row := imageNumbersUptoRow, standIns := [], harness := (true, "83da2ea0fbd34128f7c96e3617e80b279b4374d706409da8cc812745047ecf78"), looks := false }, kinds := [], alts := [], laidByText := true, laidKinds := [.data, .pinned], laidTests := true, laidLooks := .later }
def ImageNumbersUptoCardSaid : Prop := Claim7.holds Tryz.pinned (.plain (OpenSpec.upto imageNumbersSpec)) imageNumbersUptoCard

/-- THE SECOND FORM's CARD OF 'treadwheellaw16.ImageTells'. -/
def imageTellsUptoCard : Claim7 := { stood := { row := imageTellsUptoRow, standIns := [], harness := (true, "83da2ea0fbd34128f7c96e3617e80b279b4374d706409da8cc812745047ecf78"), looks := false }, kinds := [], alts := [], laidByText := true, laidKinds := [.data, .pinned], laidTests := true, laidLooks := .later }
def ImageTellsUptoCardSaid : Prop := Claim7.holds Tryz.pinned (.plain (OpenSpec.upto imageTellsSpec)) imageTellsUptoCard

/-- THE SECOND FORM's CARD OF 'treadwheellaw16.ImageBack'. -/
def imageBackUptoCard : Claim7 := { stood := { row := imageBackUptoRow, standIns := [], harness := (true, "83da2ea0fbd34128f7c96e3617e80b279b4374d706409da8cc812745047ecf78"), looks := false }, kinds := [], alts := [], laidByText := true, laidKinds := [.data, .pinned], laidTests := true, laidLooks := .later }
def ImageBackUptoCardSaid : Prop := Claim7.holds Tryz.pinned (.plain (OpenSpec.upto imageBackSpec)) imageBackUptoCard

/-- THE SECOND FORM's CARD OF 'treadwheellaw16.ImageApart'. -/
def imageApartUptoCard : Claim7 := { stood := { row := imageApartUptoRow, standIns := [], harness := (true, "83da2ea0fbd34128f7c96e3617e80b279b4374d706409da8cc812745047ecf78"), looks := false }, kinds := [], alts := [], laidByText := true, laidKinds := [.data, .pinned], laidTests := true, laidLooks := .later }
def ImageApartUptoCardSaid : Prop := Claim7.holds Tryz.pinned (.plain (OpenSpec.upto imageApartSpec)) imageApartUptoCard

/-- THE SECOND FORM's CARD OF 'treadwheellaw16.ImageCounts'. -/
def imageCountsUptoCard : Claim7 := { stood := { row := imageCountsUptoRow, standIns := [], harness := (true, "83da2ea0fbd34128f7c96e3617e80b279b4374d706409da8cc812745047ecf78"), looks := false }, kinds := [], alts := [], laidByText := true, laidKinds := [.data, .pinned], laidTests := true, laidLooks := .later }
def ImageCountsUptoCardSaid : Prop := Claim7.holds Tryz.pinned (.plain (OpenSpec.upto imageCountsSpec)) imageCountsUptoCard
end Rows
end Go.Proofs.YtojeldemfccilaaGreatDoor

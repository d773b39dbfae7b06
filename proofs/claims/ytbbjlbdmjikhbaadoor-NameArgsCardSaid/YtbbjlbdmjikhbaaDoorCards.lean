/-
  DERIVED. GIVEN WITH THE SEED: THE CARDS: each row of YtbbjlbdmjikhbaaDoorRows.lean that lists a variable, with what it lists TIED to the program's text (the seventh form; the later family's looks); each row that meets fmt, with fmt's text TOLD by the authors' own Lean function (tested against real Go, not proved from fmt's source: count such statements apart). THE CARD IS WHAT COUNTS. Prove the row's statement (the work); the ties are given (YtbbjlbdmjikhbaaDoorTie.lean); close each card by the builder's one call (the guide's Derived/Test/ToyasCard.lean, 'card_holds'). Laid BY PROGRAM, IN A SANDBOX (cutbox-door.mjs). By AI agents, Wed Nov 11 2026. No macro, syntax, notation, axiom, sorry.
-/
import Derived.Test.YtbbjlbdmjikhbaaDoorRows
import GoSem.ClaimSeven
namespace Go.Proofs.YtbbjlbdmjikhbaaDoor
namespace Rows

/-- THE TIED CARD OF 'treadwheellaw11.NameNumbers'. -/
def nameNumbersCard : Claim7 := { stood := { row := nameNumbersRow, standIns := [], harness := (true, "bc59f340a2017857c51a92a0898ec47103ea341df46f47c545f6c94219d5a4aa"), looks := false }, kinds := [], alts := [], laidByText := true, laidKinds := [.data, .pinned], laidTests := true, laidLooks := .later }
def NameNumbersCardSaid : Prop := Claim7.holds Tryd.pinned (.plain (OpenSpec.ofChange nameNumbersSpec)) nameNumbersCard

/-- THE TIED CARD OF 'treadwheellaw11.NameTells'. -/
def nameTellsCard : Claim7 := { stood := { row := nameTellsRow, standIns := [], harness := (true, "bc59f340a2017857c51a92a0898ec47103ea341df46f47c545f6c94219d5a4aa"), looks := false }, kinds := [], alts := [], laidByText := true, laidKinds := [.data, .pinned], laidTests := true, laidLooks := .later }
def NameTellsCardSaid : Prop := Claim7.holds Tryd.pinned (.plain (OpenSpec.ofChange nameTellsSpec)) nameTellsCard

/-- THE TIED CARD OF 'treadwheellaw11.NameKeys'. -/
def nameKeysCard : Claim7 := { stood := { row := nameKeysRow, standIns := [], harness := (true, "bc59f340a2017857c51a92a0898ec47103ea341df46f47c545f6c94219d5a4aa"), looks := false }, kinds := [], alts := [], laidByText := true, laidKinds := [.data, .pinned], laidTests := true, laidLooks := .later }
def NameKeysCardSaid : Prop := Claim7.holds Tryd.pinned (.plain (OpenSpec.ofChange nameKeysSpec)) nameKeysCard

/-- THE TIED CARD OF 'treadwheellaw11.NameArgs'. -/
def nameArgsCard : Claim7 := { stood := { row := nameArgsRow, standIns := [], harness := (true, "bc59f340a2017857c51a92a0898ec47103ea341df46f47c545f6c94219d5a4aa"), looks := false }, kinds := [], alts := [], laidByText := true, laidKinds := [.data, .pinned], laidTests := true, laidLooks := .later }
def NameArgsCardSaid : Prop := Claim7.holds Tryd.pinned (.plain (OpenSpec.ofChange nameArgsSpec)) nameArgsCard

/-- THE SECOND FORM's CARD OF 'treadwheellaw11.NameNumbers'. -/
def nameNumbersUptoCard : Claim7 := { stood := { row := nameNumbersUptoRow, standIns := [], harness := (true, "bc59f340a2017857c51a92a0898ec47103ea341df46f47c545f6c94219d5a4aa"), looks := false }, kinds := [], alts := [], laidByText := true, laidKinds := [.data, .pinned], laidTests := true, laidLooks := .later }
def NameNumbersUptoCardSaid : Prop := Claim7.holds Tryd.pinned (.plain (OpenSpec.upto nameNumbersSpec)) nameNumbersUptoCard

/-- THE SECOND FORM's CARD OF 'treadwheellaw11.NameTells'. -/
def nameTellsUptoCard : Claim7 := { stood := { row := nameTellsUptoRow, standIns := [], harness := (true, "bc59f340a2017857c51a92a0898ec47103ea341df46f47c545f6c94219d5a4aa"), looks := false }, kinds := [], alts := [], laidByText := true, laidKinds := [.data, .pinned], laidTests := true, laidLooks := .later }
def NameTellsUptoCardSaid : Prop := Claim7.holds Tryd.pinned (.plain (OpenSpec.upto nameTellsSpec)) nameTellsUptoCard

/-- THE SECOND FORM's CARD OF 'treadwheellaw11.NameKeys'. -/
def nameKeysUptoCard : Claim7 := { stood := { row := nameKeysUptoRow, standIns := [], harness := (true, "bc59f340a2017857c51a92a0898ec47103ea341df46f47c545f6c94219d5a4aa"), looks := false }, kinds := [], alts := [], laidByText := true, laidKinds := [.data, .pinned], laidTests := true, laidLooks := .later }
def NameKeysUptoCardSaid : Prop := Claim7.holds Tryd.pinned (.plain (OpenSpec.upto nameKeysSpec)) nameKeysUptoCard

/-- THE SECOND FORM's CARD OF 'treadwheellaw11.NameArgs'. -/
def nameArgsUptoCard : Claim7 := { stood := { row := nameArgsUptoRow, standIns := [], harness := (true, "bc59f340a2017857c51a92a0898ec47103ea341df46f47c545f6c94219d5a4aa"), looks := false }, kinds := [], alts := [], laidByText := true, laidKinds := [.data, .pinned], laidTests := true, laidLooks := .later }
def NameArgsUptoCardSaid : Prop := Claim7.holds Tryd.pinned (.plain (OpenSpec.upto nameArgsSpec)) nameArgsUptoCard
end Rows
end Go.Proofs.YtbbjlbdmjikhbaaDoor

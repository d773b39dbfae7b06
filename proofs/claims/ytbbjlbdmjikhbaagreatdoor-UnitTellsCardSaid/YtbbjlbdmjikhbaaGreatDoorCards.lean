/-
  DERIVED. GIVEN WITH THE SEED: THE CARDS: each row of YtbbjlbdmjikhbaaGreatDoorRows.lean that lists a variable, with what it lists TIED to the program's text (the seventh form; the later family's looks); each row that meets fmt, with fmt's text TOLD by the authors' own Lean function (tested against real Go, not proved from fmt's source: count such statements apart). THE CARD IS WHAT COUNTS. Prove the row's statement (the work); the ties are given (YtbbjlbdmjikhbaaGreatDoorTie.lean); close each card by the builder's one call (the guide's Derived/Test/ToyasCard.lean, 'card_holds'). Laid BY PROGRAM, IN A SANDBOX (cutbox-door.mjs). By AI agents, Wed Nov 11 2026. No macro, syntax, notation, axiom, sorry.
-/
import Derived.Test.YtbbjlbdmjikhbaaGreatDoorRows
import GoSem.ClaimSeven
namespace Go.Proofs.YtbbjlbdmjikhbaaGreatDoor
namespace Rows

/-- THE TIED CARD OF 'treadwheellaw15.UnitNumbers'. -/
def unitNumbersCard : Claim7 := { stood := { row := unitNumbersRow, standIns := [], harness := (true, "efc80c2bf196e78a070c36be3a71df6c448b2a4b3642bded1f468726a83c0bab"), looks := false }, kinds := [], alts := [], laidByText := true, laidKinds := [.data, .pinned], laidTests := true, laidLooks := .later }
def UnitNumbersCardSaid : Prop := Claim7.holds Tryz.pinned (.plain (OpenSpec.ofChange unitNumbersSpec)) unitNumbersCard

/-- THE TIED CARD OF 'treadwheellaw15.UnitTells'. -/
def unitTellsCard : Claim7 := { stood := { row := unitTellsRow, standIns := [], harness := (true, "efc80c2bf196e78a070c36be3a71df6c448b2a4b3642bded1f468726a83c0bab"), looks := false }, kinds := [], alts := [], laidByText := true, laidKinds := [.data, .pinned], laidTests := true, laidLooks := .later }
def UnitTellsCardSaid : Prop := Claim7.holds Tryz.pinned (.plain (OpenSpec.ofChange unitTellsSpec)) unitTellsCard

/-- THE TIED CARD OF 'treadwheellaw15.UnitFinds'. -/
def unitFindsCard : Claim7 := { stood := { row := unitFindsRow, standIns := [], harness := (true, "efc80c2bf196e78a070c36be3a71df6c448b2a4b3642bded1f468726a83c0bab"), looks := false }, kinds := [], alts := [], laidByText := true, laidKinds := [.data, .pinned], laidTests := true, laidLooks := .later }
def UnitFindsCardSaid : Prop := Claim7.holds Tryz.pinned (.plain (OpenSpec.ofChange unitFindsSpec)) unitFindsCard

/-- THE TIED CARD OF 'treadwheellaw15.UnitCopies'. -/
def unitCopiesCard : Claim7 := { stood := { row := unitCopiesRow, standIns := [], harness := (true, "efc80c2bf196e78a070c36be3a71df6c448b2a4b3642bded1f468726a83c0bab"), looks := false }, kinds := [], alts := [], laidByText := true, laidKinds := [.data, .pinned], laidTests := true, laidLooks := .later }
def UnitCopiesCardSaid : Prop := Claim7.holds Tryz.pinned (.plain (OpenSpec.ofChange unitCopiesSpec)) unitCopiesCard

/-- THE TIED CARD OF 'treadwheellaw15.UnitMain'. -/
def unitMainCard : Claim7 := { stood := { row := unitMainRow, standIns := [], harness := (true, "efc80c2bf196e78a070c36be3a71df6c448b2a4b3642bded1f468726a83c0bab"), looks := false }, kinds := [], alts := [], laidByText := true, laidKinds := [.data, .pinned], laidTests := true, laidLooks := .later }
def UnitMainCardSaid : Prop := Claim7.holds Tryz.pinned (.plain (OpenSpec.ofChange unitMainSpec)) unitMainCard

/-- THE TIED CARD OF 'treadwheellaw15.UnitWords'. -/
def unitWordsCard : Claim7 := { stood := { row := unitWordsRow, standIns := [], harness := (true, "efc80c2bf196e78a070c36be3a71df6c448b2a4b3642bded1f468726a83c0bab"), looks := false }, kinds := [], alts := [], laidByText := true, laidKinds := [.data, .pinned], laidTests := true, laidLooks := .later }
def UnitWordsCardSaid : Prop := Claim7.holds Tryz.pinned (.plain (OpenSpec.ofChange unitWordsSpec)) unitWordsCard

/-- THE SECOND FORM's CARD OF 'treadwheellaw15.UnitNumbers'. -/
def unitNumbersUptoCard : Claim7 := { stood := { row := unitNumbersUptoRow, standIns := [], harness := (true, "efc80c2bf196e78a070c36be3a71df6c448b2a4b3642bded1f468726a83c0bab"), looks := false }, kinds := [], alts := [], laidByText := true, laidKinds := [.data, .pinned], laidTests := true, laidLooks := .later }
def UnitNumbersUptoCardSaid : Prop := Claim7.holds Tryz.pinned (.plain (OpenSpec.upto unitNumbersSpec)) unitNumbersUptoCard

/-- THE SECOND FORM's CARD OF 'treadwheellaw15.UnitTells'. -/
def unitTellsUptoCard : Claim7 := { stood := { row := unitTellsUptoRow, standIns := [], harness := (true, "efc80c2bf196e78a070c36be3a71df6c448b2a4b3642bded1f468726a83c0bab"), looks := false }, kinds := [], alts := [], laidByText := true, laidKinds := [.data, .pinned], laidTests := true, laidLooks := .later }
def UnitTellsUptoCardSaid : Prop := Claim7.holds Tryz.pinned (.plain (OpenSpec.upto unitTellsSpec)) unitTellsUptoCard

/-- THE SECOND FORM's CARD OF 'treadwheellaw15.UnitFinds'. -/
def unitFindsUptoCard : Claim7 := { stood := { row := unitFindsUptoRow, standIns := [], harness := (true, "efc80c2bf196e78a070c36be3a71df6c448b2a4b3642bded1f468726a83c0bab"), looks := false }, kinds := [], alts := [], laidByText := true, laidKinds := [.data, .pinned], laidTests := true, laidLooks := .later }
def UnitFindsUptoCardSaid : Prop := Claim7.holds Tryz.pinned (.plain (OpenSpec.upto unitFindsSpec)) unitFindsUptoCard

/-- THE SECOND FORM's CARD OF 'treadwheellaw15.UnitCopies'. -/
def unitCopiesUptoCard : Claim7 := { stood := { row := unitCopiesUptoRow, standIns := [], harness := (true, "efc80c2bf196e78a070c36be3a71df6c448b2a4b3642bded1f468726a83c0bab"), looks := false }, kinds := [], alts := [], laidByText := true, laidKinds := [.data, .pinned], laidTests := true, laidLooks := .later }
def UnitCopiesUptoCardSaid : Prop := Claim7.holds Tryz.pinned (.plain (OpenSpec.upto unitCopiesSpec)) unitCopiesUptoCard

/-- THE SECOND FORM's CARD OF 'treadwheellaw15.UnitMain'. -/
def unitMainUptoCard : Claim7 := { stood := { row := unitMainUptoRow, standIns := [], harness := (true, "efc80c2bf196e78a070c36be3a71df6c448b2a4b3642bded1f468726a83c0bab"), looks := false }, kinds := [], alts := [], laidByText := true, laidKinds := [.data, .pinned], laidTests := true, laidLooks := .later }
def UnitMainUptoCardSaid : Prop := Claim7.holds Tryz.pinned (.plain (OpenSpec.upto unitMainSpec)) unitMainUptoCard

/-- THE SECOND FORM's CARD OF 'treadwheellaw15.UnitWords'. -/
def unitWordsUptoCard : Claim7 := { stood := { row := unitWordsUptoRow, standIns := [], harness := (true, "efc80c2bf196e78a070c36be3a71df6c448b2a4b3642bded1f468726a83c0bab"), looks := false }, kinds := [], alts := [], laidByText := true, laidKinds := [.data, .pinned], laidTests := true, laidLooks := .later }
def UnitWordsUptoCardSaid : Prop := Claim7.holds Tryz.pinned (.plain (OpenSpec.upto unitWordsSpec)) unitWordsUptoCard
end Rows
end Go.Proofs.YtbbjlbdmjikhbaaGreatDoor

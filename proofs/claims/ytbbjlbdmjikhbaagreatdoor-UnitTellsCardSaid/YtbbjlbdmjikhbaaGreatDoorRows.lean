/-
  NARROWER THAN 'FOR EVERY INPUT', by the rows' own cells (each row's printed sentence says how): UnitNumbers: laid · UnitTells: laid · UnitFinds: laid · UnitCopies: laid · UnitMain: laid · UnitWords: laid.
  DERIVED. THE GIVEN ROWS OF THIS SEAT. 6 by the template 'for every input the law returns true; each argument reads behind the call as it read before'; 0 by the template 'total and deterministic' (their statements: YtbbjlbdmjikhbaaGreatDoorTotals.lean).
  GIVEN WITH THE SEED: the statements are not yours to turn. If you find one false, say at which input.
  Laid BY PROGRAM, IN A SANDBOX (cutbox-rows.mjs): the forced cells as the released guide's own fill.sh prints them over the translation 83dcb13bd9b67bc4… (all of the seat's roots in one cut). By AI agents, Wed Nov 11 2026. No macro, syntax, notation, axiom, sorry.
-/
import Derived.Test.YtbbjlbdmjikhbaaGreatDoorChecked
import GoSem.PinnedTables
import GoSem.Claim
import GoSem.ClaimJoined
import GoSem.ClaimMapViews
import Derived.JoinedTies
import Derived.KernelRfl
namespace Go.Proofs.YtbbjlbdmjikhbaaGreatDoor
/- THE CELL 'sum', in the pinned program and in every row, IS THE sha256 OF THE DUMP (.gsa) THAT YtbbjlbdmjikhbaaGreatDoorProg.lean LOADS. Nothing in Lean hashes anything: it is a label: what it is worth is what the hold of that sum in a sandbox is worth. -/
noncomputable def Tryz.pinned : Pinned := { name := "ytbbjlbdmjikhbaagreatdoor", sum := "83dcb13bd9b67bc4b9aa5d177ac41d82cca59112981853e97c6e15aa8b491617", checked := Tryz.checked }
namespace Rows
def none {H : Type} : Left H := { results := [], args := [] }

/- WHAT THE LISTED PACKAGE-LEVEL VARIABLES READ AS WHEN THE CALL BEGINS. Each datum BY PROGRAM (the guide's laid-datum.mjs) off the statement by which the dump's own 'gosem.cut.vars' lays the variable. In a bare row this is a premise. The card (YtbbjlbdmjikhbaaGreatDoorCards.lean) ties it to the program's text. -/
def laid_unicode_utf8_acceptRanges {H : Type} : DataW H := .agg [.agg [.lit (.int .u8 128), .lit (.int .u8 191)], .agg [.lit (.int .u8 160), .lit (.int .u8 191)], .agg [.lit (.int .u8 128), .lit (.int .u8 159)], .agg [.lit (.int .u8 144), .lit (.int .u8 191)], .agg [.lit (.int .u8 128), .lit (.int .u8 143)], .agg [.lit (.int .u8 0), .lit (.int .u8 0)], .agg [.lit (.int .u8 0), .lit (.int .u8 0)], .agg [.lit (.int .u8 0), .lit (.int .u8 0)], .agg [.lit (.int .u8 0), .lit (.int .u8 0)], .agg [.lit (.int .u8 0), .lit (.int .u8 0)], .agg [.lit (.int .u8 0), .lit (.int .u8 0)], .agg [.lit (.int .u8 0), .lit (.int .u8 0)], .agg [.lit (.int .u8 0), .lit (.int .u8 0)], .agg [.lit (.int .u8 0), .lit (.int .u8 0)], .agg [.lit (.int .u8 0), .lit (.int .u8 0)], .agg [.lit (.int .u8 0), .lit (.int .u8 0)]]
/-- One of Go's own tables, pinned by name: the form's constant. -/
def laid_unicode_utf8_first : DataW Unit := Go.Pinned.utf8First

/-- 'treadwheellaw15.UnitNumbers': WHATEVER THE INPUT: true; the input reads as it did. -/
def unitNumbersSpec : ChangeSpec := { name := "unitNumbers", fn := fun _ => fun
  | [] => { results := [.lit (.bool true)], args := [] }
  | _ => none }
def unitNumbersRow : OpenClaim := { program := "ytbbjlbdmjikhbaagreatdoor", sum := "83dcb13bd9b67bc4b9aa5d177ac41d82cca59112981853e97c6e15aa8b491617", func := "treadwheel/treadwheellaw15.UnitNumbers", spec := "unitNumbers", inPlace := ["internal/bytealg.IndexByteString", "internal/bytealg.IndexString", "internal/bytealg.CountString"], unfollowed := true, recurses := true, named := ["unicode/utf8.first", "unicode/utf8.acceptRanges", "internal/bytealg.MaxLen"], plainKeys := false, apart := false, laid := [("unicode/utf8.acceptRanges", laid_unicode_utf8_acceptRanges), ("unicode/utf8.first", laid_unicode_utf8_first)] }
def UnitNumbersSaid : Prop := unitNumbersRow.holds Tryz.pinned (OpenSpec.ofChange unitNumbersSpec)

/-- ITS FALSE NEIGHBOUR: 'it returns false'. Refute it at one input. -/
def unitNumbersWrong : ChangeSpec := { name := "unitNumbers", fn := fun _ => fun
  | [] => { results := [.lit (.bool false)], args := [] }
  | _ => none }
def UnitNumbersWrongFalsely : Prop := unitNumbersRow.holds Tryz.pinned (OpenSpec.ofChange unitNumbersWrong)

/-- 'treadwheellaw15.UnitTells': WHATEVER THE INPUT: true; the input reads as it did. -/
def unitTellsSpec : ChangeSpec := { name := "unitTells", fn := fun _ => fun
  | [d1, d2, d3, d4, d5, d6, d7] => { results := [.lit (.bool true)], args := [d1, d2, d3, d4, d5, d6, d7] }
  | _ => none }
def unitTellsRow : OpenClaim := { program := "ytbbjlbdmjikhbaagreatdoor", sum := "83dcb13bd9b67bc4b9aa5d177ac41d82cca59112981853e97c6e15aa8b491617", func := "treadwheel/treadwheellaw15.UnitTells", spec := "unitTells", inPlace := ["internal/bytealg.IndexByteString", "internal/bytealg.IndexString", "internal/bytealg.CountString"], unfollowed := true, recurses := true, named := ["unicode/utf8.first", "unicode/utf8.acceptRanges", "internal/bytealg.MaxLen"], plainKeys := false, apart := false, laid := [("unicode/utf8.acceptRanges", laid_unicode_utf8_acceptRanges), ("unicode/utf8.first", laid_unicode_utf8_first)] }
def UnitTellsSaid : Prop := unitTellsRow.holds Tryz.pinned (OpenSpec.ofChange unitTellsSpec)

/-- ITS FALSE NEIGHBOUR: 'it returns false'. Refute it at one input. -/
def unitTellsWrong : ChangeSpec := { name := "unitTells", fn := fun _ => fun
  | [d1, d2, d3, d4, d5, d6, d7] => { results := [.lit (.bool false)], args := [d1, d2, d3, d4, d5, d6, d7] }
  | _ => none }
def UnitTellsWrongFalsely : Prop := unitTellsRow.holds Tryz.pinned (OpenSpec.ofChange unitTellsWrong)

/-- 'treadwheellaw15.UnitFinds': WHATEVER THE INPUT: true; the input reads as it did. -/
def unitFindsSpec : ChangeSpec := { name := "unitFinds", fn := fun _ => fun
  | [d1, d2, d3] => { results := [.lit (.bool true)], args := [d1, d2, d3] }
  | _ => none }
def unitFindsRow : OpenClaim := { program := "ytbbjlbdmjikhbaagreatdoor", sum := "83dcb13bd9b67bc4b9aa5d177ac41d82cca59112981853e97c6e15aa8b491617", func := "treadwheel/treadwheellaw15.UnitFinds", spec := "unitFinds", inPlace := ["internal/bytealg.IndexByteString", "internal/bytealg.IndexString", "internal/bytealg.CountString"], unfollowed := true, recurses := true, named := ["unicode/utf8.first", "unicode/utf8.acceptRanges", "internal/bytealg.MaxLen"], plainKeys := false, apart := false, laid := [("unicode/utf8.acceptRanges", laid_unicode_utf8_acceptRanges), ("unicode/utf8.first", laid_unicode_utf8_first)] }
def UnitFindsSaid : Prop := unitFindsRow.holds Tryz.pinned (OpenSpec.ofChange unitFindsSpec)

/-- ITS FALSE NEIGHBOUR: 'it returns false'. Refute it at one input. -/
def unitFindsWrong : ChangeSpec := { name := "unitFinds", fn := fun _ => fun
  | [d1, d2, d3] => { results := [.lit (.bool false)], args := [d1, d2, d3] }
  | _ => none }
def UnitFindsWrongFalsely : Prop := unitFindsRow.holds Tryz.pinned (OpenSpec.ofChange unitFindsWrong)

/-- 'treadwheellaw15.UnitCopies': WHATEVER THE INPUT: true; the input reads as it did. -/
def unitCopiesSpec : ChangeSpec := { name := "unitCopies", fn := fun _ => fun
  | [d1, d2, d3, d4] => { results := [.lit (.bool true)], args := [d1, d2, d3, d4] }
  | _ => none }
def unitCopiesRow : OpenClaim := { program := "ytbbjlbdmjikhbaagreatdoor", sum := "83dcb13bd9b67bc4b9aa5d177ac41d82cca59112981853e97c6e15aa8b491617", func := "treadwheel/treadwheellaw15.UnitCopies", spec := "unitCopies", inPlace := ["internal/bytealg.IndexByteString", "internal/bytealg.IndexString", "internal/bytealg.CountString"], unfollowed := true, recurses := true, named := ["unicode/utf8.first", "unicode/utf8.acceptRanges", "internal/bytealg.MaxLen"], plainKeys := false, apart := false, laid := [("unicode/utf8.acceptRanges", laid_unicode_utf8_acceptRanges), ("unicode/utf8.first", laid_unicode_utf8_first)] }
def UnitCopiesSaid : Prop := unitCopiesRow.holds Tryz.pinned (OpenSpec.ofChange unitCopiesSpec)

/-- ITS FALSE NEIGHBOUR: 'it returns false'. Refute it at one input. -/
def unitCopiesWrong : ChangeSpec := { name := "unitCopies", fn := fun _ => fun
  | [d1, d2, d3, d4] => { results := [.lit (.bool false)], args := [d1, d2, d3, d4] }
  | _ => none }
def UnitCopiesWrongFalsely : Prop := unitCopiesRow.holds Tryz.pinned (OpenSpec.ofChange unitCopiesWrong)

/-- 'treadwheellaw15.UnitMain': WHATEVER THE INPUT: true; the input reads as it did. -/
def unitMainSpec : ChangeSpec := { name := "unitMain", fn := fun _ => fun
  | [d1, d2] => { results := [.lit (.bool true)], args := [d1, d2] }
  | _ => none }
def unitMainRow : OpenClaim := { program := "ytbbjlbdmjikhbaagreatdoor", sum := "83dcb13bd9b67bc4b9aa5d177ac41d82cca59112981853e97c6e15aa8b491617", func := "treadwheel/treadwheellaw15.UnitMain", spec := "unitMain", inPlace := ["internal/bytealg.IndexByteString", "internal/bytealg.IndexString", "internal/bytealg.CountString"], unfollowed := true, recurses := true, named := ["unicode/utf8.first", "unicode/utf8.acceptRanges", "internal/bytealg.MaxLen"], plainKeys := false, apart := false, laid := [("unicode/utf8.acceptRanges", laid_unicode_utf8_acceptRanges), ("unicode/utf8.first", laid_unicode_utf8_first)] }
def UnitMainSaid : Prop := unitMainRow.holds Tryz.pinned (OpenSpec.ofChange unitMainSpec)

/-- ITS FALSE NEIGHBOUR: 'it returns false'. Refute it at one input. -/
def unitMainWrong : ChangeSpec := { name := "unitMain", fn := fun _ => fun
  | [d1, d2] => { results := [.lit (.bool false)], args := [d1, d2] }
  | _ => none }
def UnitMainWrongFalsely : Prop := unitMainRow.holds Tryz.pinned (OpenSpec.ofChange unitMainWrong)

/-- 'treadwheellaw15.UnitWords': WHATEVER THE INPUT: true; the input reads as it did. -/
def unitWordsSpec : ChangeSpec := { name := "unitWords", fn := fun _ => fun
  | [d1, d2] => { results := [.lit (.bool true)], args := [d1, d2] }
  | _ => none }
def unitWordsRow : OpenClaim := { program := "ytbbjlbdmjikhbaagreatdoor", sum := "83dcb13bd9b67bc4b9aa5d177ac41d82cca59112981853e97c6e15aa8b491617", func := "treadwheel/treadwheellaw15.UnitWords", spec := "unitWords", inPlace := ["internal/bytealg.IndexByteString", "internal/bytealg.IndexString", "internal/bytealg.CountString"], unfollowed := true, recurses := true, named := ["unicode/utf8.first", "unicode/utf8.acceptRanges", "internal/bytealg.MaxLen"], plainKeys := false, apart := false, laid := [("unicode/utf8.acceptRanges", laid_unicode_utf8_acceptRanges), ("unicode/utf8.first", laid_unicode_utf8_first)] }
def UnitWordsSaid : Prop := unitWordsRow.holds Tryz.pinned (OpenSpec.ofChange unitWordsSpec)

/-- ITS FALSE NEIGHBOUR: 'it returns false'. Refute it at one input. -/
def unitWordsWrong : ChangeSpec := { name := "unitWords", fn := fun _ => fun
  | [d1, d2] => { results := [.lit (.bool false)], args := [d1, d2] }
  | _ => none }
def UnitWordsWrongFalsely : Prop := unitWordsRow.holds Tryz.pinned (OpenSpec.ofChange unitWordsWrong)

/- THE SECOND FORM. 'bulk': how many values and letters a reading holds, each counted each time it is reached (what is shared counts as often as it is met; a slice's spare places count too). A statement '..UptoSaid' is the law's where the arguments, and the package variables that the reading takes, are together of bulk at most 1048576: NARROWER than '..Said'. Prove '..Said' where nothing that the law and all that it calls make is longer than what came in: it says more and counts as full. Else prove '..UptoSaid'. A law counts once. -/
mutual
def uptoBulk {H : Type} : DataW H → Nat
  | .lit (.string bytes) => bytes.length + 1
  | .lit _ => 1
  | .nil => 1
  | .ptr d => uptoBulk d + 1
  | .slice elems spare => uptoBulkAll elems + uptoBulkAll spare + 1
  | .agg parts => uptoBulkAll parts + 1
  | .iface _ d => uptoBulk d + 1
  | .map entries => uptoBulkEntries entries + 1
  | .held _ => 1
def uptoBulkAll {H : Type} : List (DataW H) → Nat
  | [] => 0
  | d :: r => uptoBulk d + uptoBulkAll r
def uptoBulkEntries {H : Type} : List (Lit × DataW H) → Nat
  | [] => 0
  | x :: r => uptoBulkEntry x + uptoBulkEntries r
def uptoBulkEntry {H : Type} : Lit × DataW H → Nat
  | (.string bytes, d) => bytes.length + uptoBulk d + 1
  | (_, d) => uptoBulk d + 1
 end
def uptoSmall : (H : Type) → List (DataW H) → Bool := fun _ ds => decide (uptoBulkAll ds ≤ 1048576)
def OpenSpec.upto (s : _root_.Go.ChangeSpec) : _root_.Go.OpenSpec := { _root_.Go.OpenSpec.ofChange s with cond := some uptoSmall }

/-- 'treadwheellaw15.UnitNumbers', WHERE WHAT IT READS IS OF BULK AT MOST 1048576: true; the input reads as it did. -/
def unitNumbersUptoRow : OpenClaim := { program := "ytbbjlbdmjikhbaagreatdoor", sum := "83dcb13bd9b67bc4b9aa5d177ac41d82cca59112981853e97c6e15aa8b491617", func := "treadwheel/treadwheellaw15.UnitNumbers", spec := "unitNumbers", inPlace := ["internal/bytealg.IndexByteString", "internal/bytealg.IndexString", "internal/bytealg.CountString"], unfollowed := true, recurses := true, named := ["unicode/utf8.first", "unicode/utf8.acceptRanges", "internal/bytealg.MaxLen"], plainKeys := false, apart := false, laid := [("unicode/utf8.acceptRanges", laid_unicode_utf8_acceptRanges), ("unicode/utf8.first", laid_unicode_utf8_first)], narrowed := true }
def UnitNumbersUptoSaid : Prop := unitNumbersUptoRow.holds Tryz.pinned (OpenSpec.upto unitNumbersSpec)

/-- 'treadwheellaw15.UnitTells', WHERE WHAT IT READS IS OF BULK AT MOST 1048576: true; the input reads as it did. -/
def unitTellsUptoRow : OpenClaim := { program := "ytbbjlbdmjikhbaagreatdoor", sum := "83dcb13bd9b67bc4b9aa5d177ac41d82cca59112981853e97c6e15aa8b491617", func := "treadwheel/treadwheellaw15.UnitTells", spec := "unitTells", inPlace := ["internal/bytealg.IndexByteString", "internal/bytealg.IndexString", "internal/bytealg.CountString"], unfollowed := true, recurses := true, named := ["unicode/utf8.first", "unicode/utf8.acceptRanges", "internal/bytealg.MaxLen"], plainKeys := false, apart := false, laid := [("unicode/utf8.acceptRanges", laid_unicode_utf8_acceptRanges), ("unicode/utf8.first", laid_unicode_utf8_first)], narrowed := true }
def UnitTellsUptoSaid : Prop := unitTellsUptoRow.holds Tryz.pinned (OpenSpec.upto unitTellsSpec)

/-- 'treadwheellaw15.UnitFinds', WHERE WHAT IT READS IS OF BULK AT MOST 1048576: true; the input reads as it did. -/
def unitFindsUptoRow : OpenClaim := { program := "ytbbjlbdmjikhbaagreatdoor", sum := "83dcb13bd9b67bc4b9aa5d177ac41d82cca59112981853e97c6e15aa8b491617", func := "treadwheel/treadwheellaw15.UnitFinds", spec := "unitFinds", inPlace := ["internal/bytealg.IndexByteString", "internal/bytealg.IndexString", "internal/bytealg.CountString"], unfollowed := true, recurses := true, named := ["unicode/utf8.first", "unicode/utf8.acceptRanges", "internal/bytealg.MaxLen"], plainKeys := false, apart := false, laid := [("unicode/utf8.acceptRanges", laid_unicode_utf8_acceptRanges), ("unicode/utf8.first", laid_unicode_utf8_first)], narrowed := true }
def UnitFindsUptoSaid : Prop := unitFindsUptoRow.holds Tryz.pinned (OpenSpec.upto unitFindsSpec)

/-- 'treadwheellaw15.UnitCopies', WHERE WHAT IT READS IS OF BULK AT MOST 1048576: true; the input reads as it did. -/
def unitCopiesUptoRow : OpenClaim := { program := "ytbbjlbdmjikhbaagreatdoor", sum := "83dcb13bd9b67bc4b9aa5d177ac41d82cca59112981853e97c6e15aa8b491617", func := "treadwheel/treadwheellaw15.UnitCopies", spec := "unitCopies", inPlace := ["internal/bytealg.IndexByteString", "internal/bytealg.IndexString", "internal/bytealg.CountString"], unfollowed := true, recurses := true, named := ["unicode/utf8.first", "unicode/utf8.acceptRanges", "internal/bytealg.MaxLen"], plainKeys := false, apart := false, laid := [("unicode/utf8.acceptRanges", laid_unicode_utf8_acceptRanges), ("unicode/utf8.first", laid_unicode_utf8_first)], narrowed := true }
def UnitCopiesUptoSaid : Prop := unitCopiesUptoRow.holds Tryz.pinned (OpenSpec.upto unitCopiesSpec)

/-- 'treadwheellaw15.UnitMain', WHERE WHAT IT READS IS OF BULK AT MOST 1048576: true; the input reads as it did. -/
def unitMainUptoRow : OpenClaim := { program := "ytbbjlbdmjikhbaagreatdoor", sum := "83dcb13bd9b67bc4b9aa5d177ac41d82cca59112981853e97c6e15aa8b491617", func := "treadwheel/treadwheellaw15.UnitMain", spec := "unitMain", inPlace := ["internal/bytealg.IndexByteString", "internal/bytealg.IndexString", "internal/bytealg.CountString"], unfollowed := true, recurses := true, named := ["unicode/utf8.first", "unicode/utf8.acceptRanges", "internal/bytealg.MaxLen"], plainKeys := false, apart := false, laid := [("unicode/utf8.acceptRanges", laid_unicode_utf8_acceptRanges), ("unicode/utf8.first", laid_unicode_utf8_first)], narrowed := true }
def UnitMainUptoSaid : Prop := unitMainUptoRow.holds Tryz.pinned (OpenSpec.upto unitMainSpec)

/-- 'treadwheellaw15.UnitWords', WHERE WHAT IT READS IS OF BULK AT MOST 1048576: true; the input reads as it did. -/
def unitWordsUptoRow : OpenClaim := { program := "ytbbjlbdmjikhbaagreatdoor", sum := "83dcb13bd9b67bc4b9aa5d177ac41d82cca59112981853e97c6e15aa8b491617", func := "treadwheel/treadwheellaw15.UnitWords", spec := "unitWords", inPlace := ["internal/bytealg.IndexByteString", "internal/bytealg.IndexString", "internal/bytealg.CountString"], unfollowed := true, recurses := true, named := ["unicode/utf8.first", "unicode/utf8.acceptRanges", "internal/bytealg.MaxLen"], plainKeys := false, apart := false, laid := [("unicode/utf8.acceptRanges", laid_unicode_utf8_acceptRanges), ("unicode/utf8.first", laid_unicode_utf8_first)], narrowed := true }
def UnitWordsUptoSaid : Prop := unitWordsUptoRow.holds Tryz.pinned (OpenSpec.upto unitWordsSpec)

end Rows
end Go.Proofs.YtbbjlbdmjikhbaaGreatDoor

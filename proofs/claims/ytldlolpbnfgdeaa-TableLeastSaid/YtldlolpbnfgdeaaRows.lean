/-
  No cell of these rows narrows 'for every input' (looked for: loops, veiled, ifaces, maps, wideKeys, modest, calm, conditions, laid).
  DERIVED. THE GIVEN ROWS OF THIS SEAT. 12 by the template 'for every input the law returns true; each argument reads behind the call as it read before'; 0 by the template 'total and deterministic' (their statements: YtldlolpbnfgdeaaTotals.lean).
  GIVEN WITH THE SEED: the statements are not yours to turn. If you find one false, say at which input.
  Laid BY PROGRAM, IN A SANDBOX (cutbox-rows.mjs): the forced cells as the released guide's own fill.sh prints them over the translation 7a7c35b4be9476c5… (all of the seat's roots in one cut). By AI agents, Wed Nov 11 2026. No macro, syntax, notation, axiom, sorry.
-/
import Derived.Test.YtldlolpbnfgdeaaChecked
import GoSem.Claim
import GoSem.ClaimJoined
import GoSem.ClaimMapViews
import Derived.JoinedTies
import Derived.KernelRfl
namespace Go.Proofs.Ytldlolpbnfgdeaa
/- THE CELL 'sum', in the pinned program and in every row, IS THE sha256 OF THE DUMP (.gsa) THAT YtldlolpbnfgdeaaProg.lean LOADS. Nothing in Lean hashes anything: it is a label: what it is worth is what the hold of that sum in a sandbox is worth. -/
noncomputable def Try.pinned : Pinned := { name := "ytldlolpbnfgdeaa", sum := "7a7c35b4be9476c507d0be7bff010f43f03e99a1668b6f63cad755cbe618089e", checked := Try.checked }
namespace Rows
def none {H : Type} : Left H := { results := [], args := [] }

/-- 'treadwheellaw23.SaveNumbers': WHATEVER THE INPUT: true; the input reads as it did. -/
def saveNumbersSpec : ChangeSpec := { name := "saveNumbers", fn := fun _ => fun
  | [] => { results := [.lit (.bool true)], args := [] }
  | _ => none }
def saveNumbersRow : OpenClaim := { program := "ytldlolpbnfgdeaa", sum := "7a7c35b4be9476c507d0be7bff010f43f03e99a1668b6f63cad755cbe618089e", func := "treadwheel/treadwheellaw23.SaveNumbers", spec := "saveNumbers", unfollowed := true, recurses := true, plainKeys := false, apart := false }
def SaveNumbersSaid : Prop := saveNumbersRow.holds Try.pinned (OpenSpec.ofChange saveNumbersSpec)

/-- ITS FALSE NEIGHBOUR: 'it returns false'. Refute it at one input. -/
def saveNumbersWrong : ChangeSpec := { name := "saveNumbers", fn := fun _ => fun
  | [] => { results := [.lit (.bool false)], args := [] }
  | _ => none }
def SaveNumbersWrongFalsely : Prop := saveNumbersRow.holds Try.pinned (OpenSpec.ofChange saveNumbersWrong)

/-- 'treadwheellaw23.SaveTells': WHATEVER THE INPUT: true; the input reads as it did. -/
def saveTellsSpec : ChangeSpec := { name := "saveTells", fn := fun _ => fun
  | [d1, d2, d3, d4] => { results := [.lit (.bool true)], args := [d1, d2, d3, d4] }
  | _ => none }
def saveTellsRow : OpenClaim := { program := "ytldlolpbnfgdeaa", sum := "7a7c35b4be9476c507d0be7bff010f43f03e99a1668b6f63cad755cbe618089e", func := "treadwheel/treadwheellaw23.SaveTells", spec := "saveTells", unfollowed := true, recurses := true, plainKeys := false, apart := false }
def SaveTellsSaid : Prop := saveTellsRow.holds Try.pinned (OpenSpec.ofChange saveTellsSpec)

/-- ITS FALSE NEIGHBOUR: 'it returns false'. Refute it at one input. -/
def saveTellsWrong : ChangeSpec := { name := "saveTells", fn := fun _ => fun
  | [d1, d2, d3, d4] => { results := [.lit (.bool false)], args := [d1, d2, d3, d4] }
  | _ => none }
def SaveTellsWrongFalsely : Prop := saveTellsRow.holds Try.pinned (OpenSpec.ofChange saveTellsWrong)

/-- 'treadwheellaw23.SaveReach': WHATEVER THE INPUT: true; the input reads as it did. -/
def saveReachSpec : ChangeSpec := { name := "saveReach", fn := fun _ => fun
  | [d1, d2, d3] => { results := [.lit (.bool true)], args := [d1, d2, d3] }
  | _ => none }
def saveReachRow : OpenClaim := { program := "ytldlolpbnfgdeaa", sum := "7a7c35b4be9476c507d0be7bff010f43f03e99a1668b6f63cad755cbe618089e", func := "treadwheel/treadwheellaw23.SaveReach", spec := "saveReach", unfollowed := true, recurses := true, plainKeys := false, apart := false }
def SaveReachSaid : Prop := saveReachRow.holds Try.pinned (OpenSpec.ofChange saveReachSpec)

/-- ITS FALSE NEIGHBOUR: 'it returns false'. Refute it at one input. -/
def saveReachWrong : ChangeSpec := { name := "saveReach", fn := fun _ => fun
  | [d1, d2, d3] => { results := [.lit (.bool false)], args := [d1, d2, d3] }
  | _ => none }
def SaveReachWrongFalsely : Prop := saveReachRow.holds Try.pinned (OpenSpec.ofChange saveReachWrong)

/-- 'treadwheellaw20.QueueNumbers': WHATEVER THE INPUT: true; the input reads as it did. -/
def queueNumbersSpec : ChangeSpec := { name := "queueNumbers", fn := fun _ => fun
  | [] => { results := [.lit (.bool true)], args := [] }
  | _ => none }
def queueNumbersRow : OpenClaim := { program := "ytldlolpbnfgdeaa", sum := "7a7c35b4be9476c507d0be7bff010f43f03e99a1668b6f63cad755cbe618089e", func := "treadwheel/treadwheellaw20.QueueNumbers", spec := "queueNumbers", unfollowed := true, recurses := true, plainKeys := false, apart := false }
def QueueNumbersSaid : Prop := queueNumbersRow.holds Try.pinned (OpenSpec.ofChange queueNumbersSpec)

/-- ITS FALSE NEIGHBOUR: 'it returns false'. Refute it at one input. -/
def queueNumbersWrong : ChangeSpec := { name := "queueNumbers", fn := fun _ => fun
  | [] => { results := [.lit (.bool false)], args := [] }
  | _ => none }
def QueueNumbersWrongFalsely : Prop := queueNumbersRow.holds Try.pinned (OpenSpec.ofChange queueNumbersWrong)

/-- 'treadwheellaw20.QueuePlays': WHATEVER THE INPUT: true; the input reads as it did. -/
def queuePlaysSpec : ChangeSpec := { name := "queuePlays", fn := fun _ => fun
  | [d] => { results := [.lit (.bool true)], args := [d] }
  | _ => none }
def queuePlaysRow : OpenClaim := { program := "ytldlolpbnfgdeaa", sum := "7a7c35b4be9476c507d0be7bff010f43f03e99a1668b6f63cad755cbe618089e", func := "treadwheel/treadwheellaw20.QueuePlays", spec := "queuePlays", unfollowed := true, recurses := true, plainKeys := false, apart := false }
def QueuePlaysSaid : Prop := queuePlaysRow.holds Try.pinned (OpenSpec.ofChange queuePlaysSpec)

/-- ITS FALSE NEIGHBOUR: 'it returns false'. Refute it at one input. -/
def queuePlaysWrong : ChangeSpec := { name := "queuePlays", fn := fun _ => fun
  | [d] => { results := [.lit (.bool false)], args := [d] }
  | _ => none }
def QueuePlaysWrongFalsely : Prop := queuePlaysRow.holds Try.pinned (OpenSpec.ofChange queuePlaysWrong)

/-- 'treadwheellaw20.QueueUrgent': WHATEVER THE INPUT: true; the input reads as it did. -/
def queueUrgentSpec : ChangeSpec := { name := "queueUrgent", fn := fun _ => fun
  | [d1, d2] => { results := [.lit (.bool true)], args := [d1, d2] }
  | _ => none }
def queueUrgentRow : OpenClaim := { program := "ytldlolpbnfgdeaa", sum := "7a7c35b4be9476c507d0be7bff010f43f03e99a1668b6f63cad755cbe618089e", func := "treadwheel/treadwheellaw20.QueueUrgent", spec := "queueUrgent", unfollowed := true, recurses := true, plainKeys := false, apart := false }
def QueueUrgentSaid : Prop := queueUrgentRow.holds Try.pinned (OpenSpec.ofChange queueUrgentSpec)

/-- ITS FALSE NEIGHBOUR: 'it returns false'. Refute it at one input. -/
def queueUrgentWrong : ChangeSpec := { name := "queueUrgent", fn := fun _ => fun
  | [d1, d2] => { results := [.lit (.bool false)], args := [d1, d2] }
  | _ => none }
def QueueUrgentWrongFalsely : Prop := queueUrgentRow.holds Try.pinned (OpenSpec.ofChange queueUrgentWrong)

/-- 'treadwheellaw20.QueueSleeps': WHATEVER THE INPUT: true; the input reads as it did. -/
def queueSleepsSpec : ChangeSpec := { name := "queueSleeps", fn := fun _ => fun
  | [d1, d2] => { results := [.lit (.bool true)], args := [d1, d2] }
  | _ => none }
def queueSleepsRow : OpenClaim := { program := "ytldlolpbnfgdeaa", sum := "7a7c35b4be9476c507d0be7bff010f43f03e99a1668b6f63cad755cbe618089e", func := "treadwheel/treadwheellaw20.QueueSleeps", spec := "queueSleeps", unfollowed := true, recurses := true, plainKeys := false, apart := false }
def QueueSleepsSaid : Prop := queueSleepsRow.holds Try.pinned (OpenSpec.ofChange queueSleepsSpec)

/-- ITS FALSE NEIGHBOUR: 'it returns false'. Refute it at one input. -/
def queueSleepsWrong : ChangeSpec := { name := "queueSleeps", fn := fun _ => fun
  | [d1, d2] => { results := [.lit (.bool false)], args := [d1, d2] }
  | _ => none }
def QueueSleepsWrongFalsely : Prop := queueSleepsRow.holds Try.pinned (OpenSpec.ofChange queueSleepsWrong)

/-- 'treadwheellaw20.QueueCounts': WHATEVER THE INPUT: true; the input reads as it did. -/
def queueCountsSpec : ChangeSpec := { name := "queueCounts", fn := fun _ => fun
  | [d1, d2] => { results := [.lit (.bool true)], args := [d1, d2] }
  | _ => none }
def queueCountsRow : OpenClaim := { program := "ytldlolpbnfgdeaa", sum := "7a7c35b4be9476c507d0be7bff010f43f03e99a1668b6f63cad755cbe618089e", func := "treadwheel/treadwheellaw20.QueueCounts", spec := "queueCounts", unfollowed := true, recurses := true, plainKeys := false, apart := false }
def QueueCountsSaid : Prop := queueCountsRow.holds Try.pinned (OpenSpec.ofChange queueCountsSpec)

/-- ITS FALSE NEIGHBOUR: 'it returns false'. Refute it at one input. -/
def queueCountsWrong : ChangeSpec := { name := "queueCounts", fn := fun _ => fun
  | [d1, d2] => { results := [.lit (.bool false)], args := [d1, d2] }
  | _ => none }
def QueueCountsWrongFalsely : Prop := queueCountsRow.holds Try.pinned (OpenSpec.ofChange queueCountsWrong)

/-- 'treadwheellaw7.TableNumbers': WHATEVER THE INPUT: true; the input reads as it did. -/
def tableNumbersSpec : ChangeSpec := { name := "tableNumbers", fn := fun _ => fun
  | [] => { results := [.lit (.bool true)], args := [] }
  | _ => none }
def tableNumbersRow : OpenClaim := { program := "ytldlolpbnfgdeaa", sum := "7a7c35b4be9476c507d0be7bff010f43f03e99a1668b6f63cad755cbe618089e", func := "treadwheel/treadwheellaw7.TableNumbers", spec := "tableNumbers", recurses := true, plainKeys := false, apart := false }
def TableNumbersSaid : Prop := tableNumbersRow.holds Try.pinned (OpenSpec.ofChange tableNumbersSpec)

/-- ITS FALSE NEIGHBOUR: 'it returns false'. Refute it at one input. -/
def tableNumbersWrong : ChangeSpec := { name := "tableNumbers", fn := fun _ => fun
  | [] => { results := [.lit (.bool false)], args := [] }
  | _ => none }
def TableNumbersWrongFalsely : Prop := tableNumbersRow.holds Try.pinned (OpenSpec.ofChange tableNumbersWrong)

/-- 'treadwheellaw7.TablePlays': WHATEVER THE INPUT: true; the input reads as it did. -/
def tablePlaysSpec : ChangeSpec := { name := "tablePlays", fn := fun _ => fun
  | [d] => { results := [.lit (.bool true)], args := [d] }
  | _ => none }
def tablePlaysRow : OpenClaim := { program := "ytldlolpbnfgdeaa", sum := "7a7c35b4be9476c507d0be7bff010f43f03e99a1668b6f63cad755cbe618089e", func := "treadwheel/treadwheellaw7.TablePlays", spec := "tablePlays", recurses := true, plainKeys := false, apart := false }
def TablePlaysSaid : Prop := tablePlaysRow.holds Try.pinned (OpenSpec.ofChange tablePlaysSpec)

/-- ITS FALSE NEIGHBOUR: 'it returns false'. Refute it at one input. -/
def tablePlaysWrong : ChangeSpec := { name := "tablePlays", fn := fun _ => fun
  | [d] => { results := [.lit (.bool false)], args := [d] }
  | _ => none }
def TablePlaysWrongFalsely : Prop := tablePlaysRow.holds Try.pinned (OpenSpec.ofChange tablePlaysWrong)

/-- 'treadwheellaw7.TableBoth': WHATEVER THE INPUT: true; the input reads as it did. -/
def tableBothSpec : ChangeSpec := { name := "tableBoth", fn := fun _ => fun
  | [d1, d2, d3] => { results := [.lit (.bool true)], args := [d1, d2, d3] }
  | _ => none }
def tableBothRow : OpenClaim := { program := "ytldlolpbnfgdeaa", sum := "7a7c35b4be9476c507d0be7bff010f43f03e99a1668b6f63cad755cbe618089e", func := "treadwheel/treadwheellaw7.TableBoth", spec := "tableBoth", recurses := true, plainKeys := false, apart := false }
def TableBothSaid : Prop := tableBothRow.holds Try.pinned (OpenSpec.ofChange tableBothSpec)

/-- ITS FALSE NEIGHBOUR: 'it returns false'. Refute it at one input. -/
def tableBothWrong : ChangeSpec := { name := "tableBoth", fn := fun _ => fun
  | [d1, d2, d3] => { results := [.lit (.bool false)], args := [d1, d2, d3] }
  | _ => none }
def TableBothWrongFalsely : Prop := tableBothRow.holds Try.pinned (OpenSpec.ofChange tableBothWrong)

/-- 'treadwheellaw7.TableLeast': WHATEVER THE INPUT: true; the input reads as it did. -/
def tableLeastSpec : ChangeSpec := { name := "tableLeast", fn := fun _ => fun
  | [d1, d2] => { results := [.lit (.bool true)], args := [d1, d2] }
  | _ => none }
def tableLeastRow : OpenClaim := { program := "ytldlolpbnfgdeaa", sum := "7a7c35b4be9476c507d0be7bff010f43f03e99a1668b6f63cad755cbe618089e", func := "treadwheel/treadwheellaw7.TableLeast", spec := "tableLeast", recurses := true, plainKeys := false, apart := false }
def TableLeastSaid : Prop := tableLeastRow.holds Try.pinned (OpenSpec.ofChange tableLeastSpec)

/-- ITS FALSE NEIGHBOUR: 'it returns false'. Refute it at one input. -/
def tableLeastWrong : ChangeSpec := { name := "tableLeast", fn := fun _ => fun
  | [d1, d2] => { results := [.lit (.bool false)], args := [d1, d2] }
  | _ => none }
def TableLeastWrongFalsely : Prop := tableLeastRow.holds Try.pinned (OpenSpec.ofChange tableLeastWrong)

/- THE SECOND FORM. 'bulk': how many values and letters a reading holds, each counted each time it is reached (what is shared counts as often as it is met; a slice's spare places count too). A statement '..UptoSaid' is the law's where the arguments, and the package variables that the reading takes, are together of bulk at most 1048576: NARROWER than '..Said'. Prove '..Said' where nothing that the law and all that it calls make is longer than what came in: it says more and counts as full. Else prove '..UptoSaid'. A law counts once. -/
mutual
def uptoBulk {H : Type} : DataW H → Nat
  | .lit (.string bytes) => bytes.length + 1
  | .lit _ => 1
  | .nil => 1
  | .ptr d => uptoBulk d + 1
  | .slice elems spare => uptoBulkAll elems + uptoBulkAll spare + 1
  | .agg parts => uptoBulkAll parts + 1
  | .iface _ d => uptoBulk d + 1
  | .map entries => uptoBulkEntries entries + 1
  | .held _ => 1
def uptoBulkAll {H : Type} : List (DataW H) → Nat
  | [] => 0
  | d :: r => uptoBulk d + uptoBulkAll r
def uptoBulkEntries {H : Type} : List (Lit × DataW H) → Nat
  | [] => 0
  | x :: r => uptoBulkEntry x + uptoBulkEntries r
def uptoBulkEntry {H : Type} : Lit × DataW H → Nat
  | (.string bytes, d) => bytes.length + uptoBulk d + 1
  | (_, d) => uptoBulk d + 1
 end
def uptoSmall : (H : Type) → List (DataW H) → Bool := fun _ ds => decide (uptoBulkAll ds ≤ 1048576)
def OpenSpec.upto (s : _root_.Go.ChangeSpec) : _root_.Go.OpenSpec := { _root_.Go.OpenSpec.ofChange s with cond := some uptoSmall }

/-- 'treadwheellaw23.SaveNumbers', WHERE WHAT IT READS IS OF BULK AT MOST 1048576: true; the input reads as it did. -/
def saveNumbersUptoRow : OpenClaim := { program := "ytldlolpbnfgdeaa", sum := "7a7c35b4be9476c507d0be7bff010f43f03e99a1668b6f63cad755cbe618089e", func := "treadwheel/treadwheellaw23.SaveNumbers", spec := "saveNumbers", unfollowed := true, recurses := true, plainKeys := false, apart := false, narrowed := true }
def SaveNumbersUptoSaid : Prop := saveNumbersUptoRow.holds Try.pinned (OpenSpec.upto saveNumbersSpec)

/-- 'treadwheellaw23.SaveTells', WHERE WHAT IT READS IS OF BULK AT MOST 1048576: true; the input reads as it did. -/
def saveTellsUptoRow : OpenClaim := { program := "ytldlolpbnfgdeaa", sum := "7a7c35b4be9476c507d0be7bff010f43f03e99a1668b6f63cad755cbe618089e", func := "treadwheel/treadwheellaw23.SaveTells", spec := "saveTells", unfollowed := true, recurses := true, plainKeys := false, apart := false, narrowed := true }
def SaveTellsUptoSaid : Prop := saveTellsUptoRow.holds Try.pinned (OpenSpec.upto saveTellsSpec)

/-- 'treadwheellaw23.SaveReach', WHERE WHAT IT READS IS OF BULK AT MOST 1048576: true; the input reads as it did. -/
def saveReachUptoRow : OpenClaim := { program := "ytldlolpbnfgdeaa", sum := "7a7c35b4be9476c507d0be7bff010f43f03e99a1668b6f63cad755cbe618089e", func := "treadwheel/treadwheellaw23.SaveReach", spec := "saveReach", unfollowed := true, recurses := true, plainKeys := false, apart := false, narrowed := true }
def SaveReachUptoSaid : Prop := saveReachUptoRow.holds Try.pinned (OpenSpec.upto saveReachSpec)

/-- 'treadwheellaw20.QueueNumbers', WHERE WHAT IT READS IS OF BULK AT MOST 1048576: true; the input reads as it did. -/
def queueNumbersUptoRow : OpenClaim := { program := "ytldlolpbnfgdeaa", sum := "7a7c35b4be9476c507d0be7bff010f43f03e99a1668b6f63cad755cbe618089e", func := "treadwheel/treadwheellaw20.QueueNumbers", spec := "queueNumbers", unfollowed := true, recurses := true, plainKeys := false, apart := false, narrowed := true }
def QueueNumbersUptoSaid : Prop := queueNumbersUptoRow.holds Try.pinned (OpenSpec.upto queueNumbersSpec)

/-- 'treadwheellaw20.QueuePlays', WHERE WHAT IT READS IS OF BULK AT MOST 1048576: true; the input reads as it did. -/
def queuePlaysUptoRow : OpenClaim := { program := "ytldlolpbnfgdeaa", sum := "7a7c35b4be9476c507d0be7bff010f43f03e99a1668b6f63cad755cbe618089e", func := "treadwheel/treadwheellaw20.QueuePlays", spec := "queuePlays", unfollowed := true, recurses := true, plainKeys := false, apart := false, narrowed := true }
def QueuePlaysUptoSaid : Prop := queuePlaysUptoRow.holds Try.pinned (OpenSpec.upto queuePlaysSpec)

/-- 'treadwheellaw20.QueueUrgent', WHERE WHAT IT READS IS OF BULK AT MOST 1048576: true; the input reads as it did. -/
def queueUrgentUptoRow : OpenClaim := { program := "ytldlolpbnfgdeaa", sum := "7a7c35b4be9476c507d0be7bff010f43f03e99a1668b6f63cad755cbe618089e", func := "treadwheel/treadwheellaw20.QueueUrgent", spec := "queueUrgent", unfollowed := true, recurses := true, plainKeys := false, apart := false, narrowed := true }
def QueueUrgentUptoSaid : Prop := queueUrgentUptoRow.holds Try.pinned (OpenSpec.upto queueUrgentSpec)

/-- 'treadwheellaw20.QueueSleeps', WHERE WHAT IT READS IS OF BULK AT MOST 1048576: true; the input reads as it did. -/
def queueSleepsUptoRow : OpenClaim := { program := "ytldlolpbnfgdeaa", sum := "7a7c35b4be9476c507d0be7bff010f43f03e99a1668b6f63cad755cbe618089e", func := "treadwheel/treadwheellaw20.QueueSleeps", spec := "queueSleeps", unfollowed := true, recurses := true, plainKeys := false, apart := false, narrowed := true }
def QueueSleepsUptoSaid : Prop := queueSleepsUptoRow.holds Try.pinned (OpenSpec.upto queueSleepsSpec)

/-- 'treadwheellaw20.QueueCounts', WHERE WHAT IT READS IS OF BULK AT MOST 1048576: true; the input reads as it did. -/
def queueCountsUptoRow : OpenClaim := { program := "ytldlolpbnfgdeaa", sum := "7a7c35b4be9476c507d0be7bff010f43f03e99a1668b6f63cad755cbe618089e", func := "treadwheel/treadwheellaw20.QueueCounts", spec := "queueCounts", unfollowed := true, recurses := true, plainKeys := false, apart := false, narrowed := true }
def QueueCountsUptoSaid : Prop := queueCountsUptoRow.holds Try.pinned (OpenSpec.upto queueCountsSpec)

/-- 'treadwheellaw7.TableNumbers', WHERE WHAT IT READS IS OF BULK AT MOST 1048576: true; the input reads as it did. -/
def tableNumbersUptoRow : OpenClaim := { program := "ytldlolpbnfgdeaa", sum := "7a7c35b4be9476c507d0be7bff010f43f03e99a1668b6f63cad755cbe618089e", func := "treadwheel/treadwheellaw7.TableNumbers", spec := "tableNumbers", recurses := true, plainKeys := false, apart := false, narrowed := true }
def TableNumbersUptoSaid : Prop := tableNumbersUptoRow.holds Try.pinned (OpenSpec.upto tableNumbersSpec)

/-- 'treadwheellaw7.TablePlays', WHERE WHAT IT READS IS OF BULK AT MOST 1048576: true; the input reads as it did. -/
def tablePlaysUptoRow : OpenClaim := { program := "ytldlolpbnfgdeaa", sum := "7a7c35b4be9476c507d0be7bff010f43f03e99a1668b6f63cad755cbe618089e", func := "treadwheel/treadwheellaw7.TablePlays", spec := "tablePlays", recurses := true, plainKeys := false, apart := false, narrowed := true }
def TablePlaysUptoSaid : Prop := tablePlaysUptoRow.holds Try.pinned (OpenSpec.upto tablePlaysSpec)

/-- 'treadwheellaw7.TableBoth', WHERE WHAT IT READS IS OF BULK AT MOST 1048576: true; the input reads as it did. -/
def tableBothUptoRow : OpenClaim := { program := "ytldlolpbnfgdeaa", sum := "7a7c35b4be9476c507d0be7bff010f43f03e99a1668b6f63cad755cbe618089e", func := "treadwheel/treadwheellaw7.TableBoth", spec := "tableBoth", recurses := true, plainKeys := false, apart := false, narrowed := true }
def TableBothUptoSaid : Prop := tableBothUptoRow.holds Try.pinned (OpenSpec.upto tableBothSpec)

/-- 'treadwheellaw7.TableLeast', WHERE WHAT IT READS IS OF BULK AT MOST 1048576: true; the input reads as it did. -/
def tableLeastUptoRow : OpenClaim := { program := "ytldlolpbnfgdeaa", sum := "7a7c35b4be9476c507d0be7bff010f43f03e99a1668b6f63cad755cbe618089e", func := "treadwheel/treadwheellaw7.TableLeast", spec := "tableLeast", recurses := true, plainKeys := false, apart := false, narrowed := true }
def TableLeastUptoSaid : Prop := tableLeastUptoRow.holds Try.pinned (OpenSpec.upto tableLeastSpec)

end Rows
end Go.Proofs.Ytldlolpbnfgdeaa

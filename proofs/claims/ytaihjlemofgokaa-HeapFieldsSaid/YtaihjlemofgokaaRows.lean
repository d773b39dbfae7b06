/-
  No cell of these rows narrows 'for every input' (looked for: loops, veiled, ifaces, maps, wideKeys, modest, calm, conditions, laid).
  DERIVED. THE GIVEN ROWS OF THIS SEAT. 4 by the template 'for every input the law returns true; each argument reads behind the call as it read before'; 0 by the template 'total and deterministic' (their statements: YtaihjlemofgokaaTotals.lean).
  GIVEN WITH THE SEED: the statements are not yours to turn. If you find one false, say at which input.
  Laid BY PROGRAM, IN A SANDBOX (cutbox-rows.mjs): the forced cells as the released guide's own fill.sh prints them over the translation f6416a2df2ac0f84… (all of the seat's roots in one cut). By AI agents, Wed Nov 11 2026. No macro, syntax, notation, axiom, sorry.
-/
import Derived.Test.YtaihjlemofgokaaChecked
import GoSem.Claim
import GoSem.ClaimJoined
import GoSem.ClaimMapViews
import Derived.JoinedTies
import Derived.KernelRfl
namespace Go.Proofs.Ytaihjlemofgokaa
/- THE CELL 'sum', in the pinned program and in every row, IS THE sha256 OF THE DUMP (.gsa) THAT YtaihjlemofgokaaProg.lean LOADS. Nothing in Lean hashes anything: it is a label: what it is worth is what the hold of that sum in a sandbox is worth. -/
noncomputable def Try.pinned : Pinned := { name := "ytaihjlemofgokaa", sum := "f6416a2df2ac0f846a82883135ef11823d5da8dfcba851517203b775a620245f", checked := Try.checked }
namespace Rows
def none {H : Type} : Left H := { results := [], args := [] }

/-- 'treadwheellaw25.CheckOrder': WHATEVER THE INPUT: true; the input reads as it did. -/
def checkOrderSpec : ChangeSpec := { name := "checkOrder", fn := fun _ => fun
  | [d1, d2, d3] => { results := [.lit (.bool true)], args := [d1, d2, d3] }
  | _ => none }
def checkOrderRow : OpenClaim := { program := "ytaihjlemofgokaa", sum := "f6416a2df2ac0f846a82883135ef11823d5da8dfcba851517203b775a620245f", func := "treadwheel/treadwheellaw25.CheckOrder", spec := "checkOrder", unfollowed := true, recurses := true, plainKeys := false, apart := false }
def CheckOrderSaid : Prop := checkOrderRow.holds Try.pinned (OpenSpec.ofChange checkOrderSpec)

/-- ITS FALSE NEIGHBOUR: 'it returns false'. Refute it at one input. -/
def checkOrderWrong : ChangeSpec := { name := "checkOrder", fn := fun _ => fun
  | [d1, d2, d3] => { results := [.lit (.bool false)], args := [d1, d2, d3] }
  | _ => none }
def CheckOrderWrongFalsely : Prop := checkOrderRow.holds Try.pinned (OpenSpec.ofChange checkOrderWrong)

/-- 'treadwheellaw9.HeapForgets': WHATEVER THE INPUT: true; the input reads as it did. -/
def heapForgetsSpec : ChangeSpec := { name := "heapForgets", fn := fun _ => fun
  | [d1, d2] => { results := [.lit (.bool true)], args := [d1, d2] }
  | _ => none }
def heapForgetsRow : OpenClaim := { program := "ytaihjlemofgokaa", sum := "f6416a2df2ac0f846a82883135ef11823d5da8dfcba851517203b775a620245f", func := "treadwheel/treadwheellaw9.HeapForgets", spec := "heapForgets", recurses := true, plainKeys := false, apart := false }
def HeapForgetsSaid : Prop := heapForgetsRow.holds Try.pinned (OpenSpec.ofChange heapForgetsSpec)

/-- ITS FALSE NEIGHBOUR: 'it returns false'. Refute it at one input. -/
def heapForgetsWrong : ChangeSpec := { name := "heapForgets", fn := fun _ => fun
  | [d1, d2] => { results := [.lit (.bool false)], args := [d1, d2] }
  | _ => none }
def HeapForgetsWrongFalsely : Prop := heapForgetsRow.holds Try.pinned (OpenSpec.ofChange heapForgetsWrong)

/-- 'treadwheellaw9.HeapFields': WHATEVER THE INPUT: true; the input reads as it did. -/
def heapFieldsSpec : ChangeSpec := { name := "heapFields", fn := fun _ => fun
  | [d] => { results := [.lit (.bool true)], args := [d] }
  | _ => none }
def heapFieldsRow : OpenClaim := { program := "ytaihjlemofgokaa", sum := "f6416a2df2ac0f846a82883135ef11823d5da8dfcba851517203b775a620245f", func := "treadwheel/treadwheellaw9.HeapFields", spec := "heapFields", recurses := true, plainKeys := false, apart := false }
def HeapFieldsSaid : Prop := heapFieldsRow.holds Try.pinned (OpenSpec.ofChange heapFieldsSpec)

/-- ITS FALSE NEIGHBOUR: 'it returns false'. Refute it at one input. -/
def heapFieldsWrong : ChangeSpec := { name := "heapFields", fn := fun _ => fun
  | [d] => { results := [.lit (.bool false)], args := [d] }
  | _ => none }
def HeapFieldsWrongFalsely : Prop := heapFieldsRow.holds Try.pinned (OpenSpec.ofChange heapFieldsWrong)

/-- 'treadwheellaw9.HeapSwaps': WHATEVER THE INPUT: true; the input reads as it did. -/
def heapSwapsSpec : ChangeSpec := { name := "heapSwaps", fn := fun _ => fun
  | [d1, d2, d3, d4] => { results := [.lit (.bool true)], args := [d1, d2, d3, d4] }
  | _ => none }
def heapSwapsRow : OpenClaim := { program := "ytaihjlemofgokaa", sum := "f6416a2df2ac0f846a82883135ef11823d5da8dfcba851517203b775a620245f", func := "treadwheel/treadwheellaw9.HeapSwaps", spec := "heapSwaps", recurses := true, plainKeys := false, apart := false }
def HeapSwapsSaid : Prop := heapSwapsRow.holds Try.pinned (OpenSpec.ofChange heapSwapsSpec)

/-- ITS FALSE NEIGHBOUR: 'it returns false'. Refute it at one input. -/
def heapSwapsWrong : ChangeSpec := { name := "heapSwaps", fn := fun _ => fun
  | [d1, d2, d3, d4] => { results := [.lit (.bool false)], args := [d1, d2, d3, d4] }
  | _ => none }
def HeapSwapsWrongFalsely : Prop := heapSwapsRow.holds Try.pinned (OpenSpec.ofChange heapSwapsWrong)

/- THE SECOND FORM. 'bulk': how many values and letters a reading holds, each counted each time it is reached (what is shared counts as often as it is met; a slice's spare places count too). A statement '..UptoSaid' is the law's where the arguments, and the package variables that the reading takes, are together of bulk at most 1048576: NARROWER than '..Said'. Prove '..Said' where nothing that the law and all that it calls make is longer than what came in: it says more and counts as full. Else prove '..UptoSaid'. A law counts once. -/
mutual
def uptoBulk {H : Type} : DataW H → Nat
  | .lit (.string bytes) => bytes.length + 1
  | .lit _ => 1
  | .nil => 1
  | .ptr d => uptoBulk d + 1
  | .slice elems spare => uptoBulkAll elems + uptoBulkAll spare + 1
  | .agg parts => uptoBulkAll parts + 1
  | .iface _ d => uptoBulk d + 1
  | .map entries => uptoBulkEntries entries + 1
  | .held _ => 1
def uptoBulkAll {H : Type} : List (DataW H) → Nat
  | [] => 0
  | d :: r => uptoBulk d + uptoBulkAll r
def uptoBulkEntries {H : Type} : List (Lit × DataW H) → Nat
  | [] => 0
  | x :: r => uptoBulkEntry x + uptoBulkEntries r
def uptoBulkEntry {H : Type} : Lit × DataW H → Nat
  | (.string bytes, d) => bytes.length + uptoBulk d + 1
  | (_, d) => uptoBulk d + 1
 end
def uptoSmall : (H : Type) → List (DataW H) → Bool := fun _ ds => decide (uptoBulkAll ds ≤ 1048576)
def OpenSpec.upto (s : _root_.Go.ChangeSpec) : _root_.Go.OpenSpec := { _root_.Go.OpenSpec.ofChange s with cond := some uptoSmall }

/-- 'treadwheellaw25.CheckOrder', WHERE WHAT IT READS IS OF BULK AT MOST 1048576: true; the input reads as it did. -/
def checkOrderUptoRow : OpenClaim := { program := "ytaihjlemofgokaa", sum := "f6416a2df2ac0f846a82883135ef11823d5da8dfcba851517203b775a620245f", func := "treadwheel/treadwheellaw25.CheckOrder", spec := "checkOrder", unfollowed := true, recurses := true, plainKeys := false, apart := false, narrowed := true }
def CheckOrderUptoSaid : Prop := checkOrderUptoRow.holds Try.pinned (OpenSpec.upto checkOrderSpec)

/-- 'treadwheellaw9.HeapForgets', WHERE WHAT IT READS IS OF BULK AT MOST 1048576: true; the input reads as it did. -/
def heapForgetsUptoRow : OpenClaim := { program := "ytaihjlemofgokaa", sum := "f6416a2df2ac0f846a82883135ef11823d5da8dfcba851517203b775a620245f", func := "treadwheel/treadwheellaw9.HeapForgets", spec := "heapForgets", recurses := true, plainKeys := false, apart := false, narrowed := true }
def HeapForgetsUptoSaid : Prop := heapForgetsUptoRow.holds Try.pinned (OpenSpec.upto heapForgetsSpec)

/-- 'treadwheellaw9.HeapFields', WHERE WHAT IT READS IS OF BULK AT MOST 1048576: true; the input reads as it did. -/
def heapFieldsUptoRow : OpenClaim := { program := "ytaihjlemofgokaa", sum := "f6416a2df2ac0f846a82883135ef11823d5da8dfcba851517203b775a620245f", func := "treadwheel/treadwheellaw9.HeapFields", spec := "heapFields", recurses := true, plainKeys := false, apart := false, narrowed := true }
def HeapFieldsUptoSaid : Prop := heapFieldsUptoRow.holds Try.pinned (OpenSpec.upto heapFieldsSpec)

/-- 'treadwheellaw9.HeapSwaps', WHERE WHAT IT READS IS OF BULK AT MOST 1048576: true; the input reads as it did. -/
def heapSwapsUptoRow : OpenClaim := { program := "ytaihjlemofgokaa", sum := "f6416a2df2ac0f846a82883135ef11823d5da8dfcba851517203b775a620245f", func := "treadwheel/treadwheellaw9.HeapSwaps", spec := "heapSwaps", recurses := true, plainKeys := false, apart := false, narrowed := true }
def HeapSwapsUptoSaid : Prop := heapSwapsUptoRow.holds Try.pinned (OpenSpec.upto heapSwapsSpec)

end Rows
end Go.Proofs.Ytaihjlemofgokaa

/- save.pair as a key. -/
import Derived.Test.YtldlolpbnfgdeaaKKeys
import Derived.Test.YtldlolpbnfgdeaaProg
namespace Go.Proofs.Ytldlolpbnfgdeaa
open Go Go.RowKit
theorem key_pair : KeyT Try.prog 145 pairv := by
  refine keyAgg Try.underlying145 (fun k => ⟨_, rfl⟩) ?_ ?_ ?_
  · intro a b w
    obtain ⟨a1, a2⟩ := a
    obtain ⟨b1, b2⟩ := b
    unfold pairv
    simp [go_sem, Op.equal, Op.maxDepth]
    by_cases h1 : a1 = b1 <;> by_cases h2 : a2 = b2 <;> simp [h1, h2]
  · intro b k w
    unfold pairv
    show (Instr.checkKey b (9999 + 1) _ _).run _ w = _
    have hi := fun x w => chk_int (P := Try.prog) Try.underlying3 b 9998 x w
    unfold Instr.checkKey
    simp [go_sem, hi]
  · intro k
    simp [pairv, Instr.sameBits]
end Go.Proofs.Ytldlolpbnfgdeaa

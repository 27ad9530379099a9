/-
  A part of the road: an evaluator over abstract memory with a proved simulation, and what is reckoned by it. Written by an AI agent; no person has read it.
-/
import Derived.Test.YtebjajchdidnfaaGreatDoorLcA
set_option linter.all false
namespace Go.Proofs.YtebjajchdidnfaaGreatDoor
open Go Go.Fold
theorem head_true : isTrue (ev Tryz.prog hk 3000 (.call 6 [] A0)) = true := by kernel_rfl
theorem new_ok : newOk R11 = true := by kernel_rfl
end Go.Proofs.YtebjajchdidnfaaGreatDoor

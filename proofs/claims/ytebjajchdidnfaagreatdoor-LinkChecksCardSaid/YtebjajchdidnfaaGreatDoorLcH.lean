/-
  A part of the road: an evaluator over abstract memory with a proved simulation, and what is reckoned by it. Written by an AI agent; no person has read it.
-/
import Derived.Test.YtebjajchdidnfaaGreatDoorLcI
set_option linter.all false
set_option linter.all false
set_option maxRecDepth 100000

namespace Go.Proofs.YtebjajchdidnfaaGreatDoor
open Go Go.Fold Go.ChangeShapes Go.WideShapes Go.ChangeAt Go.WideMaps Go.WideElems Go.RowKit

set_option maxHeartbeats 0 in
theorem hm3 : Tryz.pinned.checked.prog.mainIs = some (true, "e27e367f5e728aa9f204d84431224f6b3a0ed44ac03d01ad7f3ee58a3fc26dd3".toList) := by kernel_rfl
set_option maxHeartbeats 0 in
theorem hf3 : Tryz.prog.funcNamed "woodcut/woodcutlaw18.LinkChecks" = some 3 := by kernel_rfl
set_option maxHeartbeats 0 in
theorem hk3 : false = Tryz.pinned.checked.prog.looks [] := by kernel_rfl
set_option maxHeartbeats 0 in
theorem hp3 : (([22, 23, 23] : List TypeId).all fun u => !Tryz.prog.wantsStandIn u) = true := by kernel_rfl
set_option maxHeartbeats 0 in
theorem hg3 : false = Rows.linkChecksRow.goesBy Tryz.pinned.checked.prog := by kernel_rfl
set_option maxHeartbeats 0 in
theorem hw3 : Rows.linkChecksRow.wfByText (OpenSpec.ofChange Rows.linkChecksSpec) = true := by kernel_rfl

end Go.Proofs.YtebjajchdidnfaaGreatDoor

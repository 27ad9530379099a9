/-
  A part of the road: an evaluator over abstract memory with a proved simulation, and what is reckoned by it. Written by an AI agent; no person has read it.
-/
import Derived.Test.YtebjajchdidnfaaGreatDoorLcI
set_option linter.all false
set_option linter.all false
set_option maxRecDepth 100000

namespace Go.Proofs.YtebjajchdidnfaaGreatDoor
open Go Go.Fold Go.ChangeShapes Go.WideShapes Go.ChangeAt Go.WideMaps Go.WideElems Go.RowKit

theorem and_mk {a b : Bool} (h : a = true) (k : b = true) : (a && b) = true := by rw [h, k]; rfl

set_option maxHeartbeats 0 in
theorem closed3 : joinedFacts Tryz.pinned.checked.prog 3 Tryz.f3 Rows.linkChecksSpec Rows.linkChecksRow = true := by
  unfold joinedFacts
  repeat' (with_reducible refine and_mk ?_ ?_)
  all_goals decide +kernel

set_option maxHeartbeats 0 in
theorem linkChecks_said : Rows.LinkChecksSaid :=
  OpenClaim.holds_of_wide 3 Tryz.f3 rfl rfl rfl rfl rfl rfl rfl ⟨rfl, rfl, rfl, rfl, rfl⟩ rfl rfl rfl rfl rfl (by decide +kernel) Tryz.func3 closed3
    (of_decide_eq_true (by decide +kernel)) (by unfold Func.isWrapper; first | (rw [if_pos (by decide +kernel)]; kernel_rfl) | (rw [if_neg (by decide +kernel)]; exact ⟨rfl, rfl⟩))
    (fun os started H enc _ => lifted_law os started H enc)

end Go.Proofs.YtebjajchdidnfaaGreatDoor

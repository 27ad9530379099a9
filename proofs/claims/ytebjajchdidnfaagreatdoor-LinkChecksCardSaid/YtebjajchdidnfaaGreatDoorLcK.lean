/-
  LinkChecks: whatever goals, files and places: the law returns true and its arguments read as they did. Condition: the package-level variables that the row lists hold what the program's text lays (the card ties them); no other. Written by an AI agent; no person has read it.
-/
import Derived.Test.YtebjajchdidnfaaGreatDoorLcJ
import Derived.Test.YtebjajchdidnfaaGreatDoorLcH
set_option linter.all false
set_option linter.all false
set_option maxRecDepth 100000

namespace Go.Proofs.YtebjajchdidnfaaGreatDoor
open Go Go.Fold Go.ChangeShapes Go.WideShapes Go.ChangeAt Go.WideMaps Go.WideElems Go.RowKit

set_option maxHeartbeats 0 in
theorem linkChecks_holds : Rows.LinkChecksCardSaid :=
  Claim7.holds_tied_plain_at .later [] [.data, .data, .widerDeep, .widerDeep, .widerDeep, .widerDeep, .widerDeep, .widerDeep, .widerDeep, .data, .widerDeep, .widerDeep, .widerDeep, .pinned] true (true, "e27e367f5e728aa9f204d84431224f6b3a0ed44ac03d01ad7f3ee58a3fc26dd3") false
    linkChecks_said (fun _ h => by cases h) hw3 (fun _ h => by cases h) linkChecks_row_tie rfl ⟨rfl, rfl⟩ hm3 rfl
    (fun f fn hf hfn => by
      obtain rfl : f = 3 := Option.some.inj (hf3.symm.trans hf) |>.symm
      obtain rfl : fn = Tryz.f3 := (Option.some.inj (Tryz.func3.symm.trans hfn)).symm
      exact ⟨hk3, fun j t ht => by
        have hm : t ∈ ([22, 23, 23] : List TypeId) := by
          rw [← params3]; exact Array.mem_toList_iff.2 (Array.mem_of_getElem? ht)
        exact (show Tryz.prog.wantsStandIn t = false by simpa using List.all_eq_true.1 hp3 t hm)⟩)
    hg3
end Go.Proofs.YtebjajchdidnfaaGreatDoor

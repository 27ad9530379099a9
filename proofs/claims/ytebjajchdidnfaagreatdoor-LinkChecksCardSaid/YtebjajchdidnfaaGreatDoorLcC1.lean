/-
  A part of the road: an evaluator over abstract memory with a proved simulation, and what is reckoned by it. Written by an AI agent; no person has read it.
-/
import Derived.Test.YtebjajchdidnfaaGreatDoorLcA
import Derived.Test.YtebjajchdidnfaaGreatDoorFoldCache
set_option linter.all false
namespace Go.Proofs.YtebjajchdidnfaaGreatDoor
open Go Go.Fold
/-! ### What is read of no bytes, and of the empty page -/
def ent0 : Entry := { s := [], v := .tup [.ptr (some (27, 0)), .int .i64 (0)], grow := 46, bl := [
  (70, [.int .i64 (2), .int .i64 (3)], 3, false),
  (46, [.int .i64 (1)], 3, false),
  (67, [.int .i64 (1), .int .i64 (0), .str [], .str [], .slice none 0 (some 0), .str [], .str [], .int .i64 (-1), .slice (some (46, 0)) 1 (none), .int .i64 (-1), .int .i64 (2), .int .i64 (0), .str [104, 116, 109, 108], .str [], .slice none 0 (some 0), .str [], .str [], .int .i64 (0), .slice (some (70, 0)) 2 (none), .int .i64 (-1), .int .i64 (2), .int .i64 (0), .str [104, 101, 97, 100], .str [], .slice none 0 (some 0), .str [], .str [], .int .i64 (1), .slice none 0 (some 0), .int .i64 (-1), .int .i64 (2), .int .i64 (0), .str [98, 111, 100, 121], .str [], .slice none 0 (some 0), .str [], .str [], .int .i64 (1), .slice none 0 (some 0), .int .i64 (-1)], 70, false),
  (27, [.slice (some (67, 0)) 4 (none), .bool true], 62, false)] }
def ent1 : Entry := { s := [60, 104, 116, 109, 108, 62, 60, 104, 101, 97, 100, 62, 60, 47, 104, 101, 97, 100, 62, 60, 98, 111, 100, 121, 62, 60, 47, 98, 111, 100, 121, 62, 60, 47, 104, 116, 109, 108, 62], v := .tup [.ptr (some (28, 0)), .int .i64 (0)], grow := 317, bl := [
  (279, [.int .i64 (2), .int .i64 (3)], 3, false),
  (156, [.int .i64 (1)], 3, false),
  (276, [.int .i64 (1), .int .i64 (0), .str [], .str [], .slice none 0 (some 0), .str [], .str [], .int .i64 (-1), .slice (some (156, 0)) 1 (none), .int .i64 (-1), .int .i64 (2), .int .i64 (0), .str [104, 116, 109, 108], .str [], .slice none 0 (some 0), .str [], .str [], .int .i64 (0), .slice (some (279, 0)) 2 (none), .int .i64 (-1), .int .i64 (2), .int .i64 (0), .str [104, 101, 97, 100], .str [], .slice none 0 (some 0), .str [], .str [], .int .i64 (1), .slice none 0 (some 0), .int .i64 (-1), .int .i64 (2), .int .i64 (0), .str [98, 111, 100, 121], .str [], .slice none 0 (some 0), .str [], .str [], .int .i64 (1), .slice none 0 (some 0), .int .i64 (-1)], 70, false),
  (28, [.slice (some (276, 0)) 4 (none), .bool true], 62, false)] }


theorem ent0_ok : entNilOk A0 ent0 (ev Tryz.prog hk 3000 (.call 33 [.slice none 0 (some 0)] A0)) = true := by kernel_rfl
theorem ent1_ok : entOk (inA A0 5 ent1.s) A0.next ent1 (ev Tryz.prog hk 3000 (.call 33 [.slice (some (A0.next, 0)) ent1.s.length none] (inA A0 5 ent1.s))) = true := by kernel_rfl
end Go.Proofs.YtebjajchdidnfaaGreatDoor

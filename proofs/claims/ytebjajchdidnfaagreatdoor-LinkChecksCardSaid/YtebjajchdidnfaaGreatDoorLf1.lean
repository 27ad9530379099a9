/-
  A part of the road: an evaluator over abstract memory with a proved simulation, and what is reckoned by it. Written by an AI agent; no person has read it.
-/
import Derived.Test.YtebjajchdidnfaaGreatDoorLf0
import Derived.Test.YtebjajchdidnfaaGreatDoorFoldRow
set_option linter.all false
namespace Go.Proofs.YtebjajchdidnfaaGreatDoor
open Go Go.Fold

theorem g3 : Fold.isAgg Tryz.prog 3 = some false := by kernel_rfl
theorem c3 : Tryz.prog.cellsOf 3 = 1 := by kernel_rfl
theorem o3 : zeroA Tryz.prog 3 = some [.int .i64 0] := by kernel_rfl
theorem g4 : Fold.isAgg Tryz.prog 4 = some false := by kernel_rfl
theorem c4 : Tryz.prog.cellsOf 4 = 1 := by kernel_rfl
theorem o4 : zeroA Tryz.prog 4 = some [.bool false] := by kernel_rfl
theorem g9 : Fold.isAgg Tryz.prog 9 = some false := by kernel_rfl
theorem c9 : Tryz.prog.cellsOf 9 = 1 := by kernel_rfl
theorem o9 : zeroA Tryz.prog 9 = some [.str []] := by kernel_rfl
theorem z22 : sizeA Tryz.prog 22 = some 1 := by kernel_rfl
theorem g22 : Fold.isAgg Tryz.prog 22 = some false := by kernel_rfl
theorem c22 : Tryz.prog.cellsOf 22 = 1 := by kernel_rfl
theorem o22 : zeroA Tryz.prog 22 = some [.slice none 0 (some 0)] := by kernel_rfl
theorem g23 : Fold.isAgg Tryz.prog 23 = some false := by kernel_rfl
theorem c23 : Tryz.prog.cellsOf 23 = 1 := by kernel_rfl
theorem o23 : zeroA Tryz.prog 23 = some [.slice none 0 (some 0)] := by kernel_rfl
theorem z25 : sizeA Tryz.prog 25 = some 1 := by kernel_rfl
theorem g25 : Fold.isAgg Tryz.prog 25 = some false := by kernel_rfl
theorem c25 : Tryz.prog.cellsOf 25 = 1 := by kernel_rfl
theorem o25 : zeroA Tryz.prog 25 = some [.nilFn] := by kernel_rfl
theorem z26 : sizeA Tryz.prog 26 = some 1 := by kernel_rfl
theorem g26 : Fold.isAgg Tryz.prog 26 = some false := by kernel_rfl
theorem c26 : Tryz.prog.cellsOf 26 = 1 := by kernel_rfl
theorem o26 : zeroA Tryz.prog 26 = some [.ptr none] := by kernel_rfl
theorem g27 : Fold.isAgg Tryz.prog 27 = some false := by kernel_rfl
theorem c27 : Tryz.prog.cellsOf 27 = 1 := by kernel_rfl
theorem o27 : zeroA Tryz.prog 27 = some [.slice none 0 (some 0)] := by kernel_rfl
theorem z29 : sizeA Tryz.prog 29 = some 2 := by kernel_rfl
theorem g29 : Fold.isAgg Tryz.prog 29 = some true := by kernel_rfl
theorem c29 : Tryz.prog.cellsOf 29 = 2 := by kernel_rfl
theorem o29 : zeroA Tryz.prog 29 = some [.slice none 0 (some 0), .slice none 0 (some 0)] := by kernel_rfl
theorem f29_0 : fieldOf Tryz.prog 29 0 = some (0, 23, 1) := by kernel_rfl -- keys
theorem f29_1 : fieldOf Tryz.prog 29 1 = some (1, 27, 1) := by kernel_rfl -- vals
theorem z31 : sizeA Tryz.prog 31 = some 1 := by kernel_rfl
theorem g31 : Fold.isAgg Tryz.prog 31 = some false := by kernel_rfl
theorem c31 : Tryz.prog.cellsOf 31 = 1 := by kernel_rfl
theorem o31 : zeroA Tryz.prog 31 = some [.nilFn] := by kernel_rfl
theorem z32 : sizeA Tryz.prog 32 = some 1 := by kernel_rfl
theorem g32 : Fold.isAgg Tryz.prog 32 = some false := by kernel_rfl
theorem c32 : Tryz.prog.cellsOf 32 = 1 := by kernel_rfl
theorem o32 : zeroA Tryz.prog 32 = some [.int .i64 0] := by kernel_rfl
theorem g34 : Fold.isAgg Tryz.prog 34 = some true := by kernel_rfl
theorem c34 : Tryz.prog.cellsOf 34 = 2 := by kernel_rfl
theorem o34 : zeroA Tryz.prog 34 = some [.str [], .str []] := by kernel_rfl
theorem f34_0 : fieldOf Tryz.prog 34 0 = some (0, 9, 1) := by kernel_rfl -- File
theorem f34_1 : fieldOf Tryz.prog 34 1 = some (1, 9, 1) := by kernel_rfl -- Place
theorem z35 : sizeA Tryz.prog 35 = some 1 := by kernel_rfl
theorem g35 : Fold.isAgg Tryz.prog 35 = some false := by kernel_rfl
theorem c35 : Tryz.prog.cellsOf 35 = 1 := by kernel_rfl
theorem o35 : zeroA Tryz.prog 35 = some [.slice none 0 (some 0)] := by kernel_rfl
theorem z37 : sizeA Tryz.prog 37 = some 3 := by kernel_rfl
theorem g37 : Fold.isAgg Tryz.prog 37 = some true := by kernel_rfl
theorem c37 : Tryz.prog.cellsOf 37 = 3 := by kernel_rfl
theorem o37 : zeroA Tryz.prog 37 = some [.slice none 0 (some 0), .slice none 0 (some 0), .ptr none] := by kernel_rfl
theorem f37_0 : fieldOf Tryz.prog 37 0 = some (0, 35, 1) := by kernel_rfl -- Out
theorem f37_1 : fieldOf Tryz.prog 37 1 = some (1, 22, 1) := by kernel_rfl -- Goals
theorem f37_2 : fieldOf Tryz.prog 37 2 = some (2, 26, 1) := by kernel_rfl -- Anchors
theorem z40 : sizeA Tryz.prog 40 = some 1 := by kernel_rfl
theorem g40 : Fold.isAgg Tryz.prog 40 = some false := by kernel_rfl
theorem c40 : Tryz.prog.cellsOf 40 = 1 := by kernel_rfl
theorem o40 : zeroA Tryz.prog 40 = some [.ptr none] := by kernel_rfl
theorem z43 : sizeA Tryz.prog 43 = some 1 := by kernel_rfl
theorem g43 : Fold.isAgg Tryz.prog 43 = some false := by kernel_rfl
theorem c43 : Tryz.prog.cellsOf 43 = 1 := by kernel_rfl
theorem o43 : zeroA Tryz.prog 43 = some [.nilFn] := by kernel_rfl

attribute [simp] z3 g3 c3 o3 z4 g4 c4 o4 z9 g9 c9 o9 z22 g22 c22 o22 z23 g23 c23 o23 z25 g25 c25 o25 z26 g26 c26 o26 z27 g27 c27 o27 z29 g29 c29 o29 f29_0 f29_1 z31 g31 c31 o31 z32 g32 c32 o32 z34 g34 c34 o34 f34_0 f34_1 z35 g35 c35 o35 z37 g37 c37 o37 f37_0 f37_1 f37_2 z40 g40 c40 o40 z43 g43 c43 o43 
attribute [simp] Tryz.underlying3 Tryz.underlying4 Tryz.underlying9 Tryz.underlying22 Tryz.underlying23 Tryz.underlying25 Tryz.underlying26 Tryz.underlying27 Tryz.underlying29 Tryz.underlying31 Tryz.underlying32 Tryz.underlying34 Tryz.underlying35 Tryz.underlying37 Tryz.underlying40 Tryz.underlying43
end Go.Proofs.YtebjajchdidnfaaGreatDoor

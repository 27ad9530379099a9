/-
  A part of the road: an evaluator over abstract memory with a proved simulation, and what is reckoned by it. Written by an AI agent; no person has read it.
-/
import Derived.Test.YtebjajchdidnfaaGreatDoorRows
import Derived.Test.YtebjajchdidnfaaGreatDoorFoldFind
set_option linter.all false
namespace Go.Proofs.YtebjajchdidnfaaGreatDoor
open Go Go.Fold Go.Shelf

def hk : Hook := stdHook 182 185 188
def laid : List (String × DataW Unit) := Rows.linkChecksRow.laid

theorem mixed : Tryz.prog.follows .mixedOrders = true := by kernel_rfl
theorem plainAll : (Tryz.prog.funcs.toList.all fun fd => fd.name != "runtime.NumGoroutine") = true := by kernel_rfl
theorem plain : Plain Tryz.prog := by
  intro f fd hf
  have := List.all_eq_true.1 plainAll fd (by rw [Array.mem_toList_iff]; exact Array.mem_of_getElem? hf)
  simpa using this
theorem fit : Fit Tryz.prog := ⟨mixed, plain⟩

noncomputable def A0? : Option AH := laidA Tryz.prog 8 laid ⟨Tryz.prog.globals.size, .nil⟩
theorem A0_some : A0?.isSome = true := by kernel_rfl
noncomputable def A0 : AH := A0?.getD ⟨0, .nil⟩
theorem A0_eq : laidA Tryz.prog 8 laid ⟨Tryz.prog.globals.size, .nil⟩ = some A0 := by
  have h := A0_some
  unfold A0
  show A0? = _
  cases hA : A0? with
  | none => rw [hA] at h; cases h
  | some A => rfl

/-! Types -/
theorem z9 : sizeA Tryz.prog 9 = some 1 := by kernel_rfl
theorem z4 : sizeA Tryz.prog 4 = some 1 := by kernel_rfl
theorem z3 : sizeA Tryz.prog 3 = some 1 := by kernel_rfl
theorem z34 : sizeA Tryz.prog 34 = some 2 := by kernel_rfl
theorem z23 : sizeA Tryz.prog 23 = some 1 := by kernel_rfl
theorem z27 : sizeA Tryz.prog 27 = some 1 := by kernel_rfl

def insS : Ren := ⟨fun f => match f with | 22 => 29 | 29 => 69 | 30 => 70 | 26 => 68 | 33 => 111 | 34 => 112 | 38 => 155 | f => f, fun t => match t with | 24 => 23 | 40 => 190 | t => t, fun g => g⟩
def insB : Ren := ⟨fun f => match f with | 22 => 30 | 29 => 71 | 30 => 72 | f => f, fun t => match t with | 24 => 27 | 9 => 4 | t => t, fun g => g⟩

theorem laysInsS : InsL Tryz.prog insS .string (.string ⟨#[]⟩) 16 where
  mixed := mixed
  fn := ⟨ "slices.Insert[[]string,string]", by kernel_rfl, by kernel_rfl⟩
  fo := ⟨Tryz.f69, Tryz.func69, by kernel_rfl, by kernel_rfl, by kernel_rfl, by kernel_rfl⟩
  t0 := by kernel_rfl
  a0 := fun w => by kernel_rfl
  z0 := fun w => by kernel_rfl
  v0 := fun w => by kernel_rfl
  t3 := by kernel_rfl
  a3 := fun w => by kernel_rfl
  z3 := fun w => by kernel_rfl
  v3 := fun w => by kernel_rfl
  t4 := by kernel_rfl
  a4 := fun w => by kernel_rfl
  z4 := fun w => by kernel_rfl
  v4 := fun w => by kernel_rfl
  t9 := by kernel_rfl
  a9 := fun w => by kernel_rfl
  z9 := fun w => by kernel_rfl
  v9 := fun w => by kernel_rfl
  t24 := by kernel_rfl
  a24 := fun w => by kernel_rfl
  z24 := fun w => by kernel_rfl
  v24 := fun w => by kernel_rfl
  i9 := by kernel_rfl
  c9 := rfl
  u9 := by simp

theorem laysInsB : InsL Tryz.prog insB .bool (.bool false) 1 where
  mixed := mixed
  fn := ⟨ "slices.Insert[[]bool,bool]", by kernel_rfl, by kernel_rfl⟩
  fo := ⟨Tryz.f71, Tryz.func71, by kernel_rfl, by kernel_rfl, by kernel_rfl, by kernel_rfl⟩
  t0 := by kernel_rfl
  a0 := fun w => by kernel_rfl
  z0 := fun w => by kernel_rfl
  v0 := fun w => by kernel_rfl
  t3 := by kernel_rfl
  a3 := fun w => by kernel_rfl
  z3 := fun w => by kernel_rfl
  v3 := fun w => by kernel_rfl
  t4 := by kernel_rfl
  a4 := fun w => by kernel_rfl
  z4 := fun w => by kernel_rfl
  v4 := fun w => by kernel_rfl
  t9 := by kernel_rfl
  a9 := fun w => by kernel_rfl
  z9 := fun w => by kernel_rfl
  v9 := fun w => by kernel_rfl
  t24 := by kernel_rfl
  a24 := fun w => by kernel_rfl
  z24 := fun w => by kernel_rfl
  v24 := fun w => by kernel_rfl
  i9 := by kernel_rfl
  c9 := rfl
  u9 := by simp

theorem laysBs : Lays2.n26 Tryz.prog insS where
  mixed := mixed
  f26 := by kernel_rfl
  f33 := by kernel_rfl
  f34 := by kernel_rfl
  f38 := by kernel_rfl
  t0 := by kernel_rfl
  a0 := fun w => by kernel_rfl
  z0 := fun w => by kernel_rfl
  v0 := fun w => by kernel_rfl
  t3 := by kernel_rfl
  a3 := fun w => by kernel_rfl
  z3 := fun w => by kernel_rfl
  v3 := fun w => by kernel_rfl
  t4 := by kernel_rfl
  a4 := fun w => by kernel_rfl
  z4 := fun w => by kernel_rfl
  v4 := fun w => by kernel_rfl
  t9 := by kernel_rfl
  a9 := fun w => by kernel_rfl
  z9 := fun w => by kernel_rfl
  v9 := fun w => by kernel_rfl
  t24 := by kernel_rfl
  a24 := fun w => by kernel_rfl
  z24 := fun w => by kernel_rfl
  v24 := fun w => by kernel_rfl
  t40 := by kernel_rfl
  a40 := fun w => by kernel_rfl
  z40 := fun w => by kernel_rfl
  v40 := fun w => by kernel_rfl

end Go.Proofs.YtebjajchdidnfaaGreatDoor

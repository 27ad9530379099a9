/-
  A part of the road: an evaluator over abstract memory with a proved simulation, and what is reckoned by it. Written by an AI agent; no person has read it.
-/
import Derived.Test.YtebjajchdidnfaaGreatDoorLf0
import Derived.Test.YtebjajchdidnfaaGreatDoorFoldEmb
set_option linter.all false
namespace Go.Proofs.YtebjajchdidnfaaGreatDoor
open Go Go.Fold
theorem A0_plain : A0.plain = true := by kernel_rfl
theorem A0_shut : A0.shut = true := by kernel_rfl
theorem A0_globals : Nat.ble Tryz.prog.globals.size A0.next = true := by kernel_rfl
theorem hook_ok : HookOk Tryz.prog hk :=
  stdHook_ok (fun _ _ _ _ h => countH_ok (fn := Tryz.f182) Tryz.func182 (by kernel_rfl) (by kernel_rfl) (by kernel_rfl) (by kernel_rfl) h)
    (fun _ _ _ _ h => indexH_ok (fn := Tryz.f185) Tryz.func185 (by kernel_rfl) (by kernel_rfl) (by kernel_rfl) (by kernel_rfl) h)
    (fun _ _ _ _ h => sameH_ok (fn := Tryz.f188) Tryz.func188 (by kernel_rfl) (by kernel_rfl) (by kernel_rfl) (by kernel_rfl) h)
theorem rec_ok (n : Nat) : RecOk Tryz.prog (ev Tryz.prog hk n) := ev_holds mixed plain hook_ok n

def isTrue : Option Res → Bool
  | some (.done (.bool true) _) => true
  | _ => false
noncomputable def R11 : Option Res := ev Tryz.prog hk 300 (.call 11 [] A0)
noncomputable def newOk : Option Res → Bool
  | some (.done (.ptr (some _)) A) => A.plain && A0.sameBelow A && Nat.ble A0.next A.next
  | _ => false
end Go.Proofs.YtebjajchdidnfaaGreatDoor

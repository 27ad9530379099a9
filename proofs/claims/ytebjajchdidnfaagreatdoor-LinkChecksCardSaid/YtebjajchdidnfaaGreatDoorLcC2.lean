/-
  A part of the road: an evaluator over abstract memory with a proved simulation, and what is reckoned by it. Written by an AI agent; no person has read it.
-/
import Derived.Test.YtebjajchdidnfaaGreatDoorLcC1
set_option linter.all false
namespace Go.Proofs.YtebjajchdidnfaaGreatDoor
open Go Go.Fold
/-- reading, where it was reckoned already -/
noncomputable def parseH (args : List AV) (A : AH) : Option (AV × AH) := match entNilH A0 ent0 args A with
  | some r => some r
  | none => entH A0 5 ent1 args A
noncomputable def hk2 : Hook := fun f => bif Nat.beq f 33 then some parseH else hk f

theorem parseH_ok {args : List AV} {A : AH} {v : AV} {A' : AH} (h : parseH args A = some (v, A')) : CallSpec Tryz.prog 33 args A v A' := by
  unfold parseH at h
  split at h
  · rename_i r hr
    cases h
    exact entNilH_ok A0_plain A0_shut (of_nble A0_globals) (fun v A' he => (rec_ok 3000).call _ _ _ _ _ he) ent0_ok hr
  · exact entH_ok A0_plain A0_shut (of_nble A0_globals) (fun v A' he => (rec_ok 3000).call _ _ _ _ _ he) ent1_ok h

theorem hook2_ok : HookOk Tryz.prog hk2 := by
  intro f h hf args A v A' hv
  unfold hk2 at hf
  cases e : Nat.beq f 33 with
  | true =>
    rw [e, cond_true] at hf
    have := Nat.eq_of_beq_eq_true e; subst this
    cases hf
    exact parseH_ok hv
  | false =>
    rw [e, cond_false] at hf
    exact hook_ok f h hf args A v A' hv
theorem rec2_ok (n : Nat) : RecOk Tryz.prog (ev Tryz.prog hk2 n) := ev_holds mixed plain hook2_ok n

def prepOk : Option Res → Bool
  | some (.done (.tup [.agg cs, .int .i64 n]) _) => cs.length.beq 3 && allOne cs && n == 0
  | _ => false
theorem prep_ok : prepOk (match R11 with | some (.done d A) => ev Tryz.prog hk2 3000 (.call 10 [d, .str [97, 46, 104, 116, 109, 108]] A) | _ => none) = true := by kernel_rfl
end Go.Proofs.YtebjajchdidnfaaGreatDoor

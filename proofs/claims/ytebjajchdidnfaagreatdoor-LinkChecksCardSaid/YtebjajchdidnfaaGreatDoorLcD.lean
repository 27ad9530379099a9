/-
  A part of the road: an evaluator over abstract memory with a proved simulation, and what is reckoned by it. Written by an AI agent; no person has read it.
-/
import Derived.Test.YtebjajchdidnfaaGreatDoorLcB
import Derived.Test.YtebjajchdidnfaaGreatDoorLcC2
import Derived.Test.YtebjajchdidnfaaGreatDoorLt1
set_option linter.all false
set_option linter.all false
namespace Go.Proofs.YtebjajchdidnfaaGreatDoor
open Go Go.Fold

/-- memory that holds what is laid -/
structure Within (A : AH) : Prop where
  le : A0.next ≤ A.next
  get : ∀ b x, A0.get b = some x → A.get b = some x

theorem Within.keep {A A' : AH} (h : Within A) (hn : A.next ≤ A'.next) (hk : ∀ b, b < A0.next → A'.get b = A.get b) : Within A' :=
  ⟨by have := h.le; omega, fun b x hx => by rw [hk b (AH.plain_cells A0_plain hx).1]; exact h.get b x hx⟩

theorem Within.emb {A : AH} (h : Within A) : Emb Tryz.prog (shiftTo A0.next A.next) A0 A := Emb.of_plain A0_plain (of_nble A0_globals) h.le h.get

theorem head_spec {A : AH} (h : Within A) : ∃ A', CallSpec Tryz.prog 6 [] A (.bool true) A' ∧ A.next ≤ A'.next ∧ ∀ b, b < A.next → A'.get b = A.get b := by
  have ht := head_true
  cases hr : ev Tryz.prog hk 3000 (.call 6 [] A0) with
  | none => rw [hr] at ht; cases ht
  | some r =>
    rw [hr] at ht
    cases r with
    | more => cases ht
    | done v A1 =>
      unfold isTrue at ht
      split at ht
      · rename_i he
        cases he
        have hc := ((rec_ok 3000).call _ _ _ _ _ hr).lift h.emb
        exact ⟨_, hc, by rw [lifted_next]; omega, fun b hb => lifted_old h.emb A0_shut hb⟩
      · cases ht

theorem prep_spec {A : AH} (h : Within A) : ∃ d A1 cs A2, CallSpec Tryz.prog 11 [] A d A1 ∧ CallSpec Tryz.prog 10 [d, .str [97, 46, 104, 116, 109, 108]] A1 (.tup [.agg cs, .int .i64 0]) A2 ∧ cs.length = 3 ∧ allOne cs = true ∧
    A.next ≤ A1.next ∧ A1.next ≤ A2.next ∧ (∀ b, b < A.next → A1.get b = A.get b) ∧ ∀ b, b < A.next → A2.get b = A.get b := by
  have hn := new_ok
  have hp := prep_ok
  have E := h.emb
  cases hr : R11 with
  | none => rw [hr] at hn; cases hn
  | some r =>
    rw [hr] at hn hp
    cases r with
    | more => cases hn
    | done d A01 =>
      have hq : A01.plain = true ∧ A0.sameBelow A01 = true ∧ Nat.ble A0.next A01.next = true := by
        unfold newOk at hn
        split at hn
        · rename_i he
          cases he
          simp only [Bool.and_eq_true] at hn
          exact ⟨hn.1.1, hn.1.2, hn.2⟩
        · cases hn
      obtain ⟨q1, q2, q3⟩ := hq
      have q3 := of_nble q3
      have hc1 := ((rec_ok 300).call _ _ _ _ _ hr).lift E
      have E2 := Emb.step E q3 q1 (fun b hb _ => AH.sameBelow_get q2 hb)
      cases hr2 : ev Tryz.prog hk2 3000 (.call 10 [d, .str [97, 46, 104, 116, 109, 108]] A01) with
      | none => simp only [hr2] at hp; cases hp
      | some r2 =>
        simp only [hr2] at hp
        cases r2 with
        | more => cases hp
        | done v2 A02 =>
          have hv : ∃ cs, v2 = .tup [.agg cs, .int .i64 0] ∧ cs.length = 3 ∧ allOne cs = true := by
            unfold prepOk at hp
            split at hp
            · rename_i cs n A he
              cases he
              simp only [Bool.and_eq_true] at hp
              have : n = 0 := by simpa using hp.2
              subst this
              exact ⟨cs, rfl, Nat.eq_of_beq_eq_true hp.1.1, hp.1.2⟩
            · cases hp
          obtain ⟨cs, rfl, hl, h1⟩ := hv
          have hc2 := ((rec2_ok 3000).call _ _ _ _ _ hr2).lift E2
          obtain ⟨ρ, hρ⟩ : ∃ ρ, ρ = shiftTo A0.next A.next := ⟨_, rfl⟩
          rw [← hρ] at E E2 hc1 hc2
          simp only [AV.renL, AV.ren] at hc1 hc2
          refine ⟨d.ren ρ, lifted ρ A0 A01 A, AV.renL ρ cs, lifted ρ A01 A02 (lifted ρ A0 A01 A), hc1, hc2, by rw [renL_length]; exact hl, allOne_ren h1, by rw [lifted_next]; omega, by rw [lifted_next ρ A01 A02]; omega, fun b hb => lifted_old E A0_shut hb, ?_⟩
          intro b hb
          have e1 : (lifted ρ A01 A02 (lifted ρ A0 A01 A)).get b = (lifted ρ A0 A01 A).get b := by
            refine lifted_miss fun b' _ hm e => ?_
            have hb' : A0.next ≤ b' := by
              rcases mayTurn_cases hm with hm | ⟨c, e, hg⟩
              · omega
              · by_cases hlt : b' < A0.next
                · rw [AH.sameBelow_get q2 hlt] at hg
                  obtain ⟨_, _, hx⟩ := AH.shut_cells A0_shut hg
                  cases hx
                · omega
            have := E.new b' hb'
            omega
          rw [e1]
          exact lifted_old E A0_shut hb

end Go.Proofs.YtebjajchdidnfaaGreatDoor

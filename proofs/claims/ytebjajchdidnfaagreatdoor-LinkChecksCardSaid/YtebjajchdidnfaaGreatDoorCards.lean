/-
  DERIVED. GIVEN WITH THE SEED: THE CARDS: each row of YtebjajchdidnfaaGreatDoorRows.lean that lists a variable, with what it lists TIED to the program's text (the seventh form; the later family's looks); each row that meets fmt, with fmt's text TOLD by the authors' own Lean function (tested against real Go, not proved from fmt's source: count such statements apart). THE CARD IS WHAT COUNTS. Prove the row's statement (the work); the ties are given (YtebjajchdidnfaaGreatDoorTie.lean); close each card by the builder's one call (the guide's Derived/Test/ToyasCard.lean, 'card_holds'). Laid BY PROGRAM, IN A SANDBOX (cutbox-door.mjs). By AI agents, Wed Nov 11 2026. No macro, syntax, notation, axiom, sorry.
-/
import Derived.Test.YtebjajchdidnfaaGreatDoorRows
import GoSem.ClaimSeven
namespace Go.Proofs.YtebjajchdidnfaaGreatDoor
namespace Rows

/-- THE TIED CARD OF 'woodcutlaw18.LinkChecks'. -/
def linkChecksCard : Claim7 := { stood := { row := linkChecksRow, standIns := [], harness := (true, "e27e367f5e728aa9f204d84431224f6b3a0ed44ac03d01ad7f3ee58a3fc26dd3"), looks := false }, kinds := [], alts := [], laidByText := true, laidKinds := [.data, .data, .widerDeep, .widerDeep, .widerDeep, .widerDeep, .widerDeep, .widerDeep, .widerDeep, .data, .widerDeep, .widerDeep, .widerDeep, .pinned], laidTests := true, laidLooks := .later }
def LinkChecksCardSaid : Prop := Claim7.holds Tryz.pinned (.plain (OpenSpec.ofChange linkChecksSpec)) linkChecksCard

/-- THE TIED CARD OF 'woodcutlaw19.RenderLimits'. -/
def renderLimitsCard : Claim7 := { stood := { row := renderLimitsRow, standIns := [], harness := (true, "e27e367f5e728aa9f204d84431224f6b3a0ed44ac03d01ad7f3ee58a3fc26dd3"), looks := false }, kinds := [], alts := [], laidByText := true, laidKinds := [.data, .data, .widerDeep, .widerDeep, .widerDeep, .widerDeep, .widerDeep, .widerDeep, .widerDeep, .data, .widerDeep, .widerDeep, .widerDeep, .pinned], laidTests := true, laidLooks := .later }
def RenderLimitsCardSaid : Prop := Claim7.holds Tryz.pinned (.plain (OpenSpec.ofChange renderLimitsSpec)) renderLimitsCard

/-- THE TIED CARD OF 'woodcutlaw14.FindMetas'. -/
def findMetasCard : Claim7 := { stood := { row := findMetasRow, standIns := [], harness := (true, "e27e367f5e728aa9f204d84431224f6b3a0ed44ac03d01ad7f3ee58a3fc26dd3"), looks := false }, kinds := [], alts := [], laidByText := true, laidKinds := [.data, .data, .widerDeep, .widerDeep, .widerDeep, .widerDeep, .widerDeep, .data, .widerDeep, .widerDeep, .widerDeep, .pinned], laidTests := true, laidLooks := .later }
def FindMetasCardSaid : Prop := Claim7.holds Tryz.pinned (.plain (OpenSpec.ofChange findMetasSpec)) findMetasCard

/-- THE SECOND FORM's CARD OF 'woodcutlaw18.LinkChecks'. -/
def linkChecksUptoCard : Claim7 := { stood := { row := linkChecksUptoRow, standIns := [], harness := (true, "e27e367f5e728aa9f204d84431224f6b3a0ed44ac03d01ad7f3ee58a3fc26dd3"), looks := false }, kinds := [], alts := [], laidByText := true, laidKinds := [.data, .data, .widerDeep, .widerDeep, .widerDeep, .widerDeep, .widerDeep, .widerDeep, .widerDeep, .data, .widerDeep, .widerDeep, .widerDeep, .pinned], laidTests := true, laidLooks := .later }
def LinkChecksUptoCardSaid : Prop := Claim7.holds Tryz.pinned (.plain (OpenSpec.upto linkChecksSpec)) linkChecksUptoCard

/-- THE SECOND FORM's CARD OF 'woodcutlaw19.RenderLimits'. -/
def renderLimitsUptoCard : Claim7 := { stood := { row := renderLimitsUptoRow, standIns := [], harness := (true, "e27e367f5e728aa9f204d84431224f6b3a0ed44ac03d01ad7f3ee58a3fc26dd3"), looks := false }, kinds := [], alts := [], laidByText := true, laidKinds := [.data, .data, .widerDeep, .widerDeep, .widerDeep, .widerDeep, .widerDeep, .widerDeep, .widerDeep, .data, .widerDeep, .widerDeep, .widerDeep, .pinned], laidTests := true, laidLooks := .later }
def RenderLimitsUptoCardSaid : Prop := Claim7.holds Tryz.pinned (.plain (OpenSpec.upto renderLimitsSpec)) renderLimitsUptoCard

/-- THE SECOND FORM's CARD OF 'woodcutlaw14.FindMetas'. -/
def findMetasUptoCard : Claim7 := { stood := { row := findMetasUptoRow, standIns := [], harness := (true, "e27e367f5e728aa9f204d84431224f6b3a0ed44ac03d01ad7f3ee58a3fc26dd3"), looks := false }, kinds := [], alts := [], laidByText := true, laidKinds := [.data, .data, .widerDeep, .widerDeep, .widerDeep, .widerDeep, .widerDeep, .data, .widerDeep, .widerDeep, .widerDeep, .pinned], laidTests := true, laidLooks := .later }
def FindMetasUptoCardSaid : Prop := Claim7.holds Tryz.pinned (.plain (OpenSpec.upto findMetasSpec)) findMetasUptoCard
end Rows
end Go.Proofs.YtebjajchdidnfaaGreatDoor

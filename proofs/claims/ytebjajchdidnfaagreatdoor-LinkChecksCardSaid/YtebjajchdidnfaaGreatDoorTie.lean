/-
  DERIVED. GIVEN WITH THE SEED: THE PROGRAM's TIES (one call each: nine closed facts by the kernel) AND EACH ROW's TIE, after the 31st guide's Derived/Test/Toyas{Tie, Card}.lean. No idea stands in it: it is a product of the set-up. Laid BY PROGRAM, IN A SANDBOX (cutbox-door.mjs). By AI agents, Wed Nov 11 2026. No macro, syntax, notation, axiom, sorry.
-/
import Derived.Test.YtebjajchdidnfaaGreatDoorRows
import Derived.LaidByTextLater
import Derived.SevenTiedAt
import Derived.LaidSub
import Derived.LaidOnce
namespace Go.Proofs.YtebjajchdidnfaaGreatDoor
open Go
set_option maxRecDepth 100000
theorem seatTie1 : Tryz.prog.laidByTextLater [("unicode/utf8.acceptRanges", Rows.laid_unicode_utf8_acceptRanges), ("woodcut/chars.windows", Rows.laid_woodcut_chars_windows), ("woodcut/open.usual", Rows.laid_woodcut_open_usual), ("woodcut/open.implied", Rows.laid_woodcut_open_implied), ("woodcut/ser.voids", Rows.laid_woodcut_ser_voids), ("woodcut/ser.raws", Rows.laid_woodcut_ser_raws), ("woodcut/tree.blocks", Rows.laid_woodcut_tree_blocks), ("woodcut/tree.heads", Rows.laid_woodcut_tree_heads), ("woodcut/tree.tables", Rows.laid_woodcut_tree_tables), ("woodcut/tree.names", Rows.laid_woodcut_tree_names), ("woodcut/tree.breaks", Rows.laid_woodcut_tree_breaks), ("woodcut/tree.special", Rows.laid_woodcut_tree_special), ("woodcut/tree.shaping", Rows.laid_woodcut_tree_shaping)] [.data, .data, .widerDeep, .widerDeep, .widerDeep, .widerDeep, .widerDeep, .widerDeep, .widerDeep, .data, .widerDeep, .widerDeep, .widerDeep] true :=
  Program.laidByTextLater_by_one 84 8 84 (by kernel_rfl) (by kernel_rfl) (by kernel_rfl) (by kernel_rfl) (by kernel_rfl) (by kernel_rfl) (fun _ _ => by kernel_rfl)
theorem seatTie2 : Tryz.prog.laidByTextLater [("unicode/utf8.acceptRanges", Rows.laid_unicode_utf8_acceptRanges), ("woodcut/chars.windows", Rows.laid_woodcut_chars_windows), ("woodcut/open.usual", Rows.laid_woodcut_open_usual), ("woodcut/open.implied", Rows.laid_woodcut_open_implied), ("woodcut/tree.blocks", Rows.laid_woodcut_tree_blocks), ("woodcut/tree.heads", Rows.laid_woodcut_tree_heads), ("woodcut/tree.tables", Rows.laid_woodcut_tree_tables), ("woodcut/tree.names", Rows.laid_woodcut_tree_names), ("woodcut/tree.breaks", Rows.laid_woodcut_tree_breaks), ("woodcut/tree.special", Rows.laid_woodcut_tree_special), ("woodcut/tree.shaping", Rows.laid_woodcut_tree_shaping)] [.data, .data, .widerDeep, .widerDeep, .widerDeep, .widerDeep, .widerDeep, .data, .widerDeep, .widerDeep, .widerDeep] true :=
  Program.laidByTextLater_by_one 84 8 84 (by kernel_rfl) (by kernel_rfl) (by kernel_rfl) (by kernel_rfl) (by kernel_rfl) (by kernel_rfl) (fun _ _ => by kernel_rfl)
theorem pin_laid_unicode_utf8_first : Tryz.pinned.checked.prog.pinnedFits "unicode/utf8.first" = true := by kernel_rfl
theorem noOwnUnsafe : Tryz.pinned.checked.prog.headLifts.contains "ownunsafe" = false := by kernel_rfl
theorem fits1 : Tryz.pinned.checked.prog.listedFits [("unicode/utf8.acceptRanges", Rows.laid_unicode_utf8_acceptRanges), ("woodcut/chars.windows", Rows.laid_woodcut_chars_windows), ("woodcut/open.usual", Rows.laid_woodcut_open_usual), ("woodcut/open.implied", Rows.laid_woodcut_open_implied), ("woodcut/ser.voids", Rows.laid_woodcut_ser_voids), ("woodcut/ser.raws", Rows.laid_woodcut_ser_raws), ("woodcut/tree.blocks", Rows.laid_woodcut_tree_blocks), ("woodcut/tree.heads", Rows.laid_woodcut_tree_heads), ("woodcut/tree.tables", Rows.laid_woodcut_tree_tables), ("woodcut/tree.names", Rows.laid_woodcut_tree_names), ("woodcut/tree.breaks", Rows.laid_woodcut_tree_breaks), ("woodcut/tree.special", Rows.laid_woodcut_tree_special), ("woodcut/tree.shaping", Rows.laid_woodcut_tree_shaping), ("unicode/utf8.first", Rows.laid_unicode_utf8_first)] = true := by
  unfold Program.listedFits
  rw [noOwnUnsafe]
  kernel_rfl
theorem tie : Tryz.prog.laidByTextLater [("unicode/utf8.acceptRanges", Rows.laid_unicode_utf8_acceptRanges), ("woodcut/chars.windows", Rows.laid_woodcut_chars_windows), ("woodcut/open.usual", Rows.laid_woodcut_open_usual), ("woodcut/open.implied", Rows.laid_woodcut_open_implied), ("woodcut/ser.voids", Rows.laid_woodcut_ser_voids), ("woodcut/ser.raws", Rows.laid_woodcut_ser_raws), ("woodcut/tree.blocks", Rows.laid_woodcut_tree_blocks), ("woodcut/tree.heads", Rows.laid_woodcut_tree_heads), ("woodcut/tree.tables", Rows.laid_woodcut_tree_tables), ("woodcut/tree.names", Rows.laid_woodcut_tree_names), ("woodcut/tree.breaks", Rows.laid_woodcut_tree_breaks), ("woodcut/tree.special", Rows.laid_woodcut_tree_special), ("woodcut/tree.shaping", Rows.laid_woodcut_tree_shaping)] [.data, .data, .widerDeep, .widerDeep, .widerDeep, .widerDeep, .widerDeep, .widerDeep, .widerDeep, .data, .widerDeep, .widerDeep, .widerDeep] true :=
  Program.laidByTextLater.sub seatTie1 ["unicode/utf8.acceptRanges", "woodcut/chars.windows", "woodcut/open.usual", "woodcut/open.implied", "woodcut/ser.voids", "woodcut/ser.raws", "woodcut/tree.blocks", "woodcut/tree.heads", "woodcut/tree.tables", "woodcut/tree.names", "woodcut/tree.breaks", "woodcut/tree.special", "woodcut/tree.shaping"] (by kernel_rfl) (by kernel_rfl)
theorem linkChecks_row_tie : Rows.linkChecksRow.laidByTextAt .later Tryz.pinned [.data, .data, .widerDeep, .widerDeep, .widerDeep, .widerDeep, .widerDeep, .widerDeep, .widerDeep, .data, .widerDeep, .widerDeep, .widerDeep, .pinned] true :=
  OpenClaim.laidByTextAt_pinned rfl rfl tie rfl rfl rfl rfl (fun y hy _e => by
    simp only [Rows.linkChecksRow, List.zip_cons_cons, List.zip_nil_right, List.mem_cons, List.mem_nil_iff, or_false] at hy
    rcases hy with rfl | rfl | rfl | rfl | rfl | rfl | rfl | rfl | rfl | rfl | rfl | rfl | rfl | rfl
    · cases _e
    · cases _e
    · cases _e
    · cases _e
    · cases _e
    · cases _e
    · cases _e
    · cases _e
    · cases _e
    · cases _e
    · cases _e
    · cases _e
    · cases _e
    · exact ⟨pin_laid_unicode_utf8_first, by kernel_rfl⟩) fits1
theorem renderLimits_row_tie : Rows.renderLimitsRow.laidByTextAt .later Tryz.pinned [.data, .data, .widerDeep, .widerDeep, .widerDeep, .widerDeep, .widerDeep, .widerDeep, .widerDeep, .data, .widerDeep, .widerDeep, .widerDeep, .pinned] true :=
  OpenClaim.laidByTextAt_pinned rfl rfl tie rfl rfl rfl rfl (fun y hy _e => by
    simp only [Rows.renderLimitsRow, List.zip_cons_cons, List.zip_nil_right, List.mem_cons, List.mem_nil_iff, or_false] at hy
    rcases hy with rfl | rfl | rfl | rfl | rfl | rfl | rfl | rfl | rfl | rfl | rfl | rfl | rfl | rfl
    · cases _e
    · cases _e
    · cases _e
    · cases _e
    · cases _e
    · cases _e
    · cases _e
    · cases _e
    · cases _e
    · cases _e
    · cases _e
    · cases _e
    · cases _e
    · exact ⟨pin_laid_unicode_utf8_first, by kernel_rfl⟩) fits1
theorem fits2 : Tryz.pinned.checked.prog.listedFits [("unicode/utf8.acceptRanges", Rows.laid_unicode_utf8_acceptRanges), ("woodcut/chars.windows", Rows.laid_woodcut_chars_windows), ("woodcut/open.usual", Rows.laid_woodcut_open_usual), ("woodcut/open.implied", Rows.laid_woodcut_open_implied), ("woodcut/tree.blocks", Rows.laid_woodcut_tree_blocks), ("woodcut/tree.heads", Rows.laid_woodcut_tree_heads), ("woodcut/tree.tables", Rows.laid_woodcut_tree_tables), ("woodcut/tree.names", Rows.laid_woodcut_tree_names), ("woodcut/tree.breaks", Rows.laid_woodcut_tree_breaks), ("woodcut/tree.special", Rows.laid_woodcut_tree_special), ("woodcut/tree.shaping", Rows.laid_woodcut_tree_shaping), ("unicode/utf8.first", Rows.laid_unicode_utf8_first)] = true := by
  unfold Program.listedFits
  rw [noOwnUnsafe]
  kernel_rfl
theorem tie2 : Tryz.prog.laidByTextLater [("unicode/utf8.acceptRanges", Rows.laid_unicode_utf8_acceptRanges), ("woodcut/chars.windows", Rows.laid_woodcut_chars_windows), ("woodcut/open.usual", Rows.laid_woodcut_open_usual), ("woodcut/open.implied", Rows.laid_woodcut_open_implied), ("woodcut/tree.blocks", Rows.laid_woodcut_tree_blocks), ("woodcut/tree.heads", Rows.laid_woodcut_tree_heads), ("woodcut/tree.tables", Rows.laid_woodcut_tree_tables), ("woodcut/tree.names", Rows.laid_woodcut_tree_names), ("woodcut/tree.breaks", Rows.laid_woodcut_tree_breaks), ("woodcut/tree.special", Rows.laid_woodcut_tree_special), ("woodcut/tree.shaping", Rows.laid_woodcut_tree_shaping)] [.data, .data, .widerDeep, .widerDeep, .widerDeep, .widerDeep, .widerDeep, .data, .widerDeep, .widerDeep, .widerDeep] true :=
  Program.laidByTextLater.sub seatTie2 ["unicode/utf8.acceptRanges", "woodcut/chars.windows", "woodcut/open.usual", "woodcut/open.implied", "woodcut/tree.blocks", "woodcut/tree.heads", "woodcut/tree.tables", "woodcut/tree.names", "woodcut/tree.breaks", "woodcut/tree.special", "woodcut/tree.shaping"] (by kernel_rfl) (by kernel_rfl)
theorem findMetas_row_tie : Rows.findMetasRow.laidByTextAt .later Tryz.pinned [.data, .data, .widerDeep, .widerDeep, .widerDeep, .widerDeep, .widerDeep, .data, .widerDeep, .widerDeep, .widerDeep, .pinned] true :=
  OpenClaim.laidByTextAt_pinned rfl rfl tie2 rfl rfl rfl rfl (fun y hy _e => by
    simp only [Rows.findMetasRow, List.zip_cons_cons, List.zip_nil_right, List.mem_cons, List.mem_nil_iff, or_false] at hy
    rcases hy with rfl | rfl | rfl | rfl | rfl | rfl | rfl | rfl | rfl | rfl | rfl | rfl
    · cases _e
    · cases _e
    · cases _e
    · cases _e
    · cases _e
    · cases _e
    · cases _e
    · cases _e
    · cases _e
    · cases _e
    · cases _e
    · exact ⟨pin_laid_unicode_utf8_first, by kernel_rfl⟩) fits2
theorem linkChecksUpto_row_tie : Rows.linkChecksUptoRow.laidByTextAt .later Tryz.pinned [.data, .data, .widerDeep, .widerDeep, .widerDeep, .widerDeep, .widerDeep, .widerDeep, .widerDeep, .data, .widerDeep, .widerDeep, .widerDeep, .pinned] true :=
  OpenClaim.laidByTextAt_pinned rfl rfl tie rfl rfl rfl rfl (fun y hy _e => by
    simp only [Rows.linkChecksUptoRow, List.zip_cons_cons, List.zip_nil_right, List.mem_cons, List.mem_nil_iff, or_false] at hy
    rcases hy with rfl | rfl | rfl | rfl | rfl | rfl | rfl | rfl | rfl | rfl | rfl | rfl | rfl | rfl
    · cases _e
    · cases _e
    · cases _e
    · cases _e
    · cases _e
    · cases _e
    · cases _e
    · cases _e
    · cases _e
    · cases _e
    · cases _e
    · cases _e
    · cases _e
    · exact ⟨pin_laid_unicode_utf8_first, by kernel_rfl⟩) fits1
theorem renderLimitsUpto_row_tie : Rows.renderLimitsUptoRow.laidByTextAt .later Tryz.pinned [.data, .data, .widerDeep, .widerDeep, .widerDeep, .widerDeep, .widerDeep, .widerDeep, .widerDeep, .data, .widerDeep, .widerDeep, .widerDeep, .pinned] true :=
  OpenClaim.laidByTextAt_pinned rfl rfl tie rfl rfl rfl rfl (fun y hy _e => by
    simp only [Rows.renderLimitsUptoRow, List.zip_cons_cons, List.zip_nil_right, List.mem_cons, List.mem_nil_iff, or_false] at hy
    rcases hy with rfl | rfl | rfl | rfl | rfl | rfl | rfl | rfl | rfl | rfl | rfl | rfl | rfl | rfl
    · cases _e
    · cases _e
    · cases _e
    · cases _e
    · cases _e
    · cases _e
    · cases _e
    · cases _e
    · cases _e
    · cases _e
    · cases _e
    · cases _e
    · cases _e
    · exact ⟨pin_laid_unicode_utf8_first, by kernel_rfl⟩) fits1
theorem findMetasUpto_row_tie : Rows.findMetasUptoRow.laidByTextAt .later Tryz.pinned [.data, .data, .widerDeep, .widerDeep, .widerDeep, .widerDeep, .widerDeep, .data, .widerDeep, .widerDeep, .widerDeep, .pinned] true :=
  OpenClaim.laidByTextAt_pinned rfl rfl tie2 rfl rfl rfl rfl (fun y hy _e => by
    simp only [Rows.findMetasUptoRow, List.zip_cons_cons, List.zip_nil_right, List.mem_cons, List.mem_nil_iff, or_false] at hy
    rcases hy with rfl | rfl | rfl | rfl | rfl | rfl | rfl | rfl | rfl | rfl | rfl | rfl
    · cases _e
    · cases _e
    · cases _e
    · cases _e
    · cases _e
    · cases _e
    · cases _e
    · cases _e
    · cases _e
    · cases _e
    · cases _e
    · exact ⟨pin_laid_unicode_utf8_first, by kernel_rfl⟩) fits2
end Go.Proofs.YtebjajchdidnfaaGreatDoor

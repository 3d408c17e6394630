/-
  DERIVED. GIVEN WITH THE SEED: THE PROGRAM's TIES (one call each: nine closed facts by the kernel) AND EACH ROW's TIE, after the 31st guide's Derived/Test/Toyas{Tie, Card}.lean. No idea stands in it: it is a product of the set-up. Laid BY PROGRAM, IN A SANDBOX (cutbox-door.mjs). By AI agents, Wed Nov 11 2026. No macro, syntax, notation, axiom, sorry.
-/
import Derived.Test.YtpapbnmacjoihaaDoorRows
import Derived.LaidByTextLater
import Derived.SevenTiedAt
import Derived.LaidSub
import Derived.LaidOnce
namespace Go.Proofs.YtpapbnmacjoihaaDoor
open Go
set_option maxRecDepth 100000
theorem seatTie1 : Tryd.prog.laidByTextLater [("math/bits.deBruijn32tab", Rows.laid_math_bits_deBruijn32tab), ("math/bits.deBruijn64tab", Rows.laid_math_bits_deBruijn64tab), ("internal/strconv.uint64pow10", Rows.laid_internal_strconv_uint64pow10), ("unicode/utf8.acceptRanges", Rows.laid_unicode_utf8_acceptRanges), ("bindle/head.name", Rows.laid_bindle_head_name), ("bindle/head.mode", Rows.laid_bindle_head_mode), ("bindle/head.user", Rows.laid_bindle_head_user), ("bindle/head.group", Rows.laid_bindle_head_group), ("bindle/head.size", Rows.laid_bindle_head_size), ("bindle/head.clock", Rows.laid_bindle_head_clock), ("bindle/head.sum", Rows.laid_bindle_head_sum), ("bindle/head.link", Rows.laid_bindle_head_link), ("bindle/head.magic", Rows.laid_bindle_head_magic), ("bindle/head.prefix", Rows.laid_bindle_head_prefix)] [.data, .data, .data, .data, .wider, .data, .data, .data, .data, .data, .wider, .wider, .wider, .wider] true :=
  Program.laidByTextLater_by_one 84 8 65 (by kernel_rfl) (by kernel_rfl) (by kernel_rfl) (by kernel_rfl) (by kernel_rfl) (by kernel_rfl) (fun _ _ => by kernel_rfl)
theorem pin_laid_unicode_utf8_first : Tryd.pinned.checked.prog.pinnedFits "unicode/utf8.first" = true := by kernel_rfl
theorem noOwnUnsafe : Tryd.pinned.checked.prog.headLifts.contains "ownunsafe" = false := by kernel_rfl
theorem fits1 : Tryd.pinned.checked.prog.listedFits [("unicode/utf8.acceptRanges", Rows.laid_unicode_utf8_acceptRanges), ("bindle/head.name", Rows.laid_bindle_head_name), ("bindle/head.mode", Rows.laid_bindle_head_mode), ("bindle/head.user", Rows.laid_bindle_head_user), ("bindle/head.group", Rows.laid_bindle_head_group), ("bindle/head.size", Rows.laid_bindle_head_size), ("bindle/head.clock", Rows.laid_bindle_head_clock), ("bindle/head.sum", Rows.laid_bindle_head_sum), ("bindle/head.link", Rows.laid_bindle_head_link), ("bindle/head.magic", Rows.laid_bindle_head_magic), ("bindle/head.prefix", Rows.laid_bindle_head_prefix), ("unicode/utf8.first", Rows.laid_unicode_utf8_first)] = true := by
  unfold Program.listedFits
  rw [noOwnUnsafe]
  kernel_rfl
theorem tie : Tryd.prog.laidByTextLater [("unicode/utf8.acceptRanges", Rows.laid_unicode_utf8_acceptRanges), ("bindle/head.name", Rows.laid_bindle_head_name), ("bindle/head.mode", Rows.laid_bindle_head_mode), ("bindle/head.user", Rows.laid_bindle_head_user), ("bindle/head.group", Rows.laid_bindle_head_group), ("bindle/head.size", Rows.laid_bindle_head_size), ("bindle/head.clock", Rows.laid_bindle_head_clock), ("bindle/head.sum", Rows.laid_bindle_head_sum), ("bindle/head.link", Rows.laid_bindle_head_link), ("bindle/head.magic", Rows.laid_bindle_head_magic), ("bindle/head.prefix", Rows.laid_bindle_head_prefix)] [.data, .wider, .data, .data, .data, .data, .data, .wider, .wider, .wider, .wider] true :=
  Program.laidByTextLater.sub seatTie1 ["unicode/utf8.acceptRanges", "bindle/head.name", "bindle/head.mode", "bindle/head.user", "bindle/head.group", "bindle/head.size", "bindle/head.clock", "bindle/head.sum", "bindle/head.link", "bindle/head.magic", "bindle/head.prefix"] (by kernel_rfl) (by kernel_rfl)
theorem headParses_row_tie : Rows.headParsesRow.laidByTextAt .later Tryd.pinned [.data, .wider, .data, .data, .data, .data, .data, .wider, .wider, .wider, .wider, .pinned] true :=
  OpenClaim.laidByTextAt_pinned rfl rfl tie rfl rfl rfl rfl (fun y hy _e => by
    simp only [Rows.headParsesRow, List.zip_cons_cons, List.zip_nil_right, List.mem_cons, List.mem_nil_iff, or_false] at hy
    rcases hy with rfl | rfl | rfl | rfl | rfl | rfl | rfl | rfl | rfl | rfl | rfl | rfl
    · cases _e
    · cases _e
    · cases _e
    · cases _e
    · cases _e
    · cases _e
    · cases _e
    · cases _e
    · cases _e
    · cases _e
    · cases _e
    · exact ⟨pin_laid_unicode_utf8_first, by kernel_rfl⟩) fits1
theorem headPuts_row_tie : Rows.headPutsRow.laidByTextAt .later Tryd.pinned [.data, .wider, .data, .data, .data, .data, .data, .wider, .wider, .wider, .wider, .pinned] true :=
  OpenClaim.laidByTextAt_pinned rfl rfl tie rfl rfl rfl rfl (fun y hy _e => by
    simp only [Rows.headPutsRow, List.zip_cons_cons, List.zip_nil_right, List.mem_cons, List.mem_nil_iff, or_false] at hy
    rcases hy with rfl | rfl | rfl | rfl | rfl | rfl | rfl | rfl | rfl | rfl | rfl | rfl
    · cases _e
    · cases _e
    · cases _e
    · cases _e
    · cases _e
    · cases _e
    · cases _e
    · cases _e
    · cases _e
    · cases _e
    · cases _e
    · exact ⟨pin_laid_unicode_utf8_first, by kernel_rfl⟩) fits1
theorem headSums_row_tie : Rows.headSumsRow.laidByTextAt .later Tryd.pinned [.data, .wider, .data, .data, .data, .data, .data, .wider, .wider, .wider, .wider, .pinned] true :=
  OpenClaim.laidByTextAt_pinned rfl rfl tie rfl rfl rfl rfl (fun y hy _e => by
    simp only [Rows.headSumsRow, List.zip_cons_cons, List.zip_nil_right, List.mem_cons, List.mem_nil_iff, or_false] at hy
    rcases hy with rfl | rfl | rfl | rfl | rfl | rfl | rfl | rfl | rfl | rfl | rfl | rfl
    · cases _e
    · cases _e
    · cases _e
    · cases _e
    · cases _e
    · cases _e
    · cases _e
    · cases _e
    · cases _e
    · cases _e
    · cases _e
    · exact ⟨pin_laid_unicode_utf8_first, by kernel_rfl⟩) fits1
theorem headCuts_row_tie : Rows.headCutsRow.laidByTextAt .later Tryd.pinned [.data, .wider, .data, .data, .data, .data, .data, .wider, .wider, .wider, .wider, .pinned] true :=
  OpenClaim.laidByTextAt_pinned rfl rfl tie rfl rfl rfl rfl (fun y hy _e => by
    simp only [Rows.headCutsRow, List.zip_cons_cons, List.zip_nil_right, List.mem_cons, List.mem_nil_iff, or_false] at hy
    rcases hy with rfl | rfl | rfl | rfl | rfl | rfl | rfl | rfl | rfl | rfl | rfl | rfl
    · cases _e
    · cases _e
    · cases _e
    · cases _e
    · cases _e
    · cases _e
    · cases _e
    · cases _e
    · cases _e
    · cases _e
    · cases _e
    · exact ⟨pin_laid_unicode_utf8_first, by kernel_rfl⟩) fits1
theorem headZero_row_tie : Rows.headZeroRow.laidByTextAt .later Tryd.pinned [.data, .wider, .data, .data, .data, .data, .data, .wider, .wider, .wider, .wider, .pinned] true :=
  OpenClaim.laidByTextAt_pinned rfl rfl tie rfl rfl rfl rfl (fun y hy _e => by
    simp only [Rows.headZeroRow, List.zip_cons_cons, List.zip_nil_right, List.mem_cons, List.mem_nil_iff, or_false] at hy
    rcases hy with rfl | rfl | rfl | rfl | rfl | rfl | rfl | rfl | rfl | rfl | rfl | rfl
    · cases _e
    · cases _e
    · cases _e
    · cases _e
    · cases _e
    · cases _e
    · cases _e
    · cases _e
    · cases _e
    · cases _e
    · cases _e
    · exact ⟨pin_laid_unicode_utf8_first, by kernel_rfl⟩) fits1
theorem headFree_row_tie : Rows.headFreeRow.laidByTextAt .later Tryd.pinned [.data, .wider, .data, .data, .data, .data, .data, .wider, .wider, .wider, .wider, .pinned] true :=
  OpenClaim.laidByTextAt_pinned rfl rfl tie rfl rfl rfl rfl (fun y hy _e => by
    simp only [Rows.headFreeRow, List.zip_cons_cons, List.zip_nil_right, List.mem_cons, List.mem_nil_iff, or_false] at hy
    rcases hy with rfl | rfl | rfl | rfl | rfl | rfl | rfl | rfl | rfl | rfl | rfl | rfl
    · cases _e
    · cases _e
    · cases _e
    · cases _e
    · cases _e
    · cases _e
    · cases _e
    · cases _e
    · cases _e
    · cases _e
    · cases _e
    · exact ⟨pin_laid_unicode_utf8_first, by kernel_rfl⟩) fits1
theorem fits2 : Tryd.pinned.checked.prog.listedFits [("math/bits.deBruijn32tab", Rows.laid_math_bits_deBruijn32tab), ("math/bits.deBruijn64tab", Rows.laid_math_bits_deBruijn64tab), ("internal/strconv.uint64pow10", Rows.laid_internal_strconv_uint64pow10), ("unicode/utf8.acceptRanges", Rows.laid_unicode_utf8_acceptRanges), ("bindle/head.name", Rows.laid_bindle_head_name), ("bindle/head.mode", Rows.laid_bindle_head_mode), ("bindle/head.user", Rows.laid_bindle_head_user), ("bindle/head.group", Rows.laid_bindle_head_group), ("bindle/head.size", Rows.laid_bindle_head_size), ("bindle/head.clock", Rows.laid_bindle_head_clock), ("bindle/head.sum", Rows.laid_bindle_head_sum), ("bindle/head.link", Rows.laid_bindle_head_link), ("bindle/head.magic", Rows.laid_bindle_head_magic), ("bindle/head.prefix", Rows.laid_bindle_head_prefix), ("unicode/utf8.first", Rows.laid_unicode_utf8_first)] = true := by
  unfold Program.listedFits
  rw [noOwnUnsafe]
  kernel_rfl
theorem tie2 : Tryd.prog.laidByTextLater [("math/bits.deBruijn32tab", Rows.laid_math_bits_deBruijn32tab), ("math/bits.deBruijn64tab", Rows.laid_math_bits_deBruijn64tab), ("internal/strconv.uint64pow10", Rows.laid_internal_strconv_uint64pow10), ("unicode/utf8.acceptRanges", Rows.laid_unicode_utf8_acceptRanges), ("bindle/head.name", Rows.laid_bindle_head_name), ("bindle/head.mode", Rows.laid_bindle_head_mode), ("bindle/head.user", Rows.laid_bindle_head_user), ("bindle/head.group", Rows.laid_bindle_head_group), ("bindle/head.size", Rows.laid_bindle_head_size), ("bindle/head.clock", Rows.laid_bindle_head_clock), ("bindle/head.sum", Rows.laid_bindle_head_sum), ("bindle/head.link", Rows.laid_bindle_head_link), ("bindle/head.magic", Rows.laid_bindle_head_magic), ("bindle/head.prefix", Rows.laid_bindle_head_prefix)] [.data, .data, .data, .data, .wider, .data, .data, .data, .data, .data, .wider, .wider, .wider, .wider] true :=
  Program.laidByTextLater.sub seatTie1 ["math/bits.deBruijn32tab", "math/bits.deBruijn64tab", "internal/strconv.uint64pow10", "unicode/utf8.acceptRanges", "bindle/head.name", "bindle/head.mode", "bindle/head.user", "bindle/head.group", "bindle/head.size", "bindle/head.clock", "bindle/head.sum", "bindle/head.link", "bindle/head.magic", "bindle/head.prefix"] (by kernel_rfl) (by kernel_rfl)
theorem writePuts_row_tie : Rows.writePutsRow.laidByTextAt .later Tryd.pinned [.data, .data, .data, .data, .wider, .data, .data, .data, .data, .data, .wider, .wider, .wider, .wider, .pinned] true :=
  OpenClaim.laidByTextAt_pinned rfl rfl tie2 rfl rfl rfl rfl (fun y hy _e => by
    simp only [Rows.writePutsRow, List.zip_cons_cons, List.zip_nil_right, List.mem_cons, List.mem_nil_iff, or_false] at hy
    rcases hy with rfl | rfl | rfl | rfl | rfl | rfl | rfl | rfl | rfl | rfl | rfl | rfl | rfl | rfl | rfl
    · cases _e
    · cases _e
    · cases _e
    · cases _e
    · cases _e
    · cases _e
    · cases _e
    · cases _e
    · cases _e
    · cases _e
    · cases _e
    · cases _e
    · cases _e
    · cases _e
    · exact ⟨pin_laid_unicode_utf8_first, by kernel_rfl⟩) fits2
theorem writeJoins_row_tie : Rows.writeJoinsRow.laidByTextAt .later Tryd.pinned [.data, .data, .data, .data, .wider, .data, .data, .data, .data, .data, .wider, .wider, .wider, .wider, .pinned] true :=
  OpenClaim.laidByTextAt_pinned rfl rfl tie2 rfl rfl rfl rfl (fun y hy _e => by
    simp only [Rows.writeJoinsRow, List.zip_cons_cons, List.zip_nil_right, List.mem_cons, List.mem_nil_iff, or_false] at hy
    rcases hy with rfl | rfl | rfl | rfl | rfl | rfl | rfl | rfl | rfl | rfl | rfl | rfl | rfl | rfl | rfl
    · cases _e
    · cases _e
    · cases _e
    · cases _e
    · cases _e
    · cases _e
    · cases _e
    · cases _e
    · cases _e
    · cases _e
    · cases _e
    · cases _e
    · cases _e
    · cases _e
    · exact ⟨pin_laid_unicode_utf8_first, by kernel_rfl⟩) fits2
theorem writeShort_row_tie : Rows.writeShortRow.laidByTextAt .later Tryd.pinned [.data, .data, .data, .data, .wider, .data, .data, .data, .data, .data, .wider, .wider, .wider, .wider, .pinned] true :=
  OpenClaim.laidByTextAt_pinned rfl rfl tie2 rfl rfl rfl rfl (fun y hy _e => by
    simp only [Rows.writeShortRow, List.zip_cons_cons, List.zip_nil_right, List.mem_cons, List.mem_nil_iff, or_false] at hy
    rcases hy with rfl | rfl | rfl | rfl | rfl | rfl | rfl | rfl | rfl | rfl | rfl | rfl | rfl | rfl | rfl
    · cases _e
    · cases _e
    · cases _e
    · cases _e
    · cases _e
    · cases _e
    · cases _e
    · cases _e
    · cases _e
    · cases _e
    · cases _e
    · cases _e
    · cases _e
    · cases _e
    · exact ⟨pin_laid_unicode_utf8_first, by kernel_rfl⟩) fits2
theorem headParsesUpto_row_tie : Rows.headParsesUptoRow.laidByTextAt .later Tryd.pinned [.data, .wider, .data, .data, .data, .data, .data, .wider, .wider, .wider, .wider, .pinned] true :=
  OpenClaim.laidByTextAt_pinned rfl rfl tie rfl rfl rfl rfl (fun y hy _e => by
    simp only [Rows.headParsesUptoRow, List.zip_cons_cons, List.zip_nil_right, List.mem_cons, List.mem_nil_iff, or_false] at hy
    rcases hy with rfl | rfl | rfl | rfl | rfl | rfl | rfl | rfl | rfl | rfl | rfl | rfl
    · cases _e
    · cases _e
    · cases _e
    · cases _e
    · cases _e
    · cases _e
    · cases _e
    · cases _e
    · cases _e
    · cases _e
    · cases _e
    · exact ⟨pin_laid_unicode_utf8_first, by kernel_rfl⟩) fits1
theorem headPutsUpto_row_tie : Rows.headPutsUptoRow.laidByTextAt .later Tryd.pinned [.data, .wider, .data, .data, .data, .data, .data, .wider, .wider, .wider, .wider, .pinned] true :=
  OpenClaim.laidByTextAt_pinned rfl rfl tie rfl rfl rfl rfl (fun y hy _e => by
    simp only [Rows.headPutsUptoRow, List.zip_cons_cons, List.zip_nil_right, List.mem_cons, List.mem_nil_iff, or_false] at hy
    rcases hy with rfl | rfl | rfl | rfl | rfl | rfl | rfl | rfl | rfl | rfl | rfl | rfl
    · cases _e
    · cases _e
    · cases _e
    · cases _e
    · cases _e
    · cases _e
    · cases _e
    · cases _e
    · cases _e
    · cases _e
    · cases _e
    · exact ⟨pin_laid_unicode_utf8_first, by kernel_rfl⟩) fits1
theorem headSumsUpto_row_tie : Rows.headSumsUptoRow.laidByTextAt .later Tryd.pinned [.data, .wider, .data, .data, .data, .data, .data, .wider, .wider, .wider, .wider, .pinned] true :=
  OpenClaim.laidByTextAt_pinned rfl rfl tie rfl rfl rfl rfl (fun y hy _e => by
    simp only [Rows.headSumsUptoRow, List.zip_cons_cons, List.zip_nil_right, List.mem_cons, List.mem_nil_iff, or_false] at hy
    rcases hy with rfl | rfl | rfl | rfl | rfl | rfl | rfl | rfl | rfl | rfl | rfl | rfl
    · cases _e
    · cases _e
    · cases _e
    · cases _e
    · cases _e
    · cases _e
    · cases _e
    · cases _e
    · cases _e
    · cases _e
    · cases _e
    · exact ⟨pin_laid_unicode_utf8_first, by kernel_rfl⟩) fits1
theorem headCutsUpto_row_tie : Rows.headCutsUptoRow.laidByTextAt .later Tryd.pinned [.data, .wider, .data, .data, .data, .data, .data, .wider, .wider, .wider, .wider, .pinned] true :=
  OpenClaim.laidByTextAt_pinned rfl rfl tie rfl rfl rfl rfl (fun y hy _e => by
    simp only [Rows.headCutsUptoRow, List.zip_cons_cons, List.zip_nil_right, List.mem_cons, List.mem_nil_iff, or_false] at hy
    rcases hy with rfl | rfl | rfl | rfl | rfl | rfl | rfl | rfl | rfl | rfl | rfl | rfl
    · cases _e
    · cases _e
    · cases _e
    · cases _e
    · cases _e
    · cases _e
    · cases _e
    · cases _e
    · cases _e
    · cases _e
    · cases _e
    · exact ⟨pin_laid_unicode_utf8_first, by kernel_rfl⟩) fits1
theorem headZeroUpto_row_tie : Rows.headZeroUptoRow.laidByTextAt .later Tryd.pinned [.data, .wider, .data, .data, .data, .data, .data, .wider, .wider, .wider, .wider, .pinned] true :=
  OpenClaim.laidByTextAt_pinned rfl rfl tie rfl rfl rfl rfl (fun y hy _e => by
    simp only [Rows.headZeroUptoRow, List.zip_cons_cons, List.zip_nil_right, List.mem_cons, List.mem_nil_iff, or_false] at hy
    rcases hy with rfl | rfl | rfl | rfl | rfl | rfl | rfl | rfl | rfl | rfl | rfl | rfl
    · cases _e
    · cases _e
    · cases _e
    · cases _e
    · cases _e
    · cases _e
    · cases _e
    · cases _e
    · cases _e
    · cases _e
    · cases _e
    · exact ⟨pin_laid_unicode_utf8_first, by kernel_rfl⟩) fits1
theorem headFreeUpto_row_tie : Rows.headFreeUptoRow.laidByTextAt .later Tryd.pinned [.data, .wider, .data, .data, .data, .data, .data, .wider, .wider, .wider, .wider, .pinned] true :=
  OpenClaim.laidByTextAt_pinned rfl rfl tie rfl rfl rfl rfl (fun y hy _e => by
    simp only [Rows.headFreeUptoRow, List.zip_cons_cons, List.zip_nil_right, List.mem_cons, List.mem_nil_iff, or_false] at hy
    rcases hy with rfl | rfl | rfl | rfl | rfl | rfl | rfl | rfl | rfl | rfl | rfl | rfl
    · cases _e
    · cases _e
    · cases _e
    · cases _e
    · cases _e
    · cases _e
    · cases _e
    · cases _e
    · cases _e
    · cases _e
    · cases _e
    · exact ⟨pin_laid_unicode_utf8_first, by kernel_rfl⟩) fits1
theorem writePutsUpto_row_tie : Rows.writePutsUptoRow.laidByTextAt .later Tryd.pinned [.data, .data, .data, .data, .wider, .data, .data, .data, .data, .data, .wider, .wider, .wider, .wider, .pinned] true :=
  OpenClaim.laidByTextAt_pinned rfl rfl tie2 rfl rfl rfl rfl (fun y hy _e => by
    simp only [Rows.writePutsUptoRow, List.zip_cons_cons, List.zip_nil_right, List.mem_cons, List.mem_nil_iff, or_false] at hy
    rcases hy with rfl | rfl | rfl | rfl | rfl | rfl | rfl | rfl | rfl | rfl | rfl | rfl | rfl | rfl | rfl
    · cases _e
    · cases _e
    · cases _e
    · cases _e
    · cases _e
    · cases _e
    · cases _e
    · cases _e
    · cases _e
    · cases _e
    · cases _e
    · cases _e
    · cases _e
    · cases _e
    · exact ⟨pin_laid_unicode_utf8_first, by kernel_rfl⟩) fits2
theorem writeJoinsUpto_row_tie : Rows.writeJoinsUptoRow.laidByTextAt .later Tryd.pinned [.data, .data, .data, .data, .wider, .data, .data, .data, .data, .data, .wider, .wider, .wider, .wider, .pinned] true :=
  OpenClaim.laidByTextAt_pinned rfl rfl tie2 rfl rfl rfl rfl (fun y hy _e => by
    simp only [Rows.writeJoinsUptoRow, List.zip_cons_cons, List.zip_nil_right, List.mem_cons, List.mem_nil_iff, or_false] at hy
    rcases hy with rfl | rfl | rfl | rfl | rfl | rfl | rfl | rfl | rfl | rfl | rfl | rfl | rfl | rfl | rfl
    · cases _e
    · cases _e
    · cases _e
    · cases _e
    · cases _e
    · cases _e
    · cases _e
    · cases _e
    · cases _e
    · cases _e
    · cases _e
    · cases _e
    · cases _e
    · cases _e
    · exact ⟨pin_laid_unicode_utf8_first, by kernel_rfl⟩) fits2
theorem writeShortUpto_row_tie : Rows.writeShortUptoRow.laidByTextAt .later Tryd.pinned [.data, .data, .data, .data, .wider, .data, .data, .data, .data, .data, .wider, .wider, .wider, .wider, .pinned] true :=
  OpenClaim.laidByTextAt_pinned rfl rfl tie2 rfl rfl rfl rfl (fun y hy _e => by
    simp only [Rows.writeShortUptoRow, List.zip_cons_cons, List.zip_nil_right, List.mem_cons, List.mem_nil_iff, or_false] at hy
    rcases hy with rfl | rfl | rfl | rfl | rfl | rfl | rfl | rfl | rfl | rfl | rfl | rfl | rfl | rfl | rfl
    · cases _e
    · cases _e
    · cases _e
    · cases _e
    · cases _e
    · cases _e
    · cases _e
    · cases _e
    · cases _e
    · cases _e
    · cases _e
    · cases _e
    · cases _e
    · cases _e
    · exact ⟨pin_laid_unicode_utf8_first, by kernel_rfl⟩) fits2
end Go.Proofs.YtpapbnmacjoihaaDoor

/- ScriptWords: the row's tie to the program's text (the given tie is too great for one declaration: here in parts). -/
import Derived.Test.YtiagmokcjljliaaGreatDoorRows
import Derived.LaidByTextLater
import Derived.LaidOnce
import Derived.SevenTiedAt
namespace Go.Proofs.YtiagmokcjljliaaGreatDoor
open Go
set_option maxRecDepth 100000
def tieL : List (String × DataW Unit) := [("strings.asciiSpace", Rows.laid_strings_asciiSpace), ("unicode.White_Space", Rows.laid_unicode_White_Space), ("internal/strconv.uint64pow10", Rows.laid_internal_strconv_uint64pow10), ("math/bits.deBruijn32tab", Rows.laid_math_bits_deBruijn32tab), ("math/bits.deBruijn64tab", Rows.laid_math_bits_deBruijn64tab), ("strconv.ErrSyntax", Rows.laid_strconv_ErrSyntax), ("strconv.ErrRange", Rows.laid_strconv_ErrRange), ("unicode/utf8.acceptRanges", Rows.laid_unicode_utf8_acceptRanges), ("whetstone/script.kinds", Rows.laid_whetstone_script_kinds), ("whetstone/tree.names", Rows.laid_whetstone_tree_names)]
def tieK : List LaidKind := [.data, .listed, .data, .data, .data, .sentinel, .sentinel, .data, .data, .data]
theorem tie_w : Tryz.prog.worded (varsWordLater true) = true := by kernel_rfl
theorem tie_w2 : Tryz.prog.worded (varsWordLater !true) = false := by kernel_rfl
theorem tie_root : Tryz.prog.worded rootWordLater = true := by kernel_rfl
theorem tie_kinds : tieL.map (fun x => Tryz.prog.kindOfLater x.1) = tieK.map some := by kernel_rfl
theorem tie_vars : (Tryz.prog.funcNamed "gosem.cut.vars").isSome = true := by kernel_rfl
theorem tie_named : varsNamedLaterB Tryz.prog (varsId Tryz.prog) tieL = true := by kernel_rfl
theorem tie_run : ∀ os tape, doorLeaves Tryz.prog 400 8 300 tieL os tape = some (tieL.filter fun x => x.2.handleName?.isNone, (funcsListed tieL).map (·.2.funcsOut)) := fun _ _ => by kernel_rfl
theorem tieS : Tryz.prog.laidByTextLater tieL tieK true := Program.laidByTextLater_by_one 400 8 300 tie_w tie_w2 tie_root tie_kinds tie_vars tie_named tie_run
theorem tieS' : Tryz.prog.laidByTextLater [("strings.asciiSpace", Rows.laid_strings_asciiSpace), ("unicode.White_Space", Rows.laid_unicode_White_Space), ("internal/strconv.uint64pow10", Rows.laid_internal_strconv_uint64pow10), ("math/bits.deBruijn32tab", Rows.laid_math_bits_deBruijn32tab), ("math/bits.deBruijn64tab", Rows.laid_math_bits_deBruijn64tab), ("strconv.ErrSyntax", Rows.laid_strconv_ErrSyntax), ("strconv.ErrRange", Rows.laid_strconv_ErrRange), ("unicode/utf8.acceptRanges", Rows.laid_unicode_utf8_acceptRanges), ("whetstone/script.kinds", Rows.laid_whetstone_script_kinds), ("whetstone/tree.names", Rows.laid_whetstone_tree_names)] [.data, .listed, .data, .data, .data, .sentinel, .sentinel, .data, .data, .data] true := tieS
theorem pin0 : Tryz.pinned.checked.prog.pinnedFits "unicode/utf8.first" = true := by kernel_rfl
theorem noUnsafe : Tryz.pinned.checked.prog.headLifts.contains "ownunsafe" = false := by kernel_rfl
theorem fitsS : Tryz.pinned.checked.prog.listedFits [("strings.asciiSpace", Rows.laid_strings_asciiSpace), ("unicode.White_Space", Rows.laid_unicode_White_Space), ("internal/strconv.uint64pow10", Rows.laid_internal_strconv_uint64pow10), ("math/bits.deBruijn32tab", Rows.laid_math_bits_deBruijn32tab), ("math/bits.deBruijn64tab", Rows.laid_math_bits_deBruijn64tab), ("strconv.ErrSyntax", Rows.laid_strconv_ErrSyntax), ("strconv.ErrRange", Rows.laid_strconv_ErrRange), ("unicode/utf8.first", Rows.laid_unicode_utf8_first), ("unicode/utf8.acceptRanges", Rows.laid_unicode_utf8_acceptRanges), ("whetstone/script.kinds", Rows.laid_whetstone_script_kinds), ("whetstone/tree.names", Rows.laid_whetstone_tree_names)] = true := by
  unfold Program.listedFits
  rw [noUnsafe]
  kernel_rfl
theorem rowTie : Rows.scriptWordsRow.laidByTextAt .later Tryz.pinned [.data, .listed, .data, .data, .data, .sentinel, .sentinel, .pinned, .data, .data, .data] true :=
  OpenClaim.laidByTextAt_pinned rfl rfl tieS' rfl rfl rfl rfl (fun y hy _e => by
    simp only [Rows.scriptWordsRow, List.zip_cons_cons, List.zip_nil_right, List.mem_cons, List.mem_nil_iff, or_false] at hy
    rcases hy with rfl | rfl | rfl | rfl | rfl | rfl | rfl | rfl | rfl | rfl | rfl
    · cases _e
    · cases _e
    · cases _e
    · cases _e
    · cases _e
    · cases _e
    · cases _e
    · exact ⟨pin0, by kernel_rfl⟩
    · cases _e
    · cases _e
    · cases _e) fitsS
end Go.Proofs.YtiagmokcjljliaaGreatDoor

/-
  NARROWER THAN 'FOR EVERY INPUT', by the rows' own cells (each row's printed sentence says how): HeadParses: laid · HeadPuts: laid · HeadSums: laid · HeadCuts: laid · HeadZero: laid · HeadFree: laid · WritePuts: laid · WriteJoins: laid · WriteShort: laid.
  DERIVED. THE GIVEN ROWS OF THIS SEAT. 9 by the template 'for every input the law returns true; each argument reads behind the call as it read before'; 0 by the template 'total and deterministic' (their statements: YtpapbnmacjoihaaDoorTotals.lean).
  GIVEN WITH THE SEED: the statements are not yours to turn. If you find one false, say at which input.
  Laid BY PROGRAM, IN A SANDBOX (cutbox-rows.mjs): the forced cells as the released guide's own fill.sh prints them over the translation 135288e783d709a7… (all of the seat's roots in one cut). By AI agents, Wed Nov 11 2026. No macro, syntax, notation, axiom, sorry.
-/
import Derived.Test.YtpapbnmacjoihaaDoorChecked
import GoSem.PinnedTables
import GoSem.Claim
import GoSem.ClaimJoined
import GoSem.ClaimMapViews
import Derived.JoinedTies
import Derived.KernelRfl
namespace Go.Proofs.YtpapbnmacjoihaaDoor
/- THE CELL 'sum', in the pinned program and in every row, IS THE sha256 OF THE DUMP (.gsa) THAT YtpapbnmacjoihaaDoorProg.lean LOADS. Nothing in Lean hashes anything: it is a label: what it is worth is what the hold of that sum in a sandbox is worth. -/
noncomputable def Tryd.pinned : Pinned := { name := "ytpapbnmacjoihaadoor", sum := "135288e783d709a7ad9c4fb96c532c6b6867522338a4ebc6c0700ca87462e25c", checked := Tryd.checked }
namespace Rows
def none {H : Type} : Left H := { results := [], args := [] }

/- WHAT THE LISTED PACKAGE-LEVEL VARIABLES READ AS WHEN THE CALL BEGINS. Each datum BY PROGRAM (the guide's laid-datum.mjs) off the statement by which the dump's own 'gosem.cut.vars' lays the variable. In a bare row this is a premise. The card (YtpapbnmacjoihaaDoorCards.lean) ties it to the program's text. -/
def laid_unicode_utf8_acceptRanges {H : Type} : DataW H := .agg [.agg [.lit (.int .u8 128), .lit (.int .u8 191)], .agg [.lit (.int .u8 160), .lit (.int .u8 191)], .agg [.lit (.int .u8 128), .lit (.int .u8 159)], .agg [.lit (.int .u8 144), .lit (.int .u8 191)], .agg [.lit (.int .u8 128), .lit (.int .u8 143)], .agg [.lit (.int .u8 0), .lit (.int .u8 0)], .agg [.lit (.int .u8 0), .lit (.int .u8 0)], .agg [.lit (.int .u8 0), .lit (.int .u8 0)], .agg [.lit (.int .u8 0), .lit (.int .u8 0)], .agg [.lit (.int .u8 0), .lit (.int .u8 0)], .agg [.lit (.int .u8 0), .lit (.int .u8 0)], .agg [.lit (.int .u8 0), .lit (.int .u8 0)], .agg [.lit (.int .u8 0), .lit (.int .u8 0)], .agg [.lit (.int .u8 0), .lit (.int .u8 0)], .agg [.lit (.int .u8 0), .lit (.int .u8 0)], .agg [.lit (.int .u8 0), .lit (.int .u8 0)]]
def laid_bindle_head_name {H : Type} : DataW H := .agg [.lit (.int .i64 0), .lit (.int .i64 100)]
def laid_bindle_head_mode {H : Type} : DataW H := .agg [.lit (.int .i64 100), .lit (.int .i64 8)]
def laid_bindle_head_user {H : Type} : DataW H := .agg [.lit (.int .i64 108), .lit (.int .i64 8)]
def laid_bindle_head_group {H : Type} : DataW H := .agg [.lit (.int .i64 116), .lit (.int .i64 8)]
def laid_bindle_head_size {H : Type} : DataW H := .agg [.lit (.int .i64 124), .lit (.int .i64 12)]
def laid_bindle_head_clock {H : Type} : DataW H := .agg [.lit (.int .i64 136), .lit (.int .i64 12)]
def laid_bindle_head_sum {H : Type} : DataW H := .agg [.lit (.int .i64 148), .lit (.int .i64 8)]
def laid_bindle_head_link {H : Type} : DataW H := .agg [.lit (.int .i64 157), .lit (.int .i64 100)]
def laid_bindle_head_magic {H : Type} : DataW H := .agg [.lit (.int .i64 257), .lit (.int .i64 8)]
def laid_bindle_head_prefix {H : Type} : DataW H := .agg [.lit (.int .i64 345), .lit (.int .i64 155)]
/-- One of Go's own tables, pinned by name: the form's constant. -/
def laid_unicode_utf8_first : DataW Unit := Go.Pinned.utf8First
def laid_math_bits_deBruijn32tab {H : Type} : DataW H := .agg [.lit (.int .u8 0), .lit (.int .u8 1), .lit (.int .u8 28), .lit (.int .u8 2), .lit (.int .u8 29), .lit (.int .u8 14), .lit (.int .u8 24), .lit (.int .u8 3), .lit (.int .u8 30), .lit (.int .u8 22), .lit (.int .u8 20), .lit (.int .u8 15), .lit (.int .u8 25), .lit (.int .u8 17), .lit (.int .u8 4), .lit (.int .u8 8), .lit (.int .u8 31), .lit (.int .u8 27), .lit (.int .u8 13), .lit (.int .u8 23), .lit (.int .u8 21), .lit (.int .u8 19), .lit (.int .u8 16), .lit (.int .u8 7), .lit (.int .u8 26), .lit (.int .u8 12), .lit (.int .u8 18), .lit (.int .u8 6), .lit (.int .u8 11), .lit (.int .u8 5), .lit (.int .u8 10), .lit (.int .u8 9)]
def laid_math_bits_deBruijn64tab {H : Type} : DataW H := .agg [.lit (.int .u8 0), .lit (.int .u8 1), .lit (.int .u8 56), .lit (.int .u8 2), .lit (.int .u8 57), .lit (.int .u8 49), .lit (.int .u8 28), .lit (.int .u8 3), .lit (.int .u8 61), .lit (.int .u8 58), .lit (.int .u8 42), .lit (.int .u8 50), .lit (.int .u8 38), .lit (.int .u8 29), .lit (.int .u8 17), .lit (.int .u8 4), .lit (.int .u8 62), .lit (.int .u8 47), .lit (.int .u8 59), .lit (.int .u8 36), .lit (.int .u8 45), .lit (.int .u8 43), .lit (.int .u8 51), .lit (.int .u8 22), .lit (.int .u8 53), .lit (.int .u8 39), .lit (.int .u8 33), .lit (.int .u8 30), .lit (.int .u8 24), .lit (.int .u8 18), .lit (.int .u8 12), .lit (.int .u8 5), .lit (.int .u8 63), .lit (.int .u8 55), .lit (.int .u8 48), .lit (.int .u8 27), .lit (.int .u8 60), .lit (.int .u8 41), .lit (.int .u8 37), .lit (.int .u8 16), .lit (.int .u8 46), .lit (.int .u8 35), .lit (.int .u8 44), .lit (.int .u8 21), .lit (.int .u8 52), .lit (.int .u8 32), .lit (.int .u8 23), .lit (.int .u8 11), .lit (.int .u8 54), .lit (.int .u8 26), .lit (.int .u8 40), .lit (.int .u8 15), .lit (.int .u8 34), .lit (.int .u8 20), .lit (.int .u8 31), .lit (.int .u8 10), .lit (.int .u8 25), .lit (.int .u8 14), .lit (.int .u8 19), .lit (.int .u8 9), .lit (.int .u8 13), .lit (.int .u8 8), .lit (.int .u8 7), .lit (.int .u8 6)]
def laid_internal_strconv_uint64pow10 {H : Type} : DataW H := .agg [.lit (.int .u64 1), .lit (.int .u64 10), .lit (.int .u64 100), .lit (.int .u64 1000), .lit (.int .u64 10000), .lit (.int .u64 100000), .lit (.int .u64 1000000), .lit (.int .u64 10000000), .lit (.int .u64 100000000), .lit (.int .u64 1000000000), .lit (.int .u64 10000000000), .lit (.int .u64 100000000000), .lit (.int .u64 1000000000000), .lit (.int .u64 10000000000000), .lit (.int .u64 100000000000000), .lit (.int .u64 1000000000000000), .lit (.int .u64 10000000000000000), .lit (.int .u64 100000000000000000), .lit (.int .u64 1000000000000000000), .lit (.int .u64 10000000000000000000)]

/-- 'bindlelaw04.HeadParses': WHATEVER THE INPUT: true; the input reads as it did. -/
def headParsesSpec : ChangeSpec := { name := "headParses", fn := fun _ => fun
  | [d] => { results := [.lit (.bool true)], args := [d] }
  | _ => none }
def headParsesRow : OpenClaim := { program := "ytpapbnmacjoihaadoor", sum := "135288e783d709a7ad9c4fb96c532c6b6867522338a4ebc6c0700ca87462e25c", func := "bindle/bindlelaw04.HeadParses", spec := "headParses", inPlace := ["internal/bytealg.IndexByteString", "internal/bytealg.IndexString"], named := ["bindle/head.link", "bindle/head.name", "bindle/head.prefix", "bindle/head.magic", "bindle/head.sum", "internal/bytealg.MaxLen", "bindle/head.mode", "bindle/head.user", "bindle/head.group", "bindle/head.clock", "bindle/head.size", "unicode/utf8.first", "unicode/utf8.acceptRanges"], plainKeys := false, apart := false, laid := [("unicode/utf8.acceptRanges", laid_unicode_utf8_acceptRanges), ("bindle/head.name", laid_bindle_head_name), ("bindle/head.mode", laid_bindle_head_mode), ("bindle/head.user", laid_bindle_head_user), ("bindle/head.group", laid_bindle_head_group), ("bindle/head.size", laid_bindle_head_size), ("bindle/head.clock", laid_bindle_head_clock), ("bindle/head.sum", laid_bindle_head_sum), ("bindle/head.link", laid_bindle_head_link), ("bindle/head.magic", laid_bindle_head_magic), ("bindle/head.prefix", laid_bindle_head_prefix), ("unicode/utf8.first", laid_unicode_utf8_first)] }
def HeadParsesSaid : Prop := headParsesRow.holds Tryd.pinned (OpenSpec.ofChange headParsesSpec)

/-- ITS FALSE NEIGHBOUR: 'it returns false'. Refute it at one input. -/
def headParsesWrong : ChangeSpec := { name := "headParses", fn := fun _ => fun
  | [d] => { results := [.lit (.bool false)], args := [d] }
  | _ => none }
def HeadParsesWrongFalsely : Prop := headParsesRow.holds Tryd.pinned (OpenSpec.ofChange headParsesWrong)

/-- 'bindlelaw04.HeadPuts': WHATEVER THE INPUT: true; the input reads as it did. -/
def headPutsSpec : ChangeSpec := { name := "headPuts", fn := fun _ => fun
  | [d] => { results := [.lit (.bool true)], args := [d] }
  | _ => none }
def headPutsRow : OpenClaim := { program := "ytpapbnmacjoihaadoor", sum := "135288e783d709a7ad9c4fb96c532c6b6867522338a4ebc6c0700ca87462e25c", func := "bindle/bindlelaw04.HeadPuts", spec := "headPuts", inPlace := ["internal/bytealg.IndexByteString", "internal/bytealg.IndexString"], named := ["bindle/head.link", "bindle/head.name", "bindle/head.prefix", "bindle/head.magic", "bindle/head.sum", "internal/bytealg.MaxLen", "bindle/head.mode", "bindle/head.user", "bindle/head.group", "bindle/head.clock", "bindle/head.size", "unicode/utf8.first", "unicode/utf8.acceptRanges"], plainKeys := false, apart := false, laid := [("unicode/utf8.acceptRanges", laid_unicode_utf8_acceptRanges), ("bindle/head.name", laid_bindle_head_name), ("bindle/head.mode", laid_bindle_head_mode), ("bindle/head.user", laid_bindle_head_user), ("bindle/head.group", laid_bindle_head_group), ("bindle/head.size", laid_bindle_head_size), ("bindle/head.clock", laid_bindle_head_clock), ("bindle/head.sum", laid_bindle_head_sum), ("bindle/head.link", laid_bindle_head_link), ("bindle/head.magic", laid_bindle_head_magic), ("bindle/head.prefix", laid_bindle_head_prefix), ("unicode/utf8.first", laid_unicode_utf8_first)] }
def HeadPutsSaid : Prop := headPutsRow.holds Tryd.pinned (OpenSpec.ofChange headPutsSpec)

/-- ITS FALSE NEIGHBOUR: 'it returns false'. Refute it at one input. -/
def headPutsWrong : ChangeSpec := { name := "headPuts", fn := fun _ => fun
  | [d] => { results := [.lit (.bool false)], args := [d] }
  | _ => none }
def HeadPutsWrongFalsely : Prop := headPutsRow.holds Tryd.pinned (OpenSpec.ofChange headPutsWrong)

/-- 'bindlelaw04.HeadSums': WHATEVER THE INPUT: true; the input reads as it did. -/
def headSumsSpec : ChangeSpec := { name := "headSums", fn := fun _ => fun
  | [d1, d2, d3] => { results := [.lit (.bool true)], args := [d1, d2, d3] }
  | _ => none }
def headSumsRow : OpenClaim := { program := "ytpapbnmacjoihaadoor", sum := "135288e783d709a7ad9c4fb96c532c6b6867522338a4ebc6c0700ca87462e25c", func := "bindle/bindlelaw04.HeadSums", spec := "headSums", inPlace := ["internal/bytealg.IndexByteString", "internal/bytealg.IndexString"], named := ["bindle/head.link", "bindle/head.name", "bindle/head.prefix", "bindle/head.magic", "bindle/head.sum", "internal/bytealg.MaxLen", "bindle/head.mode", "bindle/head.user", "bindle/head.group", "bindle/head.clock", "bindle/head.size", "unicode/utf8.first", "unicode/utf8.acceptRanges"], plainKeys := false, apart := false, laid := [("unicode/utf8.acceptRanges", laid_unicode_utf8_acceptRanges), ("bindle/head.name", laid_bindle_head_name), ("bindle/head.mode", laid_bindle_head_mode), ("bindle/head.user", laid_bindle_head_user), ("bindle/head.group", laid_bindle_head_group), ("bindle/head.size", laid_bindle_head_size), ("bindle/head.clock", laid_bindle_head_clock), ("bindle/head.sum", laid_bindle_head_sum), ("bindle/head.link", laid_bindle_head_link), ("bindle/head.magic", laid_bindle_head_magic), ("bindle/head.prefix", laid_bindle_head_prefix), ("unicode/utf8.first", laid_unicode_utf8_first)] }
def HeadSumsSaid : Prop := headSumsRow.holds Tryd.pinned (OpenSpec.ofChange headSumsSpec)

/-- ITS FALSE NEIGHBOUR: 'it returns false'. Refute it at one input. -/
def headSumsWrong : ChangeSpec := { name := "headSums", fn := fun _ => fun
  | [d1, d2, d3] => { results := [.lit (.bool false)], args := [d1, d2, d3] }
  | _ => none }
def HeadSumsWrongFalsely : Prop := headSumsRow.holds Tryd.pinned (OpenSpec.ofChange headSumsWrong)

/-- 'bindlelaw04.HeadCuts': WHATEVER THE INPUT: true; the input reads as it did. -/
def headCutsSpec : ChangeSpec := { name := "headCuts", fn := fun _ => fun
  | [d] => { results := [.lit (.bool true)], args := [d] }
  | _ => none }
def headCutsRow : OpenClaim := { program := "ytpapbnmacjoihaadoor", sum := "135288e783d709a7ad9c4fb96c532c6b6867522338a4ebc6c0700ca87462e25c", func := "bindle/bindlelaw04.HeadCuts", spec := "headCuts", inPlace := ["internal/bytealg.IndexByteString", "internal/bytealg.IndexString"], named := ["bindle/head.link", "bindle/head.name", "bindle/head.prefix", "bindle/head.magic", "bindle/head.sum", "internal/bytealg.MaxLen", "bindle/head.mode", "bindle/head.user", "bindle/head.group", "bindle/head.clock", "bindle/head.size", "unicode/utf8.first", "unicode/utf8.acceptRanges"], plainKeys := false, apart := false, laid := [("unicode/utf8.acceptRanges", laid_unicode_utf8_acceptRanges), ("bindle/head.name", laid_bindle_head_name), ("bindle/head.mode", laid_bindle_head_mode), ("bindle/head.user", laid_bindle_head_user), ("bindle/head.group", laid_bindle_head_group), ("bindle/head.size", laid_bindle_head_size), ("bindle/head.clock", laid_bindle_head_clock), ("bindle/head.sum", laid_bindle_head_sum), ("bindle/head.link", laid_bindle_head_link), ("bindle/head.magic", laid_bindle_head_magic), ("bindle/head.prefix", laid_bindle_head_prefix), ("unicode/utf8.first", laid_unicode_utf8_first)] }
def HeadCutsSaid : Prop := headCutsRow.holds Tryd.pinned (OpenSpec.ofChange headCutsSpec)

/-- ITS FALSE NEIGHBOUR: 'it returns false'. Refute it at one input. -/
def headCutsWrong : ChangeSpec := { name := "headCuts", fn := fun _ => fun
  | [d] => { results := [.lit (.bool false)], args := [d] }
  | _ => none }
def HeadCutsWrongFalsely : Prop := headCutsRow.holds Tryd.pinned (OpenSpec.ofChange headCutsWrong)

/-- 'bindlelaw04.HeadZero': WHATEVER THE INPUT: true; the input reads as it did. -/
def headZeroSpec : ChangeSpec := { name := "headZero", fn := fun _ => fun
  | [d1, d2, d3] => { results := [.lit (.bool true)], args := [d1, d2, d3] }
  | _ => none }
def headZeroRow : OpenClaim := { program := "ytpapbnmacjoihaadoor", sum := "135288e783d709a7ad9c4fb96c532c6b6867522338a4ebc6c0700ca87462e25c", func := "bindle/bindlelaw04.HeadZero", spec := "headZero", inPlace := ["internal/bytealg.IndexByteString", "internal/bytealg.IndexString"], named := ["bindle/head.link", "bindle/head.name", "bindle/head.prefix", "bindle/head.magic", "bindle/head.sum", "internal/bytealg.MaxLen", "bindle/head.mode", "bindle/head.user", "bindle/head.group", "bindle/head.clock", "bindle/head.size", "unicode/utf8.first", "unicode/utf8.acceptRanges"], plainKeys := false, apart := false, laid := [("unicode/utf8.acceptRanges", laid_unicode_utf8_acceptRanges), ("bindle/head.name", laid_bindle_head_name), ("bindle/head.mode", laid_bindle_head_mode), ("bindle/head.user", laid_bindle_head_user), ("bindle/head.group", laid_bindle_head_group), ("bindle/head.size", laid_bindle_head_size), ("bindle/head.clock", laid_bindle_head_clock), ("bindle/head.sum", laid_bindle_head_sum), ("bindle/head.link", laid_bindle_head_link), ("bindle/head.magic", laid_bindle_head_magic), ("bindle/head.prefix", laid_bindle_head_prefix), ("unicode/utf8.first", laid_unicode_utf8_first)] }
def HeadZeroSaid : Prop := headZeroRow.holds Tryd.pinned (OpenSpec.ofChange headZeroSpec)

/-- ITS FALSE NEIGHBOUR: 'it returns false'. Refute it at one input. -/
def headZeroWrong : ChangeSpec := { name := "headZero", fn := fun _ => fun
  | [d1, d2, d3] => { results := [.lit (.bool false)], args := [d1, d2, d3] }
  | _ => none }
def HeadZeroWrongFalsely : Prop := headZeroRow.holds Tryd.pinned (OpenSpec.ofChange headZeroWrong)

/-- 'bindlelaw04.HeadFree': WHATEVER THE INPUT: true; the input reads as it did. -/
def headFreeSpec : ChangeSpec := { name := "headFree", fn := fun _ => fun
  | [d1, d2, d3] => { results := [.lit (.bool true)], args := [d1, d2, d3] }
  | _ => none }
def headFreeRow : OpenClaim := { program := "ytpapbnmacjoihaadoor", sum := "135288e783d709a7ad9c4fb96c532c6b6867522338a4ebc6c0700ca87462e25c", func := "bindle/bindlelaw04.HeadFree", spec := "headFree", inPlace := ["internal/bytealg.IndexByteString", "internal/bytealg.IndexString"], named := ["bindle/head.link", "bindle/head.name", "bindle/head.prefix", "bindle/head.magic", "bindle/head.sum", "internal/bytealg.MaxLen", "bindle/head.mode", "bindle/head.user", "bindle/head.group", "bindle/head.clock", "bindle/head.size", "unicode/utf8.first", "unicode/utf8.acceptRanges"], plainKeys := false, apart := false, laid := [("unicode/utf8.acceptRanges", laid_unicode_utf8_acceptRanges), ("bindle/head.name", laid_bindle_head_name), ("bindle/head.mode", laid_bindle_head_mode), ("bindle/head.user", laid_bindle_head_user), ("bindle/head.group", laid_bindle_head_group), ("bindle/head.size", laid_bindle_head_size), ("bindle/head.clock", laid_bindle_head_clock), ("bindle/head.sum", laid_bindle_head_sum), ("bindle/head.link", laid_bindle_head_link), ("bindle/head.magic", laid_bindle_head_magic), ("bindle/head.prefix", laid_bindle_head_prefix), ("unicode/utf8.first", laid_unicode_utf8_first)] }
def HeadFreeSaid : Prop := headFreeRow.holds Tryd.pinned (OpenSpec.ofChange headFreeSpec)

/-- ITS FALSE NEIGHBOUR: 'it returns false'. Refute it at one input. -/
def headFreeWrong : ChangeSpec := { name := "headFree", fn := fun _ => fun
  | [d1, d2, d3] => { results := [.lit (.bool false)], args := [d1, d2, d3] }
  | _ => none }
def HeadFreeWrongFalsely : Prop := headFreeRow.holds Tryd.pinned (OpenSpec.ofChange headFreeWrong)

/-- 'bindlelaw09.WritePuts': WHATEVER THE INPUT: true; the input reads as it did. -/
def writePutsSpec : ChangeSpec := { name := "writePuts", fn := fun _ => fun
  | [d] => { results := [.lit (.bool true)], args := [d] }
  | _ => none }
def writePutsRow : OpenClaim := { program := "ytpapbnmacjoihaadoor", sum := "135288e783d709a7ad9c4fb96c532c6b6867522338a4ebc6c0700ca87462e25c", func := "bindle/bindlelaw09.WritePuts", spec := "writePuts", inPlace := ["internal/bytealg.IndexByteString", "internal/bytealg.IndexString", "internal/abi.NoEscape", "internal/bytealg.MakeNoZero"], unfollowed := true, recurses := true, named := ["unicode/utf8.first", "unicode/utf8.acceptRanges", "internal/bytealg.MaxLen", "bindle/head.name", "bindle/head.prefix", "internal/strconv.uint64pow10", "math/bits.deBruijn32tab", "math/bits.deBruijn64tab", "bindle/head.link", "bindle/head.magic", "bindle/head.sum", "bindle/head.mode", "bindle/head.user", "bindle/head.group", "bindle/head.clock", "bindle/head.size"], plainKeys := false, apart := false, laid := [("math/bits.deBruijn32tab", laid_math_bits_deBruijn32tab), ("math/bits.deBruijn64tab", laid_math_bits_deBruijn64tab), ("internal/strconv.uint64pow10", laid_internal_strconv_uint64pow10), ("unicode/utf8.acceptRanges", laid_unicode_utf8_acceptRanges), ("bindle/head.name", laid_bindle_head_name), ("bindle/head.mode", laid_bindle_head_mode), ("bindle/head.user", laid_bindle_head_user), ("bindle/head.group", laid_bindle_head_group), ("bindle/head.size", laid_bindle_head_size), ("bindle/head.clock", laid_bindle_head_clock), ("bindle/head.sum", laid_bindle_head_sum), ("bindle/head.link", laid_bindle_head_link), ("bindle/head.magic", laid_bindle_head_magic), ("bindle/head.prefix", laid_bindle_head_prefix), ("unicode/utf8.first", laid_unicode_utf8_first)] }
def WritePutsSaid : Prop := writePutsRow.holds Tryd.pinned (OpenSpec.ofChange writePutsSpec)

/-- ITS FALSE NEIGHBOUR: 'it returns false'. Refute it at one input. -/
def writePutsWrong : ChangeSpec := { name := "writePuts", fn := fun _ => fun
  | [d] => { results := [.lit (.bool false)], args := [d] }
  | _ => none }
def WritePutsWrongFalsely : Prop := writePutsRow.holds Tryd.pinned (OpenSpec.ofChange writePutsWrong)

/-- 'bindlelaw09.WriteJoins': WHATEVER THE INPUT: true; the input reads as it did. -/
def writeJoinsSpec : ChangeSpec := { name := "writeJoins", fn := fun _ => fun
  | [d1, d2] => { results := [.lit (.bool true)], args := [d1, d2] }
  | _ => none }
def writeJoinsRow : OpenClaim := { program := "ytpapbnmacjoihaadoor", sum := "135288e783d709a7ad9c4fb96c532c6b6867522338a4ebc6c0700ca87462e25c", func := "bindle/bindlelaw09.WriteJoins", spec := "writeJoins", inPlace := ["internal/bytealg.IndexByteString", "internal/bytealg.IndexString", "internal/abi.NoEscape", "internal/bytealg.MakeNoZero"], unfollowed := true, recurses := true, named := ["unicode/utf8.first", "unicode/utf8.acceptRanges", "internal/bytealg.MaxLen", "bindle/head.name", "bindle/head.prefix", "internal/strconv.uint64pow10", "math/bits.deBruijn32tab", "math/bits.deBruijn64tab", "bindle/head.link", "bindle/head.magic", "bindle/head.sum", "bindle/head.mode", "bindle/head.user", "bindle/head.group", "bindle/head.clock", "bindle/head.size"], plainKeys := false, apart := false, laid := [("math/bits.deBruijn32tab", laid_math_bits_deBruijn32tab), ("math/bits.deBruijn64tab", laid_math_bits_deBruijn64tab), ("internal/strconv.uint64pow10", laid_internal_strconv_uint64pow10), ("unicode/utf8.acceptRanges", laid_unicode_utf8_acceptRanges), ("bindle/head.name", laid_bindle_head_name), ("bindle/head.mode", laid_bindle_head_mode), ("bindle/head.user", laid_bindle_head_user), ("bindle/head.group", laid_bindle_head_group), ("bindle/head.size", laid_bindle_head_size), ("bindle/head.clock", laid_bindle_head_clock), ("bindle/head.sum", laid_bindle_head_sum), ("bindle/head.link", laid_bindle_head_link), ("bindle/head.magic", laid_bindle_head_magic), ("bindle/head.prefix", laid_bindle_head_prefix), ("unicode/utf8.first", laid_unicode_utf8_first)] }
def WriteJoinsSaid : Prop := writeJoinsRow.holds Tryd.pinned (OpenSpec.ofChange writeJoinsSpec)

/-- ITS FALSE NEIGHBOUR: 'it returns false'. Refute it at one input. -/
def writeJoinsWrong : ChangeSpec := { name := "writeJoins", fn := fun _ => fun
  | [d1, d2] => { results := [.lit (.bool false)], args := [d1, d2] }
  | _ => none }
def WriteJoinsWrongFalsely : Prop := writeJoinsRow.holds Tryd.pinned (OpenSpec.ofChange writeJoinsWrong)

/-- 'bindlelaw09.WriteShort': WHATEVER THE INPUT: true; the input reads as it did. -/
def writeShortSpec : ChangeSpec := { name := "writeShort", fn := fun _ => fun
  | [d] => { results := [.lit (.bool true)], args := [d] }
  | _ => none }
def writeShortRow : OpenClaim := { program := "ytpapbnmacjoihaadoor", sum := "135288e783d709a7ad9c4fb96c532c6b6867522338a4ebc6c0700ca87462e25c", func := "bindle/bindlelaw09.WriteShort", spec := "writeShort", inPlace := ["internal/bytealg.IndexByteString", "internal/bytealg.IndexString", "internal/abi.NoEscape", "internal/bytealg.MakeNoZero"], unfollowed := true, recurses := true, named := ["unicode/utf8.first", "unicode/utf8.acceptRanges", "internal/bytealg.MaxLen", "bindle/head.name", "bindle/head.prefix", "internal/strconv.uint64pow10", "math/bits.deBruijn32tab", "math/bits.deBruijn64tab", "bindle/head.link", "bindle/head.magic", "bindle/head.sum", "bindle/head.mode", "bindle/head.user", "bindle/head.group", "bindle/head.clock", "bindle/head.size"], plainKeys := false, apart := false, laid := [("math/bits.deBruijn32tab", laid_math_bits_deBruijn32tab), ("math/bits.deBruijn64tab", laid_math_bits_deBruijn64tab), ("internal/strconv.uint64pow10", laid_internal_strconv_uint64pow10), ("unicode/utf8.acceptRanges", laid_unicode_utf8_acceptRanges), ("bindle/head.name", laid_bindle_head_name), ("bindle/head.mode", laid_bindle_head_mode), ("bindle/head.user", laid_bindle_head_user), ("bindle/head.group", laid_bindle_head_group), ("bindle/head.size", laid_bindle_head_size), ("bindle/head.clock", laid_bindle_head_clock), ("bindle/head.sum", laid_bindle_head_sum), ("bindle/head.link", laid_bindle_head_link), ("bindle/head.magic", laid_bindle_head_magic), ("bindle/head.prefix", laid_bindle_head_prefix), ("unicode/utf8.first", laid_unicode_utf8_first)] }
def WriteShortSaid : Prop := writeShortRow.holds Tryd.pinned (OpenSpec.ofChange writeShortSpec)

/-- ITS FALSE NEIGHBOUR: 'it returns false'. Refute it at one input. -/
def writeShortWrong : ChangeSpec := { name := "writeShort", fn := fun _ => fun
  | [d] => { results := [.lit (.bool false)], args := [d] }
  | _ => none }
def WriteShortWrongFalsely : Prop := writeShortRow.holds Tryd.pinned (OpenSpec.ofChange writeShortWrong)

/- THE SECOND FORM. 'bulk': how many values and letters a reading holds, each counted each time it is reached (what is shared counts as often as it is met; a slice's spare places count too). A statement '..UptoSaid' is the law's where the arguments, and the package variables that the reading takes, are together of bulk at most 1048576: NARROWER than '..Said'. Prove '..Said' where nothing that the law and all that it calls make is longer than what came in: it says more and counts as full. Else prove '..UptoSaid'. A law counts once. -/
mutual
def uptoBulk {H : Type} : DataW H → Nat
  | .lit (.string bytes) => bytes.length + 1
  | .lit _ => 1
  | .nil => 1
  | .ptr d => uptoBulk d + 1
  | .slice elems spare => uptoBulkAll elems + uptoBulkAll spare + 1
  | .agg parts => uptoBulkAll parts + 1
  | .iface _ d => uptoBulk d + 1
  | .map entries => uptoBulkEntries entries + 1
  | .held _ => 1
def uptoBulkAll {H : Type} : List (DataW H) → Nat
  | [] => 0
  | d :: r => uptoBulk d + uptoBulkAll r
def uptoBulkEntries {H : Type} : List (Lit × DataW H) → Nat
  | [] => 0
  | x :: r => uptoBulkEntry x + uptoBulkEntries r
def uptoBulkEntry {H : Type} : Lit × DataW H → Nat
  | (.string bytes, d) => bytes.length + uptoBulk d + 1
  | (_, d) => uptoBulk d + 1
 end
def uptoSmall : (H : Type) → List (DataW H) → Bool := fun _ ds => decide (uptoBulkAll ds ≤ 1048576)
def OpenSpec.upto (s : _root_.Go.ChangeSpec) : _root_.Go.OpenSpec := { _root_.Go.OpenSpec.ofChange s with cond := some uptoSmall }

/-- 'bindlelaw04.HeadParses', WHERE WHAT IT READS IS OF BULK AT MOST 1048576: true; the input reads as it did. -/
def headParsesUptoRow : OpenClaim := { program := "ytpapbnmacjoihaadoor", sum := "135288e783d709a7ad9c4fb96c532c6b6867522338a4ebc6c0700ca87462e25c", func := "bindle/bindlelaw04.HeadParses", spec := "headParses", inPlace := ["internal/bytealg.IndexByteString", "internal/bytealg.IndexString"], named := ["bindle/head.link", "bindle/head.name", "bindle/head.prefix", "bindle/head.magic", "bindle/head.sum", "internal/bytealg.MaxLen", "bindle/head.mode", "bindle/head.user", "bindle/head.group", "bindle/head.clock", "bindle/head.size", "unicode/utf8.first", "unicode/utf8.acceptRanges"], plainKeys := false, apart := false, laid := [("unicode/utf8.acceptRanges", laid_unicode_utf8_acceptRanges), ("bindle/head.name", laid_bindle_head_name), ("bindle/head.mode", laid_bindle_head_mode), ("bindle/head.user", laid_bindle_head_user), ("bindle/head.group", laid_bindle_head_group), ("bindle/head.size", laid_bindle_head_size), ("bindle/head.clock", laid_bindle_head_clock), ("bindle/head.sum", laid_bindle_head_sum), ("bindle/head.link", laid_bindle_head_link), ("bindle/head.magic", laid_bindle_head_magic), ("bindle/head.prefix", laid_bindle_head_prefix), ("unicode/utf8.first", laid_unicode_utf8_first)], narrowed := true }
def HeadParsesUptoSaid : Prop := headParsesUptoRow.holds Tryd.pinned (OpenSpec.upto headParsesSpec)

/-- 'bindlelaw04.HeadPuts', WHERE WHAT IT READS IS OF BULK AT MOST 1048576: true; the input reads as it did. -/
def headPutsUptoRow : OpenClaim := { program := "ytpapbnmacjoihaadoor", sum := "135288e783d709a7ad9c4fb96c532c6b6867522338a4ebc6c0700ca87462e25c", func := "bindle/bindlelaw04.HeadPuts", spec := "headPuts", inPlace := ["internal/bytealg.IndexByteString", "internal/bytealg.IndexString"], named := ["bindle/head.link", "bindle/head.name", "bindle/head.prefix", "bindle/head.magic", "bindle/head.sum", "internal/bytealg.MaxLen", "bindle/head.mode", "bindle/head.user", "bindle/head.group", "bindle/head.clock", "bindle/head.size", "unicode/utf8.first", "unicode/utf8.acceptRanges"], plainKeys := false, apart := false, laid := [("unicode/utf8.acceptRanges", laid_unicode_utf8_acceptRanges), ("bindle/head.name", laid_bindle_head_name), ("bindle/head.mode", laid_bindle_head_mode), ("bindle/head.user", laid_bindle_head_user), ("bindle/head.group", laid_bindle_head_group), ("bindle/head.size", laid_bindle_head_size), ("bindle/head.clock", laid_bindle_head_clock), ("bindle/head.sum", laid_bindle_head_sum), ("bindle/head.link", laid_bindle_head_link), ("bindle/head.magic", laid_bindle_head_magic), ("bindle/head.prefix", laid_bindle_head_prefix), ("unicode/utf8.first", laid_unicode_utf8_first)], narrowed := true }
def HeadPutsUptoSaid : Prop := headPutsUptoRow.holds Tryd.pinned (OpenSpec.upto headPutsSpec)

/-- 'bindlelaw04.HeadSums', WHERE WHAT IT READS IS OF BULK AT MOST 1048576: true; the input reads as it did. -/
def headSumsUptoRow : OpenClaim := { program := "ytpapbnmacjoihaadoor", sum := "135288e783d709a7ad9c4fb96c532c6b6867522338a4ebc6c0700ca87462e25c", func := "bindle/bindlelaw04.HeadSums", spec := "headSums", inPlace := ["internal/bytealg.IndexByteString", "internal/bytealg.IndexString"], named := ["bindle/head.link", "bindle/head.name", "bindle/head.prefix", "bindle/head.magic", "bindle/head.sum", "internal/bytealg.MaxLen", "bindle/head.mode", "bindle/head.user", "bindle/head.group", "bindle/head.clock", "bindle/head.size", "unicode/utf8.first", "unicode/utf8.acceptRanges"], plainKeys := false, apart := false, laid := [("unicode/utf8.acceptRanges", laid_unicode_utf8_acceptRanges), ("bindle/head.name", laid_bindle_head_name), ("bindle/head.mode", laid_bindle_head_mode), ("bindle/head.user", laid_bindle_head_user), ("bindle/head.group", laid_bindle_head_group), ("bindle/head.size", laid_bindle_head_size), ("bindle/head.clock", laid_bindle_head_clock), ("bindle/head.sum", laid_bindle_head_sum), ("bindle/head.link", laid_bindle_head_link), ("bindle/head.magic", laid_bindle_head_magic), ("bindle/head.prefix", laid_bindle_head_prefix), ("unicode/utf8.first", laid_unicode_utf8_first)], narrowed := true }
def HeadSumsUptoSaid : Prop := headSumsUptoRow.holds Tryd.pinned (OpenSpec.upto headSumsSpec)

/-- 'bindlelaw04.HeadCuts', WHERE WHAT IT READS IS OF BULK AT MOST 1048576: true; the input reads as it did. -/
def headCutsUptoRow : OpenClaim := { program := "ytpapbnmacjoihaadoor", sum := "135288e783d709a7ad9c4fb96c532c6b6867522338a4ebc6c0700ca87462e25c", func := "bindle/bindlelaw04.HeadCuts", spec := "headCuts", inPlace := ["internal/bytealg.IndexByteString", "internal/bytealg.IndexString"], named := ["bindle/head.link", "bindle/head.name", "bindle/head.prefix", "bindle/head.magic", "bindle/head.sum", "internal/bytealg.MaxLen", "bindle/head.mode", "bindle/head.user", "bindle/head.group", "bindle/head.clock", "bindle/head.size", "unicode/utf8.first", "unicode/utf8.acceptRanges"], plainKeys := false, apart := false, laid := [("unicode/utf8.acceptRanges", laid_unicode_utf8_acceptRanges), ("bindle/head.name", laid_bindle_head_name), ("bindle/head.mode", laid_bindle_head_mode), ("bindle/head.user", laid_bindle_head_user), ("bindle/head.group", laid_bindle_head_group), ("bindle/head.size", laid_bindle_head_size), ("bindle/head.clock", laid_bindle_head_clock), ("bindle/head.sum", laid_bindle_head_sum), ("bindle/head.link", laid_bindle_head_link), ("bindle/head.magic", laid_bindle_head_magic), ("bindle/head.prefix", laid_bindle_head_prefix), ("unicode/utf8.first", laid_unicode_utf8_first)], narrowed := true }
def HeadCutsUptoSaid : Prop := headCutsUptoRow.holds Tryd.pinned (OpenSpec.upto headCutsSpec)

/-- 'bindlelaw04.HeadZero', WHERE WHAT IT READS IS OF BULK AT MOST 1048576: true; the input reads as it did. -/
def headZeroUptoRow : OpenClaim := { program := "ytpapbnmacjoihaadoor", sum := "135288e783d709a7ad9c4fb96c532c6b6867522338a4ebc6c0700ca87462e25c", func := "bindle/bindlelaw04.HeadZero", spec := "headZero", inPlace := ["internal/bytealg.IndexByteString", "internal/bytealg.IndexString"], named := ["bindle/head.link", "bindle/head.name", "bindle/head.prefix", "bindle/head.magic", "bindle/head.sum", "internal/bytealg.MaxLen", "bindle/head.mode", "bindle/head.user", "bindle/head.group", "bindle/head.clock", "bindle/head.size", "unicode/utf8.first", "unicode/utf8.acceptRanges"], plainKeys := false, apart := false, laid := [("unicode/utf8.acceptRanges", laid_unicode_utf8_acceptRanges), ("bindle/head.name", laid_bindle_head_name), ("bindle/head.mode", laid_bindle_head_mode), ("bindle/head.user", laid_bindle_head_user), ("bindle/head.group", laid_bindle_head_group), ("bindle/head.size", laid_bindle_head_size), ("bindle/head.clock", laid_bindle_head_clock), ("bindle/head.sum", laid_bindle_head_sum), ("bindle/head.link", laid_bindle_head_link), ("bindle/head.magic", laid_bindle_head_magic), ("bindle/head.prefix", laid_bindle_head_prefix), ("unicode/utf8.first", laid_unicode_utf8_first)], narrowed := true }
def HeadZeroUptoSaid : Prop := headZeroUptoRow.holds Tryd.pinned (OpenSpec.upto headZeroSpec)

/-- 'bindlelaw04.HeadFree', WHERE WHAT IT READS IS OF BULK AT MOST 1048576: true; the input reads as it did. -/
def headFreeUptoRow : OpenClaim := { program := "ytpapbnmacjoihaadoor", sum := "135288e783d709a7ad9c4fb96c532c6b6867522338a4ebc6c0700ca87462e25c", func := "bindle/bindlelaw04.HeadFree", spec := "headFree", inPlace := ["internal/bytealg.IndexByteString", "internal/bytealg.IndexString"], named := ["bindle/head.link", "bindle/head.name", "bindle/head.prefix", "bindle/head.magic", "bindle/head.sum", "internal/bytealg.MaxLen", "bindle/head.mode", "bindle/head.user", "bindle/head.group", "bindle/head.clock", "bindle/head.size", "unicode/utf8.first", "unicode/utf8.acceptRanges"], plainKeys := false, apart := false, laid := [("unicode/utf8.acceptRanges", laid_unicode_utf8_acceptRanges), ("bindle/head.name", laid_bindle_head_name), ("bindle/head.mode", laid_bindle_head_mode), ("bindle/head.user", laid_bindle_head_user), ("bindle/head.group", laid_bindle_head_group), ("bindle/head.size", laid_bindle_head_size), ("bindle/head.clock", laid_bindle_head_clock), ("bindle/head.sum", laid_bindle_head_sum), ("bindle/head.link", laid_bindle_head_link), ("bindle/head.magic", laid_bindle_head_magic), ("bindle/head.prefix", laid_bindle_head_prefix), ("unicode/utf8.first", laid_unicode_utf8_first)], narrowed := true }
def HeadFreeUptoSaid : Prop := headFreeUptoRow.holds Tryd.pinned (OpenSpec.upto headFreeSpec)

/-- 'bindlelaw09.WritePuts', WHERE WHAT IT READS IS OF BULK AT MOST 1048576: true; the input reads as it did. -/
def writePutsUptoRow : OpenClaim := { program := "ytpapbnmacjoihaadoor", sum := "135288e783d709a7ad9c4fb96c532c6b6867522338a4ebc6c0700ca87462e25c", func := "bindle/bindlelaw09.WritePuts", spec := "writePuts", inPlace := ["internal/bytealg.IndexByteString", "internal/bytealg.IndexString", "internal/abi.NoEscape", "internal/bytealg.MakeNoZero"], unfollowed := true, recurses := true, named := ["unicode/utf8.first", "unicode/utf8.acceptRanges", "internal/bytealg.MaxLen", "bindle/head.name", "bindle/head.prefix", "internal/strconv.uint64pow10", "math/bits.deBruijn32tab", "math/bits.deBruijn64tab", "bindle/head.link", "bindle/head.magic", "bindle/head.sum", "bindle/head.mode", "bindle/head.user", "bindle/head.group", "bindle/head.clock", "bindle/head.size"], plainKeys := false, apart := false, laid := [("math/bits.deBruijn32tab", laid_math_bits_deBruijn32tab), ("math/bits.deBruijn64tab", laid_math_bits_deBruijn64tab), ("internal/strconv.uint64pow10", laid_internal_strconv_uint64pow10), ("unicode/utf8.acceptRanges", laid_unicode_utf8_acceptRanges), ("bindle/head.name", laid_bindle_head_name), ("bindle/head.mode", laid_bindle_head_mode), ("bindle/head.user", laid_bindle_head_user), ("bindle/head.group", laid_bindle_head_group), ("bindle/head.size", laid_bindle_head_size), ("bindle/head.clock", laid_bindle_head_clock), ("bindle/head.sum", laid_bindle_head_sum), ("bindle/head.link", laid_bindle_head_link), ("bindle/head.magic", laid_bindle_head_magic), ("bindle/head.prefix", laid_bindle_head_prefix), ("unicode/utf8.first", laid_unicode_utf8_first)], narrowed := true }
def WritePutsUptoSaid : Prop := writePutsUptoRow.holds Tryd.pinned (OpenSpec.upto writePutsSpec)

/-- 'bindlelaw09.WriteJoins', WHERE WHAT IT READS IS OF BULK AT MOST 1048576: true; the input reads as it did. -/
def writeJoinsUptoRow : OpenClaim := { program := "ytpapbnmacjoihaadoor", sum := "135288e783d709a7ad9c4fb96c532c6b6867522338a4ebc6c0700ca87462e25c", func := "bindle/bindlelaw09.WriteJoins", spec := "writeJoins", inPlace := ["internal/bytealg.IndexByteString", "internal/bytealg.IndexString", "internal/abi.NoEscape", "internal/bytealg.MakeNoZero"], unfollowed := true, recurses := true, named := ["unicode/utf8.first", "unicode/utf8.acceptRanges", "internal/bytealg.MaxLen", "bindle/head.name", "bindle/head.prefix", "internal/strconv.uint64pow10", "math/bits.deBruijn32tab", "math/bits.deBruijn64tab", "bindle/head.link", "bindle/head.magic", "bindle/head.sum", "bindle/head.mode", "bindle/head.user", "bindle/head.group", "bindle/head.clock", "bindle/head.size"], plainKeys := false, apart := false, laid := [("math/bits.deBruijn32tab", laid_math_bits_deBruijn32tab), ("math/bits.deBruijn64tab", laid_math_bits_deBruijn64tab), ("internal/strconv.uint64pow10", laid_internal_strconv_uint64pow10), ("unicode/utf8.acceptRanges", laid_unicode_utf8_acceptRanges), ("bindle/head.name", laid_bindle_head_name), ("bindle/head.mode", laid_bindle_head_mode), ("bindle/head.user", laid_bindle_head_user), ("bindle/head.group", laid_bindle_head_group), ("bindle/head.size", laid_bindle_head_size), ("bindle/head.clock", laid_bindle_head_clock), ("bindle/head.sum", laid_bindle_head_sum), ("bindle/head.link", laid_bindle_head_link), ("bindle/head.magic", laid_bindle_head_magic), ("bindle/head.prefix", laid_bindle_head_prefix), ("unicode/utf8.first", laid_unicode_utf8_first)], narrowed := true }
def WriteJoinsUptoSaid : Prop := writeJoinsUptoRow.holds Tryd.pinned (OpenSpec.upto writeJoinsSpec)

/-- 'bindlelaw09.WriteShort', WHERE WHAT IT READS IS OF BULK AT MOST 1048576: true; the input reads as it did. -/
def writeShortUptoRow : OpenClaim := { program := "ytpapbnmacjoihaadoor", sum := "135288e783d709a7ad9c4fb96c532c6b6867522338a4ebc6c0700ca87462e25c", func := "bindle/bindlelaw09.WriteShort", spec := "writeShort", inPlace := ["internal/bytealg.IndexByteString", "internal/bytealg.IndexString", "internal/abi.NoEscape", "internal/bytealg.MakeNoZero"], unfollowed := true, recurses := true, named := ["unicode/utf8.first", "unicode/utf8.acceptRanges", "internal/bytealg.MaxLen", "bindle/head.name", "bindle/head.prefix", "internal/strconv.uint64pow10", "math/bits.deBruijn32tab", "math/bits.deBruijn64tab", "bindle/head.link", "bindle/head.magic", "bindle/head.sum", "bindle/head.mode", "bindle/head.user", "bindle/head.group", "bindle/head.clock", "bindle/head.size"], plainKeys := false, apart := false, laid := [("math/bits.deBruijn32tab", laid_math_bits_deBruijn32tab), ("math/bits.deBruijn64tab", laid_math_bits_deBruijn64tab), ("internal/strconv.uint64pow10", laid_internal_strconv_uint64pow10), ("unicode/utf8.acceptRanges", laid_unicode_utf8_acceptRanges), ("bindle/head.name", laid_bindle_head_name), ("bindle/head.mode", laid_bindle_head_mode), ("bindle/head.user", laid_bindle_head_user), ("bindle/head.group", laid_bindle_head_group), ("bindle/head.size", laid_bindle_head_size), ("bindle/head.clock", laid_bindle_head_clock), ("bindle/head.sum", laid_bindle_head_sum), ("bindle/head.link", laid_bindle_head_link), ("bindle/head.magic", laid_bindle_head_magic), ("bindle/head.prefix", laid_bindle_head_prefix), ("unicode/utf8.first", laid_unicode_utf8_first)], narrowed := true }
def WriteShortUptoSaid : Prop := writeShortUptoRow.holds Tryd.pinned (OpenSpec.upto writeShortSpec)

end Rows
end Go.Proofs.YtpapbnmacjoihaaDoor

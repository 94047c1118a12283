/-
  NARROWER THAN 'FOR EVERY INPUT', by the rows' own cells (each row's printed sentence says how): AsmReads: laid · AsmPrints: laid · AsmLines: laid · AsmBack: laid · AsmFix: laid · AsmWord: laid · AsmBlanks: laid · AsmRenamed: laid.
  DERIVED. THE GIVEN ROWS OF THIS SEAT. 8 by the template 'for every input the law returns true; each argument reads behind the call as it read before'; 0 by the template 'total and deterministic' (their statements: YtabmlbnnhhpaoaaGreatDoorTotals.lean).
  GIVEN WITH THE SEED: the statements are not yours to turn. If you find one false, say at which input.
  Laid BY PROGRAM, IN A SANDBOX (cutbox-rows.mjs): the forced cells as the released guide's own fill.sh prints them over the translation d53ecd30ece5c22e… (all of the seat's roots in one cut). By AI agents, Wed Nov 11 2026. No macro, syntax, notation, axiom, sorry.
-/
import Derived.Test.YtabmlbnnhhpaoaaGreatDoorChecked
import GoSem.PinnedTables
import GoSem.Claim
import GoSem.ClaimJoined
import GoSem.ClaimMapViews
import Derived.JoinedTies
import Derived.KernelRfl
namespace Go.Proofs.YtabmlbnnhhpaoaaGreatDoor
/- THE CELL 'sum', in the pinned program and in every row, IS THE sha256 OF THE DUMP (.gsa) THAT YtabmlbnnhhpaoaaGreatDoorProg.lean LOADS. Nothing in Lean hashes anything: it is a label: what it is worth is what the hold of that sum in a sandbox is worth. -/
noncomputable def Tryz.pinned : Pinned := { name := "ytabmlbnnhhpaoaagreatdoor", sum := "d53ecd30ece5c22e081a9c71a59081bdb9336af3efeed9808fe4ad7ca8af532d", checked := Tryz.checked }
namespace Rows
def none {H : Type} : Left H := { results := [], args := [] }

/- WHAT THE LISTED PACKAGE-LEVEL VARIABLES READ AS WHEN THE CALL BEGINS. Each datum BY PROGRAM (the guide's laid-datum.mjs) off the statement by which the dump's own 'gosem.cut.vars' lays the variable. In a bare row this is a premise. The card (YtabmlbnnhhpaoaaGreatDoorCards.lean) ties it to the program's text. -/
def laid_math_bits_deBruijn32tab {H : Type} : DataW H := .agg [.lit (.int .u8 0), .lit (.int .u8 1), .lit (.int .u8 28), .lit (.int .u8 2), .lit (.int .u8 29), .lit (.int .u8 14), .lit (.int .u8 24), .lit (.int .u8 3), .lit (.int .u8 30), .lit (.int .u8 22), .lit (.int .u8 20), .lit (.int .u8 15), .lit (.int .u8 25), .lit (.int .u8 17), .lit (.int .u8 4), .lit (.int .u8 8), .lit (.int .u8 31), .lit (.int .u8 27), .lit (.int .u8 13), .lit (.int .u8 23), .lit (.int .u8 21), .lit (.int .u8 19), .lit (.int .u8 16), .lit (.int .u8 7), .lit (.int .u8 26), .lit (.int .u8 12), .lit (.int .u8 18), .lit (.int .u8 6), .lit (.int .u8 11), .lit (.int .u8 5), .lit (.int .u8 10), .lit (.int .u8 9)]
def laid_math_bits_deBruijn64tab {H : Type} : DataW H := .agg [.lit (.int .u8 0), .lit (.int .u8 1), .lit (.int .u8 56), .lit (.int .u8 2), .lit (.int .u8 57), .lit (.int .u8 49), .lit (.int .u8 28), .lit (.int .u8 3), .lit (.int .u8 61), .lit (.int .u8 58), .lit (.int .u8 42), .lit (.int .u8 50), .lit (.int .u8 38), .lit (.int .u8 29), .lit (.int .u8 17), .lit (.int .u8 4), .lit (.int .u8 62), .lit (.int .u8 47), .lit (.int .u8 59), .lit (.int .u8 36), .lit (.int .u8 45), .lit (.int .u8 43), .lit (.int .u8 51), .lit (.int .u8 22), .lit (.int .u8 53), .lit (.int .u8 39), .lit (.int .u8 33), .lit (.int .u8 30), .lit (.int .u8 24), .lit (.int .u8 18), .lit (.int .u8 12), .lit (.int .u8 5), .lit (.int .u8 63), .lit (.int .u8 55), .lit (.int .u8 48), .lit (.int .u8 27), .lit (.int .u8 60), .lit (.int .u8 41), .lit (.int .u8 37), .lit (.int .u8 16), .lit (.int .u8 46), .lit (.int .u8 35), .lit (.int .u8 44), .lit (.int .u8 21), .lit (.int .u8 52), .lit (.int .u8 32), .lit (.int .u8 23), .lit (.int .u8 11), .lit (.int .u8 54), .lit (.int .u8 26), .lit (.int .u8 40), .lit (.int .u8 15), .lit (.int .u8 34), .lit (.int .u8 20), .lit (.int .u8 31), .lit (.int .u8 10), .lit (.int .u8 25), .lit (.int .u8 14), .lit (.int .u8 19), .lit (.int .u8 9), .lit (.int .u8 13), .lit (.int .u8 8), .lit (.int .u8 7), .lit (.int .u8 6)]
def laid_internal_strconv_uint64pow10 {H : Type} : DataW H := .agg [.lit (.int .u64 1), .lit (.int .u64 10), .lit (.int .u64 100), .lit (.int .u64 1000), .lit (.int .u64 10000), .lit (.int .u64 100000), .lit (.int .u64 1000000), .lit (.int .u64 10000000), .lit (.int .u64 100000000), .lit (.int .u64 1000000000), .lit (.int .u64 10000000000), .lit (.int .u64 100000000000), .lit (.int .u64 1000000000000), .lit (.int .u64 10000000000000), .lit (.int .u64 100000000000000), .lit (.int .u64 1000000000000000), .lit (.int .u64 10000000000000000), .lit (.int .u64 100000000000000000), .lit (.int .u64 1000000000000000000), .lit (.int .u64 10000000000000000000)]
def laid_unicode_utf8_acceptRanges {H : Type} : DataW H := .agg [.agg [.lit (.int .u8 128), .lit (.int .u8 191)], .agg [.lit (.int .u8 160), .lit (.int .u8 191)], .agg [.lit (.int .u8 128), .lit (.int .u8 159)], .agg [.lit (.int .u8 144), .lit (.int .u8 191)], .agg [.lit (.int .u8 128), .lit (.int .u8 143)], .agg [.lit (.int .u8 0), .lit (.int .u8 0)], .agg [.lit (.int .u8 0), .lit (.int .u8 0)], .agg [.lit (.int .u8 0), .lit (.int .u8 0)], .agg [.lit (.int .u8 0), .lit (.int .u8 0)], .agg [.lit (.int .u8 0), .lit (.int .u8 0)], .agg [.lit (.int .u8 0), .lit (.int .u8 0)], .agg [.lit (.int .u8 0), .lit (.int .u8 0)], .agg [.lit (.int .u8 0), .lit (.int .u8 0)], .agg [.lit (.int .u8 0), .lit (.int .u8 0)], .agg [.lit (.int .u8 0), .lit (.int .u8 0)], .agg [.lit (.int .u8 0), .lit (.int .u8 0)]]
def laid_cloister_isa_layouts {H : Type} : DataW H := .agg [.agg [.lit (.int .i64 0), .lit (.int .i64 0), .lit (.int .i64 0), .lit (.int .i64 0)], .agg [.lit (.int .i64 22), .lit (.int .i64 18), .lit (.int .i64 14), .lit (.int .i64 0)], .agg [.lit (.int .i64 22), .lit (.int .i64 18), .lit (.int .i64 (-1)), .lit (.int .i64 18)], .agg [.lit (.int .i64 (-1)), .lit (.int .i64 22), .lit (.int .i64 18), .lit (.int .i64 18)], .agg [.lit (.int .i64 22), .lit (.int .i64 (-1)), .lit (.int .i64 (-1)), .lit (.int .i64 22)], .agg [.lit (.int .i64 22), .lit (.int .i64 (-1)), .lit (.int .i64 (-1)), .lit (.int .i64 0)], .agg [.lit (.int .i64 (-1)), .lit (.int .i64 22), .lit (.int .i64 (-1)), .lit (.int .i64 0)], .agg [.lit (.int .i64 (-1)), .lit (.int .i64 (-1)), .lit (.int .i64 (-1)), .lit (.int .i64 26)], .agg [.lit (.int .i64 (-1)), .lit (.int .i64 (-1)), .lit (.int .i64 (-1)), .lit (.int .i64 0)]]
/-- One of Go's own tables, pinned by name: the form's constant. -/
def laid_unicode_utf8_first : DataW Unit := Go.Pinned.utf8First

/-- 'cloisterlaw11.AsmReads': WHATEVER THE INPUT: true; the input reads as it did. -/
def asmReadsSpec : ChangeSpec := { name := "asmReads", fn := fun _ => fun
  | [d] => { results := [.lit (.bool true)], args := [d] }
  | _ => none }
def asmReadsRow : OpenClaim := { program := "ytabmlbnnhhpaoaagreatdoor", sum := "d53ecd30ece5c22e081a9c71a59081bdb9336af3efeed9808fe4ad7ca8af532d", func := "cloister/cloisterlaw11.AsmReads", spec := "asmReads", inPlace := ["internal/bytealg.IndexByteString", "internal/bytealg.IndexString", "internal/abi.NoEscape", "internal/bytealg.MakeNoZero"], unfollowed := true, recurses := true, named := ["unicode/utf8.first", "unicode/utf8.acceptRanges", "internal/bytealg.MaxLen", "internal/strconv.uint64pow10", "math/bits.deBruijn32tab", "math/bits.deBruijn64tab", "cloister/isa.layouts"], apart := false, laid := [("math/bits.deBruijn32tab", laid_math_bits_deBruijn32tab), ("math/bits.deBruijn64tab", laid_math_bits_deBruijn64tab), ("internal/strconv.uint64pow10", laid_internal_strconv_uint64pow10), ("unicode/utf8.acceptRanges", laid_unicode_utf8_acceptRanges), ("cloister/isa.layouts", laid_cloister_isa_layouts), ("unicode/utf8.first", laid_unicode_utf8_first)] }
def AsmReadsSaid : Prop := asmReadsRow.holds Tryz.pinned (OpenSpec.ofChange asmReadsSpec)

/-- ITS FALSE NEIGHBOUR: 'it returns false'. Refute it at one input. -/
def asmReadsWrong : ChangeSpec := { name := "asmReads", fn := fun _ => fun
  | [d] => { results := [.lit (.bool false)], args := [d] }
  | _ => none }
def AsmReadsWrongFalsely : Prop := asmReadsRow.holds Tryz.pinned (OpenSpec.ofChange asmReadsWrong)

/-- 'cloisterlaw11.AsmPrints': WHATEVER THE INPUT: true; the input reads as it did. -/
def asmPrintsSpec : ChangeSpec := { name := "asmPrints", fn := fun _ => fun
  | [d] => { results := [.lit (.bool true)], args := [d] }
  | _ => none }
def asmPrintsRow : OpenClaim := { program := "ytabmlbnnhhpaoaagreatdoor", sum := "d53ecd30ece5c22e081a9c71a59081bdb9336af3efeed9808fe4ad7ca8af532d", func := "cloister/cloisterlaw11.AsmPrints", spec := "asmPrints", inPlace := ["internal/bytealg.IndexByteString", "internal/bytealg.IndexString", "internal/abi.NoEscape", "internal/bytealg.MakeNoZero"], unfollowed := true, recurses := true, named := ["unicode/utf8.first", "unicode/utf8.acceptRanges", "internal/bytealg.MaxLen", "internal/strconv.uint64pow10", "math/bits.deBruijn32tab", "math/bits.deBruijn64tab", "cloister/isa.layouts"], apart := false, laid := [("math/bits.deBruijn32tab", laid_math_bits_deBruijn32tab), ("math/bits.deBruijn64tab", laid_math_bits_deBruijn64tab), ("internal/strconv.uint64pow10", laid_internal_strconv_uint64pow10), ("unicode/utf8.acceptRanges", laid_unicode_utf8_acceptRanges), ("cloister/isa.layouts", laid_cloister_isa_layouts), ("unicode/utf8.first", laid_unicode_utf8_first)] }
def AsmPrintsSaid : Prop := asmPrintsRow.holds Tryz.pinned (OpenSpec.ofChange asmPrintsSpec)

/-- ITS FALSE NEIGHBOUR: 'it returns false'. Refute it at one input. -/
def asmPrintsWrong : ChangeSpec := { name := "asmPrints", fn := fun _ => fun
  | [d] => { results := [.lit (.bool false)], args := [d] }
  | _ => none }
def AsmPrintsWrongFalsely : Prop := asmPrintsRow.holds Tryz.pinned (OpenSpec.ofChange asmPrintsWrong)

/-- 'cloisterlaw11.AsmLines': WHATEVER THE INPUT: true; the input reads as it did. -/
def asmLinesSpec : ChangeSpec := { name := "asmLines", fn := fun _ => fun
  | [d1, d2] => { results := [.lit (.bool true)], args := [d1, d2] }
  | _ => none }
def asmLinesRow : OpenClaim := { program := "ytabmlbnnhhpaoaagreatdoor", sum := "d53ecd30ece5c22e081a9c71a59081bdb9336af3efeed9808fe4ad7ca8af532d", func := "cloister/cloisterlaw11.AsmLines", spec := "asmLines", inPlace := ["internal/bytealg.IndexByteString", "internal/bytealg.IndexString", "internal/abi.NoEscape", "internal/bytealg.MakeNoZero"], unfollowed := true, recurses := true, named := ["unicode/utf8.first", "unicode/utf8.acceptRanges", "internal/bytealg.MaxLen", "internal/strconv.uint64pow10", "math/bits.deBruijn32tab", "math/bits.deBruijn64tab", "cloister/isa.layouts"], apart := false, laid := [("math/bits.deBruijn32tab", laid_math_bits_deBruijn32tab), ("math/bits.deBruijn64tab", laid_math_bits_deBruijn64tab), ("internal/strconv.uint64pow10", laid_internal_strconv_uint64pow10), ("unicode/utf8.acceptRanges", laid_unicode_utf8_acceptRanges), ("cloister/isa.layouts", laid_cloister_isa_layouts), ("unicode/utf8.first", laid_unicode_utf8_first)] }
def AsmLinesSaid : Prop := asmLinesRow.holds Tryz.pinned (OpenSpec.ofChange asmLinesSpec)

/-- ITS FALSE NEIGHBOUR: 'it returns false'. Refute it at one input. -/
def asmLinesWrong : ChangeSpec := { name := "asmLines", fn := fun _ => fun
  | [d1, d2] => { results := [.lit (.bool false)], args := [d1, d2] }
  | _ => none }
def AsmLinesWrongFalsely : Prop := asmLinesRow.holds Tryz.pinned (OpenSpec.ofChange asmLinesWrong)

/-- 'cloisterlaw11.AsmBack': WHATEVER THE INPUT: true; the input reads as it did. -/
def asmBackSpec : ChangeSpec := { name := "asmBack", fn := fun _ => fun
  | [d] => { results := [.lit (.bool true)], args := [d] }
  | _ => none }
def asmBackRow : OpenClaim := { program := "ytabmlbnnhhpaoaagreatdoor", sum := "d53ecd30ece5c22e081a9c71a59081bdb9336af3efeed9808fe4ad7ca8af532d", func := "cloister/cloisterlaw11.AsmBack", spec := "asmBack", inPlace := ["internal/bytealg.IndexByteString", "internal/bytealg.IndexString", "internal/abi.NoEscape", "internal/bytealg.MakeNoZero"], unfollowed := true, recurses := true, named := ["unicode/utf8.first", "unicode/utf8.acceptRanges", "internal/bytealg.MaxLen", "internal/strconv.uint64pow10", "math/bits.deBruijn32tab", "math/bits.deBruijn64tab", "cloister/isa.layouts"], apart := false, laid := [("math/bits.deBruijn32tab", laid_math_bits_deBruijn32tab), ("math/bits.deBruijn64tab", laid_math_bits_deBruijn64tab), ("internal/strconv.uint64pow10", laid_internal_strconv_uint64pow10), ("unicode/utf8.acceptRanges", laid_unicode_utf8_acceptRanges), ("cloister/isa.layouts", laid_cloister_isa_layouts), ("unicode/utf8.first", laid_unicode_utf8_first)] }
def AsmBackSaid : Prop := asmBackRow.holds Tryz.pinned (OpenSpec.ofChange asmBackSpec)

/-- ITS FALSE NEIGHBOUR: 'it returns false'. Refute it at one input. -/
def asmBackWrong : ChangeSpec := { name := "asmBack", fn := fun _ => fun
  | [d] => { results := [.lit (.bool false)], args := [d] }
  | _ => none }
def AsmBackWrongFalsely : Prop := asmBackRow.holds Tryz.pinned (OpenSpec.ofChange asmBackWrong)

/-- 'cloisterlaw11.AsmFix': WHATEVER THE INPUT: true; the input reads as it did. -/
def asmFixSpec : ChangeSpec := { name := "asmFix", fn := fun _ => fun
  | [d] => { results := [.lit (.bool true)], args := [d] }
  | _ => none }
def asmFixRow : OpenClaim := { program := "ytabmlbnnhhpaoaagreatdoor", sum := "d53ecd30ece5c22e081a9c71a59081bdb9336af3efeed9808fe4ad7ca8af532d", func := "cloister/cloisterlaw11.AsmFix", spec := "asmFix", inPlace := ["internal/bytealg.IndexByteString", "internal/bytealg.IndexString", "internal/abi.NoEscape", "internal/bytealg.MakeNoZero"], unfollowed := true, recurses := true, named := ["unicode/utf8.first", "unicode/utf8.acceptRanges", "internal/bytealg.MaxLen", "internal/strconv.uint64pow10", "math/bits.deBruijn32tab", "math/bits.deBruijn64tab", "cloister/isa.layouts"], apart := false, laid := [("math/bits.deBruijn32tab", laid_math_bits_deBruijn32tab), ("math/bits.deBruijn64tab", laid_math_bits_deBruijn64tab), ("internal/strconv.uint64pow10", laid_internal_strconv_uint64pow10), ("unicode/utf8.acceptRanges", laid_unicode_utf8_acceptRanges), ("cloister/isa.layouts", laid_cloister_isa_layouts), ("unicode/utf8.first", laid_unicode_utf8_first)] }
def AsmFixSaid : Prop := asmFixRow.holds Tryz.pinned (OpenSpec.ofChange asmFixSpec)

/-- ITS FALSE NEIGHBOUR: 'it returns false'. Refute it at one input. -/
def asmFixWrong : ChangeSpec := { name := "asmFix", fn := fun _ => fun
  | [d] => { results := [.lit (.bool false)], args := [d] }
  | _ => none }
def AsmFixWrongFalsely : Prop := asmFixRow.holds Tryz.pinned (OpenSpec.ofChange asmFixWrong)

/-- 'cloisterlaw11.AsmWord': WHATEVER THE INPUT: true; the input reads as it did. -/
def asmWordSpec : ChangeSpec := { name := "asmWord", fn := fun _ => fun
  | [d1, d2] => { results := [.lit (.bool true)], args := [d1, d2] }
  | _ => none }
def asmWordRow : OpenClaim := { program := "ytabmlbnnhhpaoaagreatdoor", sum := "d53ecd30ece5c22e081a9c71a59081bdb9336af3efeed9808fe4ad7ca8af532d", func := "cloister/cloisterlaw11.AsmWord", spec := "asmWord", inPlace := ["internal/bytealg.IndexByteString", "internal/bytealg.IndexString", "internal/abi.NoEscape", "internal/bytealg.MakeNoZero"], unfollowed := true, recurses := true, named := ["unicode/utf8.first", "unicode/utf8.acceptRanges", "internal/bytealg.MaxLen", "internal/strconv.uint64pow10", "math/bits.deBruijn32tab", "math/bits.deBruijn64tab", "cloister/isa.layouts"], apart := false, laid := [("math/bits.deBruijn32tab", laid_math_bits_deBruijn32tab), ("math/bits.deBruijn64tab", laid_math_bits_deBruijn64tab), ("internal/strconv.uint64pow10", laid_internal_strconv_uint64pow10), ("unicode/utf8.acceptRanges", laid_unicode_utf8_acceptRanges), ("cloister/isa.layouts", laid_cloister_isa_layouts), ("unicode/utf8.first", laid_unicode_utf8_first)] }
def AsmWordSaid : Prop := asmWordRow.holds Tryz.pinned (OpenSpec.ofChange asmWordSpec)

/-- ITS FALSE NEIGHBOUR: 'it returns false'. Refute it at one input. -/
def asmWordWrong : ChangeSpec := { name := "asmWord", fn := fun _ => fun
  | [d1, d2] => { results := [.lit (.bool false)], args := [d1, d2] }
  | _ => none }
def AsmWordWrongFalsely : Prop := asmWordRow.holds Tryz.pinned (OpenSpec.ofChange asmWordWrong)

/-- 'cloisterlaw11.AsmBlanks': WHATEVER THE INPUT: true; the input reads as it did. -/
def asmBlanksSpec : ChangeSpec := { name := "asmBlanks", fn := fun _ => fun
  | [d1, d2] => { results := [.lit (.bool true)], args := [d1, d2] }
  | _ => none }
def asmBlanksRow : OpenClaim := { program := "ytabmlbnnhhpaoaagreatdoor", sum := "d53ecd30ece5c22e081a9c71a59081bdb9336af3efeed9808fe4ad7ca8af532d", func := "cloister/cloisterlaw11.AsmBlanks", spec := "asmBlanks", inPlace := ["internal/bytealg.IndexByteString", "internal/bytealg.IndexString", "internal/abi.NoEscape", "internal/bytealg.MakeNoZero"], unfollowed := true, recurses := true, named := ["unicode/utf8.first", "unicode/utf8.acceptRanges", "internal/bytealg.MaxLen", "internal/strconv.uint64pow10", "math/bits.deBruijn32tab", "math/bits.deBruijn64tab", "cloister/isa.layouts"], apart := false, laid := [("math/bits.deBruijn32tab", laid_math_bits_deBruijn32tab), ("math/bits.deBruijn64tab", laid_math_bits_deBruijn64tab), ("internal/strconv.uint64pow10", laid_internal_strconv_uint64pow10), ("unicode/utf8.acceptRanges", laid_unicode_utf8_acceptRanges), ("cloister/isa.layouts", laid_cloister_isa_layouts), ("unicode/utf8.first", laid_unicode_utf8_first)] }
def AsmBlanksSaid : Prop := asmBlanksRow.holds Tryz.pinned (OpenSpec.ofChange asmBlanksSpec)

/-- ITS FALSE NEIGHBOUR: 'it returns false'. Refute it at one input. -/
def asmBlanksWrong : ChangeSpec := { name := "asmBlanks", fn := fun _ => fun
  | [d1, d2] => { results := [.lit (.bool false)], args := [d1, d2] }
  | _ => none }
def AsmBlanksWrongFalsely : Prop := asmBlanksRow.holds Tryz.pinned (OpenSpec.ofChange asmBlanksWrong)

/-- 'cloisterlaw11.AsmRenamed': WHATEVER THE INPUT: true; the input reads as it did. -/
def asmRenamedSpec : ChangeSpec := { name := "asmRenamed", fn := fun _ => fun
  | [d] => { results := [.lit (.bool true)], args := [d] }
  | _ => none }
def asmRenamedRow : OpenClaim := { program := "ytabmlbnnhhpaoaagreatdoor", sum := "d53ecd30ece5c22e081a9c71a59081bdb9336af3efeed9808fe4ad7ca8af532d", func := "cloister/cloisterlaw11.AsmRenamed", spec := "asmRenamed", inPlace := ["internal/bytealg.IndexByteString", "internal/bytealg.IndexString", "internal/abi.NoEscape", "internal/bytealg.MakeNoZero"], unfollowed := true, recurses := true, named := ["unicode/utf8.first", "unicode/utf8.acceptRanges", "internal/bytealg.MaxLen", "internal/strconv.uint64pow10", "math/bits.deBruijn32tab", "math/bits.deBruijn64tab", "cloister/isa.layouts"], apart := false, laid := [("math/bits.deBruijn32tab", laid_math_bits_deBruijn32tab), ("math/bits.deBruijn64tab", laid_math_bits_deBruijn64tab), ("internal/strconv.uint64pow10", laid_internal_strconv_uint64pow10), ("unicode/utf8.acceptRanges", laid_unicode_utf8_acceptRanges), ("cloister/isa.layouts", laid_cloister_isa_layouts), ("unicode/utf8.first", laid_unicode_utf8_first)] }
def AsmRenamedSaid : Prop := asmRenamedRow.holds Tryz.pinned (OpenSpec.ofChange asmRenamedSpec)

/-- ITS FALSE NEIGHBOUR: 'it returns false'. Refute it at one input. -/
def asmRenamedWrong : ChangeSpec := { name := "asmRenamed", fn := fun _ => fun
  | [d] => { results := [.lit (.bool false)], args := [d] }
  | _ => none }
def AsmRenamedWrongFalsely : Prop := asmRenamedRow.holds Tryz.pinned (OpenSpec.ofChange asmRenamedWrong)

/- THE SECOND FORM. 'bulk': how many values and letters a reading holds, each counted each time it is reached (what is shared counts as often as it is met; a slice's spare places count too). A statement '..UptoSaid' is the law's where the arguments, and the package variables that the reading takes, are together of bulk at most 1048576: NARROWER than '..Said'. Prove '..Said' where nothing that the law and all that it calls make is longer than what came in: it says more and counts as full. Else prove '..UptoSaid'. A law counts once. -/
mutual
def uptoBulk {H : Type} : DataW H → Nat
  | .lit (.string bytes) => bytes.length + 1
  | .lit _ => 1
  | .nil => 1
  | .ptr d => uptoBulk d + 1
  | .slice elems spare => uptoBulkAll elems + uptoBulkAll spare + 1
  | .agg parts => uptoBulkAll parts + 1
  | .iface _ d => uptoBulk d + 1
  | .map entries => uptoBulkEntries entries + 1
  | .held _ => 1
def uptoBulkAll {H : Type} : List (DataW H) → Nat
  | [] => 0
  | d :: r => uptoBulk d + uptoBulkAll r
def uptoBulkEntries {H : Type} : List (Lit × DataW H) → Nat
  | [] => 0
  | x :: r => uptoBulkEntry x + uptoBulkEntries r
def uptoBulkEntry {H : Type} : Lit × DataW H → Nat
  | (.string bytes, d) => bytes.length + uptoBulk d + 1
  | (_, d) => uptoBulk d + 1
 end
def uptoSmall : (H : Type) → List (DataW H) → Bool := fun _ ds => decide (uptoBulkAll ds ≤ 1048576)
def OpenSpec.upto (s : _root_.Go.ChangeSpec) : _root_.Go.OpenSpec := { _root_.Go.OpenSpec.ofChange s with cond := some uptoSmall }

/-- 'cloisterlaw11.AsmReads', WHERE WHAT IT READS IS OF BULK AT MOST 1048576: true; the input reads as it did. -/
def asmReadsUptoRow : OpenClaim := { program := "ytabmlbnnhhpaoaagreatdoor", sum := "d53ecd30ece5c22e081a9c71a59081bdb9336af3efeed9808fe4ad7ca8af532d", func := "cloister/cloisterlaw11.AsmReads", spec := "asmReads", inPlace := ["internal/bytealg.IndexByteString", "internal/bytealg.IndexString", "internal/abi.NoEscape", "internal/bytealg.MakeNoZero"], unfollowed := true, recurses := true, named := ["unicode/utf8.first", "unicode/utf8.acceptRanges", "internal/bytealg.MaxLen", "internal/strconv.uint64pow10", "math/bits.deBruijn32tab", "math/bits.deBruijn64tab", "cloister/isa.layouts"], apart := false, laid := [("math/bits.deBruijn32tab", laid_math_bits_deBruijn32tab), ("math/bits.deBruijn64tab", laid_math_bits_deBruijn64tab), ("internal/strconv.uint64pow10", laid_internal_strconv_uint64pow10), ("unicode/utf8.acceptRanges", laid_unicode_utf8_acceptRanges), ("cloister/isa.layouts", laid_cloister_isa_layouts), ("unicode/utf8.first", laid_unicode_utf8_first)], narrowed := true }
def AsmReadsUptoSaid : Prop := asmReadsUptoRow.holds Tryz.pinned (OpenSpec.upto asmReadsSpec)

/-- 'cloisterlaw11.AsmPrints', WHERE WHAT IT READS IS OF BULK AT MOST 1048576: true; the input reads as it did. -/
def asmPrintsUptoRow : OpenClaim := { program := "ytabmlbnnhhpaoaagreatdoor", sum := "d53ecd30ece5c22e081a9c71a59081bdb9336af3efeed9808fe4ad7ca8af532d", func := "cloister/cloisterlaw11.AsmPrints", spec := "asmPrints", inPlace := ["internal/bytealg.IndexByteString", "internal/bytealg.IndexString", "internal/abi.NoEscape", "internal/bytealg.MakeNoZero"], unfollowed := true, recurses := true, named := ["unicode/utf8.first", "unicode/utf8.acceptRanges", "internal/bytealg.MaxLen", "internal/strconv.uint64pow10", "math/bits.deBruijn32tab", "math/bits.deBruijn64tab", "cloister/isa.layouts"], apart := false, laid := [("math/bits.deBruijn32tab", laid_math_bits_deBruijn32tab), ("math/bits.deBruijn64tab", laid_math_bits_deBruijn64tab), ("internal/strconv.uint64pow10", laid_internal_strconv_uint64pow10), ("unicode/utf8.acceptRanges", laid_unicode_utf8_acceptRanges), ("cloister/isa.layouts", laid_cloister_isa_layouts), ("unicode/utf8.first", laid_unicode_utf8_first)], narrowed := true }
def AsmPrintsUptoSaid : Prop := asmPrintsUptoRow.holds Tryz.pinned (OpenSpec.upto asmPrintsSpec)

/-- 'cloisterlaw11.AsmLines', WHERE WHAT IT READS IS OF BULK AT MOST 1048576: true; the input reads as it did. -/
def asmLinesUptoRow : OpenClaim := { program := "ytabmlbnnhhpaoaagreatdoor", sum := "d53ecd30ece5c22e081a9c71a59081bdb9336af3efeed9808fe4ad7ca8af532d", func := "cloister/cloisterlaw11.AsmLines", spec := "asmLines", inPlace := ["internal/bytealg.IndexByteString", "internal/bytealg.IndexString", "internal/abi.NoEscape", "internal/bytealg.MakeNoZero"], unfollowed := true, recurses := true, named := ["unicode/utf8.first", "unicode/utf8.acceptRanges", "internal/bytealg.MaxLen", "internal/strconv.uint64pow10", "math/bits.deBruijn32tab", "math/bits.deBruijn64tab", "cloister/isa.layouts"], apart := false, laid := [("math/bits.deBruijn32tab", laid_math_bits_deBruijn32tab), ("math/bits.deBruijn64tab", laid_math_bits_deBruijn64tab), ("internal/strconv.uint64pow10", laid_internal_strconv_uint64pow10), ("unicode/utf8.acceptRanges", laid_unicode_utf8_acceptRanges), ("cloister/isa.layouts", laid_cloister_isa_layouts), ("unicode/utf8.first", laid_unicode_utf8_first)], narrowed := true }
def AsmLinesUptoSaid : Prop := asmLinesUptoRow.holds Tryz.pinned (OpenSpec.upto asmLinesSpec)

/-- 'cloisterlaw11.AsmBack', WHERE WHAT IT READS IS OF BULK AT MOST 1048576: true; the input reads as it did. -/
def asmBackUptoRow : OpenClaim := { program := "ytabmlbnnhhpaoaagreatdoor", sum := "d53ecd30ece5c22e081a9c71a59081bdb9336af3efeed9808fe4ad7ca8af532d", func := "cloister/cloisterlaw11.AsmBack", spec := "asmBack", inPlace := ["internal/bytealg.IndexByteString", "internal/bytealg.IndexString", "internal/abi.NoEscape", "internal/bytealg.MakeNoZero"], unfollowed := true, recurses := true, named := ["unicode/utf8.first", "unicode/utf8.acceptRanges", "internal/bytealg.MaxLen", "internal/strconv.uint64pow10", "math/bits.deBruijn32tab", "math/bits.deBruijn64tab", "cloister/isa.layouts"], apart := false, laid := [("math/bits.deBruijn32tab", laid_math_bits_deBruijn32tab), ("math/bits.deBruijn64tab", laid_math_bits_deBruijn64tab), ("internal/strconv.uint64pow10", laid_internal_strconv_uint64pow10), ("unicode/utf8.acceptRanges", laid_unicode_utf8_acceptRanges), ("cloister/isa.layouts", laid_cloister_isa_layouts), ("unicode/utf8.first", laid_unicode_utf8_first)], narrowed := true }
def AsmBackUptoSaid : Prop := asmBackUptoRow.holds Tryz.pinned (OpenSpec.upto asmBackSpec)

/-- 'cloisterlaw11.AsmFix', WHERE WHAT IT READS IS OF BULK AT MOST 1048576: true; the input reads as it did. -/
def asmFixUptoRow : OpenClaim := { program := "ytabmlbnnhhpaoaagreatdoor", sum := "d53ecd30ece5c22e081a9c71a59081bdb9336af3efeed9808fe4ad7ca8af532d", func := "cloister/cloisterlaw11.AsmFix", spec := "asmFix", inPlace := ["internal/bytealg.IndexByteString", "internal/bytealg.IndexString", "internal/abi.NoEscape", "internal/bytealg.MakeNoZero"], unfollowed := true, recurses := true, named := ["unicode/utf8.first", "unicode/utf8.acceptRanges", "internal/bytealg.MaxLen", "internal/strconv.uint64pow10", "math/bits.deBruijn32tab", "math/bits.deBruijn64tab", "cloister/isa.layouts"], apart := false, laid := [("math/bits.deBruijn32tab", laid_math_bits_deBruijn32tab), ("math/bits.deBruijn64tab", laid_math_bits_deBruijn64tab), ("internal/strconv.uint64pow10", laid_internal_strconv_uint64pow10), ("unicode/utf8.acceptRanges", laid_unicode_utf8_acceptRanges), ("cloister/isa.layouts", laid_cloister_isa_layouts), ("unicode/utf8.first", laid_unicode_utf8_first)], narrowed := true }
def AsmFixUptoSaid : Prop := asmFixUptoRow.holds Tryz.pinned (OpenSpec.upto asmFixSpec)

/-- 'cloisterlaw11.AsmWord', WHERE WHAT IT READS IS OF BULK AT MOST 1048576: true; the input reads as it did. -/
def asmWordUptoRow : OpenClaim := { program := "ytabmlbnnhhpaoaagreatdoor", sum := "d53ecd30ece5c22e081a9c71a59081bdb9336af3efeed9808fe4ad7ca8af532d", func := "cloister/cloisterlaw11.AsmWord", spec := "asmWord", inPlace := ["internal/bytealg.IndexByteString", "internal/bytealg.IndexString", "internal/abi.NoEscape", "internal/bytealg.MakeNoZero"], unfollowed := true, recurses := true, named := ["unicode/utf8.first", "unicode/utf8.acceptRanges", "internal/bytealg.MaxLen", "internal/strconv.uint64pow10", "math/bits.deBruijn32tab", "math/bits.deBruijn64tab", "cloister/isa.layouts"], apart := false, laid := [("math/bits.deBruijn32tab", laid_math_bits_deBruijn32tab), ("math/bits.deBruijn64tab", laid_math_bits_deBruijn64tab), ("internal/strconv.uint64pow10", laid_internal_strconv_uint64pow10), ("unicode/utf8.acceptRanges", laid_unicode_utf8_acceptRanges), ("cloister/isa.layouts", laid_cloister_isa_layouts), ("unicode/utf8.first", laid_unicode_utf8_first)], narrowed := true }
def AsmWordUptoSaid : Prop := asmWordUptoRow.holds Tryz.pinned (OpenSpec.upto asmWordSpec)

/-- 'cloisterlaw11.AsmBlanks', WHERE WHAT IT READS IS OF BULK AT MOST 1048576: true; the input reads as it did. -/
def asmBlanksUptoRow : OpenClaim := { program := "ytabmlbnnhhpaoaagreatdoor", sum := "d53ecd30ece5c22e081a9c71a59081bdb9336af3efeed9808fe4ad7ca8af532d", func := "cloister/cloisterlaw11.AsmBlanks", spec := "asmBlanks", inPlace := ["internal/bytealg.IndexByteString", "internal/bytealg.IndexString", "internal/abi.NoEscape", "internal/bytealg.MakeNoZero"], unfollowed := true, recurses := true, named := ["unicode/utf8.first", "unicode/utf8.acceptRanges", "internal/bytealg.MaxLen", "internal/strconv.uint64pow10", "math/bits.deBruijn32tab", "math/bits.deBruijn64tab", "cloister/isa.layouts"], apart := false, laid := [("math/bits.deBruijn32tab", laid_math_bits_deBruijn32tab), ("math/bits.deBruijn64tab", laid_math_bits_deBruijn64tab), ("internal/strconv.uint64pow10", laid_internal_strconv_uint64pow10), ("unicode/utf8.acceptRanges", laid_unicode_utf8_acceptRanges), ("cloister/isa.layouts", laid_cloister_isa_layouts), ("unicode/utf8.first", laid_unicode_utf8_first)], narrowed := true }
def AsmBlanksUptoSaid : Prop := asmBlanksUptoRow.holds Tryz.pinned (OpenSpec.upto asmBlanksSpec)

/-- 'cloisterlaw11.AsmRenamed', WHERE WHAT IT READS IS OF BULK AT MOST 1048576: true; the input reads as it did. -/
def asmRenamedUptoRow : OpenClaim := { program := "ytabmlbnnhhpaoaagreatdoor", sum := "d53ecd30ece5c22e081a9c71a59081bdb9336af3efeed9808fe4ad7ca8af532d", func := "cloister/cloisterlaw11.AsmRenamed", spec := "asmRenamed", inPlace := ["internal/bytealg.IndexByteString", "internal/bytealg.IndexString", "internal/abi.NoEscape", "internal/bytealg.MakeNoZero"], unfollowed := true, recurses := true, named := ["unicode/utf8.first", "unicode/utf8.acceptRanges", "internal/bytealg.MaxLen", "internal/strconv.uint64pow10", "math/bits.deBruijn32tab", "math/bits.deBruijn64tab", "cloister/isa.layouts"], apart := false, laid := [("math/bits.deBruijn32tab", laid_math_bits_deBruijn32tab), ("math/bits.deBruijn64tab", laid_math_bits_deBruijn64tab), ("internal/strconv.uint64pow10", laid_internal_strconv_uint64pow10), ("unicode/utf8.acceptRanges", laid_unicode_utf8_acceptRanges), ("cloister/isa.layouts", laid_cloister_isa_layouts), ("unicode/utf8.first", laid_unicode_utf8_first)], narrowed := true }
def AsmRenamedUptoSaid : Prop := asmRenamedUptoRow.holds Tryz.pinned (OpenSpec.upto asmRenamedSpec)

end Rows
end Go.Proofs.YtabmlbnnhhpaoaaGreatDoor

/-
  NARROWER THAN 'FOR EVERY INPUT', by the rows' own cells (each row's printed sentence says how): LabelWrites: laid · LabelReturns: laid · LabelAgain: laid · LabelNames: laid · LabelFaults: laid · LabelBlank: laid · LabelReads: laid · LabelFull: laid.
  DERIVED. THE GIVEN ROWS OF THIS SEAT. 8 by the template 'for every input the law returns true; each argument reads behind the call as it read before'; 0 by the template 'total and deterministic' (their statements: YtiegkhoidabkhaaDoorTotals.lean).
  GIVEN WITH THE SEED: the statements are not yours to turn. If you find one false, say at which input.
  Laid BY PROGRAM, IN A SANDBOX (cutbox-rows.mjs): the forced cells as the released guide's own fill.sh prints them over the translation 0dd92be1dc90f8bc… (all of the seat's roots in one cut). By AI agents, Wed Nov 11 2026. No macro, syntax, notation, axiom, sorry.
-/
import Derived.Test.YtiegkhoidabkhaaDoorChecked
import GoSem.PinnedTables
import GoSem.Claim
import GoSem.ClaimJoined
import GoSem.ClaimMapViews
import Derived.JoinedTies
import Derived.KernelRfl
namespace Go.Proofs.YtiegkhoidabkhaaDoor
/- THE CELL 'sum', in the pinned program and in every row, IS THE sha256 OF THE DUMP (.gsa) THAT YtiegkhoidabkhaaDoorProg.lean LOADS. Nothing in Lean hashes anything: it is a label: what it is worth is what the hold of that sum in a sandbox is worth. -/
noncomputable def Tryd.pinned : Pinned := { name := "ytiegkhoidabkhaadoor", sum := "0dd92be1dc90f8bc616193eb8d34e86d6475b492c75e3c7b08d83e8ca19e69f0", checked := Tryd.checked }
namespace Rows
def none {H : Type} : Left H := { results := [], args := [] }

/- WHAT THE LISTED PACKAGE-LEVEL VARIABLES READ AS WHEN THE CALL BEGINS. Each datum BY PROGRAM (the guide's laid-datum.mjs) off the statement by which the dump's own 'gosem.cut.vars' lays the variable. In a bare row this is a premise. The card (YtiegkhoidabkhaaDoorCards.lean) ties it to the program's text. -/
def laid_math_bits_deBruijn32tab {H : Type} : DataW H := .agg [.lit (.int .u8 0), .lit (.int .u8 1), .lit (.int .u8 28), .lit (.int .u8 2), .lit (.int .u8 29), .lit (.int .u8 14), .lit (.int .u8 24), .lit (.int .u8 3), .lit (.int .u8 30), .lit (.int .u8 22), .lit (.int .u8 20), .lit (.int .u8 15), .lit (.int .u8 25), .lit (.int .u8 17), .lit (.int .u8 4), .lit (.int .u8 8), .lit (.int .u8 31), .lit (.int .u8 27), .lit (.int .u8 13), .lit (.int .u8 23), .lit (.int .u8 21), .lit (.int .u8 19), .lit (.int .u8 16), .lit (.int .u8 7), .lit (.int .u8 26), .lit (.int .u8 12), .lit (.int .u8 18), .lit (.int .u8 6), .lit (.int .u8 11), .lit (.int .u8 5), .lit (.int .u8 10), .lit (.int .u8 9)]
def laid_math_bits_deBruijn64tab {H : Type} : DataW H := .agg [.lit (.int .u8 0), .lit (.int .u8 1), .lit (.int .u8 56), .lit (.int .u8 2), .lit (.int .u8 57), .lit (.int .u8 49), .lit (.int .u8 28), .lit (.int .u8 3), .lit (.int .u8 61), .lit (.int .u8 58), .lit (.int .u8 42), .lit (.int .u8 50), .lit (.int .u8 38), .lit (.int .u8 29), .lit (.int .u8 17), .lit (.int .u8 4), .lit (.int .u8 62), .lit (.int .u8 47), .lit (.int .u8 59), .lit (.int .u8 36), .lit (.int .u8 45), .lit (.int .u8 43), .lit (.int .u8 51), .lit (.int .u8 22), .lit (.int .u8 53), .lit (.int .u8 39), .lit (.int .u8 33), .lit (.int .u8 30), .lit (.int .u8 24), .lit (.int .u8 18), .lit (.int .u8 12), .lit (.int .u8 5), .lit (.int .u8 63), .lit (.int .u8 55), .lit (.int .u8 48), .lit (.int .u8 27), .lit (.int .u8 60), .lit (.int .u8 41), .lit (.int .u8 37), .lit (.int .u8 16), .lit (.int .u8 46), .lit (.int .u8 35), .lit (.int .u8 44), .lit (.int .u8 21), .lit (.int .u8 52), .lit (.int .u8 32), .lit (.int .u8 23), .lit (.int .u8 11), .lit (.int .u8 54), .lit (.int .u8 26), .lit (.int .u8 40), .lit (.int .u8 15), .lit (.int .u8 34), .lit (.int .u8 20), .lit (.int .u8 31), .lit (.int .u8 10), .lit (.int .u8 25), .lit (.int .u8 14), .lit (.int .u8 19), .lit (.int .u8 9), .lit (.int .u8 13), .lit (.int .u8 8), .lit (.int .u8 7), .lit (.int .u8 6)]
def laid_internal_strconv_uint64pow10 {H : Type} : DataW H := .agg [.lit (.int .u64 1), .lit (.int .u64 10), .lit (.int .u64 100), .lit (.int .u64 1000), .lit (.int .u64 10000), .lit (.int .u64 100000), .lit (.int .u64 1000000), .lit (.int .u64 10000000), .lit (.int .u64 100000000), .lit (.int .u64 1000000000), .lit (.int .u64 10000000000), .lit (.int .u64 100000000000), .lit (.int .u64 1000000000000), .lit (.int .u64 10000000000000), .lit (.int .u64 100000000000000), .lit (.int .u64 1000000000000000), .lit (.int .u64 10000000000000000), .lit (.int .u64 100000000000000000), .lit (.int .u64 1000000000000000000), .lit (.int .u64 10000000000000000000)]
def laid_unicode_utf8_acceptRanges {H : Type} : DataW H := .agg [.agg [.lit (.int .u8 128), .lit (.int .u8 191)], .agg [.lit (.int .u8 160), .lit (.int .u8 191)], .agg [.lit (.int .u8 128), .lit (.int .u8 159)], .agg [.lit (.int .u8 144), .lit (.int .u8 191)], .agg [.lit (.int .u8 128), .lit (.int .u8 143)], .agg [.lit (.int .u8 0), .lit (.int .u8 0)], .agg [.lit (.int .u8 0), .lit (.int .u8 0)], .agg [.lit (.int .u8 0), .lit (.int .u8 0)], .agg [.lit (.int .u8 0), .lit (.int .u8 0)], .agg [.lit (.int .u8 0), .lit (.int .u8 0)], .agg [.lit (.int .u8 0), .lit (.int .u8 0)], .agg [.lit (.int .u8 0), .lit (.int .u8 0)], .agg [.lit (.int .u8 0), .lit (.int .u8 0)], .agg [.lit (.int .u8 0), .lit (.int .u8 0)], .agg [.lit (.int .u8 0), .lit (.int .u8 0)], .agg [.lit (.int .u8 0), .lit (.int .u8 0)]]
def laid_strconv_ErrRange {H : Type} : DataW H := .iface "*errors.errorString" (.ptr (.agg [.lit (.string [118, 97, 108, 117, 101, 32, 111, 117, 116, 32, 111, 102, 32, 114, 97, 110, 103, 101])]))
def laid_strconv_ErrSyntax {H : Type} : DataW H := .iface "*errors.errorString" (.ptr (.agg [.lit (.string [105, 110, 118, 97, 108, 105, 100, 32, 115, 121, 110, 116, 97, 120])]))
def laid_countermand_label_words {H : Type} : DataW H := .agg [.lit (.string [104, 97, 108, 116]), .lit (.string [99, 111, 110, 115, 116]), .lit (.string [97, 100, 100]), .lit (.string [106, 117, 109, 112]), .lit (.string [98, 101, 103, 105, 110]), .lit (.string [101, 110, 100]), .lit (.string [108, 111, 97, 100]), .lit (.string [115, 116, 111, 114, 101]), .lit (.string [114, 101, 97, 100]), .lit (.string [119, 114, 105, 116, 101]), .lit (.string [99, 114, 101, 97, 116, 101]), .lit (.string [114, 101, 109, 111, 118, 101]), .lit (.string [114, 101, 110, 97, 109, 101]), .lit (.string [99, 117, 116]), .lit (.string [114, 101, 99, 118]), .lit (.string [115, 101, 110, 100]), .lit (.string [99, 111, 109, 109, 105, 116]), .lit (.string [97, 98, 111, 114, 116]), .lit (.string [111, 112, 101, 110]), .lit (.string [114, 101, 116, 114, 121]), .lit (.string [101, 108, 115, 101]), .lit (.string [105, 110, 101, 118])]
def laid_countermand_label_shapes {H : Type} : DataW H := .agg [.lit (.string []), .lit (.string [110, 110]), .lit (.string [110, 110]), .lit (.string [103, 110, 110]), .lit (.string []), .lit (.string []), .lit (.string [110, 110]), .lit (.string [110, 110]), .lit (.string [110, 110, 110]), .lit (.string [110, 110, 110]), .lit (.string [110]), .lit (.string [110]), .lit (.string [110, 110]), .lit (.string [110, 110]), .lit (.string [110, 110]), .lit (.string [110, 110]), .lit (.string [110, 110]), .lit (.string [110]), .lit (.string [110, 110]), .lit (.string []), .lit (.string [103]), .lit (.string [])]
/-- One of Go's own tables, pinned by name: the form's constant. -/
def laid_unicode_utf8_first : DataW Unit := Go.Pinned.utf8First

/-- 'countermandlaw26.LabelWrites': WHATEVER THE INPUT: true; the input reads as it did. -/
def labelWritesSpec : ChangeSpec := { name := "labelWrites", fn := fun _ => fun
  | [d] => { results := [.lit (.bool true)], args := [d] }
  | _ => none }
def labelWritesRow : OpenClaim := { program := "ytiegkhoidabkhaadoor", sum := "0dd92be1dc90f8bc616193eb8d34e86d6475b492c75e3c7b08d83e8ca19e69f0", func := "countermand/countermandlaw26.LabelWrites", spec := "labelWrites", inPlace := ["internal/abi.NoEscape", "internal/bytealg.CountString", "internal/bytealg.IndexByteString", "internal/bytealg.IndexString"], unfollowed := true, recurses := true, named := ["countermand/label.shapes", "internal/strconv.uint64pow10", "math/bits.deBruijn32tab", "math/bits.deBruijn64tab", "countermand/label.words", "unicode/utf8.first", "unicode/utf8.acceptRanges", "internal/bytealg.MaxLen", "strconv.ErrSyntax", "strconv.ErrRange"], apart := false, laid := [("math/bits.deBruijn32tab", laid_math_bits_deBruijn32tab), ("math/bits.deBruijn64tab", laid_math_bits_deBruijn64tab), ("internal/strconv.uint64pow10", laid_internal_strconv_uint64pow10), ("unicode/utf8.acceptRanges", laid_unicode_utf8_acceptRanges), ("strconv.ErrRange", laid_strconv_ErrRange), ("strconv.ErrSyntax", laid_strconv_ErrSyntax), ("countermand/label.words", laid_countermand_label_words), ("countermand/label.shapes", laid_countermand_label_shapes), ("unicode/utf8.first", laid_unicode_utf8_first)] }
def LabelWritesSaid : Prop := labelWritesRow.holds Tryd.pinned (OpenSpec.ofChange labelWritesSpec)

/-- ITS FALSE NEIGHBOUR: 'it returns false'. Refute it at one input. -/
def labelWritesWrong : ChangeSpec := { name := "labelWrites", fn := fun _ => fun
  | [d] => { results := [.lit (.bool false)], args := [d] }
  | _ => none }
def LabelWritesWrongFalsely : Prop := labelWritesRow.holds Tryd.pinned (OpenSpec.ofChange labelWritesWrong)

/-- 'countermandlaw26.LabelReturns': WHATEVER THE INPUT: true; the input reads as it did. -/
def labelReturnsSpec : ChangeSpec := { name := "labelReturns", fn := fun _ => fun
  | [d] => { results := [.lit (.bool true)], args := [d] }
  | _ => none }
def labelReturnsRow : OpenClaim := { program := "ytiegkhoidabkhaadoor", sum := "0dd92be1dc90f8bc616193eb8d34e86d6475b492c75e3c7b08d83e8ca19e69f0", func := "countermand/countermandlaw26.LabelReturns", spec := "labelReturns", inPlace := ["internal/abi.NoEscape", "internal/bytealg.CountString", "internal/bytealg.IndexByteString", "internal/bytealg.IndexString"], unfollowed := true, recurses := true, named := ["countermand/label.shapes", "internal/strconv.uint64pow10", "math/bits.deBruijn32tab", "math/bits.deBruijn64tab", "countermand/label.words", "unicode/utf8.first", "unicode/utf8.acceptRanges", "internal/bytealg.MaxLen", "strconv.ErrSyntax", "strconv.ErrRange"], apart := false, laid := [("math/bits.deBruijn32tab", laid_math_bits_deBruijn32tab), ("math/bits.deBruijn64tab", laid_math_bits_deBruijn64tab), ("internal/strconv.uint64pow10", laid_internal_strconv_uint64pow10), ("unicode/utf8.acceptRanges", laid_unicode_utf8_acceptRanges), ("strconv.ErrRange", laid_strconv_ErrRange), ("strconv.ErrSyntax", laid_strconv_ErrSyntax), ("countermand/label.words", laid_countermand_label_words), ("countermand/label.shapes", laid_countermand_label_shapes), ("unicode/utf8.first", laid_unicode_utf8_first)] }
def LabelReturnsSaid : Prop := labelReturnsRow.holds Tryd.pinned (OpenSpec.ofChange labelReturnsSpec)

/-- ITS FALSE NEIGHBOUR: 'it returns false'. Refute it at one input. -/
def labelReturnsWrong : ChangeSpec := { name := "labelReturns", fn := fun _ => fun
  | [d] => { results := [.lit (.bool false)], args := [d] }
  | _ => none }
def LabelReturnsWrongFalsely : Prop := labelReturnsRow.holds Tryd.pinned (OpenSpec.ofChange labelReturnsWrong)

/-- 'countermandlaw26.LabelAgain': WHATEVER THE INPUT: true; the input reads as it did. -/
def labelAgainSpec : ChangeSpec := { name := "labelAgain", fn := fun _ => fun
  | [d] => { results := [.lit (.bool true)], args := [d] }
  | _ => none }
def labelAgainRow : OpenClaim := { program := "ytiegkhoidabkhaadoor", sum := "0dd92be1dc90f8bc616193eb8d34e86d6475b492c75e3c7b08d83e8ca19e69f0", func := "countermand/countermandlaw26.LabelAgain", spec := "labelAgain", inPlace := ["internal/abi.NoEscape", "internal/bytealg.CountString", "internal/bytealg.IndexByteString", "internal/bytealg.IndexString"], unfollowed := true, recurses := true, named := ["countermand/label.shapes", "internal/strconv.uint64pow10", "math/bits.deBruijn32tab", "math/bits.deBruijn64tab", "countermand/label.words", "unicode/utf8.first", "unicode/utf8.acceptRanges", "internal/bytealg.MaxLen", "strconv.ErrSyntax", "strconv.ErrRange"], apart := false, laid := [("math/bits.deBruijn32tab", laid_math_bits_deBruijn32tab), ("math/bits.deBruijn64tab", laid_math_bits_deBruijn64tab), ("internal/strconv.uint64pow10", laid_internal_strconv_uint64pow10), ("unicode/utf8.acceptRanges", laid_unicode_utf8_acceptRanges), ("strconv.ErrRange", laid_strconv_ErrRange), ("strconv.ErrSyntax", laid_strconv_ErrSyntax), ("countermand/label.words", laid_countermand_label_words), ("countermand/label.shapes", laid_countermand_label_shapes), ("unicode/utf8.first", laid_unicode_utf8_first)] }
def LabelAgainSaid : Prop := labelAgainRow.holds Tryd.pinned (OpenSpec.ofChange labelAgainSpec)

/-- ITS FALSE NEIGHBOUR: 'it returns false'. Refute it at one input. -/
def labelAgainWrong : ChangeSpec := { name := "labelAgain", fn := fun _ => fun
  | [d] => { results := [.lit (.bool false)], args := [d] }
  | _ => none }
def LabelAgainWrongFalsely : Prop := labelAgainRow.holds Tryd.pinned (OpenSpec.ofChange labelAgainWrong)

/-- 'countermandlaw26.LabelNames': WHATEVER THE INPUT: true; the input reads as it did. -/
def labelNamesSpec : ChangeSpec := { name := "labelNames", fn := fun _ => fun
  | [d1, d2] => { results := [.lit (.bool true)], args := [d1, d2] }
  | _ => none }
def labelNamesRow : OpenClaim := { program := "ytiegkhoidabkhaadoor", sum := "0dd92be1dc90f8bc616193eb8d34e86d6475b492c75e3c7b08d83e8ca19e69f0", func := "countermand/countermandlaw26.LabelNames", spec := "labelNames", inPlace := ["internal/abi.NoEscape", "internal/bytealg.CountString", "internal/bytealg.IndexByteString", "internal/bytealg.IndexString"], unfollowed := true, recurses := true, named := ["countermand/label.shapes", "internal/strconv.uint64pow10", "math/bits.deBruijn32tab", "math/bits.deBruijn64tab", "countermand/label.words", "unicode/utf8.first", "unicode/utf8.acceptRanges", "internal/bytealg.MaxLen", "strconv.ErrSyntax", "strconv.ErrRange"], apart := false, laid := [("math/bits.deBruijn32tab", laid_math_bits_deBruijn32tab), ("math/bits.deBruijn64tab", laid_math_bits_deBruijn64tab), ("internal/strconv.uint64pow10", laid_internal_strconv_uint64pow10), ("unicode/utf8.acceptRanges", laid_unicode_utf8_acceptRanges), ("strconv.ErrRange", laid_strconv_ErrRange), ("strconv.ErrSyntax", laid_strconv_ErrSyntax), ("countermand/label.words", laid_countermand_label_words), ("countermand/label.shapes", laid_countermand_label_shapes), ("unicode/utf8.first", laid_unicode_utf8_first)] }
def LabelNamesSaid : Prop := labelNamesRow.holds Tryd.pinned (OpenSpec.ofChange labelNamesSpec)

/-- ITS FALSE NEIGHBOUR: 'it returns false'. Refute it at one input. -/
def labelNamesWrong : ChangeSpec := { name := "labelNames", fn := fun _ => fun
  | [d1, d2] => { results := [.lit (.bool false)], args := [d1, d2] }
  | _ => none }
def LabelNamesWrongFalsely : Prop := labelNamesRow.holds Tryd.pinned (OpenSpec.ofChange labelNamesWrong)

/-- 'countermandlaw26.LabelFaults': WHATEVER THE INPUT: true; the input reads as it did. -/
def labelFaultsSpec : ChangeSpec := { name := "labelFaults", fn := fun _ => fun
  | [d1, d2, d3] => { results := [.lit (.bool true)], args := [d1, d2, d3] }
  | _ => none }
def labelFaultsRow : OpenClaim := { program := "ytiegkhoidabkhaadoor", sum := "0dd92be1dc90f8bc616193eb8d34e86d6475b492c75e3c7b08d83e8ca19e69f0", func := "countermand/countermandlaw26.LabelFaults", spec := "labelFaults", inPlace := ["internal/abi.NoEscape", "internal/bytealg.CountString", "internal/bytealg.IndexByteString", "internal/bytealg.IndexString"], unfollowed := true, recurses := true, named := ["countermand/label.shapes", "internal/strconv.uint64pow10", "math/bits.deBruijn32tab", "math/bits.deBruijn64tab", "countermand/label.words", "unicode/utf8.first", "unicode/utf8.acceptRanges", "internal/bytealg.MaxLen", "strconv.ErrSyntax", "strconv.ErrRange"], apart := false, laid := [("math/bits.deBruijn32tab", laid_math_bits_deBruijn32tab), ("math/bits.deBruijn64tab", laid_math_bits_deBruijn64tab), ("internal/strconv.uint64pow10", laid_internal_strconv_uint64pow10), ("unicode/utf8.acceptRanges", laid_unicode_utf8_acceptRanges), ("strconv.ErrRange", laid_strconv_ErrRange), ("strconv.ErrSyntax", laid_strconv_ErrSyntax), ("countermand/label.words", laid_countermand_label_words), ("countermand/label.shapes", laid_countermand_label_shapes), ("unicode/utf8.first", laid_unicode_utf8_first)] }
def LabelFaultsSaid : Prop := labelFaultsRow.holds Tryd.pinned (OpenSpec.ofChange labelFaultsSpec)

/-- ITS FALSE NEIGHBOUR: 'it returns false'. Refute it at one input. -/
def labelFaultsWrong : ChangeSpec := { name := "labelFaults", fn := fun _ => fun
  | [d1, d2, d3] => { results := [.lit (.bool false)], args := [d1, d2, d3] }
  | _ => none }
def LabelFaultsWrongFalsely : Prop := labelFaultsRow.holds Tryd.pinned (OpenSpec.ofChange labelFaultsWrong)

/-- 'countermandlaw26.LabelBlank': WHATEVER THE INPUT: true; the input reads as it did. -/
def labelBlankSpec : ChangeSpec := { name := "labelBlank", fn := fun _ => fun
  | [d1, d2] => { results := [.lit (.bool true)], args := [d1, d2] }
  | _ => none }
def labelBlankRow : OpenClaim := { program := "ytiegkhoidabkhaadoor", sum := "0dd92be1dc90f8bc616193eb8d34e86d6475b492c75e3c7b08d83e8ca19e69f0", func := "countermand/countermandlaw26.LabelBlank", spec := "labelBlank", inPlace := ["internal/abi.NoEscape", "internal/bytealg.CountString", "internal/bytealg.IndexByteString", "internal/bytealg.IndexString"], unfollowed := true, recurses := true, named := ["countermand/label.shapes", "internal/strconv.uint64pow10", "math/bits.deBruijn32tab", "math/bits.deBruijn64tab", "countermand/label.words", "unicode/utf8.first", "unicode/utf8.acceptRanges", "internal/bytealg.MaxLen", "strconv.ErrSyntax", "strconv.ErrRange"], apart := false, laid := [("math/bits.deBruijn32tab", laid_math_bits_deBruijn32tab), ("math/bits.deBruijn64tab", laid_math_bits_deBruijn64tab), ("internal/strconv.uint64pow10", laid_internal_strconv_uint64pow10), ("unicode/utf8.acceptRanges", laid_unicode_utf8_acceptRanges), ("strconv.ErrRange", laid_strconv_ErrRange), ("strconv.ErrSyntax", laid_strconv_ErrSyntax), ("countermand/label.words", laid_countermand_label_words), ("countermand/label.shapes", laid_countermand_label_shapes), ("unicode/utf8.first", laid_unicode_utf8_first)] }
def LabelBlankSaid : Prop := labelBlankRow.holds Tryd.pinned (OpenSpec.ofChange labelBlankSpec)

/-- ITS FALSE NEIGHBOUR: 'it returns false'. Refute it at one input. -/
def labelBlankWrong : ChangeSpec := { name := "labelBlank", fn := fun _ => fun
  | [d1, d2] => { results := [.lit (.bool false)], args := [d1, d2] }
  | _ => none }
def LabelBlankWrongFalsely : Prop := labelBlankRow.holds Tryd.pinned (OpenSpec.ofChange labelBlankWrong)

/-- 'countermandlaw26.LabelReads': WHATEVER THE INPUT: true; the input reads as it did. -/
def labelReadsSpec : ChangeSpec := { name := "labelReads", fn := fun _ => fun
  | [d1, d2] => { results := [.lit (.bool true)], args := [d1, d2] }
  | _ => none }
def labelReadsRow : OpenClaim := { program := "ytiegkhoidabkhaadoor", sum := "0dd92be1dc90f8bc616193eb8d34e86d6475b492c75e3c7b08d83e8ca19e69f0", func := "countermand/countermandlaw26.LabelReads", spec := "labelReads", inPlace := ["internal/abi.NoEscape", "internal/bytealg.CountString", "internal/bytealg.IndexByteString", "internal/bytealg.IndexString"], unfollowed := true, recurses := true, named := ["countermand/label.shapes", "internal/strconv.uint64pow10", "math/bits.deBruijn32tab", "math/bits.deBruijn64tab", "countermand/label.words", "unicode/utf8.first", "unicode/utf8.acceptRanges", "internal/bytealg.MaxLen", "strconv.ErrSyntax", "strconv.ErrRange"], apart := false, laid := [("math/bits.deBruijn32tab", laid_math_bits_deBruijn32tab), ("math/bits.deBruijn64tab", laid_math_bits_deBruijn64tab), ("internal/strconv.uint64pow10", laid_internal_strconv_uint64pow10), ("unicode/utf8.acceptRanges", laid_unicode_utf8_acceptRanges), ("strconv.ErrRange", laid_strconv_ErrRange), ("strconv.ErrSyntax", laid_strconv_ErrSyntax), ("countermand/label.words", laid_countermand_label_words), ("countermand/label.shapes", laid_countermand_label_shapes), ("unicode/utf8.first", laid_unicode_utf8_first)] }
def LabelReadsSaid : Prop := labelReadsRow.holds Tryd.pinned (OpenSpec.ofChange labelReadsSpec)

/-- ITS FALSE NEIGHBOUR: 'it returns false'. Refute it at one input. -/
def labelReadsWrong : ChangeSpec := { name := "labelReads", fn := fun _ => fun
  | [d1, d2] => { results := [.lit (.bool false)], args := [d1, d2] }
  | _ => none }
def LabelReadsWrongFalsely : Prop := labelReadsRow.holds Tryd.pinned (OpenSpec.ofChange labelReadsWrong)

/-- 'countermandlaw26.LabelFull': WHATEVER THE INPUT: true; the input reads as it did. -/
def labelFullSpec : ChangeSpec := { name := "labelFull", fn := fun _ => fun
  | [d1, d2] => { results := [.lit (.bool true)], args := [d1, d2] }
  | _ => none }
def labelFullRow : OpenClaim := { program := "ytiegkhoidabkhaadoor", sum := "0dd92be1dc90f8bc616193eb8d34e86d6475b492c75e3c7b08d83e8ca19e69f0", func := "countermand/countermandlaw26.LabelFull", spec := "labelFull", inPlace := ["internal/abi.NoEscape", "internal/bytealg.CountString", "internal/bytealg.IndexByteString", "internal/bytealg.IndexString", "internal/bytealg.MakeNoZero"], unfollowed := true, recurses := true, named := ["countermand/label.shapes", "internal/strconv.uint64pow10", "math/bits.deBruijn32tab", "math/bits.deBruijn64tab", "countermand/label.words", "unicode/utf8.first", "unicode/utf8.acceptRanges", "internal/bytealg.MaxLen", "strconv.ErrSyntax", "strconv.ErrRange"], apart := false, laid := [("math/bits.deBruijn32tab", laid_math_bits_deBruijn32tab), ("math/bits.deBruijn64tab", laid_math_bits_deBruijn64tab), ("internal/strconv.uint64pow10", laid_internal_strconv_uint64pow10), ("unicode/utf8.acceptRanges", laid_unicode_utf8_acceptRanges), ("strconv.ErrRange", laid_strconv_ErrRange), ("strconv.ErrSyntax", laid_strconv_ErrSyntax), ("countermand/label.words", laid_countermand_label_words), ("countermand/label.shapes", laid_countermand_label_shapes), ("unicode/utf8.first", laid_unicode_utf8_first)] }
def LabelFullSaid : Prop := labelFullRow.holds Tryd.pinned (OpenSpec.ofChange labelFullSpec)

/-- ITS FALSE NEIGHBOUR: 'it returns false'. Refute it at one input. -/
def labelFullWrong : ChangeSpec := { name := "labelFull", fn := fun _ => fun
  | [d1, d2] => { results := [.lit (.bool false)], args := [d1, d2] }
  | _ => none }
def LabelFullWrongFalsely : Prop := labelFullRow.holds Tryd.pinned (OpenSpec.ofChange labelFullWrong)

/- THE SECOND FORM. 'bulk': how many values and letters a reading holds, each counted each time it is reached (what is shared counts as often as it is met; a slice's spare places count too). A statement '..UptoSaid' is the law's where the arguments, and the package variables that the reading takes, are together of bulk at most 1048576: NARROWER than '..Said'. Prove '..Said' where nothing that the law and all that it calls make is longer than what came in: it says more and counts as full. Else prove '..UptoSaid'. A law counts once. -/
mutual
def uptoBulk {H : Type} : DataW H → Nat
  | .lit (.string bytes) => bytes.length + 1
  | .lit _ => 1
  | .nil => 1
  | .ptr d => uptoBulk d + 1
  | .slice elems spare => uptoBulkAll elems + uptoBulkAll spare + 1
  | .agg parts => uptoBulkAll parts + 1
  | .iface _ d => uptoBulk d + 1
  | .map entries => uptoBulkEntries entries + 1
  | .held _ => 1
def uptoBulkAll {H : Type} : List (DataW H) → Nat
  | [] => 0
  | d :: r => uptoBulk d + uptoBulkAll r
def uptoBulkEntries {H : Type} : List (Lit × DataW H) → Nat
  | [] => 0
  | x :: r => uptoBulkEntry x + uptoBulkEntries r
def uptoBulkEntry {H : Type} : Lit × DataW H → Nat
  | (.string bytes, d) => bytes.length + uptoBulk d + 1
  | (_, d) => uptoBulk d + 1
 end
def uptoSmall : (H : Type) → List (DataW H) → Bool := fun _ ds => decide (uptoBulkAll ds ≤ 1048576)
def OpenSpec.upto (s : _root_.Go.ChangeSpec) : _root_.Go.OpenSpec := { _root_.Go.OpenSpec.ofChange s with cond := some uptoSmall }

/-- 'countermandlaw26.LabelWrites', WHERE WHAT IT READS IS OF BULK AT MOST 1048576: true; the input reads as it did. -/
def labelWritesUptoRow : OpenClaim := { program := "ytiegkhoidabkhaadoor", sum := "0dd92be1dc90f8bc616193eb8d34e86d6475b492c75e3c7b08d83e8ca19e69f0", func := "countermand/countermandlaw26.LabelWrites", spec := "labelWrites", inPlace := ["internal/abi.NoEscape", "internal/bytealg.CountString", "internal/bytealg.IndexByteString", "internal/bytealg.IndexString"], unfollowed := true, recurses := true, named := ["countermand/label.shapes", "internal/strconv.uint64pow10", "math/bits.deBruijn32tab", "math/bits.deBruijn64tab", "countermand/label.words", "unicode/utf8.first", "unicode/utf8.acceptRanges", "internal/bytealg.MaxLen", "strconv.ErrSyntax", "strconv.ErrRange"], apart := false, laid := [("math/bits.deBruijn32tab", laid_math_bits_deBruijn32tab), ("math/bits.deBruijn64tab", laid_math_bits_deBruijn64tab), ("internal/strconv.uint64pow10", laid_internal_strconv_uint64pow10), ("unicode/utf8.acceptRanges", laid_unicode_utf8_acceptRanges), ("strconv.ErrRange", laid_strconv_ErrRange), ("strconv.ErrSyntax", laid_strconv_ErrSyntax), ("countermand/label.words", laid_countermand_label_words), ("countermand/label.shapes", laid_countermand_label_shapes), ("unicode/utf8.first", laid_unicode_utf8_first)], narrowed := true }
def LabelWritesUptoSaid : Prop := labelWritesUptoRow.holds Tryd.pinned (OpenSpec.upto labelWritesSpec)

/-- 'countermandlaw26.LabelReturns', WHERE WHAT IT READS IS OF BULK AT MOST 1048576: true; the input reads as it did. -/
def labelReturnsUptoRow : OpenClaim := { program := "ytiegkhoidabkhaadoor", sum := "0dd92be1dc90f8bc616193eb8d34e86d6475b492c75e3c7b08d83e8ca19e69f0", func := "countermand/countermandlaw26.LabelReturns", spec := "labelReturns", inPlace := ["internal/abi.NoEscape", "internal/bytealg.CountString", "internal/bytealg.IndexByteString", "internal/bytealg.IndexString"], unfollowed := true, recurses := true, named := ["countermand/label.shapes", "internal/strconv.uint64pow10", "math/bits.deBruijn32tab", "math/bits.deBruijn64tab", "countermand/label.words", "unicode/utf8.first", "unicode/utf8.acceptRanges", "internal/bytealg.MaxLen", "strconv.ErrSyntax", "strconv.ErrRange"], apart := false, laid := [("math/bits.deBruijn32tab", laid_math_bits_deBruijn32tab), ("math/bits.deBruijn64tab", laid_math_bits_deBruijn64tab), ("internal/strconv.uint64pow10", laid_internal_strconv_uint64pow10), ("unicode/utf8.acceptRanges", laid_unicode_utf8_acceptRanges), ("strconv.ErrRange", laid_strconv_ErrRange), ("strconv.ErrSyntax", laid_strconv_ErrSyntax), ("countermand/label.words", laid_countermand_label_words), ("countermand/label.shapes", laid_countermand_label_shapes), ("unicode/utf8.first", laid_unicode_utf8_first)], narrowed := true }
def LabelReturnsUptoSaid : Prop := labelReturnsUptoRow.holds Tryd.pinned (OpenSpec.upto labelReturnsSpec)

/-- 'countermandlaw26.LabelAgain', WHERE WHAT IT READS IS OF BULK AT MOST 1048576: true; the input reads as it did. -/
def labelAgainUptoRow : OpenClaim := { program := "ytiegkhoidabkhaadoor", sum := "0dd92be1dc90f8bc616193eb8d34e86d6475b492c75e3c7b08d83e8ca19e69f0", func := "countermand/countermandlaw26.LabelAgain", spec := "labelAgain", inPlace := ["internal/abi.NoEscape", "internal/bytealg.CountString", "internal/bytealg.IndexByteString", "internal/bytealg.IndexString"], unfollowed := true, recurses := true, named := ["countermand/label.shapes", "internal/strconv.uint64pow10", "math/bits.deBruijn32tab", "math/bits.deBruijn64tab", "countermand/label.words", "unicode/utf8.first", "unicode/utf8.acceptRanges", "internal/bytealg.MaxLen", "strconv.ErrSyntax", "strconv.ErrRange"], apart := false, laid := [("math/bits.deBruijn32tab", laid_math_bits_deBruijn32tab), ("math/bits.deBruijn64tab", laid_math_bits_deBruijn64tab), ("internal/strconv.uint64pow10", laid_internal_strconv_uint64pow10), ("unicode/utf8.acceptRanges", laid_unicode_utf8_acceptRanges), ("strconv.ErrRange", laid_strconv_ErrRange), ("strconv.ErrSyntax", laid_strconv_ErrSyntax), ("countermand/label.words", laid_countermand_label_words), ("countermand/label.shapes", laid_countermand_label_shapes), ("unicode/utf8.first", laid_unicode_utf8_first)], narrowed := true }
def LabelAgainUptoSaid : Prop := labelAgainUptoRow.holds Tryd.pinned (OpenSpec.upto labelAgainSpec)

/-- 'countermandlaw26.LabelNames', WHERE WHAT IT READS IS OF BULK AT MOST 1048576: true; the input reads as it did. -/
def labelNamesUptoRow : OpenClaim := { program := "ytiegkhoidabkhaadoor", sum := "0dd92be1dc90f8bc616193eb8d34e86d6475b492c75e3c7b08d83e8ca19e69f0", func := "countermand/countermandlaw26.LabelNames", spec := "labelNames", inPlace := ["internal/abi.NoEscape", "internal/bytealg.CountString", "internal/bytealg.IndexByteString", "internal/bytealg.IndexString"], unfollowed := true, recurses := true, named := ["countermand/label.shapes", "internal/strconv.uint64pow10", "math/bits.deBruijn32tab", "math/bits.deBruijn64tab", "countermand/label.words", "unicode/utf8.first", "unicode/utf8.acceptRanges", "internal/bytealg.MaxLen", "strconv.ErrSyntax", "strconv.ErrRange"], apart := false, laid := [("math/bits.deBruijn32tab", laid_math_bits_deBruijn32tab), ("math/bits.deBruijn64tab", laid_math_bits_deBruijn64tab), ("internal/strconv.uint64pow10", laid_internal_strconv_uint64pow10), ("unicode/utf8.acceptRanges", laid_unicode_utf8_acceptRanges), ("strconv.ErrRange", laid_strconv_ErrRange), ("strconv.ErrSyntax", laid_strconv_ErrSyntax), ("countermand/label.words", laid_countermand_label_words), ("countermand/label.shapes", laid_countermand_label_shapes), ("unicode/utf8.first", laid_unicode_utf8_first)], narrowed := true }
def LabelNamesUptoSaid : Prop := labelNamesUptoRow.holds Tryd.pinned (OpenSpec.upto labelNamesSpec)

/-- 'countermandlaw26.LabelFaults', WHERE WHAT IT READS IS OF BULK AT MOST 1048576: true; the input reads as it did. -/
def labelFaultsUptoRow : OpenClaim := { program := "ytiegkhoidabkhaadoor", sum := "0dd92be1dc90f8bc616193eb8d34e86d6475b492c75e3c7b08d83e8ca19e69f0", func := "countermand/countermandlaw26.LabelFaults", spec := "labelFaults", inPlace := ["internal/abi.NoEscape", "internal/bytealg.CountString", "internal/bytealg.IndexByteString", "internal/bytealg.IndexString"], unfollowed := true, recurses := true, named := ["countermand/label.shapes", "internal/strconv.uint64pow10", "math/bits.deBruijn32tab", "math/bits.deBruijn64tab", "countermand/label.words", "unicode/utf8.first", "unicode/utf8.acceptRanges", "internal/bytealg.MaxLen", "strconv.ErrSyntax", "strconv.ErrRange"], apart := false, laid := [("math/bits.deBruijn32tab", laid_math_bits_deBruijn32tab), ("math/bits.deBruijn64tab", laid_math_bits_deBruijn64tab), ("internal/strconv.uint64pow10", laid_internal_strconv_uint64pow10), ("unicode/utf8.acceptRanges", laid_unicode_utf8_acceptRanges), ("strconv.ErrRange", laid_strconv_ErrRange), ("strconv.ErrSyntax", laid_strconv_ErrSyntax), ("countermand/label.words", laid_countermand_label_words), ("countermand/label.shapes", laid_countermand_label_shapes), ("unicode/utf8.first", laid_unicode_utf8_first)], narrowed := true }
def LabelFaultsUptoSaid : Prop := labelFaultsUptoRow.holds Tryd.pinned (OpenSpec.upto labelFaultsSpec)

/-- 'countermandlaw26.LabelBlank', WHERE WHAT IT READS IS OF BULK AT MOST 1048576: true; the input reads as it did. -/
def labelBlankUptoRow : OpenClaim := { program := "ytiegkhoidabkhaadoor", sum := "0dd92be1dc90f8bc616193eb8d34e86d6475b492c75e3c7b08d83e8ca19e69f0", func := "countermand/countermandlaw26.LabelBlank", spec := "labelBlank", inPlace := ["internal/abi.NoEscape", "internal/bytealg.CountString", "internal/bytealg.IndexByteString", "internal/bytealg.IndexString"], unfollowed := true, recurses := true, named := ["countermand/label.shapes", "internal/strconv.uint64pow10", "math/bits.deBruijn32tab", "math/bits.deBruijn64tab", "countermand/label.words", "unicode/utf8.first", "unicode/utf8.acceptRanges", "internal/bytealg.MaxLen", "strconv.ErrSyntax", "strconv.ErrRange"], apart := false, laid := [("math/bits.deBruijn32tab", laid_math_bits_deBruijn32tab), ("math/bits.deBruijn64tab", laid_math_bits_deBruijn64tab), ("internal/strconv.uint64pow10", laid_internal_strconv_uint64pow10), ("unicode/utf8.acceptRanges", laid_unicode_utf8_acceptRanges), ("strconv.ErrRange", laid_strconv_ErrRange), ("strconv.ErrSyntax", laid_strconv_ErrSyntax), ("countermand/label.words", laid_countermand_label_words), ("countermand/label.shapes", laid_countermand_label_shapes), ("unicode/utf8.first", laid_unicode_utf8_first)], narrowed := true }
def LabelBlankUptoSaid : Prop := labelBlankUptoRow.holds Tryd.pinned (OpenSpec.upto labelBlankSpec)

/-- 'countermandlaw26.LabelReads', WHERE WHAT IT READS IS OF BULK AT MOST 1048576: true; the input reads as it did. -/
def labelReadsUptoRow : OpenClaim := { program := "ytiegkhoidabkhaadoor", sum := "0dd92be1dc90f8bc616193eb8d34e86d6475b492c75e3c7b08d83e8ca19e69f0", func := "countermand/countermandlaw26.LabelReads", spec := "labelReads", inPlace := ["internal/abi.NoEscape", "internal/bytealg.CountString", "internal/bytealg.IndexByteString", "internal/bytealg.IndexString"], unfollowed := true, recurses := true, named := ["countermand/label.shapes", "internal/strconv.uint64pow10", "math/bits.deBruijn32tab", "math/bits.deBruijn64tab", "countermand/label.words", "unicode/utf8.first", "unicode/utf8.acceptRanges", "internal/bytealg.MaxLen", "strconv.ErrSyntax", "strconv.ErrRange"], apart := false, laid := [("math/bits.deBruijn32tab", laid_math_bits_deBruijn32tab), ("math/bits.deBruijn64tab", laid_math_bits_deBruijn64tab), ("internal/strconv.uint64pow10", laid_internal_strconv_uint64pow10), ("unicode/utf8.acceptRanges", laid_unicode_utf8_acceptRanges), ("strconv.ErrRange", laid_strconv_ErrRange), ("strconv.ErrSyntax", laid_strconv_ErrSyntax), ("countermand/label.words", laid_countermand_label_words), ("countermand/label.shapes", laid_countermand_label_shapes), ("unicode/utf8.first", laid_unicode_utf8_first)], narrowed := true }
def LabelReadsUptoSaid : Prop := labelReadsUptoRow.holds Tryd.pinned (OpenSpec.upto labelReadsSpec)

/-- 'countermandlaw26.LabelFull', WHERE WHAT IT READS IS OF BULK AT MOST 1048576: true; the input reads as it did. -/
def labelFullUptoRow : OpenClaim := { program := "ytiegkhoidabkhaadoor", sum := "0dd92be1dc90f8bc616193eb8d34e86d6475b492c75e3c7b08d83e8ca19e69f0", func := "countermand/countermandlaw26.LabelFull", spec := "labelFull", inPlace := ["internal/abi.NoEscape", "internal/bytealg.CountString", "internal/bytealg.IndexByteString", "internal/bytealg.IndexString", "internal/bytealg.MakeNoZero"], unfollowed := true, recurses := true, named := ["countermand/label.shapes", "internal/strconv.uint64pow10", "math/bits.deBruijn32tab", "math/bits.deBruijn64tab", "countermand/label.words", "unicode/utf8.first", "unicode/utf8.acceptRanges", "internal/bytealg.MaxLen", "strconv.ErrSyntax", "strconv.ErrRange"], apart := false, laid := [("math/bits.deBruijn32tab", laid_math_bits_deBruijn32tab), ("math/bits.deBruijn64tab", laid_math_bits_deBruijn64tab), ("internal/strconv.uint64pow10", laid_internal_strconv_uint64pow10), ("unicode/utf8.acceptRanges", laid_unicode_utf8_acceptRanges), ("strconv.ErrRange", laid_strconv_ErrRange), ("strconv.ErrSyntax", laid_strconv_ErrSyntax), ("countermand/label.words", laid_countermand_label_words), ("countermand/label.shapes", laid_countermand_label_shapes), ("unicode/utf8.first", laid_unicode_utf8_first)], narrowed := true }
def LabelFullUptoSaid : Prop := labelFullUptoRow.holds Tryd.pinned (OpenSpec.upto labelFullSpec)

end Rows
end Go.Proofs.YtiegkhoidabkhaaDoor

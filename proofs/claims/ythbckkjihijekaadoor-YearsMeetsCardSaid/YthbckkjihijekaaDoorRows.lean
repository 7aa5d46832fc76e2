/-
  NARROWER THAN 'FOR EVERY INPUT', by the rows' own cells (each row's printed sentence says how): YearsMatchReference: laid · YearsTexts: laid · YearsParses: laid · YearsRelates: laid · YearsOrders: laid · YearsMeets: laid · YearsGrows: laid · YearsCovers: laid · YearsSeparate: laid.
  DERIVED. THE GIVEN ROWS OF THIS SEAT. 9 by the template 'for every input the law returns true; each argument reads behind the call as it read before'; 0 by the template 'total and deterministic' (their statements: YthbckkjihijekaaDoorTotals.lean).
  GIVEN WITH THE SEED: the statements are not yours to turn. If you find one false, say at which input.
  Laid BY PROGRAM, IN A SANDBOX (cutbox-rows.mjs): the forced cells as the released guide's own fill.sh prints them over the translation 1a349e096498654f… (all of the seat's roots in one cut). By AI agents, Wed Nov 11 2026. No macro, syntax, notation, axiom, sorry.
-/
import Derived.Test.YthbckkjihijekaaDoorChecked
import GoSem.Claim
import GoSem.ClaimJoined
import GoSem.ClaimMapViews
import Derived.JoinedTies
import Derived.KernelRfl
namespace Go.Proofs.YthbckkjihijekaaDoor
/- THE CELL 'sum', in the pinned program and in every row, IS THE sha256 OF THE DUMP (.gsa) THAT YthbckkjihijekaaDoorProg.lean LOADS. Nothing in Lean hashes anything: it is a label: what it is worth is what the hold of that sum in a sandbox is worth. -/
noncomputable def Tryd.pinned : Pinned := { name := "ythbckkjihijekaadoor", sum := "1a349e096498654f3a79ad639617524dbebdb00bb3c62df1c48df9f299adc9f9", checked := Tryd.checked }
namespace Rows
def none {H : Type} : Left H := { results := [], args := [] }

/- WHAT THE LISTED PACKAGE-LEVEL VARIABLES READ AS WHEN THE CALL BEGINS. Each datum BY PROGRAM (the guide's laid-datum.mjs) off the statement by which the dump's own 'gosem.cut.vars' lays the variable. In a bare row this is a premise. The card (YthbckkjihijekaaDoorCards.lean) ties it to the program's text. -/
def laid_math_bits_deBruijn32tab {H : Type} : DataW H := .agg [.lit (.int .u8 0), .lit (.int .u8 1), .lit (.int .u8 28), .lit (.int .u8 2), .lit (.int .u8 29), .lit (.int .u8 14), .lit (.int .u8 24), .lit (.int .u8 3), .lit (.int .u8 30), .lit (.int .u8 22), .lit (.int .u8 20), .lit (.int .u8 15), .lit (.int .u8 25), .lit (.int .u8 17), .lit (.int .u8 4), .lit (.int .u8 8), .lit (.int .u8 31), .lit (.int .u8 27), .lit (.int .u8 13), .lit (.int .u8 23), .lit (.int .u8 21), .lit (.int .u8 19), .lit (.int .u8 16), .lit (.int .u8 7), .lit (.int .u8 26), .lit (.int .u8 12), .lit (.int .u8 18), .lit (.int .u8 6), .lit (.int .u8 11), .lit (.int .u8 5), .lit (.int .u8 10), .lit (.int .u8 9)]
def laid_math_bits_deBruijn64tab {H : Type} : DataW H := .agg [.lit (.int .u8 0), .lit (.int .u8 1), .lit (.int .u8 56), .lit (.int .u8 2), .lit (.int .u8 57), .lit (.int .u8 49), .lit (.int .u8 28), .lit (.int .u8 3), .lit (.int .u8 61), .lit (.int .u8 58), .lit (.int .u8 42), .lit (.int .u8 50), .lit (.int .u8 38), .lit (.int .u8 29), .lit (.int .u8 17), .lit (.int .u8 4), .lit (.int .u8 62), .lit (.int .u8 47), .lit (.int .u8 59), .lit (.int .u8 36), .lit (.int .u8 45), .lit (.int .u8 43), .lit (.int .u8 51), .lit (.int .u8 22), .lit (.int .u8 53), .lit (.int .u8 39), .lit (.int .u8 33), .lit (.int .u8 30), .lit (.int .u8 24), .lit (.int .u8 18), .lit (.int .u8 12), .lit (.int .u8 5), .lit (.int .u8 63), .lit (.int .u8 55), .lit (.int .u8 48), .lit (.int .u8 27), .lit (.int .u8 60), .lit (.int .u8 41), .lit (.int .u8 37), .lit (.int .u8 16), .lit (.int .u8 46), .lit (.int .u8 35), .lit (.int .u8 44), .lit (.int .u8 21), .lit (.int .u8 52), .lit (.int .u8 32), .lit (.int .u8 23), .lit (.int .u8 11), .lit (.int .u8 54), .lit (.int .u8 26), .lit (.int .u8 40), .lit (.int .u8 15), .lit (.int .u8 34), .lit (.int .u8 20), .lit (.int .u8 31), .lit (.int .u8 10), .lit (.int .u8 25), .lit (.int .u8 14), .lit (.int .u8 19), .lit (.int .u8 9), .lit (.int .u8 13), .lit (.int .u8 8), .lit (.int .u8 7), .lit (.int .u8 6)]
def laid_internal_strconv_uint64pow10 {H : Type} : DataW H := .agg [.lit (.int .u64 1), .lit (.int .u64 10), .lit (.int .u64 100), .lit (.int .u64 1000), .lit (.int .u64 10000), .lit (.int .u64 100000), .lit (.int .u64 1000000), .lit (.int .u64 10000000), .lit (.int .u64 100000000), .lit (.int .u64 1000000000), .lit (.int .u64 10000000000), .lit (.int .u64 100000000000), .lit (.int .u64 1000000000000), .lit (.int .u64 10000000000000), .lit (.int .u64 100000000000000), .lit (.int .u64 1000000000000000), .lit (.int .u64 10000000000000000), .lit (.int .u64 100000000000000000), .lit (.int .u64 1000000000000000000), .lit (.int .u64 10000000000000000000)]
def laid_strconv_ErrRange {H : Type} : DataW H := .iface "*errors.errorString" (.ptr (.agg [.lit (.string [118, 97, 108, 117, 101, 32, 111, 117, 116, 32, 111, 102, 32, 114, 97, 110, 103, 101])]))
def laid_strconv_ErrSyntax {H : Type} : DataW H := .iface "*errors.errorString" (.ptr (.agg [.lit (.string [105, 110, 118, 97, 108, 105, 100, 32, 115, 121, 110, 116, 97, 120])]))

/-- 'coinagelaw04.YearsMatchReference': WHATEVER THE INPUT: true; the input reads as it did. -/
def yearsMatchReferenceSpec : ChangeSpec := { name := "yearsMatchReference", fn := fun _ => fun
  | [d1, d2] => { results := [.lit (.bool true)], args := [d1, d2] }
  | _ => none }
def yearsMatchReferenceRow : OpenClaim := { program := "ythbckkjihijekaadoor", sum := "1a349e096498654f3a79ad639617524dbebdb00bb3c62df1c48df9f299adc9f9", func := "coinage/coinagelaw04.YearsMatchReference", spec := "yearsMatchReference", inPlace := ["internal/bytealg.IndexByteString", "internal/bytealg.IndexString"], unfollowed := true, recurses := true, named := ["internal/bytealg.MaxLen", "strconv.ErrSyntax", "strconv.ErrRange", "internal/strconv.uint64pow10", "math/bits.deBruijn32tab", "math/bits.deBruijn64tab"], apart := false, laid := [("math/bits.deBruijn32tab", laid_math_bits_deBruijn32tab), ("math/bits.deBruijn64tab", laid_math_bits_deBruijn64tab), ("internal/strconv.uint64pow10", laid_internal_strconv_uint64pow10), ("strconv.ErrRange", laid_strconv_ErrRange), ("strconv.ErrSyntax", laid_strconv_ErrSyntax)] }
def YearsMatchReferenceSaid : Prop := yearsMatchReferenceRow.holds Tryd.pinned (OpenSpec.ofChange yearsMatchReferenceSpec)

/-- ITS FALSE NEIGHBOUR: 'it returns false'. Refute it at one input. -/
def yearsMatchReferenceWrong : ChangeSpec := { name := "yearsMatchReference", fn := fun _ => fun
  | [d1, d2] => { results := [.lit (.bool false)], args := [d1, d2] }
  | _ => none }
def YearsMatchReferenceWrongFalsely : Prop := yearsMatchReferenceRow.holds Tryd.pinned (OpenSpec.ofChange yearsMatchReferenceWrong)

/-- 'coinagelaw04.YearsTexts': WHATEVER THE INPUT: true; the input reads as it did. -/
def yearsTextsSpec : ChangeSpec := { name := "yearsTexts", fn := fun _ => fun
  | [d] => { results := [.lit (.bool true)], args := [d] }
  | _ => none }
def yearsTextsRow : OpenClaim := { program := "ythbckkjihijekaadoor", sum := "1a349e096498654f3a79ad639617524dbebdb00bb3c62df1c48df9f299adc9f9", func := "coinage/coinagelaw04.YearsTexts", spec := "yearsTexts", inPlace := ["internal/bytealg.IndexByteString", "internal/bytealg.IndexString"], unfollowed := true, recurses := true, named := ["internal/bytealg.MaxLen", "strconv.ErrSyntax", "strconv.ErrRange", "internal/strconv.uint64pow10", "math/bits.deBruijn32tab", "math/bits.deBruijn64tab"], apart := false, laid := [("math/bits.deBruijn32tab", laid_math_bits_deBruijn32tab), ("math/bits.deBruijn64tab", laid_math_bits_deBruijn64tab), ("internal/strconv.uint64pow10", laid_internal_strconv_uint64pow10), ("strconv.ErrRange", laid_strconv_ErrRange), ("strconv.ErrSyntax", laid_strconv_ErrSyntax)] }
def YearsTextsSaid : Prop := yearsTextsRow.holds Tryd.pinned (OpenSpec.ofChange yearsTextsSpec)

/-- ITS FALSE NEIGHBOUR: 'it returns false'. Refute it at one input. -/
def yearsTextsWrong : ChangeSpec := { name := "yearsTexts", fn := fun _ => fun
  | [d] => { results := [.lit (.bool false)], args := [d] }
  | _ => none }
def YearsTextsWrongFalsely : Prop := yearsTextsRow.holds Tryd.pinned (OpenSpec.ofChange yearsTextsWrong)

/-- 'coinagelaw04.YearsParses': WHATEVER THE INPUT: true; the input reads as it did. -/
def yearsParsesSpec : ChangeSpec := { name := "yearsParses", fn := fun _ => fun
  | [d] => { results := [.lit (.bool true)], args := [d] }
  | _ => none }
def yearsParsesRow : OpenClaim := { program := "ythbckkjihijekaadoor", sum := "1a349e096498654f3a79ad639617524dbebdb00bb3c62df1c48df9f299adc9f9", func := "coinage/coinagelaw04.YearsParses", spec := "yearsParses", inPlace := ["internal/bytealg.IndexByteString", "internal/bytealg.IndexString"], unfollowed := true, recurses := true, named := ["internal/bytealg.MaxLen", "strconv.ErrSyntax", "strconv.ErrRange", "internal/strconv.uint64pow10", "math/bits.deBruijn32tab", "math/bits.deBruijn64tab"], apart := false, laid := [("math/bits.deBruijn32tab", laid_math_bits_deBruijn32tab), ("math/bits.deBruijn64tab", laid_math_bits_deBruijn64tab), ("internal/strconv.uint64pow10", laid_internal_strconv_uint64pow10), ("strconv.ErrRange", laid_strconv_ErrRange), ("strconv.ErrSyntax", laid_strconv_ErrSyntax)] }
def YearsParsesSaid : Prop := yearsParsesRow.holds Tryd.pinned (OpenSpec.ofChange yearsParsesSpec)

/-- ITS FALSE NEIGHBOUR: 'it returns false'. Refute it at one input. -/
def yearsParsesWrong : ChangeSpec := { name := "yearsParses", fn := fun _ => fun
  | [d] => { results := [.lit (.bool false)], args := [d] }
  | _ => none }
def YearsParsesWrongFalsely : Prop := yearsParsesRow.holds Tryd.pinned (OpenSpec.ofChange yearsParsesWrong)

/-- 'coinagelaw04.YearsRelates': WHATEVER THE INPUT: true; the input reads as it did. -/
def yearsRelatesSpec : ChangeSpec := { name := "yearsRelates", fn := fun _ => fun
  | [d1, d2] => { results := [.lit (.bool true)], args := [d1, d2] }
  | _ => none }
def yearsRelatesRow : OpenClaim := { program := "ythbckkjihijekaadoor", sum := "1a349e096498654f3a79ad639617524dbebdb00bb3c62df1c48df9f299adc9f9", func := "coinage/coinagelaw04.YearsRelates", spec := "yearsRelates", inPlace := ["internal/bytealg.IndexByteString", "internal/bytealg.IndexString"], unfollowed := true, recurses := true, named := ["internal/bytealg.MaxLen", "strconv.ErrSyntax", "strconv.ErrRange", "internal/strconv.uint64pow10", "math/bits.deBruijn32tab", "math/bits.deBruijn64tab"], apart := false, laid := [("math/bits.deBruijn32tab", laid_math_bits_deBruijn32tab), ("math/bits.deBruijn64tab", laid_math_bits_deBruijn64tab), ("internal/strconv.uint64pow10", laid_internal_strconv_uint64pow10), ("strconv.ErrRange", laid_strconv_ErrRange), ("strconv.ErrSyntax", laid_strconv_ErrSyntax)] }
def YearsRelatesSaid : Prop := yearsRelatesRow.holds Tryd.pinned (OpenSpec.ofChange yearsRelatesSpec)

/-- ITS FALSE NEIGHBOUR: 'it returns false'. Refute it at one input. -/
def yearsRelatesWrong : ChangeSpec := { name := "yearsRelates", fn := fun _ => fun
  | [d1, d2] => { results := [.lit (.bool false)], args := [d1, d2] }
  | _ => none }
def YearsRelatesWrongFalsely : Prop := yearsRelatesRow.holds Tryd.pinned (OpenSpec.ofChange yearsRelatesWrong)

/-- 'coinagelaw04.YearsOrders': WHATEVER THE INPUT: true; the input reads as it did. -/
def yearsOrdersSpec : ChangeSpec := { name := "yearsOrders", fn := fun _ => fun
  | [d1, d2, d3] => { results := [.lit (.bool true)], args := [d1, d2, d3] }
  | _ => none }
def yearsOrdersRow : OpenClaim := { program := "ythbckkjihijekaadoor", sum := "1a349e096498654f3a79ad639617524dbebdb00bb3c62df1c48df9f299adc9f9", func := "coinage/coinagelaw04.YearsOrders", spec := "yearsOrders", inPlace := ["internal/bytealg.IndexByteString", "internal/bytealg.IndexString"], unfollowed := true, recurses := true, named := ["internal/bytealg.MaxLen", "strconv.ErrSyntax", "strconv.ErrRange", "internal/strconv.uint64pow10", "math/bits.deBruijn32tab", "math/bits.deBruijn64tab"], apart := false, laid := [("math/bits.deBruijn32tab", laid_math_bits_deBruijn32tab), ("math/bits.deBruijn64tab", laid_math_bits_deBruijn64tab), ("internal/strconv.uint64pow10", laid_internal_strconv_uint64pow10), ("strconv.ErrRange", laid_strconv_ErrRange), ("strconv.ErrSyntax", laid_strconv_ErrSyntax)] }
def YearsOrdersSaid : Prop := yearsOrdersRow.holds Tryd.pinned (OpenSpec.ofChange yearsOrdersSpec)

/-- ITS FALSE NEIGHBOUR: 'it returns false'. Refute it at one input. -/
def yearsOrdersWrong : ChangeSpec := { name := "yearsOrders", fn := fun _ => fun
  | [d1, d2, d3] => { results := [.lit (.bool false)], args := [d1, d2, d3] }
  | _ => none }
def YearsOrdersWrongFalsely : Prop := yearsOrdersRow.holds Tryd.pinned (OpenSpec.ofChange yearsOrdersWrong)

/-- 'coinagelaw04.YearsMeets': WHATEVER THE INPUT: true; the input reads as it did. -/
def yearsMeetsSpec : ChangeSpec := { name := "yearsMeets", fn := fun _ => fun
  | [d1, d2, d3] => { results := [.lit (.bool true)], args := [d1, d2, d3] }
  | _ => none }
def yearsMeetsRow : OpenClaim := { program := "ythbckkjihijekaadoor", sum := "1a349e096498654f3a79ad639617524dbebdb00bb3c62df1c48df9f299adc9f9", func := "coinage/coinagelaw04.YearsMeets", spec := "yearsMeets", inPlace := ["internal/bytealg.IndexByteString", "internal/bytealg.IndexString"], unfollowed := true, recurses := true, named := ["internal/bytealg.MaxLen", "strconv.ErrSyntax", "strconv.ErrRange", "internal/strconv.uint64pow10", "math/bits.deBruijn32tab", "math/bits.deBruijn64tab"], apart := false, laid := [("math/bits.deBruijn32tab", laid_math_bits_deBruijn32tab), ("math/bits.deBruijn64tab", laid_math_bits_deBruijn64tab), ("internal/strconv.uint64pow10", laid_internal_strconv_uint64pow10), ("strconv.ErrRange", laid_strconv_ErrRange), ("strconv.ErrSyntax", laid_strconv_ErrSyntax)] }
def YearsMeetsSaid : Prop := yearsMeetsRow.holds Tryd.pinned (OpenSpec.ofChange yearsMeetsSpec)

/-- ITS FALSE NEIGHBOUR: 'it returns false'. Refute it at one input. -/
def yearsMeetsWrong : ChangeSpec := { name := "yearsMeets", fn := fun _ => fun
  | [d1, d2, d3] => { results := [.lit (.bool false)], args := [d1, d2, d3] }
  | _ => none }
def YearsMeetsWrongFalsely : Prop := yearsMeetsRow.holds Tryd.pinned (OpenSpec.ofChange yearsMeetsWrong)

/-- 'coinagelaw04.YearsGrows': WHATEVER THE INPUT: true; the input reads as it did. -/
def yearsGrowsSpec : ChangeSpec := { name := "yearsGrows", fn := fun _ => fun
  | [d1, d2] => { results := [.lit (.bool true)], args := [d1, d2] }
  | _ => none }
def yearsGrowsRow : OpenClaim := { program := "ythbckkjihijekaadoor", sum := "1a349e096498654f3a79ad639617524dbebdb00bb3c62df1c48df9f299adc9f9", func := "coinage/coinagelaw04.YearsGrows", spec := "yearsGrows", inPlace := ["internal/bytealg.IndexByteString", "internal/bytealg.IndexString"], unfollowed := true, recurses := true, named := ["internal/bytealg.MaxLen", "strconv.ErrSyntax", "strconv.ErrRange", "internal/strconv.uint64pow10", "math/bits.deBruijn32tab", "math/bits.deBruijn64tab"], apart := false, laid := [("math/bits.deBruijn32tab", laid_math_bits_deBruijn32tab), ("math/bits.deBruijn64tab", laid_math_bits_deBruijn64tab), ("internal/strconv.uint64pow10", laid_internal_strconv_uint64pow10), ("strconv.ErrRange", laid_strconv_ErrRange), ("strconv.ErrSyntax", laid_strconv_ErrSyntax)] }
def YearsGrowsSaid : Prop := yearsGrowsRow.holds Tryd.pinned (OpenSpec.ofChange yearsGrowsSpec)

/-- ITS FALSE NEIGHBOUR: 'it returns false'. Refute it at one input. -/
def yearsGrowsWrong : ChangeSpec := { name := "yearsGrows", fn := fun _ => fun
  | [d1, d2] => { results := [.lit (.bool false)], args := [d1, d2] }
  | _ => none }
def YearsGrowsWrongFalsely : Prop := yearsGrowsRow.holds Tryd.pinned (OpenSpec.ofChange yearsGrowsWrong)

/-- 'coinagelaw04.YearsCovers': WHATEVER THE INPUT: true; the input reads as it did. -/
def yearsCoversSpec : ChangeSpec := { name := "yearsCovers", fn := fun _ => fun
  | [d] => { results := [.lit (.bool true)], args := [d] }
  | _ => none }
def yearsCoversRow : OpenClaim := { program := "ythbckkjihijekaadoor", sum := "1a349e096498654f3a79ad639617524dbebdb00bb3c62df1c48df9f299adc9f9", func := "coinage/coinagelaw04.YearsCovers", spec := "yearsCovers", inPlace := ["internal/bytealg.IndexByteString", "internal/bytealg.IndexString"], unfollowed := true, recurses := true, named := ["internal/bytealg.MaxLen", "strconv.ErrSyntax", "strconv.ErrRange", "internal/strconv.uint64pow10", "math/bits.deBruijn32tab", "math/bits.deBruijn64tab"], apart := false, laid := [("math/bits.deBruijn32tab", laid_math_bits_deBruijn32tab), ("math/bits.deBruijn64tab", laid_math_bits_deBruijn64tab), ("internal/strconv.uint64pow10", laid_internal_strconv_uint64pow10), ("strconv.ErrRange", laid_strconv_ErrRange), ("strconv.ErrSyntax", laid_strconv_ErrSyntax)] }
def YearsCoversSaid : Prop := yearsCoversRow.holds Tryd.pinned (OpenSpec.ofChange yearsCoversSpec)

/-- ITS FALSE NEIGHBOUR: 'it returns false'. Refute it at one input. -/
def yearsCoversWrong : ChangeSpec := { name := "yearsCovers", fn := fun _ => fun
  | [d] => { results := [.lit (.bool false)], args := [d] }
  | _ => none }
def YearsCoversWrongFalsely : Prop := yearsCoversRow.holds Tryd.pinned (OpenSpec.ofChange yearsCoversWrong)

/-- 'coinagelaw04.YearsSeparate': WHATEVER THE INPUT: true; the input reads as it did. -/
def yearsSeparateSpec : ChangeSpec := { name := "yearsSeparate", fn := fun _ => fun
  | [d] => { results := [.lit (.bool true)], args := [d] }
  | _ => none }
def yearsSeparateRow : OpenClaim := { program := "ythbckkjihijekaadoor", sum := "1a349e096498654f3a79ad639617524dbebdb00bb3c62df1c48df9f299adc9f9", func := "coinage/coinagelaw04.YearsSeparate", spec := "yearsSeparate", inPlace := ["internal/bytealg.IndexByteString", "internal/bytealg.IndexString"], unfollowed := true, recurses := true, named := ["internal/bytealg.MaxLen", "strconv.ErrSyntax", "strconv.ErrRange", "internal/strconv.uint64pow10", "math/bits.deBruijn32tab", "math/bits.deBruijn64tab"], apart := false, laid := [("math/bits.deBruijn32tab", laid_math_bits_deBruijn32tab), ("math/bits.deBruijn64tab", laid_math_bits_deBruijn64tab), ("internal/strconv.uint64pow10", laid_internal_strconv_uint64pow10), ("strconv.ErrRange", laid_strconv_ErrRange), ("strconv.ErrSyntax", laid_strconv_ErrSyntax)] }
def YearsSeparateSaid : Prop := yearsSeparateRow.holds Tryd.pinned (OpenSpec.ofChange yearsSeparateSpec)

/-- ITS FALSE NEIGHBOUR: 'it returns false'. Refute it at one input. -/
def yearsSeparateWrong : ChangeSpec := { name := "yearsSeparate", fn := fun _ => fun
  | [d] => { results := [.lit (.bool false)], args := [d] }
  | _ => none }
def YearsSeparateWrongFalsely : Prop := yearsSeparateRow.holds Tryd.pinned (OpenSpec.ofChange yearsSeparateWrong)

/- THE SECOND FORM. 'bulk': how many values and letters a reading holds, each counted each time it is reached (what is shared counts as often as it is met; a slice's spare places count too). A statement '..UptoSaid' is the law's where the arguments, and the package variables that the reading takes, are together of bulk at most 1048576: NARROWER than '..Said'. Prove '..Said' where nothing that the law and all that it calls make is longer than what came in: it says more and counts as full. Else prove '..UptoSaid'. A law counts once. -/
mutual
def uptoBulk {H : Type} : DataW H → Nat
  | .lit (.string bytes) => bytes.length + 1
  | .lit _ => 1
  | .nil => 1
  | .ptr d => uptoBulk d + 1
  | .slice elems spare => uptoBulkAll elems + uptoBulkAll spare + 1
  | .agg parts => uptoBulkAll parts + 1
  | .iface _ d => uptoBulk d + 1
  | .map entries => uptoBulkEntries entries + 1
  | .held _ => 1
def uptoBulkAll {H : Type} : List (DataW H) → Nat
  | [] => 0
  | d :: r => uptoBulk d + uptoBulkAll r
def uptoBulkEntries {H : Type} : List (Lit × DataW H) → Nat
  | [] => 0
  | x :: r => uptoBulkEntry x + uptoBulkEntries r
def uptoBulkEntry {H : Type} : Lit × DataW H → Nat
  | (.string bytes, d) => bytes.length + uptoBulk d + 1
  | (_, d) => uptoBulk d + 1
 end
def uptoSmall : (H : Type) → List (DataW H) → Bool := fun _ ds => decide (uptoBulkAll ds ≤ 1048576)
def OpenSpec.upto (s : _root_.Go.ChangeSpec) : _root_.Go.OpenSpec := { _root_.Go.OpenSpec.ofChange s with cond := some uptoSmall }

/-- 'coinagelaw04.YearsMatchReference', WHERE WHAT IT READS IS OF BULK AT MOST 1048576: true; the input reads as it did. -/
def yearsMatchReferenceUptoRow : OpenClaim := { program := "ythbckkjihijekaadoor", sum := "1a349e096498654f3a79ad639617524dbebdb00bb3c62df1c48df9f299adc9f9", func := "coinage/coinagelaw04.YearsMatchReference", spec := "yearsMatchReference", inPlace := ["internal/bytealg.IndexByteString", "internal/bytealg.IndexString"], unfollowed := true, recurses := true, named := ["internal/bytealg.MaxLen", "strconv.ErrSyntax", "strconv.ErrRange", "internal/strconv.uint64pow10", "math/bits.deBruijn32tab", "math/bits.deBruijn64tab"], apart := false, laid := [("math/bits.deBruijn32tab", laid_math_bits_deBruijn32tab), ("math/bits.deBruijn64tab", laid_math_bits_deBruijn64tab), ("internal/strconv.uint64pow10", laid_internal_strconv_uint64pow10), ("strconv.ErrRange", laid_strconv_ErrRange), ("strconv.ErrSyntax", laid_strconv_ErrSyntax)], narrowed := true }
def YearsMatchReferenceUptoSaid : Prop := yearsMatchReferenceUptoRow.holds Tryd.pinned (OpenSpec.upto yearsMatchReferenceSpec)

/-- 'coinagelaw04.YearsTexts', WHERE WHAT IT READS IS OF BULK AT MOST 1048576: true; the input reads as it did. -/
def yearsTextsUptoRow : OpenClaim := { program := "ythbckkjihijekaadoor", sum := "1a349e096498654f3a79ad639617524dbebdb00bb3c62df1c48df9f299adc9f9", func := "coinage/coinagelaw04.YearsTexts", spec := "yearsTexts", inPlace := ["internal/bytealg.IndexByteString", "internal/bytealg.IndexString"], unfollowed := true, recurses := true, named := ["internal/bytealg.MaxLen", "strconv.ErrSyntax", "strconv.ErrRange", "internal/strconv.uint64pow10", "math/bits.deBruijn32tab", "math/bits.deBruijn64tab"], apart := false, laid := [("math/bits.deBruijn32tab", laid_math_bits_deBruijn32tab), ("math/bits.deBruijn64tab", laid_math_bits_deBruijn64tab), ("internal/strconv.uint64pow10", laid_internal_strconv_uint64pow10), ("strconv.ErrRange", laid_strconv_ErrRange), ("strconv.ErrSyntax", laid_strconv_ErrSyntax)], narrowed := true }
def YearsTextsUptoSaid : Prop := yearsTextsUptoRow.holds Tryd.pinned (OpenSpec.upto yearsTextsSpec)

/-- 'coinagelaw04.YearsParses', WHERE WHAT IT READS IS OF BULK AT MOST 1048576: true; the input reads as it did. -/
def yearsParsesUptoRow : OpenClaim := { program := "ythbckkjihijekaadoor", sum := "1a349e096498654f3a79ad639617524dbebdb00bb3c62df1c48df9f299adc9f9", func := "coinage/coinagelaw04.YearsParses", spec := "yearsParses", inPlace := ["internal/bytealg.IndexByteString", "internal/bytealg.IndexString"], unfollowed := true, recurses := true, named := ["internal/bytealg.MaxLen", "strconv.ErrSyntax", "strconv.ErrRange", "internal/strconv.uint64pow10", "math/bits.deBruijn32tab", "math/bits.deBruijn64tab"], apart := false, laid := [("math/bits.deBruijn32tab", laid_math_bits_deBruijn32tab), ("math/bits.deBruijn64tab", laid_math_bits_deBruijn64tab), ("internal/strconv.uint64pow10", laid_internal_strconv_uint64pow10), ("strconv.ErrRange", laid_strconv_ErrRange), ("strconv.ErrSyntax", laid_strconv_ErrSyntax)], narrowed := true }
def YearsParsesUptoSaid : Prop := yearsParsesUptoRow.holds Tryd.pinned (OpenSpec.upto yearsParsesSpec)

/-- 'coinagelaw04.YearsRelates', WHERE WHAT IT READS IS OF BULK AT MOST 1048576: true; the input reads as it did. -/
def yearsRelatesUptoRow : OpenClaim := { program := "ythbckkjihijekaadoor", sum := "1a349e096498654f3a79ad639617524dbebdb00bb3c62df1c48df9f299adc9f9", func := "coinage/coinagelaw04.YearsRelates", spec := "yearsRelates", inPlace := ["internal/bytealg.IndexByteString", "internal/bytealg.IndexString"], unfollowed := true, recurses := true, named := ["internal/bytealg.MaxLen", "strconv.ErrSyntax", "strconv.ErrRange", "internal/strconv.uint64pow10", "math/bits.deBruijn32tab", "math/bits.deBruijn64tab"], apart := false, laid := [("math/bits.deBruijn32tab", laid_math_bits_deBruijn32tab), ("math/bits.deBruijn64tab", laid_math_bits_deBruijn64tab), ("internal/strconv.uint64pow10", laid_internal_strconv_uint64pow10), ("strconv.ErrRange", laid_strconv_ErrRange), ("strconv.ErrSyntax", laid_strconv_ErrSyntax)], narrowed := true }
def YearsRelatesUptoSaid : Prop := yearsRelatesUptoRow.holds Tryd.pinned (OpenSpec.upto yearsRelatesSpec)

/-- 'coinagelaw04.YearsOrders', WHERE WHAT IT READS IS OF BULK AT MOST 1048576: true; the input reads as it did. -/
def yearsOrdersUptoRow : OpenClaim := { program := "ythbckkjihijekaadoor", sum := "1a349e096498654f3a79ad639617524dbebdb00bb3c62df1c48df9f299adc9f9", func := "coinage/coinagelaw04.YearsOrders", spec := "yearsOrders", inPlace := ["internal/bytealg.IndexByteString", "internal/bytealg.IndexString"], unfollowed := true, recurses := true, named := ["internal/bytealg.MaxLen", "strconv.ErrSyntax", "strconv.ErrRange", "internal/strconv.uint64pow10", "math/bits.deBruijn32tab", "math/bits.deBruijn64tab"], apart := false, laid := [("math/bits.deBruijn32tab", laid_math_bits_deBruijn32tab), ("math/bits.deBruijn64tab", laid_math_bits_deBruijn64tab), ("internal/strconv.uint64pow10", laid_internal_strconv_uint64pow10), ("strconv.ErrRange", laid_strconv_ErrRange), ("strconv.ErrSyntax", laid_strconv_ErrSyntax)], narrowed := true }
def YearsOrdersUptoSaid : Prop := yearsOrdersUptoRow.holds Tryd.pinned (OpenSpec.upto yearsOrdersSpec)

/-- 'coinagelaw04.YearsMeets', WHERE WHAT IT READS IS OF BULK AT MOST 1048576: true; the input reads as it did. -/
def yearsMeetsUptoRow : OpenClaim := { program := "ythbckkjihijekaadoor", sum := "1a349e096498654f3a79ad639617524dbebdb00bb3c62df1c48df9f299adc9f9", func := "coinage/coinagelaw04.YearsMeets", spec := "yearsMeets", inPlace := ["internal/bytealg.IndexByteString", "internal/bytealg.IndexString"], unfollowed := true, recurses := true, named := ["internal/bytealg.MaxLen", "strconv.ErrSyntax", "strconv.ErrRange", "internal/strconv.uint64pow10", "math/bits.deBruijn32tab", "math/bits.deBruijn64tab"], apart := false, laid := [("math/bits.deBruijn32tab", laid_math_bits_deBruijn32tab), ("math/bits.deBruijn64tab", laid_math_bits_deBruijn64tab), ("internal/strconv.uint64pow10", laid_internal_strconv_uint64pow10), ("strconv.ErrRange", laid_strconv_ErrRange), ("strconv.ErrSyntax", laid_strconv_ErrSyntax)], narrowed := true }
def YearsMeetsUptoSaid : Prop := yearsMeetsUptoRow.holds Tryd.pinned (OpenSpec.upto yearsMeetsSpec)

/-- 'coinagelaw04.YearsGrows', WHERE WHAT IT READS IS OF BULK AT MOST 1048576: true; the input reads as it did. -/
def yearsGrowsUptoRow : OpenClaim := { program := "ythbckkjihijekaadoor", sum := "1a349e096498654f3a79ad639617524dbebdb00bb3c62df1c48df9f299adc9f9", func := "coinage/coinagelaw04.YearsGrows", spec := "yearsGrows", inPlace := ["internal/bytealg.IndexByteString", "internal/bytealg.IndexString"], unfollowed := true, recurses := true, named := ["internal/bytealg.MaxLen", "strconv.ErrSyntax", "strconv.ErrRange", "internal/strconv.uint64pow10", "math/bits.deBruijn32tab", "math/bits.deBruijn64tab"], apart := false, laid := [("math/bits.deBruijn32tab", laid_math_bits_deBruijn32tab), ("math/bits.deBruijn64tab", laid_math_bits_deBruijn64tab), ("internal/strconv.uint64pow10", laid_internal_strconv_uint64pow10), ("strconv.ErrRange", laid_strconv_ErrRange), ("strconv.ErrSyntax", laid_strconv_ErrSyntax)], narrowed := true }
def YearsGrowsUptoSaid : Prop := yearsGrowsUptoRow.holds Tryd.pinned (OpenSpec.upto yearsGrowsSpec)

/-- 'coinagelaw04.YearsCovers', WHERE WHAT IT READS IS OF BULK AT MOST 1048576: true; the input reads as it did. -/
def yearsCoversUptoRow : OpenClaim := { program := "ythbckkjihijekaadoor", sum := "1a349e096498654f3a79ad639617524dbebdb00bb3c62df1c48df9f299adc9f9", func := "coinage/coinagelaw04.YearsCovers", spec := "yearsCovers", inPlace := ["internal/bytealg.IndexByteString", "internal/bytealg.IndexString"], unfollowed := true, recurses := true, named := ["internal/bytealg.MaxLen", "strconv.ErrSyntax", "strconv.ErrRange", "internal/strconv.uint64pow10", "math/bits.deBruijn32tab", "math/bits.deBruijn64tab"], apart := false, laid := [("math/bits.deBruijn32tab", laid_math_bits_deBruijn32tab), ("math/bits.deBruijn64tab", laid_math_bits_deBruijn64tab), ("internal/strconv.uint64pow10", laid_internal_strconv_uint64pow10), ("strconv.ErrRange", laid_strconv_ErrRange), ("strconv.ErrSyntax", laid_strconv_ErrSyntax)], narrowed := true }
def YearsCoversUptoSaid : Prop := yearsCoversUptoRow.holds Tryd.pinned (OpenSpec.upto yearsCoversSpec)

/-- 'coinagelaw04.YearsSeparate', WHERE WHAT IT READS IS OF BULK AT MOST 1048576: true; the input reads as it did. -/
def yearsSeparateUptoRow : OpenClaim := { program := "ythbckkjihijekaadoor", sum := "1a349e096498654f3a79ad639617524dbebdb00bb3c62df1c48df9f299adc9f9", func := "coinage/coinagelaw04.YearsSeparate", spec := "yearsSeparate", inPlace := ["internal/bytealg.IndexByteString", "internal/bytealg.IndexString"], unfollowed := true, recurses := true, named := ["internal/bytealg.MaxLen", "strconv.ErrSyntax", "strconv.ErrRange", "internal/strconv.uint64pow10", "math/bits.deBruijn32tab", "math/bits.deBruijn64tab"], apart := false, laid := [("math/bits.deBruijn32tab", laid_math_bits_deBruijn32tab), ("math/bits.deBruijn64tab", laid_math_bits_deBruijn64tab), ("internal/strconv.uint64pow10", laid_internal_strconv_uint64pow10), ("strconv.ErrRange", laid_strconv_ErrRange), ("strconv.ErrSyntax", laid_strconv_ErrSyntax)], narrowed := true }
def YearsSeparateUptoSaid : Prop := yearsSeparateUptoRow.holds Tryd.pinned (OpenSpec.upto yearsSeparateSpec)

end Rows
end Go.Proofs.YthbckkjihijekaaDoor

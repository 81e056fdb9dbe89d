/-
  NARROWER THAN 'FOR EVERY INPUT', by the rows' own cells (each row's printed sentence says how): NumMakes: laid · NumSums: laid · NumProducts: laid · NumFields: laid · NumRounds: laid · NumShares: laid · NumShareFair: laid · NumCompares: laid · NumWorking: laid · NumCalendars: laid · NumAfter: laid · NumTexts: laid · NumMoney: laid.
  DERIVED. THE GIVEN ROWS OF THIS SEAT. 13 by the template 'for every input the law returns true; each argument reads behind the call as it read before'; 0 by the template 'total and deterministic' (their statements: YtclbjgelefbmlaaDoorTotals.lean).
  GIVEN WITH THE SEED: the statements are not yours to turn. If you find one false, say at which input.
  Laid BY PROGRAM, IN A SANDBOX (cutbox-rows.mjs): the forced cells as the released guide's own fill.sh prints them over the translation 80cc3e813d4e17fa… (all of the seat's roots in one cut). By AI agents, Wed Nov 11 2026. No macro, syntax, notation, axiom, sorry.
-/
import Derived.Test.YtclbjgelefbmlaaDoorChecked
import GoSem.PinnedTables
import GoSem.Claim
import GoSem.ClaimJoined
import GoSem.ClaimMapViews
import Derived.JoinedTies
import Derived.KernelRfl
namespace Go.Proofs.YtclbjgelefbmlaaDoor
/- THE CELL 'sum', in the pinned program and in every row, IS THE sha256 OF THE DUMP (.gsa) THAT YtclbjgelefbmlaaDoorProg.lean LOADS. Nothing in Lean hashes anything: it is a label: what it is worth is what the hold of that sum in a sandbox is worth. -/
noncomputable def Tryd.pinned : Pinned := { name := "ytclbjgelefbmlaadoor", sum := "80cc3e813d4e17fa1e1494ac726d2c039becbaa70e01607d1cbc50b6eff070ef", checked := Tryd.checked }
namespace Rows
def none {H : Type} : Left H := { results := [], args := [] }

/- WHAT THE LISTED PACKAGE-LEVEL VARIABLES READ AS WHEN THE CALL BEGINS. Each datum BY PROGRAM (the guide's laid-datum.mjs) off the statement by which the dump's own 'gosem.cut.vars' lays the variable. In a bare row this is a premise. The card (YtclbjgelefbmlaaDoorCards.lean) ties it to the program's text. -/
def laid_math_bits_deBruijn32tab {H : Type} : DataW H := .agg [.lit (.int .u8 0), .lit (.int .u8 1), .lit (.int .u8 28), .lit (.int .u8 2), .lit (.int .u8 29), .lit (.int .u8 14), .lit (.int .u8 24), .lit (.int .u8 3), .lit (.int .u8 30), .lit (.int .u8 22), .lit (.int .u8 20), .lit (.int .u8 15), .lit (.int .u8 25), .lit (.int .u8 17), .lit (.int .u8 4), .lit (.int .u8 8), .lit (.int .u8 31), .lit (.int .u8 27), .lit (.int .u8 13), .lit (.int .u8 23), .lit (.int .u8 21), .lit (.int .u8 19), .lit (.int .u8 16), .lit (.int .u8 7), .lit (.int .u8 26), .lit (.int .u8 12), .lit (.int .u8 18), .lit (.int .u8 6), .lit (.int .u8 11), .lit (.int .u8 5), .lit (.int .u8 10), .lit (.int .u8 9)]
def laid_math_bits_deBruijn64tab {H : Type} : DataW H := .agg [.lit (.int .u8 0), .lit (.int .u8 1), .lit (.int .u8 56), .lit (.int .u8 2), .lit (.int .u8 57), .lit (.int .u8 49), .lit (.int .u8 28), .lit (.int .u8 3), .lit (.int .u8 61), .lit (.int .u8 58), .lit (.int .u8 42), .lit (.int .u8 50), .lit (.int .u8 38), .lit (.int .u8 29), .lit (.int .u8 17), .lit (.int .u8 4), .lit (.int .u8 62), .lit (.int .u8 47), .lit (.int .u8 59), .lit (.int .u8 36), .lit (.int .u8 45), .lit (.int .u8 43), .lit (.int .u8 51), .lit (.int .u8 22), .lit (.int .u8 53), .lit (.int .u8 39), .lit (.int .u8 33), .lit (.int .u8 30), .lit (.int .u8 24), .lit (.int .u8 18), .lit (.int .u8 12), .lit (.int .u8 5), .lit (.int .u8 63), .lit (.int .u8 55), .lit (.int .u8 48), .lit (.int .u8 27), .lit (.int .u8 60), .lit (.int .u8 41), .lit (.int .u8 37), .lit (.int .u8 16), .lit (.int .u8 46), .lit (.int .u8 35), .lit (.int .u8 44), .lit (.int .u8 21), .lit (.int .u8 52), .lit (.int .u8 32), .lit (.int .u8 23), .lit (.int .u8 11), .lit (.int .u8 54), .lit (.int .u8 26), .lit (.int .u8 40), .lit (.int .u8 15), .lit (.int .u8 34), .lit (.int .u8 20), .lit (.int .u8 31), .lit (.int .u8 10), .lit (.int .u8 25), .lit (.int .u8 14), .lit (.int .u8 19), .lit (.int .u8 9), .lit (.int .u8 13), .lit (.int .u8 8), .lit (.int .u8 7), .lit (.int .u8 6)]
def laid_internal_strconv_uint64pow10 {H : Type} : DataW H := .agg [.lit (.int .u64 1), .lit (.int .u64 10), .lit (.int .u64 100), .lit (.int .u64 1000), .lit (.int .u64 10000), .lit (.int .u64 100000), .lit (.int .u64 1000000), .lit (.int .u64 10000000), .lit (.int .u64 100000000), .lit (.int .u64 1000000000), .lit (.int .u64 10000000000), .lit (.int .u64 100000000000), .lit (.int .u64 1000000000000), .lit (.int .u64 10000000000000), .lit (.int .u64 100000000000000), .lit (.int .u64 1000000000000000), .lit (.int .u64 10000000000000000), .lit (.int .u64 100000000000000000), .lit (.int .u64 1000000000000000000), .lit (.int .u64 10000000000000000000)]
def laid_strconv_ErrRange {H : Type} : DataW H := .iface "*errors.errorString" (.ptr (.agg [.lit (.string [118, 97, 108, 117, 101, 32, 111, 117, 116, 32, 111, 102, 32, 114, 97, 110, 103, 101])]))
def laid_strconv_ErrSyntax {H : Type} : DataW H := .iface "*errors.errorString" (.ptr (.agg [.lit (.string [105, 110, 118, 97, 108, 105, 100, 32, 115, 121, 110, 116, 97, 120])]))
def laid_unicode_utf8_acceptRanges {H : Type} : DataW H := .agg [.agg [.lit (.int .u8 128), .lit (.int .u8 191)], .agg [.lit (.int .u8 160), .lit (.int .u8 191)], .agg [.lit (.int .u8 128), .lit (.int .u8 159)], .agg [.lit (.int .u8 144), .lit (.int .u8 191)], .agg [.lit (.int .u8 128), .lit (.int .u8 143)], .agg [.lit (.int .u8 0), .lit (.int .u8 0)], .agg [.lit (.int .u8 0), .lit (.int .u8 0)], .agg [.lit (.int .u8 0), .lit (.int .u8 0)], .agg [.lit (.int .u8 0), .lit (.int .u8 0)], .agg [.lit (.int .u8 0), .lit (.int .u8 0)], .agg [.lit (.int .u8 0), .lit (.int .u8 0)], .agg [.lit (.int .u8 0), .lit (.int .u8 0)], .agg [.lit (.int .u8 0), .lit (.int .u8 0)], .agg [.lit (.int .u8 0), .lit (.int .u8 0)], .agg [.lit (.int .u8 0), .lit (.int .u8 0)], .agg [.lit (.int .u8 0), .lit (.int .u8 0)]]
/-- One of Go's own tables, pinned by name: the form's constant. -/
def laid_unicode_utf8_first : DataW Unit := Go.Pinned.utf8First

/-- 'linoleumlaw01.NumMakes': WHATEVER THE INPUT: true; the input reads as it did. -/
def numMakesSpec : ChangeSpec := { name := "numMakes", fn := fun _ => fun
  | [d1, d2, d3] => { results := [.lit (.bool true)], args := [d1, d2, d3] }
  | _ => none }
def numMakesRow : OpenClaim := { program := "ytclbjgelefbmlaadoor", sum := "80cc3e813d4e17fa1e1494ac726d2c039becbaa70e01607d1cbc50b6eff070ef", func := "linoleum/linoleumlaw01.NumMakes", spec := "numMakes", inPlace := ["internal/abi.NoEscape", "internal/bytealg.MakeNoZero"], named := ["internal/strconv.uint64pow10", "math/bits.deBruijn32tab", "math/bits.deBruijn64tab"], apart := false, laid := [("math/bits.deBruijn32tab", laid_math_bits_deBruijn32tab), ("math/bits.deBruijn64tab", laid_math_bits_deBruijn64tab), ("internal/strconv.uint64pow10", laid_internal_strconv_uint64pow10)] }
def NumMakesSaid : Prop := numMakesRow.holds Tryd.pinned (OpenSpec.ofChange numMakesSpec)

/-- ITS FALSE NEIGHBOUR: 'it returns false'. Refute it at one input. -/
def numMakesWrong : ChangeSpec := { name := "numMakes", fn := fun _ => fun
  | [d1, d2, d3] => { results := [.lit (.bool false)], args := [d1, d2, d3] }
  | _ => none }
def NumMakesWrongFalsely : Prop := numMakesRow.holds Tryd.pinned (OpenSpec.ofChange numMakesWrong)

/-- 'linoleumlaw01.NumSums': WHATEVER THE INPUT: true; the input reads as it did. -/
def numSumsSpec : ChangeSpec := { name := "numSums", fn := fun _ => fun
  | [d1, d2] => { results := [.lit (.bool true)], args := [d1, d2] }
  | _ => none }
def numSumsRow : OpenClaim := { program := "ytclbjgelefbmlaadoor", sum := "80cc3e813d4e17fa1e1494ac726d2c039becbaa70e01607d1cbc50b6eff070ef", func := "linoleum/linoleumlaw01.NumSums", spec := "numSums", inPlace := ["internal/abi.NoEscape", "internal/bytealg.MakeNoZero"], named := ["internal/strconv.uint64pow10", "math/bits.deBruijn32tab", "math/bits.deBruijn64tab"], apart := false, laid := [("math/bits.deBruijn32tab", laid_math_bits_deBruijn32tab), ("math/bits.deBruijn64tab", laid_math_bits_deBruijn64tab), ("internal/strconv.uint64pow10", laid_internal_strconv_uint64pow10)] }
def NumSumsSaid : Prop := numSumsRow.holds Tryd.pinned (OpenSpec.ofChange numSumsSpec)

/-- ITS FALSE NEIGHBOUR: 'it returns false'. Refute it at one input. -/
def numSumsWrong : ChangeSpec := { name := "numSums", fn := fun _ => fun
  | [d1, d2] => { results := [.lit (.bool false)], args := [d1, d2] }
  | _ => none }
def NumSumsWrongFalsely : Prop := numSumsRow.holds Tryd.pinned (OpenSpec.ofChange numSumsWrong)

/-- 'linoleumlaw01.NumProducts': WHATEVER THE INPUT: true; the input reads as it did. -/
def numProductsSpec : ChangeSpec := { name := "numProducts", fn := fun _ => fun
  | [d1, d2] => { results := [.lit (.bool true)], args := [d1, d2] }
  | _ => none }
def numProductsRow : OpenClaim := { program := "ytclbjgelefbmlaadoor", sum := "80cc3e813d4e17fa1e1494ac726d2c039becbaa70e01607d1cbc50b6eff070ef", func := "linoleum/linoleumlaw01.NumProducts", spec := "numProducts", inPlace := ["internal/abi.NoEscape", "internal/bytealg.MakeNoZero"], named := ["internal/strconv.uint64pow10", "math/bits.deBruijn32tab", "math/bits.deBruijn64tab"], apart := false, laid := [("math/bits.deBruijn32tab", laid_math_bits_deBruijn32tab), ("math/bits.deBruijn64tab", laid_math_bits_deBruijn64tab), ("internal/strconv.uint64pow10", laid_internal_strconv_uint64pow10)] }
def NumProductsSaid : Prop := numProductsRow.holds Tryd.pinned (OpenSpec.ofChange numProductsSpec)

/-- ITS FALSE NEIGHBOUR: 'it returns false'. Refute it at one input. -/
def numProductsWrong : ChangeSpec := { name := "numProducts", fn := fun _ => fun
  | [d1, d2] => { results := [.lit (.bool false)], args := [d1, d2] }
  | _ => none }
def NumProductsWrongFalsely : Prop := numProductsRow.holds Tryd.pinned (OpenSpec.ofChange numProductsWrong)

/-- 'linoleumlaw01.NumFields': WHATEVER THE INPUT: true; the input reads as it did. -/
def numFieldsSpec : ChangeSpec := { name := "numFields", fn := fun _ => fun
  | [d1, d2, d3] => { results := [.lit (.bool true)], args := [d1, d2, d3] }
  | _ => none }
def numFieldsRow : OpenClaim := { program := "ytclbjgelefbmlaadoor", sum := "80cc3e813d4e17fa1e1494ac726d2c039becbaa70e01607d1cbc50b6eff070ef", func := "linoleum/linoleumlaw01.NumFields", spec := "numFields", inPlace := ["internal/abi.NoEscape", "internal/bytealg.MakeNoZero"], named := ["internal/strconv.uint64pow10", "math/bits.deBruijn32tab", "math/bits.deBruijn64tab"], apart := false, laid := [("math/bits.deBruijn32tab", laid_math_bits_deBruijn32tab), ("math/bits.deBruijn64tab", laid_math_bits_deBruijn64tab), ("internal/strconv.uint64pow10", laid_internal_strconv_uint64pow10)] }
def NumFieldsSaid : Prop := numFieldsRow.holds Tryd.pinned (OpenSpec.ofChange numFieldsSpec)

/-- ITS FALSE NEIGHBOUR: 'it returns false'. Refute it at one input. -/
def numFieldsWrong : ChangeSpec := { name := "numFields", fn := fun _ => fun
  | [d1, d2, d3] => { results := [.lit (.bool false)], args := [d1, d2, d3] }
  | _ => none }
def NumFieldsWrongFalsely : Prop := numFieldsRow.holds Tryd.pinned (OpenSpec.ofChange numFieldsWrong)

/-- 'linoleumlaw01.NumRounds': WHATEVER THE INPUT: true; the input reads as it did. -/
def numRoundsSpec : ChangeSpec := { name := "numRounds", fn := fun _ => fun
  | [d] => { results := [.lit (.bool true)], args := [d] }
  | _ => none }
def numRoundsRow : OpenClaim := { program := "ytclbjgelefbmlaadoor", sum := "80cc3e813d4e17fa1e1494ac726d2c039becbaa70e01607d1cbc50b6eff070ef", func := "linoleum/linoleumlaw01.NumRounds", spec := "numRounds", inPlace := ["internal/abi.NoEscape", "internal/bytealg.MakeNoZero"], named := ["internal/strconv.uint64pow10", "math/bits.deBruijn32tab", "math/bits.deBruijn64tab"], apart := false, laid := [("math/bits.deBruijn32tab", laid_math_bits_deBruijn32tab), ("math/bits.deBruijn64tab", laid_math_bits_deBruijn64tab), ("internal/strconv.uint64pow10", laid_internal_strconv_uint64pow10)] }
def NumRoundsSaid : Prop := numRoundsRow.holds Tryd.pinned (OpenSpec.ofChange numRoundsSpec)

/-- ITS FALSE NEIGHBOUR: 'it returns false'. Refute it at one input. -/
def numRoundsWrong : ChangeSpec := { name := "numRounds", fn := fun _ => fun
  | [d] => { results := [.lit (.bool false)], args := [d] }
  | _ => none }
def NumRoundsWrongFalsely : Prop := numRoundsRow.holds Tryd.pinned (OpenSpec.ofChange numRoundsWrong)

/-- 'linoleumlaw01.NumShares': WHATEVER THE INPUT: true; the input reads as it did. -/
def numSharesSpec : ChangeSpec := { name := "numShares", fn := fun _ => fun
  | [d1, d2] => { results := [.lit (.bool true)], args := [d1, d2] }
  | _ => none }
def numSharesRow : OpenClaim := { program := "ytclbjgelefbmlaadoor", sum := "80cc3e813d4e17fa1e1494ac726d2c039becbaa70e01607d1cbc50b6eff070ef", func := "linoleum/linoleumlaw01.NumShares", spec := "numShares", inPlace := ["internal/abi.NoEscape", "internal/bytealg.MakeNoZero"], named := ["internal/strconv.uint64pow10", "math/bits.deBruijn32tab", "math/bits.deBruijn64tab"], apart := false, laid := [("math/bits.deBruijn32tab", laid_math_bits_deBruijn32tab), ("math/bits.deBruijn64tab", laid_math_bits_deBruijn64tab), ("internal/strconv.uint64pow10", laid_internal_strconv_uint64pow10)] }
def NumSharesSaid : Prop := numSharesRow.holds Tryd.pinned (OpenSpec.ofChange numSharesSpec)

/-- ITS FALSE NEIGHBOUR: 'it returns false'. Refute it at one input. -/
def numSharesWrong : ChangeSpec := { name := "numShares", fn := fun _ => fun
  | [d1, d2] => { results := [.lit (.bool false)], args := [d1, d2] }
  | _ => none }
def NumSharesWrongFalsely : Prop := numSharesRow.holds Tryd.pinned (OpenSpec.ofChange numSharesWrong)

/-- 'linoleumlaw01.NumShareFair': WHATEVER THE INPUT: true; the input reads as it did. -/
def numShareFairSpec : ChangeSpec := { name := "numShareFair", fn := fun _ => fun
  | [d1, d2] => { results := [.lit (.bool true)], args := [d1, d2] }
  | _ => none }
def numShareFairRow : OpenClaim := { program := "ytclbjgelefbmlaadoor", sum := "80cc3e813d4e17fa1e1494ac726d2c039becbaa70e01607d1cbc50b6eff070ef", func := "linoleum/linoleumlaw01.NumShareFair", spec := "numShareFair", inPlace := ["internal/abi.NoEscape", "internal/bytealg.MakeNoZero"], named := ["internal/strconv.uint64pow10", "math/bits.deBruijn32tab", "math/bits.deBruijn64tab"], apart := false, laid := [("math/bits.deBruijn32tab", laid_math_bits_deBruijn32tab), ("math/bits.deBruijn64tab", laid_math_bits_deBruijn64tab), ("internal/strconv.uint64pow10", laid_internal_strconv_uint64pow10)] }
def NumShareFairSaid : Prop := numShareFairRow.holds Tryd.pinned (OpenSpec.ofChange numShareFairSpec)

/-- ITS FALSE NEIGHBOUR: 'it returns false'. Refute it at one input. -/
def numShareFairWrong : ChangeSpec := { name := "numShareFair", fn := fun _ => fun
  | [d1, d2] => { results := [.lit (.bool false)], args := [d1, d2] }
  | _ => none }
def NumShareFairWrongFalsely : Prop := numShareFairRow.holds Tryd.pinned (OpenSpec.ofChange numShareFairWrong)

/-- 'linoleumlaw01.NumCompares': WHATEVER THE INPUT: true; the input reads as it did. -/
def numComparesSpec : ChangeSpec := { name := "numCompares", fn := fun _ => fun
  | [d1, d2, d3] => { results := [.lit (.bool true)], args := [d1, d2, d3] }
  | _ => none }
def numComparesRow : OpenClaim := { program := "ytclbjgelefbmlaadoor", sum := "80cc3e813d4e17fa1e1494ac726d2c039becbaa70e01607d1cbc50b6eff070ef", func := "linoleum/linoleumlaw01.NumCompares", spec := "numCompares", inPlace := ["internal/abi.NoEscape", "internal/bytealg.MakeNoZero"], named := ["internal/strconv.uint64pow10", "math/bits.deBruijn32tab", "math/bits.deBruijn64tab"], apart := false, laid := [("math/bits.deBruijn32tab", laid_math_bits_deBruijn32tab), ("math/bits.deBruijn64tab", laid_math_bits_deBruijn64tab), ("internal/strconv.uint64pow10", laid_internal_strconv_uint64pow10)] }
def NumComparesSaid : Prop := numComparesRow.holds Tryd.pinned (OpenSpec.ofChange numComparesSpec)

/-- ITS FALSE NEIGHBOUR: 'it returns false'. Refute it at one input. -/
def numComparesWrong : ChangeSpec := { name := "numCompares", fn := fun _ => fun
  | [d1, d2, d3] => { results := [.lit (.bool false)], args := [d1, d2, d3] }
  | _ => none }
def NumComparesWrongFalsely : Prop := numComparesRow.holds Tryd.pinned (OpenSpec.ofChange numComparesWrong)

/-- 'linoleumlaw01.NumWorking': WHATEVER THE INPUT: true; the input reads as it did. -/
def numWorkingSpec : ChangeSpec := { name := "numWorking", fn := fun _ => fun
  | [d1, d2, d3] => { results := [.lit (.bool true)], args := [d1, d2, d3] }
  | _ => none }
def numWorkingRow : OpenClaim := { program := "ytclbjgelefbmlaadoor", sum := "80cc3e813d4e17fa1e1494ac726d2c039becbaa70e01607d1cbc50b6eff070ef", func := "linoleum/linoleumlaw01.NumWorking", spec := "numWorking", inPlace := ["internal/abi.NoEscape", "internal/bytealg.MakeNoZero"], named := ["internal/strconv.uint64pow10", "math/bits.deBruijn32tab", "math/bits.deBruijn64tab"], apart := false, laid := [("math/bits.deBruijn32tab", laid_math_bits_deBruijn32tab), ("math/bits.deBruijn64tab", laid_math_bits_deBruijn64tab), ("internal/strconv.uint64pow10", laid_internal_strconv_uint64pow10)] }
def NumWorkingSaid : Prop := numWorkingRow.holds Tryd.pinned (OpenSpec.ofChange numWorkingSpec)

/-- ITS FALSE NEIGHBOUR: 'it returns false'. Refute it at one input. -/
def numWorkingWrong : ChangeSpec := { name := "numWorking", fn := fun _ => fun
  | [d1, d2, d3] => { results := [.lit (.bool false)], args := [d1, d2, d3] }
  | _ => none }
def NumWorkingWrongFalsely : Prop := numWorkingRow.holds Tryd.pinned (OpenSpec.ofChange numWorkingWrong)

/-- 'linoleumlaw01.NumCalendars': WHATEVER THE INPUT: true; the input reads as it did. -/
def numCalendarsSpec : ChangeSpec := { name := "numCalendars", fn := fun _ => fun
  | [d1, d2] => { results := [.lit (.bool true)], args := [d1, d2] }
  | _ => none }
def numCalendarsRow : OpenClaim := { program := "ytclbjgelefbmlaadoor", sum := "80cc3e813d4e17fa1e1494ac726d2c039becbaa70e01607d1cbc50b6eff070ef", func := "linoleum/linoleumlaw01.NumCalendars", spec := "numCalendars", inPlace := ["internal/abi.NoEscape", "internal/bytealg.MakeNoZero"], named := ["internal/strconv.uint64pow10", "math/bits.deBruijn32tab", "math/bits.deBruijn64tab"], apart := false, laid := [("math/bits.deBruijn32tab", laid_math_bits_deBruijn32tab), ("math/bits.deBruijn64tab", laid_math_bits_deBruijn64tab), ("internal/strconv.uint64pow10", laid_internal_strconv_uint64pow10)] }
def NumCalendarsSaid : Prop := numCalendarsRow.holds Tryd.pinned (OpenSpec.ofChange numCalendarsSpec)

/-- ITS FALSE NEIGHBOUR: 'it returns false'. Refute it at one input. -/
def numCalendarsWrong : ChangeSpec := { name := "numCalendars", fn := fun _ => fun
  | [d1, d2] => { results := [.lit (.bool false)], args := [d1, d2] }
  | _ => none }
def NumCalendarsWrongFalsely : Prop := numCalendarsRow.holds Tryd.pinned (OpenSpec.ofChange numCalendarsWrong)

/-- 'linoleumlaw01.NumAfter': WHATEVER THE INPUT: true; the input reads as it did. -/
def numAfterSpec : ChangeSpec := { name := "numAfter", fn := fun _ => fun
  | [d1, d2, d3] => { results := [.lit (.bool true)], args := [d1, d2, d3] }
  | _ => none }
def numAfterRow : OpenClaim := { program := "ytclbjgelefbmlaadoor", sum := "80cc3e813d4e17fa1e1494ac726d2c039becbaa70e01607d1cbc50b6eff070ef", func := "linoleum/linoleumlaw01.NumAfter", spec := "numAfter", inPlace := ["internal/abi.NoEscape", "internal/bytealg.MakeNoZero"], named := ["internal/strconv.uint64pow10", "math/bits.deBruijn32tab", "math/bits.deBruijn64tab"], apart := false, laid := [("math/bits.deBruijn32tab", laid_math_bits_deBruijn32tab), ("math/bits.deBruijn64tab", laid_math_bits_deBruijn64tab), ("internal/strconv.uint64pow10", laid_internal_strconv_uint64pow10)] }
def NumAfterSaid : Prop := numAfterRow.holds Tryd.pinned (OpenSpec.ofChange numAfterSpec)

/-- ITS FALSE NEIGHBOUR: 'it returns false'. Refute it at one input. -/
def numAfterWrong : ChangeSpec := { name := "numAfter", fn := fun _ => fun
  | [d1, d2, d3] => { results := [.lit (.bool false)], args := [d1, d2, d3] }
  | _ => none }
def NumAfterWrongFalsely : Prop := numAfterRow.holds Tryd.pinned (OpenSpec.ofChange numAfterWrong)

/-- 'linoleumlaw01.NumTexts': WHATEVER THE INPUT: true; the input reads as it did. -/
def numTextsSpec : ChangeSpec := { name := "numTexts", fn := fun _ => fun
  | [d1, d2] => { results := [.lit (.bool true)], args := [d1, d2] }
  | _ => none }
def numTextsRow : OpenClaim := { program := "ytclbjgelefbmlaadoor", sum := "80cc3e813d4e17fa1e1494ac726d2c039becbaa70e01607d1cbc50b6eff070ef", func := "linoleum/linoleumlaw01.NumTexts", spec := "numTexts", inPlace := ["internal/abi.NoEscape", "internal/bytealg.MakeNoZero", "internal/bytealg.IndexByteString", "internal/bytealg.IndexString"], recurses := true, named := ["internal/strconv.uint64pow10", "math/bits.deBruijn32tab", "math/bits.deBruijn64tab", "internal/bytealg.MaxLen", "strconv.ErrSyntax", "strconv.ErrRange"], apart := false, laid := [("math/bits.deBruijn32tab", laid_math_bits_deBruijn32tab), ("math/bits.deBruijn64tab", laid_math_bits_deBruijn64tab), ("internal/strconv.uint64pow10", laid_internal_strconv_uint64pow10), ("strconv.ErrRange", laid_strconv_ErrRange), ("strconv.ErrSyntax", laid_strconv_ErrSyntax)] }
def NumTextsSaid : Prop := numTextsRow.holds Tryd.pinned (OpenSpec.ofChange numTextsSpec)

/-- ITS FALSE NEIGHBOUR: 'it returns false'. Refute it at one input. -/
def numTextsWrong : ChangeSpec := { name := "numTexts", fn := fun _ => fun
  | [d1, d2] => { results := [.lit (.bool false)], args := [d1, d2] }
  | _ => none }
def NumTextsWrongFalsely : Prop := numTextsRow.holds Tryd.pinned (OpenSpec.ofChange numTextsWrong)

/-- 'linoleumlaw01.NumMoney': WHATEVER THE INPUT: true; the input reads as it did. -/
def numMoneySpec : ChangeSpec := { name := "numMoney", fn := fun _ => fun
  | [d1, d2] => { results := [.lit (.bool true)], args := [d1, d2] }
  | _ => none }
def numMoneyRow : OpenClaim := { program := "ytclbjgelefbmlaadoor", sum := "80cc3e813d4e17fa1e1494ac726d2c039becbaa70e01607d1cbc50b6eff070ef", func := "linoleum/linoleumlaw01.NumMoney", spec := "numMoney", inPlace := ["internal/abi.NoEscape", "internal/bytealg.MakeNoZero", "internal/bytealg.CountString", "internal/bytealg.IndexByteString", "internal/bytealg.IndexString"], recurses := true, named := ["internal/strconv.uint64pow10", "math/bits.deBruijn32tab", "math/bits.deBruijn64tab", "unicode/utf8.first", "unicode/utf8.acceptRanges", "internal/bytealg.MaxLen", "strconv.ErrSyntax", "strconv.ErrRange"], apart := false, laid := [("math/bits.deBruijn32tab", laid_math_bits_deBruijn32tab), ("math/bits.deBruijn64tab", laid_math_bits_deBruijn64tab), ("internal/strconv.uint64pow10", laid_internal_strconv_uint64pow10), ("unicode/utf8.acceptRanges", laid_unicode_utf8_acceptRanges), ("strconv.ErrRange", laid_strconv_ErrRange), ("strconv.ErrSyntax", laid_strconv_ErrSyntax), ("unicode/utf8.first", laid_unicode_utf8_first)] }
def NumMoneySaid : Prop := numMoneyRow.holds Tryd.pinned (OpenSpec.ofChange numMoneySpec)

/-- ITS FALSE NEIGHBOUR: 'it returns false'. Refute it at one input. -/
def numMoneyWrong : ChangeSpec := { name := "numMoney", fn := fun _ => fun
  | [d1, d2] => { results := [.lit (.bool false)], args := [d1, d2] }
  | _ => none }
def NumMoneyWrongFalsely : Prop := numMoneyRow.holds Tryd.pinned (OpenSpec.ofChange numMoneyWrong)

/- THE SECOND FORM. 'bulk': how many values and letters a reading holds, each counted each time it is reached (what is shared counts as often as it is met; a slice's spare places count too). A statement '..UptoSaid' is the law's where the arguments, and the package variables that the reading takes, are together of bulk at most 1048576: NARROWER than '..Said'. Prove '..Said' where nothing that the law and all that it calls make is longer than what came in: it says more and counts as full. Else prove '..UptoSaid'. A law counts once. -/
mutual
def uptoBulk {H : Type} : DataW H → Nat
  | .lit (.string bytes) => bytes.length + 1
  | .lit _ => 1
  | .nil => 1
  | .ptr d => uptoBulk d + 1
  | .slice elems spare => uptoBulkAll elems + uptoBulkAll spare + 1
  | .agg parts => uptoBulkAll parts + 1
  | .iface _ d => uptoBulk d + 1
  | .map entries => uptoBulkEntries entries + 1
  | .held _ => 1
def uptoBulkAll {H : Type} : List (DataW H) → Nat
  | [] => 0
  | d :: r => uptoBulk d + uptoBulkAll r
def uptoBulkEntries {H : Type} : List (Lit × DataW H) → Nat
  | [] => 0
  | x :: r => uptoBulkEntry x + uptoBulkEntries r
def uptoBulkEntry {H : Type} : Lit × DataW H → Nat
  | (.string bytes, d) => bytes.length + uptoBulk d + 1
  | (_, d) => uptoBulk d + 1
 end
def uptoSmall : (H : Type) → List (DataW H) → Bool := fun _ ds => decide (uptoBulkAll ds ≤ 1048576)
def OpenSpec.upto (s : _root_.Go.ChangeSpec) : _root_.Go.OpenSpec := { _root_.Go.OpenSpec.ofChange s with cond := some uptoSmall }

/-- 'linoleumlaw01.NumMakes', WHERE WHAT IT READS IS OF BULK AT MOST 1048576: true; the input reads as it did. -/
def numMakesUptoRow : OpenClaim := { program := "ytclbjgelefbmlaadoor", sum := "80cc3e813d4e17fa1e1494ac726d2c039becbaa70e01607d1cbc50b6eff070ef", func := "linoleum/linoleumlaw01.NumMakes", spec := "numMakes", inPlace := ["internal/abi.NoEscape", "internal/bytealg.MakeNoZero"], named := ["internal/strconv.uint64pow10", "math/bits.deBruijn32tab", "math/bits.deBruijn64tab"], apart := false, laid := [("math/bits.deBruijn32tab", laid_math_bits_deBruijn32tab), ("math/bits.deBruijn64tab", laid_math_bits_deBruijn64tab), ("internal/strconv.uint64pow10", laid_internal_strconv_uint64pow10)], narrowed := true }
def NumMakesUptoSaid : Prop := numMakesUptoRow.holds Tryd.pinned (OpenSpec.upto numMakesSpec)

/-- 'linoleumlaw01.NumSums', WHERE WHAT IT READS IS OF BULK AT MOST 1048576: true; the input reads as it did. -/
def numSumsUptoRow : OpenClaim := { program := "ytclbjgelefbmlaadoor", sum := "80cc3e813d4e17fa1e1494ac726d2c039becbaa70e01607d1cbc50b6eff070ef", func := "linoleum/linoleumlaw01.NumSums", spec := "numSums", inPlace := ["internal/abi.NoEscape", "internal/bytealg.MakeNoZero"], named := ["internal/strconv.uint64pow10", "math/bits.deBruijn32tab", "math/bits.deBruijn64tab"], apart := false, laid := [("math/bits.deBruijn32tab", laid_math_bits_deBruijn32tab), ("math/bits.deBruijn64tab", laid_math_bits_deBruijn64tab), ("internal/strconv.uint64pow10", laid_internal_strconv_uint64pow10)], narrowed := true }
def NumSumsUptoSaid : Prop := numSumsUptoRow.holds Tryd.pinned (OpenSpec.upto numSumsSpec)

/-- 'linoleumlaw01.NumProducts', WHERE WHAT IT READS IS OF BULK AT MOST 1048576: true; the input reads as it did. -/
def numProductsUptoRow : OpenClaim := { program := "ytclbjgelefbmlaadoor", sum := "80cc3e813d4e17fa1e1494ac726d2c039becbaa70e01607d1cbc50b6eff070ef", func := "linoleum/linoleumlaw01.NumProducts", spec := "numProducts", inPlace := ["internal/abi.NoEscape", "internal/bytealg.MakeNoZero"], named := ["internal/strconv.uint64pow10", "math/bits.deBruijn32tab", "math/bits.deBruijn64tab"], apart := false, laid := [("math/bits.deBruijn32tab", laid_math_bits_deBruijn32tab), ("math/bits.deBruijn64tab", laid_math_bits_deBruijn64tab), ("internal/strconv.uint64pow10", laid_internal_strconv_uint64pow10)], narrowed := true }
def NumProductsUptoSaid : Prop := numProductsUptoRow.holds Tryd.pinned (OpenSpec.upto numProductsSpec)

/-- 'linoleumlaw01.NumFields', WHERE WHAT IT READS IS OF BULK AT MOST 1048576: true; the input reads as it did. -/
def numFieldsUptoRow : OpenClaim := { program := "ytclbjgelefbmlaadoor", sum := "80cc3e813d4e17fa1e1494ac726d2c039becbaa70e01607d1cbc50b6eff070ef", func := "linoleum/linoleumlaw01.NumFields", spec := "numFields", inPlace := ["internal/abi.NoEscape", "internal/bytealg.MakeNoZero"], named := ["internal/strconv.uint64pow10", "math/bits.deBruijn32tab", "math/bits.deBruijn64tab"], apart := false, laid := [("math/bits.deBruijn32tab", laid_math_bits_deBruijn32tab), ("math/bits.deBruijn64tab", laid_math_bits_deBruijn64tab), ("internal/strconv.uint64pow10", laid_internal_strconv_uint64pow10)], narrowed := true }
def NumFieldsUptoSaid : Prop := numFieldsUptoRow.holds Tryd.pinned (OpenSpec.upto numFieldsSpec)

/-- 'linoleumlaw01.NumRounds', WHERE WHAT IT READS IS OF BULK AT MOST 1048576: true; the input reads as it did. -/
def numRoundsUptoRow : OpenClaim := { program := "ytclbjgelefbmlaadoor", sum := "80cc3e813d4e17fa1e1494ac726d2c039becbaa70e01607d1cbc50b6eff070ef", func := "linoleum/linoleumlaw01.NumRounds", spec := "numRounds", inPlace := ["internal/abi.NoEscape", "internal/bytealg.MakeNoZero"], named := ["internal/strconv.uint64pow10", "math/bits.deBruijn32tab", "math/bits.deBruijn64tab"], apart := false, laid := [("math/bits.deBruijn32tab", laid_math_bits_deBruijn32tab), ("math/bits.deBruijn64tab", laid_math_bits_deBruijn64tab), ("internal/strconv.uint64pow10", laid_internal_strconv_uint64pow10)], narrowed := true }
def NumRoundsUptoSaid : Prop := numRoundsUptoRow.holds Tryd.pinned (OpenSpec.upto numRoundsSpec)

/-- 'linoleumlaw01.NumShares', WHERE WHAT IT READS IS OF BULK AT MOST 1048576: true; the input reads as it did. -/
def numSharesUptoRow : OpenClaim := { program := "ytclbjgelefbmlaadoor", sum := "80cc3e813d4e17fa1e1494ac726d2c039becbaa70e01607d1cbc50b6eff070ef", func := "linoleum/linoleumlaw01.NumShares", spec := "numShares", inPlace := ["internal/abi.NoEscape", "internal/bytealg.MakeNoZero"], named := ["internal/strconv.uint64pow10", "math/bits.deBruijn32tab", "math/bits.deBruijn64tab"], apart := false, laid := [("math/bits.deBruijn32tab", laid_math_bits_deBruijn32tab), ("math/bits.deBruijn64tab", laid_math_bits_deBruijn64tab), ("internal/strconv.uint64pow10", laid_internal_strconv_uint64pow10)], narrowed := true }
def NumSharesUptoSaid : Prop := numSharesUptoRow.holds Tryd.pinned (OpenSpec.upto numSharesSpec)

/-- 'linoleumlaw01.NumShareFair', WHERE WHAT IT READS IS OF BULK AT MOST 1048576: true; the input reads as it did. -/
def numShareFairUptoRow : OpenClaim := { program := "ytclbjgelefbmlaadoor", sum := "80cc3e813d4e17fa1e1494ac726d2c039becbaa70e01607d1cbc50b6eff070ef", func := "linoleum/linoleumlaw01.NumShareFair", spec := "numShareFair", inPlace := ["internal/abi.NoEscape", "internal/bytealg.MakeNoZero"], named := ["internal/strconv.uint64pow10", "math/bits.deBruijn32tab", "math/bits.deBruijn64tab"], apart := false, laid := [("math/bits.deBruijn32tab", laid_math_bits_deBruijn32tab), ("math/bits.deBruijn64tab", laid_math_bits_deBruijn64tab), ("internal/strconv.uint64pow10", laid_internal_strconv_uint64pow10)], narrowed := true }
def NumShareFairUptoSaid : Prop := numShareFairUptoRow.holds Tryd.pinned (OpenSpec.upto numShareFairSpec)

/-- 'linoleumlaw01.NumCompares', WHERE WHAT IT READS IS OF BULK AT MOST 1048576: true; the input reads as it did. -/
def numComparesUptoRow : OpenClaim := { program := "ytclbjgelefbmlaadoor", sum := "80cc3e813d4e17fa1e1494ac726d2c039becbaa70e01607d1cbc50b6eff070ef", func := "linoleum/linoleumlaw01.NumCompares", spec := "numCompares", inPlace := ["internal/abi.NoEscape", "internal/bytealg.MakeNoZero"], named := ["internal/strconv.uint64pow10", "math/bits.deBruijn32tab", "math/bits.deBruijn64tab"], apart := false, laid := [("math/bits.deBruijn32tab", laid_math_bits_deBruijn32tab), ("math/bits.deBruijn64tab", laid_math_bits_deBruijn64tab), ("internal/strconv.uint64pow10", laid_internal_strconv_uint64pow10)], narrowed := true }
def NumComparesUptoSaid : Prop := numComparesUptoRow.holds Tryd.pinned (OpenSpec.upto numComparesSpec)

/-- 'linoleumlaw01.NumWorking', WHERE WHAT IT READS IS OF BULK AT MOST 1048576: true; the input reads as it did. -/
def numWorkingUptoRow : OpenClaim := { program := "ytclbjgelefbmlaadoor", sum := "80cc3e813d4e17fa1e1494ac726d2c039becbaa70e01607d1cbc50b6eff070ef", func := "linoleum/linoleumlaw01.NumWorking", spec := "numWorking", inPlace := ["internal/abi.NoEscape", "internal/bytealg.MakeNoZero"], named := ["internal/strconv.uint64pow10", "math/bits.deBruijn32tab", "math/bits.deBruijn64tab"], apart := false, laid := [("math/bits.deBruijn32tab", laid_math_bits_deBruijn32tab), ("math/bits.deBruijn64tab", laid_math_bits_deBruijn64tab), ("internal/strconv.uint64pow10", laid_internal_strconv_uint64pow10)], narrowed := true }
def NumWorkingUptoSaid : Prop := numWorkingUptoRow.holds Tryd.pinned (OpenSpec.upto numWorkingSpec)

/-- 'linoleumlaw01.NumCalendars', WHERE WHAT IT READS IS OF BULK AT MOST 1048576: true; the input reads as it did. -/
def numCalendarsUptoRow : OpenClaim := { program := "ytclbjgelefbmlaadoor", sum := "80cc3e813d4e17fa1e1494ac726d2c039becbaa70e01607d1cbc50b6eff070ef", func := "linoleum/linoleumlaw01.NumCalendars", spec := "numCalendars", inPlace := ["internal/abi.NoEscape", "internal/bytealg.MakeNoZero"], named := ["internal/strconv.uint64pow10", "math/bits.deBruijn32tab", "math/bits.deBruijn64tab"], apart := false, laid := [("math/bits.deBruijn32tab", laid_math_bits_deBruijn32tab), ("math/bits.deBruijn64tab", laid_math_bits_deBruijn64tab), ("internal/strconv.uint64pow10", laid_internal_strconv_uint64pow10)], narrowed := true }
def NumCalendarsUptoSaid : Prop := numCalendarsUptoRow.holds Tryd.pinned (OpenSpec.upto numCalendarsSpec)

/-- 'linoleumlaw01.NumAfter', WHERE WHAT IT READS IS OF BULK AT MOST 1048576: true; the input reads as it did. -/
def numAfterUptoRow : OpenClaim := { program := "ytclbjgelefbmlaadoor", sum := "80cc3e813d4e17fa1e1494ac726d2c039becbaa70e01607d1cbc50b6eff070ef", func := "linoleum/linoleumlaw01.NumAfter", spec := "numAfter", inPlace := ["internal/abi.NoEscape", "internal/bytealg.MakeNoZero"], named := ["internal/strconv.uint64pow10", "math/bits.deBruijn32tab", "math/bits.deBruijn64tab"], apart := false, laid := [("math/bits.deBruijn32tab", laid_math_bits_deBruijn32tab), ("math/bits.deBruijn64tab", laid_math_bits_deBruijn64tab), ("internal/strconv.uint64pow10", laid_internal_strconv_uint64pow10)], narrowed := true }
def NumAfterUptoSaid : Prop := numAfterUptoRow.holds Tryd.pinned (OpenSpec.upto numAfterSpec)

/-- 'linoleumlaw01.NumTexts', WHERE WHAT IT READS IS OF BULK AT MOST 1048576: true; the input reads as it did. -/
def numTextsUptoRow : OpenClaim := { program := "ytclbjgelefbmlaadoor", sum := "80cc3e813d4e17fa1e1494ac726d2c039becbaa70e01607d1cbc50b6eff070ef", func := "linoleum/linoleumlaw01.NumTexts", spec := "numTexts", inPlace := ["internal/abi.NoEscape", "internal/bytealg.MakeNoZero", "internal/bytealg.IndexByteString", "internal/bytealg.IndexString"], recurses := true, named := ["internal/strconv.uint64pow10", "math/bits.deBruijn32tab", "math/bits.deBruijn64tab", "internal/bytealg.MaxLen", "strconv.ErrSyntax", "strconv.ErrRange"], apart := false, laid := [("math/bits.deBruijn32tab", laid_math_bits_deBruijn32tab), ("math/bits.deBruijn64tab", laid_math_bits_deBruijn64tab), ("internal/strconv.uint64pow10", laid_internal_strconv_uint64pow10), ("strconv.ErrRange", laid_strconv_ErrRange), ("strconv.ErrSyntax", laid_strconv_ErrSyntax)], narrowed := true }
def NumTextsUptoSaid : Prop := numTextsUptoRow.holds Tryd.pinned (OpenSpec.upto numTextsSpec)

/-- 'linoleumlaw01.NumMoney', WHERE WHAT IT READS IS OF BULK AT MOST 1048576: true; the input reads as it did. -/
def numMoneyUptoRow : OpenClaim := { program := "ytclbjgelefbmlaadoor", sum := "80cc3e813d4e17fa1e1494ac726d2c039becbaa70e01607d1cbc50b6eff070ef", func := "linoleum/linoleumlaw01.NumMoney", spec := "numMoney", inPlace := ["internal/abi.NoEscape", "internal/bytealg.MakeNoZero", "internal/bytealg.CountString", "internal/bytealg.IndexByteString", "internal/bytealg.IndexString"], recurses := true, named := ["internal/strconv.uint64pow10", "math/bits.deBruijn32tab", "math/bits.deBruijn64tab", "unicode/utf8.first", "unicode/utf8.acceptRanges", "internal/bytealg.MaxLen", "strconv.ErrSyntax", "strconv.ErrRange"], apart := false, laid := [("math/bits.deBruijn32tab", laid_math_bits_deBruijn32tab), ("math/bits.deBruijn64tab", laid_math_bits_deBruijn64tab), ("internal/strconv.uint64pow10", laid_internal_strconv_uint64pow10), ("unicode/utf8.acceptRanges", laid_unicode_utf8_acceptRanges), ("strconv.ErrRange", laid_strconv_ErrRange), ("strconv.ErrSyntax", laid_strconv_ErrSyntax), ("unicode/utf8.first", laid_unicode_utf8_first)], narrowed := true }
def NumMoneyUptoSaid : Prop := numMoneyUptoRow.holds Tryd.pinned (OpenSpec.upto numMoneySpec)

end Rows
end Go.Proofs.YtclbjgelefbmlaaDoor

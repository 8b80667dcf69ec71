/-
  NARROWER THAN 'FOR EVERY INPUT', by the rows' own cells (each row's printed sentence says how): NamesNext: laid · NamesApart: laid · NamesIn: laid · NamesPrefix: laid · NamesKeys: laid · NamesQuotes: laid · NamesBack: laid.
  DERIVED. THE GIVEN ROWS OF THIS SEAT. 7 by the template 'for every input the law returns true; each argument reads behind the call as it read before'; 0 by the template 'total and deterministic' (their statements: YtmiloedhhnknpaaDoorTotals.lean).
  GIVEN WITH THE SEED: the statements are not yours to turn. If you find one false, say at which input.
  Laid BY PROGRAM, IN A SANDBOX (cutbox-rows.mjs): the forced cells as the released guide's own fill.sh prints them over the translation c91e88d5ce74ad97… (all of the seat's roots in one cut). By AI agents, Wed Nov 11 2026. No macro, syntax, notation, axiom, sorry.
-/
import Derived.Test.YtmiloedhhnknpaaDoorChecked
import GoSem.Claim
import GoSem.ClaimJoined
import GoSem.ClaimMapViews
import Derived.JoinedTies
import Derived.KernelRfl
namespace Go.Proofs.YtmiloedhhnknpaaDoor
/- THE CELL 'sum', in the pinned program and in every row, IS THE sha256 OF THE DUMP (.gsa) THAT YtmiloedhhnknpaaDoorProg.lean LOADS. Nothing in Lean hashes anything: it is a label: what it is worth is what the hold of that sum in a sandbox is worth. -/
noncomputable def Tryd.pinned : Pinned := { name := "ytmiloedhhnknpaadoor", sum := "c91e88d5ce74ad97c57c135b2a5af202f69ea08742a9e1de65f4a6a0c4482749", checked := Tryd.checked }
namespace Rows
def none {H : Type} : Left H := { results := [], args := [] }

/- WHAT THE LISTED PACKAGE-LEVEL VARIABLES READ AS WHEN THE CALL BEGINS. Each datum BY PROGRAM (the guide's laid-datum.mjs) off the statement by which the dump's own 'gosem.cut.vars' lays the variable. In a bare row this is a premise. The card (YtmiloedhhnknpaaDoorCards.lean) ties it to the program's text. -/
def laid_math_bits_deBruijn32tab {H : Type} : DataW H := .agg [.lit (.int .u8 0), .lit (.int .u8 1), .lit (.int .u8 28), .lit (.int .u8 2), .lit (.int .u8 29), .lit (.int .u8 14), .lit (.int .u8 24), .lit (.int .u8 3), .lit (.int .u8 30), .lit (.int .u8 22), .lit (.int .u8 20), .lit (.int .u8 15), .lit (.int .u8 25), .lit (.int .u8 17), .lit (.int .u8 4), .lit (.int .u8 8), .lit (.int .u8 31), .lit (.int .u8 27), .lit (.int .u8 13), .lit (.int .u8 23), .lit (.int .u8 21), .lit (.int .u8 19), .lit (.int .u8 16), .lit (.int .u8 7), .lit (.int .u8 26), .lit (.int .u8 12), .lit (.int .u8 18), .lit (.int .u8 6), .lit (.int .u8 11), .lit (.int .u8 5), .lit (.int .u8 10), .lit (.int .u8 9)]
def laid_math_bits_deBruijn64tab {H : Type} : DataW H := .agg [.lit (.int .u8 0), .lit (.int .u8 1), .lit (.int .u8 56), .lit (.int .u8 2), .lit (.int .u8 57), .lit (.int .u8 49), .lit (.int .u8 28), .lit (.int .u8 3), .lit (.int .u8 61), .lit (.int .u8 58), .lit (.int .u8 42), .lit (.int .u8 50), .lit (.int .u8 38), .lit (.int .u8 29), .lit (.int .u8 17), .lit (.int .u8 4), .lit (.int .u8 62), .lit (.int .u8 47), .lit (.int .u8 59), .lit (.int .u8 36), .lit (.int .u8 45), .lit (.int .u8 43), .lit (.int .u8 51), .lit (.int .u8 22), .lit (.int .u8 53), .lit (.int .u8 39), .lit (.int .u8 33), .lit (.int .u8 30), .lit (.int .u8 24), .lit (.int .u8 18), .lit (.int .u8 12), .lit (.int .u8 5), .lit (.int .u8 63), .lit (.int .u8 55), .lit (.int .u8 48), .lit (.int .u8 27), .lit (.int .u8 60), .lit (.int .u8 41), .lit (.int .u8 37), .lit (.int .u8 16), .lit (.int .u8 46), .lit (.int .u8 35), .lit (.int .u8 44), .lit (.int .u8 21), .lit (.int .u8 52), .lit (.int .u8 32), .lit (.int .u8 23), .lit (.int .u8 11), .lit (.int .u8 54), .lit (.int .u8 26), .lit (.int .u8 40), .lit (.int .u8 15), .lit (.int .u8 34), .lit (.int .u8 20), .lit (.int .u8 31), .lit (.int .u8 10), .lit (.int .u8 25), .lit (.int .u8 14), .lit (.int .u8 19), .lit (.int .u8 9), .lit (.int .u8 13), .lit (.int .u8 8), .lit (.int .u8 7), .lit (.int .u8 6)]
def laid_internal_strconv_uint64pow10 {H : Type} : DataW H := .agg [.lit (.int .u64 1), .lit (.int .u64 10), .lit (.int .u64 100), .lit (.int .u64 1000), .lit (.int .u64 10000), .lit (.int .u64 100000), .lit (.int .u64 1000000), .lit (.int .u64 10000000), .lit (.int .u64 100000000), .lit (.int .u64 1000000000), .lit (.int .u64 10000000000), .lit (.int .u64 100000000000), .lit (.int .u64 1000000000000), .lit (.int .u64 10000000000000), .lit (.int .u64 100000000000000), .lit (.int .u64 1000000000000000), .lit (.int .u64 10000000000000000), .lit (.int .u64 100000000000000000), .lit (.int .u64 1000000000000000000), .lit (.int .u64 10000000000000000000)]
def laid_strconv_ErrRange {H : Type} : DataW H := .iface "*errors.errorString" (.ptr (.agg [.lit (.string [118, 97, 108, 117, 101, 32, 111, 117, 116, 32, 111, 102, 32, 114, 97, 110, 103, 101])]))
def laid_strconv_ErrSyntax {H : Type} : DataW H := .iface "*errors.errorString" (.ptr (.agg [.lit (.string [105, 110, 118, 97, 108, 105, 100, 32, 115, 121, 110, 116, 97, 120])]))

/-- 'chancerylaw01.NamesNext': WHATEVER THE INPUT: true; the input reads as it did. -/
def namesNextSpec : ChangeSpec := { name := "namesNext", fn := fun _ => fun
  | [d] => { results := [.lit (.bool true)], args := [d] }
  | _ => none }
def namesNextRow : OpenClaim := { program := "ytmiloedhhnknpaadoor", sum := "c91e88d5ce74ad97c57c135b2a5af202f69ea08742a9e1de65f4a6a0c4482749", func := "chancery/chancerylaw01.NamesNext", spec := "namesNext", inPlace := ["internal/abi.NoEscape"], named := ["internal/strconv.uint64pow10", "math/bits.deBruijn32tab", "math/bits.deBruijn64tab"], apart := false, laid := [("math/bits.deBruijn32tab", laid_math_bits_deBruijn32tab), ("math/bits.deBruijn64tab", laid_math_bits_deBruijn64tab), ("internal/strconv.uint64pow10", laid_internal_strconv_uint64pow10)] }
def NamesNextSaid : Prop := namesNextRow.holds Tryd.pinned (OpenSpec.ofChange namesNextSpec)

/-- ITS FALSE NEIGHBOUR: 'it returns false'. Refute it at one input. -/
def namesNextWrong : ChangeSpec := { name := "namesNext", fn := fun _ => fun
  | [d] => { results := [.lit (.bool false)], args := [d] }
  | _ => none }
def NamesNextWrongFalsely : Prop := namesNextRow.holds Tryd.pinned (OpenSpec.ofChange namesNextWrong)

/-- 'chancerylaw01.NamesApart': WHATEVER THE INPUT: true; the input reads as it did. -/
def namesApartSpec : ChangeSpec := { name := "namesApart", fn := fun _ => fun
  | [d1, d2] => { results := [.lit (.bool true)], args := [d1, d2] }
  | _ => none }
def namesApartRow : OpenClaim := { program := "ytmiloedhhnknpaadoor", sum := "c91e88d5ce74ad97c57c135b2a5af202f69ea08742a9e1de65f4a6a0c4482749", func := "chancery/chancerylaw01.NamesApart", spec := "namesApart", inPlace := ["internal/abi.NoEscape"], named := ["internal/strconv.uint64pow10", "math/bits.deBruijn32tab", "math/bits.deBruijn64tab"], apart := false, laid := [("math/bits.deBruijn32tab", laid_math_bits_deBruijn32tab), ("math/bits.deBruijn64tab", laid_math_bits_deBruijn64tab), ("internal/strconv.uint64pow10", laid_internal_strconv_uint64pow10)] }
def NamesApartSaid : Prop := namesApartRow.holds Tryd.pinned (OpenSpec.ofChange namesApartSpec)

/-- ITS FALSE NEIGHBOUR: 'it returns false'. Refute it at one input. -/
def namesApartWrong : ChangeSpec := { name := "namesApart", fn := fun _ => fun
  | [d1, d2] => { results := [.lit (.bool false)], args := [d1, d2] }
  | _ => none }
def NamesApartWrongFalsely : Prop := namesApartRow.holds Tryd.pinned (OpenSpec.ofChange namesApartWrong)

/-- 'chancerylaw01.NamesIn': WHATEVER THE INPUT: true; the input reads as it did. -/
def namesInSpec : ChangeSpec := { name := "namesIn", fn := fun _ => fun
  | [d1, d2, d3] => { results := [.lit (.bool true)], args := [d1, d2, d3] }
  | _ => none }
def namesInRow : OpenClaim := { program := "ytmiloedhhnknpaadoor", sum := "c91e88d5ce74ad97c57c135b2a5af202f69ea08742a9e1de65f4a6a0c4482749", func := "chancery/chancerylaw01.NamesIn", spec := "namesIn", inPlace := ["internal/abi.NoEscape"], named := ["internal/strconv.uint64pow10", "math/bits.deBruijn32tab", "math/bits.deBruijn64tab"], apart := false, laid := [("math/bits.deBruijn32tab", laid_math_bits_deBruijn32tab), ("math/bits.deBruijn64tab", laid_math_bits_deBruijn64tab), ("internal/strconv.uint64pow10", laid_internal_strconv_uint64pow10)] }
def NamesInSaid : Prop := namesInRow.holds Tryd.pinned (OpenSpec.ofChange namesInSpec)

/-- ITS FALSE NEIGHBOUR: 'it returns false'. Refute it at one input. -/
def namesInWrong : ChangeSpec := { name := "namesIn", fn := fun _ => fun
  | [d1, d2, d3] => { results := [.lit (.bool false)], args := [d1, d2, d3] }
  | _ => none }
def NamesInWrongFalsely : Prop := namesInRow.holds Tryd.pinned (OpenSpec.ofChange namesInWrong)

/-- 'chancerylaw01.NamesPrefix': WHATEVER THE INPUT: true; the input reads as it did. -/
def namesPrefixSpec : ChangeSpec := { name := "namesPrefix", fn := fun _ => fun
  | [d1, d2] => { results := [.lit (.bool true)], args := [d1, d2] }
  | _ => none }
def namesPrefixRow : OpenClaim := { program := "ytmiloedhhnknpaadoor", sum := "c91e88d5ce74ad97c57c135b2a5af202f69ea08742a9e1de65f4a6a0c4482749", func := "chancery/chancerylaw01.NamesPrefix", spec := "namesPrefix", inPlace := ["internal/abi.NoEscape"], named := ["internal/strconv.uint64pow10", "math/bits.deBruijn32tab", "math/bits.deBruijn64tab"], apart := false, laid := [("math/bits.deBruijn32tab", laid_math_bits_deBruijn32tab), ("math/bits.deBruijn64tab", laid_math_bits_deBruijn64tab), ("internal/strconv.uint64pow10", laid_internal_strconv_uint64pow10)] }
def NamesPrefixSaid : Prop := namesPrefixRow.holds Tryd.pinned (OpenSpec.ofChange namesPrefixSpec)

/-- ITS FALSE NEIGHBOUR: 'it returns false'. Refute it at one input. -/
def namesPrefixWrong : ChangeSpec := { name := "namesPrefix", fn := fun _ => fun
  | [d1, d2] => { results := [.lit (.bool false)], args := [d1, d2] }
  | _ => none }
def NamesPrefixWrongFalsely : Prop := namesPrefixRow.holds Tryd.pinned (OpenSpec.ofChange namesPrefixWrong)

/-- 'chancerylaw01.NamesKeys': WHATEVER THE INPUT: true; the input reads as it did. -/
def namesKeysSpec : ChangeSpec := { name := "namesKeys", fn := fun _ => fun
  | [d] => { results := [.lit (.bool true)], args := [d] }
  | _ => none }
def namesKeysRow : OpenClaim := { program := "ytmiloedhhnknpaadoor", sum := "c91e88d5ce74ad97c57c135b2a5af202f69ea08742a9e1de65f4a6a0c4482749", func := "chancery/chancerylaw01.NamesKeys", spec := "namesKeys", inPlace := ["internal/bytealg.IndexByteString", "internal/abi.NoEscape"], named := ["internal/strconv.uint64pow10", "math/bits.deBruijn32tab", "math/bits.deBruijn64tab"], apart := false, laid := [("math/bits.deBruijn32tab", laid_math_bits_deBruijn32tab), ("math/bits.deBruijn64tab", laid_math_bits_deBruijn64tab), ("internal/strconv.uint64pow10", laid_internal_strconv_uint64pow10)] }
def NamesKeysSaid : Prop := namesKeysRow.holds Tryd.pinned (OpenSpec.ofChange namesKeysSpec)

/-- ITS FALSE NEIGHBOUR: 'it returns false'. Refute it at one input. -/
def namesKeysWrong : ChangeSpec := { name := "namesKeys", fn := fun _ => fun
  | [d] => { results := [.lit (.bool false)], args := [d] }
  | _ => none }
def NamesKeysWrongFalsely : Prop := namesKeysRow.holds Tryd.pinned (OpenSpec.ofChange namesKeysWrong)

/-- 'chancerylaw01.NamesQuotes': WHATEVER THE INPUT: true; the input reads as it did. -/
def namesQuotesSpec : ChangeSpec := { name := "namesQuotes", fn := fun _ => fun
  | [d] => { results := [.lit (.bool true)], args := [d] }
  | _ => none }
def namesQuotesRow : OpenClaim := { program := "ytmiloedhhnknpaadoor", sum := "c91e88d5ce74ad97c57c135b2a5af202f69ea08742a9e1de65f4a6a0c4482749", func := "chancery/chancerylaw01.NamesQuotes", spec := "namesQuotes", inPlace := ["internal/abi.NoEscape", "internal/bytealg.IndexByteString"], recurses := true, named := ["internal/strconv.uint64pow10", "math/bits.deBruijn32tab", "math/bits.deBruijn64tab", "strconv.ErrSyntax", "strconv.ErrRange"], apart := false, laid := [("math/bits.deBruijn32tab", laid_math_bits_deBruijn32tab), ("math/bits.deBruijn64tab", laid_math_bits_deBruijn64tab), ("internal/strconv.uint64pow10", laid_internal_strconv_uint64pow10), ("strconv.ErrRange", laid_strconv_ErrRange), ("strconv.ErrSyntax", laid_strconv_ErrSyntax)] }
def NamesQuotesSaid : Prop := namesQuotesRow.holds Tryd.pinned (OpenSpec.ofChange namesQuotesSpec)

/-- ITS FALSE NEIGHBOUR: 'it returns false'. Refute it at one input. -/
def namesQuotesWrong : ChangeSpec := { name := "namesQuotes", fn := fun _ => fun
  | [d] => { results := [.lit (.bool false)], args := [d] }
  | _ => none }
def NamesQuotesWrongFalsely : Prop := namesQuotesRow.holds Tryd.pinned (OpenSpec.ofChange namesQuotesWrong)

/-- 'chancerylaw01.NamesBack': WHATEVER THE INPUT: true; the input reads as it did. -/
def namesBackSpec : ChangeSpec := { name := "namesBack", fn := fun _ => fun
  | [d] => { results := [.lit (.bool true)], args := [d] }
  | _ => none }
def namesBackRow : OpenClaim := { program := "ytmiloedhhnknpaadoor", sum := "c91e88d5ce74ad97c57c135b2a5af202f69ea08742a9e1de65f4a6a0c4482749", func := "chancery/chancerylaw01.NamesBack", spec := "namesBack", inPlace := ["internal/abi.NoEscape", "internal/bytealg.IndexByteString"], named := ["internal/strconv.uint64pow10", "math/bits.deBruijn32tab", "math/bits.deBruijn64tab", "strconv.ErrSyntax", "strconv.ErrRange"], apart := false, laid := [("math/bits.deBruijn32tab", laid_math_bits_deBruijn32tab), ("math/bits.deBruijn64tab", laid_math_bits_deBruijn64tab), ("internal/strconv.uint64pow10", laid_internal_strconv_uint64pow10), ("strconv.ErrRange", laid_strconv_ErrRange), ("strconv.ErrSyntax", laid_strconv_ErrSyntax)] }
def NamesBackSaid : Prop := namesBackRow.holds Tryd.pinned (OpenSpec.ofChange namesBackSpec)

/-- ITS FALSE NEIGHBOUR: 'it returns false'. Refute it at one input. -/
def namesBackWrong : ChangeSpec := { name := "namesBack", fn := fun _ => fun
  | [d] => { results := [.lit (.bool false)], args := [d] }
  | _ => none }
def NamesBackWrongFalsely : Prop := namesBackRow.holds Tryd.pinned (OpenSpec.ofChange namesBackWrong)

/- THE SECOND FORM. 'bulk': how many values and letters a reading holds, each counted each time it is reached (what is shared counts as often as it is met; a slice's spare places count too). A statement '..UptoSaid' is the law's where the arguments, and the package variables that the reading takes, are together of bulk at most 1048576: NARROWER than '..Said'. Prove '..Said' where nothing that the law and all that it calls make is longer than what came in: it says more and counts as full. Else prove '..UptoSaid'. A law counts once. -/
mutual
def uptoBulk {H : Type} : DataW H → Nat
  | .lit (.string bytes) => bytes.length + 1
  | .lit _ => 1
  | .nil => 1
  | .ptr d => uptoBulk d + 1
  | .slice elems spare => uptoBulkAll elems + uptoBulkAll spare + 1
  | .agg parts => uptoBulkAll parts + 1
  | .iface _ d => uptoBulk d + 1
  | .map entries => uptoBulkEntries entries + 1
  | .held _ => 1
def uptoBulkAll {H : Type} : List (DataW H) → Nat
  | [] => 0
  | d :: r => uptoBulk d + uptoBulkAll r
def uptoBulkEntries {H : Type} : List (Lit × DataW H) → Nat
  | [] => 0
  | x :: r => uptoBulkEntry x + uptoBulkEntries r
def uptoBulkEntry {H : Type} : Lit × DataW H → Nat
  | (.string bytes, d) => bytes.length + uptoBulk d + 1
  | (_, d) => uptoBulk d + 1
 end
def uptoSmall : (H : Type) → List (DataW H) → Bool := fun _ ds => decide (uptoBulkAll ds ≤ 1048576)
def OpenSpec.upto (s : _root_.Go.ChangeSpec) : _root_.Go.OpenSpec := { _root_.Go.OpenSpec.ofChange s with cond := some uptoSmall }

/-- 'chancerylaw01.NamesNext', WHERE WHAT IT READS IS OF BULK AT MOST 1048576: true; the input reads as it did. -/
def namesNextUptoRow : OpenClaim := { program := "ytmiloedhhnknpaadoor", sum := "c91e88d5ce74ad97c57c135b2a5af202f69ea08742a9e1de65f4a6a0c4482749", func := "chancery/chancerylaw01.NamesNext", spec := "namesNext", inPlace := ["internal/abi.NoEscape"], named := ["internal/strconv.uint64pow10", "math/bits.deBruijn32tab", "math/bits.deBruijn64tab"], apart := false, laid := [("math/bits.deBruijn32tab", laid_math_bits_deBruijn32tab), ("math/bits.deBruijn64tab", laid_math_bits_deBruijn64tab), ("internal/strconv.uint64pow10", laid_internal_strconv_uint64pow10)], narrowed := true }
def NamesNextUptoSaid : Prop := namesNextUptoRow.holds Tryd.pinned (OpenSpec.upto namesNextSpec)

/-- 'chancerylaw01.NamesApart', WHERE WHAT IT READS IS OF BULK AT MOST 1048576: true; the input reads as it did. -/
def namesApartUptoRow : OpenClaim := { program := "ytmiloedhhnknpaadoor", sum := "c91e88d5ce74ad97c57c135b2a5af202f69ea08742a9e1de65f4a6a0c4482749", func := "chancery/chancerylaw01.NamesApart", spec := "namesApart", inPlace := ["internal/abi.NoEscape"], named := ["internal/strconv.uint64pow10", "math/bits.deBruijn32tab", "math/bits.deBruijn64tab"], apart := false, laid := [("math/bits.deBruijn32tab", laid_math_bits_deBruijn32tab), ("math/bits.deBruijn64tab", laid_math_bits_deBruijn64tab), ("internal/strconv.uint64pow10", laid_internal_strconv_uint64pow10)], narrowed := true }
def NamesApartUptoSaid : Prop := namesApartUptoRow.holds Tryd.pinned (OpenSpec.upto namesApartSpec)

/-- 'chancerylaw01.NamesIn', WHERE WHAT IT READS IS OF BULK AT MOST 1048576: true; the input reads as it did. -/
def namesInUptoRow : OpenClaim := { program := "ytmiloedhhnknpaadoor", sum := "c91e88d5ce74ad97c57c135b2a5af202f69ea08742a9e1de65f4a6a0c4482749", func := "chancery/chancerylaw01.NamesIn", spec := "namesIn", inPlace := ["internal/abi.NoEscape"], named := ["internal/strconv.uint64pow10", "math/bits.deBruijn32tab", "math/bits.deBruijn64tab"], apart := false, laid := [("math/bits.deBruijn32tab", laid_math_bits_deBruijn32tab), ("math/bits.deBruijn64tab", laid_math_bits_deBruijn64tab), ("internal/strconv.uint64pow10", laid_internal_strconv_uint64pow10)], narrowed := true }
def NamesInUptoSaid : Prop := namesInUptoRow.holds Tryd.pinned (OpenSpec.upto namesInSpec)

/-- 'chancerylaw01.NamesPrefix', WHERE WHAT IT READS IS OF BULK AT MOST 1048576: true; the input reads as it did. -/
def namesPrefixUptoRow : OpenClaim := { program := "ytmiloedhhnknpaadoor", sum := "c91e88d5ce74ad97c57c135b2a5af202f69ea08742a9e1de65f4a6a0c4482749", func := "chancery/chancerylaw01.NamesPrefix", spec := "namesPrefix", inPlace := ["internal/abi.NoEscape"], named := ["internal/strconv.uint64pow10", "math/bits.deBruijn32tab", "math/bits.deBruijn64tab"], apart := false, laid := [("math/bits.deBruijn32tab", laid_math_bits_deBruijn32tab), ("math/bits.deBruijn64tab", laid_math_bits_deBruijn64tab), ("internal/strconv.uint64pow10", laid_internal_strconv_uint64pow10)], narrowed := true }
def NamesPrefixUptoSaid : Prop := namesPrefixUptoRow.holds Tryd.pinned (OpenSpec.upto namesPrefixSpec)

/-- 'chancerylaw01.NamesKeys', WHERE WHAT IT READS IS OF BULK AT MOST 1048576: true; the input reads as it did. -/
def namesKeysUptoRow : OpenClaim := { program := "ytmiloedhhnknpaadoor", sum := "c91e88d5ce74ad97c57c135b2a5af202f69ea08742a9e1de65f4a6a0c4482749", func := "chancery/chancerylaw01.NamesKeys", spec := "namesKeys", inPlace := ["internal/bytealg.IndexByteString", "internal/abi.NoEscape"], named := ["internal/strconv.uint64pow10", "math/bits.deBruijn32tab", "math/bits.deBruijn64tab"], apart := false, laid := [("math/bits.deBruijn32tab", laid_math_bits_deBruijn32tab), ("math/bits.deBruijn64tab", laid_math_bits_deBruijn64tab), ("internal/strconv.uint64pow10", laid_internal_strconv_uint64pow10)], narrowed := true }
def NamesKeysUptoSaid : Prop := namesKeysUptoRow.holds Tryd.pinned (OpenSpec.upto namesKeysSpec)

/-- 'chancerylaw01.NamesQuotes', WHERE WHAT IT READS IS OF BULK AT MOST 1048576: true; the input reads as it did. -/
def namesQuotesUptoRow : OpenClaim := { program := "ytmiloedhhnknpaadoor", sum := "c91e88d5ce74ad97c57c135b2a5af202f69ea08742a9e1de65f4a6a0c4482749", func := "chancery/chancerylaw01.NamesQuotes", spec := "namesQuotes", inPlace := ["internal/abi.NoEscape", "internal/bytealg.IndexByteString"], recurses := true, named := ["internal/strconv.uint64pow10", "math/bits.deBruijn32tab", "math/bits.deBruijn64tab", "strconv.ErrSyntax", "strconv.ErrRange"], apart := false, laid := [("math/bits.deBruijn32tab", laid_math_bits_deBruijn32tab), ("math/bits.deBruijn64tab", laid_math_bits_deBruijn64tab), ("internal/strconv.uint64pow10", laid_internal_strconv_uint64pow10), ("strconv.ErrRange", laid_strconv_ErrRange), ("strconv.ErrSyntax", laid_strconv_ErrSyntax)], narrowed := true }
def NamesQuotesUptoSaid : Prop := namesQuotesUptoRow.holds Tryd.pinned (OpenSpec.upto namesQuotesSpec)

/-- 'chancerylaw01.NamesBack', WHERE WHAT IT READS IS OF BULK AT MOST 1048576: true; the input reads as it did. -/
def namesBackUptoRow : OpenClaim := { program := "ytmiloedhhnknpaadoor", sum := "c91e88d5ce74ad97c57c135b2a5af202f69ea08742a9e1de65f4a6a0c4482749", func := "chancery/chancerylaw01.NamesBack", spec := "namesBack", inPlace := ["internal/abi.NoEscape", "internal/bytealg.IndexByteString"], named := ["internal/strconv.uint64pow10", "math/bits.deBruijn32tab", "math/bits.deBruijn64tab", "strconv.ErrSyntax", "strconv.ErrRange"], apart := false, laid := [("math/bits.deBruijn32tab", laid_math_bits_deBruijn32tab), ("math/bits.deBruijn64tab", laid_math_bits_deBruijn64tab), ("internal/strconv.uint64pow10", laid_internal_strconv_uint64pow10), ("strconv.ErrRange", laid_strconv_ErrRange), ("strconv.ErrSyntax", laid_strconv_ErrSyntax)], narrowed := true }
def NamesBackUptoSaid : Prop := namesBackUptoRow.holds Tryd.pinned (OpenSpec.upto namesBackSpec)

end Rows
end Go.Proofs.YtmiloedhhnknpaaDoor

/-
  No cell of these rows narrows 'for every input' (looked for: loops, veiled, ifaces, maps, wideKeys, modest, calm, conditions, laid).
  DERIVED. THE GIVEN ROWS OF THIS SEAT. 13 by the template 'for every input the law returns true; each argument reads behind the call as it read before'; 0 by the template 'total and deterministic' (their statements: YtlbacddgjagcbaaTotals.lean).
  GIVEN WITH THE SEED: the statements are not yours to turn. If you find one false, say at which input.
  Laid BY PROGRAM, IN A SANDBOX (cutbox-rows.mjs): the forced cells as the released guide's own fill.sh prints them over the translation aaa9cecb1eade79f… (all of the seat's roots in one cut). By AI agents, Wed Nov 11 2026. No macro, syntax, notation, axiom, sorry.
-/
import Derived.Test.YtlbacddgjagcbaaChecked
import GoSem.Claim
import GoSem.ClaimJoined
import GoSem.ClaimMapViews
import Derived.JoinedTies
import Derived.KernelRfl
namespace Go.Proofs.Ytlbacddgjagcbaa
/- THE CELL 'sum', in the pinned program and in every row, IS THE sha256 OF THE DUMP (.gsa) THAT YtlbacddgjagcbaaProg.lean LOADS. Nothing in Lean hashes anything: it is a label: what it is worth is what the hold of that sum in a sandbox is worth. -/
noncomputable def Try.pinned : Pinned := { name := "ytlbacddgjagcbaa", sum := "aaa9cecb1eade79f70060ce24779d90824ccf57a866e4b9863bed639275786b2", checked := Try.checked }
namespace Rows
def none {H : Type} : Left H := { results := [], args := [] }

/-- 'chancerylaw03.PackWrites': WHATEVER THE INPUT: true; the input reads as it did. -/
def packWritesSpec : ChangeSpec := { name := "packWrites", fn := fun _ => fun
  | [d1, d2] => { results := [.lit (.bool true)], args := [d1, d2] }
  | _ => none }
def packWritesRow : OpenClaim := { program := "ytlbacddgjagcbaa", sum := "aaa9cecb1eade79f70060ce24779d90824ccf57a866e4b9863bed639275786b2", func := "chancery/chancerylaw03.PackWrites", spec := "packWrites", inPlace := ["internal/abi.NoEscape"], apart := false }
def PackWritesSaid : Prop := packWritesRow.holds Try.pinned (OpenSpec.ofChange packWritesSpec)

/-- ITS FALSE NEIGHBOUR: 'it returns false'. Refute it at one input. -/
def packWritesWrong : ChangeSpec := { name := "packWrites", fn := fun _ => fun
  | [d1, d2] => { results := [.lit (.bool false)], args := [d1, d2] }
  | _ => none }
def PackWritesWrongFalsely : Prop := packWritesRow.holds Try.pinned (OpenSpec.ofChange packWritesWrong)

/-- 'chancerylaw03.PackApart': WHATEVER THE INPUT: true; the input reads as it did. -/
def packApartSpec : ChangeSpec := { name := "packApart", fn := fun _ => fun
  | [d1, d2] => { results := [.lit (.bool true)], args := [d1, d2] }
  | _ => none }
def packApartRow : OpenClaim := { program := "ytlbacddgjagcbaa", sum := "aaa9cecb1eade79f70060ce24779d90824ccf57a866e4b9863bed639275786b2", func := "chancery/chancerylaw03.PackApart", spec := "packApart", inPlace := ["internal/abi.NoEscape"], apart := false }
def PackApartSaid : Prop := packApartRow.holds Try.pinned (OpenSpec.ofChange packApartSpec)

/-- ITS FALSE NEIGHBOUR: 'it returns false'. Refute it at one input. -/
def packApartWrong : ChangeSpec := { name := "packApart", fn := fun _ => fun
  | [d1, d2] => { results := [.lit (.bool false)], args := [d1, d2] }
  | _ => none }
def PackApartWrongFalsely : Prop := packApartRow.holds Try.pinned (OpenSpec.ofChange packApartWrong)

/-- 'chancerylaw03.PackNums': WHATEVER THE INPUT: true; the input reads as it did. -/
def packNumsSpec : ChangeSpec := { name := "packNums", fn := fun _ => fun
  | [d1, d2] => { results := [.lit (.bool true)], args := [d1, d2] }
  | _ => none }
def packNumsRow : OpenClaim := { program := "ytlbacddgjagcbaa", sum := "aaa9cecb1eade79f70060ce24779d90824ccf57a866e4b9863bed639275786b2", func := "chancery/chancerylaw03.PackNums", spec := "packNums", inPlace := ["internal/abi.NoEscape"], apart := false }
def PackNumsSaid : Prop := packNumsRow.holds Try.pinned (OpenSpec.ofChange packNumsSpec)

/-- ITS FALSE NEIGHBOUR: 'it returns false'. Refute it at one input. -/
def packNumsWrong : ChangeSpec := { name := "packNums", fn := fun _ => fun
  | [d1, d2] => { results := [.lit (.bool false)], args := [d1, d2] }
  | _ => none }
def PackNumsWrongFalsely : Prop := packNumsRow.holds Try.pinned (OpenSpec.ofChange packNumsWrong)

/-- 'chancerylaw03.PackNil': WHATEVER THE INPUT: true; the input reads as it did. -/
def packNilSpec : ChangeSpec := { name := "packNil", fn := fun _ => fun
  | [d] => { results := [.lit (.bool true)], args := [d] }
  | _ => none }
def packNilRow : OpenClaim := { program := "ytlbacddgjagcbaa", sum := "aaa9cecb1eade79f70060ce24779d90824ccf57a866e4b9863bed639275786b2", func := "chancery/chancerylaw03.PackNil", spec := "packNil", inPlace := ["internal/abi.NoEscape"], apart := false }
def PackNilSaid : Prop := packNilRow.holds Try.pinned (OpenSpec.ofChange packNilSpec)

/-- ITS FALSE NEIGHBOUR: 'it returns false'. Refute it at one input. -/
def packNilWrong : ChangeSpec := { name := "packNil", fn := fun _ => fun
  | [d] => { results := [.lit (.bool false)], args := [d] }
  | _ => none }
def PackNilWrongFalsely : Prop := packNilRow.holds Try.pinned (OpenSpec.ofChange packNilWrong)

/-- 'chancerylaw03.PackReads': WHATEVER THE INPUT: true; the input reads as it did. -/
def packReadsSpec : ChangeSpec := { name := "packReads", fn := fun _ => fun
  | [d1, d2] => { results := [.lit (.bool true)], args := [d1, d2] }
  | _ => none }
def packReadsRow : OpenClaim := { program := "ytlbacddgjagcbaa", sum := "aaa9cecb1eade79f70060ce24779d90824ccf57a866e4b9863bed639275786b2", func := "chancery/chancerylaw03.PackReads", spec := "packReads", inPlace := ["internal/abi.NoEscape"], apart := false }
def PackReadsSaid : Prop := packReadsRow.holds Try.pinned (OpenSpec.ofChange packReadsSpec)

/-- ITS FALSE NEIGHBOUR: 'it returns false'. Refute it at one input. -/
def packReadsWrong : ChangeSpec := { name := "packReads", fn := fun _ => fun
  | [d1, d2] => { results := [.lit (.bool false)], args := [d1, d2] }
  | _ => none }
def PackReadsWrongFalsely : Prop := packReadsRow.holds Try.pinned (OpenSpec.ofChange packReadsWrong)

/-- 'chancerylaw03.PackBack': WHATEVER THE INPUT: true; the input reads as it did. -/
def packBackSpec : ChangeSpec := { name := "packBack", fn := fun _ => fun
  | [d1, d2, d3] => { results := [.lit (.bool true)], args := [d1, d2, d3] }
  | _ => none }
def packBackRow : OpenClaim := { program := "ytlbacddgjagcbaa", sum := "aaa9cecb1eade79f70060ce24779d90824ccf57a866e4b9863bed639275786b2", func := "chancery/chancerylaw03.PackBack", spec := "packBack", inPlace := ["internal/abi.NoEscape"], apart := false }
def PackBackSaid : Prop := packBackRow.holds Try.pinned (OpenSpec.ofChange packBackSpec)

/-- ITS FALSE NEIGHBOUR: 'it returns false'. Refute it at one input. -/
def packBackWrong : ChangeSpec := { name := "packBack", fn := fun _ => fun
  | [d1, d2, d3] => { results := [.lit (.bool false)], args := [d1, d2, d3] }
  | _ => none }
def PackBackWrongFalsely : Prop := packBackRow.holds Try.pinned (OpenSpec.ofChange packBackWrong)

/-- 'chancerylaw03.PackCuts': WHATEVER THE INPUT: true; the input reads as it did. -/
def packCutsSpec : ChangeSpec := { name := "packCuts", fn := fun _ => fun
  | [d1, d2, d3] => { results := [.lit (.bool true)], args := [d1, d2, d3] }
  | _ => none }
def packCutsRow : OpenClaim := { program := "ytlbacddgjagcbaa", sum := "aaa9cecb1eade79f70060ce24779d90824ccf57a866e4b9863bed639275786b2", func := "chancery/chancerylaw03.PackCuts", spec := "packCuts", inPlace := ["internal/abi.NoEscape"], apart := false }
def PackCutsSaid : Prop := packCutsRow.holds Try.pinned (OpenSpec.ofChange packCutsSpec)

/-- ITS FALSE NEIGHBOUR: 'it returns false'. Refute it at one input. -/
def packCutsWrong : ChangeSpec := { name := "packCuts", fn := fun _ => fun
  | [d1, d2, d3] => { results := [.lit (.bool false)], args := [d1, d2, d3] }
  | _ => none }
def PackCutsWrongFalsely : Prop := packCutsRow.holds Try.pinned (OpenSpec.ofChange packCutsWrong)

/-- 'chancerylaw08.ValueEncodes': WHATEVER THE INPUT: true; the input reads as it did. -/
def valueEncodesSpec : ChangeSpec := { name := "valueEncodes", fn := fun _ => fun
  | [d] => { results := [.lit (.bool true)], args := [d] }
  | _ => none }
def valueEncodesRow : OpenClaim := { program := "ytlbacddgjagcbaa", sum := "aaa9cecb1eade79f70060ce24779d90824ccf57a866e4b9863bed639275786b2", func := "chancery/chancerylaw08.ValueEncodes", spec := "valueEncodes", inPlace := ["internal/abi.NoEscape"], unfollowed := true, recurses := true, apart := false }
def ValueEncodesSaid : Prop := valueEncodesRow.holds Try.pinned (OpenSpec.ofChange valueEncodesSpec)

/-- ITS FALSE NEIGHBOUR: 'it returns false'. Refute it at one input. -/
def valueEncodesWrong : ChangeSpec := { name := "valueEncodes", fn := fun _ => fun
  | [d] => { results := [.lit (.bool false)], args := [d] }
  | _ => none }
def ValueEncodesWrongFalsely : Prop := valueEncodesRow.holds Try.pinned (OpenSpec.ofChange valueEncodesWrong)

/-- 'chancerylaw08.ValueApart': WHATEVER THE INPUT: true; the input reads as it did. -/
def valueApartSpec : ChangeSpec := { name := "valueApart", fn := fun _ => fun
  | [d1, d2] => { results := [.lit (.bool true)], args := [d1, d2] }
  | _ => none }
def valueApartRow : OpenClaim := { program := "ytlbacddgjagcbaa", sum := "aaa9cecb1eade79f70060ce24779d90824ccf57a866e4b9863bed639275786b2", func := "chancery/chancerylaw08.ValueApart", spec := "valueApart", inPlace := ["internal/abi.NoEscape"], unfollowed := true, recurses := true, apart := false }
def ValueApartSaid : Prop := valueApartRow.holds Try.pinned (OpenSpec.ofChange valueApartSpec)

/-- ITS FALSE NEIGHBOUR: 'it returns false'. Refute it at one input. -/
def valueApartWrong : ChangeSpec := { name := "valueApart", fn := fun _ => fun
  | [d1, d2] => { results := [.lit (.bool false)], args := [d1, d2] }
  | _ => none }
def ValueApartWrongFalsely : Prop := valueApartRow.holds Try.pinned (OpenSpec.ofChange valueApartWrong)

/-- 'chancerylaw08.ValueOrders': WHATEVER THE INPUT: true; the input reads as it did. -/
def valueOrdersSpec : ChangeSpec := { name := "valueOrders", fn := fun _ => fun
  | [d1, d2, d3] => { results := [.lit (.bool true)], args := [d1, d2, d3] }
  | _ => none }
def valueOrdersRow : OpenClaim := { program := "ytlbacddgjagcbaa", sum := "aaa9cecb1eade79f70060ce24779d90824ccf57a866e4b9863bed639275786b2", func := "chancery/chancerylaw08.ValueOrders", spec := "valueOrders", inPlace := ["internal/abi.NoEscape"], unfollowed := true, recurses := true, apart := false }
def ValueOrdersSaid : Prop := valueOrdersRow.holds Try.pinned (OpenSpec.ofChange valueOrdersSpec)

/-- ITS FALSE NEIGHBOUR: 'it returns false'. Refute it at one input. -/
def valueOrdersWrong : ChangeSpec := { name := "valueOrders", fn := fun _ => fun
  | [d1, d2, d3] => { results := [.lit (.bool false)], args := [d1, d2, d3] }
  | _ => none }
def ValueOrdersWrongFalsely : Prop := valueOrdersRow.holds Try.pinned (OpenSpec.ofChange valueOrdersWrong)

/-- 'chancerylaw08.ValueAsks': WHATEVER THE INPUT: true; the input reads as it did. -/
def valueAsksSpec : ChangeSpec := { name := "valueAsks", fn := fun _ => fun
  | [d] => { results := [.lit (.bool true)], args := [d] }
  | _ => none }
def valueAsksRow : OpenClaim := { program := "ytlbacddgjagcbaa", sum := "aaa9cecb1eade79f70060ce24779d90824ccf57a866e4b9863bed639275786b2", func := "chancery/chancerylaw08.ValueAsks", spec := "valueAsks", inPlace := ["internal/abi.NoEscape"], unfollowed := true, recurses := true, apart := false }
def ValueAsksSaid : Prop := valueAsksRow.holds Try.pinned (OpenSpec.ofChange valueAsksSpec)

/-- ITS FALSE NEIGHBOUR: 'it returns false'. Refute it at one input. -/
def valueAsksWrong : ChangeSpec := { name := "valueAsks", fn := fun _ => fun
  | [d] => { results := [.lit (.bool false)], args := [d] }
  | _ => none }
def ValueAsksWrongFalsely : Prop := valueAsksRow.holds Try.pinned (OpenSpec.ofChange valueAsksWrong)

/-- 'chancerylaw08.ValueDecodes': WHATEVER THE INPUT: true; the input reads as it did. -/
def valueDecodesSpec : ChangeSpec := { name := "valueDecodes", fn := fun _ => fun
  | [d] => { results := [.lit (.bool true)], args := [d] }
  | _ => none }
def valueDecodesRow : OpenClaim := { program := "ytlbacddgjagcbaa", sum := "aaa9cecb1eade79f70060ce24779d90824ccf57a866e4b9863bed639275786b2", func := "chancery/chancerylaw08.ValueDecodes", spec := "valueDecodes", inPlace := ["internal/abi.NoEscape"], unfollowed := true, recurses := true, apart := false }
def ValueDecodesSaid : Prop := valueDecodesRow.holds Try.pinned (OpenSpec.ofChange valueDecodesSpec)

/-- ITS FALSE NEIGHBOUR: 'it returns false'. Refute it at one input. -/
def valueDecodesWrong : ChangeSpec := { name := "valueDecodes", fn := fun _ => fun
  | [d] => { results := [.lit (.bool false)], args := [d] }
  | _ => none }
def ValueDecodesWrongFalsely : Prop := valueDecodesRow.holds Try.pinned (OpenSpec.ofChange valueDecodesWrong)

/-- 'chancerylaw08.ValueBack': WHATEVER THE INPUT: true; the input reads as it did. -/
def valueBackSpec : ChangeSpec := { name := "valueBack", fn := fun _ => fun
  | [d1, d2] => { results := [.lit (.bool true)], args := [d1, d2] }
  | _ => none }
def valueBackRow : OpenClaim := { program := "ytlbacddgjagcbaa", sum := "aaa9cecb1eade79f70060ce24779d90824ccf57a866e4b9863bed639275786b2", func := "chancery/chancerylaw08.ValueBack", spec := "valueBack", inPlace := ["internal/abi.NoEscape"], unfollowed := true, recurses := true, apart := false }
def ValueBackSaid : Prop := valueBackRow.holds Try.pinned (OpenSpec.ofChange valueBackSpec)

/-- ITS FALSE NEIGHBOUR: 'it returns false'. Refute it at one input. -/
def valueBackWrong : ChangeSpec := { name := "valueBack", fn := fun _ => fun
  | [d1, d2] => { results := [.lit (.bool false)], args := [d1, d2] }
  | _ => none }
def ValueBackWrongFalsely : Prop := valueBackRow.holds Try.pinned (OpenSpec.ofChange valueBackWrong)

/- THE SECOND FORM. 'bulk': how many values and letters a reading holds, each counted each time it is reached (what is shared counts as often as it is met; a slice's spare places count too). A statement '..UptoSaid' is the law's where the arguments, and the package variables that the reading takes, are together of bulk at most 1048576: NARROWER than '..Said'. Prove '..Said' where nothing that the law and all that it calls make is longer than what came in: it says more and counts as full. Else prove '..UptoSaid'. A law counts once. -/
mutual
def uptoBulk {H : Type} : DataW H → Nat
  | .lit (.string bytes) => bytes.length + 1
  | .lit _ => 1
  | .nil => 1
  | .ptr d => uptoBulk d + 1
  | .slice elems spare => uptoBulkAll elems + uptoBulkAll spare + 1
  | .agg parts => uptoBulkAll parts + 1
  | .iface _ d => uptoBulk d + 1
  | .map entries => uptoBulkEntries entries + 1
  | .held _ => 1
def uptoBulkAll {H : Type} : List (DataW H) → Nat
  | [] => 0
  | d :: r => uptoBulk d + uptoBulkAll r
def uptoBulkEntries {H : Type} : List (Lit × DataW H) → Nat
  | [] => 0
  | x :: r => uptoBulkEntry x + uptoBulkEntries r
def uptoBulkEntry {H : Type} : Lit × DataW H → Nat
  | (.string bytes, d) => bytes.length + uptoBulk d + 1
  | (_, d) => uptoBulk d + 1
 end
def uptoSmall : (H : Type) → List (DataW H) → Bool := fun _ ds => decide (uptoBulkAll ds ≤ 1048576)
def OpenSpec.upto (s : _root_.Go.ChangeSpec) : _root_.Go.OpenSpec := { _root_.Go.OpenSpec.ofChange s with cond := some uptoSmall }

/-- 'chancerylaw03.PackWrites', WHERE WHAT IT READS IS OF BULK AT MOST 1048576: true; the input reads as it did. -/
def packWritesUptoRow : OpenClaim := { program := "ytlbacddgjagcbaa", sum := "aaa9cecb1eade79f70060ce24779d90824ccf57a866e4b9863bed639275786b2", func := "chancery/chancerylaw03.PackWrites", spec := "packWrites", inPlace := ["internal/abi.NoEscape"], apart := false, narrowed := true }
def PackWritesUptoSaid : Prop := packWritesUptoRow.holds Try.pinned (OpenSpec.upto packWritesSpec)

/-- 'chancerylaw03.PackApart', WHERE WHAT IT READS IS OF BULK AT MOST 1048576: true; the input reads as it did. -/
def packApartUptoRow : OpenClaim := { program := "ytlbacddgjagcbaa", sum := "aaa9cecb1eade79f70060ce24779d90824ccf57a866e4b9863bed639275786b2", func := "chancery/chancerylaw03.PackApart", spec := "packApart", inPlace := ["internal/abi.NoEscape"], apart := false, narrowed := true }
def PackApartUptoSaid : Prop := packApartUptoRow.holds Try.pinned (OpenSpec.upto packApartSpec)

/-- 'chancerylaw03.PackNums', WHERE WHAT IT READS IS OF BULK AT MOST 1048576: true; the input reads as it did. -/
def packNumsUptoRow : OpenClaim := { program := "ytlbacddgjagcbaa", sum := "aaa9cecb1eade79f70060ce24779d90824ccf57a866e4b9863bed639275786b2", func := "chancery/chancerylaw03.PackNums", spec := "packNums", inPlace := ["internal/abi.NoEscape"], apart := false, narrowed := true }
def PackNumsUptoSaid : Prop := packNumsUptoRow.holds Try.pinned (OpenSpec.upto packNumsSpec)

/-- 'chancerylaw03.PackNil', WHERE WHAT IT READS IS OF BULK AT MOST 1048576: true; the input reads as it did. -/
def packNilUptoRow : OpenClaim := { program := "ytlbacddgjagcbaa", sum := "aaa9cecb1eade79f70060ce24779d90824ccf57a866e4b9863bed639275786b2", func := "chancery/chancerylaw03.PackNil", spec := "packNil", inPlace := ["internal/abi.NoEscape"], apart := false, narrowed := true }
def PackNilUptoSaid : Prop := packNilUptoRow.holds Try.pinned (OpenSpec.upto packNilSpec)

/-- 'chancerylaw03.PackReads', WHERE WHAT IT READS IS OF BULK AT MOST 1048576: true; the input reads as it did. -/
def packReadsUptoRow : OpenClaim := { program := "ytlbacddgjagcbaa", sum := "aaa9cecb1eade79f70060ce24779d90824ccf57a866e4b9863bed639275786b2", func := "chancery/chancerylaw03.PackReads", spec := "packReads", inPlace := ["internal/abi.NoEscape"], apart := false, narrowed := true }
def PackReadsUptoSaid : Prop := packReadsUptoRow.holds Try.pinned (OpenSpec.upto packReadsSpec)

/-- 'chancerylaw03.PackBack', WHERE WHAT IT READS IS OF BULK AT MOST 1048576: true; the input reads as it did. -/
def packBackUptoRow : OpenClaim := { program := "ytlbacddgjagcbaa", sum := "aaa9cecb1eade79f70060ce24779d90824ccf57a866e4b9863bed639275786b2", func := "chancery/chancerylaw03.PackBack", spec := "packBack", inPlace := ["internal/abi.NoEscape"], apart := false, narrowed := true }
def PackBackUptoSaid : Prop := packBackUptoRow.holds Try.pinned (OpenSpec.upto packBackSpec)

/-- 'chancerylaw03.PackCuts', WHERE WHAT IT READS IS OF BULK AT MOST 1048576: true; the input reads as it did. -/
def packCutsUptoRow : OpenClaim := { program := "ytlbacddgjagcbaa", sum := "aaa9cecb1eade79f70060ce24779d90824ccf57a866e4b9863bed639275786b2", func := "chancery/chancerylaw03.PackCuts", spec := "packCuts", inPlace := ["internal/abi.NoEscape"], apart := false, narrowed := true }
def PackCutsUptoSaid : Prop := packCutsUptoRow.holds Try.pinned (OpenSpec.upto packCutsSpec)

/-- 'chancerylaw08.ValueEncodes', WHERE WHAT IT READS IS OF BULK AT MOST 1048576: true; the input reads as it did. -/
def valueEncodesUptoRow : OpenClaim := { program := "ytlbacddgjagcbaa", sum := "aaa9cecb1eade79f70060ce24779d90824ccf57a866e4b9863bed639275786b2", func := "chancery/chancerylaw08.ValueEncodes", spec := "valueEncodes", inPlace := ["internal/abi.NoEscape"], unfollowed := true, recurses := true, apart := false, narrowed := true }
def ValueEncodesUptoSaid : Prop := valueEncodesUptoRow.holds Try.pinned (OpenSpec.upto valueEncodesSpec)

/-- 'chancerylaw08.ValueApart', WHERE WHAT IT READS IS OF BULK AT MOST 1048576: true; the input reads as it did. -/
def valueApartUptoRow : OpenClaim := { program := "ytlbacddgjagcbaa", sum := "aaa9cecb1eade79f70060ce24779d90824ccf57a866e4b9863bed639275786b2", func := "chancery/chancerylaw08.ValueApart", spec := "valueApart", inPlace := ["internal/abi.NoEscape"], unfollowed := true, recurses := true, apart := false, narrowed := true }
def ValueApartUptoSaid : Prop := valueApartUptoRow.holds Try.pinned (OpenSpec.upto valueApartSpec)

/-- 'chancerylaw08.ValueOrders', WHERE WHAT IT READS IS OF BULK AT MOST 1048576: true; the input reads as it did. -/
def valueOrdersUptoRow : OpenClaim := { program := "ytlbacddgjagcbaa", sum := "aaa9cecb1eade79f70060ce24779d90824ccf57a866e4b9863bed639275786b2", func := "chancery/chancerylaw08.ValueOrders", spec := "valueOrders", inPlace := ["internal/abi.NoEscape"], unfollowed := true, recurses := true, apart := false, narrowed := true }
def ValueOrdersUptoSaid : Prop := valueOrdersUptoRow.holds Try.pinned (OpenSpec.upto valueOrdersSpec)

/-- 'chancerylaw08.ValueAsks', WHERE WHAT IT READS IS OF BULK AT MOST 1048576: true; the input reads as it did. -/
def valueAsksUptoRow : OpenClaim := { program := "ytlbacddgjagcbaa", sum := "aaa9cecb1eade79f70060ce24779d90824ccf57a866e4b9863bed639275786b2", func := "chancery/chancerylaw08.ValueAsks", spec := "valueAsks", inPlace := ["internal/abi.NoEscape"], unfollowed := true, recurses := true, apart := false, narrowed := true }
def ValueAsksUptoSaid : Prop := valueAsksUptoRow.holds Try.pinned (OpenSpec.upto valueAsksSpec)

/-- 'chancerylaw08.ValueDecodes', WHERE WHAT IT READS IS OF BULK AT MOST 1048576: true; the input reads as it did. -/
def valueDecodesUptoRow : OpenClaim := { program := "ytlbacddgjagcbaa", sum := "aaa9cecb1eade79f70060ce24779d90824ccf57a866e4b9863bed639275786b2", func := "chancery/chancerylaw08.ValueDecodes", spec := "valueDecodes", inPlace := ["internal/abi.NoEscape"], unfollowed := true, recurses := true, apart := false, narrowed := true }
def ValueDecodesUptoSaid : Prop := valueDecodesUptoRow.holds Try.pinned (OpenSpec.upto valueDecodesSpec)

/-- 'chancerylaw08.ValueBack', WHERE WHAT IT READS IS OF BULK AT MOST 1048576: true; the input reads as it did. -/
def valueBackUptoRow : OpenClaim := { program := "ytlbacddgjagcbaa", sum := "aaa9cecb1eade79f70060ce24779d90824ccf57a866e4b9863bed639275786b2", func := "chancery/chancerylaw08.ValueBack", spec := "valueBack", inPlace := ["internal/abi.NoEscape"], unfollowed := true, recurses := true, apart := false, narrowed := true }
def ValueBackUptoSaid : Prop := valueBackUptoRow.holds Try.pinned (OpenSpec.upto valueBackSpec)

end Rows
end Go.Proofs.Ytlbacddgjagcbaa

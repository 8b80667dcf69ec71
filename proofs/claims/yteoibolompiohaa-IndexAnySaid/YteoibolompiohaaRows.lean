/-
  No cell of these rows narrows 'for every input' (looked for: loops, veiled, ifaces, maps, wideKeys, modest, calm, conditions, laid).
  DERIVED. THE GIVEN ROWS OF THIS SEAT. 7 by the template 'for every input the law returns true; each argument reads behind the call as it read before'; 0 by the template 'total and deterministic' (their statements: YteoibolompiohaaTotals.lean).
  GIVEN WITH THE SEED: the statements are not yours to turn. If you find one false, say at which input.
  Laid BY PROGRAM, IN A SANDBOX (cutbox-rows.mjs): the forced cells as the released guide's own fill.sh prints them over the translation c58f14524a41da97… (all of the seat's roots in one cut). By AI agents, Wed Nov 11 2026. No macro, syntax, notation, axiom, sorry.
-/
import Derived.Test.YteoibolompiohaaChecked
import GoSem.Claim
import GoSem.ClaimJoined
import GoSem.ClaimMapViews
import Derived.JoinedTies
import Derived.KernelRfl
namespace Go.Proofs.Yteoibolompiohaa
/- THE CELL 'sum', in the pinned program and in every row, IS THE sha256 OF THE DUMP (.gsa) THAT YteoibolompiohaaProg.lean LOADS. Nothing in Lean hashes anything: it is a label: what it is worth is what the hold of that sum in a sandbox is worth. -/
noncomputable def Try.pinned : Pinned := { name := "yteoibolompiohaa", sum := "c58f14524a41da97c986713f98a80563a72df73e3ead6c9f0056bed172aa52e2", checked := Try.checked }
namespace Rows
def none {H : Type} : Left H := { results := [], args := [] }

/-- 'chancerylaw09.IndexPlays': WHATEVER THE INPUT: true; the input reads as it did. -/
def indexPlaysSpec : ChangeSpec := { name := "indexPlays", fn := fun _ => fun
  | [d] => { results := [.lit (.bool true)], args := [d] }
  | _ => none }
def indexPlaysRow : OpenClaim := { program := "yteoibolompiohaa", sum := "c58f14524a41da97c986713f98a80563a72df73e3ead6c9f0056bed172aa52e2", func := "chancery/chancerylaw09.IndexPlays", spec := "indexPlays", unfollowed := true, recurses := true, apart := false }
def IndexPlaysSaid : Prop := indexPlaysRow.holds Try.pinned (OpenSpec.ofChange indexPlaysSpec)

/-- ITS FALSE NEIGHBOUR: 'it returns false'. Refute it at one input. -/
def indexPlaysWrong : ChangeSpec := { name := "indexPlays", fn := fun _ => fun
  | [d] => { results := [.lit (.bool false)], args := [d] }
  | _ => none }
def IndexPlaysWrongFalsely : Prop := indexPlaysRow.holds Try.pinned (OpenSpec.ofChange indexPlaysWrong)

/-- 'chancerylaw09.IndexRanges': WHATEVER THE INPUT: true; the input reads as it did. -/
def indexRangesSpec : ChangeSpec := { name := "indexRanges", fn := fun _ => fun
  | [d1, d2, d3, d4] => { results := [.lit (.bool true)], args := [d1, d2, d3, d4] }
  | _ => none }
def indexRangesRow : OpenClaim := { program := "yteoibolompiohaa", sum := "c58f14524a41da97c986713f98a80563a72df73e3ead6c9f0056bed172aa52e2", func := "chancery/chancerylaw09.IndexRanges", spec := "indexRanges", unfollowed := true, recurses := true, apart := false }
def IndexRangesSaid : Prop := indexRangesRow.holds Try.pinned (OpenSpec.ofChange indexRangesSpec)

/-- ITS FALSE NEIGHBOUR: 'it returns false'. Refute it at one input. -/
def indexRangesWrong : ChangeSpec := { name := "indexRanges", fn := fun _ => fun
  | [d1, d2, d3, d4] => { results := [.lit (.bool false)], args := [d1, d2, d3, d4] }
  | _ => none }
def IndexRangesWrongFalsely : Prop := indexRangesRow.holds Try.pinned (OpenSpec.ofChange indexRangesWrong)

/-- 'chancerylaw09.IndexSorts': WHATEVER THE INPUT: true; the input reads as it did. -/
def indexSortsSpec : ChangeSpec := { name := "indexSorts", fn := fun _ => fun
  | [d1, d2, d3] => { results := [.lit (.bool true)], args := [d1, d2, d3] }
  | _ => none }
def indexSortsRow : OpenClaim := { program := "yteoibolompiohaa", sum := "c58f14524a41da97c986713f98a80563a72df73e3ead6c9f0056bed172aa52e2", func := "chancery/chancerylaw09.IndexSorts", spec := "indexSorts", unfollowed := true, recurses := true, apart := false }
def IndexSortsSaid : Prop := indexSortsRow.holds Try.pinned (OpenSpec.ofChange indexSortsSpec)

/-- ITS FALSE NEIGHBOUR: 'it returns false'. Refute it at one input. -/
def indexSortsWrong : ChangeSpec := { name := "indexSorts", fn := fun _ => fun
  | [d1, d2, d3] => { results := [.lit (.bool false)], args := [d1, d2, d3] }
  | _ => none }
def IndexSortsWrongFalsely : Prop := indexSortsRow.holds Try.pinned (OpenSpec.ofChange indexSortsWrong)

/-- 'chancerylaw09.IndexSets': WHATEVER THE INPUT: true; the input reads as it did. -/
def indexSetsSpec : ChangeSpec := { name := "indexSets", fn := fun _ => fun
  | [d1, d2, d3, d4] => { results := [.lit (.bool true)], args := [d1, d2, d3, d4] }
  | _ => none }
def indexSetsRow : OpenClaim := { program := "yteoibolompiohaa", sum := "c58f14524a41da97c986713f98a80563a72df73e3ead6c9f0056bed172aa52e2", func := "chancery/chancerylaw09.IndexSets", spec := "indexSets", unfollowed := true, recurses := true, apart := false }
def IndexSetsSaid : Prop := indexSetsRow.holds Try.pinned (OpenSpec.ofChange indexSetsSpec)

/-- ITS FALSE NEIGHBOUR: 'it returns false'. Refute it at one input. -/
def indexSetsWrong : ChangeSpec := { name := "indexSets", fn := fun _ => fun
  | [d1, d2, d3, d4] => { results := [.lit (.bool false)], args := [d1, d2, d3, d4] }
  | _ => none }
def IndexSetsWrongFalsely : Prop := indexSetsRow.holds Try.pinned (OpenSpec.ofChange indexSetsWrong)

/-- 'chancerylaw09.IndexAny': WHATEVER THE INPUT: true; the input reads as it did. -/
def indexAnySpec : ChangeSpec := { name := "indexAny", fn := fun _ => fun
  | [d1, d2] => { results := [.lit (.bool true)], args := [d1, d2] }
  | _ => none }
def indexAnyRow : OpenClaim := { program := "yteoibolompiohaa", sum := "c58f14524a41da97c986713f98a80563a72df73e3ead6c9f0056bed172aa52e2", func := "chancery/chancerylaw09.IndexAny", spec := "indexAny", unfollowed := true, recurses := true, apart := false }
def IndexAnySaid : Prop := indexAnyRow.holds Try.pinned (OpenSpec.ofChange indexAnySpec)

/-- ITS FALSE NEIGHBOUR: 'it returns false'. Refute it at one input. -/
def indexAnyWrong : ChangeSpec := { name := "indexAny", fn := fun _ => fun
  | [d1, d2] => { results := [.lit (.bool false)], args := [d1, d2] }
  | _ => none }
def IndexAnyWrongFalsely : Prop := indexAnyRow.holds Try.pinned (OpenSpec.ofChange indexAnyWrong)

/-- 'chancerylaw09.IndexShape': WHATEVER THE INPUT: true; the input reads as it did. -/
def indexShapeSpec : ChangeSpec := { name := "indexShape", fn := fun _ => fun
  | [d] => { results := [.lit (.bool true)], args := [d] }
  | _ => none }
def indexShapeRow : OpenClaim := { program := "yteoibolompiohaa", sum := "c58f14524a41da97c986713f98a80563a72df73e3ead6c9f0056bed172aa52e2", func := "chancery/chancerylaw09.IndexShape", spec := "indexShape", unfollowed := true, recurses := true, apart := false }
def IndexShapeSaid : Prop := indexShapeRow.holds Try.pinned (OpenSpec.ofChange indexShapeSpec)

/-- ITS FALSE NEIGHBOUR: 'it returns false'. Refute it at one input. -/
def indexShapeWrong : ChangeSpec := { name := "indexShape", fn := fun _ => fun
  | [d] => { results := [.lit (.bool false)], args := [d] }
  | _ => none }
def IndexShapeWrongFalsely : Prop := indexShapeRow.holds Try.pinned (OpenSpec.ofChange indexShapeWrong)

/-- 'chancerylaw09.IndexNil': WHATEVER THE INPUT: true; the input reads as it did. -/
def indexNilSpec : ChangeSpec := { name := "indexNil", fn := fun _ => fun
  | [d1, d2, d3] => { results := [.lit (.bool true)], args := [d1, d2, d3] }
  | _ => none }
def indexNilRow : OpenClaim := { program := "yteoibolompiohaa", sum := "c58f14524a41da97c986713f98a80563a72df73e3ead6c9f0056bed172aa52e2", func := "chancery/chancerylaw09.IndexNil", spec := "indexNil", unfollowed := true, recurses := true, apart := false }
def IndexNilSaid : Prop := indexNilRow.holds Try.pinned (OpenSpec.ofChange indexNilSpec)

/-- ITS FALSE NEIGHBOUR: 'it returns false'. Refute it at one input. -/
def indexNilWrong : ChangeSpec := { name := "indexNil", fn := fun _ => fun
  | [d1, d2, d3] => { results := [.lit (.bool false)], args := [d1, d2, d3] }
  | _ => none }
def IndexNilWrongFalsely : Prop := indexNilRow.holds Try.pinned (OpenSpec.ofChange indexNilWrong)

/- THE SECOND FORM. 'bulk': how many values and letters a reading holds, each counted each time it is reached (what is shared counts as often as it is met; a slice's spare places count too). A statement '..UptoSaid' is the law's where the arguments, and the package variables that the reading takes, are together of bulk at most 1048576: NARROWER than '..Said'. Prove '..Said' where nothing that the law and all that it calls make is longer than what came in: it says more and counts as full. Else prove '..UptoSaid'. A law counts once. -/
mutual
def uptoBulk {H : Type} : DataW H → Nat
  | .lit (.string bytes) => bytes.length + 1
  | .lit _ => 1
  | .nil => 1
  | .ptr d => uptoBulk d + 1
  | .slice elems spare => uptoBulkAll elems + uptoBulkAll spare + 1
  | .agg parts => uptoBulkAll parts + 1
  | .iface _ d => uptoBulk d + 1
  | .map entries => uptoBulkEntries entries + 1
  | .held _ => 1
def uptoBulkAll {H : Type} : List (DataW H) → Nat
  | [] => 0
  | d :: r => uptoBulk d + uptoBulkAll r
def uptoBulkEntries {H : Type} : List (Lit × DataW H) → Nat
  | [] => 0
  | x :: r => uptoBulkEntry x + uptoBulkEntries r
def uptoBulkEntry {H : Type} : Lit × DataW H → Nat
  | (.string bytes, d) => bytes.length + uptoBulk d + 1
  | (_, d) => uptoBulk d + 1
 end
def uptoSmall : (H : Type) → List (DataW H) → Bool := fun _ ds => decide (uptoBulkAll ds ≤ 1048576)
def OpenSpec.upto (s : _root_.Go.ChangeSpec) : _root_.Go.OpenSpec := { _root_.Go.OpenSpec.ofChange s with cond := some uptoSmall }

/-- 'chancerylaw09.IndexPlays', WHERE WHAT IT READS IS OF BULK AT MOST 1048576: true; the input reads as it did. -/
def indexPlaysUptoRow : OpenClaim := { program := "yteoibolompiohaa", sum := "c58f14524a41da97c986713f98a80563a72df73e3ead6c9f0056bed172aa52e2", func := "chancery/chancerylaw09.IndexPlays", spec := "indexPlays", unfollowed := true, recurses := true, apart := false, narrowed := true }
def IndexPlaysUptoSaid : Prop := indexPlaysUptoRow.holds Try.pinned (OpenSpec.upto indexPlaysSpec)

/-- 'chancerylaw09.IndexRanges', WHERE WHAT IT READS IS OF BULK AT MOST 1048576: true; the input reads as it did. -/
def indexRangesUptoRow : OpenClaim := { program := "yteoibolompiohaa", sum := "c58f14524a41da97c986713f98a80563a72df73e3ead6c9f0056bed172aa52e2", func := "chancery/chancerylaw09.IndexRanges", spec := "indexRanges", unfollowed := true, recurses := true, apart := false, narrowed := true }
def IndexRangesUptoSaid : Prop := indexRangesUptoRow.holds Try.pinned (OpenSpec.upto indexRangesSpec)

/-- 'chancerylaw09.IndexSorts', WHERE WHAT IT READS IS OF BULK AT MOST 1048576: true; the input reads as it did. -/
def indexSortsUptoRow : OpenClaim := { program := "yteoibolompiohaa", sum := "c58f14524a41da97c986713f98a80563a72df73e3ead6c9f0056bed172aa52e2", func := "chancery/chancerylaw09.IndexSorts", spec := "indexSorts", unfollowed := true, recurses := true, apart := false, narrowed := true }
def IndexSortsUptoSaid : Prop := indexSortsUptoRow.holds Try.pinned (OpenSpec.upto indexSortsSpec)

/-- 'chancerylaw09.IndexSets', WHERE WHAT IT READS IS OF BULK AT MOST 1048576: true; the input reads as it did. -/
def indexSetsUptoRow : OpenClaim := { program := "yteoibolompiohaa", sum := "c58f14524a41da97c986713f98a80563a72df73e3ead6c9f0056bed172aa52e2", func := "chancery/chancerylaw09.IndexSets", spec := "indexSets", unfollowed := true, recurses := true, apart := false, narrowed := true }
def IndexSetsUptoSaid : Prop := indexSetsUptoRow.holds Try.pinned (OpenSpec.upto indexSetsSpec)

/-- 'chancerylaw09.IndexAny', WHERE WHAT IT READS IS OF BULK AT MOST 1048576: true; the input reads as it did. -/
def indexAnyUptoRow : OpenClaim := { program := "yteoibolompiohaa", sum := "c58f14524a41da97c986713f98a80563a72df73e3ead6c9f0056bed172aa52e2", func := "chancery/chancerylaw09.IndexAny", spec := "indexAny", unfollowed := true, recurses := true, apart := false, narrowed := true }
def IndexAnyUptoSaid : Prop := indexAnyUptoRow.holds Try.pinned (OpenSpec.upto indexAnySpec)

/-- 'chancerylaw09.IndexShape', WHERE WHAT IT READS IS OF BULK AT MOST 1048576: true; the input reads as it did. -/
def indexShapeUptoRow : OpenClaim := { program := "yteoibolompiohaa", sum := "c58f14524a41da97c986713f98a80563a72df73e3ead6c9f0056bed172aa52e2", func := "chancery/chancerylaw09.IndexShape", spec := "indexShape", unfollowed := true, recurses := true, apart := false, narrowed := true }
def IndexShapeUptoSaid : Prop := indexShapeUptoRow.holds Try.pinned (OpenSpec.upto indexShapeSpec)

/-- 'chancerylaw09.IndexNil', WHERE WHAT IT READS IS OF BULK AT MOST 1048576: true; the input reads as it did. -/
def indexNilUptoRow : OpenClaim := { program := "yteoibolompiohaa", sum := "c58f14524a41da97c986713f98a80563a72df73e3ead6c9f0056bed172aa52e2", func := "chancery/chancerylaw09.IndexNil", spec := "indexNil", unfollowed := true, recurses := true, apart := false, narrowed := true }
def IndexNilUptoSaid : Prop := indexNilUptoRow.holds Try.pinned (OpenSpec.upto indexNilSpec)

end Rows
end Go.Proofs.Yteoibolompiohaa

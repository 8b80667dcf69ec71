/-
  No cell of these rows narrows 'for every input' (looked for: loops, veiled, ifaces, maps, wideKeys, modest, calm, conditions, laid).
  DERIVED. THE GIVEN ROWS OF THIS SEAT. 10 by the template 'for every input the law returns true; each argument reads behind the call as it read before'; 0 by the template 'total and deterministic' (their statements: YticilbcdpiceaaaTotals.lean).
  GIVEN WITH THE SEED: the statements are not yours to turn. If you find one false, say at which input.
  Laid BY PROGRAM, IN A SANDBOX (cutbox-rows.mjs): the forced cells as the released guide's own fill.sh prints them over the translation ca958703cf2d296d… (all of the seat's roots in one cut). By AI agents, Wed Nov 11 2026. No macro, syntax, notation, axiom, sorry.
-/
import Derived.Test.YticilbcdpiceaaaChecked
import GoSem.Claim
import GoSem.ClaimJoined
import GoSem.ClaimMapViews
import Derived.JoinedTies
import Derived.KernelRfl
namespace Go.Proofs.Yticilbcdpiceaaa
/- THE CELL 'sum', in the pinned program and in every row, IS THE sha256 OF THE DUMP (.gsa) THAT YticilbcdpiceaaaProg.lean LOADS. Nothing in Lean hashes anything: it is a label: what it is worth is what the hold of that sum in a sandbox is worth. -/
noncomputable def Try.pinned : Pinned := { name := "yticilbcdpiceaaa", sum := "ca958703cf2d296dcd5bfd0b58ef641e879a1d0c300b13ef8d270ca6b0900e1e", checked := Try.checked }
namespace Rows
def none {H : Type} : Left H := { results := [], args := [] }

/-- 'chancerylaw02.SumsTable': WHATEVER THE INPUT: true; the input reads as it did. -/
def sumsTableSpec : ChangeSpec := { name := "sumsTable", fn := fun _ => fun
  | [d] => { results := [.lit (.bool true)], args := [d] }
  | _ => none }
def sumsTableRow : OpenClaim := { program := "yticilbcdpiceaaa", sum := "ca958703cf2d296dcd5bfd0b58ef641e879a1d0c300b13ef8d270ca6b0900e1e", func := "chancery/chancerylaw02.SumsTable", spec := "sumsTable", apart := false }
def SumsTableSaid : Prop := sumsTableRow.holds Try.pinned (OpenSpec.ofChange sumsTableSpec)

/-- ITS FALSE NEIGHBOUR: 'it returns false'. Refute it at one input. -/
def sumsTableWrong : ChangeSpec := { name := "sumsTable", fn := fun _ => fun
  | [d] => { results := [.lit (.bool false)], args := [d] }
  | _ => none }
def SumsTableWrongFalsely : Prop := sumsTableRow.holds Try.pinned (OpenSpec.ofChange sumsTableWrong)

/-- 'chancerylaw02.SumsSums': WHATEVER THE INPUT: true; the input reads as it did. -/
def sumsSumsSpec : ChangeSpec := { name := "sumsSums", fn := fun _ => fun
  | [d] => { results := [.lit (.bool true)], args := [d] }
  | _ => none }
def sumsSumsRow : OpenClaim := { program := "yticilbcdpiceaaa", sum := "ca958703cf2d296dcd5bfd0b58ef641e879a1d0c300b13ef8d270ca6b0900e1e", func := "chancery/chancerylaw02.SumsSums", spec := "sumsSums", apart := false }
def SumsSumsSaid : Prop := sumsSumsRow.holds Try.pinned (OpenSpec.ofChange sumsSumsSpec)

/-- ITS FALSE NEIGHBOUR: 'it returns false'. Refute it at one input. -/
def sumsSumsWrong : ChangeSpec := { name := "sumsSums", fn := fun _ => fun
  | [d] => { results := [.lit (.bool false)], args := [d] }
  | _ => none }
def SumsSumsWrongFalsely : Prop := sumsSumsRow.holds Try.pinned (OpenSpec.ofChange sumsSumsWrong)

/-- 'chancerylaw02.SumsGoes': WHATEVER THE INPUT: true; the input reads as it did. -/
def sumsGoesSpec : ChangeSpec := { name := "sumsGoes", fn := fun _ => fun
  | [d1, d2, d3] => { results := [.lit (.bool true)], args := [d1, d2, d3] }
  | _ => none }
def sumsGoesRow : OpenClaim := { program := "yticilbcdpiceaaa", sum := "ca958703cf2d296dcd5bfd0b58ef641e879a1d0c300b13ef8d270ca6b0900e1e", func := "chancery/chancerylaw02.SumsGoes", spec := "sumsGoes", apart := false }
def SumsGoesSaid : Prop := sumsGoesRow.holds Try.pinned (OpenSpec.ofChange sumsGoesSpec)

/-- ITS FALSE NEIGHBOUR: 'it returns false'. Refute it at one input. -/
def sumsGoesWrong : ChangeSpec := { name := "sumsGoes", fn := fun _ => fun
  | [d1, d2, d3] => { results := [.lit (.bool false)], args := [d1, d2, d3] }
  | _ => none }
def SumsGoesWrongFalsely : Prop := sumsGoesRow.holds Try.pinned (OpenSpec.ofChange sumsGoesWrong)

/-- 'chancerylaw02.SumsBoth': WHATEVER THE INPUT: true; the input reads as it did. -/
def sumsBothSpec : ChangeSpec := { name := "sumsBoth", fn := fun _ => fun
  | [d1, d2] => { results := [.lit (.bool true)], args := [d1, d2] }
  | _ => none }
def sumsBothRow : OpenClaim := { program := "yticilbcdpiceaaa", sum := "ca958703cf2d296dcd5bfd0b58ef641e879a1d0c300b13ef8d270ca6b0900e1e", func := "chancery/chancerylaw02.SumsBoth", spec := "sumsBoth", apart := false }
def SumsBothSaid : Prop := sumsBothRow.holds Try.pinned (OpenSpec.ofChange sumsBothSpec)

/-- ITS FALSE NEIGHBOUR: 'it returns false'. Refute it at one input. -/
def sumsBothWrong : ChangeSpec := { name := "sumsBoth", fn := fun _ => fun
  | [d1, d2] => { results := [.lit (.bool false)], args := [d1, d2] }
  | _ => none }
def SumsBothWrongFalsely : Prop := sumsBothRow.holds Try.pinned (OpenSpec.ofChange sumsBothWrong)

/-- 'chancerylaw02.SumsTell': WHATEVER THE INPUT: true; the input reads as it did. -/
def sumsTellSpec : ChangeSpec := { name := "sumsTell", fn := fun _ => fun
  | [d1, d2, d3] => { results := [.lit (.bool true)], args := [d1, d2, d3] }
  | _ => none }
def sumsTellRow : OpenClaim := { program := "yticilbcdpiceaaa", sum := "ca958703cf2d296dcd5bfd0b58ef641e879a1d0c300b13ef8d270ca6b0900e1e", func := "chancery/chancerylaw02.SumsTell", spec := "sumsTell", apart := false }
def SumsTellSaid : Prop := sumsTellRow.holds Try.pinned (OpenSpec.ofChange sumsTellSpec)

/-- ITS FALSE NEIGHBOUR: 'it returns false'. Refute it at one input. -/
def sumsTellWrong : ChangeSpec := { name := "sumsTell", fn := fun _ => fun
  | [d1, d2, d3] => { results := [.lit (.bool false)], args := [d1, d2, d3] }
  | _ => none }
def SumsTellWrongFalsely : Prop := sumsTellRow.holds Try.pinned (OpenSpec.ofChange sumsTellWrong)

/-- 'chancerylaw04.FrameLays': WHATEVER THE INPUT: true; the input reads as it did. -/
def frameLaysSpec : ChangeSpec := { name := "frameLays", fn := fun _ => fun
  | [d] => { results := [.lit (.bool true)], args := [d] }
  | _ => none }
def frameLaysRow : OpenClaim := { program := "yticilbcdpiceaaa", sum := "ca958703cf2d296dcd5bfd0b58ef641e879a1d0c300b13ef8d270ca6b0900e1e", func := "chancery/chancerylaw04.FrameLays", spec := "frameLays", apart := false }
def FrameLaysSaid : Prop := frameLaysRow.holds Try.pinned (OpenSpec.ofChange frameLaysSpec)

/-- ITS FALSE NEIGHBOUR: 'it returns false'. Refute it at one input. -/
def frameLaysWrong : ChangeSpec := { name := "frameLays", fn := fun _ => fun
  | [d] => { results := [.lit (.bool false)], args := [d] }
  | _ => none }
def FrameLaysWrongFalsely : Prop := frameLaysRow.holds Try.pinned (OpenSpec.ofChange frameLaysWrong)

/-- 'chancerylaw04.FrameTold': WHATEVER THE INPUT: true; the input reads as it did. -/
def frameToldSpec : ChangeSpec := { name := "frameTold", fn := fun _ => fun
  | [d1, d2, d3] => { results := [.lit (.bool true)], args := [d1, d2, d3] }
  | _ => none }
def frameToldRow : OpenClaim := { program := "yticilbcdpiceaaa", sum := "ca958703cf2d296dcd5bfd0b58ef641e879a1d0c300b13ef8d270ca6b0900e1e", func := "chancery/chancerylaw04.FrameTold", spec := "frameTold", apart := false }
def FrameToldSaid : Prop := frameToldRow.holds Try.pinned (OpenSpec.ofChange frameToldSpec)

/-- ITS FALSE NEIGHBOUR: 'it returns false'. Refute it at one input. -/
def frameToldWrong : ChangeSpec := { name := "frameTold", fn := fun _ => fun
  | [d1, d2, d3] => { results := [.lit (.bool false)], args := [d1, d2, d3] }
  | _ => none }
def FrameToldWrongFalsely : Prop := frameToldRow.holds Try.pinned (OpenSpec.ofChange frameToldWrong)

/-- 'chancerylaw04.FrameApart': WHATEVER THE INPUT: true; the input reads as it did. -/
def frameApartSpec : ChangeSpec := { name := "frameApart", fn := fun _ => fun
  | [d1, d2] => { results := [.lit (.bool true)], args := [d1, d2] }
  | _ => none }
def frameApartRow : OpenClaim := { program := "yticilbcdpiceaaa", sum := "ca958703cf2d296dcd5bfd0b58ef641e879a1d0c300b13ef8d270ca6b0900e1e", func := "chancery/chancerylaw04.FrameApart", spec := "frameApart", apart := false }
def FrameApartSaid : Prop := frameApartRow.holds Try.pinned (OpenSpec.ofChange frameApartSpec)

/-- ITS FALSE NEIGHBOUR: 'it returns false'. Refute it at one input. -/
def frameApartWrong : ChangeSpec := { name := "frameApart", fn := fun _ => fun
  | [d1, d2] => { results := [.lit (.bool false)], args := [d1, d2] }
  | _ => none }
def FrameApartWrongFalsely : Prop := frameApartRow.holds Try.pinned (OpenSpec.ofChange frameApartWrong)

/-- 'chancerylaw04.FrameFinds': WHATEVER THE INPUT: true; the input reads as it did. -/
def frameFindsSpec : ChangeSpec := { name := "frameFinds", fn := fun _ => fun
  | [d] => { results := [.lit (.bool true)], args := [d] }
  | _ => none }
def frameFindsRow : OpenClaim := { program := "yticilbcdpiceaaa", sum := "ca958703cf2d296dcd5bfd0b58ef641e879a1d0c300b13ef8d270ca6b0900e1e", func := "chancery/chancerylaw04.FrameFinds", spec := "frameFinds", apart := false }
def FrameFindsSaid : Prop := frameFindsRow.holds Try.pinned (OpenSpec.ofChange frameFindsSpec)

/-- ITS FALSE NEIGHBOUR: 'it returns false'. Refute it at one input. -/
def frameFindsWrong : ChangeSpec := { name := "frameFinds", fn := fun _ => fun
  | [d] => { results := [.lit (.bool false)], args := [d] }
  | _ => none }
def FrameFindsWrongFalsely : Prop := frameFindsRow.holds Try.pinned (OpenSpec.ofChange frameFindsWrong)

/-- 'chancerylaw04.FrameBack': WHATEVER THE INPUT: true; the input reads as it did. -/
def frameBackSpec : ChangeSpec := { name := "frameBack", fn := fun _ => fun
  | [d1, d2] => { results := [.lit (.bool true)], args := [d1, d2] }
  | _ => none }
def frameBackRow : OpenClaim := { program := "yticilbcdpiceaaa", sum := "ca958703cf2d296dcd5bfd0b58ef641e879a1d0c300b13ef8d270ca6b0900e1e", func := "chancery/chancerylaw04.FrameBack", spec := "frameBack", apart := false }
def FrameBackSaid : Prop := frameBackRow.holds Try.pinned (OpenSpec.ofChange frameBackSpec)

/-- ITS FALSE NEIGHBOUR: 'it returns false'. Refute it at one input. -/
def frameBackWrong : ChangeSpec := { name := "frameBack", fn := fun _ => fun
  | [d1, d2] => { results := [.lit (.bool false)], args := [d1, d2] }
  | _ => none }
def FrameBackWrongFalsely : Prop := frameBackRow.holds Try.pinned (OpenSpec.ofChange frameBackWrong)

/- THE SECOND FORM. 'bulk': how many values and letters a reading holds, each counted each time it is reached (what is shared counts as often as it is met; a slice's spare places count too). A statement '..UptoSaid' is the law's where the arguments, and the package variables that the reading takes, are together of bulk at most 1048576: NARROWER than '..Said'. Prove '..Said' where nothing that the law and all that it calls make is longer than what came in: it says more and counts as full. Else prove '..UptoSaid'. A law counts once. -/
mutual
def uptoBulk {H : Type} : DataW H → Nat
  | .lit (.string bytes) => bytes.length + 1
  | .lit _ => 1
  | .nil => 1
  | .ptr d => uptoBulk d + 1
  | .slice elems spare => uptoBulkAll elems + uptoBulkAll spare + 1
  | .agg parts => uptoBulkAll parts + 1
  | .iface _ d => uptoBulk d + 1
  | .map entries => uptoBulkEntries entries + 1
  | .held _ => 1
def uptoBulkAll {H : Type} : List (DataW H) → Nat
  | [] => 0
  | d :: r => uptoBulk d + uptoBulkAll r
def uptoBulkEntries {H : Type} : List (Lit × DataW H) → Nat
  | [] => 0
  | x :: r => uptoBulkEntry x + uptoBulkEntries r
def uptoBulkEntry {H : Type} : Lit × DataW H → Nat
  | (.string bytes, d) => bytes.length + uptoBulk d + 1
  | (_, d) => uptoBulk d + 1
 end
def uptoSmall : (H : Type) → List (DataW H) → Bool := fun _ ds => decide (uptoBulkAll ds ≤ 1048576)
def OpenSpec.upto (s : _root_.Go.ChangeSpec) : _root_.Go.OpenSpec := { _root_.Go.OpenSpec.ofChange s with cond := some uptoSmall }

/-- 'chancerylaw02.SumsTable', WHERE WHAT IT READS IS OF BULK AT MOST 1048576: true; the input reads as it did. -/
def sumsTableUptoRow : OpenClaim := { program := "yticilbcdpiceaaa", sum := "ca958703cf2d296dcd5bfd0b58ef641e879a1d0c300b13ef8d270ca6b0900e1e", func := "chancery/chancerylaw02.SumsTable", spec := "sumsTable", apart := false, narrowed := true }
def SumsTableUptoSaid : Prop := sumsTableUptoRow.holds Try.pinned (OpenSpec.upto sumsTableSpec)

/-- 'chancerylaw02.SumsSums', WHERE WHAT IT READS IS OF BULK AT MOST 1048576: true; the input reads as it did. -/
def sumsSumsUptoRow : OpenClaim := { program := "yticilbcdpiceaaa", sum := "ca958703cf2d296dcd5bfd0b58ef641e879a1d0c300b13ef8d270ca6b0900e1e", func := "chancery/chancerylaw02.SumsSums", spec := "sumsSums", apart := false, narrowed := true }
def SumsSumsUptoSaid : Prop := sumsSumsUptoRow.holds Try.pinned (OpenSpec.upto sumsSumsSpec)

/-- 'chancerylaw02.SumsGoes', WHERE WHAT IT READS IS OF BULK AT MOST 1048576: true; the input reads as it did. -/
def sumsGoesUptoRow : OpenClaim := { program := "yticilbcdpiceaaa", sum := "ca958703cf2d296dcd5bfd0b58ef641e879a1d0c300b13ef8d270ca6b0900e1e", func := "chancery/chancerylaw02.SumsGoes", spec := "sumsGoes", apart := false, narrowed := true }
def SumsGoesUptoSaid : Prop := sumsGoesUptoRow.holds Try.pinned (OpenSpec.upto sumsGoesSpec)

/-- 'chancerylaw02.SumsBoth', WHERE WHAT IT READS IS OF BULK AT MOST 1048576: true; the input reads as it did. -/
def sumsBothUptoRow : OpenClaim := { program := "yticilbcdpiceaaa", sum := "ca958703cf2d296dcd5bfd0b58ef641e879a1d0c300b13ef8d270ca6b0900e1e", func := "chancery/chancerylaw02.SumsBoth", spec := "sumsBoth", apart := false, narrowed := true }
def SumsBothUptoSaid : Prop := sumsBothUptoRow.holds Try.pinned (OpenSpec.upto sumsBothSpec)

/-- 'chancerylaw02.SumsTell', WHERE WHAT IT READS IS OF BULK AT MOST 1048576: true; the input reads as it did. -/
def sumsTellUptoRow : OpenClaim := { program := "yticilbcdpiceaaa", sum := "ca958703cf2d296dcd5bfd0b58ef641e879a1d0c300b13ef8d270ca6b0900e1e", func := "chancery/chancerylaw02.SumsTell", spec := "sumsTell", apart := false, narrowed := true }
def SumsTellUptoSaid : Prop := sumsTellUptoRow.holds Try.pinned (OpenSpec.upto sumsTellSpec)

/-- 'chancerylaw04.FrameLays', WHERE WHAT IT READS IS OF BULK AT MOST 1048576: true; the input reads as it did. -/
def frameLaysUptoRow : OpenClaim := { program := "yticilbcdpiceaaa", sum := "ca958703cf2d296dcd5bfd0b58ef641e879a1d0c300b13ef8d270ca6b0900e1e", func := "chancery/chancerylaw04.FrameLays", spec := "frameLays", apart := false, narrowed := true }
def FrameLaysUptoSaid : Prop := frameLaysUptoRow.holds Try.pinned (OpenSpec.upto frameLaysSpec)

/-- 'chancerylaw04.FrameTold', WHERE WHAT IT READS IS OF BULK AT MOST 1048576: true; the input reads as it did. -/
def frameToldUptoRow : OpenClaim := { program := "yticilbcdpiceaaa", sum := "ca958703cf2d296dcd5bfd0b58ef641e879a1d0c300b13ef8d270ca6b0900e1e", func := "chancery/chancerylaw04.FrameTold", spec := "frameTold", apart := false, narrowed := true }
def FrameToldUptoSaid : Prop := frameToldUptoRow.holds Try.pinned (OpenSpec.upto frameToldSpec)

/-- 'chancerylaw04.FrameApart', WHERE WHAT IT READS IS OF BULK AT MOST 1048576: true; the input reads as it did. -/
def frameApartUptoRow : OpenClaim := { program := "yticilbcdpiceaaa", sum := "ca958703cf2d296dcd5bfd0b58ef641e879a1d0c300b13ef8d270ca6b0900e1e", func := "chancery/chancerylaw04.FrameApart", spec := "frameApart", apart := false, narrowed := true }
def FrameApartUptoSaid : Prop := frameApartUptoRow.holds Try.pinned (OpenSpec.upto frameApartSpec)

/-- 'chancerylaw04.FrameFinds', WHERE WHAT IT READS IS OF BULK AT MOST 1048576: true; the input reads as it did. -/
def frameFindsUptoRow : OpenClaim := { program := "yticilbcdpiceaaa", sum := "ca958703cf2d296dcd5bfd0b58ef641e879a1d0c300b13ef8d270ca6b0900e1e", func := "chancery/chancerylaw04.FrameFinds", spec := "frameFinds", apart := false, narrowed := true }
def FrameFindsUptoSaid : Prop := frameFindsUptoRow.holds Try.pinned (OpenSpec.upto frameFindsSpec)

/-- 'chancerylaw04.FrameBack', WHERE WHAT IT READS IS OF BULK AT MOST 1048576: true; the input reads as it did. -/
def frameBackUptoRow : OpenClaim := { program := "yticilbcdpiceaaa", sum := "ca958703cf2d296dcd5bfd0b58ef641e879a1d0c300b13ef8d270ca6b0900e1e", func := "chancery/chancerylaw04.FrameBack", spec := "frameBack", apart := false, narrowed := true }
def FrameBackUptoSaid : Prop := frameBackUptoRow.holds Try.pinned (OpenSpec.upto frameBackSpec)

end Rows
end Go.Proofs.Yticilbcdpiceaaa

/-
  No cell of these rows narrows 'for every input' (looked for: loops, veiled, ifaces, maps, wideKeys, modest, calm, conditions, laid).
  DERIVED. THE GIVEN ROWS OF THIS SEAT. 7 by the template 'for every input the law returns true; each argument reads behind the call as it read before'; 0 by the template 'total and deterministic' (their statements: YtlcblkmmkphpmaaTotals.lean).
  GIVEN WITH THE SEED: the statements are not yours to turn. If you find one false, say at which input.
  Laid BY PROGRAM, IN A SANDBOX (cutbox-rows.mjs): the forced cells as the released guide's own fill.sh prints them over the translation f901862ef5fb5c38… (all of the seat's roots in one cut). By AI agents, Wed Nov 11 2026. No macro, syntax, notation, axiom, sorry.
-/
import Derived.Test.YtlcblkmmkphpmaaChecked
import GoSem.Claim
import GoSem.ClaimJoined
import GoSem.ClaimMapViews
import Derived.JoinedTies
import Derived.KernelRfl
namespace Go.Proofs.Ytlcblkmmkphpmaa
/- THE CELL 'sum', in the pinned program and in every row, IS THE sha256 OF THE DUMP (.gsa) THAT YtlcblkmmkphpmaaProg.lean LOADS. Nothing in Lean hashes anything: it is a label: what it is worth is what the hold of that sum in a sandbox is worth. -/
noncomputable def Try.pinned : Pinned := { name := "ytlcblkmmkphpmaa", sum := "f901862ef5fb5c38c7698755a4f9c761a8d7cc5af1dbb7b396a8231a61754979", checked := Try.checked }
namespace Rows
def none {H : Type} : Left H := { results := [], args := [] }

/-- 'chancerylaw21.TalkParses': WHATEVER THE INPUT: true; the input reads as it did. -/
def talkParsesSpec : ChangeSpec := { name := "talkParses", fn := fun _ => fun
  | [d] => { results := [.lit (.bool true)], args := [d] }
  | _ => none }
def talkParsesRow : OpenClaim := { program := "ytlcblkmmkphpmaa", sum := "f901862ef5fb5c38c7698755a4f9c761a8d7cc5af1dbb7b396a8231a61754979", func := "chancery/chancerylaw21.TalkParses", spec := "talkParses", inPlace := ["internal/abi.NoEscape"], unfollowed := true, recurses := true, apart := false }
def TalkParsesSaid : Prop := talkParsesRow.holds Try.pinned (OpenSpec.ofChange talkParsesSpec)

/-- ITS FALSE NEIGHBOUR: 'it returns false'. Refute it at one input. -/
def talkParsesWrong : ChangeSpec := { name := "talkParses", fn := fun _ => fun
  | [d] => { results := [.lit (.bool false)], args := [d] }
  | _ => none }
def TalkParsesWrongFalsely : Prop := talkParsesRow.holds Try.pinned (OpenSpec.ofChange talkParsesWrong)

/-- 'chancerylaw21.TalkAsks': WHATEVER THE INPUT: true; the input reads as it did. -/
def talkAsksSpec : ChangeSpec := { name := "talkAsks", fn := fun _ => fun
  | [d1, d2, d3] => { results := [.lit (.bool true)], args := [d1, d2, d3] }
  | _ => none }
def talkAsksRow : OpenClaim := { program := "ytlcblkmmkphpmaa", sum := "f901862ef5fb5c38c7698755a4f9c761a8d7cc5af1dbb7b396a8231a61754979", func := "chancery/chancerylaw21.TalkAsks", spec := "talkAsks", inPlace := ["internal/abi.NoEscape"], unfollowed := true, recurses := true, apart := false }
def TalkAsksSaid : Prop := talkAsksRow.holds Try.pinned (OpenSpec.ofChange talkAsksSpec)

/-- ITS FALSE NEIGHBOUR: 'it returns false'. Refute it at one input. -/
def talkAsksWrong : ChangeSpec := { name := "talkAsks", fn := fun _ => fun
  | [d1, d2, d3] => { results := [.lit (.bool false)], args := [d1, d2, d3] }
  | _ => none }
def TalkAsksWrongFalsely : Prop := talkAsksRow.holds Try.pinned (OpenSpec.ofChange talkAsksWrong)

/-- 'chancerylaw21.TalkReads': WHATEVER THE INPUT: true; the input reads as it did. -/
def talkReadsSpec : ChangeSpec := { name := "talkReads", fn := fun _ => fun
  | [d1, d2, d3] => { results := [.lit (.bool true)], args := [d1, d2, d3] }
  | _ => none }
def talkReadsRow : OpenClaim := { program := "ytlcblkmmkphpmaa", sum := "f901862ef5fb5c38c7698755a4f9c761a8d7cc5af1dbb7b396a8231a61754979", func := "chancery/chancerylaw21.TalkReads", spec := "talkReads", inPlace := ["internal/abi.NoEscape"], unfollowed := true, recurses := true, apart := false }
def TalkReadsSaid : Prop := talkReadsRow.holds Try.pinned (OpenSpec.ofChange talkReadsSpec)

/-- ITS FALSE NEIGHBOUR: 'it returns false'. Refute it at one input. -/
def talkReadsWrong : ChangeSpec := { name := "talkReads", fn := fun _ => fun
  | [d1, d2, d3] => { results := [.lit (.bool false)], args := [d1, d2, d3] }
  | _ => none }
def TalkReadsWrongFalsely : Prop := talkReadsRow.holds Try.pinned (OpenSpec.ofChange talkReadsWrong)

/-- 'chancerylaw21.TalkAnswers': WHATEVER THE INPUT: true; the input reads as it did. -/
def talkAnswersSpec : ChangeSpec := { name := "talkAnswers", fn := fun _ => fun
  | [d] => { results := [.lit (.bool true)], args := [d] }
  | _ => none }
def talkAnswersRow : OpenClaim := { program := "ytlcblkmmkphpmaa", sum := "f901862ef5fb5c38c7698755a4f9c761a8d7cc5af1dbb7b396a8231a61754979", func := "chancery/chancerylaw21.TalkAnswers", spec := "talkAnswers", inPlace := ["internal/abi.NoEscape"], unfollowed := true, recurses := true, apart := false }
def TalkAnswersSaid : Prop := talkAnswersRow.holds Try.pinned (OpenSpec.ofChange talkAnswersSpec)

/-- ITS FALSE NEIGHBOUR: 'it returns false'. Refute it at one input. -/
def talkAnswersWrong : ChangeSpec := { name := "talkAnswers", fn := fun _ => fun
  | [d] => { results := [.lit (.bool false)], args := [d] }
  | _ => none }
def TalkAnswersWrongFalsely : Prop := talkAnswersRow.holds Try.pinned (OpenSpec.ofChange talkAnswersWrong)

/-- 'chancerylaw21.TalkApart': WHATEVER THE INPUT: true; the input reads as it did. -/
def talkApartSpec : ChangeSpec := { name := "talkApart", fn := fun _ => fun
  | [d1, d2] => { results := [.lit (.bool true)], args := [d1, d2] }
  | _ => none }
def talkApartRow : OpenClaim := { program := "ytlcblkmmkphpmaa", sum := "f901862ef5fb5c38c7698755a4f9c761a8d7cc5af1dbb7b396a8231a61754979", func := "chancery/chancerylaw21.TalkApart", spec := "talkApart", inPlace := ["internal/abi.NoEscape"], unfollowed := true, recurses := true, apart := false }
def TalkApartSaid : Prop := talkApartRow.holds Try.pinned (OpenSpec.ofChange talkApartSpec)

/-- ITS FALSE NEIGHBOUR: 'it returns false'. Refute it at one input. -/
def talkApartWrong : ChangeSpec := { name := "talkApart", fn := fun _ => fun
  | [d1, d2] => { results := [.lit (.bool false)], args := [d1, d2] }
  | _ => none }
def TalkApartWrongFalsely : Prop := talkApartRow.holds Try.pinned (OpenSpec.ofChange talkApartWrong)

/-- 'chancerylaw21.TalkHears': WHATEVER THE INPUT: true; the input reads as it did. -/
def talkHearsSpec : ChangeSpec := { name := "talkHears", fn := fun _ => fun
  | [d] => { results := [.lit (.bool true)], args := [d] }
  | _ => none }
def talkHearsRow : OpenClaim := { program := "ytlcblkmmkphpmaa", sum := "f901862ef5fb5c38c7698755a4f9c761a8d7cc5af1dbb7b396a8231a61754979", func := "chancery/chancerylaw21.TalkHears", spec := "talkHears", inPlace := ["internal/abi.NoEscape"], unfollowed := true, recurses := true, apart := false }
def TalkHearsSaid : Prop := talkHearsRow.holds Try.pinned (OpenSpec.ofChange talkHearsSpec)

/-- ITS FALSE NEIGHBOUR: 'it returns false'. Refute it at one input. -/
def talkHearsWrong : ChangeSpec := { name := "talkHears", fn := fun _ => fun
  | [d] => { results := [.lit (.bool false)], args := [d] }
  | _ => none }
def TalkHearsWrongFalsely : Prop := talkHearsRow.holds Try.pinned (OpenSpec.ofChange talkHearsWrong)

/-- 'chancerylaw21.TalkBack': WHATEVER THE INPUT: true; the input reads as it did. -/
def talkBackSpec : ChangeSpec := { name := "talkBack", fn := fun _ => fun
  | [d1, d2, d3] => { results := [.lit (.bool true)], args := [d1, d2, d3] }
  | _ => none }
def talkBackRow : OpenClaim := { program := "ytlcblkmmkphpmaa", sum := "f901862ef5fb5c38c7698755a4f9c761a8d7cc5af1dbb7b396a8231a61754979", func := "chancery/chancerylaw21.TalkBack", spec := "talkBack", inPlace := ["internal/abi.NoEscape"], unfollowed := true, recurses := true, apart := false }
def TalkBackSaid : Prop := talkBackRow.holds Try.pinned (OpenSpec.ofChange talkBackSpec)

/-- ITS FALSE NEIGHBOUR: 'it returns false'. Refute it at one input. -/
def talkBackWrong : ChangeSpec := { name := "talkBack", fn := fun _ => fun
  | [d1, d2, d3] => { results := [.lit (.bool false)], args := [d1, d2, d3] }
  | _ => none }
def TalkBackWrongFalsely : Prop := talkBackRow.holds Try.pinned (OpenSpec.ofChange talkBackWrong)

/- THE SECOND FORM. 'bulk': how many values and letters a reading holds, each counted each time it is reached (what is shared counts as often as it is met; a slice's spare places count too). A statement '..UptoSaid' is the law's where the arguments, and the package variables that the reading takes, are together of bulk at most 1048576: NARROWER than '..Said'. Prove '..Said' where nothing that the law and all that it calls make is longer than what came in: it says more and counts as full. Else prove '..UptoSaid'. A law counts once. -/
mutual
def uptoBulk {H : Type} : DataW H → Nat
  | .lit (.string bytes) => bytes.length + 1
  | .lit _ => 1
  | .nil => 1
  | .ptr d => uptoBulk d + 1
  | .slice elems spare => uptoBulkAll elems + uptoBulkAll spare + 1
  | .agg parts => uptoBulkAll parts + 1
  | .iface _ d => uptoBulk d + 1
  | .map entries => uptoBulkEntries entries + 1
  | .held _ => 1
def uptoBulkAll {H : Type} : List (DataW H) → Nat
  | [] => 0
  | d :: r => uptoBulk d + uptoBulkAll r
def uptoBulkEntries {H : Type} : List (Lit × DataW H) → Nat
  | [] => 0
  | x :: r => uptoBulkEntry x + uptoBulkEntries r
def uptoBulkEntry {H : Type} : Lit × DataW H → Nat
  | (.string bytes, d) => bytes.length + uptoBulk d + 1
  | (_, d) => uptoBulk d + 1
 end
def uptoSmall : (H : Type) → List (DataW H) → Bool := fun _ ds => decide (uptoBulkAll ds ≤ 1048576)
def OpenSpec.upto (s : _root_.Go.ChangeSpec) : _root_.Go.OpenSpec := { _root_.Go.OpenSpec.ofChange s with cond := some uptoSmall }

/-- 'chancerylaw21.TalkParses', WHERE WHAT IT READS IS OF BULK AT MOST 1048576: true; the input reads as it did. -/
def talkParsesUptoRow : OpenClaim := { program := "ytlcblkmmkphpmaa", sum := "f901862ef5fb5c38c7698755a4f9c761a8d7cc5af1dbb7b396a8231a61754979", func := "chancery/chancerylaw21.TalkParses", spec := "talkParses", inPlace := ["internal/abi.NoEscape"], unfollowed := true, recurses := true, apart := false, narrowed := true }
def TalkParsesUptoSaid : Prop := talkParsesUptoRow.holds Try.pinned (OpenSpec.upto talkParsesSpec)

/-- 'chancerylaw21.TalkAsks', WHERE WHAT IT READS IS OF BULK AT MOST 1048576: true; the input reads as it did. -/
def talkAsksUptoRow : OpenClaim := { program := "ytlcblkmmkphpmaa", sum := "f901862ef5fb5c38c7698755a4f9c761a8d7cc5af1dbb7b396a8231a61754979", func := "chancery/chancerylaw21.TalkAsks", spec := "talkAsks", inPlace := ["internal/abi.NoEscape"], unfollowed := true, recurses := true, apart := false, narrowed := true }
def TalkAsksUptoSaid : Prop := talkAsksUptoRow.holds Try.pinned (OpenSpec.upto talkAsksSpec)

/-- 'chancerylaw21.TalkReads', WHERE WHAT IT READS IS OF BULK AT MOST 1048576: true; the input reads as it did. -/
def talkReadsUptoRow : OpenClaim := { program := "ytlcblkmmkphpmaa", sum := "f901862ef5fb5c38c7698755a4f9c761a8d7cc5af1dbb7b396a8231a61754979", func := "chancery/chancerylaw21.TalkReads", spec := "talkReads", inPlace := ["internal/abi.NoEscape"], unfollowed := true, recurses := true, apart := false, narrowed := true }
def TalkReadsUptoSaid : Prop := talkReadsUptoRow.holds Try.pinned (OpenSpec.upto talkReadsSpec)

/-- 'chancerylaw21.TalkAnswers', WHERE WHAT IT READS IS OF BULK AT MOST 1048576: true; the input reads as it did. -/
def talkAnswersUptoRow : OpenClaim := { program := "ytlcblkmmkphpmaa", sum := "f901862ef5fb5c38c7698755a4f9c761a8d7cc5af1dbb7b396a8231a61754979", func := "chancery/chancerylaw21.TalkAnswers", spec := "talkAnswers", inPlace := ["internal/abi.NoEscape"], unfollowed := true, recurses := true, apart := false, narrowed := true }
def TalkAnswersUptoSaid : Prop := talkAnswersUptoRow.holds Try.pinned (OpenSpec.upto talkAnswersSpec)

/-- 'chancerylaw21.TalkApart', WHERE WHAT IT READS IS OF BULK AT MOST 1048576: true; the input reads as it did. -/
def talkApartUptoRow : OpenClaim := { program := "ytlcblkmmkphpmaa", sum := "f901862ef5fb5c38c7698755a4f9c761a8d7cc5af1dbb7b396a8231a61754979", func := "chancery/chancerylaw21.TalkApart", spec := "talkApart", inPlace := ["internal/abi.NoEscape"], unfollowed := true, recurses := true, apart := false, narrowed := true }
def TalkApartUptoSaid : Prop := talkApartUptoRow.holds Try.pinned (OpenSpec.upto talkApartSpec)

/-- 'chancerylaw21.TalkHears', WHERE WHAT IT READS IS OF BULK AT MOST 1048576: true; the input reads as it did. -/
def talkHearsUptoRow : OpenClaim := { program := "ytlcblkmmkphpmaa", sum := "f901862ef5fb5c38c7698755a4f9c761a8d7cc5af1dbb7b396a8231a61754979", func := "chancery/chancerylaw21.TalkHears", spec := "talkHears", inPlace := ["internal/abi.NoEscape"], unfollowed := true, recurses := true, apart := false, narrowed := true }
def TalkHearsUptoSaid : Prop := talkHearsUptoRow.holds Try.pinned (OpenSpec.upto talkHearsSpec)

/-- 'chancerylaw21.TalkBack', WHERE WHAT IT READS IS OF BULK AT MOST 1048576: true; the input reads as it did. -/
def talkBackUptoRow : OpenClaim := { program := "ytlcblkmmkphpmaa", sum := "f901862ef5fb5c38c7698755a4f9c761a8d7cc5af1dbb7b396a8231a61754979", func := "chancery/chancerylaw21.TalkBack", spec := "talkBack", inPlace := ["internal/abi.NoEscape"], unfollowed := true, recurses := true, apart := false, narrowed := true }
def TalkBackUptoSaid : Prop := talkBackUptoRow.holds Try.pinned (OpenSpec.upto talkBackSpec)

end Rows
end Go.Proofs.Ytlcblkmmkphpmaa

/-
  No cell of these rows narrows 'for every input' (looked for: loops, veiled, ifaces, maps, wideKeys, modest, calm, conditions, laid).
  DERIVED. THE GIVEN ROWS OF THIS SEAT. 9 by the template 'for every input the law returns true; each argument reads behind the call as it read before'; 0 by the template 'total and deterministic' (their statements: YtaahbfcnccmcoaaTotals.lean).
  GIVEN WITH THE SEED: the statements are not yours to turn. If you find one false, say at which input.
  Laid BY PROGRAM, IN A SANDBOX (cutbox-rows.mjs): the forced cells as the released guide's own fill.sh prints them over the translation b86be9541e8b155e… (all of the seat's roots in one cut). By AI agents, Wed Nov 11 2026. No macro, syntax, notation, axiom, sorry.
-/
import Derived.Test.YtaahbfcnccmcoaaChecked
import GoSem.Claim
import GoSem.ClaimJoined
import GoSem.ClaimMapViews
import Derived.JoinedTies
import Derived.KernelRfl
namespace Go.Proofs.Ytaahbfcnccmcoaa
/- THE CELL 'sum', in the pinned program and in every row, IS THE sha256 OF THE DUMP (.gsa) THAT YtaahbfcnccmcoaaProg.lean LOADS. Nothing in Lean hashes anything: it is a label: what it is worth is what the hold of that sum in a sandbox is worth. -/
noncomputable def Try.pinned : Pinned := { name := "ytaahbfcnccmcoaa", sum := "b86be9541e8b155ec5d0893f376533ae23c54f65dc3ffa6ff148a6be937b5635", checked := Try.checked }
namespace Rows
def none {H : Type} : Left H := { results := [], args := [] }

/-- 'chancerylaw17.HistPlans': WHATEVER THE INPUT: true; the input reads as it did. -/
def histPlansSpec : ChangeSpec := { name := "histPlans", fn := fun _ => fun
  | [d1, d2, d3] => { results := [.lit (.bool true)], args := [d1, d2, d3] }
  | _ => none }
def histPlansRow : OpenClaim := { program := "ytaahbfcnccmcoaa", sum := "b86be9541e8b155ec5d0893f376533ae23c54f65dc3ffa6ff148a6be937b5635", func := "chancery/chancerylaw17.HistPlans", spec := "histPlans", unfollowed := true, recurses := true, apart := false }
def HistPlansSaid : Prop := histPlansRow.holds Try.pinned (OpenSpec.ofChange histPlansSpec)

/-- ITS FALSE NEIGHBOUR: 'it returns false'. Refute it at one input. -/
def histPlansWrong : ChangeSpec := { name := "histPlans", fn := fun _ => fun
  | [d1, d2, d3] => { results := [.lit (.bool false)], args := [d1, d2, d3] }
  | _ => none }
def HistPlansWrongFalsely : Prop := histPlansRow.holds Try.pinned (OpenSpec.ofChange histPlansWrong)

/-- 'chancerylaw17.HistSplits': WHATEVER THE INPUT: true; the input reads as it did. -/
def histSplitsSpec : ChangeSpec := { name := "histSplits", fn := fun _ => fun
  | [d1, d2] => { results := [.lit (.bool true)], args := [d1, d2] }
  | _ => none }
def histSplitsRow : OpenClaim := { program := "ytaahbfcnccmcoaa", sum := "b86be9541e8b155ec5d0893f376533ae23c54f65dc3ffa6ff148a6be937b5635", func := "chancery/chancerylaw17.HistSplits", spec := "histSplits", unfollowed := true, recurses := true, apart := false }
def HistSplitsSaid : Prop := histSplitsRow.holds Try.pinned (OpenSpec.ofChange histSplitsSpec)

/-- ITS FALSE NEIGHBOUR: 'it returns false'. Refute it at one input. -/
def histSplitsWrong : ChangeSpec := { name := "histSplits", fn := fun _ => fun
  | [d1, d2] => { results := [.lit (.bool false)], args := [d1, d2] }
  | _ => none }
def HistSplitsWrongFalsely : Prop := histSplitsRow.holds Try.pinned (OpenSpec.ofChange histSplitsWrong)

/-- 'chancerylaw17.HistFinds': WHATEVER THE INPUT: true; the input reads as it did. -/
def histFindsSpec : ChangeSpec := { name := "histFinds", fn := fun _ => fun
  | [d1, d2] => { results := [.lit (.bool true)], args := [d1, d2] }
  | _ => none }
def histFindsRow : OpenClaim := { program := "ytaahbfcnccmcoaa", sum := "b86be9541e8b155ec5d0893f376533ae23c54f65dc3ffa6ff148a6be937b5635", func := "chancery/chancerylaw17.HistFinds", spec := "histFinds", unfollowed := true, recurses := true, apart := false }
def HistFindsSaid : Prop := histFindsRow.holds Try.pinned (OpenSpec.ofChange histFindsSpec)

/-- ITS FALSE NEIGHBOUR: 'it returns false'. Refute it at one input. -/
def histFindsWrong : ChangeSpec := { name := "histFinds", fn := fun _ => fun
  | [d1, d2] => { results := [.lit (.bool false)], args := [d1, d2] }
  | _ => none }
def HistFindsWrongFalsely : Prop := histFindsRow.holds Try.pinned (OpenSpec.ofChange histFindsWrong)

/-- 'chancerylaw18.VoteHalf': WHATEVER THE INPUT: true; the input reads as it did. -/
def voteHalfSpec : ChangeSpec := { name := "voteHalf", fn := fun _ => fun
  | [d1, d2] => { results := [.lit (.bool true)], args := [d1, d2] }
  | _ => none }
def voteHalfRow : OpenClaim := { program := "ytaahbfcnccmcoaa", sum := "b86be9541e8b155ec5d0893f376533ae23c54f65dc3ffa6ff148a6be937b5635", func := "chancery/chancerylaw18.VoteHalf", spec := "voteHalf", apart := false }
def VoteHalfSaid : Prop := voteHalfRow.holds Try.pinned (OpenSpec.ofChange voteHalfSpec)

/-- ITS FALSE NEIGHBOUR: 'it returns false'. Refute it at one input. -/
def voteHalfWrong : ChangeSpec := { name := "voteHalf", fn := fun _ => fun
  | [d1, d2] => { results := [.lit (.bool false)], args := [d1, d2] }
  | _ => none }
def VoteHalfWrongFalsely : Prop := voteHalfRow.holds Try.pinned (OpenSpec.ofChange voteHalfWrong)

/-- 'chancerylaw18.VotePlays': WHATEVER THE INPUT: true; the input reads as it did. -/
def votePlaysSpec : ChangeSpec := { name := "votePlays", fn := fun _ => fun
  | [d1, d2] => { results := [.lit (.bool true)], args := [d1, d2] }
  | _ => none }
def votePlaysRow : OpenClaim := { program := "ytaahbfcnccmcoaa", sum := "b86be9541e8b155ec5d0893f376533ae23c54f65dc3ffa6ff148a6be937b5635", func := "chancery/chancerylaw18.VotePlays", spec := "votePlays", apart := false }
def VotePlaysSaid : Prop := votePlaysRow.holds Try.pinned (OpenSpec.ofChange votePlaysSpec)

/-- ITS FALSE NEIGHBOUR: 'it returns false'. Refute it at one input. -/
def votePlaysWrong : ChangeSpec := { name := "votePlays", fn := fun _ => fun
  | [d1, d2] => { results := [.lit (.bool false)], args := [d1, d2] }
  | _ => none }
def VotePlaysWrongFalsely : Prop := votePlaysRow.holds Try.pinned (OpenSpec.ofChange votePlaysWrong)

/-- 'chancerylaw18.VoteRises': WHATEVER THE INPUT: true; the input reads as it did. -/
def voteRisesSpec : ChangeSpec := { name := "voteRises", fn := fun _ => fun
  | [d1, d2] => { results := [.lit (.bool true)], args := [d1, d2] }
  | _ => none }
def voteRisesRow : OpenClaim := { program := "ytaahbfcnccmcoaa", sum := "b86be9541e8b155ec5d0893f376533ae23c54f65dc3ffa6ff148a6be937b5635", func := "chancery/chancerylaw18.VoteRises", spec := "voteRises", apart := false }
def VoteRisesSaid : Prop := voteRisesRow.holds Try.pinned (OpenSpec.ofChange voteRisesSpec)

/-- ITS FALSE NEIGHBOUR: 'it returns false'. Refute it at one input. -/
def voteRisesWrong : ChangeSpec := { name := "voteRises", fn := fun _ => fun
  | [d1, d2] => { results := [.lit (.bool false)], args := [d1, d2] }
  | _ => none }
def VoteRisesWrongFalsely : Prop := voteRisesRow.holds Try.pinned (OpenSpec.ofChange voteRisesWrong)

/-- 'chancerylaw18.VoteAgrees': WHATEVER THE INPUT: true; the input reads as it did. -/
def voteAgreesSpec : ChangeSpec := { name := "voteAgrees", fn := fun _ => fun
  | [d1, d2] => { results := [.lit (.bool true)], args := [d1, d2] }
  | _ => none }
def voteAgreesRow : OpenClaim := { program := "ytaahbfcnccmcoaa", sum := "b86be9541e8b155ec5d0893f376533ae23c54f65dc3ffa6ff148a6be937b5635", func := "chancery/chancerylaw18.VoteAgrees", spec := "voteAgrees", apart := false }
def VoteAgreesSaid : Prop := voteAgreesRow.holds Try.pinned (OpenSpec.ofChange voteAgreesSpec)

/-- ITS FALSE NEIGHBOUR: 'it returns false'. Refute it at one input. -/
def voteAgreesWrong : ChangeSpec := { name := "voteAgrees", fn := fun _ => fun
  | [d1, d2] => { results := [.lit (.bool false)], args := [d1, d2] }
  | _ => none }
def VoteAgreesWrongFalsely : Prop := voteAgreesRow.holds Try.pinned (OpenSpec.ofChange voteAgreesWrong)

/-- 'chancerylaw18.VoteNil': WHATEVER THE INPUT: true; the input reads as it did. -/
def voteNilSpec : ChangeSpec := { name := "voteNil", fn := fun _ => fun
  | [d1, d2] => { results := [.lit (.bool true)], args := [d1, d2] }
  | _ => none }
def voteNilRow : OpenClaim := { program := "ytaahbfcnccmcoaa", sum := "b86be9541e8b155ec5d0893f376533ae23c54f65dc3ffa6ff148a6be937b5635", func := "chancery/chancerylaw18.VoteNil", spec := "voteNil", apart := false }
def VoteNilSaid : Prop := voteNilRow.holds Try.pinned (OpenSpec.ofChange voteNilSpec)

/-- ITS FALSE NEIGHBOUR: 'it returns false'. Refute it at one input. -/
def voteNilWrong : ChangeSpec := { name := "voteNil", fn := fun _ => fun
  | [d1, d2] => { results := [.lit (.bool false)], args := [d1, d2] }
  | _ => none }
def VoteNilWrongFalsely : Prop := voteNilRow.holds Try.pinned (OpenSpec.ofChange voteNilWrong)

/-- 'chancerylaw17.HistMeets': WHATEVER THE INPUT: true; the input reads as it did. -/
def histMeetsSpec : ChangeSpec := { name := "histMeets", fn := fun _ => fun
  | [d1, d2, d3] => { results := [.lit (.bool true)], args := [d1, d2, d3] }
  | _ => none }
def histMeetsRow : OpenClaim := { program := "ytaahbfcnccmcoaa", sum := "b86be9541e8b155ec5d0893f376533ae23c54f65dc3ffa6ff148a6be937b5635", func := "chancery/chancerylaw17.HistMeets", spec := "histMeets", unfollowed := true, recurses := true, apart := false }
def HistMeetsSaid : Prop := histMeetsRow.holds Try.pinned (OpenSpec.ofChange histMeetsSpec)

/-- ITS FALSE NEIGHBOUR: 'it returns false'. Refute it at one input. -/
def histMeetsWrong : ChangeSpec := { name := "histMeets", fn := fun _ => fun
  | [d1, d2, d3] => { results := [.lit (.bool false)], args := [d1, d2, d3] }
  | _ => none }
def HistMeetsWrongFalsely : Prop := histMeetsRow.holds Try.pinned (OpenSpec.ofChange histMeetsWrong)

/- THE SECOND FORM. 'bulk': how many values and letters a reading holds, each counted each time it is reached (what is shared counts as often as it is met; a slice's spare places count too). A statement '..UptoSaid' is the law's where the arguments, and the package variables that the reading takes, are together of bulk at most 1048576: NARROWER than '..Said'. Prove '..Said' where nothing that the law and all that it calls make is longer than what came in: it says more and counts as full. Else prove '..UptoSaid'. A law counts once. -/
mutual
def uptoBulk {H : Type} : DataW H → Nat
  | .lit (.string bytes) => bytes.length + 1
  | .lit _ => 1
  | .nil => 1
  | .ptr d => uptoBulk d + 1
  | .slice elems spare => uptoBulkAll elems + uptoBulkAll spare + 1
  | .agg parts => uptoBulkAll parts + 1
  | .iface _ d => uptoBulk d + 1
  | .map entries => uptoBulkEntries entries + 1
  | .held _ => 1
def uptoBulkAll {H : Type} : List (DataW H) → Nat
  | [] => 0
  | d :: r => uptoBulk d + uptoBulkAll r
def uptoBulkEntries {H : Type} : List (Lit × DataW H) → Nat
  | [] => 0
  | x :: r => uptoBulkEntry x + uptoBulkEntries r
def uptoBulkEntry {H : Type} : Lit × DataW H → Nat
  | (.string bytes, d) => bytes.length + uptoBulk d + 1
  | (_, d) => uptoBulk d + 1
 end
def uptoSmall : (H : Type) → List (DataW H) → Bool := fun _ ds => decide (uptoBulkAll ds ≤ 1048576)
def OpenSpec.upto (s : _root_.Go.ChangeSpec) : _root_.Go.OpenSpec := { _root_.Go.OpenSpec.ofChange s with cond := some uptoSmall }

/-- 'chancerylaw17.HistPlans', WHERE WHAT IT READS IS OF BULK AT MOST 1048576: true; the input reads as it did. -/
def histPlansUptoRow : OpenClaim := { program := "ytaahbfcnccmcoaa", sum := "b86be9541e8b155ec5d0893f376533ae23c54f65dc3ffa6ff148a6be937b5635", func := "chancery/chancerylaw17.HistPlans", spec := "histPlans", unfollowed := true, recurses := true, apart := false, narrowed := true }
def HistPlansUptoSaid : Prop := histPlansUptoRow.holds Try.pinned (OpenSpec.upto histPlansSpec)

/-- 'chancerylaw17.HistSplits', WHERE WHAT IT READS IS OF BULK AT MOST 1048576: true; the input reads as it did. -/
def histSplitsUptoRow : OpenClaim := { program := "ytaahbfcnccmcoaa", sum := "b86be9541e8b155ec5d0893f376533ae23c54f65dc3ffa6ff148a6be937b5635", func := "chancery/chancerylaw17.HistSplits", spec := "histSplits", unfollowed := true, recurses := true, apart := false, narrowed := true }
def HistSplitsUptoSaid : Prop := histSplitsUptoRow.holds Try.pinned (OpenSpec.upto histSplitsSpec)

/-- 'chancerylaw17.HistFinds', WHERE WHAT IT READS IS OF BULK AT MOST 1048576: true; the input reads as it did. -/
def histFindsUptoRow : OpenClaim := { program := "ytaahbfcnccmcoaa", sum := "b86be9541e8b155ec5d0893f376533ae23c54f65dc3ffa6ff148a6be937b5635", func := "chancery/chancerylaw17.HistFinds", spec := "histFinds", unfollowed := true, recurses := true, apart := false, narrowed := true }
def HistFindsUptoSaid : Prop := histFindsUptoRow.holds Try.pinned (OpenSpec.upto histFindsSpec)

/-- 'chancerylaw18.VoteHalf', WHERE WHAT IT READS IS OF BULK AT MOST 1048576: true; the input reads as it did. -/
def voteHalfUptoRow : OpenClaim := { program := "ytaahbfcnccmcoaa", sum := "b86be9541e8b155ec5d0893f376533ae23c54f65dc3ffa6ff148a6be937b5635", func := "chancery/chancerylaw18.VoteHalf", spec := "voteHalf", apart := false, narrowed := true }
def VoteHalfUptoSaid : Prop := voteHalfUptoRow.holds Try.pinned (OpenSpec.upto voteHalfSpec)

/-- 'chancerylaw18.VotePlays', WHERE WHAT IT READS IS OF BULK AT MOST 1048576: true; the input reads as it did. -/
def votePlaysUptoRow : OpenClaim := { program := "ytaahbfcnccmcoaa", sum := "b86be9541e8b155ec5d0893f376533ae23c54f65dc3ffa6ff148a6be937b5635", func := "chancery/chancerylaw18.VotePlays", spec := "votePlays", apart := false, narrowed := true }
def VotePlaysUptoSaid : Prop := votePlaysUptoRow.holds Try.pinned (OpenSpec.upto votePlaysSpec)

/-- 'chancerylaw18.VoteRises', WHERE WHAT IT READS IS OF BULK AT MOST 1048576: true; the input reads as it did. -/
def voteRisesUptoRow : OpenClaim := { program := "ytaahbfcnccmcoaa", sum := "b86be9541e8b155ec5d0893f376533ae23c54f65dc3ffa6ff148a6be937b5635", func := "chancery/chancerylaw18.VoteRises", spec := "voteRises", apart := false, narrowed := true }
def VoteRisesUptoSaid : Prop := voteRisesUptoRow.holds Try.pinned (OpenSpec.upto voteRisesSpec)

/-- 'chancerylaw18.VoteAgrees', WHERE WHAT IT READS IS OF BULK AT MOST 1048576: true; the input reads as it did. -/
def voteAgreesUptoRow : OpenClaim := { program := "ytaahbfcnccmcoaa", sum := "b86be9541e8b155ec5d0893f376533ae23c54f65dc3ffa6ff148a6be937b5635", func := "chancery/chancerylaw18.VoteAgrees", spec := "voteAgrees", apart := false, narrowed := true }
def VoteAgreesUptoSaid : Prop := voteAgreesUptoRow.holds Try.pinned (OpenSpec.upto voteAgreesSpec)

/-- 'chancerylaw18.VoteNil', WHERE WHAT IT READS IS OF BULK AT MOST 1048576: true; the input reads as it did. -/
def voteNilUptoRow : OpenClaim := { program := "ytaahbfcnccmcoaa", sum := "b86be9541e8b155ec5d0893f376533ae23c54f65dc3ffa6ff148a6be937b5635", func := "chancery/chancerylaw18.VoteNil", spec := "voteNil", apart := false, narrowed := true }
def VoteNilUptoSaid : Prop := voteNilUptoRow.holds Try.pinned (OpenSpec.upto voteNilSpec)

/-- 'chancerylaw17.HistMeets', WHERE WHAT IT READS IS OF BULK AT MOST 1048576: true; the input reads as it did. -/
def histMeetsUptoRow : OpenClaim := { program := "ytaahbfcnccmcoaa", sum := "b86be9541e8b155ec5d0893f376533ae23c54f65dc3ffa6ff148a6be937b5635", func := "chancery/chancerylaw17.HistMeets", spec := "histMeets", unfollowed := true, recurses := true, apart := false, narrowed := true }
def HistMeetsUptoSaid : Prop := histMeetsUptoRow.holds Try.pinned (OpenSpec.upto histMeetsSpec)

end Rows
end Go.Proofs.Ytaahbfcnccmcoaa

/-
  No cell of these rows narrows 'for every input' (looked for: loops, veiled, ifaces, maps, wideKeys, modest, calm, conditions, laid).
  DERIVED. THE GIVEN ROWS OF THIS SEAT. 6 by the template 'for every input the law returns true; each argument reads behind the call as it read before'; 0 by the template 'total and deterministic' (their statements: YtnliapdhmjljiaaTotals.lean).
  GIVEN WITH THE SEED: the statements are not yours to turn. If you find one false, say at which input.
  Laid BY PROGRAM, IN A SANDBOX (cutbox-rows.mjs): the forced cells as the released guide's own fill.sh prints them over the translation a9df59bd42e568f0… (all of the seat's roots in one cut). By AI agents, Wed Nov 11 2026. No macro, syntax, notation, axiom, sorry.
-/
import Derived.Test.YtnliapdhmjljiaaChecked
import GoSem.Claim
import GoSem.ClaimJoined
import GoSem.ClaimMapViews
import Derived.JoinedTies
import Derived.KernelRfl
namespace Go.Proofs.Ytnliapdhmjljiaa
/- THE CELL 'sum', in the pinned program and in every row, IS THE sha256 OF THE DUMP (.gsa) THAT YtnliapdhmjljiaaProg.lean LOADS. Nothing in Lean hashes anything: it is a label: what it is worth is what the hold of that sum in a sandbox is worth. -/
noncomputable def Try.pinned : Pinned := { name := "ytnliapdhmjljiaa", sum := "a9df59bd42e568f0e4355370e59e73dddee79252b8bd97e28b0083833678c29f", checked := Try.checked }
namespace Rows
def none {H : Type} : Left H := { results := [], args := [] }

/-- 'chancerylaw10.GensPlays': WHATEVER THE INPUT: true; the input reads as it did. -/
def gensPlaysSpec : ChangeSpec := { name := "gensPlays", fn := fun _ => fun
  | [d1, d2] => { results := [.lit (.bool true)], args := [d1, d2] }
  | _ => none }
def gensPlaysRow : OpenClaim := { program := "ytnliapdhmjljiaa", sum := "a9df59bd42e568f0e4355370e59e73dddee79252b8bd97e28b0083833678c29f", func := "chancery/chancerylaw10.GensPlays", spec := "gensPlays", unfollowed := true, recurses := true, apart := false }
def GensPlaysSaid : Prop := gensPlaysRow.holds Try.pinned (OpenSpec.ofChange gensPlaysSpec)

/-- ITS FALSE NEIGHBOUR: 'it returns false'. Refute it at one input. -/
def gensPlaysWrong : ChangeSpec := { name := "gensPlays", fn := fun _ => fun
  | [d1, d2] => { results := [.lit (.bool false)], args := [d1, d2] }
  | _ => none }
def GensPlaysWrongFalsely : Prop := gensPlaysRow.holds Try.pinned (OpenSpec.ofChange gensPlaysWrong)

/-- 'chancerylaw10.GensKeeps': WHATEVER THE INPUT: true; the input reads as it did. -/
def gensKeepsSpec : ChangeSpec := { name := "gensKeeps", fn := fun _ => fun
  | [d1, d2, d3] => { results := [.lit (.bool true)], args := [d1, d2, d3] }
  | _ => none }
def gensKeepsRow : OpenClaim := { program := "ytnliapdhmjljiaa", sum := "a9df59bd42e568f0e4355370e59e73dddee79252b8bd97e28b0083833678c29f", func := "chancery/chancerylaw10.GensKeeps", spec := "gensKeeps", unfollowed := true, recurses := true, apart := false }
def GensKeepsSaid : Prop := gensKeepsRow.holds Try.pinned (OpenSpec.ofChange gensKeepsSpec)

/-- ITS FALSE NEIGHBOUR: 'it returns false'. Refute it at one input. -/
def gensKeepsWrong : ChangeSpec := { name := "gensKeeps", fn := fun _ => fun
  | [d1, d2, d3] => { results := [.lit (.bool false)], args := [d1, d2, d3] }
  | _ => none }
def GensKeepsWrongFalsely : Prop := gensKeepsRow.holds Try.pinned (OpenSpec.ofChange gensKeepsWrong)

/-- 'chancerylaw10.GensCounts': WHATEVER THE INPUT: true; the input reads as it did. -/
def gensCountsSpec : ChangeSpec := { name := "gensCounts", fn := fun _ => fun
  | [d1, d2] => { results := [.lit (.bool true)], args := [d1, d2] }
  | _ => none }
def gensCountsRow : OpenClaim := { program := "ytnliapdhmjljiaa", sum := "a9df59bd42e568f0e4355370e59e73dddee79252b8bd97e28b0083833678c29f", func := "chancery/chancerylaw10.GensCounts", spec := "gensCounts", unfollowed := true, recurses := true, apart := false }
def GensCountsSaid : Prop := gensCountsRow.holds Try.pinned (OpenSpec.ofChange gensCountsSpec)

/-- ITS FALSE NEIGHBOUR: 'it returns false'. Refute it at one input. -/
def gensCountsWrong : ChangeSpec := { name := "gensCounts", fn := fun _ => fun
  | [d1, d2] => { results := [.lit (.bool false)], args := [d1, d2] }
  | _ => none }
def GensCountsWrongFalsely : Prop := gensCountsRow.holds Try.pinned (OpenSpec.ofChange gensCountsWrong)

/-- 'chancerylaw10.GensRises': WHATEVER THE INPUT: true; the input reads as it did. -/
def gensRisesSpec : ChangeSpec := { name := "gensRises", fn := fun _ => fun
  | [d] => { results := [.lit (.bool true)], args := [d] }
  | _ => none }
def gensRisesRow : OpenClaim := { program := "ytnliapdhmjljiaa", sum := "a9df59bd42e568f0e4355370e59e73dddee79252b8bd97e28b0083833678c29f", func := "chancery/chancerylaw10.GensRises", spec := "gensRises", unfollowed := true, recurses := true, apart := false }
def GensRisesSaid : Prop := gensRisesRow.holds Try.pinned (OpenSpec.ofChange gensRisesSpec)

/-- ITS FALSE NEIGHBOUR: 'it returns false'. Refute it at one input. -/
def gensRisesWrong : ChangeSpec := { name := "gensRises", fn := fun _ => fun
  | [d] => { results := [.lit (.bool false)], args := [d] }
  | _ => none }
def GensRisesWrongFalsely : Prop := gensRisesRow.holds Try.pinned (OpenSpec.ofChange gensRisesWrong)

/-- 'chancerylaw10.GensRefuses': WHATEVER THE INPUT: true; the input reads as it did. -/
def gensRefusesSpec : ChangeSpec := { name := "gensRefuses", fn := fun _ => fun
  | [d1, d2] => { results := [.lit (.bool true)], args := [d1, d2] }
  | _ => none }
def gensRefusesRow : OpenClaim := { program := "ytnliapdhmjljiaa", sum := "a9df59bd42e568f0e4355370e59e73dddee79252b8bd97e28b0083833678c29f", func := "chancery/chancerylaw10.GensRefuses", spec := "gensRefuses", unfollowed := true, recurses := true, apart := false }
def GensRefusesSaid : Prop := gensRefusesRow.holds Try.pinned (OpenSpec.ofChange gensRefusesSpec)

/-- ITS FALSE NEIGHBOUR: 'it returns false'. Refute it at one input. -/
def gensRefusesWrong : ChangeSpec := { name := "gensRefuses", fn := fun _ => fun
  | [d1, d2] => { results := [.lit (.bool false)], args := [d1, d2] }
  | _ => none }
def GensRefusesWrongFalsely : Prop := gensRefusesRow.holds Try.pinned (OpenSpec.ofChange gensRefusesWrong)

/-- 'chancerylaw10.GensNil': WHATEVER THE INPUT: true; the input reads as it did. -/
def gensNilSpec : ChangeSpec := { name := "gensNil", fn := fun _ => fun
  | [d] => { results := [.lit (.bool true)], args := [d] }
  | _ => none }
def gensNilRow : OpenClaim := { program := "ytnliapdhmjljiaa", sum := "a9df59bd42e568f0e4355370e59e73dddee79252b8bd97e28b0083833678c29f", func := "chancery/chancerylaw10.GensNil", spec := "gensNil", unfollowed := true, recurses := true, apart := false }
def GensNilSaid : Prop := gensNilRow.holds Try.pinned (OpenSpec.ofChange gensNilSpec)

/-- ITS FALSE NEIGHBOUR: 'it returns false'. Refute it at one input. -/
def gensNilWrong : ChangeSpec := { name := "gensNil", fn := fun _ => fun
  | [d] => { results := [.lit (.bool false)], args := [d] }
  | _ => none }
def GensNilWrongFalsely : Prop := gensNilRow.holds Try.pinned (OpenSpec.ofChange gensNilWrong)

/- THE SECOND FORM. 'bulk': how many values and letters a reading holds, each counted each time it is reached (what is shared counts as often as it is met; a slice's spare places count too). A statement '..UptoSaid' is the law's where the arguments, and the package variables that the reading takes, are together of bulk at most 1048576: NARROWER than '..Said'. Prove '..Said' where nothing that the law and all that it calls make is longer than what came in: it says more and counts as full. Else prove '..UptoSaid'. A law counts once. -/
mutual
def uptoBulk {H : Type} : DataW H → Nat
  | .lit (.string bytes) => bytes.length + 1
  | .lit _ => 1
  | .nil => 1
  | .ptr d => uptoBulk d + 1
  | .slice elems spare => uptoBulkAll elems + uptoBulkAll spare + 1
  | .agg parts => uptoBulkAll parts + 1
  | .iface _ d => uptoBulk d + 1
  | .map entries => uptoBulkEntries entries + 1
  | .held _ => 1
def uptoBulkAll {H : Type} : List (DataW H) → Nat
  | [] => 0
  | d :: r => uptoBulk d + uptoBulkAll r
def uptoBulkEntries {H : Type} : List (Lit × DataW H) → Nat
  | [] => 0
  | x :: r => uptoBulkEntry x + uptoBulkEntries r
def uptoBulkEntry {H : Type} : Lit × DataW H → Nat
  | (.string bytes, d) => bytes.length + uptoBulk d + 1
  | (_, d) => uptoBulk d + 1
 end
def uptoSmall : (H : Type) → List (DataW H) → Bool := fun _ ds => decide (uptoBulkAll ds ≤ 1048576)
def OpenSpec.upto (s : _root_.Go.ChangeSpec) : _root_.Go.OpenSpec := { _root_.Go.OpenSpec.ofChange s with cond := some uptoSmall }

/-- 'chancerylaw10.GensPlays', WHERE WHAT IT READS IS OF BULK AT MOST 1048576: true; the input reads as it did. -/
def gensPlaysUptoRow : OpenClaim := { program := "ytnliapdhmjljiaa", sum := "a9df59bd42e568f0e4355370e59e73dddee79252b8bd97e28b0083833678c29f", func := "chancery/chancerylaw10.GensPlays", spec := "gensPlays", unfollowed := true, recurses := true, apart := false, narrowed := true }
def GensPlaysUptoSaid : Prop := gensPlaysUptoRow.holds Try.pinned (OpenSpec.upto gensPlaysSpec)

/-- 'chancerylaw10.GensKeeps', WHERE WHAT IT READS IS OF BULK AT MOST 1048576: true; the input reads as it did. -/
def gensKeepsUptoRow : OpenClaim := { program := "ytnliapdhmjljiaa", sum := "a9df59bd42e568f0e4355370e59e73dddee79252b8bd97e28b0083833678c29f", func := "chancery/chancerylaw10.GensKeeps", spec := "gensKeeps", unfollowed := true, recurses := true, apart := false, narrowed := true }
def GensKeepsUptoSaid : Prop := gensKeepsUptoRow.holds Try.pinned (OpenSpec.upto gensKeepsSpec)

/-- 'chancerylaw10.GensCounts', WHERE WHAT IT READS IS OF BULK AT MOST 1048576: true; the input reads as it did. -/
def gensCountsUptoRow : OpenClaim := { program := "ytnliapdhmjljiaa", sum := "a9df59bd42e568f0e4355370e59e73dddee79252b8bd97e28b0083833678c29f", func := "chancery/chancerylaw10.GensCounts", spec := "gensCounts", unfollowed := true, recurses := true, apart := false, narrowed := true }
def GensCountsUptoSaid : Prop := gensCountsUptoRow.holds Try.pinned (OpenSpec.upto gensCountsSpec)

/-- 'chancerylaw10.GensRises', WHERE WHAT IT READS IS OF BULK AT MOST 1048576: true; the input reads as it did. -/
def gensRisesUptoRow : OpenClaim := { program := "ytnliapdhmjljiaa", sum := "a9df59bd42e568f0e4355370e59e73dddee79252b8bd97e28b0083833678c29f", func := "chancery/chancerylaw10.GensRises", spec := "gensRises", unfollowed := true, recurses := true, apart := false, narrowed := true }
def GensRisesUptoSaid : Prop := gensRisesUptoRow.holds Try.pinned (OpenSpec.upto gensRisesSpec)

/-- 'chancerylaw10.GensRefuses', WHERE WHAT IT READS IS OF BULK AT MOST 1048576: true; the input reads as it did. -/
def gensRefusesUptoRow : OpenClaim := { program := "ytnliapdhmjljiaa", sum := "a9df59bd42e568f0e4355370e59e73dddee79252b8bd97e28b0083833678c29f", func := "chancery/chancerylaw10.GensRefuses", spec := "gensRefuses", unfollowed := true, recurses := true, apart := false, narrowed := true }
def GensRefusesUptoSaid : Prop := gensRefusesUptoRow.holds Try.pinned (OpenSpec.upto gensRefusesSpec)

/-- 'chancerylaw10.GensNil', WHERE WHAT IT READS IS OF BULK AT MOST 1048576: true; the input reads as it did. -/
def gensNilUptoRow : OpenClaim := { program := "ytnliapdhmjljiaa", sum := "a9df59bd42e568f0e4355370e59e73dddee79252b8bd97e28b0083833678c29f", func := "chancery/chancerylaw10.GensNil", spec := "gensNil", unfollowed := true, recurses := true, apart := false, narrowed := true }
def GensNilUptoSaid : Prop := gensNilUptoRow.holds Try.pinned (OpenSpec.upto gensNilSpec)

end Rows
end Go.Proofs.Ytnliapdhmjljiaa

/-
  DERIVED. GIVEN WITH THE SEED: THE CARDS: each row of YtbaffabemomgjaaDoorRows.lean that lists a variable, with what it lists TIED to the program's text (the seventh form; the later family's looks); each row that meets fmt, with fmt's text TOLD by the authors' own Lean function (tested against real Go, not proved from fmt's source: count such statements apart). THE CARD IS WHAT COUNTS. Prove the row's statement (the work); the ties are given (YtbaffabemomgjaaDoorTie.lean); close each card by the builder's one call (the guide's Derived/Test/ToyasCard.lean, 'card_holds'). Laid BY PROGRAM, IN A SANDBOX (cutbox-door.mjs). By AI agents, Wed Nov 11 2026. No macro, syntax, notation, axiom, sorry.
-/
import Derived.Test.YtbaffabemomgjaaDoorRows
import GoSem.ClaimSeven
namespace Go.Proofs.YtbaffabemomgjaaDoor
namespace Rows

/-- THE TIED CARD OF 'chancerylaw07.KeepApart'. -/
def keepApartCard : Claim7 := { stood := { row := keepApartRow, standIns := [], harness := (true, "58d1b42a25b6cf039c644a64eec2d8e2eaede25b7f713528c090a5c53f4b963e"), looks := false }, kinds := [], alts := [], laidByText := true, laidKinds := [.data, .pinned], laidTests := true, laidLooks := .later }
def KeepApartCardSaid : Prop := Claim7.holds Tryd.pinned (.plain (OpenSpec.ofChange keepApartSpec)) keepApartCard

/-- THE TIED CARD OF 'chancerylaw07.KeepNil'. -/
def keepNilCard : Claim7 := { stood := { row := keepNilRow, standIns := [], harness := (true, "58d1b42a25b6cf039c644a64eec2d8e2eaede25b7f713528c090a5c53f4b963e"), looks := false }, kinds := [], alts := [], laidByText := true, laidKinds := [.data, .pinned], laidTests := true, laidLooks := .later }
def KeepNilCardSaid : Prop := Claim7.holds Tryd.pinned (.plain (OpenSpec.ofChange keepNilSpec)) keepNilCard

/-- THE TIED CARD OF 'chancerylaw07.KeepLasts'. -/
def keepLastsCard : Claim7 := { stood := { row := keepLastsRow, standIns := [], harness := (true, "58d1b42a25b6cf039c644a64eec2d8e2eaede25b7f713528c090a5c53f4b963e"), looks := false }, kinds := [], alts := [], laidByText := true, laidKinds := [.data, .pinned], laidTests := true, laidLooks := .later }
def KeepLastsCardSaid : Prop := Claim7.holds Tryd.pinned (.plain (OpenSpec.ofChange keepLastsSpec)) keepLastsCard

/-- THE TIED CARD OF 'chancerylaw07.KeepTidies'. -/
def keepTidiesCard : Claim7 := { stood := { row := keepTidiesRow, standIns := [], harness := (true, "58d1b42a25b6cf039c644a64eec2d8e2eaede25b7f713528c090a5c53f4b963e"), looks := false }, kinds := [], alts := [], laidByText := true, laidKinds := [.data, .pinned], laidTests := true, laidLooks := .later }
def KeepTidiesCardSaid : Prop := Claim7.holds Tryd.pinned (.plain (OpenSpec.ofChange keepTidiesSpec)) keepTidiesCard

/-- THE SECOND FORM's CARD OF 'chancerylaw07.KeepApart'. -/
def keepApartUptoCard : Claim7 := { stood := { row := keepApartUptoRow, standIns := [], harness := (true, "58d1b42a25b6cf039c644a64eec2d8e2eaede25b7f713528c090a5c53f4b963e"), looks := false }, kinds := [], alts := [], laidByText := true, laidKinds := [.data, .pinned], laidTests := true, laidLooks := .later }
def KeepApartUptoCardSaid : Prop := Claim7.holds Tryd.pinned (.plain (OpenSpec.upto keepApartSpec)) keepApartUptoCard

/-- THE SECOND FORM's CARD OF 'chancerylaw07.KeepNil'. -/
def keepNilUptoCard : Claim7 := { stood := { row := keepNilUptoRow, standIns := [], harness := (true, "58d1b42a25b6cf039c644a64eec2d8e2eaede25b7f713528c090a5c53f4b963e"), looks := false }, kinds := [], alts := [], laidByText := true, laidKinds := [.data, .pinned], laidTests := true, laidLooks := .later }
def KeepNilUptoCardSaid : Prop := Claim7.holds Tryd.pinned (.plain (OpenSpec.upto keepNilSpec)) keepNilUptoCard

/-- THE SECOND FORM's CARD OF 'chancerylaw07.KeepLasts'. -/
def keepLastsUptoCard : Claim7 := { stood := { row := keepLastsUptoRow, standIns := [], harness := (true, "58d1b42a25b6cf039c644a64eec2d8e2eaede25b7f713528c090a5c53f4b963e"), looks := false }, kinds := [], alts := [], laidByText := true, laidKinds := [.data, .pinned], laidTests := true, laidLooks := .later }
def KeepLastsUptoCardSaid : Prop := Claim7.holds Tryd.pinned (.plain (OpenSpec.upto keepLastsSpec)) keepLastsUptoCard

/-- THE SECOND FORM's CARD OF 'chancerylaw07.KeepTidies'. -/
def keepTidiesUptoCard : Claim7 := { stood := { row := keepTidiesUptoRow, standIns := [], harness := (true, "58d1b42a25b6cf039c644a64eec2d8e2eaede25b7f713528c090a5c53f4b963e"), looks := false }, kinds := [], alts := [], laidByText := true, laidKinds := [.data, .pinned], laidTests := true, laidLooks := .later }
def KeepTidiesUptoCardSaid : Prop := Claim7.holds Tryd.pinned (.plain (OpenSpec.upto keepTidiesSpec)) keepTidiesUptoCard
end Rows
end Go.Proofs.YtbaffabemomgjaaDoor

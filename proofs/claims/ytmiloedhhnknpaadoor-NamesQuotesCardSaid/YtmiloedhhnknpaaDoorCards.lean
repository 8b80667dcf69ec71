/-
  DERIVED. GIVEN WITH THE SEED: THE CARDS: each row of YtmiloedhhnknpaaDoorRows.lean that lists a variable, with what it lists TIED to the program's text (the seventh form; the later family's looks); each row that meets fmt, with fmt's text TOLD by the authors' own Lean function (tested against real Go, not proved from fmt's source: count such statements apart). THE CARD IS WHAT COUNTS. Prove the row's statement (the work); the ties are given (YtmiloedhhnknpaaDoorTie.lean); close each card by the builder's one call (the guide's Derived/Test/ToyasCard.lean, 'card_holds'). Laid BY PROGRAM, IN A SANDBOX (cutbox-door.mjs). By AI agents, Wed Nov 11 2026. No macro, syntax, notation, axiom, sorry.
-/
import Derived.Test.YtmiloedhhnknpaaDoorRows
import GoSem.ClaimSeven
namespace Go.Proofs.YtmiloedhhnknpaaDoor
namespace Rows

/-- THE TIED CARD OF 'chancerylaw01.NamesNext'. -/
def namesNextCard : Claim7 := { stood := { row := namesNextRow, standIns := [], harness := (true, "0dc36e47843dc46d29224d37674b38645fdd6107c63e6f1db00c95adf40852aa"), looks := true }, kinds := [], alts := [], laidByText := true, laidKinds := [.data, .data, .data], laidTests := true, laidLooks := .later }
def NamesNextCardSaid : Prop := Claim7.holds Tryd.pinned (.plain (OpenSpec.ofChange namesNextSpec)) namesNextCard

/-- THE TIED CARD OF 'chancerylaw01.NamesApart'. -/
def namesApartCard : Claim7 := { stood := { row := namesApartRow, standIns := [], harness := (true, "0dc36e47843dc46d29224d37674b38645fdd6107c63e6f1db00c95adf40852aa"), looks := true }, kinds := [], alts := [], laidByText := true, laidKinds := [.data, .data, .data], laidTests := true, laidLooks := .later }
def NamesApartCardSaid : Prop := Claim7.holds Tryd.pinned (.plain (OpenSpec.ofChange namesApartSpec)) namesApartCard

/-- THE TIED CARD OF 'chancerylaw01.NamesIn'. -/
def namesInCard : Claim7 := { stood := { row := namesInRow, standIns := [], harness := (true, "0dc36e47843dc46d29224d37674b38645fdd6107c63e6f1db00c95adf40852aa"), looks := true }, kinds := [], alts := [], laidByText := true, laidKinds := [.data, .data, .data], laidTests := true, laidLooks := .later }
def NamesInCardSaid : Prop := Claim7.holds Tryd.pinned (.plain (OpenSpec.ofChange namesInSpec)) namesInCard

/-- THE TIED CARD OF 'chancerylaw01.NamesPrefix'. -/
def namesPrefixCard : Claim7 := { stood := { row := namesPrefixRow, standIns := [], harness := (true, "0dc36e47843dc46d29224d37674b38645fdd6107c63e6f1db00c95adf40852aa"), looks := true }, kinds := [], alts := [], laidByText := true, laidKinds := [.data, .data, .data], laidTests := true, laidLooks := .later }
def NamesPrefixCardSaid : Prop := Claim7.holds Tryd.pinned (.plain (OpenSpec.ofChange namesPrefixSpec)) namesPrefixCard

/-- THE TIED CARD OF 'chancerylaw01.NamesKeys'. -/
def namesKeysCard : Claim7 := { stood := { row := namesKeysRow, standIns := [], harness := (true, "0dc36e47843dc46d29224d37674b38645fdd6107c63e6f1db00c95adf40852aa"), looks := true }, kinds := [], alts := [], laidByText := true, laidKinds := [.data, .data, .data], laidTests := true, laidLooks := .later }
def NamesKeysCardSaid : Prop := Claim7.holds Tryd.pinned (.plain (OpenSpec.ofChange namesKeysSpec)) namesKeysCard

/-- THE TIED CARD OF 'chancerylaw01.NamesQuotes'. -/
def namesQuotesCard : Claim7 := { stood := { row := namesQuotesRow, standIns := [], harness := (true, "0dc36e47843dc46d29224d37674b38645fdd6107c63e6f1db00c95adf40852aa"), looks := true }, kinds := [], alts := [], laidByText := true, laidKinds := [.data, .data, .data, .sentinel, .sentinel], laidTests := true, laidLooks := .later }
def NamesQuotesCardSaid : Prop := Claim7.holds Tryd.pinned (.plain (OpenSpec.ofChange namesQuotesSpec)) namesQuotesCard

/-- THE TIED CARD OF 'chancerylaw01.NamesBack'. -/
def namesBackCard : Claim7 := { stood := { row := namesBackRow, standIns := [], harness := (true, "0dc36e47843dc46d29224d37674b38645fdd6107c63e6f1db00c95adf40852aa"), looks := true }, kinds := [], alts := [], laidByText := true, laidKinds := [.data, .data, .data, .sentinel, .sentinel], laidTests := true, laidLooks := .later }
def NamesBackCardSaid : Prop := Claim7.holds Tryd.pinned (.plain (OpenSpec.ofChange namesBackSpec)) namesBackCard

/-- THE SECOND FORM's CARD OF 'chancerylaw01.NamesNext'. -/
def namesNextUptoCard : Claim7 := { stood := { row := namesNextUptoRow, standIns := [], harness := (true, "0dc36e47843dc46d29224d37674b38645fdd6107c63e6f1db00c95adf40852aa"), looks := true }, kinds := [], alts := [], laidByText := true, laidKinds := [.data, .data, .data], laidTests := true, laidLooks := .later }
def NamesNextUptoCardSaid : Prop := Claim7.holds Tryd.pinned (.plain (OpenSpec.upto namesNextSpec)) namesNextUptoCard

/-- THE SECOND FORM's CARD OF 'chancerylaw01.NamesApart'. -/
def namesApartUptoCard : Claim7 := { stood := { row := namesApartUptoRow, standIns := [], harness := (true, "0dc36e47843dc46d29224d37674b38645fdd6107c63e6f1db00c95adf40852aa"), looks := true }, kinds := [], alts := [], laidByText := true, laidKinds := [.data, .data, .data], laidTests := true, laidLooks := .later }
def NamesApartUptoCardSaid : Prop := Claim7.holds Tryd.pinned (.plain (OpenSpec.upto namesApartSpec)) namesApartUptoCard

/-- THE SECOND FORM's CARD OF 'chancerylaw01.NamesIn'. -/
def namesInUptoCard : Claim7 := { stood := { row := namesInUptoRow, standIns := [], harness := (true, "0dc36e47843dc46d29224d37674b38645fdd6107c63e6f1db00c95adf40852aa"), looks := true }, kinds := [], alts := [], laidByText := true, laidKinds := [.data, .data, .data], laidTests := true, laidLooks := .later }
def NamesInUptoCardSaid : Prop := Claim7.holds Tryd.pinned (.plain (OpenSpec.upto namesInSpec)) namesInUptoCard

/-- THE SECOND FORM's CARD OF 'chancerylaw01.NamesPrefix'. -/
def namesPrefixUptoCard : Claim7 := { stood := { row := namesPrefixUptoRow, standIns := [], harness := (true, "0dc36e47843dc46d29224d37674b38645fdd6107c63e6f1db00c95adf40852aa"), looks := true }, kinds := [], alts := [], laidByText := true, laidKinds := [.data, .data, .data], laidTests := true, laidLooks := .later }
def NamesPrefixUptoCardSaid : Prop := Claim7.holds Tryd.pinned (.plain (OpenSpec.upto namesPrefixSpec)) namesPrefixUptoCard

/-- THE SECOND FORM's CARD OF 'chancerylaw01.NamesKeys'. -/
def namesKeysUptoCard : Claim7 := { stood := { row := namesKeysUptoRow, standIns := [], harness := (true, "0dc36e47843dc46d29224d37674b38645fdd6107c63e6f1db00c95adf40852aa"), looks := true }, kinds := [], alts := [], laidByText := true, laidKinds := [.data, .data, .data], laidTests := true, laidLooks := .later }
def NamesKeysUptoCardSaid : Prop := Claim7.holds Tryd.pinned (.plain (OpenSpec.upto namesKeysSpec)) namesKeysUptoCard

/-- THE SECOND FORM's CARD OF 'chancerylaw01.NamesQuotes'. -/
def namesQuotesUptoCard : Claim7 := { stood := { row := namesQuotesUptoRow, standIns := [], harness := (true, "0dc36e47843dc46d29224d37674b38645fdd6107c63e6f1db00c95adf40852aa"), looks := true }, kinds := [], alts := [], laidByText := true, laidKinds := [.data, .data, .data, .sentinel, .sentinel], laidTests := true, laidLooks := .later }
def NamesQuotesUptoCardSaid : Prop := Claim7.holds Tryd.pinned (.plain (OpenSpec.upto namesQuotesSpec)) namesQuotesUptoCard

/-- THE SECOND FORM's CARD OF 'chancerylaw01.NamesBack'. -/
def namesBackUptoCard : Claim7 := { stood := { row := namesBackUptoRow, standIns := [], harness := (true, "0dc36e47843dc46d29224d37674b38645fdd6107c63e6f1db00c95adf40852aa"), looks := true }, kinds := [], alts := [], laidByText := true, laidKinds := [.data, .data, .data, .sentinel, .sentinel], laidTests := true, laidLooks := .later }
def NamesBackUptoCardSaid : Prop := Claim7.holds Tryd.pinned (.plain (OpenSpec.upto namesBackSpec)) namesBackUptoCard
end Rows
end Go.Proofs.YtmiloedhhnknpaaDoor

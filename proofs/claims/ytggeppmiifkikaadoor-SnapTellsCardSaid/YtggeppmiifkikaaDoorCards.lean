/-
  DERIVED. GIVEN WITH THE SEED: THE CARDS: each row of YtggeppmiifkikaaDoorRows.lean that lists a variable, with what it lists TIED to the program's text (the seventh form; the later family's looks); each row that meets fmt, with fmt's text TOLD by the authors' own Lean function (tested against real Go, not proved from fmt's source: count such statements apart). THE CARD IS WHAT COUNTS. Prove the row's statement (the work); the ties are given (YtggeppmiifkikaaDoorTie.lean); close each card by the builder's one call (the guide's Derived/Test/ToyasCard.lean, 'card_holds'). Laid BY PROGRAM, IN A SANDBOX (cutbox-door.mjs). By AI agents, Wed Nov 11 2026. No macro, syntax, notation, axiom, sorry.
-/
import Derived.Test.YtggeppmiifkikaaDoorRows
import GoSem.ClaimSeven
namespace Go.Proofs.YtggeppmiifkikaaDoor
namespace Rows

/-- THE TIED CARD OF 'cachewiselaw16.SnapTells'. -/
def snapTellsCard : Claim7 := { stood := { row := snapTellsRow, standIns := [], harness := (true, "7eb332526f400292af1eea83f70626c3afdc897366065a5d73b46d5cb9c495a4"), looks := true }, kinds := [], alts := [], laidByText := true, laidKinds := [.handle], laidTests := true, laidLooks := .later }
def SnapTellsCardSaid : Prop := Claim7.holds Tryd.pinned (.plain (OpenSpec.ofChange snapTellsSpec)) snapTellsCard

/-- THE TIED CARD OF 'cachewiselaw16.SnapBack'. -/
def snapBackCard : Claim7 := { stood := { row := snapBackRow, standIns := [], harness := (true, "7eb332526f400292af1eea83f70626c3afdc897366065a5d73b46d5cb9c495a4"), looks := true }, kinds := [], alts := [], laidByText := true, laidKinds := [.handle], laidTests := true, laidLooks := .later }
def SnapBackCardSaid : Prop := Claim7.holds Tryd.pinned (.plain (OpenSpec.ofChange snapBackSpec)) snapBackCard

/-- THE TIED CARD OF 'cachewiselaw16.SnapSeals'. -/
def snapSealsCard : Claim7 := { stood := { row := snapSealsRow, standIns := [], harness := (true, "7eb332526f400292af1eea83f70626c3afdc897366065a5d73b46d5cb9c495a4"), looks := true }, kinds := [], alts := [], laidByText := true, laidKinds := [.handle], laidTests := true, laidLooks := .later }
def SnapSealsCardSaid : Prop := Claim7.holds Tryd.pinned (.plain (OpenSpec.ofChange snapSealsSpec)) snapSealsCard

/-- THE TIED CARD OF 'cachewiselaw16.SnapLengths'. -/
def snapLengthsCard : Claim7 := { stood := { row := snapLengthsRow, standIns := [], harness := (true, "7eb332526f400292af1eea83f70626c3afdc897366065a5d73b46d5cb9c495a4"), looks := true }, kinds := [], alts := [], laidByText := true, laidKinds := [.handle], laidTests := true, laidLooks := .later }
def SnapLengthsCardSaid : Prop := Claim7.holds Tryd.pinned (.plain (OpenSpec.ofChange snapLengthsSpec)) snapLengthsCard

/-- THE TIED CARD OF 'cachewiselaw16.SnapFewer'. -/
def snapFewerCard : Claim7 := { stood := { row := snapFewerRow, standIns := [], harness := (true, "7eb332526f400292af1eea83f70626c3afdc897366065a5d73b46d5cb9c495a4"), looks := true }, kinds := [], alts := [], laidByText := true, laidKinds := [.handle], laidTests := true, laidLooks := .later }
def SnapFewerCardSaid : Prop := Claim7.holds Tryd.pinned (.plain (OpenSpec.ofChange snapFewerSpec)) snapFewerCard

/-- THE TIED CARD OF 'cachewiselaw16.SnapFaults'. -/
def snapFaultsCard : Claim7 := { stood := { row := snapFaultsRow, standIns := [], harness := (true, "7eb332526f400292af1eea83f70626c3afdc897366065a5d73b46d5cb9c495a4"), looks := true }, kinds := [], alts := [], laidByText := true, laidKinds := [.handle], laidTests := true, laidLooks := .later }
def SnapFaultsCardSaid : Prop := Claim7.holds Tryd.pinned (.plain (OpenSpec.ofChange snapFaultsSpec)) snapFaultsCard

/-- THE SECOND FORM's CARD OF 'cachewiselaw16.SnapTells'. -/
def snapTellsUptoCard : Claim7 := { stood := { row := snapTellsUptoRow, standIns := [], harness := (true, "7eb332526f400292af1eea83f70626c3afdc897366065a5d73b46d5cb9c495a4"), looks := true }, kinds := [], alts := [], laidByText := true, laidKinds := [.handle], laidTests := true, laidLooks := .later }
def SnapTellsUptoCardSaid : Prop := Claim7.holds Tryd.pinned (.plain (OpenSpec.upto snapTellsSpec)) snapTellsUptoCard

/-- THE SECOND FORM's CARD OF 'cachewiselaw16.SnapBack'. -/
def snapBackUptoCard : Claim7 := { stood := { row := snapBackUptoRow, standIns := [], harness := (true, "7eb332526f400292af1eea83f70626c3afdc897366065a5d73b46d5cb9c495a4"), looks := true }, kinds := [], alts := [], laidByText := true, laidKinds := [.handle], laidTests := true, laidLooks := .later }
def SnapBackUptoCardSaid : Prop := Claim7.holds Tryd.pinned (.plain (OpenSpec.upto snapBackSpec)) snapBackUptoCard

/-- THE SECOND FORM's CARD OF 'cachewiselaw16.SnapSeals'. -/
def snapSealsUptoCard : Claim7 := { stood := { row := snapSealsUptoRow, standIns := [], harness := (true, "7eb332526f400292af1eea83f70626c3afdc897366065a5d73b46d5cb9c495a4"), looks := true }, kinds := [], alts := [], laidByText := true, laidKinds := [.handle], laidTests := true, laidLooks := .later }
def SnapSealsUptoCardSaid : Prop := Claim7.holds Tryd.pinned (.plain (OpenSpec.upto snapSealsSpec)) snapSealsUptoCard

/-- THE SECOND FORM's CARD OF 'cachewiselaw16.SnapLengths'. -/
def snapLengthsUptoCard : Claim7 := { stood := { row := snapLengthsUptoRow, standIns := [], harness := (true, "7eb332526f400292af1eea83f70626c3afdc897366065a5d73b46d5cb9c495a4"), looks := true }, kinds := [], alts := [], laidByText := true, laidKinds := [.handle], laidTests := true, laidLooks := .later }
def SnapLengthsUptoCardSaid : Prop := Claim7.holds Tryd.pinned (.plain (OpenSpec.upto snapLengthsSpec)) snapLengthsUptoCard

/-- THE SECOND FORM's CARD OF 'cachewiselaw16.SnapFewer'. -/
def snapFewerUptoCard : Claim7 := { stood := { row := snapFewerUptoRow, standIns := [], harness := (true, "7eb332526f400292af1eea83f70626c3afdc897366065a5d73b46d5cb9c495a4"), looks := true }, kinds := [], alts := [], laidByText := true, laidKinds := [.handle], laidTests := true, laidLooks := .later }
def SnapFewerUptoCardSaid : Prop := Claim7.holds Tryd.pinned (.plain (OpenSpec.upto snapFewerSpec)) snapFewerUptoCard

/-- THE SECOND FORM's CARD OF 'cachewiselaw16.SnapFaults'. -/
def snapFaultsUptoCard : Claim7 := { stood := { row := snapFaultsUptoRow, standIns := [], harness := (true, "7eb332526f400292af1eea83f70626c3afdc897366065a5d73b46d5cb9c495a4"), looks := true }, kinds := [], alts := [], laidByText := true, laidKinds := [.handle], laidTests := true, laidLooks := .later }
def SnapFaultsUptoCardSaid : Prop := Claim7.holds Tryd.pinned (.plain (OpenSpec.upto snapFaultsSpec)) snapFaultsUptoCard
end Rows
end Go.Proofs.YtggeppmiifkikaaDoor

/-
  DERIVED. GIVEN WITH THE SEED: THE CARDS: each row of YtkkkjjoknabopaaDoorRows.lean that lists a variable, with what it lists TIED to the program's text (the seventh form; the later family's looks); each row that meets fmt, with fmt's text TOLD by the authors' own Lean function (tested against real Go, not proved from fmt's source: count such statements apart). THE CARD IS WHAT COUNTS. Prove the row's statement (the work); the ties are given (YtkkkjjoknabopaaDoorTie.lean); close each card by the builder's one call (the guide's Derived/Test/ToyasCard.lean, 'card_holds'). Laid BY PROGRAM, IN A SANDBOX (cutbox-door.mjs). By AI agents, Wed Nov 11 2026. No macro, syntax, notation, axiom, sorry.
-/
import Derived.Test.YtkkkjjoknabopaaDoorRows
import GoSem.ClaimSeven
namespace Go.Proofs.YtkkkjjoknabopaaDoor
namespace Rows

/-- THE TIED CARD OF 'cachewiselaw13.ChoosePlays'. -/
def choosePlaysCard : Claim7 := { stood := { row := choosePlaysRow, standIns := [], harness := (true, "0e7b6296864690d08c47b0afb8703ed7219e7f7671a44c4fb5e36e9a418d4ef2"), looks := true }, kinds := [], alts := [], laidByText := true, laidKinds := [.handle], laidTests := true, laidLooks := .later }
def ChoosePlaysCardSaid : Prop := Claim7.holds Tryd.pinned (.plain (OpenSpec.ofChange choosePlaysSpec)) choosePlaysCard

/-- THE TIED CARD OF 'cachewiselaw13.ChooseBest'. -/
def chooseBestCard : Claim7 := { stood := { row := chooseBestRow, standIns := [], harness := (true, "0e7b6296864690d08c47b0afb8703ed7219e7f7671a44c4fb5e36e9a418d4ef2"), looks := true }, kinds := [], alts := [], laidByText := true, laidKinds := [.handle], laidTests := true, laidLooks := .later }
def ChooseBestCardSaid : Prop := Claim7.holds Tryd.pinned (.plain (OpenSpec.ofChange chooseBestSpec)) chooseBestCard

/-- THE TIED CARD OF 'cachewiselaw13.ChooseHolds'. -/
def chooseHoldsCard : Claim7 := { stood := { row := chooseHoldsRow, standIns := [], harness := (true, "0e7b6296864690d08c47b0afb8703ed7219e7f7671a44c4fb5e36e9a418d4ef2"), looks := true }, kinds := [], alts := [], laidByText := true, laidKinds := [.handle], laidTests := true, laidLooks := .later }
def ChooseHoldsCardSaid : Prop := Claim7.holds Tryd.pinned (.plain (OpenSpec.ofChange chooseHoldsSpec)) chooseHoldsCard

/-- THE TIED CARD OF 'cachewiselaw13.ChooseAlike'. -/
def chooseAlikeCard : Claim7 := { stood := { row := chooseAlikeRow, standIns := [], harness := (true, "0e7b6296864690d08c47b0afb8703ed7219e7f7671a44c4fb5e36e9a418d4ef2"), looks := true }, kinds := [], alts := [], laidByText := true, laidKinds := [.handle], laidTests := true, laidLooks := .later }
def ChooseAlikeCardSaid : Prop := Claim7.holds Tryd.pinned (.plain (OpenSpec.ofChange chooseAlikeSpec)) chooseAlikeCard

/-- THE TIED CARD OF 'cachewiselaw13.ChooseFirst'. -/
def chooseFirstCard : Claim7 := { stood := { row := chooseFirstRow, standIns := [], harness := (true, "0e7b6296864690d08c47b0afb8703ed7219e7f7671a44c4fb5e36e9a418d4ef2"), looks := true }, kinds := [], alts := [], laidByText := true, laidKinds := [.handle], laidTests := true, laidLooks := .later }
def ChooseFirstCardSaid : Prop := Claim7.holds Tryd.pinned (.plain (OpenSpec.ofChange chooseFirstSpec)) chooseFirstCard

/-- THE SECOND FORM's CARD OF 'cachewiselaw13.ChoosePlays'. -/
def choosePlaysUptoCard : Claim7 := { stood := { row := choosePlaysUptoRow, standIns := [], harness := (true, "0e7b6296864690d08c47b0afb8703ed7219e7f7671a44c4fb5e36e9a418d4ef2"), looks := true }, kinds := [], alts := [], laidByText := true, laidKinds := [.handle], laidTests := true, laidLooks := .later }
def ChoosePlaysUptoCardSaid : Prop := Claim7.holds Tryd.pinned (.plain (OpenSpec.upto choosePlaysSpec)) choosePlaysUptoCard

/-- THE SECOND FORM's CARD OF 'cachewiselaw13.ChooseBest'. -/
def chooseBestUptoCard : Claim7 := { stood := { row := chooseBestUptoRow, standIns := [], harness := (true, "0e7b6296864690d08c47b0afb8703ed7219e7f7671a44c4fb5e36e9a418d4ef2"), looks := true }, kinds := [], alts := [], laidByText := true, laidKinds := [.handle], laidTests := true, laidLooks := .later }
def ChooseBestUptoCardSaid : Prop := Claim7.holds Tryd.pinned (.plain (OpenSpec.upto chooseBestSpec)) chooseBestUptoCard

/-- THE SECOND FORM's CARD OF 'cachewiselaw13.ChooseHolds'. -/
def chooseHoldsUptoCard : Claim7 := { stood := { row := chooseHoldsUptoRow, standIns := [], harness := (true, "0e7b6296864690d08c47b0afb8703ed7219e7f7671a44c4fb5e36e9a418d4ef2"), looks := true }, kinds := [], alts := [], laidByText := true, laidKinds := [.handle], laidTests := true, laidLooks := .later }
def ChooseHoldsUptoCardSaid : Prop := Claim7.holds Tryd.pinned (.plain (OpenSpec.upto chooseHoldsSpec)) chooseHoldsUptoCard

/-- THE SECOND FORM's CARD OF 'cachewiselaw13.ChooseAlike'. -/
def chooseAlikeUptoCard : Claim7 := { stood := { row := chooseAlikeUptoRow, standIns := [], harness := (true, "0e7b6296864690d08c47b0afb8703ed7219e7f7671a44c4fb5e36e9a418d4ef2"), looks := true }, kinds := [], alts := [], laidByText := true, laidKinds := [.handle], laidTests := true, laidLooks := .later }
def ChooseAlikeUptoCardSaid : Prop := Claim7.holds Tryd.pinned (.plain (OpenSpec.upto chooseAlikeSpec)) chooseAlikeUptoCard

/-- THE SECOND FORM's CARD OF 'cachewiselaw13.ChooseFirst'. -/
def chooseFirstUptoCard : Claim7 := { stood := { row := chooseFirstUptoRow, standIns := [], harness := (true, "0e7b6296864690d08c47b0afb8703ed7219e7f7671a44c4fb5e36e9a418d4ef2"), looks := true }, kinds := [], alts := [], laidByText := true, laidKinds := [.handle], laidTests := true, laidLooks := .later }
def ChooseFirstUptoCardSaid : Prop := Claim7.holds Tryd.pinned (.plain (OpenSpec.upto chooseFirstSpec)) chooseFirstUptoCard
end Rows
end Go.Proofs.YtkkkjjoknabopaaDoor

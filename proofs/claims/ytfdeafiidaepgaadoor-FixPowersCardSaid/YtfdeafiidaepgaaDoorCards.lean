/-
  DERIVED. GIVEN WITH THE SEED: THE CARDS: each row of YtfdeafiidaepgaaDoorRows.lean that lists a variable, with what it lists TIED to the program's text (the seventh form; the later family's looks); each row that meets fmt, with fmt's text TOLD by the authors' own Lean function (tested against real Go, not proved from fmt's source: count such statements apart). THE CARD IS WHAT COUNTS. Prove the row's statement (the work); the ties are given (YtfdeafiidaepgaaDoorTie.lean); close each card by the builder's one call (the guide's Derived/Test/ToyasCard.lean, 'card_holds'). Laid BY PROGRAM, IN A SANDBOX (cutbox-door.mjs). By AI agents, Wed Nov 11 2026. No macro, syntax, notation, axiom, sorry.
-/
import Derived.Test.YtfdeafiidaepgaaDoorRows
import GoSem.ClaimSeven
namespace Go.Proofs.YtfdeafiidaepgaaDoor
namespace Rows

/-- THE TIED CARD OF 'cachewiselaw01.FixTells'. -/
def fixTellsCard : Claim7 := { stood := { row := fixTellsRow, standIns := [], harness := (true, "7706a230b9f100f5cb7c0054ae8572dc1847c85c075c013da2adf1412d6b52c2"), looks := true }, kinds := [], alts := [], laidByText := true, laidKinds := [.handle], laidTests := true, laidLooks := .later }
def FixTellsCardSaid : Prop := Claim7.holds Tryd.pinned (.plain (OpenSpec.ofChange fixTellsSpec)) fixTellsCard

/-- THE TIED CARD OF 'cachewiselaw01.FixGrows'. -/
def fixGrowsCard : Claim7 := { stood := { row := fixGrowsRow, standIns := [], harness := (true, "7706a230b9f100f5cb7c0054ae8572dc1847c85c075c013da2adf1412d6b52c2"), looks := true }, kinds := [], alts := [], laidByText := true, laidKinds := [.handle], laidTests := true, laidLooks := .later }
def FixGrowsCardSaid : Prop := Claim7.holds Tryd.pinned (.plain (OpenSpec.ofChange fixGrowsSpec)) fixGrowsCard

/-- THE TIED CARD OF 'cachewiselaw01.FixOrder'. -/
def fixOrderCard : Claim7 := { stood := { row := fixOrderRow, standIns := [], harness := (true, "7706a230b9f100f5cb7c0054ae8572dc1847c85c075c013da2adf1412d6b52c2"), looks := true }, kinds := [], alts := [], laidByText := true, laidKinds := [.handle], laidTests := true, laidLooks := .later }
def FixOrderCardSaid : Prop := Claim7.holds Tryd.pinned (.plain (OpenSpec.ofChange fixOrderSpec)) fixOrderCard

/-- THE TIED CARD OF 'cachewiselaw01.FixPowers'. -/
def fixPowersCard : Claim7 := { stood := { row := fixPowersRow, standIns := [], harness := (true, "7706a230b9f100f5cb7c0054ae8572dc1847c85c075c013da2adf1412d6b52c2"), looks := true }, kinds := [], alts := [], laidByText := true, laidKinds := [.handle], laidTests := true, laidLooks := .later }
def FixPowersCardSaid : Prop := Claim7.holds Tryd.pinned (.plain (OpenSpec.ofChange fixPowersSpec)) fixPowersCard

/-- THE TIED CARD OF 'cachewiselaw01.FixShares'. -/
def fixSharesCard : Claim7 := { stood := { row := fixSharesRow, standIns := [], harness := (true, "7706a230b9f100f5cb7c0054ae8572dc1847c85c075c013da2adf1412d6b52c2"), looks := true }, kinds := [], alts := [], laidByText := true, laidKinds := [.handle], laidTests := true, laidLooks := .later }
def FixSharesCardSaid : Prop := Claim7.holds Tryd.pinned (.plain (OpenSpec.ofChange fixSharesSpec)) fixSharesCard

/-- THE TIED CARD OF 'cachewiselaw01.FixSums'. -/
def fixSumsCard : Claim7 := { stood := { row := fixSumsRow, standIns := [], harness := (true, "7706a230b9f100f5cb7c0054ae8572dc1847c85c075c013da2adf1412d6b52c2"), looks := true }, kinds := [], alts := [], laidByText := true, laidKinds := [.handle], laidTests := true, laidLooks := .later }
def FixSumsCardSaid : Prop := Claim7.holds Tryd.pinned (.plain (OpenSpec.ofChange fixSumsSpec)) fixSumsCard

/-- THE TIED CARD OF 'cachewiselaw01.FixWholes'. -/
def fixWholesCard : Claim7 := { stood := { row := fixWholesRow, standIns := [], harness := (true, "7706a230b9f100f5cb7c0054ae8572dc1847c85c075c013da2adf1412d6b52c2"), looks := true }, kinds := [], alts := [], laidByText := true, laidKinds := [.handle], laidTests := true, laidLooks := .later }
def FixWholesCardSaid : Prop := Claim7.holds Tryd.pinned (.plain (OpenSpec.ofChange fixWholesSpec)) fixWholesCard

/-- THE TIED CARD OF 'cachewiselaw01.FixRaises'. -/
def fixRaisesCard : Claim7 := { stood := { row := fixRaisesRow, standIns := [], harness := (true, "7706a230b9f100f5cb7c0054ae8572dc1847c85c075c013da2adf1412d6b52c2"), looks := true }, kinds := [], alts := [], laidByText := true, laidKinds := [.handle], laidTests := true, laidLooks := .later }
def FixRaisesCardSaid : Prop := Claim7.holds Tryd.pinned (.plain (OpenSpec.ofChange fixRaisesSpec)) fixRaisesCard

/-- THE TIED CARD OF 'cachewiselaw01.FixFaults'. -/
def fixFaultsCard : Claim7 := { stood := { row := fixFaultsRow, standIns := [], harness := (true, "7706a230b9f100f5cb7c0054ae8572dc1847c85c075c013da2adf1412d6b52c2"), looks := true }, kinds := [], alts := [], laidByText := true, laidKinds := [.handle], laidTests := true, laidLooks := .later }
def FixFaultsCardSaid : Prop := Claim7.holds Tryd.pinned (.plain (OpenSpec.ofChange fixFaultsSpec)) fixFaultsCard

/-- THE SECOND FORM's CARD OF 'cachewiselaw01.FixTells'. -/
def fixTellsUptoCard : Claim7 := { stood := { row := fixTellsUptoRow, standIns := [], harness := (true, "7706a230b9f100f5cb7c0054ae8572dc1847c85c075c013da2adf1412d6b52c2"), looks := true }, kinds := [], alts := [], laidByText := true, laidKinds := [.handle], laidTests := true, laidLooks := .later }
def FixTellsUptoCardSaid : Prop := Claim7.holds Tryd.pinned (.plain (OpenSpec.upto fixTellsSpec)) fixTellsUptoCard

/-- THE SECOND FORM's CARD OF 'cachewiselaw01.FixGrows'. -/
def fixGrowsUptoCard : Claim7 := { stood := { row := fixGrowsUptoRow, standIns := [], harness := (true, "7706a230b9f100f5cb7c0054ae8572dc1847c85c075c013da2adf1412d6b52c2"), looks := true }, kinds := [], alts := [], laidByText := true, laidKinds := [.handle], laidTests := true, laidLooks := .later }
def FixGrowsUptoCardSaid : Prop := Claim7.holds Tryd.pinned (.plain (OpenSpec.upto fixGrowsSpec)) fixGrowsUptoCard

/-- THE SECOND FORM's CARD OF 'cachewiselaw01.FixOrder'. -/
def fixOrderUptoCard : Claim7 := { stood := { row := fixOrderUptoRow, standIns := [], harness := (true, "7706a230b9f100f5cb7c0054ae8572dc1847c85c075c013da2adf1412d6b52c2"), looks := true }, kinds := [], alts := [], laidByText := true, laidKinds := [.handle], laidTests := true, laidLooks := .later }
def FixOrderUptoCardSaid : Prop := Claim7.holds Tryd.pinned (.plain (OpenSpec.upto fixOrderSpec)) fixOrderUptoCard

/-- THE SECOND FORM's CARD OF 'cachewiselaw01.FixPowers'. -/
def fixPowersUptoCard : Claim7 := { stood := { row := fixPowersUptoRow, standIns := [], harness := (true, "7706a230b9f100f5cb7c0054ae8572dc1847c85c075c013da2adf1412d6b52c2"), looks := true }, kinds := [], alts := [], laidByText := true, laidKinds := [.handle], laidTests := true, laidLooks := .later }
def FixPowersUptoCardSaid : Prop := Claim7.holds Tryd.pinned (.plain (OpenSpec.upto fixPowersSpec)) fixPowersUptoCard

/-- THE SECOND FORM's CARD OF 'cachewiselaw01.FixShares'. -/
def fixSharesUptoCard : Claim7 := { stood := { row := fixSharesUptoRow, standIns := [], harness := (true, "7706a230b9f100f5cb7c0054ae8572dc1847c85c075c013da2adf1412d6b52c2"), looks := true }, kinds := [], alts := [], laidByText := true, laidKinds := [.handle], laidTests := true, laidLooks := .later }
def FixSharesUptoCardSaid : Prop := Claim7.holds Tryd.pinned (.plain (OpenSpec.upto fixSharesSpec)) fixSharesUptoCard

/-- THE SECOND FORM's CARD OF 'cachewiselaw01.FixSums'. -/
def fixSumsUptoCard : Claim7 := { stood := { row := fixSumsUptoRow, standIns := [], harness := (true, "7706a230b9f100f5cb7c0054ae8572dc1847c85c075c013da2adf1412d6b52c2"), looks := true }, kinds := [], alts := [], laidByText := true, laidKinds := [.handle], laidTests := true, laidLooks := .later }
def FixSumsUptoCardSaid : Prop := Claim7.holds Tryd.pinned (.plain (OpenSpec.upto fixSumsSpec)) fixSumsUptoCard

/-- THE SECOND FORM's CARD OF 'cachewiselaw01.FixWholes'. -/
def fixWholesUptoCard : Claim7 := { stood := { row := fixWholesUptoRow, standIns := [], harness := (true, "7706a230b9f100f5cb7c0054ae8572dc1847c85c075c013da2adf1412d6b52c2"), looks := true }, kinds := [], alts := [], laidByText := true, laidKinds := [.handle], laidTests := true, laidLooks := .later }
def FixWholesUptoCardSaid : Prop := Claim7.holds Tryd.pinned (.plain (OpenSpec.upto fixWholesSpec)) fixWholesUptoCard

/-- THE SECOND FORM's CARD OF 'cachewiselaw01.FixRaises'. -/
def fixRaisesUptoCard : Claim7 := { stood := { row := fixRaisesUptoRow, standIns := [], harness := (true, "7706a230b9f100f5cb7c0054ae8572dc1847c85c075c013da2adf1412d6b52c2"), looks := true }, kinds := [], alts := [], laidByText := true, laidKinds := [.handle], laidTests := true, laidLooks := .later }
def FixRaisesUptoCardSaid : Prop := Claim7.holds Tryd.pinned (.plain (OpenSpec.upto fixRaisesSpec)) fixRaisesUptoCard

/-- THE SECOND FORM's CARD OF 'cachewiselaw01.FixFaults'. -/
def fixFaultsUptoCard : Claim7 := { stood := { row := fixFaultsUptoRow, standIns := [], harness := (true, "7706a230b9f100f5cb7c0054ae8572dc1847c85c075c013da2adf1412d6b52c2"), looks := true }, kinds := [], alts := [], laidByText := true, laidKinds := [.handle], laidTests := true, laidLooks := .later }
def FixFaultsUptoCardSaid : Prop := Claim7.holds Tryd.pinned (.plain (OpenSpec.upto fixFaultsSpec)) fixFaultsUptoCard
end Rows
end Go.Proofs.YtfdeafiidaepgaaDoor

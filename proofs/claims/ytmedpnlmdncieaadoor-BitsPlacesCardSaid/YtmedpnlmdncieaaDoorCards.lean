/-
  DERIVED. GIVEN WITH THE SEED: THE CARDS: each row of YtmedpnlmdncieaaDoorRows.lean that lists a variable, with what it lists TIED to the program's text (the seventh form; the later family's looks); each row that meets fmt, with fmt's text TOLD by the authors' own Lean function (tested against real Go, not proved from fmt's source: count such statements apart). THE CARD IS WHAT COUNTS. Prove the row's statement (the work); the ties are given (YtmedpnlmdncieaaDoorTie.lean); close each card by the builder's one call (the guide's Derived/Test/ToyasCard.lean, 'card_holds'). Laid BY PROGRAM, IN A SANDBOX (cutbox-door.mjs). By AI agents, Wed Nov 11 2026. No macro, syntax, notation, axiom, sorry.
-/
import Derived.Test.YtmedpnlmdncieaaDoorRows
import GoSem.ClaimSeven
namespace Go.Proofs.YtmedpnlmdncieaaDoor
namespace Rows

/-- THE TIED CARD OF 'riddlelaw01.BitsNames'. -/
def bitsNamesCard : Claim7 := { stood := { row := bitsNamesRow, standIns := [], harness := (true, "b53c51b2210451d49354368c505e20c5887794835ec2b381d58a77c29bdaffbe"), looks := false }, kinds := [], alts := [], laidByText := true, laidKinds := [.data], laidTests := true, laidLooks := .later }
def BitsNamesCardSaid : Prop := Claim7.holds Tryd.pinned (.plain (OpenSpec.ofChange bitsNamesSpec)) bitsNamesCard

/-- THE TIED CARD OF 'riddlelaw01.BitsMoves'. -/
def bitsMovesCard : Claim7 := { stood := { row := bitsMovesRow, standIns := [], harness := (true, "b53c51b2210451d49354368c505e20c5887794835ec2b381d58a77c29bdaffbe"), looks := false }, kinds := [], alts := [], laidByText := true, laidKinds := [.data], laidTests := true, laidLooks := .later }
def BitsMovesCardSaid : Prop := Claim7.holds Tryd.pinned (.plain (OpenSpec.ofChange bitsMovesSpec)) bitsMovesCard

/-- THE TIED CARD OF 'riddlelaw01.BitsJoins'. -/
def bitsJoinsCard : Claim7 := { stood := { row := bitsJoinsRow, standIns := [], harness := (true, "b53c51b2210451d49354368c505e20c5887794835ec2b381d58a77c29bdaffbe"), looks := false }, kinds := [], alts := [], laidByText := true, laidKinds := [.data], laidTests := true, laidLooks := .later }
def BitsJoinsCardSaid : Prop := Claim7.holds Tryd.pinned (.plain (OpenSpec.ofChange bitsJoinsSpec)) bitsJoinsCard

/-- THE TIED CARD OF 'riddlelaw01.BitsPlaces'. -/
def bitsPlacesCard : Claim7 := { stood := { row := bitsPlacesRow, standIns := [], harness := (true, "b53c51b2210451d49354368c505e20c5887794835ec2b381d58a77c29bdaffbe"), looks := false }, kinds := [], alts := [], laidByText := true, laidKinds := [.data], laidTests := true, laidLooks := .later }
def BitsPlacesCardSaid : Prop := Claim7.holds Tryd.pinned (.plain (OpenSpec.ofChange bitsPlacesSpec)) bitsPlacesCard

/-- THE TIED CARD OF 'riddlelaw01.BitsOnce'. -/
def bitsOnceCard : Claim7 := { stood := { row := bitsOnceRow, standIns := [], harness := (true, "b53c51b2210451d49354368c505e20c5887794835ec2b381d58a77c29bdaffbe"), looks := false }, kinds := [], alts := [], laidByText := true, laidKinds := [.data], laidTests := true, laidLooks := .later }
def BitsOnceCardSaid : Prop := Claim7.holds Tryd.pinned (.plain (OpenSpec.ofChange bitsOnceSpec)) bitsOnceCard

/-- THE TIED CARD OF 'riddlelaw01.BitsLists'. -/
def bitsListsCard : Claim7 := { stood := { row := bitsListsRow, standIns := [], harness := (true, "b53c51b2210451d49354368c505e20c5887794835ec2b381d58a77c29bdaffbe"), looks := false }, kinds := [], alts := [], laidByText := true, laidKinds := [.data], laidTests := true, laidLooks := .later }
def BitsListsCardSaid : Prop := Claim7.holds Tryd.pinned (.plain (OpenSpec.ofChange bitsListsSpec)) bitsListsCard

/-- THE TIED CARD OF 'riddlelaw01.BitsSteps'. -/
def bitsStepsCard : Claim7 := { stood := { row := bitsStepsRow, standIns := [], harness := (true, "b53c51b2210451d49354368c505e20c5887794835ec2b381d58a77c29bdaffbe"), looks := false }, kinds := [], alts := [], laidByText := true, laidKinds := [.data], laidTests := true, laidLooks := .later }
def BitsStepsCardSaid : Prop := Claim7.holds Tryd.pinned (.plain (OpenSpec.ofChange bitsStepsSpec)) bitsStepsCard

/-- THE TIED CARD OF 'riddlelaw01.BitsRules'. -/
def bitsRulesCard : Claim7 := { stood := { row := bitsRulesRow, standIns := [], harness := (true, "b53c51b2210451d49354368c505e20c5887794835ec2b381d58a77c29bdaffbe"), looks := false }, kinds := [], alts := [], laidByText := true, laidKinds := [.data], laidTests := true, laidLooks := .later }
def BitsRulesCardSaid : Prop := Claim7.holds Tryd.pinned (.plain (OpenSpec.ofChange bitsRulesSpec)) bitsRulesCard

/-- THE TIED CARD OF 'riddlelaw01.BitsParts'. -/
def bitsPartsCard : Claim7 := { stood := { row := bitsPartsRow, standIns := [], harness := (true, "b53c51b2210451d49354368c505e20c5887794835ec2b381d58a77c29bdaffbe"), looks := false }, kinds := [], alts := [], laidByText := true, laidKinds := [.data], laidTests := true, laidLooks := .later }
def BitsPartsCardSaid : Prop := Claim7.holds Tryd.pinned (.plain (OpenSpec.ofChange bitsPartsSpec)) bitsPartsCard

/-- THE SECOND FORM's CARD OF 'riddlelaw01.BitsNames'. -/
def bitsNamesUptoCard : Claim7 := { stood := { row := bitsNamesUptoRow, standIns := [], harness := (true, "b53c51b2210451d49354368c505e20c5887794835ec2b381d58a77c29bdaffbe"), looks := false }, kinds := [], alts := [], laidByText := true, laidKinds := [.data], laidTests := true, laidLooks := .later }
def BitsNamesUptoCardSaid : Prop := Claim7.holds Tryd.pinned (.plain (OpenSpec.upto bitsNamesSpec)) bitsNamesUptoCard

/-- THE SECOND FORM's CARD OF 'riddlelaw01.BitsMoves'. -/
def bitsMovesUptoCard : Claim7 := { stood := { row := bitsMovesUptoRow, standIns := [], harness := (true, "b53c51b2210451d49354368c505e20c5887794835ec2b381d58a77c29bdaffbe"), looks := false }, kinds := [], alts := [], laidByText := true, laidKinds := [.data], laidTests := true, laidLooks := .later }
def BitsMovesUptoCardSaid : Prop := Claim7.holds Tryd.pinned (.plain (OpenSpec.upto bitsMovesSpec)) bitsMovesUptoCard

/-- THE SECOND FORM's CARD OF 'riddlelaw01.BitsJoins'. -/
def bitsJoinsUptoCard : Claim7 := { stood := { row := bitsJoinsUptoRow, standIns := [], harness := (true, "b53c51b2210451d49354368c505e20c5887794835ec2b381d58a77c29bdaffbe"), looks := false }, kinds := [], alts := [], laidByText := true, laidKinds := [.data], laidTests := true, laidLooks := .later }
def BitsJoinsUptoCardSaid : Prop := Claim7.holds Tryd.pinned (.plain (OpenSpec.upto bitsJoinsSpec)) bitsJoinsUptoCard

/-- THE SECOND FORM's CARD OF 'riddlelaw01.BitsPlaces'. -/
def bitsPlacesUptoCard : Claim7 := { stood := { row := bitsPlacesUptoRow, standIns := [], harness := (true, "b53c51b2210451d49354368c505e20c5887794835ec2b381d58a77c29bdaffbe"), looks := false }, kinds := [], alts := [], laidByText := true, laidKinds := [.data], laidTests := true, laidLooks := .later }
def BitsPlacesUptoCardSaid : Prop := Claim7.holds Tryd.pinned (.plain (OpenSpec.upto bitsPlacesSpec)) bitsPlacesUptoCard

/-- THE SECOND FORM's CARD OF 'riddlelaw01.BitsOnce'. -/
def bitsOnceUptoCard : Claim7 := { stood := { row := bitsOnceUptoRow, standIns := [], harness := (true, "b53c51b2210451d49354368c505e20c5887794835ec2b381d58a77c29bdaffbe"), looks := false }, kinds := [], alts := [], laidByText := true, laidKinds := [.data], laidTests := true, laidLooks := .later }
def BitsOnceUptoCardSaid : Prop := Claim7.holds Tryd.pinned (.plain (OpenSpec.upto bitsOnceSpec)) bitsOnceUptoCard

/-- THE SECOND FORM's CARD OF 'riddlelaw01.BitsLists'. -/
def bitsListsUptoCard : Claim7 := { stood := { row := bitsListsUptoRow, standIns := [], harness := (true, "b53c51b2210451d49354368c505e20c5887794835ec2b381d58a77c29bdaffbe"), looks := false }, kinds := [], alts := [], laidByText := true, laidKinds := [.data], laidTests := true, laidLooks := .later }
def BitsListsUptoCardSaid : Prop := Claim7.holds Tryd.pinned (.plain (OpenSpec.upto bitsListsSpec)) bitsListsUptoCard

/-- THE SECOND FORM's CARD OF 'riddlelaw01.BitsSteps'. -/
def bitsStepsUptoCard : Claim7 := { stood := { row := bitsStepsUptoRow, standIns := [], harness := (true, "b53c51b2210451d49354368c505e20c5887794835ec2b381d58a77c29bdaffbe"), looks := false }, kinds := [], alts := [], laidByText := true, laidKinds := [.data], laidTests := true, laidLooks := .later }
def BitsStepsUptoCardSaid : Prop := Claim7.holds Tryd.pinned (.plain (OpenSpec.upto bitsStepsSpec)) bitsStepsUptoCard

/-- THE SECOND FORM's CARD OF 'riddlelaw01.BitsRules'. -/
def bitsRulesUptoCard : Claim7 := { stood := { row := bitsRulesUptoRow, standIns := [], harness := (true, "b53c51b2210451d49354368c505e20c5887794835ec2b381d58a77c29bdaffbe"), looks := false }, kinds := [], alts := [], laidByText := true, laidKinds := [.data], laidTests := true, laidLooks := .later }
def BitsRulesUptoCardSaid : Prop := Claim7.holds Tryd.pinned (.plain (OpenSpec.upto bitsRulesSpec)) bitsRulesUptoCard

/-- THE SECOND FORM's CARD OF 'riddlelaw01.BitsParts'. -/
def bitsPartsUptoCard : Claim7 := { stood := { row := bitsPartsUptoRow, standIns := [], harness := (true, "b53c51b2210451d49354368c505e20c5887794835ec2b381d58a77c29bdaffbe"), looks := false }, kinds := [], alts := [], laidByText := true, laidKinds := [.data], laidTests := true, laidLooks := .later }
def BitsPartsUptoCardSaid : Prop := Claim7.holds Tryd.pinned (.plain (OpenSpec.upto bitsPartsSpec)) bitsPartsUptoCard
end Rows
end Go.Proofs.YtmedpnlmdncieaaDoor

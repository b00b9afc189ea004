/-
  DERIVED. GIVEN WITH THE SEED: THE CARDS: each row of YtbfgcanceneokaaDoorRows.lean that lists a variable, with what it lists TIED to the program's text (the seventh form; the later family's looks); each row that meets fmt, with fmt's text TOLD by the authors' own Lean function (tested against real Go, not proved from fmt's source: count such statements apart). THE CARD IS WHAT COUNTS. Prove the row's statement (the work); the ties are given (YtbfgcanceneokaaDoorTie.lean); close each card by the builder's one call (the guide's Derived/Test/ToyasCard.lean, 'card_holds'). Laid BY PROGRAM, IN A SANDBOX (cutbox-door.mjs). By AI agents, Wed Nov 11 2026. No macro, syntax, notation, axiom, sorry.
-/
import Derived.Test.YtbfgcanceneokaaDoorRows
import GoSem.ClaimSeven
namespace Go.Proofs.YtbfgcanceneokaaDoor
namespace Rows

/-- THE TIED CARD OF 'riddlelaw02.ClassJoins'. -/
def classJoinsCard : Claim7 := { stood := { row := classJoinsRow, standIns := [], harness := (true, "df6800e7db4cc107233708220c503f6f2d513e31e90a16c9b820839e9333e33c"), looks := false }, kinds := [], alts := [], laidByText := true, laidKinds := [.data], laidTests := true, laidLooks := .later }
def ClassJoinsCardSaid : Prop := Claim7.holds Tryd.pinned (.plain (OpenSpec.ofChange classJoinsSpec)) classJoinsCard

/-- THE TIED CARD OF 'riddlelaw02.ClassTells'. -/
def classTellsCard : Claim7 := { stood := { row := classTellsRow, standIns := [], harness := (true, "df6800e7db4cc107233708220c503f6f2d513e31e90a16c9b820839e9333e33c"), looks := false }, kinds := [], alts := [], laidByText := true, laidKinds := [.data], laidTests := true, laidLooks := .later }
def ClassTellsCardSaid : Prop := Claim7.holds Tryd.pinned (.plain (OpenSpec.ofChange classTellsSpec)) classTellsCard

/-- THE TIED CARD OF 'riddlelaw02.ClassOne'. -/
def classOneCard : Claim7 := { stood := { row := classOneRow, standIns := [], harness := (true, "df6800e7db4cc107233708220c503f6f2d513e31e90a16c9b820839e9333e33c"), looks := false }, kinds := [], alts := [], laidByText := true, laidKinds := [.data], laidTests := true, laidLooks := .later }
def ClassOneCardSaid : Prop := Claim7.holds Tryd.pinned (.plain (OpenSpec.ofChange classOneSpec)) classOneCard

/-- THE TIED CARD OF 'riddlelaw02.ClassCounts'. -/
def classCountsCard : Claim7 := { stood := { row := classCountsRow, standIns := [], harness := (true, "df6800e7db4cc107233708220c503f6f2d513e31e90a16c9b820839e9333e33c"), looks := false }, kinds := [], alts := [], laidByText := true, laidKinds := [.data], laidTests := true, laidLooks := .later }
def ClassCountsCardSaid : Prop := Claim7.holds Tryd.pinned (.plain (OpenSpec.ofChange classCountsSpec)) classCountsCard

/-- THE TIED CARD OF 'riddlelaw02.ClassRules'. -/
def classRulesCard : Claim7 := { stood := { row := classRulesRow, standIns := [], harness := (true, "df6800e7db4cc107233708220c503f6f2d513e31e90a16c9b820839e9333e33c"), looks := false }, kinds := [], alts := [], laidByText := true, laidKinds := [.data], laidTests := true, laidLooks := .later }
def ClassRulesCardSaid : Prop := Claim7.holds Tryd.pinned (.plain (OpenSpec.ofChange classRulesSpec)) classRulesCard

/-- THE SECOND FORM's CARD OF 'riddlelaw02.ClassJoins'. -/
def classJoinsUptoCard : Claim7 := { stood := { row := classJoinsUptoRow, standIns := [], harness := (true, "df6800e7db4cc107233708220c503f6f2d513e31e90a16c9b820839e9333e33c"), looks := false }, kinds := [], alts := [], laidByText := true, laidKinds := [.data], laidTests := true, laidLooks := .later }
def ClassJoinsUptoCardSaid : Prop := Claim7.holds Tryd.pinned (.plain (OpenSpec.upto classJoinsSpec)) classJoinsUptoCard

/-- THE SECOND FORM's CARD OF 'riddlelaw02.ClassTells'. -/
def classTellsUptoCard : Claim7 := { stood := { row := classTellsUptoRow, standIns := [], harness := (true, "df6800e7db4cc107233708220c503f6f2d513e31e90a16c9b820839e9333e33c"), looks := false }, kinds := [], alts := [], laidByText := true, laidKinds := [.data], laidTests := true, laidLooks := .later }
def ClassTellsUptoCardSaid : Prop := Claim7.holds Tryd.pinned (.plain (OpenSpec.upto classTellsSpec)) classTellsUptoCard

/-- THE SECOND FORM's CARD OF 'riddlelaw02.ClassOne'. -/
def classOneUptoCard : Claim7 := { stood := { row := classOneUptoRow, standIns := [], harness := (true, "df6800e7db4cc107233708220c503f6f2d513e31e90a16c9b820839e9333e33c"), looks := false }, kinds := [], alts := [], laidByText := true, laidKinds := [.data], laidTests := true, laidLooks := .later }
def ClassOneUptoCardSaid : Prop := Claim7.holds Tryd.pinned (.plain (OpenSpec.upto classOneSpec)) classOneUptoCard

/-- THE SECOND FORM's CARD OF 'riddlelaw02.ClassCounts'. -/
def classCountsUptoCard : Claim7 := { stood := { row := classCountsUptoRow, standIns := [], harness := (true, "df6800e7db4cc107233708220c503f6f2d513e31e90a16c9b820839e9333e33c"), looks := false }, kinds := [], alts := [], laidByText := true, laidKinds := [.data], laidTests := true, laidLooks := .later }
def ClassCountsUptoCardSaid : Prop := Claim7.holds Tryd.pinned (.plain (OpenSpec.upto classCountsSpec)) classCountsUptoCard

/-- THE SECOND FORM's CARD OF 'riddlelaw02.ClassRules'. -/
def classRulesUptoCard : Claim7 := { stood := { row := classRulesUptoRow, standIns := [], harness := (true, "df6800e7db4cc107233708220c503f6f2d513e31e90a16c9b820839e9333e33c"), looks := false }, kinds := [], alts := [], laidByText := true, laidKinds := [.data], laidTests := true, laidLooks := .later }
def ClassRulesUptoCardSaid : Prop := Claim7.holds Tryd.pinned (.plain (OpenSpec.upto classRulesSpec)) classRulesUptoCard
end Rows
end Go.Proofs.YtbfgcanceneokaaDoor

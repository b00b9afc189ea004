/-
  DERIVED. GIVEN WITH THE SEED: THE CARDS: each row of YtnkiiphliilegaaDoorRows.lean that lists a variable, with what it lists TIED to the program's text (the seventh form; the later family's looks); each row that meets fmt, with fmt's text TOLD by the authors' own Lean function (tested against real Go, not proved from fmt's source: count such statements apart). THE CARD IS WHAT COUNTS. Prove the row's statement (the work); the ties are given (YtnkiiphliilegaaDoorTie.lean); close each card by the builder's one call (the guide's Derived/Test/ToyasCard.lean, 'card_holds'). Laid BY PROGRAM, IN A SANDBOX (cutbox-door.mjs). By AI agents, Wed Nov 11 2026. No macro, syntax, notation, axiom, sorry.
-/
import Derived.Test.YtnkiiphliilegaaDoorRows
import GoSem.ClaimSeven
namespace Go.Proofs.YtnkiiphliilegaaDoor
namespace Rows

/-- THE TIED CARD OF 'riddlelaw06.ShowWrites'. -/
def showWritesCard : Claim7 := { stood := { row := showWritesRow, standIns := [], harness := (true, "208cf5a86d0c439326a797b01b790026267a7d33c3e4a87b5509546c9907faaa"), looks := false }, kinds := [], alts := [], laidByText := true, laidKinds := [.data, .data, .data], laidTests := true, laidLooks := .later }
def ShowWritesCardSaid : Prop := Claim7.holds Tryd.pinned (.plain (OpenSpec.ofChange showWritesSpec)) showWritesCard

/-- THE SECOND FORM's CARD OF 'riddlelaw06.ShowWrites'. -/
def showWritesUptoCard : Claim7 := { stood := { row := showWritesUptoRow, standIns := [], harness := (true, "208cf5a86d0c439326a797b01b790026267a7d33c3e4a87b5509546c9907faaa"), looks := false }, kinds := [], alts := [], laidByText := true, laidKinds := [.data, .data, .data], laidTests := true, laidLooks := .later }
def ShowWritesUptoCardSaid : Prop := Claim7.holds Tryd.pinned (.plain (OpenSpec.upto showWritesSpec)) showWritesUptoCard
end Rows
end Go.Proofs.YtnkiiphliilegaaDoor

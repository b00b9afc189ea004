/-
  NARROWER THAN 'FOR EVERY INPUT', by the rows' own cells (each row's printed sentence says how): BitsNames: laid · BitsMoves: laid · BitsJoins: laid · BitsPlaces: laid · BitsOnce: laid · BitsLists: laid · BitsSteps: laid · BitsRules: laid · BitsParts: laid.
  DERIVED. THE GIVEN ROWS OF THIS SEAT. 9 by the template 'for every input the law returns true; each argument reads behind the call as it read before'; 0 by the template 'total and deterministic' (their statements: YtmedpnlmdncieaaDoorTotals.lean).
  GIVEN WITH THE SEED: the statements are not yours to turn. If you find one false, say at which input.
  Laid BY PROGRAM, IN A SANDBOX (cutbox-rows.mjs): the forced cells as the released guide's own fill.sh prints them over the translation 3f4b505768fc5d57… (all of the seat's roots in one cut). By AI agents, Wed Nov 11 2026. No macro, syntax, notation, axiom, sorry.
-/
import Derived.Test.YtmedpnlmdncieaaDoorChecked
import GoSem.Claim
import GoSem.ClaimJoined
import GoSem.ClaimMapViews
import Derived.JoinedTies
import Derived.KernelRfl
namespace Go.Proofs.YtmedpnlmdncieaaDoor
/- THE CELL 'sum', in the pinned program and in every row, IS THE sha256 OF THE DUMP (.gsa) THAT YtmedpnlmdncieaaDoorProg.lean LOADS. Nothing in Lean hashes anything: it is a label: what it is worth is what the hold of that sum in a sandbox is worth. -/
noncomputable def Tryd.pinned : Pinned := { name := "ytmedpnlmdncieaadoor", sum := "3f4b505768fc5d570a68a7d88f6745175e6e2d97689be672c206ae421fc2f7a0", checked := Tryd.checked }
namespace Rows
def none {H : Type} : Left H := { results := [], args := [] }

/- WHAT THE LISTED PACKAGE-LEVEL VARIABLES READ AS WHEN THE CALL BEGINS. Each datum BY PROGRAM (the guide's laid-datum.mjs) off the statement by which the dump's own 'gosem.cut.vars' lays the variable. In a bare row this is a premise. The card (YtmedpnlmdncieaaDoorCards.lean) ties it to the program's text. -/
def laid_math_bits_deBruijn64tab {H : Type} : DataW H := .agg [.lit (.int .u8 0), .lit (.int .u8 1), .lit (.int .u8 56), .lit (.int .u8 2), .lit (.int .u8 57), .lit (.int .u8 49), .lit (.int .u8 28), .lit (.int .u8 3), .lit (.int .u8 61), .lit (.int .u8 58), .lit (.int .u8 42), .lit (.int .u8 50), .lit (.int .u8 38), .lit (.int .u8 29), .lit (.int .u8 17), .lit (.int .u8 4), .lit (.int .u8 62), .lit (.int .u8 47), .lit (.int .u8 59), .lit (.int .u8 36), .lit (.int .u8 45), .lit (.int .u8 43), .lit (.int .u8 51), .lit (.int .u8 22), .lit (.int .u8 53), .lit (.int .u8 39), .lit (.int .u8 33), .lit (.int .u8 30), .lit (.int .u8 24), .lit (.int .u8 18), .lit (.int .u8 12), .lit (.int .u8 5), .lit (.int .u8 63), .lit (.int .u8 55), .lit (.int .u8 48), .lit (.int .u8 27), .lit (.int .u8 60), .lit (.int .u8 41), .lit (.int .u8 37), .lit (.int .u8 16), .lit (.int .u8 46), .lit (.int .u8 35), .lit (.int .u8 44), .lit (.int .u8 21), .lit (.int .u8 52), .lit (.int .u8 32), .lit (.int .u8 23), .lit (.int .u8 11), .lit (.int .u8 54), .lit (.int .u8 26), .lit (.int .u8 40), .lit (.int .u8 15), .lit (.int .u8 34), .lit (.int .u8 20), .lit (.int .u8 31), .lit (.int .u8 10), .lit (.int .u8 25), .lit (.int .u8 14), .lit (.int .u8 19), .lit (.int .u8 9), .lit (.int .u8 13), .lit (.int .u8 8), .lit (.int .u8 7), .lit (.int .u8 6)]

/-- 'riddlelaw01.BitsNames': WHATEVER THE INPUT: true; the input reads as it did. -/
def bitsNamesSpec : ChangeSpec := { name := "bitsNames", fn := fun _ => fun
  | [] => { results := [.lit (.bool true)], args := [] }
  | _ => none }
def bitsNamesRow : OpenClaim := { program := "ytmedpnlmdncieaadoor", sum := "3f4b505768fc5d570a68a7d88f6745175e6e2d97689be672c206ae421fc2f7a0", func := "riddle/riddlelaw01.BitsNames", spec := "bitsNames", unfollowed := true, recurses := true, named := ["math/bits.deBruijn64tab"], apart := false, laid := [("math/bits.deBruijn64tab", laid_math_bits_deBruijn64tab)] }
def BitsNamesSaid : Prop := bitsNamesRow.holds Tryd.pinned (OpenSpec.ofChange bitsNamesSpec)

/-- ITS FALSE NEIGHBOUR: 'it returns false'. Refute it at one input. -/
def bitsNamesWrong : ChangeSpec := { name := "bitsNames", fn := fun _ => fun
  | [] => { results := [.lit (.bool false)], args := [] }
  | _ => none }
def BitsNamesWrongFalsely : Prop := bitsNamesRow.holds Tryd.pinned (OpenSpec.ofChange bitsNamesWrong)

/-- 'riddlelaw01.BitsMoves': WHATEVER THE INPUT: true; the input reads as it did. -/
def bitsMovesSpec : ChangeSpec := { name := "bitsMoves", fn := fun _ => fun
  | [d1, d2] => { results := [.lit (.bool true)], args := [d1, d2] }
  | _ => none }
def bitsMovesRow : OpenClaim := { program := "ytmedpnlmdncieaadoor", sum := "3f4b505768fc5d570a68a7d88f6745175e6e2d97689be672c206ae421fc2f7a0", func := "riddle/riddlelaw01.BitsMoves", spec := "bitsMoves", unfollowed := true, recurses := true, named := ["math/bits.deBruijn64tab"], apart := false, laid := [("math/bits.deBruijn64tab", laid_math_bits_deBruijn64tab)] }
def BitsMovesSaid : Prop := bitsMovesRow.holds Tryd.pinned (OpenSpec.ofChange bitsMovesSpec)

/-- ITS FALSE NEIGHBOUR: 'it returns false'. Refute it at one input. -/
def bitsMovesWrong : ChangeSpec := { name := "bitsMoves", fn := fun _ => fun
  | [d1, d2] => { results := [.lit (.bool false)], args := [d1, d2] }
  | _ => none }
def BitsMovesWrongFalsely : Prop := bitsMovesRow.holds Tryd.pinned (OpenSpec.ofChange bitsMovesWrong)

/-- 'riddlelaw01.BitsJoins': WHATEVER THE INPUT: true; the input reads as it did. -/
def bitsJoinsSpec : ChangeSpec := { name := "bitsJoins", fn := fun _ => fun
  | [d1, d2] => { results := [.lit (.bool true)], args := [d1, d2] }
  | _ => none }
def bitsJoinsRow : OpenClaim := { program := "ytmedpnlmdncieaadoor", sum := "3f4b505768fc5d570a68a7d88f6745175e6e2d97689be672c206ae421fc2f7a0", func := "riddle/riddlelaw01.BitsJoins", spec := "bitsJoins", unfollowed := true, recurses := true, named := ["math/bits.deBruijn64tab"], apart := false, laid := [("math/bits.deBruijn64tab", laid_math_bits_deBruijn64tab)] }
def BitsJoinsSaid : Prop := bitsJoinsRow.holds Tryd.pinned (OpenSpec.ofChange bitsJoinsSpec)

/-- ITS FALSE NEIGHBOUR: 'it returns false'. Refute it at one input. -/
def bitsJoinsWrong : ChangeSpec := { name := "bitsJoins", fn := fun _ => fun
  | [d1, d2] => { results := [.lit (.bool false)], args := [d1, d2] }
  | _ => none }
def BitsJoinsWrongFalsely : Prop := bitsJoinsRow.holds Tryd.pinned (OpenSpec.ofChange bitsJoinsWrong)

/-- 'riddlelaw01.BitsPlaces': WHATEVER THE INPUT: true; the input reads as it did. -/
def bitsPlacesSpec : ChangeSpec := { name := "bitsPlaces", fn := fun _ => fun
  | [d1, d2] => { results := [.lit (.bool true)], args := [d1, d2] }
  | _ => none }
def bitsPlacesRow : OpenClaim := { program := "ytmedpnlmdncieaadoor", sum := "3f4b505768fc5d570a68a7d88f6745175e6e2d97689be672c206ae421fc2f7a0", func := "riddle/riddlelaw01.BitsPlaces", spec := "bitsPlaces", unfollowed := true, recurses := true, named := ["math/bits.deBruijn64tab"], apart := false, laid := [("math/bits.deBruijn64tab", laid_math_bits_deBruijn64tab)] }
def BitsPlacesSaid : Prop := bitsPlacesRow.holds Tryd.pinned (OpenSpec.ofChange bitsPlacesSpec)

/-- ITS FALSE NEIGHBOUR: 'it returns false'. Refute it at one input. -/
def bitsPlacesWrong : ChangeSpec := { name := "bitsPlaces", fn := fun _ => fun
  | [d1, d2] => { results := [.lit (.bool false)], args := [d1, d2] }
  | _ => none }
def BitsPlacesWrongFalsely : Prop := bitsPlacesRow.holds Tryd.pinned (OpenSpec.ofChange bitsPlacesWrong)

/-- 'riddlelaw01.BitsOnce': WHATEVER THE INPUT: true; the input reads as it did. -/
def bitsOnceSpec : ChangeSpec := { name := "bitsOnce", fn := fun _ => fun
  | [d1, d2, d3] => { results := [.lit (.bool true)], args := [d1, d2, d3] }
  | _ => none }
def bitsOnceRow : OpenClaim := { program := "ytmedpnlmdncieaadoor", sum := "3f4b505768fc5d570a68a7d88f6745175e6e2d97689be672c206ae421fc2f7a0", func := "riddle/riddlelaw01.BitsOnce", spec := "bitsOnce", unfollowed := true, recurses := true, named := ["math/bits.deBruijn64tab"], apart := false, laid := [("math/bits.deBruijn64tab", laid_math_bits_deBruijn64tab)] }
def BitsOnceSaid : Prop := bitsOnceRow.holds Tryd.pinned (OpenSpec.ofChange bitsOnceSpec)

/-- ITS FALSE NEIGHBOUR: 'it returns false'. Refute it at one input. -/
def bitsOnceWrong : ChangeSpec := { name := "bitsOnce", fn := fun _ => fun
  | [d1, d2, d3] => { results := [.lit (.bool false)], args := [d1, d2, d3] }
  | _ => none }
def BitsOnceWrongFalsely : Prop := bitsOnceRow.holds Tryd.pinned (OpenSpec.ofChange bitsOnceWrong)

/-- 'riddlelaw01.BitsLists': WHATEVER THE INPUT: true; the input reads as it did. -/
def bitsListsSpec : ChangeSpec := { name := "bitsLists", fn := fun _ => fun
  | [d1, d2] => { results := [.lit (.bool true)], args := [d1, d2] }
  | _ => none }
def bitsListsRow : OpenClaim := { program := "ytmedpnlmdncieaadoor", sum := "3f4b505768fc5d570a68a7d88f6745175e6e2d97689be672c206ae421fc2f7a0", func := "riddle/riddlelaw01.BitsLists", spec := "bitsLists", unfollowed := true, recurses := true, named := ["math/bits.deBruijn64tab"], apart := false, laid := [("math/bits.deBruijn64tab", laid_math_bits_deBruijn64tab)] }
def BitsListsSaid : Prop := bitsListsRow.holds Tryd.pinned (OpenSpec.ofChange bitsListsSpec)

/-- ITS FALSE NEIGHBOUR: 'it returns false'. Refute it at one input. -/
def bitsListsWrong : ChangeSpec := { name := "bitsLists", fn := fun _ => fun
  | [d1, d2] => { results := [.lit (.bool false)], args := [d1, d2] }
  | _ => none }
def BitsListsWrongFalsely : Prop := bitsListsRow.holds Tryd.pinned (OpenSpec.ofChange bitsListsWrong)

/-- 'riddlelaw01.BitsSteps': WHATEVER THE INPUT: true; the input reads as it did. -/
def bitsStepsSpec : ChangeSpec := { name := "bitsSteps", fn := fun _ => fun
  | [d1, d2, d3] => { results := [.lit (.bool true)], args := [d1, d2, d3] }
  | _ => none }
def bitsStepsRow : OpenClaim := { program := "ytmedpnlmdncieaadoor", sum := "3f4b505768fc5d570a68a7d88f6745175e6e2d97689be672c206ae421fc2f7a0", func := "riddle/riddlelaw01.BitsSteps", spec := "bitsSteps", unfollowed := true, recurses := true, named := ["math/bits.deBruijn64tab"], apart := false, laid := [("math/bits.deBruijn64tab", laid_math_bits_deBruijn64tab)] }
def BitsStepsSaid : Prop := bitsStepsRow.holds Tryd.pinned (OpenSpec.ofChange bitsStepsSpec)

/-- ITS FALSE NEIGHBOUR: 'it returns false'. Refute it at one input. -/
def bitsStepsWrong : ChangeSpec := { name := "bitsSteps", fn := fun _ => fun
  | [d1, d2, d3] => { results := [.lit (.bool false)], args := [d1, d2, d3] }
  | _ => none }
def BitsStepsWrongFalsely : Prop := bitsStepsRow.holds Tryd.pinned (OpenSpec.ofChange bitsStepsWrong)

/-- 'riddlelaw01.BitsRules': WHATEVER THE INPUT: true; the input reads as it did. -/
def bitsRulesSpec : ChangeSpec := { name := "bitsRules", fn := fun _ => fun
  | [d1, d2, d3] => { results := [.lit (.bool true)], args := [d1, d2, d3] }
  | _ => none }
def bitsRulesRow : OpenClaim := { program := "ytmedpnlmdncieaadoor", sum := "3f4b505768fc5d570a68a7d88f6745175e6e2d97689be672c206ae421fc2f7a0", func := "riddle/riddlelaw01.BitsRules", spec := "bitsRules", unfollowed := true, recurses := true, named := ["math/bits.deBruijn64tab"], apart := false, laid := [("math/bits.deBruijn64tab", laid_math_bits_deBruijn64tab)] }
def BitsRulesSaid : Prop := bitsRulesRow.holds Tryd.pinned (OpenSpec.ofChange bitsRulesSpec)

/-- ITS FALSE NEIGHBOUR: 'it returns false'. Refute it at one input. -/
def bitsRulesWrong : ChangeSpec := { name := "bitsRules", fn := fun _ => fun
  | [d1, d2, d3] => { results := [.lit (.bool false)], args := [d1, d2, d3] }
  | _ => none }
def BitsRulesWrongFalsely : Prop := bitsRulesRow.holds Tryd.pinned (OpenSpec.ofChange bitsRulesWrong)

/-- 'riddlelaw01.BitsParts': WHATEVER THE INPUT: true; the input reads as it did. -/
def bitsPartsSpec : ChangeSpec := { name := "bitsParts", fn := fun _ => fun
  | [d1, d2] => { results := [.lit (.bool true)], args := [d1, d2] }
  | _ => none }
def bitsPartsRow : OpenClaim := { program := "ytmedpnlmdncieaadoor", sum := "3f4b505768fc5d570a68a7d88f6745175e6e2d97689be672c206ae421fc2f7a0", func := "riddle/riddlelaw01.BitsParts", spec := "bitsParts", unfollowed := true, recurses := true, named := ["math/bits.deBruijn64tab"], apart := false, laid := [("math/bits.deBruijn64tab", laid_math_bits_deBruijn64tab)] }
def BitsPartsSaid : Prop := bitsPartsRow.holds Tryd.pinned (OpenSpec.ofChange bitsPartsSpec)

/-- ITS FALSE NEIGHBOUR: 'it returns false'. Refute it at one input. -/
def bitsPartsWrong : ChangeSpec := { name := "bitsParts", fn := fun _ => fun
  | [d1, d2] => { results := [.lit (.bool false)], args := [d1, d2] }
  | _ => none }
def BitsPartsWrongFalsely : Prop := bitsPartsRow.holds Tryd.pinned (OpenSpec.ofChange bitsPartsWrong)

/- THE SECOND FORM. 'bulk': how many values and letters a reading holds, each counted each time it is reached (what is shared counts as often as it is met; a slice's spare places count too). A statement '..UptoSaid' is the law's where the arguments, and the package variables that the reading takes, are together of bulk at most 1048576: NARROWER than '..Said'. Prove '..Said' where nothing that the law and all that it calls make is longer than what came in: it says more and counts as full. Else prove '..UptoSaid'. A law counts once. -/
mutual
def uptoBulk {H : Type} : DataW H → Nat
  | .lit (.string bytes) => bytes.length + 1
  | .lit _ => 1
  | .nil => 1
  | .ptr d => uptoBulk d + 1
  | .slice elems spare => uptoBulkAll elems + uptoBulkAll spare + 1
  | .agg parts => uptoBulkAll parts + 1
  | .iface _ d => uptoBulk d + 1
  | .map entries => uptoBulkEntries entries + 1
  | .held _ => 1
def uptoBulkAll {H : Type} : List (DataW H) → Nat
  | [] => 0
  | d :: r => uptoBulk d + uptoBulkAll r
def uptoBulkEntries {H : Type} : List (Lit × DataW H) → Nat
  | [] => 0
  | x :: r => uptoBulkEntry x + uptoBulkEntries r
def uptoBulkEntry {H : Type} : Lit × DataW H → Nat
  | (.string bytes, d) => bytes.length + uptoBulk d + 1
  | (_, d) => uptoBulk d + 1
 end
def uptoSmall : (H : Type) → List (DataW H) → Bool := fun _ ds => decide (uptoBulkAll ds ≤ 1048576)
def OpenSpec.upto (s : _root_.Go.ChangeSpec) : _root_.Go.OpenSpec := { _root_.Go.OpenSpec.ofChange s with cond := some uptoSmall }

/-- 'riddlelaw01.BitsNames', WHERE WHAT IT READS IS OF BULK AT MOST 1048576: true; the input reads as it did. -/
def bitsNamesUptoRow : OpenClaim := { program := "ytmedpnlmdncieaadoor", sum := "3f4b505768fc5d570a68a7d88f6745175e6e2d97689be672c206ae421fc2f7a0", func := "riddle/riddlelaw01.BitsNames", spec := "bitsNames", unfollowed := true, recurses := true, named := ["math/bits.deBruijn64tab"], apart := false, laid := [("math/bits.deBruijn64tab", laid_math_bits_deBruijn64tab)], narrowed := true }
def BitsNamesUptoSaid : Prop := bitsNamesUptoRow.holds Tryd.pinned (OpenSpec.upto bitsNamesSpec)

/-- 'riddlelaw01.BitsMoves', WHERE WHAT IT READS IS OF BULK AT MOST 1048576: true; the input reads as it did. -/
def bitsMovesUptoRow : OpenClaim := { program := "ytmedpnlmdncieaadoor", sum := "3f4b505768fc5d570a68a7d88f6745175e6e2d97689be672c206ae421fc2f7a0", func := "riddle/riddlelaw01.BitsMoves", spec := "bitsMoves", unfollowed := true, recurses := true, named := ["math/bits.deBruijn64tab"], apart := false, laid := [("math/bits.deBruijn64tab", laid_math_bits_deBruijn64tab)], narrowed := true }
def BitsMovesUptoSaid : Prop := bitsMovesUptoRow.holds Tryd.pinned (OpenSpec.upto bitsMovesSpec)

/-- 'riddlelaw01.BitsJoins', WHERE WHAT IT READS IS OF BULK AT MOST 1048576: true; the input reads as it did. -/
def bitsJoinsUptoRow : OpenClaim := { program := "ytmedpnlmdncieaadoor", sum := "3f4b505768fc5d570a68a7d88f6745175e6e2d97689be672c206ae421fc2f7a0", func := "riddle/riddlelaw01.BitsJoins", spec := "bitsJoins", unfollowed := true, recurses := true, named := ["math/bits.deBruijn64tab"], apart := false, laid := [("math/bits.deBruijn64tab", laid_math_bits_deBruijn64tab)], narrowed := true }
def BitsJoinsUptoSaid : Prop := bitsJoinsUptoRow.holds Tryd.pinned (OpenSpec.upto bitsJoinsSpec)

/-- 'riddlelaw01.BitsPlaces', WHERE WHAT IT READS IS OF BULK AT MOST 1048576: true; the input reads as it did. -/
def bitsPlacesUptoRow : OpenClaim := { program := "ytmedpnlmdncieaadoor", sum := "3f4b505768fc5d570a68a7d88f6745175e6e2d97689be672c206ae421fc2f7a0", func := "riddle/riddlelaw01.BitsPlaces", spec := "bitsPlaces", unfollowed := true, recurses := true, named := ["math/bits.deBruijn64tab"], apart := false, laid := [("math/bits.deBruijn64tab", laid_math_bits_deBruijn64tab)], narrowed := true }
def BitsPlacesUptoSaid : Prop := bitsPlacesUptoRow.holds Tryd.pinned (OpenSpec.upto bitsPlacesSpec)

/-- 'riddlelaw01.BitsOnce', WHERE WHAT IT READS IS OF BULK AT MOST 1048576: true; the input reads as it did. -/
def bitsOnceUptoRow : OpenClaim := { program := "ytmedpnlmdncieaadoor", sum := "3f4b505768fc5d570a68a7d88f6745175e6e2d97689be672c206ae421fc2f7a0", func := "riddle/riddlelaw01.BitsOnce", spec := "bitsOnce", unfollowed := true, recurses := true, named := ["math/bits.deBruijn64tab"], apart := false, laid := [("math/bits.deBruijn64tab", laid_math_bits_deBruijn64tab)], narrowed := true }
def BitsOnceUptoSaid : Prop := bitsOnceUptoRow.holds Tryd.pinned (OpenSpec.upto bitsOnceSpec)

/-- 'riddlelaw01.BitsLists', WHERE WHAT IT READS IS OF BULK AT MOST 1048576: true; the input reads as it did. -/
def bitsListsUptoRow : OpenClaim := { program := "ytmedpnlmdncieaadoor", sum := "3f4b505768fc5d570a68a7d88f6745175e6e2d97689be672c206ae421fc2f7a0", func := "riddle/riddlelaw01.BitsLists", spec := "bitsLists", unfollowed := true, recurses := true, named := ["math/bits.deBruijn64tab"], apart := false, laid := [("math/bits.deBruijn64tab", laid_math_bits_deBruijn64tab)], narrowed := true }
def BitsListsUptoSaid : Prop := bitsListsUptoRow.holds Tryd.pinned (OpenSpec.upto bitsListsSpec)

/-- 'riddlelaw01.BitsSteps', WHERE WHAT IT READS IS OF BULK AT MOST 1048576: true; the input reads as it did. -/
def bitsStepsUptoRow : OpenClaim := { program := "ytmedpnlmdncieaadoor", sum := "3f4b505768fc5d570a68a7d88f6745175e6e2d97689be672c206ae421fc2f7a0", func := "riddle/riddlelaw01.BitsSteps", spec := "bitsSteps", unfollowed := true, recurses := true, named := ["math/bits.deBruijn64tab"], apart := false, laid := [("math/bits.deBruijn64tab", laid_math_bits_deBruijn64tab)], narrowed := true }
def BitsStepsUptoSaid : Prop := bitsStepsUptoRow.holds Tryd.pinned (OpenSpec.upto bitsStepsSpec)

/-- 'riddlelaw01.BitsRules', WHERE WHAT IT READS IS OF BULK AT MOST 1048576: true; the input reads as it did. -/
def bitsRulesUptoRow : OpenClaim := { program := "ytmedpnlmdncieaadoor", sum := "3f4b505768fc5d570a68a7d88f6745175e6e2d97689be672c206ae421fc2f7a0", func := "riddle/riddlelaw01.BitsRules", spec := "bitsRules", unfollowed := true, recurses := true, named := ["math/bits.deBruijn64tab"], apart := false, laid := [("math/bits.deBruijn64tab", laid_math_bits_deBruijn64tab)], narrowed := true }
def BitsRulesUptoSaid : Prop := bitsRulesUptoRow.holds Tryd.pinned (OpenSpec.upto bitsRulesSpec)

/-- 'riddlelaw01.BitsParts', WHERE WHAT IT READS IS OF BULK AT MOST 1048576: true; the input reads as it did. -/
def bitsPartsUptoRow : OpenClaim := { program := "ytmedpnlmdncieaadoor", sum := "3f4b505768fc5d570a68a7d88f6745175e6e2d97689be672c206ae421fc2f7a0", func := "riddle/riddlelaw01.BitsParts", spec := "bitsParts", unfollowed := true, recurses := true, named := ["math/bits.deBruijn64tab"], apart := false, laid := [("math/bits.deBruijn64tab", laid_math_bits_deBruijn64tab)], narrowed := true }
def BitsPartsUptoSaid : Prop := bitsPartsUptoRow.holds Tryd.pinned (OpenSpec.upto bitsPartsSpec)

end Rows
end Go.Proofs.YtmedpnlmdncieaaDoor

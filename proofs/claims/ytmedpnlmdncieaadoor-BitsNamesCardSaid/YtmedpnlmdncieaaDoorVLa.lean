/- Walk of riddlelaw01.BitsNames: it answers true. -/
import Derived.Test.YtmedpnlmdncieaaDoorVL0
namespace Go.Proofs.YtmedpnlmdncieaaDoor
open Go.RowKit

set_option maxRecDepth 100000 in
set_option maxHeartbeats 8000000 in
theorem names_walk (w : World) (hT : Tab64 w) : Calls Tryd.prog 3 #[] w (SaysTrue w) := by
  have HT := Lib.hid hT
  clear hT
  go_enter Tryd.func3, Tryd.ntmps3
  have HB0 : Hid (Below w.heap.size w w) := Below.refl _ _
  go_wp2_with fail
  refine (speaks_any _ (tab_below HT.out HB0.out (Nat.le_refl _))).mono ?_
  rintro e w1 ⟨rfl, hb⟩
  have HB0_1 := Lib.hid (HB0.out.trans (hb.mono HB0.out.size))
  clear HB0
  clear hb
  go_wp2
  go_ret
  exact ⟨rfl, HB0_1.out⟩
end Go.Proofs.YtmedpnlmdncieaaDoor

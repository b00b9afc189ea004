/- A class stored word by word into four cells. -/
import Derived.Test.YtoijilfpfdhppaaKCa
namespace Go.Proofs.Ytoijilfpfdhppaa
open Go.RowKit

/-- a class stored into four cells, word by word -/
theorem blk_fill {w : World} {g : Nat} {t : TypeId} {p : Nat → Bool} {c0 c1 c2 c3 : Value} (h : Blk w g t #[c0, c1, c2, c3]) :
    Blk ((((w.setCell ⟨g, 0, none⟩ (.int .u64 (pw p 0 : Nat))).setCell ⟨g, 1, none⟩ (.int .u64 (pw p 1 : Nat))).setCell ⟨g, 2, none⟩ (.int .u64 (pw p 2 : Nat))).setCell ⟨g, 3, none⟩ (.int .u64 (pw p 3 : Nat))) g t (ccells p) := by
  have := (((h.store 0 (.int .u64 (pw p 0 : Nat))).store 1 (.int .u64 (pw p 1 : Nat))).store 2 (.int .u64 (pw p 2 : Nat))).store 3 (.int .u64 (pw p 3 : Nat))
  simpa [ccells] using this
end Go.Proofs.Ytoijilfpfdhppaa

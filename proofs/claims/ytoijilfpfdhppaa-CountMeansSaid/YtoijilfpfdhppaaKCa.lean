/- Walks of class: Has, And, Or, Not, put, Of, Range, Len; of the reference: Has, Other. -/
import Derived.Test.YtoijilfpfdhppaaMc
import Derived.Test.YtoijilfpfdhppaaWd
import Derived.Test.YtoijilfpfdhppaaKB0
import Derived.RegionTactic
import Derived.ChangeAlike
namespace Go.Proofs.Ytoijilfpfdhppaa
open Go.RowKit

theorem ccells_at (p : Nat → Bool) (b : Nat) (hb : b < 256) :
    [Value.int .u64 (pw p 0 : Nat), .int .u64 (pw p 1 : Nat), .int .u64 (pw p 2 : Nat), .int .u64 (pw p 3 : Nat)][b / 64]? = some (.int .u64 (pw p (b / 64) : Nat)) := by
  have : b / 64 = 0 ∨ b / 64 = 1 ∨ b / 64 = 2 ∨ b / 64 = 3 := by omega
  rcases this with h | h | h | h <;> simp [h]
theorem ccells_get (p : Nat → Bool) (b : Nat) (hb : b < 256) : (ccells p)[b / 64]? = some (.int .u64 (pw p (b / 64) : Nat)) := by
  rw [← ccells_at p b hb]
  simp
theorem ccells_add (p : Nat → Bool) (b : Nat) (hb : b < 256) : (ccells p).setIfInBounds (b / 64) (.int .u64 (pw (addB p b) (b / 64) : Nat)) = ccells (addB p b) := by
  have h0 := fun h => pw_add_other p b 0 h
  have h1 := fun h => pw_add_other p b 1 h
  have h2 := fun h => pw_add_other p b 2 h
  have h3 := fun h => pw_add_other p b 3 h
  have : b / 64 = 0 ∨ b / 64 = 1 ∨ b / 64 = 2 ∨ b / 64 = 3 := by omega
  rcases this with h | h | h | h <;> rw [h] at h0 h1 h2 h3 ⊢ <;> simp [ccells, *]

theorem has_any (p : Nat → Bool) (b : Nat) (hb : b < 256) (w : World) :
    Calls Try.prog 12 #[cval p, .int .u8 b] w fun e w' => e = .returned (.bool (p b)) ∧ Below w.heap.size w w' := by
  have hcell := ccells_at p b hb
  have hres := has_word p b
  go_enter Try.func12, Try.ntmps12
  go_wp2
  go_ret
  exact ⟨rfl, (Below.refl _ _).alloc (Nat.le_refl _) _⟩

theorem refHas_any (p : Nat → Bool) (b : Nat) (hb : b < 256) (w : World) :
    Calls Try.prog 8 #[cval p, .int .i64 b] w fun e w' => e = .returned (.bool (p b)) ∧ Below w.heap.size w w' := by
  have hcell := ccells_at p b hb
  have hres := has_word2 p b
  go_enter Try.func8, Try.ntmps8
  go_wp2
  go_ret
  exact ⟨rfl, (Below.refl _ _).alloc (Nat.le_refl _) _⟩

end Go.Proofs.Ytoijilfpfdhppaa

/- Walks of the three closures of bits.And, bits.Or and bits.Minus. -/
import Derived.Test.YtoijilfpfdhppaaKBb
namespace Go.Proofs.Ytoijilfpfdhppaa
open Go.RowKit

theorem andNot_word (p q : Nat → Bool) (i : Nat) : bits .andNot .u64 (pw p i : Int) (pw q i : Int) = (pw (fun b => p b && !q b) i : Int) := by
  have hx := pw_lt p i
  have hy := pw_lt q i
  have ex : ∀ a : Nat, a < 18446744073709551616 → (BitVec.ofInt 64 (a : Int)).toNat = a := fun a ha => by
    rw [BitVec.toNat_ofInt]
    omega
  show IntKind.u64.wrap ((BitVec.ofInt 64 (pw p i : Int) &&& ~~~ BitVec.ofInt 64 (pw q i : Int)).toNat : Int) = _
  rw [BitVec.toNat_and, BitVec.toNat_not, ex _ hx, ex _ hy]
  unfold pw
  rw [bitsOf_andNot]
  show _ = ((bitsOf (fun j => p (64 * i + j) && !q (64 * i + j)) 64 : Nat) : Int)
  have h := bitsOf_lt (fun j => p (64 * i + j) && !q (64 * i + j)) 64
  rw [IntKind.wrap_u64]
  omega
theorem or_fn (p q : Nat → Bool) (i : Nat) (w : World) :
    Calls Try.prog 48 #[.int .u64 ((pw p i : Nat) : Int), .int .u64 ((pw q i : Nat) : Int)] w fun e w' => e = .returned (.int .u64 ((pw (fun b => p b || q b) i : Nat) : Int)) ∧ w = w' := by
  have h := or_word p q i
  go_enter Try.func48, Try.ntmps48
  go_wp2
  go_ret
  exact ⟨rfl, rfl⟩
theorem minus_fn (p q : Nat → Bool) (i : Nat) (w : World) :
    Calls Try.prog 44 #[.int .u64 ((pw p i : Nat) : Int), .int .u64 ((pw q i : Nat) : Int)] w fun e w' => e = .returned (.int .u64 ((pw (fun b => p b && !q b) i : Nat) : Int)) ∧ w = w' := by
  have h := andNot_word p q i
  go_enter Try.func44, Try.ntmps44
  go_wp2
  go_ret
  exact ⟨rfl, rfl⟩
end Go.Proofs.Ytoijilfpfdhppaa

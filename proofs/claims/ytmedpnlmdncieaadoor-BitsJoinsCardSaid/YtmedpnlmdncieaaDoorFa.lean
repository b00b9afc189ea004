/- Walks of math/bits.OnesCount64 and math/bits.TrailingZeros64: the first tells how many bits are set, the second the place of the lowest (its table read as laid). -/
import Derived.Test.YtmedpnlmdncieaaDoorRows
import Derived.Test.YtmedpnlmdncieaaDoorMp
import Derived.WalkKit
import Derived.Lib.Hide
namespace Go.Proofs.YtmedpnlmdncieaaDoor
open Go.RowKit

theorem ones_A (x : Nat) (hx : x < 18446744073709551616) :
    IntKind.u64.wrap (bits .and .u64 ((x : Int) / 2) 6148914691236517205 + bits .and .u64 (x : Int) 6148914691236517205) = (((x / 2 &&& 6148914691236517205) + (x &&& 6148914691236517205) : Nat) : Int) := by
  have e : ((x : Int) / 2) = ((x / 2 : Nat) : Int) := by omega
  have h1 := bits_and_u64_nat (x / 2) 6148914691236517205 (by omega) (by omega)
  have h2 := bits_and_u64_nat x 6148914691236517205 (by omega) (by omega)
  have g1 : x / 2 &&& 6148914691236517205 ≤ 6148914691236517205 := Nat.and_le_right
  have g2 : x &&& 6148914691236517205 ≤ 6148914691236517205 := Nat.and_le_right
  simp only [Int.cast_ofNat_Int] at h1 h2
  rw [e, h1, h2, IntKind.wrap_u64]
  omega
theorem ones_B (x : Nat) (hx : x < 18446744073709551616) :
    IntKind.u64.wrap (bits .and .u64 ((x : Int) / 4) 3689348814741910323 + bits .and .u64 (x : Int) 3689348814741910323) = (((x / 4 &&& 3689348814741910323) + (x &&& 3689348814741910323) : Nat) : Int) := by
  have e : ((x : Int) / 4) = ((x / 4 : Nat) : Int) := by omega
  have h1 := bits_and_u64_nat (x / 4) 3689348814741910323 (by omega) (by omega)
  have h2 := bits_and_u64_nat x 3689348814741910323 (by omega) (by omega)
  have g1 : x / 4 &&& 3689348814741910323 ≤ 3689348814741910323 := Nat.and_le_right
  have g2 : x &&& 3689348814741910323 ≤ 3689348814741910323 := Nat.and_le_right
  simp only [Int.cast_ofNat_Int] at h1 h2
  rw [e, h1, h2, IntKind.wrap_u64]
  omega
theorem ones_C (x : Nat) (hx : x ≤ 4919131752989213764) :
    bits .and .u64 ((x : Int) / 16 + (x : Int)) 1085102592571150095 = ((x / 16 + x &&& 1085102592571150095 : Nat) : Int) := by
  have e : ((x : Int) / 16 + (x : Int)) = ((x / 16 + x : Nat) : Int) := by omega
  have h1 := bits_and_u64_nat (x / 16 + x) 1085102592571150095 (by omega) (by omega)
  simp only [Int.cast_ofNat_Int] at h1
  rw [e, h1]
theorem ones_G (x : Nat) (hx : x < 9223372036854775808) : bits .and .i64 (x : Int) 127 = ((x % 128 : Nat) : Int) := by
  have h : x &&& 127 = x % 128 := Nat.and_two_pow_sub_one_eq_mod x 7
  show IntKind.i64.wrap ((BitVec.ofInt 64 (x : Int) &&& BitVec.ofInt 64 127).toNat : Int) = _
  have e1 : (BitVec.ofInt 64 (x : Int)).toNat = x := by
    rw [BitVec.ofInt_natCast, BitVec.toNat_ofNat]; exact Nat.mod_eq_of_lt (by omega)
  have e2 : (BitVec.ofInt 64 127).toNat = 127 := by decide
  rw [BitVec.toNat_and, e1, e2, h]
  have : x % 128 < 128 := Nat.mod_lt _ (by decide)
  generalize x % 128 = y at *
  simp [IntKind.wrap, IntKind.bits, IntKind.signed]
  omega

set_option maxHeartbeats 400000 in
theorem ones_walk (x A B C D E F : Nat) (w : World) (_hx : x < 18446744073709551616)
    (hA : IntKind.u64.wrap (bits .and .u64 ((x : Int) / 2) 6148914691236517205 + bits .and .u64 (x : Int) 6148914691236517205) = (A : Int))
    (hB : IntKind.u64.wrap (bits .and .u64 ((A : Int) / 4) 3689348814741910323 + bits .and .u64 (A : Int) 3689348814741910323) = (B : Int)) (hB' : B ≤ 4919131752989213764)
    (hC : bits .and .u64 ((B : Int) / 16 + (B : Int)) 1085102592571150095 = (C : Int)) (_hC' : C ≤ 4919131752989213764)
    (hD : (C : Int) + (C : Int) / 256 = (D : Int)) (hD' : D < 9223372036854775808)
    (hE : (D : Int) + (D : Int) / 65536 = (E : Int)) (hE' : E < 9223372036854775808)
    (hF : (E : Int) + (E : Int) / 4294967296 = (F : Int)) (hF' : F < 9223372036854775808) :
    Calls Tryd.prog 49 #[.int .u64 x] w fun e w' => e = .returned (.int .i64 (bits .and .i64 (F : Int) 127)) ∧ w = w' := by
  go_enter Tryd.func49, Tryd.ntmps49
  go_wp2
  go_ret
  exact ⟨rfl, rfl⟩

/-- math/bits.OnesCount64: how many bits are set. -/
theorem onesCount_any (x : Nat) (hx : x < 18446744073709551616) (w : World) :
    Calls Tryd.prog 49 #[.int .u64 x] w fun e w' => e = .returned (.int .i64 (popOf x.testBit 64 : Nat)) ∧ w = w' := by
  obtain ⟨A, hA⟩ : ∃ A, A = (x / 2 &&& 6148914691236517205) + (x &&& 6148914691236517205) := ⟨_, rfl⟩
  obtain ⟨B, hB⟩ : ∃ B, B = (A / 4 &&& 3689348814741910323) + (A &&& 3689348814741910323) := ⟨_, rfl⟩
  obtain ⟨C, hC⟩ : ∃ C, C = (B / 16 + B) &&& 1085102592571150095 := ⟨_, rfl⟩
  obtain ⟨D, hD⟩ : ∃ D, D = C + C / 256 := ⟨_, rfl⟩
  obtain ⟨E, hE⟩ : ∃ E, E = D + D / 65536 := ⟨_, rfl⟩
  obtain ⟨F, hF⟩ : ∃ F, F = E + E / 4294967296 := ⟨_, rfl⟩
  obtain ⟨hF1, hF2, hB1⟩ := pop_sums x A B C D E F hx hA hB hC hD hE hF
  have gA : A < 18446744073709551616 := by
    have g1 : x / 2 &&& 6148914691236517205 ≤ 6148914691236517205 := Nat.and_le_right
    have g2 : x &&& 6148914691236517205 ≤ 6148914691236517205 := Nat.and_le_right
    omega
  have gC : C ≤ 1085102592571150095 := by rw [hC]; exact Nat.and_le_right
  refine (ones_walk x A B C D E F w hx (by rw [hA]; exact ones_A x hx) (by rw [hB]; exact ones_B A gA) hB1 (by rw [hC]; exact ones_C B hB1) (by omega) (by omega) (by omega) (by omega) (by omega) (by omega) (by omega)).mono ?_
  rintro e w' ⟨rfl, rfl⟩
  refine ⟨?_, rfl⟩
  rw [ones_G F hF1, hF2]

theorem ones_bitsOf (f : Nat → Bool) (w : World) :
    Calls Tryd.prog 49 #[.int .u64 (bitsOf f 64 : Nat)] w fun e w' => e = .returned (.int .i64 (popOf f 64 : Nat)) ∧ w = w' := by
  have h := onesCount_any (bitsOf f 64) (bitsOf_lt f 64) w
  have e : popOf (bitsOf f 64).testBit 64 = popOf f 64 := popOf_congr fun j hj => by rw [bitsOf_testBit]; simp [hj]
  rw [e] at h
  exact h

/-- The table of math/bits in its variable. -/
def Tab64 (w : World) : Prop := ∀ j, j < Lib.deBruijn64tab.length → w.cell? ⟨0, j, none⟩ = some (.int .u8 (Lib.deBruijn64tab.getD j 0))

theorem tz_key (x a : Nat) (hx : x < 18446744073709551616) (hx0 : x ≠ 0) (hlow : x &&& (18446744073709551616 - x) = a) :
    IntKind.u64.wrap (bits BinOp.and IntKind.u64 (x : Int) (IntKind.u64.wrap (-(x : Int))) * 285870213051353865) / 288230376151711744 = ((a * 285870213051353865 % 18446744073709551616 / 288230376151711744 : Nat) : Int) := by
  have e1 : IntKind.u64.wrap (-(x : Int)) = ((18446744073709551616 - x : Nat) : Int) := by rw [IntKind.wrap_u64]; omega
  rw [e1, bits_and_u64_nat x _ hx (by omega), hlow, IntKind.wrap_u64]
  omega

set_option maxHeartbeats 400000 in
theorem tz_walk (x k idx : Nat) (w : World) (hx0 : ((x : Int) == 0) = false)
    (key : IntKind.u64.wrap (bits BinOp.and IntKind.u64 (x : Int) (IntKind.u64.wrap (-(x : Int))) * 285870213051353865) / 288230376151711744 = (idx : Int))
    (hi : idx < 64) (hk : k < 64) (hcell : w.cell? ⟨0, idx, none⟩ = some (.int .u8 k)) :
    Calls Tryd.prog 48 #[.int .u64 x] w fun e w' => e = .returned (.int .i64 k) ∧ w = w' := by
  go_enter Tryd.func48, Tryd.ntmps48
  go_wp2_with (simp only [key])
  go_ret
  exact ⟨rfl, rfl⟩

/-- math/bits.TrailingZeros64 of a word that isn't 0: the place of its lowest set bit. -/
theorem tz_any (x : Nat) (hx0 : x ≠ 0) (hx : x < 18446744073709551616) (w : World) (hT : Tab64 w) :
    Calls Tryd.prog 48 #[.int .u64 x] w fun e w' => e = .returned (.int .i64 (Lib.ctz 64 x : Nat)) ∧ w = w' := by
  obtain ⟨hlow, hk⟩ := Lib.lowest_bit 64 x hx0 hx
  obtain ⟨hi, htab⟩ := Lib.deBruijn64_at _ hk
  have hcell := hT _ hi
  rw [htab] at hcell
  exact tz_walk x _ _ w (by simp; omega) (tz_key x _ hx hx0 hlow) hi hk hcell
end Go.Proofs.YtmedpnlmdncieaaDoor

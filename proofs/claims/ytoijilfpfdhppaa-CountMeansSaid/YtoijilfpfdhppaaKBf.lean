/- Walks of bits.Get, riddleref01.Get, bits.one. -/
import Derived.Test.YtoijilfpfdhppaaKBe
import Derived.Test.YtoijilfpfdhppaaVb
namespace Go.Proofs.Ytoijilfpfdhppaa
open Go.RowKit

/-- the bit of a vector at any place, told for whole numbers -/
def bitI (f : Nat → Bool) (i : Int) : Bool := if 0 ≤ i then f i.toNat else false
theorem bitI_nat (f : Nat → Bool) (k : Nat) : bitI f (k : Int) = f k := by simp [bitI]
theorem bitI_neg (f : Nat → Bool) (i : Int) (h : i < 0) : bitI f i = false := by
  have : ¬ 0 ≤ i := by omega
  simp [bitI, this]

theorem get_nat (f : Nat → Bool) (n : Nat) (A : Option Addr) (c : Nat) (k : Nat) (hi : k ≤ 9223372036854775807) (w : World) (h : Vec w A n c f) :
    Calls Try.prog 39 #[.slice A n c, .int .i64 (k : Int)] w fun e w' => e = .returned (.bool (f k)) ∧ w = w' := by
  have hw := has_word f k
  have Hat := Lib.hid (fun W (h : Vec W A n c f) => at_any f n h.sup A c (k / 64) _ W h.rd)
  rw [show ((k / 64 : Nat) : Int) = (k : Int) / 64 from by omega] at Hat
  have HV := Lib.hid h
  clear h
  have hd : decide (0 ≤ (k : Int)) = true := by simp
  go_enter Try.func39, Try.ntmps39
  go_wp2_with fail
  refine (Hat.out _ HV.out).mono ?_
  rintro e w1 ⟨rfl, rfl⟩
  go_wp2
  go_ret
  exact ⟨rfl, rfl⟩

theorem get_neg (n : Nat) (A : Option Addr) (c : Nat) (i : Int) (h : i < 0) (w : World) :
    Calls Try.prog 39 #[.slice A n c, .int .i64 i] w fun e w' => e = .returned (.bool false) ∧ w = w' := by
  have hd : decide (0 ≤ i) = false := by simpa using h
  go_enter Try.func39, Try.ntmps39
  go_wp2
  go_ret
  exact ⟨rfl, rfl⟩

/-- Get, at any place -/
theorem get_any (f : Nat → Bool) (n : Nat) (A : Option Addr) (c : Nat) (i : Int) (hi : i ≤ 9223372036854775807) (w : World) (h : Vec w A n c f) :
    Calls Try.prog 39 #[.slice A n c, .int .i64 i] w fun e w' => e = .returned (.bool (bitI f i)) ∧ w = w' := by
  by_cases h0 : 0 ≤ i
  · obtain ⟨k, rfl⟩ : ∃ k : Nat, i = (k : Int) := ⟨i.toNat, by omega⟩
    rw [bitI_nat]
    exact get_nat f n A c k (by omega) w h
  · rw [bitI_neg f i (by omega)]
    exact get_neg n A c i (by omega) w
/-- one: a single bit -/
def noneB : Nat → Bool := fun _ => false
theorem pw_none (k : Nat) : pw noneB k = 0 := bitsOf_none 64
theorem vw_none (n : Nat) : vw noneB n = List.replicate n 0 := by
  apply List.ext_getElem?
  intro j
  by_cases h : j < n
  · rw [vw_get _ _ _ h, pw_none]
    simp [h]
  · rw [List.getElem?_eq_none (by rw [vw_length]; omega), List.getElem?_eq_none (by simp; omega)]
theorem u64s_set (L : List Nat) (k x : Nat) : (u64s L).set k (.int .u64 ((x : Nat) : Int)) = u64s (L.set k x) := by
  unfold u64s
  rw [List.map_set]
theorem one_sup (i : Nat) : Sup (addB noneB i) (i / 64 + 1) := addB_sup (n := 0) (fun _ _ => rfl) (by omega) (by omega)
theorem one_word (i : Nat) : IntKind.u64.wrap (2 ^ (i % 64)) = ((pw (addB noneB i) (i / 64) : Nat) : Int) := by
  have h := or_bit noneB i
  rw [← h, pw_none]
  have h64 : i % 64 < 64 := Nat.mod_lt _ (by decide)
  have h2 : 2 ^ (i % 64) < 18446744073709551616 := Nat.pow_lt_pow_right (by decide : 1 < 2) h64
  have e : IntKind.u64.wrap (2 ^ (i % 64)) = ((2 ^ (i % 64) : Nat) : Int) := by
    rw [IntKind.wrap_u64]
    rw [show ((2 : Int) ^ (i % 64)) = ((2 ^ (i % 64) : Nat) : Int) from by simp]
    generalize 2 ^ (i % 64) = y at *
    omega
  rw [e]
  have := bits_or_u64_nat 0 (2 ^ (i % 64)) (by decide) h2
  rw [this, Nat.zero_or]
theorem one_any (i : Nat) (hi : i ≤ 65535) (w : World) :
    Calls Try.prog 42 #[.int .i64 (i : Int)] w fun e w' => ∃ A, e = .returned (.slice A (i / 64 + 1 : Nat) (i / 64 + 1)) ∧ Vec w' A (i / 64 + 1) (i / 64 + 1) (addB noneB i) ∧ Below w.heap.size w w' := by
  obtain ⟨i0, hti, hz0, hz1, hz2⟩ := word_parts
  obtain ⟨N, hN⟩ : ∃ N, N = i / 64 + 1 := ⟨_, rfl⟩
  have hN1 : N ≤ 1024 := by omega
  obtain ⟨w1, hmk, hown, hgr⟩ := run_make_full (P := Try.prog) w w.heap.size 47 22 i0 _ 1 Try.underlying47 hti hz0 hz1 .i64 .i64 N (by rw [hz2]; omega) (by unfold maxLen; omega) (Nat.le_refl _)
  rw [made_words, ← vw_none] at hown
  rw [show (N : Int) = (i : Int) / 64 + 1 from by omega] at hmk
  have hb1 : Below w.heap.size w w1 := (Below.refl _ _).grown hgr (Nat.le_refl _) (fun k hk => by cases hk)
  have hcell := hown.cellAt (i / 64) (by omega)
  rw [vw_cell _ _ _ (by omega)] at hcell
  have hfz := hown.frozenAt (i / 64)
  obtain ⟨hown2, hgr2⟩ := hown.stored (i / 64) (.int .u64 ((pw (addB noneB i) (i / 64) : Nat) : Int))
  rw [u64s_set, vw_set] at hown2
  have hb2 := Lib.hid (below_byGrown hb1 hgr2 hb1.size (Nat.le_refl _))
  have hw := one_word i
  obtain ⟨_, A', c', e', hrd⟩ := own_rd hown2
  simp only [Value.slice.injEq] at e'
  obtain ⟨rfl, _, rfl⟩ := e'
  have Hrd := Lib.hid hrd
  have HN := Lib.hid hN
  have hlt : i / 64 < N := by omega
  clear hrd hown2 hgr2 hown hgr hti hz0 hz1 hz2 hN hb1
  go_enter Try.func42, Try.ntmps42
  go_wp2
  go_ret
  rw [← HN.out]
  exact ⟨_, rfl, ⟨Hrd.out, Nat.le_refl _, HN.out ▸ one_sup i, by unfold many; omega⟩, hb2.out⟩
end Go.Proofs.Ytoijilfpfdhppaa

/- Plain mathematics on numbers as sets of bits: bitsOf, its tests, joins, the lowest set bit, the count of set bits. No program in sight. -/
import Derived.Laws.BitsAllLaws
import Derived.Lib.TrailingZeros
namespace Go.Proofs.YtnkiiphliilegaaDoor

/-- The number below 2^n whose bit j is f j. -/
def bitsOf (f : Nat → Bool) : Nat → Nat
  | 0 => 0
  | n + 1 => 2 * bitsOf (fun j => f (j + 1)) n + (f 0).toNat

theorem bitsOf_lt (f : Nat → Bool) (n : Nat) : bitsOf f n < 2 ^ n := by
  induction n generalizing f with
  | zero => simp [bitsOf]
  | succ n ih =>
    have h := ih (fun j => f (j + 1))
    have hb : (f 0).toNat ≤ 1 := by cases f 0 <;> simp
    simp only [bitsOf, Nat.pow_succ]
    omega

theorem bitsOf_testBit (f : Nat → Bool) (n j : Nat) : (bitsOf f n).testBit j = (decide (j < n) && f j) := by
  induction n generalizing f j with
  | zero => simp [bitsOf]
  | succ n ih =>
    have hb : (f 0).toNat ≤ 1 := by cases f 0 <;> simp
    cases j with
    | zero =>
      rw [Nat.testBit_zero]
      cases h : f 0 <;> simp [bitsOf, h]
    | succ j =>
      rw [Nat.testBit_succ]
      have e : (2 * bitsOf (fun j => f (j + 1)) n + (f 0).toNat) / 2 = bitsOf (fun j => f (j + 1)) n := by omega
      simp only [bitsOf, e]
      rw [ih]
      simp

theorem eq_of_bits {x y n : Nat} (hx : x < 2 ^ n) (hy : y < 2 ^ n) (h : ∀ j, j < n → x.testBit j = y.testBit j) : x = y := by
  apply Nat.eq_of_testBit_eq
  intro j
  by_cases hj : j < n
  · exact h j hj
  · have hp : 2 ^ n ≤ 2 ^ j := Nat.pow_le_pow_right (by decide) (by omega)
    rw [Nat.testBit_lt_two_pow (Nat.lt_of_lt_of_le hx hp), Nat.testBit_lt_two_pow (Nat.lt_of_lt_of_le hy hp)]

theorem bitsOf_congr {f g : Nat → Bool} {n : Nat} (h : ∀ j, j < n → f j = g j) : bitsOf f n = bitsOf g n :=
  eq_of_bits (bitsOf_lt f n) (bitsOf_lt g n) fun j hj => by rw [bitsOf_testBit, bitsOf_testBit, h j hj]

theorem bitsOf_inj {f g : Nat → Bool} {n : Nat} (h : bitsOf f n = bitsOf g n) : ∀ j, j < n → f j = g j := by
  intro j hj
  have := congrArg (fun x => x.testBit j) h
  simpa [bitsOf_testBit, hj] using this

theorem bitsOf_self {x n : Nat} (hx : x < 2 ^ n) : bitsOf (fun j => x.testBit j) n = x :=
  eq_of_bits (bitsOf_lt _ n) hx fun j hj => by rw [bitsOf_testBit]; simp [hj]

theorem bitsOf_and (f g : Nat → Bool) (n : Nat) : bitsOf f n &&& bitsOf g n = bitsOf (fun j => f j && g j) n := by
  apply Nat.eq_of_testBit_eq
  intro j
  rw [Nat.testBit_and, bitsOf_testBit, bitsOf_testBit, bitsOf_testBit]
  cases decide (j < n) <;> simp

theorem bitsOf_or (f g : Nat → Bool) (n : Nat) : bitsOf f n ||| bitsOf g n = bitsOf (fun j => f j || g j) n := by
  apply Nat.eq_of_testBit_eq
  intro j
  rw [Nat.testBit_or, bitsOf_testBit, bitsOf_testBit, bitsOf_testBit]
  cases decide (j < n) <;> simp

theorem bitsOf_not (f : Nat → Bool) (n : Nat) : 2 ^ n - 1 - bitsOf f n = bitsOf (fun j => !f j) n := by
  have hl := bitsOf_lt f n
  apply Nat.eq_of_testBit_eq
  intro j
  have e : 2 ^ n - 1 - bitsOf f n = 2 ^ n - (bitsOf f n + 1) := by omega
  rw [e, Nat.testBit_two_pow_sub_succ hl, bitsOf_testBit, bitsOf_testBit]
  cases h : decide (j < n) <;> simp

theorem bitsOf_andNot (f g : Nat → Bool) (n : Nat) : bitsOf f n &&& (2 ^ n - 1 - bitsOf g n) = bitsOf (fun j => f j && !g j) n := by
  rw [bitsOf_not, bitsOf_and]

theorem bitsOf_one (k n : Nat) (hk : k < n) : bitsOf (fun j => decide (j = k)) n = 2 ^ k := by
  apply Nat.eq_of_testBit_eq
  intro j
  rw [bitsOf_testBit, Nat.testBit_two_pow]
  by_cases h : j = k
  · subst h; simp [hk]
  · have h' : ¬ k = j := fun e => h e.symm
    simp [h, h']

theorem bitsOf_none (n : Nat) : bitsOf (fun _ => false) n = 0 := by
  apply Nat.eq_of_testBit_eq
  intro j
  rw [bitsOf_testBit]; simp

theorem bitsOf_zero {f : Nat → Bool} {n : Nat} (h : bitsOf f n = 0) : ∀ j, j < n → f j = false :=
  bitsOf_inj (h.trans (bitsOf_none n).symm)

/-- the bit k asked for as Go asks for it -/
theorem bitsOf_ask (f : Nat → Bool) (n k : Nat) (hk : k < n) : (bitsOf f n / 2 ^ k) % 2 = (f k).toNat := by
  have h := bitsOf_testBit f n k
  rw [Nat.testBit_eq_decide_div_mod_eq] at h
  cases hf : f k
  · simp only [hk, hf, decide_true, Bool.and_false, decide_eq_false_iff_not] at h
    simp; omega
  · simp only [hk, hf, decide_true, Bool.and_true, decide_eq_true_eq] at h
    simp [h]

/-- The lowest set bit: its place, and the number without it. -/
theorem bitsOf_low (f : Nat → Bool) (n : Nat) (h0 : bitsOf f n ≠ 0) :
    Lib.ctz n (bitsOf f n) < n ∧ f (Lib.ctz n (bitsOf f n)) = true ∧ (∀ j, j < Lib.ctz n (bitsOf f n) → f j = false) ∧
      bitsOf f n &&& (bitsOf f n - 1) = bitsOf (fun j => f j && decide (Lib.ctz n (bitsOf f n) < j)) n := by
  have hlt := bitsOf_lt f n
  obtain ⟨m, hm, hk⟩ := Lib.ctzFrom_spec n (bitsOf f n) (by omega) hlt
  have e : Lib.ctz n (bitsOf f n) = Lib.ctzFrom n (bitsOf f n) := by simp [Lib.ctz, h0]
  rw [e]
  generalize Lib.ctzFrom n (bitsOf f n) = k at hm hk
  have ht : ∀ j, (bitsOf f n).testBit j = (decide (k ≤ j) && (2 * m + 1).testBit (j - k)) := by
    intro j; rw [hm, Nat.mul_comm (2 ^ k), Nat.testBit_mul_two_pow]
  have hb : ∀ j, j < n → f j = (decide (k ≤ j) && (2 * m + 1).testBit (j - k)) := by
    intro j hj
    have := ht j
    rw [bitsOf_testBit] at this
    simpa [hj] using this
  refine ⟨hk, ?_, ?_, ?_⟩
  · rw [hb k hk]; simp [Nat.testBit_zero]
  · intro j hj
    rw [hb j (by omega)]
    have : ¬ k ≤ j := by omega
    simp [this]
  · have e1 : bitsOf f n - 1 = 2 ^ k * (2 * m) + (2 ^ k - 1) := by
      have : 0 < 2 ^ k := Nat.two_pow_pos k
      rw [hm, Nat.mul_add]
      omega
    have hp : 2 ^ k - 1 < 2 ^ k := by have : 0 < 2 ^ k := Nat.two_pow_pos k; omega
    apply Nat.eq_of_testBit_eq
    intro j
    rw [Nat.testBit_and, e1, Nat.testBit_two_pow_mul_add _ hp, bitsOf_testBit, bitsOf_testBit]
    by_cases hj : j < n
    · simp only [hj, decide_true, Bool.true_and]
      by_cases hkj : j < k
      · have hn : ¬ k ≤ j := by omega
        have hf : f j = false := by rw [hb j hj]; simp [hn]
        simp [hf]
      · simp only [hkj, if_false]
        by_cases he : j = k
        · subst he
          simp [Nat.testBit_zero]
        · have h1 : k < j := by omega
          have h2 : k ≤ j := by omega
          obtain ⟨d, hd⟩ : ∃ d, j - k = d + 1 := ⟨j - k - 1, by omega⟩
          rw [hb j hj, hd]
          simp only [h1, h2, decide_true, Bool.true_and, Bool.and_true]
          rw [Nat.testBit_succ, Nat.testBit_succ]
          have d1 : (2 * m + 1) / 2 = m := by omega
          have d2 : 2 * m / 2 = m := by omega
          rw [d1, d2]
          simp
    · simp [hj]

/-- How many of f 0, .., f (n - 1) are true. -/
def popOf (f : Nat → Bool) (n : Nat) : Nat := ((List.range n).filter f).length

theorem popOf_zero (f : Nat → Bool) : popOf f 0 = 0 := rfl
theorem popOf_succ (f : Nat → Bool) (n : Nat) : popOf f (n + 1) = popOf f n + (f n).toNat := by
  unfold popOf
  rw [List.range_succ, List.filter_append, List.length_append]
  cases h : f n <;> simp [h]
theorem popOf_le (f : Nat → Bool) (n : Nat) : popOf f n ≤ n := by
  have := List.length_filter_le f (List.range n)
  simpa [popOf] using this
theorem popOf_shift (f : Nat → Bool) (n : Nat) : popOf f (n + 1) = (f 0).toNat + popOf (fun j => f (j + 1)) n := by
  induction n with
  | zero => simp [popOf_succ, popOf_zero]
  | succ n ih => rw [popOf_succ, ih, popOf_succ]; omega
theorem popOf_add (f : Nat → Bool) (m n : Nat) : popOf f (m + n) = popOf f m + popOf (fun j => f (m + j)) n := by
  induction n with
  | zero => simp [popOf_zero]
  | succ n ih => rw [← Nat.add_assoc, popOf_succ, popOf_succ, ih, Nat.add_assoc]
theorem popOf_congr {f g : Nat → Bool} {n : Nat} (h : ∀ j, j < n → f j = g j) : popOf f n = popOf g n := by
  induction n with
  | zero => rfl
  | succ n ih => rw [popOf_succ, popOf_succ, ih fun j hj => h j (by omega), h n (by omega)]

end Go.Proofs.YtnkiiphliilegaaDoor

/- Plain mathematics: the count of a word's set bits by sums of neighbours (the way of math/bits.OnesCount64) is the number of its set bits. No program in sight. -/
import Derived.Test.YtnkiiphliilegaaDoorMa
namespace Go.Proofs.YtnkiiphliilegaaDoor

/-- A number of its bytes, the lowest first. -/
def joinB : List Nat → Nat
  | [] => 0
  | b :: bs => b + 256 * joinB bs

theorem low_and (u t v k : Nat) (hu : u < 2 ^ k) (hv : v < 2 ^ k) : (2 ^ k * t + u) &&& v = u &&& v := by
  apply Nat.eq_of_testBit_eq
  intro j
  rw [Nat.testBit_and, Nat.testBit_and, Nat.testBit_two_pow_mul_add _ hu]
  by_cases hj : j < k
  · simp [hj]
  · have hp : 2 ^ k ≤ 2 ^ j := Nat.pow_le_pow_right (by decide) (by omega)
    rw [Nat.testBit_lt_two_pow (Nat.lt_of_lt_of_le hv hp)]
    simp

theorem and_split (x v m : Nat) (hv : v < 256) : x &&& (v + 256 * m) = ((x % 256) &&& v) + 256 * ((x / 256) &&& m) := by
  have h1 : (x % 256) &&& v < 2 ^ 8 := Nat.and_lt_two_pow _ (by omega)
  have e1 : x = 2 ^ 8 * (x / 256) + x % 256 := by omega
  have e2 : v + 256 * m = 2 ^ 8 * m + v := by omega
  have e3 : ((x % 256) &&& v) + 256 * ((x / 256) &&& m) = 2 ^ 8 * ((x / 256) &&& m) + ((x % 256) &&& v) := by omega
  rw [e2, e3]
  apply Nat.eq_of_testBit_eq
  intro j
  rw [Nat.testBit_two_pow_mul_add _ h1, Nat.testBit_and, Nat.testBit_two_pow_mul_add _ (by omega : v < 2 ^ 8)]
  conv => lhs; rw [e1]
  rw [Nat.testBit_two_pow_mul_add _ (by omega : x % 256 < 2 ^ 8)]
  by_cases hj : j < 8 <;> simp [hj]

def repB (v : Nat) (n : Nat) : Nat := joinB (List.replicate n v)

/-- bytes moved down by k and cut by a mask without the k top bits: byte by byte -/
theorem joinB_and (v k : Nat) (hk : k ≤ 8) (hv : v < 2 ^ (8 - k)) : ∀ bs : List Nat, (∀ b ∈ bs, b < 256) →
    joinB bs / 2 ^ k &&& repB v bs.length = joinB (bs.map fun b => b / 2 ^ k &&& v)
  | [], _ => by simp [joinB]
  | b :: bs, h => by
    have hb : b < 256 := h b (by simp)
    have ih := joinB_and v k hk hv bs fun c hc => h c (by simp [hc])
    have hv8 : v < 256 := by
      have : 2 ^ (8 - k) ≤ 2 ^ 8 := Nat.pow_le_pow_right (by decide) (by omega)
      omega
    have hr : repB v (b :: bs).length = v + 256 * repB v bs.length := rfl
    have hkp : 0 < 2 ^ k := Nat.two_pow_pos k
    have h8 : 2 ^ (8 - k) * 2 ^ k = 256 := by
      rw [← Nat.pow_add]
      have : 8 - k + k = 8 := by omega
      rw [this]
    have hd : (b + 256 * joinB bs) / 2 ^ k = b / 2 ^ k + 2 ^ (8 - k) * joinB bs := by
      have e : b + 256 * joinB bs = b + 2 ^ k * (2 ^ (8 - k) * joinB bs) := by
        rw [← Nat.mul_assoc, Nat.mul_comm (2 ^ k), h8]
      rw [e, Nat.add_mul_div_left _ _ hkp]
    have hbk : b / 2 ^ k < 2 ^ (8 - k) := by
      apply Nat.div_lt_of_lt_mul
      rw [Nat.mul_comm, h8]
      exact hb
    have hq : (b / 2 ^ k + 2 ^ (8 - k) * joinB bs) / 256 = joinB bs / 2 ^ k := by
      have : (256 : Nat) = 2 ^ (8 - k) * 2 ^ k := h8.symm
      rw [this, ← Nat.div_div_eq_div_mul, Nat.add_mul_div_left _ _ (Nat.two_pow_pos _), Nat.div_eq_of_lt hbk, Nat.zero_add]
    have hm : ((b / 2 ^ k + 2 ^ (8 - k) * joinB bs) % 256) &&& v = b / 2 ^ k &&& v := by
      have e : (b / 2 ^ k + 2 ^ (8 - k) * joinB bs) % 256 = 2 ^ (8 - k) * (joinB bs % 2 ^ k) + b / 2 ^ k := by
        have h1 : joinB bs = 2 ^ k * (joinB bs / 2 ^ k) + joinB bs % 2 ^ k := (Nat.div_add_mod _ _).symm
        have h2 : 2 ^ (8 - k) * joinB bs = 256 * (joinB bs / 2 ^ k) + 2 ^ (8 - k) * (joinB bs % 2 ^ k) := by
          conv => lhs; rw [h1]
          rw [Nat.mul_add, ← Nat.mul_assoc, h8]
        have h3 : joinB bs % 2 ^ k < 2 ^ k := Nat.mod_lt _ hkp
        have h4 : 2 ^ (8 - k) * (joinB bs % 2 ^ k) + b / 2 ^ k < 256 := by
          have : 2 ^ (8 - k) * (joinB bs % 2 ^ k) + 2 ^ (8 - k) ≤ 2 ^ (8 - k) * 2 ^ k := by
            rw [← Nat.mul_succ]
            exact Nat.mul_le_mul_left _ h3
          omega
        rw [h2]
        omega
      rw [e]
      exact low_and _ _ _ _ hbk hv
    simp only [joinB, List.map_cons]
    rw [hr, hd, and_split _ _ _ hv8, hm, hq, ih]

theorem joinB_add (f g : Nat → Nat) (bs : List Nat) : joinB (bs.map f) + joinB (bs.map g) = joinB (bs.map fun b => f b + g b) := by
  induction bs with
  | nil => rfl
  | cons b bs ih => simp only [joinB, List.map_cons]; omega

theorem joinB_le (v : Nat) : ∀ bs : List Nat, (∀ b ∈ bs, b ≤ v) → joinB bs ≤ repB v bs.length
  | [], _ => by simp [joinB]
  | b :: bs, h => by
    have h1 := h b (by simp)
    have h2 := joinB_le v bs fun c hc => h c (by simp [hc])
    have hr : repB v (b :: bs).length = v + 256 * repB v bs.length := rfl
    rw [hr]
    simp only [joinB]
    omega

def pb1 (b : Nat) : Nat := (b / 2 &&& 85) + (b &&& 85)
def pb2 (b : Nat) : Nat := (b / 4 &&& 51) + (b &&& 51)

theorem pb_all : ∀ b, b < 256 → pb1 b < 256 ∧ pb2 (pb1 b) / 16 ≤ 4 ∧ pb2 (pb1 b) % 16 ≤ 4 ∧ pb2 (pb1 b) / 16 + pb2 (pb1 b) % 16 = popOf b.testBit 8 := by
  decide +kernel

/-- the first two sums, of eight bytes -/
theorem pop_two (b0 b1 b2 b3 b4 b5 b6 b7 : Nat) (h : ∀ b ∈ [b0, b1, b2, b3, b4, b5, b6, b7], b < 256) (x y : Nat) (hx : x = joinB [b0, b1, b2, b3, b4, b5, b6, b7])
    (hy : y = (x / 2 &&& 6148914691236517205) + (x &&& 6148914691236517205)) :
    (y / 4 &&& 3689348814741910323) + (y &&& 3689348814741910323) = joinB ([b0, b1, b2, b3, b4, b5, b6, b7].map fun b => pb2 (pb1 b)) := by
  have m1 : (6148914691236517205 : Nat) = repB 85 8 := by decide +kernel
  have m2 : (3689348814741910323 : Nat) = repB 51 8 := by decide +kernel
  have a1 := joinB_and 85 1 (by omega) (by decide) _ h
  have a0 := joinB_and 85 0 (by omega) (by decide) _ h
  have hy' : y = joinB ([b0, b1, b2, b3, b4, b5, b6, b7].map pb1) := by
    rw [hy, hx, m1]
    have l : [b0, b1, b2, b3, b4, b5, b6, b7].length = 8 := rfl
    rw [l] at a1 a0
    simp only [Nat.pow_one] at a1
    simp only [Nat.pow_zero, Nat.div_one] at a0
    rw [a1, a0, joinB_add]
    rfl
  have h' : ∀ b ∈ [b0, b1, b2, b3, b4, b5, b6, b7].map pb1, b < 256 := by
    intro b hb
    obtain ⟨c, hc, rfl⟩ := List.mem_map.1 hb
    exact (pb_all c (h c hc)).1
  have c1 := joinB_and 51 2 (by omega) (by decide) _ h'
  have c0 := joinB_and 51 0 (by omega) (by decide) _ h'
  have l : ([b0, b1, b2, b3, b4, b5, b6, b7].map pb1).length = 8 := rfl
  rw [l] at c1 c0
  simp only [Nat.pow_zero, Nat.div_one] at c0
  have e4 : (2 : Nat) ^ 2 = 4 := rfl
  rw [e4] at c1
  rw [hy', m2, c1, c0, joinB_add, List.map_map]
  rfl

/-- the third sum: neighbours of four bits -/
theorem pop_three (y0 y1 y2 y3 y4 y5 y6 y7 : Nat) (h : ∀ b ∈ [y0, y1, y2, y3, y4, y5, y6, y7], b / 16 ≤ 4 ∧ b % 16 ≤ 4) (y : Nat) (hy : y = joinB [y0, y1, y2, y3, y4, y5, y6, y7]) :
    (y / 16 + y) &&& 1085102592571150095 = joinB [y0 / 16 + y0 % 16, y1 / 16 + y1 % 16, y2 / 16 + y2 % 16, y3 / 16 + y3 % 16, y4 / 16 + y4 % 16, y5 / 16 + y5 % 16, y6 / 16 + y6 % 16, y7 / 16 + y7 % 16] := by
  simp only [List.mem_cons, List.not_mem_nil, or_false, forall_eq_or_imp, forall_eq] at h
  have two : ∀ b : Nat, b / 16 ≤ 4 ∧ b % 16 ≤ 4 → ∃ u l : Nat, b = 16 * u + l ∧ u ≤ 4 ∧ l ≤ 4 ∧ b / 16 = u ∧ b % 16 = l := fun b hb => ⟨b / 16, b % 16, by omega, hb.1, hb.2, rfl, rfl⟩
  obtain ⟨h0, h1, h2, h3, h4, h5, h6, h7⟩ := h
  obtain ⟨u0, l0, rfl, hu0, hl0, d0, m0⟩ := two _ h0
  obtain ⟨u1, l1, rfl, hu1, hl1, d1, m1⟩ := two _ h1
  obtain ⟨u2, l2, rfl, hu2, hl2, d2, m2⟩ := two _ h2
  obtain ⟨u3, l3, rfl, hu3, hl3, d3, m3⟩ := two _ h3
  obtain ⟨u4, l4, rfl, hu4, hl4, d4, m4⟩ := two _ h4
  obtain ⟨u5, l5, rfl, hu5, hl5, d5, m5⟩ := two _ h5
  obtain ⟨u6, l6, rfl, hu6, hl6, d6, m6⟩ := two _ h6
  obtain ⟨u7, l7, rfl, hu7, hl7, d7, m7⟩ := two _ h7
  clear two h0 h1 h2 h3 h4 h5 h6 h7
  rw [d0, m0, d1, m1, d2, m2, d3, m3, d4, m4, d5, m5, d6, m6, d7, m7]
  clear d0 m0 d1 m1 d2 m2 d3 m3 d4 m4 d5 m5 d6 m6 d7 m7
  have mm : (1085102592571150095 : Nat) = repB 15 8 := by decide +kernel
  obtain ⟨T, hT⟩ : ∃ T, T = u0 + 16 * (l1 + 16 * (u1 + 16 * (l2 + 16 * (u2 + 16 * (l3 + 16 * (u3 + 16 * (l4 + 16 * (u4 + 16 * (l5 + 16 * (u5 + 16 * (l6 + 16 * (u6 + 16 * (l7 + 16 * u7))))))))))))) := ⟨_, rfl⟩
  have hyT : y = 16 * T + l0 := by
    rw [hy, hT]
    simp only [joinB]
    omega
  have hdiv : y / 16 = T := by
    clear hT hy
    omega
  have key : y / 16 + y = joinB [16 * (u0 + l1) + (u0 + l0), 16 * (u1 + l2) + (u1 + l1), 16 * (u2 + l3) + (u2 + l2), 16 * (u3 + l4) + (u3 + l3), 16 * (u4 + l5) + (u4 + l4), 16 * (u5 + l6) + (u5 + l5), 16 * (u6 + l7) + (u6 + l6), 16 * u7 + (u7 + l7)] := by
    rw [hdiv, hyT, hT]
    simp only [joinB]
    omega
  clear hyT hdiv hT hy
  have a := joinB_and 15 0 (by omega) (by decide) [16 * (u0 + l1) + (u0 + l0), 16 * (u1 + l2) + (u1 + l1), 16 * (u2 + l3) + (u2 + l2), 16 * (u3 + l4) + (u3 + l3), 16 * (u4 + l5) + (u4 + l4), 16 * (u5 + l6) + (u5 + l5), 16 * (u6 + l7) + (u6 + l6), 16 * u7 + (u7 + l7)] (by
    simp only [List.mem_cons, List.not_mem_nil, or_false, forall_eq_or_imp, forall_eq]
    refine ⟨?_, ?_, ?_, ?_, ?_, ?_, ?_, ?_⟩ <;> omega)
  have dig : ∀ n m : Nat, m < 16 → (16 * n + m) &&& 15 = m := fun n m hm => by
    rw [Nat.and_two_pow_sub_one_eq_mod _ 4]; omega
  have l : ∀ a b c d e f g h : Nat, [a, b, c, d, e, f, g, h].length = 8 := fun _ _ _ _ _ _ _ _ => rfl
  rw [l] at a
  simp only [Nat.pow_zero, Nat.div_one, List.map_cons, List.map_nil] at a
  rw [dig _ _ (by omega), dig _ _ (by omega), dig _ _ (by omega), dig _ _ (by omega), dig _ _ (by omega), dig _ _ (by omega), dig _ _ (by omega), dig _ _ (by omega)] at a
  rw [key, mm, a]

theorem four_a (r0 r1 r2 r3 r4 r5 r6 r7 : Nat) :
    (r0 + 256 * (r1 + 256 * (r2 + 256 * (r3 + 256 * (r4 + 256 * (r5 + 256 * (r6 + 256 * (r7 + 256 * 0)))))))) + (r1 + 256 * (r2 + 256 * (r3 + 256 * (r4 + 256 * (r5 + 256 * (r6 + 256 * r7)))))) =
      65536 * ((r2 + r3) + 256 * ((r3 + r4) + 256 * ((r4 + r5) + 256 * ((r5 + r6) + 256 * ((r6 + r7) + 256 * r7))))) + ((r0 + r1) + 256 * (r1 + r2)) := by omega
theorem four_b (r0 r1 r2 r3 r4 r5 r6 r7 : Nat) :
    (65536 * ((r2 + r3) + 256 * ((r3 + r4) + 256 * ((r4 + r5) + 256 * ((r5 + r6) + 256 * ((r6 + r7) + 256 * r7))))) + ((r0 + r1) + 256 * (r1 + r2))) + ((r2 + r3) + 256 * ((r3 + r4) + 256 * ((r4 + r5) + 256 * ((r5 + r6) + 256 * ((r6 + r7) + 256 * r7))))) =
      4294967296 * ((r4 + r5 + r6 + r7) + 256 * ((r5 + r6 + r7) + 256 * ((r6 + r7) + 256 * r7))) + ((r0 + r1 + r2 + r3) + 256 * ((r1 + r2 + r3 + r4) + 256 * ((r2 + r3 + r4 + r5) + 256 * (r3 + r4 + r5 + r6)))) := by omega
theorem four_c (r0 r1 r2 r3 r4 r5 r6 r7 : Nat) :
    (4294967296 * ((r4 + r5 + r6 + r7) + 256 * ((r5 + r6 + r7) + 256 * ((r6 + r7) + 256 * r7))) + ((r0 + r1 + r2 + r3) + 256 * ((r1 + r2 + r3 + r4) + 256 * ((r2 + r3 + r4 + r5) + 256 * (r3 + r4 + r5 + r6))))) + ((r4 + r5 + r6 + r7) + 256 * ((r5 + r6 + r7) + 256 * ((r6 + r7) + 256 * r7))) =
      128 * (33554432 * ((r4 + r5 + r6 + r7) + 256 * ((r5 + r6 + r7) + 256 * ((r6 + r7) + 256 * r7))) + 2 * ((r1 + r2 + r3 + r4) + 256 * ((r2 + r3 + r4 + r5) + 256 * (r3 + r4 + r5 + r6))) + 2 * ((r5 + r6 + r7) + 256 * ((r6 + r7) + 256 * r7))) + (r0 + r1 + r2 + r3 + r4 + r5 + r6 + r7) := by omega
/-- the last sums -/
theorem pop_four (r0 r1 r2 r3 r4 r5 r6 r7 : Nat) (h : ∀ b ∈ [r0, r1, r2, r3, r4, r5, r6, r7], b ≤ 8) (R a b c : Nat) (hR : R = joinB [r0, r1, r2, r3, r4, r5, r6, r7])
    (ha : a = R + R / 256) (hb : b = a + a / 65536) (hc : c = b + b / 4294967296) :
    c < 9223372036854775808 ∧ c % 128 = r0 + r1 + r2 + r3 + r4 + r5 + r6 + r7 := by
  simp only [List.mem_cons, List.not_mem_nil, or_false, forall_eq_or_imp, forall_eq] at h
  obtain ⟨h0, h1, h2, h3, h4, h5, h6, h7⟩ := h
  simp only [joinB] at hR
  have dv : ∀ x n q r : Nat, 0 < n → x = n * q + r → r < n → x / n = q := by
    intro x n q r hn hx hr
    rw [hx, Nat.mul_add_div hn, Nat.div_eq_of_lt hr, Nat.add_zero]
  have d1 : R / 256 = r1 + 256 * (r2 + 256 * (r3 + 256 * (r4 + 256 * (r5 + 256 * (r6 + 256 * r7))))) := dv R 256 _ r0 (by decide) (by rw [hR, Nat.mul_zero, Nat.add_zero, Nat.add_comm]) (by omega)
  rw [d1, hR, four_a] at ha
  clear hR d1
  have d2 := dv a 65536 _ ((r0 + r1) + 256 * (r1 + r2)) (by decide) ha (by omega)
  rw [d2, ha, four_b] at hb
  clear ha d2
  have d3 := dv b 4294967296 _ ((r0 + r1 + r2 + r3) + 256 * ((r1 + r2 + r3 + r4) + 256 * ((r2 + r3 + r4 + r5) + 256 * (r3 + r4 + r5 + r6)))) (by decide) hb (by omega)
  rw [d3, hb, four_c] at hc
  clear hb d3 dv
  refine ⟨by omega, ?_⟩
  rw [hc, Nat.mul_add_mod]
  exact Nat.mod_eq_of_lt (by omega)

theorem bytes_of (x : Nat) (hx : x < 18446744073709551616) : ∃ b0 b1 b2 b3 b4 b5 b6 b7 : Nat, (∀ b ∈ [b0, b1, b2, b3, b4, b5, b6, b7], b < 256) ∧ x = joinB [b0, b1, b2, b3, b4, b5, b6, b7] := by
  refine ⟨x % 256, x / 256 % 256, x / 256 / 256 % 256, x / 256 / 256 / 256 % 256, x / 256 / 256 / 256 / 256 % 256, x / 256 / 256 / 256 / 256 / 256 % 256, x / 256 / 256 / 256 / 256 / 256 / 256 % 256, x / 256 / 256 / 256 / 256 / 256 / 256 / 256, ?_, ?_⟩
  · simp only [List.mem_cons, List.not_mem_nil, or_false, forall_eq_or_imp, forall_eq]; omega
  · simp only [joinB]; omega

theorem popOf_joinB : ∀ bs : List Nat, (∀ b ∈ bs, b < 256) → popOf (joinB bs).testBit (8 * bs.length) = (bs.map fun b => popOf b.testBit 8).sum
  | [], _ => by simp [popOf_zero]
  | b :: bs, h => by
    have hb : b < 2 ^ 8 := h b (by simp)
    have e : 8 * (b :: bs).length = 8 + 8 * bs.length := by simp; omega
    have e2 : joinB (b :: bs) = 2 ^ 8 * joinB bs + b := by simp only [joinB]; omega
    rw [e, popOf_add, e2]
    simp only [List.map_cons, List.sum_cons]
    rw [← popOf_joinB bs fun c hc => h c (by simp [hc])]
    congr 1
    · exact popOf_congr fun j hj => by rw [Nat.testBit_two_pow_mul_add _ hb]; simp [hj]
    · exact popOf_congr fun j hj => by
        rw [Nat.testBit_two_pow_mul_add _ hb]
        have : ¬ 8 + j < 8 := by omega
        simp [this]

/-- ALL OF IT: the sums, one behind the other, tell how many bits are set. -/
theorem pop_sums (x A B C D E F : Nat) (hx : x < 18446744073709551616) (hA : A = (x / 2 &&& 6148914691236517205) + (x &&& 6148914691236517205))
    (hB : B = (A / 4 &&& 3689348814741910323) + (A &&& 3689348814741910323)) (hC : C = (B / 16 + B) &&& 1085102592571150095)
    (hD : D = C + C / 256) (hE : E = D + D / 65536) (hF : F = E + E / 4294967296) :
    F < 9223372036854775808 ∧ F % 128 = popOf x.testBit 64 ∧ B ≤ 4919131752989213764 := by
  obtain ⟨b0, b1, b2, b3, b4, b5, b6, b7, hb, rfl⟩ := bytes_of x hx
  have h2 := pop_two b0 b1 b2 b3 b4 b5 b6 b7 hb _ A rfl hA
  rw [← hB] at h2
  have hbs := hb
  simp only [List.mem_cons, List.not_mem_nil, or_false, forall_eq_or_imp, forall_eq] at hbs
  obtain ⟨g0, g1, g2, g3, g4, g5, g6, g7⟩ := hbs
  have q0 := (pb_all b0 g0).2
  have q1 := (pb_all b1 g1).2
  have q2 := (pb_all b2 g2).2
  have q3 := (pb_all b3 g3).2
  have q4 := (pb_all b4 g4).2
  have q5 := (pb_all b5 g5).2
  have q6 := (pb_all b6 g6).2
  have q7 := (pb_all b7 g7).2
  have h3 := pop_three _ _ _ _ _ _ _ _ (by
    simp only [List.mem_cons, List.not_mem_nil, or_false, forall_eq_or_imp, forall_eq]
    exact ⟨⟨q0.1, q0.2.1⟩, ⟨q1.1, q1.2.1⟩, ⟨q2.1, q2.2.1⟩, ⟨q3.1, q3.2.1⟩, ⟨q4.1, q4.2.1⟩, ⟨q5.1, q5.2.1⟩, ⟨q6.1, q6.2.1⟩, ⟨q7.1, q7.2.1⟩⟩) B h2
  rw [← hC, q0.2.2, q1.2.2, q2.2.2, q3.2.2, q4.2.2, q5.2.2, q6.2.2, q7.2.2] at h3
  have p8 : ∀ b, popOf (Nat.testBit b) 8 ≤ 8 := fun b => popOf_le _ 8
  have h4 := pop_four _ _ _ _ _ _ _ _ (by
    simp only [List.mem_cons, List.not_mem_nil, or_false, forall_eq_or_imp, forall_eq]
    exact ⟨p8 b0, p8 b1, p8 b2, p8 b3, p8 b4, p8 b5, p8 b6, p8 b7⟩) C D E F h3 hD hE hF
  refine ⟨h4.1, ?_, ?_⟩
  · rw [h4.2]
    have := popOf_joinB _ hb
    simp only [List.length_cons, List.length_nil, List.map_cons, List.map_nil, List.sum_cons, List.sum_nil] at this
    have e64 : 8 * (0 + 1 + 1 + 1 + 1 + 1 + 1 + 1 + 1) = 64 := rfl
    rw [e64] at this
    rw [this]
    omega
  · rw [h2]
    have hle := joinB_le 68 ([b0, b1, b2, b3, b4, b5, b6, b7].map fun b => pb2 (pb1 b)) (by
      intro c hc
      obtain ⟨d, hd, rfl⟩ := List.mem_map.1 hc
      have := (pb_all d (hb d hd)).2
      omega)
    have e : repB 68 ([b0, b1, b2, b3, b4, b5, b6, b7].map fun b => pb2 (pb1 b)).length = 4919131752989213764 := by
      rw [List.length_map]
      exact (show repB 68 8 = 4919131752989213764 by decide +kernel)
    rw [e] at hle
    exact hle
end Go.Proofs.YtnkiiphliilegaaDoor

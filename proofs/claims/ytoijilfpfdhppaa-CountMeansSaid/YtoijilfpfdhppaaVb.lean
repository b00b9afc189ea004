/- Plain mathematics of vectors of bits: one form, cut, moved up, below a place, counted, their places. No program in sight. -/
import Derived.Test.YtoijilfpfdhppaaVa
namespace Go.Proofs.Ytoijilfpfdhppaa

/-- m words are the one form of f -/
def Canon (f : Nat → Bool) (m : Nat) : Prop := Sup f m ∧ (m = 0 ∨ pw f (m - 1) ≠ 0)
theorem Canon.top_eq {f : Nat → Bool} {m N : Nat} (h : Canon f m) (hN : Sup f N) : top f N = m := by
  refine Nat.le_antisymm (top_min h.1) ?_
  rcases h.2 with rfl | h2
  · omega
  · refine Nat.le_of_not_lt fun hlt => h2 ((top_sup hN).word (by omega))
theorem top_canon {f : Nat → Bool} {N : Nat} (h : Sup f N) : Canon f (top f N) := by
  refine ⟨top_sup h, ?_⟩
  match e : top f N with
  | 0 => exact .inl rfl
  | n + 1 => exact .inr (top_last e)
theorem word_ne {f : Nat → Bool} {i : Nat} (h : f i = true) : pw f (i / 64) ≠ 0 := fun hz => by
  have := word_zero hz (i % 64) (by omega)
  rw [show 64 * (i / 64) + i % 64 = i from by omega, h] at this
  cases this

theorem cutAt_sup (f : Nat → Bool) (n : Nat) : Sup (cutAt f n) ((n + 63) / 64) := fun i hi => by
  have : ¬ i < n := by omega
  simp [cutAt, this]
theorem cutAt_none (f : Nat → Bool) : Canon (cutAt f 0) 0 := ⟨fun i _ => by simp [cutAt], .inl rfl⟩
theorem cutAt_put (f : Nat → Bool) (i : Nat) (h : f i = true) : Canon (cutAt f (i + 1)) (i / 64 + 1) := by
  refine ⟨fun j hj => ?_, .inr ?_⟩
  · have : ¬ j < i + 1 := by omega
    simp [cutAt, this]
  · rw [Nat.add_sub_cancel]
    exact word_ne (by simp [cutAt, h])
theorem cutAt_all {f : Nat → Bool} {n m : Nat} (h : Sup f n) (hm : 64 * n ≤ m) (i : Nat) : cutAt f m i = f i := by
  by_cases hi : i < m
  · simp [cutAt, hi]
  · rw [h i (by omega)]
    simp [cutAt, hi]

theorem vw_set (p : Nat → Bool) (b n : Nat) : (vw p n).set (b / 64) (pw (addB p b) (b / 64)) = vw (addB p b) n := by
  apply List.ext_getElem?
  intro j
  by_cases hj : j < n
  · rw [List.getElem?_set, vw_length, vw_get _ _ _ hj, vw_get _ _ _ hj]
    by_cases e : b / 64 = j
    · subst e
      simp [hj]
    · rw [if_neg e, pw_add_other p b j (by omega)]
  · rw [List.getElem?_eq_none (by simp [vw_length]; omega), List.getElem?_eq_none (by rw [vw_length]; omega)]
theorem vw_more {p : Nat → Bool} {m : Nat} (h : Sup p m) : vw p m ++ [0] = vw p (m + 1) := by rw [vw_succ, h.word (Nat.le_refl _)]

/-- a bit taken out -/
def delB (p : Nat → Bool) (b : Nat) : Nat → Bool := fun x => p x && !decide (x = b)
theorem delB_other (p : Nat → Bool) (b i : Nat) (h : i ≠ b / 64) : pw (delB p b) i = pw p i := by
  unfold pw
  refine bitsOf_congr fun j hj => ?_
  have : ¬ 64 * i + j = b := by omega
  simp [delB, this]
theorem vw_del (p : Nat → Bool) (b n : Nat) : (vw p n).set (b / 64) (pw (delB p b) (b / 64)) = vw (delB p b) n := by
  apply List.ext_getElem?
  intro j
  by_cases hj : j < n
  · rw [List.getElem?_set, vw_length, vw_get _ _ _ hj, vw_get _ _ _ hj]
    by_cases e : b / 64 = j
    · subst e
      simp [hj]
    · rw [if_neg e, delB_other p b j (by omega)]
  · rw [List.getElem?_eq_none (by simp [vw_length]; omega), List.getElem?_eq_none (by rw [vw_length]; omega)]
theorem delB_sup {p : Nat → Bool} {n : Nat} (h : Sup p n) (b : Nat) : Sup (delB p b) n := fun i hi => by simp [delB, h i hi]
theorem delB_no {p : Nat → Bool} {n b : Nat} (h : Sup p n) (hb : n ≤ b / 64) (i : Nat) : delB p b i = p i := by
  by_cases e : i = b
  · subst e
    have := h i (by omega)
    simp [delB, this]
  · simp [delB, e]
theorem addB_sup {p : Nat → Bool} {n b N : Nat} (h : Sup p n) (hn : n ≤ N) (hb : b / 64 < N) : Sup (addB p b) N := fun i hi => by
  have : ¬ i = b := by omega
  simp [addB, h i (by omega), this]

/-- moved up -/
def upB (f : Nat → Bool) (n : Nat) : Nat → Bool := fun b => decide (n ≤ b) && f (b - n)
theorem upB_low (f : Nat → Bool) (n k : Nat) (hk : k < n / 64) : pw (upB f n) k = 0 := by
  unfold pw
  rw [bitsOf_congr (g := fun _ => false) (fun j hj => by
    have : ¬ n ≤ 64 * k + j := by omega
    simp [upB, this])]
  exact bitsOf_none 64
theorem upB_sup {f : Nat → Bool} {N : Nat} (h : Sup f N) (n : Nat) : Sup (upB f n) (n / 64 + N + 1) := fun i hi => by
  have := h (i - n) (by omega)
  simp [upB, this]
theorem upB_sup2 {f : Nat → Bool} {N : Nat} (h : Sup f N) (n M : Nat) (hM : n + 64 * N ≤ 64 * M) : Sup (upB f n) M := fun i hi => by
  have := h (i - n) (by omega)
  simp [upB, this]
theorem upB_upB (f : Nat → Bool) (m n i : Nat) : upB (upB f m) n i = upB f (m + n) i := by
  unfold upB
  rw [Bool.eq_iff_iff]
  simp only [Bool.and_eq_true, decide_eq_true_eq]
  rw [show i - n - m = i - (m + n) from by omega]
  constructor
  · rintro ⟨h1, h2, h3⟩; exact ⟨by omega, h3⟩
  · rintro ⟨h1, h2⟩; exact ⟨by omega, by omega, h2⟩
/-- what a word hands on to the next one -/
def carryOf (f : Nat → Bool) (r k : Nat) : Nat := if r = 0 then 0 else if k = 0 then 0 else pw f (k - 1) / 2 ^ (64 - r)
theorem carryOf_zero (f : Nat → Bool) (r : Nat) : carryOf f r 0 = 0 := by simp [carryOf]
theorem carryOf_none (f : Nat → Bool) (k : Nat) : carryOf f 0 k = 0 := by simp [carryOf]
theorem carryOf_succ (f : Nat → Bool) (r k : Nat) (h : r ≠ 0) : carryOf f r (k + 1) = pw f k / 2 ^ (64 - r) := by simp [carryOf, h]
theorem carryOf_lt (f : Nat → Bool) (r k : Nat) : carryOf f r k < 18446744073709551616 := by
  unfold carryOf
  have := pw_lt f (k - 1)
  split
  · omega
  · split
    · omega
    · exact Nat.lt_of_le_of_lt (Nat.div_le_self _ _) this
theorem pw_testBit (f : Nat → Bool) (k j : Nat) : (pw f k).testBit j = (decide (j < 64) && f (64 * k + j)) := bitsOf_testBit _ _ _
theorem up_word (f : Nat → Bool) (n k : Nat) : pw f k * 2 ^ (n % 64) % 18446744073709551616 ||| carryOf f (n % 64) k = pw (upB f n) (n / 64 + k) := by
  have hr : n % 64 < 64 := Nat.mod_lt _ (by decide)
  have h64 : (18446744073709551616 : Nat) = 2 ^ 64 := by decide
  apply Nat.eq_of_testBit_eq
  intro j
  rw [Nat.testBit_or, h64, Nat.testBit_mod_two_pow, Nat.testBit_mul_two_pow, pw_testBit, pw_testBit]
  have hc : (carryOf f (n % 64) k).testBit j = (decide (n % 64 ≠ 0) && decide (k ≠ 0) && decide (64 - n % 64 + j < 64) && f (64 * (k - 1) + (64 - n % 64 + j))) := by
    unfold carryOf
    by_cases h0 : n % 64 = 0
    · simp [h0]
    · by_cases hk : k = 0
      · simp [h0, hk]
      · rw [if_neg h0, if_neg hk, Nat.testBit_div_two_pow, pw_testBit]
        rw [show j + (64 - n % 64) = 64 - n % 64 + j from by omega]
        simp [h0, hk]
  rw [hc]
  unfold upB
  rw [Bool.eq_iff_iff]
  simp only [Bool.or_eq_true, Bool.and_eq_true, decide_eq_true_eq]
  constructor
  · rintro (⟨h1, h2, h3, h4⟩ | ⟨⟨⟨h1, h2⟩, h3⟩, h4⟩)
    · refine ⟨h1, by omega, ?_⟩
      rw [show 64 * (n / 64 + k) + j - n = 64 * k + (j - n % 64) from by omega]
      exact h4
    · refine ⟨by omega, by omega, ?_⟩
      rw [show 64 * (n / 64 + k) + j - n = 64 * (k - 1) + (64 - n % 64 + j) from by omega]
      exact h4
  · rintro ⟨h1, h2, h3⟩
    by_cases hj : n % 64 ≤ j
    · left
      refine ⟨h1, hj, by omega, ?_⟩
      rw [show 64 * k + (j - n % 64) = 64 * (n / 64 + k) + j - n from by omega]
      exact h3
    · right
      refine ⟨⟨⟨by omega, by omega⟩, by omega⟩, ?_⟩
      rw [show 64 * (k - 1) + (64 - n % 64 + j) = 64 * (n / 64 + k) + j - n from by omega]
      exact h3
theorem up_last {f : Nat → Bool} {N : Nat} (h : Sup f N) (n : Nat) : carryOf f (n % 64) N = pw (upB f n) (n / 64 + N) := by
  have e := up_word f n N
  rw [h.word (Nat.le_refl _), Nat.zero_mul, Nat.zero_mod, Nat.zero_or] at e
  exact e

/-- the bits below a place -/
def lowB (f : Nat → Bool) (n : Int) : Nat → Bool := fun b => f b && decide ((b : Int) < n)
theorem lowB_sup {f : Nat → Bool} {N : Nat} (h : Sup f N) (n : Int) : Sup (lowB f n) N := fun i hi => by simp [lowB, h i hi]
theorem lowB_none {f : Nat → Bool} {n : Int} (h : n ≤ 0) (i : Nat) : lowB f n i = false := by
  have : ¬ (i : Int) < n := by omega
  simp [lowB, this]
theorem lowB_nat (f : Nat → Bool) (n : Nat) (i : Nat) : lowB f (n : Int) i = cutAt f n i := by
  simp [lowB, cutAt]
theorem low_word_below (f : Nat → Bool) (n : Nat) (k : Nat) (h : k < (n - 1) / 64) : pw (lowB f (n : Int)) k = pw f k := by
  unfold pw
  refine bitsOf_congr fun j hj => ?_
  have : ((64 * k + j : Nat) : Int) < (n : Int) := by omega
  show (f (64 * k + j) && decide (((64 * k + j : Nat) : Int) < (n : Int))) = _
  rw [decide_eq_true this, Bool.and_true]
theorem low_word_behind (f : Nat → Bool) (n : Nat) (k : Nat) (hn : 0 < n) (h : (n - 1) / 64 < k) : pw (lowB f (n : Int)) k = 0 := by
  unfold pw
  rw [bitsOf_congr (g := fun _ => false) (fun j hj => by
    have : ¬ ((64 * k + j : Nat) : Int) < (n : Int) := by omega
    show (f (64 * k + j) && decide (((64 * k + j : Nat) : Int) < (n : Int))) = _
    rw [decide_eq_false this, Bool.and_false])]
  exact bitsOf_none 64
theorem low_word_full (f : Nat → Bool) (n : Nat) (k : Nat) (hn : 0 < n) (h : k = (n - 1) / 64) (h0 : n % 64 = 0) : pw (lowB f (n : Int)) k = pw f k := by
  unfold pw
  refine bitsOf_congr fun j hj => ?_
  have : ((64 * k + j : Nat) : Int) < (n : Int) := by omega
  show (f (64 * k + j) && decide (((64 * k + j : Nat) : Int) < (n : Int))) = _
  rw [decide_eq_true this, Bool.and_true]
theorem low_word_at (f : Nat → Bool) (n : Nat) (k : Nat) (hn : 0 < n) (h : k = (n - 1) / 64) (h0 : 0 < n % 64) : pw f k &&& (2 ^ (n % 64) - 1) = pw (lowB f (n : Int)) k := by
  apply Nat.eq_of_testBit_eq
  intro j
  rw [Nat.testBit_and, pw_testBit, pw_testBit, Nat.testBit_two_pow_sub_one]
  unfold lowB
  rw [Bool.eq_iff_iff]
  simp only [Bool.and_eq_true, decide_eq_true_eq]
  constructor
  · rintro ⟨⟨h1, h2⟩, h3⟩; exact ⟨h1, h2, by omega⟩
  · rintro ⟨h1, h2, h3⟩; exact ⟨⟨h1, h2⟩, by omega⟩

/-- first k words of g, then those of f, n in all -/
def mix2 (g f : Nat → Bool) (k n : Nat) : List Nat := (List.range n).map fun i => if i < k then pw g i else pw f i
theorem mix2_length (g f : Nat → Bool) (k n : Nat) : (mix2 g f k n).length = n := by simp [mix2]
theorem mix2_zero (g f : Nat → Bool) (n : Nat) : mix2 g f 0 n = vw f n := by simp [mix2, vw]
theorem mix2_full (g f : Nat → Bool) (n : Nat) : mix2 g f n n = vw g n := by
  unfold mix2 vw
  apply List.map_congr_left
  intro i hi
  rw [if_pos (List.mem_range.1 hi)]
theorem mix2_get (g f : Nat → Bool) (k n : Nat) (h : k < n) : (mix2 g f k n)[k]? = some (pw f k) := by
  unfold mix2
  simp [h]
theorem mix2_set (g f : Nat → Bool) (k n : Nat) : (mix2 g f k n).set k (pw g k) = mix2 g f (k + 1) n := by
  apply List.ext_getElem?
  intro j
  unfold mix2
  by_cases h : j < n
  · by_cases e : k = j
    · subst e
      simp [h]
    · simp [h, e]
      by_cases h1 : j < k
      · simp [h1, show j < k + 1 from by omega]
      · simp [h1, show ¬ j < k + 1 from by omega]
  · simp [h]
theorem mix2_same (g f : Nat → Bool) (k n : Nat) (e : pw g k = pw f k) : mix2 g f k n = mix2 g f (k + 1) n := by
  rw [← mix2_set]
  apply List.ext_getElem?
  intro j
  by_cases h : k = j
  · subst h
    by_cases hn : k < n
    · rw [List.getElem?_set_self (by rw [mix2_length]; exact hn), mix2_get _ _ _ _ hn, e]
    · rw [List.getElem?_eq_none (by rw [mix2_length]; omega), List.getElem?_eq_none (by simp [mix2_length]; omega)]
  · rw [List.getElem?_set_ne h]

/-- how many -/
theorem popOf_none {f : Nat → Bool} : ∀ {n : Nat}, (∀ i, i < n → f i = false) → popOf f n = 0
  | 0, _ => rfl
  | n + 1, h => by rw [popOf_succ, popOf_none fun i hi => h i (by omega), h n (by omega)]; rfl
theorem popOf_sup {f : Nat → Bool} {n N : Nat} (h : ∀ i, n ≤ i → f i = false) (hN : n ≤ N) : popOf f N = popOf f n := by
  obtain ⟨d, rfl⟩ : ∃ d, N = n + d := ⟨N - n, by omega⟩
  rw [popOf_add, popOf_none (f := fun j => f (n + j)) fun i _ => h _ (by omega)]
  rfl
theorem popOf_canon {f : Nat → Bool} {N : Nat} (h : Sup f N) : popOf f (64 * N) = popOf f (64 * top f N) :=
  popOf_sup (fun i hi => top_sup h i hi) (by have := top_le f N; omega)
theorem popOf_two (p q : Nat → Bool) : ∀ n, popOf (fun b => p b && q b) n + popOf (fun b => p b || q b) n = popOf p n + popOf q n
  | 0 => rfl
  | n + 1 => by
    have := popOf_two p q n
    rw [popOf_succ, popOf_succ, popOf_succ, popOf_succ]
    have hb : (p n && q n).toNat + (p n || q n).toNat = (p n).toNat + (q n).toNat := by cases p n <;> cases q n <;> rfl
    omega
theorem popOf_parts (p q : Nat → Bool) : ∀ n, popOf (fun b => p b && q b) n + popOf (fun b => p b && !(p b && q b)) n = popOf p n
  | 0 => rfl
  | n + 1 => by
    have := popOf_parts p q n
    rw [popOf_succ, popOf_succ, popOf_succ]
    have hb : (p n && q n).toNat + (p n && !(p n && q n)).toNat = (p n).toNat := by cases p n <;> cases q n <;> rfl
    omega
theorem popOf_up (f : Nat → Bool) (n N : Nat) : popOf (upB f n) (n + N) = popOf f N := by
  rw [popOf_add, popOf_none (f := upB f n) (n := n) (fun i hi => by
    have : ¬ n ≤ i := by omega
    simp [upB, this])]
  rw [Nat.zero_add]
  exact popOf_congr fun j _ => by simp [upB]

/-- a word, its bits from m on -/
def restOf (p : Nat → Bool) (k m : Nat) : Nat := bitsOf (fun j => p (64 * k + j) && decide (m ≤ j)) 64
theorem restOf_zero (p : Nat → Bool) (k : Nat) : restOf p k 0 = pw p k := by
  unfold restOf pw
  exact bitsOf_congr fun j _ => by simp
theorem restOf_lt (p : Nat → Bool) (k m : Nat) : restOf p k m < 18446744073709551616 := bitsOf_lt _ 64
theorem restOf_none (p : Nat → Bool) (k m : Nat) (hm : m ≤ 64) (h : restOf p k m = 0) : bytesOf p (64 * k + m) = bytesOf p (64 * (k + 1)) := by
  have hz := bitsOf_zero h
  obtain ⟨d, hd⟩ : ∃ d, 64 = m + d := ⟨64 - m, by omega⟩
  have := bytesOf_skip p (64 * k + m) d fun j hj => by
    have := hz (m + j) (by omega)
    simpa [← Nat.add_assoc] using this
  rw [← this]
  congr 1
  omega
theorem restOf_step (p : Nat → Bool) (k m x : Nat) (hx : x = restOf p k m) (h : x ≠ 0) :
    ∃ z, Lib.ctz 64 x = z ∧ z < 64 ∧ m ≤ z ∧ bytesOf p (64 * k + (z + 1)) = bytesOf p (64 * k + m) ++ [64 * k + z] ∧ x &&& (x - 1) = restOf p k (z + 1) ∧ restOf p k (z + 1) < x := by
  unfold restOf at hx
  have hl := bitsOf_low (fun j => p (64 * k + j) && decide (m ≤ j)) 64 (by rw [← hx]; exact h)
  rw [← hx] at hl
  obtain ⟨h1, h2, h3, h4⟩ := hl
  obtain ⟨z, hz⟩ : ∃ z, Lib.ctz 64 x = z := ⟨_, rfl⟩
  rw [hz] at h1 h2 h3 h4
  simp only [Bool.and_eq_true, decide_eq_true_eq] at h2
  have e : bitsOf (fun j => (p (64 * k + j) && decide (m ≤ j)) && decide (z < j)) 64 = restOf p k (z + 1) := by
    unfold restOf
    apply bitsOf_congr
    intro j _
    rw [Bool.eq_iff_iff]
    simp only [Bool.and_eq_true, decide_eq_true_eq]
    have := h2.2
    constructor
    · rintro ⟨⟨a, b⟩, c⟩; exact ⟨a, by omega⟩
    · rintro ⟨a, b⟩; exact ⟨⟨a, by omega⟩, by omega⟩
  refine ⟨z, hz, h1, h2.2, ?_, by rw [h4, e], ?_⟩
  · have e1 : 64 * k + (z + 1) = (64 * k + z) + 1 := by omega
    rw [e1, bytesOf_succ, if_pos h2.1]
    congr 1
    obtain ⟨d, rfl⟩ : ∃ d, z = m + d := ⟨z - m, by omega⟩
    have := bytesOf_skip p (64 * k + m) d fun j hj => by
      have := h3 (m + j) (by omega)
      have hmj : m ≤ m + j := by omega
      simpa [hmj, ← Nat.add_assoc] using this
    rw [← this]
    congr 1
    omega
  · have : x &&& (x - 1) ≤ x - 1 := Nat.and_le_right
    rw [h4, e] at this
    omega

/-- the places of a list of whole numbers -/
def setI (L : List Int) : Nat → Bool := fun b => L.contains (b : Int)
theorem setI_take (L : List Int) (k i : Nat) (h : k < L.length) (e : L[k] = (i : Int)) : addB (setI (L.take k)) i = setI (L.take (k + 1)) := by
  funext x
  rw [List.take_succ_eq_append_getElem h, e]
  unfold addB setI
  rw [Bool.eq_iff_iff]
  simp only [Bool.or_eq_true, decide_eq_true_eq, List.contains_iff_mem, List.mem_append, List.mem_singleton]
  constructor
  · rintro (h | rfl)
    · exact .inl h
    · exact .inr rfl
  · rintro (h | h)
    · exact .inl h
    · exact .inr (by omega)
theorem setI_bytes {f : Nat → Bool} {n : Nat} (h : Sup f n) (i : Nat) : setI ((bytesOf f (64 * n)).map fun k : Nat => (k : Int)) i = f i := by
  unfold setI
  rw [Bool.eq_iff_iff, List.contains_iff_mem, List.mem_map]
  constructor
  · rintro ⟨k, hk, e⟩
    obtain rfl : k = i := by omega
    exact (bytesOf_mem.1 hk).2
  · intro hf
    refine ⟨i, bytesOf_mem.2 ⟨?_, hf⟩, rfl⟩
    refine Nat.lt_of_not_le fun hle => ?_
    rw [h i hle] at hf
    cases hf
end Go.Proofs.Ytoijilfpfdhppaa

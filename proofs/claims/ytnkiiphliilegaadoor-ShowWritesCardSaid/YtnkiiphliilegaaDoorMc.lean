/- Plain mathematics of classes: a class as four words and as a set of bytes; its bytes, its runs, its folded form. No program in sight. -/
import Derived.Test.YtnkiiphliilegaaDoorMp
import Derived.Laws.BitsAllLaws
import Derived.Laws.Bits64b
namespace Go.Proofs.YtnkiiphliilegaaDoor

/-- The word i of the class of the bytes with p. -/
def pw (p : Nat → Bool) (i : Nat) : Nat := bitsOf (fun j => p (64 * i + j)) 64

abbrev ccells (p : Nat → Bool) : Array Value := #[.int .u64 (pw p 0 : Nat), .int .u64 (pw p 1 : Nat), .int .u64 (pw p 2 : Nat), .int .u64 (pw p 3 : Nat)]
/-- The class of the bytes with p, as a value. -/
abbrev cval (p : Nat → Bool) : Value := .agg (ccells p)

theorem pw_lt (p : Nat → Bool) (i : Nat) : pw p i < 18446744073709551616 := bitsOf_lt _ 64
theorem pw_congr {p q : Nat → Bool} {i : Nat} (hi : i < 4) (h : ∀ b, b < 256 → p b = q b) : pw p i = pw q i :=
  bitsOf_congr fun j hj => h _ (by omega)
theorem pw_inj {p q : Nat → Bool} (h : ∀ i, i < 4 → pw p i = pw q i) : ∀ b, b < 256 → p b = q b := by
  intro b hb
  have := bitsOf_inj (h (b / 64) (by omega)) (b % 64) (by omega)
  have e : 64 * (b / 64) + b % 64 = b := by omega
  simpa [e] using this

/-- Any four words are a class: that of the bytes whose bits are set. -/
def asSet (c0 c1 c2 c3 : Nat) (b : Nat) : Bool := ((match b / 64 with | 0 => c0 | 1 => c1 | 2 => c2 | _ => c3) : Nat).testBit (b % 64)
theorem pw_asSet (c0 c1 c2 c3 : Nat) (h0 : c0 < 18446744073709551616) (h1 : c1 < 18446744073709551616) (h2 : c2 < 18446744073709551616) (h3 : c3 < 18446744073709551616) :
    pw (asSet c0 c1 c2 c3) 0 = c0 ∧ pw (asSet c0 c1 c2 c3) 1 = c1 ∧ pw (asSet c0 c1 c2 c3) 2 = c2 ∧ pw (asSet c0 c1 c2 c3) 3 = c3 := by
  have key : ∀ i c : Nat, c < 18446744073709551616 → (∀ j, j < 64 → asSet c0 c1 c2 c3 (64 * i + j) = c.testBit j) → pw (asSet c0 c1 c2 c3) i = c := by
    intro i c hc h
    unfold pw
    rw [bitsOf_congr h]
    exact bitsOf_self hc
  have hd : ∀ i j : Nat, j < 64 → (64 * i + j) / 64 = i ∧ (64 * i + j) % 64 = j := fun i j hj => ⟨by omega, by omega⟩
  refine ⟨key 0 c0 h0 ?_, key 1 c1 h1 ?_, key 2 c2 h2 ?_, key 3 c3 h3 ?_⟩ <;> intro j hj <;> unfold asSet <;> rw [(hd _ j hj).1, (hd _ j hj).2] <;> rfl

/-- the class of one byte more -/
def addB (p : Nat → Bool) (b : Nat) : Nat → Bool := fun x => p x || decide (x = b)
theorem pw_add_same (p : Nat → Bool) (b : Nat) : pw p (b / 64) ||| 2 ^ (b % 64) = pw (addB p b) (b / 64) := by
  unfold pw
  rw [← bitsOf_one (b % 64) 64 (by omega), bitsOf_or]
  apply bitsOf_congr
  intro j hj
  unfold addB
  congr 1
  by_cases h : j = b % 64
  · have : 64 * (b / 64) + j = b := by omega
    simp [h]; omega
  · have : ¬ 64 * (b / 64) + j = b := by omega
    simp [h, this]
theorem pw_add_other (p : Nat → Bool) (b i : Nat) (h : i ≠ b / 64) : pw (addB p b) i = pw p i := by
  unfold pw
  apply bitsOf_congr
  intro j hj
  unfold addB
  have : ¬ 64 * i + j = b := by omega
  simp [this]

theorem or_word (p q : Nat → Bool) (i : Nat) : bits .or .u64 (pw p i : Int) (pw q i : Int) = (pw (fun b => p b || q b) i : Int) := by
  rw [bits_or_u64_nat _ _ (pw_lt p i) (pw_lt q i)]
  unfold pw
  rw [bitsOf_or]
theorem and_word (p q : Nat → Bool) (i : Nat) : bits .and .u64 (pw p i : Int) (pw q i : Int) = (pw (fun b => p b && q b) i : Int) := by
  rw [bits_and_u64_nat _ _ (pw_lt p i) (pw_lt q i)]
  unfold pw
  rw [bitsOf_and]
theorem not_word (p : Nat → Bool) (i : Nat) : bits .xor .u64 IntKind.u64.max (pw p i : Int) = (pw (fun b => !p b) i : Int) := by
  have em : IntKind.u64.max = 18446744073709551615 := by decide
  rw [em]
  have h := bits_xor_u64_nat 18446744073709551615 (pw p i) (by decide) (pw_lt p i)
  simp only [Int.cast_ofNat_Int] at h
  rw [h]
  congr 1
  unfold pw
  rw [← bitsOf_not]
  have hl := bitsOf_lt (fun j => p (64 * i + j)) 64
  generalize bitsOf (fun j => p (64 * i + j)) 64 = x at hl
  apply Nat.eq_of_testBit_eq
  intro j
  have e : (18446744073709551615 : Nat) = 2 ^ 64 - 1 := by decide
  have e2 : 2 ^ 64 - 1 - x = 2 ^ 64 - (x + 1) := by omega
  rw [Nat.testBit_xor, e, e2, Nat.testBit_two_pow_sub_succ hl, Nat.testBit_two_pow_sub_one]
  by_cases hj : j < 64
  · simp [hj]
  · have hp : 2 ^ 64 ≤ 2 ^ j := Nat.pow_le_pow_right (by decide) (by omega)
    have : x.testBit j = false := Nat.testBit_lt_two_pow (Nat.lt_of_lt_of_le hl hp)
    simp [hj, this]

theorem has_word (p : Nat → Bool) (b : Nat) : (bits .and .u64 ((pw p (b / 64) : Int) / 2 ^ (b % 64)) 1 == 1) = p b := by
  have e : ((pw p (b / 64) : Int) / 2 ^ (b % 64)) = ((pw p (b / 64) / 2 ^ (b % 64) : Nat) : Int) := by simp
  have hlt : pw p (b / 64) / 2 ^ (b % 64) < 18446744073709551616 := Nat.lt_of_le_of_lt (Nat.div_le_self _ _) (pw_lt _ _)
  have h := bits_and_u64_nat (pw p (b / 64) / 2 ^ (b % 64)) 1 hlt (by decide)
  simp only [Int.cast_ofNat_Int] at h
  rw [e]
  have h1 : bits .and .u64 ((pw p (b / 64) / 2 ^ (b % 64) : Nat) : Int) 1 = ((pw p (b / 64) / 2 ^ (b % 64) &&& 1 : Nat) : Int) := h
  rw [h1, Nat.and_one_is_mod]
  have hk := bitsOf_ask (fun j => p (64 * (b / 64) + j)) 64 (b % 64) (by omega)
  have e3 : 64 * (b / 64) + b % 64 = b := by omega
  simp only [e3] at hk
  unfold pw
  rw [hk]
  cases p b <;> rfl
theorem has_word2 (p : Nat → Bool) (b : Nat) : (((pw p (b / 64) : Int) / 2 ^ (b % 64)).tmod 2 == 1) = p b := by
  have e : ((pw p (b / 64) : Int) / 2 ^ (b % 64)).tmod 2 = ((pw p (b / 64) / 2 ^ (b % 64) % 2 : Nat) : Int) := by
    have e0 : ((pw p (b / 64) : Int) / 2 ^ (b % 64)) = ((pw p (b / 64) / 2 ^ (b % 64) : Nat) : Int) := by simp
    rw [e0]
    rfl
  rw [e]
  have hk := bitsOf_ask (fun j => p (64 * (b / 64) + j)) 64 (b % 64) (by omega)
  have e3 : 64 * (b / 64) + b % 64 = b := by omega
  simp only [e3] at hk
  unfold pw
  rw [hk]
  cases p b <;> rfl

/-- the class of some bytes -/
def setOf (L : List Nat) : Nat → Bool := fun b => L.contains b
theorem setOf_nil (i : Nat) : pw (setOf []) i = 0 := bitsOf_none 64
theorem setOf_snoc (L : List Nat) (b : Nat) : addB (setOf L) b = setOf (L ++ [b]) := by
  funext x
  unfold addB setOf
  rw [Bool.eq_iff_iff]
  simp
theorem setOf_take (L : List Nat) (k : Nat) (h : k < L.length) : addB (setOf (L.take k)) L[k] = setOf (L.take (k + 1)) := by
  rw [setOf_snoc, List.take_succ_eq_append_getElem h]

/-- the bytes from a on, below k -/
def upTo (a k : Nat) : Nat → Bool := fun x => decide (a ≤ x) && decide (x < k)
theorem upTo_self (a i : Nat) : pw (upTo a a) i = 0 := by
  have : (fun j => upTo a a (64 * i + j)) = fun _ => false := by
    funext j
    unfold upTo
    rw [Bool.eq_iff_iff]
    simp
  unfold pw
  rw [this]
  exact bitsOf_none 64
theorem upTo_succ (a k : Nat) (h : a ≤ k) : addB (upTo a k) k = upTo a (k + 1) := by
  funext x
  unfold addB upTo
  rw [Bool.eq_iff_iff]
  simp
  omega
/-- the class of the bytes from a to b -/
def fromTo (a b : Nat) : Nat → Bool := fun x => decide (a ≤ x) && decide (x ≤ b)
theorem upTo_end (a b k : Nat) (h1 : b < k) (h2 : k = a ∨ k ≤ b + 1) : upTo a k = fromTo a b := by
  funext x
  unfold fromTo upTo
  rw [Bool.eq_iff_iff]
  simp
  omega

/-- the bytes of a class -/
def bytesOf (p : Nat → Bool) (n : Nat) : List Nat := (List.range n).filter p
theorem bytesOf_succ (p : Nat → Bool) (n : Nat) : bytesOf p (n + 1) = bytesOf p n ++ (if p n then [n] else []) := by
  unfold bytesOf
  rw [List.range_succ, List.filter_append, List.filter_cons, List.filter_nil]
theorem bytesOf_skip (p : Nat → Bool) (m d : Nat) (h : ∀ j, j < d → p (m + j) = false) : bytesOf p (m + d) = bytesOf p m := by
  induction d with
  | zero => rfl
  | succ d ih =>
    rw [← Nat.add_assoc, bytesOf_succ, ih fun j hj => h j (by omega), h d (by omega)]
    simp
theorem bytesOf_length (p : Nat → Bool) (n : Nat) : (bytesOf p n).length = popOf p n := rfl
theorem bytesOf_le (p : Nat → Bool) (n : Nat) : (bytesOf p n).length ≤ n := popOf_le p n
theorem bytesOf_mem {p : Nat → Bool} {n b : Nat} : b ∈ bytesOf p n ↔ b < n ∧ p b = true := by simp [bytesOf, List.mem_filter]
theorem bytesOf_congr {p q : Nat → Bool} {n : Nat} (h : ∀ b, b < n → p b = q b) : bytesOf p n = bytesOf q n := by
  induction n with
  | zero => rfl
  | succ n ih => rw [bytesOf_succ, bytesOf_succ, ih fun b hb => h b (by omega), h n (by omega)]


/-- the other case of a letter; any other byte is itself -/
def other (b : Nat) : Nat := if 65 ≤ b ∧ b ≤ 90 then b + 32 else if 97 ≤ b ∧ b ≤ 122 then b - 32 else b
theorem other_other (b : Nat) : other (other b) = b := by
  unfold other
  split <;> split <;> (try split) <;> (try split) <;> omega
theorem other_lt (b : Nat) (h : b < 256) : other b < 256 := by
  unfold other
  split <;> (try split) <;> omega
def foldOf (p : Nat → Bool) : Nat → Bool := fun x => p x || p (other x)
def foldUp (p : Nat → Bool) (l : List Nat) : Nat → Bool := fun x => p x || l.any fun b => decide (other b = x)
theorem foldUp_nil (p : Nat → Bool) : foldUp p [] = p := by
  funext x
  simp [foldUp]
theorem foldUp_put (p : Nat → Bool) (l : List Nat) (b : Nat) : addB (foldUp p l) (other b) = foldUp p (l ++ [b]) := by
  funext x
  unfold addB foldUp
  rw [Bool.eq_iff_iff]
  simp only [Bool.or_eq_true, decide_eq_true_eq, List.any_append, List.any_cons, List.any_nil, Bool.or_false, or_assoc]
  constructor
  · rintro (h | h | h)
    · exact .inl h
    · exact .inr (.inl h)
    · exact .inr (.inr h.symm)
  · rintro (h | h | h)
    · exact .inl h
    · exact .inr (.inl h)
    · exact .inr (.inr h.symm)
theorem foldUp_skip (p : Nat → Bool) (l : List Nat) (b : Nat) (ho : other b = b) (hp : p b = true) : foldUp p l = foldUp p (l ++ [b]) := by
  funext x
  unfold foldUp
  rw [Bool.eq_iff_iff]
  simp only [Bool.or_eq_true, decide_eq_true_eq, List.any_append, List.any_cons, List.any_nil, Bool.or_false]
  constructor
  · rintro (h | h)
    · exact .inl h
    · exact .inr (.inl h)
  · rintro (h | h | h)
    · exact .inl h
    · exact .inr h
    · rw [ho] at h
      subst h
      exact .inl hp
theorem foldUp_all (p : Nat → Bool) (x : Nat) (hx : x < 256) : foldUp p (bytesOf p 256) x = foldOf p x := by
  unfold foldUp foldOf
  rw [Bool.eq_iff_iff]
  simp only [Bool.or_eq_true, List.any_eq_true, decide_eq_true_eq]
  constructor
  · rintro (h | ⟨b, hb, h⟩)
    · exact .inl h
    · subst h
      rw [other_other]
      exact .inr (bytesOf_mem.1 hb).2
  · rintro (h | h)
    · exact .inl h
    · exact .inr ⟨other x, bytesOf_mem.2 ⟨other_lt x hx, h⟩, other_other x⟩
theorem ccells_congr {p q : Nat → Bool} (h : ∀ b, b < 256 → p b = q b) : ccells p = ccells q := by
  unfold ccells
  rw [pw_congr (by decide : 0 < 4) h, pw_congr (by decide : 1 < 4) h, pw_congr (by decide : 2 < 4) h, pw_congr (by decide : 3 < 4) h]
theorem ccells_inj {p q : Nat → Bool} (h : ccells p = ccells q) : ∀ b, b < 256 → p b = q b := by
  have h' : pw p 0 = pw q 0 ∧ pw p 1 = pw q 1 ∧ pw p 2 = pw q 2 ∧ pw p 3 = pw q 3 := by
    simp only [ccells, Array.mk.injEq, List.cons.injEq, Value.int.injEq, true_and, and_true] at h
    omega
  apply pw_inj
  intro i hi
  have : i = 0 ∨ i = 1 ∨ i = 2 ∨ i = 3 := by omega
  rcases this with rfl | rfl | rfl | rfl
  · exact h'.1
  · exact h'.2.1
  · exact h'.2.2.1
  · exact h'.2.2.2

/-- one byte more for a list of runs -/
def runStep (acc : List (Nat × Nat)) (b : Nat) : List (Nat × Nat) :=
  match acc.getLast? with
  | some (lo, hi) => if hi + 1 = b then acc.dropLast ++ [(lo, b)] else acc ++ [(b, b)]
  | none => acc ++ [(b, b)]
/-- the runs of rising bytes -/
def runsFold (L : List Nat) : List (Nat × Nat) := L.foldl runStep []
theorem runsFold_snoc (L : List Nat) (b : Nat) : runsFold (L ++ [b]) = runStep (runsFold L) b := by simp [runsFold]
theorem runStep_nil (b : Nat) : runStep [] b = [(b, b)] := rfl
theorem runStep_more (init : List (Nat × Nat)) (lo hi b : Nat) (h : hi + 1 = b) : runStep (init ++ [(lo, hi)]) b = init ++ [(lo, b)] := by simp [runStep, h]
theorem runStep_new (init : List (Nat × Nat)) (lo hi b : Nat) (h : hi + 1 ≠ b) : runStep (init ++ [(lo, hi)]) b = (init ++ [(lo, hi)]) ++ [(b, b)] := by simp [runStep, h]
theorem runStep_len (acc : List (Nat × Nat)) (b : Nat) : (runStep acc b).length ≤ acc.length + 1 := by
  rcases List.eq_nil_or_concat acc with rfl | ⟨init, ⟨lo, hi⟩, rfl⟩
  · simp [runStep_nil]
  · rw [List.concat_eq_append]
    by_cases h : hi + 1 = b
    · rw [runStep_more _ _ _ _ h]; simp
    · rw [runStep_new _ _ _ _ h]; simp
theorem foldl_runStep_len : ∀ (L : List Nat) (acc : List (Nat × Nat)), (L.foldl runStep acc).length ≤ acc.length + L.length
  | [], acc => by simp
  | b :: L, acc => by
    have h1 := foldl_runStep_len L (runStep acc b)
    have h2 := runStep_len acc b
    simp only [List.foldl_cons, List.length_cons]
    omega
theorem runsFold_len (L : List Nat) : (runsFold L).length ≤ L.length := by
  have := foldl_runStep_len L []
  simpa [runsFold] using this
theorem foldl_runStep_lt : ∀ (L : List Nat) (acc : List (Nat × Nat)), (∀ b ∈ L, b < 256) → (∀ x ∈ acc, x.1 < 256 ∧ x.2 < 256) → ∀ x ∈ L.foldl runStep acc, x.1 < 256 ∧ x.2 < 256
  | [], _, _, ha => ha
  | b :: L, acc, hL, ha => by
    have hb := hL b (by simp)
    refine foldl_runStep_lt L (runStep acc b) (fun c hc => hL c (by simp [hc])) ?_
    rcases List.eq_nil_or_concat acc with rfl | ⟨init, ⟨lo, hi⟩, rfl⟩
    · simp [runStep_nil, hb]
    · rw [List.concat_eq_append] at ha ⊢
      have hi' := ha (lo, hi) (by simp)
      by_cases h : hi + 1 = b
      · rw [runStep_more _ _ _ _ h]
        intro x hx
        simp only [List.mem_append, List.mem_singleton] at hx
        rcases hx with hx | rfl
        · exact ha x (by simp [hx])
        · exact ⟨hi'.1, hb⟩
      · rw [runStep_new _ _ _ _ h]
        intro x hx
        rw [List.mem_append, List.mem_singleton] at hx
        rcases hx with hx | rfl
        · exact ha x hx
        · exact ⟨hb, hb⟩
theorem runsFold_lt (L : List Nat) (hL : ∀ b ∈ L, b < 256) : ∀ x ∈ runsFold L, x.1 < 256 ∧ x.2 < 256 := foldl_runStep_lt L [] hL (by simp)

/-- runs as cells -/
def runCells (R : List (Nat × Nat)) : List Value := R.flatMap fun x => [Value.int .u8 (x.1 : Int), Value.int .u8 (x.2 : Int)]
theorem runCells_append (R S : List (Nat × Nat)) : runCells (R ++ S) = runCells R ++ runCells S := by simp [runCells]
theorem runCells_length (R : List (Nat × Nat)) : (runCells R).length = R.length * 2 := by
  induction R with
  | nil => rfl
  | cons x R ih => simp only [runCells, List.flatMap_cons, List.length_append, List.length_cons, List.length_nil] at ih ⊢; omega
theorem runCells_last (init : List (Nat × Nat)) (lo hi : Nat) : (runCells (init ++ [(lo, hi)]))[init.length * 2 + 1]? = some (.int .u8 (hi : Int)) := by
  rw [runCells_append, List.getElem?_append_right (by rw [runCells_length]; omega), runCells_length]
  have : init.length * 2 + 1 - init.length * 2 = 1 := by omega
  rw [this]
  rfl
theorem runCells_set (init : List (Nat × Nat)) (lo hi b : Nat) : (runCells (init ++ [(lo, hi)])).set (init.length * 2 + 1) (.int .u8 (b : Int)) = runCells (init ++ [(lo, b)]) := by
  rw [runCells_append, runCells_append, List.set_append_right _ _ (by rw [runCells_length]; omega), runCells_length]
  have : init.length * 2 + 1 - init.length * 2 = 1 := by omega
  rw [this]
  rfl
theorem runCells_get (R : List (Nat × Nat)) (k : Nat) (h : k < R.length) : (runCells R)[k * 2]? = some (.int .u8 ((R[k].1 : Nat) : Int)) ∧ (runCells R)[k * 2 + 1]? = some (.int .u8 ((R[k].2 : Nat) : Int)) := by
  induction R generalizing k with
  | nil => simp at h
  | cons x R ih =>
    have e : runCells (x :: R) = .int .u8 (x.1 : Int) :: .int .u8 (x.2 : Int) :: runCells R := rfl
    rw [e]
    cases k with
    | zero => exact ⟨rfl, rfl⟩
    | succ k =>
      have h2 := ih k (by simpa using h)
      have a1 : (k + 1) * 2 = k * 2 + 1 + 1 := by omega
      rw [a1]
      simpa using h2

/-- a set cut off at k -/
def cutAt (f : Nat → Bool) (k : Nat) : Nat → Bool := fun x => f x && decide (x < k)
theorem cutAt_zero (f : Nat → Bool) (i : Nat) : pw (cutAt f 0) i = 0 := by
  unfold pw cutAt
  simp only [Nat.not_lt_zero, decide_false, Bool.and_false]
  exact bitsOf_none 64
theorem cutAt_yes (f : Nat → Bool) (k : Nat) (h : f k = true) : addB (cutAt f k) k = cutAt f (k + 1) := by
  funext x
  unfold addB cutAt
  rw [Bool.eq_iff_iff]
  simp only [Bool.or_eq_true, Bool.and_eq_true, decide_eq_true_eq]
  constructor
  · rintro (⟨a, b⟩ | rfl)
    · exact ⟨a, by omega⟩
    · exact ⟨h, by omega⟩
  · rintro ⟨a, b⟩
    by_cases hx : x = k
    · exact .inr hx
    · exact .inl ⟨a, by omega⟩
theorem cutAt_no (f : Nat → Bool) (k : Nat) (h : f k = false) : cutAt f k = cutAt f (k + 1) := by
  funext x
  unfold cutAt
  rw [Bool.eq_iff_iff]
  simp only [Bool.and_eq_true, decide_eq_true_eq]
  constructor
  · rintro ⟨a, b⟩; exact ⟨a, by omega⟩
  · rintro ⟨a, b⟩
    refine ⟨a, ?_⟩
    by_cases hx : x = k
    · subst hx; rw [h] at a; cases a
    · omega
theorem cutAt_end (f : Nat → Bool) (b : Nat) (h : b < 256) : cutAt f 256 b = f b := by simp [cutAt, h]

theorem or_bit (p : Nat → Bool) (b : Nat) : bits .or .u64 (pw p (b / 64) : Int) (IntKind.u64.wrap (2 ^ (b % 64))) = (pw (addB p b) (b / 64) : Int) := by
  have e2 : (2 : Int) ^ (b % 64) = ((2 ^ (b % 64) : Nat) : Int) := by simp
  have hp : 2 ^ (b % 64) < 18446744073709551616 := Nat.pow_lt_pow_right (by decide) (by omega : b % 64 < 64)
  have e3 : IntKind.u64.wrap (2 ^ (b % 64)) = ((2 ^ (b % 64) : Nat) : Int) := by
    rw [e2, IntKind.wrap_u64]
    generalize 2 ^ (b % 64) = n at hp
    omega
  rw [e3, bits_or_u64_nat _ _ (pw_lt p _) hp, pw_add_same]
end Go.Proofs.YtnkiiphliilegaaDoor

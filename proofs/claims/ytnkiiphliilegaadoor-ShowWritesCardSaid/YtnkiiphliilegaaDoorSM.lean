/- Plain mathematics: the runs of rising bytes, run by run. No program in sight. · Plain laws for ClassRules: the runs of a class, put together, are the class; folding twice is folding once. -/
import Derived.Test.YtnkiiphliilegaaDoorMc
namespace Go.Proofs.YtnkiiphliilegaaDoor
section

/-- the last run ends at the last byte -/
theorem runStep_last (acc : List (Nat × Nat)) (b : Nat) : ∃ lo, (runStep acc b).getLast? = some (lo, b) := by
  rcases List.eq_nil_or_concat acc with rfl | ⟨init, ⟨lo, hi⟩, rfl⟩
  · exact ⟨b, rfl⟩
  · rw [List.concat_eq_append]
    by_cases h : hi + 1 = b
    · rw [runStep_more _ _ _ _ h]; exact ⟨lo, by simp⟩
    · rw [runStep_new _ _ _ _ h]; exact ⟨b, by simp⟩
theorem runsFold_last (L : List Nat) (lo hi : Nat) (h : (runsFold L).getLast? = some (lo, hi)) : hi ∈ L := by
  rcases List.eq_nil_or_concat L with rfl | ⟨init, b, rfl⟩
  · simp [runsFold] at h
  · rw [List.concat_eq_append] at *
    rw [runsFold_snoc] at h
    obtain ⟨l, hl⟩ := runStep_last (runsFold init) b
    rw [hl] at h
    simp only [Option.some.injEq, Prod.mk.injEq] at h
    simp [h.2]
/-- bytes from a on, one more each: one run -/
theorem runsFold_block (L : List Nat) (a d : Nat) (h : ∀ lo hi, (runsFold L).getLast? = some (lo, hi) → hi + 1 ≠ a) :
    runsFold (L ++ (List.range (d + 1)).map (a + ·)) = runsFold L ++ [(a, a + d)] := by
  induction d with
  | zero =>
    have e : (List.range (0 + 1)).map (a + ·) = [a] := rfl
    rw [e, Nat.add_zero, runsFold_snoc]
    rcases List.eq_nil_or_concat (runsFold L) with h0 | ⟨init, ⟨lo, hi⟩, h0⟩
    · rw [h0]; rfl
    · rw [List.concat_eq_append] at h0
      have := h lo hi (by rw [h0]; simp)
      rw [h0, runStep_new _ _ _ _ this]
  | succ d ih =>
    rw [List.range_succ, List.map_append, ← List.append_assoc, List.map_cons, List.map_nil, runsFold_snoc, ih]
    rw [runStep_more _ _ _ _ (by omega)]
theorem bytesOf_block (p : Nat → Bool) (a d : Nat) (h : ∀ j, j ≤ d → p (a + j) = true) : bytesOf p (a + d + 1) = bytesOf p a ++ (List.range (d + 1)).map (a + ·) := by
  induction d with
  | zero =>
    have h0 := h 0 (Nat.le_refl _)
    rw [Nat.add_zero] at h0 ⊢
    rw [bytesOf_succ, if_pos h0]
    rfl
  | succ d ih =>
    rw [bytesOf_succ, if_pos (h (d + 1) (Nat.le_refl _)), List.range_succ, List.map_append, ← List.append_assoc]
    rw [← ih fun j hj => h j (by omega)]
    rfl
/-- the run that begins at i and ends at m -/
theorem runs_next (p : Nat → Bool) (i m : Nat) (him : i ≤ m) (hall : ∀ j, i ≤ j → j ≤ m → p j = true) (hb : i = 0 ∨ p (i - 1) = false) :
    runsFold (bytesOf p (m + 1)) = runsFold (bytesOf p i) ++ [(i, m)] := by
  obtain ⟨d, rfl⟩ : ∃ d, m = i + d := ⟨m - i, by omega⟩
  rw [bytesOf_block p i d fun j hj => hall _ (by omega) (by omega)]
  apply runsFold_block
  intro lo hi hl he
  have h1 := bytesOf_mem.1 (runsFold_last _ _ _ hl)
  rcases hb with rfl | hb
  · omega
  · have : i - 1 = hi := by omega
    rw [this] at hb
    rw [hb] at h1
    cases h1.2
theorem bytesOf_no (p : Nat → Bool) (i : Nat) (h : p i = false) : bytesOf p (i + 1) = bytesOf p i := by
  rw [bytesOf_succ, h]
  simp
end

section

/-- the bytes in some of these runs -/
def inRuns (R : List (Nat × Nat)) : Nat → Bool := fun x => R.any fun r => decide (r.1 ≤ x) && decide (x ≤ r.2)
theorem inRuns_zero (i : Nat) : pw (inRuns []) i = 0 := bitsOf_none 64
theorem inRuns_step (R : List (Nat × Nat)) (k : Nat) (h : k < R.length) : (fun b => inRuns (R.take k) b || fromTo R[k].1 R[k].2 b) = inRuns (R.take (k + 1)) := by
  funext x
  unfold inRuns fromTo
  rw [List.take_succ_eq_append_getElem h, List.any_append]
  simp
theorem inRuns_append (R S : List (Nat × Nat)) (x : Nat) : inRuns (R ++ S) x = (inRuns R x || inRuns S x) := by
  unfold inRuns
  rw [List.any_append]
theorem inRuns_one (a b x : Nat) : inRuns [(a, b)] x = (decide (a ≤ x) && decide (x ≤ b)) := by simp [inRuns]
theorem runStep_inRuns (acc : List (Nat × Nat)) (b x : Nat) (h : ∀ r ∈ acc, r.1 ≤ r.2) :
    inRuns (runStep acc b) x = (inRuns acc x || decide (x = b)) ∧ ∀ r ∈ runStep acc b, r.1 ≤ r.2 := by
  rcases List.eq_nil_or_concat acc with rfl | ⟨init, ⟨lo, hi⟩, rfl⟩
  · rw [runStep_nil]
    refine ⟨?_, by simp⟩
    rw [inRuns_one, Bool.eq_iff_iff]
    simp [inRuns]
    omega
  · rw [List.concat_eq_append] at *
    have hl : lo ≤ hi := h (lo, hi) (by simp)
    have hi0 : ∀ r ∈ init, r.1 ≤ r.2 := fun r hr => h r (by simp [hr])
    by_cases e : hi + 1 = b
    · rw [runStep_more _ _ _ _ e]
      refine ⟨?_, ?_⟩
      · rw [inRuns_append, inRuns_append, inRuns_one, inRuns_one, Bool.or_assoc]
        congr 1
        rw [Bool.eq_iff_iff]
        simp
        omega
      · intro r hr
        rw [List.mem_append, List.mem_singleton] at hr
        rcases hr with hr | rfl
        · exact hi0 r hr
        · show lo ≤ b
          omega
    · rw [runStep_new _ _ _ _ e]
      refine ⟨?_, ?_⟩
      · rw [inRuns_append _ [(b, b)], inRuns_one]
        congr 1
        rw [Bool.eq_iff_iff]
        simp
        omega
      · intro r hr
        rw [List.mem_append, List.mem_singleton] at hr
        rcases hr with hr | rfl
        · exact h r hr
        · exact Nat.le_refl _
theorem inRuns_all (p : Nat → Bool) (n x : Nat) : inRuns (runsFold (bytesOf p n)) x = (p x && decide (x < n)) ∧ ∀ r ∈ runsFold (bytesOf p n), r.1 ≤ r.2 := by
  induction n with
  | zero => exact ⟨by simp [bytesOf, runsFold, inRuns], by simp [bytesOf, runsFold]⟩
  | succ n ih =>
    rw [bytesOf_succ]
    cases hp : p n
    · simp only [Bool.false_eq_true, if_false, List.append_nil]
      refine ⟨?_, ih.2⟩
      rw [ih.1, Bool.eq_iff_iff]
      simp
      intro hx
      constructor
      · omega
      · intro h
        have : x ≠ n := fun e => by rw [e, hp] at hx; cases hx
        omega
    · simp only [if_true]
      rw [runsFold_snoc]
      obtain ⟨h1, h2⟩ := runStep_inRuns _ n x ih.2
      refine ⟨?_, h2⟩
      rw [h1, ih.1, Bool.eq_iff_iff]
      simp
      constructor
      · rintro (⟨a, b⟩ | rfl)
        · exact ⟨a, by omega⟩
        · exact ⟨hp, by omega⟩
      · rintro ⟨a, b⟩
        by_cases e : x = n
        · exact .inr e
        · exact .inl ⟨a, by omega⟩
theorem foldOf_two (p : Nat → Bool) (x : Nat) : foldOf (foldOf p) x = foldOf p x := by
  unfold foldOf
  rw [other_other]
  cases p x <;> cases p (other x) <;> rfl
theorem foldOf_self (p : Nat → Bool) (x : Nat) : (foldOf p x || p x) = foldOf p x := by
  unfold foldOf
  cases p x <;> cases p (other x) <;> rfl
theorem pop_all : ∀ n (p : Nat → Bool), popOf (fun b => p b || !p b) n = n
  | 0, _ => rfl
  | n + 1, p => by rw [popOf_succ, pop_all n p]; cases p n <;> rfl
end
end Go.Proofs.YtnkiiphliilegaaDoor

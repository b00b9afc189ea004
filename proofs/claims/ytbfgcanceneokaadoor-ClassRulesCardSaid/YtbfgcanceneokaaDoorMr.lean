/- Plain laws for ClassRules: the runs of a class, put together, are the class; folding twice is folding once. -/
import Derived.Test.YtbfgcanceneokaaDoorMd
namespace Go.Proofs.YtbfgcanceneokaaDoor

/-- the bytes in some of these runs -/
def inRuns (R : List (Nat × Nat)) : Nat → Bool := fun x => R.any fun r => decide (r.1 ≤ x) && decide (x ≤ r.2)
theorem inRuns_zero (i : Nat) : pw (inRuns []) i = 0 := bitsOf_none 64
theorem inRuns_step (R : List (Nat × Nat)) (k : Nat) (h : k < R.length) : (fun b => inRuns (R.take k) b || fromTo R[k].1 R[k].2 b) = inRuns (R.take (k + 1)) := by
  funext x
  unfold inRuns fromTo
  rw [List.take_succ_eq_append_getElem h, List.any_append]
  simp
theorem inRuns_append (R S : List (Nat × Nat)) (x : Nat) : inRuns (R ++ S) x = (inRuns R x || inRuns S x) := by
  unfold inRuns
  rw [List.any_append]
theorem inRuns_one (a b x : Nat) : inRuns [(a, b)] x = (decide (a ≤ x) && decide (x ≤ b)) := by simp [inRuns]
theorem runStep_inRuns (acc : List (Nat × Nat)) (b x : Nat) (h : ∀ r ∈ acc, r.1 ≤ r.2) :
    inRuns (runStep acc b) x = (inRuns acc x || decide (x = b)) ∧ ∀ r ∈ runStep acc b, r.1 ≤ r.2 := by
  rcases List.eq_nil_or_concat acc with rfl | ⟨init, ⟨lo, hi⟩, rfl⟩
  · rw [runStep_nil]
    refine ⟨?_, by simp⟩
    rw [inRuns_one, Bool.eq_iff_iff]
    simp [inRuns]
    omega
  · rw [List.concat_eq_append] at *
    have hl : lo ≤ hi := h (lo, hi) (by simp)
    have hi0 : ∀ r ∈ init, r.1 ≤ r.2 := fun r hr => h r (by simp [hr])
    by_cases e : hi + 1 = b
    · rw [runStep_more _ _ _ _ e]
      refine ⟨?_, ?_⟩
      · rw [inRuns_append, inRuns_append, inRuns_one, inRuns_one, Bool.or_assoc]
        congr 1
        rw [Bool.eq_iff_iff]
        simp
        omega
      · intro r hr
        rw [List.mem_append, List.mem_singleton] at hr
        rcases hr with hr | rfl
        · exact hi0 r hr
        · show lo ≤ b
          omega
    · rw [runStep_new _ _ _ _ e]
      refine ⟨?_, ?_⟩
      · rw [inRuns_append _ [(b, b)], inRuns_one]
        congr 1
        rw [Bool.eq_iff_iff]
        simp
        omega
      · intro r hr
        rw [List.mem_append, List.mem_singleton] at hr
        rcases hr with hr | rfl
        · exact h r hr
        · exact Nat.le_refl _
theorem inRuns_all (p : Nat → Bool) (n x : Nat) : inRuns (runsFold (bytesOf p n)) x = (p x && decide (x < n)) ∧ ∀ r ∈ runsFold (bytesOf p n), r.1 ≤ r.2 := by
  induction n with
  | zero => exact ⟨by simp [bytesOf, runsFold, inRuns], by simp [bytesOf, runsFold]⟩
  | succ n ih =>
    rw [bytesOf_succ]
    cases hp : p n
    · simp only [Bool.false_eq_true, if_false, List.append_nil]
      refine ⟨?_, ih.2⟩
      rw [ih.1, Bool.eq_iff_iff]
      simp
      intro hx
      constructor
      · omega
      · intro h
        have : x ≠ n := fun e => by rw [e, hp] at hx; cases hx
        omega
    · simp only [if_true]
      rw [runsFold_snoc]
      obtain ⟨h1, h2⟩ := runStep_inRuns _ n x ih.2
      refine ⟨?_, h2⟩
      rw [h1, ih.1, Bool.eq_iff_iff]
      simp
      constructor
      · rintro (⟨a, b⟩ | rfl)
        · exact ⟨a, by omega⟩
        · exact ⟨hp, by omega⟩
      · rintro ⟨a, b⟩
        by_cases e : x = n
        · exact .inr e
        · exact .inl ⟨a, by omega⟩
theorem foldOf_two (p : Nat → Bool) (x : Nat) : foldOf (foldOf p) x = foldOf p x := by
  unfold foldOf
  rw [other_other]
  cases p x <;> cases p (other x) <;> rfl
theorem foldOf_self (p : Nat → Bool) (x : Nat) : (foldOf p x || p x) = foldOf p x := by
  unfold foldOf
  cases p x <;> cases p (other x) <;> rfl
theorem pop_all : ∀ n (p : Nat → Bool), popOf (fun b => p b || !p b) n = n
  | 0, _ => rfl
  | n + 1, p => by rw [popOf_succ, pop_all n p]; cases p n <;> rfl
end Go.Proofs.YtbfgcanceneokaaDoor

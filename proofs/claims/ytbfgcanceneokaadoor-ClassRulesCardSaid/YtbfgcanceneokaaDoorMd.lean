/- Plain mathematics: the runs of rising bytes, run by run. No program in sight. -/
import Derived.Test.YtbfgcanceneokaaDoorMc
namespace Go.Proofs.YtbfgcanceneokaaDoor

/-- the last run ends at the last byte -/
theorem runStep_last (acc : List (Nat × Nat)) (b : Nat) : ∃ lo, (runStep acc b).getLast? = some (lo, b) := by
  rcases List.eq_nil_or_concat acc with rfl | ⟨init, ⟨lo, hi⟩, rfl⟩
  · exact ⟨b, rfl⟩
  · rw [List.concat_eq_append]
    by_cases h : hi + 1 = b
    · rw [runStep_more _ _ _ _ h]; exact ⟨lo, by simp⟩
    · rw [runStep_new _ _ _ _ h]; exact ⟨b, by simp⟩
theorem runsFold_last (L : List Nat) (lo hi : Nat) (h : (runsFold L).getLast? = some (lo, hi)) : hi ∈ L := by
  rcases List.eq_nil_or_concat L with rfl | ⟨init, b, rfl⟩
  · simp [runsFold] at h
  · rw [List.concat_eq_append] at *
    rw [runsFold_snoc] at h
    obtain ⟨l, hl⟩ := runStep_last (runsFold init) b
    rw [hl] at h
    simp only [Option.some.injEq, Prod.mk.injEq] at h
    simp [h.2]
/-- bytes from a on, one more each: one run -/
theorem runsFold_block (L : List Nat) (a d : Nat) (h : ∀ lo hi, (runsFold L).getLast? = some (lo, hi) → hi + 1 ≠ a) :
    runsFold (L ++ (List.range (d + 1)).map (a + ·)) = runsFold L ++ [(a, a + d)] := by
  induction d with
  | zero =>
    have e : (List.range (0 + 1)).map (a + ·) = [a] := rfl
    rw [e, Nat.add_zero, runsFold_snoc]
    rcases List.eq_nil_or_concat (runsFold L) with h0 | ⟨init, ⟨lo, hi⟩, h0⟩
    · rw [h0]; rfl
    · rw [List.concat_eq_append] at h0
      have := h lo hi (by rw [h0]; simp)
      rw [h0, runStep_new _ _ _ _ this]
  | succ d ih =>
    rw [List.range_succ, List.map_append, ← List.append_assoc, List.map_cons, List.map_nil, runsFold_snoc, ih]
    rw [runStep_more _ _ _ _ (by omega)]
theorem bytesOf_block (p : Nat → Bool) (a d : Nat) (h : ∀ j, j ≤ d → p (a + j) = true) : bytesOf p (a + d + 1) = bytesOf p a ++ (List.range (d + 1)).map (a + ·) := by
  induction d with
  | zero =>
    have h0 := h 0 (Nat.le_refl _)
    rw [Nat.add_zero] at h0 ⊢
    rw [bytesOf_succ, if_pos h0]
    rfl
  | succ d ih =>
    rw [bytesOf_succ, if_pos (h (d + 1) (Nat.le_refl _)), List.range_succ, List.map_append, ← List.append_assoc]
    rw [← ih fun j hj => h j (by omega)]
    rfl
/-- the run that begins at i and ends at m -/
theorem runs_next (p : Nat → Bool) (i m : Nat) (him : i ≤ m) (hall : ∀ j, i ≤ j → j ≤ m → p j = true) (hb : i = 0 ∨ p (i - 1) = false) :
    runsFold (bytesOf p (m + 1)) = runsFold (bytesOf p i) ++ [(i, m)] := by
  obtain ⟨d, rfl⟩ : ∃ d, m = i + d := ⟨m - i, by omega⟩
  rw [bytesOf_block p i d fun j hj => hall _ (by omega) (by omega)]
  apply runsFold_block
  intro lo hi hl he
  have h1 := bytesOf_mem.1 (runsFold_last _ _ _ hl)
  rcases hb with rfl | hb
  · omega
  · have : i - 1 = hi := by omega
    rw [this] at hb
    rw [hb] at h1
    cases h1.2
theorem bytesOf_no (p : Nat → Bool) (i : Nat) (h : p i = false) : bytesOf p (i + 1) = bytesOf p i := by
  rw [bytesOf_succ, h]
  simp
end Go.Proofs.YtbfgcanceneokaaDoor

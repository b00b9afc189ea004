/- A row of runs that a call gave: it reads as those runs. -/
import Derived.Test.YtbfgcanceneokaaDoorCe
namespace Go.Proofs.YtbfgcanceneokaaDoor
open Go.RowKit

theorem own_rdn {w : World} {xs : List Value} {base : Nat} {e : TypeId} {v : Value} {n s : Nat} (h : w.ownsRow base e s v n xs) : ∃ A c, v = .slice A n c ∧ Rd w w.heap.size A xs := by
  by_cases hn : n = 0
  · obtain ⟨A, c, rfl⟩ := own_shape h
    refine ⟨A, c, rfl, ?_⟩
    have : xs = [] := List.eq_nil_of_length_eq_zero (by have := h.1; rw [hn] at this; simpa using this)
    rw [this]
    exact Rd.nil _ _ _
  · obtain ⟨g, c, rfl, _, hlt⟩ := own_some h (by omega)
    refine ⟨_, c, rfl, fun _ => ⟨g, 0, rfl, hlt, fun k u hk => ?_⟩⟩
    rw [Nat.zero_add, h.cellAt k ?_]
    · exact hk
    · have := h.1
      rw [← this]
      exact (List.getElem?_eq_some_iff.1 hk).1
theorem gave_runs {R : List (Nat × Nat)} {w w' : World} {e : Ending} (h : GaveRuns R w e w') :
    ∃ A c, e = .returned (.slice A R.length c) ∧ Rd w' w'.heap.size A (runCells R) ∧ Below w.heap.size w w' := by
  obtain ⟨v, rfl, hown, hb⟩ := h
  obtain ⟨A, c, rfl, hr⟩ := own_rdn hown
  exact ⟨A, c, rfl, hr, hb⟩
end Go.Proofs.YtbfgcanceneokaaDoor

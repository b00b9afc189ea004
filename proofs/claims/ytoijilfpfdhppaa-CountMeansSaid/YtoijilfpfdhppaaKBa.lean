/- Vectors in memory; walks of riddlelaw01.great, bits.at, slices.Clone of words and bits.Trim. -/
import Derived.Test.YtoijilfpfdhppaaVa
import Derived.Test.YtoijilfpfdhppaaWd
import Derived.Test.YtoijilfpfdhppaaKB0
import Derived.Deep.DeepAppendWide
import Derived.Tactics
namespace Go.Proofs.Ytoijilfpfdhppaa
open Go.RowKit

/-- words as values -/
def u64s (L : List Nat) : List Value := L.map fun n : Nat => Value.int .u64 (n : Int)
theorem u64s_length (L : List Nat) : (u64s L).length = L.length := by simp [u64s]
theorem u64s_append (L M : List Nat) : u64s (L ++ M) = u64s L ++ u64s M := by simp [u64s]
theorem u64s_get (L : List Nat) (k : Nat) (h : k < L.length) : (u64s L)[k]? = some (.int .u64 ((L[k] : Nat) : Int)) := by simp [u64s, h]
theorem vw_cell (f : Nat → Bool) (n k : Nat) (h : k < n) : (u64s (vw f n))[k]? = some (.int .u64 ((pw f k : Nat) : Int)) := by
  unfold u64s
  rw [List.getElem?_map, vw_get f n k h]
  rfl
theorem u64s_one (L : List Nat) : ∀ u ∈ u64s L, u.oneCell' = true := by
  intro u hu
  unfold u64s at hu
  obtain ⟨n, _, rfl⟩ := List.mem_map.1 hu
  rfl
theorem word_info : (Try.prog.info? 22).map (fun i => (i.zero, i.size, i.bytes)) = some (some (.int .u64 0), 1, 8) := by kernel_rfl
theorem word_parts : ∃ i : TypeInfo, Try.prog.info? 22 = some i ∧ i.zero = some (.int .u64 0) ∧ i.size = 1 ∧ i.bytes = 8 := by
  have h := word_info
  cases e : Try.prog.info? 22 with
  | none => rw [e] at h; cases h
  | some i =>
    rw [e] at h
    simp only [Option.map_some, Option.some.injEq, Prod.mk.injEq] at h
    exact ⟨i, rfl, h.1, h.2.1, h.2.2⟩

/-- a call gave this list of words, in a row of its own -/
def GaveW (L : List Nat) (w : World) (e : Ending) (w' : World) : Prop :=
  ∃ v, e = .returned v ∧ w'.ownsRow w.heap.size 22 1 v L.length (u64s L) ∧ Below w.heap.size w w'
theorem gave_words {L : List Nat} {w w' : World} {e : Ending} (h : GaveW L w e w') :
    ∃ A c, e = .returned (.slice A L.length c) ∧ w'.ownsRow w.heap.size 22 1 (.slice A L.length c) L.length (u64s L) ∧ Rd w' w'.heap.size A (u64s L) ∧ Below w.heap.size w w' := by
  obtain ⟨v, rfl, hown, hb⟩ := h
  obtain ⟨_, A, c, rfl, hr⟩ := own_rd hown
  exact ⟨A, c, rfl, hown, hr, hb⟩

theorem at_any (f : Nat → Bool) (n : Nat) (hf : Sup f n) (A : Option Addr) (c k : Nat) (B : Nat) (w : World) (h : Rd w B A (u64s (vw f n))) :
    Calls Try.prog 47 #[.slice A n c, .int .i64 (k : Int)] w fun e w' => e = .returned (.int .u64 ((pw f k : Nat) : Int)) ∧ w = w' := by
  by_cases hk : k < n
  · obtain ⟨b, o, rfl, _, hc⟩ := h.at_ (vw_cell f n k hk)
    go_enter Try.func47, Try.ntmps47
    go_wp2
    go_ret
    exact ⟨rfl, rfl⟩
  · have hz : pw f k = 0 := hf.word (by omega)
    rw [hz]
    go_enter Try.func47, Try.ntmps47
    go_wp2
    go_ret
    exact ⟨rfl, rfl⟩
end Go.Proofs.Ytoijilfpfdhppaa

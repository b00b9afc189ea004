/- The copy of a vector; small facts for the laws of vectors. -/
import Derived.Test.YtmedpnlmdncieaaDoorVLs
namespace Go.Proofs.YtmedpnlmdncieaaDoor
open Go.RowKit

/-- a call gave the vector f as n words, in a row of its own -/
def GaveN (f : Nat → Bool) (n : Nat) (w : World) (e : Ending) (w' : World) : Prop :=
  ∃ A c, e = .returned (.slice A n c) ∧ Vec w' A n c f ∧ w'.ownsRow w.heap.size 45 1 (.slice A n c) n (u64s (vw f n)) ∧ Below w.heap.size w w'
theorem vcopy_any (f : Nat → Bool) (n : Nat) (A : Option Addr) (c : Nat) (w : World) (h : Vec w A n c f) :
    Calls Tryd.prog 14 #[.slice A n c] w (GaveN f n w) := by
  have h0 := copy_any (vw f n) (by rw [vw_length]; exact h.few) A c w h.rd
  rw [vw_length] at h0
  refine h0.mono ?_
  intro e w' hg
  obtain ⟨A', c', rfl, hown, hrd, hb⟩ := gave_words hg
  rw [vw_length] at *
  exact ⟨A', c', rfl, ⟨hrd, own_cap hown, h.sup, h.few⟩, hown, hb⟩

theorem GaveN.congr {f g : Nat → Bool} {n : Nat} {w w' : World} {e : Ending} (h : GaveN f n w e w') (hfg : ∀ i, f i = g i) : GaveN g n w e w' := by
  obtain rfl : f = g := funext hfg
  exact h

theorem addB_self (f : Nat → Bool) (j : Nat) : addB f j j = true := by simp [addB]
theorem delB_self (f : Nat → Bool) (j : Nat) : delB f j j = false := by simp [delB]
theorem delB_two (f : Nat → Bool) (j : Nat) : delB (delB f j) j = delB f j := by
  funext i
  unfold delB
  cases f i <;> cases decide (i = j) <;> rfl
theorem bitI_add (f : Nat → Bool) (j : Nat) (k : Int) (h : k ≠ (j : Int)) : bitI (addB f j) k = bitI f k := by
  unfold bitI
  split
  · have : ¬ k.toNat = j := by omega
    simp [addB, this]
  · rfl
theorem bitI_del (f : Nat → Bool) (j : Nat) (k : Int) (h : k ≠ (j : Int)) : bitI (delB f j) k = bitI f k := by
  unfold bitI
  split
  · have : ¬ k.toNat = j := by omega
    simp [delB, this]
  · rfl
theorem low_up (f : Nat → Bool) (m : Nat) (x : Int) (i : Nat) (h : x = (m : Int)) : lowB (upB f m) x i = false := by
  unfold lowB upB
  by_cases hi : m ≤ i
  · have : ¬ (i : Int) < x := by omega
    simp [this]
  · simp [hi]
theorem popOf_upTop (f : Nat → Bool) (m n : Nat) (h : Sup f n) : popOf (upB f m) (64 * top (upB f m) (m / 64 + n + 1)) = popOf f (64 * n) := by
  rw [← popOf_canon (upB_sup h m), ← popOf_up f m (64 * n)]
  exact popOf_sup (fun i hi => by
    have := h (i - m) (by omega)
    simp [upB, this]) (by omega)

theorem popOf_split (p q : Nat → Bool) (h : ∀ i, q i = true → p i = true) : ∀ n, popOf q n + popOf (fun b => p b && !q b) n = popOf p n
  | 0 => rfl
  | n + 1 => by
    have := popOf_split p q h n
    have h2 := h n
    rw [popOf_succ, popOf_succ, popOf_succ]
    have hb : (q n).toNat + (p n && !q n).toNat = (p n).toNat := by
      revert h2
      cases p n <;> cases q n <;> simp
    omega
theorem sup_and {f g : Nat → Bool} {n m N : Nat} (hf : Sup f n) (hg : Sup g m) (h : n ≤ N ∨ m ≤ N) : Sup (fun b => f b && g b) N := fun i hi => by
  rcases h with h | h
  · simp [hf i (by omega)]
  · simp [hg i (by omega)]
theorem sup_or {f g : Nat → Bool} {n m N : Nat} (hf : Sup f n) (hg : Sup g m) (h1 : n ≤ N) (h2 : m ≤ N) : Sup (fun b => f b || g b) N := fun i hi => by simp [hf i (by omega), hg i (by omega)]
theorem sup_minus {f g : Nat → Bool} {n N : Nat} (hf : Sup f n) (h : n ≤ N) : Sup (fun b => f b && !g b) N := fun i hi => by simp [hf i (by omega)]
theorem sup_first {f g : Nat → Bool} {n N : Nat} (hf : Sup f n) (h : n ≤ N) : Sup (fun b => f b && g b) N := fun i hi => by simp [hf i (by omega)]
theorem lowB_le (f : Nat → Bool) (i : Int) (b : Nat) (h : lowB f i b = true) : f b = true := by
  unfold lowB at h
  simp only [Bool.and_eq_true] at h
  exact h.1
theorem low_parts (f : Nat → Bool) (i : Int) (b : Nat) : (lowB f i b || (f b && !lowB f i b)) = f b := by
  unfold lowB
  cases f b <;> cases decide ((b : Int) < i) <;> rfl
theorem low_none (f : Nat → Bool) (i : Int) (b : Nat) : (lowB f i b && (f b && !lowB f i b)) = false := by
  unfold lowB
  cases f b <;> cases decide ((b : Int) < i) <;> rfl
theorem low_high (f : Nat → Bool) (i : Int) (b : Nat) : lowB (fun x => f x && !lowB f i x) i b = false := by
  show ((f b && !(f b && decide ((b : Int) < i))) && decide ((b : Int) < i)) = false
  cases f b <;> cases decide ((b : Int) < i) <;> rfl
theorem count_top {f : Nat → Bool} {N : Nat} (h : Sup f N) (B : Option Addr) (d : Nat) (W : World) (hv : Vec W B (top f N) d f) (q : Nat) (hq : popOf f (64 * N) = q) :
    Calls Tryd.prog 37 #[.slice B (top f N) d] W fun e w' => e = .returned (.int .i64 ((q : Nat) : Int)) ∧ W = w' := by
  have := count_any f _ B d W hv
  rwa [← popOf_canon h, hq] at this
theorem i64s_one (L : List Int) : ∀ u ∈ i64s L, u.oneCell' = true := by
  intro u hu
  unfold i64s at hu
  obtain ⟨n, _, rfl⟩ := List.mem_map.1 hu
  rfl
/-- the first place of a list that is none -/
theorem first_bad : ∀ L : List Int, ∃ j, j ≤ L.length ∧ (∀ i (h : i < L.length), i < j → okPlace L[i]) ∧ ∀ h : j < L.length, ¬ okPlace L[j]
  | [] => ⟨0, Nat.le_refl _, fun i h => absurd h (Nat.not_lt_zero i), fun h => absurd h (Nat.not_lt_zero 0)⟩
  | x :: L => by
    by_cases hx : okPlace x
    · obtain ⟨j, h1, h2, h3⟩ := first_bad L
      refine ⟨j + 1, by simpa using h1, fun i h hi => ?_, fun h => ?_⟩
      · match i, h, hi with
        | 0, _, _ => exact hx
        | i + 1, h, hi => exact h2 i (by simpa using h) (by omega)
      · exact h3 (by simpa using h)
    · exact ⟨0, Nat.zero_le _, fun i _ hi => absurd hi (Nat.not_lt_zero i), fun _ => hx⟩
theorem posI_ok (f : Nat → Bool) (N : Nat) (hN : N ≤ 65536) (i : Nat) (h : i < (posI f N).length) : okPlace (posI f N)[i] := by
  have hm := List.getElem_mem h
  unfold posI at hm
  obtain ⟨k, hk, e⟩ := List.mem_map.1 hm
  have := (bytesOf_mem.1 hk).1
  have e2 : (posI f N)[i] = (k : Int) := e.symm
  rw [e2]
  exact ⟨by omega, by omega⟩
end Go.Proofs.YtmedpnlmdncieaaDoor

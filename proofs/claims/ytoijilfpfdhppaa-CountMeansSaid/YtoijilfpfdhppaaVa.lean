/- Plain mathematics of vectors of bits: a vector of words as a set of places; its one form without words 0 at its end. No program in sight. -/
import Derived.Test.YtoijilfpfdhppaaMc
namespace Go.Proofs.Ytoijilfpfdhppaa

/-- the first n words of the places with f -/
def vw (f : Nat → Bool) (n : Nat) : List Nat := (List.range n).map (pw f)
theorem vw_length (f : Nat → Bool) (n : Nat) : (vw f n).length = n := by simp [vw]
theorem vw_get (f : Nat → Bool) (n k : Nat) (h : k < n) : (vw f n)[k]? = some (pw f k) := by simp [vw, h]
theorem vw_succ (f : Nat → Bool) (n : Nat) : vw f (n + 1) = vw f n ++ [pw f n] := by simp [vw, List.range_succ]
theorem vw_take (f : Nat → Bool) (n k : Nat) (h : k ≤ n) : (vw f n).take k = vw f k := by
  unfold vw
  rw [← List.map_take, List.take_range, Nat.min_eq_left h]

/-- nothing from word n on -/
def Sup (f : Nat → Bool) (n : Nat) : Prop := ∀ i, 64 * n ≤ i → f i = false
theorem Sup.mono {f : Nat → Bool} {n m : Nat} (h : Sup f n) (hm : n ≤ m) : Sup f m := fun i hi => h i (by omega)
theorem Sup.word {f : Nat → Bool} {n k : Nat} (h : Sup f n) (hk : n ≤ k) : pw f k = 0 := by
  unfold pw
  rw [bitsOf_congr (g := fun _ => false) (fun j _ => h _ (by omega))]
  exact bitsOf_none 64
theorem word_zero {f : Nat → Bool} {k : Nat} (h : pw f k = 0) (j : Nat) (hj : j < 64) : f (64 * k + j) = false := bitsOf_zero h j hj

/-- how many words the places with f need, out of the first N -/
def top (f : Nat → Bool) : Nat → Nat
  | 0 => 0
  | n + 1 => if pw f n = 0 then top f n else n + 1
theorem top_le (f : Nat → Bool) : ∀ N, top f N ≤ N
  | 0 => Nat.le_refl _
  | n + 1 => by
    have := top_le f n
    unfold top
    split <;> omega
theorem top_sup {f : Nat → Bool} : ∀ {N : Nat}, Sup f N → Sup f (top f N)
  | 0, h => h
  | n + 1, h => by
    unfold top
    split
    · rename_i hz
      refine top_sup fun i hi => ?_
      by_cases hlt : i < 64 * (n + 1)
      · have := word_zero hz (i - 64 * n) (by omega)
        rwa [show 64 * n + (i - 64 * n) = i from by omega] at this
      · exact h i (by omega)
    · exact h
theorem top_last {f : Nat → Bool} : ∀ {N n : Nat}, top f N = n + 1 → pw f n ≠ 0
  | 0, n, h => by simp [top] at h
  | N + 1, n, h => by
    unfold top at h
    split at h
    · exact top_last h
    · rename_i hz
      obtain rfl : N = n := by omega
      exact hz
theorem top_min {f : Nat → Bool} {N n : Nat} (h : Sup f n) : top f N ≤ n := by
  match e : top f N with
  | 0 => omega
  | k + 1 =>
    have := top_last e
    by_cases hk : n ≤ k
    · exact absurd (h.word hk) this
    · omega
theorem top_ext {f : Nat → Bool} {N M : Nat} (h : Sup f N) (h' : Sup f M) : top f N = top f M :=
  Nat.le_antisymm (top_min (top_sup h')) (top_min (top_sup h))
theorem top_zero {f : Nat → Bool} (h : ∀ i, f i = false) (N : Nat) : top f N = 0 := by
  have := top_min (f := f) (N := N) (n := 0) (fun i _ => h i)
  omega

/-- the vector in its one form -/
def canon (f : Nat → Bool) (N : Nat) : List Nat := vw f (top f N)
theorem canon_length (f : Nat → Bool) (N : Nat) : (canon f N).length = top f N := vw_length _ _
theorem canon_ext {f g : Nat → Bool} {N M : Nat} (h : Sup f N) (h' : Sup g M) (e : ∀ i, f i = g i) : canon f N = canon g M := by
  obtain rfl : f = g := funext e
  unfold canon
  rw [top_ext h h']

/-- any words are the words of their bits -/
def bitAt (L : List Nat) (i : Nat) : Bool := (L.getD (i / 64) 0).testBit (i % 64)
theorem bitAt_sup (L : List Nat) : Sup (bitAt L) L.length := fun i hi => by
  unfold bitAt
  rw [List.getD_eq_getElem?_getD, List.getElem?_eq_none (by omega)]
  simp
theorem bitAt_word (L : List Nat) (hL : ∀ x ∈ L, x < 18446744073709551616) (k : Nat) (hk : k < L.length) : pw (bitAt L) k = L[k] := by
  have e : pw (bitAt L) k = bitsOf (fun j => (L[k]).testBit j) 64 := by
    unfold pw
    refine bitsOf_congr fun j hj => ?_
    unfold bitAt
    rw [show (64 * k + j) / 64 = k from by omega, show (64 * k + j) % 64 = j from by omega]
    simp [List.getD_eq_getElem?_getD, List.getElem?_eq_getElem hk]
  rw [e]
  exact bitsOf_self (hL _ (List.getElem_mem hk))
theorem bitAt_vw (L : List Nat) (hL : ∀ x ∈ L, x < 18446744073709551616) : L = vw (bitAt L) L.length := by
  apply List.ext_getElem?
  intro k
  by_cases hk : k < L.length
  · rw [vw_get _ _ _ hk, bitAt_word L hL k hk, List.getElem?_eq_getElem hk]
  · rw [List.getElem?_eq_none (by omega), List.getElem?_eq_none (by rw [vw_length]; omega)]
theorem vw_lt (f : Nat → Bool) (n : Nat) : ∀ x ∈ vw f n, x < 18446744073709551616 := fun x hx => by
  unfold vw at hx
  obtain ⟨k, _, rfl⟩ := List.mem_map.1 hx
  exact pw_lt f k
end Go.Proofs.Ytoijilfpfdhppaa

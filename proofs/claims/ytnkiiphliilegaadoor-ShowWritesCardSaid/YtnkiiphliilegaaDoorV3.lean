/- The two tables in memory; strconv.Itoa of the numbers of a repeat. -/
import Derived.Test.YtnkiiphliilegaaDoorV2
import Derived.Test.YtnkiiphliilegaaDoorVi
import Derived.Lib.AppendIntMem
namespace Go.Proofs.YtnkiiphliilegaaDoor
open Go.RowKit

/-- the listed tables are laid -/
def Tabs (w : World) : Prop := Tab64 w ∧ Lib.TabIs Tryd.prog w "internal/strconv.uint64pow10" .u64 Lib.pow10Tab
theorem powAt : Tryd.prog.globalNamed "internal/strconv.uint64pow10" = some 1 := by kernel_rfl
theorem Tabs.lt {w : World} (h : Tabs w) : 0 < w.heap.size ∧ 1 < w.heap.size := by
  refine ⟨block_lt_of_cell (h.1 0 (by decide)), ?_⟩
  have h2 := h.2
  unfold Lib.TabIs World.var? at h2
  rw [powAt] at h2
  simp only [Option.bind_some] at h2
  rcases Nat.lt_or_ge 1 w.heap.size with h' | h'
  · exact h'
  · rw [Array.getElem?_eq_none h'] at h2; simp at h2
theorem Tabs.below {w w' : World} {B : Nat} (h : Tabs w) (hb : Below B w w') (hB : 2 ≤ B) : Tabs w' := by
  refine ⟨fun j hj => (hb.cell (p := ⟨0, j, none⟩) (by show 0 < B; omega)).trans (h.1 j hj), ?_⟩
  have h2 := h.2
  unfold Lib.TabIs World.var? at h2 ⊢
  rw [powAt] at h2 ⊢
  simp only [Option.bind_some] at h2 ⊢
  rw [hb.block 1 (by omega)]
  exact h2
theorem Tabs.size {w : World} (h : Tabs w) : 2 ≤ w.heap.size := by
  have := h.lt
  omega

/-- the digits of a number of a repeat, -1 too -/
def itF (n : Int) : List Nat := if n = -1 then [45, 49] else numF n.toNat
theorem digits_num (u : Nat) : Lib.decDigits u = (numF u).map UInt8.ofNat := by
  induction u using Nat.strongRecOn with
  | _ u ih =>
    rw [Lib.decDigits, numF]
    by_cases h : u < 10
    · rw [dif_pos h, if_pos h]
      rfl
    · rw [dif_neg h, if_neg h, ih (u / 10) (by omega), List.map_append]
      rfl
theorem strL_of (L : List Nat) (M : List UInt8) (h : M = L.map UInt8.ofNat) : ByteArray.mk M.toArray = strL L := by
  subst h
  apply ByteArray.ext
  apply Array.toList_inj.1
  unfold strL
  rw [strOfNums_data, List.map_map]
  simp
theorem itF_str (n : Int) (h0 : -1 ≤ n) : ByteArray.mk (Lib.itoa n).toArray = strL (itF n) := by
  apply strL_of
  unfold Lib.itoa itF
  by_cases h : n = -1
  · subst h
    rw [if_pos (by omega), if_pos rfl]
    have : Lib.decDigits (Int.natAbs (-1)) = [49] := by
      show Lib.decDigits 1 = [49]
      rw [digits_num]
      simp [numF]
    rw [this]
    rfl
  · rw [if_neg (by omega), if_neg h, digits_num]
theorem itF_len (n : Int) (h : n ≤ 200) : (itF n).length ≤ 203 := by
  unfold itF
  split
  · simp
  · have := numF_len n.toNat
    omega
theorem itF_nat (a : Nat) : itF (a : Int) = numF a := by
  unfold itF
  rw [if_neg (by omega)]
  rfl
theorem itF_lt (n : Int) : Bytes8 (itF n) := by
  unfold itF
  split
  · exact bytes8_cons (by omega) (bytes8_one (by omega))
  · exact numF_lt _
theorem itoa_any (n : Int) (h0 : -1 ≤ n) (h1 : n ≤ 200) (w : World) (hT : Tabs w) :
    Calls Tryd.prog 38 #[.int .i64 n] w fun e w' => e = .returned (.string (strL (itF n))) ∧ Below w.heap.size w w' := by
  refine (Tryd.strconv_Itoa n (by omega) (by omega) w hT.2).mono ?_
  rintro e w' ⟨rfl, k, os, rfl⟩
  exact ⟨by rw [itF_str n h0], Lib.below_grow _ _ (Nat.le_refl _) _ _⟩
end Go.Proofs.YtnkiiphliilegaaDoor

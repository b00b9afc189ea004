/- Walk of riddlelaw01.speaks: the document's examples. -/
import Derived.Test.YtmedpnlmdncieaaDoorVz
import Derived.Test.YtmedpnlmdncieaaDoorVja
import Derived.Test.YtmedpnlmdncieaaDoorVjb
import Derived.Test.YtmedpnlmdncieaaDoorVjc
namespace Go.Proofs.YtmedpnlmdncieaaDoor
open Go.RowKit

/-- a new block reads as what was laid in it -/
theorem new_rd (w : World) (t : TypeId) (fr : Nat × Nat) (xs : List Value) : Rd (w.alloc (.cells xs.toArray t fr)) (w.alloc (.cells xs.toArray t fr)).heap.size (some ⟨w.heap.size, 0, none⟩) xs := fun _ =>
  ⟨w.heap.size, 0, rfl, by simp, fun k v hk => by
    rw [Nat.zero_add, cell_of_row _ w.heap.size k xs.toArray t fr (heap_alloc_new w _)]
    simpa using hk⟩

def exF : Nat → Bool := setI [0, 64, 3]
theorem exF_canon : Canon exF 2 := by
  refine ⟨fun i hi => ?_, .inr ?_⟩
  · unfold exF setI
    simp only [List.contains_cons, List.contains_nil, Bool.or_false, Bool.or_eq_false_iff, beq_eq_false_iff_ne]
    omega
  · exact word_ne (i := 64) (by decide)
theorem exF_top : top exF 1024 = 2 := exF_canon.top_eq (exF_canon.1.mono (by decide))
theorem exF_words : vw exF 2 = [9, 1] := by decide +kernel
theorem exU_canon : Canon (upB exF 1) 2 := by
  refine ⟨fun i hi => ?_, .inr ?_⟩
  · unfold upB exF setI
    simp only [List.contains_cons, List.contains_nil, Bool.or_false, Bool.and_eq_false_iff, Bool.or_eq_false_iff, beq_eq_false_iff_ne]
    right
    omega
  · exact word_ne (i := 65) (by decide)
theorem exU_top : top (upB exF 1) 3 = 2 := exU_canon.top_eq (exU_canon.1.mono (by decide))
theorem exU_words : vw (upB exF 1) 2 = [18, 2] := by decide +kernel
theorem exL_canon : Canon (lowB exF 4) 1 := by
  refine ⟨fun i hi => ?_, .inr ?_⟩
  · unfold lowB
    have : ¬ (i : Int) < 4 := by omega
    simp [this]
  · exact word_ne (i := 0) (by decide)
theorem exL_top : top (lowB exF 4) 2 = 1 := exL_canon.top_eq (exL_canon.1.mono (by decide))
theorem exL_words : vw (lowB exF 4) 1 = [9] := by decide +kernel
theorem exU_pos : posI (upB exF 1) 128 = [1, 4, 65] := by decide +kernel
theorem ex_ok : ∀ i (h : i < [(0 : Int), 64, 3].length), i < 3 → okPlace [(0 : Int), 64, 3][i] := by
  intro i h _
  match i, h with
  | 0, _ => exact ⟨show (0 : Int) ≤ 0 by decide, show (0 : Int) ≤ 65535 by decide⟩
  | 1, _ => exact ⟨show (0 : Int) ≤ 64 by decide, show (64 : Int) ≤ 65535 by decide⟩
  | 2, _ => exact ⟨show (0 : Int) ≤ 3 by decide, show (3 : Int) ≤ 65535 by decide⟩

theorem words_of {w : World} {A : Option Addr} {n c : Nat} {f : Nat → Bool} {L : List Nat} (h : Vec w A n c f) (e : vw f n = L) : Rd w w.heap.size A (u64s L) := by
  rw [← e]
  exact h.rd
set_option maxRecDepth 100000 in
set_option maxHeartbeats 4000000 in
theorem speaks_any (w : World) (hT : Tab64 w) : Calls Tryd.prog 12 #[] w (SaysTrue w) := by
  have HT := Lib.hid hT
  clear hT
  have Hof := Lib.hid (fun A c W h => of_any [0, 64, 3] 3 (by decide) ex_ok (fun h => absurd h (by decide)) (by decide) A c W h)
  have Hup := Lib.hid (fun A c W h => up_yes exF 2 A c 1 (by decide) W h (by decide))
  have Hlow := Lib.hid (fun A c W h => low_any exF 2 A c 4 (by decide) W h)
  have Hlist := Lib.hid (fun A c W h hT => list_any (upB exF 1) 2 A c W h (by decide) hT)
  have Hs1 := Lib.hid (fun A B c d W h1 h2 => same_words [9, 1] A B c d W (by decide) h1 h2)
  have Hs2 := Lib.hid (fun A B c d W h1 h2 => same_words [18, 2] A B c d W (by decide) h1 h2)
  have Hs3 := Lib.hid (fun A B c d W h1 h2 => same_words [9] A B c d W (by decide) h1 h2)
  have Hs4 := Lib.hid (fun A B c d W h1 h2 => sameInts_any [1, 4, 65] A B c d W (by decide) h1 h2)
  go_enter Tryd.func12, Tryd.ntmps12
  go_wp2_with fail
  refine (Hof.out _ _ _ (new_rd w 3 (0, 0) (i64s [0, 64, 3]))).mono ?_
  intro e w1 hg
  have hg2 : GaveVE exF 1024 (w.alloc (.cells (i64s [0, 64, 3]).toArray 3 (0, 0))) e w1 := by
    rcases hg with ⟨_, h⟩ | ⟨h, _⟩
    · exact h
    · exact absurd h (by decide)
  clear hg
  unfold GaveVE at hg2
  rw [exF_top] at hg2
  obtain ⟨A, c, rfl, hv, hown, hb⟩ := hg2
  have HV := Lib.hid hv
  have HB := Lib.hid (((Below.refl w.heap.size w).alloc (Nat.le_refl _) (.cells (i64s [0, 64, 3]).toArray 3 (0, 0))).trans (hb.mono (by simp)))
  have HB1 : Hid (Below w1.heap.size w1 w1) := Below.refl _ _
  clear hv hown hb
  go_wp2_with fail
  refine (Hup.out _ _ _ HV.out).mono ?_
  intro e w2 hg
  unfold GaveVE at hg
  rw [exU_top] at hg
  obtain ⟨B, d, rfl, hv, hown, hb⟩ := hg
  have HU := Lib.hid hv
  have HB_2 := Lib.hid (HB.out.trans (hb.mono HB.out.size))
  have HB1_2 := Lib.hid (HB1.out.trans (hb.mono HB1.out.size))
  have HB2 : Hid (Below w2.heap.size w2 w2) := Below.refl _ _
  clear hv hown hb HB HB1
  go_wp2_with fail
  refine (Hs1.out _ _ _ _ _ (words_of ((HV.out.below HB1_2.out).below ((Below.refl _ _).alloc (Nat.le_refl _) _)) exF_words) (new_rd w2 45 (0, 0) (u64s [9, 1]))).mono ?_
  rintro e w3 ⟨rfl, hb3⟩
  have hb := (((Below.refl w2.heap.size w2).alloc (Nat.le_refl _) (.cells (u64s [9, 1]).toArray 45 (0, 0))).trans (hb3.mono (by simp)))
  have HB_3 := Lib.hid (HB_2.out.trans (hb.mono HB_2.out.size))
  have HB1_3 := Lib.hid (HB1_2.out.trans (hb.mono HB1_2.out.size))
  have HB2_3 := Lib.hid (HB2.out.trans (hb.mono HB2.out.size))
  clear hb hb3 HB_2 HB1_2 HB2
  go_wp2_with fail
  refine (Hs2.out _ _ _ _ _ (words_of ((HU.out.below HB2_3.out).below ((Below.refl _ _).alloc (Nat.le_refl _) _)) exU_words) (new_rd w3 45 (0, 0) (u64s [18, 2]))).mono ?_
  rintro e w4 ⟨rfl, hb4⟩
  have hb := (((Below.refl w3.heap.size w3).alloc (Nat.le_refl _) (.cells (u64s [18, 2]).toArray 45 (0, 0))).trans (hb4.mono (by simp)))
  have HB_4 := Lib.hid (HB_3.out.trans (hb.mono HB_3.out.size))
  have HB1_4 := Lib.hid (HB1_3.out.trans (hb.mono HB1_3.out.size))
  have HB2_4 := Lib.hid (HB2_3.out.trans (hb.mono HB2_3.out.size))
  clear hb hb4 HB_3 HB1_3 HB2_3
  go_wp2_with fail
  refine (Hlow.out _ _ _ (HV.out.below HB1_4.out)).mono ?_
  intro e w5 hg
  unfold GaveV at hg
  rw [exL_top] at hg
  obtain ⟨D, c5, rfl, hv, hown, hb⟩ := hg
  have HL := Lib.hid hv
  have HB_5 := Lib.hid (HB_4.out.trans (hb.mono HB_4.out.size))
  have HB2_5 := Lib.hid (HB2_4.out.trans (hb.mono HB2_4.out.size))
  clear hv hown hb HB_4 HB2_4 HB1_4
  go_wp2_with fail
  refine (Hs3.out _ _ _ _ _ (words_of (HL.out.below ((Below.refl _ _).alloc (Nat.le_refl _) _)) exL_words) (new_rd w5 45 (0, 0) (u64s [9]))).mono ?_
  rintro e w6 ⟨rfl, hb6⟩
  have hb := (((Below.refl w5.heap.size w5).alloc (Nat.le_refl _) (.cells (u64s [9]).toArray 45 (0, 0))).trans (hb6.mono (by simp)))
  have HB_6 := Lib.hid (HB_5.out.trans (hb.mono HB_5.out.size))
  have HB2_6 := Lib.hid (HB2_5.out.trans (hb.mono HB2_5.out.size))
  clear hb hb6 HB_5 HB2_5
  go_wp2_with fail
  refine (Hlist.out _ _ _ (HU.out.below HB2_6.out) (tab_below HT.out HB_6.out (Nat.le_refl _))).mono ?_
  intro e w7 hg
  obtain ⟨D2, c7, rfl, hown, hrd, hb⟩ := gave_ints hg
  rw [exU_pos] at hrd ⊢
  have HR := Lib.hid hrd
  have HB_7 := Lib.hid (HB_6.out.trans (hb.mono HB_6.out.size))
  clear hg hrd hown hb HB_6 HB2_6
  go_wp2_with fail
  refine (Hs4.out _ _ _ _ _ ((HR.out.below ((Below.refl _ _).alloc (Nat.le_refl _) _) (Nat.le_refl _)).more (by simp)) (new_rd w7 3 (0, 0) (i64s [1, 4, 65]))).mono ?_
  rintro e w8 ⟨rfl, hb8⟩
  have hb := (((Below.refl w7.heap.size w7).alloc (Nat.le_refl _) (.cells (i64s [1, 4, 65]).toArray 3 (0, 0))).trans (hb8.mono (by simp)))
  have HB_8 := Lib.hid (HB_7.out.trans (hb.mono HB_7.out.size))
  clear hb hb8
  go_wp2
  go_ret
  exact ⟨rfl, HB_8.out⟩
end Go.Proofs.YtmedpnlmdncieaaDoor

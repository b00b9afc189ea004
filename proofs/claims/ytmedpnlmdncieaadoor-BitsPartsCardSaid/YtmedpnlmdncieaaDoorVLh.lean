/- Walk of riddlelaw01.BitsParts: it answers true. -/
import Derived.Test.YtmedpnlmdncieaaDoorVL0
namespace Go.Proofs.YtmedpnlmdncieaaDoor
open Go.RowKit

set_option maxRecDepth 100000 in
set_option maxHeartbeats 8000000 in
theorem parts_walk (f : Nat → Bool) (n : Nat) (A : Option Addr) (c : Nat) (i : Int) (w : World) (hT : Tab64 w) (ha : Vec w A n c f) (hi : i ≤ 9223372036854775807) :
    Calls Tryd.prog 11 #[.slice A n c, .int .i64 i] w (SaysTrue w) := by
  have HT := Lib.hid hT
  clear hT
  have HV_a := Lib.hid ha
  have hn := ha.few
  unfold many at hn
  clear ha
  have Sf := Lib.hid HV_a.out.sup
  have Hz1 : Hid (top (fun b => lowB f i b && (f b && !lowB f i b)) (max (top (lowB f i) n) (top (fun b => f b && !lowB f i b) n)) = 0) := top_zero (low_none f i) _
  have Hz2 : Hid (top (lowB (fun b => f b && !lowB f i b) i) (top (fun b => f b && !lowB f i b) n) = 0) := top_zero (low_high f i) _
  obtain ⟨q1, hq1⟩ : ∃ q1, popOf (lowB f i) (64 * n) = q1 := ⟨_, rfl⟩
  obtain ⟨q2, hq2⟩ : ∃ q2, popOf (fun b => f b && !lowB f i b) (64 * n) = q2 := ⟨_, rfl⟩
  obtain ⟨q3, hq3⟩ : ∃ q3, popOf f (64 * n) = q3 := ⟨_, rfl⟩
  have Hq1 := Lib.hid (fun B d W hv => count_top (lowB_sup Sf.out i) B d W hv q1 hq1)
  have Hq2 := Lib.hid (fun B d W hv => count_top (sup_minus (N := n) Sf.out (Nat.le_refl _)) B d W hv q2 hq2)
  have Hq3 := Lib.hid (fun W hv => count_any f n A c W hv)
  rw [hq3] at Hq3
  have hsum : q1 + q2 = q3 := by
    have h1 := popOf_split f (lowB f i) (lowB_le f i) (64 * n)
    rw [hq1, hq2, hq3] at h1
    exact h1
  have b3 : q3 ≤ 1280000000000000 := by have := popOf_le f (64 * n); omega
  have b1 : q1 ≤ 1280000000000000 := by omega
  have b2 : q2 ≤ 1280000000000000 := by omega
  have heq : (((q1 : Int) + (q2 : Int)) == (q3 : Int)) = true := by simp; omega
  clear hq1 hq2 hq3 hsum
  go_enter Tryd.func11, Tryd.ntmps11
  have HB0 : Hid (Below w.heap.size w w) := Below.refl _ _
  go_wp2_with fail
  refine (speaks_any _ (tab_below HT.out HB0.out (Nat.le_refl _))).mono ?_
  rintro e w1 ⟨rfl, hb⟩
  have HB0_1 := Lib.hid (HB0.out.trans (hb.mono HB0.out.size))
  clear HB0
  clear hb
  go_wp2_with fail
  refine (low_any f n A c i hi _ (HV_a.out.below HB0_1.out)).mono ?_
  intro e w2 hg
  obtain ⟨A_l, c_l, rfl, h1, h2, hb⟩ := hg
  have HB0_2 := Lib.hid (HB0_1.out.trans (hb.mono HB0_1.out.size))
  clear HB0_1
  have HV_l := Lib.hid h1
  have HB2 : Hid (Below w2.heap.size w2 w2) := Below.refl _ _
  clear h1 h2 hb
  go_wp2_with fail
  refine (vminus_any f (lowB f i) n _ A A_l c c_l _ (HV_a.out.below HB0_2.out) (HV_l.out.below HB2.out)).mono ?_
  intro e w3 hg
  have hg2 := hg.congr (g := fun b => f b && !lowB f i b) (M := n) (sup_minus Sf.out (by omega)) (sup_minus Sf.out (Nat.le_refl _)) (fun _ => rfl)
  clear hg
  obtain ⟨A_h, c_h, rfl, h1, h2, hb⟩ := hg2
  have HB0_3 := Lib.hid (HB0_2.out.trans (hb.mono HB0_2.out.size))
  have HB2_3 := Lib.hid (HB2.out.trans (hb.mono HB2.out.size))
  clear HB0_2
  clear HB2
  have HV_h := Lib.hid h1
  have HB3 : Hid (Below w3.heap.size w3 w3) := Below.refl _ _
  clear h1 h2 hb
  go_wp2_with fail
  refine (vor_any (lowB f i) (fun b => f b && !lowB f i b) _ _ A_l A_h c_l c_h _ (HV_l.out.below HB2_3.out) (HV_h.out.below HB3.out)).mono ?_
  intro e w4 hg
  have hg2 := hg.congr (g := f) (M := n) (sup_or HV_l.out.sup HV_h.out.sup (by omega) (by omega)) Sf.out (low_parts f i)
  clear hg
  obtain ⟨A_o, c_o, rfl, h1, h2, hb⟩ := hg2
  have HB0_4 := Lib.hid (HB0_3.out.trans (hb.mono HB0_3.out.size))
  have HB2_4 := Lib.hid (HB2_3.out.trans (hb.mono HB2_3.out.size))
  have HB3_4 := Lib.hid (HB3.out.trans (hb.mono HB3.out.size))
  clear HB0_3
  clear HB2_3
  clear HB3
  have HV_o := Lib.hid h1
  have HB4 : Hid (Below w4.heap.size w4 w4) := Below.refl _ _
  clear h1 h2 hb
  go_wp2_with fail
  refine (trim_any f n A c _ (HV_a.out.below HB0_4.out)).mono ?_
  intro e w5 hg
  obtain ⟨A_t, c_t, rfl, h1, h2, hb⟩ := hg
  have HB0_5 := Lib.hid (HB0_4.out.trans (hb.mono HB0_4.out.size))
  have HB2_5 := Lib.hid (HB2_4.out.trans (hb.mono HB2_4.out.size))
  have HB3_5 := Lib.hid (HB3_4.out.trans (hb.mono HB3_4.out.size))
  have HB4_5 := Lib.hid (HB4.out.trans (hb.mono HB4.out.size))
  clear HB0_4
  clear HB2_4
  clear HB3_4
  clear HB4
  have HV_t := Lib.hid h1
  have HB5 : Hid (Below w5.heap.size w5 w5) := Below.refl _ _
  clear h1 h2 hb
  go_wp2_with fail
  refine (same_vec _ _ A_o A_t c_o c_t _ (HV_o.out.below HB4_5.out) (HV_t.out.below HB5.out)).mono ?_
  rintro e w6 ⟨rfl, hb⟩
  have HB0_6 := Lib.hid (HB0_5.out.trans (hb.mono HB0_5.out.size))
  have HB2_6 := Lib.hid (HB2_5.out.trans (hb.mono HB2_5.out.size))
  have HB3_6 := Lib.hid (HB3_5.out.trans (hb.mono HB3_5.out.size))
  have HB4_6 := Lib.hid (HB4_5.out.trans (hb.mono HB4_5.out.size))
  have HB5_6 := Lib.hid (HB5.out.trans (hb.mono HB5.out.size))
  clear HB0_5
  clear HB2_5
  clear HB3_5
  clear HB4_5
  clear HB5
  clear hb
  go_wp2_with fail
  refine (vand_any (lowB f i) (fun b => f b && !lowB f i b) _ _ A_l A_h c_l c_h _ (HV_l.out.below HB2_6.out) (HV_h.out.below HB3_6.out)).mono ?_
  intro e w7 hg
  unfold GaveV at hg
  rw [Hz1.out] at hg
  obtain ⟨A_u, c_u, rfl, h1, h2, hb⟩ := hg
  have HB0_7 := Lib.hid (HB0_6.out.trans (hb.mono HB0_6.out.size))
  have HB2_7 := Lib.hid (HB2_6.out.trans (hb.mono HB2_6.out.size))
  have HB3_7 := Lib.hid (HB3_6.out.trans (hb.mono HB3_6.out.size))
  have HB4_7 := Lib.hid (HB4_6.out.trans (hb.mono HB4_6.out.size))
  have HB5_7 := Lib.hid (HB5_6.out.trans (hb.mono HB5_6.out.size))
  clear HB0_6
  clear HB2_6
  clear HB3_6
  clear HB4_6
  clear HB5_6
  clear h1 h2 hb
  go_wp2_with fail
  refine (Hq1.out A_l c_l _ (HV_l.out.below HB2_7.out)).mono ?_
  rintro e w_ ⟨rfl, rfl⟩
  go_wp2_with fail
  refine (Hq2.out A_h c_h _ (HV_h.out.below HB3_7.out)).mono ?_
  rintro e w_ ⟨rfl, rfl⟩
  go_wp2_with fail
  refine (Hq3.out _ (HV_a.out.below HB0_7.out)).mono ?_
  rintro e w_ ⟨rfl, rfl⟩
  go_wp2_with fail
  refine (low_any (fun b => f b && !lowB f i b) _ A_h c_h i hi _ (HV_h.out.below HB3_7.out)).mono ?_
  intro e w8 hg
  unfold GaveV at hg
  rw [Hz2.out] at hg
  obtain ⟨A_z, c_z, rfl, h1, h2, hb⟩ := hg
  have HB0_8 := Lib.hid (HB0_7.out.trans (hb.mono HB0_7.out.size))
  have HB2_8 := Lib.hid (HB2_7.out.trans (hb.mono HB2_7.out.size))
  have HB3_8 := Lib.hid (HB3_7.out.trans (hb.mono HB3_7.out.size))
  have HB4_8 := Lib.hid (HB4_7.out.trans (hb.mono HB4_7.out.size))
  have HB5_8 := Lib.hid (HB5_7.out.trans (hb.mono HB5_7.out.size))
  clear HB0_7
  clear HB2_7
  clear HB3_7
  clear HB4_7
  clear HB5_7
  clear h1 h2 hb
  go_wp2
  go_ret
  exact ⟨rfl, HB0_8.out⟩
end Go.Proofs.YtmedpnlmdncieaaDoor

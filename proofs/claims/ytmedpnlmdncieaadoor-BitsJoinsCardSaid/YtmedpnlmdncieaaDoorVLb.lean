/- Walk of riddlelaw01.BitsJoins: it answers true. -/
import Derived.Test.YtmedpnlmdncieaaDoorVL0
namespace Go.Proofs.YtmedpnlmdncieaaDoor
open Go.RowKit

set_option maxRecDepth 100000 in
set_option maxHeartbeats 8000000 in
theorem joins_walk (f g : Nat → Bool) (n m : Nat) (A B : Option Addr) (c d : Nat) (w : World) (hT : Tab64 w) (ha : Vec w A n c f) (hb : Vec w B m d g) :
    Calls Tryd.prog 5 #[.slice A n c, .slice B m d] w (SaysTrue w) := by
  have HT := Lib.hid hT
  have HV_a := Lib.hid ha
  have HV_b := Lib.hid hb
  clear hT ha hb
  by_cases h1 : 40 < n
  · have hd1 : decide (40 < n) = true := by simpa using h1
    go_enter Tryd.func5, Tryd.ntmps5
    have HB0 : Hid (Below w.heap.size w w) := Below.refl _ _
    go_wp2_with fail
    refine (speaks_any _ (tab_below HT.out HB0.out (Nat.le_refl _))).mono ?_
    rintro e w1 ⟨rfl, hb⟩
    have HB0_1 := Lib.hid (HB0.out.trans (hb.mono HB0.out.size))
    clear HB0
    clear hb
    go_wp2_with fail
    refine (great_any A n c _).mono ?_
    rintro e w_ ⟨rfl, rfl⟩
    go_wp2
    go_ret
    exact ⟨rfl, HB0_1.out⟩
  · have hd1 : decide (40 < n) = false := by simpa using h1
    by_cases h2 : 40 < m
    · have hd2 : decide (40 < m) = true := by simpa using h2
      go_enter Tryd.func5, Tryd.ntmps5
      have HB0 : Hid (Below w.heap.size w w) := Below.refl _ _
      go_wp2_with fail
      refine (speaks_any _ (tab_below HT.out HB0.out (Nat.le_refl _))).mono ?_
      rintro e w1 ⟨rfl, hb⟩
      have HB0_1 := Lib.hid (HB0.out.trans (hb.mono HB0.out.size))
      clear HB0
      clear hb
      go_wp2_with fail
      refine (great_any A n c _).mono ?_
      rintro e w_ ⟨rfl, rfl⟩
      go_wp2_with fail
      refine (great_any B m d _).mono ?_
      rintro e w_ ⟨rfl, rfl⟩
      go_wp2
      go_ret
      exact ⟨rfl, HB0_1.out⟩
    · have hd2 : decide (40 < m) = false := by simpa using h2
      go_enter Tryd.func5, Tryd.ntmps5
      have HB0 : Hid (Below w.heap.size w w) := Below.refl _ _
      go_wp2_with fail
      refine (speaks_any _ (tab_below HT.out HB0.out (Nat.le_refl _))).mono ?_
      rintro e w1 ⟨rfl, hb⟩
      have HB0_1 := Lib.hid (HB0.out.trans (hb.mono HB0.out.size))
      clear HB0
      clear hb
      go_wp2_with fail
      refine (great_any A n c _).mono ?_
      rintro e w_ ⟨rfl, rfl⟩
      go_wp2_with fail
      refine (great_any B m d _).mono ?_
      rintro e w_ ⟨rfl, rfl⟩
      go_wp2_with fail
      refine (vcopy_any f n A c _ (HV_a.out.below HB0_1.out)).mono ?_
      intro e w2 hg
      obtain ⟨A_x, c_x, rfl, h1, h2, hb⟩ := hg
      have HB0_2 := Lib.hid (HB0_1.out.trans (hb.mono HB0_1.out.size))
      clear HB0_1
      have HV_x := Lib.hid h1
      have HB2 : Hid (Below w2.heap.size w2 w2) := Below.refl _ _
      clear h1 h2 hb
      go_wp2_with fail
      refine (vcopy_any g m B d _ (HV_b.out.below HB0_2.out)).mono ?_
      intro e w3 hg
      obtain ⟨A_y, c_y, rfl, h1, h2, hb⟩ := hg
      have HB0_3 := Lib.hid (HB0_2.out.trans (hb.mono HB0_2.out.size))
      have HB2_3 := Lib.hid (HB2.out.trans (hb.mono HB2.out.size))
      clear HB0_2
      clear HB2
      have HV_y := Lib.hid h1
      have HB3 : Hid (Below w3.heap.size w3 w3) := Below.refl _ _
      clear h1 h2 hb
      go_wp2_with fail
      refine (vand_any f g n m A_x A_y c_x c_y _ (HV_x.out.below HB2_3.out) (HV_y.out.below HB3.out)).mono ?_
      intro e w4 hg
      obtain ⟨A_p, c_p, rfl, h1, h2, hb⟩ := hg
      have HZ_p_w := Lib.hid HB0_3.out.size
      have HZ_p_w2 := Lib.hid HB2_3.out.size
      have HZ_p_w3 := Lib.hid HB3.out.size
      have HB0_4 := Lib.hid (HB0_3.out.trans (hb.mono HB0_3.out.size))
      have HB2_4 := Lib.hid (HB2_3.out.trans (hb.mono HB2_3.out.size))
      have HB3_4 := Lib.hid (HB3.out.trans (hb.mono HB3.out.size))
      clear HB0_3
      clear HB2_3
      clear HB3
      have HV_p := Lib.hid h1
      have HB4 : Hid (Below w4.heap.size w4 w4) := Below.refl _ _
      have HO_p := Lib.hid h2
      have HO1_p := Lib.hid h2
      clear h1 h2 hb
      go_wp2_with fail
      refine (vor_any f g n m A_x A_y c_x c_y _ (HV_x.out.below HB2_4.out) (HV_y.out.below HB3_4.out)).mono ?_
      intro e w5 hg
      obtain ⟨A_q, c_q, rfl, h1, h2, hb⟩ := hg
      have HZ_q_w := Lib.hid HB0_4.out.size
      have HZ_q_w2 := Lib.hid HB2_4.out.size
      have HZ_q_w3 := Lib.hid HB3_4.out.size
      have HZ_q_w4 := Lib.hid HB4.out.size
      have HB0_5 := Lib.hid (HB0_4.out.trans (hb.mono HB0_4.out.size))
      have HB2_5 := Lib.hid (HB2_4.out.trans (hb.mono HB2_4.out.size))
      have HB3_5 := Lib.hid (HB3_4.out.trans (hb.mono HB3_4.out.size))
      have HB4_5 := Lib.hid (HB4.out.trans (hb.mono HB4.out.size))
      have HO_p_5 := Lib.hid (own_below HO_p.out hb (Nat.le_refl _))
      clear HB0_4
      clear HB2_4
      clear HB3_4
      clear HB4
      have HV_q := Lib.hid h1
      have HB5 : Hid (Below w5.heap.size w5 w5) := Below.refl _ _
      have HO_q := Lib.hid h2
      have HO1_q := Lib.hid h2
      clear h1 h2 hb
      go_wp2_with fail
      refine (vminus_any f g n m A_x A_y c_x c_y _ (HV_x.out.below HB2_5.out) (HV_y.out.below HB3_5.out)).mono ?_
      intro e w6 hg
      obtain ⟨A_r, c_r, rfl, h1, h2, hb⟩ := hg
      have HZ_r_w := Lib.hid HB0_5.out.size
      have HZ_r_w2 := Lib.hid HB2_5.out.size
      have HZ_r_w3 := Lib.hid HB3_5.out.size
      have HZ_r_w4 := Lib.hid HB4_5.out.size
      have HZ_r_w5 := Lib.hid HB5.out.size
      have HB0_6 := Lib.hid (HB0_5.out.trans (hb.mono HB0_5.out.size))
      have HB2_6 := Lib.hid (HB2_5.out.trans (hb.mono HB2_5.out.size))
      have HB3_6 := Lib.hid (HB3_5.out.trans (hb.mono HB3_5.out.size))
      have HB4_6 := Lib.hid (HB4_5.out.trans (hb.mono HB4_5.out.size))
      have HB5_6 := Lib.hid (HB5.out.trans (hb.mono HB5.out.size))
      have HO_p_6 := Lib.hid (own_below HO_p_5.out hb (Nat.le_refl _))
      have HO_q_6 := Lib.hid (own_below HO_q.out hb (Nat.le_refl _))
      clear HB0_5
      clear HB2_5
      clear HB3_5
      clear HB4_5
      clear HB5
      have HV_r := Lib.hid h1
      have HB6 : Hid (Below w6.heap.size w6 w6) := Below.refl _ _
      have HO_r := Lib.hid h2
      have HO1_r := Lib.hid h2
      clear h1 h2 hb
      go_wp2_with fail
      refine (join_and f g n m A B c d _ (HV_a.out.below HB0_6.out) (HV_b.out.below HB0_6.out) (by omega) (by omega)).mono ?_
      intro e w7 hg
      obtain ⟨A_jp, c_jp, rfl, h1, h2, hb⟩ := hg
      have HB0_7 := Lib.hid (HB0_6.out.trans (hb.mono HB0_6.out.size))
      have HB2_7 := Lib.hid (HB2_6.out.trans (hb.mono HB2_6.out.size))
      have HB3_7 := Lib.hid (HB3_6.out.trans (hb.mono HB3_6.out.size))
      have HB4_7 := Lib.hid (HB4_6.out.trans (hb.mono HB4_6.out.size))
      have HB5_7 := Lib.hid (HB5_6.out.trans (hb.mono HB5_6.out.size))
      have HB6_7 := Lib.hid (HB6.out.trans (hb.mono HB6.out.size))
      have HO_p_7 := Lib.hid (own_below HO_p_6.out hb (Nat.le_refl _))
      have HO_q_7 := Lib.hid (own_below HO_q_6.out hb (Nat.le_refl _))
      have HO_r_7 := Lib.hid (own_below HO_r.out hb (Nat.le_refl _))
      clear HB0_6
      clear HB2_6
      clear HB3_6
      clear HB4_6
      clear HB5_6
      clear HB6
      have HV_jp := Lib.hid h1
      have HB7 : Hid (Below w7.heap.size w7 w7) := Below.refl _ _
      clear h1 h2 hb
      go_wp2_with fail
      refine (same_vec _ _ A_p A_jp c_p c_jp _ (HV_p.out.below HB4_7.out) (HV_jp.out.below HB7.out)).mono ?_
      rintro e w8 ⟨rfl, hb⟩
      have HB0_8 := Lib.hid (HB0_7.out.trans (hb.mono HB0_7.out.size))
      have HB2_8 := Lib.hid (HB2_7.out.trans (hb.mono HB2_7.out.size))
      have HB3_8 := Lib.hid (HB3_7.out.trans (hb.mono HB3_7.out.size))
      have HB4_8 := Lib.hid (HB4_7.out.trans (hb.mono HB4_7.out.size))
      have HB5_8 := Lib.hid (HB5_7.out.trans (hb.mono HB5_7.out.size))
      have HB6_8 := Lib.hid (HB6_7.out.trans (hb.mono HB6_7.out.size))
      have HB7_8 := Lib.hid (HB7.out.trans (hb.mono HB7.out.size))
      have HO_p_8 := Lib.hid (own_below HO_p_7.out hb (Nat.le_refl _))
      have HO_q_8 := Lib.hid (own_below HO_q_7.out hb (Nat.le_refl _))
      have HO_r_8 := Lib.hid (own_below HO_r_7.out hb (Nat.le_refl _))
      clear HB0_7
      clear HB2_7
      clear HB3_7
      clear HB4_7
      clear HB5_7
      clear HB6_7
      clear HB7
      clear hb
      go_wp2_with fail
      refine (join_or f g n m A B c d _ (HV_a.out.below HB0_8.out) (HV_b.out.below HB0_8.out) (by omega) (by omega)).mono ?_
      intro e w9 hg
      obtain ⟨A_jq, c_jq, rfl, h1, h2, hb⟩ := hg
      have HB0_9 := Lib.hid (HB0_8.out.trans (hb.mono HB0_8.out.size))
      have HB2_9 := Lib.hid (HB2_8.out.trans (hb.mono HB2_8.out.size))
      have HB3_9 := Lib.hid (HB3_8.out.trans (hb.mono HB3_8.out.size))
      have HB4_9 := Lib.hid (HB4_8.out.trans (hb.mono HB4_8.out.size))
      have HB5_9 := Lib.hid (HB5_8.out.trans (hb.mono HB5_8.out.size))
      have HB6_9 := Lib.hid (HB6_8.out.trans (hb.mono HB6_8.out.size))
      have HB7_9 := Lib.hid (HB7_8.out.trans (hb.mono HB7_8.out.size))
      have HO_p_9 := Lib.hid (own_below HO_p_8.out hb (Nat.le_refl _))
      have HO_q_9 := Lib.hid (own_below HO_q_8.out hb (Nat.le_refl _))
      have HO_r_9 := Lib.hid (own_below HO_r_8.out hb (Nat.le_refl _))
      clear HB0_8
      clear HB2_8
      clear HB3_8
      clear HB4_8
      clear HB5_8
      clear HB6_8
      clear HB7_8
      have HV_jq := Lib.hid h1
      have HB9 : Hid (Below w9.heap.size w9 w9) := Below.refl _ _
      clear h1 h2 hb
      go_wp2_with fail
      refine (same_vec _ _ A_q A_jq c_q c_jq _ (HV_q.out.below HB5_9.out) (HV_jq.out.below HB9.out)).mono ?_
      rintro e w10 ⟨rfl, hb⟩
      have HB0_10 := Lib.hid (HB0_9.out.trans (hb.mono HB0_9.out.size))
      have HB2_10 := Lib.hid (HB2_9.out.trans (hb.mono HB2_9.out.size))
      have HB3_10 := Lib.hid (HB3_9.out.trans (hb.mono HB3_9.out.size))
      have HB4_10 := Lib.hid (HB4_9.out.trans (hb.mono HB4_9.out.size))
      have HB5_10 := Lib.hid (HB5_9.out.trans (hb.mono HB5_9.out.size))
      have HB6_10 := Lib.hid (HB6_9.out.trans (hb.mono HB6_9.out.size))
      have HB7_10 := Lib.hid (HB7_9.out.trans (hb.mono HB7_9.out.size))
      have HB9_10 := Lib.hid (HB9.out.trans (hb.mono HB9.out.size))
      have HO_p_10 := Lib.hid (own_below HO_p_9.out hb (Nat.le_refl _))
      have HO_q_10 := Lib.hid (own_below HO_q_9.out hb (Nat.le_refl _))
      have HO_r_10 := Lib.hid (own_below HO_r_9.out hb (Nat.le_refl _))
      clear HB0_9
      clear HB2_9
      clear HB3_9
      clear HB4_9
      clear HB5_9
      clear HB6_9
      clear HB7_9
      clear HB9
      clear hb
      go_wp2_with fail
      refine (join_minus f g n m A B c d _ (HV_a.out.below HB0_10.out) (HV_b.out.below HB0_10.out) (by omega) (by omega)).mono ?_
      intro e w11 hg
      obtain ⟨A_jr, c_jr, rfl, h1, h2, hb⟩ := hg
      have HB0_11 := Lib.hid (HB0_10.out.trans (hb.mono HB0_10.out.size))
      have HB2_11 := Lib.hid (HB2_10.out.trans (hb.mono HB2_10.out.size))
      have HB3_11 := Lib.hid (HB3_10.out.trans (hb.mono HB3_10.out.size))
      have HB4_11 := Lib.hid (HB4_10.out.trans (hb.mono HB4_10.out.size))
      have HB5_11 := Lib.hid (HB5_10.out.trans (hb.mono HB5_10.out.size))
      have HB6_11 := Lib.hid (HB6_10.out.trans (hb.mono HB6_10.out.size))
      have HB7_11 := Lib.hid (HB7_10.out.trans (hb.mono HB7_10.out.size))
      have HB9_11 := Lib.hid (HB9_10.out.trans (hb.mono HB9_10.out.size))
      have HO_p_11 := Lib.hid (own_below HO_p_10.out hb (Nat.le_refl _))
      have HO_q_11 := Lib.hid (own_below HO_q_10.out hb (Nat.le_refl _))
      have HO_r_11 := Lib.hid (own_below HO_r_10.out hb (Nat.le_refl _))
      clear HB0_10
      clear HB2_10
      clear HB3_10
      clear HB4_10
      clear HB5_10
      clear HB6_10
      clear HB7_10
      clear HB9_10
      have HV_jr := Lib.hid h1
      have HB11 : Hid (Below w11.heap.size w11 w11) := Below.refl _ _
      clear h1 h2 hb
      go_wp2_with fail
      refine (same_vec _ _ A_r A_jr c_r c_jr _ (HV_r.out.below HB6_11.out) (HV_jr.out.below HB11.out)).mono ?_
      rintro e w12 ⟨rfl, hb⟩
      have HB0_12 := Lib.hid (HB0_11.out.trans (hb.mono HB0_11.out.size))
      have HB2_12 := Lib.hid (HB2_11.out.trans (hb.mono HB2_11.out.size))
      have HB3_12 := Lib.hid (HB3_11.out.trans (hb.mono HB3_11.out.size))
      have HB4_12 := Lib.hid (HB4_11.out.trans (hb.mono HB4_11.out.size))
      have HB5_12 := Lib.hid (HB5_11.out.trans (hb.mono HB5_11.out.size))
      have HB6_12 := Lib.hid (HB6_11.out.trans (hb.mono HB6_11.out.size))
      have HB7_12 := Lib.hid (HB7_11.out.trans (hb.mono HB7_11.out.size))
      have HB9_12 := Lib.hid (HB9_11.out.trans (hb.mono HB9_11.out.size))
      have HB11_12 := Lib.hid (HB11.out.trans (hb.mono HB11.out.size))
      have HO_p_12 := Lib.hid (own_below HO_p_11.out hb (Nat.le_refl _))
      have HO_q_12 := Lib.hid (own_below HO_q_11.out hb (Nat.le_refl _))
      have HO_r_12 := Lib.hid (own_below HO_r_11.out hb (Nat.le_refl _))
      clear HB0_11
      clear HB2_11
      clear HB3_11
      clear HB4_11
      clear HB5_11
      clear HB6_11
      clear HB7_11
      clear HB9_11
      clear HB11
      clear hb
      clear HB4_12
      clear HB5_12
      clear HB6_12
      clear HB7_12
      clear HB9_12
      clear HB11_12
      go_wp2_with fail
      refine (spoil_any A_p _ c_p _ _ _ HV_p.out.few HO_p_12.out).mono ?_
      rintro e w13 ⟨⟨u_, rfl⟩, hgr⟩
      have HB0_13 := Lib.hid (below_own HB0_12.out hgr HO_p_12.out HZ_p_w.out HB0_12.out.size)
      clear HB0_12
      have HB2_13 := Lib.hid (below_own HB2_12.out hgr HO_p_12.out HZ_p_w2.out HB2_12.out.size)
      clear HB2_12
      have HB3_13 := Lib.hid (below_own HB3_12.out hgr HO_p_12.out HZ_p_w3.out HB3_12.out.size)
      clear HB3_12
      have HO_q_13 := Lib.hid (own_far HO1_p.out HZ_q_w4.out HO_q_12.out hgr)
      have HO_r_13 := Lib.hid (own_far HO1_p.out HZ_r_w4.out HO_r_12.out hgr)
      clear hgr
      go_wp2_with fail
      refine (spoil_any A_q _ c_q _ _ _ HV_q.out.few HO_q_13.out).mono ?_
      rintro e w14 ⟨⟨u_, rfl⟩, hgr⟩
      have HB0_14 := Lib.hid (below_own HB0_13.out hgr HO_q_13.out HZ_q_w.out HB0_13.out.size)
      clear HB0_13
      have HB2_14 := Lib.hid (below_own HB2_13.out hgr HO_q_13.out HZ_q_w2.out HB2_13.out.size)
      clear HB2_13
      have HB3_14 := Lib.hid (below_own HB3_13.out hgr HO_q_13.out HZ_q_w3.out HB3_13.out.size)
      clear HB3_13
      have HO_r_14 := Lib.hid (own_far HO1_q.out HZ_r_w5.out HO_r_13.out hgr)
      clear hgr
      go_wp2_with fail
      refine (spoil_any A_r _ c_r _ _ _ HV_r.out.few HO_r_14.out).mono ?_
      rintro e w15 ⟨⟨u_, rfl⟩, hgr⟩
      have HB0_15 := Lib.hid (below_own HB0_14.out hgr HO_r_14.out HZ_r_w.out HB0_14.out.size)
      clear HB0_14
      have HB2_15 := Lib.hid (below_own HB2_14.out hgr HO_r_14.out HZ_r_w2.out HB2_14.out.size)
      clear HB2_14
      have HB3_15 := Lib.hid (below_own HB3_14.out hgr HO_r_14.out HZ_r_w3.out HB3_14.out.size)
      clear HB3_14
      clear hgr
      go_wp2_with fail
      refine (same_vec _ _ A_x A c_x c _ (HV_x.out.below HB2_15.out) (HV_a.out.below HB0_15.out)).mono ?_
      rintro e w16 ⟨rfl, hb⟩
      have HB0_16 := Lib.hid (HB0_15.out.trans (hb.mono HB0_15.out.size))
      have HB2_16 := Lib.hid (HB2_15.out.trans (hb.mono HB2_15.out.size))
      have HB3_16 := Lib.hid (HB3_15.out.trans (hb.mono HB3_15.out.size))
      clear HB0_15
      clear HB2_15
      clear HB3_15
      clear hb
      go_wp2_with fail
      refine (same_vec _ _ A_y B c_y d _ (HV_y.out.below HB3_16.out) (HV_b.out.below HB0_16.out)).mono ?_
      rintro e w17 ⟨rfl, hb⟩
      have HB0_17 := Lib.hid (HB0_16.out.trans (hb.mono HB0_16.out.size))
      have HB2_17 := Lib.hid (HB2_16.out.trans (hb.mono HB2_16.out.size))
      have HB3_17 := Lib.hid (HB3_16.out.trans (hb.mono HB3_16.out.size))
      clear HB0_16
      clear HB2_16
      clear HB3_16
      clear hb
      go_wp2
      go_ret
      exact ⟨rfl, HB0_17.out⟩
end Go.Proofs.YtmedpnlmdncieaaDoor

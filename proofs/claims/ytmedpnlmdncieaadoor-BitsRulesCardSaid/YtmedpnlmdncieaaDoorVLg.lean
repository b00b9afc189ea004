/- Walk of riddlelaw01.BitsRules: it answers true. -/
import Derived.Test.YtmedpnlmdncieaaDoorVL0
namespace Go.Proofs.YtmedpnlmdncieaaDoor
open Go.RowKit

set_option maxRecDepth 100000 in
set_option maxHeartbeats 3000000 in
theorem rules_walk (f g h : Nat → Bool) (n m l : Nat) (A B C : Option Addr) (c d cc : Nat) (w : World) (hT : Tab64 w) (ha : Vec w A n c f) (hb : Vec w B m d g) (hc : Vec w C l cc h) :
    Calls Tryd.prog 10 #[.slice A n c, .slice B m d, .slice C l cc] w (SaysTrue w) := by
  have HT := Lib.hid hT
  clear hT
  have HV_a := Lib.hid ha
  have HV_b := Lib.hid hb
  have HV_c := Lib.hid hc
  have hn := ha.few
  have hm := hb.few
  unfold many at hn hm
  clear ha hb hc
  have Sf := Lib.hid HV_a.out.sup
  have Sg := Lib.hid HV_b.out.sup
  have Sh := Lib.hid HV_c.out.sup
  have Hz : Hid (top (fun b => (f b && !g b) && g b) (max (top (fun b => f b && !g b) (max n m)) m) = 0) := top_zero (fun i => by cases f i <;> cases g i <;> rfl) _
  obtain ⟨q1, hq1⟩ : ∃ q1, popOf (fun b => f b && g b) (64 * max n m) = q1 := ⟨_, rfl⟩
  obtain ⟨q2, hq2⟩ : ∃ q2, popOf (fun b => f b || g b) (64 * max n m) = q2 := ⟨_, rfl⟩
  obtain ⟨q3, hq3⟩ : ∃ q3, popOf f (64 * n) = q3 := ⟨_, rfl⟩
  obtain ⟨q4, hq4⟩ : ∃ q4, popOf g (64 * m) = q4 := ⟨_, rfl⟩
  have Hq1 := Lib.hid (fun B d W hv => count_top (sup_and (N := max n m) Sf.out Sg.out (by omega)) B d W hv q1 hq1)
  have Hq2 := Lib.hid (fun B d W hv => count_top (sup_or (N := max n m) Sf.out Sg.out (by omega) (by omega)) B d W hv q2 hq2)
  have Hq3 := Lib.hid (fun W hv => count_any f n A c W hv)
  have Hq4 := Lib.hid (fun W hv => count_any g m B d W hv)
  rw [hq3] at Hq3
  rw [hq4] at Hq4
  have hsum : q1 + q2 = q3 + q4 := by
    have h1 := popOf_two f g (64 * max n m)
    rw [hq1, hq2, popOf_sup (n := 64 * n) Sf.out (by omega), popOf_sup (n := 64 * m) Sg.out (by omega), hq3, hq4] at h1
    exact h1
  have b3 : q3 ≤ 1280000000000000 := by have := popOf_le f (64 * n); omega
  have b4 : q4 ≤ 1280000000000000 := by have := popOf_le g (64 * m); omega
  have b1 : q1 ≤ 2560000000000000 := by omega
  have b2 : q2 ≤ 2560000000000000 := by omega
  have heq : (((q1 : Int) + (q2 : Int)) == ((q3 : Int) + (q4 : Int))) = true := by simp; omega
  clear hq1 hq2 hq3 hq4 hsum
  go_enter Tryd.func10, Tryd.ntmps10
  have HB0 : Hid (Below w.heap.size w w) := Below.refl _ _
  go_wp2_with fail
  refine (speaks_any _ (tab_below HT.out HB0.out (Nat.le_refl _))).mono ?_
  rintro e w1 ⟨rfl, hb⟩
  have HB0_1 := Lib.hid (HB0.out.trans (hb.mono HB0.out.size))
  clear HB0
  clear hb
  go_wp2_with fail
  refine (vor_any g h m l B C d cc _ (HV_b.out.below HB0_1.out) (HV_c.out.below HB0_1.out)).mono ?_
  intro e w2 hg
  obtain ⟨A_o, c_o, rfl, h1, h2, hb⟩ := hg
  have HB0_2 := Lib.hid (HB0_1.out.trans (hb.mono HB0_1.out.size))
  clear HB0_1
  have HV_o := Lib.hid h1
  have HB2 : Hid (Below w2.heap.size w2 w2) := Below.refl _ _
  clear h1 h2 hb
  go_wp2_with fail
  refine (vand_any f (fun b => g b || h b) n _ A A_o c c_o _ (HV_a.out.below HB0_2.out) (HV_o.out.below HB2.out)).mono ?_
  intro e w3 hg
  have hg2 := hg.congr (g := fun b => f b && (g b || h b)) (M := (max n (max m l))) (sup_and Sf.out HV_o.out.sup (by omega)) (sup_and Sf.out HV_o.out.sup (by omega)) (fun _ => rfl)
  clear hg
  obtain ⟨A_left, c_left, rfl, h1, h2, hb⟩ := hg2
  have HB0_3 := Lib.hid (HB0_2.out.trans (hb.mono HB0_2.out.size))
  have HB2_3 := Lib.hid (HB2.out.trans (hb.mono HB2.out.size))
  clear HB0_2
  clear HB2
  have HV_left := Lib.hid h1
  have HB3 : Hid (Below w3.heap.size w3 w3) := Below.refl _ _
  clear h1 h2 hb
  go_wp2_with fail
  refine (vand_any f g n m A B c d _ (HV_a.out.below HB0_3.out) (HV_b.out.below HB0_3.out)).mono ?_
  intro e w4 hg
  obtain ⟨A_x, c_x, rfl, h1, h2, hb⟩ := hg
  have HB0_4 := Lib.hid (HB0_3.out.trans (hb.mono HB0_3.out.size))
  have HB2_4 := Lib.hid (HB2_3.out.trans (hb.mono HB2_3.out.size))
  have HB3_4 := Lib.hid (HB3.out.trans (hb.mono HB3.out.size))
  clear HB0_3
  clear HB2_3
  clear HB3
  have HV_x := Lib.hid h1
  have HB4 : Hid (Below w4.heap.size w4 w4) := Below.refl _ _
  clear h1 h2 hb
  go_wp2_with fail
  refine (vand_any f h n l A C c cc _ (HV_a.out.below HB0_4.out) (HV_c.out.below HB0_4.out)).mono ?_
  intro e w5 hg
  obtain ⟨A_y, c_y, rfl, h1, h2, hb⟩ := hg
  have HB0_5 := Lib.hid (HB0_4.out.trans (hb.mono HB0_4.out.size))
  have HB2_5 := Lib.hid (HB2_4.out.trans (hb.mono HB2_4.out.size))
  have HB3_5 := Lib.hid (HB3_4.out.trans (hb.mono HB3_4.out.size))
  have HB4_5 := Lib.hid (HB4.out.trans (hb.mono HB4.out.size))
  clear HB0_4
  clear HB2_4
  clear HB3_4
  clear HB4
  have HV_y := Lib.hid h1
  have HB5 : Hid (Below w5.heap.size w5 w5) := Below.refl _ _
  clear h1 h2 hb
  go_wp2_with fail
  refine (vor_any (fun b => f b && g b) (fun b => f b && h b) _ _ A_x A_y c_x c_y _ (HV_x.out.below HB4_5.out) (HV_y.out.below HB5.out)).mono ?_
  intro e w6 hg
  have hg2 := hg.congr (g := fun b => f b && (g b || h b)) (M := (max n (max m l))) (sup_or HV_x.out.sup HV_y.out.sup (by omega) (by omega)) (sup_and Sf.out HV_o.out.sup (by omega)) (fun i => by cases f i <;> cases g i <;> cases h i <;> rfl)
  clear hg
  obtain ⟨A_right, c_right, rfl, h1, h2, hb⟩ := hg2
  have HB0_6 := Lib.hid (HB0_5.out.trans (hb.mono HB0_5.out.size))
  have HB2_6 := Lib.hid (HB2_5.out.trans (hb.mono HB2_5.out.size))
  have HB3_6 := Lib.hid (HB3_5.out.trans (hb.mono HB3_5.out.size))
  have HB4_6 := Lib.hid (HB4_5.out.trans (hb.mono HB4_5.out.size))
  have HB5_6 := Lib.hid (HB5.out.trans (hb.mono HB5.out.size))
  clear HB0_5
  clear HB2_5
  clear HB3_5
  clear HB4_5
  clear HB5
  have HV_right := Lib.hid h1
  have HB6 : Hid (Below w6.heap.size w6 w6) := Below.refl _ _
  clear h1 h2 hb
  go_wp2_with fail
  refine (same_vec _ _ A_left A_right c_left c_right _ (HV_left.out.below HB3_6.out) (HV_right.out.below HB6.out)).mono ?_
  rintro e w7 ⟨rfl, hb⟩
  have HB0_7 := Lib.hid (HB0_6.out.trans (hb.mono HB0_6.out.size))
  have HB2_7 := Lib.hid (HB2_6.out.trans (hb.mono HB2_6.out.size))
  have HB3_7 := Lib.hid (HB3_6.out.trans (hb.mono HB3_6.out.size))
  have HB4_7 := Lib.hid (HB4_6.out.trans (hb.mono HB4_6.out.size))
  have HB5_7 := Lib.hid (HB5_6.out.trans (hb.mono HB5_6.out.size))
  have HB6_7 := Lib.hid (HB6.out.trans (hb.mono HB6.out.size))
  clear HB0_6
  clear HB2_6
  clear HB3_6
  clear HB4_6
  clear HB5_6
  clear HB6
  clear hb
  go_wp2_with fail
  refine (vminus_any f g n m A B c d _ (HV_a.out.below HB0_7.out) (HV_b.out.below HB0_7.out)).mono ?_
  intro e w8 hg
  obtain ⟨A_p, c_p, rfl, h1, h2, hb⟩ := hg
  have HB0_8 := Lib.hid (HB0_7.out.trans (hb.mono HB0_7.out.size))
  have HB2_8 := Lib.hid (HB2_7.out.trans (hb.mono HB2_7.out.size))
  have HB3_8 := Lib.hid (HB3_7.out.trans (hb.mono HB3_7.out.size))
  have HB4_8 := Lib.hid (HB4_7.out.trans (hb.mono HB4_7.out.size))
  have HB5_8 := Lib.hid (HB5_7.out.trans (hb.mono HB5_7.out.size))
  have HB6_8 := Lib.hid (HB6_7.out.trans (hb.mono HB6_7.out.size))
  clear HB0_7
  clear HB2_7
  clear HB3_7
  clear HB4_7
  clear HB5_7
  clear HB6_7
  have HV_p := Lib.hid h1
  have HB8 : Hid (Below w8.heap.size w8 w8) := Below.refl _ _
  clear h1 h2 hb
  go_wp2_with fail
  refine (vminus_any (fun b => f b && !g b) h _ l A_p C c_p cc _ (HV_p.out.below HB8.out) (HV_c.out.below HB0_8.out)).mono ?_
  intro e w9 hg
  have hg2 := hg.congr (g := fun b => f b && (!g b && !h b)) (M := (max n (max m l))) (sup_minus HV_p.out.sup (by omega)) (sup_first Sf.out (by omega)) (fun i => by cases f i <;> cases g i <;> cases h i <;> rfl)
  clear hg
  obtain ⟨A_q, c_q, rfl, h1, h2, hb⟩ := hg2
  have HB0_9 := Lib.hid (HB0_8.out.trans (hb.mono HB0_8.out.size))
  have HB2_9 := Lib.hid (HB2_8.out.trans (hb.mono HB2_8.out.size))
  have HB3_9 := Lib.hid (HB3_8.out.trans (hb.mono HB3_8.out.size))
  have HB4_9 := Lib.hid (HB4_8.out.trans (hb.mono HB4_8.out.size))
  have HB5_9 := Lib.hid (HB5_8.out.trans (hb.mono HB5_8.out.size))
  have HB6_9 := Lib.hid (HB6_8.out.trans (hb.mono HB6_8.out.size))
  have HB8_9 := Lib.hid (HB8.out.trans (hb.mono HB8.out.size))
  clear HB0_8
  clear HB2_8
  clear HB3_8
  clear HB4_8
  clear HB5_8
  clear HB6_8
  clear HB8
  have HV_q := Lib.hid h1
  have HB9 : Hid (Below w9.heap.size w9 w9) := Below.refl _ _
  clear h1 h2 hb
  go_wp2_with fail
  refine (vor_any g h m l B C d cc _ (HV_b.out.below HB0_9.out) (HV_c.out.below HB0_9.out)).mono ?_
  intro e w10 hg
  obtain ⟨A_r, c_r, rfl, h1, h2, hb⟩ := hg
  have HB0_10 := Lib.hid (HB0_9.out.trans (hb.mono HB0_9.out.size))
  have HB2_10 := Lib.hid (HB2_9.out.trans (hb.mono HB2_9.out.size))
  have HB3_10 := Lib.hid (HB3_9.out.trans (hb.mono HB3_9.out.size))
  have HB4_10 := Lib.hid (HB4_9.out.trans (hb.mono HB4_9.out.size))
  have HB5_10 := Lib.hid (HB5_9.out.trans (hb.mono HB5_9.out.size))
  have HB6_10 := Lib.hid (HB6_9.out.trans (hb.mono HB6_9.out.size))
  have HB8_10 := Lib.hid (HB8_9.out.trans (hb.mono HB8_9.out.size))
  have HB9_10 := Lib.hid (HB9.out.trans (hb.mono HB9.out.size))
  clear HB0_9
  clear HB2_9
  clear HB3_9
  clear HB4_9
  clear HB5_9
  clear HB6_9
  clear HB8_9
  clear HB9
  have HV_r := Lib.hid h1
  have HB10 : Hid (Below w10.heap.size w10 w10) := Below.refl _ _
  clear h1 h2 hb
  go_wp2_with fail
  refine (vminus_any f (fun b => g b || h b) n _ A A_r c c_r _ (HV_a.out.below HB0_10.out) (HV_r.out.below HB10.out)).mono ?_
  intro e w11 hg
  have hg2 := hg.congr (g := fun b => f b && (!g b && !h b)) (M := (max n (max m l))) (sup_minus Sf.out (by omega)) (sup_first Sf.out (by omega)) (fun i => by cases f i <;> cases g i <;> cases h i <;> rfl)
  clear hg
  obtain ⟨A_s, c_s, rfl, h1, h2, hb⟩ := hg2
  have HB0_11 := Lib.hid (HB0_10.out.trans (hb.mono HB0_10.out.size))
  have HB2_11 := Lib.hid (HB2_10.out.trans (hb.mono HB2_10.out.size))
  have HB3_11 := Lib.hid (HB3_10.out.trans (hb.mono HB3_10.out.size))
  have HB4_11 := Lib.hid (HB4_10.out.trans (hb.mono HB4_10.out.size))
  have HB5_11 := Lib.hid (HB5_10.out.trans (hb.mono HB5_10.out.size))
  have HB6_11 := Lib.hid (HB6_10.out.trans (hb.mono HB6_10.out.size))
  have HB8_11 := Lib.hid (HB8_10.out.trans (hb.mono HB8_10.out.size))
  have HB9_11 := Lib.hid (HB9_10.out.trans (hb.mono HB9_10.out.size))
  have HB10_11 := Lib.hid (HB10.out.trans (hb.mono HB10.out.size))
  clear HB0_10
  clear HB2_10
  clear HB3_10
  clear HB4_10
  clear HB5_10
  clear HB6_10
  clear HB8_10
  clear HB9_10
  clear HB10
  have HV_s := Lib.hid h1
  have HB11 : Hid (Below w11.heap.size w11 w11) := Below.refl _ _
  clear h1 h2 hb
  go_wp2_with fail
  refine (same_vec _ _ A_q A_s c_q c_s _ (HV_q.out.below HB9_11.out) (HV_s.out.below HB11.out)).mono ?_
  rintro e w12 ⟨rfl, hb⟩
  have HB0_12 := Lib.hid (HB0_11.out.trans (hb.mono HB0_11.out.size))
  have HB2_12 := Lib.hid (HB2_11.out.trans (hb.mono HB2_11.out.size))
  have HB3_12 := Lib.hid (HB3_11.out.trans (hb.mono HB3_11.out.size))
  have HB4_12 := Lib.hid (HB4_11.out.trans (hb.mono HB4_11.out.size))
  have HB5_12 := Lib.hid (HB5_11.out.trans (hb.mono HB5_11.out.size))
  have HB6_12 := Lib.hid (HB6_11.out.trans (hb.mono HB6_11.out.size))
  have HB8_12 := Lib.hid (HB8_11.out.trans (hb.mono HB8_11.out.size))
  have HB9_12 := Lib.hid (HB9_11.out.trans (hb.mono HB9_11.out.size))
  have HB10_12 := Lib.hid (HB10_11.out.trans (hb.mono HB10_11.out.size))
  have HB11_12 := Lib.hid (HB11.out.trans (hb.mono HB11.out.size))
  clear HB0_11
  clear HB2_11
  clear HB3_11
  clear HB4_11
  clear HB5_11
  clear HB6_11
  clear HB8_11
  clear HB9_11
  clear HB10_11
  clear HB11
  clear hb
  go_wp2_with fail
  refine (vminus_any f g n m A B c d _ (HV_a.out.below HB0_12.out) (HV_b.out.below HB0_12.out)).mono ?_
  intro e w13 hg
  obtain ⟨A_t, c_t, rfl, h1, h2, hb⟩ := hg
  have HB0_13 := Lib.hid (HB0_12.out.trans (hb.mono HB0_12.out.size))
  have HB2_13 := Lib.hid (HB2_12.out.trans (hb.mono HB2_12.out.size))
  have HB3_13 := Lib.hid (HB3_12.out.trans (hb.mono HB3_12.out.size))
  have HB4_13 := Lib.hid (HB4_12.out.trans (hb.mono HB4_12.out.size))
  have HB5_13 := Lib.hid (HB5_12.out.trans (hb.mono HB5_12.out.size))
  have HB6_13 := Lib.hid (HB6_12.out.trans (hb.mono HB6_12.out.size))
  have HB8_13 := Lib.hid (HB8_12.out.trans (hb.mono HB8_12.out.size))
  have HB9_13 := Lib.hid (HB9_12.out.trans (hb.mono HB9_12.out.size))
  have HB10_13 := Lib.hid (HB10_12.out.trans (hb.mono HB10_12.out.size))
  have HB11_13 := Lib.hid (HB11_12.out.trans (hb.mono HB11_12.out.size))
  clear HB0_12
  clear HB2_12
  clear HB3_12
  clear HB4_12
  clear HB5_12
  clear HB6_12
  clear HB8_12
  clear HB9_12
  clear HB10_12
  clear HB11_12
  have HV_t := Lib.hid h1
  have HB13 : Hid (Below w13.heap.size w13 w13) := Below.refl _ _
  clear h1 h2 hb
  go_wp2_with fail
  refine (vand_any (fun b => f b && !g b) g _ m A_t B c_t d _ (HV_t.out.below HB13.out) (HV_b.out.below HB0_13.out)).mono ?_
  intro e w14 hg
  unfold GaveV at hg
  rw [Hz.out] at hg
  obtain ⟨A_u, c_u, rfl, h1, h2, hb⟩ := hg
  have HB0_14 := Lib.hid (HB0_13.out.trans (hb.mono HB0_13.out.size))
  have HB2_14 := Lib.hid (HB2_13.out.trans (hb.mono HB2_13.out.size))
  have HB3_14 := Lib.hid (HB3_13.out.trans (hb.mono HB3_13.out.size))
  have HB4_14 := Lib.hid (HB4_13.out.trans (hb.mono HB4_13.out.size))
  have HB5_14 := Lib.hid (HB5_13.out.trans (hb.mono HB5_13.out.size))
  have HB6_14 := Lib.hid (HB6_13.out.trans (hb.mono HB6_13.out.size))
  have HB8_14 := Lib.hid (HB8_13.out.trans (hb.mono HB8_13.out.size))
  have HB9_14 := Lib.hid (HB9_13.out.trans (hb.mono HB9_13.out.size))
  have HB10_14 := Lib.hid (HB10_13.out.trans (hb.mono HB10_13.out.size))
  have HB11_14 := Lib.hid (HB11_13.out.trans (hb.mono HB11_13.out.size))
  have HB13_14 := Lib.hid (HB13.out.trans (hb.mono HB13.out.size))
  clear HB0_13
  clear HB2_13
  clear HB3_13
  clear HB4_13
  clear HB5_13
  clear HB6_13
  clear HB8_13
  clear HB9_13
  clear HB10_13
  clear HB11_13
  clear HB13
  clear h1 h2 hb
  go_wp2_with fail
  refine (vand_any f g n m A B c d _ (HV_a.out.below HB0_14.out) (HV_b.out.below HB0_14.out)).mono ?_
  intro e w15 hg
  obtain ⟨A_v, c_v, rfl, h1, h2, hb⟩ := hg
  have HB0_15 := Lib.hid (HB0_14.out.trans (hb.mono HB0_14.out.size))
  have HB2_15 := Lib.hid (HB2_14.out.trans (hb.mono HB2_14.out.size))
  have HB3_15 := Lib.hid (HB3_14.out.trans (hb.mono HB3_14.out.size))
  have HB4_15 := Lib.hid (HB4_14.out.trans (hb.mono HB4_14.out.size))
  have HB5_15 := Lib.hid (HB5_14.out.trans (hb.mono HB5_14.out.size))
  have HB6_15 := Lib.hid (HB6_14.out.trans (hb.mono HB6_14.out.size))
  have HB8_15 := Lib.hid (HB8_14.out.trans (hb.mono HB8_14.out.size))
  have HB9_15 := Lib.hid (HB9_14.out.trans (hb.mono HB9_14.out.size))
  have HB10_15 := Lib.hid (HB10_14.out.trans (hb.mono HB10_14.out.size))
  have HB11_15 := Lib.hid (HB11_14.out.trans (hb.mono HB11_14.out.size))
  have HB13_15 := Lib.hid (HB13_14.out.trans (hb.mono HB13_14.out.size))
  clear HB0_14
  clear HB2_14
  clear HB3_14
  clear HB4_14
  clear HB5_14
  clear HB6_14
  clear HB8_14
  clear HB9_14
  clear HB10_14
  clear HB11_14
  clear HB13_14
  have HV_v := Lib.hid h1
  have HB15 : Hid (Below w15.heap.size w15 w15) := Below.refl _ _
  clear h1 h2 hb
  go_wp2_with fail
  refine (Hq1.out A_v c_v _ (HV_v.out.below HB15.out)).mono ?_
  rintro e w_ ⟨rfl, rfl⟩
  go_wp2_with fail
  refine (vor_any f g n m A B c d _ (HV_a.out.below HB0_15.out) (HV_b.out.below HB0_15.out)).mono ?_
  intro e w16 hg
  obtain ⟨A_z, c_z, rfl, h1, h2, hb⟩ := hg
  have HB0_16 := Lib.hid (HB0_15.out.trans (hb.mono HB0_15.out.size))
  have HB2_16 := Lib.hid (HB2_15.out.trans (hb.mono HB2_15.out.size))
  have HB3_16 := Lib.hid (HB3_15.out.trans (hb.mono HB3_15.out.size))
  have HB4_16 := Lib.hid (HB4_15.out.trans (hb.mono HB4_15.out.size))
  have HB5_16 := Lib.hid (HB5_15.out.trans (hb.mono HB5_15.out.size))
  have HB6_16 := Lib.hid (HB6_15.out.trans (hb.mono HB6_15.out.size))
  have HB8_16 := Lib.hid (HB8_15.out.trans (hb.mono HB8_15.out.size))
  have HB9_16 := Lib.hid (HB9_15.out.trans (hb.mono HB9_15.out.size))
  have HB10_16 := Lib.hid (HB10_15.out.trans (hb.mono HB10_15.out.size))
  have HB11_16 := Lib.hid (HB11_15.out.trans (hb.mono HB11_15.out.size))
  have HB13_16 := Lib.hid (HB13_15.out.trans (hb.mono HB13_15.out.size))
  have HB15_16 := Lib.hid (HB15.out.trans (hb.mono HB15.out.size))
  clear HB0_15
  clear HB2_15
  clear HB3_15
  clear HB4_15
  clear HB5_15
  clear HB6_15
  clear HB8_15
  clear HB9_15
  clear HB10_15
  clear HB11_15
  clear HB13_15
  clear HB15
  have HV_z := Lib.hid h1
  have HB16 : Hid (Below w16.heap.size w16 w16) := Below.refl _ _
  clear h1 h2 hb
  go_wp2_with fail
  refine (Hq2.out A_z c_z _ (HV_z.out.below HB16.out)).mono ?_
  rintro e w_ ⟨rfl, rfl⟩
  go_wp2_with fail
  refine (Hq3.out _ (HV_a.out.below HB0_16.out)).mono ?_
  rintro e w_ ⟨rfl, rfl⟩
  go_wp2_with fail
  refine (Hq4.out _ (HV_b.out.below HB0_16.out)).mono ?_
  rintro e w_ ⟨rfl, rfl⟩
  go_wp2_with fail
  refine (vand_any f g n m A B c d _ (HV_a.out.below HB0_16.out) (HV_b.out.below HB0_16.out)).mono ?_
  intro e w17 hg
  obtain ⟨A_i, c_i, rfl, h1, h2, hb⟩ := hg
  have HB0_17 := Lib.hid (HB0_16.out.trans (hb.mono HB0_16.out.size))
  have HB2_17 := Lib.hid (HB2_16.out.trans (hb.mono HB2_16.out.size))
  have HB3_17 := Lib.hid (HB3_16.out.trans (hb.mono HB3_16.out.size))
  have HB4_17 := Lib.hid (HB4_16.out.trans (hb.mono HB4_16.out.size))
  have HB5_17 := Lib.hid (HB5_16.out.trans (hb.mono HB5_16.out.size))
  have HB6_17 := Lib.hid (HB6_16.out.trans (hb.mono HB6_16.out.size))
  have HB8_17 := Lib.hid (HB8_16.out.trans (hb.mono HB8_16.out.size))
  have HB9_17 := Lib.hid (HB9_16.out.trans (hb.mono HB9_16.out.size))
  have HB10_17 := Lib.hid (HB10_16.out.trans (hb.mono HB10_16.out.size))
  have HB11_17 := Lib.hid (HB11_16.out.trans (hb.mono HB11_16.out.size))
  have HB13_17 := Lib.hid (HB13_16.out.trans (hb.mono HB13_16.out.size))
  have HB15_17 := Lib.hid (HB15_16.out.trans (hb.mono HB15_16.out.size))
  have HB16_17 := Lib.hid (HB16.out.trans (hb.mono HB16.out.size))
  clear HB0_16
  clear HB2_16
  clear HB3_16
  clear HB4_16
  clear HB5_16
  clear HB6_16
  clear HB8_16
  clear HB9_16
  clear HB10_16
  clear HB11_16
  clear HB13_16
  clear HB15_16
  clear HB16
  have HV_i := Lib.hid h1
  have HB17 : Hid (Below w17.heap.size w17 w17) := Below.refl _ _
  clear h1 h2 hb
  go_wp2_with fail
  refine (vand_any g f m n B A d c _ (HV_b.out.below HB0_17.out) (HV_a.out.below HB0_17.out)).mono ?_
  intro e w18 hg
  have hg2 := hg.congr (g := fun b => f b && g b) (M := max n m) (sup_and Sg.out Sf.out (by omega)) (sup_and Sf.out Sg.out (by omega)) (fun i => by cases f i <;> cases g i <;> rfl)
  clear hg
  obtain ⟨A_j, c_j, rfl, h1, h2, hb⟩ := hg2
  have HB0_18 := Lib.hid (HB0_17.out.trans (hb.mono HB0_17.out.size))
  have HB2_18 := Lib.hid (HB2_17.out.trans (hb.mono HB2_17.out.size))
  have HB3_18 := Lib.hid (HB3_17.out.trans (hb.mono HB3_17.out.size))
  have HB4_18 := Lib.hid (HB4_17.out.trans (hb.mono HB4_17.out.size))
  have HB5_18 := Lib.hid (HB5_17.out.trans (hb.mono HB5_17.out.size))
  have HB6_18 := Lib.hid (HB6_17.out.trans (hb.mono HB6_17.out.size))
  have HB8_18 := Lib.hid (HB8_17.out.trans (hb.mono HB8_17.out.size))
  have HB9_18 := Lib.hid (HB9_17.out.trans (hb.mono HB9_17.out.size))
  have HB10_18 := Lib.hid (HB10_17.out.trans (hb.mono HB10_17.out.size))
  have HB11_18 := Lib.hid (HB11_17.out.trans (hb.mono HB11_17.out.size))
  have HB13_18 := Lib.hid (HB13_17.out.trans (hb.mono HB13_17.out.size))
  have HB15_18 := Lib.hid (HB15_17.out.trans (hb.mono HB15_17.out.size))
  have HB16_18 := Lib.hid (HB16_17.out.trans (hb.mono HB16_17.out.size))
  have HB17_18 := Lib.hid (HB17.out.trans (hb.mono HB17.out.size))
  clear HB0_17
  clear HB2_17
  clear HB3_17
  clear HB4_17
  clear HB5_17
  clear HB6_17
  clear HB8_17
  clear HB9_17
  clear HB10_17
  clear HB11_17
  clear HB13_17
  clear HB15_17
  clear HB16_17
  clear HB17
  have HV_j := Lib.hid h1
  have HB18 : Hid (Below w18.heap.size w18 w18) := Below.refl _ _
  clear h1 h2 hb
  go_wp2_with fail
  refine (same_vec _ _ A_i A_j c_i c_j _ (HV_i.out.below HB17_18.out) (HV_j.out.below HB18.out)).mono ?_
  rintro e w19 ⟨rfl, hb⟩
  have HB0_19 := Lib.hid (HB0_18.out.trans (hb.mono HB0_18.out.size))
  have HB2_19 := Lib.hid (HB2_18.out.trans (hb.mono HB2_18.out.size))
  have HB3_19 := Lib.hid (HB3_18.out.trans (hb.mono HB3_18.out.size))
  have HB4_19 := Lib.hid (HB4_18.out.trans (hb.mono HB4_18.out.size))
  have HB5_19 := Lib.hid (HB5_18.out.trans (hb.mono HB5_18.out.size))
  have HB6_19 := Lib.hid (HB6_18.out.trans (hb.mono HB6_18.out.size))
  have HB8_19 := Lib.hid (HB8_18.out.trans (hb.mono HB8_18.out.size))
  have HB9_19 := Lib.hid (HB9_18.out.trans (hb.mono HB9_18.out.size))
  have HB10_19 := Lib.hid (HB10_18.out.trans (hb.mono HB10_18.out.size))
  have HB11_19 := Lib.hid (HB11_18.out.trans (hb.mono HB11_18.out.size))
  have HB13_19 := Lib.hid (HB13_18.out.trans (hb.mono HB13_18.out.size))
  have HB15_19 := Lib.hid (HB15_18.out.trans (hb.mono HB15_18.out.size))
  have HB16_19 := Lib.hid (HB16_18.out.trans (hb.mono HB16_18.out.size))
  have HB17_19 := Lib.hid (HB17_18.out.trans (hb.mono HB17_18.out.size))
  have HB18_19 := Lib.hid (HB18.out.trans (hb.mono HB18.out.size))
  clear HB0_18
  clear HB2_18
  clear HB3_18
  clear HB4_18
  clear HB5_18
  clear HB6_18
  clear HB8_18
  clear HB9_18
  clear HB10_18
  clear HB11_18
  clear HB13_18
  clear HB15_18
  clear HB16_18
  clear HB17_18
  clear HB18
  clear hb
  go_wp2
  go_ret
  exact ⟨rfl, HB0_19.out⟩
end Go.Proofs.YtmedpnlmdncieaaDoor

/- Walk of riddlelaw01.BitsPlaces: it answers true. -/
import Derived.Test.YtmedpnlmdncieaaDoorVL0
namespace Go.Proofs.YtmedpnlmdncieaaDoor
open Go.RowKit

set_option maxRecDepth 100000 in
set_option maxHeartbeats 8000000 in
theorem places_walk (f : Nat → Bool) (n : Nat) (A : Option Addr) (c : Nat) (i : Int) (w : World) (hT : Tab64 w) (ha : Vec w A n c f) (hi : i ≤ 9223372036854775807) :
    Calls Tryd.prog 6 #[.slice A n c, .int .i64 i] w (SaysTrue w) := by
  have HT := Lib.hid hT
  clear hT
  have HV_a := Lib.hid ha
  clear ha
  by_cases h1 : 40 < n
  · have hd1 : decide (40 < n) = true := by simpa using h1
    go_enter Tryd.func6, Tryd.ntmps6
    have HB0 : Hid (Below w.heap.size w w) := Below.refl _ _
    go_wp2_with fail
    refine (speaks_any _ (tab_below HT.out HB0.out (Nat.le_refl _))).mono ?_
    rintro e w1 ⟨rfl, hb⟩
    have HB0_1 := Lib.hid (HB0.out.trans (hb.mono HB0.out.size))
    clear HB0
    clear hb
    go_wp2_with fail
    refine (great_any A n c _).mono ?_
    rintro e w_ ⟨rfl, rfl⟩
    go_wp2
    go_ret
    exact ⟨rfl, HB0_1.out⟩
  · have hd1 : decide (40 < n) = false := by simpa using h1
    have Hget := Lib.hid (fun B d W h => get_any f n B d i hi W h)
    have Hrget := Lib.hid (fun B d W h => rget_any f n B d i hi W h)
    generalize bitI f i = b at *
    have hbb : (b != b) = false := by simp
    by_cases h2 : i < 0 ∨ 65535 < i
    · have Hno := Lib.hid (fun B d W => set_no n B d i h2 W)
      have H2 := Lib.hid h2
      clear h2
      go_enter Tryd.func6, Tryd.ntmps6
      have HB0 : Hid (Below w.heap.size w w) := Below.refl _ _
      go_wp2_with fail
      refine (speaks_any _ (tab_below HT.out HB0.out (Nat.le_refl _))).mono ?_
      rintro e w1 ⟨rfl, hb⟩
      have HB0_1 := Lib.hid (HB0.out.trans (hb.mono HB0.out.size))
      clear HB0
      clear hb
      go_wp2_with fail
      refine (great_any A n c _).mono ?_
      rintro e w_ ⟨rfl, rfl⟩
      go_wp2_with fail
      refine (vcopy_any f n A c _ (HV_a.out.below HB0_1.out)).mono ?_
      intro e w2 hg
      obtain ⟨A_x, c_x, rfl, h1, h2, hb⟩ := hg
      have HB0_2 := Lib.hid (HB0_1.out.trans (hb.mono HB0_1.out.size))
      clear HB0_1
      have HV_x := Lib.hid h1
      have HB2 : Hid (Below w2.heap.size w2 w2) := Below.refl _ _
      clear h1 h2 hb
      go_wp2_with fail
      refine (Hno.out A_x c_x _).mono ?_
      rintro e w_ ⟨rfl, rfl⟩
      go_wp2_with fail
      refine (clear_any f n A_x c_x i hi _ (HV_x.out.below HB2.out)).mono ?_
      intro e w3 hg
      obtain ⟨A_c, c_c, rfl, h1, h2, hb⟩ := hg
      have HZ_c_w := Lib.hid HB0_2.out.size
      have HZ_c_w2 := Lib.hid HB2.out.size
      have HB0_3 := Lib.hid (HB0_2.out.trans (hb.mono HB0_2.out.size))
      have HB2_3 := Lib.hid (HB2.out.trans (hb.mono HB2.out.size))
      clear HB0_2
      clear HB2
      have HV_c := Lib.hid h1
      have HB3 : Hid (Below w3.heap.size w3 w3) := Below.refl _ _
      have HO_c := Lib.hid h2
      have HO1_c := Lib.hid h2
      clear h1 h2 hb
      go_wp2_with fail
      refine (trim_any f n A_x c_x _ (HV_x.out.below HB2_3.out)).mono ?_
      intro e w4 hg
      obtain ⟨A_t, c_t, rfl, h1, h2, hb⟩ := hg
      have HZ_t_w := Lib.hid HB0_3.out.size
      have HZ_t_w2 := Lib.hid HB2_3.out.size
      have HZ_t_w3 := Lib.hid HB3.out.size
      have HB0_4 := Lib.hid (HB0_3.out.trans (hb.mono HB0_3.out.size))
      have HB2_4 := Lib.hid (HB2_3.out.trans (hb.mono HB2_3.out.size))
      have HB3_4 := Lib.hid (HB3.out.trans (hb.mono HB3.out.size))
      have HO_c_4 := Lib.hid (own_below HO_c.out hb (Nat.le_refl _))
      clear HB0_3
      clear HB2_3
      clear HB3
      have HV_t := Lib.hid h1
      have HB4 : Hid (Below w4.heap.size w4 w4) := Below.refl _ _
      have HO_t := Lib.hid h2
      have HO1_t := Lib.hid h2
      clear h1 h2 hb
      go_wp2_with fail
      refine (Hget.out A_x c_x _ (HV_x.out.below HB2_4.out)).mono ?_
      rintro e w_ ⟨rfl, rfl⟩
      go_wp2_with fail
      refine (Hrget.out A c _ (HV_a.out.below HB0_4.out)).mono ?_
      rintro e w_ ⟨rfl, rfl⟩
      go_wp2_with fail
      refine (rclear_any f n A c i hi _ (HV_a.out.below HB0_4.out) (by omega)).mono ?_
      intro e w5 hg
      obtain ⟨A_jc, c_jc, rfl, h1, h2, hb⟩ := hg
      have HB0_5 := Lib.hid (HB0_4.out.trans (hb.mono HB0_4.out.size))
      have HB2_5 := Lib.hid (HB2_4.out.trans (hb.mono HB2_4.out.size))
      have HB3_5 := Lib.hid (HB3_4.out.trans (hb.mono HB3_4.out.size))
      have HB4_5 := Lib.hid (HB4.out.trans (hb.mono HB4.out.size))
      have HO_c_5 := Lib.hid (own_below HO_c_4.out hb (Nat.le_refl _))
      have HO_t_5 := Lib.hid (own_below HO_t.out hb (Nat.le_refl _))
      clear HB0_4
      clear HB2_4
      clear HB3_4
      clear HB4
      have HV_jc := Lib.hid h1
      have HB5 : Hid (Below w5.heap.size w5 w5) := Below.refl _ _
      clear h1 h2 hb
      go_wp2_with fail
      refine (same_vec _ _ A_c A_jc c_c c_jc _ (HV_c.out.below HB3_5.out) (HV_jc.out.below HB5.out)).mono ?_
      rintro e w6 ⟨rfl, hb⟩
      have HB0_6 := Lib.hid (HB0_5.out.trans (hb.mono HB0_5.out.size))
      have HB2_6 := Lib.hid (HB2_5.out.trans (hb.mono HB2_5.out.size))
      have HB3_6 := Lib.hid (HB3_5.out.trans (hb.mono HB3_5.out.size))
      have HB4_6 := Lib.hid (HB4_5.out.trans (hb.mono HB4_5.out.size))
      have HB5_6 := Lib.hid (HB5.out.trans (hb.mono HB5.out.size))
      have HO_c_6 := Lib.hid (own_below HO_c_5.out hb (Nat.le_refl _))
      have HO_t_6 := Lib.hid (own_below HO_t_5.out hb (Nat.le_refl _))
      clear HB0_5
      clear HB2_5
      clear HB3_5
      clear HB4_5
      clear HB5
      clear hb
      go_wp2_with fail
      refine (rtrim_any f n A c _ (HV_a.out.below HB0_6.out) (by omega)).mono ?_
      intro e w7 hg
      obtain ⟨A_jt, c_jt, rfl, h1, h2, hb⟩ := hg
      have HB0_7 := Lib.hid (HB0_6.out.trans (hb.mono HB0_6.out.size))
      have HB2_7 := Lib.hid (HB2_6.out.trans (hb.mono HB2_6.out.size))
      have HB3_7 := Lib.hid (HB3_6.out.trans (hb.mono HB3_6.out.size))
      have HB4_7 := Lib.hid (HB4_6.out.trans (hb.mono HB4_6.out.size))
      have HB5_7 := Lib.hid (HB5_6.out.trans (hb.mono HB5_6.out.size))
      have HO_c_7 := Lib.hid (own_below HO_c_6.out hb (Nat.le_refl _))
      have HO_t_7 := Lib.hid (own_below HO_t_6.out hb (Nat.le_refl _))
      clear HB0_6
      clear HB2_6
      clear HB3_6
      clear HB4_6
      clear HB5_6
      have HV_jt := Lib.hid h1
      have HB7 : Hid (Below w7.heap.size w7 w7) := Below.refl _ _
      clear h1 h2 hb
      go_wp2_with fail
      refine (same_vec _ _ A_t A_jt c_t c_jt _ (HV_t.out.below HB4_7.out) (HV_jt.out.below HB7.out)).mono ?_
      rintro e w8 ⟨rfl, hb⟩
      have HB0_8 := Lib.hid (HB0_7.out.trans (hb.mono HB0_7.out.size))
      have HB2_8 := Lib.hid (HB2_7.out.trans (hb.mono HB2_7.out.size))
      have HB3_8 := Lib.hid (HB3_7.out.trans (hb.mono HB3_7.out.size))
      have HB4_8 := Lib.hid (HB4_7.out.trans (hb.mono HB4_7.out.size))
      have HB5_8 := Lib.hid (HB5_7.out.trans (hb.mono HB5_7.out.size))
      have HB7_8 := Lib.hid (HB7.out.trans (hb.mono HB7.out.size))
      have HO_c_8 := Lib.hid (own_below HO_c_7.out hb (Nat.le_refl _))
      have HO_t_8 := Lib.hid (own_below HO_t_7.out hb (Nat.le_refl _))
      clear HB0_7
      clear HB2_7
      clear HB3_7
      clear HB4_7
      clear HB5_7
      clear HB7
      clear hb
      rcases H2.out with h2 | h2
      · go_wp2
        go_ret
        exact ⟨rfl, HB0_8.out⟩
      · have h3 : ¬ i < 0 := by omega
        go_wp2
        go_ret
        exact ⟨rfl, HB0_8.out⟩
    · obtain ⟨k, rfl⟩ : ∃ k : Nat, i = (k : Int) := ⟨i.toNat, by omega⟩
      have hk : k ≤ 65535 := by omega
      have h3 : ¬ (k : Int) < 0 := by omega
      have h4 : ¬ (65535 : Int) < (k : Int) := by omega
      clear h2
      go_enter Tryd.func6, Tryd.ntmps6
      have HB0 : Hid (Below w.heap.size w w) := Below.refl _ _
      go_wp2_with fail
      refine (speaks_any _ (tab_below HT.out HB0.out (Nat.le_refl _))).mono ?_
      rintro e w1 ⟨rfl, hb⟩
      have HB0_1 := Lib.hid (HB0.out.trans (hb.mono HB0.out.size))
      clear HB0
      clear hb
      go_wp2_with fail
      refine (great_any A n c _).mono ?_
      rintro e w_ ⟨rfl, rfl⟩
      go_wp2_with fail
      refine (vcopy_any f n A c _ (HV_a.out.below HB0_1.out)).mono ?_
      intro e w2 hg
      obtain ⟨A_x, c_x, rfl, h1, h2, hb⟩ := hg
      have HB0_2 := Lib.hid (HB0_1.out.trans (hb.mono HB0_1.out.size))
      clear HB0_1
      have HV_x := Lib.hid h1
      have HB2 : Hid (Below w2.heap.size w2 w2) := Below.refl _ _
      clear h1 h2 hb
      go_wp2_with fail
      refine (set_yes f n A_x c_x k hk _ (HV_x.out.below HB2.out)).mono ?_
      intro e w3 hg
      obtain ⟨A_s, c_s, rfl, h1, h2, hb⟩ := hg
      have HZ_s_w := Lib.hid HB0_2.out.size
      have HZ_s_w2 := Lib.hid HB2.out.size
      have HB0_3 := Lib.hid (HB0_2.out.trans (hb.mono HB0_2.out.size))
      have HB2_3 := Lib.hid (HB2.out.trans (hb.mono HB2.out.size))
      clear HB0_2
      clear HB2
      have HV_s := Lib.hid h1
      have HB3 : Hid (Below w3.heap.size w3 w3) := Below.refl _ _
      have HO_s := Lib.hid h2
      have HO1_s := Lib.hid h2
      clear h1 h2 hb
      go_wp2_with fail
      refine (clear_any f n A_x c_x k hi _ (HV_x.out.below HB2_3.out)).mono ?_
      intro e w4 hg
      obtain ⟨A_c, c_c, rfl, h1, h2, hb⟩ := hg
      have HZ_c_w := Lib.hid HB0_3.out.size
      have HZ_c_w2 := Lib.hid HB2_3.out.size
      have HZ_c_w3 := Lib.hid HB3.out.size
      have HB0_4 := Lib.hid (HB0_3.out.trans (hb.mono HB0_3.out.size))
      have HB2_4 := Lib.hid (HB2_3.out.trans (hb.mono HB2_3.out.size))
      have HB3_4 := Lib.hid (HB3.out.trans (hb.mono HB3.out.size))
      have HO_s_4 := Lib.hid (own_below HO_s.out hb (Nat.le_refl _))
      clear HB0_3
      clear HB2_3
      clear HB3
      have HV_c := Lib.hid h1
      have HB4 : Hid (Below w4.heap.size w4 w4) := Below.refl _ _
      have HO_c := Lib.hid h2
      have HO1_c := Lib.hid h2
      clear h1 h2 hb
      go_wp2_with fail
      refine (trim_any f n A_x c_x _ (HV_x.out.below HB2_4.out)).mono ?_
      intro e w5 hg
      obtain ⟨A_t, c_t, rfl, h1, h2, hb⟩ := hg
      have HZ_t_w := Lib.hid HB0_4.out.size
      have HZ_t_w2 := Lib.hid HB2_4.out.size
      have HZ_t_w3 := Lib.hid HB3_4.out.size
      have HZ_t_w4 := Lib.hid HB4.out.size
      have HB0_5 := Lib.hid (HB0_4.out.trans (hb.mono HB0_4.out.size))
      have HB2_5 := Lib.hid (HB2_4.out.trans (hb.mono HB2_4.out.size))
      have HB3_5 := Lib.hid (HB3_4.out.trans (hb.mono HB3_4.out.size))
      have HB4_5 := Lib.hid (HB4.out.trans (hb.mono HB4.out.size))
      have HO_s_5 := Lib.hid (own_below HO_s_4.out hb (Nat.le_refl _))
      have HO_c_5 := Lib.hid (own_below HO_c.out hb (Nat.le_refl _))
      clear HB0_4
      clear HB2_4
      clear HB3_4
      clear HB4
      have HV_t := Lib.hid h1
      have HB5 : Hid (Below w5.heap.size w5 w5) := Below.refl _ _
      have HO_t := Lib.hid h2
      have HO1_t := Lib.hid h2
      clear h1 h2 hb
      go_wp2_with fail
      refine (Hget.out A_x c_x _ (HV_x.out.below HB2_5.out)).mono ?_
      rintro e w_ ⟨rfl, rfl⟩
      go_wp2_with fail
      refine (Hrget.out A c _ (HV_a.out.below HB0_5.out)).mono ?_
      rintro e w_ ⟨rfl, rfl⟩
      go_wp2_with fail
      refine (rclear_any f n A c k hi _ (HV_a.out.below HB0_5.out) (by omega)).mono ?_
      intro e w6 hg
      obtain ⟨A_jc, c_jc, rfl, h1, h2, hb⟩ := hg
      have HB0_6 := Lib.hid (HB0_5.out.trans (hb.mono HB0_5.out.size))
      have HB2_6 := Lib.hid (HB2_5.out.trans (hb.mono HB2_5.out.size))
      have HB3_6 := Lib.hid (HB3_5.out.trans (hb.mono HB3_5.out.size))
      have HB4_6 := Lib.hid (HB4_5.out.trans (hb.mono HB4_5.out.size))
      have HB5_6 := Lib.hid (HB5.out.trans (hb.mono HB5.out.size))
      have HO_s_6 := Lib.hid (own_below HO_s_5.out hb (Nat.le_refl _))
      have HO_c_6 := Lib.hid (own_below HO_c_5.out hb (Nat.le_refl _))
      have HO_t_6 := Lib.hid (own_below HO_t.out hb (Nat.le_refl _))
      clear HB0_5
      clear HB2_5
      clear HB3_5
      clear HB4_5
      clear HB5
      have HV_jc := Lib.hid h1
      have HB6 : Hid (Below w6.heap.size w6 w6) := Below.refl _ _
      clear h1 h2 hb
      go_wp2_with fail
      refine (same_vec _ _ A_c A_jc c_c c_jc _ (HV_c.out.below HB4_6.out) (HV_jc.out.below HB6.out)).mono ?_
      rintro e w7 ⟨rfl, hb⟩
      have HB0_7 := Lib.hid (HB0_6.out.trans (hb.mono HB0_6.out.size))
      have HB2_7 := Lib.hid (HB2_6.out.trans (hb.mono HB2_6.out.size))
      have HB3_7 := Lib.hid (HB3_6.out.trans (hb.mono HB3_6.out.size))
      have HB4_7 := Lib.hid (HB4_6.out.trans (hb.mono HB4_6.out.size))
      have HB5_7 := Lib.hid (HB5_6.out.trans (hb.mono HB5_6.out.size))
      have HB6_7 := Lib.hid (HB6.out.trans (hb.mono HB6.out.size))
      have HO_s_7 := Lib.hid (own_below HO_s_6.out hb (Nat.le_refl _))
      have HO_c_7 := Lib.hid (own_below HO_c_6.out hb (Nat.le_refl _))
      have HO_t_7 := Lib.hid (own_below HO_t_6.out hb (Nat.le_refl _))
      clear HB0_6
      clear HB2_6
      clear HB3_6
      clear HB4_6
      clear HB5_6
      clear HB6
      clear hb
      go_wp2_with fail
      refine (rtrim_any f n A c _ (HV_a.out.below HB0_7.out) (by omega)).mono ?_
      intro e w8 hg
      obtain ⟨A_jt, c_jt, rfl, h1, h2, hb⟩ := hg
      have HB0_8 := Lib.hid (HB0_7.out.trans (hb.mono HB0_7.out.size))
      have HB2_8 := Lib.hid (HB2_7.out.trans (hb.mono HB2_7.out.size))
      have HB3_8 := Lib.hid (HB3_7.out.trans (hb.mono HB3_7.out.size))
      have HB4_8 := Lib.hid (HB4_7.out.trans (hb.mono HB4_7.out.size))
      have HB5_8 := Lib.hid (HB5_7.out.trans (hb.mono HB5_7.out.size))
      have HB6_8 := Lib.hid (HB6_7.out.trans (hb.mono HB6_7.out.size))
      have HO_s_8 := Lib.hid (own_below HO_s_7.out hb (Nat.le_refl _))
      have HO_c_8 := Lib.hid (own_below HO_c_7.out hb (Nat.le_refl _))
      have HO_t_8 := Lib.hid (own_below HO_t_7.out hb (Nat.le_refl _))
      clear HB0_7
      clear HB2_7
      clear HB3_7
      clear HB4_7
      clear HB5_7
      clear HB6_7
      have HV_jt := Lib.hid h1
      have HB8 : Hid (Below w8.heap.size w8 w8) := Below.refl _ _
      clear h1 h2 hb
      go_wp2_with fail
      refine (same_vec _ _ A_t A_jt c_t c_jt _ (HV_t.out.below HB5_8.out) (HV_jt.out.below HB8.out)).mono ?_
      rintro e w9 ⟨rfl, hb⟩
      have HB0_9 := Lib.hid (HB0_8.out.trans (hb.mono HB0_8.out.size))
      have HB2_9 := Lib.hid (HB2_8.out.trans (hb.mono HB2_8.out.size))
      have HB3_9 := Lib.hid (HB3_8.out.trans (hb.mono HB3_8.out.size))
      have HB4_9 := Lib.hid (HB4_8.out.trans (hb.mono HB4_8.out.size))
      have HB5_9 := Lib.hid (HB5_8.out.trans (hb.mono HB5_8.out.size))
      have HB6_9 := Lib.hid (HB6_8.out.trans (hb.mono HB6_8.out.size))
      have HB8_9 := Lib.hid (HB8.out.trans (hb.mono HB8.out.size))
      have HO_s_9 := Lib.hid (own_below HO_s_8.out hb (Nat.le_refl _))
      have HO_c_9 := Lib.hid (own_below HO_c_8.out hb (Nat.le_refl _))
      have HO_t_9 := Lib.hid (own_below HO_t_8.out hb (Nat.le_refl _))
      clear HB0_8
      clear HB2_8
      clear HB3_8
      clear HB4_8
      clear HB5_8
      clear HB6_8
      clear HB8
      clear hb
      go_wp2_with fail
      refine (rset_any f n A c k hk _ (HV_a.out.below HB0_9.out) (by omega)).mono ?_
      intro e w10 hg
      obtain ⟨A_js, c_js, rfl, h1, h2, hb⟩ := hg
      have HB0_10 := Lib.hid (HB0_9.out.trans (hb.mono HB0_9.out.size))
      have HB2_10 := Lib.hid (HB2_9.out.trans (hb.mono HB2_9.out.size))
      have HB3_10 := Lib.hid (HB3_9.out.trans (hb.mono HB3_9.out.size))
      have HB4_10 := Lib.hid (HB4_9.out.trans (hb.mono HB4_9.out.size))
      have HB5_10 := Lib.hid (HB5_9.out.trans (hb.mono HB5_9.out.size))
      have HB6_10 := Lib.hid (HB6_9.out.trans (hb.mono HB6_9.out.size))
      have HB8_10 := Lib.hid (HB8_9.out.trans (hb.mono HB8_9.out.size))
      have HO_s_10 := Lib.hid (own_below HO_s_9.out hb (Nat.le_refl _))
      have HO_c_10 := Lib.hid (own_below HO_c_9.out hb (Nat.le_refl _))
      have HO_t_10 := Lib.hid (own_below HO_t_9.out hb (Nat.le_refl _))
      clear HB0_9
      clear HB2_9
      clear HB3_9
      clear HB4_9
      clear HB5_9
      clear HB6_9
      clear HB8_9
      have HV_js := Lib.hid h1
      have HB10 : Hid (Below w10.heap.size w10 w10) := Below.refl _ _
      clear h1 h2 hb
      go_wp2_with fail
      refine (same_vec _ _ A_s A_js c_s c_js _ (HV_s.out.below HB3_10.out) (HV_js.out.below HB10.out)).mono ?_
      rintro e w11 ⟨rfl, hb⟩
      have HB0_11 := Lib.hid (HB0_10.out.trans (hb.mono HB0_10.out.size))
      have HB2_11 := Lib.hid (HB2_10.out.trans (hb.mono HB2_10.out.size))
      have HB3_11 := Lib.hid (HB3_10.out.trans (hb.mono HB3_10.out.size))
      have HB4_11 := Lib.hid (HB4_10.out.trans (hb.mono HB4_10.out.size))
      have HB5_11 := Lib.hid (HB5_10.out.trans (hb.mono HB5_10.out.size))
      have HB6_11 := Lib.hid (HB6_10.out.trans (hb.mono HB6_10.out.size))
      have HB8_11 := Lib.hid (HB8_10.out.trans (hb.mono HB8_10.out.size))
      have HB10_11 := Lib.hid (HB10.out.trans (hb.mono HB10.out.size))
      have HO_s_11 := Lib.hid (own_below HO_s_10.out hb (Nat.le_refl _))
      have HO_c_11 := Lib.hid (own_below HO_c_10.out hb (Nat.le_refl _))
      have HO_t_11 := Lib.hid (own_below HO_t_10.out hb (Nat.le_refl _))
      clear HB0_10
      clear HB2_10
      clear HB3_10
      clear HB4_10
      clear HB5_10
      clear HB6_10
      clear HB8_10
      clear HB10
      clear hb
      clear HB3_11
      clear HB4_11
      clear HB5_11
      clear HB6_11
      clear HB8_11
      clear HB10_11
      go_wp2_with fail
      refine (spoil_any A_s _ c_s _ _ _ HV_s.out.few HO_s_11.out).mono ?_
      rintro e w12 ⟨⟨u_, rfl⟩, hgr⟩
      have HB0_12 := Lib.hid (below_own HB0_11.out hgr HO_s_11.out HZ_s_w.out HB0_11.out.size)
      clear HB0_11
      have HB2_12 := Lib.hid (below_own HB2_11.out hgr HO_s_11.out HZ_s_w2.out HB2_11.out.size)
      clear HB2_11
      have HO_c_12 := Lib.hid (own_far HO1_s.out HZ_c_w3.out HO_c_11.out hgr)
      have HO_t_12 := Lib.hid (own_far HO1_s.out HZ_t_w3.out HO_t_11.out hgr)
      clear hgr
      go_wp2_with fail
      refine (spoil_any A_c _ c_c _ _ _ HV_c.out.few HO_c_12.out).mono ?_
      rintro e w13 ⟨⟨u_, rfl⟩, hgr⟩
      have HB0_13 := Lib.hid (below_own HB0_12.out hgr HO_c_12.out HZ_c_w.out HB0_12.out.size)
      clear HB0_12
      have HB2_13 := Lib.hid (below_own HB2_12.out hgr HO_c_12.out HZ_c_w2.out HB2_12.out.size)
      clear HB2_12
      have HO_t_13 := Lib.hid (own_far HO1_c.out HZ_t_w4.out HO_t_12.out hgr)
      clear hgr
      go_wp2_with fail
      refine (spoil_any A_t _ c_t _ _ _ HV_t.out.few HO_t_13.out).mono ?_
      rintro e w14 ⟨⟨u_, rfl⟩, hgr⟩
      have HB0_14 := Lib.hid (below_own HB0_13.out hgr HO_t_13.out HZ_t_w.out HB0_13.out.size)
      clear HB0_13
      have HB2_14 := Lib.hid (below_own HB2_13.out hgr HO_t_13.out HZ_t_w2.out HB2_13.out.size)
      clear HB2_13
      clear hgr
      go_wp2_with fail
      refine (same_vec _ _ A_x A c_x c _ (HV_x.out.below HB2_14.out) (HV_a.out.below HB0_14.out)).mono ?_
      rintro e w15 ⟨rfl, hb⟩
      have HB0_15 := Lib.hid (HB0_14.out.trans (hb.mono HB0_14.out.size))
      have HB2_15 := Lib.hid (HB2_14.out.trans (hb.mono HB2_14.out.size))
      clear HB0_14
      clear HB2_14
      clear hb
      go_wp2
      go_ret
      exact ⟨rfl, HB0_15.out⟩
end Go.Proofs.YtmedpnlmdncieaaDoor

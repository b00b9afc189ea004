/- Walk of riddlelaw01.BitsMoves: it answers true. -/
import Derived.Test.YtmedpnlmdncieaaDoorVL0
namespace Go.Proofs.YtmedpnlmdncieaaDoor
open Go.RowKit

set_option maxRecDepth 100000 in
set_option maxHeartbeats 8000000 in
theorem moves_walk (f : Nat → Bool) (n : Nat) (A : Option Addr) (c : Nat) (i : Int) (w : World) (hT : Tab64 w) (ha : Vec w A n c f) (hi : i ≤ 9223372036854775807) :
    Calls Tryd.prog 4 #[.slice A n c, .int .i64 i] w (SaysTrue w) := by
  have HT := Lib.hid hT
  clear hT
  have HV_a := Lib.hid ha
  clear ha
  by_cases h1 : 40 < n
  · have hd1 : decide (40 < n) = true := by simpa using h1
    go_enter Tryd.func4, Tryd.ntmps4
    have HB0 : Hid (Below w.heap.size w w) := Below.refl _ _
    go_wp2_with fail
    refine (speaks_any _ (tab_below HT.out HB0.out (Nat.le_refl _))).mono ?_
    rintro e w1 ⟨rfl, hb⟩
    have HB0_1 := Lib.hid (HB0.out.trans (hb.mono HB0.out.size))
    clear HB0
    clear hb
    go_wp2_with fail
    refine (great_any A n c _).mono ?_
    rintro e w_ ⟨rfl, rfl⟩
    go_wp2
    go_ret
    exact ⟨rfl, HB0_1.out⟩
  · have hd1 : decide (40 < n) = false := by simpa using h1
    by_cases h2 : i < 0 ∨ 65536 < i
    · have Hno := Lib.hid (fun B d W => up_no n B d i h2 W)
      have H2 := Lib.hid h2
      clear h2
      go_enter Tryd.func4, Tryd.ntmps4
      have HB0 : Hid (Below w.heap.size w w) := Below.refl _ _
      go_wp2_with fail
      refine (speaks_any _ (tab_below HT.out HB0.out (Nat.le_refl _))).mono ?_
      rintro e w1 ⟨rfl, hb⟩
      have HB0_1 := Lib.hid (HB0.out.trans (hb.mono HB0.out.size))
      clear HB0
      clear hb
      go_wp2_with fail
      refine (great_any A n c _).mono ?_
      rintro e w_ ⟨rfl, rfl⟩
      go_wp2_with fail
      refine (vcopy_any f n A c _ (HV_a.out.below HB0_1.out)).mono ?_
      intro e w2 hg
      obtain ⟨A_x, c_x, rfl, h1, h2, hb⟩ := hg
      have HB0_2 := Lib.hid (HB0_1.out.trans (hb.mono HB0_1.out.size))
      clear HB0_1
      have HV_x := Lib.hid h1
      have HB2 : Hid (Below w2.heap.size w2 w2) := Below.refl _ _
      clear h1 h2 hb
      go_wp2_with fail
      refine (Hno.out A_x c_x _).mono ?_
      rintro e w_ ⟨rfl, rfl⟩
      go_wp2_with fail
      refine (low_any f n A_x c_x i hi _ (HV_x.out.below HB2.out)).mono ?_
      intro e w3 hg
      obtain ⟨A_l, c_l, rfl, h1, h2, hb⟩ := hg
      have HB0_3 := Lib.hid (HB0_2.out.trans (hb.mono HB0_2.out.size))
      have HB2_3 := Lib.hid (HB2.out.trans (hb.mono HB2.out.size))
      clear HB0_2
      clear HB2
      have HV_l := Lib.hid h1
      have HB3 : Hid (Below w3.heap.size w3 w3) := Below.refl _ _
      clear h1 h2 hb
      go_wp2_with fail
      refine (rlow_any f n A c i hi _ (HV_a.out.below HB0_3.out) (by omega)).mono ?_
      intro e w4 hg
      obtain ⟨A_jl, c_jl, rfl, h1, h2, hb⟩ := hg
      have HB0_4 := Lib.hid (HB0_3.out.trans (hb.mono HB0_3.out.size))
      have HB2_4 := Lib.hid (HB2_3.out.trans (hb.mono HB2_3.out.size))
      have HB3_4 := Lib.hid (HB3.out.trans (hb.mono HB3.out.size))
      clear HB0_3
      clear HB2_3
      clear HB3
      have HV_jl := Lib.hid h1
      have HB4 : Hid (Below w4.heap.size w4 w4) := Below.refl _ _
      clear h1 h2 hb
      go_wp2_with fail
      refine (same_vec _ _ A_l A_jl c_l c_jl _ (HV_l.out.below HB3_4.out) (HV_jl.out.below HB4.out)).mono ?_
      rintro e w5 ⟨rfl, hb⟩
      have HB0_5 := Lib.hid (HB0_4.out.trans (hb.mono HB0_4.out.size))
      have HB2_5 := Lib.hid (HB2_4.out.trans (hb.mono HB2_4.out.size))
      have HB3_5 := Lib.hid (HB3_4.out.trans (hb.mono HB3_4.out.size))
      have HB4_5 := Lib.hid (HB4.out.trans (hb.mono HB4.out.size))
      clear HB0_4
      clear HB2_4
      clear HB3_4
      clear HB4
      clear hb
      rcases H2.out with h2 | h2
      · go_wp2
        go_ret
        exact ⟨rfl, HB0_5.out⟩
      · have h3 : ¬ i < 0 := by omega
        go_wp2
        go_ret
        exact ⟨rfl, HB0_5.out⟩
    · obtain ⟨k, rfl⟩ : ∃ k : Nat, i = (k : Int) := ⟨i.toNat, by omega⟩
      have hk : k ≤ 65536 := by omega
      have h3 : ¬ (k : Int) < 0 := by omega
      have h4 : ¬ (65536 : Int) < (k : Int) := by omega
      clear h2
      go_enter Tryd.func4, Tryd.ntmps4
      have HB0 : Hid (Below w.heap.size w w) := Below.refl _ _
      go_wp2_with fail
      refine (speaks_any _ (tab_below HT.out HB0.out (Nat.le_refl _))).mono ?_
      rintro e w1 ⟨rfl, hb⟩
      have HB0_1 := Lib.hid (HB0.out.trans (hb.mono HB0.out.size))
      clear HB0
      clear hb
      go_wp2_with fail
      refine (great_any A n c _).mono ?_
      rintro e w_ ⟨rfl, rfl⟩
      go_wp2_with fail
      refine (vcopy_any f n A c _ (HV_a.out.below HB0_1.out)).mono ?_
      intro e w2 hg
      obtain ⟨A_x, c_x, rfl, h1, h2, hb⟩ := hg
      have HB0_2 := Lib.hid (HB0_1.out.trans (hb.mono HB0_1.out.size))
      clear HB0_1
      have HV_x := Lib.hid h1
      have HB2 : Hid (Below w2.heap.size w2 w2) := Below.refl _ _
      clear h1 h2 hb
      go_wp2_with fail
      refine (up_yes f n A_x c_x k hk _ (HV_x.out.below HB2.out) (by omega)).mono ?_
      intro e w3 hg
      obtain ⟨A_u, c_u, rfl, h1, h2, hb⟩ := hg
      have HZ_u_w := Lib.hid HB0_2.out.size
      have HZ_u_w2 := Lib.hid HB2.out.size
      have HB0_3 := Lib.hid (HB0_2.out.trans (hb.mono HB0_2.out.size))
      have HB2_3 := Lib.hid (HB2.out.trans (hb.mono HB2.out.size))
      clear HB0_2
      clear HB2
      have HV_u := Lib.hid h1
      have HB3 : Hid (Below w3.heap.size w3 w3) := Below.refl _ _
      have HO_u := Lib.hid h2
      have HO1_u := Lib.hid h2
      clear h1 h2 hb
      go_wp2_with fail
      refine (low_any f n A_x c_x k hi _ (HV_x.out.below HB2_3.out)).mono ?_
      intro e w4 hg
      obtain ⟨A_l, c_l, rfl, h1, h2, hb⟩ := hg
      have HZ_l_w := Lib.hid HB0_3.out.size
      have HZ_l_w2 := Lib.hid HB2_3.out.size
      have HZ_l_w3 := Lib.hid HB3.out.size
      have HB0_4 := Lib.hid (HB0_3.out.trans (hb.mono HB0_3.out.size))
      have HB2_4 := Lib.hid (HB2_3.out.trans (hb.mono HB2_3.out.size))
      have HB3_4 := Lib.hid (HB3.out.trans (hb.mono HB3.out.size))
      have HO_u_4 := Lib.hid (own_below HO_u.out hb (Nat.le_refl _))
      clear HB0_3
      clear HB2_3
      clear HB3
      have HV_l := Lib.hid h1
      have HB4 : Hid (Below w4.heap.size w4 w4) := Below.refl _ _
      have HO_l := Lib.hid h2
      have HO1_l := Lib.hid h2
      clear h1 h2 hb
      go_wp2_with fail
      refine (rlow_any f n A c k hi _ (HV_a.out.below HB0_4.out) (by omega)).mono ?_
      intro e w5 hg
      obtain ⟨A_jl, c_jl, rfl, h1, h2, hb⟩ := hg
      have HB0_5 := Lib.hid (HB0_4.out.trans (hb.mono HB0_4.out.size))
      have HB2_5 := Lib.hid (HB2_4.out.trans (hb.mono HB2_4.out.size))
      have HB3_5 := Lib.hid (HB3_4.out.trans (hb.mono HB3_4.out.size))
      have HB4_5 := Lib.hid (HB4.out.trans (hb.mono HB4.out.size))
      have HO_u_5 := Lib.hid (own_below HO_u_4.out hb (Nat.le_refl _))
      have HO_l_5 := Lib.hid (own_below HO_l.out hb (Nat.le_refl _))
      clear HB0_4
      clear HB2_4
      clear HB3_4
      clear HB4
      have HV_jl := Lib.hid h1
      have HB5 : Hid (Below w5.heap.size w5 w5) := Below.refl _ _
      clear h1 h2 hb
      go_wp2_with fail
      refine (same_vec _ _ A_l A_jl c_l c_jl _ (HV_l.out.below HB4_5.out) (HV_jl.out.below HB5.out)).mono ?_
      rintro e w6 ⟨rfl, hb⟩
      have HB0_6 := Lib.hid (HB0_5.out.trans (hb.mono HB0_5.out.size))
      have HB2_6 := Lib.hid (HB2_5.out.trans (hb.mono HB2_5.out.size))
      have HB3_6 := Lib.hid (HB3_5.out.trans (hb.mono HB3_5.out.size))
      have HB4_6 := Lib.hid (HB4_5.out.trans (hb.mono HB4_5.out.size))
      have HB5_6 := Lib.hid (HB5.out.trans (hb.mono HB5.out.size))
      have HO_u_6 := Lib.hid (own_below HO_u_5.out hb (Nat.le_refl _))
      have HO_l_6 := Lib.hid (own_below HO_l_5.out hb (Nat.le_refl _))
      clear HB0_5
      clear HB2_5
      clear HB3_5
      clear HB4_5
      clear HB5
      clear hb
      go_wp2_with fail
      refine (rup_any f n A c k hk _ (HV_a.out.below HB0_6.out) (by omega)).mono ?_
      intro e w7 hg
      obtain ⟨A_ju, c_ju, rfl, h1, h2, hb⟩ := hg
      have HB0_7 := Lib.hid (HB0_6.out.trans (hb.mono HB0_6.out.size))
      have HB2_7 := Lib.hid (HB2_6.out.trans (hb.mono HB2_6.out.size))
      have HB3_7 := Lib.hid (HB3_6.out.trans (hb.mono HB3_6.out.size))
      have HB4_7 := Lib.hid (HB4_6.out.trans (hb.mono HB4_6.out.size))
      have HB5_7 := Lib.hid (HB5_6.out.trans (hb.mono HB5_6.out.size))
      have HO_u_7 := Lib.hid (own_below HO_u_6.out hb (Nat.le_refl _))
      have HO_l_7 := Lib.hid (own_below HO_l_6.out hb (Nat.le_refl _))
      clear HB0_6
      clear HB2_6
      clear HB3_6
      clear HB4_6
      clear HB5_6
      have HV_ju := Lib.hid h1
      have HB7 : Hid (Below w7.heap.size w7 w7) := Below.refl _ _
      clear h1 h2 hb
      go_wp2_with fail
      refine (same_vec _ _ A_u A_ju c_u c_ju _ (HV_u.out.below HB3_7.out) (HV_ju.out.below HB7.out)).mono ?_
      rintro e w8 ⟨rfl, hb⟩
      have HB0_8 := Lib.hid (HB0_7.out.trans (hb.mono HB0_7.out.size))
      have HB2_8 := Lib.hid (HB2_7.out.trans (hb.mono HB2_7.out.size))
      have HB3_8 := Lib.hid (HB3_7.out.trans (hb.mono HB3_7.out.size))
      have HB4_8 := Lib.hid (HB4_7.out.trans (hb.mono HB4_7.out.size))
      have HB5_8 := Lib.hid (HB5_7.out.trans (hb.mono HB5_7.out.size))
      have HB7_8 := Lib.hid (HB7.out.trans (hb.mono HB7.out.size))
      have HO_u_8 := Lib.hid (own_below HO_u_7.out hb (Nat.le_refl _))
      have HO_l_8 := Lib.hid (own_below HO_l_7.out hb (Nat.le_refl _))
      clear HB0_7
      clear HB2_7
      clear HB3_7
      clear HB4_7
      clear HB5_7
      clear HB7
      clear hb
      clear HB3_8
      clear HB4_8
      clear HB5_8
      clear HB7_8
      go_wp2_with fail
      refine (spoil_any A_u _ c_u _ _ _ HV_u.out.few HO_u_8.out).mono ?_
      rintro e w9 ⟨⟨u_, rfl⟩, hgr⟩
      have HB0_9 := Lib.hid (below_own HB0_8.out hgr HO_u_8.out HZ_u_w.out HB0_8.out.size)
      clear HB0_8
      have HB2_9 := Lib.hid (below_own HB2_8.out hgr HO_u_8.out HZ_u_w2.out HB2_8.out.size)
      clear HB2_8
      have HO_l_9 := Lib.hid (own_far HO1_u.out HZ_l_w3.out HO_l_8.out hgr)
      clear hgr
      go_wp2_with fail
      refine (spoil_any A_l _ c_l _ _ _ HV_l.out.few HO_l_9.out).mono ?_
      rintro e w10 ⟨⟨u_, rfl⟩, hgr⟩
      have HB0_10 := Lib.hid (below_own HB0_9.out hgr HO_l_9.out HZ_l_w.out HB0_9.out.size)
      clear HB0_9
      have HB2_10 := Lib.hid (below_own HB2_9.out hgr HO_l_9.out HZ_l_w2.out HB2_9.out.size)
      clear HB2_9
      clear hgr
      go_wp2_with fail
      refine (same_vec _ _ A_x A c_x c _ (HV_x.out.below HB2_10.out) (HV_a.out.below HB0_10.out)).mono ?_
      rintro e w11 ⟨rfl, hb⟩
      have HB0_11 := Lib.hid (HB0_10.out.trans (hb.mono HB0_10.out.size))
      have HB2_11 := Lib.hid (HB2_10.out.trans (hb.mono HB2_10.out.size))
      clear HB0_10
      clear HB2_10
      clear hb
      go_wp2
      go_ret
      exact ⟨rfl, HB0_11.out⟩
end Go.Proofs.YtmedpnlmdncieaaDoor

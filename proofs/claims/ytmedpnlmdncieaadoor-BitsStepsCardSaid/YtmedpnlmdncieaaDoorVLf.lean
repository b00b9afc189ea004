/- Walk of riddlelaw01.BitsSteps: it answers true. -/
import Derived.Test.YtmedpnlmdncieaaDoorVL0
namespace Go.Proofs.YtmedpnlmdncieaaDoor
open Go.RowKit

set_option maxRecDepth 100000 in
set_option maxHeartbeats 8000000 in
theorem steps_walk (f : Nat → Bool) (n : Nat) (A : Option Addr) (c : Nat) (i k : Int) (w : World) (hT : Tab64 w) (ha : Vec w A n c f) (hn : n ≤ 17592186043904) (hi : i ≤ 9223372036854775807) (hk : k ≤ 9223372036854775807) :
    Calls Tryd.prog 9 #[.slice A n c, .int .i64 i, .int .i64 k] w (SaysTrue w) := by
  have HT := Lib.hid hT
  clear hT
  have HV_a := Lib.hid ha
  clear ha
  by_cases h1 : i < 0
  · go_enter Tryd.func9, Tryd.ntmps9
    have HB0 : Hid (Below w.heap.size w w) := Below.refl _ _
    go_wp2_with fail
    refine (speaks_any _ (tab_below HT.out HB0.out (Nat.le_refl _))).mono ?_
    rintro e w1 ⟨rfl, hb⟩
    have HB0_1 := Lib.hid (HB0.out.trans (hb.mono HB0.out.size))
    clear HB0
    clear hb
    go_wp2
    go_ret
    exact ⟨rfl, HB0_1.out⟩
  by_cases h2 : k < 0
  · go_enter Tryd.func9, Tryd.ntmps9
    have HB0 : Hid (Below w.heap.size w w) := Below.refl _ _
    go_wp2_with fail
    refine (speaks_any _ (tab_below HT.out HB0.out (Nat.le_refl _))).mono ?_
    rintro e w1 ⟨rfl, hb⟩
    have HB0_1 := Lib.hid (HB0.out.trans (hb.mono HB0.out.size))
    clear HB0
    clear hb
    go_wp2
    go_ret
    exact ⟨rfl, HB0_1.out⟩
  by_cases h3 : 3000 < i
  · go_enter Tryd.func9, Tryd.ntmps9
    have HB0 : Hid (Below w.heap.size w w) := Below.refl _ _
    go_wp2_with fail
    refine (speaks_any _ (tab_below HT.out HB0.out (Nat.le_refl _))).mono ?_
    rintro e w1 ⟨rfl, hb⟩
    have HB0_1 := Lib.hid (HB0.out.trans (hb.mono HB0.out.size))
    clear HB0
    clear hb
    go_wp2
    go_ret
    exact ⟨rfl, HB0_1.out⟩
  by_cases h4 : 3000 < k
  · go_enter Tryd.func9, Tryd.ntmps9
    have HB0 : Hid (Below w.heap.size w w) := Below.refl _ _
    go_wp2_with fail
    refine (speaks_any _ (tab_below HT.out HB0.out (Nat.le_refl _))).mono ?_
    rintro e w1 ⟨rfl, hb⟩
    have HB0_1 := Lib.hid (HB0.out.trans (hb.mono HB0.out.size))
    clear HB0
    clear hb
    go_wp2
    go_ret
    exact ⟨rfl, HB0_1.out⟩
  obtain ⟨a, rfl⟩ : ∃ a : Nat, i = (a : Int) := ⟨i.toNat, by omega⟩
  obtain ⟨b, rfl⟩ : ∃ b : Nat, k = (b : Int) := ⟨k.toNat, by omega⟩
  have ha : a ≤ 3000 := by omega
  have hb : b ≤ 3000 := by omega
  clear hi hk
  have Hu1 := Lib.hid (fun W h => up_yes f n A c a (by omega) W h (by omega))
  have Hu2 := Lib.hid (fun t B d W h ht => up_yes (upB f a) t B d b (by omega) W h ht)
  have Hu3 := Lib.hid (fun W h => up_yes f n A c (a + b) (by omega) W h (by omega))
  rw [show ((a + b : Nat) : Int) = (a : Int) + (b : Int) from by omega] at Hu3
  have HS := Lib.hid HV_a.out.sup
  have Htl := Lib.hid (top_le (upB f a) (a / 64 + n + 1))
  have Hz : Hid (top (lowB (upB f (a + b)) ((a : Int) + (b : Int))) (top (upB f (a + b)) ((a + b) / 64 + n + 1)) = 0) := top_zero (fun i => low_up f (a + b) _ i (by omega)) _
  have Hcnt1 : Hid (∀ B d W, Vec W B (top (upB f (a + b)) ((a + b) / 64 + n + 1)) d (upB f (a + b)) → Calls Tryd.prog 37 #[.slice B (top (upB f (a + b)) ((a + b) / 64 + n + 1)) d] W fun e w' => e = .returned (.int .i64 (popOf f (64 * n) : Nat)) ∧ W = w') := fun B d W h => by
    have := count_any _ _ B d W h
    rwa [popOf_upTop f (a + b) n HS.out] at this
  have Hcnt2 := Lib.hid (fun W h => count_any f n A c W h)
  generalize popOf f (64 * n) = q at *
  go_enter Tryd.func9, Tryd.ntmps9
  have HB0 : Hid (Below w.heap.size w w) := Below.refl _ _
  go_wp2_with fail
  refine (speaks_any _ (tab_below HT.out HB0.out (Nat.le_refl _))).mono ?_
  rintro e w1 ⟨rfl, hb⟩
  have HB0_1 := Lib.hid (HB0.out.trans (hb.mono HB0.out.size))
  clear HB0
  clear hb
  go_wp2_with fail
  refine (Hu1.out _ (HV_a.out.below HB0_1.out)).mono ?_
  intro e w2 hg
  obtain ⟨A_u, c_u, rfl, h1, h2, hb⟩ := hg
  have HB0_2 := Lib.hid (HB0_1.out.trans (hb.mono HB0_1.out.size))
  clear HB0_1
  have HV_u := Lib.hid h1
  have HB2 : Hid (Below w2.heap.size w2 w2) := Below.refl _ _
  clear h1 h2 hb
  go_wp2_with fail
  refine (Hu2.out _ A_u c_u _ (HV_u.out.below HB2.out) (by have := Htl.out; omega)).mono ?_
  intro e w3 hg
  have hg2 := hg.congr (g := upB f (a + b)) (M := (a + b) / 64 + n + 1) (upB_sup HV_u.out.sup b) (upB_sup HS.out (a + b)) (upB_upB f a b)
  clear hg
  obtain ⟨A_v, c_v, rfl, h1, h2, hb⟩ := hg2
  have HB0_3 := Lib.hid (HB0_2.out.trans (hb.mono HB0_2.out.size))
  have HB2_3 := Lib.hid (HB2.out.trans (hb.mono HB2.out.size))
  clear HB0_2
  clear HB2
  have HV_v := Lib.hid h1
  have HB3 : Hid (Below w3.heap.size w3 w3) := Below.refl _ _
  clear h1 h2 hb
  go_wp2_with fail
  refine (Hu3.out _ (HV_a.out.below HB0_3.out)).mono ?_
  intro e w4 hg
  obtain ⟨A_s, c_s, rfl, h1, h2, hb⟩ := hg
  have HB0_4 := Lib.hid (HB0_3.out.trans (hb.mono HB0_3.out.size))
  have HB2_4 := Lib.hid (HB2_3.out.trans (hb.mono HB2_3.out.size))
  have HB3_4 := Lib.hid (HB3.out.trans (hb.mono HB3.out.size))
  clear HB0_3
  clear HB2_3
  clear HB3
  have HV_s := Lib.hid h1
  have HB4 : Hid (Below w4.heap.size w4 w4) := Below.refl _ _
  clear h1 h2 hb
  go_wp2_with fail
  refine (same_vec _ _ A_v A_s c_v c_s _ (HV_v.out.below HB3_4.out) (HV_s.out.below HB4.out)).mono ?_
  rintro e w5 ⟨rfl, hb⟩
  have HB0_5 := Lib.hid (HB0_4.out.trans (hb.mono HB0_4.out.size))
  have HB2_5 := Lib.hid (HB2_4.out.trans (hb.mono HB2_4.out.size))
  have HB3_5 := Lib.hid (HB3_4.out.trans (hb.mono HB3_4.out.size))
  have HB4_5 := Lib.hid (HB4.out.trans (hb.mono HB4.out.size))
  clear HB0_4
  clear HB2_4
  clear HB3_4
  clear HB4
  clear hb
  go_wp2_with fail
  refine (Hcnt1.out A_s c_s _ (HV_s.out.below HB4_5.out)).mono ?_
  rintro e w_ ⟨rfl, rfl⟩
  go_wp2_with fail
  refine (Hcnt2.out _ (HV_a.out.below HB0_5.out)).mono ?_
  rintro e w_ ⟨rfl, rfl⟩
  go_wp2_with fail
  refine (low_any (upB f (a + b)) _ A_s c_s ((a : Int) + (b : Int)) (by omega) _ (HV_s.out.below HB4_5.out)).mono ?_
  intro e w6 hg
  unfold GaveV at hg
  rw [Hz.out] at hg
  obtain ⟨A_z, c_z, rfl, h1, h2, hb⟩ := hg
  have HB0_6 := Lib.hid (HB0_5.out.trans (hb.mono HB0_5.out.size))
  have HB2_6 := Lib.hid (HB2_5.out.trans (hb.mono HB2_5.out.size))
  have HB3_6 := Lib.hid (HB3_5.out.trans (hb.mono HB3_5.out.size))
  have HB4_6 := Lib.hid (HB4_5.out.trans (hb.mono HB4_5.out.size))
  clear HB0_5
  clear HB2_5
  clear HB3_5
  clear HB4_5
  clear h1 h2 hb
  go_wp2
  go_ret
  exact ⟨rfl, HB0_6.out⟩
end Go.Proofs.YtmedpnlmdncieaaDoor

/- Walk of riddlelaw01.BitsOnce: it answers true. -/
import Derived.Test.YtmedpnlmdncieaaDoorVL0
namespace Go.Proofs.YtmedpnlmdncieaaDoor
open Go.RowKit

set_option maxRecDepth 100000 in
set_option maxHeartbeats 8000000 in
theorem once_walk (f : Nat → Bool) (n : Nat) (A : Option Addr) (c : Nat) (i k : Int) (w : World) (hT : Tab64 w) (ha : Vec w A n c f) (hi : i ≤ 9223372036854775807) (hk : k ≤ 9223372036854775807) :
    Calls Tryd.prog 7 #[.slice A n c, .int .i64 i, .int .i64 k] w (SaysTrue w) := by
  have HT := Lib.hid hT
  clear hT
  have HV_a := Lib.hid ha
  clear ha
  by_cases h2 : i < 0 ∨ 65535 < i
  · have Hno := Lib.hid (fun B d W => set_no n B d i h2 W)
    have H2 := Lib.hid h2
    clear h2
    go_enter Tryd.func7, Tryd.ntmps7
    have HB0 : Hid (Below w.heap.size w w) := Below.refl _ _
    go_wp2_with fail
    refine (speaks_any _ (tab_below HT.out HB0.out (Nat.le_refl _))).mono ?_
    rintro e w1 ⟨rfl, hb⟩
    have HB0_1 := Lib.hid (HB0.out.trans (hb.mono HB0.out.size))
    clear HB0
    clear hb
    go_wp2_with fail
    refine (Hno.out A c _).mono ?_
    rintro e w_ ⟨rfl, rfl⟩
    rcases H2.out with h2 | h2
    · go_wp2
      go_ret
      exact ⟨rfl, HB0_1.out⟩
    · have h3 : ¬ i < 0 := by omega
      go_wp2
      go_ret
      exact ⟨rfl, HB0_1.out⟩
  · obtain ⟨j, rfl⟩ : ∃ j : Nat, i = (j : Int) := ⟨i.toNat, by omega⟩
    have hj : j ≤ 65535 := by omega
    clear h2
    have HSup := Lib.hid HV_a.out.sup
    have Hsi := Lib.hid (fun t B d W h => get_any (addB f j) t B d (j : Int) hi W h)
    rw [bitI_nat, addB_self] at Hsi
    have Hci := Lib.hid (fun t B d W h => get_any (delB (addB f j) j) t B d (j : Int) hi W h)
    rw [bitI_nat, delB_self] at Hci
    have Hcc : Hid (∀ i, delI (delB (addB f j) j) (j : Int) i = delB (addB f j) j i) := fun i => by rw [delI_nat, delB_two]
    by_cases h3 : (j : Int) = k
    · subst h3
      go_enter Tryd.func7, Tryd.ntmps7
      have HB0 : Hid (Below w.heap.size w w) := Below.refl _ _
      go_wp2_with fail
      refine (speaks_any _ (tab_below HT.out HB0.out (Nat.le_refl _))).mono ?_
      rintro e w1 ⟨rfl, hb⟩
      have HB0_1 := Lib.hid (HB0.out.trans (hb.mono HB0.out.size))
      clear HB0
      clear hb
      go_wp2_with fail
      refine (set_yes f n A c j hj _ (HV_a.out.below HB0_1.out)).mono ?_
      intro e w2 hg
      obtain ⟨A_s, c_s, rfl, h1, h2, hb⟩ := hg
      have HB0_2 := Lib.hid (HB0_1.out.trans (hb.mono HB0_1.out.size))
      clear HB0_1
      have HV_s := Lib.hid h1
      have HB2 : Hid (Below w2.heap.size w2 w2) := Below.refl _ _
      clear h1 h2 hb
      go_wp2_with fail
      refine (clear_any (addB f j) _ A_s c_s (j : Int) hi _ (HV_s.out.below HB2.out)).mono ?_
      intro e w3 hg
      have hg2 := hg.congr (g := delB (addB f j) j) (M := top (addB f j) (max n (j / 64 + 1))) (delI_sup HV_s.out.sup _) (delB_sup HV_s.out.sup j) (fun i => by rw [delI_nat])
      clear hg
      obtain ⟨A_c, c_c, rfl, h1, h2, hb⟩ := hg2
      have HB0_3 := Lib.hid (HB0_2.out.trans (hb.mono HB0_2.out.size))
      have HB2_3 := Lib.hid (HB2.out.trans (hb.mono HB2.out.size))
      clear HB0_2
      clear HB2
      have HV_c := Lib.hid h1
      have HB3 : Hid (Below w3.heap.size w3 w3) := Below.refl _ _
      clear h1 h2 hb
      go_wp2_with fail
      refine (Hsi.out _ A_s c_s _ (HV_s.out.below HB2_3.out)).mono ?_
      rintro e w_ ⟨rfl, rfl⟩
      go_wp2_with fail
      refine (Hci.out _ A_c c_c _ (HV_c.out.below HB3.out)).mono ?_
      rintro e w_ ⟨rfl, rfl⟩
      go_wp2_with fail
      refine (clear_any (delB (addB f j) j) _ A_c c_c (j : Int) hi _ (HV_c.out.below HB3.out)).mono ?_
      intro e w4 hg
      have hg2 := hg.congr (g := delB (addB f j) j) (M := top (addB f j) (max n (j / 64 + 1))) (delI_sup HV_c.out.sup _) (delB_sup HV_s.out.sup j) Hcc.out
      clear hg
      obtain ⟨A_e, c_e, rfl, h1, h2, hb⟩ := hg2
      have HB0_4 := Lib.hid (HB0_3.out.trans (hb.mono HB0_3.out.size))
      have HB2_4 := Lib.hid (HB2_3.out.trans (hb.mono HB2_3.out.size))
      have HB3_4 := Lib.hid (HB3.out.trans (hb.mono HB3.out.size))
      clear HB0_3
      clear HB2_3
      clear HB3
      have HV_e := Lib.hid h1
      have HB4 : Hid (Below w4.heap.size w4 w4) := Below.refl _ _
      clear h1 h2 hb
      go_wp2_with fail
      refine (same_vec _ _ A_e A_c c_e c_c _ (HV_e.out.below HB4.out) (HV_c.out.below HB3_4.out)).mono ?_
      rintro e w5 ⟨rfl, hb⟩
      have HB0_5 := Lib.hid (HB0_4.out.trans (hb.mono HB0_4.out.size))
      have HB2_5 := Lib.hid (HB2_4.out.trans (hb.mono HB2_4.out.size))
      have HB3_5 := Lib.hid (HB3_4.out.trans (hb.mono HB3_4.out.size))
      have HB4_5 := Lib.hid (HB4.out.trans (hb.mono HB4.out.size))
      clear HB0_4
      clear HB2_4
      clear HB3_4
      clear HB4
      clear hb
      go_wp2
      go_ret
      exact ⟨rfl, HB0_5.out⟩
    · have hjk : ((j : Int) != k) = true := by simpa using h3
      have Hk1 := Lib.hid (fun t B d W h => get_any (addB f j) t B d k hk W h)
      rw [bitI_add f j k (fun e => h3 e.symm)] at Hk1
      have Hk2 := Lib.hid (fun t B d W h => get_any (delB (addB f j) j) t B d k hk W h)
      rw [bitI_del _ j k (fun e => h3 e.symm), bitI_add f j k (fun e => h3 e.symm)] at Hk2
      have Hk0 := Lib.hid (fun B d W h => get_any f n B d k hk W h)
      generalize bitI f k = b at *
      have hbb : (b != b) = false := by simp
      clear h3
      go_enter Tryd.func7, Tryd.ntmps7
      have HB0 : Hid (Below w.heap.size w w) := Below.refl _ _
      go_wp2_with fail
      refine (speaks_any _ (tab_below HT.out HB0.out (Nat.le_refl _))).mono ?_
      rintro e w1 ⟨rfl, hb⟩
      have HB0_1 := Lib.hid (HB0.out.trans (hb.mono HB0.out.size))
      clear HB0
      clear hb
      go_wp2_with fail
      refine (set_yes f n A c j hj _ (HV_a.out.below HB0_1.out)).mono ?_
      intro e w2 hg
      obtain ⟨A_s, c_s, rfl, h1, h2, hb⟩ := hg
      have HB0_2 := Lib.hid (HB0_1.out.trans (hb.mono HB0_1.out.size))
      clear HB0_1
      have HV_s := Lib.hid h1
      have HB2 : Hid (Below w2.heap.size w2 w2) := Below.refl _ _
      clear h1 h2 hb
      go_wp2_with fail
      refine (clear_any (addB f j) _ A_s c_s (j : Int) hi _ (HV_s.out.below HB2.out)).mono ?_
      intro e w3 hg
      have hg2 := hg.congr (g := delB (addB f j) j) (M := top (addB f j) (max n (j / 64 + 1))) (delI_sup HV_s.out.sup _) (delB_sup HV_s.out.sup j) (fun i => by rw [delI_nat])
      clear hg
      obtain ⟨A_c, c_c, rfl, h1, h2, hb⟩ := hg2
      have HB0_3 := Lib.hid (HB0_2.out.trans (hb.mono HB0_2.out.size))
      have HB2_3 := Lib.hid (HB2.out.trans (hb.mono HB2.out.size))
      clear HB0_2
      clear HB2
      have HV_c := Lib.hid h1
      have HB3 : Hid (Below w3.heap.size w3 w3) := Below.refl _ _
      clear h1 h2 hb
      go_wp2_with fail
      refine (Hk1.out _ A_s c_s _ (HV_s.out.below HB2_3.out)).mono ?_
      rintro e w_ ⟨rfl, rfl⟩
      go_wp2_with fail
      refine (Hk0.out A c _ (HV_a.out.below HB0_3.out)).mono ?_
      rintro e w_ ⟨rfl, rfl⟩
      go_wp2_with fail
      refine (Hk2.out _ A_c c_c _ (HV_c.out.below HB3.out)).mono ?_
      rintro e w_ ⟨rfl, rfl⟩
      go_wp2_with fail
      refine (Hk0.out A c _ (HV_a.out.below HB0_3.out)).mono ?_
      rintro e w_ ⟨rfl, rfl⟩
      go_wp2_with fail
      refine (Hsi.out _ A_s c_s _ (HV_s.out.below HB2_3.out)).mono ?_
      rintro e w_ ⟨rfl, rfl⟩
      go_wp2_with fail
      refine (Hci.out _ A_c c_c _ (HV_c.out.below HB3.out)).mono ?_
      rintro e w_ ⟨rfl, rfl⟩
      go_wp2_with fail
      refine (clear_any (delB (addB f j) j) _ A_c c_c (j : Int) hi _ (HV_c.out.below HB3.out)).mono ?_
      intro e w4 hg
      have hg2 := hg.congr (g := delB (addB f j) j) (M := top (addB f j) (max n (j / 64 + 1))) (delI_sup HV_c.out.sup _) (delB_sup HV_s.out.sup j) Hcc.out
      clear hg
      obtain ⟨A_e, c_e, rfl, h1, h2, hb⟩ := hg2
      have HB0_4 := Lib.hid (HB0_3.out.trans (hb.mono HB0_3.out.size))
      have HB2_4 := Lib.hid (HB2_3.out.trans (hb.mono HB2_3.out.size))
      have HB3_4 := Lib.hid (HB3.out.trans (hb.mono HB3.out.size))
      clear HB0_3
      clear HB2_3
      clear HB3
      have HV_e := Lib.hid h1
      have HB4 : Hid (Below w4.heap.size w4 w4) := Below.refl _ _
      clear h1 h2 hb
      go_wp2_with fail
      refine (same_vec _ _ A_e A_c c_e c_c _ (HV_e.out.below HB4.out) (HV_c.out.below HB3_4.out)).mono ?_
      rintro e w5 ⟨rfl, hb⟩
      have HB0_5 := Lib.hid (HB0_4.out.trans (hb.mono HB0_4.out.size))
      have HB2_5 := Lib.hid (HB2_4.out.trans (hb.mono HB2_4.out.size))
      have HB3_5 := Lib.hid (HB3_4.out.trans (hb.mono HB3_4.out.size))
      have HB4_5 := Lib.hid (HB4.out.trans (hb.mono HB4.out.size))
      clear HB0_4
      clear HB2_4
      clear HB3_4
      clear HB4
      clear hb
      go_wp2
      go_ret
      exact ⟨rfl, HB0_5.out⟩
end Go.Proofs.YtmedpnlmdncieaaDoor

/- Walk of riddlelaw01.BitsLists: it answers true. -/
import Derived.Test.YtmedpnlmdncieaaDoorVL0
namespace Go.Proofs.YtmedpnlmdncieaaDoor
open Go.RowKit

set_option maxRecDepth 100000 in
set_option maxHeartbeats 1500000 in
theorem lists_walk (f : Nat → Bool) (n : Nat) (A B : Option Addr) (c d : Nat) (L : List Int) (w : World) (hT : Tab64 w) (ha : Vec w A n c f) (hL : Rd w w.heap.size B (i64s L)) :
    Calls Tryd.prog 8 #[.slice A n c, .slice B L.length d] w (SaysTrue w) := by
  have HT := Lib.hid hT
  clear hT
  have HV_a := Lib.hid ha
  have HR_q := Lib.hid hL
  clear ha hL
  by_cases h1 : 40 < n
  · have hd1 : decide (40 < n) = true := by simpa using h1
    go_enter Tryd.func8, Tryd.ntmps8
    have HB0 : Hid (Below w.heap.size w w) := Below.refl _ _
    go_wp2_with fail
    refine (speaks_any _ (tab_below HT.out HB0.out (Nat.le_refl _))).mono ?_
    rintro e w1 ⟨rfl, hb⟩
    have HB0_1 := Lib.hid (HB0.out.trans (hb.mono HB0.out.size))
    clear HB0
    clear hb
    go_wp2_with fail
    refine (great_any A n c _).mono ?_
    rintro e w_ ⟨rfl, rfl⟩
    go_wp2
    go_ret
    exact ⟨rfl, HB0_1.out⟩
  have hd1 : decide (40 < n) = false := by simpa using h1
  by_cases h2 : 100 < L.length
  · have hd2 : decide (100 < L.length) = true := by simpa using h2
    go_enter Tryd.func8, Tryd.ntmps8
    have HB0 : Hid (Below w.heap.size w w) := Below.refl _ _
    go_wp2_with fail
    refine (speaks_any _ (tab_below HT.out HB0.out (Nat.le_refl _))).mono ?_
    rintro e w1 ⟨rfl, hb⟩
    have HB0_1 := Lib.hid (HB0.out.trans (hb.mono HB0.out.size))
    clear HB0
    clear hb
    go_wp2_with fail
    refine (great_any A n c _).mono ?_
    rintro e w_ ⟨rfl, rfl⟩
    go_wp2
    go_ret
    exact ⟨rfl, HB0_1.out⟩
  have hd2 : decide (100 < L.length) = false := by simpa using h2
  obtain ⟨j, hj1, hj2, hj3⟩ := first_bad L
  have Hof := Lib.hid (fun A' c' W h => of_any L j hj1 hj2 hj3 (by omega) A' c' W h)
  have Hrof := Lib.hid (fun A' c' W h => rof_any L j hj1 hj2 hj3 (by omega) A' c' W h)
  have Hj3 := Lib.hid hj3
  have Sf := Lib.hid HV_a.out.sup
  have Hoff := Lib.hid (fun A' c' W h => of_any (posI f (64 * n)) (posI f (64 * n)).length (Nat.le_refl _) (fun i h _ => posI_ok f (64 * n) (by omega) i h) (fun h => absurd h (Nat.lt_irrefl _)) (by have := posI_le f (64 * n); omega) A' c' W h)
  have Sset := Lib.hid (setI_sup (posI f (64 * n)) (fun x hx => by
    obtain ⟨i, hi, rfl⟩ := List.getElem_of_mem hx
    exact posI_ok f (64 * n) (by omega) i hi))
  have Hset : Hid (∀ i, setI (posI f (64 * n)) i = f i) := setI_bytes Sf.out
  have Hcnt := Lib.hid (fun A' c' W h => count_any f n A' c' W h)
  rw [← posI_length] at Hcnt
  have Hls := Lib.hid (fun A' c' W h hT => list_any f n A' c' W h (by omega) hT)
  have Hrls := Lib.hid (fun A' c' W h => rlist_any f n A' c' W h (by omega))
  have Hsi := Lib.hid (fun A1 A2 c1 c2 W h1 h2 => sameInts_any (posI f (64 * n)) A1 A2 c1 c2 W (by have := posI_le f (64 * n); unfold many; omega) h1 h2)
  have hpl := posI_le f (64 * n)
  generalize posI f (64 * n) = P at *
  obtain ⟨i0, hi0, hz0, hz1, hz2⟩ := parts_of int_info
  clear hj2 hj3 hd2
  cases B with
  | none =>
    have hLn : L = [] := by
      cases L with
      | nil => rfl
      | cons x L =>
        obtain ⟨b, o, e, _⟩ := HR_q.out (by simp [i64s])
        cases e
    subst hLn
    have Hof0 : Hid (∀ A' c' W, Calls Tryd.prog 34 #[.slice A' 0 c'] W (MadeOf [] j W)) := fun A' c' W => Hof.out A' c' W (Rd.nil _ _ _)
    have Hrof0 : Hid (∀ A' c' W, Calls Tryd.prog 38 #[.slice A' 0 c'] W (RMadeOf [] j W)) := fun A' c' W => Hrof.out A' c' W (Rd.nil _ _ _)
    clear hj1 Hof Hrof
    go_enter Tryd.func8, Tryd.ntmps8
    have HB0 : Hid (Below w.heap.size w w) := Below.refl _ _
    go_wp2_with fail
    refine (speaks_any _ (tab_below HT.out HB0.out (Nat.le_refl _))).mono ?_
    rintro e w1 ⟨rfl, hb⟩
    have HB0_1 := Lib.hid (HB0.out.trans (hb.mono HB0.out.size))
    clear HB0
    clear hb
    go_wp2_with fail
    refine (great_any A n c _).mono ?_
    rintro e w_ ⟨rfl, rfl⟩
    go_wp2_with fail
    refine (vcopy_any f n A c _ (HV_a.out.below HB0_1.out)).mono ?_
    intro e w2 hg
    obtain ⟨A_x, c_x, rfl, h1, h2, hb⟩ := hg
    have HB0_2 := Lib.hid (HB0_1.out.trans (hb.mono HB0_1.out.size))
    clear HB0_1
    have HV_x := Lib.hid h1
    have HB2 : Hid (Below w2.heap.size w2 w2) := Below.refl _ _
    clear h1 h2 hb
    go_wp2_with fail
    refine (Hls.out A_x c_x _ (HV_x.out.below HB2.out) (tab_below HT.out HB0_2.out (Nat.le_refl _))).mono ?_
    intro e w3 hg
    obtain ⟨A_p, c_p, rfl, h2, h1, hb⟩ := gave_ints hg
    clear hg h2
    have HB0_3 := Lib.hid (HB0_2.out.trans (hb.mono HB0_2.out.size))
    have HB2_3 := Lib.hid (HB2.out.trans (hb.mono HB2.out.size))
    clear HB0_2
    clear HB2
    have HR_p := Lib.hid h1
    have HB3 : Hid (Below w3.heap.size w3 w3) := Below.refl _ _
    clear h1 hb
    go_wp2_with fail
    refine (Hoff.out A_p c_p _ ((HR_p.out.below HB3.out (Nat.le_refl _)).more HB3.out.size)).mono ?_
    intro e w4 hg
    have hg2 : GaveVE (setI P) 1024 w3 e w4 := by
      rcases hg with ⟨_, h⟩ | ⟨h, _⟩
      · exact h
      · exact absurd h (Nat.lt_irrefl _)
    clear hg
    have hg3 := hg2.congr (g := f) (M := n) Sset.out Sf.out Hset.out
    obtain ⟨A_b, c_b, rfl, h1, h2, hb⟩ := hg3
    clear hg2
    have HB0_4 := Lib.hid (HB0_3.out.trans (hb.mono HB0_3.out.size))
    have HB2_4 := Lib.hid (HB2_3.out.trans (hb.mono HB2_3.out.size))
    have HB3_4 := Lib.hid (HB3.out.trans (hb.mono HB3.out.size))
    clear HB0_3
    clear HB2_3
    clear HB3
    have HV_b := Lib.hid h1
    have HB4 : Hid (Below w4.heap.size w4 w4) := Below.refl _ _
    clear h1 h2 hb
    go_wp2_with fail
    refine (Hrls.out A c _ (HV_a.out.below HB0_4.out)).mono ?_
    intro e w5 hg
    obtain ⟨A_r, c_r, rfl, h2, h1, hb⟩ := gave_ints hg
    clear hg h2
    have HB0_5 := Lib.hid (HB0_4.out.trans (hb.mono HB0_4.out.size))
    have HB2_5 := Lib.hid (HB2_4.out.trans (hb.mono HB2_4.out.size))
    have HB3_5 := Lib.hid (HB3_4.out.trans (hb.mono HB3_4.out.size))
    have HB4_5 := Lib.hid (HB4.out.trans (hb.mono HB4.out.size))
    clear HB0_4
    clear HB2_4
    clear HB3_4
    clear HB4
    have HR_r := Lib.hid h1
    have HB5 : Hid (Below w5.heap.size w5 w5) := Below.refl _ _
    clear h1 hb
    go_wp2_with fail
    refine (Hsi.out A_p A_r c_p c_r _ ((HR_p.out.below HB3_5.out (Nat.le_refl _)).more HB3_5.out.size) ((HR_r.out.below HB5.out (Nat.le_refl _)).more HB5.out.size)).mono ?_
    rintro e w6 ⟨rfl, hb⟩
    have HB0_6 := Lib.hid (HB0_5.out.trans (hb.mono HB0_5.out.size))
    have HB2_6 := Lib.hid (HB2_5.out.trans (hb.mono HB2_5.out.size))
    have HB3_6 := Lib.hid (HB3_5.out.trans (hb.mono HB3_5.out.size))
    have HB4_6 := Lib.hid (HB4_5.out.trans (hb.mono HB4_5.out.size))
    have HB5_6 := Lib.hid (HB5.out.trans (hb.mono HB5.out.size))
    clear HB0_5
    clear HB2_5
    clear HB3_5
    clear HB4_5
    clear HB5
    clear hb
    go_wp2_with fail
    refine (Hcnt.out A_x c_x _ (HV_x.out.below HB2_6.out)).mono ?_
    rintro e w_ ⟨rfl, rfl⟩
    go_wp2_with fail
    refine (rtrim_any f n A c _ (HV_a.out.below HB0_6.out) (by omega)).mono ?_
    intro e w7 hg
    obtain ⟨A_t, c_t, rfl, h1, h2, hb⟩ := hg
    have HB0_7 := Lib.hid (HB0_6.out.trans (hb.mono HB0_6.out.size))
    have HB2_7 := Lib.hid (HB2_6.out.trans (hb.mono HB2_6.out.size))
    have HB3_7 := Lib.hid (HB3_6.out.trans (hb.mono HB3_6.out.size))
    have HB4_7 := Lib.hid (HB4_6.out.trans (hb.mono HB4_6.out.size))
    have HB5_7 := Lib.hid (HB5_6.out.trans (hb.mono HB5_6.out.size))
    clear HB0_6
    clear HB2_6
    clear HB3_6
    clear HB4_6
    clear HB5_6
    have HV_t := Lib.hid h1
    have HB7 : Hid (Below w7.heap.size w7 w7) := Below.refl _ _
    clear h1 h2 hb
    go_wp2_with fail
    refine (same_vec _ _ A_b A_t c_b c_t _ (HV_b.out.below HB4_7.out) (HV_t.out.below HB7.out)).mono ?_
    rintro e w8 ⟨rfl, hb⟩
    have HB0_8 := Lib.hid (HB0_7.out.trans (hb.mono HB0_7.out.size))
    have HB2_8 := Lib.hid (HB2_7.out.trans (hb.mono HB2_7.out.size))
    have HB3_8 := Lib.hid (HB3_7.out.trans (hb.mono HB3_7.out.size))
    have HB4_8 := Lib.hid (HB4_7.out.trans (hb.mono HB4_7.out.size))
    have HB5_8 := Lib.hid (HB5_7.out.trans (hb.mono HB5_7.out.size))
    have HB7_8 := Lib.hid (HB7.out.trans (hb.mono HB7.out.size))
    clear HB0_7
    clear HB2_7
    clear HB3_7
    clear HB4_7
    clear HB5_7
    clear HB7
    clear hb
    go_wp2_with fail
    have hb : Below w8.heap.size w8 (w8.alloc (.cells #[] 3)) := (Below.refl _ _).alloc (Nat.le_refl _) _
    have HB0_9 := Lib.hid (HB0_8.out.trans (hb.mono HB0_8.out.size))
    have HB2_9 := Lib.hid (HB2_8.out.trans (hb.mono HB2_8.out.size))
    have HB3_9 := Lib.hid (HB3_8.out.trans (hb.mono HB3_8.out.size))
    have HB4_9 := Lib.hid (HB4_8.out.trans (hb.mono HB4_8.out.size))
    have HB5_9 := Lib.hid (HB5_8.out.trans (hb.mono HB5_8.out.size))
    have HB7_9 := Lib.hid (HB7_8.out.trans (hb.mono HB7_8.out.size))
    clear HB0_8
    clear HB2_8
    clear HB3_8
    clear HB4_8
    clear HB5_8
    clear HB7_8
    clear hb
    go_wp2_with fail
    refine (Hof0.out _ _ _).mono ?_
    intro e w10 hg
    rcases hg with ⟨hjl, hg⟩ | ⟨hjl, _⟩
    · obtain ⟨A_m, c_m, rfl, h1, h2, hb⟩ := hg
      have HB0_10 := Lib.hid (HB0_9.out.trans (hb.mono HB0_9.out.size))
      have HB2_10 := Lib.hid (HB2_9.out.trans (hb.mono HB2_9.out.size))
      have HB3_10 := Lib.hid (HB3_9.out.trans (hb.mono HB3_9.out.size))
      have HB4_10 := Lib.hid (HB4_9.out.trans (hb.mono HB4_9.out.size))
      have HB5_10 := Lib.hid (HB5_9.out.trans (hb.mono HB5_9.out.size))
      have HB7_10 := Lib.hid (HB7_9.out.trans (hb.mono HB7_9.out.size))
      clear HB0_9
      clear HB2_9
      clear HB3_9
      clear HB4_9
      clear HB5_9
      clear HB7_9
      have HV_m := Lib.hid h1
      have HB10 : Hid (Below w10.heap.size w10 w10) := Below.refl _ _
      clear h1 h2 hb
      go_wp2_with fail
      refine (Hrof0.out _ _ _).mono ?_
      intro e w11 hg
      have hg2 : GaveVE (setI []) 1024 w10 e w11 := by
        rcases hg with ⟨_, h⟩ | ⟨h, _⟩
        · exact h
        · exact absurd h (by simp)
      clear hg
      obtain ⟨A_s, c_s, rfl, h1, h2, hb⟩ := hg2
      have HB0_11 := Lib.hid (HB0_10.out.trans (hb.mono HB0_10.out.size))
      have HB2_11 := Lib.hid (HB2_10.out.trans (hb.mono HB2_10.out.size))
      have HB3_11 := Lib.hid (HB3_10.out.trans (hb.mono HB3_10.out.size))
      have HB4_11 := Lib.hid (HB4_10.out.trans (hb.mono HB4_10.out.size))
      have HB5_11 := Lib.hid (HB5_10.out.trans (hb.mono HB5_10.out.size))
      have HB7_11 := Lib.hid (HB7_10.out.trans (hb.mono HB7_10.out.size))
      have HB10_11 := Lib.hid (HB10.out.trans (hb.mono HB10.out.size))
      clear HB0_10
      clear HB2_10
      clear HB3_10
      clear HB4_10
      clear HB5_10
      clear HB7_10
      clear HB10
      have HV_s := Lib.hid h1
      have HB11 : Hid (Below w11.heap.size w11 w11) := Below.refl _ _
      clear h1 h2 hb hjl
      go_wp2_with fail
      refine (same_vec _ _ A_m A_s c_m c_s _ (HV_m.out.below HB10_11.out) (HV_s.out.below HB11.out)).mono ?_
      rintro e w12 ⟨rfl, hb⟩
      have HB0_12 := Lib.hid (HB0_11.out.trans (hb.mono HB0_11.out.size))
      have HB2_12 := Lib.hid (HB2_11.out.trans (hb.mono HB2_11.out.size))
      have HB3_12 := Lib.hid (HB3_11.out.trans (hb.mono HB3_11.out.size))
      have HB4_12 := Lib.hid (HB4_11.out.trans (hb.mono HB4_11.out.size))
      have HB5_12 := Lib.hid (HB5_11.out.trans (hb.mono HB5_11.out.size))
      have HB7_12 := Lib.hid (HB7_11.out.trans (hb.mono HB7_11.out.size))
      have HB10_12 := Lib.hid (HB10_11.out.trans (hb.mono HB10_11.out.size))
      have HB11_12 := Lib.hid (HB11.out.trans (hb.mono HB11.out.size))
      clear HB0_11
      clear HB2_11
      clear HB3_11
      clear HB4_11
      clear HB5_11
      clear HB7_11
      clear HB10_11
      clear HB11
      clear hb
      go_wp2_with fail
      refine (same_vec _ _ A_x A c_x c _ (HV_x.out.below HB2_12.out) (HV_a.out.below HB0_12.out)).mono ?_
      rintro e w13 ⟨rfl, hb⟩
      have HB0_13 := Lib.hid (HB0_12.out.trans (hb.mono HB0_12.out.size))
      have HB2_13 := Lib.hid (HB2_12.out.trans (hb.mono HB2_12.out.size))
      have HB3_13 := Lib.hid (HB3_12.out.trans (hb.mono HB3_12.out.size))
      have HB4_13 := Lib.hid (HB4_12.out.trans (hb.mono HB4_12.out.size))
      have HB5_13 := Lib.hid (HB5_12.out.trans (hb.mono HB5_12.out.size))
      have HB7_13 := Lib.hid (HB7_12.out.trans (hb.mono HB7_12.out.size))
      have HB10_13 := Lib.hid (HB10_12.out.trans (hb.mono HB10_12.out.size))
      have HB11_13 := Lib.hid (HB11_12.out.trans (hb.mono HB11_12.out.size))
      clear HB0_12
      clear HB2_12
      clear HB3_12
      clear HB4_12
      clear HB5_12
      clear HB7_12
      clear HB10_12
      clear HB11_12
      clear hb
      go_wp2
      go_ret
      exact ⟨rfl, HB0_13.out⟩
    · exact absurd hjl (by simp)
  | some ad =>
    have hl100 : L.length ≤ 100 := by omega
    clear hj1
    go_enter Tryd.func8, Tryd.ntmps8
    have HB0 : Hid (Below w.heap.size w w) := Below.refl _ _
    go_wp2_with fail
    refine (speaks_any _ (tab_below HT.out HB0.out (Nat.le_refl _))).mono ?_
    rintro e w1 ⟨rfl, hb⟩
    have HB0_1 := Lib.hid (HB0.out.trans (hb.mono HB0.out.size))
    clear HB0
    clear hb
    go_wp2_with fail
    refine (great_any A n c _).mono ?_
    rintro e w_ ⟨rfl, rfl⟩
    go_wp2_with fail
    refine (vcopy_any f n A c _ (HV_a.out.below HB0_1.out)).mono ?_
    intro e w2 hg
    obtain ⟨A_x, c_x, rfl, h1, h2, hb⟩ := hg
    have HB0_2 := Lib.hid (HB0_1.out.trans (hb.mono HB0_1.out.size))
    clear HB0_1
    have HV_x := Lib.hid h1
    have HB2 : Hid (Below w2.heap.size w2 w2) := Below.refl _ _
    clear h1 h2 hb
    go_wp2_with fail
    refine (Hls.out A_x c_x _ (HV_x.out.below HB2.out) (tab_below HT.out HB0_2.out (Nat.le_refl _))).mono ?_
    intro e w3 hg
    obtain ⟨A_p, c_p, rfl, h2, h1, hb⟩ := gave_ints hg
    clear hg h2
    have HB0_3 := Lib.hid (HB0_2.out.trans (hb.mono HB0_2.out.size))
    have HB2_3 := Lib.hid (HB2.out.trans (hb.mono HB2.out.size))
    clear HB0_2
    clear HB2
    have HR_p := Lib.hid h1
    have HB3 : Hid (Below w3.heap.size w3 w3) := Below.refl _ _
    clear h1 hb
    go_wp2_with fail
    refine (Hoff.out A_p c_p _ ((HR_p.out.below HB3.out (Nat.le_refl _)).more HB3.out.size)).mono ?_
    intro e w4 hg
    have hg2 : GaveVE (setI P) 1024 w3 e w4 := by
      rcases hg with ⟨_, h⟩ | ⟨h, _⟩
      · exact h
      · exact absurd h (Nat.lt_irrefl _)
    clear hg
    have hg3 := hg2.congr (g := f) (M := n) Sset.out Sf.out Hset.out
    obtain ⟨A_b, c_b, rfl, h1, h2, hb⟩ := hg3
    clear hg2
    have HB0_4 := Lib.hid (HB0_3.out.trans (hb.mono HB0_3.out.size))
    have HB2_4 := Lib.hid (HB2_3.out.trans (hb.mono HB2_3.out.size))
    have HB3_4 := Lib.hid (HB3.out.trans (hb.mono HB3.out.size))
    clear HB0_3
    clear HB2_3
    clear HB3
    have HV_b := Lib.hid h1
    have HB4 : Hid (Below w4.heap.size w4 w4) := Below.refl _ _
    clear h1 h2 hb
    go_wp2_with fail
    refine (Hrls.out A c _ (HV_a.out.below HB0_4.out)).mono ?_
    intro e w5 hg
    obtain ⟨A_r, c_r, rfl, h2, h1, hb⟩ := gave_ints hg
    clear hg h2
    have HB0_5 := Lib.hid (HB0_4.out.trans (hb.mono HB0_4.out.size))
    have HB2_5 := Lib.hid (HB2_4.out.trans (hb.mono HB2_4.out.size))
    have HB3_5 := Lib.hid (HB3_4.out.trans (hb.mono HB3_4.out.size))
    have HB4_5 := Lib.hid (HB4.out.trans (hb.mono HB4.out.size))
    clear HB0_4
    clear HB2_4
    clear HB3_4
    clear HB4
    have HR_r := Lib.hid h1
    have HB5 : Hid (Below w5.heap.size w5 w5) := Below.refl _ _
    clear h1 hb
    go_wp2_with fail
    refine (Hsi.out A_p A_r c_p c_r _ ((HR_p.out.below HB3_5.out (Nat.le_refl _)).more HB3_5.out.size) ((HR_r.out.below HB5.out (Nat.le_refl _)).more HB5.out.size)).mono ?_
    rintro e w6 ⟨rfl, hb⟩
    have HB0_6 := Lib.hid (HB0_5.out.trans (hb.mono HB0_5.out.size))
    have HB2_6 := Lib.hid (HB2_5.out.trans (hb.mono HB2_5.out.size))
    have HB3_6 := Lib.hid (HB3_5.out.trans (hb.mono HB3_5.out.size))
    have HB4_6 := Lib.hid (HB4_5.out.trans (hb.mono HB4_5.out.size))
    have HB5_6 := Lib.hid (HB5.out.trans (hb.mono HB5.out.size))
    clear HB0_5
    clear HB2_5
    clear HB3_5
    clear HB4_5
    clear HB5
    clear hb
    go_wp2_with fail
    refine (Hcnt.out A_x c_x _ (HV_x.out.below HB2_6.out)).mono ?_
    rintro e w_ ⟨rfl, rfl⟩
    go_wp2_with fail
    refine (rtrim_any f n A c _ (HV_a.out.below HB0_6.out) (by omega)).mono ?_
    intro e w7 hg
    obtain ⟨A_t, c_t, rfl, h1, h2, hb⟩ := hg
    have HB0_7 := Lib.hid (HB0_6.out.trans (hb.mono HB0_6.out.size))
    have HB2_7 := Lib.hid (HB2_6.out.trans (hb.mono HB2_6.out.size))
    have HB3_7 := Lib.hid (HB3_6.out.trans (hb.mono HB3_6.out.size))
    have HB4_7 := Lib.hid (HB4_6.out.trans (hb.mono HB4_6.out.size))
    have HB5_7 := Lib.hid (HB5_6.out.trans (hb.mono HB5_6.out.size))
    clear HB0_6
    clear HB2_6
    clear HB3_6
    clear HB4_6
    clear HB5_6
    have HV_t := Lib.hid h1
    have HB7 : Hid (Below w7.heap.size w7 w7) := Below.refl _ _
    clear h1 h2 hb
    go_wp2_with fail
    refine (same_vec _ _ A_b A_t c_b c_t _ (HV_b.out.below HB4_7.out) (HV_t.out.below HB7.out)).mono ?_
    rintro e w8 ⟨rfl, hb⟩
    have HB0_8 := Lib.hid (HB0_7.out.trans (hb.mono HB0_7.out.size))
    have HB2_8 := Lib.hid (HB2_7.out.trans (hb.mono HB2_7.out.size))
    have HB3_8 := Lib.hid (HB3_7.out.trans (hb.mono HB3_7.out.size))
    have HB4_8 := Lib.hid (HB4_7.out.trans (hb.mono HB4_7.out.size))
    have HB5_8 := Lib.hid (HB5_7.out.trans (hb.mono HB5_7.out.size))
    have HB7_8 := Lib.hid (HB7.out.trans (hb.mono HB7.out.size))
    clear HB0_7
    clear HB2_7
    clear HB3_7
    clear HB4_7
    clear HB5_7
    clear HB7
    clear hb
    have Hown : Hid ((w8.alloc (.cells #[] 3)).ownsRow w8.heap.size 3 1 (.slice (some ⟨w8.heap.size, 0, none⟩) 0 0) 0 []) := by
      have := World.ownsRow_lit (base := w8.heap.size) (e := 3) (size := 1) w8 #[] 0 (by simp) (by unfold maxLen; omega) rfl
      exact this
    have hb0 : Below w8.heap.size w8 (w8.alloc (.cells #[] 3)) := (Below.refl _ _).alloc (Nat.le_refl _) _
    have Hc := Lib.hid (rd_cells (((HR_q.out.below HB0_8.out (Nat.le_refl _)).more HB0_8.out.size).below hb0 (Nat.le_refl _)))
    go_wp2_with (at_builtin; refine wpList_append_own_wide _ rfl _ _ _ rfl w8.heap.size 3 i0 _ 1 8 Tryd.underlying36 hi0 hz0 hz1 hz2 rfl (by decide) _ 0 [] rfl Hown.out ad L.length d (i64s L) rfl ?c1 ?c2 (i64s_one L) ?c3 ?c4 ?c5 ?_)
    case c1 => rw [i64s_length]; omega
    case c2 => exact Hc.out
    case c3 => unfold maxLen; omega
    case c4 => omega
    case c5 => simp
    intro v' w9 hown1 hgr _
    have hb := below_own hb0 hgr Hown.out (Nat.le_refl _) (by simp)
    obtain ⟨A_l, c_l, e', hrd⟩ := (own_rd hown1).2
    subst e'
    have HR_l := Lib.hid hrd
    clear hrd hown1 hgr hb0 Hown Hc
    have HB0_9 := Lib.hid (HB0_8.out.trans (hb.mono HB0_8.out.size))
    have HB2_9 := Lib.hid (HB2_8.out.trans (hb.mono HB2_8.out.size))
    have HB3_9 := Lib.hid (HB3_8.out.trans (hb.mono HB3_8.out.size))
    have HB4_9 := Lib.hid (HB4_8.out.trans (hb.mono HB4_8.out.size))
    have HB5_9 := Lib.hid (HB5_8.out.trans (hb.mono HB5_8.out.size))
    have HB7_9 := Lib.hid (HB7_8.out.trans (hb.mono HB7_8.out.size))
    clear HB0_8
    clear HB2_8
    clear HB3_8
    clear HB4_8
    clear HB5_8
    clear HB7_8
    have HB9 : Hid (Below w9.heap.size w9 w9) := Below.refl _ _
    clear hb
    go_wp2_with fail
    refine (Hof.out A_l c_l _ ((HR_l.out.below HB9.out (Nat.le_refl _)).more HB9.out.size)).mono ?_
    intro e w10 hg
    rcases hg with ⟨hjl, hg⟩ | ⟨hjl, rfl, hb⟩
    · obtain ⟨A_m, c_m, rfl, h1, h2, hb⟩ := hg
      have HB0_10 := Lib.hid (HB0_9.out.trans (hb.mono HB0_9.out.size))
      have HB2_10 := Lib.hid (HB2_9.out.trans (hb.mono HB2_9.out.size))
      have HB3_10 := Lib.hid (HB3_9.out.trans (hb.mono HB3_9.out.size))
      have HB4_10 := Lib.hid (HB4_9.out.trans (hb.mono HB4_9.out.size))
      have HB5_10 := Lib.hid (HB5_9.out.trans (hb.mono HB5_9.out.size))
      have HB7_10 := Lib.hid (HB7_9.out.trans (hb.mono HB7_9.out.size))
      have HB9_10 := Lib.hid (HB9.out.trans (hb.mono HB9.out.size))
      clear HB0_9
      clear HB2_9
      clear HB3_9
      clear HB4_9
      clear HB5_9
      clear HB7_9
      clear HB9
      have HV_m := Lib.hid h1
      have HB10 : Hid (Below w10.heap.size w10 w10) := Below.refl _ _
      clear h1 h2 hb
      go_wp2_with fail
      refine (Hrof.out (some ad) d _ ((HR_q.out.below HB0_10.out (Nat.le_refl _)).more HB0_10.out.size)).mono ?_
      intro e w11 hg
      have hg2 : GaveVE (setI L) 1024 w10 e w11 := by
        rcases hg with ⟨_, h⟩ | ⟨h, _⟩
        · exact h
        · exact absurd h (by omega)
      clear hg
      obtain ⟨A_s, c_s, rfl, h1, h2, hb⟩ := hg2
      have HB0_11 := Lib.hid (HB0_10.out.trans (hb.mono HB0_10.out.size))
      have HB2_11 := Lib.hid (HB2_10.out.trans (hb.mono HB2_10.out.size))
      have HB3_11 := Lib.hid (HB3_10.out.trans (hb.mono HB3_10.out.size))
      have HB4_11 := Lib.hid (HB4_10.out.trans (hb.mono HB4_10.out.size))
      have HB5_11 := Lib.hid (HB5_10.out.trans (hb.mono HB5_10.out.size))
      have HB7_11 := Lib.hid (HB7_10.out.trans (hb.mono HB7_10.out.size))
      have HB9_11 := Lib.hid (HB9_10.out.trans (hb.mono HB9_10.out.size))
      have HB10_11 := Lib.hid (HB10.out.trans (hb.mono HB10.out.size))
      clear HB0_10
      clear HB2_10
      clear HB3_10
      clear HB4_10
      clear HB5_10
      clear HB7_10
      clear HB9_10
      clear HB10
      have HV_s := Lib.hid h1
      have HB11 : Hid (Below w11.heap.size w11 w11) := Below.refl _ _
      clear h1 h2 hb hjl
      go_wp2_with fail
      refine (same_vec _ _ A_m A_s c_m c_s _ (HV_m.out.below HB10_11.out) (HV_s.out.below HB11.out)).mono ?_
      rintro e w12 ⟨rfl, hb⟩
      have HB0_12 := Lib.hid (HB0_11.out.trans (hb.mono HB0_11.out.size))
      have HB2_12 := Lib.hid (HB2_11.out.trans (hb.mono HB2_11.out.size))
      have HB3_12 := Lib.hid (HB3_11.out.trans (hb.mono HB3_11.out.size))
      have HB4_12 := Lib.hid (HB4_11.out.trans (hb.mono HB4_11.out.size))
      have HB5_12 := Lib.hid (HB5_11.out.trans (hb.mono HB5_11.out.size))
      have HB7_12 := Lib.hid (HB7_11.out.trans (hb.mono HB7_11.out.size))
      have HB9_12 := Lib.hid (HB9_11.out.trans (hb.mono HB9_11.out.size))
      have HB10_12 := Lib.hid (HB10_11.out.trans (hb.mono HB10_11.out.size))
      have HB11_12 := Lib.hid (HB11.out.trans (hb.mono HB11.out.size))
      clear HB0_11
      clear HB2_11
      clear HB3_11
      clear HB4_11
      clear HB5_11
      clear HB7_11
      clear HB9_11
      clear HB10_11
      clear HB11
      clear hb
      go_wp2_with fail
      refine (same_vec _ _ A_x A c_x c _ (HV_x.out.below HB2_12.out) (HV_a.out.below HB0_12.out)).mono ?_
      rintro e w13 ⟨rfl, hb⟩
      have HB0_13 := Lib.hid (HB0_12.out.trans (hb.mono HB0_12.out.size))
      have HB2_13 := Lib.hid (HB2_12.out.trans (hb.mono HB2_12.out.size))
      have HB3_13 := Lib.hid (HB3_12.out.trans (hb.mono HB3_12.out.size))
      have HB4_13 := Lib.hid (HB4_12.out.trans (hb.mono HB4_12.out.size))
      have HB5_13 := Lib.hid (HB5_12.out.trans (hb.mono HB5_12.out.size))
      have HB7_13 := Lib.hid (HB7_12.out.trans (hb.mono HB7_12.out.size))
      have HB9_13 := Lib.hid (HB9_12.out.trans (hb.mono HB9_12.out.size))
      have HB10_13 := Lib.hid (HB10_12.out.trans (hb.mono HB10_12.out.size))
      have HB11_13 := Lib.hid (HB11_12.out.trans (hb.mono HB11_12.out.size))
      clear HB0_12
      clear HB2_12
      clear HB3_12
      clear HB4_12
      clear HB5_12
      clear HB7_12
      clear HB9_12
      clear HB10_12
      clear HB11_12
      clear hb
      go_wp2
      go_ret
      exact ⟨rfl, HB0_13.out⟩
    · have HB0_10 := Lib.hid (HB0_9.out.trans (hb.mono HB0_9.out.size))
      have HB2_10 := Lib.hid (HB2_9.out.trans (hb.mono HB2_9.out.size))
      have HB3_10 := Lib.hid (HB3_9.out.trans (hb.mono HB3_9.out.size))
      have HB4_10 := Lib.hid (HB4_9.out.trans (hb.mono HB4_9.out.size))
      have HB5_10 := Lib.hid (HB5_9.out.trans (hb.mono HB5_9.out.size))
      have HB7_10 := Lib.hid (HB7_9.out.trans (hb.mono HB7_9.out.size))
      have HB9_10 := Lib.hid (HB9.out.trans (hb.mono HB9.out.size))
      clear HB0_9
      clear HB2_9
      clear HB3_9
      clear HB4_9
      clear HB5_9
      clear HB7_9
      clear HB9
      clear hb
      go_wp2_with fail
      refine (Hrof.out (some ad) d _ ((HR_q.out.below HB0_10.out (Nat.le_refl _)).more HB0_10.out.size)).mono ?_
      intro e w11 hg
      have hg2 : (∃ A c, e = .returned (.tuple #[.slice A 0 c, .int .i64 2])) ∧ Below w10.heap.size w10 w11 := by
        rcases hg with ⟨h, _⟩ | ⟨_, h⟩
        · exact absurd h (by omega)
        · exact h
      clear hg hjl
      obtain ⟨⟨A_s, c_s, rfl⟩, hb⟩ := hg2
      have HB0_11 := Lib.hid (HB0_10.out.trans (hb.mono HB0_10.out.size))
      have HB2_11 := Lib.hid (HB2_10.out.trans (hb.mono HB2_10.out.size))
      have HB3_11 := Lib.hid (HB3_10.out.trans (hb.mono HB3_10.out.size))
      have HB4_11 := Lib.hid (HB4_10.out.trans (hb.mono HB4_10.out.size))
      have HB5_11 := Lib.hid (HB5_10.out.trans (hb.mono HB5_10.out.size))
      have HB7_11 := Lib.hid (HB7_10.out.trans (hb.mono HB7_10.out.size))
      have HB9_11 := Lib.hid (HB9_10.out.trans (hb.mono HB9_10.out.size))
      clear HB0_10
      clear HB2_10
      clear HB3_10
      clear HB4_10
      clear HB5_10
      clear HB7_10
      clear HB9_10
      clear hb
      go_wp2_with fail
      refine (same_words [] none A_s 0 c_s _ (Nat.zero_le _) (Rd.nil _ _ _) (Rd.nil _ _ _)).mono ?_
      rintro e w12 ⟨rfl, hb⟩
      have HB0_12 := Lib.hid (HB0_11.out.trans (hb.mono HB0_11.out.size))
      have HB2_12 := Lib.hid (HB2_11.out.trans (hb.mono HB2_11.out.size))
      have HB3_12 := Lib.hid (HB3_11.out.trans (hb.mono HB3_11.out.size))
      have HB4_12 := Lib.hid (HB4_11.out.trans (hb.mono HB4_11.out.size))
      have HB5_12 := Lib.hid (HB5_11.out.trans (hb.mono HB5_11.out.size))
      have HB7_12 := Lib.hid (HB7_11.out.trans (hb.mono HB7_11.out.size))
      have HB9_12 := Lib.hid (HB9_11.out.trans (hb.mono HB9_11.out.size))
      clear HB0_11
      clear HB2_11
      clear HB3_11
      clear HB4_11
      clear HB5_11
      clear HB7_11
      clear HB9_11
      clear hb
      go_wp2_with fail
      refine (same_vec _ _ A_x A c_x c _ (HV_x.out.below HB2_12.out) (HV_a.out.below HB0_12.out)).mono ?_
      rintro e w13 ⟨rfl, hb⟩
      have HB0_13 := Lib.hid (HB0_12.out.trans (hb.mono HB0_12.out.size))
      have HB2_13 := Lib.hid (HB2_12.out.trans (hb.mono HB2_12.out.size))
      have HB3_13 := Lib.hid (HB3_12.out.trans (hb.mono HB3_12.out.size))
      have HB4_13 := Lib.hid (HB4_12.out.trans (hb.mono HB4_12.out.size))
      have HB5_13 := Lib.hid (HB5_12.out.trans (hb.mono HB5_12.out.size))
      have HB7_13 := Lib.hid (HB7_12.out.trans (hb.mono HB7_12.out.size))
      have HB9_13 := Lib.hid (HB9_12.out.trans (hb.mono HB9_12.out.size))
      clear HB0_12
      clear HB2_12
      clear HB3_12
      clear HB4_12
      clear HB5_12
      clear HB7_12
      clear HB9_12
      clear hb
      go_wp2
      go_ret
      exact ⟨rfl, HB0_13.out⟩
end Go.Proofs.YtmedpnlmdncieaaDoor

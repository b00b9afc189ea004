/- Walk of bits.Up. -/
import Derived.Test.YtoijilfpfdhppaaKBh
namespace Go.Proofs.Ytoijilfpfdhppaa
open Go.RowKit

theorem run_make_part (w : World) (n c : Nat) (hnc : n ≤ c) (hc : c ≤ 30000000000000) :
    ∃ w', (Instr.makeSlice 47 (.int .i64 (n : Int)) (.int .i64 (c : Int))).run Try.prog w = .ok (.slice (some ⟨w.heap.size, 0, none⟩) n c) w' ∧
      w'.ownsRow w.heap.size 22 1 (.slice (some ⟨w.heap.size, 0, none⟩) n c) n (u64s (List.replicate n 0)) ∧ w.grownBy w' none := by
  obtain ⟨i0, hi, hz0, hz1, hz2⟩ := word_parts
  have hr := run_make (P := Try.prog) w 47 22 i0 _ Try.underlying47 hi hz0 .i64 .i64 n c (by omega) (by omega) (by rw [hz2]; omega) (by omega)
  simp only [Int.toNat_natCast, hz1] at hr
  refine ⟨_, hr, ⟨by simp [u64s_length], .inr ⟨w.heap.size, c, madeCells (Value.int .u64 0).cells (c * 1), rfl, Nat.le_refl _, heap_alloc_new w _, hnc, by unfold maxLen; omega, size_madeCells _ _, ?_⟩⟩, World.grownBy_alloc w _ none⟩
  rw [made_words]
  unfold u64s
  rw [← List.map_take, List.take_replicate, Nat.mul_one, Nat.min_eq_left hnc]

theorem vw_up_low (f : Nat → Bool) (m : Nat) : vw (upB f m) (m / 64) = List.replicate (m / 64) 0 := by
  apply List.ext_getElem?
  intro j
  by_cases h : j < m / 64
  · rw [vw_get _ _ _ h, upB_low f m j h]
    simp [h]
  · rw [List.getElem?_eq_none (by rw [vw_length]; omega), List.getElem?_eq_none (by simp; omega)]

theorem up_no (n : Nat) (A : Option Addr) (c : Nat) (i : Int) (h : i < 0 ∨ 65536 < i) (w : World) :
    Calls Try.prog 40 #[.slice A n c, .int .i64 i] w fun e w' => e = .returned (.tuple #[.slice none 0 0, .int .i64 2]) ∧ w = w' := by
  rcases h with h | h
  · go_enter Try.func40, Try.ntmps40
    go_wp2
    go_ret2
    exact ⟨rfl, rfl⟩
  · have h0 : ¬ i < 0 := by omega
    go_enter Try.func40, Try.ntmps40
    go_wp2
    go_ret2
    exact ⟨rfl, rfl⟩

set_option maxRecDepth 20000 in
set_option maxHeartbeats 1000000 in
theorem up_yes (f : Nat → Bool) (n : Nat) (A : Option Addr) (c : Nat) (m : Nat) (hm : m ≤ 65536) (w : World) (h : Vec w A n c f) (hn : m / 64 + n + 2 ≤ 17592186044416) :
    Calls Try.prog 40 #[.slice A n c, .int .i64 (m : Int)] w (GaveVE (upB f m) (m / 64 + n + 1) w) := by
  obtain ⟨i0, hi, hz0, hz1, hz2⟩ := word_parts
  have HV := Lib.hid h
  clear h
  have Hsup := Lib.hid (upB_sup HV.out.sup m)
  obtain ⟨W, hW⟩ : ∃ W, W = m / 64 := ⟨_, rfl⟩
  obtain ⟨R, hR⟩ : ∃ R, R = m % 64 := ⟨_, rfl⟩
  have hWi : (m : Int) / 64 = (W : Int) := by omega
  have hRi : (m : Int) % 64 = (R : Int) := by omega
  have hR64 : R < 64 := by omega
  have hW1 : W ≤ 1024 := by omega
  have HW := Lib.hid hW
  have HR := Lib.hid hR
  have Hlow := Lib.hid (vw_up_low f m)
  rw [← hW] at Hlow Hsup hn ⊢
  have Hword := Lib.hid (fun k => up_word f m k)
  rw [← hW, ← hR] at Hword
  have Hlast := Lib.hid (up_last HV.out.sup m)
  rw [← hW, ← hR] at Hlast
  clear hW hR
  have hm1 : ¬ (m : Int) < 0 := by omega
  have hm2 : ¬ (65536 : Int) < (m : Int) := by omega
  obtain ⟨w1, hmk, hown, hgr⟩ := run_make_part w W (W + n + 1) (by omega) (by omega)
  rw [show ((W + n + 1 : Nat) : Int) = (W : Int) + (n : Int) + 1 from by omega] at hmk
  rw [← Hlow.out] at hown
  have hb1 : Below w.heap.size w w1 := (Below.refl _ _).grown hgr (Nat.le_refl _) (fun k hk => by cases hk)
  have HO := Lib.hid hown
  have HB := Lib.hid hb1
  clear hown hb1 hgr
  go_enter Try.func40, Try.ntmps40
  go_wp2
  go_loopw [8, 9, 11, 32] (fun out cy _ i wr => ∃ k : Nat, k ≤ n ∧ i = .int .i64 k ∧ cy = .int .u64 (carryOf f R k : Nat) ∧ wr.ownsRow w.heap.size 22 1 out (W + k) (u64s (vw (upB f m) (W + k))) ∧ Below w.heap.size w wr) (fun _ _ _ i _ => n - (intOf i).toNat)
  case atStart => exact ⟨0, Nat.zero_le _, rfl, by rw [carryOf_zero]; rfl, HO.out, HB.out⟩
  case round =>
    clear HO HB hmk
    obtain ⟨k, hk, rfl, rfl, hown, hbel⟩ := hrel
    by_cases hlt : k < n
    · obtain ⟨b, o, rfl, _, hc⟩ := (HV.out.below hbel).rd.at_ (vw_cell f n k hlt)
      have HO1 := Lib.hid hown
      have HB1 := Lib.hid hbel
      clear hown hbel
      have hor : bits .or .u64 (IntKind.u64.wrap ((pw f k : Int) * 2 ^ R)) (carryOf f R k : Int) = ((pw (upB f m) (W + k) : Nat) : Int) := by
        have e : IntKind.u64.wrap ((pw f k : Int) * 2 ^ R) = ((pw f k * 2 ^ R % 18446744073709551616 : Nat) : Int) := by
          rw [IntKind.wrap_u64]
          simp
        rw [e, bits_or_u64_nat _ _ (Nat.mod_lt _ (by decide)) (carryOf_lt f R k), Hword.out]
      have HN : Hid (vw (upB f m) (W + k) ++ [pw (upB f m) (W + k)] = vw (upB f m) (W + (k + 1))) := (vw_succ _ _).symm
      generalize pw (upB f m) (W + k) = x at *
      go_wp2_with (at_builtin; refine wpList_append_new HO1.out [.int .u64 ((x : Nat) : Int)] hi hz0 hz1 hz2 rfl (by decide) _ Try.underlying47 rfl _ _ rfl rfl rfl rfl ?c2 ?c3 ?c4 ?c5 ?_)
      case c2 => intro u hu; simp at hu; subst hu; rfl
      case c3 => unfold maxLen; omega
      case c4 => omega
      case c5 => exact HB1.out.size
      intro v' w2 hown2 hgr2
      have HB2 := Lib.hid (below_own HB1.out hgr2 HO1.out (Nat.le_refl _) HB1.out.size)
      have HO2 : Hid (w2.ownsRow w.heap.size 22 1 v' (W + (k + 1)) (u64s (vw (upB f m) (W + (k + 1))))) := by
        rw [← HN.out, u64s_append]
        exact hown2
      clear hown2 hgr2 HO1 HB1 hor
      by_cases hR0 : R = 0
      · have HR0 := Lib.hid hR0
        have hR1 : ¬ 0 < R := by omega
        clear hR0
        go_wp2
        go_roundw
        case rel => exact ⟨k + 1, by omega, by go_num, by rw [HR0.out, carryOf_none]; rfl, HO2.out, HB2.out⟩
        case measure => simp [intOf]; omega
      · have HR0 := Lib.hid hR0
        have hR1 : 0 < R := by omega
        clear hR0
        go_wp2
        go_roundw
        case rel => exact ⟨k + 1, by omega, by go_num, by rw [carryOf_succ f R k HR0.out]; simp, HO2.out, HB2.out⟩
        case measure => simp [intOf]; omega
    · obtain rfl : k = n := by omega
      have HN : Hid (vw (upB f m) (W + k) ++ [carryOf f R k] = vw (upB f m) (W + k + 1)) := by
        show _ = _
        rw [Hlast.out]
        exact (vw_succ _ _).symm
      generalize carryOf f R k = x at *
      go_wp2_with (at_builtin; refine wpList_append_new hown [.int .u64 ((x : Nat) : Int)] hi hz0 hz1 hz2 rfl (by decide) _ Try.underlying47 rfl _ _ rfl rfl rfl rfl ?c2 ?c3 ?c4 ?c5 ?_)
      case c2 => intro u hu; simp at hu; subst hu; rfl
      case c3 => unfold maxLen; omega
      case c4 => omega
      case c5 => exact hbel.size
      intro v' w2 hown2 hgr2
      have HB2 := Lib.hid (below_own hbel hgr2 hown (Nat.le_refl _) hbel.size)
      have HO2 : Hid (w2.ownsRow w.heap.size 22 1 v' (W + k + 1) (u64s (vw (upB f m) (W + k + 1)))) := by
        rw [← HN.out, u64s_append]
        exact hown2
      clear hown2 hgr2 hown hbel
      obtain ⟨_, A', c', e', hrd⟩ := own_rd HO2.out
      subst e'
      have HV2 := Lib.hid (Vec.mk hrd (own_cap HO2.out) Hsup.out (by unfold many; omega))
      clear hrd
      go_wp2_with fail
      refine (trim_any _ _ _ _ _ HV2.out).mono ?_
      rintro e w3 ⟨A2, c2, rfl, h1, h2, h3⟩
      go_wp2
      go_ret2
      exact ⟨A2, c2, rfl, h1, own_base h2 HB2.out.size, HB2.out.trans (h3.mono HB2.out.size)⟩
end Go.Proofs.Ytoijilfpfdhppaa

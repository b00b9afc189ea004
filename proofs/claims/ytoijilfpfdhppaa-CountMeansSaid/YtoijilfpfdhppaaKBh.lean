/- Walk of bits.Low. -/
import Derived.Test.YtoijilfpfdhppaaKBg
namespace Go.Proofs.Ytoijilfpfdhppaa
open Go.RowKit

theorem top_none' (N : Nat) : top noneB N = 0 := top_zero (fun _ => rfl) N
theorem low_no (f : Nat → Bool) (n : Nat) (A : Option Addr) (c : Nat) (i : Int) (hi : i ≤ 0) (w : World) :
    Calls Try.prog 38 #[.slice A n c, .int .i64 i] w (GaveV (lowB f i) n w) := by
  have hz := Lib.hid (top_zero (lowB_none (f := f) hi) n)
  have hs := Lib.hid (fun j => lowB_none (f := f) hi j)
  go_enter Try.func38, Try.ntmps38
  go_wp2
  go_ret
  refine ⟨none, 0, by rw [hz.out]; rfl, ?_, ?_, Below.refl _ _⟩
  · rw [hz.out]
    exact ⟨Rd.nil _ _ _, Nat.le_refl _, fun j _ => hs.out j, by unfold many; omega⟩
  · rw [hz.out]
    exact World.ownsRow_nil _ _ _ _

theorem mask_word (f : Nat → Bool) (m k : Nat) (hm : 0 < m) (hk : k = (m - 1) / 64) (h0 : 0 < m % 64) :
    bits .and .u64 (pw f k : Int) (IntKind.u64.wrap (IntKind.u64.wrap (2 ^ (m % 64)) - 1)) = ((pw (lowB f (m : Int)) k : Nat) : Int) := by
  have h64 : m % 64 < 64 := Nat.mod_lt _ (by decide)
  have h2 : 2 ^ (m % 64) < 18446744073709551616 := Nat.pow_lt_pow_right (by decide : 1 < 2) h64
  have hp : 0 < 2 ^ (m % 64) := Nat.two_pow_pos _
  have e : IntKind.u64.wrap (IntKind.u64.wrap (2 ^ (m % 64)) - 1) = ((2 ^ (m % 64) - 1 : Nat) : Int) := by
    rw [IntKind.wrap_u64, IntKind.wrap_u64]
    rw [show ((2 : Int) ^ (m % 64)) = ((2 ^ (m % 64) : Nat) : Int) from by simp]
    generalize 2 ^ (m % 64) = y at *
    omega
  rw [e, bits_and_u64_nat _ _ (pw_lt f k) (by omega), low_word_at f m k hm hk h0]

theorem low_yes (f : Nat → Bool) (n : Nat) (A : Option Addr) (c : Nat) (m : Nat) (hm : 0 < m) (hm2 : m ≤ 9223372036854775807) (w : World) (h : Vec w A n c f) :
    Calls Try.prog 38 #[.slice A n c, .int .i64 (m : Int)] w (GaveV (lowB f (m : Int)) n w) := by
  have hn := h.few
  have hsup := Lib.hid h.sup
  have Hcl := Lib.hid (clone_any (vw f n) (by rw [vw_length]; exact hn) A c w h.rd)
  rw [vw_length] at Hcl
  clear h
  unfold many at hn
  obtain ⟨q, hq⟩ : ∃ q, q = (m - 1) / 64 := ⟨_, rfl⟩
  have hqi : ((m : Int) - 1) / 64 = (q : Int) := by omega
  have Hq := Lib.hid hq
  clear hq
  have hm0 : ¬ (m : Int) ≤ 0 := by omega
  go_enter Try.func38, Try.ntmps38
  go_wp2_with fail
  refine Hcl.out.mono ?_
  intro e w1 hg
  obtain ⟨B, d, rfl, hown, hrd, hb⟩ := gave_words hg
  rw [vw_length] at *
  clear hg hrd
  have HO := Lib.hid hown
  have HB := Lib.hid hb
  clear hown hb
  go_wp2
  go_loopw [6, 13] (fun _ i wr => ∃ k : Nat, k ≤ n ∧ i = .int .i64 k ∧ wr.ownsRow w.heap.size 22 1 (.slice B n d) n (u64s (mix2 (lowB f (m : Int)) f k n)) ∧ Below w.heap.size w wr) (fun _ i _ => n - (intOf i).toNat)
  case atStart => exact ⟨0, Nat.zero_le _, rfl, by rw [mix2_zero]; exact HO.out, HB.out⟩
  case round =>
    clear HO HB
    obtain ⟨k, hk, rfl, hown, hbel⟩ := hrel
    by_cases hlt : k < n
    · obtain ⟨g, c2, e2, hgb, hgs⟩ := own_some hown (by omega)
      simp only [Value.slice.injEq] at e2
      obtain ⟨rfl, _, rfl⟩ := e2
      have hcell := hown.cellAt k (by omega)
      have hgk := mix2_get (lowB f (m : Int)) f k n hlt
      have hcv : (u64s (mix2 (lowB f (m : Int)) f k n))[k]? = some (.int .u64 ((pw f k : Nat) : Int)) := by
        unfold u64s
        rw [List.getElem?_map, hgk]
        rfl
      rw [hcv] at hcell
      have hfz := hown.frozenAt k
      obtain ⟨hown2, hgr2⟩ := hown.stored k (.int .u64 ((pw (lowB f (m : Int)) k : Nat) : Int))
      rw [u64s_set, mix2_set] at hown2
      have HO2 := Lib.hid hown2
      have HB2 := Lib.hid (below_byGrown hbel hgr2 hbel.size hgb)
      have HO1 := Lib.hid hown
      have HB1 := Lib.hid hbel
      clear hgk hcv hown2 hgr2 hown hbel
      by_cases c1 : q < k
      · have hz := low_word_behind f m k hm (by rw [← Hq.out]; exact c1)
        rw [hz] at HO2 HB2
        clear hz
        go_wp2
        go_roundw
        case rel => exact ⟨k + 1, by omega, by go_num, HO2.out, HB2.out⟩
        case measure => simp [intOf]; omega
      · by_cases c2 : q = k
        · have e1 : ((k : Int) == (q : Int)) = true := by simp; omega
          by_cases c3 : 0 < m % 64
          · have hw := mask_word f m k hm (by rw [← Hq.out]; exact c2.symm) c3
            have Hc2 := Lib.hid c2
            clear c2
            go_wp2
            go_roundw
            case rel => exact ⟨k + 1, by omega, by go_num, HO2.out, HB2.out⟩
            case measure => simp [intOf]; omega
          · have Hsame := Lib.hid (mix2_same (lowB f (m : Int)) f k n (low_word_full f m k hm (by rw [← Hq.out]; exact c2.symm) (by omega)))
            have Hc2 := Lib.hid c2
            clear c2
            go_wp2
            go_roundw
            case rel => exact ⟨k + 1, by omega, by go_num, by rw [← Hsame.out]; exact HO1.out, HB1.out⟩
            case measure => simp [intOf]; omega
        · have e1 : ((k : Int) == (q : Int)) = false := by simp; omega
          have Hsame := Lib.hid (mix2_same (lowB f (m : Int)) f k n (low_word_below f m k (by rw [← Hq.out]; omega)))
          go_wp2
          go_roundw
          case rel => exact ⟨k + 1, by omega, by go_num, by rw [← Hsame.out]; exact HO1.out, HB1.out⟩
          case measure => simp [intOf]; omega
    · obtain rfl : k = n := by omega
      rw [mix2_full] at hown
      obtain ⟨_, A', c', e', hrd⟩ := own_rd hown
      simp only [Value.slice.injEq] at e'
      obtain ⟨rfl, _, rfl⟩ := e'
      have HV := Lib.hid (Vec.mk hrd (own_cap hown) (lowB_sup hsup.out (m : Int)) (by unfold many; omega))
      have HB := Lib.hid hbel
      clear hrd hown hbel
      go_wp2_with fail
      refine (trim_any _ _ _ _ _ HV.out).mono ?_
      rintro e w3 ⟨A', c', rfl, h1, h2, h3⟩
      go_wp2
      go_ret
      exact ⟨A', c', rfl, h1, own_base h2 HB.out.size, HB.out.trans (h3.mono HB.out.size)⟩

theorem low_any (f : Nat → Bool) (n : Nat) (A : Option Addr) (c : Nat) (i : Int) (hi : i ≤ 9223372036854775807) (w : World) (h : Vec w A n c f) :
    Calls Try.prog 38 #[.slice A n c, .int .i64 i] w (GaveV (lowB f i) n w) := by
  by_cases h0 : i ≤ 0
  · exact low_no f n A c i h0 w
  · obtain ⟨k, rfl⟩ : ∃ k : Nat, i = (k : Int) := ⟨i.toNat, by omega⟩
    exact low_yes f n A c k (by omega) (by omega) w h
end Go.Proofs.Ytoijilfpfdhppaa

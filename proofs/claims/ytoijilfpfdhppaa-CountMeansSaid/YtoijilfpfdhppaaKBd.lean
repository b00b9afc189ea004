/- Walk of bits.merge with each of the three closures. -/
import Derived.Test.YtoijilfpfdhppaaKBc
import Derived.Deep.CutRange
import Derived.Deep.DeepCutAuto
namespace Go.Proofs.Ytoijilfpfdhppaa
open Go.RowKit

/-- the first k words of f, then words 0, n in all -/
def mix (f : Nat → Bool) (k n : Nat) : List Nat := (List.range n).map fun i => if i < k then pw f i else 0
theorem mix_length (f : Nat → Bool) (k n : Nat) : (mix f k n).length = n := by simp [mix]
theorem mix_zero (f : Nat → Bool) (n : Nat) : mix f 0 n = List.replicate n 0 := by
  unfold mix
  apply List.ext_getElem?
  intro j
  by_cases h : j < n <;> simp [h]
theorem mix_full (f : Nat → Bool) (n : Nat) : mix f n n = vw f n := by
  unfold mix vw
  apply List.map_congr_left
  intro i hi
  rw [if_pos (List.mem_range.1 hi)]
theorem mix_set (f : Nat → Bool) (k n : Nat) : (mix f k n).set k (pw f k) = mix f (k + 1) n := by
  apply List.ext_getElem?
  intro j
  unfold mix
  by_cases h : j < n
  · by_cases e : k = j
    · subst e
      simp [h]
    · simp [h, e]
      by_cases h1 : j < k
      · simp [h1, show j < k + 1 from by omega]
      · simp [h1, show ¬ j < k + 1 from by omega]
  · simp [h]
theorem made_words (n : Nat) : (madeCells (Value.int .u64 0).cells (n * 1)).toList = u64s (List.replicate n 0) := by
  apply List.ext_getElem?
  intro j
  unfold madeCells u64s
  by_cases h : j < n <;> simp [h, Value.cells, Nat.mod_one]
theorem u64s_mix (f : Nat → Bool) (k n : Nat) (h : k < n) : (u64s (mix f k n))[k]? = some (.int .u64 0) := by
  unfold u64s mix
  simp [h]
theorem mix_next (f : Nat → Bool) (k n : Nat) : (u64s (mix f k n)).set k (.int .u64 ((pw f k : Nat) : Int)) = u64s (mix f (k + 1) n) := by
  rw [← mix_set]
  unfold u64s
  rw [List.map_set]

set_option maxRecDepth 20000 in
set_option maxHeartbeats 2000000 in
theorem merge_or (p q : Nat → Bool) (n m : Nat) (A B : Option Addr) (c d : Nat) (w : World) (hp : Vec w A n c p) (hq : Vec w B m d q) :
    Calls Try.prog 43 #[.slice A n c, .slice B m d, .func (.func 48) #[] #[]] w (GaveV (fun b => p b || q b) (max n m) w) := by
  obtain ⟨i0, hi, hz0, hz1, hz2⟩ := word_parts
  have hfn := hp.few
  have hfm := hq.few
  have HP := Lib.hid hp
  have HQ := Lib.hid hq
  have Hfn := Lib.hid (fun i W => or_fn p q i W)
  clear hp hq
  obtain ⟨N, hN⟩ : ∃ N, N = max n m := ⟨_, rfl⟩
  have hNn : n ≤ N := by omega
  have hNm : m ≤ N := by omega
  have hNf : N ≤ 20000000000000 := by unfold many at *; omega
  have HN := Lib.hid hN
  clear hN
  obtain ⟨w1, hmk, hown, hgr⟩ := run_make_full (P := Try.prog) w w.heap.size 47 22 i0 _ 1 Try.underlying47 hi hz0 hz1 .i64 .i64 N (by rw [hz2]; omega) (by unfold maxLen; omega) (Nat.le_refl _)
  rw [made_words, ← mix_zero (fun b => p b || q b)] at hown
  have HO := Lib.hid hown
  have hb1 : Below w.heap.size w w1 := (Below.refl _ _).grown hgr (Nat.le_refl _) (fun k hk => by cases hk)
  clear hown hgr hi hz0 hz1 hz2
  unfold many at hfn hfm
  go_enter Try.func43, Try.ntmps43
  go_upto_region 1 with fail
  go_cut [7] (fun x wx => x = .slice (some ⟨w.heap.size, 0, none⟩) N N ∧ wx = w1)
  case first =>
    rcases Nat.lt_or_ge n m with h | h
    · obtain rfl : N = m := by have := HN.out; omega
      go_wp2
      go_meet
      exact ⟨rfl, rfl⟩
    · obtain rfl : N = n := by have := HN.out; omega
      go_wp2
      go_meet
      exact ⟨rfl, rfl⟩
  case rest =>
    obtain ⟨rfl, rfl⟩ := hcut
    clear hmk
    go_wp2
    go_loopw [17] (fun i wr => ∃ k : Nat, k ≤ N ∧ i = .int .i64 k ∧ wr.ownsRow w.heap.size 22 1 (.slice (some ⟨w.heap.size, 0, none⟩) N N) N (u64s (mix (fun b => p b || q b) k N)) ∧ Below w.heap.size w wr) (fun i _ => N - (intOf i).toNat)
    case atStart => exact ⟨0, Nat.zero_le _, rfl, HO.out, hb1⟩
    case round =>
      clear HO hb1
      obtain ⟨k, hk, rfl, hown, hbel⟩ := hrel
      by_cases hlt : k < N
      · have Hp1 := Lib.hid (HP.out.below hbel)
        have Hq1 := Lib.hid (HQ.out.below hbel)
        have HOW := Lib.hid hown
        have Hbel := Lib.hid hbel
        clear hown hbel
        go_wp2_with fail
        refine (at_any p n Hp1.out.sup A c k _ _ Hp1.out.rd).mono ?_
        rintro e w2 ⟨rfl, rfl⟩
        go_wp2_with fail
        refine (at_any q m Hq1.out.sup B d k _ _ Hq1.out.rd).mono ?_
        rintro e w2 ⟨rfl, rfl⟩
        go_wp2_with fail
        refine (Hfn.out k _).mono ?_
        rintro e w2 ⟨rfl, rfl⟩
        have hcell := HOW.out.cellAt k (by omega)
        rw [u64s_mix _ k N hlt] at hcell
        have hfz := HOW.out.frozenAt k
        obtain ⟨hown3, hgr3⟩ := HOW.out.stored k (.int .u64 ((pw (fun b => p b || q b) k : Nat) : Int))
        rw [mix_next] at hown3
        have hbw := below_byGrown Hbel.out hgr3 Hbel.out.size (Nat.le_refl _)
        have HO3 := Lib.hid hown3
        have HB3 := Lib.hid hbw
        clear hown3 hgr3 hbw
        go_wp2
        go_roundw
        case rel => exact ⟨k + 1, by omega, by go_num, HO3.out, HB3.out⟩
        case measure => simp [intOf]; omega
      · obtain rfl : k = N := by omega
        rw [mix_full] at hown
        obtain ⟨_, A', c', e', hrd⟩ := own_rd hown
        simp only [Value.slice.injEq] at e'
        obtain ⟨rfl, _, rfl⟩ := e'
        have hv : Vec wr (some ⟨w.heap.size, 0, none⟩) k k (fun b => p b || q b) := ⟨hrd, Nat.le_refl _, fun i hi => by have h1 := HP.out.sup i; have h2 := HQ.out.sup i; simp [h1 (by omega), h2 (by omega)], hNf⟩
        have HV := Lib.hid hv
        have Hbel := Lib.hid hbel
        clear hrd hv hown hbel
        go_wp2_with fail
        refine (trim_any _ _ _ _ _ HV.out).mono ?_
        rintro e w3 ⟨A', c', rfl, h1, h2, h3⟩
        go_wp2
        go_ret
        rw [← HN.out]
        exact ⟨A', c', rfl, h1, own_base h2 Hbel.out.size, Hbel.out.trans (h3.mono Hbel.out.size)⟩

set_option maxRecDepth 20000 in
set_option maxHeartbeats 2000000 in
theorem merge_minus (p q : Nat → Bool) (n m : Nat) (A B : Option Addr) (c d : Nat) (w : World) (hp : Vec w A n c p) (hq : Vec w B m d q) :
    Calls Try.prog 43 #[.slice A n c, .slice B m d, .func (.func 44) #[] #[]] w (GaveV (fun b => p b && !q b) (max n m) w) := by
  obtain ⟨i0, hi, hz0, hz1, hz2⟩ := word_parts
  have hfn := hp.few
  have hfm := hq.few
  have HP := Lib.hid hp
  have HQ := Lib.hid hq
  have Hfn := Lib.hid (fun i W => minus_fn p q i W)
  clear hp hq
  obtain ⟨N, hN⟩ : ∃ N, N = max n m := ⟨_, rfl⟩
  have hNn : n ≤ N := by omega
  have hNm : m ≤ N := by omega
  have hNf : N ≤ 20000000000000 := by unfold many at *; omega
  have HN := Lib.hid hN
  clear hN
  obtain ⟨w1, hmk, hown, hgr⟩ := run_make_full (P := Try.prog) w w.heap.size 47 22 i0 _ 1 Try.underlying47 hi hz0 hz1 .i64 .i64 N (by rw [hz2]; omega) (by unfold maxLen; omega) (Nat.le_refl _)
  rw [made_words, ← mix_zero (fun b => p b && !q b)] at hown
  have HO := Lib.hid hown
  have hb1 : Below w.heap.size w w1 := (Below.refl _ _).grown hgr (Nat.le_refl _) (fun k hk => by cases hk)
  clear hown hgr hi hz0 hz1 hz2
  unfold many at hfn hfm
  go_enter Try.func43, Try.ntmps43
  go_upto_region 1 with fail
  go_cut [7] (fun x wx => x = .slice (some ⟨w.heap.size, 0, none⟩) N N ∧ wx = w1)
  case first =>
    rcases Nat.lt_or_ge n m with h | h
    · obtain rfl : N = m := by have := HN.out; omega
      go_wp2
      go_meet
      exact ⟨rfl, rfl⟩
    · obtain rfl : N = n := by have := HN.out; omega
      go_wp2
      go_meet
      exact ⟨rfl, rfl⟩
  case rest =>
    obtain ⟨rfl, rfl⟩ := hcut
    clear hmk
    go_wp2
    go_loopw [17] (fun i wr => ∃ k : Nat, k ≤ N ∧ i = .int .i64 k ∧ wr.ownsRow w.heap.size 22 1 (.slice (some ⟨w.heap.size, 0, none⟩) N N) N (u64s (mix (fun b => p b && !q b) k N)) ∧ Below w.heap.size w wr) (fun i _ => N - (intOf i).toNat)
    case atStart => exact ⟨0, Nat.zero_le _, rfl, HO.out, hb1⟩
    case round =>
      clear HO hb1
      obtain ⟨k, hk, rfl, hown, hbel⟩ := hrel
      by_cases hlt : k < N
      · have Hp1 := Lib.hid (HP.out.below hbel)
        have Hq1 := Lib.hid (HQ.out.below hbel)
        have HOW := Lib.hid hown
        have Hbel := Lib.hid hbel
        clear hown hbel
        go_wp2_with fail
        refine (at_any p n Hp1.out.sup A c k _ _ Hp1.out.rd).mono ?_
        rintro e w2 ⟨rfl, rfl⟩
        go_wp2_with fail
        refine (at_any q m Hq1.out.sup B d k _ _ Hq1.out.rd).mono ?_
        rintro e w2 ⟨rfl, rfl⟩
        go_wp2_with fail
        refine (Hfn.out k _).mono ?_
        rintro e w2 ⟨rfl, rfl⟩
        have hcell := HOW.out.cellAt k (by omega)
        rw [u64s_mix _ k N hlt] at hcell
        have hfz := HOW.out.frozenAt k
        obtain ⟨hown3, hgr3⟩ := HOW.out.stored k (.int .u64 ((pw (fun b => p b && !q b) k : Nat) : Int))
        rw [mix_next] at hown3
        have hbw := below_byGrown Hbel.out hgr3 Hbel.out.size (Nat.le_refl _)
        have HO3 := Lib.hid hown3
        have HB3 := Lib.hid hbw
        clear hown3 hgr3 hbw
        go_wp2
        go_roundw
        case rel => exact ⟨k + 1, by omega, by go_num, HO3.out, HB3.out⟩
        case measure => simp [intOf]; omega
      · obtain rfl : k = N := by omega
        rw [mix_full] at hown
        obtain ⟨_, A', c', e', hrd⟩ := own_rd hown
        simp only [Value.slice.injEq] at e'
        obtain ⟨rfl, _, rfl⟩ := e'
        have hv : Vec wr (some ⟨w.heap.size, 0, none⟩) k k (fun b => p b && !q b) := ⟨hrd, Nat.le_refl _, fun i hi => by have h1 := HP.out.sup i; have h2 := HQ.out.sup i; simp [h1 (by omega)], hNf⟩
        have HV := Lib.hid hv
        have Hbel := Lib.hid hbel
        clear hrd hv hown hbel
        go_wp2_with fail
        refine (trim_any _ _ _ _ _ HV.out).mono ?_
        rintro e w3 ⟨A', c', rfl, h1, h2, h3⟩
        go_wp2
        go_ret
        rw [← HN.out]
        exact ⟨A', c', rfl, h1, own_base h2 Hbel.out.size, Hbel.out.trans (h3.mono Hbel.out.size)⟩
end Go.Proofs.Ytoijilfpfdhppaa


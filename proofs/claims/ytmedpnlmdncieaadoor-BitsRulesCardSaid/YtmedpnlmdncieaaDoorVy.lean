/- Walks of the references riddleref01.Trim, Set, Clear, Low, Up. -/
import Derived.Test.YtmedpnlmdncieaaDoorVx
namespace Go.Proofs.YtmedpnlmdncieaaDoor
open Go.RowKit

theorem rtrim_any (f : Nat → Bool) (n : Nat) (A : Option Addr) (c : Nat) (w : World) (h : Vec w A n c f) (hn : n ≤ 10000) :
    Calls Tryd.prog 31 #[.slice A n c] w (GaveV f n w) := by
  have Hsup := Lib.hid h.sup
  have Hfl := Lib.hid (flags_any f n A c (64 * n) (by omega) w h)
  rw [show ((64 * n : Nat) : Int) = 64 * (n : Int) from by omega] at Hfl
  clear h
  go_enter Tryd.func31, Tryd.ntmps31
  go_wp2_with fail
  refine Hfl.out.mono ?_
  rintro e w1 ⟨B, d, rfl, hown, hb⟩
  obtain ⟨_, A', c', e', hrd⟩ := own_rd hown
  simp only [Value.slice.injEq] at e'
  obtain ⟨rfl, _, rfl⟩ := e'
  have HR := Lib.hid hrd
  have HB := Lib.hid hb
  clear hrd hown hb
  go_wp2_with fail
  refine (from_any f (64 * n) B d (by omega) _ HR.out).mono ?_
  intro e w2 hg
  have hg2 := hg.congr (g := f) (M := n) (cutAt_sup f _) Hsup.out (cutAt_all Hsup.out (Nat.le_refl _))
  clear hg
  obtain ⟨A', c', rfl, h1, h2, h3⟩ := hg2
  go_wp2
  go_ret
  exact ⟨A', c', rfl, h1, own_base h2 HB.out.size, HB.out.trans (h3.mono HB.out.size)⟩

theorem bls_put (f : Nat → Bool) (m k : Nat) : (bls f m).set k (.bool true) = bls (addB f k) m := by
  rw [bls_set]
  refine bls_congr fun i _ => ?_
  by_cases e : i = k <;> simp [addB, e]
theorem bls_del (f : Nat → Bool) (m k : Nat) : (bls f m).set k (.bool false) = bls (delB f k) m := by
  rw [bls_set]
  refine bls_congr fun i _ => ?_
  by_cases e : i = k <;> simp [delB, e]

/-- flags with one of them stored, made into a vector -/
theorem rset_any (f : Nat → Bool) (n : Nat) (A : Option Addr) (c : Nat) (k : Nat) (hk : k ≤ 65535) (w : World) (h : Vec w A n c f) (hn : n ≤ 10000) :
    Calls Tryd.prog 32 #[.slice A n c, .int .i64 (k : Int)] w (GaveV (addB f k) (max n (k / 64 + 1)) w) := by
  have Hsup := Lib.hid h.sup
  obtain ⟨m, hm⟩ : ∃ m, m = max (64 * n) (k + 1) := ⟨_, rfl⟩
  have Hfl := Lib.hid (flags_any f n A c m (by omega) w h)
  have Hall : Hid (∀ i, cutAt (addB f k) m i = addB f k i) := fun i => by
    by_cases hi : i < m
    · simp [cutAt, hi]
    · have h1 : ¬ i = k := by omega
      have h2 := Hsup.out i (by omega)
      simp [cutAt, hi, addB, h1, h2]
  have hkm : k < m := by omega
  have hm1 : m ≤ 1000000 := by omega
  clear h
  have hor : (m = 64 * n ∧ k < 64 * n) ∨ (m = k + 1 ∧ 64 * n ≤ k) := by omega
  clear hm
  rcases hor with ⟨hm, hlt⟩ | ⟨hm, hge⟩
  · rw [show (m : Int) = 64 * (n : Int) from by omega] at Hfl
    clear hm
    go_enter Tryd.func32, Tryd.ntmps32
    go_wp2_with fail
    refine Hfl.out.mono ?_
    rintro e w1 ⟨B, d, rfl, hown, hb⟩
    obtain ⟨g, c2, e2, hgb, hgs⟩ := own_some hown (by omega)
    simp only [Value.slice.injEq] at e2
    obtain ⟨rfl, _, rfl⟩ := e2
    have hcell := hown.cellAt k (by omega)
    rw [bls_get _ _ _ hkm] at hcell
    have hfz := hown.frozenAt k
    obtain ⟨hown2, hgr2⟩ := hown.stored k (.bool true)
    rw [bls_put] at hown2
    have HB := Lib.hid (below_byGrown hb hgr2 hb.size hgb)
    obtain ⟨_, A', c', e', hrd⟩ := own_rd hown2
    simp only [Value.slice.injEq] at e'
    obtain ⟨rfl, _, rfl⟩ := e'
    have HR := Lib.hid hrd
    clear hrd hown2 hgr2 hown hb
    go_wp2_with fail
    refine (from_any (addB f k) m _ d hm1 _ HR.out).mono ?_
    intro e w2 hg
    have hg2 := hg.congr (g := addB f k) (M := max n (k / 64 + 1)) (cutAt_sup _ _) (addB_sup Hsup.out (by omega) (by omega)) Hall.out
    clear hg
    obtain ⟨A', c', rfl, h1, h2, h3⟩ := hg2
    go_wp2
    go_ret
    exact ⟨A', c', rfl, h1, own_base h2 HB.out.size, HB.out.trans (h3.mono HB.out.size)⟩
  · rw [show (m : Int) = (k : Int) + 1 from by omega] at Hfl
    clear hm
    go_enter Tryd.func32, Tryd.ntmps32
    go_wp2_with fail
    refine Hfl.out.mono ?_
    rintro e w1 ⟨B, d, rfl, hown, hb⟩
    obtain ⟨g, c2, e2, hgb, hgs⟩ := own_some hown (by omega)
    simp only [Value.slice.injEq] at e2
    obtain ⟨rfl, _, rfl⟩ := e2
    have hcell := hown.cellAt k (by omega)
    rw [bls_get _ _ _ hkm] at hcell
    have hfz := hown.frozenAt k
    obtain ⟨hown2, hgr2⟩ := hown.stored k (.bool true)
    rw [bls_put] at hown2
    have HB := Lib.hid (below_byGrown hb hgr2 hb.size hgb)
    obtain ⟨_, A', c', e', hrd⟩ := own_rd hown2
    simp only [Value.slice.injEq] at e'
    obtain ⟨rfl, _, rfl⟩ := e'
    have HR := Lib.hid hrd
    clear hrd hown2 hgr2 hown hb
    go_wp2_with fail
    refine (from_any (addB f k) m _ d hm1 _ HR.out).mono ?_
    intro e w2 hg
    have hg2 := hg.congr (g := addB f k) (M := max n (k / 64 + 1)) (cutAt_sup _ _) (addB_sup Hsup.out (by omega) (by omega)) Hall.out
    clear hg
    obtain ⟨A', c', rfl, h1, h2, h3⟩ := hg2
    go_wp2
    go_ret
    exact ⟨A', c', rfl, h1, own_base h2 HB.out.size, HB.out.trans (h3.mono HB.out.size)⟩

theorem rclear_any (f : Nat → Bool) (n : Nat) (A : Option Addr) (c : Nat) (i : Int) (hi : i ≤ 9223372036854775807) (w : World) (h : Vec w A n c f) (hn : n ≤ 10000) :
    Calls Tryd.prog 30 #[.slice A n c, .int .i64 i] w (GaveV (delI f i) n w) := by
  have Hsup := Lib.hid h.sup
  obtain ⟨m, hm⟩ : ∃ m, m = 64 * n := ⟨_, rfl⟩
  have Hfl := Lib.hid (flags_any f n A c m (by omega) w h)
  have hmi : 64 * (n : Int) = (m : Int) := by omega
  have hm1 : m ≤ 1000000 := by omega
  have Hall : Hid (∀ g : Nat → Bool, Sup g n → ∀ i, cutAt g m i = g i) := fun g hg => cutAt_all hg (by omega)
  clear h
  by_cases hin : 0 ≤ i ∧ i < m
  · obtain ⟨k, rfl⟩ : ∃ k : Nat, i = (k : Int) := ⟨i.toNat, by omega⟩
    rw [delI_nat]
    have hkm : k < m := by omega
    have hd : decide (0 ≤ (k : Int)) = true := by simp
    have hd2 : decide (k < m) = true := by simpa using hkm
    have hd3 : decide ((k : Int) < (m : Int)) = true := by simpa using hkm
    clear hin hm
    go_enter Tryd.func30, Tryd.ntmps30
    go_wp2_with fail
    refine Hfl.out.mono ?_
    rintro e w1 ⟨B, d, rfl, hown, hb⟩
    obtain ⟨g, c2, e2, hgb, hgs⟩ := own_some hown (by omega)
    simp only [Value.slice.injEq] at e2
    obtain ⟨rfl, _, rfl⟩ := e2
    have hcell := hown.cellAt k (by omega)
    rw [bls_get _ _ _ hkm] at hcell
    have hfz := hown.frozenAt k
    obtain ⟨hown2, hgr2⟩ := hown.stored k (.bool false)
    rw [bls_del] at hown2
    have HB := Lib.hid (below_byGrown hb hgr2 hb.size hgb)
    obtain ⟨_, A', c', e', hrd⟩ := own_rd hown2
    simp only [Value.slice.injEq] at e'
    obtain ⟨rfl, _, rfl⟩ := e'
    have HR := Lib.hid hrd
    clear hrd hown2 hgr2 hown hb
    go_wp2_with fail
    refine (from_any (delB f k) m _ d hm1 _ HR.out).mono ?_
    intro e w2 hg
    have hg2 := hg.congr (g := delB f k) (M := n) (cutAt_sup _ _) (delB_sup Hsup.out k) (Hall.out _ (delB_sup Hsup.out k))
    clear hg
    obtain ⟨A', c', rfl, h1, h2, h3⟩ := hg2
    go_wp2
    go_ret
    exact ⟨A', c', rfl, h1, own_base h2 HB.out.size, HB.out.trans (h3.mono HB.out.size)⟩
  · have Hsame : Hid (∀ x, f x = delI f i x) := fun x => by
      by_cases h0 : 0 ≤ i
      · obtain ⟨k, rfl⟩ : ∃ k : Nat, i = (k : Int) := ⟨i.toNat, by omega⟩
        rw [delI_nat]
        exact (delB_no Hsup.out (by omega) x).symm
      · rw [delI_neg f i (by omega)]
    by_cases h0 : 0 ≤ i
    · obtain ⟨k, rfl⟩ : ∃ k : Nat, i = (k : Int) := ⟨i.toNat, by omega⟩
      have hd : decide (0 ≤ (k : Int)) = true := by simp
      have hd2 : decide (k < m) = false := by simp; omega
      clear hin hm
      go_enter Tryd.func30, Tryd.ntmps30
      go_wp2_with fail
      refine Hfl.out.mono ?_
      rintro e w1 ⟨B, d, rfl, hown, hb⟩
      obtain ⟨_, A', c', e', hrd⟩ := own_rd hown
      simp only [Value.slice.injEq] at e'
      obtain ⟨rfl, _, rfl⟩ := e'
      have HR := Lib.hid hrd
      have HB := Lib.hid hb
      clear hrd hown hb
      go_wp2_with fail
      refine (from_any f m B d hm1 _ HR.out).mono ?_
      intro e w2 hg
      have hg2 := hg.congr (g := delI f (k : Int)) (M := n) (cutAt_sup f _) (delI_sup Hsup.out _) (fun x => (Hall.out f Hsup.out x).trans (Hsame.out x))
      clear hg
      obtain ⟨A', c', rfl, h1, h2, h3⟩ := hg2
      go_wp2
      go_ret
      exact ⟨A', c', rfl, h1, own_base h2 HB.out.size, HB.out.trans (h3.mono HB.out.size)⟩
    · have hd : decide (0 ≤ i) = false := by simpa using h0
      clear hin hm
      go_enter Tryd.func30, Tryd.ntmps30
      go_wp2_with fail
      refine Hfl.out.mono ?_
      rintro e w1 ⟨B, d, rfl, hown, hb⟩
      obtain ⟨_, A', c', e', hrd⟩ := own_rd hown
      simp only [Value.slice.injEq] at e'
      obtain ⟨rfl, _, rfl⟩ := e'
      have HR := Lib.hid hrd
      have HB := Lib.hid hb
      clear hrd hown hb
      go_wp2_with fail
      refine (from_any f m B d hm1 _ HR.out).mono ?_
      intro e w2 hg
      have hg2 := hg.congr (g := delI f i) (M := n) (cutAt_sup f _) (delI_sup Hsup.out _) (fun x => (Hall.out f Hsup.out x).trans (Hsame.out x))
      clear hg
      obtain ⟨A', c', rfl, h1, h2, h3⟩ := hg2
      go_wp2
      go_ret
      exact ⟨A', c', rfl, h1, own_base h2 HB.out.size, HB.out.trans (h3.mono HB.out.size)⟩

set_option maxHeartbeats 1000000 in
theorem rlow_any (f : Nat → Bool) (n : Nat) (A : Option Addr) (c : Nat) (i : Int) (hi : i ≤ 9223372036854775807) (w : World) (h : Vec w A n c f) (hn : n ≤ 10000) :
    Calls Tryd.prog 18 #[.slice A n c, .int .i64 i] w (GaveV (lowB f i) n w) := by
  have Hsup := Lib.hid h.sup
  obtain ⟨m, hm⟩ : ∃ m, m = 64 * n := ⟨_, rfl⟩
  have Hfl := Lib.hid (flags_any f n A c m (by omega) w h)
  have hmi : 64 * (n : Int) = (m : Int) := by omega
  have hm1 : m ≤ 1000000 := by omega
  have Hall : Hid (∀ i', cutAt (lowB f i) m i' = lowB f i i') := cutAt_all (lowB_sup Hsup.out i) (by omega)
  clear h hm
  go_enter Tryd.func18, Tryd.ntmps18
  go_wp2_with fail
  refine Hfl.out.mono ?_
  rintro e w1 ⟨B, d, rfl, hown, hb⟩
  have HO := Lib.hid hown
  have HB := Lib.hid hb
  clear hown hb Hfl
  go_wp2
  go_loopw [6] (fun j wr => ∃ k : Nat, k ≤ m ∧ j = .int .i64 k ∧ wr.ownsRow w.heap.size 4 1 (.slice B m d) m (bls (fun x => if x < k then lowB f i x else f x) m) ∧ Below w.heap.size w wr) (fun j _ => m - (intOf j).toNat)
  case atStart => exact ⟨0, Nat.zero_le _, rfl, by rw [bls_congr (g := f) (fun x _ => by simp)]; exact HO.out, HB.out⟩
  case round =>
    clear HO HB
    obtain ⟨k, hk, rfl, hown, hbel⟩ := hrel
    by_cases hlt : k < m
    · obtain ⟨g, c2, e2, hgb, hgs⟩ := own_some hown (by omega)
      simp only [Value.slice.injEq] at e2
      obtain ⟨rfl, _, rfl⟩ := e2
      have hcell := hown.cellAt k (by omega)
      rw [bls_get _ _ _ hlt, if_neg (Nat.lt_irrefl k)] at hcell
      have hfz := hown.frozenAt k
      obtain ⟨hown2, hgr2⟩ := hown.stored k (.bool (lowB f i k))
      rw [bls_set, bls_congr (g := fun x => if x < k + 1 then lowB f i x else f x) (fun x _ => by
        by_cases e : x = k
        · subst e; simp
        · by_cases e2 : x < k
          · simp [e, e2, show x < k + 1 from by omega]
          · simp [e, e2, show ¬ x < k + 1 from by omega])] at hown2
      have HO := Lib.hid hown2
      have HB := Lib.hid (below_byGrown hbel hgr2 hbel.size hgb)
      clear hown hown2 hgr2 hbel
      cases hfk : f k
      · have hl : lowB f i k = false := by simp [lowB, hfk]
        rw [hfk] at hcell
        rw [hl] at HO HB
        clear hfk hl
        go_wp2
        go_roundw
        case rel => exact ⟨k + 1, by omega, by go_num, HO.out, HB.out⟩
        case measure => simp [intOf]; omega
      · rw [hfk] at hcell
        by_cases hki : (k : Int) < i
        · have hl : lowB f i k = true := by simp [lowB, hfk, hki]
          have hd : decide ((k : Int) < i) = true := by simpa using hki
          rw [hl] at HO HB
          clear hfk hl
          go_wp2
          go_roundw
          case rel => exact ⟨k + 1, by omega, by go_num, HO.out, HB.out⟩
          case measure => simp [intOf]; omega
        · have hl : lowB f i k = false := by simp [lowB, hki]
          have hd : decide ((k : Int) < i) = false := by simpa using hki
          rw [hl] at HO HB
          clear hfk hl
          go_wp2
          go_roundw
          case rel => exact ⟨k + 1, by omega, by go_num, HO.out, HB.out⟩
          case measure => simp [intOf]; omega
    · obtain rfl : k = m := by omega
      rw [bls_congr (g := lowB f i) (fun x hx => by simp [hx])] at hown
      obtain ⟨_, A', c', e', hrd⟩ := own_rd hown
      simp only [Value.slice.injEq] at e'
      obtain ⟨rfl, _, rfl⟩ := e'
      have HR := Lib.hid hrd
      have HB := Lib.hid hbel
      clear hrd hown hbel
      go_wp2_with fail
      refine (from_any (lowB f i) k B d hm1 _ HR.out).mono ?_
      intro e w2 hg
      have hg2 := hg.congr (g := lowB f i) (M := n) (cutAt_sup _ _) (lowB_sup Hsup.out i) Hall.out
      clear hg
      obtain ⟨A', c', rfl, h1, h2, h3⟩ := hg2
      go_wp2
      go_ret
      exact ⟨A', c', rfl, h1, own_base h2 HB.out.size, HB.out.trans (h3.mono HB.out.size)⟩

theorem made_flags (n : Nat) : (madeCells (Value.bool false).cells (n * 1)).toList = bls noneB n := by
  apply List.ext_getElem?
  intro j
  unfold madeCells bls
  by_cases h : j < n <;> simp [h, Value.cells, Nat.mod_one, noneB]

set_option maxHeartbeats 1000000 in
theorem rup_any (f : Nat → Bool) (n : Nat) (A : Option Addr) (c : Nat) (m : Nat) (hm : m ≤ 65536) (w : World) (h : Vec w A n c f) (hn : n ≤ 10000) :
    Calls Tryd.prog 19 #[.slice A n c, .int .i64 (m : Int)] w (GaveV (upB f m) (m / 64 + n + 1) w) := by
  obtain ⟨i0, hi, hz0, hz1, hz2⟩ := parts_of bool_info
  have HV := Lib.hid h
  have Hsup := Lib.hid h.sup
  clear h
  obtain ⟨M, hM⟩ : ∃ M, M = m + 64 * n := ⟨_, rfl⟩
  obtain ⟨w1, hmk, hown, hgr⟩ := run_make_full (P := Tryd.prog) w w.heap.size 47 4 i0 _ 1 Tryd.underlying47 hi hz0 hz1 .i64 .i64 M (by rw [hz2]; omega) (by unfold maxLen; omega) (Nat.le_refl _)
  rw [made_flags, bls_congr (g := upB (cutAt f 0) m) (fun x _ => by simp [noneB, upB, cutAt])] at hown
  rw [show (M : Int) = (m : Int) + 64 * (n : Int) from by omega] at hmk
  have hb1 : Below w.heap.size w w1 := (Below.refl _ _).grown hgr (Nat.le_refl _) (fun k hk => by cases hk)
  have HO := Lib.hid hown
  have HB := Lib.hid hb1
  have Hall : Hid (∀ x, cutAt (upB f m) M x = upB f m x) := fun x => by
    by_cases hx : x < M
    · simp [cutAt, hx]
    · have := Hsup.out (x - m) (by omega)
      simp [cutAt, hx, upB, this]
  have Hend : Hid (∀ x, upB (cutAt f (64 * n)) m x = upB f m x) := fun x => by
    unfold upB
    rw [cutAt_all Hsup.out (Nat.le_refl _)]
  clear hown hb1 hgr
  have hM1 : M ≤ 1000000 := by omega
  have HM := Lib.hid hM
  have hMi : (m : Int) + 64 * (n : Int) = (M : Int) := by omega
  have hMn : m + 64 * n ≤ M := by omega
  rw [hMi] at hmk
  clear hM
  go_enter Tryd.func19, Tryd.ntmps19
  go_wp2
  go_loopw [6] (fun j wr => ∃ k : Nat, k ≤ 64 * n ∧ j = .int .i64 k ∧ wr.ownsRow w.heap.size 4 1 (.slice (some ⟨w.heap.size, 0, none⟩) M M) M (bls (upB (cutAt f k) m) M) ∧ Below w.heap.size w wr) (fun j _ => 64 * n - (intOf j).toNat)
  case atStart => exact ⟨0, Nat.zero_le _, rfl, HO.out, HB.out⟩
  case round =>
    clear HO HB hmk
    obtain ⟨k, hk, rfl, hown, hbel⟩ := hrel
    by_cases hlt : k < 64 * n
    · have HV2 := Lib.hid (HV.out.below hbel)
      have hkm : k + m < M := by omega
      have hcell := hown.cellAt (k + m) (by omega)
      rw [bls_get _ _ _ hkm] at hcell
      have hfz := hown.frozenAt (k + m)
      obtain ⟨hown2, hgr2⟩ := hown.stored (k + m) (.bool (f k))
      rw [bls_set, bls_congr (g := upB (cutAt f (k + 1)) m) (fun x _ => by
        unfold upB cutAt
        by_cases e : x = k + m
        · subst e
          simp
        · rw [if_neg e]
          by_cases e1 : m ≤ x
          · by_cases e2 : x - m < k
            · simp [e1, e2, show x - m < k + 1 from by omega]
            · simp [e1, e2, show ¬ x - m < k + 1 from by omega]
          · simp [e1])] at hown2
      have HO := Lib.hid hown2
      have HB := Lib.hid (below_byGrown hbel hgr2 hbel.size (Nat.le_refl _))
      clear hown hown2 hgr2 hbel
      generalize upB (cutAt f k) m (k + m) = x0 at *
      go_wp2_with fail
      refine (rget_nat f n A c k (by omega) _ _ HV2.out.rd HV2.out.sup).mono ?_
      rintro e w1 ⟨rfl, rfl⟩
      generalize f k = x at *
      go_wp2
      go_roundw
      case rel => exact ⟨k + 1, by omega, by go_num, HO.out, HB.out⟩
      case measure => simp [intOf]; omega
    · obtain rfl : k = 64 * n := by omega
      rw [bls_congr (g := upB f m) (fun x _ => Hend.out x)] at hown
      obtain ⟨_, A', c', e', hrd⟩ := own_rd hown
      simp only [Value.slice.injEq] at e'
      obtain ⟨rfl, _, rfl⟩ := e'
      have HR := Lib.hid hrd
      have HB := Lib.hid hbel
      clear hrd hown hbel
      go_wp2_with fail
      refine (from_any (upB f m) M _ M hM1 _ HR.out).mono ?_
      intro e w2 hg
      have hg2 := hg.congr (g := upB f m) (M := m / 64 + n + 1) (cutAt_sup _ _) (upB_sup Hsup.out m) Hall.out
      clear hg
      obtain ⟨A', c', rfl, h1, h2, h3⟩ := hg2
      go_wp2
      go_ret
      exact ⟨A', c', rfl, h1, own_base h2 HB.out.size, HB.out.trans (h3.mono HB.out.size)⟩
end Go.Proofs.YtmedpnlmdncieaaDoor

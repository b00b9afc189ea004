/- Walks of bits.Set, bits.Clear, bits.Count, riddleref01.Copy, riddlelaw01.spoil. -/
import Derived.Test.YtmedpnlmdncieaaDoorVp
namespace Go.Proofs.YtmedpnlmdncieaaDoor
open Go.RowKit

/-- a call gave the vector f in its one form and no error -/
def GaveVE (f : Nat → Bool) (N : Nat) (w : World) (e : Ending) (w' : World) : Prop :=
  ∃ A c, e = .returned (.tuple #[.slice A (top f N) c, .int .i64 0]) ∧ Vec w' A (top f N) c f ∧ w'.ownsRow w.heap.size 45 1 (.slice A (top f N) c) (top f N) (u64s (vw f (top f N))) ∧ Below w.heap.size w w'
theorem GaveVE.congr {f g : Nat → Bool} {N M : Nat} {w w' : World} {e : Ending} (h : GaveVE f N w e w') (hf : Sup f N) (hg : Sup g M) (hfg : ∀ i, f i = g i) : GaveVE g M w e w' := by
  obtain rfl : f = g := funext hfg
  unfold GaveVE
  rw [top_ext hg hf]
  exact h

theorem set_no (n : Nat) (A : Option Addr) (c : Nat) (i : Int) (h : i < 0 ∨ 65535 < i) (w : World) :
    Calls Tryd.prog 25 #[.slice A n c, .int .i64 i] w fun e w' => e = .returned (.tuple #[.slice none 0 0, .int .i64 2]) ∧ w = w' := by
  rcases h with h | h
  · go_enter Tryd.func25, Tryd.ntmps25
    go_wp2
    go_ret2
    exact ⟨rfl, rfl⟩
  · have h0 : ¬ i < 0 := by omega
    have h1 : 65536 ≤ i := by omega
    clear h
    go_enter Tryd.func25, Tryd.ntmps25
    go_wp2
    go_ret2
    exact ⟨rfl, rfl⟩

theorem addB_or (f : Nat → Bool) (i x : Nat) : (f x || addB noneB i x) = addB f i x := by simp [addB, noneB]
theorem set_yes (f : Nat → Bool) (n : Nat) (A : Option Addr) (c : Nat) (i : Nat) (hi : i ≤ 65535) (w : World) (h : Vec w A n c f) :
    Calls Tryd.prog 25 #[.slice A n c, .int .i64 (i : Int)] w (GaveVE (addB f i) (max n (i / 64 + 1)) w) := by
  have HV := Lib.hid h
  have Hor := Lib.hid (fun B d W hq => vor_any f (addB noneB i) n (i / 64 + 1) A B c d W (h.below (w' := W) hq))
  have Hs0 := Lib.hid h.sup
  clear h
  have h1 : ¬ (65536 : Int) ≤ (i : Int) := by omega
  go_enter Tryd.func25, Tryd.ntmps25
  go_wp2_with fail
  refine (one_any i hi _).mono ?_
  rintro e w1 ⟨B, rfl, hv, hb⟩
  have HB := Lib.hid hb
  have HV1 := Lib.hid hv
  clear hv hb
  go_wp2_with fail
  refine (Hor.out B _ _ HB.out HV1.out).mono ?_
  intro e w2 hg
  have hg2 := hg.congr (g := addB f i) (M := max n (i / 64 + 1)) (fun j hj => by have h1 := Hs0.out j; have h2 := one_sup i j; simp [h1 (by omega), h2 (by omega)]) (addB_sup Hs0.out (by omega) (by omega)) (addB_or f i)
  clear hg
  obtain ⟨A', c', rfl, h1, h2, h3⟩ := hg2
  go_wp2
  go_ret2
  exact ⟨A', c', rfl, h1, own_base h2 HB.out.size, HB.out.trans (h3.mono HB.out.size)⟩

theorem andNot_bit (f : Nat → Bool) (i : Nat) : bits .andNot .u64 (pw f (i / 64) : Int) (IntKind.u64.wrap (2 ^ (i % 64))) = ((pw (delB f i) (i / 64) : Nat) : Int) := by
  rw [one_word, andNot_word]
  congr 2

/-- a bit not set, told for whole numbers -/
def delI (f : Nat → Bool) (i : Int) : Nat → Bool := if 0 ≤ i then delB f i.toNat else f
theorem delI_nat (f : Nat → Bool) (k : Nat) : delI f (k : Int) = delB f k := by simp [delI]
theorem delI_neg (f : Nat → Bool) (i : Int) (h : i < 0) : delI f i = f := by
  have : ¬ 0 ≤ i := by omega
  simp [delI, this]
theorem delI_sup {f : Nat → Bool} {n : Nat} (h : Sup f n) (i : Int) : Sup (delI f i) n := by
  unfold delI
  split
  · exact delB_sup h _
  · exact h

theorem clear_any (f : Nat → Bool) (n : Nat) (A : Option Addr) (c : Nat) (i : Int) (hi : i ≤ 9223372036854775807) (w : World) (h : Vec w A n c f) :
    Calls Tryd.prog 26 #[.slice A n c, .int .i64 i] w (GaveV (delI f i) n w) := by
  have hsup := Lib.hid h.sup
  have Htr := Lib.hid (trim_any f n A c w h)
  clear h
  have htop := top_le f n
  obtain ⟨m, hm⟩ : ∃ m, m = top f n := ⟨_, rfl⟩
  have Hm := Lib.hid hm
  have Hst := Lib.hid (top_sup hsup.out)
  unfold GaveV at Htr
  rw [← hm] at Htr htop Hst
  clear hm
  by_cases h0 : 0 ≤ i
  · obtain ⟨k, rfl⟩ : ∃ k : Nat, i = (k : Int) := ⟨i.toNat, by omega⟩
    rw [delI_nat]
    have hd : decide (0 ≤ (k : Int)) = true := by simp
    by_cases hk : k / 64 < m
    · have hd2 : decide (k / 64 < m) = true := by simpa using hk
      have hw := andNot_bit f k
      go_enter Tryd.func26, Tryd.ntmps26
      go_wp2_with fail
      refine Htr.out.mono ?_
      rintro e w1 ⟨B, d, rfl, hv, hown, hb⟩
      obtain ⟨g, c2, e2, hgb, hgs⟩ := own_some hown (by omega)
      simp only [Value.slice.injEq] at e2
      obtain ⟨rfl, _, rfl⟩ := e2
      have hcell := hown.cellAt (k / 64) (by omega)
      rw [vw_cell _ _ _ hk] at hcell
      have hfz := hown.frozenAt (k / 64)
      obtain ⟨hown2, hgr2⟩ := hown.stored (k / 64) (.int .u64 ((pw (delB f k) (k / 64) : Nat) : Int))
      rw [u64s_set, vw_del] at hown2
      have HB2 := Lib.hid (below_byGrown hb hgr2 hb.size hgb)
      obtain ⟨_, A', c', e', hrd⟩ := own_rd hown2
      simp only [Value.slice.injEq] at e'
      obtain ⟨rfl, _, rfl⟩ := e'
      have HV2 := Lib.hid (Vec.mk hrd hv.cap (delB_sup Hst.out k) hv.few)
      clear hrd hown2 hgr2 hown hv hb
      go_wp2_with fail
      refine (trim_any _ _ _ _ _ HV2.out).mono ?_
      intro e w3 hg
      have hg2 := hg.congr (g := delB f k) (M := n) (delB_sup Hst.out k) (delB_sup hsup.out k) (fun _ => rfl)
      clear hg
      obtain ⟨A', c', rfl, h1, h2, h3⟩ := hg2
      go_wp2
      go_ret
      exact ⟨A', c', rfl, h1, own_base h2 HB2.out.size, HB2.out.trans (h3.mono HB2.out.size)⟩
    · have hd2 : decide (k / 64 < m) = false := by simpa using hk
      go_enter Tryd.func26, Tryd.ntmps26
      go_wp2_with fail
      refine Htr.out.mono ?_
      rintro e w1 ⟨B, d, rfl, hv, hown, hb⟩
      have HV2 := Lib.hid hv
      have HB2 := Lib.hid hb
      clear hv hb hown
      go_wp2_with fail
      refine (trim_any _ _ _ _ _ HV2.out).mono ?_
      intro e w3 hg
      have hg2 := hg.congr (g := delB f k) (M := n) Hst.out (delB_sup hsup.out k) (fun i => (delB_no Hst.out (by omega) i).symm)
      clear hg
      obtain ⟨A', c', rfl, h1, h2, h3⟩ := hg2
      go_wp2
      go_ret
      exact ⟨A', c', rfl, h1, own_base h2 HB2.out.size, HB2.out.trans (h3.mono HB2.out.size)⟩
  · rw [delI_neg f i (by omega)]
    have hd : decide (0 ≤ i) = false := by simpa using h0
    go_enter Tryd.func26, Tryd.ntmps26
    go_wp2_with fail
    refine Htr.out.mono ?_
    rintro e w1 ⟨B, d, rfl, hv, hown, hb⟩
    have HV2 := Lib.hid hv
    have HB2 := Lib.hid hb
    clear hv hb hown
    go_wp2_with fail
    refine (trim_any _ _ _ _ _ HV2.out).mono ?_
    intro e w3 hg
    have hg2 := hg.congr (g := f) (M := n) Hst.out hsup.out (fun _ => rfl)
    clear hg
    obtain ⟨A', c', rfl, h1, h2, h3⟩ := hg2
    go_wp2
    go_ret
    exact ⟨A', c', rfl, h1, own_base h2 HB2.out.size, HB2.out.trans (h3.mono HB2.out.size)⟩

theorem ones_pw (f : Nat → Bool) (k : Nat) (w : World) :
    Calls Tryd.prog 49 #[.int .u64 (pw f k : Nat)] w fun e w' => e = .returned (.int .i64 (popOf (fun j => f (64 * k + j)) 64 : Nat)) ∧ w = w' := ones_bitsOf _ w
theorem count_any (f : Nat → Bool) (n : Nat) (A : Option Addr) (c : Nat) (w : World) (h : Vec w A n c f) :
    Calls Tryd.prog 37 #[.slice A n c] w fun e w' => e = .returned (.int .i64 (popOf f (64 * n) : Nat)) ∧ w = w' := by
  have HV := Lib.hid h
  have hfew := h.few
  unfold many at hfew
  clear h
  go_enter Tryd.func37, Tryd.ntmps37
  go_wp2
  go_loop [2, 4, 7] (fun s _ i => ∃ k : Nat, k ≤ n ∧ i = .int .i64 k ∧ s = .int .i64 (popOf f (64 * k) : Nat)) (fun _ _ i => n - (intOf i).toNat)
  case atStart => exact ⟨0, Nat.zero_le _, rfl, rfl⟩
  case round =>
    obtain ⟨k, hk, rfl, rfl⟩ := hrel
    by_cases hlt : k < n
    · obtain ⟨b, o, rfl, _, hc⟩ := HV.out.rd.at_ (vw_cell f n k hlt)
      have hadd := Lib.hid (popOf_add f (64 * k) 64)
      have hl1 := popOf_le f (64 * k)
      have hl2 := popOf_le (fun j => f (64 * k + j)) 64
      have Hones := Lib.hid (fun W => ones_pw f k W)
      generalize popOf (fun j => f (64 * k + j)) 64 = u at *
      generalize popOf f (64 * k) = s at *
      go_wp2_with (go_at_call 49; refine (Hones.out _).mono ?_; rintro e w1 ⟨rfl, rfl⟩)
      go_round
      case rel => exact ⟨k + 1, by omega, by go_num, by rw [show 64 * (k + 1) = 64 * k + 64 from by omega, hadd.out]; go_num⟩
      case measure => simp [intOf]; omega
    · obtain rfl : k = n := by omega
      go_wp2
      go_ret
      exact ⟨rfl, rfl⟩
end Go.Proofs.YtmedpnlmdncieaaDoor

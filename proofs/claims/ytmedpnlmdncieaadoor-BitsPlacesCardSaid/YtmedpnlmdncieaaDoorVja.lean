/- Walk of the reference riddleref01.Join, how = 1. -/
import Derived.Test.YtmedpnlmdncieaaDoorVy
namespace Go.Proofs.YtmedpnlmdncieaaDoor
open Go.RowKit

set_option maxRecDepth 20000 in
set_option maxHeartbeats 2000000 in
theorem join_and (p q : Nat → Bool) (n m : Nat) (A B : Option Addr) (c d : Nat) (w : World) (hp : Vec w A n c p) (hq : Vec w B m d q) (hn : n ≤ 10000) (hm : m ≤ 10000) :
    Calls Tryd.prog 24 #[.slice A n c, .slice B m d, .int .i64 1] w (GaveV (fun b => p b && q b) (max n m) w) := by
  obtain ⟨i0, hi, hz0, hz1, hz2⟩ := parts_of bool_info
  have HP := Lib.hid hp
  have HQ := Lib.hid hq
  clear hp hq
  have Hsup : Hid (Sup (fun b => p b && q b) (max n m)) := fun j hj => by have h1 := HP.out.sup j; have h2 := HQ.out.sup j; simp [h1 (by omega), h2 (by omega)]
  have Hown : Hid ((w.alloc (.cells #[] 4)).ownsRow w.heap.size 4 1 (.slice (some ⟨w.heap.size, 0, none⟩) 0 0) 0 []) := by
    have := World.ownsRow_lit (base := w.heap.size) (e := 4) (size := 1) w #[] 0 (by simp) (by unfold maxLen; omega) rfl
    exact this
  obtain ⟨N, hN⟩ : ∃ N, N = max n m := ⟨_, rfl⟩
  rw [← hN] at Hsup ⊢
  have hor : (m ≤ n ∧ N = n) ∨ (n < m ∧ N = m) := by omega
  have hN1 : N ≤ 10000 := by omega
  clear hN
  rcases hor with ⟨hc, rfl⟩ | ⟨hc, rfl⟩
  · have hd : decide (N < m) = false := by simpa using hc
    go_enter Tryd.func24, Tryd.ntmps24
    go_wp2
    go_loopw [8, 9, 10, 11] (fun out i _ _ wr => ∃ k : Nat, k ≤ 64 * N ∧ i = .int .i64 k ∧ wr.ownsRow w.heap.size 4 1 out k (bls (fun b => p b && q b) k) ∧ Below w.heap.size w wr) (fun _ i _ _ _ => 64 * N - (intOf i).toNat)
    case atStart => exact ⟨0, Nat.zero_le _, rfl, Hown.out, (Below.refl _ _).alloc (Nat.le_refl _) _⟩
    case round =>
      clear Hown
      obtain ⟨k, hk, rfl, hown, hbel⟩ := hrel
      by_cases hlt : k < 64 * N
      · have HP2 := Lib.hid (HP.out.below hbel)
        have HQ2 := Lib.hid (HQ.out.below hbel)
        have Hs := Lib.hid (bls_succ (fun b => p b && q b) k)
        have HOW := Lib.hid hown
        have HB := Lib.hid hbel
        clear hown hbel
        go_wp2_with fail
        refine (rget_nat p _ A c k (by omega) _ _ HP2.out.rd HP2.out.sup).mono ?_
        rintro e w1 ⟨rfl, rfl⟩
        go_wp2_with fail
        refine (rget_nat q _ B d k (by omega) _ _ HQ2.out.rd HQ2.out.sup).mono ?_
        rintro e w1 ⟨rfl, rfl⟩
        generalize p k = x at *
        generalize q k = y at *
        cases x <;> cases y
        all_goals
          simp at Hs
          go_wp2_with (at_builtin; refine wpList_append_new HOW.out [_] hi hz0 hz1 hz2 rfl (by decide) _ Tryd.underlying47 rfl _ _ rfl rfl rfl rfl (fun u hu => by simp at hu; subst hu; rfl) (by unfold maxLen; omega) (by omega) HB.out.size ?_)
          intro v' w2 hown2 hgr2
          have HB2 := Lib.hid (below_own HB.out hgr2 HOW.out (Nat.le_refl _) HB.out.size)
          have HO2 : Hid (w2.ownsRow w.heap.size 4 1 v' (k + 1) (bls (fun b => p b && q b) (k + 1))) := by
            show w2.ownsRow _ _ _ _ _ _
            rw [Hs.out]
            exact hown2
          clear hown2 hgr2 HOW HB
          go_wp2
          go_roundw
          case rel => first | exact ⟨k + 1, by omega, by go_num, HO2.out, HB2.out⟩ | ((repeat apply Exists.intro); refine ⟨?_, rfl⟩; exact ⟨k + 1, by omega, by go_num, HO2.out, HB2.out⟩)
          case measure => simp [intOf]; omega
      · obtain rfl : k = 64 * N := by omega
        obtain ⟨A', c', e', hrd⟩ := (own_rd hown).2
        subst e'
        have HR := Lib.hid hrd
        have HB := Lib.hid hbel
        clear hrd hown hbel
        go_wp2_with fail
        refine (from_any (fun b => p b && q b) (64 * N) A' c' (by omega) _ HR.out).mono ?_
        intro e w2 hg
        have hg2 := hg.congr (g := (fun b => p b && q b)) (M := N) (cutAt_sup _ _) Hsup.out (cutAt_all Hsup.out (Nat.le_refl _))
        clear hg
        obtain ⟨A', c', rfl, h1, h2, h3⟩ := hg2
        go_wp2
        go_ret
        exact ⟨A', c', rfl, h1, own_base h2 HB.out.size, HB.out.trans (h3.mono HB.out.size)⟩
  · have hd : decide (n < N) = true := by simpa using hc
    go_enter Tryd.func24, Tryd.ntmps24
    go_wp2
    go_loopw [8, 9, 10, 11] (fun out i _ _ wr => ∃ k : Nat, k ≤ 64 * N ∧ i = .int .i64 k ∧ wr.ownsRow w.heap.size 4 1 out k (bls (fun b => p b && q b) k) ∧ Below w.heap.size w wr) (fun _ i _ _ _ => 64 * N - (intOf i).toNat)
    case atStart => exact ⟨0, Nat.zero_le _, rfl, Hown.out, (Below.refl _ _).alloc (Nat.le_refl _) _⟩
    case round =>
      clear Hown
      obtain ⟨k, hk, rfl, hown, hbel⟩ := hrel
      by_cases hlt : k < 64 * N
      · have HP2 := Lib.hid (HP.out.below hbel)
        have HQ2 := Lib.hid (HQ.out.below hbel)
        have Hs := Lib.hid (bls_succ (fun b => p b && q b) k)
        have HOW := Lib.hid hown
        have HB := Lib.hid hbel
        clear hown hbel
        go_wp2_with fail
        refine (rget_nat p _ A c k (by omega) _ _ HP2.out.rd HP2.out.sup).mono ?_
        rintro e w1 ⟨rfl, rfl⟩
        go_wp2_with fail
        refine (rget_nat q _ B d k (by omega) _ _ HQ2.out.rd HQ2.out.sup).mono ?_
        rintro e w1 ⟨rfl, rfl⟩
        generalize p k = x at *
        generalize q k = y at *
        cases x <;> cases y
        all_goals
          simp at Hs
          go_wp2_with (at_builtin; refine wpList_append_new HOW.out [_] hi hz0 hz1 hz2 rfl (by decide) _ Tryd.underlying47 rfl _ _ rfl rfl rfl rfl (fun u hu => by simp at hu; subst hu; rfl) (by unfold maxLen; omega) (by omega) HB.out.size ?_)
          intro v' w2 hown2 hgr2
          have HB2 := Lib.hid (below_own HB.out hgr2 HOW.out (Nat.le_refl _) HB.out.size)
          have HO2 : Hid (w2.ownsRow w.heap.size 4 1 v' (k + 1) (bls (fun b => p b && q b) (k + 1))) := by
            show w2.ownsRow _ _ _ _ _ _
            rw [Hs.out]
            exact hown2
          clear hown2 hgr2 HOW HB
          go_wp2
          go_roundw
          case rel => first | exact ⟨k + 1, by omega, by go_num, HO2.out, HB2.out⟩ | ((repeat apply Exists.intro); refine ⟨?_, rfl⟩; exact ⟨k + 1, by omega, by go_num, HO2.out, HB2.out⟩)
          case measure => simp [intOf]; omega
      · obtain rfl : k = 64 * N := by omega
        obtain ⟨A', c', e', hrd⟩ := (own_rd hown).2
        subst e'
        have HR := Lib.hid hrd
        have HB := Lib.hid hbel
        clear hrd hown hbel
        go_wp2_with fail
        refine (from_any (fun b => p b && q b) (64 * N) A' c' (by omega) _ HR.out).mono ?_
        intro e w2 hg
        have hg2 := hg.congr (g := (fun b => p b && q b)) (M := N) (cutAt_sup _ _) Hsup.out (cutAt_all Hsup.out (Nat.le_refl _))
        clear hg
        obtain ⟨A', c', rfl, h1, h2, h3⟩ := hg2
        go_wp2
        go_ret
        exact ⟨A', c', rfl, h1, own_base h2 HB.out.size, HB.out.trans (h3.mono HB.out.size)⟩
end Go.Proofs.YtmedpnlmdncieaaDoor

/- Walks of the references riddleref01.Flags and From. -/
import Derived.Test.YtmedpnlmdncieaaDoorVu
namespace Go.Proofs.YtmedpnlmdncieaaDoor
open Go.RowKit

/-- flags as values -/
def bls (f : Nat → Bool) (n : Nat) : List Value := (List.range n).map fun i => Value.bool (f i)
theorem bls_length (f : Nat → Bool) (n : Nat) : (bls f n).length = n := by simp [bls]
theorem bls_get (f : Nat → Bool) (n k : Nat) (h : k < n) : (bls f n)[k]? = some (.bool (f k)) := by simp [bls, h]
theorem bls_succ (f : Nat → Bool) (n : Nat) : bls f (n + 1) = bls f n ++ [.bool (f n)] := by simp [bls, List.range_succ]
theorem bls_congr {f g : Nat → Bool} {n : Nat} (h : ∀ i, i < n → f i = g i) : bls f n = bls g n := by
  unfold bls
  apply List.map_congr_left
  intro i hi
  rw [h i (List.mem_range.1 hi)]
theorem bls_set (f : Nat → Bool) (n k : Nat) (b : Bool) : (bls f n).set k (.bool b) = bls (fun x => if x = k then b else f x) n := by
  apply List.ext_getElem?
  intro j
  by_cases hj : j < n
  · rw [List.getElem?_set, bls_length, bls_get _ _ _ hj, bls_get _ _ _ hj]
    by_cases e : k = j
    · subst e
      simp [hj]
    · have : ¬ j = k := fun e' => e e'.symm
      rw [if_neg e, if_neg this]
  · rw [List.getElem?_eq_none (by simp [bls_length]; omega), List.getElem?_eq_none (by rw [bls_length]; omega)]

/-- a call gave these flags in a row of its own -/
def GaveB (f : Nat → Bool) (m : Nat) (w : World) (e : Ending) (w' : World) : Prop :=
  ∃ A c, e = .returned (.slice A m c) ∧ w'.ownsRow w.heap.size 4 1 (.slice A m c) m (bls f m) ∧ Below w.heap.size w w'

set_option maxHeartbeats 1000000 in
theorem flags_any (f : Nat → Bool) (n : Nat) (A : Option Addr) (c : Nat) (m : Nat) (hm : m ≤ 1000000) (w : World) (h : Vec w A n c f) :
    Calls Tryd.prog 40 #[.slice A n c, .int .i64 (m : Int)] w (GaveB f m w) := by
  obtain ⟨i0, hi, hz0, hz1, hz2⟩ := parts_of bool_info
  have HV := Lib.hid h
  clear h
  have Hown : Hid ((w.alloc (.cells #[] 4)).ownsRow w.heap.size 4 1 (.slice (some ⟨w.heap.size, 0, none⟩) 0 0) 0 []) := by
    have := World.ownsRow_lit (base := w.heap.size) (e := 4) (size := 1) w #[] 0 (by simp) (by unfold maxLen; omega) rfl
    exact this
  go_enter Tryd.func40, Tryd.ntmps40
  go_wp2
  go_loopw [5, 6] (fun out i wr => ∃ k : Nat, k ≤ m ∧ i = .int .i64 k ∧ wr.ownsRow w.heap.size 4 1 out k (bls f k) ∧ Below w.heap.size w wr) (fun _ i _ => m - (intOf i).toNat)
  case atStart => exact ⟨0, Nat.zero_le _, rfl, Hown.out, (Below.refl _ _).alloc (Nat.le_refl _) _⟩
  case round =>
    clear Hown
    obtain ⟨k, hk, rfl, hown, hbel⟩ := hrel
    by_cases hlt : k < m
    · have HV2 := Lib.hid (HV.out.below hbel)
      have Hs := Lib.hid (bls_succ f k)
      go_wp2_with fail
      refine (rget_nat f n A c k (by omega) _ _ HV2.out.rd HV2.out.sup).mono ?_
      rintro e w1 ⟨rfl, rfl⟩
      generalize f k = x at *
      go_wp2_with (at_builtin; refine wpList_append_new hown [.bool x] hi hz0 hz1 hz2 rfl (by decide) _ Tryd.underlying47 rfl _ _ rfl rfl rfl rfl ?c2 ?c3 ?c4 ?c5 ?_)
      case c2 => intro u hu; simp at hu; subst hu; rfl
      case c3 => unfold maxLen; omega
      case c4 => omega
      case c5 => exact hbel.size
      intro v' w2 hown2 hgr2
      have HB2 := Lib.hid (below_own hbel hgr2 hown (Nat.le_refl _) hbel.size)
      have HO2 : Hid (w2.ownsRow w.heap.size 4 1 v' (k + 1) (bls f (k + 1))) := by
        show w2.ownsRow _ _ _ _ _ _
        rw [Hs.out]
        exact hown2
      clear hown2 hgr2 hown hbel
      go_wp2
      go_roundw
      case rel => exact ⟨k + 1, by omega, by go_num, HO2.out, HB2.out⟩
      case measure => simp [intOf]; omega
    · obtain rfl : k = m := by omega
      obtain ⟨A', c', rfl⟩ := own_shape hown
      go_wp2
      go_ret
      exact ⟨_, _, rfl, hown, hbel⟩

/-- the length of a slice -/
def lenOf : Value → Nat
  | .slice _ n _ => n
  | _ => 0

set_option maxHeartbeats 2000000 in
theorem from_any (f : Nat → Bool) (m : Nat) (A : Option Addr) (c : Nat) (hm : m ≤ 1000000) (w : World) (h : Rd w w.heap.size A (bls f m)) :
    Calls Tryd.prog 41 #[.slice A m c] w (GaveV (cutAt f m) ((m + 63) / 64) w) := by
  obtain ⟨i0, hi, hz0, hz1, hz2⟩ := word_parts
  have HR := Lib.hid h
  clear h
  have Hown : Hid ((w.alloc (.cells #[] 45)).ownsRow w.heap.size 45 1 (.slice (some ⟨w.heap.size, 0, none⟩) 0 0) 0 []) := by
    have := World.ownsRow_lit (base := w.heap.size) (e := 45) (size := 1) w #[] 0 (by simp) (by unfold maxLen; omega) rfl
    exact this
  go_enter Tryd.func41, Tryd.ntmps41
  go_wp2
  go_loopw [3, 4] (fun out i wr => ∃ k t : Nat, k ≤ m ∧ i = .int .i64 k ∧ Canon (cutAt f k) t ∧ t ≤ (k + 63) / 64 ∧ wr.ownsRow w.heap.size 45 1 out t (u64s (vw (cutAt f k) t)) ∧ Below w.heap.size w wr) (fun _ i _ => m - (intOf i).toNat)
  case atStart => exact ⟨0, 0, Nat.zero_le _, rfl, cutAt_none f, by omega, Hown.out, (Below.refl _ _).alloc (Nat.le_refl _) _⟩
  case round =>
    clear Hown
    obtain ⟨k, t, hk, rfl, hcan, ht, hown, hbel⟩ := hrel
    by_cases hlt : k < m
    · obtain ⟨b, o, rfl, _, hc⟩ := (HR.out.below hbel (Nat.le_refl _)).at_ (bls_get f m k hlt)
      cases hfk : f k
      · have HE := Lib.hid (cutAt_no f k hfk)
        rw [hfk] at hc
        have HC := Lib.hid hcan
        clear hfk hcan
        go_wp2
        go_roundw
        case rel => exact ⟨k + 1, t, by omega, by go_num, by rw [← HE.out]; exact HC.out, by omega, by rw [← HE.out]; exact hown, hbel⟩
        case measure => simp [intOf]; omega
      · have HE := Lib.hid (cutAt_yes f k hfk)
        have HC1 := Lib.hid (cutAt_put f k hfk)
        have HC := Lib.hid hcan
        have hor := or_bit (cutAt f k) k
        rw [HE.out] at hor
        have HS := Lib.hid (vw_set (cutAt f k) k (k / 64 + 1))
        rw [HE.out] at HS
        rw [hfk] at hc
        obtain ⟨q, hq⟩ : ∃ q, q = k / 64 := ⟨_, rfl⟩
        rw [← hq] at HC1 hor HS
        have hqi : (k : Int) / 64 = (q : Int) := by omega
        have ht2 : t ≤ q + 1 := by omega
        have hq2 : q ≤ 1000000 := by omega
        have Hq := Lib.hid hq
        clear hfk hcan hq HE
        obtain ⟨wo, hwo⟩ : ∃ wo : World, wo = wr := ⟨_, rfl⟩
        subst hwo
        go_wp2
        go_loopw [3] (fun out wi => ∃ s : Nat, t ≤ s ∧ s ≤ q + 1 ∧ wi.ownsRow w.heap.size 45 1 out s (u64s (vw (cutAt f k) s)) ∧ Below w.heap.size w wi) (fun out _ => q + 1 - lenOf out)
        case atStart => exact ⟨t, Nat.le_refl _, ht2, hown, hbel⟩
        case round =>
          clear hown hbel hc
          obtain ⟨s, hs, hs2, hown, hbel⟩ := hrel
          obtain ⟨A', c', rfl⟩ := own_shape hown
          by_cases hsq : s ≤ q
          · have HM := Lib.hid (vw_more (p := cutAt f k) (m := s) (HC.out.1.mono hs))
            clear hor
            go_wp2_with (at_builtin; refine wpList_append_new hown [.int .u64 0] hi hz0 hz1 hz2 rfl (by decide) _ Tryd.underlying23 rfl _ _ rfl rfl rfl rfl ?c2 ?c3 ?c4 ?c5 ?_)
            case c2 => intro u hu; simp at hu; subst hu; rfl
            case c3 => unfold maxLen; omega
            case c4 => omega
            case c5 => exact hbel.size
            intro v' w2 hown2 hgr2
            have HB2 := Lib.hid (below_own hbel hgr2 hown (Nat.le_refl _) hbel.size)
            have HO2 : Hid (w2.ownsRow w.heap.size 45 1 v' (s + 1) (u64s (vw (cutAt f k) (s + 1)))) := by
              show w2.ownsRow _ _ _ _ _ _
              rw [← HM.out, u64s_append]
              exact hown2
            clear hown2 hgr2 hown hbel
            obtain ⟨A2, c2, rfl⟩ := own_shape HO2.out
            go_wp2
            go_roundw
            case rel => exact ⟨s + 1, by omega, by omega, HO2.out, HB2.out⟩
            case measure => simp [lenOf]; omega
          · obtain rfl : s = q + 1 := by omega
            obtain ⟨g, c2, e2, hgb, hgs⟩ := own_some hown (by omega)
            simp only [Value.slice.injEq] at e2
            obtain ⟨rfl, _, rfl⟩ := e2
            have hcell := hown.cellAt q (by omega)
            rw [vw_cell _ _ _ (by omega)] at hcell
            have hfz := hown.frozenAt q
            obtain ⟨hown2, hgr2⟩ := hown.stored q (.int .u64 ((pw (cutAt f (k + 1)) q : Nat) : Int))
            rw [u64s_set, HS.out] at hown2
            have HO2 := Lib.hid hown2
            have HB2 := Lib.hid (below_byGrown hbel hgr2 hbel.size hgb)
            clear hown2 hgr2 hown hbel
            have hk2 : ((k : Int) % 64).toNat = k % 64 := by omega
            go_wp2
            go_roundw
            case rel => exact ⟨k + 1, q + 1, by omega, by go_num, HC1.out, by have := Hq.out; omega, HO2.out, HB2.out⟩
            case measure => simp [intOf]; omega
    · obtain rfl : k = m := by omega
      obtain ⟨A', c', e', hrd⟩ := (own_rd hown).2
      subst e'
      have htop := Lib.hid (hcan.top_eq (cutAt_sup f k))
      have HV := Lib.hid (Vec.mk hrd (own_cap hown) hcan.1 (by unfold many; omega))
      have HO := Lib.hid hown
      have HB := Lib.hid hbel
      clear hrd hown hbel hcan
      go_wp2
      go_ret
      refine ⟨A', c', ?_, ?_, ?_, HB.out⟩
      · rw [htop.out]; rfl
      · rw [htop.out]; exact HV.out
      · rw [htop.out]; exact HO.out
end Go.Proofs.YtmedpnlmdncieaaDoor

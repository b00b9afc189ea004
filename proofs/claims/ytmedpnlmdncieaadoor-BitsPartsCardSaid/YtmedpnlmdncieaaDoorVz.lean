/- Walks of the references riddleref01.List, Of and Join. -/
import Derived.Test.YtmedpnlmdncieaaDoorVy
namespace Go.Proofs.YtmedpnlmdncieaaDoor
open Go.RowKit

theorem posI_yes (f : Nat → Bool) (k : Nat) (h : f k = true) : posI f (k + 1) = posI f k ++ [(k : Int)] := by
  unfold posI
  rw [bytesOf_succ, if_pos h, List.map_append]
  rfl
theorem posI_no (f : Nat → Bool) (k : Nat) (h : f k = false) : posI f (k + 1) = posI f k := by
  unfold posI
  rw [bytesOf_succ, h]
  simp

set_option maxHeartbeats 1000000 in
theorem rlist_any (f : Nat → Bool) (n : Nat) (A : Option Addr) (c : Nat) (w : World) (h : Vec w A n c f) (hn : n ≤ 10000) :
    Calls Tryd.prog 36 #[.slice A n c] w (GaveI (posI f (64 * n)) w) := by
  obtain ⟨i0, hi, hz0, hz1, hz2⟩ := parts_of int_info
  have HV := Lib.hid h
  clear h
  have Hown : Hid ((w.alloc (.cells #[] 3)).ownsRow w.heap.size 3 1 (.slice (some ⟨w.heap.size, 0, none⟩) 0 0) 0 []) := by
    have := World.ownsRow_lit (base := w.heap.size) (e := 3) (size := 1) w #[] 0 (by simp) (by unfold maxLen; omega) rfl
    exact this
  go_enter Tryd.func36, Tryd.ntmps36
  go_wp2
  go_loopw [3, 4] (fun out i wr => ∃ k : Nat, k ≤ 64 * n ∧ i = .int .i64 k ∧ wr.ownsRow w.heap.size 3 1 out (posI f k).length (i64s (posI f k)) ∧ Below w.heap.size w wr) (fun _ i _ => 64 * n - (intOf i).toNat)
  case atStart => exact ⟨0, Nat.zero_le _, rfl, Hown.out, (Below.refl _ _).alloc (Nat.le_refl _) _⟩
  case round =>
    clear Hown
    obtain ⟨k, hk, rfl, hown, hbel⟩ := hrel
    by_cases hlt : k < 64 * n
    · have HV2 := Lib.hid (HV.out.below hbel)
      have hlen := posI_le f k
      go_wp2_with fail
      refine (rget_nat f n A c k (by omega) _ _ HV2.out.rd HV2.out.sup).mono ?_
      rintro e w1 ⟨rfl, rfl⟩
      cases hfk : f k
      · have HE := Lib.hid (posI_no f k hfk)
        clear hfk
        go_wp2
        go_roundw
        case rel => exact ⟨k + 1, by omega, by go_num, by rw [HE.out]; exact hown, hbel⟩
        case measure => simp [intOf]; omega
      · have HE := Lib.hid (posI_yes f k hfk)
        clear hfk
        go_wp2_with (at_builtin; refine wpList_append_new hown [.int .i64 k] hi hz0 hz1 hz2 rfl (by decide) _ Tryd.underlying36 rfl _ _ rfl rfl rfl rfl ?c2 ?c3 ?c4 ?c5 ?_)
        case c2 => intro u hu; simp at hu; subst hu; rfl
        case c3 => unfold maxLen; omega
        case c4 => omega
        case c5 => exact hbel.size
        intro v' w2 hown2 hgr2
        have HB2 := Lib.hid (below_own hbel hgr2 hown (Nat.le_refl _) hbel.size)
        have HO2 : Hid (w2.ownsRow w.heap.size 3 1 v' (posI f (k + 1)).length (i64s (posI f (k + 1)))) := by
          show w2.ownsRow _ _ _ _ _ _
          rw [HE.out, i64s_append, List.length_append]
          exact hown2
        clear hown2 hgr2 hown hbel
        go_wp2
        go_roundw
        case rel => exact ⟨k + 1, by omega, by go_num, HO2.out, HB2.out⟩
        case measure => simp [intOf]; omega
    · obtain rfl : k = 64 * n := by omega
      go_wp2
      go_ret
      exact ⟨_, rfl, hown, hbel⟩

/-- the reference made a vector of places, or refused -/
def RMadeOf (L : List Int) (j : Nat) (w : World) (e : Ending) (w' : World) : Prop :=
  (j = L.length ∧ GaveVE (setI L) 1024 w e w') ∨ (j < L.length ∧ (∃ A c, e = .returned (.tuple #[.slice A 0 c, .int .i64 2])) ∧ Below w.heap.size w w')

set_option maxHeartbeats 1000000 in
theorem rof_any (L : List Int) (j : Nat) (hj : j ≤ L.length) (hok : ∀ i (h : i < L.length), i < j → okPlace L[i]) (hbad : ∀ h : j < L.length, ¬ okPlace L[j]) (hlen : L.length ≤ 1000000) (A : Option Addr) (c : Nat) (w : World) (h : Rd w w.heap.size A (i64s L)) :
    Calls Tryd.prog 38 #[.slice A L.length c] w (RMadeOf L j w) := by
  have HR := Lib.hid h
  have Hok := Lib.hid hok
  have Hbad := Lib.hid hbad
  clear h hok hbad
  obtain ⟨n, hn⟩ : ∃ n, n = L.length := ⟨_, rfl⟩
  have Hsup : Hid (∀ k, k ≤ j → Sup (setI (L.take k)) 1024) := fun k hk => setI_sup _ fun x hx => by
    obtain ⟨i, hi, rfl⟩ := List.getElem_of_mem hx
    rw [List.length_take] at hi
    rw [List.getElem_take]
    exact Hok.out i (by omega) (by omega)
  rw [← hn] at hj hlen ⊢
  have Hn := Lib.hid hn
  clear hn
  have Hown : Hid ((w.alloc (.cells #[] 45)).ownsRow w.heap.size 45 1 (.slice (some ⟨w.heap.size, 0, none⟩) 0 0) 0 []) := by
    have := World.ownsRow_lit (base := w.heap.size) (e := 45) (size := 1) w #[] 0 (by simp) (by unfold maxLen; omega) rfl
    exact this
  go_enter Tryd.func38, Tryd.ntmps38
  go_wp2
  go_loopw [4, 5] (fun out i wr => ∃ k : Nat, k ≤ j ∧ i = .int .i64 k ∧ (∃ B d, out = .slice B (top (setI (L.take k)) 1024) d ∧ Vec wr B (top (setI (L.take k)) 1024) d (setI (L.take k)) ∧ wr.ownsRow w.heap.size 45 1 (.slice B (top (setI (L.take k)) 1024) d) (top (setI (L.take k)) 1024) (u64s (vw (setI (L.take k)) (top (setI (L.take k)) 1024)))) ∧ Below w.heap.size w wr) (fun _ i _ => n - (intOf i).toNat)
  case atStart =>
    have hz : top (setI (L.take 0)) 1024 = 0 := top_zero (fun i => rfl) _
    refine ⟨0, Nat.zero_le _, rfl, ⟨some ⟨w.heap.size, 0, none⟩, 0, by rw [hz], ?_, ?_⟩, (Below.refl _ _).alloc (Nat.le_refl _) _⟩
    · rw [hz]
      exact ⟨Rd.nil _ _ _, Nat.le_refl _, fun _ _ => rfl, by unfold many; omega⟩
    · rw [hz]
      exact Hown.out
  case round =>
    clear Hown
    obtain ⟨k, hk, rfl, ⟨B, d, rfl, hv, hown⟩, hbel⟩ := hrel
    by_cases hlt : k < n
    · have hkl : k < L.length := by have := Hn.out; omega
      obtain ⟨b, o, rfl, _, hc⟩ := (HR.out.below hbel (Nat.le_refl _)).at_ (i64s_get L k hkl)
      by_cases hkj : k < j
      · obtain ⟨h0, h1⟩ := Hok.out k hkl hkj
        obtain ⟨x, hx⟩ : ∃ x : Nat, L[k] = (x : Int) := ⟨L[k].toNat, by omega⟩
        rw [hx] at hc h0 h1
        have HST := Lib.hid (setI_take L k x hkl hx)
        have htl : top (setI (L.take k)) 1024 ≤ 1024 := top_le _ _
        have HS0 := Lib.hid (top_sup (Hsup.out k hk))
        have HS1 := Lib.hid (Hsup.out (k + 1) (by omega))
        have HV := Lib.hid hv
        have HB := Lib.hid hbel
        generalize top (setI (L.take k)) 1024 = t at *
        clear hv hown hbel hx
        go_wp2_with fail
        refine (rset_any _ t B d x (by omega) _ HV.out (by omega)).mono ?_
        intro e w2 hg
        have hg2 := hg.congr (g := setI (L.take (k + 1))) (M := 1024) (addB_sup HS0.out (by omega) (by omega)) HS1.out (fun i => by rw [HST.out])
        clear hg
        obtain ⟨A', c', rfl, h2, h3, h4⟩ := hg2
        have HV2 := Lib.hid h2
        have HO2 := Lib.hid (own_base h3 HB.out.size)
        have HB2 := Lib.hid (HB.out.trans (h4.mono HB.out.size))
        clear h2 h3 h4
        go_wp2
        go_roundw
        case rel => exact ⟨k + 1, by omega, by go_num, ⟨A', c', rfl, HV2.out, HO2.out⟩, HB2.out⟩
        case measure => simp [intOf]; omega
      · obtain rfl : k = j := by omega
        have hb := Hbad.out hkl
        generalize L[k] = x at *
        have HB := Lib.hid (hbel.alloc hbel.size (.cells #[] 45))
        generalize top (setI (L.take k)) 1024 = t at *
        clear hv hown hbel
        by_cases hx0 : x < 0
        · clear hb
          go_wp2
          go_ret2
          exact .inr ⟨hkl, ⟨_, _, rfl⟩, HB.out⟩
        · have hx1 : 65535 < x := by unfold okPlace at hb; omega
          clear hb
          go_wp2
          go_ret2
          exact .inr ⟨hkl, ⟨_, _, rfl⟩, HB.out⟩
    · obtain rfl : k = n := by omega
      obtain rfl : j = k := by omega
      have hl : L.take j = L := by rw [Hn.out]; exact List.take_length
      rw [hl] at hv hown ⊢
      have HV2 := Lib.hid hv
      have HO2 := Lib.hid hown
      have HB2 := Lib.hid hbel
      clear hv hown hbel hl
      go_wp2
      go_ret2
      exact .inl ⟨Hn.out, _, _, rfl, HV2.out, HO2.out, HB2.out⟩
end Go.Proofs.YtmedpnlmdncieaaDoor

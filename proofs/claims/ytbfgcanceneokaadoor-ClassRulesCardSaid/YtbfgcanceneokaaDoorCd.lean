/- Walk of class.Fold: a class with the other case of each letter. -/
import Derived.Test.YtbfgcanceneokaaDoorCc
namespace Go.Proofs.YtbfgcanceneokaaDoor
open Go.RowKit

/-- a class stored into four cells, word by word -/
theorem blk_fill {w : World} {g : Nat} {t : TypeId} {p : Nat → Bool} {c0 c1 c2 c3 : Value} (h : Blk w g t #[c0, c1, c2, c3]) :
    Blk ((((w.setCell ⟨g, 0, none⟩ (.int .u64 (pw p 0 : Nat))).setCell ⟨g, 1, none⟩ (.int .u64 (pw p 1 : Nat))).setCell ⟨g, 2, none⟩ (.int .u64 (pw p 2 : Nat))).setCell ⟨g, 3, none⟩ (.int .u64 (pw p 3 : Nat))) g t (ccells p) := by
  have := (((h.store 0 (.int .u64 (pw p 0 : Nat))).store 1 (.int .u64 (pw p 1 : Nat))).store 2 (.int .u64 (pw p 2 : Nat))).store 3 (.int .u64 (pw p 3 : Nat))
  simpa [ccells] using this

theorem bytes_len256 (p : Nat → Bool) : (bytesOf p 256).length ≤ 256 := bytesOf_le p 256

set_option maxHeartbeats 2000000 in
theorem fold_any (p : Nat → Bool) (w : World) (hT : Tab64 w) :
    Calls Tryd.prog 19 #[cval p] w fun e w' => e = .returned (cval (foldOf p)) ∧ Below w.heap.size w w' := by
  have HT := Lib.hid hT
  clear hT
  have hlenL := bytes_len256 p
  obtain ⟨L, hL⟩ : ∃ L, L = bytesOf p 256 := ⟨_, rfl⟩
  have Hbytes := Lib.hid (fun W h => bytes_any p W h)
  have Hend := Lib.hid (ccells_congr (foldUp_all p))
  have Hmem : Hid (∀ b, b ∈ L → b < 256 ∧ p b = true) := fun b hb => bytesOf_mem.1 (hL ▸ hb)
  rw [← hL] at hlenL Hbytes Hend
  clear hL
  obtain ⟨n, hn⟩ : ∃ n, n = L.length := ⟨_, rfl⟩
  rw [← hn] at hlenL
  have Hn := Lib.hid hn
  clear hn
  have Hg0 := Lib.hid (Blk.new w 24 (ccells p))
  go_enter Tryd.func19, Tryd.ntmps19
  go_wp2_with fail
  have hb0 : Below w.heap.size w ((w.alloc (.cells (ccells p) 24)).alloc (.cells #[.int .u64 0, .int .u64 0, .int .u64 0, .int .u64 0] 24)) :=
    ((Below.refl _ _).alloc (Nat.le_refl _) _).alloc (by simp) _
  refine (Hbytes.out _ (tab_below HT.out hb0 (Nat.le_refl _))).mono ?_
  rintro e w1 ⟨v, rfl, hown, hbel⟩
  obtain ⟨hlen, A, cap, rfl, hrd⟩ := own_rd hown
  clear hrd hlen
  rw [← Hn.out] at hown ⊢
  have hblk : Blk w1 w.heap.size 24 (ccells (foldUp p (L.take 0))) := by
    rw [List.take_zero, foldUp_nil]
    exact (Hg0.out.alloc _).below hbel (by simp; omega)
  have hblk2 : Blk w1 (w.heap.size + 1) 24 #[.int .u64 0, .int .u64 0, .int .u64 0, .int .u64 0] := by
    have := Blk.new (w.alloc (.cells (ccells p) 24)) 24 #[.int .u64 0, .int .u64 0, .int .u64 0, .int .u64 0]
    simp only [World.size_alloc] at this
    exact this.below hbel (by simp)
  have hbw : Below w.heap.size w w1 := hb0.trans (hbel.mono (by simp; omega))
  simp only [World.size_alloc] at hown
  clear hb0 hbel
  have Hblk := Lib.hid hblk
  have Hblk2 := Lib.hid hblk2
  clear hblk hblk2
  go_wp2
  go_loopw [8] (fun i wr => ∃ k : Nat, k ≤ n ∧ i = .int .i64 k ∧ Blk wr w.heap.size 24 (ccells (foldUp p (L.take k))) ∧ Blk wr (w.heap.size + 1) 24 #[.int .u64 0, .int .u64 0, .int .u64 0, .int .u64 0] ∧
      wr.ownsRow (w.heap.size + 1 + 1) 5 1 (.slice A n cap) n (u8s L) ∧ Below w.heap.size w wr) (fun i _ => n - (intOf i).toNat)
  case atStart => exact ⟨0, Nat.zero_le _, rfl, Hblk.out, Hblk2.out, hown, hbw⟩
  case round =>
    clear hown hbw Hblk Hblk2
    obtain ⟨k, hk, rfl, hblk, hblk2, hown, hbel⟩ := hrel
    by_cases hlt : k < n
    · have hkl : k < L.length := by have := Hn.out; omega
      obtain ⟨_, A', c', hA, hr⟩ := own_rd hown
      cases hA
      obtain ⟨b, off, rfl, hbB, hcw⟩ := hr.at_ (u8s_get L k hkl)
      have hlk := Hmem.out L[k] (List.getElem_mem hkl)
      have Htake : Hid (L.take (k + 1) = L.take k ++ [L[k]]) := List.take_succ_eq_append_getElem hkl
      generalize L[k] = x at *
      have hx256 := hlk.1
      have Hxp := Lib.hid hlk.2
      clear hlk hr
      have Hput := Lib.hid (fun W y hy h => put_any (foldUp p (L.take k)) y hy w.heap.size 24 W h)
      have Hstep := Lib.hid (foldUp_put p (L.take k) x)
      by_cases hc1 : 97 ≤ x ∧ x ≤ 122
      · have ho : other x = x - 32 := by unfold other; rw [if_neg (by omega), if_pos hc1]
        rw [ho] at Hstep
        obtain ⟨hc2, hc3⟩ := hc1
        have Hp1 := Lib.hid (fun W h => Hput.out W (x - 32) (by omega) h)
        rw [show ((x - 32 : Nat) : Int) = (x : Int) - 32 from by omega] at Hp1
        clear ho Hput
        go_wp2_with (go_at_call 29; refine (Hp1.out _ hblk).mono ?_; rintro e w1 ⟨rfl, hblk1, hgr1⟩)
        go_roundw
        case rel => exact ⟨k + 1, by omega, by go_num, by rw [Htake.out, ← Hstep.out]; exact hblk1, hblk2.grown hgr1 (by simp), own_grown hown hgr1 (by omega), below_byGrown hbel hgr1 hbel.size (Nat.le_refl _)⟩
        case measure => simp [intOf]; omega
      · by_cases hc4 : 65 ≤ x ∧ x ≤ 90
        · have ho : other x = x + 32 := by unfold other; rw [if_pos hc4]
          rw [ho] at Hstep
          obtain ⟨hc2, hc3⟩ := hc4
          have Hp1 := Lib.hid (fun W h => Hput.out W (x + 32) (by omega) h)
          rw [show ((x + 32 : Nat) : Int) = (x : Int) + 32 from by omega] at Hp1
          clear ho Hput hc1
          go_wp2_with (go_at_call 29; refine (Hp1.out _ hblk).mono ?_; rintro e w1 ⟨rfl, hblk1, hgr1⟩)
          go_roundw
          case rel => exact ⟨k + 1, by omega, by go_num, by rw [Htake.out, ← Hstep.out]; exact hblk1, hblk2.grown hgr1 (by simp), own_grown hown hgr1 (by omega), below_byGrown hbel hgr1 hbel.size (Nat.le_refl _)⟩
          case measure => simp [intOf]; omega
        · have ho : other x = x := by unfold other; rw [if_neg hc4, if_neg hc1]
          have Hskip := Lib.hid (foldUp_skip p (L.take k) x ho Hxp.out)
          clear ho Hput Hstep
          have hcases : x < 65 ∨ (90 < x ∧ x < 97) ∨ 122 < x := by omega
          clear hc1 hc4
          rcases hcases with hq | ⟨hq, hq2⟩ | hq
          all_goals
            go_wp2
            go_roundw
            case rel => exact ⟨k + 1, by omega, by go_num, by rw [Htake.out, ← Hskip.out]; exact hblk, hblk2, hown, hbel⟩
            case measure => simp [intOf]; omega
    · have hkn : k = n := by omega
      subst hkn
      have hL2 : L.take k = L := List.take_of_length_le (by have := Hn.out; omega)
      rw [hL2, Hend.out] at hblk
      have h0 := hblk.cell 0
      have h1 := hblk.cell 1
      have h2 := hblk.cell 2
      have h3 := hblk.cell 3
      have e0 := hblk2.cell 0
      have e1 := hblk2.cell 1
      have e2 := hblk2.cell 2
      have e3 := hblk2.cell 3
      have hf := hblk2.free
      simp only [List.getElem?_toArray, List.getElem?_cons_zero, List.getElem?_cons_succ] at h0 h1 h2 h3 e0 e1 e2 e3
      clear hL2
      have Hb := Lib.hid (blk_fill (p := foldOf p) hblk2)
      go_wp2
      exact bodyPost_ret (v := cval (foldOf p)) (results_cell_row Tryd.results19 _ _ _ _ _ _ _ rfl Hb.out Tryd.underlying24 rfl (by kernel_rfl)) rfl
        ⟨rfl, (((hbel.setCell (by simp) _).setCell (by simp) _).setCell (by simp) _).setCell (by simp) _⟩
end Go.Proofs.YtbfgcanceneokaaDoor

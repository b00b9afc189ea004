/- Walks of the reference riddleref02: From, Join, Other, Fold, Bytes. -/
import Derived.Test.YtnkiiphliilegaaDoorSC
import Derived.Test.YtnkiiphliilegaaDoorWs
namespace Go.Proofs.YtnkiiphliilegaaDoor
open Go.RowKit

/-- flags of 256 bytes as a value -/
def bval (f : Nat → Bool) : Value := .agg (bools f 256)
theorem zeroFlags (w : World) : (zeroValue 65).run Tryd.prog w = .ok (bval fun _ => false) w := by kernel_rfl
theorem flags_size : (Tryd.prog.info? 65).map (·.size) = some 256 := by kernel_rfl

theorem flag_walk (f : Nat → Bool) (k g : Nat) (hk : k < 256) (w : World) (h : Blk w g 65 (bools f 256)) : w.cell? ⟨g, k, none⟩ = some (.bool (f k)) := by
  rw [h.cell, bools_get _ _ _ hk]

set_option maxRecDepth 100000 in
set_option maxHeartbeats 2000000 in
theorem from_any (f : Nat → Bool) (w : World) :
    Calls Tryd.prog 32 #[bval f] w fun e w' => e = .returned (cval f) ∧ Below w.heap.size w w' := by
  unfold bval
  have Hf := Lib.hid (Blk.new w 65 (bools f 256))
  generalize hbs : bools f 256 = bs at Hf ⊢
  have Hbs := Lib.hid hbs
  clear hbs
  go_enter Tryd.func32, Tryd.ntmps32
  go_wp2
  go_loopw [4] (fun i wr => ∃ k : Nat, k ≤ 256 ∧ i = .int .i64 k ∧ Blk wr w.heap.size 65 bs ∧ Blk wr (w.heap.size + 1) 24 #[.int .u64 0, .int .u64 0, .int .u64 0, .int .u64 0] ∧
      Blk wr (w.heap.size + 1 + 1) 24 (ccells (cutAt f k)) ∧ Below w.heap.size w wr) (fun i _ => 256 - (intOf i).toNat)
  case atStart =>
    refine ⟨0, Nat.zero_le _, rfl, (Hf.out.alloc _).alloc _, ?_, ?_, (((Below.refl _ _).alloc (Nat.le_refl _) _).alloc (by simp) _).alloc (by simp; omega) _⟩
    · have := (Blk.new (w.alloc (.cells bs 65)) 24 #[.int .u64 0, .int .u64 0, .int .u64 0, .int .u64 0]).alloc (.cells #[.int .u64 0, .int .u64 0, .int .u64 0, .int .u64 0] 24)
      simpa using this
    · have := Blk.new ((w.alloc (.cells bs 65)).alloc (.cells #[.int .u64 0, .int .u64 0, .int .u64 0, .int .u64 0] 24)) 24 (ccells (cutAt f 0))
      simpa [ccells, cutAt_zero] using this
  case round =>
    clear Hf
    obtain ⟨k, hk, rfl, hfl, hres, hblk, hbel⟩ := hrel
    by_cases hlt : k < 256
    · have hc1 : wr.cell? ⟨w.heap.size, k, none⟩ = some (.bool (f k)) := flag_walk f k _ hlt wr (Hbs.out ▸ hfl)
      cases hfk : f k with
      | false =>
        have Hn := Lib.hid (cutAt_no f k hfk)
        rw [hfk] at hc1
        clear hfk
        go_wp2
        go_roundw
        case rel => exact ⟨k + 1, by omega, by go_num, hfl, hres, by rw [← Hn.out]; exact hblk, hbel⟩
        case measure => simp [intOf]; omega
      | true =>
        have Hn := Lib.hid (cutAt_yes f k hfk)
        rw [hfk] at hc1
        clear hfk
        have hc2 := (hblk.cell (k / 64)).trans (ccells_get (cutAt f k) k hlt)
        have hf2 := hblk.free (k / 64)
        have hor := or_bit (cutAt f k) k
        have hst := hblk.store (k / 64) (.int .u64 (pw (addB (cutAt f k) k) (k / 64) : Nat))
        rw [ccells_add _ k hlt] at hst
        have Hst := Lib.hid hst
        clear hst
        go_wp2
        go_roundw
        case rel => exact ⟨k + 1, by omega, by go_num, hfl.far (by simp; omega) _, hres.far (by simp) _, by rw [← Hn.out]; exact Hst.out, hbel.setCell (by simp; omega) _⟩
        case measure => simp [intOf]; omega
    · have hk2 : k = 256 := by omega
      subst hk2
      rw [ccells_congr (cutAt_end f)] at hblk
      have h0 := hblk.cell 0
      have h1 := hblk.cell 1
      have h2 := hblk.cell 2
      have h3 := hblk.cell 3
      have e0 := hres.cell 0
      have e1 := hres.cell 1
      have e2 := hres.cell 2
      have e3 := hres.cell 3
      have hf := hres.free
      simp only [List.getElem?_toArray, List.getElem?_cons_zero, List.getElem?_cons_succ] at h0 h1 h2 h3 e0 e1 e2 e3
      have Hb := Lib.hid (blk_fill (p := f) hres)
      go_wp2
      exact bodyPost_ret (v := cval f) (results_cell_row Tryd.results32 _ _ _ _ _ _ _ rfl Hb.out Tryd.underlying24 rfl (by kernel_rfl)) rfl
        ⟨rfl, (((hbel.setCell (by simp) _).setCell (by simp) _).setCell (by simp) _).setCell (by simp) _⟩
end Go.Proofs.YtnkiiphliilegaaDoor

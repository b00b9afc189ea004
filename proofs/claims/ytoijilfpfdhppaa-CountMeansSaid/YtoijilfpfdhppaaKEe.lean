/- Walk of the ring engine's grow. -/
import Derived.Test.YtoijilfpfdhppaaKEd
namespace Go.Proofs.Ytoijilfpfdhppaa
open Go.RowKit

/-- the moments behind a byte; now: the moments' number behind it -/
def ringGrow (tp : Int) (stays : Bool) (now : Int) : List Int → List Int
  | [] => []
  | m :: M => if now - m ≤ tp then m :: M else if stays then (match M with
    | [] => [m + 1]
    | k :: M' => if m + 1 < k then (m + 1) :: k :: M' else k :: M') else M

theorem ring_ticked {w : World} {g : Nat} {tp : Int} {stays : Bool} {now m : Int} {v : Value} {M : List Int} (h : Blk w g 53 (ringCells tp stays now v)) (hr : RowO w (g + 1) v M) :
    Blk (w.setCell ⟨g, 2, none⟩ (.int .i64 m)) g 53 (ringCells tp stays m v) ∧ RowO (w.setCell ⟨g, 2, none⟩ (.int .i64 m)) (g + 1) v M ∧ Below g w (w.setCell ⟨g, 2, none⟩ (.int .i64 m)) := by
  have h1 := h.store 2 (.int .i64 m)
  rw [ring_set2] at h1
  exact ⟨h1, hr.grown (grownBy_store (World.grownBy.refl w (some g)) 2 _) (Nat.lt_succ_self g), (Below.refl g w).setCell (Nat.le_refl g) _⟩

set_option maxHeartbeats 1000000 in
theorem ring_grow_nil (g : Nat) (tp : Int) (stays : Bool) (now : Int) (hn : 0 ≤ now ∧ now ≤ 90000) (w : World) (h : RingAt w g tp stays now []) :
    Calls Try.prog 52 #[.pointer (some ⟨g, 0, none⟩)] w (Ended (RingNow g tp stays (now + 1) [] w)) := by
  obtain ⟨v, hb, hr⟩ := h
  obtain ⟨A, c, rfl, _, _, _⟩ := id hr
  have c2 : w.cell? ⟨g, 2, none⟩ = some (.int .i64 now) := hb.cell 2
  have f2 := hb.free 2
  obtain ⟨hn1, hn2⟩ := hn
  obtain ⟨hb1, hr1, hB⟩ := ring_ticked (m := now + 1) hb hr
  have d3 : (w.setCell ⟨g, 2, none⟩ (.int .i64 (now + 1))).cell? ⟨g, 3, none⟩ = some (.slice A 0 c) := hb1.cell 3
  have HB1 := Lib.hid hb1
  have HR1 := Lib.hid hr1
  have HB := Lib.hid hB
  have hd : decide ((0 : Int) < (0 : Int)) = false := by decide
  clear hb hr hb1 hr1 hB
  go_enter Try.func52, Try.ntmps52
  go_wp2
  refine wp_loop_rounds 1 ?_
  rw [rounds_succ]
  go_wp2
  go_quiet (fail)
  go_wp2
  go_end0
  exact ⟨⟨_, rfl⟩, ⟨_, HB1.out.drewN _, HR1.out.drewN _⟩, below_drewN HB.out _⟩

set_option maxHeartbeats 1000000 in
theorem ring_grow_keep (g : Nat) (tp : Int) (stays : Bool) (now m : Int) (M : List Int) (hn : 0 ≤ now ∧ now ≤ 90000) (hm : 0 ≤ m ∧ m ≤ 100000) (hk : now + 1 - m ≤ tp) (hl : M.length ≤ 3000) (w : World) (h : RingAt w g tp stays now (m :: M)) :
    Calls Try.prog 52 #[.pointer (some ⟨g, 0, none⟩)] w (Ended (RingNow g tp stays (now + 1) (m :: M) w)) := by
  obtain ⟨v, hb, hr⟩ := h
  obtain ⟨A, c, rfl, _, _, _⟩ := id hr
  have c2 : w.cell? ⟨g, 2, none⟩ = some (.int .i64 now) := hb.cell 2
  have f2 := hb.free 2
  obtain ⟨hn1, hn2⟩ := hn
  obtain ⟨hm1, hm2⟩ := hm
  obtain ⟨hb1, hr1, hB⟩ := ring_ticked (m := now + 1) hb hr
  obtain ⟨b, off, rfl, _, _, _, hcell, _, _, _⟩ := hr1.tail
  simp only [List.length_cons] at hb1 hr1
  have d3 : (w.setCell ⟨g, 2, none⟩ (.int .i64 (now + 1))).cell? ⟨g, 3, none⟩ = some (.slice (some ⟨b, off, none⟩) (M.length + 1) c) := hb1.cell 3
  have d2 : (w.setCell ⟨g, 2, none⟩ (.int .i64 (now + 1))).cell? ⟨g, 2, none⟩ = some (.int .i64 (now + 1)) := hb1.cell 2
  have d0 : (w.setCell ⟨g, 2, none⟩ (.int .i64 (now + 1))).cell? ⟨g, 0, none⟩ = some (.int .i64 tp) := hb1.cell 0
  have HB1 := Lib.hid hb1
  have HR1 := Lib.hid hr1
  have HB := Lib.hid hB
  clear hb hr hb1 hr1 hB
  generalize hw1 : w.setCell ⟨g, 2, none⟩ (.int .i64 (now + 1)) = w1 at *
  have hl1 : decide (0 < M.length + 1) = true := by simp
  have hl2 : (0 : Int) < ((M.length + 1 : Nat) : Int) := by omega
  have hs : IntKind.i64.wrap (now + 1 - m) = now + 1 - m := by rw [IntKind.wrap_i64]; omega
  have hd : decide (tp < now + 1 - m) = false := by simp; omega
  have Hl := Lib.hid hl
  clear hl
  generalize M.length + 1 = n at *
  go_enter Try.func52, Try.ntmps52
  go_wp2
  refine wp_loop_rounds 1 ?_
  rw [rounds_succ]
  go_wp2
  go_quiet (fail)
  go_wp2
  go_end0
  exact ⟨⟨_, rfl⟩, ⟨_, HB1.out.drewN _, HR1.out.drewN _⟩, below_drewN HB.out _⟩
end Go.Proofs.Ytoijilfpfdhppaa

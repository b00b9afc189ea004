/- Walk of the ring engine's grow where the eldest moment falls out. -/
import Derived.Test.YtoijilfpfdhppaaKEe
namespace Go.Proofs.Ytoijilfpfdhppaa
open Go.RowKit

theorem rowO_lt {w : World} {B b off n c : Nat} {M : List Int} (h : RowO w B (.slice (some ⟨b, off, none⟩) n c) M) : b < w.heap.size := by
  obtain ⟨A', c', e, _, _, h3⟩ := h
  simp only [Value.slice.injEq] at e
  obtain ⟨rfl, _, rfl⟩ := e
  rcases h3 with ⟨h3, _⟩ | ⟨b', off', cs, h3, _, h5, _⟩
  · cases h3
  · cases h3
    exact h5.lt

set_option maxHeartbeats 2000000 in
theorem ring_put_one (g : Nat) (tp now m : Int) (hn : 0 ≤ now ∧ now ≤ 90000) (hm : 0 ≤ m ∧ m ≤ 90000) (hgt : tp < now + 1 - m) (hend : now + 1 - (m + 1) ≤ tp) (c : Nat) (A : Option Addr) (hc : c = 1) (w : World) (hb : Blk w g 53 (ringCells tp true now (.slice A 1 c))) (hr : RowO w (g + 1) (.slice A 1 c) [m]) :
    Calls Try.prog 52 #[.pointer (some ⟨g, 0, none⟩)] w (Ended (RingNow g tp true (now + 1) [m + 1] w)) := by
  have c2 : w.cell? ⟨g, 2, none⟩ = some (.int .i64 now) := hb.cell 2
  have f2 := hb.free 2
  obtain ⟨hn1, hn2⟩ := hn
  obtain ⟨hm1, hm2⟩ := hm
  obtain ⟨hb1, hr1, hB⟩ := ring_ticked (m := now + 1) hb hr
  obtain ⟨b, off, rfl, -, hle, hmax, hcell, -, ht0, ht1⟩ := hr1.tail
  have d3 : (w.setCell ⟨g, 2, none⟩ (.int .i64 (now + 1))).cell? ⟨g, 3, none⟩ = some (.slice (some ⟨b, off, none⟩) 1 c) := hb1.cell 3
  have d2 : (w.setCell ⟨g, 2, none⟩ (.int .i64 (now + 1))).cell? ⟨g, 2, none⟩ = some (.int .i64 (now + 1)) := hb1.cell 2
  have d0 : (w.setCell ⟨g, 2, none⟩ (.int .i64 (now + 1))).cell? ⟨g, 0, none⟩ = some (.int .i64 tp) := hb1.cell 0
  have HB1 := Lib.hid hb1
  have HT : Hid (RowO (w.setCell ⟨g, 2, none⟩ (.int .i64 (now + 1))) (g + 1) (.slice (some ⟨b, off, none⟩) 0 0) []) := ht0 hc
  have HB := Lib.hid hB
  clear hb hr hb1 hr1 hB ht0 ht1
  subst hc
  have hs : IntKind.i64.wrap (now + 1 - m) = now + 1 - m := by rw [IntKind.wrap_i64]; omega
  have hd : decide (tp < now + 1 - m) = true := by simp; omega
  have hs3 : IntKind.i64.wrap (now + 1 - (m + 1)) = now + 1 - (m + 1) := by rw [IntKind.wrap_i64]; omega
  have hd3 : decide (tp < now + 1 - (m + 1)) = false := by simp; omega
  generalize hw1 : w.setCell ⟨g, 2, none⟩ (.int .i64 (now + 1)) = w1 at *
  go_enter Try.func52, Try.ntmps52
  go_wp2
  clear hw1 c2 f2
  refine wp_loop_rounds 2 ?_
  rw [rounds_succ]
  go_wp2
  go_quiet (fail)
  obtain ⟨wq, hwq⟩ : ∃ wq, wq = w1.drewN nq := ⟨_, rfl⟩
  rw [← hwq]
  have HBq : Hid (Blk wq g 53 (ringCells tp true (now + 1) (.slice (some ⟨b, off, none⟩) 1 1))) := by rw [hwq]; exact HB1.out.drewN nq
  have HTq : Hid (RowO wq (g + 1) (.slice (some ⟨b, off, none⟩) 0 0) []) := by rw [hwq]; exact HT.out.drewN nq
  have HBel : Hid (Below g w wq) := by rw [hwq]; exact below_drewN HB.out nq
  have hcq : wq.cell? ⟨b, off, none⟩ = some (.int .i64 m) := by rw [hwq]; exact hcell
  have q3 : wq.cell? ⟨g, 3, none⟩ = some (.slice (some ⟨b, off, none⟩) 1 1) := HBq.out.cell 3
  have qf := HBq.out.free 3
  clear hwq hcell d3 d2 d0 HB1 HT HB
  have HW := Lib.hid (ring_stored (u := .slice (some ⟨b, off, none⟩) 0 0) HBq.out HTq.out)
  have HBw := Lib.hid (HBel.out.setCell (p := ⟨g, 3, none⟩) (Nat.le_refl g) (.slice (some ⟨b, off, none⟩) 0 0))
  have e0 : (wq.setCell ⟨g, 3, none⟩ (.slice (some ⟨b, off, none⟩) 0 0)).cell? ⟨g, 0, none⟩ = some (.int .i64 tp) := HW.out.1.cell 0
  have e1 : (wq.setCell ⟨g, 3, none⟩ (.slice (some ⟨b, off, none⟩) 0 0)).cell? ⟨g, 1, none⟩ = some (.bool true) := HW.out.1.cell 1
  have e2 : (wq.setCell ⟨g, 3, none⟩ (.slice (some ⟨b, off, none⟩) 0 0)).cell? ⟨g, 2, none⟩ = some (.int .i64 (now + 1)) := HW.out.1.cell 2
  have e3 : (wq.setCell ⟨g, 3, none⟩ (.slice (some ⟨b, off, none⟩) 0 0)).cell? ⟨g, 3, none⟩ = some (.slice (some ⟨b, off, none⟩) 0 0) := HW.out.1.cell 3
  have hlt2 := HW.out.1.lt
  have hbl := rowO_lt HW.out.2
  generalize hw2 : wq.setCell ⟨g, 3, none⟩ (.slice (some ⟨b, off, none⟩) 0 0) = w2 at *
  go_wp2_with fail
  clear hw2 e0 e1 e2 e3 qf q3 hcq
  refine (insert_front (g + 1) _ [] _ (HW.out.2.below ((Below.refl _ _).alloc (Nat.le_refl _) _)) w2.heap.size (m + 1) (Blk.new w2 3 #[.int .i64 (m + 1)]) (fun A n c e b' off' hA => by cases e; cases hA; omega) (by simp; omega) (by decide)).mono ?_
  rintro e w3 ⟨v', rfl, hr', hb'⟩
  obtain ⟨A', c', hv', -, -, -⟩ := id hr'
  rw [show [m + 1].length = 1 from rfl] at hv'
  subst hv'
  obtain ⟨hk3, hra, hrb⟩ := ring_push HW.out.1 hr' hb'
  have q3 : w3.cell? ⟨g, 3, none⟩ = some (.slice (some ⟨b, off, none⟩) 0 0) := hk3.cell 3
  have qf := hk3.free 3
  obtain ⟨hb4, hr4⟩ := ring_stored hk3 hr'
  obtain ⟨b3, off3, rfl, -, -, -, hc4, -, -, -⟩ := hr4.tail
  have HRA := Lib.hid hra
  have HRB := Lib.hid ((HBw.out).trans hrb)
  have f0 : (w3.setCell ⟨g, 3, none⟩ (.slice (some ⟨b3, off3, none⟩) 1 c')).cell? ⟨g, 0, none⟩ = some (.int .i64 tp) := hb4.cell 0
  have f2 : (w3.setCell ⟨g, 3, none⟩ (.slice (some ⟨b3, off3, none⟩) 1 c')).cell? ⟨g, 2, none⟩ = some (.int .i64 (now + 1)) := hb4.cell 2
  have f3 : (w3.setCell ⟨g, 3, none⟩ (.slice (some ⟨b3, off3, none⟩) 1 c')).cell? ⟨g, 3, none⟩ = some (.slice (some ⟨b3, off3, none⟩) 1 c') := hb4.cell 3
  clear hr' hb' hk3 hra hrb hb4 hr4
  go_wp2
  rw [rounds_succ]
  go_wp2
  go_quiet (fail)
  go_wp2
  go_end0
  obtain ⟨v4, h41, h42⟩ := HRA.out
  exact ⟨⟨_, rfl⟩, ⟨v4, h41.drewN _, h42.drewN _⟩, below_drewN HRB.out _⟩

set_option maxHeartbeats 2000000 in
theorem ring_put_last (g : Nat) (tp now m : Int) (hn : 0 ≤ now ∧ now ≤ 90000) (hm : 0 ≤ m ∧ m ≤ 90000) (hgt : tp < now + 1 - m) (hend : now + 1 - (m + 1) ≤ tp) (c : Nat) (A : Option Addr) (hc : ¬ c = 1) (w : World) (hb : Blk w g 53 (ringCells tp true now (.slice A 1 c))) (hr : RowO w (g + 1) (.slice A 1 c) [m]) :
    Calls Try.prog 52 #[.pointer (some ⟨g, 0, none⟩)] w (Ended (RingNow g tp true (now + 1) [m + 1] w)) := by
  have c2 : w.cell? ⟨g, 2, none⟩ = some (.int .i64 now) := hb.cell 2
  have f2 := hb.free 2
  obtain ⟨hn1, hn2⟩ := hn
  obtain ⟨hm1, hm2⟩ := hm
  obtain ⟨hb1, hr1, hB⟩ := ring_ticked (m := now + 1) hb hr
  obtain ⟨b, off, rfl, -, hle, hmax, hcell, -, ht0, ht1⟩ := hr1.tail
  have d3 : (w.setCell ⟨g, 2, none⟩ (.int .i64 (now + 1))).cell? ⟨g, 3, none⟩ = some (.slice (some ⟨b, off, none⟩) 1 c) := hb1.cell 3
  have d2 : (w.setCell ⟨g, 2, none⟩ (.int .i64 (now + 1))).cell? ⟨g, 2, none⟩ = some (.int .i64 (now + 1)) := hb1.cell 2
  have d0 : (w.setCell ⟨g, 2, none⟩ (.int .i64 (now + 1))).cell? ⟨g, 0, none⟩ = some (.int .i64 tp) := hb1.cell 0
  have HB1 := Lib.hid hb1
  have HT : Hid (RowO (w.setCell ⟨g, 2, none⟩ (.int .i64 (now + 1))) (g + 1) (.slice (some ⟨b, off + 1, none⟩) 0 (c - 1)) []) := ht1
  have HB := Lib.hid hB
  clear hb hr hb1 hr1 hB ht0 ht1
  have hs : IntKind.i64.wrap (now + 1 - m) = now + 1 - m := by rw [IntKind.wrap_i64]; omega
  have hd : decide (tp < now + 1 - m) = true := by simp; omega
  have hs3 : IntKind.i64.wrap (now + 1 - (m + 1)) = now + 1 - (m + 1) := by rw [IntKind.wrap_i64]; omega
  have hd3 : decide (tp < now + 1 - (m + 1)) = false := by simp; omega
  generalize hw1 : w.setCell ⟨g, 2, none⟩ (.int .i64 (now + 1)) = w1 at *
  go_enter Try.func52, Try.ntmps52
  go_wp2
  clear hw1 c2 f2
  refine wp_loop_rounds 2 ?_
  rw [rounds_succ]
  go_wp2
  go_quiet (fail)
  obtain ⟨wq, hwq⟩ : ∃ wq, wq = w1.drewN nq := ⟨_, rfl⟩
  rw [← hwq]
  have HBq : Hid (Blk wq g 53 (ringCells tp true (now + 1) (.slice (some ⟨b, off, none⟩) 1 c))) := by rw [hwq]; exact HB1.out.drewN nq
  have HTq : Hid (RowO wq (g + 1) (.slice (some ⟨b, off + 1, none⟩) 0 (c - 1)) []) := by rw [hwq]; exact HT.out.drewN nq
  have HBel : Hid (Below g w wq) := by rw [hwq]; exact below_drewN HB.out nq
  have hcq : wq.cell? ⟨b, off, none⟩ = some (.int .i64 m) := by rw [hwq]; exact hcell
  have q3 : wq.cell? ⟨g, 3, none⟩ = some (.slice (some ⟨b, off, none⟩) 1 c) := HBq.out.cell 3
  have qf := HBq.out.free 3
  clear hwq hcell d3 d2 d0 HB1 HT HB
  have HW := Lib.hid (ring_stored (u := .slice (some ⟨b, off + 1, none⟩) 0 (c - 1)) HBq.out HTq.out)
  have HBw := Lib.hid (HBel.out.setCell (p := ⟨g, 3, none⟩) (Nat.le_refl g) (.slice (some ⟨b, off + 1, none⟩) 0 (c - 1)))
  have e0 : (wq.setCell ⟨g, 3, none⟩ (.slice (some ⟨b, off + 1, none⟩) 0 (c - 1))).cell? ⟨g, 0, none⟩ = some (.int .i64 tp) := HW.out.1.cell 0
  have e1 : (wq.setCell ⟨g, 3, none⟩ (.slice (some ⟨b, off + 1, none⟩) 0 (c - 1))).cell? ⟨g, 1, none⟩ = some (.bool true) := HW.out.1.cell 1
  have e2 : (wq.setCell ⟨g, 3, none⟩ (.slice (some ⟨b, off + 1, none⟩) 0 (c - 1))).cell? ⟨g, 2, none⟩ = some (.int .i64 (now + 1)) := HW.out.1.cell 2
  have e3 : (wq.setCell ⟨g, 3, none⟩ (.slice (some ⟨b, off + 1, none⟩) 0 (c - 1))).cell? ⟨g, 3, none⟩ = some (.slice (some ⟨b, off + 1, none⟩) 0 (c - 1)) := HW.out.1.cell 3
  have hlt2 := HW.out.1.lt
  have hbl := rowO_lt HW.out.2
  generalize hw2 : wq.setCell ⟨g, 3, none⟩ (.slice (some ⟨b, off + 1, none⟩) 0 (c - 1)) = w2 at *
  go_wp2_with fail
  clear hw2 e0 e1 e2 e3 qf q3 hcq
  refine (insert_front (g + 1) _ [] _ (HW.out.2.below ((Below.refl _ _).alloc (Nat.le_refl _) _)) w2.heap.size (m + 1) (Blk.new w2 3 #[.int .i64 (m + 1)]) (fun A n c e b' off' hA => by cases e; cases hA; omega) (by simp; omega) (by decide)).mono ?_
  rintro e w3 ⟨v', rfl, hr', hb'⟩
  obtain ⟨A', c', hv', -, -, -⟩ := id hr'
  rw [show [m + 1].length = 1 from rfl] at hv'
  subst hv'
  obtain ⟨hk3, hra, hrb⟩ := ring_push HW.out.1 hr' hb'
  have q3 : w3.cell? ⟨g, 3, none⟩ = some (.slice (some ⟨b, off + 1, none⟩) 0 (c - 1)) := hk3.cell 3
  have qf := hk3.free 3
  obtain ⟨hb4, hr4⟩ := ring_stored hk3 hr'
  obtain ⟨b3, off3, rfl, -, -, -, hc4, -, -, -⟩ := hr4.tail
  have HRA := Lib.hid hra
  have HRB := Lib.hid ((HBw.out).trans hrb)
  have f0 : (w3.setCell ⟨g, 3, none⟩ (.slice (some ⟨b3, off3, none⟩) 1 c')).cell? ⟨g, 0, none⟩ = some (.int .i64 tp) := hb4.cell 0
  have f2 : (w3.setCell ⟨g, 3, none⟩ (.slice (some ⟨b3, off3, none⟩) 1 c')).cell? ⟨g, 2, none⟩ = some (.int .i64 (now + 1)) := hb4.cell 2
  have f3 : (w3.setCell ⟨g, 3, none⟩ (.slice (some ⟨b3, off3, none⟩) 1 c')).cell? ⟨g, 3, none⟩ = some (.slice (some ⟨b3, off3, none⟩) 1 c') := hb4.cell 3
  clear hr' hb' hk3 hra hrb hb4 hr4
  go_wp2
  rw [rounds_succ]
  go_wp2
  go_quiet (fail)
  go_wp2
  go_end0
  obtain ⟨v4, h41, h42⟩ := HRA.out
  exact ⟨⟨_, rfl⟩, ⟨v4, h41.drewN _, h42.drewN _⟩, below_drewN HRB.out _⟩

set_option maxHeartbeats 2000000 in
theorem ring_put (g : Nat) (tp now m : Int) (k : Int) (M : List Int) (hk : 0 ≤ k ∧ k ≤ 100000) (n : Nat) (hN : n = M.length + 1 + 1) (hl : n ≤ 3000) (hn : 0 ≤ now ∧ now ≤ 90000) (hm : 0 ≤ m ∧ m ≤ 90000) (hgt : tp < now + 1 - m) (hend : now + 1 - (m + 1) ≤ tp) (hlt : m + 1 < k) (c : Nat) (A : Option Addr) (hc : ¬ c = 1) (w : World) (hb : Blk w g 53 (ringCells tp true now (.slice A n c))) (hr : RowO w (g + 1) (.slice A n c) (m :: k :: M)) :
    Calls Try.prog 52 #[.pointer (some ⟨g, 0, none⟩)] w (Ended (RingNow g tp true (now + 1) ((m + 1) :: k :: M) w)) := by
  have c2 : w.cell? ⟨g, 2, none⟩ = some (.int .i64 now) := hb.cell 2
  have f2 := hb.free 2
  obtain ⟨hn1, hn2⟩ := hn
  obtain ⟨hm1, hm2⟩ := hm
  obtain ⟨hk1, hk2⟩ := hk
  obtain ⟨hb1, hr1, hB⟩ := ring_ticked (m := now + 1) hb hr
  obtain ⟨b, off, rfl, -, hle, hmax, hcell, -, ht0, ht1⟩ := hr1.tail
  have d3 : (w.setCell ⟨g, 2, none⟩ (.int .i64 (now + 1))).cell? ⟨g, 3, none⟩ = some (.slice (some ⟨b, off, none⟩) n c) := hb1.cell 3
  have d2 : (w.setCell ⟨g, 2, none⟩ (.int .i64 (now + 1))).cell? ⟨g, 2, none⟩ = some (.int .i64 (now + 1)) := hb1.cell 2
  have d0 : (w.setCell ⟨g, 2, none⟩ (.int .i64 (now + 1))).cell? ⟨g, 0, none⟩ = some (.int .i64 tp) := hb1.cell 0
  have HB1 := Lib.hid hb1
  have HT : Hid (RowO (w.setCell ⟨g, 2, none⟩ (.int .i64 (now + 1))) (g + 1) (.slice (some ⟨b, off + 1, none⟩) (n - 1) (c - 1)) (k :: M)) := by rw [show n - 1 = M.length + 1 from by omega]; exact ht1
  have HB := Lib.hid hB
  clear hb hr hb1 hr1 hB ht0 ht1
  simp only [List.length_cons] at hle
  have hl0 : 2 ≤ n := by omega
  have hle2 : n ≤ c := by omega
  have hl1 : decide (0 < n) = true := by simp; omega
  have hl2 : (0 : Int) < (n : Int) := by omega
  have hl3 : decide (0 < n - 1) = true := by simp; omega
  have hl5 : (0 : Int) < ((n - 1 : Nat) : Int) := by omega
  have hl6 : (1 : Int) ≤ (n : Int) := by omega
  have hl4 : (((n - 1 : Nat) : Int) == 0) = false := by simp; omega
  have HN := Lib.hid hN
  clear hN hle
  have hs2 : IntKind.i64.wrap (now + 1 - k) = now + 1 - k := by rw [IntKind.wrap_i64]; omega
  have hdk : decide (m + 1 < k) = true := by simpa using hlt
  have hs : IntKind.i64.wrap (now + 1 - m) = now + 1 - m := by rw [IntKind.wrap_i64]; omega
  have hd : decide (tp < now + 1 - m) = true := by simp; omega
  have hs3 : IntKind.i64.wrap (now + 1 - (m + 1)) = now + 1 - (m + 1) := by rw [IntKind.wrap_i64]; omega
  have hd3 : decide (tp < now + 1 - (m + 1)) = false := by simp; omega
  generalize hw1 : w.setCell ⟨g, 2, none⟩ (.int .i64 (now + 1)) = w1 at *
  go_enter Try.func52, Try.ntmps52
  go_wp2
  clear hw1 c2 f2
  refine wp_loop_rounds 2 ?_
  rw [rounds_succ]
  go_wp2
  go_quiet (fail)
  obtain ⟨wq, hwq⟩ : ∃ wq, wq = w1.drewN nq := ⟨_, rfl⟩
  rw [← hwq]
  have HBq : Hid (Blk wq g 53 (ringCells tp true (now + 1) (.slice (some ⟨b, off, none⟩) n c))) := by rw [hwq]; exact HB1.out.drewN nq
  have HTq : Hid (RowO wq (g + 1) (.slice (some ⟨b, off + 1, none⟩) (n - 1) (c - 1)) (k :: M)) := by rw [hwq]; exact HT.out.drewN nq
  have HBel : Hid (Below g w wq) := by rw [hwq]; exact below_drewN HB.out nq
  have hcq : wq.cell? ⟨b, off, none⟩ = some (.int .i64 m) := by rw [hwq]; exact hcell
  have q3 : wq.cell? ⟨g, 3, none⟩ = some (.slice (some ⟨b, off, none⟩) n c) := HBq.out.cell 3
  have qf := HBq.out.free 3
  clear hwq hcell d3 d2 d0 HB1 HT HB
  have HW := Lib.hid (ring_stored (u := .slice (some ⟨b, off + 1, none⟩) (n - 1) (c - 1)) HBq.out HTq.out)
  have HBw := Lib.hid (HBel.out.setCell (p := ⟨g, 3, none⟩) (Nat.le_refl g) (.slice (some ⟨b, off + 1, none⟩) (n - 1) (c - 1)))
  have e0 : (wq.setCell ⟨g, 3, none⟩ (.slice (some ⟨b, off + 1, none⟩) (n - 1) (c - 1))).cell? ⟨g, 0, none⟩ = some (.int .i64 tp) := HW.out.1.cell 0
  have e1 : (wq.setCell ⟨g, 3, none⟩ (.slice (some ⟨b, off + 1, none⟩) (n - 1) (c - 1))).cell? ⟨g, 1, none⟩ = some (.bool true) := HW.out.1.cell 1
  have e2 : (wq.setCell ⟨g, 3, none⟩ (.slice (some ⟨b, off + 1, none⟩) (n - 1) (c - 1))).cell? ⟨g, 2, none⟩ = some (.int .i64 (now + 1)) := HW.out.1.cell 2
  have e3 : (wq.setCell ⟨g, 3, none⟩ (.slice (some ⟨b, off + 1, none⟩) (n - 1) (c - 1))).cell? ⟨g, 3, none⟩ = some (.slice (some ⟨b, off + 1, none⟩) (n - 1) (c - 1)) := HW.out.1.cell 3
  have hck : (wq.setCell ⟨g, 3, none⟩ (.slice (some ⟨b, off + 1, none⟩) (n - 1) (c - 1))).cell? ⟨b, off + 1, none⟩ = some (.int .i64 k) := by
    obtain ⟨b', off', eA, _, _, _, hck, _, _, _⟩ := HW.out.2.tail
    cases eA
    exact hck
  have hlt2 := HW.out.1.lt
  have hbl := rowO_lt HW.out.2
  generalize hw2 : wq.setCell ⟨g, 3, none⟩ (.slice (some ⟨b, off + 1, none⟩) (n - 1) (c - 1)) = w2 at *
  go_wp2_with fail
  clear hw2 e0 e1 e2 e3 qf q3 hcq
  refine (insert_front (g + 1) _ (k :: M) _ (HW.out.2.below ((Below.refl _ _).alloc (Nat.le_refl _) _)) w2.heap.size (m + 1) (Blk.new w2 3 #[.int .i64 (m + 1)]) (fun A n c e b' off' hA => by cases e; cases hA; omega) (by simp; omega) (by have := HN.out; simp only [List.length_cons]; omega)).mono ?_
  rintro e w3 ⟨v', rfl, hr', hb'⟩
  obtain ⟨A', c', hv', -, -, -⟩ := id hr'
  rw [show ((m + 1) :: k :: M).length = n from by have := HN.out; simp only [List.length_cons]; omega] at hv'
  subst hv'
  obtain ⟨hk3, hra, hrb⟩ := ring_push HW.out.1 hr' hb'
  have q3 : w3.cell? ⟨g, 3, none⟩ = some (.slice (some ⟨b, off + 1, none⟩) (n - 1) (c - 1)) := hk3.cell 3
  have qf := hk3.free 3
  obtain ⟨hb4, hr4⟩ := ring_stored hk3 hr'
  obtain ⟨b3, off3, rfl, -, -, -, hc4, -, -, -⟩ := hr4.tail
  have HRA := Lib.hid hra
  have HRB := Lib.hid ((HBw.out).trans hrb)
  have f0 : (w3.setCell ⟨g, 3, none⟩ (.slice (some ⟨b3, off3, none⟩) n c')).cell? ⟨g, 0, none⟩ = some (.int .i64 tp) := hb4.cell 0
  have f2 : (w3.setCell ⟨g, 3, none⟩ (.slice (some ⟨b3, off3, none⟩) n c')).cell? ⟨g, 2, none⟩ = some (.int .i64 (now + 1)) := hb4.cell 2
  have f3 : (w3.setCell ⟨g, 3, none⟩ (.slice (some ⟨b3, off3, none⟩) n c')).cell? ⟨g, 3, none⟩ = some (.slice (some ⟨b3, off3, none⟩) n c') := hb4.cell 3
  clear hr' hb' hk3 hra hrb hb4 hr4
  go_wp2
  rw [rounds_succ]
  go_wp2
  go_quiet (fail)
  go_wp2
  go_end0
  obtain ⟨v4, h41, h42⟩ := HRA.out
  exact ⟨⟨_, rfl⟩, ⟨v4, h41.drewN _, h42.drewN _⟩, below_drewN HRB.out _⟩
end Go.Proofs.Ytoijilfpfdhppaa

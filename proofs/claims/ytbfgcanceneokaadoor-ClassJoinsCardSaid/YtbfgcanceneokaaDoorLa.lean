/- Walk of riddlelaw02.ClassJoins: it answers true. -/
import Derived.Test.YtbfgcanceneokaaDoorLs
namespace Go.Proofs.YtbfgcanceneokaaDoor
open Go.RowKit

set_option maxRecDepth 100000 in
set_option maxHeartbeats 8000000 in
theorem joins_walk (p q : Nat → Bool) (w : World) (hT : Tab64 w) :
    Calls Tryd.prog 3 #[cval p, cval q] w fun e w' => e = .returned (.bool true) ∧ Below w.heap.size w w' := by
  have HT := Lib.hid hT
  clear hT
  have J1 : Hid (∀ W, Calls Tryd.prog 10 #[cval p, cval q, .int .i64 1] W fun e w' => e = .returned (cval (joined 1 p q)) ∧ Below W.heap.size W w') := fun W => join_any 1 (by omega) p q W
  have J2 : Hid (∀ W, Calls Tryd.prog 10 #[cval p, cval q, .int .i64 2] W fun e w' => e = .returned (cval (joined 2 p q)) ∧ Below W.heap.size W w') := fun W => join_any 2 (by omega) p q W
  have J3 : Hid (∀ W, Calls Tryd.prog 10 #[cval p, cval q, .int .i64 3] W fun e w' => e = .returned (cval (joined 3 p q)) ∧ Below W.heap.size W w') := fun W => join_any 3 (by omega) p q W
  have q1 := eql_class (fun b => p b && q b) (joined 1 p q) (fun _ _ => rfl)
  have q2 := eql_class (fun b => p b || q b) (joined 2 p q) (fun _ _ => rfl)
  have q3 := eql_class (fun b => !p b) (joined 3 p q) (fun _ _ => rfl)
  have Hp := Lib.hid (Blk.new w 24 (ccells p))
  have Hq : Hid (Blk ((w.alloc (.cells (ccells p) 24)).alloc (.cells (ccells q) 24)) (w.heap.size + 1) 24 (ccells q)) := by
    have := Blk.new (w.alloc (.cells (ccells p) 24)) 24 (ccells q)
    rw [World.size_alloc] at this
    exact this
  have hb0 : Below w.heap.size w ((w.alloc (.cells (ccells p) 24)).alloc (.cells (ccells q) 24)) := ((Below.refl _ _).alloc (Nat.le_refl _) _).alloc (by simp) _
  go_enter Tryd.func3, Tryd.ntmps3
  go_wp2_with fail
  refine (speaks_any _ (tab_below HT.out hb0 (Nat.le_refl _))).mono ?_
  rintro e wr ⟨rfl, hbel⟩
  have hP := (Hp.out.alloc _).below hbel (by simp <;> omega)
  have hQ := Hq.out.below hbel (by simp <;> omega)
  have hbw := hb0.trans (hbel.mono hb0.size)
  clear hb0 hbel
  have hsp := hP.lt
  have hsz := hQ.lt
  have p0 := hP.cell 0
  have p1 := hP.cell 1
  have p2 := hP.cell 2
  have p3 := hP.cell 3
  have q0 := hQ.cell 0
  have q1' := hQ.cell 1
  have q2' := hQ.cell 2
  have q3' := hQ.cell 3
  simp only [List.getElem?_toArray, List.getElem?_cons_zero, List.getElem?_cons_succ] at p0 p1 p2 p3 q0 q1' q2' q3'
  go_wp2
  go_region_held3 (fun w' => w'.cell? ⟨w.heap.size, 0, none⟩ = some (.int .u64 (pw p 0 : Nat)) ∧ w'.cell? ⟨w.heap.size, 1, none⟩ = some (.int .u64 (pw p 1 : Nat)) ∧ w'.cell? ⟨w.heap.size, 2, none⟩ = some (.int .u64 (pw p 2 : Nat)) ∧ w'.cell? ⟨w.heap.size, 3, none⟩ = some (.int .u64 (pw p 3 : Nat)) ∧
      w'.cell? ⟨w.heap.size + 1, 0, none⟩ = some (.int .u64 (pw q 0 : Nat)) ∧ w'.cell? ⟨w.heap.size + 1, 1, none⟩ = some (.int .u64 (pw q 1 : Nat)) ∧ w'.cell? ⟨w.heap.size + 1, 2, none⟩ = some (.int .u64 (pw q 2 : Nat)) ∧ w'.cell? ⟨w.heap.size + 1, 3, none⟩ = some (.int .u64 (pw q 3 : Nat)) ∧ Below wr.heap.size wr w')
    (first | exact ⟨p0, p1, p2, p3, q0, q1', q2', q3', (Below.refl _ _).drew⟩ | (go_split_ands; have hbx := held_step (by assumption) hbel1; exact ⟨(hbx.cell (p := ⟨_, 0, none⟩) hsp).trans p0, (hbx.cell (p := ⟨_, 1, none⟩) hsp).trans p1, (hbx.cell (p := ⟨_, 2, none⟩) hsp).trans p2, (hbx.cell (p := ⟨_, 3, none⟩) hsp).trans p3, (hbx.cell (p := ⟨_, 0, none⟩) hsz).trans q0, (hbx.cell (p := ⟨_, 1, none⟩) hsz).trans q1', (hbx.cell (p := ⟨_, 2, none⟩) hsz).trans q2', (hbx.cell (p := ⟨_, 3, none⟩) hsz).trans q3', hbx⟩))
    (first | (go_at_call 9; with_reducible refine (and_any _ _ _).mono ?_; rintro e w1 ⟨rfl, hbel1⟩) | (go_at_call 11; with_reducible refine (or_any _ _ _).mono ?_; rintro e w1 ⟨rfl, hbel1⟩) | (go_at_call 12; with_reducible refine (not_any _ _).mono ?_; rintro e w1 ⟨rfl, hbel1⟩) | (go_at_call 10; with_reducible refine (J1.out _).mono ?_; rintro e w1 ⟨rfl, hbel1⟩) | (go_at_call 10; with_reducible refine (J2.out _).mono ?_; rintro e w1 ⟨rfl, hbel1⟩) | (go_at_call 10; with_reducible refine (J3.out _).mono ?_; rintro e w1 ⟨rfl, hbel1⟩))
  go_split_ands
  have hbx := (by assumption : Below wr.heap.size wr _)
  go_wp2
  go_ret
  exact ⟨rfl, hbw.trans (hbx.mono hbw.size)⟩
end Go.Proofs.YtbfgcanceneokaaDoor

/- Walks of the counter's methods Arm, Step, Done, Size: the engine by its interface. -/
import Derived.Test.YtoijilfpfdhppaaKFb
namespace Go.Proofs.Ytoijilfpfdhppaa
open Go.RowKit

def counterCells (p : Nat → Bool) (least most size : Int) (ev : Value) : Array Value :=
  #[.int .u64 ((pw p 0 : Nat) : Int), .int .u64 ((pw p 1 : Nat) : Int), .int .u64 ((pw p 2 : Nat) : Int), .int .u64 ((pw p 3 : Nat) : Int), .int .i64 least, .int .i64 most, .int .i64 size, ev]
theorem counter_size (p : Nat → Bool) (least most size : Int) (ev : Value) (gc : Nat) (w : World) (hc : Blk w gc 43 (counterCells p least most size ev)) :
    Calls Try.prog 11 #[.pointer (some ⟨gc, 0, none⟩)] w fun e w' => e = .returned (.int .i64 size) ∧ w = w' := by
  have c6 : w.cell? ⟨gc, 6, none⟩ = some (.int .i64 size) := hc.cell 6
  clear hc
  go_enter Try.func11, Try.ntmps11
  go_wp2
  go_ret
  exact ⟨rfl, rfl⟩

theorem counter_arm_0 (g gc tp : Nat) (stays : Bool) (S : Nat → Bool) (steps : Nat) (p : Nat → Bool) (least most size : Int) (hs : steps ≤ 80000) (ht : tp ≤ 400) (hS : ∀ a, tp < a → S a = false) (w : World) (hc : Blk w gc 43 (counterCells p least most size (.iface 46 (.pointer (some ⟨g, 0, none⟩))))) (he : EngAt w 0 g tp stays S steps) :
    Calls Try.prog 7 #[.pointer (some ⟨gc, 0, none⟩)] w (Ended (EngNow 0 g tp stays (addB S 0) steps w)) := by
  have c7 : w.cell? ⟨gc, 7, none⟩ = some (.iface 46 (.pointer (some ⟨g, 0, none⟩))) := hc.cell 7
  have hm : ∀ W : World, (method 194 46 (.pointer (some ⟨g, 0, none⟩)) "riddle/count.arm").run Try.prog W = .ok (30, .pointer (some ⟨g, 0, none⟩)) W := fun _ => by kernel_rfl
  have H := Lib.hid (eng_arm 0 g tp stays S steps hs ht hS w he)
  clear hc he hS
  go_enter Try.func7, Try.ntmps7
  go_wp2_with fail
  refine H.out.mono ?_
  rintro e w1 ⟨⟨u, rfl⟩, h1⟩
  have H1 := Lib.hid h1
  clear h1
  go_wp2
  go_end0
  exact ⟨⟨_, rfl⟩, H1.out⟩

theorem counter_grow_0 (g gc tp : Nat) (stays : Bool) (S : Nat → Bool) (steps : Nat) (p : Nat → Bool) (least most size : Int) (hs : steps ≤ 70000) (ht : tp ≤ 400) (b : Nat) (hb : b < 256) (hp : p b = true) (w : World) (hc : Blk w gc 43 (counterCells p least most size (.iface 46 (.pointer (some ⟨g, 0, none⟩))))) (he : EngAt w 0 g tp stays S steps) :
    Calls Try.prog 6 #[.pointer (some ⟨gc, 0, none⟩), .int .u8 ((b : Nat) : Int)] w (Ended (EngNow 0 g tp stays (growB S tp stays) (steps + 1) w)) := by
  have c7 : w.cell? ⟨gc, 7, none⟩ = some (.iface 46 (.pointer (some ⟨g, 0, none⟩))) := hc.cell 7
  have hm : ∀ W : World, (method 194 46 (.pointer (some ⟨g, 0, none⟩)) "riddle/count.grow").run Try.prog W = .ok (33, .pointer (some ⟨g, 0, none⟩)) W := fun _ => by kernel_rfl
  have c0 : w.cell? ⟨gc, 0, none⟩ = some (.int .u64 ((pw p 0 : Nat) : Int)) := hc.cell 0
  have c1 : w.cell? ⟨gc, 1, none⟩ = some (.int .u64 ((pw p 1 : Nat) : Int)) := hc.cell 1
  have c2 : w.cell? ⟨gc, 2, none⟩ = some (.int .u64 ((pw p 2 : Nat) : Int)) := hc.cell 2
  have c3 : w.cell? ⟨gc, 3, none⟩ = some (.int .u64 ((pw p 3 : Nat) : Int)) := hc.cell 3
  have HC := Lib.hid hc
  have HE := Lib.hid he
  have Hhas := Lib.hid (fun W => has_any p b hb W)
  rw [hp] at Hhas
  have hgl := he.lt
  have H := Lib.hid (fun W h => eng_grow 0 g tp stays S steps hs ht W h)
  clear hc he hp
  go_enter Try.func6, Try.ntmps6
  go_wp2_with fail
  refine (Hhas.out _).mono ?_
  rintro e w1 ⟨rfl, hbel⟩
  have hc1 := HC.out.below hbel HC.out.lt
  have d7 : w1.cell? ⟨gc, 7, none⟩ = some (.iface 46 (.pointer (some ⟨g, 0, none⟩))) := hc1.cell 7
  have HE1 := Lib.hid (HE.out.below hbel)
  have HB := Lib.hid (hbel.mono (Nat.le_of_lt hgl))
  have HW := Lib.hid hbel
  clear hbel hc1 c0 c1 c2 c3 c7
  go_wp2_with fail
  refine (H.out _ HE1.out).mono ?_
  rintro e w2 ⟨⟨u, rfl⟩, h1⟩
  have H1 := Lib.hid h1
  clear h1
  go_wp2
  go_end0
  exact ⟨⟨_, rfl⟩, H1.out.1, HB.out.trans H1.out.2.1, fun h0 => (H1.out.2.2 h0).after HW.out⟩

theorem counter_clear_0 (g gc tp : Nat) (stays : Bool) (S : Nat → Bool) (steps : Nat) (p : Nat → Bool) (least most size : Int) (b : Nat) (hb : b < 256) (hp : p b = false) (w : World) (hc : Blk w gc 43 (counterCells p least most size (.iface 46 (.pointer (some ⟨g, 0, none⟩))))) (he : EngAt w 0 g tp stays S steps) :
    Calls Try.prog 6 #[.pointer (some ⟨gc, 0, none⟩), .int .u8 ((b : Nat) : Int)] w (Ended (EngNow 0 g tp stays noneB (steps + 1) w)) := by
  have c7 : w.cell? ⟨gc, 7, none⟩ = some (.iface 46 (.pointer (some ⟨g, 0, none⟩))) := hc.cell 7
  have hm : ∀ W : World, (method 194 46 (.pointer (some ⟨g, 0, none⟩)) "riddle/count.clear").run Try.prog W = .ok (31, .pointer (some ⟨g, 0, none⟩)) W := fun _ => by kernel_rfl
  have c0 : w.cell? ⟨gc, 0, none⟩ = some (.int .u64 ((pw p 0 : Nat) : Int)) := hc.cell 0
  have c1 : w.cell? ⟨gc, 1, none⟩ = some (.int .u64 ((pw p 1 : Nat) : Int)) := hc.cell 1
  have c2 : w.cell? ⟨gc, 2, none⟩ = some (.int .u64 ((pw p 2 : Nat) : Int)) := hc.cell 2
  have c3 : w.cell? ⟨gc, 3, none⟩ = some (.int .u64 ((pw p 3 : Nat) : Int)) := hc.cell 3
  have HC := Lib.hid hc
  have HE := Lib.hid he
  have Hhas := Lib.hid (fun W => has_any p b hb W)
  rw [hp] at Hhas
  have hgl := he.lt
  have H := Lib.hid (fun W h => eng_clear 0 g tp stays S steps W h)
  clear hc he hp
  go_enter Try.func6, Try.ntmps6
  go_wp2_with fail
  refine (Hhas.out _).mono ?_
  rintro e w1 ⟨rfl, hbel⟩
  have hc1 := HC.out.below hbel HC.out.lt
  have d7 : w1.cell? ⟨gc, 7, none⟩ = some (.iface 46 (.pointer (some ⟨g, 0, none⟩))) := hc1.cell 7
  have HE1 := Lib.hid (HE.out.below hbel)
  have HB := Lib.hid (hbel.mono (Nat.le_of_lt hgl))
  have HW := Lib.hid hbel
  clear hbel hc1 c0 c1 c2 c3 c7
  go_wp2_with fail
  refine (H.out _ HE1.out).mono ?_
  rintro e w2 ⟨⟨u, rfl⟩, h1⟩
  have H1 := Lib.hid h1
  clear h1
  go_wp2
  go_end0
  exact ⟨⟨_, rfl⟩, H1.out.1.later (Nat.le_succ steps), HB.out.trans H1.out.2.1, fun h0 => (H1.out.2.2 h0).after HW.out⟩

theorem counter_done_0 (g gc tp : Nat) (stays : Bool) (S : Nat → Bool) (steps : Nat) (p : Nat → Bool) (least most size : Int) (hs : steps ≤ 80000) (ht : tp ≤ 400) (hl : 0 ≤ least ∧ least ≤ 1000) (w : World) (hc : Blk w gc 43 (counterCells p least most size (.iface 46 (.pointer (some ⟨g, 0, none⟩))))) (he : EngAt w 0 g tp stays S steps) :
    Calls Try.prog 9 #[.pointer (some ⟨gc, 0, none⟩)] w (SaysDone S least w) := by
  have c7 : w.cell? ⟨gc, 7, none⟩ = some (.iface 46 (.pointer (some ⟨g, 0, none⟩))) := hc.cell 7
  have hm : ∀ W : World, (method 194 46 (.pointer (some ⟨g, 0, none⟩)) "riddle/count.done").run Try.prog W = .ok (32, .pointer (some ⟨g, 0, none⟩)) W := fun _ => by kernel_rfl
  have hna : ∀ W : World, (nilAhead 194 46 (.pointer (some ⟨g, 0, none⟩)) "riddle/count.done").run Try.prog W = .ok (some false) W := fun _ => by kernel_rfl
  have c4 : w.cell? ⟨gc, 4, none⟩ = some (.int .i64 least) := hc.cell 4
  have HE := Lib.hid he
  have H := Lib.hid (fun W h => eng_done 0 g tp stays S steps hs ht least hl W h)
  have hlt := hc.lt
  clear hc he hl
  go_enter Try.func9, Try.ntmps9
  go_wp2
  go_region_held3 (fun w' => w'.cell? ⟨gc, 7, none⟩ = some (.iface 46 (.pointer (some ⟨g, 0, none⟩))) ∧ w'.cell? ⟨gc, 4, none⟩ = some (.int .i64 least) ∧ Below w.heap.size w w')
    (first | exact ⟨c7, c4, (Below.refl _ _).drew⟩ | assumption | (go_split_ands; have hbx := held_step (by assumption) hbel1; exact ⟨(hbx.cell (p := ⟨_, 7, none⟩) hlt).trans c7, (hbx.cell (p := ⟨_, 4, none⟩) hlt).trans c4, hbx⟩))
    ((go_at_call 32; refine (H.out _ (HE.out.below (by go_split_ands; assumption))).mono ?_; rintro e w1 ⟨bb, rfl, hbb, hbel1⟩))
  go_split_ands
  have hbx := (by assumption : Below w.heap.size w _)
  have HB := Lib.hid hbx
  have HBB := Lib.hid hbb
  clear hbx hbb hbel1
  go_wp2
  go_ret
  exact ⟨_, rfl, HBB.out, HB.out⟩

theorem counter_arm_1 (g gc tp : Nat) (stays : Bool) (S : Nat → Bool) (steps : Nat) (p : Nat → Bool) (least most size : Int) (hs : steps ≤ 80000) (ht : tp ≤ 400) (hS : ∀ a, tp < a → S a = false) (w : World) (hc : Blk w gc 43 (counterCells p least most size (.iface 50 (.pointer (some ⟨g, 0, none⟩))))) (he : EngAt w 1 g tp stays S steps) :
    Calls Try.prog 7 #[.pointer (some ⟨gc, 0, none⟩)] w (Ended (EngNow 1 g tp stays (addB S 0) steps w)) := by
  have c7 : w.cell? ⟨gc, 7, none⟩ = some (.iface 50 (.pointer (some ⟨g, 0, none⟩))) := hc.cell 7
  have hm : ∀ W : World, (method 194 50 (.pointer (some ⟨g, 0, none⟩)) "riddle/count.arm").run Try.prog W = .ok (49, .pointer (some ⟨g, 0, none⟩)) W := fun _ => by kernel_rfl
  have H := Lib.hid (eng_arm 1 g tp stays S steps hs ht hS w he)
  clear hc he hS
  go_enter Try.func7, Try.ntmps7
  go_wp2_with fail
  refine H.out.mono ?_
  rintro e w1 ⟨⟨u, rfl⟩, h1⟩
  have H1 := Lib.hid h1
  clear h1
  go_wp2
  go_end0
  exact ⟨⟨_, rfl⟩, H1.out⟩

theorem counter_grow_1 (g gc tp : Nat) (stays : Bool) (S : Nat → Bool) (steps : Nat) (p : Nat → Bool) (least most size : Int) (hs : steps ≤ 70000) (ht : tp ≤ 400) (b : Nat) (hb : b < 256) (hp : p b = true) (w : World) (hc : Blk w gc 43 (counterCells p least most size (.iface 50 (.pointer (some ⟨g, 0, none⟩))))) (he : EngAt w 1 g tp stays S steps) :
    Calls Try.prog 6 #[.pointer (some ⟨gc, 0, none⟩), .int .u8 ((b : Nat) : Int)] w (Ended (EngNow 1 g tp stays (growB S tp stays) (steps + 1) w)) := by
  have c7 : w.cell? ⟨gc, 7, none⟩ = some (.iface 50 (.pointer (some ⟨g, 0, none⟩))) := hc.cell 7
  have hm : ∀ W : World, (method 194 50 (.pointer (some ⟨g, 0, none⟩)) "riddle/count.grow").run Try.prog W = .ok (52, .pointer (some ⟨g, 0, none⟩)) W := fun _ => by kernel_rfl
  have c0 : w.cell? ⟨gc, 0, none⟩ = some (.int .u64 ((pw p 0 : Nat) : Int)) := hc.cell 0
  have c1 : w.cell? ⟨gc, 1, none⟩ = some (.int .u64 ((pw p 1 : Nat) : Int)) := hc.cell 1
  have c2 : w.cell? ⟨gc, 2, none⟩ = some (.int .u64 ((pw p 2 : Nat) : Int)) := hc.cell 2
  have c3 : w.cell? ⟨gc, 3, none⟩ = some (.int .u64 ((pw p 3 : Nat) : Int)) := hc.cell 3
  have HC := Lib.hid hc
  have HE := Lib.hid he
  have Hhas := Lib.hid (fun W => has_any p b hb W)
  rw [hp] at Hhas
  have hgl := he.lt
  have H := Lib.hid (fun W h => eng_grow 1 g tp stays S steps hs ht W h)
  clear hc he hp
  go_enter Try.func6, Try.ntmps6
  go_wp2_with fail
  refine (Hhas.out _).mono ?_
  rintro e w1 ⟨rfl, hbel⟩
  have hc1 := HC.out.below hbel HC.out.lt
  have d7 : w1.cell? ⟨gc, 7, none⟩ = some (.iface 50 (.pointer (some ⟨g, 0, none⟩))) := hc1.cell 7
  have HE1 := Lib.hid (HE.out.below hbel)
  have HB := Lib.hid (hbel.mono (Nat.le_of_lt hgl))
  have HW := Lib.hid hbel
  clear hbel hc1 c0 c1 c2 c3 c7
  go_wp2_with fail
  refine (H.out _ HE1.out).mono ?_
  rintro e w2 ⟨⟨u, rfl⟩, h1⟩
  have H1 := Lib.hid h1
  clear h1
  go_wp2
  go_end0
  exact ⟨⟨_, rfl⟩, H1.out.1, HB.out.trans H1.out.2.1, fun h0 => (H1.out.2.2 h0).after HW.out⟩

theorem counter_clear_1 (g gc tp : Nat) (stays : Bool) (S : Nat → Bool) (steps : Nat) (p : Nat → Bool) (least most size : Int) (b : Nat) (hb : b < 256) (hp : p b = false) (w : World) (hc : Blk w gc 43 (counterCells p least most size (.iface 50 (.pointer (some ⟨g, 0, none⟩))))) (he : EngAt w 1 g tp stays S steps) :
    Calls Try.prog 6 #[.pointer (some ⟨gc, 0, none⟩), .int .u8 ((b : Nat) : Int)] w (Ended (EngNow 1 g tp stays noneB (steps + 1) w)) := by
  have c7 : w.cell? ⟨gc, 7, none⟩ = some (.iface 50 (.pointer (some ⟨g, 0, none⟩))) := hc.cell 7
  have hm : ∀ W : World, (method 194 50 (.pointer (some ⟨g, 0, none⟩)) "riddle/count.clear").run Try.prog W = .ok (50, .pointer (some ⟨g, 0, none⟩)) W := fun _ => by kernel_rfl
  have c0 : w.cell? ⟨gc, 0, none⟩ = some (.int .u64 ((pw p 0 : Nat) : Int)) := hc.cell 0
  have c1 : w.cell? ⟨gc, 1, none⟩ = some (.int .u64 ((pw p 1 : Nat) : Int)) := hc.cell 1
  have c2 : w.cell? ⟨gc, 2, none⟩ = some (.int .u64 ((pw p 2 : Nat) : Int)) := hc.cell 2
  have c3 : w.cell? ⟨gc, 3, none⟩ = some (.int .u64 ((pw p 3 : Nat) : Int)) := hc.cell 3
  have HC := Lib.hid hc
  have HE := Lib.hid he
  have Hhas := Lib.hid (fun W => has_any p b hb W)
  rw [hp] at Hhas
  have hgl := he.lt
  have H := Lib.hid (fun W h => eng_clear 1 g tp stays S steps W h)
  clear hc he hp
  go_enter Try.func6, Try.ntmps6
  go_wp2_with fail
  refine (Hhas.out _).mono ?_
  rintro e w1 ⟨rfl, hbel⟩
  have hc1 := HC.out.below hbel HC.out.lt
  have d7 : w1.cell? ⟨gc, 7, none⟩ = some (.iface 50 (.pointer (some ⟨g, 0, none⟩))) := hc1.cell 7
  have HE1 := Lib.hid (HE.out.below hbel)
  have HB := Lib.hid (hbel.mono (Nat.le_of_lt hgl))
  have HW := Lib.hid hbel
  clear hbel hc1 c0 c1 c2 c3 c7
  go_wp2_with fail
  refine (H.out _ HE1.out).mono ?_
  rintro e w2 ⟨⟨u, rfl⟩, h1⟩
  have H1 := Lib.hid h1
  clear h1
  go_wp2
  go_end0
  exact ⟨⟨_, rfl⟩, H1.out.1.later (Nat.le_succ steps), HB.out.trans H1.out.2.1, fun h0 => (H1.out.2.2 h0).after HW.out⟩

theorem counter_done_1 (g gc tp : Nat) (stays : Bool) (S : Nat → Bool) (steps : Nat) (p : Nat → Bool) (least most size : Int) (hs : steps ≤ 80000) (ht : tp ≤ 400) (hl : 0 ≤ least ∧ least ≤ 1000) (w : World) (hc : Blk w gc 43 (counterCells p least most size (.iface 50 (.pointer (some ⟨g, 0, none⟩))))) (he : EngAt w 1 g tp stays S steps) :
    Calls Try.prog 9 #[.pointer (some ⟨gc, 0, none⟩)] w (SaysDone S least w) := by
  have c7 : w.cell? ⟨gc, 7, none⟩ = some (.iface 50 (.pointer (some ⟨g, 0, none⟩))) := hc.cell 7
  have hm : ∀ W : World, (method 194 50 (.pointer (some ⟨g, 0, none⟩)) "riddle/count.done").run Try.prog W = .ok (51, .pointer (some ⟨g, 0, none⟩)) W := fun _ => by kernel_rfl
  have hna : ∀ W : World, (nilAhead 194 50 (.pointer (some ⟨g, 0, none⟩)) "riddle/count.done").run Try.prog W = .ok (some false) W := fun _ => by kernel_rfl
  have c4 : w.cell? ⟨gc, 4, none⟩ = some (.int .i64 least) := hc.cell 4
  have HE := Lib.hid he
  have H := Lib.hid (fun W h => eng_done 1 g tp stays S steps hs ht least hl W h)
  have hlt := hc.lt
  clear hc he hl
  go_enter Try.func9, Try.ntmps9
  go_wp2
  go_region_held3 (fun w' => w'.cell? ⟨gc, 7, none⟩ = some (.iface 50 (.pointer (some ⟨g, 0, none⟩))) ∧ w'.cell? ⟨gc, 4, none⟩ = some (.int .i64 least) ∧ Below w.heap.size w w')
    (first | exact ⟨c7, c4, (Below.refl _ _).drew⟩ | assumption | (go_split_ands; have hbx := held_step (by assumption) hbel1; exact ⟨(hbx.cell (p := ⟨_, 7, none⟩) hlt).trans c7, (hbx.cell (p := ⟨_, 4, none⟩) hlt).trans c4, hbx⟩))
    ((go_at_call 51; refine (H.out _ (HE.out.below (by go_split_ands; assumption))).mono ?_; rintro e w1 ⟨bb, rfl, hbb, hbel1⟩))
  go_split_ands
  have hbx := (by assumption : Below w.heap.size w _)
  have HB := Lib.hid hbx
  have HBB := Lib.hid hbb
  clear hbx hbb hbel1
  go_wp2
  go_ret
  exact ⟨_, rfl, HBB.out, HB.out⟩

theorem counter_arm_2 (g gc tp : Nat) (stays : Bool) (S : Nat → Bool) (steps : Nat) (p : Nat → Bool) (least most size : Int) (hs : steps ≤ 80000) (ht : tp ≤ 400) (hS : ∀ a, tp < a → S a = false) (w : World) (hc : Blk w gc 43 (counterCells p least most size (.iface 54 (.pointer (some ⟨g, 0, none⟩))))) (he : EngAt w 2 g tp stays S steps) :
    Calls Try.prog 7 #[.pointer (some ⟨gc, 0, none⟩)] w (Ended (EngNow 2 g tp stays (addB S 0) steps w)) := by
  have c7 : w.cell? ⟨gc, 7, none⟩ = some (.iface 54 (.pointer (some ⟨g, 0, none⟩))) := hc.cell 7
  have hm : ∀ W : World, (method 194 54 (.pointer (some ⟨g, 0, none⟩)) "riddle/count.arm").run Try.prog W = .ok (60, .pointer (some ⟨g, 0, none⟩)) W := fun _ => by kernel_rfl
  have H := Lib.hid (eng_arm 2 g tp stays S steps hs ht hS w he)
  clear hc he hS
  go_enter Try.func7, Try.ntmps7
  go_wp2_with fail
  refine H.out.mono ?_
  rintro e w1 ⟨⟨u, rfl⟩, h1⟩
  have H1 := Lib.hid h1
  clear h1
  go_wp2
  go_end0
  exact ⟨⟨_, rfl⟩, H1.out⟩

theorem counter_grow_2 (g gc tp : Nat) (stays : Bool) (S : Nat → Bool) (steps : Nat) (p : Nat → Bool) (least most size : Int) (hs : steps ≤ 70000) (ht : tp ≤ 400) (b : Nat) (hb : b < 256) (hp : p b = true) (w : World) (hc : Blk w gc 43 (counterCells p least most size (.iface 54 (.pointer (some ⟨g, 0, none⟩))))) (he : EngAt w 2 g tp stays S steps) :
    Calls Try.prog 6 #[.pointer (some ⟨gc, 0, none⟩), .int .u8 ((b : Nat) : Int)] w (Ended (EngNow 2 g tp stays (growB S tp stays) (steps + 1) w)) := by
  have c7 : w.cell? ⟨gc, 7, none⟩ = some (.iface 54 (.pointer (some ⟨g, 0, none⟩))) := hc.cell 7
  have hm : ∀ W : World, (method 194 54 (.pointer (some ⟨g, 0, none⟩)) "riddle/count.grow").run Try.prog W = .ok (63, .pointer (some ⟨g, 0, none⟩)) W := fun _ => by kernel_rfl
  have c0 : w.cell? ⟨gc, 0, none⟩ = some (.int .u64 ((pw p 0 : Nat) : Int)) := hc.cell 0
  have c1 : w.cell? ⟨gc, 1, none⟩ = some (.int .u64 ((pw p 1 : Nat) : Int)) := hc.cell 1
  have c2 : w.cell? ⟨gc, 2, none⟩ = some (.int .u64 ((pw p 2 : Nat) : Int)) := hc.cell 2
  have c3 : w.cell? ⟨gc, 3, none⟩ = some (.int .u64 ((pw p 3 : Nat) : Int)) := hc.cell 3
  have HC := Lib.hid hc
  have HE := Lib.hid he
  have Hhas := Lib.hid (fun W => has_any p b hb W)
  rw [hp] at Hhas
  have hgl := he.lt
  have H := Lib.hid (fun W h => eng_grow 2 g tp stays S steps hs ht W h)
  clear hc he hp
  go_enter Try.func6, Try.ntmps6
  go_wp2_with fail
  refine (Hhas.out _).mono ?_
  rintro e w1 ⟨rfl, hbel⟩
  have hc1 := HC.out.below hbel HC.out.lt
  have d7 : w1.cell? ⟨gc, 7, none⟩ = some (.iface 54 (.pointer (some ⟨g, 0, none⟩))) := hc1.cell 7
  have HE1 := Lib.hid (HE.out.below hbel)
  have HB := Lib.hid (hbel.mono (Nat.le_of_lt hgl))
  have HW := Lib.hid hbel
  clear hbel hc1 c0 c1 c2 c3 c7
  go_wp2_with fail
  refine (H.out _ HE1.out).mono ?_
  rintro e w2 ⟨⟨u, rfl⟩, h1⟩
  have H1 := Lib.hid h1
  clear h1
  go_wp2
  go_end0
  exact ⟨⟨_, rfl⟩, H1.out.1, HB.out.trans H1.out.2.1, fun h0 => (H1.out.2.2 h0).after HW.out⟩

theorem counter_clear_2 (g gc tp : Nat) (stays : Bool) (S : Nat → Bool) (steps : Nat) (p : Nat → Bool) (least most size : Int) (b : Nat) (hb : b < 256) (hp : p b = false) (w : World) (hc : Blk w gc 43 (counterCells p least most size (.iface 54 (.pointer (some ⟨g, 0, none⟩))))) (he : EngAt w 2 g tp stays S steps) :
    Calls Try.prog 6 #[.pointer (some ⟨gc, 0, none⟩), .int .u8 ((b : Nat) : Int)] w (Ended (EngNow 2 g tp stays noneB (steps + 1) w)) := by
  have c7 : w.cell? ⟨gc, 7, none⟩ = some (.iface 54 (.pointer (some ⟨g, 0, none⟩))) := hc.cell 7
  have hm : ∀ W : World, (method 194 54 (.pointer (some ⟨g, 0, none⟩)) "riddle/count.clear").run Try.prog W = .ok (61, .pointer (some ⟨g, 0, none⟩)) W := fun _ => by kernel_rfl
  have c0 : w.cell? ⟨gc, 0, none⟩ = some (.int .u64 ((pw p 0 : Nat) : Int)) := hc.cell 0
  have c1 : w.cell? ⟨gc, 1, none⟩ = some (.int .u64 ((pw p 1 : Nat) : Int)) := hc.cell 1
  have c2 : w.cell? ⟨gc, 2, none⟩ = some (.int .u64 ((pw p 2 : Nat) : Int)) := hc.cell 2
  have c3 : w.cell? ⟨gc, 3, none⟩ = some (.int .u64 ((pw p 3 : Nat) : Int)) := hc.cell 3
  have HC := Lib.hid hc
  have HE := Lib.hid he
  have Hhas := Lib.hid (fun W => has_any p b hb W)
  rw [hp] at Hhas
  have hgl := he.lt
  have H := Lib.hid (fun W h => eng_clear 2 g tp stays S steps W h)
  clear hc he hp
  go_enter Try.func6, Try.ntmps6
  go_wp2_with fail
  refine (Hhas.out _).mono ?_
  rintro e w1 ⟨rfl, hbel⟩
  have hc1 := HC.out.below hbel HC.out.lt
  have d7 : w1.cell? ⟨gc, 7, none⟩ = some (.iface 54 (.pointer (some ⟨g, 0, none⟩))) := hc1.cell 7
  have HE1 := Lib.hid (HE.out.below hbel)
  have HB := Lib.hid (hbel.mono (Nat.le_of_lt hgl))
  have HW := Lib.hid hbel
  clear hbel hc1 c0 c1 c2 c3 c7
  go_wp2_with fail
  refine (H.out _ HE1.out).mono ?_
  rintro e w2 ⟨⟨u, rfl⟩, h1⟩
  have H1 := Lib.hid h1
  clear h1
  go_wp2
  go_end0
  exact ⟨⟨_, rfl⟩, H1.out.1.later (Nat.le_succ steps), HB.out.trans H1.out.2.1, fun h0 => (H1.out.2.2 h0).after HW.out⟩

theorem counter_done_2 (g gc tp : Nat) (stays : Bool) (S : Nat → Bool) (steps : Nat) (p : Nat → Bool) (least most size : Int) (hs : steps ≤ 80000) (ht : tp ≤ 400) (hl : 0 ≤ least ∧ least ≤ 1000) (w : World) (hc : Blk w gc 43 (counterCells p least most size (.iface 54 (.pointer (some ⟨g, 0, none⟩))))) (he : EngAt w 2 g tp stays S steps) :
    Calls Try.prog 9 #[.pointer (some ⟨gc, 0, none⟩)] w (SaysDone S least w) := by
  have c7 : w.cell? ⟨gc, 7, none⟩ = some (.iface 54 (.pointer (some ⟨g, 0, none⟩))) := hc.cell 7
  have hm : ∀ W : World, (method 194 54 (.pointer (some ⟨g, 0, none⟩)) "riddle/count.done").run Try.prog W = .ok (62, .pointer (some ⟨g, 0, none⟩)) W := fun _ => by kernel_rfl
  have hna : ∀ W : World, (nilAhead 194 54 (.pointer (some ⟨g, 0, none⟩)) "riddle/count.done").run Try.prog W = .ok (some false) W := fun _ => by kernel_rfl
  have c4 : w.cell? ⟨gc, 4, none⟩ = some (.int .i64 least) := hc.cell 4
  have HE := Lib.hid he
  have H := Lib.hid (fun W h => eng_done 2 g tp stays S steps hs ht least hl W h)
  have hlt := hc.lt
  clear hc he hl
  go_enter Try.func9, Try.ntmps9
  go_wp2
  go_region_held3 (fun w' => w'.cell? ⟨gc, 7, none⟩ = some (.iface 54 (.pointer (some ⟨g, 0, none⟩))) ∧ w'.cell? ⟨gc, 4, none⟩ = some (.int .i64 least) ∧ Below w.heap.size w w')
    (first | exact ⟨c7, c4, (Below.refl _ _).drew⟩ | assumption | (go_split_ands; have hbx := held_step (by assumption) hbel1; exact ⟨(hbx.cell (p := ⟨_, 7, none⟩) hlt).trans c7, (hbx.cell (p := ⟨_, 4, none⟩) hlt).trans c4, hbx⟩))
    ((go_at_call 62; refine (H.out _ (HE.out.below (by go_split_ands; assumption))).mono ?_; rintro e w1 ⟨bb, rfl, hbb, hbel1⟩))
  go_split_ands
  have hbx := (by assumption : Below w.heap.size w _)
  have HB := Lib.hid hbx
  have HBB := Lib.hid hbb
  clear hbx hbb hbel1
  go_wp2
  go_ret
  exact ⟨_, rfl, HBB.out, HB.out⟩
end Go.Proofs.Ytoijilfpfdhppaa

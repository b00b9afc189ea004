/- Walk of count.New. -/
import Derived.Test.YtoijilfpfdhppaaKFc
namespace Go.Proofs.Ytoijilfpfdhppaa
open Go.RowKit

/-- a counter: its struct and its engine -/
def CountAt (w : World) (kind gc g tp : Nat) (stays : Bool) (S : Nat → Bool) (steps : Nat) (p : Nat → Bool) (least most size : Int) : Prop :=
  Blk w gc 43 (counterCells p least most size (.iface (engType kind) (.pointer (some ⟨g, 0, none⟩)))) ∧ EngAt w kind g tp stays S steps ∧ gc < g
def NewGot (kind tp : Nat) (stays : Bool) (p : Nat → Bool) (least most size : Int) (w : World) (e : Ending) (w' : World) : Prop :=
  ∃ gc g, e = .returned (.tuple #[.pointer (some ⟨gc, 0, none⟩), .int .i64 0]) ∧ w.heap.size ≤ gc ∧ CountAt w' kind gc g tp stays noneB 0 p least most size ∧ Below w.heap.size w w'
def NewNot (w : World) (e : Ending) (w' : World) : Prop := e = .returned (.tuple #[.pointer none, .int .i64 2]) ∧ Below w.heap.size w w'

theorem new_made (w : World) (o : Obj) (cc lim ec : Array Value) (tc tl te : TypeId) :
    Blk (((((w.alloc o).alloc (.cells cc tc)).alloc (.cells lim tl)).alloc (.cells ec te))) (w.heap.size + 1) tc cc ∧ Blk (((((w.alloc o).alloc (.cells cc tc)).alloc (.cells lim tl)).alloc (.cells ec te))) (w.heap.size + 1 + 1 + 1) te ec ∧
      Below w.heap.size w (((((w.alloc o).alloc (.cells cc tc)).alloc (.cells lim tl)).alloc (.cells ec te))) := by
  refine ⟨?_, ?_, ?_⟩
  · have := Blk.new (w.alloc o) tc cc
    rw [World.size_alloc] at this
    exact (this.alloc _).alloc _
  · have := Blk.new (((w.alloc o).alloc (.cells cc tc)).alloc (.cells lim tl)) te ec
    rw [World.size_alloc, World.size_alloc, World.size_alloc] at this
    exact this
  · exact ((((Below.refl _ _).alloc (Nat.le_refl _) _).alloc (by simp) _).alloc (by simp; omega) _).alloc (by simp; omega) _
theorem noneB_none (a : Nat) : noneB a = false := rfl

set_option maxHeartbeats 1000000 in
theorem new_0_most (p : Nat → Bool) (tp : Nat) (least : Int) (hl : 0 ≤ least) (hl2 : least ≤ tp) (ht : tp ≤ 200) (w : World) :
    Calls Try.prog 5 #[cval p, .int .i64 least, .int .i64 (tp : Int), .int .i64 0] w (NewGot 0 tp false p least (tp : Int) (((tp : Int) + 8) / 8) w) := by
  have h1 : ¬ least < 0 := by omega
  have h2 : ¬ (200 : Int) < least := by omega
  have h3 : ¬ (200 : Int) < (tp : Int) := by omega
  have h4 : ((tp : Int) != -1) = true := by simp
  have h4' : ((tp : Int) == -1) = false := by simp
  have h5 : decide ((tp : Int) < least) = false := by simp; omega
  obtain ⟨H1, H2, H3⟩ := new_made w (.cells (ccells p) 24) (counterCells p least (tp : Int) (((tp : Int) + 8) / 8) (.iface 46 (.pointer (some ⟨w.heap.size + 1 + 1 + 1, 0, none⟩)))) #[.int .i64 (tp : Int), .bool false] #[.int .i64 (tp : Int), .bool false, .slice none 0 0] 43 45 49
  have G1 := Lib.hid H1
  have G2 : Hid (EngAt _ 0 (w.heap.size + 1 + 1 + 1) tp false noneB 0) := ⟨.slice none 0 0, 0, H2, World.ownsRow_nil _ _ _ _, fun _ _ => rfl, by omega⟩
  have G3 := Lib.hid H3
  clear H1 H2 H3
  go_enter Try.func5, Try.ntmps5
  go_wp2
  go_region
  go_wp2
  go_ret2
  exact ⟨_, w.heap.size + 1 + 1 + 1, rfl, by omega, ⟨G1.out, G2.out.below ((Below.refl _ _).drew), by omega⟩, G3.out.drew⟩

set_option maxHeartbeats 1000000 in
theorem new_0_open (p : Nat → Bool) (tp : Nat) (ht : tp ≤ 200) (w : World) :
    Calls Try.prog 5 #[cval p, .int .i64 (tp : Int), .int .i64 (-1), .int .i64 0] w (NewGot 0 tp true p (tp : Int) (-1) (((tp : Int) + 8) / 8) w) := by
  have h1 : ¬ (tp : Int) < 0 := by omega
  have h2 : ¬ (200 : Int) < (tp : Int) := by omega
  obtain ⟨H1, H2, H3⟩ := new_made w (.cells (ccells p) 24) (counterCells p (tp : Int) (-1) (((tp : Int) + 8) / 8) (.iface 46 (.pointer (some ⟨w.heap.size + 1 + 1 + 1, 0, none⟩)))) #[.int .i64 (tp : Int), .bool true] #[.int .i64 (tp : Int), .bool true, .slice none 0 0] 43 45 49
  have G1 := Lib.hid H1
  have G2 : Hid (EngAt _ 0 (w.heap.size + 1 + 1 + 1) tp true noneB 0) := ⟨.slice none 0 0, 0, H2, World.ownsRow_nil _ _ _ _, fun _ _ => rfl, by omega⟩
  have G3 := Lib.hid H3
  clear H1 H2 H3
  go_enter Try.func5, Try.ntmps5
  go_wp2
  go_region
  go_wp2
  go_ret2
  exact ⟨_, w.heap.size + 1 + 1 + 1, rfl, by omega, ⟨G1.out, G2.out.below ((Below.refl _ _).drew), by omega⟩, G3.out.drew⟩

set_option maxHeartbeats 1000000 in
theorem new_1_most (p : Nat → Bool) (tp : Nat) (least : Int) (hl : 0 ≤ least) (hl2 : least ≤ tp) (ht : tp ≤ 200) (w : World) :
    Calls Try.prog 5 #[cval p, .int .i64 least, .int .i64 (tp : Int), .int .i64 1] w (NewGot 1 tp false p least (tp : Int) (2 * ((tp : Int) + 2)) w) := by
  have h1 : ¬ least < 0 := by omega
  have h2 : ¬ (200 : Int) < least := by omega
  have h3 : ¬ (200 : Int) < (tp : Int) := by omega
  have h4 : ((tp : Int) != -1) = true := by simp
  have h4' : ((tp : Int) == -1) = false := by simp
  have h5 : decide ((tp : Int) < least) = false := by simp; omega
  obtain ⟨H1, H2, H3⟩ := new_made w (.cells (ccells p) 24) (counterCells p least (tp : Int) (2 * ((tp : Int) + 2)) (.iface 50 (.pointer (some ⟨w.heap.size + 1 + 1 + 1, 0, none⟩)))) #[.int .i64 (tp : Int), .bool false] #[.int .i64 (tp : Int), .bool false, .int .i64 0, .slice none 0 0] 43 45 53
  have G1 := Lib.hid H1
  have G2 : Hid (EngAt _ 1 (w.heap.size + 1 + 1 + 1) tp false noneB 0) := ⟨0, [], ⟨.slice none 0 0, H2, RowO.nil _ _⟩, RingInv.none tp 0, (fun a => by simp [noneB]), Int.le_refl _, by simp⟩
  have G3 := Lib.hid H3
  clear H1 H2 H3
  go_enter Try.func5, Try.ntmps5
  go_wp2
  go_region
  go_wp2
  go_ret2
  exact ⟨_, w.heap.size + 1 + 1 + 1, rfl, by omega, ⟨G1.out, G2.out, by omega⟩, G3.out.drew⟩

set_option maxHeartbeats 1000000 in
theorem new_1_open (p : Nat → Bool) (tp : Nat) (ht : tp ≤ 200) (w : World) :
    Calls Try.prog 5 #[cval p, .int .i64 (tp : Int), .int .i64 (-1), .int .i64 1] w (NewGot 1 tp true p (tp : Int) (-1) (2 * ((tp : Int) + 2)) w) := by
  have h1 : ¬ (tp : Int) < 0 := by omega
  have h2 : ¬ (200 : Int) < (tp : Int) := by omega
  obtain ⟨H1, H2, H3⟩ := new_made w (.cells (ccells p) 24) (counterCells p (tp : Int) (-1) (2 * ((tp : Int) + 2)) (.iface 50 (.pointer (some ⟨w.heap.size + 1 + 1 + 1, 0, none⟩)))) #[.int .i64 (tp : Int), .bool true] #[.int .i64 (tp : Int), .bool true, .int .i64 0, .slice none 0 0] 43 45 53
  have G1 := Lib.hid H1
  have G2 : Hid (EngAt _ 1 (w.heap.size + 1 + 1 + 1) tp true noneB 0) := ⟨0, [], ⟨.slice none 0 0, H2, RowO.nil _ _⟩, RingInv.none tp 0, (fun a => by simp [noneB]), Int.le_refl _, by simp⟩
  have G3 := Lib.hid H3
  clear H1 H2 H3
  go_enter Try.func5, Try.ntmps5
  go_wp2
  go_region
  go_wp2
  go_ret2
  exact ⟨_, w.heap.size + 1 + 1 + 1, rfl, by omega, ⟨G1.out, G2.out, by omega⟩, G3.out.drew⟩

set_option maxHeartbeats 1000000 in
theorem new_2_open (p : Nat → Bool) (tp : Nat) (ht : tp ≤ 200) (w : World) :
    Calls Try.prog 5 #[cval p, .int .i64 (tp : Int), .int .i64 (-1), .int .i64 2] w (NewGot 2 tp true p (tp : Int) (-1) 2 w) := by
  have h1 : ¬ (tp : Int) < 0 := by omega
  have h2 : ¬ (200 : Int) < (tp : Int) := by omega
  obtain ⟨H1, H2, H3⟩ := new_made w (.cells (ccells p) 24) (counterCells p (tp : Int) (-1) 2 (.iface 54 (.pointer (some ⟨w.heap.size + 1 + 1 + 1, 0, none⟩)))) #[.int .i64 (tp : Int), .bool true] #[.int .i64 (tp : Int), .bool true, .int .i64 (-1)] 43 45 56
  have G1 := Lib.hid H1
  have G2 : Hid (EngAt _ 2 (w.heap.size + 1 + 1 + 1) tp true noneB 0) := ⟨-1, H2, SpanRel.none tp, rfl⟩
  have G3 := Lib.hid H3
  clear H1 H2 H3
  go_enter Try.func5, Try.ntmps5
  go_wp2
  go_ret2
  exact ⟨_, w.heap.size + 1 + 1 + 1, rfl, by omega, ⟨G1.out, G2.out, by omega⟩, G3.out⟩

theorem new_no_a (p : Nat → Bool) (least most kind : Int) (h1 : least < 0) (w : World) :
    Calls Try.prog 5 #[cval p, .int .i64 least, .int .i64 most, .int .i64 kind] w (NewNot w) := by
  go_enter Try.func5, Try.ntmps5
  go_wp2
  go_ret2
  exact ⟨rfl, ((Below.refl _ _).alloc (Nat.le_refl _) _)⟩

theorem new_no_b (p : Nat → Bool) (least most kind : Int) (h1 : ¬ least < 0) (h2 : 200 < least) (w : World) :
    Calls Try.prog 5 #[cval p, .int .i64 least, .int .i64 most, .int .i64 kind] w (NewNot w) := by
  go_enter Try.func5, Try.ntmps5
  go_wp2
  go_ret2
  exact ⟨rfl, ((Below.refl _ _).alloc (Nat.le_refl _) _)⟩

theorem new_no_c (p : Nat → Bool) (least most kind : Int) (h1 : ¬ least < 0) (h2 : ¬ 200 < least) (h3 : 200 < most) (w : World) :
    Calls Try.prog 5 #[cval p, .int .i64 least, .int .i64 most, .int .i64 kind] w (NewNot w) := by
  go_enter Try.func5, Try.ntmps5
  go_wp2
  go_ret2
  exact ⟨rfl, ((Below.refl _ _).alloc (Nat.le_refl _) _)⟩

theorem new_no_d (p : Nat → Bool) (least most kind : Int) (h1 : ¬ least < 0) (h2 : ¬ 200 < least) (h3 : ¬ 200 < most) (h4 : most ≠ -1) (h5 : most < least) (w : World) :
    Calls Try.prog 5 #[cval p, .int .i64 least, .int .i64 most, .int .i64 kind] w (NewNot w) := by
  have h4' : (most != -1) = true := by simpa using h4
  have h5' : decide (most < least) = true := by simpa using h5
  go_enter Try.func5, Try.ntmps5
  go_wp2
  go_ret2
  exact ⟨rfl, ((Below.refl _ _).alloc (Nat.le_refl _) _)⟩

theorem new_no_e (p : Nat → Bool) (least most kind : Int) (h1 : ¬ least < 0) (h2 : ¬ 200 < least) (h3 : ¬ 200 < most) (h4 : most ≠ -1) (h5 : ¬ most < least) (hk0 : kind ≠ 0) (hk1 : kind ≠ 1) (hk2 : kind ≠ 2) (w : World) :
    Calls Try.prog 5 #[cval p, .int .i64 least, .int .i64 most, .int .i64 kind] w (NewNot w) := by
  have h4' : (most != -1) = true := by simpa using h4
  have h4'' : (most == -1) = false := by simpa using h4
  have h5' : decide (most < least) = false := by simpa using h5
  have k0 : (kind == 0) = false := by simpa using hk0
  have k1 : (kind == 1) = false := by simpa using hk1
  have k2 : (kind == 2) = false := by simpa using hk2
  go_enter Try.func5, Try.ntmps5
  go_wp2
  go_ret2
  exact ⟨rfl, ((((Below.refl _ _).alloc (Nat.le_refl _) _).alloc (by simp) _).alloc (by simp; omega) _)⟩

theorem new_no_f (p : Nat → Bool) (least kind : Int) (h1 : ¬ least < 0) (h2 : ¬ 200 < least) (hk0 : kind ≠ 0) (hk1 : kind ≠ 1) (hk2 : kind ≠ 2) (w : World) :
    Calls Try.prog 5 #[cval p, .int .i64 least, .int .i64 (-1), .int .i64 kind] w (NewNot w) := by
  have k0 : (kind == 0) = false := by simpa using hk0
  have k1 : (kind == 1) = false := by simpa using hk1
  have k2 : (kind == 2) = false := by simpa using hk2
  go_enter Try.func5, Try.ntmps5
  go_wp2
  go_ret2
  exact ⟨rfl, ((((Below.refl _ _).alloc (Nat.le_refl _) _).alloc (by simp) _).alloc (by simp; omega) _)⟩

theorem new_no_g (p : Nat → Bool) (least most : Int) (h1 : ¬ least < 0) (h2 : ¬ 200 < least) (h3 : ¬ 200 < most) (h4 : most ≠ -1) (h5 : ¬ most < least) (w : World) :
    Calls Try.prog 5 #[cval p, .int .i64 least, .int .i64 most, .int .i64 2] w (NewNot w) := by
  have h4' : (most != -1) = true := by simpa using h4
  have h4'' : (most == -1) = false := by simpa using h4
  have h5' : decide (most < least) = false := by simpa using h5
  go_enter Try.func5, Try.ntmps5
  go_wp2
  go_ret2
  exact ⟨rfl, ((((Below.refl _ _).alloc (Nat.le_refl _) _).alloc (by simp) _).alloc (by simp; omega) _)⟩
end Go.Proofs.Ytoijilfpfdhppaa

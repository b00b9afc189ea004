/- Walk of the law's examples (speaks). -/
import Derived.Test.YtnkiiphliilegaaDoorV12
import Derived.Test.YtnkiiphliilegaaDoorSE
namespace Go.Proofs.YtnkiiphliilegaaDoor
open Go.RowKit

theorem pz (i : Nat) : pw zeroP i = 0 := bitsOf_none 64
/-- the cells of the row's kids, and of the row -/
abbrev cells16 : Array Value := #[.int .i64 2, .int .u64 (pw (setOf [97]) 0 : Nat), .int .u64 (pw (setOf [97]) 1 : Nat), .int .u64 (pw (setOf [97]) 2 : Nat), .int .u64 (pw (setOf [97]) 3 : Nat), .int .i64 0, .int .i64 0, .slice none 0 0,
  .int .i64 1, .int .u64 0, .int .u64 0, .int .u64 0, .int .u64 0, .int .i64 0, .int .i64 0, .slice none 0 0]
abbrev cells6 (b : Nat) : Array Value := #[.int .i64 6, .int .u64 0, .int .u64 0, .int .u64 0, .int .u64 0, .int .i64 0, .int .i64 0, .slice (some ⟨b, 0, none⟩) 2 2]
theorem four {P : Nat → Prop} (h0 : P 0) (h1 : P 1) (h2 : P 2) (h3 : P 3) : ∀ i, i < 4 → P i := by
  intro i hi
  have : i = 0 ∨ i = 1 ∨ i = 2 ∨ i = 3 := by omega
  rcases this with rfl | rfl | rfl | rfl
  · exact h0
  · exact h1
  · exact h2
  · exact h3
theorem cat_at {W : World} {P : Nat → Prop} {b : Nat} {t : TypeId} (h : Blk W b t cells16) (hP : P b) : KidsIn W P (some ⟨b, 0, none⟩) [.node 2 (setOf [97]) 0 0 [], .node 1 zeroP 0 0 []] := by
  refine .inr ⟨b, 0, rfl, hP, ?_⟩
  unfold KidsAt KidsAt KidsAt
  refine ⟨?_, ?_, trivial⟩
  · unfold TermAt
    simp only [h.cell]
    exact ⟨rfl, four rfl rfl rfl rfl, rfl, rfl, none, 0, rfl, .inl trivial⟩
  · unfold TermAt
    simp only [h.cell, pz]
    exact ⟨rfl, four rfl rfl rfl rfl, rfl, rfl, none, 0, rfl, .inl trivial⟩
theorem rep_at {W : World} {P : Nat → Prop} {b b2 : Nat} {t t2 : TypeId} (h : Blk W b t cells16) (h2 : Blk W b2 t2 (cells6 b)) (hP : P b) (hP2 : P b2) : KidsIn W P (some ⟨b2, 0, none⟩) [catT] := by
  have hk := cat_at h hP
  refine .inr ⟨b2, 0, rfl, hP2, ?_⟩
  unfold KidsAt KidsAt
  refine ⟨?_, trivial⟩
  unfold catT TermAt
  simp only [h2.cell, pz]
  exact ⟨rfl, four rfl rfl rfl rfl, rfl, rfl, _, 2, rfl, hk⟩

theorem setK_any (k : Array UInt8) (L : List Nat) (hk : strL L = ByteArray.mk k) (hL : Bytes8 L) (hn : L.length ≤ 100) (w : World) :
    Calls Tryd.prog 11 #[.string (ByteArray.mk k)] w fun e w' => e = .returned (tval 2 (setOf L) 0 0 none 0 0) ∧ Below w.heap.size w w' := by
  rw [← hk]
  exact set_any L hL hn w
theorem showsK_any (k : Array UInt8) (L S : List Nat) (hk : strL L = ByteArray.mk k) (w : World) (hT : Tabs w) (hs : saysOf (.node 2 (setOf S) 0 0 []) = (L, 0)) :
    Calls Tryd.prog 12 #[tval 2 (setOf S) 0 0 none 0 0, .string (ByteArray.mk k)] w fun e w' => e = .returned (.bool true) ∧ Below w.heap.size w w' := by
  rw [← hk]
  exact shows_any 2 (setOf S) 0 0 [] none 0 L w (by simp [nodesL]) (.inl rfl) hT hs
theorem shows_rep (b : Nat) (w : World) (hT : Tabs w) (hk : KidsIn w (· < w.heap.size) (some ⟨b, 0, none⟩) [catT]) :
    Calls Tryd.prog 12 #[.agg #[.int .i64 8, .int .u64 0, .int .u64 0, .int .u64 0, .int .u64 0, .int .i64 2, .int .i64 2, .slice (some ⟨b, 0, none⟩) 1 1], .string (ByteArray.mk #[40, 97, 40, 41, 41, 123, 50, 125])] w fun e w' => e = .returned (.bool true) ∧ Below w.heap.size w w' := by
  have h := shows_any 8 zeroP 2 2 [catT] (some ⟨b, 0, none⟩) 1 [40, 97, 40, 41, 41, 123, 50, 125] w nodes_rep hk hT says_rep
  unfold tval tcells at h
  rw [pz, pz, pz, pz] at h
  exact h
theorem check_a (w : World) (hT : Tabs w) : Calls Tryd.prog 9 #[tval 2 (setOf [97]) 0 0 none 0 0] w fun e w' => e = .returned (.int .i64 0) ∧ Below w.heap.size w w' := by
  have h := check_any 2 (setOf [97]) 0 0 [] none 0 w (by simp [nodesL]) (.inl rfl) hT
  rw [says_a] at h
  exact h
theorem b8 {L : List Nat} (h : ∀ c ∈ L, c < 256) : Bytes8 L := h

set_option maxRecDepth 100000 in
set_option maxHeartbeats 8000000 in
theorem speaks_any (w : World) (hT : Tabs w) : Calls Tryd.prog 4 #[] w fun e w' => e = .returned (.bool true) ∧ Below w.heap.size w w' := by
  have HT := Lib.hid hT
  have Hs1 := Lib.hid (setK_any #[97] [97] rfl (by intro c hc; simp at hc; omega) (by simp))
  have Hs2 := Lib.hid (setK_any #[97, 98, 99, 120] [97, 98, 99, 120] rfl (by intro c hc; simp at hc; omega) (by simp))
  have Hs3 := Lib.hid (setK_any #[124] [124] rfl (by intro c hc; simp at hc; omega) (by simp))
  have Hw2 := Lib.hid (fun W h => showsK_any #[91, 97, 45, 99, 120, 93] [91, 97, 45, 99, 120, 93] [97, 98, 99, 120] rfl W h says_b)
  have Hw3 := Lib.hid (fun W h => showsK_any #[92, 120, 55, 99] [92, 120, 55, 99] [124] rfl W h says_c)
  have hs2 := hT.size
  clear hT
  go_enter Tryd.func4, Tryd.ntmps4
  go_wp2_with fail
  refine (Hs1.out _).mono ?_
  rintro e w1 ⟨rfl, hb1⟩
  have hz1 := hb1.size
  have k16 := ((Blk.new w1 27 cells16).alloc (.cells (cells6 w1.heap.size) 27)).alloc (.cells (cells6 w1.heap.size) 27)
  have k6 := Blk.new ((w1.alloc (.cells cells16 27)).alloc (.cells (cells6 w1.heap.size) 27)) 27 (cells6 w1.heap.size)
  rw [World.size_alloc, World.size_alloc] at k6
  have hbw := ((hb1.alloc hz1 (.cells cells16 27)).alloc (by simp; omega) (.cells (cells6 w1.heap.size) 27)).alloc (by simp; omega) (.cells (cells6 w1.heap.size) 27)
  have Hcall := Lib.hid (shows_rep (w1.heap.size + 1 + 1) _ (HT.out.below hbw hs2) (rep_at (P := (· < ((((w1.alloc (.cells cells16 27)).alloc (.cells (cells6 w1.heap.size) 27)).alloc (.cells (cells6 w1.heap.size) 27)).heap.size))) k16 k6 (by simp; omega) (by simp)))
  have Hbw := Lib.hid hbw
  clear k16 k6 hbw hb1
  go_wp2_with fail
  refine Hcall.out.mono ?_
  rintro e w2 ⟨rfl, hb2⟩
  have hbw2 := Hbw.out.trans (hb2.mono Hbw.out.size)
  clear Hcall Hbw hb2
  go_wp2_with fail
  refine (Hs2.out _).mono ?_
  rintro e w3 ⟨rfl, hb3⟩
  have hbw3 := hbw2.trans (hb3.mono hbw2.size)
  clear hb3 hbw2
  go_wp2_with fail
  refine (Hw2.out _ (HT.out.below hbw3 hs2)).mono ?_
  rintro e w4 ⟨rfl, hb4⟩
  have hbw4 := hbw3.trans (hb4.mono hbw3.size)
  clear hb4 hbw3
  go_wp2_with fail
  refine (Hs3.out _).mono ?_
  rintro e w5 ⟨rfl, hb5⟩
  have hbw5 := hbw4.trans (hb5.mono hbw4.size)
  clear hb5 hbw4
  go_wp2_with fail
  refine (Hw3.out _ (HT.out.below hbw5 hs2)).mono ?_
  rintro e w6 ⟨rfl, hb6⟩
  have hbw6 := hbw5.trans (hb6.mono hbw5.size)
  clear hb6 hbw5
  go_wp2_with fail
  refine (Hs1.out _).mono ?_
  rintro e w7 ⟨rfl, hb7⟩
  have hbw7 := hbw6.trans (hb7.mono hbw6.size)
  clear hb7 hbw6
  go_wp2_with fail
  refine (check_a _ (HT.out.below hbw7 hs2)).mono ?_
  rintro e w8 ⟨rfl, hb8⟩
  have hbw8 := hbw7.trans (hb8.mono hbw7.size)
  go_wp2
  go_ret
  exact ⟨rfl, hbw8⟩
end Go.Proofs.YtnkiiphliilegaaDoor

/- Walk of show.right. -/
import Derived.Test.YtnkiiphliilegaaDoorT2
import Derived.Test.YtnkiiphliilegaaDoorSRg
namespace Go.Proofs.YtnkiiphliilegaaDoor
open Go.RowKit

theorem bitsOf_zero_iff : ∀ (n : Nat) (f : Nat → Bool), bitsOf f n = 0 ↔ ∀ j, j < n → f j = false := fun n f => by
  have h0 := bitsOf_none n
  constructor
  · intro h j hj
    exact bitsOf_inj (h.trans h0.symm) j hj
  · intro h
    rw [bitsOf_congr (g := fun _ => false) h]
    exact h0
theorem noneF_words (p : Nat → Bool) : (((pw p 0 : Nat) : Int) == 0 && ((((pw p 1 : Nat) : Int) == 0) && ((((pw p 2 : Nat) : Int) == 0) && (((pw p 3 : Nat) : Int) == 0)))) = noneF p := by
  rw [Bool.eq_iff_iff]
  simp only [Bool.and_eq_true, beq_iff_eq, noneF, List.all_eq_true, List.mem_range, Bool.not_eq_true']
  have e : ∀ i, ((pw p i : Nat) : Int) = 0 ↔ ∀ j, j < 64 → p (64 * i + j) = false := fun i => by
    rw [show ((pw p i : Nat) : Int) = 0 ↔ pw p i = 0 by omega]
    exact bitsOf_zero_iff 64 _
  rw [e 0, e 1, e 2, e 3]
  constructor
  · rintro ⟨h0, h1, h2, h3⟩ b hb
    have : b / 64 = 0 ∨ b / 64 = 1 ∨ b / 64 = 2 ∨ b / 64 = 3 := by omega
    rcases this with h | h | h | h
    · have := h0 (b % 64) (by omega); rwa [show 64 * 0 + b % 64 = b by omega] at this
    · have := h1 (b % 64) (by omega); rwa [show 64 * 1 + b % 64 = b by omega] at this
    · have := h2 (b % 64) (by omega); rwa [show 64 * 2 + b % 64 = b by omega] at this
    · have := h3 (b % 64) (by omega); rwa [show 64 * 3 + b % 64 = b by omega] at this
  · intro h
    exact ⟨fun j hj => h _ (by omega), fun j hj => h _ (by omega), fun j hj => h _ (by omega), fun j hj => h _ (by omega)⟩
/-- a class against the class of nothing -/
theorem neq_none (p : Nat → Bool) (w : World) : (binOp .neq 24 (cval p) (.agg #[.int .u64 0, .int .u64 0, .int .u64 0, .int .u64 0])).run Tryd.prog w = .ok (.bool (!noneF p)) w := by
  simp only [binOp, Op.equal, Op.maxDepth, Sem.run_bind]
  rw [eqlIn_class 9998, noneF_words]
  simp

set_option maxHeartbeats 4000000 in
theorem right_step (N : Nat) (ih : RightOk 14 false N) : RightOk 14 false (N + 1) := by
  intro op p mn mx ks A c w hN hN1 hks
  have hb0 : Below w.heap.size w (w.alloc (.cells (tcells op p mn mx A ks.length c) 27)) := (Below.refl _ _).alloc (Nat.le_refl _) _
  have Hblk := Lib.hid (Blk.new w 27 (tcells op p mn mx A ks.length c))
  have Hk := Lib.hid (fun W (hb : Below w.heap.size w W) => contains_any N (closure_any N ih) ks A c W (by omega) (by omega) (hks.below hb hb.size))
  have Hkids := Lib.hid (kids_any op p mn mx A ks.length c)
  have Hnums := Lib.hid (numbers_any op p mn mx A ks.length c)
  have hneq := neq_none p
  have hT : rightT (.node op p mn mx ks) = (decide (1 ≤ op) && decide (op ≤ 8) && kidsB op ks.length && numsB op mn mx && (decide (op = 2) || noneF p) && rightL ks) := rfl
  have Hb0 := Lib.hid hb0
  rw [hT]
  clear hb0 hks ih hT hN hN1
  generalize rightL ks = rl at *
  generalize ks.length = n at *
  have HB : Hid (∀ W, Blk W w.heap.size 27 (tcells op p mn mx A n c) → W.cell? ⟨w.heap.size, 0, none⟩ = some (.int .i64 op) ∧ W.cell? ⟨w.heap.size, 1, none⟩ = some (.int .u64 (pw p 0 : Nat)) ∧ W.cell? ⟨w.heap.size, 2, none⟩ = some (.int .u64 (pw p 1 : Nat)) ∧ W.cell? ⟨w.heap.size, 3, none⟩ = some (.int .u64 (pw p 2 : Nat)) ∧
    W.cell? ⟨w.heap.size, 4, none⟩ = some (.int .u64 (pw p 3 : Nat)) ∧ W.cell? ⟨w.heap.size, 5, none⟩ = some (.int .i64 mn) ∧ W.cell? ⟨w.heap.size, 6, none⟩ = some (.int .i64 mx) ∧ W.cell? ⟨w.heap.size, 7, none⟩ = some (.slice A n c)) :=
    Lib.hid (fun W h => ⟨h.cell 0, h.cell 1, h.cell 2, h.cell 3, h.cell 4, h.cell 5, h.cell 6, h.cell 7⟩)
  by_cases h1 : 1 ≤ op
  rotate_left
  · clear hneq
    go_enter Tryd.func14, Tryd.ntmps14
    go_wp2
    go_ret
    exact ⟨ret_bool (by simp; intros; omega), Hb0.out⟩
  by_cases h2 : op ≤ 8
  rotate_left
  · clear hneq
    go_enter Tryd.func14, Tryd.ntmps14
    go_wp2
    go_ret
    exact ⟨ret_bool (by simp; intros; omega), Hb0.out⟩
  cases hkB : kidsB op n
  · rw [hkB] at Hkids
    clear hneq
    go_enter Tryd.func14, Tryd.ntmps14
    go_wp2_with (go_at_call 21; refine (Hkids.out _).mono ?_; rintro e w1 ⟨rfl, hb1⟩)
    go_ret
    exact ⟨ret_bool (by simp), Hb0.out.trans (hb1.mono Hb0.out.size)⟩
  cases hnB : numsB op mn mx
  · rw [hkB] at Hkids
    rw [hnB] at Hnums
    clear hneq
    go_enter Tryd.func14, Tryd.ntmps14
    go_wp2_with fail
    refine (Hkids.out _).mono ?_
    rintro e w1 ⟨rfl, hb1⟩
    have hblk1 := Hblk.out.below hb1 (by simp)
    have hbw := Hb0.out.trans (hb1.mono Hb0.out.size)
    obtain ⟨c0, c1, c2, c3, c4, c5, c6, c7⟩ := HB.out _ hblk1
    clear hb1
    go_wp2_with fail
    refine (Hnums.out _).mono ?_
    rintro e w2 ⟨rfl, hb2⟩
    go_wp2
    go_ret
    exact ⟨ret_bool (by simp), hbw.trans (hb2.mono hbw.size)⟩
  rw [hkB] at Hkids
  rw [hnB] at Hnums
  by_cases h3 : op = 2
  · subst h3
    clear hneq
    go_enter Tryd.func14, Tryd.ntmps14
    go_wp2_with fail
    refine (Hkids.out _).mono ?_
    rintro e w1 ⟨rfl, hb1⟩
    have hblk1 := Hblk.out.below hb1 (by simp)
    have hbw := Hb0.out.trans (hb1.mono Hb0.out.size)
    obtain ⟨c0, c1, c2, c3, c4, c5, c6, c7⟩ := HB.out _ hblk1
    clear hb1
    go_wp2_with fail
    refine (Hnums.out _).mono ?_
    rintro e w2 ⟨rfl, hb2⟩
    have hblk2 := hblk1.below hb2 hblk1.lt
    have hbw2 := hbw.trans (hb2.mono hbw.size)
    clear c0 c1 c2 c3 c4 c5 c6 c7
    obtain ⟨c0, c1, c2, c3, c4, c5, c6, c7⟩ := HB.out _ hblk2
    clear hb2
    go_wp2_with fail
    refine (Hk.out _ hbw2).mono ?_
    rintro e w3 ⟨rfl, hb3⟩
    go_wp2
    go_ret
    exact ⟨ret_bool (by simp), hbw2.trans (hb3.mono hbw2.size)⟩
  · have e3 : (op != 2) = true := by simpa using h3
    cases hnone : noneF p
    all_goals
      rw [hnone] at hneq
      have Hneq := Lib.hid hneq
      clear hneq
      go_enter Tryd.func14, Tryd.ntmps14
      go_wp2_with fail
      refine (Hkids.out _).mono ?_
      rintro e w1 ⟨rfl, hb1⟩
      have hblk1 := Hblk.out.below hb1 (by simp)
      have hbw := Hb0.out.trans (hb1.mono Hb0.out.size)
      obtain ⟨c0, c1, c2, c3, c4, c5, c6, c7⟩ := HB.out _ hblk1
      clear hb1
      go_wp2_with fail
      refine (Hnums.out _).mono ?_
      rintro e w2 ⟨rfl, hb2⟩
      have hblk2 := hblk1.below hb2 hblk1.lt
      have hbw2 := hbw.trans (hb2.mono hbw.size)
      clear c0 c1 c2 c3 c4 c5 c6 c7
      obtain ⟨c0, c1, c2, c3, c4, c5, c6, c7⟩ := HB.out _ hblk2
      clear hb2
      have hneq := Hneq.out
      go_wp2_with fail
    · go_ret
      exact ⟨ret_bool (by simp [h3]), hbw2⟩
    · refine (Hk.out _ hbw2).mono ?_
      rintro e w3 ⟨rfl, hb3⟩
      go_wp2
      go_ret
      exact ⟨ret_bool (by simp; intros; omega), hbw2.trans (hb3.mono hbw2.size)⟩

theorem right_all : ∀ N, RightOk 14 false N
  | 0 => fun _ _ _ _ _ _ _ _ h => by omega
  | N + 1 => right_step N (right_all N)
end Go.Proofs.YtnkiiphliilegaaDoor

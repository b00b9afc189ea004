/- Walks of riddleref05.size and Great. · Walks of show.kids and show.numbers. -/
import Derived.Test.YtnkiiphliilegaaDoorS2
import Derived.Test.YtnkiiphliilegaaDoorRows
import Derived.WalkKit
import Derived.Lib.Hide
import Derived.Deep.CutRange
import Derived.Deep.DeepCutAuto
namespace Go.Proofs.YtnkiiphliilegaaDoor
section
open Go.RowKit

theorem sizeL_stop (ks : List Tm) (dp n : Nat) (h : ¬ n ≤ 500) : sizeL ks dp n = n := by
  cases ks with
  | nil => rfl
  | cons k ks => unfold sizeL; rw [if_neg h]
theorem sizeL_step (ks : List Tm) (dp n i : Nat) (hi : i < ks.length) (h : n ≤ 500) : sizeL (ks.drop i) dp n = sizeL (ks.drop (i + 1)) dp (n + sizeT ks[i] dp) := by
  rw [List.drop_eq_getElem_cons hi]
  show (if n ≤ 500 then _ else _) = _
  rw [if_pos h]
theorem sizeT_pos (t : Tm) (dp : Nat) : 1 ≤ sizeT t dp := by
  cases t
  unfold sizeT
  split
  · omega
  · exact sizeL_le _ _ _

set_option maxHeartbeats 2000000 in
theorem size_any : ∀ (N : Nat) (op : Int) (p : Nat → Bool) (mn mx : Int) (ks : List Tm) (A : Option Addr) (c dp : Nat) (w : World), nodesL ks < N → dp ≤ 61 → KidsIn w (· < w.heap.size) A ks →
    Calls Tryd.prog 13 #[tval op p mn mx A ks.length c, .int .i64 (dp : Int)] w fun e w' => e = .returned (.int .i64 (sizeT (.node op p mn mx ks) dp : Nat)) ∧ Below w.heap.size w w' := by
  intro N
  induction N with
  | zero => intro op p mn mx ks A c dp w h; omega
  | succ N ih =>
    intro op p mn mx ks A c dp w hN hdp hks
    by_cases h60 : 60 < dp
    · have hs : sizeT (.node op p mn mx ks) dp = 1000000 := by unfold sizeT; rw [if_pos h60]
      rw [hs]
      go_enter Tryd.func13, Tryd.ntmps13
      go_wp2
      go_ret
      exact ⟨rfl, (Below.refl _ _).alloc (Nat.le_refl _) _⟩
    · have hs : sizeT (.node op p mn mx ks) dp = sizeL (ks.drop 0) (dp + 1) 1 := by unfold sizeT; rw [if_neg h60, List.drop_zero]
      rw [hs]
      obtain ⟨n, hn⟩ : ∃ n, n = ks.length := ⟨_, rfl⟩
      rw [← hn]
      have Hn := Lib.hid hn
      have Hb := Lib.hid (Blk.new w 27 (tcells op p mn mx A n c))
      have Hk := Lib.hid hks
      have Hih := Lib.hid ih
      clear hn hs hks ih
      go_enter Tryd.func13, Tryd.ntmps13
      go_wp2
      go_loopw [5, 6] (fun s i wr => ∃ k m : Nat, k ≤ n ∧ k < m ∧ m ≤ 1040000 ∧ s = .int .i64 m ∧ i = .int .i64 k ∧ Hid (sizeL (ks.drop k) (dp + 1) m = sizeL (ks.drop 0) (dp + 1) 1) ∧ Blk wr w.heap.size 27 (tcells op p mn mx A n c) ∧ Below w.heap.size w wr) (fun _ i _ => n - (intOf i).toNat)
      case atStart => exact ⟨0, 1, Nat.zero_le _, by omega, by omega, rfl, rfl, rfl, Hb.out, (Below.refl _ _).alloc (Nat.le_refl _) _⟩
      case round =>
        clear Hb
        obtain ⟨k, m, hk, hkm, hm, rfl, rfl, Hrel, hblk, hbel⟩ := hrel
        have c7 := hblk.cell 7
        simp only [List.getElem?_toArray, List.getElem?_cons_zero, List.getElem?_cons_succ] at c7
        by_cases hlt : k < n
        · by_cases h5 : m ≤ 500
          · have hkl : k < ks.length := by have := Hn.out; omega
            obtain ⟨b, off, op', p', mn', mx', ks', A', c', rfl, hbB, hkid, hcells, hks'⟩ := Hk.out.kid k hkl
            have hcells' := hcells.keep (w' := wr) fun x => hbel.cell (p := ⟨b, x, none⟩) hbB
            have hks2 := hks'.below hbel hbel.size
            have Hst := Lib.hid (sizeL_step ks (dp + 1) m k hkl h5)
            have hnk : nodesL ks' < N := by
              have := nodesL_at ks k hkl
              rw [hkid] at this
              unfold nodes at this
              omega
            have hle := sizeT_le ks[k] (dp + 1) (by omega)
            have hpos := sizeT_pos ks[k] (dp + 1)
            rw [hkid] at Hst hle hpos
            have hcall := Hih.out op' p' mn' mx' ks' A' c' (dp + 1) wr hnk (by omega) hks2
            rw [show ((dp + 1 : Nat) : Int) = (dp : Int) + 1 by omega] at hcall
            obtain ⟨e0, e1, e2, e3, e4, e5, e6, e7⟩ := hcells'
            generalize sizeT (.node op' p' mn' mx' ks') (dp + 1) = z at *
            have Hcall := Lib.hid hcall
            clear hkid hcells hks' hks2 hcall hnk
            generalize ks'.length = n' at *
            go_wp2_with (go_at_call 13; refine Hcall.out.mono ?_; rintro e w1 ⟨rfl, hb1⟩)
            go_roundw
            case rel => exact ⟨k + 1, m + z, by omega, by omega, by omega, by go_num, by go_num, by rw [← Hst.out]; exact Hrel, hblk.below hb1 hblk.lt, hbel.trans (hb1.mono hbel.size)⟩
            case measure => simp [intOf]; omega
          · have Hend : Hid (m = sizeL (ks.drop 0) (dp + 1) 1) := Lib.hid (by rw [← Hrel.out, sizeL_stop _ _ _ h5])
            go_wp2
            go_ret
            exact ⟨by rw [← Hend.out]; rfl, hbel⟩
        · have Hend : Hid (m = sizeL (ks.drop 0) (dp + 1) 1) := Lib.hid (by rw [← Hrel.out, List.drop_eq_nil_of_le (by have := Hn.out; omega)]; rfl)
          go_wp2
          go_ret
          exact ⟨by rw [← Hend.out]; rfl, hbel⟩
theorem great_any (op : Int) (p : Nat → Bool) (mn mx : Int) (ks : List Tm) (A : Option Addr) (c : Nat) (w : World) (hks : KidsIn w (· < w.heap.size) A ks) :
    Calls Tryd.prog 5 #[tval op p mn mx A ks.length c] w fun e w' => e = .returned (.bool (decide (500 < sizeT (.node op p mn mx ks) 0))) ∧ Below w.heap.size w w' := by
  have hb0 : Below w.heap.size w (w.alloc (.cells (tcells op p mn mx A ks.length c) 27)) := (Below.refl _ _).alloc (Nat.le_refl _) _
  have Hcall := Lib.hid (size_any (nodesL ks + 1) op p mn mx ks A c 0 _ (by omega) (by omega) (hks.below hb0 hb0.size))
  have Hb0 := Lib.hid hb0
  clear hb0 hks
  by_cases h : 500 < sizeT (.node op p mn mx ks) 0
  all_goals
    generalize sizeT (.node op p mn mx ks) 0 = z at *
    generalize ks.length = n at *
    go_enter Tryd.func5, Tryd.ntmps5
    go_wp2_with (go_at_call 13; refine Hcall.out.mono ?_; rintro e w1 ⟨rfl, hb1⟩)
    go_ret
    exact ⟨by simp [h]; omega, Hb0.out.trans (hb1.mono Hb0.out.size)⟩
end

section
open Go.RowKit

def kidsB (op : Int) (n : Nat) : Bool := if op = 6 ∨ op = 7 then decide (2 ≤ n) else if op = 8 then decide (n = 1) else decide (n = 0)
def numsB (op mn mx : Int) : Bool := if op = 8 then decide (0 ≤ mn) && decide (mn ≤ 200) && decide (mx ≤ 200) && (decide (mx = -1) || decide (mn ≤ mx)) else decide (mn = 0) && decide (mx = 0)
theorem ret_bool {a b : Bool} (h : a = b) : Ending.returned (.bool a) = .returned (.bool b) := by rw [h]
theorem ne_false {a b : Int} (h : ¬ a = b) : (a == b) = false := by simpa using h

section
variable (op : Int) (p : Nat → Bool) (mn mx : Int) (A : Option Addr) (n c : Nat) (w : World)
theorem kids_any : Calls Tryd.prog 21 #[tval op p mn mx A n c] w fun e w' => e = .returned (.bool (kidsB op n)) ∧ Below w.heap.size w w' := by
  by_cases h6 : op = 6
  · subst h6
    by_cases h : 2 ≤ n
    all_goals
      go_enter Tryd.func21, Tryd.ntmps21
      go_wp2
      go_ret
      exact ⟨ret_bool (by simp [kidsB]; first | omega | (rw [Bool.eq_iff_iff]; simp <;> omega)), (Below.refl _ _).alloc (Nat.le_refl _) _⟩
  by_cases h7 : op = 7
  · subst h7
    by_cases h : 2 ≤ n
    all_goals
      go_enter Tryd.func21, Tryd.ntmps21
      go_wp2
      go_ret
      exact ⟨ret_bool (by simp [kidsB]; first | omega | (rw [Bool.eq_iff_iff]; simp <;> omega)), (Below.refl _ _).alloc (Nat.le_refl _) _⟩
  by_cases h8 : op = 8
  · subst h8
    by_cases h : n = 1
    all_goals
      go_enter Tryd.func21, Tryd.ntmps21
      go_wp2
      go_ret
      exact ⟨ret_bool (by simp [kidsB]; first | omega | (rw [Bool.eq_iff_iff]; simp <;> omega)), (Below.refl _ _).alloc (Nat.le_refl _) _⟩
  · have e6 := ne_false h6
    have e7 := ne_false h7
    have e8 := ne_false h8
    by_cases h : n = 0
    all_goals
      go_enter Tryd.func21, Tryd.ntmps21
      go_wp2
      go_ret
      exact ⟨ret_bool (by simp [kidsB, h6, h7, h8]; first | omega | (rw [Bool.eq_iff_iff]; simp <;> omega)), (Below.refl _ _).alloc (Nat.le_refl _) _⟩

theorem numbers_any : Calls Tryd.prog 22 #[tval op p mn mx A n c] w fun e w' => e = .returned (.bool (numsB op mn mx)) ∧ Below w.heap.size w w' := by
  by_cases h8 : op = 8
  · subst h8
    by_cases a1 : 0 ≤ mn
    · by_cases a2 : mn ≤ 200
      · by_cases a3 : mx ≤ 200
        · by_cases a4 : mx = -1
          · subst a4
            go_enter Tryd.func22, Tryd.ntmps22
            go_wp2
            go_ret
            exact ⟨ret_bool (by simp [numsB, a1, a2]), (Below.refl _ _).alloc (Nat.le_refl _) _⟩
          · have e4 := ne_false a4
            by_cases a5 : mn ≤ mx
            all_goals
              go_enter Tryd.func22, Tryd.ntmps22
              go_wp2
              go_ret
              exact ⟨ret_bool (by simp [numsB, a1, a2, a3, a4, a5]), (Below.refl _ _).alloc (Nat.le_refl _) _⟩
        · go_enter Tryd.func22, Tryd.ntmps22
          go_wp2
          go_ret
          exact ⟨ret_bool (by simp [numsB]; intros; omega), (Below.refl _ _).alloc (Nat.le_refl _) _⟩
      · go_enter Tryd.func22, Tryd.ntmps22
        go_wp2
        go_ret
        exact ⟨ret_bool (by simp [numsB]; intros; omega), (Below.refl _ _).alloc (Nat.le_refl _) _⟩
    · go_enter Tryd.func22, Tryd.ntmps22
      go_wp2
      go_ret
      exact ⟨ret_bool (by simp [numsB]; intros; omega), (Below.refl _ _).alloc (Nat.le_refl _) _⟩
  · have e8 := ne_false h8
    by_cases a1 : mn = 0
    · subst a1
      by_cases a2 : mx = 0
      · subst a2
        go_enter Tryd.func22, Tryd.ntmps22
        go_wp2
        go_ret
        exact ⟨ret_bool (by simp [numsB, h8]), (Below.refl _ _).alloc (Nat.le_refl _) _⟩
      · have e2 := ne_false a2
        go_enter Tryd.func22, Tryd.ntmps22
        go_wp2
        go_ret
        exact ⟨ret_bool (by simp [numsB, h8, a2]), (Below.refl _ _).alloc (Nat.le_refl _) _⟩
    · have e1 := ne_false a1
      go_enter Tryd.func22, Tryd.ntmps22
      go_wp2
      go_ret
      exact ⟨ret_bool (by simp [numsB, h8, a1]), (Below.refl _ _).alloc (Nat.le_refl _) _⟩
end
end
end Go.Proofs.YtnkiiphliilegaaDoor

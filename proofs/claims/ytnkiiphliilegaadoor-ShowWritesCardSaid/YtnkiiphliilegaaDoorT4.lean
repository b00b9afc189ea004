/- Walk of riddleref06.Right. -/
import Derived.Test.YtnkiiphliilegaaDoorT3
namespace Go.Proofs.YtnkiiphliilegaaDoor
open Go.RowKit

theorem eq_true {a b : Int} (h : a = b) : (a == b) = true := by simpa using h
theorem neq_true {a b : Int} (h : ¬ a = b) : (a != b) = true := by simpa using h
theorem neq_false {a b : Int} (h : a = b) : (a != b) = false := by simpa using h
/-- what the walk of a term's own tests asks, all at once -/
structure OpIs (op : Int) (b2 l6 b6 b7 b8 : Bool) : Prop where
  n2 : (op != 2) = !b2
  l6 : decide (op < 6) = l6
  e6 : (op == 6) = b6
  e7 : (op == 7) = b7
  e8 : (op == 8) = b8
  n8 : (op != 8) = !b8

def RefRightOk (N : Nat) : Prop := ∀ (op : Int) (p : Nat → Bool) (mn mx : Int) (ks : List Tm) (A : Option Addr) (c : Nat) (w : World), nodesL ks < N → N ≤ 1000 → KidsIn w (· < w.heap.size) A ks →
    Calls Tryd.prog 18 #[tval op p mn mx A ks.length c] w fun e w' => e = .returned (.bool (rightT (.node op p mn mx ks))) ∧ Below w.heap.size w w'
theorem rightT_no {op : Int} {p : Nat → Bool} {mn mx : Int} {ks : List Tm} (h : (decide (1 ≤ op) && decide (op ≤ 8) && kidsB op ks.length && numsB op mn mx && (decide (op = 2) || noneF p)) = false) : rightT (.node op p mn mx ks) = false := by
  have hT : rightT (.node op p mn mx ks) = (decide (1 ≤ op) && decide (op ≤ 8) && kidsB op ks.length && numsB op mn mx && (decide (op = 2) || noneF p) && rightL ks) := rfl
  rw [hT, h]
  rfl
theorem rightT_yes {op : Int} {p : Nat → Bool} {mn mx : Int} {ks : List Tm} (h : (decide (1 ≤ op) && decide (op ≤ 8) && kidsB op ks.length && numsB op mn mx && (decide (op = 2) || noneF p)) = true) : rightT (.node op p mn mx ks) = rightL ks := by
  have hT : rightT (.node op p mn mx ks) = (decide (1 ≤ op) && decide (op ≤ 8) && kidsB op ks.length && numsB op mn mx && (decide (op = 2) || noneF p) && rightL ks) := rfl
  rw [hT, h]
  rfl
/-- the node's own part is wrong -/
def WrongNode (op : Int) (p : Nat → Bool) (mn mx : Int) (n : Nat) : Prop := (decide (1 ≤ op) && decide (op ≤ 8) && kidsB op n && numsB op mn mx && (decide (op = 2) || noneF p)) = false

section
variable (op : Int) (p : Nat → Bool) (mn mx : Int) (A : Option Addr) (n c : Nat) (w : World)
def NoOk : Prop := Calls Tryd.prog 18 #[tval op p mn mx A n c] w fun e w' => e = .returned (.bool false) ∧ Below w.heap.size w w'

set_option maxHeartbeats 4000000 in
theorem refRight_out (h : op < 1 ∨ 8 < op) : NoOk op p mn mx A n c w := by
  unfold NoOk
  rcases h with h | h
  · go_enter Tryd.func18, Tryd.ntmps18
    go_wp2
    go_ret
    exact ⟨rfl, (Below.refl _ _).alloc (Nat.le_refl _) _⟩
  · have h1 : 1 ≤ op := by omega
    go_enter Tryd.func18, Tryd.ntmps18
    go_wp2
    go_ret
    exact ⟨rfl, (Below.refl _ _).alloc (Nat.le_refl _) _⟩
set_option maxHeartbeats 8000000 in
theorem refRight_kids (h1 : 1 ≤ op) (h8 : op ≤ 8) (h : kidsB op n = false) : NoOk op p mn mx A n c w := by
  unfold NoOk
  unfold kidsB at h
  by_cases h6 : op < 6
  · rw [if_neg (by omega), if_neg (by omega)] at h
    have hn : ((n : Int) != 0) = true := neq_true (by simp at h; omega)
    clear h
    go_enter Tryd.func18, Tryd.ntmps18
    go_wp2
    go_ret
    exact ⟨rfl, (Below.refl _ _).alloc (Nat.le_refl _) _⟩
  by_cases h7 : op = 6
  · subst h7
    have hn : n < 2 := by simp at h; omega
    clear h
    go_enter Tryd.func18, Tryd.ntmps18
    go_wp2
    go_ret
    exact ⟨rfl, (Below.refl _ _).alloc (Nat.le_refl _) _⟩
  by_cases h9 : op = 7
  · subst h9
    have hn : n < 2 := by simp at h; omega
    clear h
    go_enter Tryd.func18, Tryd.ntmps18
    go_wp2
    go_ret
    exact ⟨rfl, (Below.refl _ _).alloc (Nat.le_refl _) _⟩
  · obtain rfl : op = 8 := by omega
    rw [if_neg (by omega), if_pos rfl] at h
    have hn : ((n : Int) != 1) = true := neq_true (by simp at h; omega)
    clear h
    go_enter Tryd.func18, Tryd.ntmps18
    go_wp2
    go_ret
    exact ⟨rfl, (Below.refl _ _).alloc (Nat.le_refl _) _⟩
/-- the kinds of a term with a right number of kids, in the walk's spelling -/
def Kinds (op : Int) (n : Nat) : Prop := (op = 2 ∧ ((n : Int) != 0) = false) ∨ (op < 6 ∧ (op == 6) = false ∧ (op == 7) = false ∧ (op == 8) = false ∧ (op != 8) = true ∧ (op != 2) = true ∧ ((n : Int) != 0) = false) ∨ (op = 6 ∧ ¬ n < 2) ∨ (op = 7 ∧ ¬ n < 2)
theorem kinds_of (h8 : op ≤ 8) (h : kidsB op n = true) : Kinds op n ∨ (op = 8 ∧ ((n : Int) != 1) = false) := by
  unfold kidsB at h
  by_cases h6 : op < 6
  · rw [if_neg (by omega), if_neg (by omega)] at h
    have hn : ((n : Int) != 0) = false := neq_false (by simp at h; omega)
    by_cases h2 : op = 2
    · exact .inl (.inl ⟨h2, hn⟩)
    · exact .inl (.inr (.inl ⟨h6, ne_false (by omega), ne_false (by omega), ne_false (by omega), neq_true (by omega), neq_true h2, hn⟩))
  · by_cases h7 : op = 6 ∨ op = 7
    · rw [if_pos h7] at h
      have hn : ¬ n < 2 := by simp at h; omega
      rcases h7 with h7 | h7
      · exact .inl (.inr (.inr (.inl ⟨h7, hn⟩)))
      · exact .inl (.inr (.inr (.inr ⟨h7, hn⟩)))
    · obtain rfl : op = 8 := by omega
      rw [if_neg (by omega), if_pos rfl] at h
      exact .inr ⟨rfl, neq_false (by simp at h; omega)⟩

set_option maxHeartbeats 16000000 in
theorem refRight_num1 (h1 : 1 ≤ op) (h8 : op ≤ 8) (hk : Kinds op n) (h : mn ≠ 0) : NoOk op p mn mx A n c w := by
  unfold NoOk
  have e := neq_true h
  clear h
  rcases hk with ⟨rfl, hn⟩ | ⟨h6, f6, f7, f8, g8, g2, hn⟩ | ⟨rfl, hn⟩ | ⟨rfl, hn⟩
  all_goals
    go_enter Tryd.func18, Tryd.ntmps18
    go_wp2
    go_ret
    exact ⟨rfl, (Below.refl _ _).alloc (Nat.le_refl _) _⟩
set_option maxHeartbeats 16000000 in
theorem refRight_num2 (h1 : 1 ≤ op) (h8 : op ≤ 8) (hk : Kinds op n) (h : mx ≠ 0) : NoOk op p 0 mx A n c w := by
  unfold NoOk
  have e := neq_true h
  clear h
  rcases hk with ⟨rfl, hn⟩ | ⟨h6, f6, f7, f8, g8, g2, hn⟩ | ⟨rfl, hn⟩ | ⟨rfl, hn⟩
  all_goals
    go_enter Tryd.func18, Tryd.ntmps18
    go_wp2
    go_ret
    exact ⟨rfl, (Below.refl _ _).alloc (Nat.le_refl _) _⟩
set_option maxHeartbeats 16000000 in
theorem refRight_set (h1 : 1 ≤ op) (h8 : op ≤ 8) (hk : Kinds op n) (h : op ≠ 2) (hno : noneF p = false) : NoOk op p 0 0 A n c w := by
  unfold NoOk
  have hneq := neq_none p
  rw [hno] at hneq
  rcases hk with ⟨rfl, hn⟩ | ⟨h6, f6, f7, f8, g8, g2, hn⟩ | ⟨rfl, hn⟩ | ⟨rfl, hn⟩
  · exact absurd rfl h
  all_goals
    go_enter Tryd.func18, Tryd.ntmps18
    go_wp2
    go_ret
    exact ⟨rfl, (Below.refl _ _).alloc (Nat.le_refl _) _⟩
set_option maxHeartbeats 16000000 in
theorem refRight_rep (hn : ((n : Int) != 1) = false) (h : noneF p = false ∨ numsB 8 mn mx = false) : NoOk 8 p mn mx A n c w := by
  unfold NoOk
  have hneq := neq_none p
  cases hno : noneF p
  · rw [hno] at hneq
    clear h
    go_enter Tryd.func18, Tryd.ntmps18
    go_wp2
    go_ret
    exact ⟨rfl, (Below.refl _ _).alloc (Nat.le_refl _) _⟩
  · rw [hno] at h hneq
    have hb : mn < 0 ∨ (0 ≤ mn ∧ 200 < mn) ∨ (0 ≤ mn ∧ mn ≤ 200 ∧ mx < -1) ∨ (0 ≤ mn ∧ mn ≤ 200 ∧ -1 ≤ mx ∧ 200 < mx) ∨ (0 ≤ mn ∧ mn ≤ 200 ∧ -1 ≤ mx ∧ mx ≤ 200 ∧ 0 ≤ mx ∧ mx < mn) := by
      have := h.resolve_left (by simp)
      simp [numsB] at this
      omega
    clear h
    rcases hb with q | ⟨q, q1⟩ | ⟨q, q1, q2⟩ | ⟨q, q1, q2, q3⟩ | ⟨q, q1, q2, q3, q4, q5⟩
    all_goals
      go_enter Tryd.func18, Tryd.ntmps18
      go_wp2
      go_ret
      exact ⟨rfl, (Below.refl _ _).alloc (Nat.le_refl _) _⟩
end
end Go.Proofs.YtnkiiphliilegaaDoor

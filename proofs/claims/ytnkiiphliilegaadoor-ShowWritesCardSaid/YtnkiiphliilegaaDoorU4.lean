/- Walk of riddleref06.Form: terms without kids. -/
import Derived.Test.YtnkiiphliilegaaDoorU3
import Derived.Test.YtnkiiphliilegaaDoorT5
namespace Go.Proofs.YtnkiiphliilegaaDoor
open Go.RowKit

def FormOk (N : Nat) : Prop := ∀ (op : Int) (p : Nat → Bool) (mn mx : Int) (ks : List Tm) (A : Option Addr) (c : Nat) (w : World), nodesL ks < N → N ≤ 501 → rightT (.node op p mn mx ks) = true → KidsIn w (· < w.heap.size) A ks →
    Calls Tryd.prog 19 #[tval op p mn mx A ks.length c] w fun e w' => e = .returned (.string (strL (rForm RF (.node op p mn mx ks)))) ∧ Below w.heap.size w w'
theorem cat_pre (k : Array UInt8) (M L : List Nat) (hk : strL M = ByteArray.mk k) (h : M.length + L.length ≤ 1000000000) : ∃ N, Hid (N = M ++ L) ∧ N.length = M.length + L.length ∧ ¬ 9223372036854775807 < (ByteArray.mk k).size + (strL L).size ∧ ByteArray.mk k ++ strL L = strL N := by
  rw [← hk]
  exact cat_var M L h

set_option maxRecDepth 100000 in
set_option maxHeartbeats 4000000 in
theorem form_leaf (op : Int) (p : Nat → Bool) (mn mx : Int) (A : Option Addr) (n c : Nat) (w : World) (h1 : 1 ≤ op) (h6 : op < 6) :
    Calls Tryd.prog 19 #[tval op p mn mx A n c] w fun e w' => e = .returned (.string (strL (leafF RF op p))) ∧ Below w.heap.size w w' := by
  have HSet := Lib.hid (fun W => refSet_any p W)
  by_cases h2 : op = 2
  · subst h2
    have hf : leafF RF 2 p = setF (runsFold (bytesOf p 256)) := rfl
    rw [hf]
    clear hf
    generalize setF (runsFold (bytesOf p 256)) = F at *
    go_enter Tryd.func19, Tryd.ntmps19
    go_wp2_with fail
    refine (HSet.out _).mono ?_
    rintro e w1 ⟨rfl, hb1⟩
    go_wp2
    go_ret
    exact ⟨rfl, (((Below.refl _ _).alloc (Nat.le_refl _) _).alloc (by simp) _).trans (hb1.mono (by simp; omega))⟩
  · have hcases : op = 1 ∨ op = 3 ∨ op = 4 ∨ op = 5 := by omega
    clear h2 h1 h6 HSet
    have e1 : strL (leafF RF 1 p) = ⟨#[]⟩ := rfl
    have e3 : strL (leafF RF 3 p) = ⟨#[46]⟩ := rfl
    have e4 : strL (leafF RF 4 p) = ⟨#[94]⟩ := rfl
    have e5 : strL (leafF RF 5 p) = ⟨#[36]⟩ := rfl
    have E1 := Lib.hid e1
    have E3 := Lib.hid e3
    have E4 := Lib.hid e4
    have E5 := Lib.hid e5
    clear e1 e3 e4 e5
    rcases hcases with rfl | rfl | rfl | rfl
    all_goals
      first | rw [E1.out] | rw [E3.out] | rw [E4.out] | rw [E5.out]
      go_enter Tryd.func19, Tryd.ntmps19
      go_wp2
      go_ret
      exact ⟨rfl, (((Below.refl _ _).alloc (Nat.le_refl _) _).alloc (by simp) _)⟩
end Go.Proofs.YtnkiiphliilegaaDoor

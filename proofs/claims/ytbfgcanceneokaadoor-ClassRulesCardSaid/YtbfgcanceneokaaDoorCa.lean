/- Walks of class: Has, And, Or, Not, put, Of, Range, Len; of the reference: Has, Other. -/
import Derived.Test.YtbfgcanceneokaaDoorFa
import Derived.Test.YtbfgcanceneokaaDoorMc
import Derived.Test.YtbfgcanceneokaaDoorWd
import Derived.RegionTactic
import Derived.ChangeAlike
namespace Go.Proofs.YtbfgcanceneokaaDoor
open Go.RowKit

theorem ccells_at (p : Nat → Bool) (b : Nat) (hb : b < 256) :
    [Value.int .u64 (pw p 0 : Nat), .int .u64 (pw p 1 : Nat), .int .u64 (pw p 2 : Nat), .int .u64 (pw p 3 : Nat)][b / 64]? = some (.int .u64 (pw p (b / 64) : Nat)) := by
  have : b / 64 = 0 ∨ b / 64 = 1 ∨ b / 64 = 2 ∨ b / 64 = 3 := by omega
  rcases this with h | h | h | h <;> simp [h]
theorem ccells_get (p : Nat → Bool) (b : Nat) (hb : b < 256) : (ccells p)[b / 64]? = some (.int .u64 (pw p (b / 64) : Nat)) := by
  rw [← ccells_at p b hb]
  simp
theorem ccells_add (p : Nat → Bool) (b : Nat) (hb : b < 256) : (ccells p).setIfInBounds (b / 64) (.int .u64 (pw (addB p b) (b / 64) : Nat)) = ccells (addB p b) := by
  have h0 := fun h => pw_add_other p b 0 h
  have h1 := fun h => pw_add_other p b 1 h
  have h2 := fun h => pw_add_other p b 2 h
  have h3 := fun h => pw_add_other p b 3 h
  have : b / 64 = 0 ∨ b / 64 = 1 ∨ b / 64 = 2 ∨ b / 64 = 3 := by omega
  rcases this with h | h | h | h <;> rw [h] at h0 h1 h2 h3 ⊢ <;> simp [ccells, *]

theorem has_any (p : Nat → Bool) (b : Nat) (hb : b < 256) (w : World) :
    Calls Tryd.prog 22 #[cval p, .int .u8 b] w fun e w' => e = .returned (.bool (p b)) ∧ Below w.heap.size w w' := by
  have hcell := ccells_at p b hb
  have hres := has_word p b
  go_enter Tryd.func22, Tryd.ntmps22
  go_wp2
  go_ret
  exact ⟨rfl, (Below.refl _ _).alloc (Nat.le_refl _) _⟩

theorem refHas_any (p : Nat → Bool) (b : Nat) (hb : b < 256) (w : World) :
    Calls Tryd.prog 25 #[cval p, .int .i64 b] w fun e w' => e = .returned (.bool (p b)) ∧ Below w.heap.size w w' := by
  have hcell := ccells_at p b hb
  have hres := has_word2 p b
  go_enter Tryd.func25, Tryd.ntmps25
  go_wp2
  go_ret
  exact ⟨rfl, (Below.refl _ _).alloc (Nat.le_refl _) _⟩

theorem put_walk (b v u g : Nat) (hb : b < 256) (w : World) (hcell : w.cell? ⟨g, b / 64, none⟩ = some (.int .u64 (v : Int))) (hfz : w.frozen? ⟨g, b / 64, none⟩ = false)
    (hu : bits .or .u64 (v : Int) (IntKind.u64.wrap (2 ^ (b % 64))) = (u : Int)) :
    Calls Tryd.prog 29 #[.pointer (some ⟨g, 0, none⟩), .int .u8 (b : Int)] w fun e w' => e = .returned (.tuple #[]) ∧ (w.setCell ⟨g, b / 64, none⟩ (.int .u64 (u : Int))).drew = w' := by
  go_enter Tryd.func29, Tryd.ntmps29
  go_wp2
  go_region
  all_goals (go_end0; exact ⟨rfl, rfl⟩)

theorem put_any (p : Nat → Bool) (b : Nat) (hb : b < 256) (g : Nat) (t : TypeId) (w : World) (h : Blk w g t (ccells p)) :
    Calls Tryd.prog 29 #[.pointer (some ⟨g, 0, none⟩), .int .u8 b] w fun e w' => e = .returned (.tuple #[]) ∧ Blk w' g t (ccells (addB p b)) ∧ w.grownBy w' (some g) := by
  have e2 : (2 : Int) ^ (b % 64) = ((2 ^ (b % 64) : Nat) : Int) := by simp
  have hp : 2 ^ (b % 64) < 18446744073709551616 := Nat.pow_lt_pow_right (by decide) (by omega : b % 64 < 64)
  refine (put_walk b (pw p (b / 64)) (pw (addB p b) (b / 64)) g hb w ((h.cell _).trans (ccells_get p b hb)) (h.free _) ?_).mono ?_
  · have e3 : IntKind.u64.wrap (2 ^ (b % 64)) = ((2 ^ (b % 64) : Nat) : Int) := by
      rw [e2, IntKind.wrap_u64]
      generalize 2 ^ (b % 64) = n at hp
      omega
    rw [e3, bits_or_u64_nat _ _ (pw_lt p _) hp, pw_add_same]
  · rintro e w' ⟨rfl, rfl⟩
    refine ⟨rfl, ?_, grownBy_drew (grownBy_store (World.grownBy.refl w _) _ _)⟩
    have := h.store (b / 64) (.int .u64 (pw (addB p b) (b / 64) : Nat))
    rw [ccells_add p b hb] at this
    exact this.drew

set_option maxHeartbeats 1000000 in
theorem or_any (p q : Nat → Bool) (w : World) :
    Calls Tryd.prog 11 #[cval p, cval q] w fun e w' => e = .returned (cval (fun b => p b || q b)) ∧ Below w.heap.size w w' := by
  have h0 := or_word p q 0
  have h1 := or_word p q 1
  have h2 := or_word p q 2
  have h3 := or_word p q 3
  go_enter Tryd.func11, Tryd.ntmps11
  go_wp2
  refine wp_loop_rounds 5 ?_
  rw [rounds_succ]; go_wp2; go_region; go_wp2
  rw [rounds_succ]; go_wp2; go_region; go_wp2
  rw [rounds_succ]; go_wp2; go_region; go_wp2
  rw [rounds_succ]; go_wp2; go_region; go_wp2
  rw [rounds_succ]; go_wp2
  exact bodyPost_ret (v := cval (fun b => p b || q b)) (by simp [results, Tryd.results11, go_sem]) rfl
    ⟨rfl, ((((((Below.refl _ _).alloc (Nat.le_refl _) _).alloc (by simp) _).alloc (by simp; omega) _).drew).drew).drew.drew⟩

set_option maxHeartbeats 1000000 in
theorem and_any (p q : Nat → Bool) (w : World) :
    Calls Tryd.prog 9 #[cval p, cval q] w fun e w' => e = .returned (cval (fun b => p b && q b)) ∧ Below w.heap.size w w' := by
  have h0 := and_word p q 0
  have h1 := and_word p q 1
  have h2 := and_word p q 2
  have h3 := and_word p q 3
  go_enter Tryd.func9, Tryd.ntmps9
  go_wp2
  refine wp_loop_rounds 5 ?_
  rw [rounds_succ]; go_wp2; go_region; go_wp2
  rw [rounds_succ]; go_wp2; go_region; go_wp2
  rw [rounds_succ]; go_wp2; go_region; go_wp2
  rw [rounds_succ]; go_wp2; go_region; go_wp2
  rw [rounds_succ]; go_wp2
  exact bodyPost_ret (v := cval (fun b => p b && q b)) (by simp [results, Tryd.results9, go_sem]) rfl
    ⟨rfl, ((((((Below.refl _ _).alloc (Nat.le_refl _) _).alloc (by simp) _).alloc (by simp; omega) _).drew).drew).drew.drew⟩

set_option maxHeartbeats 1000000 in
theorem not_any (p : Nat → Bool) (w : World) :
    Calls Tryd.prog 12 #[cval p] w fun e w' => e = .returned (cval (fun b => !p b)) ∧ Below w.heap.size w w' := by
  have h0 := not_word p 0
  have h1 := not_word p 1
  have h2 := not_word p 2
  have h3 := not_word p 3
  go_enter Tryd.func12, Tryd.ntmps12
  go_wp2
  refine wp_loop_rounds 5 ?_
  rw [rounds_succ]; go_wp2
  rw [rounds_succ]; go_wp2
  rw [rounds_succ]; go_wp2
  rw [rounds_succ]; go_wp2
  rw [rounds_succ]; go_wp2
  exact bodyPost_ret (v := cval (fun b => !p b)) (by simp [results, Tryd.results12, go_sem]) rfl
    ⟨rfl, ((Below.refl _ _).alloc (Nat.le_refl _) _).alloc (by simp) _⟩
end Go.Proofs.YtbfgcanceneokaaDoor

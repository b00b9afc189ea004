/- Walk of riddleref05.Same on two readings of one term. -/
import Derived.Test.YtnkiiphliilegaaDoorT5
import Derived.Deep.RegionHeld3
namespace Go.Proofs.YtnkiiphliilegaaDoor
open Go.RowKit

theorem held_step {wr Wp w1 : World} (hb : Below wr.heap.size wr Wp) (h : Below Wp.heap.size Wp w1) : Below wr.heap.size wr w1 := hb.trans (h.mono hb.size)
def SameOk (N : Nat) : Prop := ∀ (op : Int) (p : Nat → Bool) (mn mx : Int) (ks : List Tm) (A A2 : Option Addr) (c c2 : Nat) (w : World), nodesL ks < N → N ≤ 1000 → KidsIn w (· < w.heap.size) A ks → KidsIn w (· < w.heap.size) A2 ks →
    Calls Tryd.prog 10 #[tval op p mn mx A ks.length c, tval op p mn mx A2 ks.length c2] w fun e w' => e = .returned (.bool true) ∧ Below w.heap.size w w'

set_option maxRecDepth 100000 in
set_option maxHeartbeats 8000000 in
theorem same_step (N : Nat) (ih : SameOk N) : SameOk (N + 1) := by
  intro op p mn mx ks A A2 c c2 w hN hN1 hks hks2
  obtain ⟨n, hn⟩ : ∃ n, n = ks.length := ⟨_, rfl⟩
  have hn1 : n ≤ 1000 := by have := nodesL_len ks; omega
  rw [← hn]
  have Hn := Lib.hid hn
  have Hk := Lib.hid hks
  have Hk2 := Lib.hid hks2
  have Hih := Lib.hid ih
  have hneq := fun (w : World) => neq_class p p (fun _ _ => rfl) w
  clear hn hks hks2 ih
  go_enter Tryd.func10, Tryd.ntmps10
  go_wp2
  clear hneq
  go_loopw [5] (fun i wr => ∃ k : Nat, k ≤ n ∧ i = .int .i64 k ∧ (wr.cell? ⟨w.heap.size, 7, none⟩ = some (.slice A n c) ∧ wr.cell? ⟨w.heap.size + 1, 7, none⟩ = some (.slice A2 n c2) ∧ w.heap.size + 1 < wr.heap.size) ∧ Below w.heap.size w wr) (fun i _ => n - (intOf i).toNat)
  case atStart =>
    refine ⟨0, Nat.zero_le _, rfl, ⟨((Blk.new w 27 (tcells op p mn mx A n c)).alloc _).cell 7, ?_, by simp⟩, ((Below.refl _ _).alloc (Nat.le_refl _) _).alloc (by simp) _⟩
    have := (Blk.new (w.alloc (.cells (tcells op p mn mx A n c) 27)) 27 (tcells op p mn mx A2 n c2)).cell 7
    rw [World.size_alloc] at this
    exact this
  case round =>
    obtain ⟨k, hk, rfl, ⟨c7, d7, hsz⟩, hbel⟩ := hrel
    by_cases hlt : k < n
    · have hkl : k < ks.length := by have := Hn.out; omega
      obtain ⟨b, off, op', p', mn', mx', ks', A', c', rfl, hbB, hkid, hcells, hks'⟩ := Hk.out.kid k hkl
      obtain ⟨b2, off2, op2, p2, mn2, mx2, ks2, A2', c2', rfl, hbB2, hkid2, hcells2, hks2'⟩ := Hk2.out.kid k hkl
      rw [hkid] at hkid2
      injection hkid2 with q1 q2 q3 q4 q5
      subst q1 q2 q3 q4 q5
      have hcw := hcells.keep (w' := wr) fun x => hbel.cell (p := ⟨b, x, none⟩) hbB
      have hcw2 := hcells2.keep (w' := wr) fun x => hbel.cell (p := ⟨b2, x, none⟩) hbB2
      have hnk : nodesL ks' < N := by
        have := nodesL_at ks k hkl
        rw [hkid] at this
        unfold nodes at this
        omega
      have Hcall := Lib.hid (fun (W : World) (hb : Below wr.heap.size wr W) => Hih.out op' p' mn' mx' ks' A' A2' c' c2' W hnk (by omega) ((hks'.below hbel hbel.size).below hb hb.size) ((hks2'.below hbel hbel.size).below hb hb.size))
      obtain ⟨e0, e1, e2, e3, e4, e5, e6, e7⟩ := hcw
      obtain ⟨g0, g1, g2, g3, g4, g5, g6, g7⟩ := hcw2
      have hs1 : w.heap.size < wr.heap.size := by omega
      have hs2 : b < wr.heap.size := by have := hbel.size; omega
      have hs3 : b2 < wr.heap.size := by have := hbel.size; omega
      clear hkid hcells hcells2 hks' hks2' hnk hbB hbB2
      generalize ks'.length = n' at *
      go_wp2
      go_region_held3 (fun w' => (∀ o, w'.cell? ⟨w.heap.size, o, none⟩ = wr.cell? ⟨w.heap.size, o, none⟩) ∧ (∀ o, w'.cell? ⟨w.heap.size + 1, o, none⟩ = wr.cell? ⟨w.heap.size + 1, o, none⟩) ∧ (∀ o, w'.cell? ⟨b, o, none⟩ = wr.cell? ⟨b, o, none⟩) ∧ (∀ o, w'.cell? ⟨b2, o, none⟩ = wr.cell? ⟨b2, o, none⟩) ∧ Below wr.heap.size wr w')
        (first | exact ⟨fun _ => rfl, fun _ => rfl, fun _ => rfl, fun _ => rfl, (Below.refl _ _).drew⟩ | (go_split_ands; have hbx := held_step (by assumption) hb1; exact ⟨fun o => hbx.cell (p := ⟨_, o, none⟩) hs1, fun o => hbx.cell (p := ⟨_, o, none⟩) hsz, fun o => hbx.cell (p := ⟨_, o, none⟩) hs2, fun o => hbx.cell (p := ⟨_, o, none⟩) hs3, hbx⟩))
        ((go_at_call 10; with_reducible refine (Hcall.out _ (by go_split_ands; assumption)).mono ?_; rintro e w1 ⟨rfl, hb1⟩))
      go_split_ands
      have hbx := (by assumption : Below wr.heap.size wr _)
      have HX := Lib.hid hbx
      clear hbx hb1
      go_wp2
      go_roundw
      case rel => exact ⟨k + 1, by omega, by go_num, ⟨(HX.out.cell (p := ⟨_, 7, none⟩) hs1).trans c7, (HX.out.cell (p := ⟨_, 7, none⟩) hsz).trans d7, Nat.lt_of_lt_of_le hsz HX.out.size⟩, hbel.trans (HX.out.mono hbel.size)⟩
      case measure => simp [intOf]; omega
    · go_wp2
      go_ret
      exact ⟨rfl, hbel⟩
theorem same_all : ∀ N, SameOk N
  | 0 => fun _ _ _ _ _ _ _ _ _ _ h => by omega
  | N + 1 => same_step N (same_all N)
end Go.Proofs.YtnkiiphliilegaaDoor

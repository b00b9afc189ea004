/- Walk of the ring engine's arm. -/
import Derived.Test.YtoijilfpfdhppaaKEc
namespace Go.Proofs.Ytoijilfpfdhppaa
open Go.RowKit

def ringArm (now : Int) (M : List Int) : List Int := match M.getLast? with
  | none => [now]
  | some m => if m < now then M ++ [now] else M

/-- the moment appended: the statement's second part, in whatever order -/
theorem ring_push {w : World} {g : Nat} {tp : Int} {stays : Bool} {now : Int} {v v' : Value} {M : List Int} {w' : World} {o : Obj} (hb : Blk w g 53 (ringCells tp stays now v)) (h1 : RowO w' (g + 1) v' M) (h2 : Below (g + 1) (w.alloc o) w') :
    Blk w' g 53 (ringCells tp stays now v) ∧ RingAt (w'.setCell ⟨g, 3, none⟩ v') g tp stays now M ∧ Below g w (w'.setCell ⟨g, 3, none⟩ v') := by
  have hk := (hb.alloc o).below h2 (Nat.lt_succ_self g)
  have hlt := hb.lt
  refine ⟨hk, ⟨v', (ring_stored hk h1).1, (ring_stored hk h1).2⟩, ?_⟩
  exact (((Below.refl g w).alloc (by omega) o).trans (h2.mono (by omega))).setCell (Nat.le_refl g) _

set_option maxHeartbeats 1000000 in
theorem ring_arm (g : Nat) (tp : Int) (stays : Bool) (now : Int) (M : List Int) (hn : 0 ≤ now ∧ now ≤ 100000) (hM : ∀ m ∈ M, 0 ≤ m ∧ m ≤ 100000) (hl : M.length ≤ 3000) (w : World) (h : RingAt w g tp stays now M) :
    Calls Try.prog 49 #[.pointer (some ⟨g, 0, none⟩)] w (Ended (RingNow g tp stays now (ringArm now M) w)) := by
  obtain ⟨v, hb, hr⟩ := h
  obtain ⟨A, c, rfl, hlen, hcap, hcase⟩ := id hr
  have c3 := hb.cell 3
  have c2 := hb.cell 2
  simp only [ringCells, List.getElem?_toArray, List.getElem?_cons_zero, List.getElem?_cons_succ] at c3 c2
  obtain ⟨hn1, hn2⟩ := hn
  have HBk := Lib.hid hb
  have HR := Lib.hid hr
  have hgl := hb.lt
  by_cases hM0 : M = []
  · subst hM0
    have e : ringArm now [] = [now] := rfl
    rw [e]
    have c3' : w.cell? ⟨g, 3, none⟩ = some (.slice A 0 c) := c3
    have HR0 : Hid (RowO w (g + 1) (.slice A 0 c) []) := HR.out
    clear hb hr hcase c3 hlen hM HR
    go_enter Try.func49, Try.ntmps49
    go_wp2
    go_quiet (fail)
    go_wp2
    obtain ⟨w1, hw1⟩ : ∃ w1, w1 = w.drewN nq := ⟨_, rfl⟩
    rw [← hw1]
    have HB1 : Hid (Blk w1 g 53 (ringCells tp stays now (.slice A 0 c))) := by rw [hw1]; exact HBk.out.drewN nq
    have HR1 : Hid (RowO w1 (g + 1) (.slice A 0 c) []) := by rw [hw1]; exact HR0.out.drewN nq
    have HL : Hid (Below w.heap.size w w1) := by rw [hw1]; exact below_drewN (Below.refl _ _) nq
    have hgl1 := HB1.out.lt
    have d3 : w1.cell? ⟨g, 3, none⟩ = some (.slice A 0 c) := HB1.out.cell 3
    have d2 : w1.cell? ⟨g, 2, none⟩ = some (.int .i64 now) := HB1.out.cell 2
    clear hw1 HBk HR0 c3' c2
    go_region_law ((refine step_row_append rfl _ _ rfl (g + 1) _ [] (HR1.out.below ((((Below.refl w1.heap.size w1).drew)).alloc (Nat.le_refl _) _)) (by rfl) w1.heap.size now (by rfl) (by simp) (by simp; omega) (by first | decide | omega | (have := Hn.out; omega)) ?_; intro v' w' hr' hb'; obtain ⟨A', c', hv', _, _, _⟩ := id hr'; simp only [List.length_append, List.length_cons, List.length_nil, Nat.zero_add] at hv'; subst hv'; obtain ⟨hk, hra, hrb⟩ := ring_push HB1.out.drew hr' hb'; have q3 : w'.cell? ⟨g, 3, none⟩ = some (.slice A 0 c) := hk.cell 3; have qf := hk.free 3; have HRA := Lib.hid hra; have HRB := Lib.hid hrb; clear hra hrb hk hr' hb'))
    all_goals (go_end0; exact ⟨⟨_, rfl⟩, HRA.out, (HL.out.mono (by omega)).trans (((Below.refl g w1).drew).trans HRB.out)⟩)
  · have hpos : 0 < M.length := List.length_pos_iff.2 hM0
    obtain ⟨m, hm⟩ : ∃ m, M[M.length - 1]? = some m := ⟨M[M.length - 1], List.getElem?_eq_getElem (by omega)⟩
    obtain ⟨b, off, rfl, _, _, hcell⟩ := hr.at_ hm
    have hm2 := hM m (List.mem_of_getElem? hm)
    obtain ⟨hm3, hm4⟩ := hm2
    have e : ringArm now M = if m < now then M ++ [now] else M := by
      unfold ringArm
      rw [List.getLast?_eq_getElem?, hm]
    rw [e]
    clear e hM hm hcase hb hr hM0
    obtain ⟨n, hn⟩ : ∃ n, n = M.length := ⟨_, rfl⟩
    rw [← hn] at hpos hcell c3 HBk HR hl hlen
    have Hn := Lib.hid hn
    clear hn
    have hn0 : ((n : Int) == 0) = false := by simp; omega
    have hi0 : (0 : Int) ≤ (n : Int) - 1 := by omega
    have hi1 : (n : Int) - 1 < (n : Int) := by omega
    by_cases hlt : m < now
    · rw [if_pos hlt]
      have hd : decide (m < now) = true := by simpa using hlt
      go_enter Try.func49, Try.ntmps49
      go_wp2
      go_quiet (fail)
      go_wp2
      obtain ⟨w1, hw1⟩ : ∃ w1, w1 = w.drewN nq := ⟨_, rfl⟩
      rw [← hw1]
      have HB1 : Hid (Blk w1 g 53 (ringCells tp stays now (.slice (some ⟨b, off, none⟩) n c))) := by rw [hw1]; exact HBk.out.drewN nq
      have HR1 : Hid (RowO w1 (g + 1) (.slice (some ⟨b, off, none⟩) n c) M) := by rw [hw1]; exact HR.out.drewN nq
      have HL : Hid (Below w.heap.size w w1) := by rw [hw1]; exact below_drewN (Below.refl _ _) nq
      have hgl1 := HB1.out.lt
      have d3 : w1.cell? ⟨g, 3, none⟩ = some (.slice (some ⟨b, off, none⟩) n c) := HB1.out.cell 3
      have d2 : w1.cell? ⟨g, 2, none⟩ = some (.int .i64 now) := HB1.out.cell 2
      clear hw1 HBk HR c3 c2 hcell
      go_region_law ((refine step_row_append rfl _ _ rfl (g + 1) _ M (HR1.out.below ((((Below.refl w1.heap.size w1).drew)).alloc (Nat.le_refl _) _)) (by rfl) w1.heap.size now (by rfl) (by simp) (by simp; omega) (by first | decide | omega | (have := Hn.out; omega)) ?_; intro v' w' hr' hb'; obtain ⟨A', c', hv', _, _, _⟩ := id hr'; simp only [List.length_append, List.length_cons, List.length_nil, Nat.zero_add] at hv'; subst hv'; obtain ⟨hk, hra, hrb⟩ := ring_push HB1.out.drew hr' hb'; have q3 : w'.cell? ⟨g, 3, none⟩ = some (.slice (some ⟨b, off, none⟩) n c) := hk.cell 3; have qf := hk.free 3; have HRA := Lib.hid hra; have HRB := Lib.hid hrb; clear hra hrb hk hr' hb'))
      all_goals (go_end0; exact ⟨⟨_, rfl⟩, HRA.out, (HL.out.mono (by omega)).trans (((Below.refl g w1).drew).trans HRB.out)⟩)
    · rw [if_neg hlt]
      have hd : decide (m < now) = false := by simpa using hlt
      go_enter Try.func49, Try.ntmps49
      go_wp2
      go_quiet (fail)
      go_wp2
      go_end0
      exact ⟨⟨_, rfl⟩, ⟨_, HBk.out.drewN _, HR.out.drewN _⟩, below_drewN (Below.refl _ _) _⟩
end Go.Proofs.Ytoijilfpfdhppaa

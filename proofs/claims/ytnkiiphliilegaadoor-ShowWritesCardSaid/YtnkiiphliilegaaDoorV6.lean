/- Walks of slices.Index and slices.Contains over a few numbers; of the writer's kid. -/
import Derived.Test.YtnkiiphliilegaaDoorV5
import Derived.Test.YtnkiiphliilegaaDoorSE
namespace Go.Proofs.YtnkiiphliilegaaDoor
open Go.RowKit

def ints (L : List Int) : Array Value := (L.map (Value.int .i64)).toArray
set_option maxHeartbeats 2000000 in
theorem indexI_any (bb : Nat) (L : List Int) (k : Int) (w : World) (hL : L.length ≤ 10) (h : Blk w bb 3 (ints L)) :
    Calls Tryd.prog 45 #[.slice (some ⟨bb, 0, none⟩) L.length L.length, .int .i64 k] w fun e w' => e = .returned (.int .i64 (idxI (L.drop 0) k 0)) ∧ w = w' := by
  have hc : ∀ i (hi : i < L.length), w.cell? ⟨bb, i, none⟩ = some (.int .i64 L[i]) := fun i hi => by rw [h.cell]; simp [ints, hi]
  have Hc := Lib.hid hc
  obtain ⟨n, hn⟩ : ∃ n, n = L.length := ⟨_, rfl⟩
  rw [← hn] at hL ⊢
  have Hn := Lib.hid hn
  clear hc h hn
  go_enter Tryd.func45, Tryd.ntmps45
  go_wp2
  go_loopw [8] (fun i wr => ∃ j : Nat, j ≤ n ∧ i = .int .i64 j ∧ Hid (idxI (L.drop j) k j = idxI (L.drop 0) k 0) ∧ w = wr) (fun i _ => n - (intOf i).toNat)
  case atStart => exact ⟨0, Nat.zero_le _, rfl, Lib.hid rfl, rfl⟩
  case round =>
    obtain ⟨j, hj, rfl, Hrel, rfl⟩ := hrel
    by_cases hlt : j < n
    · have hjl : j < L.length := by have := Hn.out; omega
      have cj := Hc.out j hjl
      by_cases he : k = L[j]
      · have HE : Hid ((j : Int) = idxI (L.drop 0) k 0) := Lib.hid (by rw [← Hrel.out, idxI_yes L k j hjl he])
        have f1 := eq_true he
        generalize L[j] = x at *
        clear he
        go_wp2
        go_ret
        exact ⟨by rw [← HE.out]; rfl, rfl⟩
      · have HE : Hid (idxI (L.drop (j + 1)) k (j + 1) = idxI (L.drop 0) k 0) := Lib.hid (by rw [← Hrel.out, idxI_no L k j hjl he])
        have f1 := ne_false he
        generalize L[j] = x at *
        clear he
        go_wp2
        go_roundw
        case rel => exact ⟨j + 1, by omega, by go_num, HE, trivial⟩
        case measure => simp [intOf]; omega
    · have HE : Hid ((-1 : Int) = idxI (L.drop 0) k 0) := Lib.hid (by rw [← Hrel.out, List.drop_eq_nil_of_le (by have := Hn.out; omega)]; rfl)
      go_wp2
      go_ret
      exact ⟨by rw [← HE.out]; rfl, rfl⟩
theorem containsI_any (bb : Nat) (L : List Int) (k : Int) (w : World) (hL : L.length ≤ 10) (h : Blk w bb 3 (ints L)) :
    Calls Tryd.prog 37 #[.slice (some ⟨bb, 0, none⟩) L.length L.length, .int .i64 k] w fun e w' => e = .returned (.bool (L.contains k)) ∧ w = w' := by
  have hcall := indexI_any bb L k w hL h
  have hb := idxI_iff (L.drop 0) k 0
  rw [List.drop_zero] at hb hcall
  have Hcall := Lib.hid hcall
  have Hb := Lib.hid hb
  clear hb hcall h
  generalize idxI L k 0 = z at *
  generalize L.contains k = r at *
  generalize L.length = n at *
  go_enter Tryd.func37, Tryd.ntmps37
  go_wp2_with (go_at_call 45; refine Hcall.out.mono ?_; rintro e w1 ⟨rfl, rfl⟩)
  go_ret
  exact ⟨ret_bool Hb.out, rfl⟩
end Go.Proofs.YtnkiiphliilegaaDoor

/- Walks of the reference riddleref02: Bytes, Runs. -/
import Derived.Test.YtnkiiphliilegaaDoorSRa
import Derived.Test.YtnkiiphliilegaaDoorSM
namespace Go.Proofs.YtnkiiphliilegaaDoor
open Go.RowKit

set_option maxRecDepth 100000 in
set_option maxHeartbeats 2000000 in
theorem refBytes_any (p : Nat → Bool) (w : World) :
    Calls Tryd.prog 39 #[cval p] w (GaveBytes (bytesOf p 256) w) := by
  obtain ⟨i0, hi, hz0, hz1, hz2⟩ := info_parts u8_info
  have Hp := Lib.hid (Blk.new w 24 (ccells p))
  have Hown : Hid (((w.alloc (.cells (ccells p) 24)).alloc (.cells #[] 5)).ownsRow (w.heap.size + 1) 5 1 (.slice (some ⟨w.heap.size + 1, 0, none⟩) 0 0) 0 []) := by
    have := World.ownsRow_lit (base := w.heap.size + 1) (e := 5) (size := 1) (w.alloc (.cells (ccells p) 24)) #[] 0 (by simp) (by unfold maxLen; omega) rfl
    rw [World.size_alloc] at this
    exact this
  go_enter Tryd.func39, Tryd.ntmps39
  go_wp2
  go_loopw [3, 4] (fun out i wr => ∃ k : Nat, k ≤ 256 ∧ i = .int .i64 k ∧ Blk wr w.heap.size 24 (ccells p) ∧ wr.ownsRow (w.heap.size + 1) 5 1 out (bytesOf p k).length (u8s (bytesOf p k)) ∧ Below w.heap.size w wr) (fun _ i _ => 256 - (intOf i).toNat)
  case atStart => exact ⟨0, Nat.zero_le _, rfl, Hp.out.alloc _, Hown.out, ((Below.refl _ _).alloc (Nat.le_refl _) _).alloc (by simp) _⟩
  case round =>
    clear Hp Hown
    obtain ⟨k, hk, rfl, hP, hown, hbel⟩ := hrel
    by_cases hlt : k < 256
    · have p0 := hP.cell 0
      have p1 := hP.cell 1
      have p2 := hP.cell 2
      have p3 := hP.cell 3
      simp only [List.getElem?_toArray, List.getElem?_cons_zero, List.getElem?_cons_succ] at p0 p1 p2 p3
      have Hhas := Lib.hid (fun W => refHas_any p k hlt W)
      have hlen := bytesOf_le p k
      have Hs := Lib.hid (bytesOf_succ p k)
      go_wp2_with fail
      refine (Hhas.out _).mono ?_
      rintro e w1 ⟨rfl, hbel1⟩
      have hP1 := hP.below hbel1 hP.lt
      have hown1 := own_below hown hbel1 (Nat.le_refl _)
      have hbw := hbel.trans (hbel1.mono hbel.size)
      have hsz1 : w.heap.size + 1 ≤ w1.heap.size := by have := hP1.lt; omega
      clear p0 p1 p2 p3 hP hown hbel hbel1
      have HP1 := Lib.hid hP1
      clear hP1
      cases hp : p k
      · rw [hp] at Hs
        go_wp2
        go_roundw
        case rel =>
          refine ⟨k + 1, by omega, by go_num, HP1.out, ?_, hbw⟩
          rw [Hs.out]
          simpa using hown1
        case measure => simp [intOf]; omega
      · rw [hp] at Hs
        go_wp2_with (at_builtin; refine wpList_append_new hown1 [.int .u8 k] hi hz0 hz1 hz2 rfl (by decide) _ Tryd.underlying31 rfl _ _ rfl rfl rfl rfl ?c2 ?c3 ?c4 ?c5 ?_)
        case c2 => intro u hu; simp at hu; subst hu; rfl
        case c3 => unfold maxLen; omega
        case c4 => omega
        case c5 => exact hsz1
        · intro v' w2 hown2 hgr2
          have hbw2 := below_own hbw hgr2 hown1 (by omega) (by omega)
          have HP2 : Hid (Blk w2 w.heap.size 24 (ccells p)) := HP1.out.grown hgr2 (fun h => by
            have := (hown1.lt _ h.symm).1
            omega)
          clear hgr2 hown1 hbw
          go_wp2
          go_roundw
          case rel =>
            refine ⟨k + 1, by omega, by go_num, HP2.out, ?_, hbw2⟩
            rw [Hs.out]
            simpa [u8s] using hown2
          case measure => simp [intOf]; omega
    · have hk4 : k = 256 := by omega
      subst hk4
      go_wp2
      go_ret
      exact ⟨_, rfl, own_base hown (by omega), hbel⟩
end Go.Proofs.YtnkiiphliilegaaDoor

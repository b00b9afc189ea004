/- Walk of the reference riddleref02.Runs. -/
import Derived.Test.YtnkiiphliilegaaDoorSRd
namespace Go.Proofs.YtnkiiphliilegaaDoor
open Go.RowKit

/-- what holds when the reference comes to i: the runs of the bytes below M are told; those from i on below M are in the last of them -/
def RunsAt (p : Nat → Bool) (i M : Nat) : Prop :=
  i ≤ M ∧ M ≤ 256 ∧ (∀ j, i ≤ j → j < M → p j = true ∧ 0 < j ∧ p (j - 1) = true) ∧ (i < M → M = 256 ∨ p M = false) ∧ (i = M → i = 0 ∨ p (i - 1) = false ∨ i = 256 ∨ p i = false)
theorem RunsAt.start (p : Nat → Bool) : RunsAt p 0 0 := ⟨Nat.le_refl _, by omega, fun j _ h => by omega, fun h => by omega, fun _ => .inl rfl⟩
theorem RunsAt.inside {p : Nat → Bool} {i M : Nat} (h : RunsAt p i M) (hi : i < M) : p i = true ∧ 0 < i ∧ p (i - 1) = true ∧ RunsAt p (i + 1) M := by
  obtain ⟨h1, h2, h3, h4, h5⟩ := h
  obtain ⟨a, b, c⟩ := h3 i (Nat.le_refl _) hi
  refine ⟨a, b, c, by omega, h2, fun j hj hj2 => h3 j (by omega) hj2, fun h => h4 (by omega), fun he => ?_⟩
  rcases h4 hi with h | h
  · exact .inr (.inr (.inl (by omega)))
  · exact .inr (.inr (.inr (by rw [he]; exact h)))
theorem RunsAt.outside {p : Nat → Bool} {i : Nat} (hi : i < 256) (hp : p i = false) : RunsAt p (i + 1) (i + 1) ∧ bytesOf p (i + 1) = bytesOf p i :=
  ⟨⟨Nat.le_refl _, by omega, fun j _ _ => by omega, fun h => by omega, fun _ => .inr (.inl (by simpa using hp))⟩, bytesOf_no p i hp⟩
theorem RunsAt.begins {p : Nat → Bool} {i : Nat} (h : RunsAt p i i) (hi : i < 256) (hp : p i = true) : i = 0 ∨ p (i - 1) = false := by
  rcases h.2.2.2.2 rfl with h | h | h | h
  · exact .inl h
  · exact .inr h
  · omega
  · rw [hp] at h; cases h
theorem RunsAt.more {p : Nat → Bool} {i m : Nat} (him : i ≤ m) (hm : m ≤ 255) (hall : ∀ j, i ≤ j → j ≤ m → p j = true) (hend : m = 255 ∨ p (m + 1) = false) : RunsAt p (i + 1) (m + 1) := by
  refine ⟨by omega, by omega, fun j hj hj2 => ⟨hall j (by omega) (by omega), by omega, hall (j - 1) (by omega) (by omega)⟩, fun _ => ?_, fun he => ?_⟩
  · rcases hend with h | h
    · exact .inl (by omega)
    · exact .inr h
  · rcases hend with h | h
    · exact .inr (.inr (.inl (by omega)))
    · exact .inr (.inr (.inr (by rw [he]; exact h)))

theorem twoCells (k : IntKind) (a b : Int) : ∀ u ∈ [Value.int k a, Value.int k b], u.oneCell' = true := by
  intro u hu
  simp only [List.mem_cons, List.not_mem_nil, or_false] at hu
  rcases hu with rfl | rfl <;> rfl

theorem runsAt_len (p : Nat → Bool) (M : Nat) (h : M ≤ 256) : (runsFold (bytesOf p M)).length ≤ 256 := by
  have := runsFold_len (bytesOf p M)
  have := bytesOf_le p M
  omega

set_option maxRecDepth 100000 in
set_option maxHeartbeats 4000000 in
theorem refRuns_any (p : Nat → Bool) (w : World) :
    Calls Tryd.prog 41 #[cval p] w (GaveRuns (runsFold (bytesOf p 256)) w) := by
  obtain ⟨i0, hi, hz0, hz1, hz2⟩ := info_parts pair_info
  have Hp := Lib.hid (Blk.new w 24 (ccells p))
  have Hown : Hid (((w.alloc (.cells (ccells p) 24)).alloc (.cells #[] 70)).ownsRow (w.heap.size + 1) 70 2 (.slice (some ⟨w.heap.size + 1, 0, none⟩) 0 0) 0 []) := by
    have := World.ownsRow_lit (base := w.heap.size + 1) (e := 70) (size := 2) (w.alloc (.cells (ccells p) 24)) #[] 0 (by simp) (by unfold maxLen; omega) rfl
    rw [World.size_alloc] at this
    exact this
  go_enter Tryd.func41, Tryd.ntmps41
  go_wp2
  go_loopw [3, 4] (fun out i wr => ∃ k M : Nat, k ≤ 256 ∧ i = .int .i64 k ∧ RunsAt p k M ∧ Blk wr w.heap.size 24 (ccells p) ∧ wr.ownsRow (w.heap.size + 1) 70 2 out (runsFold (bytesOf p M)).length (runCells (runsFold (bytesOf p M))) ∧ Below w.heap.size w wr) (fun _ i _ => 256 - (intOf i).toNat)
  case atStart => exact ⟨0, 0, Nat.zero_le _, rfl, RunsAt.start p, Hp.out.alloc _, Hown.out, ((Below.refl _ _).alloc (Nat.le_refl _) _).alloc (by simp) _⟩
  case round =>
    clear Hp Hown
    obtain ⟨k, M, hk, rfl, hat, hP, hown, hbel⟩ := hrel
    by_cases hlt : k < 256
    · have p0 := hP.cell 0
      have p1 := hP.cell 1
      have p2 := hP.cell 2
      have p3 := hP.cell 3
      simp only [List.getElem?_toArray, List.getElem?_cons_zero, List.getElem?_cons_succ] at p0 p1 p2 p3
      have Hhas := Lib.hid (fun W => refHas_any p k hlt W)
      have Hat := Lib.hid hat
      clear hat
      go_wp2_with fail
      refine (Hhas.out _).mono ?_
      rintro e w1 ⟨rfl, hbel1⟩
      have hP1 := hP.below hbel1 hP.lt
      have hown1 := own_below hown hbel1 (Nat.le_refl _)
      have hbw := hbel.trans (hbel1.mono hbel.size)
      have hsz1 : w.heap.size + 1 ≤ w1.heap.size := by have := hP1.lt; omega
      clear p0 p1 p2 p3 hP hown hbel hbel1
      by_cases hkM : k < M
      · obtain ⟨hpk, hk0, hpk1, hat1⟩ := Hat.out.inside hkM
        have Hat1 := Lib.hid hat1
        rw [hpk]
        have Hhas2 := Lib.hid (fun W => refHas_any p (k - 1) (by omega) W)
        rw [hpk1, show ((k - 1 : Nat) : Int) = (k : Int) - 1 from by omega] at Hhas2
        have p0 := hP1.cell 0
        have p1 := hP1.cell 1
        have p2 := hP1.cell 2
        have p3 := hP1.cell 3
        simp only [List.getElem?_toArray, List.getElem?_cons_zero, List.getElem?_cons_succ] at p0 p1 p2 p3
        clear hpk hpk1 hat1
        go_wp2_with fail
        refine (Hhas2.out _).mono ?_
        rintro e w2 ⟨rfl, hbel2⟩
        have HP2 := Lib.hid (hP1.below hbel2 hP1.lt)
        have hown2 := own_below hown1 hbel2 (Nat.le_refl _)
        have hbw2 := hbw.trans (hbel2.mono hbw.size)
        clear p0 p1 p2 p3 hP1 hown1 hbw hbel2
        go_wp2
        go_roundw
        case rel => exact ⟨k + 1, M, by omega, by go_num, Hat1.out, HP2.out, hown2, hbw2⟩
        case measure => simp [intOf]; omega
      · have hkM2 : M = k := by have := Hat.out.1; omega
        subst hkM2
        cases hpk : p M
        · obtain ⟨hat1, hbo⟩ := RunsAt.outside hlt hpk
          rw [← hbo] at hown1
          have Hat1 := Lib.hid hat1
          have HP1 := Lib.hid hP1
          clear hat1 hbo hpk hP1
          go_wp2
          go_roundw
          case rel => exact ⟨M + 1, M + 1, by omega, by go_num, Hat1.out, HP1.out, hown1, hbw⟩
          case measure => simp [intOf]; omega
        · have Hbeg := Lib.hid (Hat.out.begins hlt hpk)
          have Hpk := Lib.hid hpk
          clear hpk
          have hrl := runsAt_len p M hk
          have hM0 : M < 1 ∨ 1 ≤ M := by omega
          rcases hM0 with hM0 | hM1
          focus
            obtain ⟨w2, hw2⟩ : ∃ w2, w2 = w1 := ⟨_, rfl⟩
            rw [← hw2] at hP1 hown1 hbw ⊢
            clear hw2
            have HP2 := Lib.hid hP1
            have hown2 := hown1
            have hbw2 := hbw
            clear hP1 hown1 hbw
            go_wp2
          rotate_left
          focus
            have Hhas2 := Lib.hid (fun W => refHas_any p (M - 1) (by omega) W)
            rw [Hbeg.out.resolve_left (by omega), show ((M - 1 : Nat) : Int) = (M : Int) - 1 from by omega] at Hhas2
            have p0 := hP1.cell 0
            have p1 := hP1.cell 1
            have p2 := hP1.cell 2
            have p3 := hP1.cell 3
            simp only [List.getElem?_toArray, List.getElem?_cons_zero, List.getElem?_cons_succ] at p0 p1 p2 p3
            go_wp2_with fail
            refine (Hhas2.out _).mono ?_
            rintro e w2 ⟨rfl, hbel2⟩
            have HP2 := Lib.hid (hP1.below hbel2 hP1.lt)
            have hown2 := own_below hown1 hbel2 (Nat.le_refl _)
            have hbw2 := hbw.trans (hbel2.mono hbw.size)
            clear p0 p1 p2 p3 hP1 hown1 hbw hbel2
            go_wp2
          all_goals
            go_loopw [5] (fun kk wi => ∃ m : Nat, M ≤ m ∧ m ≤ 255 ∧ kk = .int .i64 m ∧ Hid (∀ j, M ≤ j → j ≤ m → p j = true) ∧ Blk wi w.heap.size 24 (ccells p) ∧
              wi.ownsRow (w.heap.size + 1) 70 2 u3 (runsFold (bytesOf p M)).length (runCells (runsFold (bytesOf p M))) ∧ Below w.heap.size w wi) (fun kk _ => 255 - (intOf kk).toNat)
            case atStart => exact ⟨M, Nat.le_refl _, by omega, rfl, fun j h1 h2 => by rw [show j = M from by omega]; exact Hpk.out, HP2.out, hown2, hbw2⟩
            case round =>
              clear HP2 hown2 hbw2
              obtain ⟨m, hMm, hm, rfl, Hall, hP, hown, hbel⟩ := hrel
              by_cases hm2 : m < 255
              · have p0 := hP.cell 0
                have p1 := hP.cell 1
                have p2 := hP.cell 2
                have p3 := hP.cell 3
                simp only [List.getElem?_toArray, List.getElem?_cons_zero, List.getElem?_cons_succ] at p0 p1 p2 p3
                have Hhas3 := Lib.hid (fun W => refHas_any p (m + 1) (by omega) W)
                rw [show ((m + 1 : Nat) : Int) = (m : Int) + 1 from by omega] at Hhas3
                cases hpm : p (m + 1)
                focus
                  rw [hpm] at Hhas3
                  have HA := Lib.hid (RunsAt.more hMm hm Hall.out (.inr hpm))
                  have HR := Lib.hid (runs_next p M m hMm Hall.out Hbeg.out)
                  clear hpm
                  go_wp2_with fail
                  refine (Hhas3.out _).mono ?_
                  rintro e w3 ⟨rfl, hbel3⟩
                  have HP3 := Lib.hid (hP.below hbel3 hP.lt)
                  have hown3 := own_below hown hbel3 (Nat.le_refl _)
                  have hbw3 := hbel.trans (hbel3.mono hbel.size)
                  clear p0 p1 p2 p3 hP hown hbel hbel3
                rotate_left
                focus
                  rw [hpm] at Hhas3
                  have HA : Hid (∀ j, M ≤ j → j ≤ m + 1 → p j = true) := fun j h1 h2 => by
                    by_cases hj : j = m + 1
                    · rw [hj]; exact hpm
                    · exact Hall.out j h1 (by omega)
                  clear hpm
                  go_wp2_with fail
                  refine (Hhas3.out _).mono ?_
                  rintro e w3 ⟨rfl, hbel3⟩
                  have HP3 := Lib.hid (hP.below hbel3 hP.lt)
                  have hown3 := own_below hown hbel3 (Nat.le_refl _)
                  have hbw3 := hbel.trans (hbel3.mono hbel.size)
                  clear p0 p1 p2 p3 hP hown hbel hbel3
                  go_wp2
                  go_roundw
                  case rel => exact ⟨m + 1, by omega, by omega, by go_num, HA, HP3.out, hown3, hbw3⟩
                  case measure => simp [intOf]; omega
                have hsz3 : w.heap.size + 1 ≤ w3.heap.size := by have := HP3.out.lt; omega
                go_wp2_with (at_builtin; refine wpList_append_new hown3 [.int .u8 M, .int .u8 m] hi hz0 hz1 hz2 rfl (by decide) _ Tryd.underlying68 rfl _ _ rfl rfl rfl rfl (twoCells _ _ _) (by unfold maxLen; omega) (by omega) hsz3 ?_; intro v' w4 hown4 hgr4)
                have hbw4 := below_own hbw3 hgr4 hown3 (by omega) (by omega)
                have HP4 : Hid (Blk w4 w.heap.size 24 (ccells p)) := HP3.out.grown hgr4 (fun h => by
                  have := (hown3.lt _ h.symm).1
                  omega)
                clear hgr4 hown3 hbw3
                go_wp2
                go_roundw
                case rel =>
                  refine ⟨M + 1, m + 1, by omega, by go_num, HA.out, HP4.out, ?_, hbw4⟩
                  rw [HR.out, runCells_append, List.length_append]
                  exact hown4
                case measure => simp [intOf]; omega
              · have hm3 : m = 255 := by omega
                have HA := Lib.hid (RunsAt.more hMm hm Hall.out (.inl hm3))
                have HR := Lib.hid (runs_next p M m hMm Hall.out Hbeg.out)
                have hsz3 : w.heap.size + 1 ≤ wr.heap.size := by have := hP.lt; omega
                have HP3 := Lib.hid hP
                clear hm3 hP
                go_wp2_with (at_builtin; refine wpList_append_new hown [.int .u8 M, .int .u8 m] hi hz0 hz1 hz2 rfl (by decide) _ Tryd.underlying68 rfl _ _ rfl rfl rfl rfl (twoCells _ _ _) (by unfold maxLen; omega) (by omega) hsz3 ?_; intro v' w4 hown4 hgr4)
                have hbw4 := below_own hbel hgr4 hown (by omega) (by omega)
                have HP4 : Hid (Blk w4 w.heap.size 24 (ccells p)) := HP3.out.grown hgr4 (fun h => by
                  have := (hown.lt _ h.symm).1
                  omega)
                clear hgr4 hown hbel
                go_wp2
                go_roundw
                case rel =>
                  refine ⟨M + 1, m + 1, by omega, by go_num, HA.out, HP4.out, ?_, hbw4⟩
                  rw [HR.out, runCells_append, List.length_append]
                  exact hown4
                case measure => simp [intOf]; omega
    · have hk4 : k = 256 := by omega
      subst hk4
      have hM : M = 256 := by have := hat.1; have := hat.2.1; omega
      subst hM
      go_wp2
      go_ret
      exact ⟨_, rfl, own_base hown (by omega), hbel⟩
end Go.Proofs.YtnkiiphliilegaaDoor

/- Walks of show.right, with slices.ContainsFunc over its closure. -/
import Derived.Test.YtnkiiphliilegaaDoorTA
import Derived.Test.YtnkiiphliilegaaDoorSRe
import Derived.Deep.CutRange
import Derived.Deep.DeepCutAuto
namespace Go.Proofs.YtnkiiphliilegaaDoor
open Go.RowKit

/-- the first kid that isn't right -/
def badAt : List Tm → Nat → Int
  | [], _ => -1
  | k :: ks, i => if rightT k then badAt ks (i + 1) else (i : Int)
theorem badAt_iff : ∀ (ks : List Tm) (i : Nat), decide (0 ≤ badAt ks i) = !rightL ks
  | [], i => rfl
  | k :: ks, i => by
    unfold badAt rightL
    cases h : rightT k with
    | true => simpa using badAt_iff ks (i + 1)
    | false => simp
theorem badAt_yes (ks : List Tm) (i : Nat) (hi : i < ks.length) (h : rightT ks[i] = true) : badAt (ks.drop i) i = badAt (ks.drop (i + 1)) (i + 1) := by
  rw [List.drop_eq_getElem_cons hi]
  show (if rightT ks[i] then _ else _) = _
  rw [if_pos h]
theorem badAt_no (ks : List Tm) (i : Nat) (hi : i < ks.length) (h : rightT ks[i] = false) : badAt (ks.drop i) i = (i : Int) := by
  rw [List.drop_eq_getElem_cons hi]
  show (if rightT ks[i] then _ else _) = _
  rw [h]
  rfl
/-- what a call of show.right or of its closure tells of a term -/
def RightOk (f : Nat) (neg : Bool) (N : Nat) : Prop := ∀ (op : Int) (p : Nat → Bool) (mn mx : Int) (ks : List Tm) (A : Option Addr) (c : Nat) (w : World), nodesL ks < N → N ≤ 1000 → KidsIn w (· < w.heap.size) A ks →
    Calls Tryd.prog f #[tval op p mn mx A ks.length c] w fun e w' => e = .returned (.bool (rightT (.node op p mn mx ks) != neg)) ∧ Below w.heap.size w w'

set_option maxHeartbeats 1000000 in
theorem closure_any (N : Nat) (ih : RightOk 14 false N) : RightOk 24 true N := by
  intro op p mn mx ks A c w hN hN1 hks
  have hb0 : Below w.heap.size w (w.alloc (.cells (tcells op p mn mx A ks.length c) 27)) := (Below.refl _ _).alloc (Nat.le_refl _) _
  have Hcall := Lib.hid (ih op p mn mx ks A c _ hN hN1 (hks.below hb0 hb0.size))
  have Hb0 := Lib.hid hb0
  clear hb0 hks ih
  generalize rightT (.node op p mn mx ks) = z at *
  generalize ks.length = n at *
  go_enter Tryd.func24, Tryd.ntmps24
  go_wp2_with (go_at_call 14; refine Hcall.out.mono ?_; rintro e w1 ⟨rfl, hb1⟩)
  go_ret
  exact ⟨ret_bool (by cases z <;> rfl), Hb0.out.trans (hb1.mono Hb0.out.size)⟩

set_option maxHeartbeats 2000000 in
theorem index_any (N : Nat) (ih : RightOk 24 true N) (ks : List Tm) (A : Option Addr) (c : Nat) (w : World) (hN : nodesL ks ≤ N) (hN1 : N ≤ 1000) (hks : KidsIn w (· < w.heap.size) A ks) :
    Calls Tryd.prog 33 #[.slice A ks.length c, .func (.func 24) #[] #[]] w fun e w' => e = .returned (.int .i64 (badAt (ks.drop 0) 0)) ∧ Below w.heap.size w w' := by
  obtain ⟨n, hn⟩ : ∃ n, n = ks.length := ⟨_, rfl⟩
  have hn1 : n ≤ 1000 := by have := nodesL_len ks; omega
  rw [← hn]
  have Hn := Lib.hid hn
  have Hk := Lib.hid hks
  have Hih := Lib.hid ih
  clear hn hks ih
  go_enter Tryd.func33, Tryd.ntmps33
  go_wp2
  go_loopw [8] (fun i wr => ∃ k : Nat, k ≤ n ∧ i = .int .i64 k ∧ Hid (badAt (ks.drop k) k = badAt (ks.drop 0) 0) ∧ Below w.heap.size w wr) (fun i _ => n - (intOf i).toNat)
  case atStart => exact ⟨0, Nat.zero_le _, rfl, rfl, Below.refl _ _⟩
  case round =>
    obtain ⟨k, hk, rfl, Hrel, hbel⟩ := hrel
    by_cases hlt : k < n
    · have hkl : k < ks.length := by have := Hn.out; omega
      obtain ⟨b, off, op', p', mn', mx', ks', A', c', rfl, hbB, hkid, hcells, hks'⟩ := Hk.out.kid k hkl
      have hcells' := hcells.keep (w' := wr) fun x => hbel.cell (p := ⟨b, x, none⟩) hbB
      have hks2 := hks'.below hbel hbel.size
      have hnk : nodesL ks' < N := by
        have := nodesL_at ks k hkl
        rw [hkid] at this
        unfold nodes at this
        omega
      have hcall := Hih.out op' p' mn' mx' ks' A' c' wr hnk hN1 hks2
      rw [← hkid] at hcall
      obtain ⟨e0, e1, e2, e3, e4, e5, e6, e7⟩ := hcells'
      cases hz : rightT ks[k] with
      | true =>
        have Hst := Lib.hid (badAt_yes ks k hkl hz)
        rw [hz] at hcall
        have Hcall := Lib.hid hcall
        clear hkid hcells hks' hks2 hcall hnk hz
        generalize ks'.length = n' at *
        go_wp2_with (go_at_call 24; refine Hcall.out.mono ?_; rintro e w1 ⟨rfl, hb1⟩)
        go_roundw
        case rel => exact ⟨k + 1, by omega, by go_num, by rw [← Hst.out]; exact Hrel, hbel.trans (hb1.mono hbel.size)⟩
        case measure => simp [intOf]; omega
      | false =>
        have Hend : Hid ((k : Int) = badAt (ks.drop 0) 0) := Lib.hid (by rw [← Hrel.out, badAt_no ks k hkl hz])
        rw [hz] at hcall
        have Hcall := Lib.hid hcall
        clear hkid hcells hks' hks2 hcall hnk hz
        generalize ks'.length = n' at *
        go_wp2_with (go_at_call 24; refine Hcall.out.mono ?_; rintro e w1 ⟨rfl, hb1⟩)
        go_ret
        exact ⟨by rw [← Hend.out]; rfl, hbel.trans (hb1.mono hbel.size)⟩
    · have Hend : Hid ((-1 : Int) = badAt (ks.drop 0) 0) := Lib.hid (by rw [← Hrel.out, List.drop_eq_nil_of_le (by have := Hn.out; omega)]; rfl)
      go_wp2
      go_ret
      exact ⟨by rw [← Hend.out]; rfl, hbel⟩

theorem contains_any (N : Nat) (ih : RightOk 24 true N) (ks : List Tm) (A : Option Addr) (c : Nat) (w : World) (hN : nodesL ks ≤ N) (hN1 : N ≤ 1000) (hks : KidsIn w (· < w.heap.size) A ks) :
    Calls Tryd.prog 23 #[.slice A ks.length c, .func (.func 24) #[] #[]] w fun e w' => e = .returned (.bool (!rightL ks)) ∧ Below w.heap.size w w' := by
  have Hcall := Lib.hid (index_any N ih ks A c w hN hN1 hks)
  have hb := badAt_iff (ks.drop 0) 0
  rw [List.drop_zero] at hb Hcall
  have Hb := Lib.hid hb
  clear hb hks ih hN
  generalize badAt ks 0 = z at *
  generalize rightL ks = r at *
  generalize ks.length = n at *
  go_enter Tryd.func23, Tryd.ntmps23
  go_wp2_with (go_at_call 33; refine Hcall.out.mono ?_; rintro e w1 ⟨rfl, hb1⟩)
  go_ret
  exact ⟨ret_bool Hb.out, hb1⟩
end Go.Proofs.YtnkiiphliilegaaDoor

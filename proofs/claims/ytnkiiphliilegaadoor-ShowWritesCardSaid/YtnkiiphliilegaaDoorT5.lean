/- Walk of riddleref06.Right: a node that is right in itself, then its kids. -/
import Derived.Test.YtnkiiphliilegaaDoorT4
namespace Go.Proofs.YtnkiiphliilegaaDoor
open Go.RowKit

theorem rightL_yes (ks : List Tm) (i : Nat) (hi : i < ks.length) (h : rightT ks[i] = true) : rightL (ks.drop i) = rightL (ks.drop (i + 1)) := by
  rw [List.drop_eq_getElem_cons hi]
  show (rightT ks[i] && _) = _
  rw [h]
  rfl
theorem rightL_no (ks : List Tm) (i : Nat) (hi : i < ks.length) (h : rightT ks[i] = false) : rightL (ks.drop i) = false := by
  rw [List.drop_eq_getElem_cons hi]
  show (rightT ks[i] && _) = _
  rw [h]
  rfl
/-- a node that is right in itself, in the walk's spelling -/
def Fits (op : Int) (p : Nat → Bool) (mn mx : Int) (n : Nat) : Prop :=
  (op = 2 ∧ mn = 0 ∧ mx = 0 ∧ ((n : Int) != 0) = false) ∨ (mn = 0 ∧ mx = 0 ∧ noneF p = true ∧ 1 ≤ op ∧ op < 6 ∧ (op == 6) = false ∧ (op == 7) = false ∧ (op == 8) = false ∧ (op != 8) = true ∧ (op != 2) = true ∧ ((n : Int) != 0) = false) ∨
  (op = 6 ∧ mn = 0 ∧ mx = 0 ∧ noneF p = true ∧ ¬ n < 2) ∨ (op = 7 ∧ mn = 0 ∧ mx = 0 ∧ noneF p = true ∧ ¬ n < 2) ∨
  (op = 8 ∧ noneF p = true ∧ ((n : Int) != 1) = false ∧ 0 ≤ mn ∧ mn ≤ 200 ∧ mx = -1) ∨ (op = 8 ∧ noneF p = true ∧ ((n : Int) != 1) = false ∧ 0 ≤ mn ∧ mn ≤ 200 ∧ 0 ≤ mx ∧ mx ≤ 200 ∧ mn ≤ mx)

set_option maxHeartbeats 32000000 in
theorem refRight_yes (N : Nat) (ih : RefRightOk N) (op : Int) (p : Nat → Bool) (mn mx : Int) (ks : List Tm) (A : Option Addr) (c : Nat) (w : World) (hN : nodesL ks ≤ N) (hN1 : N ≤ 1000) (hks : KidsIn w (· < w.heap.size) A ks) (hf : Fits op p mn mx ks.length) :
    Calls Tryd.prog 18 #[tval op p mn mx A ks.length c] w fun e w' => e = .returned (.bool (rightL (ks.drop 0))) ∧ Below w.heap.size w w' := by
  obtain ⟨n, hn⟩ : ∃ n, n = ks.length := ⟨_, rfl⟩
  have hn1 : n ≤ 1000 := by have := nodesL_len ks; omega
  rw [← hn] at hf ⊢
  have Hn := Lib.hid hn
  have Hk := Lib.hid hks
  have Hih := Lib.hid ih
  have hneq := neq_none p
  clear hn hks ih
  rcases hf with ⟨rfl, rfl, rfl, f1⟩ | ⟨rfl, rfl, hno, f1, f2, f3, f4, f5, f6, f7, f8⟩ | ⟨rfl, rfl, rfl, hno, f1⟩ | ⟨rfl, rfl, rfl, hno, f1⟩ | ⟨rfl, hno, f1, f2, f3, rfl⟩ | ⟨rfl, hno, f1, f2, f3, f4, f5, f6⟩
  all_goals
    try rw [hno] at hneq
    go_enter Tryd.func18, Tryd.ntmps18
    go_wp2
    clear hneq
    go_loopw [4] (fun i wr => ∃ k : Nat, k ≤ n ∧ i = .int .i64 k ∧ Hid (rightL (ks.drop k) = rightL (ks.drop 0)) ∧ (wr.cell? ⟨w.heap.size, 7, none⟩ = some (.slice A n c) ∧ w.heap.size < wr.heap.size) ∧ Below w.heap.size w wr) (fun i _ => n - (intOf i).toNat)
    case atStart => exact ⟨0, Nat.zero_le _, rfl, rfl, ⟨(Blk.new w 27 _).cell 7, by simp⟩, (Below.refl _ _).alloc (Nat.le_refl _) _⟩
    case round =>
      obtain ⟨k, hk, rfl, Hrel, ⟨c7, hsz⟩, hbel⟩ := hrel
      by_cases hlt : k < n
      · have hkl : k < ks.length := by have := Hn.out; omega
        obtain ⟨b, off, op', p', mn', mx', ks', A', c', rfl, hbB, hkid, hcells, hks'⟩ := Hk.out.kid k hkl
        have hcells' := hcells.keep (w' := wr) fun x => hbel.cell (p := ⟨b, x, none⟩) hbB
        have hks2 := hks'.below hbel hbel.size
        have hnk : nodesL ks' < N := by
          have := nodesL_at ks k hkl
          rw [hkid] at this
          unfold nodes at this
          omega
        have hcall := Hih.out op' p' mn' mx' ks' A' c' wr hnk hN1 hks2
        rw [← hkid] at hcall
        obtain ⟨e0, e1, e2, e3, e4, e5, e6, e7⟩ := hcells'
        cases hz : rightT ks[k] with
        | true =>
          have Hst := Lib.hid (rightL_yes ks k hkl hz)
          rw [hz] at hcall
          have Hcall := Lib.hid hcall
          clear hkid hcells hks' hks2 hcall hnk hz
          generalize ks'.length = n' at *
          go_wp2_with (go_at_call 18; refine Hcall.out.mono ?_; rintro e w1 ⟨rfl, hb1⟩)
          go_roundw
          case rel => exact ⟨k + 1, by omega, by go_num, by rw [← Hst.out]; exact Hrel, ⟨(hb1.cell (p := ⟨w.heap.size, 7, none⟩) hsz).trans c7, Nat.lt_of_lt_of_le hsz hb1.size⟩, hbel.trans (hb1.mono hbel.size)⟩
          case measure => simp [intOf]; omega
        | false =>
          have Hend : Hid (false = rightL (ks.drop 0)) := Lib.hid (by rw [← Hrel.out, rightL_no ks k hkl hz])
          rw [hz] at hcall
          have Hcall := Lib.hid hcall
          clear hkid hcells hks' hks2 hcall hnk hz
          generalize ks'.length = n' at *
          go_wp2_with (go_at_call 18; refine Hcall.out.mono ?_; rintro e w1 ⟨rfl, hb1⟩)
          go_ret
          exact ⟨by rw [← Hend.out]; rfl, hbel.trans (hb1.mono hbel.size)⟩
      · have Hend : Hid (true = rightL (ks.drop 0)) := Lib.hid (by rw [← Hrel.out, List.drop_eq_nil_of_le (by have := Hn.out; omega)]; rfl)
        go_wp2
        go_ret
        exact ⟨by rw [← Hend.out]; rfl, hbel⟩

theorem refRight_step (N : Nat) (ih : RefRightOk N) : RefRightOk (N + 1) := by
  intro op p mn mx ks A c w hN hN1 hks
  cases hq : (decide (1 ≤ op) && decide (op ≤ 8) && kidsB op ks.length && numsB op mn mx && (decide (op = 2) || noneF p)) with
  | false =>
    rw [rightT_no hq]
    by_cases h1 : op < 1 ∨ 8 < op
    · exact refRight_out op p mn mx A _ c w h1
    have h1' : 1 ≤ op := by omega
    have h8' : op ≤ 8 := by omega
    simp only [h1', h8', decide_true, Bool.true_and] at hq
    cases hkB : kidsB op ks.length with
    | false => exact refRight_kids op p mn mx A _ c w h1' h8' hkB
    | true =>
      rw [hkB, Bool.true_and] at hq
      rcases kinds_of op _ h8' hkB with hk | ⟨rfl, hn⟩
      · have hne : op ≠ 8 := by
          rcases hk with h | h | h | h
          · omega
          · omega
          · omega
          · omega
        by_cases hmn : mn = 0
        · subst hmn
          by_cases hmx : mx = 0
          · subst hmx
            have : numsB op 0 0 = true := by unfold numsB; rw [if_neg hne]; rfl
            rw [this, Bool.true_and] at hq
            simp only [Bool.or_eq_false_iff, decide_eq_false_iff_not] at hq
            exact refRight_set op p A _ c w h1' h8' hk hq.1 hq.2
          · exact refRight_num2 op p mx A _ c w h1' h8' hk hmx
        · exact refRight_num1 op p mn mx A _ c w h1' h8' hk hmn
      · refine refRight_rep p mn mx A _ c w hn ?_
        simp at hq
        cases h : numsB 8 mn mx with
        | false => exact .inr rfl
        | true => exact .inl (hq h)
  | true =>
    rw [rightT_yes hq]
    have hf : Fits op p mn mx ks.length := by
      simp only [Bool.and_eq_true, decide_eq_true_eq, Bool.or_eq_true] at hq
      obtain ⟨⟨⟨⟨h1, h8⟩, hk⟩, hn⟩, hp⟩ := hq
      rcases kinds_of op _ h8 hk with hk | ⟨rfl, hn1⟩
      · have hne : op ≠ 8 := by
          rcases hk with h | h | h | h
          · omega
          · omega
          · omega
          · omega
        unfold numsB at hn
        rw [if_neg hne] at hn
        simp only [Bool.and_eq_true, decide_eq_true_eq] at hn
        obtain ⟨rfl, rfl⟩ := hn
        rcases hk with ⟨rfl, h⟩ | ⟨h6, f6, f7, f8, g8, g2, h⟩ | ⟨rfl, h⟩ | ⟨rfl, h⟩
        · exact .inl ⟨rfl, rfl, rfl, h⟩
        · have : op ≠ 2 := by simpa using g2
          exact .inr (.inl ⟨rfl, rfl, hp.resolve_left this, h1, h6, f6, f7, f8, g8, g2, h⟩)
        · exact .inr (.inr (.inl ⟨rfl, rfl, rfl, hp.resolve_left (by omega), h⟩))
        · exact .inr (.inr (.inr (.inl ⟨rfl, rfl, rfl, hp.resolve_left (by omega), h⟩)))
      · have hno := hp.resolve_left (by omega)
        simp [numsB] at hn
        obtain ⟨⟨⟨q1, q2⟩, q3⟩, q4⟩ := hn
        by_cases hmx : mx = -1
        · exact .inr (.inr (.inr (.inr (.inl ⟨rfl, hno, hn1, q1, q2, hmx⟩))))
        · exact .inr (.inr (.inr (.inr (.inr ⟨rfl, hno, hn1, q1, q2, by omega, q3, by omega⟩))))
    have := refRight_yes N ih op p mn mx ks A c w (by omega) (by omega) hks hf
    rwa [List.drop_zero] at this
theorem refRight_all : ∀ N, RefRightOk N
  | 0 => fun _ _ _ _ _ _ _ _ h => by omega
  | N + 1 => refRight_step N (refRight_all N)
end Go.Proofs.YtnkiiphliilegaaDoor

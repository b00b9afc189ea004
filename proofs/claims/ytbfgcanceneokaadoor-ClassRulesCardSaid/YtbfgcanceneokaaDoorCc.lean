/- Walk of class.Bytes: the bytes of a class, rising, in new memory. -/
import Derived.Test.YtbfgcanceneokaaDoorCb
namespace Go.Proofs.YtbfgcanceneokaaDoor
open Go.RowKit

/-- A call gave a slice that reads as these bytes, in new memory; nothing that was there has changed. -/
def GaveBytes (L : List Nat) (w : World) (e : Ending) (w' : World) : Prop :=
  ∃ v, e = .returned v ∧ w'.ownsRow w.heap.size 5 1 v L.length (u8s L) ∧ Below w.heap.size w w'
theorem gave_bytes {L : List Nat} {w w' : World} {e : Ending} (h : GaveBytes L w e w') :
    ∃ A c, e = .returned (.slice A L.length c) ∧ Rd w' w'.heap.size A (u8s L) ∧ Below w.heap.size w w' := by
  obtain ⟨v, rfl, hown, hb⟩ := h
  obtain ⟨_, A, c, rfl, hr⟩ := own_rd hown
  exact ⟨A, c, rfl, hr, hb⟩

theorem u8_info : (Tryd.prog.info? 5).map (fun i => (i.zero, i.size, i.bytes)) = some (some (.int .u8 0), 1, 1) := by kernel_rfl

theorem tab_below {w w' : World} {B : Nat} (h : Tab64 w) (hb : Below B w w') (hB : w.heap.size ≤ B) : Tab64 w' := fun j hj =>
  (hb.cell (p := ⟨0, j, none⟩) (Nat.lt_of_lt_of_le (block_lt_of_cell (h j hj)) hB)).trans (h j hj)

/-- the word k of a class, its bits from m on -/
def restOf (p : Nat → Bool) (k m : Nat) : Nat := bitsOf (fun j => p (64 * k + j) && decide (m ≤ j)) 64
theorem restOf_zero (p : Nat → Bool) (k : Nat) : restOf p k 0 = pw p k := by
  unfold restOf pw
  exact bitsOf_congr fun j _ => by simp
theorem restOf_lt (p : Nat → Bool) (k m : Nat) : restOf p k m < 18446744073709551616 := bitsOf_lt _ 64
theorem restOf_none (p : Nat → Bool) (k m : Nat) (hm : m ≤ 64) (h : restOf p k m = 0) : bytesOf p (64 * k + m) = bytesOf p (64 * (k + 1)) := by
  have hz := bitsOf_zero h
  obtain ⟨d, hd⟩ : ∃ d, 64 = m + d := ⟨64 - m, by omega⟩
  have := bytesOf_skip p (64 * k + m) d fun j hj => by
    have := hz (m + j) (by omega)
    simpa [← Nat.add_assoc] using this
  rw [← this]
  congr 1
  omega
theorem restOf_step (p : Nat → Bool) (k m x : Nat) (hx : x = restOf p k m) (h : x ≠ 0) :
    ∃ z, Lib.ctz 64 x = z ∧ z < 64 ∧ m ≤ z ∧ bytesOf p (64 * k + (z + 1)) = bytesOf p (64 * k + m) ++ [64 * k + z] ∧ x &&& (x - 1) = restOf p k (z + 1) ∧ restOf p k (z + 1) < x := by
  unfold restOf at hx
  have hl := bitsOf_low (fun j => p (64 * k + j) && decide (m ≤ j)) 64 (by rw [← hx]; exact h)
  rw [← hx] at hl
  obtain ⟨h1, h2, h3, h4⟩ := hl
  obtain ⟨z, hz⟩ : ∃ z, Lib.ctz 64 x = z := ⟨_, rfl⟩
  rw [hz] at h1 h2 h3 h4
  simp only [Bool.and_eq_true, decide_eq_true_eq] at h2
  have e : bitsOf (fun j => (p (64 * k + j) && decide (m ≤ j)) && decide (z < j)) 64 = restOf p k (z + 1) := by
    unfold restOf
    apply bitsOf_congr
    intro j _
    rw [Bool.eq_iff_iff]
    simp only [Bool.and_eq_true, decide_eq_true_eq]
    have := h2.2
    constructor
    · rintro ⟨⟨a, b⟩, c⟩; exact ⟨a, by omega⟩
    · rintro ⟨a, b⟩; exact ⟨⟨a, by omega⟩, by omega⟩
  refine ⟨z, hz, h1, h2.2, ?_, by rw [h4, e], ?_⟩
  · have e1 : 64 * k + (z + 1) = (64 * k + z) + 1 := by omega
    rw [e1, bytesOf_succ, if_pos h2.1]
    congr 1
    obtain ⟨d, rfl⟩ : ∃ d, z = m + d := ⟨z - m, by omega⟩
    have := bytesOf_skip p (64 * k + m) d fun j hj => by
      have := h3 (m + j) (by omega)
      have hmj : m ≤ m + j := by omega
      simpa [hmj, ← Nat.add_assoc] using this
    rw [← this]
    congr 1
    omega
  · have : x &&& (x - 1) ≤ x - 1 := Nat.and_le_right
    rw [h4, e] at this
    omega

set_option maxHeartbeats 2000000 in
theorem bytes_any (p : Nat → Bool) (w : World) (hT : Tab64 w) :
    Calls Tryd.prog 13 #[cval p] w (GaveBytes (bytesOf p 256) w) := by
  obtain ⟨i0, hi, hz0, hz1, hz2⟩ := info_parts u8_info
  have HT := Lib.hid hT
  clear hT
  go_enter Tryd.func13, Tryd.ntmps13
  go_wp2
  go_loopw [2, 4, 6] (fun out _ i wr => ∃ k : Nat, k ≤ 4 ∧ i = .int .i64 k ∧ wr.ownsRow w.heap.size 5 1 out (bytesOf p (64 * k)).length (u8s (bytesOf p (64 * k))) ∧ Below w.heap.size w wr) (fun _ _ i _ => 4 - (intOf i).toNat)
  case atStart => exact ⟨0, Nat.zero_le _, rfl, World.ownsRow_nil _ _ _ _, (Below.refl _ _).alloc (Nat.le_refl _) _⟩
  case round =>
    obtain ⟨k, hk, rfl, hown, hbel⟩ := hrel
    by_cases hlt : k < 4
    · have hidx := word_at p k hlt
      have hkb : decide ((k : Int) < 4) = true := by simp; omega
      have Hrest : Hid (restOf p k 0 = pw p k) := restOf_zero p k
      generalize pw p k = x0 at *
      go_wp2
      go_loopw [2, 4] (fun out x wi => ∃ m : Nat, m ≤ 64 ∧ x = .int .u64 (restOf p k m : Nat) ∧ wi.ownsRow w.heap.size 5 1 out (bytesOf p (64 * k + m)).length (u8s (bytesOf p (64 * k + m))) ∧ Below w.heap.size w wi) (fun _ x _ => (intOf x).toNat)
      case atStart => exact ⟨0, Nat.zero_le _, by rw [Hrest.out], hown, hbel⟩
      case round =>
        clear hown hbel
        obtain ⟨m, hm, rfl, hown, hbel⟩ := hrel
        have hxl := restOf_lt p k m
        obtain ⟨x, hx⟩ : ∃ x, x = restOf p k m := ⟨_, rfl⟩
        rw [← hx] at hxl ⊢
        by_cases hx0 : x = 0
        · have Hend := Lib.hid (restOf_none p k m hm (by rw [← hx]; exact hx0))
          subst hx0
          clear hx hxl
          go_wp2
          go_roundw
          case rel => exact ⟨k + 1, by omega, by go_num, by rw [← Hend.out]; exact hown, hbel⟩
          case measure => simp [intOf]; omega
        · obtain ⟨z, hz, hz64, hmz, hlist, hand, hless⟩ := restOf_step p k m x hx hx0
          have hx1 : 1 ≤ x := by omega
          have hxb : ((x : Int) != 0) = true := by simp; omega
          have Htz := Lib.hid (fun W h => tz_any x hx0 hxl W h)
          rw [hz] at Htz
          have hT2 := tab_below HT.out hbel (Nat.le_refl _)
          have HT2 := Lib.hid hT2
          have hlen := bytesOf_le p (64 * k + m)
          have hand2 : bits .and .u64 (x : Int) ((x : Int) - 1) = (restOf p k (z + 1) : Nat) := by
            have e : ((x : Int) - 1) = ((x - 1 : Nat) : Int) := by omega
            rw [e, bits_and_u64_nat _ _ hxl (by omega), hand]
          have Hless := Lib.hid hless
          have Hlist := Lib.hid hlist
          clear hand hlist hless hz hx hT2
          obtain ⟨y, hy⟩ : ∃ y, y = restOf p k (z + 1) := ⟨_, rfl⟩
          rw [← hy] at hand2 Hless
          have Hy := Lib.hid hy
          clear hy
          go_wp2_with (first
            | (go_at_call 27; refine (Htz.out _ HT2.out).mono ?_; rintro e w1 ⟨rfl, rfl⟩)
            | (at_builtin; refine wpList_append_new hown [.int .u8 (k * 64 + z)] hi hz0 hz1 hz2 rfl (by decide) _ Tryd.underlying30 rfl _ _ rfl rfl rfl rfl ?c2 ?c3 ?c4 ?c5 ?_))
          case c2 => intro u hu; simp at hu; subst hu; rfl
          case c3 => unfold maxLen; omega
          case c4 => omega
          case c5 => exact hbel.size
          · intro v' w1 hown1 hgr1
            have hbel1 := below_own hbel hgr1 hown (Nat.le_refl _) hbel.size
            clear hgr1 hown hbel HT2
            go_wp2
            go_roundw
            case rel =>
              refine ⟨z + 1, by omega, by rw [Hy.out], ?_, hbel1⟩
              rw [Hlist.out, u8s_append, List.length_append]
              have e : ((64 * k + z : Nat) : Int) = (k : Int) * 64 + z := by omega
              simpa [u8s, e] using hown1
            case measure => have := Hless.out; simp [intOf]; omega
    · have hk4 : k = 4 := by omega
      subst hk4
      go_wp2
      go_ret
      exact ⟨_, rfl, hown, hbel⟩
end Go.Proofs.YtbfgcanceneokaaDoor

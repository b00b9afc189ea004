/- Walks of class: Of, Range, Len, Bytes. -/
import Derived.Test.YtbfgcanceneokaaDoorCa
namespace Go.Proofs.YtbfgcanceneokaaDoor
open Go.RowKit

/-- a class stored over itself, word by word -/
theorem blk_again {w : World} {g : Nat} {t : TypeId} {p : Nat → Bool} (h : Blk w g t (ccells p)) :
    Blk ((((w.setCell ⟨g, 0, none⟩ (.int .u64 (pw p 0 : Nat))).setCell ⟨g, 1, none⟩ (.int .u64 (pw p 1 : Nat))).setCell ⟨g, 2, none⟩ (.int .u64 (pw p 2 : Nat))).setCell ⟨g, 3, none⟩ (.int .u64 (pw p 3 : Nat))) g t (ccells p) := by
  have := (((h.store 0 (.int .u64 (pw p 0 : Nat))).store 1 (.int .u64 (pw p 1 : Nat))).store 2 (.int .u64 (pw p 2 : Nat))).store 3 (.int .u64 (pw p 3 : Nat))
  simpa [ccells] using this

set_option maxHeartbeats 1000000 in
theorem of_any (L : List Nat) (hL : ∀ b ∈ L, b < 256) (A : Option Addr) (c : Nat) (w : World) (hm : L.length ≤ 9223372036854775807) (hr : Rd w w.heap.size A (u8s L)) :
    Calls Tryd.prog 21 #[.slice A L.length c] w fun e w' => e = .returned (cval (setOf L)) ∧ Below w.heap.size w w' := by
  have hz0 := setOf_nil 0
  have hz1 := setOf_nil 1
  have hz2 := setOf_nil 2
  have hz3 := setOf_nil 3
  obtain ⟨n, hn⟩ : ∃ n, n = L.length := ⟨_, rfl⟩
  rw [← hn] at hm ⊢
  have Hn := Lib.hid hn
  clear hn
  have hb0 : Blk (w.alloc (.cells #[.int .u64 0, .int .u64 0, .int .u64 0, .int .u64 0] 24)) w.heap.size 24 (ccells (setOf [])) := by
    have := Blk.new w 24 (ccells (setOf []))
    simpa [ccells, hz0, hz1, hz2, hz3] using this
  have Hb0 := Lib.hid hb0
  clear hb0 hz0 hz1 hz2 hz3
  go_enter Tryd.func21, Tryd.ntmps21
  go_wp2
  go_loopw [7] (fun i wr => ∃ k : Nat, k ≤ n ∧ i = .int .i64 k ∧ Blk wr w.heap.size 24 (ccells (setOf (L.take k))) ∧ Below w.heap.size w wr) (fun i _ => n - (intOf i).toNat)
  case atStart => exact ⟨0, Nat.zero_le _, rfl, Hb0.out, (Below.refl _ _).alloc (Nat.le_refl _) _⟩
  case round =>
    obtain ⟨k, hk, rfl, hblk, hbel⟩ := hrel
    by_cases hlt : k < n
    · have hkl : k < L.length := by have := Hn.out; omega
      obtain ⟨b, off, rfl, hbB, hc⟩ := hr.at_ (u8s_get L k hkl)
      have hcw := (hbel.cell (p := ⟨b, off + k, none⟩) hbB).trans hc
      have hlk : L[k] < 256 := hL _ (List.getElem_mem hkl)
      have hput := fun W h => put_any (setOf (L.take k)) L[k] hlk w.heap.size 24 W h
      have Hset := Lib.hid (setOf_take L k hkl)
      generalize L[k] = x at *
      clear hc hr
      have Hput := Lib.hid hput
      clear hput
      go_wp2_with (go_at_call 29; refine (Hput.out _ hblk).mono ?_; rintro e w1 ⟨rfl, hblk1, hgr1⟩)
      go_roundw
      case rel => exact ⟨k + 1, by omega, by go_num, by rw [← Hset.out]; exact hblk1, below_byGrown hbel hgr1 hbel.size (Nat.le_refl _)⟩
      case measure => simp [intOf]; omega
    · have hkn : k = n := by omega
      subst hkn
      have hL2 : L.take k = L := List.take_of_length_le (by have := Hn.out; omega)
      rw [hL2] at hblk
      have h0 := hblk.cell 0
      have h1 := hblk.cell 1
      have h2 := hblk.cell 2
      have h3 := hblk.cell 3
      have hf := hblk.free
      simp only [List.getElem?_toArray, List.getElem?_cons_zero, List.getElem?_cons_succ] at h0 h1 h2 h3
      go_wp2
      have Hb := blk_again hblk
      exact bodyPost_ret (v := cval (setOf L)) (results_cell_row Tryd.results21 _ _ _ _ _ _ _ rfl Hb Tryd.underlying24 rfl (by kernel_rfl)) rfl
        ⟨rfl, (((hbel.setCell (Nat.le_refl _) _).setCell (Nat.le_refl _) _).setCell (Nat.le_refl _) _).setCell (Nat.le_refl _) _⟩

set_option maxHeartbeats 1000000 in
theorem range_any (a b : Nat) (ha : a < 256) (hb : b < 256) (w : World) :
    Calls Tryd.prog 23 #[.int .u8 a, .int .u8 b] w fun e w' => e = .returned (cval (fromTo a b)) ∧ Below w.heap.size w w' := by
  have hz0 := upTo_self a 0
  have hz1 := upTo_self a 1
  have hz2 := upTo_self a 2
  have hz3 := upTo_self a 3
  have hb0 : Blk (w.alloc (.cells #[.int .u64 0, .int .u64 0, .int .u64 0, .int .u64 0] 24)) w.heap.size 24 (ccells (upTo a a)) := by
    have := Blk.new w 24 (ccells (upTo a a))
    simpa [ccells, hz0, hz1, hz2, hz3] using this
  have Hb0 := Lib.hid hb0
  clear hb0 hz0 hz1 hz2 hz3
  go_enter Tryd.func23, Tryd.ntmps23
  go_wp2
  go_loopw [5] (fun i wr => ∃ k : Nat, (k = a ∨ k ≤ b + 1) ∧ a ≤ k ∧ i = .int .i64 k ∧ Blk wr w.heap.size 24 (ccells (upTo a k)) ∧ Below w.heap.size w wr) (fun i _ => b + 1 - (intOf i).toNat)
  case atStart => exact ⟨a, .inl rfl, Nat.le_refl _, rfl, Hb0.out, (Below.refl _ _).alloc (Nat.le_refl _) _⟩
  case round =>
    obtain ⟨k, hk, hak, rfl, hblk, hbel⟩ := hrel
    by_cases hlt : k ≤ b
    · have hk6 : k < 256 := by omega
      have Hput := Lib.hid (fun W h => put_any (upTo a k) k hk6 w.heap.size 24 W h)
      have Hset := Lib.hid (upTo_succ a k hak)
      have Hk := Lib.hid hk
      clear hk
      go_wp2_with (go_at_call 29; refine (Hput.out _ hblk).mono ?_; rintro e w1 ⟨rfl, hblk1, hgr1⟩)
      go_roundw
      case rel => exact ⟨k + 1, .inr (by omega), by omega, by go_num, by rw [← Hset.out]; exact hblk1, below_byGrown hbel hgr1 hbel.size (Nat.le_refl _)⟩
      case measure => simp [intOf]; omega
    · have he := upTo_end a b k (by omega) hk
      rw [he] at hblk
      clear he
      have Hk := Lib.hid hk
      clear hk
      have h0 := hblk.cell 0
      have h1 := hblk.cell 1
      have h2 := hblk.cell 2
      have h3 := hblk.cell 3
      have hf := hblk.free
      simp only [List.getElem?_toArray, List.getElem?_cons_zero, List.getElem?_cons_succ] at h0 h1 h2 h3
      go_wp2
      have Hb := blk_again hblk
      exact bodyPost_ret (v := cval (fromTo a b)) (results_cell_row Tryd.results23 _ _ _ _ _ _ _ rfl Hb Tryd.underlying24 rfl (by kernel_rfl)) rfl
        ⟨rfl, (((hbel.setCell (Nat.le_refl _) _).setCell (Nat.le_refl _) _).setCell (Nat.le_refl _) _).setCell (Nat.le_refl _) _⟩

/-- a word of a class by its place -/
theorem word_at (p : Nat → Bool) (k : Nat) (hk : k < 4) : ∀ w : World, (Instr.index 24 (cval p) (.int .i64 (k : Int))).run Tryd.prog w = .ok (.int .u64 (pw p k : Nat)) w := by
  have : k = 0 ∨ k = 1 ∨ k = 2 ∨ k = 3 := by omega
  rcases this with rfl | rfl | rfl | rfl <;> exact fun _ => by kernel_rfl

set_option maxHeartbeats 1000000 in
theorem len_any (p : Nat → Bool) (w : World) :
    Calls Tryd.prog 16 #[cval p] w fun e w' => e = .returned (.int .i64 (popOf p 256 : Nat)) ∧ Below w.heap.size w w' := by
  go_enter Tryd.func16, Tryd.ntmps16
  go_wp2
  go_loopw [2, 6] (fun n i wr => ∃ k : Nat, k ≤ 4 ∧ i = .int .i64 k ∧ n = .int .i64 (popOf p (64 * k) : Nat) ∧ Below w.heap.size w wr) (fun _ i _ => 4 - (intOf i).toNat)
  case atStart => exact ⟨0, Nat.zero_le _, rfl, rfl, (Below.refl _ _).alloc (Nat.le_refl _) _⟩
  case round =>
    obtain ⟨k, hk, rfl, rfl, hbel⟩ := hrel
    by_cases hlt : k < 4
    · have hidx := word_at p k hlt
      have Hones := Lib.hid (fun W => ones_bitsOf (fun j => p (64 * k + j)) W)
      have Hpw : Hid (pw p k = bitsOf (fun j => p (64 * k + j)) 64) := rfl
      have hle := popOf_le p (64 * k)
      have hle2 := popOf_le (fun j => p (64 * k + j)) 64
      have Hsum : Hid (popOf p (64 * (k + 1)) = popOf p (64 * k) + popOf (fun j => p (64 * k + j)) 64) := popOf_add p (64 * k) 64
      generalize popOf (fun j => p (64 * k + j)) 64 = m at *
      generalize popOf p (64 * k) = n at *
      rw [← Hpw.out] at Hones
      generalize pw p k = x at *
      go_wp2_with (go_at_call 28; refine (Hones.out _).mono ?_; rintro e w1 ⟨rfl, rfl⟩)
      go_roundw
      case rel => exact ⟨k + 1, by omega, by go_num, by rw [Hsum.out]; go_num, hbel⟩
      case measure => simp [intOf]; omega
    · have hk4 : k = 4 := by omega
      subst hk4
      go_wp2
      go_ret
      exact ⟨rfl, hbel⟩
end Go.Proofs.YtbfgcanceneokaaDoor

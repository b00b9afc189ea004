/- Walks of class: Has, And, Or, Not, put, Of, Range, Len; of the reference: Has, Other. · Walks of class: Of, Range, Len, Bytes. · Walk of class.Bytes: the bytes of a class, rising, in new memory. · Walk of class.Fold: a class with the other case of each letter. · Walk of class.Runs: the runs of a class's bytes, in new memory. · A row of runs that a call gave: it reads as those runs. -/
import Derived.Test.YtnkiiphliilegaaDoorSFa
import Derived.Test.YtnkiiphliilegaaDoorMc
import Derived.Test.YtnkiiphliilegaaDoorWd
import Derived.RegionTactic
import Derived.ChangeAlike
namespace Go.Proofs.YtnkiiphliilegaaDoor
section
open Go.RowKit

theorem ccells_at (p : Nat → Bool) (b : Nat) (hb : b < 256) :
    [Value.int .u64 (pw p 0 : Nat), .int .u64 (pw p 1 : Nat), .int .u64 (pw p 2 : Nat), .int .u64 (pw p 3 : Nat)][b / 64]? = some (.int .u64 (pw p (b / 64) : Nat)) := by
  have : b / 64 = 0 ∨ b / 64 = 1 ∨ b / 64 = 2 ∨ b / 64 = 3 := by omega
  rcases this with h | h | h | h <;> simp [h]
theorem ccells_get (p : Nat → Bool) (b : Nat) (hb : b < 256) : (ccells p)[b / 64]? = some (.int .u64 (pw p (b / 64) : Nat)) := by
  rw [← ccells_at p b hb]
  simp
theorem ccells_add (p : Nat → Bool) (b : Nat) (hb : b < 256) : (ccells p).setIfInBounds (b / 64) (.int .u64 (pw (addB p b) (b / 64) : Nat)) = ccells (addB p b) := by
  have h0 := fun h => pw_add_other p b 0 h
  have h1 := fun h => pw_add_other p b 1 h
  have h2 := fun h => pw_add_other p b 2 h
  have h3 := fun h => pw_add_other p b 3 h
  have : b / 64 = 0 ∨ b / 64 = 1 ∨ b / 64 = 2 ∨ b / 64 = 3 := by omega
  rcases this with h | h | h | h <;> rw [h] at h0 h1 h2 h3 ⊢ <;> simp [ccells, *]

theorem refHas_any (p : Nat → Bool) (b : Nat) (hb : b < 256) (w : World) :
    Calls Tryd.prog 47 #[cval p, .int .i64 b] w fun e w' => e = .returned (.bool (p b)) ∧ Below w.heap.size w w' := by
  have hcell := ccells_at p b hb
  have hres := has_word2 p b
  go_enter Tryd.func47, Tryd.ntmps47
  go_wp2
  go_ret
  exact ⟨rfl, (Below.refl _ _).alloc (Nat.le_refl _) _⟩
end

section
open Go.RowKit

/-- a class stored over itself, word by word -/
theorem blk_again {w : World} {g : Nat} {t : TypeId} {p : Nat → Bool} (h : Blk w g t (ccells p)) :
    Blk ((((w.setCell ⟨g, 0, none⟩ (.int .u64 (pw p 0 : Nat))).setCell ⟨g, 1, none⟩ (.int .u64 (pw p 1 : Nat))).setCell ⟨g, 2, none⟩ (.int .u64 (pw p 2 : Nat))).setCell ⟨g, 3, none⟩ (.int .u64 (pw p 3 : Nat))) g t (ccells p) := by
  have := (((h.store 0 (.int .u64 (pw p 0 : Nat))).store 1 (.int .u64 (pw p 1 : Nat))).store 2 (.int .u64 (pw p 2 : Nat))).store 3 (.int .u64 (pw p 3 : Nat))
  simpa [ccells] using this

/-- a word of a class by its place -/
theorem word_at (p : Nat → Bool) (k : Nat) (hk : k < 4) : ∀ w : World, (Instr.index 24 (cval p) (.int .i64 (k : Int))).run Tryd.prog w = .ok (.int .u64 (pw p k : Nat)) w := by
  have : k = 0 ∨ k = 1 ∨ k = 2 ∨ k = 3 := by omega
  rcases this with rfl | rfl | rfl | rfl <;> exact fun _ => by kernel_rfl
end

section
open Go.RowKit

/-- A call gave a slice that reads as these bytes, in new memory; nothing that was there has changed. -/
def GaveBytes (L : List Nat) (w : World) (e : Ending) (w' : World) : Prop :=
  ∃ v, e = .returned v ∧ w'.ownsRow w.heap.size 5 1 v L.length (u8s L) ∧ Below w.heap.size w w'
theorem gave_bytes {L : List Nat} {w w' : World} {e : Ending} (h : GaveBytes L w e w') :
    ∃ A c, e = .returned (.slice A L.length c) ∧ Rd w' w'.heap.size A (u8s L) ∧ Below w.heap.size w w' := by
  obtain ⟨v, rfl, hown, hb⟩ := h
  obtain ⟨_, A, c, rfl, hr⟩ := own_rd hown
  exact ⟨A, c, rfl, hr, hb⟩

theorem u8_info : (Tryd.prog.info? 5).map (fun i => (i.zero, i.size, i.bytes)) = some (some (.int .u8 0), 1, 1) := by kernel_rfl

theorem tab_below {w w' : World} {B : Nat} (h : Tab64 w) (hb : Below B w w') (hB : w.heap.size ≤ B) : Tab64 w' := fun j hj =>
  (hb.cell (p := ⟨0, j, none⟩) (Nat.lt_of_lt_of_le (block_lt_of_cell (h j hj)) hB)).trans (h j hj)

/-- the word k of a class, its bits from m on -/
def restOf (p : Nat → Bool) (k m : Nat) : Nat := bitsOf (fun j => p (64 * k + j) && decide (m ≤ j)) 64
theorem restOf_zero (p : Nat → Bool) (k : Nat) : restOf p k 0 = pw p k := by
  unfold restOf pw
  exact bitsOf_congr fun j _ => by simp
theorem restOf_lt (p : Nat → Bool) (k m : Nat) : restOf p k m < 18446744073709551616 := bitsOf_lt _ 64
theorem restOf_none (p : Nat → Bool) (k m : Nat) (hm : m ≤ 64) (h : restOf p k m = 0) : bytesOf p (64 * k + m) = bytesOf p (64 * (k + 1)) := by
  have hz := bitsOf_zero h
  obtain ⟨d, hd⟩ : ∃ d, 64 = m + d := ⟨64 - m, by omega⟩
  have := bytesOf_skip p (64 * k + m) d fun j hj => by
    have := hz (m + j) (by omega)
    simpa [← Nat.add_assoc] using this
  rw [← this]
  congr 1
  omega
theorem restOf_step (p : Nat → Bool) (k m x : Nat) (hx : x = restOf p k m) (h : x ≠ 0) :
    ∃ z, Lib.ctz 64 x = z ∧ z < 64 ∧ m ≤ z ∧ bytesOf p (64 * k + (z + 1)) = bytesOf p (64 * k + m) ++ [64 * k + z] ∧ x &&& (x - 1) = restOf p k (z + 1) ∧ restOf p k (z + 1) < x := by
  unfold restOf at hx
  have hl := bitsOf_low (fun j => p (64 * k + j) && decide (m ≤ j)) 64 (by rw [← hx]; exact h)
  rw [← hx] at hl
  obtain ⟨h1, h2, h3, h4⟩ := hl
  obtain ⟨z, hz⟩ : ∃ z, Lib.ctz 64 x = z := ⟨_, rfl⟩
  rw [hz] at h1 h2 h3 h4
  simp only [Bool.and_eq_true, decide_eq_true_eq] at h2
  have e : bitsOf (fun j => (p (64 * k + j) && decide (m ≤ j)) && decide (z < j)) 64 = restOf p k (z + 1) := by
    unfold restOf
    apply bitsOf_congr
    intro j _
    rw [Bool.eq_iff_iff]
    simp only [Bool.and_eq_true, decide_eq_true_eq]
    have := h2.2
    constructor
    · rintro ⟨⟨a, b⟩, c⟩; exact ⟨a, by omega⟩
    · rintro ⟨a, b⟩; exact ⟨⟨a, by omega⟩, by omega⟩
  refine ⟨z, hz, h1, h2.2, ?_, by rw [h4, e], ?_⟩
  · have e1 : 64 * k + (z + 1) = (64 * k + z) + 1 := by omega
    rw [e1, bytesOf_succ, if_pos h2.1]
    congr 1
    obtain ⟨d, rfl⟩ : ∃ d, z = m + d := ⟨z - m, by omega⟩
    have := bytesOf_skip p (64 * k + m) d fun j hj => by
      have := h3 (m + j) (by omega)
      have hmj : m ≤ m + j := by omega
      simpa [hmj, ← Nat.add_assoc] using this
    rw [← this]
    congr 1
    omega
  · have : x &&& (x - 1) ≤ x - 1 := Nat.and_le_right
    rw [h4, e] at this
    omega

set_option maxHeartbeats 2000000 in
theorem bytes_any (p : Nat → Bool) (w : World) (hT : Tab64 w) :
    Calls Tryd.prog 42 #[cval p] w (GaveBytes (bytesOf p 256) w) := by
  obtain ⟨i0, hi, hz0, hz1, hz2⟩ := info_parts u8_info
  have HT := Lib.hid hT
  clear hT
  go_enter Tryd.func42, Tryd.ntmps42
  go_wp2
  go_loopw [2, 4, 6] (fun out _ i wr => ∃ k : Nat, k ≤ 4 ∧ i = .int .i64 k ∧ wr.ownsRow w.heap.size 5 1 out (bytesOf p (64 * k)).length (u8s (bytesOf p (64 * k))) ∧ Below w.heap.size w wr) (fun _ _ i _ => 4 - (intOf i).toNat)
  case atStart => exact ⟨0, Nat.zero_le _, rfl, World.ownsRow_nil _ _ _ _, (Below.refl _ _).alloc (Nat.le_refl _) _⟩
  case round =>
    obtain ⟨k, hk, rfl, hown, hbel⟩ := hrel
    by_cases hlt : k < 4
    · have hidx := word_at p k hlt
      have hkb : decide ((k : Int) < 4) = true := by simp; omega
      have Hrest : Hid (restOf p k 0 = pw p k) := restOf_zero p k
      generalize pw p k = x0 at *
      go_wp2
      go_loopw [2, 4] (fun out x wi => ∃ m : Nat, m ≤ 64 ∧ x = .int .u64 (restOf p k m : Nat) ∧ wi.ownsRow w.heap.size 5 1 out (bytesOf p (64 * k + m)).length (u8s (bytesOf p (64 * k + m))) ∧ Below w.heap.size w wi) (fun _ x _ => (intOf x).toNat)
      case atStart => exact ⟨0, Nat.zero_le _, by rw [Hrest.out], hown, hbel⟩
      case round =>
        clear hown hbel
        obtain ⟨m, hm, rfl, hown, hbel⟩ := hrel
        have hxl := restOf_lt p k m
        obtain ⟨x, hx⟩ : ∃ x, x = restOf p k m := ⟨_, rfl⟩
        rw [← hx] at hxl ⊢
        by_cases hx0 : x = 0
        · have Hend := Lib.hid (restOf_none p k m hm (by rw [← hx]; exact hx0))
          subst hx0
          clear hx hxl
          go_wp2
          go_roundw
          case rel => exact ⟨k + 1, by omega, by go_num, by rw [← Hend.out]; exact hown, hbel⟩
          case measure => simp [intOf]; omega
        · obtain ⟨z, hz, hz64, hmz, hlist, hand, hless⟩ := restOf_step p k m x hx hx0
          have hx1 : 1 ≤ x := by omega
          have hxb : ((x : Int) != 0) = true := by simp; omega
          have Htz := Lib.hid (fun W h => tz_any x hx0 hxl W h)
          rw [hz] at Htz
          have hT2 := tab_below HT.out hbel (Nat.le_refl _)
          have HT2 := Lib.hid hT2
          have hlen := bytesOf_le p (64 * k + m)
          have hand2 : bits .and .u64 (x : Int) ((x : Int) - 1) = (restOf p k (z + 1) : Nat) := by
            have e : ((x : Int) - 1) = ((x - 1 : Nat) : Int) := by omega
            rw [e, bits_and_u64_nat _ _ hxl (by omega), hand]
          have Hless := Lib.hid hless
          have Hlist := Lib.hid hlist
          clear hand hlist hless hz hx hT2
          obtain ⟨y, hy⟩ : ∃ y, y = restOf p k (z + 1) := ⟨_, rfl⟩
          rw [← hy] at hand2 Hless
          have Hy := Lib.hid hy
          clear hy
          go_wp2_with (first
            | (go_at_call 48; refine (Htz.out _ HT2.out).mono ?_; rintro e w1 ⟨rfl, rfl⟩)
            | (at_builtin; refine wpList_append_new hown [.int .u8 (k * 64 + z)] hi hz0 hz1 hz2 rfl (by decide) _ Tryd.underlying31 rfl _ _ rfl rfl rfl rfl ?c2 ?c3 ?c4 ?c5 ?_))
          case c2 => intro u hu; simp at hu; subst hu; rfl
          case c3 => unfold maxLen; omega
          case c4 => omega
          case c5 => exact hbel.size
          · intro v' w1 hown1 hgr1
            have hbel1 := below_own hbel hgr1 hown (Nat.le_refl _) hbel.size
            clear hgr1 hown hbel HT2
            go_wp2
            go_roundw
            case rel =>
              refine ⟨z + 1, by omega, by rw [Hy.out], ?_, hbel1⟩
              rw [Hlist.out, u8s_append, List.length_append]
              have e : ((64 * k + z : Nat) : Int) = (k : Int) * 64 + z := by omega
              simpa [u8s, e] using hown1
            case measure => have := Hless.out; simp [intOf]; omega
    · have hk4 : k = 4 := by omega
      subst hk4
      go_wp2
      go_ret
      exact ⟨_, rfl, hown, hbel⟩
end

section
open Go.RowKit

/-- a class stored into four cells, word by word -/
theorem blk_fill {w : World} {g : Nat} {t : TypeId} {p : Nat → Bool} {c0 c1 c2 c3 : Value} (h : Blk w g t #[c0, c1, c2, c3]) :
    Blk ((((w.setCell ⟨g, 0, none⟩ (.int .u64 (pw p 0 : Nat))).setCell ⟨g, 1, none⟩ (.int .u64 (pw p 1 : Nat))).setCell ⟨g, 2, none⟩ (.int .u64 (pw p 2 : Nat))).setCell ⟨g, 3, none⟩ (.int .u64 (pw p 3 : Nat))) g t (ccells p) := by
  have := (((h.store 0 (.int .u64 (pw p 0 : Nat))).store 1 (.int .u64 (pw p 1 : Nat))).store 2 (.int .u64 (pw p 2 : Nat))).store 3 (.int .u64 (pw p 3 : Nat))
  simpa [ccells] using this

theorem bytes_len256 (p : Nat → Bool) : (bytesOf p 256).length ≤ 256 := bytesOf_le p 256
end

section
open Go.RowKit

/-- A call gave a slice of pairs that reads as these runs, in new memory; nothing that was there has changed. -/
def GaveRuns (R : List (Nat × Nat)) (w : World) (e : Ending) (w' : World) : Prop :=
  ∃ v, e = .returned v ∧ w'.ownsRow w.heap.size 70 2 v R.length (runCells R) ∧ Below w.heap.size w w'
theorem pair_info : (Tryd.prog.info? 70).map (fun i => (i.zero, i.size, i.bytes)) = some (some (.agg #[.int .u8 0, .int .u8 0]), 2, 2) := by kernel_rfl

set_option maxHeartbeats 2000000 in
theorem runs_any (p : Nat → Bool) (w : World) (hT : Tab64 w) :
    Calls Tryd.prog 34 #[cval p] w (GaveRuns (runsFold (bytesOf p 256)) w) := by
  obtain ⟨i0, hi, hz0, hz1, hz2⟩ := info_parts pair_info
  have HT := Lib.hid hT
  clear hT
  have hlenL := bytes_len256 p
  obtain ⟨L, hL⟩ : ∃ L, L = bytesOf p 256 := ⟨_, rfl⟩
  have Hbytes := Lib.hid (fun W h => bytes_any p W h)
  have Hmem : Hid (∀ b, b ∈ L → b < 256) := fun b hb => (bytesOf_mem.1 (hL ▸ hb)).1
  rw [← hL] at hlenL Hbytes ⊢
  clear hL
  obtain ⟨n, hn⟩ : ∃ n, n = L.length := ⟨_, rfl⟩
  rw [← hn] at hlenL
  have Hn := Lib.hid hn
  clear hn
  go_enter Tryd.func34, Tryd.ntmps34
  go_wp2_with fail
  have hb0 : Below w.heap.size w (w.alloc (.cells (ccells p) 24)) := (Below.refl _ _).alloc (Nat.le_refl _) _
  refine (Hbytes.out _ (tab_below HT.out hb0 (Nat.le_refl _))).mono ?_
  rintro e w1 ⟨v, rfl, hown, hbel⟩
  obtain ⟨hlen, A, cap, rfl, hrd⟩ := own_rd hown
  clear hlen hown
  rw [← Hn.out]
  have hbw : Below w.heap.size w w1 := hb0.trans (hbel.mono (by simp))
  clear hb0 hbel
  go_wp2
  go_loopw [2, 9] (fun out i wr => ∃ k : Nat, k ≤ n ∧ i = .int .i64 k ∧ wr.ownsRow w1.heap.size 70 2 out (runsFold (L.take k)).length (runCells (runsFold (L.take k))) ∧ Below w1.heap.size w1 wr) (fun _ i _ => n - (intOf i).toNat)
  case atStart => exact ⟨0, Nat.zero_le _, rfl, World.ownsRow_nil _ _ _ _, Below.refl _ _⟩
  case round =>
    obtain ⟨k, hk, rfl, hown, hbel⟩ := hrel
    by_cases hlt : k < n
    · have hkl : k < L.length := by have := Hn.out; omega
      have hrlen := runsFold_len (L.take k)
      have htl : (L.take k).length = k := by rw [List.length_take]; have := Hn.out; omega
      rw [htl] at hrlen
      have Hlt := Lib.hid (runsFold_lt (L.take k) fun b hb => Hmem.out b (List.mem_of_mem_take hb))
      have hr := hrd.below hbel (Nat.le_refl _)
      obtain ⟨b, off, rfl, hbB, hcw⟩ := hr.at_ (u8s_get L k hkl)
      have hx256 := Hmem.out L[k] (List.getElem_mem hkl)
      have Htake : Hid (L.take (k + 1) = L.take k ++ [L[k]]) := List.take_succ_eq_append_getElem hkl
      generalize L[k] = x at *
      clear hr htl
      have Hsnoc := Lib.hid (runsFold_snoc (L.take k) x)
      generalize runsFold (L.take k) = R at *
      rcases List.eq_nil_or_concat R with rfl | ⟨init, ⟨lo, hi'⟩, rfl⟩
      · rw [runStep_nil] at Hsnoc
        obtain ⟨A2, c2, rfl⟩ := own_shape hown
        simp only [List.length_nil] at hown ⊢
        go_wp2_with (at_builtin; refine wpList_append_new hown [.int .u8 x, .int .u8 x] hi hz0 hz1 hz2 rfl (by decide) _ Tryd.underlying68 rfl _ _ rfl rfl rfl rfl ?c2 ?c3 ?c4 ?c5 ?_)
        case c2 => intro u hu; simp at hu; subst hu; rfl
        case c3 => unfold maxLen; omega
        case c4 => omega
        case c5 => exact hbel.size
        · intro v' w2 hown2 hgr2
          have hbel2 := below_own hbel hgr2 hown (Nat.le_refl _) hbel.size
          clear hgr2 hown hbel
          go_wp2
          go_roundw
          case rel => exact ⟨k + 1, by omega, by go_num, by rw [Htake.out, Hsnoc.out]; exact hown2, hbel2⟩
          case measure => simp [intOf]; omega
      · rw [List.concat_eq_append] at *
        have hlh := Hlt.out (lo, hi') (by simp)
        have hlo : lo < 256 := hlh.1
        have hhi : hi' < 256 := hlh.2
        clear hlh Hlt
        have hln : (init ++ [(lo, hi')]).length = init.length + 1 := by simp
        rw [hln] at hown hrlen
        have hcl := hown.1
        obtain ⟨g, c2, rfl, hgb, hgs⟩ := own_some hown (by omega)
        have hcell := hown.cellAt (init.length * 2 + 1) (by omega)
        rw [runCells_last] at hcell
        have hfz := hown.frozenAt (init.length * 2 + 1)
        obtain ⟨hown3, hgr3⟩ := hown.stored (init.length * 2 + 1) (.int .u8 (x : Int))
        rw [runCells_set] at hown3
        have Hown3 := Lib.hid hown3
        have Hgr3 := Lib.hid hgr3
        clear hown3 hgr3 hln hcl
        by_cases hx : hi' + 1 = x
        · have Hs2 := Lib.hid (runStep_more init lo hi' x hx)
          have hxb : ((hi' : Int) + 1 == (x : Int)) = true := by simp; omega
          have Hx := Lib.hid hx
          clear hx
          go_wp2
          go_roundw
          case rel =>
            refine ⟨k + 1, by omega, by go_num, ?_, below_byGrown hbel Hgr3.out hbel.size hgb⟩
            rw [Htake.out, Hsnoc.out, Hs2.out]
            have e : (init ++ [(lo, x)]).length = init.length + 1 := by simp
            rw [e]
            exact Hown3.out
          case measure => simp [intOf]; omega
        · have Hs2 := Lib.hid (runStep_new init lo hi' x hx)
          have hxb : ((hi' : Int) + 1 == (x : Int)) = false := by simp; omega
          have Hx := Lib.hid hx
          clear hx
          go_wp2_with (at_builtin; refine wpList_append_new hown [.int .u8 x, .int .u8 x] hi hz0 hz1 hz2 rfl (by decide) _ Tryd.underlying68 rfl _ _ rfl rfl rfl rfl ?d2 ?d3 ?d4 ?d5 ?_)
          case d2 => intro u hu; simp at hu; subst hu; rfl
          case d3 => unfold maxLen; omega
          case d4 => omega
          case d5 => exact hbel.size
          · intro v' w2 hown2 hgr2
            have hbel2 := below_own hbel hgr2 hown (Nat.le_refl _) hbel.size
            clear hgr2 hown hbel
            go_wp2
            go_roundw
            case rel =>
              refine ⟨k + 1, by omega, by go_num, ?_, hbel2⟩
              rw [Htake.out, Hsnoc.out, Hs2.out]
              have e : (init ++ [(lo, hi')] ++ [(x, x)]).length = init.length + 1 + 1 := by simp
              rw [e, runCells_append _ [(x, x)]]
              exact hown2
            case measure => simp [intOf]; omega
    · have hkn : k = n := by omega
      subst hkn
      have hL2 : L.take k = L := List.take_of_length_le (by have := Hn.out; omega)
      rw [hL2] at hown
      clear hL2
      go_wp2
      go_ret
      exact ⟨_, rfl, own_base hown hbw.size, hbw.trans (hbel.mono hbw.size)⟩
end

section
open Go.RowKit

theorem own_rdn {w : World} {xs : List Value} {base : Nat} {e : TypeId} {v : Value} {n s : Nat} (h : w.ownsRow base e s v n xs) : ∃ A c, v = .slice A n c ∧ Rd w w.heap.size A xs := by
  by_cases hn : n = 0
  · obtain ⟨A, c, rfl⟩ := own_shape h
    refine ⟨A, c, rfl, ?_⟩
    have : xs = [] := List.eq_nil_of_length_eq_zero (by have := h.1; rw [hn] at this; simpa using this)
    rw [this]
    exact Rd.nil _ _ _
  · obtain ⟨g, c, rfl, _, hlt⟩ := own_some h (by omega)
    refine ⟨_, c, rfl, fun _ => ⟨g, 0, rfl, hlt, fun k u hk => ?_⟩⟩
    rw [Nat.zero_add, h.cellAt k ?_]
    · exact hk
    · have := h.1
      rw [← this]
      exact (List.getElem?_eq_some_iff.1 hk).1
theorem gave_runs {R : List (Nat × Nat)} {w w' : World} {e : Ending} (h : GaveRuns R w e w') :
    ∃ A c, e = .returned (.slice A R.length c) ∧ Rd w' w'.heap.size A (runCells R) ∧ Below w.heap.size w w' := by
  obtain ⟨v, rfl, hown, hb⟩ := h
  obtain ⟨A, c, rfl, hr⟩ := own_rdn hown
  exact ⟨A, c, rfl, hr, hb⟩
end
end Go.Proofs.YtnkiiphliilegaaDoor

/- speaks of riddlelaw17: the document's example. -/
import Derived.Test.YtoijilfpfdhppaaKFe
namespace Go.Proofs.Ytoijilfpfdhppaa
open Go.RowKit

def setA : Nat → Bool := fun x => decide (x = 97)
def agesAt (k : Nat) : Nat → Bool := fun a => decide (a = k) && decide (k ≤ 3)
theorem ages_zero : addB noneB 0 = agesAt 0 := by
  funext a
  simp [addB, noneB, agesAt]
theorem ages_succ (k : Nat) : stepB setA (agesAt k) 3 false 97 = agesAt (k + 1) := by
  funext a
  rw [Bool.eq_iff_iff]
  simp only [stepB, setA, growB, agesAt, decide_true, if_true, Bool.false_and, Bool.or_false, Bool.and_eq_true, decide_eq_true_eq]
  omega
theorem ages_done (k : Nat) (hk : k < 4) (b : Bool) (h : b = true ↔ ∃ a : Nat, agesAt (k + 1) a = true ∧ (2 : Int) ≤ (a : Int)) : b = (decide (k = 1) || decide (k = 2)) := by
  rw [Bool.eq_iff_iff, h]
  simp only [agesAt, Bool.and_eq_true, decide_eq_true_eq, Bool.or_eq_true]
  constructor
  · rintro ⟨a, ⟨h1, h2⟩, h3⟩
    omega
  · intro h1
    exact ⟨k + 1, ⟨rfl, by omega⟩, by omega⟩
theorem ages_top (k a : Nat) (ha : 3 < a) : agesAt k a = false := by
  rw [Bool.eq_false_iff]
  intro h
  simp only [agesAt, Bool.and_eq_true, decide_eq_true_eq] at h
  omega
def doneAt (k : Nat) : Nat → Bool := fun x => decide (x < k) && (decide (x = 1) || decide (x = 2))
theorem done_zero : bools (doneAt 0) 4 = #[.bool false, .bool false, .bool false, .bool false] := rfl
theorem done_four : bools (doneAt 4) 4 = #[.bool false, .bool true, .bool true, .bool false] := rfl
theorem done_set (k : Nat) (hk : k < 4) : (bools (doneAt k) 4).setIfInBounds k (.bool (decide (k = 1) || decide (k = 2))) = bools (doneAt (k + 1)) 4 := by
  rw [bools_set]
  refine bools_congr fun j hj => ?_
  rw [Bool.eq_iff_iff]
  by_cases h : j = k
  · subst h
    simp [doneAt]
  · simp only [doneAt, h, if_false, Bool.and_eq_true, decide_eq_true_eq, Bool.or_eq_true]
    omega

theorem set_grown (w : World) (a : Addr) (u : Value) : w.grownBy (w.setCell a u) (some a.block) :=
  ⟨rfl, rfl, rfl, by simp [World.setCell], fun k _ hne => Below.heap_setCell _ _ _ _ (fun h => hne (by rw [h]))⟩
theorem Blk.sort {w : World} {g g' : Nat} {t t' : TypeId} {cs cs' : Array Value} (h : Blk w g t cs) (h' : Blk w g' t' cs') (hne : t ≠ t') : g ≠ g' := by
  rintro rfl
  have := Option.some.inj (h.symm.trans h')
  injection this with h1 h2
  exact hne h2
/-- a store into the four answers leaves the counter of bits as it is -/
theorem CountAt.apart {w : World} {gc g tp steps : Nat} {stays : Bool} {S p : Nat → Bool} {least most size : Int} {gd : Nat} {cs : Array Value} (h : CountAt w 0 gc g tp stays S steps p least most size) (hd : Blk w gd 38 cs) (k : Nat) (u : Value) :
    CountAt (w.setCell ⟨gd, k, none⟩ u) 0 gc g tp stays S steps p least most size := by
  obtain ⟨h0, ⟨v, n, h1, h2, h3, h4⟩, h5⟩ := h
  have hg := set_grown w ⟨gd, k, none⟩ u
  refine ⟨h0.grown hg (fun e => h0.sort hd (by decide) (Option.some.inj e)), ⟨v, n, h1.grown hg (fun e => h1.sort hd (by decide) (Option.some.inj e)), h2.kept hg ?_, h3, h4⟩, h5⟩
  rcases h2.2 with ⟨rfl, _⟩ | ⟨g', cap, cur, rfl, _, hgg, _⟩
  · exact Or.inl rfl
  · refine Or.inr fun e => ?_
    exact Blk.sort (w := w) (cs := cur) hgg hd (by decide) (Option.some.inj e)

set_option maxRecDepth 100000 in
set_option maxHeartbeats 4000000 in
theorem speaks_any (w : World) : Calls Try.prog 4 #[] w fun e w' => e = .returned (.bool true) ∧ Below w.heap.size w w' := by
  have HOf : Hid (∀ g W, Blk W g 5 #[.int .u8 97] → Calls Try.prog 10 #[.slice (some ⟨g, 0, none⟩) 1 1] W fun e w' => e = .returned (cval setA) ∧ Below W.heap.size W w') := fun g W h => of_one g 97 (by decide) W h
  have HN0 : Hid (∀ W, Calls Try.prog 5 #[cval setA, .int .i64 2, .int .i64 3, .int .i64 0] W (NewGot 0 3 false setA 2 3 1 W)) := fun W => new_0_most setA 3 2 (by decide) (by decide) (by decide) W
  have HN1 : Hid (∀ W, Calls Try.prog 5 #[cval setA, .int .i64 2, .int .i64 3, .int .i64 1] W (NewGot 1 3 false setA 2 3 10 W)) := fun W => new_1_most setA 3 2 (by decide) (by decide) (by decide) W
  have HA : Hid (Blk (w.alloc (.cells #[.int .u8 97] 5)) w.heap.size 5 #[.int .u8 97]) := Blk.new _ _ _
  go_enter Try.func4, Try.ntmps4
  go_wp2_with fail
  refine (HOf.out _ _ HA.out).mono ?_
  rintro e w1 ⟨rfl, hbel1⟩
  have hB1 : Below w.heap.size w w1 := ((Below.refl _ _).alloc (Nat.le_refl _) _).trans (hbel1.mono (by simp))
  have HC : Hid (Blk (w1.alloc (.cells #[.int .u64 ((pw setA 0 : Nat) : Int), .int .u64 ((pw setA 1 : Nat) : Int), .int .u64 ((pw setA 2 : Nat) : Int), .int .u64 ((pw setA 3 : Nat) : Int)] 24)) w1.heap.size 24 (ccells setA)) := Blk.new w1 24 (ccells setA)
  have HB2 := Lib.hid (hB1.alloc hB1.size (.cells #[.int .u64 ((pw setA 0 : Nat) : Int), .int .u64 ((pw setA 1 : Nat) : Int), .int .u64 ((pw setA 2 : Nat) : Int), .int .u64 ((pw setA 3 : Nat) : Int)] 24))
  have hlw := hB1.size
  clear hbel1 hB1 HA
  go_wp2_with fail
  refine (HN0.out _).mono ?_
  rintro e w2 ⟨gc, g, rfl, hgc, hC, hbel2⟩
  have hlC := HC.out.lt
  have hK := HC.out.below hbel2 hlC
  have hgl : w1.heap.size < gc := by omega
  have HB3 := Lib.hid (HB2.out.trans (hbel2.mono HB2.out.size))
  have c0 : w2.cell? ⟨w1.heap.size, 0, none⟩ = some (.int .u64 ((pw setA 0 : Nat) : Int)) := hK.cell 0
  have c1 : w2.cell? ⟨w1.heap.size, 1, none⟩ = some (.int .u64 ((pw setA 1 : Nat) : Int)) := hK.cell 1
  have c2 : w2.cell? ⟨w1.heap.size, 2, none⟩ = some (.int .u64 ((pw setA 2 : Nat) : Int)) := hK.cell 2
  have c3 : w2.cell? ⟨w1.heap.size, 3, none⟩ = some (.int .u64 ((pw setA 3 : Nat) : Int)) := hK.cell 3
  have HC2 := Lib.hid hC
  clear hbel2 hK hC HB2 HC hgc hlC
  go_wp2_with fail
  refine (HN1.out _).mono ?_
  rintro e w3 ⟨gr, gq, rfl, hgr, hR, hbel3⟩
  have hg2 := HC2.out.lt
  have hgcg := HC2.out.2.2
  have hC3 := HC2.out.below hbel3
  have hRb := hR.1
  have hB3 := HB3.out.trans (hbel3.mono HB3.out.size)
  have HArm := Lib.hid (count_arm (S := noneB) (by omega) (by omega) (by omega) (fun _ _ => rfl) w3 hC3)
  have HR := Lib.hid hRb
  have HB4 := Lib.hid hB3
  clear hbel3 hR hC3 hRb hB3 HB3 HC2 c0 c1 c2 c3
  go_wp2_with fail
  refine HArm.out.mono ?_
  rintro e w4 ⟨⟨u, rfl⟩, hC4, hb4, hk4⟩
  rw [ages_zero] at hC4
  have hR4 := hk4 rfl _ _ _ (by omega) HR.out
  have hB4 : Below w.heap.size w w4 := HB4.out.trans (hb4.mono (by omega))
  have hg4 := hC4.lt
  have hr4 := hR4.lt
  have HC4 := Lib.hid hC4
  have HR4 := Lib.hid hR4
  have HB5 := Lib.hid hB4
  have HD : Hid (Blk (w4.alloc (.cells #[.bool false, .bool false, .bool false, .bool false] 38)) w4.heap.size 38 (bools (doneAt 0) 4)) := Blk.new w4 _ _
  have HDB : Hid (Below w4.heap.size w4 (w4.alloc (.cells #[.bool false, .bool false, .bool false, .bool false] 38))) := (Below.refl _ _).alloc (Nat.le_refl _) _
  clear hC4 hb4 hk4 hR4 hB4 HArm HR HB4
  go_wp2
  go_loopw [39] (fun i wr => ∃ k : Nat, k ≤ 4 ∧ i = .int .i64 k ∧ CountAt wr 0 gc g 3 false (agesAt k) k setA 2 3 1 ∧ Blk wr gr 43 (counterCells setA 2 3 10 (.iface (engType 1) (.pointer (some ⟨gq, 0, none⟩)))) ∧ Blk wr w4.heap.size 38 (bools (doneAt k) 4) ∧ Below w.heap.size w wr) (fun i _ => 4 - (intOf i).toNat)
  case atStart => exact ⟨0, by omega, rfl, HC4.out.below HDB.out, HR4.out.below HDB.out hr4, HD.out, HB5.out.trans (HDB.out.mono HB5.out.size)⟩
  case round =>
    have hlB := HB5.out.size
    clear HC4 HR4 HB5 HD HDB
    obtain ⟨k, hk, rfl, hC, hR, hD, hb⟩ := hrel
    by_cases hlt : k < 4
    · have HS := Lib.hid (count_step (by omega) (by omega) (by omega) 97 (by omega) wr hC)
      have HR := Lib.hid hR
      have HD := Lib.hid hD
      have HB := Lib.hid hb
      clear hC hR hD hb
      go_wp2_with fail
      refine HS.out.mono ?_
      rintro e w5 ⟨⟨u, rfl⟩, hC5, hb5, hk5⟩
      rw [ages_succ] at hC5
      have HR5 := Lib.hid (hk5 rfl _ _ _ (by omega) HR.out)
      have HD5 := Lib.hid (hk5 rfl _ _ _ (by omega) HD.out)
      have HB6 := Lib.hid (HB.out.trans (hb5.mono (by omega)))
      have HDo := Lib.hid (count_done (by omega) (by omega) (by omega) (by omega) w5 hC5)
      have HC5 := Lib.hid hC5
      clear hC5 hb5 hk5 HS HR HD HB
      go_wp2_with fail
      refine HDo.out.mono ?_
      rintro e w6 ⟨b, rfl, hbb, hb6⟩
      have hbe := ages_done k hlt b hbb
      subst hbe
      have hD6 := HD5.out.below hb6 HD5.out.lt
      have cf := hD6.cell k
      rw [bools_get _ _ _ hlt] at cf
      have ff := hD6.free k
      have hst := hD6.store k (.bool (decide (k = 1) || decide (k = 2)))
      rw [done_set k hlt] at hst
      have Hst := Lib.hid hst
      have HC6 := Lib.hid ((HC5.out.below hb6).apart hD6 k (.bool (decide (k = 1) || decide (k = 2))))
      have HR6 := Lib.hid ((HR5.out.below hb6 HR5.out.lt).grown (set_grown w6 ⟨w4.heap.size, k, none⟩ (.bool (decide (k = 1) || decide (k = 2)))) (fun e => by have := Option.some.inj e; simp at this; omega))
      have HB7 := Lib.hid ((HB6.out.trans (hb6.mono HB6.out.size)).setCell (p := ⟨w4.heap.size, k, none⟩) hlB (.bool (decide (k = 1) || decide (k = 2))))
      clear hst hD6 hbb hb6 HC5 HR5 HD5 HB6 HDo
      generalize (decide (k = 1) || decide (k = 2)) = bk at *
      go_wp2
      go_roundw
      case rel => exact ⟨k + 1, by omega, by go_num, HC6.out, HR6.out, Hst.out, HB7.out⟩
      case measure => simp [intOf]; omega
    · have hk4 : k = 4 := by omega
      subst hk4
      rw [done_four] at hD
      have d0 : wr.cell? ⟨w4.heap.size, 0, none⟩ = some (.bool false) := hD.cell 0
      have d1 : wr.cell? ⟨w4.heap.size, 1, none⟩ = some (.bool true) := hD.cell 1
      have d2 : wr.cell? ⟨w4.heap.size, 2, none⟩ = some (.bool true) := hD.cell 2
      have d3 : wr.cell? ⟨w4.heap.size, 3, none⟩ = some (.bool false) := hD.cell 3
      have heq := eql_four
      have HS1 := Lib.hid (counter_size setA 2 3 1 _ gc wr hC.1)
      have HS2 := Lib.hid (counter_size setA 2 3 10 _ gr wr hR)
      have HB := Lib.hid hb
      clear hC hR hD hb
      go_wp2_with fail
      refine HS1.out.mono ?_
      rintro e w7 ⟨rfl, rfl⟩
      go_wp2_with fail
      refine HS2.out.mono ?_
      rintro e w8 ⟨rfl, rfl⟩
      go_wp2
      go_ret
      exact ⟨rfl, HB.out⟩
end Go.Proofs.Ytoijilfpfdhppaa

/- Walk of riddlelaw17.CountMeans. -/
import Derived.Test.YtoijilfpfdhppaaKG1
import Derived.Test.YtoijilfpfdhppaaKFf
import Derived.IntWalk
namespace Go.Proofs.Ytoijilfpfdhppaa
open Go.RowKit

def sortCells (p : Nat → Bool) (least most kind : Int) : Array Value :=
  #[.int .u64 ((pw p 0 : Nat) : Int), .int .u64 ((pw p 1 : Nat) : Int), .int .u64 ((pw p 2 : Nat) : Int), .int .u64 ((pw p 3 : Nat) : Int), .int .i64 least, .int .i64 most, .int .i64 kind]
/-- what a round of the law knows of the counter -/
def Held (w : World) (p : Nat → Bool) (least most kind size : Int) (k gc g tp : Nat) (stays : Bool) (R : Nat → Prop) (steps : Nat) (wr : World) : Prop :=
  ∃ S, CountAt wr k gc g tp stays S steps p least most size ∧ CapOf tp stays R S ∧ Blk wr w.heap.size 26 (sortCells p least most kind) ∧ Below w.heap.size w wr
section
variable {w : World} {p : Nat → Bool} {least most kind size : Int} {k gc g tp : Nat} {stays : Bool} {R : Nat → Prop} {steps : Nat} {wr : World}
theorem Held.below {wr' : World} (h : Held w p least most kind size k gc g tp stays R steps wr) (hb : Below wr.heap.size wr wr') : Held w p least most kind size k gc g tp stays R steps wr' := by
  obtain ⟨S, h1, h2, h3, h4⟩ := h
  exact ⟨S, h1.below hb, h2, h3.below hb h3.lt, h4.trans (hb.mono h4.size)⟩
end

set_option maxRecDepth 100000 in
set_option maxHeartbeats 8000000 in
theorem means_walk (p : Nat → Bool) (least most kind : Int) (Aw Aa : Option Addr) (n cw m ca : Nat) (f : Nat → Nat) (hf : ∀ x, f x < 256) (A : Nat → Bool) (hA : ∀ x, m ≤ x → A x = false) (w : World)
    (hw : ∀ x, x < n → ∃ b off, Aw = some ⟨b, off, none⟩ ∧ b < w.heap.size ∧ w.cell? ⟨b, off + x, none⟩ = some (.int .u8 ((f x : Nat) : Int)))
    (ha : ∀ x, x < m → ∃ b off, Aa = some ⟨b, off, none⟩ ∧ b < w.heap.size ∧ w.cell? ⟨b, off + x, none⟩ = some (.bool (A x))) :
    Calls Try.prog 3 #[.agg (sortCells p least most kind), .slice Aw n cw, .slice Aa m ca] w fun e w' => e = .returned (.bool true) ∧ Below w.heap.size w w' := by
  have HA := Lib.hid hA
  have HW := Lib.hid hw
  have HAA := Lib.hid ha
  have HF := Lib.hid hf
  clear hA hw ha hf
  have H0 : Hid (Blk (w.alloc (.cells (sortCells p least most kind) 26)) w.heap.size 26 (sortCells p least most kind)) := Blk.new _ _ _
  have HB0 : Hid (Below w.heap.size w (w.alloc (.cells (sortCells p least most kind) 26))) := (Below.refl _ _).alloc (Nat.le_refl _) _
  go_enter Try.func3, Try.ntmps3
  go_wp2_with fail
  refine (speaks_any _).mono ?_
  rintro e w1 ⟨rfl, hbel1⟩
  have hS := H0.out.below hbel1 H0.out.lt
  have HB1 := Lib.hid (HB0.out.trans (hbel1.mono HB0.out.size))
  have HS1 := Lib.hid hS
  have c0 : w1.cell? ⟨w.heap.size, 0, none⟩ = some (.int .u64 ((pw p 0 : Nat) : Int)) := hS.cell 0
  have c1 : w1.cell? ⟨w.heap.size, 1, none⟩ = some (.int .u64 ((pw p 1 : Nat) : Int)) := hS.cell 1
  have c2 : w1.cell? ⟨w.heap.size, 2, none⟩ = some (.int .u64 ((pw p 2 : Nat) : Int)) := hS.cell 2
  have c3 : w1.cell? ⟨w.heap.size, 3, none⟩ = some (.int .u64 ((pw p 3 : Nat) : Int)) := hS.cell 3
  have c4 : w1.cell? ⟨w.heap.size, 4, none⟩ = some (.int .i64 least) := hS.cell 4
  have c5 : w1.cell? ⟨w.heap.size, 5, none⟩ = some (.int .i64 most) := hS.cell 5
  have c6 : w1.cell? ⟨w.heap.size, 6, none⟩ = some (.int .i64 kind) := hS.cell 6
  clear hbel1 hS H0 HB0
  go_wp2_with fail
  refine (new_any p least most kind w1).mono ?_
  clear c0 c1 c2 c3 c4 c5 c6
  rintro e w2 (⟨rfl, hb2⟩ | ⟨k, tp, stays, size, hk, htp, hl0, hl2, hc, gc, g, rfl, hgc, hC, hb2⟩)
  · have HB2 := Lib.hid (HB1.out.trans (hb2.mono HB1.out.size))
    clear hb2
    go_wp2
    go_ret
    exact ⟨rfl, HB2.out⟩
  have HB2 := Lib.hid (HB1.out.trans (hb2.mono HB1.out.size))
  have HS2 := Lib.hid (HS1.out.below hb2 HS1.out.lt)
  have hlS := HS1.out.lt
  have HC := Lib.hid hC
  have hgg := hC.2.2
  have Hc := Lib.hid hc
  clear hb2 hC hc HS1 HB1
  by_cases hn : 60 < n
  · go_wp2
    go_ret
    exact ⟨rfl, HB2.out⟩
  go_wp2
  go_loopw [9] (fun i wr => ∃ j : Nat, j ≤ n + 1 ∧ i = .int .i64 j ∧ ((j = 0 ∧ Held w p least most kind size k gc g tp stays (fun a => 1 ≤ a ∧ trueAge p f A 0 a) j wr) ∨ ∃ j', j = j' + 1 ∧ Held w p least most kind size k gc g tp stays (trueAge p f A j') j wr)) (fun i _ => n + 1 - (intOf i).toNat)
  case atStart => exact ⟨0, by omega, rfl, Or.inl ⟨rfl, noneB, HC.out, cap_start, HS2.out, HB2.out⟩⟩
  case round =>
    clear HB2 HS2 HC
    obtain ⟨j, hj, rfl, hrr⟩ := hrel
    have HR := Lib.hid hrr
    clear hrr
    by_cases hjn : j ≤ n
    case neg =>
      have HBe : Hid (Below w.heap.size w wr) := by
        rcases HR.out with ⟨_, _, _, _, _, h⟩ | ⟨_, _, _, _, _, _, h⟩ <;> exact h
      go_wp2
      go_ret
      exact ⟨rfl, HBe.out⟩
    case pos =>
      go_upto_if 52 with fail
      go_cut [9] (fun x wx => x = .int .i64 j ∧ Held w p least most kind size k gc g tp stays (fun a => 1 ≤ a ∧ trueAge p f A j a) (j + 1) wx)
      case first =>
        rcases HR.out with ⟨hj0, S, h1, h2, h3, h4⟩ | ⟨j', hj', S, h1, h2, h3, h4⟩
        · subst hj0
          have HH : Hid (Held w p least most kind size k gc g tp stays (fun a => 1 ≤ a ∧ trueAge p f A 0 a) (0 + 1) wr) := ⟨S, h1.later (by omega), h2, h3, h4⟩
          clear h1 h2 h3 h4
          go_wp2
          go_meet
          exact ⟨rfl, HH.out⟩
        · subst hj'
          obtain ⟨b, off, rfl, hbl, hcl⟩ := HW.out j' (by omega)
          have hcell : wr.cell? ⟨b, off + j', none⟩ = some (.int .u8 ((f j' : Nat) : Int)) := (h4.cell (p := ⟨b, off + j', none⟩) hbl).trans hcl
          have e1 : ((j' + 1 : Nat) : Int) - 1 = (j' : Int) := by omega
          have HSt := Lib.hid (count_step hk (by omega) (by omega) (f j') (HF.out j') wr h1)
          have H2 := Lib.hid h2
          have H3 := Lib.hid h3
          have H4 := Lib.hid h4
          clear h1 h2 h3 h4 hcl
          go_wp2_with fail
          refine HSt.out.mono ?_
          rintro e w3 ⟨⟨u, rfl⟩, hC3, hb3, _⟩
          have HH : Hid (Held w p least most kind size k gc g tp stays (fun a => 1 ≤ a ∧ trueAge p f A (j' + 1) a) (j' + 1 + 1) w3) := ⟨_, hC3, cap_step H2.out, H3.out.below hb3 (by omega), H4.out.trans (hb3.mono (by omega))⟩
          clear hC3 hb3
          go_wp2_with fail
          go_meet
          exact ⟨rfl, HH.out⟩
      case rest =>
        obtain ⟨rfl, hH⟩ := hcut
        have HH := Lib.hid hH
        clear hH HR
        go_upto_region 11 with fail
        go_cut [9, 69] (fun x y wx => x = .int .i64 j ∧ y = .bool (A j) ∧ Held w p least most kind size k gc g tp stays (fun a => 1 ≤ a ∧ trueAge p f A j a) (j + 1) wx)
        case first =>
          by_cases hjm : j < m
          · obtain ⟨S, h1, h2, h3, h4⟩ := HH.out
            obtain ⟨b, off, rfl, hbl, hcl⟩ := HAA.out j hjm
            have hcell := (h4.cell (p := ⟨b, off + j, none⟩) hbl).trans hcl
            clear h1 h2 h3 h4 hcl
            go_wp2
            go_meet
            exact ⟨rfl, rfl, HH.out⟩
          · have HAj := Lib.hid (HA.out j (by omega))
            go_wp2
            go_meet
            exact ⟨rfl, by rw [HAj.out], HH.out⟩
        case rest =>
          clear HH
          obtain ⟨rfl, rfl, hH⟩ := hcut
          have HH := Lib.hid hH
          clear hH
          go_upto_if 69 with fail
          go_cut [9] (fun x wx => x = .int .i64 j ∧ Held w p least most kind size k gc g tp stays (trueAge p f A j) (j + 1) wx)
          case first =>
            obtain ⟨S, h1, h2, h3, h4⟩ := HH.out
            have H3 := Lib.hid h3
            have H4 := Lib.hid h4
            cases hAj : A j with
            | false =>
              have HX : Hid (Held w p least most kind size k gc g tp stays (trueAge p f A j) (j + 1) _) := ⟨S, h1, cap_still h2 hAj, h3, h4⟩
              clear h1 h2 h3 h4 hAj
              go_wp2
              go_meet
              exact ⟨rfl, HX.out⟩
            | true =>
              have HArm := Lib.hid (count_arm hk (by omega) (by omega) h2.top _ h1)
              have H2 := Lib.hid (cap_arm h2 hAj)
              clear h1 h2 h3 h4 hAj
              go_wp2_with fail
              refine HArm.out.mono ?_
              rintro e w3 ⟨⟨u, rfl⟩, hC3, hb3, _⟩
              have HX : Hid (Held w p least most kind size k gc g tp stays (trueAge p f A j) (j + 1) w3) := ⟨_, hC3, H2.out, H3.out.below hb3 (by omega), H4.out.trans (hb3.mono (by omega))⟩
              clear hC3 hb3
              go_wp2_with fail
              go_meet
              exact ⟨rfl, HX.out⟩
          case rest =>
            clear HH
            obtain ⟨rfl, hH⟩ := hcut
            have HH2 := Lib.hid hH
            clear hH
            go_wp2
            go_loopw [10, 11] (fun x y wr2 => ∃ (i : Nat) (b : Bool), i ≤ j + 1 ∧ x = .bool b ∧ y = .int .i64 i ∧ (b = true ↔ wantAt p f A least most j i) ∧ Held w p least most kind size k gc g tp stays (trueAge p f A j) (j + 1) wr2) (fun _ y _ => j + 1 - (intOf y).toNat)
            case atStart => exact ⟨0, false, by omega, rfl, rfl, want_zero _ _ _, HH2.out⟩
            case round =>
              clear HH2
              obtain ⟨i, b, hi, rfl, rfl, hb, hH⟩ := hrel
              have HHi := Lib.hid hH
              have HWb := Lib.hid hb
              clear hH hb
              by_cases hin : i ≤ j ∧ i < m
              case neg =>
                have Hend : Hid (j < i ∨ ∀ x, i ≤ x → A x = false) := by
                  by_cases h : i ≤ j
                  · exact Or.inr fun x hx => HA.out x (by omega)
                  · exact Or.inl (by omega)
                obtain ⟨S, h1, h2, h3, h4⟩ := HHi.out
                have HDo := Lib.hid (count_done hk (by omega) (by omega) (by omega) _ h1)
                have HSame := Lib.hid (fun d hd => means_same (d := d) h2 Hc.out hd HWb.out Hend.out)
                clear h1 h2 h3 h4 Hend HWb
                by_cases hij : i ≤ j
                all_goals
                  have hjm : ¬ (i ≤ j ∧ i < m) := hin
                  have hjm2 : i ≤ j → ¬ i < m := fun h h' => hjm ⟨h, h'⟩
                  clear hin hjm
                  try (have hjm3 : ¬ i < m := hjm2 hij)
                  clear hjm2
                  go_wp2_with fail
                  refine HDo.out.mono ?_
                  rintro e w9 ⟨d, rfl, hd, hb9⟩
                  have hdb := HSame.out d hd
                  subst hdb
                  have HX := Lib.hid (HHi.out.below hb9)
                  clear hd hb9 HDo HSame HHi
                  cases d
                  all_goals
                    go_wp2
                    go_roundw
                    case rel => exact ⟨j + 1, by omega, by go_num, Or.inr ⟨j, rfl, HX.out⟩⟩
                    case measure => simp [intOf]; omega
              case pos =>
                obtain ⟨hij, him⟩ := hin
                obtain ⟨S, h1, h2, h3, h4⟩ := HHi.out
                obtain ⟨b0, off, rfl, hbl, hcl⟩ := HAA.out i him
                have hcell := (h4.cell (p := ⟨b0, off + i, none⟩) hbl).trans hcl
                have c4 : World.cell? _ ⟨w.heap.size, 4, none⟩ = some (.int .i64 least) := h3.cell 4
                have c5 : World.cell? _ ⟨w.heap.size, 5, none⟩ = some (.int .i64 most) := h3.cell 5
                clear h1 h2 h3 h4 hcl
                cases hAi : A i with
                | false =>
                  rw [hAi] at hcell
                  have HX := Lib.hid (want_skip HWb.out (by rw [hAi]; rintro ⟨h, _⟩; cases h))
                  clear hAi HWb
                  go_wp2
                  go_roundw
                  case rel => exact ⟨i + 1, b, by omega, rfl, by go_num, HX.out, HHi.out⟩
                  case measure => simp [intOf]; omega
                | true =>
                  rw [hAi] at hcell
                  have HAi := Lib.hid hAi
                  clear hAi
                  by_cases hl : (j : Int) - i < least
                  · have hld : decide ((j : Int) - i < least) = true := by simpa using hl
                    have HX := Lib.hid (want_skip HWb.out (fun h => by omega))
                    clear HWb
                    go_wp2
                    go_roundw
                    case rel => exact ⟨i + 1, b, by omega, rfl, by go_num, HX.out, HHi.out⟩
                    case measure => simp [intOf]; omega
                  · have hld : decide ((j : Int) - i < least) = false := by simpa using hl
                    by_cases hm0 : 0 ≤ most
                    · have hmd : decide (0 ≤ most) = true := by simpa using hm0
                      by_cases hm1 : most < (j : Int) - i
                      · have hme : decide (most < (j : Int) - i) = true := by simpa using hm1
                        have HX := Lib.hid (want_skip HWb.out (fun h => by rcases h.2.2 with h | h <;> omega))
                        clear HWb
                        go_wp2
                        go_roundw
                        case rel => exact ⟨i + 1, b, by omega, rfl, by go_num, HX.out, HHi.out⟩
                        case measure => simp [intOf]; omega
                      · have hme : decide (most < (j : Int) - i) = false := by simpa using hm1
                        have HY : Hid (A i = true ∧ least ≤ (j : Int) - i ∧ (most < 0 ∨ (j : Int) - i ≤ most)) := ⟨HAi.out, by omega, by omega⟩
                        go_wp2
                        go_loopw [12, 13] (fun x y wr3 => ∃ (q : Nat) (c : Bool), i ≤ q ∧ q ≤ j ∧ x = .bool c ∧ y = .int .i64 q ∧ (c = true ↔ ∀ z, i ≤ z → z < q → p (f z) = true) ∧ Held w p least most kind size k gc g tp stays (trueAge p f A j) (j + 1) wr3) (fun _ y _ => j - (intOf y).toNat)
                        case atStart => exact ⟨i, true, Nat.le_refl _, hij, rfl, rfl, ⟨fun _ z h1 h2 => by omega, fun _ => rfl⟩, HHi.out⟩
                        case round =>
                          clear HHi hcell c4 c5
                          obtain ⟨q, c, hiq, hqj, rfl, rfl, hc1, hH3⟩ := hrel
                          have HC1 := Lib.hid hc1
                          have HH3 := Lib.hid hH3
                          clear hc1 hH3
                          by_cases hq : q < j
                          · obtain ⟨b1, off1, rfl, hbl1, hcl1⟩ := HW.out q (by omega)
                            obtain ⟨S3, k1, k2, k3, k4⟩ := HH3.out
                            have hcw := (k4.cell (p := ⟨b1, off1 + q, none⟩) hbl1).trans hcl1
                            have c0 : World.cell? _ ⟨w.heap.size, 0, none⟩ = some (.int .u64 ((pw p 0 : Nat) : Int)) := k3.cell 0
                            have c1 : World.cell? _ ⟨w.heap.size, 1, none⟩ = some (.int .u64 ((pw p 1 : Nat) : Int)) := k3.cell 1
                            have c2 : World.cell? _ ⟨w.heap.size, 2, none⟩ = some (.int .u64 ((pw p 2 : Nat) : Int)) := k3.cell 2
                            have c3 : World.cell? _ ⟨w.heap.size, 3, none⟩ = some (.int .u64 ((pw p 3 : Nat) : Int)) := k3.cell 3
                            have hsz := k3.lt
                            have hsb := Nat.lt_of_lt_of_le hbl1 k4.size
                            have hfq := HF.out q
                            have hq0 : (0 : Int) ≤ (q : Int) := by omega
                            have hq1 : (q : Int) ≤ (n : Int) := by omega
                            have hq2 : (q : Int) < (n : Int) := by omega
                            have hq3 : q < n := by omega
                            clear k1 k2 k3 k4 hcl1 S3
                            cases c with
                            | false =>
                              have HX := Lib.hid (HH3.out.below (Below.refl _ _).drew)
                              have HN : Hid (false = true ↔ ∀ z, i ≤ z → z < q + 1 → p (f z) = true) := by
                                constructor
                                · intro h; cases h
                                · intro h
                                  exact HC1.out.2 fun z h1 h2 => h z h1 (by omega)
                              clear HC1
                              go_wp2
                              go_region
                              go_wp2
                              go_roundw
                              case rel => exact ⟨q + 1, false, by omega, by omega, rfl, by go_num, HN.out, HX.out⟩
                              case measure => simp [intOf]; omega
                            | true =>
                              have HN : Hid (p (f q) = true ↔ ∀ z, i ≤ z → z < q + 1 → p (f z) = true) := by
                                constructor
                                · intro h z h1 h2
                                  by_cases hz : z = q
                                  · subst hz; exact h
                                  · exact HC1.out.1 rfl z h1 (by omega)
                                · intro h
                                  exact h q hiq (by omega)
                              clear HC1
                              go_wp2
                              have hwr : IntKind.i64.wrap ((f q : Nat) : Int) = ((f q : Nat) : Int) := IntWalk.i64_in _ (by omega)
                              go_region_held3 (fun w' => World.cell? w' ⟨w.heap.size, 0, none⟩ = some (.int .u64 ((pw p 0 : Nat) : Int)) ∧ World.cell? w' ⟨w.heap.size, 1, none⟩ = some (.int .u64 ((pw p 1 : Nat) : Int)) ∧ World.cell? w' ⟨w.heap.size, 2, none⟩ = some (.int .u64 ((pw p 2 : Nat) : Int)) ∧ World.cell? w' ⟨w.heap.size, 3, none⟩ = some (.int .u64 ((pw p 3 : Nat) : Int)) ∧ World.cell? w' ⟨b1, off1 + q, none⟩ = some (.int .u8 ((f q : Nat) : Int)) ∧ Below wr.heap.size wr w')
                                (first | exact ⟨c0, c1, c2, c3, hcw, (Below.refl _ _).drew⟩ | assumption | (go_split_ands; have hbx := held_step (by assumption) hbel1; exact ⟨(hbx.cell (p := ⟨_, 0, none⟩) hsz).trans c0, (hbx.cell (p := ⟨_, 1, none⟩) hsz).trans c1, (hbx.cell (p := ⟨_, 2, none⟩) hsz).trans c2, (hbx.cell (p := ⟨_, 3, none⟩) hsz).trans c3, (hbx.cell (p := ⟨_, _, none⟩) hsb).trans hcw, hbx⟩))
                                ((go_at_call 8; with_reducible refine (refHas_any p _ hfq _).mono ?_; rintro e w1 ⟨rfl, hbel1⟩))
                              go_split_ands
                              have hbx := (by assumption : Below wr.heap.size wr _)
                              have HX := Lib.hid (HH3.out.below hbx)
                              clear hbx hbel1
                              go_wp2
                              go_roundw
                              case rel => exact ⟨q + 1, p (f q), by omega, by omega, rfl, by go_num, HN.out, HX.out⟩
                              case measure => simp [intOf]; omega
                          · have hqe : q = j := by omega
                            subst hqe
                            have HP := Lib.hid (want_put hij HWb.out HY.out HC1.out)
                            clear HC1 HWb HY
                            cases b
                            all_goals
                              go_wp2
                              go_roundw
                              case rel => exact ⟨i + 1, _, by omega, rfl, by go_num, HP.out, HH3.out⟩
                              case measure => simp [intOf]; omega
                    · have hmd : decide (0 ≤ most) = false := by simpa using hm0
                      have HY : Hid (A i = true ∧ least ≤ (j : Int) - i ∧ (most < 0 ∨ (j : Int) - i ≤ most)) := ⟨HAi.out, by omega, by omega⟩
                      go_wp2
                      go_loopw [12, 13] (fun x y wr3 => ∃ (q : Nat) (c : Bool), i ≤ q ∧ q ≤ j ∧ x = .bool c ∧ y = .int .i64 q ∧ (c = true ↔ ∀ z, i ≤ z → z < q → p (f z) = true) ∧ Held w p least most kind size k gc g tp stays (trueAge p f A j) (j + 1) wr3) (fun _ y _ => j - (intOf y).toNat)
                      case atStart => exact ⟨i, true, Nat.le_refl _, hij, rfl, rfl, ⟨fun _ z h1 h2 => by omega, fun _ => rfl⟩, HHi.out⟩
                      case round =>
                        clear HHi hcell c4 c5
                        obtain ⟨q, c, hiq, hqj, rfl, rfl, hc1, hH3⟩ := hrel
                        have HC1 := Lib.hid hc1
                        have HH3 := Lib.hid hH3
                        clear hc1 hH3
                        by_cases hq : q < j
                        · obtain ⟨b1, off1, rfl, hbl1, hcl1⟩ := HW.out q (by omega)
                          obtain ⟨S3, k1, k2, k3, k4⟩ := HH3.out
                          have hcw := (k4.cell (p := ⟨b1, off1 + q, none⟩) hbl1).trans hcl1
                          have c0 : World.cell? _ ⟨w.heap.size, 0, none⟩ = some (.int .u64 ((pw p 0 : Nat) : Int)) := k3.cell 0
                          have c1 : World.cell? _ ⟨w.heap.size, 1, none⟩ = some (.int .u64 ((pw p 1 : Nat) : Int)) := k3.cell 1
                          have c2 : World.cell? _ ⟨w.heap.size, 2, none⟩ = some (.int .u64 ((pw p 2 : Nat) : Int)) := k3.cell 2
                          have c3 : World.cell? _ ⟨w.heap.size, 3, none⟩ = some (.int .u64 ((pw p 3 : Nat) : Int)) := k3.cell 3
                          have hsz := k3.lt
                          have hsb := Nat.lt_of_lt_of_le hbl1 k4.size
                          have hfq := HF.out q
                          have hq0 : (0 : Int) ≤ (q : Int) := by omega
                          have hq1 : (q : Int) ≤ (n : Int) := by omega
                          have hq2 : (q : Int) < (n : Int) := by omega
                          have hq3 : q < n := by omega
                          clear k1 k2 k3 k4 hcl1 S3
                          cases c with
                          | false =>
                            have HX := Lib.hid (HH3.out.below (Below.refl _ _).drew)
                            have HN : Hid (false = true ↔ ∀ z, i ≤ z → z < q + 1 → p (f z) = true) := by
                              constructor
                              · intro h; cases h
                              · intro h
                                exact HC1.out.2 fun z h1 h2 => h z h1 (by omega)
                            clear HC1
                            go_wp2
                            go_region
                            go_wp2
                            go_roundw
                            case rel => exact ⟨q + 1, false, by omega, by omega, rfl, by go_num, HN.out, HX.out⟩
                            case measure => simp [intOf]; omega
                          | true =>
                            have HN : Hid (p (f q) = true ↔ ∀ z, i ≤ z → z < q + 1 → p (f z) = true) := by
                              constructor
                              · intro h z h1 h2
                                by_cases hz : z = q
                                · subst hz; exact h
                                · exact HC1.out.1 rfl z h1 (by omega)
                              · intro h
                                exact h q hiq (by omega)
                            clear HC1
                            go_wp2
                            have hwr : IntKind.i64.wrap ((f q : Nat) : Int) = ((f q : Nat) : Int) := IntWalk.i64_in _ (by omega)
                            go_region_held3 (fun w' => World.cell? w' ⟨w.heap.size, 0, none⟩ = some (.int .u64 ((pw p 0 : Nat) : Int)) ∧ World.cell? w' ⟨w.heap.size, 1, none⟩ = some (.int .u64 ((pw p 1 : Nat) : Int)) ∧ World.cell? w' ⟨w.heap.size, 2, none⟩ = some (.int .u64 ((pw p 2 : Nat) : Int)) ∧ World.cell? w' ⟨w.heap.size, 3, none⟩ = some (.int .u64 ((pw p 3 : Nat) : Int)) ∧ World.cell? w' ⟨b1, off1 + q, none⟩ = some (.int .u8 ((f q : Nat) : Int)) ∧ Below wr.heap.size wr w')
                              (first | exact ⟨c0, c1, c2, c3, hcw, (Below.refl _ _).drew⟩ | assumption | (go_split_ands; have hbx := held_step (by assumption) hbel1; exact ⟨(hbx.cell (p := ⟨_, 0, none⟩) hsz).trans c0, (hbx.cell (p := ⟨_, 1, none⟩) hsz).trans c1, (hbx.cell (p := ⟨_, 2, none⟩) hsz).trans c2, (hbx.cell (p := ⟨_, 3, none⟩) hsz).trans c3, (hbx.cell (p := ⟨_, _, none⟩) hsb).trans hcw, hbx⟩))
                              ((go_at_call 8; with_reducible refine (refHas_any p _ hfq _).mono ?_; rintro e w1 ⟨rfl, hbel1⟩))
                            go_split_ands
                            have hbx := (by assumption : Below wr.heap.size wr _)
                            have HX := Lib.hid (HH3.out.below hbx)
                            clear hbx hbel1
                            go_wp2
                            go_roundw
                            case rel => exact ⟨q + 1, p (f q), by omega, by omega, rfl, by go_num, HN.out, HX.out⟩
                            case measure => simp [intOf]; omega
                        · have hqe : q = j := by omega
                          subst hqe
                          have HP := Lib.hid (want_put hij HWb.out HY.out HC1.out)
                          clear HC1 HWb HY
                          cases b
                          all_goals
                            go_wp2
                            go_roundw
                            case rel => exact ⟨i + 1, _, by omega, rfl, by go_num, HP.out, HH3.out⟩
                            case measure => simp [intOf]; omega
end Go.Proofs.Ytoijilfpfdhppaa

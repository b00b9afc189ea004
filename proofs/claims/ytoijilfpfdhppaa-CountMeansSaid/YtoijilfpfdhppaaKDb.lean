/- Walks of the bits engine of a counter (a bit for each age). -/
import Derived.Test.YtoijilfpfdhppaaKDa
import Derived.Deep.RegionHeld3
namespace Go.Proofs.Ytoijilfpfdhppaa
open Go.RowKit

def bitsCells (tp : Int) (stays : Bool) (v : Value) : Array Value := #[.int .i64 tp, .bool stays, v]
theorem bits_set (tp : Int) (stays : Bool) (v u : Value) : (bitsCells tp stays v).setIfInBounds 2 u = bitsCells tp stays u := rfl
/-- a vector in a row from block B on -/
structure VecO (w : World) (B : Nat) (v : Value) (n : Nat) (S : Nat → Bool) : Prop where
  own : w.ownsRow B 22 1 v n (u64s (vw S n))
  sup : Sup S n
  few : n ≤ 5000
theorem VecO.vec {w : World} {B n : Nat} {v : Value} {S : Nat → Bool} (h : VecO w B v n S) : ∃ A c, v = .slice A n c ∧ Vec w A n c S := by
  obtain ⟨_, A, c, rfl, hr⟩ := own_rd h.own
  exact ⟨A, c, rfl, hr, own_cap h.own, h.sup, by have := h.few; unfold many; omega⟩
/-- the bits engine's struct and its vector -/
def BitsAt (w : World) (g : Nat) (tp : Int) (stays : Bool) (S : Nat → Bool) : Prop :=
  ∃ v n, Blk w g 49 (bitsCells tp stays v) ∧ VecO w (g + 1) v n S
theorem BitsAt.below {w w' : World} {g : Nat} {tp : Int} {stays : Bool} {S : Nat → Bool} (h : BitsAt w g tp stays S) (hb : Below w.heap.size w w') : BitsAt w' g tp stays S := by
  obtain ⟨v, n, h1, h2, h3, h4⟩ := h
  exact ⟨v, n, h1.below hb h1.lt, own_below h2 hb (Nat.le_refl _), h3, h4⟩
theorem bits_top {S : Nat → Bool} {N : Nat} (h : ∀ a, 1000 < a → S a = false) : top S N ≤ 5000 := by
  have : top S N ≤ 16 := by
    match e : top S N with
    | 0 => omega
    | n + 1 =>
      refine Nat.le_of_not_lt fun hlt => top_last e ?_
      unfold pw
      rw [bitsOf_congr (g := fun _ => false) (fun j _ => h _ (by omega))]
      exact bitsOf_none 64
  omega
/-- a bits engine behind a store of a new vector -/
theorem bits_stored2 {w w1 : World} {g : Nat} {tp : Int} {stays : Bool} {v u : Value} {n : Nat} {S : Nat → Bool} (h : Blk w g 49 (bitsCells tp stays v)) (hb : Below w.heap.size w w1)
    (ho : w1.ownsRow w.heap.size 22 1 u n (u64s (vw S n))) (hs : Sup S n) (hf : n ≤ 5000) : Blk (w1.setCell ⟨g, 2, none⟩ u) g 49 (bitsCells tp stays u) ∧ VecO (w1.setCell ⟨g, 2, none⟩ u) (g + 1) u n S := by
  have hlt := h.lt
  have h2 := (h.below hb hlt).store 2 u
  rw [bits_set] at h2
  exact ⟨h2, own_grown (own_base ho hlt) (grownBy_store (World.grownBy.refl w1 (some g)) 2 u) (Nat.lt_succ_self g), hs, hf⟩
theorem bits_stored {w w1 : World} {g : Nat} {tp : Int} {stays : Bool} {v u : Value} {n : Nat} {S : Nat → Bool} (h : Blk w g 49 (bitsCells tp stays v)) (hb : Below w.heap.size w w1)
    (ho : w1.ownsRow w.heap.size 22 1 u n (u64s (vw S n))) (hs : Sup S n) (hf : n ≤ 5000) : BitsAt (w1.setCell ⟨g, 2, none⟩ u) g tp stays S :=
  ⟨u, n, (bits_stored2 h hb ho hs hf).1, (bits_stored2 h hb ho hs hf).2⟩
theorem bits_moved {w w1 : World} {g : Nat} (u : Value) (hb : Below w.heap.size w w1) : w.grownBy (w1.setCell ⟨g, 2, none⟩ u) (some g) := grownBy_store (grown_of_below hb _) 2 u

def BitsNow (g : Nat) (tp : Int) (stays : Bool) (S : Nat → Bool) (w w' : World) : Prop := BitsAt w' g tp stays S ∧ w.grownBy w' (some g)

theorem bits_clear (g : Nat) (tp : Int) (stays : Bool) (S : Nat → Bool) (w : World) (h : BitsAt w g tp stays S) :
    Calls Try.prog 31 #[.pointer (some ⟨g, 0, none⟩)] w (Ended (BitsNow g tp stays noneB w)) := by
  obtain ⟨v, n, hb, hv⟩ := h
  have c2 := hb.cell 2
  have f2 := hb.free 2
  simp only [bitsCells, List.getElem?_toArray, List.getElem?_cons_zero, List.getElem?_cons_succ] at c2
  have H := Lib.hid (bits_stored (S := noneB) (u := .slice none 0 0) (n := 0) hb (Below.refl _ _) (World.ownsRow_nil _ _ _ _) (fun _ _ => rfl) (by omega))
  have HM := Lib.hid (bits_moved (g := g) (.slice none 0 0) (Below.refl w.heap.size w))
  clear hb hv
  go_enter Try.func31, Try.ntmps31
  go_wp2
  go_end0
  exact ⟨⟨_, rfl⟩, H.out, HM.out⟩

theorem bits_arm (g : Nat) (tp : Int) (stays : Bool) (S : Nat → Bool) (hS : ∀ a, 1000 < a → S a = false) (w : World) (h : BitsAt w g tp stays S) :
    Calls Try.prog 30 #[.pointer (some ⟨g, 0, none⟩)] w (Ended (BitsNow g tp stays (addB S 0) w)) := by
  obtain ⟨v, n, hb, hv⟩ := h
  obtain ⟨A, c, rfl, hvec⟩ := hv.vec
  have c2 := hb.cell 2
  simp only [bitsCells, List.getElem?_toArray, List.getElem?_cons_zero, List.getElem?_cons_succ] at c2
  have HS : Hid (∀ a, 1000 < a → addB S 0 a = false) := fun a ha => by
    have : ¬ a = 0 := by omega
    simp [addB, hS a ha, this]
  have HB := Lib.hid hb
  have Hset := Lib.hid (set_yes S n A c 0 (by omega) w hvec)
  have hz : ((0 : Nat) : Int) = 0 := rfl
  rw [hz] at Hset
  have hsup := Lib.hid hv.sup
  clear hb hv hvec hz
  go_enter Try.func30, Try.ntmps30
  go_wp2_with fail
  refine Hset.out.mono ?_
  rintro e w1 ⟨A', c', rfl, h1, h2, h3⟩
  have H := Lib.hid (bits_stored HB.out h3 h2 h1.sup (bits_top HS.out))
  have HM := Lib.hid (bits_moved (g := g) (.slice A' (top (addB S 0) (max n (0 / 64 + 1))) c') h3)
  have hb1 := HB.out.below h3 HB.out.lt
  have c3 := hb1.cell 2
  have f3 := hb1.free 2
  simp only [bitsCells, List.getElem?_toArray, List.getElem?_cons_zero, List.getElem?_cons_succ] at c3
  generalize top (addB S 0) (max n (0 / 64 + 1)) = t at *
  clear h1 h2 h3 hb1 c2
  go_wp2
  go_end0
  exact ⟨⟨_, rfl⟩, H.out, HM.out⟩

theorem top_pos {f : Nat → Bool} {N : Nat} (h : Sup f N) : 0 < top f N ↔ ∃ i, f i = true := by
  constructor
  · intro hp
    match e : top f N with
    | 0 => omega
    | n + 1 =>
      have := top_last e
      refine Classical.byContradiction fun hn => this ?_
      unfold pw
      rw [bitsOf_congr (g := fun _ => false) (fun j _ => by
        cases hf : f (64 * n + j)
        · rfl
        · exact absurd ⟨_, hf⟩ hn)]
      exact bitsOf_none 64
  · rintro ⟨i, hi⟩
    refine Nat.pos_of_ne_zero fun h0 => ?_
    have hs := top_sup h
    rw [h0] at hs
    rw [hs i (by omega)] at hi
    cases hi
/-- whether an age is at least so great -/
def SaysDone (S : Nat → Bool) (least : Int) (w : World) (e : Ending) (w' : World) : Prop := ∃ b, e = .returned (.bool b) ∧ (b = true ↔ ∃ a : Nat, S a = true ∧ least ≤ (a : Int)) ∧ Below w.heap.size w w'
theorem doneS (S : Nat → Bool) (least : Int) : (∃ i, (S i && !lowB S least i) = true) ↔ ∃ a : Nat, S a = true ∧ least ≤ (a : Int) := by
  constructor
  · rintro ⟨i, hi⟩
    unfold lowB at hi
    simp only [Bool.and_eq_true, Bool.not_eq_true', Bool.and_eq_false_iff] at hi
    refine ⟨i, hi.1, ?_⟩
    rcases hi.2 with h | h
    · rw [hi.1] at h; cases h
    · simpa using h
  · rintro ⟨a, h1, h2⟩
    refine ⟨a, ?_⟩
    have : ¬ (a : Int) < least := by omega
    simp [lowB, h1, this]

theorem minus_sup {f : Nat → Bool} (g : Nat → Bool) {n N : Nat} (hf : Sup f n) (h : n ≤ N) : Sup (fun b => f b && !g b) N := fun i hi => by simp [hf i (by omega)]
theorem held_step {wr Wp w1 : World} (hb : Below wr.heap.size wr Wp) (h : Below Wp.heap.size Wp w1) : Below wr.heap.size wr w1 := hb.trans (h.mono hb.size)
set_option maxHeartbeats 1000000 in
theorem bits_done (g : Nat) (tp least : Int) (stays : Bool) (S : Nat → Bool) (hl : least ≤ 9223372036854775807) (w : World) (h : BitsAt w g tp stays S) :
    Calls Try.prog 32 #[.pointer (some ⟨g, 0, none⟩), .int .i64 least] w (SaysDone S least w) := by
  obtain ⟨v, n, hb, hv⟩ := h
  obtain ⟨A, c, rfl, hvec⟩ := hv.vec
  have c2 := hb.cell 2
  simp only [bitsCells, List.getElem?_toArray, List.getElem?_cons_zero, List.getElem?_cons_succ] at c2
  have HV := Lib.hid hvec
  have hlt := hb.lt
  have Hlow := Lib.hid (fun W h => low_any S n A c least hl W h)
  have Hmin := Lib.hid (fun B d W hp hq => vminus_any S (lowB S least) n (top (lowB S least) n) A B c d W hp hq)
  clear hb hv hvec
  go_enter Try.func32, Try.ntmps32
  go_wp2
  go_region_held3 (fun w' => w'.cell? ⟨g, 2, none⟩ = some (.slice A n c) ∧ Below w.heap.size w w')
    (first | exact ⟨c2, (Below.refl _ _).drew⟩ | assumption | (go_split_ands; have hbx := held_step (by assumption) hbel1; exact ⟨(hbx.cell (p := ⟨_, 2, none⟩) hlt).trans c2, hbx⟩) | (go_split_ands; have hbx := held_step (by assumption) hbel2; exact ⟨(hbx.cell (p := ⟨_, 2, none⟩) hlt).trans c2, hbx⟩))
    (first | (go_at_call 38; refine (Hlow.out _ (HV.out.below (by go_split_ands; assumption))).mono ?_; intro e w1 hg; obtain ⟨B, d, rfl, hv1, ho1, hbel1⟩ := hg) | (go_at_call 37; refine (Hmin.out _ _ _ (HV.out.below (by go_split_ands; assumption)) hv1).mono ?_; intro e w2 hg; obtain ⟨B2, d2, rfl, hv2, ho2, hbel2⟩ := hg))
  go_split_ands
  have hbx := (by assumption : Below w.heap.size w _)
  have HD := Lib.hid ((top_pos (minus_sup (N := max n (top (lowB S least) n)) (lowB S least) HV.out.sup (by omega))).trans (doneS S least))
  have HB := Lib.hid hbx
  clear hv2 ho2 hbel2 hv1 ho1 hbel1 hbx
  generalize top (fun b => S b && !lowB S least b) (max n (top (lowB S least) n)) = t at *
  go_wp2
  go_ret
  exact ⟨_, rfl, by simpa using HD.out, HB.out⟩

/-- all ages one more -/
def growB (S : Nat → Bool) (tp : Nat) (stays : Bool) : Nat → Bool := fun a => (decide (1 ≤ a) && S (a - 1) && decide (a ≤ tp)) || (stays && S tp && decide (a = tp))
theorem grow_low (S : Nat → Bool) (tp : Nat) (a : Nat) : lowB (upB S 1) ((tp : Int) + 1) a = (decide (1 ≤ a) && S (a - 1) && decide (a ≤ tp)) := by
  unfold lowB upB
  congr 1
  rw [decide_eq_decide]
  omega
theorem grow_no (S : Nat → Bool) (tp : Nat) (stays : Bool) (h : (stays && S tp) = false) (a : Nat) : lowB (upB S 1) ((tp : Int) + 1) a = growB S tp stays a := by
  rw [grow_low]
  unfold growB
  rw [h]
  simp
theorem grow_yes (S : Nat → Bool) (tp : Nat) (stays : Bool) (h : (stays && S tp) = true) (a : Nat) : addB (lowB (upB S 1) ((tp : Int) + 1)) tp a = growB S tp stays a := by
  unfold addB
  rw [grow_low]
  unfold growB
  rw [h]
  simp
theorem growB_top (S : Nat → Bool) (tp : Nat) (stays : Bool) (a : Nat) (h : tp < a) : growB S tp stays a = false := by
  have h1 : ¬ a ≤ tp := by omega
  have h2 : ¬ a = tp := by omega
  simp [growB, h1, h2]

set_option maxHeartbeats 2000000 in
theorem bits_grow (g : Nat) (tp : Nat) (stays : Bool) (S : Nat → Bool) (ht : tp ≤ 400) (w : World) (h : BitsAt w g (tp : Int) stays S) :
    Calls Try.prog 33 #[.pointer (some ⟨g, 0, none⟩)] w (Ended (BitsNow g (tp : Int) stays (growB S tp stays) w)) := by
  obtain ⟨v, n, hb, hv⟩ := h
  obtain ⟨A, c, rfl, hvec⟩ := hv.vec
  have c2 := hb.cell 2
  have c0 := hb.cell 0
  simp only [bitsCells, List.getElem?_toArray, List.getElem?_cons_zero, List.getElem?_cons_succ] at c2 c0
  have HB := Lib.hid hb
  have HV := Lib.hid hvec
  have hlt := hb.lt
  have hfew := hv.few
  have Hget := Lib.hid (fun W h => get_nat S n A c tp (by omega) W h)
  have Hup := Lib.hid (fun W h => up_yes S n A c 1 (by omega) W h (by omega))
  have hz : ((1 : Nat) : Int) = 1 := rfl
  rw [hz, show 1 / 64 + n + 1 = n + 1 from by omega] at Hup
  clear hb hv hvec hz
  go_enter Try.func33, Try.ntmps33
  go_wp2
  go_region_held3 (fun w' => w'.cell? ⟨g, 2, none⟩ = some (.slice A n c) ∧ w'.cell? ⟨g, 0, none⟩ = some (.int .i64 (tp : Int)) ∧ Below w.heap.size w w')
    (first | exact ⟨c2, c0, (Below.refl _ _).drew⟩ | assumption)
    ((go_at_call 39; refine (Hget.out _ (HV.out.below (by go_split_ands; assumption))).mono ?_; rintro e w1 ⟨rfl, rfl⟩))
  have hb0 : Below w.heap.size w w.drew := (Below.refl _ _).drew
  obtain ⟨so, hso⟩ : ∃ so, so = S tp := ⟨_, rfl⟩
  rw [← hso]
  have Hso := Lib.hid hso
  have HL : Hid (∀ a, 1000 < a → lowB (upB S 1) ((tp : Int) + 1) a = false) := fun a ha => by
    rw [grow_low]
    have : ¬ a ≤ tp := by omega
    simp [this]
  clear hso
  go_wp2_with fail
  refine (Hup.out _ (HV.out.below hb0)).mono ?_
  rintro e w1 ⟨B, d, rfl, h1, h2, h3⟩
  have hbw := hb0.trans (h3.mono hb0.size)
  have hb1 := HB.out.below hbw hlt
  have d2 := hb1.cell 2
  have d0 := hb1.cell 0
  simp only [bitsCells, List.getElem?_toArray, List.getElem?_cons_zero, List.getElem?_cons_succ] at d2 d0
  have Hlow := Lib.hid (fun W h => low_any (upB S 1) (top (upB S 1) (n + 1)) B d ((tp : Int) + 1) (by omega) W h)
  have HV1 := Lib.hid h1
  have HBW := Lib.hid hbw
  clear h1 h2 h3 hb0 hb1 c2 c0 hbw
  go_wp2_with fail
  refine (Hlow.out _ HV1.out).mono ?_
  rintro e w2 ⟨B3, d3, rfl, k1, k2, k3⟩
  have hbw2 := HBW.out.trans (k3.mono HBW.out.size)
  have hb2 := HB.out.below hbw2 hlt
  have HST := Lib.hid (bits_stored HB.out hbw2 (own_base k2 HBW.out.size) k1.sup (bits_top HL.out))
  have HM := Lib.hid (bits_moved (g := g) (.slice B3 (top (lowB (upB S 1) ((tp : Int) + 1)) (top (upB S 1) (n + 1))) d3) hbw2)
  have e2 := hb2.cell 2
  have f2 := hb2.free 2
  have hb3 := hb2.store 2 (.slice B3 (top (lowB (upB S 1) ((tp : Int) + 1)) (top (upB S 1) (n + 1))) d3)
  rw [bits_set] at hb3
  have e1 := hb3.cell 1
  have e0 := hb3.cell 0
  have e3 := hb3.cell 2
  have f3 := hb3.free 2
  have hlt3 := hb3.lt
  simp only [bitsCells, List.getElem?_toArray, List.getElem?_cons_zero, List.getElem?_cons_succ] at e2 e1 e0 e3
  have HB3 := Lib.hid hb3
  have HV3 := Lib.hid (bits_stored2 HB.out hbw2 (own_base k2 HBW.out.size) k1.sup (bits_top HL.out)).2
  clear k1 k2 k3 hb2 hb3 hbw2 d2 d0
  generalize top (lowB (upB S 1) ((tp : Int) + 1)) (top (upB S 1) (n + 1)) = t3 at *
  cases so
  · have HG : Hid (lowB (upB S 1) ((tp : Int) + 1) = growB S tp stays) := funext (grow_no S tp stays (by rw [← Hso.out, Bool.and_false]))
    clear e1 e0 e3 f3
    go_wp2
    go_end0
    exact ⟨⟨_, rfl⟩, by rw [← HG.out]; exact HST.out, HM.out⟩
  · cases stays
    · have HG : Hid (lowB (upB S 1) ((tp : Int) + 1) = growB S tp false) := funext (grow_no S tp false rfl)
      clear e0 e3 f3
      go_wp2
      go_end0
      exact ⟨⟨_, rfl⟩, by rw [← HG.out]; exact HST.out, HM.out⟩
    · go_wp2
      generalize w2.setCell ⟨g, 2, none⟩ (.slice B3 t3 d3) = ws at *
      have HG : Hid (addB (lowB (upB S 1) ((tp : Int) + 1)) tp = growB S tp true) := funext (grow_yes S tp true (by rw [← Hso.out]; rfl))
      obtain ⟨A', c', e', hvs⟩ := HV3.out.vec
      simp only [Value.slice.injEq] at e'
      obtain ⟨rfl, _, rfl⟩ := e'
      have HVs := Lib.hid hvs
      have Hset := Lib.hid (fun W h => set_yes (lowB (upB S 1) ((tp : Int) + 1)) t3 B3 d3 tp (by omega) W h)
      have HGS : Hid (∀ a, 1000 < a → addB (lowB (upB S 1) ((tp : Int) + 1)) tp a = false) := fun a ha => by
        have h1 := HL.out a ha
        have : ¬ a = tp := by omega
        simp [addB, h1, this]
      clear hvs f2 e2 HST
      go_region_with ((go_at_call 36; refine (Hset.out _ (HVs.out.below ((Below.refl _ _).drew))).mono ?_; rintro e w4 ⟨B4, d4, rfl, m1, m2, m3⟩; have hbw4 := ((Below.refl ws.heap.size ws).drew).trans (m3.mono (Nat.le_refl _)); have hb4 := HB3.out.below hbw4 hlt3; have q2 := hb4.cell 2; have qf := hb4.free 2; simp only [bitsCells, List.getElem?_toArray, List.getElem?_cons_zero, List.getElem?_cons_succ] at q2; have HST4 := Lib.hid (bits_stored HB3.out hbw4 m2 m1.sup (bits_top HGS.out)); have HM4 := Lib.hid (grown_trans HM.out (bits_moved (g := g) (.slice B4 (top (addB (lowB (upB S 1) ((tp : Int) + 1)) tp) (max t3 (tp / 64 + 1))) d4) hbw4)); clear m1 m2 m3 hbw4 hb4; generalize top (addB (lowB (upB S 1) ((tp : Int) + 1)) tp) (max t3 (tp / 64 + 1)) = t4 at *))
      all_goals (go_end0; exact ⟨⟨_, rfl⟩, by rw [← HG.out]; exact HST4.out, HM4.out⟩)
end Go.Proofs.Ytoijilfpfdhppaa

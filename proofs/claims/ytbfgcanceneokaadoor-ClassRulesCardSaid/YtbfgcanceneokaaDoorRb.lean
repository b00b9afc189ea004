/- Walk of the reference riddleref02.Join: two classes byte by byte. -/
import Derived.Test.YtbfgcanceneokaaDoorRa
import Derived.Deep.RegionHeld3
namespace Go.Proofs.YtbfgcanceneokaaDoor
open Go.RowKit

/-- what Join does to two classes: 1 both, 2 one, 3 not the first -/
def joined (how : Nat) (p q : Nat → Bool) : Nat → Bool := fun x => match how with | 1 => p x && q x | 2 => p x || q x | _ => !p x

theorem bools_step (f : Nat → Bool) (k : Nat) (b : Bool) (hb : f k = b) : (bools (cutAt f k) 256).setIfInBounds k (.bool b) = bools (cutAt f (k + 1)) 256 := by
  rw [bools_set]
  apply bools_congr
  intro j hj
  unfold cutAt
  by_cases h : j = k
  · subst h; simp [hb]
  · have : (j < k + 1) ↔ j < k := by omega
    simp [h, this]

theorem held_step {wr Wp w1 : World} (hb : Below wr.heap.size wr Wp) (h : Below Wp.heap.size Wp w1) : Below wr.heap.size wr w1 := hb.trans (h.mono hb.size)

set_option maxRecDepth 100000 in
set_option maxHeartbeats 4000000 in
theorem join_any (how : Nat) (hh : how = 1 ∨ how = 2 ∨ how = 3) (p q : Nat → Bool) (w : World) :
    Calls Tryd.prog 10 #[cval p, cval q, .int .i64 how] w fun e w' => e = .returned (cval (joined how p q)) ∧ Below w.heap.size w w' := by
  have hz := zeroFlags
  unfold bval at hz
  have H0 := Lib.hid (bools_one (fun _ => false) 256)
  have H1 := Lib.hid (bools_size (fun _ => false) 256)
  have Hcut : Hid (bools (fun _ => false) 256 = bools (cutAt (joined how p q) 0) 256) := bools_congr fun j _ => by simp [cutAt]
  generalize bools (fun _ => false) 256 = F0 at *
  have Hp := Lib.hid (Blk.new w 24 (ccells p))
  have Hq : Hid (Blk ((w.alloc (.cells (ccells p) 24)).alloc (.cells (ccells q) 24)) (w.heap.size + 1) 24 (ccells q)) := by
    have := Blk.new (w.alloc (.cells (ccells p) 24)) 24 (ccells q)
    rw [World.size_alloc] at this
    exact this
  have Hr : Hid (Blk (((w.alloc (.cells (ccells p) 24)).alloc (.cells (ccells q) 24)).alloc (.cells #[.int .u64 0, .int .u64 0, .int .u64 0, .int .u64 0] 24)) (w.heap.size + 1 + 1) 24 #[.int .u64 0, .int .u64 0, .int .u64 0, .int .u64 0]) := by
    have := Blk.new ((w.alloc (.cells (ccells p) 24)).alloc (.cells (ccells q) 24)) 24 #[.int .u64 0, .int .u64 0, .int .u64 0, .int .u64 0]
    rw [World.size_alloc, World.size_alloc] at this
    exact this
  have Hs : Hid (Blk ((((w.alloc (.cells (ccells p) 24)).alloc (.cells (ccells q) 24)).alloc (.cells #[.int .u64 0, .int .u64 0, .int .u64 0, .int .u64 0] 24)).alloc (.cells F0 43)) (w.heap.size + 1 + 1 + 1) 43 F0) := by
    have := Blk.new (((w.alloc (.cells (ccells p) 24)).alloc (.cells (ccells q) 24)).alloc (.cells #[.int .u64 0, .int .u64 0, .int .u64 0, .int .u64 0] 24)) 43 F0
    rw [World.size_alloc, World.size_alloc, World.size_alloc] at this
    exact this
  have Hb : Hid (Below w.heap.size w ((((w.alloc (.cells (ccells p) 24)).alloc (.cells (ccells q) 24)).alloc (.cells #[.int .u64 0, .int .u64 0, .int .u64 0, .int .u64 0] 24)).alloc (.cells F0 43))) :=
    (((((Below.refl _ _).alloc (Nat.le_refl _) _).alloc (by simp <;> omega) _).alloc (by simp <;> omega) _).alloc (by simp <;> omega) _)
  go_enter Tryd.func10, Tryd.ntmps10
  go_wp2_with (with_reducible refine wpList_store_blk Hs.out rfl H0.out 43 (by rw [H1.out]; exact flags_size) rfl (.tmp 7) (.tmp 11) rfl rfl rfl ?_; intro w2 hb2 hg2 hs2)
  have hP : Blk w2 w.heap.size 24 (ccells p) := (((Hp.out.alloc _).alloc _).alloc _).grown hg2 (by simp <;> omega)
  have hQ : Blk w2 (w.heap.size + 1) 24 (ccells q) := ((Hq.out.alloc _).alloc _).grown hg2 (by simp <;> omega)
  have hR : Blk w2 (w.heap.size + 1 + 1) 24 #[.int .u64 0, .int .u64 0, .int .u64 0, .int .u64 0] := (Hr.out.alloc _).grown hg2 (by simp <;> omega)
  have hB : Below w.heap.size w w2 := below_byGrown Hb.out hg2 (by simp <;> omega) (by omega)
  clear hg2 hs2 Hb Hs Hr Hq Hp
  rw [Hcut.out] at hb2
  have HS := Lib.hid hb2
  have HP := Lib.hid hP
  have HQ := Lib.hid hQ
  have HR := Lib.hid hR
  clear hb2 hP hQ hR
  go_loopw [8] (fun i wr => ∃ k : Nat, k ≤ 256 ∧ i = .int .i64 k ∧ Blk wr w.heap.size 24 (ccells p) ∧ Blk wr (w.heap.size + 1) 24 (ccells q) ∧ Blk wr (w.heap.size + 1 + 1) 24 #[.int .u64 0, .int .u64 0, .int .u64 0, .int .u64 0] ∧
      Blk wr (w.heap.size + 1 + 1 + 1) 43 (bools (cutAt (joined how p q) k) 256) ∧ Below w.heap.size w wr) (fun i _ => 256 - (intOf i).toNat)
  case atStart => exact ⟨0, Nat.zero_le _, rfl, HP.out, HQ.out, HR.out, HS.out, hB⟩
  case round =>
    clear HP HQ HR HS hB
    obtain ⟨k, hk, rfl, hP, hQ, hR, hS, hbel⟩ := hrel
    by_cases hlt : k < 256
    · have p0 := hP.cell 0
      have p1 := hP.cell 1
      have p2 := hP.cell 2
      have p3 := hP.cell 3
      have q0 := hQ.cell 0
      have q1 := hQ.cell 1
      have q2 := hQ.cell 2
      have q3 := hQ.cell 3
      simp only [List.getElem?_toArray, List.getElem?_cons_zero, List.getElem?_cons_succ] at p0 p1 p2 p3 q0 q1 q2 q3
      have hsz := hQ.lt
      have hsp := hP.lt
      go_wp2
      go_region_held3 (fun w' => w'.cell? ⟨w.heap.size, 0, none⟩ = some (.int .u64 (pw p 0 : Nat)) ∧ w'.cell? ⟨w.heap.size, 1, none⟩ = some (.int .u64 (pw p 1 : Nat)) ∧ w'.cell? ⟨w.heap.size, 2, none⟩ = some (.int .u64 (pw p 2 : Nat)) ∧ w'.cell? ⟨w.heap.size, 3, none⟩ = some (.int .u64 (pw p 3 : Nat)) ∧
          w'.cell? ⟨w.heap.size + 1, 0, none⟩ = some (.int .u64 (pw q 0 : Nat)) ∧ w'.cell? ⟨w.heap.size + 1, 1, none⟩ = some (.int .u64 (pw q 1 : Nat)) ∧ w'.cell? ⟨w.heap.size + 1, 2, none⟩ = some (.int .u64 (pw q 2 : Nat)) ∧ w'.cell? ⟨w.heap.size + 1, 3, none⟩ = some (.int .u64 (pw q 3 : Nat)) ∧ Below wr.heap.size wr w')
        (first | exact ⟨p0, p1, p2, p3, q0, q1, q2, q3, (Below.refl _ _).drew⟩ | (go_split_ands; have hbx := held_step (by assumption) hbel1; exact ⟨(hbx.cell (p := ⟨_, 0, none⟩) hsp).trans p0, (hbx.cell (p := ⟨_, 1, none⟩) hsp).trans p1, (hbx.cell (p := ⟨_, 2, none⟩) hsp).trans p2, (hbx.cell (p := ⟨_, 3, none⟩) hsp).trans p3, (hbx.cell (p := ⟨_, 0, none⟩) hsz).trans q0, (hbx.cell (p := ⟨_, 1, none⟩) hsz).trans q1, (hbx.cell (p := ⟨_, 2, none⟩) hsz).trans q2, (hbx.cell (p := ⟨_, 3, none⟩) hsz).trans q3, hbx⟩))
        ((go_at_call 25; with_reducible refine (refHas_any _ k hlt _).mono ?_; rintro e w1 ⟨rfl, hbel1⟩))
      go_split_ands
      have hbw : Below wr.heap.size wr w1 := by assumption
      clear hbel1
      have hP' := hP.below hbw hsp
      have hQ' := hQ.below hbw hsz
      have hR' := hR.below hbw hR.lt
      have hS' := hS.below hbw hS.lt
      have hbel' := hbel.trans (hbw.mono hbel.size)
      have hc := hS'.cell k
      rw [bools_get _ _ _ hlt] at hc
      have hfz := hS'.free k
      have Hstore : Hid (∀ b, joined how p q k = b → Blk (w1.setCell ⟨w.heap.size + 1 + 1 + 1, k, none⟩ (.bool b)) (w.heap.size + 1 + 1 + 1) 43 (bools (cutAt (joined how p q) (k + 1)) 256)) :=
        fun b hb => by rw [← bools_step _ k b hb]; exact hS'.store k (.bool b)
      have HP := Lib.hid hP'
      have HQ := Lib.hid hQ'
      have HR := Lib.hid hR'
      have HB := Lib.hid hbel'
      have Hk := Lib.hid hk
      clear hP hQ hR hS hP' hQ' hR' hS' hbel hbel' hbw hk p0 p1 p2 p3 q0 q1 q2 q3
      rcases hh with rfl | rfl | rfl
      all_goals
        cases hp : p k <;> cases hq : q k
      all_goals
        go_wp2
        go_roundw
        case rel => exact ⟨k + 1, by have := Hk.out; omega, by go_num, HP.out.far (by simp <;> omega) _, HQ.out.far (by simp <;> omega) _, HR.out.far (by simp <;> omega) _, by first | exact Hstore.out true (by simp [joined, hp, hq]) | exact Hstore.out false (by simp [joined, hp, hq]), HB.out.setCell (by simp <;> omega) _⟩
        case measure => simp [intOf]; omega
    · have hk2 : k = 256 := by omega
      subst hk2
      rw [bools_congr (cutAt_end (joined how p q))] at hS
      have Hfrom : Hid (∀ W, Calls Tryd.prog 26 #[.agg (bools (joined how p q) 256)] W fun e w' => e = .returned (cval (joined how p q)) ∧ Below W.heap.size W w') := fun W => from_any (joined how p q) W
      have HR := Lib.hid hR
      have HS := Lib.hid hS
      have HB := Lib.hid hbel
      have Hres := fun W (h : Blk W (w.heap.size + 1 + 1) 24 #[.int .u64 0, .int .u64 0, .int .u64 0, .int .u64 0]) => blk_fill (p := joined how p q) h
      have hfs : (Tryd.prog.info? 43).map (·.size) = some (bools (joined how p q) 256).size := by rw [bools_size]; exact flags_size
      generalize bools (joined how p q) 256 = F1 at *
      have Hfs := Lib.hid hfs
      have HX := Lib.hid Hres
      clear hP hQ hR hS hbel hh hfs Hres
      go_wp2_with (refine wpList_load_row rfl 43 (.tmp 7) rfl (w.heap.size + 1 + 1 + 1) rfl _ _ _ _ HS.out Tryd.underlying43 rfl Hfs.out ?_)
      refine (Hfrom.out _).mono ?_
      rintro e w3 ⟨rfl, hbel3⟩
      have hR3 := HR.out.below hbel3 HR.out.lt
      have HR3 := Lib.hid hR3
      have e0 := hR3.cell 0
      have e1 := hR3.cell 1
      have e2 := hR3.cell 2
      have e3 := hR3.cell 3
      have hf := hR3.free
      simp only [List.getElem?_toArray, List.getElem?_cons_zero, List.getElem?_cons_succ] at e0 e1 e2 e3
      have HB3 := Lib.hid (HB.out.trans (hbel3.mono HB.out.size))
      clear hR3 hbel3
      go_wp2
      exact bodyPost_ret (v := cval (joined how p q)) (results_cell_row Tryd.results10 _ _ _ _ _ _ _ rfl (HX.out _ HR3.out) Tryd.underlying24 rfl (by kernel_rfl)) rfl
        ⟨rfl, (((HB3.out.setCell (by simp <;> omega) _).setCell (by simp <;> omega) _).setCell (by simp <;> omega) _).setCell (by simp <;> omega) _⟩
end Go.Proofs.YtbfgcanceneokaaDoor

/- Walk of riddlelaw02.ClassRules: it answers true. -/
import Derived.Test.YtbfgcanceneokaaDoorLs
import Derived.Test.YtbfgcanceneokaaDoorGq
import Derived.Deep.CutRange
import Derived.Deep.DeepCutAuto
namespace Go.Proofs.YtbfgcanceneokaaDoor
open Go.RowKit

set_option maxRecDepth 100000 in
set_option maxHeartbeats 8000000 in
theorem rules_walk (p q : Nat → Bool) (w : World) (hT : Tab64 w) :
    Calls Tryd.prog 7 #[cval p, cval q] w fun e w' => e = .returned (.bool true) ∧ Below w.heap.size w w' := by
  have HT := Lib.hid hT
  clear hT
  have HR0 := Lib.hid (fun (W : World) (h : Tab64 W) => (runs_any p W h).mono fun _ _ hg => gave_runs2 hg)
  have hRall := fun x => (inRuns_all p 256 x).1
  have hRlt := runsFold_lt (bytesOf p 256) (fun b hb => (bytesOf_mem.1 hb).1)
  have hRl : (runsFold (bytesOf p 256)).length ≤ 256 := Nat.le_trans (runsFold_len _) (bytesOf_le p 256)
  generalize (runsFold (bytesOf p 256)) = R at *
  have HRall := Lib.hid hRall
  have HRlt := Lib.hid hRlt
  clear hRall hRlt
  have Hlen : Hid (∀ W : World, Calls Tryd.prog 16 #[cval (fun b => p b || !p b)] W fun e w' => e = .returned (.int .i64 256) ∧ Below W.heap.size W w') := fun W => by
    have := len_any (fun b => p b || !p b) W
    rwa [pop_all 256 p] at this
  have Hfo := Lib.hid (fun (W : World) (h : Tab64 W) => fold_any p W h)
  have Hff := Lib.hid (fun (W : World) (h : Tab64 W) => fold_any (foldOf p) W h)
  have HBy := Lib.hid (fun (W : World) (h : Tab64 W) => (bytes_any p W h).mono fun _ _ hg => gave_bytes hg)
  have Hof := Lib.hid (fun A c W h => of_any (bytesOf p 256) (fun b hb => (bytesOf_mem.1 hb).1) A c W (Nat.le_trans (bytesOf_le p 256) (by decide)) h)
  have Hp := Lib.hid (Blk.new w 24 (ccells p))
  have Hq : Hid (Blk ((w.alloc (.cells (ccells p) 24)).alloc (.cells (ccells q) 24)) (w.heap.size + 1) 24 (ccells q)) := by
    have := Blk.new (w.alloc (.cells (ccells p) 24)) 24 (ccells q)
    rw [World.size_alloc] at this
    exact this
  have hb0 : Below w.heap.size w ((w.alloc (.cells (ccells p) 24)).alloc (.cells (ccells q) 24)) := ((Below.refl _ _).alloc (Nat.le_refl _) _).alloc (by simp) _
  go_enter Tryd.func7, Tryd.ntmps7
  go_wp2_with fail
  refine (speaks_any _ (tab_below HT.out hb0 (Nat.le_refl _))).mono ?_
  rintro e wr ⟨rfl, hbel⟩
  have hP := (Hp.out.alloc _).below hbel (by simp <;> omega)
  have hQ := Hq.out.below hbel (by simp <;> omega)
  have hbw := hb0.trans (hbel.mono hb0.size)
  clear hb0 hbel
  have hsp := hP.lt
  have hsz := hQ.lt
  go_upto_region 4 with fail
  have hZ0 := Blk.new wr 24 #[.int .u64 0, .int .u64 0, .int .u64 0, .int .u64 0]
  have hZ : Blk (wr.alloc (.cells #[.int .u64 0, .int .u64 0, .int .u64 0, .int .u64 0] 24)) wr.heap.size 24 (ccells (inRuns (R.take 0))) := by
    rw [← zero_runs]
    exact hZ0
  have hP1 := hP.alloc (.cells #[.int .u64 0, .int .u64 0, .int .u64 0, .int .u64 0] 24)
  have hQ1 := hQ.alloc (.cells #[.int .u64 0, .int .u64 0, .int .u64 0, .int .u64 0] 24)
  have hb1 : Below w.heap.size w (wr.alloc (.cells #[.int .u64 0, .int .u64 0, .int .u64 0, .int .u64 0] 24)) := hbw.alloc (by have := hbw.size; omega) _
  have hgp : w.heap.size < wr.heap.size := hsp
  have hgq : w.heap.size + 1 < wr.heap.size := hsz
  clear hP hQ hbw hsp hsz hZ0
  generalize wr.alloc (.cells #[.int .u64 0, .int .u64 0, .int .u64 0, .int .u64 0] 24) = wz at *
  generalize wr.heap.size = g at *
  have p0 := hP1.cell 0
  have p1 := hP1.cell 1
  have p2 := hP1.cell 2
  have p3 := hP1.cell 3
  simp only [List.getElem?_toArray, List.getElem?_cons_zero, List.getElem?_cons_succ] at p0 p1 p2 p3
  go_wp2_with fail
  clear p0 p1 p2 p3
  refine (HR0.out _ (tab_below HT.out hb1 (Nat.le_refl _))).mono ?_
  rintro e w2 ⟨B, d, rfl, hB, hBb, hbel2⟩
  have hgz := hZ.lt
  have hZ2 := hZ.below hbel2 hgz
  have hP2 := hP1.below hbel2 hP1.lt
  have hQ2 := hQ1.below hbel2 hQ1.lt
  have hb2 := hb1.trans (hbel2.mono hb1.size)
  have HBb : Hid (R.length ≠ 0 → ∀ b off, B = some ⟨b, off, none⟩ → b ≠ g) := fun hn b off e => by have := hBb hn b off e; omega
  clear hZ hP1 hQ1 hb1 hbel2 hBb
  go_wp2_with fail
  go_loopw [15] (fun i wr => ∃ k : Nat, k ≤ R.length ∧ i = .int .i64 k ∧ Blk wr g 24 (ccells (inRuns (R.take k))) ∧ Blk wr w.heap.size 24 (ccells p) ∧ Blk wr (w.heap.size + 1) 24 (ccells q) ∧ Rd wr w2.heap.size B (runCells R) ∧ w2.heap.size ≤ wr.heap.size ∧ Below w.heap.size w wr) (fun i _ => R.length - (intOf i).toNat)
  case atStart => exact ⟨0, Nat.zero_le _, rfl, hZ2, hP2, hQ2, hB, Nat.le_refl _, hb2⟩
  case round =>
    clear hZ2 hP2 hQ2 hB hb2
    obtain ⟨k, hk, rfl, hG, hP, hQ, hB, hsz2, hbel⟩ := hrel
    by_cases hlt : k < R.length
    · obtain ⟨g1, g2⟩ := runCells_get R k hlt
      have hne : runCells R ≠ [] := by intro h; rw [h] at g1; simp at g1
      obtain ⟨b, o, rfl, hb, hc⟩ := hB hne
      have hbg : b ≠ g := HBb.out (by omega) b o rfl
      have c0 := hc _ _ g1
      have c1 := hc _ _ g2
      rw [← Nat.add_assoc] at c1
      have hgw := hG.lt
      have hl1 := (HRlt.out _ (List.getElem_mem hlt)).1
      have hl2 := (HRlt.out _ (List.getElem_mem hlt)).2
      have Hstep := Lib.hid (inRuns_step R k hlt)
      have HG := Lib.hid hG
      have HP := Lib.hid hP
      have HQ := Lib.hid hQ
      have HB := Lib.hid hB
      have Hbel := Lib.hid hbel
      have Hne := Lib.hid hne
      have Hg1 := Lib.hid g1
      have Hhc := Lib.hid hc
      clear g1 g2 hc hne hB hbel hG hP hQ
      go_upto_region 7 with fail
      have hT7 := Blk.new wr 36 #[.int .u8 ((R[k].1 : Nat) : Int), .int .u8 ((R[k].2 : Nat) : Int)]
      have hne7 : wr.heap.size ≠ g := by omega
      have hG3 := HG.out.alloc (.cells #[.int .u8 ((R[k].1 : Nat) : Int), .int .u8 ((R[k].2 : Nat) : Int)] 36)
      have hg0 : wr.grownBy (wr.alloc (.cells #[.int .u8 ((R[k].1 : Nat) : Int), .int .u8 ((R[k].2 : Nat) : Int)] 36)) (some g) := grownBy_alloc2 (World.grownBy.refl wr _) _
      generalize wr.alloc (.cells #[.int .u8 ((R[k].1 : Nat) : Int), .int .u8 ((R[k].2 : Nat) : Int)] 36) = wa at *
      clear c0 c1
      refine wp_region_held_drew (S := fun w' => wa.grownBy w' (some g)) (by kernel_rfl) (grownBy_drew (World.grownBy.refl _ _)) (fun hS => ?_)
      refine wpAnyH_took (i := 1) (v := .pointer (some ⟨wr.heap.size, 0, none⟩)) (some 20) (by simp only [List.getElem?_toArray, List.getElem?_cons_succ, List.getElem?_cons_zero]; rfl) rfl (by kernel_rfl) (by kernel_rfl) (by kernel_rfl) (fun _ _ _ h => h) (by rfl) (fun w' _ => by rfl) hS ?_
      simp only [Act.put, List.setIfInBounds_toArray, List.set_cons_zero, List.set_cons_succ]
      refine wpAnyH_took (i := 2) (v := .int .u8 ((R[k].1 : Nat) : Int)) (some 21) (by simp only [List.getElem?_toArray, List.getElem?_cons_succ, List.getElem?_cons_zero]; rfl) rfl (by kernel_rfl) (by kernel_rfl) (by kernel_rfl) (fun _ _ _ h => h) (by rfl) (fun w' hw' => op_load8 rfl rfl ((hT7.grown hw' (by simpa using hne7)).cell 0)) hS ?_
      simp only [Act.put, List.setIfInBounds_toArray, List.set_cons_zero, List.set_cons_succ]
      refine wpAnyH_took (i := 3) (v := .pointer (some ⟨wr.heap.size, 1, none⟩)) (some 22) (by simp only [List.getElem?_toArray, List.getElem?_cons_succ, List.getElem?_cons_zero]; rfl) rfl (by kernel_rfl) (by kernel_rfl) (by kernel_rfl) (fun _ _ _ h => h) (by rfl) (fun w' _ => by rfl) hS ?_
      simp only [Act.put, List.setIfInBounds_toArray, List.set_cons_zero, List.set_cons_succ]
      refine wpAnyH_took (i := 4) (v := .int .u8 ((R[k].2 : Nat) : Int)) (some 23) (by simp only [List.getElem?_toArray, List.getElem?_cons_succ, List.getElem?_cons_zero]; rfl) rfl (by kernel_rfl) (by kernel_rfl) (by kernel_rfl) (fun _ _ _ h => h) (by rfl) (fun w' hw' => op_load8 rfl rfl ((hT7.grown hw' (by simpa using hne7)).cell 1)) hS ?_
      simp only [Act.put, List.setIfInBounds_toArray, List.set_cons_zero, List.set_cons_succ]
      refine wpAnyH_two (i := 0) (j := 5) (by kernel_rfl) ?_ ?_
      · refine wpOp_val (v := cval (inRuns (R.take k))) (some 19) (by simp only [List.getElem?_toArray, List.getElem?_cons_zero]; rfl) rfl (by rfl) (op_load rfl rfl hG3.drew) ⟨hS, ?_⟩
        simp only [Act.put, List.setIfInBounds_toArray, List.set_cons_zero, List.set_cons_succ]
        refine wpAnyH_one (i := 5) (by kernel_rfl) (wpOp_call (some 24) (by simp only [List.getElem?_toArray, List.getElem?_cons_succ, List.getElem?_cons_zero]; rfl) rfl (by rfl) (call_range (u := .int .u8 ((R[k].1 : Nat) : Int)) (v := .int .u8 ((R[k].2 : Nat) : Int)) rfl rfl rfl rfl) ((range_any R[k].1 R[k].2 hl1 hl2 _).mono ?_))
        rintro e w3 ⟨rfl, hb3⟩
        have hS3 := grown_below hS hb3
        have hG4 := hG3.drew.below hb3 hG3.lt
        refine ⟨_, rfl, hS3, ?_⟩
        simp only [Act.put, List.setIfInBounds_toArray, List.set_cons_zero, List.set_cons_succ]
        refine wpAnyH_one (i := 6) (by kernel_rfl) (wpOp_call (some 25) (by simp only [List.getElem?_toArray, List.getElem?_cons_succ, List.getElem?_cons_zero]; rfl) rfl (by rfl) (call_or (u := cval (inRuns (R.take k))) (v := cval (fromTo R[k].1 R[k].2)) rfl rfl rfl rfl) ((or_any _ _ _).mono ?_))
        rintro e w4 ⟨rfl, hb4⟩
        have hS4 := grown_below hS3 hb4
        have hG5 := hG4.below hb4 hG4.lt
        refine ⟨_, rfl, hS4, ?_⟩
        simp only [Act.put, List.setIfInBounds_toArray, List.set_cons_zero, List.set_cons_succ]
        refine wpAnyH_one (i := 7) (by kernel_rfl) (wpOp_store (p := fun b => inRuns (R.take k) b || fromTo R[k].1 R[k].2 b) (by simp only [List.getElem?_toArray, List.getElem?_cons_succ, List.getElem?_cons_zero]; rfl) rfl (by rfl) rfl rfl rfl hG5 ?_)
        intro w5 hG6 hg6
        have hS5 := grown_trans hS4 hg6
        refine ⟨hS5, wpAnyH_done (by kernel_rfl) ?_ _⟩
        have HG7 := Lib.hid hG6
        rw [Hstep.out] at HG7
        have hgg := grown_trans hg0 hS5
        have HP7 := Lib.hid (HP.out.grown hgg (by simp; omega))
        have HQ7 := Lib.hid (HQ.out.grown hgg (by simp; omega))
        have HB7 : Hid (Rd w5 w2.heap.size (some ⟨b, o, none⟩) (runCells R)) := fun _ => ⟨b, o, rfl, hb, fun i v hv => (hgg.cell (Hhc.out i v hv) (by simp; omega))⟩
        have Hbel7 := Lib.hid (below_byGrown Hbel.out hgg Hbel.out.size (by omega))
        have hsz7 : w2.heap.size ≤ w5.heap.size := by have := hgg.size; omega
        clear hG6 hg6 hS5 hgg hG5 hS4 hG4 hS3
        go_wp2
        go_roundw
        case rel => exact ⟨k + 1, by omega, by go_num, HG7.out, HP7.out, HQ7.out, HB7.out, hsz7, Hbel7.out⟩
        case measure => simp [intOf]; omega
      · refine wpOp_call (some 24) (by simp only [List.getElem?_toArray, List.getElem?_cons_succ, List.getElem?_cons_zero]; rfl) rfl (by rfl) (call_range (u := .int .u8 ((R[k].1 : Nat) : Int)) (v := .int .u8 ((R[k].2 : Nat) : Int)) rfl rfl rfl rfl) ((range_any R[k].1 R[k].2 hl1 hl2 _).mono ?_)
        rintro e w3 ⟨rfl, hb3⟩
        have hS3 := grown_below hS hb3
        have hG4 := hG3.drew.below hb3 hG3.lt
        refine ⟨_, rfl, hS3, ?_⟩
        simp only [Act.put, List.setIfInBounds_toArray, List.set_cons_zero, List.set_cons_succ]
        refine wpAnyH_one (i := 0) (by kernel_rfl) (wpOp_val (v := cval (inRuns (R.take k))) (some 19) (by simp only [List.getElem?_toArray, List.getElem?_cons_zero]; rfl) rfl (by rfl) (op_load rfl rfl hG4) ⟨hS3, ?_⟩)
        simp only [Act.put, List.setIfInBounds_toArray, List.set_cons_zero, List.set_cons_succ]
        refine wpAnyH_one (i := 6) (by kernel_rfl) (wpOp_call (some 25) (by simp only [List.getElem?_toArray, List.getElem?_cons_succ, List.getElem?_cons_zero]; rfl) rfl (by rfl) (call_or (u := cval (inRuns (R.take k))) (v := cval (fromTo R[k].1 R[k].2)) rfl rfl rfl rfl) ((or_any _ _ _).mono ?_))
        rintro e w4 ⟨rfl, hb4⟩
        have hS4 := grown_below hS3 hb4
        have hG5 := hG4.below hb4 hG4.lt
        refine ⟨_, rfl, hS4, ?_⟩
        simp only [Act.put, List.setIfInBounds_toArray, List.set_cons_zero, List.set_cons_succ]
        refine wpAnyH_one (i := 7) (by kernel_rfl) (wpOp_store (p := fun b => inRuns (R.take k) b || fromTo R[k].1 R[k].2 b) (by simp only [List.getElem?_toArray, List.getElem?_cons_succ, List.getElem?_cons_zero]; rfl) rfl (by rfl) rfl rfl rfl hG5 ?_)
        intro w5 hG6 hg6
        have hS5 := grown_trans hS4 hg6
        refine ⟨hS5, wpAnyH_done (by kernel_rfl) ?_ _⟩
        have HG7 := Lib.hid hG6
        rw [Hstep.out] at HG7
        have hgg := grown_trans hg0 hS5
        have HP7 := Lib.hid (HP.out.grown hgg (by simp; omega))
        have HQ7 := Lib.hid (HQ.out.grown hgg (by simp; omega))
        have HB7 : Hid (Rd w5 w2.heap.size (some ⟨b, o, none⟩) (runCells R)) := fun _ => ⟨b, o, rfl, hb, fun i v hv => (hgg.cell (Hhc.out i v hv) (by simp; omega))⟩
        have Hbel7 := Lib.hid (below_byGrown Hbel.out hgg Hbel.out.size (by omega))
        have hsz7 : w2.heap.size ≤ w5.heap.size := by have := hgg.size; omega
        clear hG6 hg6 hS5 hgg hG5 hS4 hG4 hS3
        go_wp2
        go_roundw
        case rel => exact ⟨k + 1, by omega, by go_num, HG7.out, HP7.out, HQ7.out, HB7.out, hsz7, Hbel7.out⟩
        case measure => simp [intOf]; omega
    · obtain rfl : k = R.length := by omega
      rw [List.take_length] at hG
      have p0 := hP.cell 0
      have p1 := hP.cell 1
      have p2 := hP.cell 2
      have p3 := hP.cell 3
      simp only [List.getElem?_toArray, List.getElem?_cons_zero, List.getElem?_cons_succ] at p0 p1 p2 p3
      have HG := Lib.hid hG
      have HP := Lib.hid hP
      have HQ := Lib.hid hQ
      have Hbel := Lib.hid hbel
      clear hG hP hQ hbel hB HBb
      go_wp2_with fail
      clear p0 p1 p2 p3
      refine (Hfo.out _ (tab_below HT.out Hbel.out (Nat.le_refl _))).mono ?_
      rintro e w3 ⟨rfl, hb3⟩
      have hG3 := HG.out.below hb3 HG.out.lt
      have hP3 := HP.out.below hb3 HP.out.lt
      have hQ3 := HQ.out.below hb3 HQ.out.lt
      have hbel3 := Hbel.out.trans (hb3.mono Hbel.out.size)
      clear hb3 HG HP HQ Hbel
      go_upto_region 10 with fail
      have hF := Blk.new w3 24 (ccells (foldOf p))
      have hG := hG3.alloc (.cells (ccells (foldOf p)) 24)
      have hP := hP3.alloc (.cells (ccells (foldOf p)) 24)
      have hQ := hQ3.alloc (.cells (ccells (foldOf p)) 24)
      have hbw : Below w.heap.size w (w3.alloc (.cells (ccells (foldOf p)) 24)) := hbel3.alloc (by have := hbel3.size; omega) _
      clear hG3 hP3 hQ3 hbel3
      generalize w3.alloc (.cells (ccells (foldOf p)) 24) = wr at *
      have hsp := hP.lt
      have hsz := hQ.lt
      have hsg := hG.lt
      have hfs := hF.lt
      have HTr := Lib.hid (tab_below HT.out hbw (Nat.le_refl _))
      refine wp_region_held_drew (S := fun w' => Below wr.heap.size wr w') (by kernel_rfl) ((Below.refl _ _).drew) (fun hS => ?_)
      refine wpAnyH_took (i := 0) (v := cval (inRuns R)) (some 29) (by simp only [List.getElem?_toArray, List.getElem?_cons_zero]; rfl) rfl (by kernel_rfl) (by kernel_rfl) (by kernel_rfl) (fun _ _ _ h => h) (by rfl) (fun w' hw' => op_load rfl rfl (hG.below hw' hsg)) hS ?_
      simp only [Act.put, List.setIfInBounds_toArray, List.set_cons_zero, List.set_cons_succ]
      refine wpAnyH_took (i := 1) (v := cval p) (some 30) (by simp only [List.getElem?_toArray, List.getElem?_cons_succ, List.getElem?_cons_zero]; rfl) rfl (by kernel_rfl) (by kernel_rfl) (by kernel_rfl) (fun _ _ _ h => h) (by rfl) (fun w' hw' => op_load rfl rfl (hP.below hw' hsp)) hS ?_
      simp only [Act.put, List.setIfInBounds_toArray, List.set_cons_zero, List.set_cons_succ]
      refine wpAnyH_took (i := 2) (v := .bool true) (some 31) (by simp only [List.getElem?_toArray, List.getElem?_cons_succ, List.getElem?_cons_zero]; rfl) rfl (by kernel_rfl) (by kernel_rfl) (by kernel_rfl) (fun _ _ _ h => h) (by rfl) (fun w' _ => op_eqClass (p := inRuns R) (q := p) rfl rfl rfl (fun b hb => by rw [HRall.out]; simp [hb])) hS ?_
      simp only [Act.put, List.setIfInBounds_toArray, List.set_cons_zero, List.set_cons_succ]
      refine wpAnyH_took (i := 3) (v := .bool true) (some 32) (by simp only [List.getElem?_toArray, List.getElem?_cons_succ, List.getElem?_cons_zero]; rfl) rfl (by kernel_rfl) (by kernel_rfl) (by kernel_rfl) (fun _ _ _ h => h) (by rfl) (fun w' _ => by rfl) hS ?_
      simp only [Act.put, List.setIfInBounds_toArray, List.set_cons_zero, List.set_cons_succ]
      refine wpAnyH_took (i := 4) (v := cval p) (some 33) (by simp only [List.getElem?_toArray, List.getElem?_cons_succ, List.getElem?_cons_zero]; rfl) rfl (by kernel_rfl) (by kernel_rfl) (by kernel_rfl) (fun _ _ _ h => h) (by rfl) (fun w' hw' => op_load rfl rfl (hP.below hw' hsp)) hS ?_
      simp only [Act.put, List.setIfInBounds_toArray, List.set_cons_zero, List.set_cons_succ]
      refine wpAnyH_took (i := 7) (v := cval p) (some 36) (by simp only [List.getElem?_toArray, List.getElem?_cons_succ, List.getElem?_cons_zero]; rfl) rfl (by kernel_rfl) (by kernel_rfl) (by kernel_rfl) (fun _ _ _ h => h) (by rfl) (fun w' hw' => op_load rfl rfl (hP.below hw' hsp)) hS ?_
      simp only [Act.put, List.setIfInBounds_toArray, List.set_cons_zero, List.set_cons_succ]
      refine wpAnyH_one (i := 5) (by kernel_rfl) (wpOp_call (some 34) (by simp only [List.getElem?_toArray, List.getElem?_cons_succ, List.getElem?_cons_zero]; rfl) rfl (by rfl) (call_bytes (u := cval p) rfl rfl rfl) ((HBy.out _ (tab_below HTr.out hS (Nat.le_refl _))).mono ?_))
      rintro e w4 ⟨A, c, rfl, hA, hb4⟩
      have hS1 := hS.trans (hb4.mono hS.size)
      refine ⟨_, rfl, hS1, ?_⟩
      simp only [Act.put, List.setIfInBounds_toArray, List.set_cons_zero, List.set_cons_succ]
      refine wpAnyH_one (i := 6) (by kernel_rfl) (wpOp_call (some 35) (by simp only [List.getElem?_toArray, List.getElem?_cons_succ, List.getElem?_cons_zero]; rfl) rfl (by rfl) (call_of (u := .slice A (bytesOf p 256).length c) rfl rfl rfl) ((Hof.out A c _ hA).mono ?_))
      rintro e w5 ⟨rfl, hb5⟩
      have hS2 := hS1.trans (hb5.mono hS1.size)
      refine ⟨_, rfl, hS2, ?_⟩
      simp only [Act.put, List.setIfInBounds_toArray, List.set_cons_zero, List.set_cons_succ]
      refine wpFix.held (V := (fun i => (([fun _ => True, fun _ => True, fun _ => True, fun _ => True, fun _ => True, fun _ => True, fun _ => True, fun _ => True, fun u => u = .bool true, fun u => u = .bool true, fun u => u = .bool true, fun u => u = cval p, fun u => u = cval p, fun u => u = cval (fun b => !p b), fun u => u = cval (fun b => p b || !p b), fun u => u = .int .i64 256, fun u => u = .bool true, fun u => u = .bool true, fun u => u = .bool true, fun u => u = cval p, fun u => u = cval p, fun u => u = cval (fun b => !p b), fun u => u = cval (fun b => p b && !p b), fun u => u = .agg #[.int .u64 0, .int .u64 0, .int .u64 0, .int .u64 0], fun u => u = .bool true, fun u => u = .bool true, fun u => u = .bool true, fun u => u = cval (foldOf p), fun u => u = cval (foldOf (foldOf p)), fun u => u = cval (foldOf p), fun u => u = .bool true, fun u => u = .bool true, fun u => u = .bool true, fun u => u = cval (foldOf p), fun u => u = cval p, fun u => u = cval (fun b => foldOf p b || p b), fun u => u = cval (foldOf p), fun u => u = .bool true, fun u => u = .bool true, fun u => u = .bool true, fun u => u = cval p, fun u => u = cval q, fun u => u = cval (fun b => p b || q b), fun u => u = cval (fun b => !(p b || q b)), fun u => u = cval p, fun u => u = cval (fun b => !p b), fun u => u = cval q, fun u => u = cval (fun b => !q b), fun u => u = cval (fun b => !p b && !q b), fun u => u = .bool true, fun u => u = .bool true, fun u => u = .bool true] : List (Value → Prop))[i]?).getD (fun _ => True))) ?_ _ hS2
      refine wpFix_take (i := 8) (v := .bool true) (some 37) (by simp only [List.getElem?_toArray, List.getElem?_cons_succ, List.getElem?_cons_zero]; rfl) rfl (by kernel_rfl) (by kernel_rfl) (by kernel_rfl) rfl (.pure (by rfl) (fun w' _ => op_eqClass (p := setOf (bytesOf p 256)) (q := p) rfl rfl rfl (fun b hb => setOf_bytes p b hb))) ?_
      simp only [Act.put, List.setIfInBounds_toArray, List.set_cons_zero, List.set_cons_succ]
      refine wpFix_take (i := 9) (v := .bool true) (some 38) (by simp only [List.getElem?_toArray, List.getElem?_cons_succ, List.getElem?_cons_zero]; rfl) rfl (by kernel_rfl) (by kernel_rfl) (by kernel_rfl) rfl (.pure (by rfl) (fun w' _ => by rfl)) ?_
      simp only [Act.put, List.setIfInBounds_toArray, List.set_cons_zero, List.set_cons_succ]
      refine wpFix_take (i := 10) (v := .bool true) (some 39) (by simp only [List.getElem?_toArray, List.getElem?_cons_succ, List.getElem?_cons_zero]; rfl) rfl (by kernel_rfl) (by kernel_rfl) (by kernel_rfl) rfl (.pure (by rfl) (fun w' _ => by rfl)) ?_
      simp only [Act.put, List.setIfInBounds_toArray, List.set_cons_zero, List.set_cons_succ]
      refine wpFix_take (i := 11) (v := cval p) (some 40) (by simp only [List.getElem?_toArray, List.getElem?_cons_succ, List.getElem?_cons_zero]; rfl) rfl (by kernel_rfl) (by kernel_rfl) (by kernel_rfl) rfl (.pure (by rfl) (fun w' hw' => op_load rfl rfl (hP.below hw' hsp))) ?_
      simp only [Act.put, List.setIfInBounds_toArray, List.set_cons_zero, List.set_cons_succ]
      refine wpFix_take (i := 12) (v := cval p) (some 41) (by simp only [List.getElem?_toArray, List.getElem?_cons_succ, List.getElem?_cons_zero]; rfl) rfl (by kernel_rfl) (by kernel_rfl) (by kernel_rfl) rfl (.pure (by rfl) (fun w' hw' => op_load rfl rfl (hP.below hw' hsp))) ?_
      simp only [Act.put, List.setIfInBounds_toArray, List.set_cons_zero, List.set_cons_succ]
      refine wpFix_take (i := 13) (v := cval (fun b => !p b)) (some 42) (by simp only [List.getElem?_toArray, List.getElem?_cons_succ, List.getElem?_cons_zero]; rfl) rfl (by kernel_rfl) (by kernel_rfl) (by kernel_rfl) rfl (.call 12 #[cval p] (by rfl) (fun w' _ => call_not rfl rfl rfl) (fun w' hw' => (not_any p w').mono fun e w2 ⟨h1, h2⟩ => ⟨h1, hw'.trans (h2.mono hw'.size)⟩)) ?_
      simp only [Act.put, List.setIfInBounds_toArray, List.set_cons_zero, List.set_cons_succ]
      refine wpFix_take (i := 14) (v := cval (fun b => p b || !p b)) (some 43) (by simp only [List.getElem?_toArray, List.getElem?_cons_succ, List.getElem?_cons_zero]; rfl) rfl (by kernel_rfl) (by kernel_rfl) (by kernel_rfl) rfl (.call 11 #[cval p, cval (fun b => !p b)] (by rfl) (fun w' _ => call_or rfl rfl rfl rfl) (fun w' hw' => (or_any p (fun b => !p b) w').mono fun e w2 ⟨h1, h2⟩ => ⟨h1, hw'.trans (h2.mono hw'.size)⟩)) ?_
      simp only [Act.put, List.setIfInBounds_toArray, List.set_cons_zero, List.set_cons_succ]
      refine wpFix_take (i := 15) (v := .int .i64 256) (some 44) (by simp only [List.getElem?_toArray, List.getElem?_cons_succ, List.getElem?_cons_zero]; rfl) rfl (by kernel_rfl) (by kernel_rfl) (by kernel_rfl) rfl (.call 16 #[cval (fun b => p b || !p b)] (by rfl) (fun w' _ => call_len_ rfl rfl rfl) (fun w' hw' => (Hlen.out w').mono fun e w2 ⟨h1, h2⟩ => ⟨h1, hw'.trans (h2.mono hw'.size)⟩)) ?_
      simp only [Act.put, List.setIfInBounds_toArray, List.set_cons_zero, List.set_cons_succ]
      refine wpFix_take (i := 16) (v := .bool true) (some 45) (by simp only [List.getElem?_toArray, List.getElem?_cons_succ, List.getElem?_cons_zero]; rfl) rfl (by kernel_rfl) (by kernel_rfl) (by kernel_rfl) rfl (.pure (by rfl) (fun w' _ => op_eqInt rfl rfl rfl rfl)) ?_
      simp only [Act.put, List.setIfInBounds_toArray, List.set_cons_zero, List.set_cons_succ]
      refine wpFix_take (i := 17) (v := .bool true) (some 46) (by simp only [List.getElem?_toArray, List.getElem?_cons_succ, List.getElem?_cons_zero]; rfl) rfl (by kernel_rfl) (by kernel_rfl) (by kernel_rfl) rfl (.pure (by rfl) (fun w' _ => by rfl)) ?_
      simp only [Act.put, List.setIfInBounds_toArray, List.set_cons_zero, List.set_cons_succ]
      refine wpFix_take (i := 18) (v := .bool true) (some 47) (by simp only [List.getElem?_toArray, List.getElem?_cons_succ, List.getElem?_cons_zero]; rfl) rfl (by kernel_rfl) (by kernel_rfl) (by kernel_rfl) rfl (.pure (by rfl) (fun w' _ => by rfl)) ?_
      simp only [Act.put, List.setIfInBounds_toArray, List.set_cons_zero, List.set_cons_succ]
      refine wpFix_take (i := 19) (v := cval p) (some 48) (by simp only [List.getElem?_toArray, List.getElem?_cons_succ, List.getElem?_cons_zero]; rfl) rfl (by kernel_rfl) (by kernel_rfl) (by kernel_rfl) rfl (.pure (by rfl) (fun w' hw' => op_load rfl rfl (hP.below hw' hsp))) ?_
      simp only [Act.put, List.setIfInBounds_toArray, List.set_cons_zero, List.set_cons_succ]
      refine wpFix_take (i := 20) (v := cval p) (some 49) (by simp only [List.getElem?_toArray, List.getElem?_cons_succ, List.getElem?_cons_zero]; rfl) rfl (by kernel_rfl) (by kernel_rfl) (by kernel_rfl) rfl (.pure (by rfl) (fun w' hw' => op_load rfl rfl (hP.below hw' hsp))) ?_
      simp only [Act.put, List.setIfInBounds_toArray, List.set_cons_zero, List.set_cons_succ]
      refine wpFix_take (i := 21) (v := cval (fun b => !p b)) (some 50) (by simp only [List.getElem?_toArray, List.getElem?_cons_succ, List.getElem?_cons_zero]; rfl) rfl (by kernel_rfl) (by kernel_rfl) (by kernel_rfl) rfl (.call 12 #[cval p] (by rfl) (fun w' _ => call_not rfl rfl rfl) (fun w' hw' => (not_any p w').mono fun e w2 ⟨h1, h2⟩ => ⟨h1, hw'.trans (h2.mono hw'.size)⟩)) ?_
      simp only [Act.put, List.setIfInBounds_toArray, List.set_cons_zero, List.set_cons_succ]
      refine wpFix_take (i := 22) (v := cval (fun b => p b && !p b)) (some 51) (by simp only [List.getElem?_toArray, List.getElem?_cons_succ, List.getElem?_cons_zero]; rfl) rfl (by kernel_rfl) (by kernel_rfl) (by kernel_rfl) rfl (.call 9 #[cval p, cval (fun b => !p b)] (by rfl) (fun w' _ => call_and rfl rfl rfl rfl) (fun w' hw' => (and_any p (fun b => !p b) w').mono fun e w2 ⟨h1, h2⟩ => ⟨h1, hw'.trans (h2.mono hw'.size)⟩)) ?_
      simp only [Act.put, List.setIfInBounds_toArray, List.set_cons_zero, List.set_cons_succ]
      refine wpFix_take (i := 23) (v := .agg #[.int .u64 0, .int .u64 0, .int .u64 0, .int .u64 0]) (some 52) (by simp only [List.getElem?_toArray, List.getElem?_cons_succ, List.getElem?_cons_zero]; rfl) rfl (by kernel_rfl) (by kernel_rfl) (by kernel_rfl) rfl (.pure (by rfl) (fun w' _ => op_zero rfl)) ?_
      simp only [Act.put, List.setIfInBounds_toArray, List.set_cons_zero, List.set_cons_succ]
      refine wpFix_take (i := 24) (v := .bool true) (some 53) (by simp only [List.getElem?_toArray, List.getElem?_cons_succ, List.getElem?_cons_zero]; rfl) rfl (by kernel_rfl) (by kernel_rfl) (by kernel_rfl) rfl (.pure (by rfl) (fun w' _ => op_eqZero (p := fun b => p b && !p b) rfl rfl rfl (fun b _ => by cases p b <;> rfl))) ?_
      simp only [Act.put, List.setIfInBounds_toArray, List.set_cons_zero, List.set_cons_succ]
      refine wpFix_take (i := 25) (v := .bool true) (some 54) (by simp only [List.getElem?_toArray, List.getElem?_cons_succ, List.getElem?_cons_zero]; rfl) rfl (by kernel_rfl) (by kernel_rfl) (by kernel_rfl) rfl (.pure (by rfl) (fun w' _ => by rfl)) ?_
      simp only [Act.put, List.setIfInBounds_toArray, List.set_cons_zero, List.set_cons_succ]
      refine wpFix_take (i := 26) (v := .bool true) (some 55) (by simp only [List.getElem?_toArray, List.getElem?_cons_succ, List.getElem?_cons_zero]; rfl) rfl (by kernel_rfl) (by kernel_rfl) (by kernel_rfl) rfl (.pure (by rfl) (fun w' _ => by rfl)) ?_
      simp only [Act.put, List.setIfInBounds_toArray, List.set_cons_zero, List.set_cons_succ]
      refine wpFix_take (i := 27) (v := cval (foldOf p)) (some 56) (by simp only [List.getElem?_toArray, List.getElem?_cons_succ, List.getElem?_cons_zero]; rfl) rfl (by kernel_rfl) (by kernel_rfl) (by kernel_rfl) rfl (.pure (by rfl) (fun w' hw' => op_load rfl rfl (hF.below hw' hfs))) ?_
      simp only [Act.put, List.setIfInBounds_toArray, List.set_cons_zero, List.set_cons_succ]
      refine wpFix_take (i := 28) (v := cval (foldOf (foldOf p))) (some 57) (by simp only [List.getElem?_toArray, List.getElem?_cons_succ, List.getElem?_cons_zero]; rfl) rfl (by kernel_rfl) (by kernel_rfl) (by kernel_rfl) rfl (.call 19 #[cval (foldOf p)] (by rfl) (fun w' _ => call_fold rfl rfl rfl) (fun w' hw' => (Hff.out w' (tab_below HTr.out hw' (Nat.le_refl _))).mono fun e w2 ⟨h1, h2⟩ => ⟨h1, hw'.trans (h2.mono hw'.size)⟩)) ?_
      simp only [Act.put, List.setIfInBounds_toArray, List.set_cons_zero, List.set_cons_succ]
      refine wpFix_take (i := 29) (v := cval (foldOf p)) (some 58) (by simp only [List.getElem?_toArray, List.getElem?_cons_succ, List.getElem?_cons_zero]; rfl) rfl (by kernel_rfl) (by kernel_rfl) (by kernel_rfl) rfl (.pure (by rfl) (fun w' hw' => op_load rfl rfl (hF.below hw' hfs))) ?_
      simp only [Act.put, List.setIfInBounds_toArray, List.set_cons_zero, List.set_cons_succ]
      refine wpFix_take (i := 30) (v := .bool true) (some 59) (by simp only [List.getElem?_toArray, List.getElem?_cons_succ, List.getElem?_cons_zero]; rfl) rfl (by kernel_rfl) (by kernel_rfl) (by kernel_rfl) rfl (.pure (by rfl) (fun w' _ => op_eqClass (p := foldOf (foldOf p)) (q := foldOf p) rfl rfl rfl (fun b _ => foldOf_two p b))) ?_
      simp only [Act.put, List.setIfInBounds_toArray, List.set_cons_zero, List.set_cons_succ]
      refine wpFix_take (i := 31) (v := .bool true) (some 60) (by simp only [List.getElem?_toArray, List.getElem?_cons_succ, List.getElem?_cons_zero]; rfl) rfl (by kernel_rfl) (by kernel_rfl) (by kernel_rfl) rfl (.pure (by rfl) (fun w' _ => by rfl)) ?_
      simp only [Act.put, List.setIfInBounds_toArray, List.set_cons_zero, List.set_cons_succ]
      refine wpFix_take (i := 32) (v := .bool true) (some 61) (by simp only [List.getElem?_toArray, List.getElem?_cons_succ, List.getElem?_cons_zero]; rfl) rfl (by kernel_rfl) (by kernel_rfl) (by kernel_rfl) rfl (.pure (by rfl) (fun w' _ => by rfl)) ?_
      simp only [Act.put, List.setIfInBounds_toArray, List.set_cons_zero, List.set_cons_succ]
      refine wpFix_take (i := 33) (v := cval (foldOf p)) (some 62) (by simp only [List.getElem?_toArray, List.getElem?_cons_succ, List.getElem?_cons_zero]; rfl) rfl (by kernel_rfl) (by kernel_rfl) (by kernel_rfl) rfl (.pure (by rfl) (fun w' hw' => op_load rfl rfl (hF.below hw' hfs))) ?_
      simp only [Act.put, List.setIfInBounds_toArray, List.set_cons_zero, List.set_cons_succ]
      refine wpFix_take (i := 34) (v := cval p) (some 63) (by simp only [List.getElem?_toArray, List.getElem?_cons_succ, List.getElem?_cons_zero]; rfl) rfl (by kernel_rfl) (by kernel_rfl) (by kernel_rfl) rfl (.pure (by rfl) (fun w' hw' => op_load rfl rfl (hP.below hw' hsp))) ?_
      simp only [Act.put, List.setIfInBounds_toArray, List.set_cons_zero, List.set_cons_succ]
      refine wpFix_take (i := 35) (v := cval (fun b => foldOf p b || p b)) (some 64) (by simp only [List.getElem?_toArray, List.getElem?_cons_succ, List.getElem?_cons_zero]; rfl) rfl (by kernel_rfl) (by kernel_rfl) (by kernel_rfl) rfl (.call 11 #[cval (foldOf p), cval p] (by rfl) (fun w' _ => call_or rfl rfl rfl rfl) (fun w' hw' => (or_any (foldOf p) p w').mono fun e w2 ⟨h1, h2⟩ => ⟨h1, hw'.trans (h2.mono hw'.size)⟩)) ?_
      simp only [Act.put, List.setIfInBounds_toArray, List.set_cons_zero, List.set_cons_succ]
      refine wpFix_take (i := 36) (v := cval (foldOf p)) (some 65) (by simp only [List.getElem?_toArray, List.getElem?_cons_succ, List.getElem?_cons_zero]; rfl) rfl (by kernel_rfl) (by kernel_rfl) (by kernel_rfl) rfl (.pure (by rfl) (fun w' hw' => op_load rfl rfl (hF.below hw' hfs))) ?_
      simp only [Act.put, List.setIfInBounds_toArray, List.set_cons_zero, List.set_cons_succ]
      refine wpFix_take (i := 37) (v := .bool true) (some 66) (by simp only [List.getElem?_toArray, List.getElem?_cons_succ, List.getElem?_cons_zero]; rfl) rfl (by kernel_rfl) (by kernel_rfl) (by kernel_rfl) rfl (.pure (by rfl) (fun w' _ => op_eqClass (p := fun b => foldOf p b || p b) (q := foldOf p) rfl rfl rfl (fun b _ => foldOf_self p b))) ?_
      simp only [Act.put, List.setIfInBounds_toArray, List.set_cons_zero, List.set_cons_succ]
      refine wpFix_take (i := 38) (v := .bool true) (some 67) (by simp only [List.getElem?_toArray, List.getElem?_cons_succ, List.getElem?_cons_zero]; rfl) rfl (by kernel_rfl) (by kernel_rfl) (by kernel_rfl) rfl (.pure (by rfl) (fun w' _ => by rfl)) ?_
      simp only [Act.put, List.setIfInBounds_toArray, List.set_cons_zero, List.set_cons_succ]
      refine wpFix_take (i := 39) (v := .bool true) (some 68) (by simp only [List.getElem?_toArray, List.getElem?_cons_succ, List.getElem?_cons_zero]; rfl) rfl (by kernel_rfl) (by kernel_rfl) (by kernel_rfl) rfl (.pure (by rfl) (fun w' _ => by rfl)) ?_
      simp only [Act.put, List.setIfInBounds_toArray, List.set_cons_zero, List.set_cons_succ]
      refine wpFix_take (i := 40) (v := cval p) (some 69) (by simp only [List.getElem?_toArray, List.getElem?_cons_succ, List.getElem?_cons_zero]; rfl) rfl (by kernel_rfl) (by kernel_rfl) (by kernel_rfl) rfl (.pure (by rfl) (fun w' hw' => op_load rfl rfl (hP.below hw' hsp))) ?_
      simp only [Act.put, List.setIfInBounds_toArray, List.set_cons_zero, List.set_cons_succ]
      refine wpFix_take (i := 41) (v := cval q) (some 70) (by simp only [List.getElem?_toArray, List.getElem?_cons_succ, List.getElem?_cons_zero]; rfl) rfl (by kernel_rfl) (by kernel_rfl) (by kernel_rfl) rfl (.pure (by rfl) (fun w' hw' => op_load rfl rfl (hQ.below hw' hsz))) ?_
      simp only [Act.put, List.setIfInBounds_toArray, List.set_cons_zero, List.set_cons_succ]
      refine wpFix_take (i := 42) (v := cval (fun b => p b || q b)) (some 71) (by simp only [List.getElem?_toArray, List.getElem?_cons_succ, List.getElem?_cons_zero]; rfl) rfl (by kernel_rfl) (by kernel_rfl) (by kernel_rfl) rfl (.call 11 #[cval p, cval q] (by rfl) (fun w' _ => call_or rfl rfl rfl rfl) (fun w' hw' => (or_any p q w').mono fun e w2 ⟨h1, h2⟩ => ⟨h1, hw'.trans (h2.mono hw'.size)⟩)) ?_
      simp only [Act.put, List.setIfInBounds_toArray, List.set_cons_zero, List.set_cons_succ]
      refine wpFix_take (i := 43) (v := cval (fun b => !(p b || q b))) (some 72) (by simp only [List.getElem?_toArray, List.getElem?_cons_succ, List.getElem?_cons_zero]; rfl) rfl (by kernel_rfl) (by kernel_rfl) (by kernel_rfl) rfl (.call 12 #[cval (fun b => p b || q b)] (by rfl) (fun w' _ => call_not rfl rfl rfl) (fun w' hw' => (not_any (fun b => p b || q b) w').mono fun e w2 ⟨h1, h2⟩ => ⟨h1, hw'.trans (h2.mono hw'.size)⟩)) ?_
      simp only [Act.put, List.setIfInBounds_toArray, List.set_cons_zero, List.set_cons_succ]
      refine wpFix_take (i := 44) (v := cval p) (some 73) (by simp only [List.getElem?_toArray, List.getElem?_cons_succ, List.getElem?_cons_zero]; rfl) rfl (by kernel_rfl) (by kernel_rfl) (by kernel_rfl) rfl (.pure (by rfl) (fun w' hw' => op_load rfl rfl (hP.below hw' hsp))) ?_
      simp only [Act.put, List.setIfInBounds_toArray, List.set_cons_zero, List.set_cons_succ]
      refine wpFix_take (i := 45) (v := cval (fun b => !p b)) (some 74) (by simp only [List.getElem?_toArray, List.getElem?_cons_succ, List.getElem?_cons_zero]; rfl) rfl (by kernel_rfl) (by kernel_rfl) (by kernel_rfl) rfl (.call 12 #[cval p] (by rfl) (fun w' _ => call_not rfl rfl rfl) (fun w' hw' => (not_any p w').mono fun e w2 ⟨h1, h2⟩ => ⟨h1, hw'.trans (h2.mono hw'.size)⟩)) ?_
      simp only [Act.put, List.setIfInBounds_toArray, List.set_cons_zero, List.set_cons_succ]
      refine wpFix_take (i := 46) (v := cval q) (some 75) (by simp only [List.getElem?_toArray, List.getElem?_cons_succ, List.getElem?_cons_zero]; rfl) rfl (by kernel_rfl) (by kernel_rfl) (by kernel_rfl) rfl (.pure (by rfl) (fun w' hw' => op_load rfl rfl (hQ.below hw' hsz))) ?_
      simp only [Act.put, List.setIfInBounds_toArray, List.set_cons_zero, List.set_cons_succ]
      refine wpFix_take (i := 47) (v := cval (fun b => !q b)) (some 76) (by simp only [List.getElem?_toArray, List.getElem?_cons_succ, List.getElem?_cons_zero]; rfl) rfl (by kernel_rfl) (by kernel_rfl) (by kernel_rfl) rfl (.call 12 #[cval q] (by rfl) (fun w' _ => call_not rfl rfl rfl) (fun w' hw' => (not_any q w').mono fun e w2 ⟨h1, h2⟩ => ⟨h1, hw'.trans (h2.mono hw'.size)⟩)) ?_
      simp only [Act.put, List.setIfInBounds_toArray, List.set_cons_zero, List.set_cons_succ]
      refine wpFix_take (i := 48) (v := cval (fun b => !p b && !q b)) (some 77) (by simp only [List.getElem?_toArray, List.getElem?_cons_succ, List.getElem?_cons_zero]; rfl) rfl (by kernel_rfl) (by kernel_rfl) (by kernel_rfl) rfl (.call 9 #[cval (fun b => !p b), cval (fun b => !q b)] (by rfl) (fun w' _ => call_and rfl rfl rfl rfl) (fun w' hw' => (and_any (fun b => !p b) (fun b => !q b) w').mono fun e w2 ⟨h1, h2⟩ => ⟨h1, hw'.trans (h2.mono hw'.size)⟩)) ?_
      simp only [Act.put, List.setIfInBounds_toArray, List.set_cons_zero, List.set_cons_succ]
      refine wpFix_take (i := 49) (v := .bool true) (some 78) (by simp only [List.getElem?_toArray, List.getElem?_cons_succ, List.getElem?_cons_zero]; rfl) rfl (by kernel_rfl) (by kernel_rfl) (by kernel_rfl) rfl (.pure (by rfl) (fun w' _ => op_eqClass (p := fun b => !(p b || q b)) (q := fun b => !p b && !q b) rfl rfl rfl (fun b _ => by cases p b <;> rfl))) ?_
      simp only [Act.put, List.setIfInBounds_toArray, List.set_cons_zero, List.set_cons_succ]
      refine wpFix_take (i := 50) (v := .bool true) (some 79) (by simp only [List.getElem?_toArray, List.getElem?_cons_succ, List.getElem?_cons_zero]; rfl) rfl (by kernel_rfl) (by kernel_rfl) (by kernel_rfl) rfl (.pure (by rfl) (fun w' _ => by rfl)) ?_
      simp only [Act.put, List.setIfInBounds_toArray, List.set_cons_zero, List.set_cons_succ]
      refine wpFix_take (i := 51) (v := .bool true) (some 4) (by simp only [List.getElem?_toArray, List.getElem?_cons_succ, List.getElem?_cons_zero]; rfl) rfl (by kernel_rfl) (by kernel_rfl) (by kernel_rfl) rfl (.pure (by rfl) (fun w' _ => by rfl)) ?_
      simp only [Act.put, List.setIfInBounds_toArray, List.set_cons_zero, List.set_cons_succ]
      refine wpFix_done (by kernel_rfl) (fun w' hw' => ?_) _
      go_wp2
      go_ret
      exact ⟨rfl, hbw.trans (hw'.mono hbw.size)⟩
end Go.Proofs.YtbfgcanceneokaaDoor

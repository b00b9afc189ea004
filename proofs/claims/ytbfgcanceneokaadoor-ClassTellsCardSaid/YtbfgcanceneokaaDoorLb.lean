/- Walk of riddlelaw02.ClassTells: it answers true. -/
import Derived.Test.YtbfgcanceneokaaDoorLs
import Derived.Test.YtbfgcanceneokaaDoorRc
import Derived.Test.YtbfgcanceneokaaDoorRe
import Derived.Test.YtbfgcanceneokaaDoorRf
import Derived.Test.YtbfgcanceneokaaDoorGr
import Derived.Deep.CutRange
import Derived.Deep.DeepCutAuto
import Derived.BigQuiet
namespace Go.Proofs.YtbfgcanceneokaaDoor
open Go.RowKit

set_option maxRecDepth 100000 in
set_option maxHeartbeats 8000000 in
theorem tells_walk (p : Nat → Bool) (w : World) (hT : Tab64 w) :
    Calls Tryd.prog 4 #[cval p] w fun e w' => e = .returned (.bool true) ∧ Below w.heap.size w w' := by
  have HT := Lib.hid hT
  clear hT
  obtain ⟨L, hL⟩ : ∃ L, L = bytesOf p 256 := ⟨_, rfl⟩
  obtain ⟨R, hR⟩ : ∃ R, R = runsFold L := ⟨_, rfl⟩
  have hLl : L.length ≤ 256 := by rw [hL]; exact bytesOf_le p 256
  have hLb : ∀ b ∈ L, b < 256 := by rw [hL]; exact fun b hb => (bytesOf_mem.1 hb).1
  have hRl : R.length ≤ 256 := by have := runsFold_len L; rw [← hR] at this; omega
  have HBy := Lib.hid (fun (W : World) (h : Tab64 W) => bytes_any p W h)
  have HRu := Lib.hid (fun (W : World) (h : Tab64 W) => runs_any p W h)
  have HrR := Lib.hid (fun (W : World) => refRuns_any p W)
  have HrB := Lib.hid (fun (W : World) => refBytes_any p W)
  have Hlen := Lib.hid (fun (W : World) => len_any p W)
  have Hfo := Lib.hid (fun (W : World) (h : Tab64 W) => fold_any p W h)
  have Hrf := Lib.hid (fun (W : World) => refFold_any p W)
  rw [← bytesOf_length, ← hL] at Hlen
  rw [← hL] at HBy HrB
  rw [← hL, ← hR] at HRu HrR
  have Hsame : Hid (∀ A c B d W, Rd W W.heap.size A (u8s L) → Rd W W.heap.size B (u8s L) → Calls Tryd.prog 17 #[.slice A L.length c, .slice B L.length d] W fun e w' => e = .returned (.bool true) ∧ W = w') := fun A c B d W h1 h2 => by
    have := same_any A B c d L L hLb hLb W h1 h2
    rwa [show (L == L) = true from by simp] at this
  have hneq := neq_class (foldOf p) (foldOf p) (fun _ _ => rfl)
  have HhL := Lib.hid hL
  have HhR := Lib.hid hR
  have HLb := Lib.hid hLb
  clear hL hR hLb
  have Hp := Lib.hid (Blk.new w 24 (ccells p))
  have hb0 : Below w.heap.size w (w.alloc (.cells (ccells p) 24)) := (Below.refl _ _).alloc (Nat.le_refl _) _
  go_enter Tryd.func4, Tryd.ntmps4
  go_wp2_with fail
  refine (speaks_any _ (tab_below HT.out hb0 (Nat.le_refl _))).mono ?_
  rintro e wr ⟨rfl, hbel⟩
  have hP := Hp.out.below hbel (by simp)
  have hbw := hb0.trans (hbel.mono hb0.size)
  have HTr := Lib.hid (tab_below HT.out hbw (Nat.le_refl _))
  clear hb0 hbel
  have hsp := hP.lt
  have p0 := hP.cell 0
  have p1 := hP.cell 1
  have p2 := hP.cell 2
  have p3 := hP.cell 3
  simp only [List.getElem?_toArray, List.getElem?_cons_zero, List.getElem?_cons_succ] at p0 p1 p2 p3
  go_upto_region 3 with fail
  go_cut [3, 4] (fun x y wx => ∃ A c B d, x = .slice A L.length c ∧ y = .slice B R.length d ∧ Rd wx wx.heap.size A (u8s L) ∧ Rd wx wx.heap.size B (runCells R) ∧ Below wr.heap.size wr wx)
  case first =>
    go_region_held3 (fun w' => w'.cell? ⟨w.heap.size, 0, none⟩ = some (.int .u64 (pw p 0 : Nat)) ∧ w'.cell? ⟨w.heap.size, 1, none⟩ = some (.int .u64 (pw p 1 : Nat)) ∧ w'.cell? ⟨w.heap.size, 2, none⟩ = some (.int .u64 (pw p 2 : Nat)) ∧ w'.cell? ⟨w.heap.size, 3, none⟩ = some (.int .u64 (pw p 3 : Nat)) ∧ Below wr.heap.size wr w')
      (first | exact ⟨p0, p1, p2, p3, (Below.refl _ _).drew⟩ | assumption | (go_split_ands; have hbx := held_step (by assumption) hbel1; exact ⟨(hbx.cell (p := ⟨_, 0, none⟩) hsp).trans p0, (hbx.cell (p := ⟨_, 1, none⟩) hsp).trans p1, (hbx.cell (p := ⟨_, 2, none⟩) hsp).trans p2, (hbx.cell (p := ⟨_, 3, none⟩) hsp).trans p3, hbx⟩) | (go_split_ands; have hbx := held_step (by assumption) hbel2; exact ⟨(hbx.cell (p := ⟨_, 0, none⟩) hsp).trans p0, (hbx.cell (p := ⟨_, 1, none⟩) hsp).trans p1, (hbx.cell (p := ⟨_, 2, none⟩) hsp).trans p2, (hbx.cell (p := ⟨_, 3, none⟩) hsp).trans p3, hbx⟩))
      (first | (go_at_call 13; with_reducible refine (HBy.out _ (tab_below HTr.out (by go_split_ands; assumption) (Nat.le_refl _))).mono ?_; intro e w1 hg; obtain ⟨A, c, rfl, hA, hbel1⟩ := gave_bytes hg; clear hg) | (go_at_call 14; with_reducible refine (HRu.out _ (tab_below HTr.out (by go_split_ands; assumption) (Nat.le_refl _))).mono ?_; intro e w2 hg; obtain ⟨B, d, rfl, hB, hbel2⟩ := gave_runs hg; clear hg))
    all_goals go_split_ands
    all_goals have hbx := (by assumption : Below wr.heap.size wr _)
    all_goals go_wp2_with fail
    all_goals go_meet
    all_goals first
      | exact ⟨A, c, B, d, rfl, rfl, (hA.below hbel2 (Nat.le_refl _)).more hbel2.size, hB, hbx⟩
      | exact ⟨A, c, B, d, rfl, rfl, hA, (hB.below hbel1 (Nat.le_refl _)).more hbel1.size, hbx⟩
  case rest =>
    obtain ⟨A, c, B, d, rfl, rfl, hA, hB, hbel⟩ := hcut
    clear p0 p1 p2 p3
    have hPc := hP.below hbel hsp
    have p0 := hPc.cell 0
    have p1 := hPc.cell 1
    have p2 := hPc.cell 2
    have p3 := hPc.cell 3
    simp only [List.getElem?_toArray, List.getElem?_cons_zero, List.getElem?_cons_succ] at p0 p1 p2 p3
    go_wp2_with fail
    clear p0 p1 p2 p3 hPc
    refine (HrR.out _).mono ?_
    intro e w1 hg
    obtain ⟨D, f, rfl, hD, hbel1⟩ := gave_runs hg
    clear hg
    have hA1 := (hA.below hbel1 (Nat.le_refl _)).more hbel1.size
    have hB1 := (hB.below hbel1 (Nat.le_refl _)).more hbel1.size
    have hb1 := hbel.trans (hbel1.mono hbel.size)
    have hP1 := hP.below hb1 hsp
    have hbw1 := hbw.trans (hb1.mono hbw.size)
    have HT1 := Lib.hid (tab_below HTr.out hb1 (Nat.le_refl _))
    clear hA hB hbel1 hbel hb1 hbw hP hsp HTr
    have hsp := hP1.lt
    have p0 := hP1.cell 0
    have p1 := hP1.cell 1
    have p2 := hP1.cell 2
    have p3 := hP1.cell 3
    simp only [List.getElem?_toArray, List.getElem?_cons_zero, List.getElem?_cons_succ] at p0 p1 p2 p3
    go_upto_region 5 with fail
    go_cut [40] (fun x wx => x = .bool false ∧ Below w1.heap.size w1 wx)
    case first =>
      go_region_held3 (fun w' => w'.cell? ⟨w.heap.size, 0, none⟩ = some (.int .u64 (pw p 0 : Nat)) ∧ w'.cell? ⟨w.heap.size, 1, none⟩ = some (.int .u64 (pw p 1 : Nat)) ∧ w'.cell? ⟨w.heap.size, 2, none⟩ = some (.int .u64 (pw p 2 : Nat)) ∧ w'.cell? ⟨w.heap.size, 3, none⟩ = some (.int .u64 (pw p 3 : Nat)) ∧ Below w1.heap.size w1 w')
        (first | exact ⟨p0, p1, p2, p3, (Below.refl _ _).drew⟩ | assumption | (go_split_ands; have hbx := held_step (by assumption) hbel1; exact ⟨(hbx.cell (p := ⟨_, 0, none⟩) hsp).trans p0, (hbx.cell (p := ⟨_, 1, none⟩) hsp).trans p1, (hbx.cell (p := ⟨_, 2, none⟩) hsp).trans p2, (hbx.cell (p := ⟨_, 3, none⟩) hsp).trans p3, hbx⟩))
        (first | (go_at_call 16; with_reducible refine (Hlen.out _).mono ?_; rintro e w2 ⟨rfl, hbel1⟩) | (go_at_call 18; with_reducible refine (HrB.out _).mono ?_; intro e w2 hg; obtain ⟨G, g, rfl, hG, hbel1⟩ := gave_bytes hg; clear hg) | (go_at_call 17; with_reducible refine (Hsame.out _ _ _ _ _ (by go_split_ands; have hbx := (by assumption : Below w1.heap.size w1 _); exact (hA1.below hbx (Nat.le_refl _)).more hbx.size) (by assumption)).mono ?_; rintro e w2 ⟨rfl, rfl⟩) | (go_at_call 19; with_reducible refine (Hfo.out _ (tab_below HT1.out (by go_split_ands; assumption) (Nat.le_refl _))).mono ?_; rintro e w2 ⟨rfl, hbel1⟩) | (go_at_call 20; with_reducible refine (Hrf.out _).mono ?_; rintro e w2 ⟨rfl, hbel1⟩))
      all_goals go_split_ands
      all_goals have hbx := (by assumption : Below w1.heap.size w1 _)
      all_goals go_wp2_with fail
      all_goals go_meet
      all_goals exact ⟨rfl, hbx⟩
    case rest =>
      obtain ⟨rfl, hbel⟩ := hcut
      have hB2 := hB1.below hbel (Nat.le_refl _)
      have hD2 := hD.below hbel (Nat.le_refl _)
      have hbw2 := hbw1.trans (hbel.mono hbw1.size)
      clear p0 p1 p2 p3 hB1 hD hbel hbw1 hA1 hP1 hsp
      go_wp2_with fail
      go_loopw [43] (fun i wr => ∃ k : Nat, k ≤ R.length ∧ i = .int .i64 k ∧ Rd wr w1.heap.size B (runCells R) ∧ Rd wr w1.heap.size D (runCells R) ∧ Below w.heap.size w wr) (fun i _ => R.length - (intOf i).toNat)
      case atStart => exact ⟨0, Nat.zero_le _, rfl, hB2, hD2, hbw2⟩
      case round =>
        clear hB2 hD2 hbw2
        obtain ⟨k, hk, rfl, hB, hD, hbel⟩ := hrel
        by_cases hlt : k < R.length
        · obtain ⟨g1, g2⟩ := runCells_get R k hlt
          have hne : runCells R ≠ [] := by intro h; rw [h] at g1; simp at g1
          obtain ⟨b, o, rfl, hb, hc⟩ := hB hne
          obtain ⟨b', o', rfl, hb', hc'⟩ := hD hne
          have c0 := hc _ _ g1
          have c1 := hc _ _ g2
          have d0 := hc' _ _ g1
          have d1 := hc' _ _ g2
          rw [← Nat.add_assoc] at c1 d1
          have heq := fun (W : World) => neq_pair ((R[k].1 : Nat) : Int) ((R[k].2 : Nat) : Int) ((R[k].1 : Nat) : Int) ((R[k].2 : Nat) : Int) W
          have e0 : ((((R[k].1 : Nat) : Int) == ((R[k].1 : Nat) : Int)) && (((R[k].2 : Nat) : Int) == ((R[k].2 : Nat) : Int))) = true := by simp
          rw [e0, Bool.not_true] at heq
          clear e0
          have HB := Lib.hid hB
          have HD := Lib.hid hD
          have Hbel := Lib.hid hbel
          clear g1 g2 hc hc' hne hB hD hbel
          go_wp2_with fail
          go_quiet (fail)
          go_wp2
          go_roundw
          case rel => exact ⟨k + 1, by omega, by go_num, HB.out, HD.out, below_drewN Hbel.out _⟩
          case measure => simp [intOf]; omega
        · go_wp2
          go_ret
          exact ⟨rfl, hbel⟩
end Go.Proofs.YtbfgcanceneokaaDoor

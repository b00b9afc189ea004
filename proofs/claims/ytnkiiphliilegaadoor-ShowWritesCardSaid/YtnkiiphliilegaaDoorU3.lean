/- Walk of riddleref06.Set: a set's form. -/
import Derived.Test.YtnkiiphliilegaaDoorUA
import Derived.Test.YtnkiiphliilegaaDoorSE
import Derived.Test.YtnkiiphliilegaaDoorSC
import Derived.Deep.QuietTactic
import Derived.BigQuiet
namespace Go.Proofs.YtnkiiphliilegaaDoor
open Go.RowKit

/-- two strings, one behind the other -/
theorem cat_ok (L M : List Nat) (h : L.length + M.length ≤ 1000000000) : ¬ 9223372036854775807 < (strL L).size + (strL M).size ∧ strL L ++ strL M = strL (L ++ M) := ⟨add_ok h, strL_app L M⟩
theorem cat_var (L M : List Nat) (h : L.length + M.length ≤ 1000000000) : ∃ N, Hid (N = L ++ M) ∧ N.length = L.length + M.length ∧ ¬ 9223372036854775807 < (strL L).size + (strL M).size ∧ strL L ++ strL M = strL N :=
  ⟨_, rfl, by simp, add_ok h, strL_app L M⟩
theorem cat_k (L : List Nat) (k : Array UInt8) (M : List Nat) (hk : strL M = ByteArray.mk k) (h : L.length + M.length ≤ 1000000000) : ∃ N, Hid (N = L ++ M) ∧ N.length = L.length + M.length ∧ ¬ 9223372036854775807 < (strL L).size + (ByteArray.mk k).size ∧ strL L ++ ByteArray.mk k = strL N := by
  rw [← hk]
  exact cat_var L M h
theorem ret_str {a b : List Nat} (h : a = b) : Ending.returned (.string (strL a)) = .returned (.string (strL b)) := by rw [h]
theorem rd_far {w w' : World} {B B' : Nat} {A : Option Addr} {xs : List Value} (h : Rd w B A xs) (hb : Below B w w') (hB : B ≤ B') : Rd w' B' A xs := (h.below hb (Nat.le_refl _)).more hB
set_option maxRecDepth 100000 in
set_option maxHeartbeats 8000000 in
theorem refSet_more (p : Nat → Bool) (w : World) (h2 : 2 ≤ (bytesOf p 256).length) :
    Calls Tryd.prog 30 #[cval p] w fun e w' => e = .returned (.string (strL ([91] ++ (runsFold (bytesOf p 256)).flatMap runF ++ [93]))) ∧ Below w.heap.size w w' := by
  have hmem : ∀ b ∈ bytesOf p 256, b < 256 := fun b hb => (bytesOf_mem.1 hb).1
  have hlenL := bytes_len256 p
  have HBy := Lib.hid (fun W => (refBytes_any p W))
  have HRu := Lib.hid (fun W => (refRuns_any p W))
  have hRl : (runsFold (bytesOf p 256)).length ≤ 256 := Nat.le_trans (runsFold_len _) hlenL
  have hRle := runsFold_le (bytesOf p 256)
  have hRlt := runsFold_lt (bytesOf p 256) hmem
  clear hmem
  generalize (runsFold (bytesOf p 256)) = R at *
  generalize bytesOf p 256 = L at *
  obtain ⟨T, hT⟩ : ∃ T, T = [91] ++ R.flatMap runF ++ [93] := ⟨_, rfl⟩
  rw [← hT]
  have HT := Lib.hid hT
  clear hT
  have n0 : ((L.length : Int) == 0) = false := ne_false (by omega)
  have n1 : ((L.length : Int) == 1) = false := ne_false (by omega)
  have hb0 : Below w.heap.size w (w.alloc (.cells (ccells p) 24)) := (Below.refl _ _).alloc (Nat.le_refl _) _
  have Hblk := Lib.hid (Blk.new w 24 (ccells p))
  have HRle := Lib.hid hRle
  have HRlt := Lib.hid hRlt
  clear hRle hRlt
  go_enter Tryd.func30, Tryd.ntmps30
  go_wp2_with fail
  refine (HBy.out _).mono ?_
  intro e w1 hg
  obtain ⟨A, c, rfl, hrd, hbel⟩ := gave_bytes hg
  clear hg hrd
  have hblk1 := Hblk.out.below hbel (by simp)
  have hbw := hb0.trans (hbel.mono hb0.size)
  have p0 := hblk1.cell 0
  have p1 := hblk1.cell 1
  have p2 := hblk1.cell 2
  have p3 := hblk1.cell 3
  simp only [List.getElem?_toArray, List.getElem?_cons_zero, List.getElem?_cons_succ] at p0 p1 p2 p3
  clear hb0 hbel Hblk hblk1
  generalize L.length = n at *
  go_wp2_with fail
  clear p0 p1 p2 p3
  refine (HRu.out _).mono ?_
  intro e w2 hg
  obtain ⟨v, rfl, hown, hbel⟩ := hg
  obtain ⟨A2, c2, rfl, hrd⟩ := own_rdn hown
  have hbw2 := hbw.trans (hbel.mono hbw.size)
  clear hown hbel hbw
  obtain ⟨m, hm⟩ : ∃ m, m = R.length := ⟨_, rfl⟩
  rw [← hm] at hRl ⊢
  have Hm := Lib.hid hm
  clear hm
  go_wp2
  go_loopw [4, 6] (fun s i wr => ∃ (k : Nat) (S : List Nat), k ≤ m ∧ i = .int .i64 k ∧ s = .string (strL S) ∧ Hid (S = [91] ++ (R.take k).flatMap runF) ∧ Rd wr w2.heap.size A2 (runCells R) ∧ w2.heap.size ≤ wr.heap.size ∧ Below w.heap.size w wr) (fun _ i _ => m - (intOf i).toNat)
  case atStart => exact ⟨0, [91], Nat.zero_le _, rfl, rfl, rfl, hrd, Nat.le_refl _, hbw2⟩
  case round =>
    clear hrd hbw2
    obtain ⟨k, S, hk, rfl, rfl, HS, hB, hsz, hbel⟩ := hrel
    have hlk : S.length ≤ 1 + 9 * k := by
      have h1 : ((R.take k).flatMap runF).length ≤ 9 * k := Nat.le_trans (runsF_len _) (by have := List.length_take_le k R; omega)
      rw [HS.out, List.length_append, List.length_cons, List.length_nil]
      omega
    by_cases hlt : k < m
    · have hkl : k < R.length := by have := Hm.out; omega
      obtain ⟨g1, g2⟩ := runCells_get R k hkl
      have hne : runCells R ≠ [] := by intro h; rw [h] at g1; simp at g1
      obtain ⟨b, o, rfl, hb, hc⟩ := hB hne
      have c0 := hc _ _ g1
      have c1 := hc _ _ g2
      rw [← Nat.add_assoc] at c1
      have hl1 := (HRlt.out _ (List.getElem_mem hkl)).1
      have hl2 := (HRlt.out _ (List.getElem_mem hkl)).2
      have hle := HRle.out _ (List.getElem_mem hkl)
      have Hstep := Lib.hid (runsF_step R k hkl)
      have HB : Hid (Rd wr w2.heap.size (some ⟨b, o, none⟩) (runCells R)) := Lib.hid (fun _ => ⟨b, o, rfl, hb, hc⟩)
      have Hone := Lib.hid (fun (q : R[k].1 = R[k].2) => runF_same _ _ q)
      have Hnext := Lib.hid (fun (q : R[k].1 + 1 = R[k].2) => runF_next _ _ q)
      have Hfar := Lib.hid (fun (q : R[k].1 + 1 < R[k].2) => runF_far _ _ q)
      have Hby1 := Lib.hid (fun W => byte_any R[k].1 hl1 W)
      have Hby2 := Lib.hid (fun W => byte_any R[k].2 hl2 W)
      have hf1 := byteF_len R[k].1
      have hf2 := byteF_len R[k].2
      have hpair : R[k] = (R[k].1, R[k].2) := rfl
      rw [hpair] at Hstep
      clear g1 g2 hne hc hB hpair
      generalize R[k].1 = x at *
      generalize R[k].2 = y at *
      generalize byteF x = F1 at *
      generalize byteF y = F2 at *
      obtain ⟨S1, HS1, l1, q1, e1⟩ := cat_var S F1 (by omega)
      obtain ⟨S2, HS2, l2, q2, e2⟩ := cat_k S1 #[45] [45] rfl (by simp; omega)
      obtain ⟨S3, HS3, l3, q3, e3⟩ := cat_var S1 F2 (by omega)
      obtain ⟨S4, HS4, l4, q4, e4⟩ := cat_var S2 F2 (by simp at l2; omega)
      have L1 := Lib.hid l1
      have L2 := Lib.hid l2
      have L3 := Lib.hid l3
      have L4 := Lib.hid l4
      clear l1 l2 l3 l4
      go_wp2
      go_quiet (fail)
      have Hle := Lib.hid hle
      clear c0 c1 hle
      rcases (show x = y ∨ x + 1 = y ∨ x + 1 < y by have := Hle.out; omega) with hxy | hxy | hxy
      · have Hf := Lib.hid (Hone.out hxy)
        subst hxy
        go_wp2_with fail
        refine (Hby1.out _).mono ?_
        rintro e w3 ⟨rfl, hb3⟩
        have hbx := held_step (below_drewN (Below.refl wr.heap.size wr) _) hb3
        go_wp2
        go_roundw
        case rel => exact ⟨k + 1, S1, by omega, by go_num, rfl, Lib.hid (by rw [HS1.out, HS.out, Hstep.out, Hf.out]; simp), rd_far HB.out (hbx.mono hsz) (Nat.le_refl _), Nat.le_trans hsz hbx.size, hbel.trans (hbx.mono hbel.size)⟩
        case measure => simp [intOf]; omega
      · have Hf := Lib.hid (Hnext.out hxy)
        subst hxy
        go_wp2_with fail
        refine (Hby1.out _).mono ?_
        rintro e w3 ⟨rfl, hb3⟩
        have hbx3 := held_step (below_drewN (Below.refl wr.heap.size wr) _) hb3
        go_wp2_with fail
        refine (Hby2.out _).mono ?_
        rintro e w4 ⟨rfl, hb4⟩
        have hbx := hbx3.trans (hb4.mono hbx3.size)
        go_wp2
        go_roundw
        case rel => exact ⟨k + 1, S3, by omega, by go_num, rfl, Lib.hid (by rw [HS3.out, HS1.out, HS.out, Hstep.out, Hf.out]; simp), rd_far HB.out (hbx.mono hsz) (Nat.le_refl _), Nat.le_trans hsz hbx.size, hbel.trans (hbx.mono hbel.size)⟩
        case measure => simp [intOf]; omega
      · have Hf := Lib.hid (Hfar.out hxy)
        have hd : 1 < y - x := by omega
        have hsub : IntKind.u8.wrap ((y : Int) - (x : Int)) = (y : Int) - (x : Int) := by rw [IntKind.wrap_u8]; omega
        go_wp2_with fail
        refine (Hby1.out _).mono ?_
        rintro e w3 ⟨rfl, hb3⟩
        have hbx3 := held_step (below_drewN (Below.refl wr.heap.size wr) _) hb3
        go_wp2_with fail
        refine (Hby2.out _).mono ?_
        rintro e w4 ⟨rfl, hb4⟩
        have hbx := hbx3.trans (hb4.mono hbx3.size)
        go_wp2
        go_roundw
        case rel => exact ⟨k + 1, S4, by omega, by go_num, rfl, Lib.hid (by rw [HS4.out, HS2.out, HS1.out, HS.out, Hstep.out, Hf.out]; simp), rd_far HB.out (hbx.mono hsz) (Nat.le_refl _), Nat.le_trans hsz hbx.size, hbel.trans (hbx.mono hbel.size)⟩
        case measure => simp [intOf]; omega
    · have hkm : k = m := by omega
      subst hkm
      have hT : R.take k = R := List.take_of_length_le (by have := Hm.out; omega)
      rw [hT] at HS
      obtain ⟨S1, HS1, _, q1, e1⟩ := cat_k S #[93] [93] rfl (by simp; omega)
      have Hend : Hid (S1 = T) := Lib.hid (by rw [HS1.out, HS.out, HT.out])
      clear hT
      go_wp2
      go_ret
      exact ⟨ret_str Hend.out, hbel⟩
set_option maxRecDepth 100000 in
set_option maxHeartbeats 8000000 in
theorem refSet_any (p : Nat → Bool) (w : World) :
    Calls Tryd.prog 30 #[cval p] w fun e w' => e = .returned (.string (strL (setF (runsFold (bytesOf p 256))))) ∧ Below w.heap.size w w' := by
  have hmem : ∀ b ∈ bytesOf p 256, b < 256 := fun b hb => (bytesOf_mem.1 hb).1
  have HBy := Lib.hid (fun W => (refBytes_any p W))
  have hmore := refSet_more p w
  generalize bytesOf p 256 = L at *
  have hb0 : Below w.heap.size w (w.alloc (.cells (ccells p) 24)) := (Below.refl _ _).alloc (Nat.le_refl _) _
  match L, HBy, hmem, hmore with
  | [], HBy, _, _ =>
    have hf : setF (runsFold []) = [91, 98, 45, 97, 93] := rfl
    rw [hf]
    go_enter Tryd.func30, Tryd.ntmps30
    go_wp2_with fail
    refine (HBy.out _).mono ?_
    intro e w1 hg
    obtain ⟨A, c, rfl, hrd, hbel⟩ := gave_bytes hg
    clear hg
    simp only [List.length_nil]
    go_wp2
    go_ret
    exact ⟨rfl, hb0.trans (hbel.mono hb0.size)⟩
  | [x], HBy, hmem, _ =>
    have hf : setF (runsFold [x]) = byteF x := setF_one [x] x rfl
    rw [hf]
    have hx := hmem x (by simp)
    have Hby := Lib.hid (fun W => byte_any x hx W)
    clear hf hmem
    go_enter Tryd.func30, Tryd.ntmps30
    go_wp2_with fail
    refine (HBy.out _).mono ?_
    intro e w1 hg
    obtain ⟨A, c, rfl, hrd, hbel⟩ := gave_bytes hg
    obtain ⟨b, off, rfl, hbB, hc⟩ := hrd.at_ (u8s_get [x] 0 (by simp))
    clear hg
    simp only [List.length_cons, List.length_nil, Nat.zero_add, Nat.add_zero, List.getElem_cons_zero] at hc ⊢
    have hbw := hb0.trans (hbel.mono hb0.size)
    clear hrd hb0 hbel
    go_wp2_with (go_at_call 40; refine (Hby.out _).mono ?_; rintro e w2 ⟨rfl, hb2⟩)
    go_ret
    exact ⟨rfl, hbw.trans (hb2.mono hbw.size)⟩
  | x :: y :: L', _, _, hmore =>
    have hf : setF (runsFold (x :: y :: L')) = [91] ++ (runsFold (x :: y :: L')).flatMap runF ++ [93] := by
      rw [setF_more _ (by simp)]
      simp
    rw [hf]
    exact hmore (by simp)
end Go.Proofs.YtnkiiphliilegaaDoor

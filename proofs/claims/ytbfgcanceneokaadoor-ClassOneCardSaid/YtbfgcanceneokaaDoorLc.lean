/- Walk of riddlelaw02.ClassOne: it answers true. -/
import Derived.Test.YtbfgcanceneokaaDoorLs
import Derived.Test.YtbfgcanceneokaaDoorRc
import Derived.Test.YtbfgcanceneokaaDoorFz
import Derived.Deep.CutRange
import Derived.Deep.DeepCutAuto
namespace Go.Proofs.YtbfgcanceneokaaDoor
open Go.RowKit

theorem one_range (b : Nat) : ∀ x, x < 256 → setOf [b] x = fromTo b b x := by
  intro x _
  unfold setOf fromTo
  rw [Bool.eq_iff_iff]
  simp
  omega
theorem one_pop : ∀ b, b < 256 → popOf (setOf [b]) 256 = 1 := by decide +kernel
theorem one_self (b : Nat) : setOf [b] b = true := by simp [setOf]
theorem one_other (b c : Nat) (h : b ≠ c) : setOf [b] c = false := by simp [setOf]; omega
theorem one_fold (b : Nat) : foldOf (setOf [b]) b = true := by simp [setOf, foldOf]
theorem one_fold2 (b c : Nat) (h : b ≠ c) (ho : other b = c) : foldOf (setOf [b]) c = true := by
  subst ho
  simp [setOf, foldOf, other_other]
theorem one_fold3 (b c : Nat) (h : b ≠ c) (ho : other b ≠ c) : foldOf (setOf [b]) c = false := by
  have : other c ≠ b := fun e => ho (by rw [← e, other_other])
  simp [setOf, foldOf]
  omega

set_option maxRecDepth 100000 in
set_option maxHeartbeats 8000000 in
theorem one_walk_same (b c : Nat) (hb : b < 256) (hc : c < 256) (hsame : ((b : Nat) : Int) = ((c : Nat) : Int)) (w : World) (hT : Tab64 w) :
    Calls Tryd.prog 5 #[.int .u8 ((b : Nat) : Int), .int .u8 ((c : Nat) : Int)] w fun e w' => e = .returned (.bool true) ∧ Below w.heap.size w w' := by
  have HT := Lib.hid hT
  clear hT
  have Hxc : Hid (∀ W : World, Calls Tryd.prog 22 #[cval (setOf [b]), .int .u8 ((c : Nat) : Int)] W fun e w' => e = .returned (.bool true) ∧ Below W.heap.size W w') := fun W => by
    have := has_any (setOf [b]) c hc W
    rw [show c = b from by omega] at this ⊢
    rwa [one_self b] at this
  have Hfb : Hid (∀ W : World, Calls Tryd.prog 22 #[cval (foldOf (setOf [b])), .int .u8 ((b : Nat) : Int)] W fun e w' => e = .returned (.bool true) ∧ Below W.heap.size W w') := fun W => by
    have := has_any (foldOf (setOf [b])) b hb W
    rwa [one_fold b] at this
  have Hfc : Hid (∀ W : World, Calls Tryd.prog 22 #[cval (foldOf (setOf [b])), .int .u8 ((c : Nat) : Int)] W fun e w' => e = .returned (.bool true) ∧ Below W.heap.size W w') := fun W => by
    have := has_any (foldOf (setOf [b])) c hc W
    rw [show c = b from by omega] at this ⊢
    rwa [one_fold b] at this
  have Hone : Hid (∀ W : World, Calls Tryd.prog 16 #[cval (setOf [b])] W fun e w' => e = .returned (.int .i64 1) ∧ Below W.heap.size W w') := fun W => by
    have := len_any (setOf [b]) W
    rwa [one_pop b hb] at this
  have Hother : Hid (∀ W : World, Calls Tryd.prog 24 #[.int .i64 ((b : Nat) : Int)] W fun e w' => e = .returned (.int .i64 ((other b : Nat) : Int)) ∧ Below W.heap.size W w') := fun W =>
    (other_any b hb W).mono fun _ _ h => ⟨h.1, h.2 ▸ Below.refl _ _⟩
  have Hof := Lib.hid (fun A c W h => of_any [b] (by simpa using hb) A c W (by simp) h)
  have Hfold := Lib.hid (fun (W : World) (h : Tab64 W) => fold_any (setOf [b]) W h)
  have Hsame := Lib.hid hsame
  clear hsame
  go_enter Tryd.func5, Tryd.ntmps5
  go_wp2_with fail
  refine (speaks_any _ HT.out).mono ?_
  rintro e w1 ⟨rfl, hb1⟩
  go_wp2_with fail
  refine (Hof.out _ _ _ (new_rd w1 5 (0, 0) (u8s [b]))).mono ?_
  rintro e w2 ⟨rfl, hbel2⟩
  have hb2 : Below w.heap.size w w2 := hb1.trans ((((Below.refl w1.heap.size w1).alloc (Nat.le_refl _) _).trans (hbel2.mono (by simp))).mono hb1.size)
  clear hbel2 hb1
  go_wp2_with fail
  have hX2 := Blk.new w2 24 (ccells (setOf [b]))
  have hb3 : Below w.heap.size w (w2.alloc (.cells (ccells (setOf [b])) 24)) := hb2.alloc (by have := hb2.size; omega) _
  have hgt : w2.heap.size < (w2.alloc (.cells (ccells (setOf [b])) 24)).heap.size := by simp
  refine (Hfold.out _ (tab_below HT.out hb3 (Nat.le_refl _))).mono ?_
  rintro e w3 ⟨rfl, hbel3⟩
  have hX3 := hX2.below hbel3 hgt
  have hb4 := hb3.trans (hbel3.mono hb3.size)
  clear hX2 hb2 hb3 hbel3 hgt
  go_upto_region 5 with fail
  have hF := Blk.new w3 24 (ccells (foldOf (setOf [b])))
  have hX := hX3.alloc (.cells (ccells (foldOf (setOf [b]))) 24)
  have hbw : Below w.heap.size w (w3.alloc (.cells (ccells (foldOf (setOf [b]))) 24)) := hb4.alloc (by have := hb4.size; omega) _
  clear hX3 hb4
  generalize w3.alloc (.cells (ccells (foldOf (setOf [b]))) 24) = wr at *
  have hxs := hX.lt
  have hfs := hF.lt
  have hsame := Hsame.out
  refine wp_region_fix (S := fun w' => Below wr.heap.size wr w') (by kernel_rfl) ((Below.refl _ _).drew) (fun i => (([fun u => u = cval (setOf [b]), fun u => u = .int .u8 ((c : Nat) : Int), fun u => u = .bool true, fun u => u = .int .u8 ((b : Nat) : Int), fun u => u = .int .u8 ((c : Nat) : Int), fun u => u = .bool true, fun u => u = .bool true, fun u => u = .bool true, fun u => u = cval (setOf [b]), fun u => u = .int .u8 ((b : Nat) : Int), fun u => u = .int .u8 ((b : Nat) : Int), fun u => u = cval (fromTo b b), fun u => u = .bool true, fun u => u = .bool true, fun u => u = .bool true, fun u => u = cval (setOf [b]), fun u => u = .int .i64 1, fun u => u = .bool true, fun u => u = .bool true, fun u => u = .bool true, fun u => u = cval (foldOf (setOf [b])), fun u => u = .int .u8 ((b : Nat) : Int), fun u => u = .bool true, fun u => u = .bool true, fun u => u = .bool true, fun u => u = cval (foldOf (setOf [b])), fun u => u = .int .u8 ((c : Nat) : Int), fun u => u = .bool true, fun u => u = .int .u8 ((b : Nat) : Int), fun u => u = .int .u8 ((c : Nat) : Int), fun u => u = .bool true, fun u => u = .bool true, fun u => u = undef, fun u => u = undef, fun u => u = undef, fun u => u = undef, fun u => u = undef, fun u => u = undef, fun u => u = .bool true, fun u => u = .bool true, fun u => u = .bool true, fun u => u = .bool true] : List (Value → Prop))[i]?).getD (fun _ => True)) ?_
  refine wpFix_take (i := 0) (v := cval (setOf [b])) (some 14) (by simp only [List.getElem?_toArray, List.getElem?_cons_zero]; rfl) rfl (by kernel_rfl) (by kernel_rfl) (by kernel_rfl) rfl (.pure (by rfl) (fun w' hw' => op_load rfl rfl (hX.below hw' hxs))) ?_
  simp only [Act.put, List.setIfInBounds_toArray, List.set_cons_zero, List.set_cons_succ]
  refine wpFix_take (i := 1) (v := .int .u8 ((c : Nat) : Int)) (some 15) (by simp only [List.getElem?_toArray, List.getElem?_cons_succ, List.getElem?_cons_zero]; rfl) rfl (by kernel_rfl) (by kernel_rfl) (by kernel_rfl) rfl (.pure (by rfl) (fun w' _ => by rfl)) ?_
  simp only [Act.put, List.setIfInBounds_toArray, List.set_cons_zero, List.set_cons_succ]
  refine wpFix_take (i := 2) (v := .bool true) (some 16) (by simp only [List.getElem?_toArray, List.getElem?_cons_succ, List.getElem?_cons_zero]; rfl) rfl (by kernel_rfl) (by kernel_rfl) (by kernel_rfl) rfl (.call 22 #[cval (setOf [b]), .int .u8 ((c : Nat) : Int)] (by rfl) (fun w' _ => call_has rfl rfl rfl rfl) (fun w' hw' => (Hxc.out w').mono fun e w2 ⟨h1, h2⟩ => ⟨h1, hw'.trans (h2.mono hw'.size)⟩)) ?_
  simp only [Act.put, List.setIfInBounds_toArray, List.set_cons_zero, List.set_cons_succ]
  refine wpFix_take (i := 3) (v := .int .u8 ((b : Nat) : Int)) (some 17) (by simp only [List.getElem?_toArray, List.getElem?_cons_succ, List.getElem?_cons_zero]; rfl) rfl (by kernel_rfl) (by kernel_rfl) (by kernel_rfl) rfl (.pure (by rfl) (fun w' _ => by rfl)) ?_
  simp only [Act.put, List.setIfInBounds_toArray, List.set_cons_zero, List.set_cons_succ]
  refine wpFix_take (i := 4) (v := .int .u8 ((c : Nat) : Int)) (some 18) (by simp only [List.getElem?_toArray, List.getElem?_cons_succ, List.getElem?_cons_zero]; rfl) rfl (by kernel_rfl) (by kernel_rfl) (by kernel_rfl) rfl (.pure (by rfl) (fun w' _ => by rfl)) ?_
  simp only [Act.put, List.setIfInBounds_toArray, List.set_cons_zero, List.set_cons_succ]
  refine wpFix_take (i := 5) (v := .bool true) (some 19) (by simp only [List.getElem?_toArray, List.getElem?_cons_succ, List.getElem?_cons_zero]; rfl) rfl (by kernel_rfl) (by kernel_rfl) (by kernel_rfl) rfl (.pure (by rfl) (fun w' _ => op_eqInt rfl rfl rfl hsame)) ?_
  simp only [Act.put, List.setIfInBounds_toArray, List.set_cons_zero, List.set_cons_succ]
  refine wpFix_take (i := 6) (v := .bool true) (some 20) (by simp only [List.getElem?_toArray, List.getElem?_cons_succ, List.getElem?_cons_zero]; rfl) rfl (by kernel_rfl) (by kernel_rfl) (by kernel_rfl) rfl (.pure (by rfl) (fun w' _ => op_eqBool rfl rfl rfl)) ?_
  simp only [Act.put, List.setIfInBounds_toArray, List.set_cons_zero, List.set_cons_succ]
  refine wpFix_take (i := 7) (v := .bool true) (some 21) (by simp only [List.getElem?_toArray, List.getElem?_cons_succ, List.getElem?_cons_zero]; rfl) rfl (by kernel_rfl) (by kernel_rfl) (by kernel_rfl) rfl (.pure (by rfl) (fun w' _ => by rfl)) ?_
  simp only [Act.put, List.setIfInBounds_toArray, List.set_cons_zero, List.set_cons_succ]
  refine wpFix_take (i := 8) (v := cval (setOf [b])) (some 22) (by simp only [List.getElem?_toArray, List.getElem?_cons_succ, List.getElem?_cons_zero]; rfl) rfl (by kernel_rfl) (by kernel_rfl) (by kernel_rfl) rfl (.pure (by rfl) (fun w' hw' => op_load rfl rfl (hX.below hw' hxs))) ?_
  simp only [Act.put, List.setIfInBounds_toArray, List.set_cons_zero, List.set_cons_succ]
  refine wpFix_take (i := 9) (v := .int .u8 ((b : Nat) : Int)) (some 23) (by simp only [List.getElem?_toArray, List.getElem?_cons_succ, List.getElem?_cons_zero]; rfl) rfl (by kernel_rfl) (by kernel_rfl) (by kernel_rfl) rfl (.pure (by rfl) (fun w' _ => by rfl)) ?_
  simp only [Act.put, List.setIfInBounds_toArray, List.set_cons_zero, List.set_cons_succ]
  refine wpFix_take (i := 10) (v := .int .u8 ((b : Nat) : Int)) (some 24) (by simp only [List.getElem?_toArray, List.getElem?_cons_succ, List.getElem?_cons_zero]; rfl) rfl (by kernel_rfl) (by kernel_rfl) (by kernel_rfl) rfl (.pure (by rfl) (fun w' _ => by rfl)) ?_
  simp only [Act.put, List.setIfInBounds_toArray, List.set_cons_zero, List.set_cons_succ]
  refine wpFix_take (i := 11) (v := cval (fromTo b b)) (some 25) (by simp only [List.getElem?_toArray, List.getElem?_cons_succ, List.getElem?_cons_zero]; rfl) rfl (by kernel_rfl) (by kernel_rfl) (by kernel_rfl) rfl (.call 23 #[.int .u8 ((b : Nat) : Int), .int .u8 ((b : Nat) : Int)] (by rfl) (fun w' _ => call_range rfl rfl rfl rfl) (fun w' hw' => (range_any b b hb hb w').mono fun e w2 ⟨h1, h2⟩ => ⟨h1, hw'.trans (h2.mono hw'.size)⟩)) ?_
  simp only [Act.put, List.setIfInBounds_toArray, List.set_cons_zero, List.set_cons_succ]
  refine wpFix_take (i := 12) (v := .bool true) (some 26) (by simp only [List.getElem?_toArray, List.getElem?_cons_succ, List.getElem?_cons_zero]; rfl) rfl (by kernel_rfl) (by kernel_rfl) (by kernel_rfl) rfl (.pure (by rfl) (fun w' _ => op_eqClass (p := setOf [b]) (q := fromTo b b) rfl rfl rfl (one_range b))) ?_
  simp only [Act.put, List.setIfInBounds_toArray, List.set_cons_zero, List.set_cons_succ]
  refine wpFix_take (i := 13) (v := .bool true) (some 27) (by simp only [List.getElem?_toArray, List.getElem?_cons_succ, List.getElem?_cons_zero]; rfl) rfl (by kernel_rfl) (by kernel_rfl) (by kernel_rfl) rfl (.pure (by rfl) (fun w' _ => by rfl)) ?_
  simp only [Act.put, List.setIfInBounds_toArray, List.set_cons_zero, List.set_cons_succ]
  refine wpFix_take (i := 14) (v := .bool true) (some 28) (by simp only [List.getElem?_toArray, List.getElem?_cons_succ, List.getElem?_cons_zero]; rfl) rfl (by kernel_rfl) (by kernel_rfl) (by kernel_rfl) rfl (.pure (by rfl) (fun w' _ => by rfl)) ?_
  simp only [Act.put, List.setIfInBounds_toArray, List.set_cons_zero, List.set_cons_succ]
  refine wpFix_take (i := 15) (v := cval (setOf [b])) (some 29) (by simp only [List.getElem?_toArray, List.getElem?_cons_succ, List.getElem?_cons_zero]; rfl) rfl (by kernel_rfl) (by kernel_rfl) (by kernel_rfl) rfl (.pure (by rfl) (fun w' hw' => op_load rfl rfl (hX.below hw' hxs))) ?_
  simp only [Act.put, List.setIfInBounds_toArray, List.set_cons_zero, List.set_cons_succ]
  refine wpFix_take (i := 16) (v := .int .i64 1) (some 30) (by simp only [List.getElem?_toArray, List.getElem?_cons_succ, List.getElem?_cons_zero]; rfl) rfl (by kernel_rfl) (by kernel_rfl) (by kernel_rfl) rfl (.call 16 #[cval (setOf [b])] (by rfl) (fun w' _ => call_len_ rfl rfl rfl) (fun w' hw' => (Hone.out w').mono fun e w2 ⟨h1, h2⟩ => ⟨h1, hw'.trans (h2.mono hw'.size)⟩)) ?_
  simp only [Act.put, List.setIfInBounds_toArray, List.set_cons_zero, List.set_cons_succ]
  refine wpFix_take (i := 17) (v := .bool true) (some 31) (by simp only [List.getElem?_toArray, List.getElem?_cons_succ, List.getElem?_cons_zero]; rfl) rfl (by kernel_rfl) (by kernel_rfl) (by kernel_rfl) rfl (.pure (by rfl) (fun w' _ => op_eqInt rfl rfl rfl rfl)) ?_
  simp only [Act.put, List.setIfInBounds_toArray, List.set_cons_zero, List.set_cons_succ]
  refine wpFix_take (i := 18) (v := .bool true) (some 32) (by simp only [List.getElem?_toArray, List.getElem?_cons_succ, List.getElem?_cons_zero]; rfl) rfl (by kernel_rfl) (by kernel_rfl) (by kernel_rfl) rfl (.pure (by rfl) (fun w' _ => by rfl)) ?_
  simp only [Act.put, List.setIfInBounds_toArray, List.set_cons_zero, List.set_cons_succ]
  refine wpFix_take (i := 19) (v := .bool true) (some 33) (by simp only [List.getElem?_toArray, List.getElem?_cons_succ, List.getElem?_cons_zero]; rfl) rfl (by kernel_rfl) (by kernel_rfl) (by kernel_rfl) rfl (.pure (by rfl) (fun w' _ => by rfl)) ?_
  simp only [Act.put, List.setIfInBounds_toArray, List.set_cons_zero, List.set_cons_succ]
  refine wpFix_take (i := 20) (v := cval (foldOf (setOf [b]))) (some 34) (by simp only [List.getElem?_toArray, List.getElem?_cons_succ, List.getElem?_cons_zero]; rfl) rfl (by kernel_rfl) (by kernel_rfl) (by kernel_rfl) rfl (.pure (by rfl) (fun w' hw' => op_load rfl rfl (hF.below hw' hfs))) ?_
  simp only [Act.put, List.setIfInBounds_toArray, List.set_cons_zero, List.set_cons_succ]
  refine wpFix_take (i := 21) (v := .int .u8 ((b : Nat) : Int)) (some 35) (by simp only [List.getElem?_toArray, List.getElem?_cons_succ, List.getElem?_cons_zero]; rfl) rfl (by kernel_rfl) (by kernel_rfl) (by kernel_rfl) rfl (.pure (by rfl) (fun w' _ => by rfl)) ?_
  simp only [Act.put, List.setIfInBounds_toArray, List.set_cons_zero, List.set_cons_succ]
  refine wpFix_take (i := 22) (v := .bool true) (some 36) (by simp only [List.getElem?_toArray, List.getElem?_cons_succ, List.getElem?_cons_zero]; rfl) rfl (by kernel_rfl) (by kernel_rfl) (by kernel_rfl) rfl (.call 22 #[cval (foldOf (setOf [b])), .int .u8 ((b : Nat) : Int)] (by rfl) (fun w' _ => call_has rfl rfl rfl rfl) (fun w' hw' => (Hfb.out w').mono fun e w2 ⟨h1, h2⟩ => ⟨h1, hw'.trans (h2.mono hw'.size)⟩)) ?_
  simp only [Act.put, List.setIfInBounds_toArray, List.set_cons_zero, List.set_cons_succ]
  refine wpFix_take (i := 23) (v := .bool true) (some 37) (by simp only [List.getElem?_toArray, List.getElem?_cons_succ, List.getElem?_cons_zero]; rfl) rfl (by kernel_rfl) (by kernel_rfl) (by kernel_rfl) rfl (.pure (by rfl) (fun w' _ => by rfl)) ?_
  simp only [Act.put, List.setIfInBounds_toArray, List.set_cons_zero, List.set_cons_succ]
  refine wpFix_take (i := 24) (v := .bool true) (some 38) (by simp only [List.getElem?_toArray, List.getElem?_cons_succ, List.getElem?_cons_zero]; rfl) rfl (by kernel_rfl) (by kernel_rfl) (by kernel_rfl) rfl (.pure (by rfl) (fun w' _ => by rfl)) ?_
  simp only [Act.put, List.setIfInBounds_toArray, List.set_cons_zero, List.set_cons_succ]
  refine wpFix_take (i := 25) (v := cval (foldOf (setOf [b]))) (some 39) (by simp only [List.getElem?_toArray, List.getElem?_cons_succ, List.getElem?_cons_zero]; rfl) rfl (by kernel_rfl) (by kernel_rfl) (by kernel_rfl) rfl (.pure (by rfl) (fun w' hw' => op_load rfl rfl (hF.below hw' hfs))) ?_
  simp only [Act.put, List.setIfInBounds_toArray, List.set_cons_zero, List.set_cons_succ]
  refine wpFix_take (i := 26) (v := .int .u8 ((c : Nat) : Int)) (some 40) (by simp only [List.getElem?_toArray, List.getElem?_cons_succ, List.getElem?_cons_zero]; rfl) rfl (by kernel_rfl) (by kernel_rfl) (by kernel_rfl) rfl (.pure (by rfl) (fun w' _ => by rfl)) ?_
  simp only [Act.put, List.setIfInBounds_toArray, List.set_cons_zero, List.set_cons_succ]
  refine wpFix_take (i := 27) (v := .bool true) (some 41) (by simp only [List.getElem?_toArray, List.getElem?_cons_succ, List.getElem?_cons_zero]; rfl) rfl (by kernel_rfl) (by kernel_rfl) (by kernel_rfl) rfl (.call 22 #[cval (foldOf (setOf [b])), .int .u8 ((c : Nat) : Int)] (by rfl) (fun w' _ => call_has rfl rfl rfl rfl) (fun w' hw' => (Hfc.out w').mono fun e w2 ⟨h1, h2⟩ => ⟨h1, hw'.trans (h2.mono hw'.size)⟩)) ?_
  simp only [Act.put, List.setIfInBounds_toArray, List.set_cons_zero, List.set_cons_succ]
  refine wpFix_take (i := 28) (v := .int .u8 ((b : Nat) : Int)) (some 42) (by simp only [List.getElem?_toArray, List.getElem?_cons_succ, List.getElem?_cons_zero]; rfl) rfl (by kernel_rfl) (by kernel_rfl) (by kernel_rfl) rfl (.pure (by rfl) (fun w' _ => by rfl)) ?_
  simp only [Act.put, List.setIfInBounds_toArray, List.set_cons_zero, List.set_cons_succ]
  refine wpFix_take (i := 29) (v := .int .u8 ((c : Nat) : Int)) (some 43) (by simp only [List.getElem?_toArray, List.getElem?_cons_succ, List.getElem?_cons_zero]; rfl) rfl (by kernel_rfl) (by kernel_rfl) (by kernel_rfl) rfl (.pure (by rfl) (fun w' _ => by rfl)) ?_
  simp only [Act.put, List.setIfInBounds_toArray, List.set_cons_zero, List.set_cons_succ]
  refine wpFix_take (i := 30) (v := .bool true) (some 44) (by simp only [List.getElem?_toArray, List.getElem?_cons_succ, List.getElem?_cons_zero]; rfl) rfl (by kernel_rfl) (by kernel_rfl) (by kernel_rfl) rfl (.pure (by rfl) (fun w' _ => op_eqInt rfl rfl rfl hsame)) ?_
  simp only [Act.put, List.setIfInBounds_toArray, List.set_cons_zero, List.set_cons_succ]
  refine wpFix_take (i := 31) (v := .bool true) (some 45) (by simp only [List.getElem?_toArray, List.getElem?_cons_succ, List.getElem?_cons_zero]; rfl) rfl (by kernel_rfl) (by kernel_rfl) (by kernel_rfl) rfl (.pure (by rfl) (fun w' _ => by rfl)) ?_
  simp only [Act.put, List.setIfInBounds_toArray, List.set_cons_zero, List.set_cons_succ]
  refine wpFix_take (i := 32) (v := undef) (some 46) (by simp only [List.getElem?_toArray, List.getElem?_cons_succ, List.getElem?_cons_zero]; rfl) rfl (by kernel_rfl) (by kernel_rfl) (by kernel_rfl) rfl (.not (by rfl)) ?_
  simp only [Act.put, List.setIfInBounds_toArray, List.set_cons_zero, List.set_cons_succ]
  refine wpFix_take (i := 33) (v := undef) (some 47) (by simp only [List.getElem?_toArray, List.getElem?_cons_succ, List.getElem?_cons_zero]; rfl) rfl (by kernel_rfl) (by kernel_rfl) (by kernel_rfl) rfl (.not (by rfl)) ?_
  simp only [Act.put, List.setIfInBounds_toArray, List.set_cons_zero, List.set_cons_succ]
  refine wpFix_take (i := 34) (v := undef) (some 48) (by simp only [List.getElem?_toArray, List.getElem?_cons_succ, List.getElem?_cons_zero]; rfl) rfl (by kernel_rfl) (by kernel_rfl) (by kernel_rfl) rfl (.not (by rfl)) ?_
  simp only [Act.put, List.setIfInBounds_toArray, List.set_cons_zero, List.set_cons_succ]
  refine wpFix_take (i := 35) (v := undef) (some 49) (by simp only [List.getElem?_toArray, List.getElem?_cons_succ, List.getElem?_cons_zero]; rfl) rfl (by kernel_rfl) (by kernel_rfl) (by kernel_rfl) rfl (.not (by rfl)) ?_
  simp only [Act.put, List.setIfInBounds_toArray, List.set_cons_zero, List.set_cons_succ]
  refine wpFix_take (i := 36) (v := undef) (some 50) (by simp only [List.getElem?_toArray, List.getElem?_cons_succ, List.getElem?_cons_zero]; rfl) rfl (by kernel_rfl) (by kernel_rfl) (by kernel_rfl) rfl (.not (by rfl)) ?_
  simp only [Act.put, List.setIfInBounds_toArray, List.set_cons_zero, List.set_cons_succ]
  refine wpFix_take (i := 37) (v := undef) (some 51) (by simp only [List.getElem?_toArray, List.getElem?_cons_succ, List.getElem?_cons_zero]; rfl) rfl (by kernel_rfl) (by kernel_rfl) (by kernel_rfl) rfl (.not (by rfl)) ?_
  simp only [Act.put, List.setIfInBounds_toArray, List.set_cons_zero, List.set_cons_succ]
  refine wpFix_take (i := 38) (v := .bool true) (some 52) (by simp only [List.getElem?_toArray, List.getElem?_cons_succ, List.getElem?_cons_zero]; rfl) rfl (by kernel_rfl) (by kernel_rfl) (by kernel_rfl) rfl (.pure (by rfl) (fun w' _ => by rfl)) ?_
  simp only [Act.put, List.setIfInBounds_toArray, List.set_cons_zero, List.set_cons_succ]
  refine wpFix_take (i := 39) (v := .bool true) (some 53) (by simp only [List.getElem?_toArray, List.getElem?_cons_succ, List.getElem?_cons_zero]; rfl) rfl (by kernel_rfl) (by kernel_rfl) (by kernel_rfl) rfl (.pure (by rfl) (fun w' _ => op_eqBool rfl rfl rfl)) ?_
  simp only [Act.put, List.setIfInBounds_toArray, List.set_cons_zero, List.set_cons_succ]
  refine wpFix_take (i := 40) (v := .bool true) (some 54) (by simp only [List.getElem?_toArray, List.getElem?_cons_succ, List.getElem?_cons_zero]; rfl) rfl (by kernel_rfl) (by kernel_rfl) (by kernel_rfl) rfl (.pure (by rfl) (fun w' _ => by rfl)) ?_
  simp only [Act.put, List.setIfInBounds_toArray, List.set_cons_zero, List.set_cons_succ]
  refine wpFix_take (i := 41) (v := .bool true) (some 4) (by simp only [List.getElem?_toArray, List.getElem?_cons_succ, List.getElem?_cons_zero]; rfl) rfl (by kernel_rfl) (by kernel_rfl) (by kernel_rfl) rfl (.pure (by rfl) (fun w' _ => by rfl)) ?_
  simp only [Act.put, List.setIfInBounds_toArray, List.set_cons_zero, List.set_cons_succ]
  refine wpFix_done (by kernel_rfl) (fun w' hw' => ?_) _
  go_wp2
  go_ret
  exact ⟨rfl, hbw.trans (hw'.mono hbw.size)⟩

set_option maxRecDepth 100000 in
set_option maxHeartbeats 8000000 in
theorem one_walk_yes (b c : Nat) (hb : b < 256) (hc : c < 256) (hsame : ((b : Nat) : Int) ≠ ((c : Nat) : Int)) (hoth : ((other b : Nat) : Int) = ((c : Nat) : Int)) (w : World) (hT : Tab64 w) :
    Calls Tryd.prog 5 #[.int .u8 ((b : Nat) : Int), .int .u8 ((c : Nat) : Int)] w fun e w' => e = .returned (.bool true) ∧ Below w.heap.size w w' := by
  have HT := Lib.hid hT
  clear hT
  have Hxc : Hid (∀ W : World, Calls Tryd.prog 22 #[cval (setOf [b]), .int .u8 ((c : Nat) : Int)] W fun e w' => e = .returned (.bool false) ∧ Below W.heap.size W w') := fun W => by
    have := has_any (setOf [b]) c hc W
    skip
    rwa [one_other b c (by omega)] at this
  have Hfb : Hid (∀ W : World, Calls Tryd.prog 22 #[cval (foldOf (setOf [b])), .int .u8 ((b : Nat) : Int)] W fun e w' => e = .returned (.bool true) ∧ Below W.heap.size W w') := fun W => by
    have := has_any (foldOf (setOf [b])) b hb W
    rwa [one_fold b] at this
  have Hfc : Hid (∀ W : World, Calls Tryd.prog 22 #[cval (foldOf (setOf [b])), .int .u8 ((c : Nat) : Int)] W fun e w' => e = .returned (.bool true) ∧ Below W.heap.size W w') := fun W => by
    have := has_any (foldOf (setOf [b])) c hc W
    skip
    rwa [one_fold2 b c (by omega) (by omega)] at this
  have Hone : Hid (∀ W : World, Calls Tryd.prog 16 #[cval (setOf [b])] W fun e w' => e = .returned (.int .i64 1) ∧ Below W.heap.size W w') := fun W => by
    have := len_any (setOf [b]) W
    rwa [one_pop b hb] at this
  have Hother : Hid (∀ W : World, Calls Tryd.prog 24 #[.int .i64 ((b : Nat) : Int)] W fun e w' => e = .returned (.int .i64 ((other b : Nat) : Int)) ∧ Below W.heap.size W w') := fun W =>
    (other_any b hb W).mono fun _ _ h => ⟨h.1, h.2 ▸ Below.refl _ _⟩
  have Hof := Lib.hid (fun A c W h => of_any [b] (by simpa using hb) A c W (by simp) h)
  have Hfold := Lib.hid (fun (W : World) (h : Tab64 W) => fold_any (setOf [b]) W h)
  have Hsame := Lib.hid hsame
  clear hsame
  go_enter Tryd.func5, Tryd.ntmps5
  go_wp2_with fail
  refine (speaks_any _ HT.out).mono ?_
  rintro e w1 ⟨rfl, hb1⟩
  go_wp2_with fail
  refine (Hof.out _ _ _ (new_rd w1 5 (0, 0) (u8s [b]))).mono ?_
  rintro e w2 ⟨rfl, hbel2⟩
  have hb2 : Below w.heap.size w w2 := hb1.trans ((((Below.refl w1.heap.size w1).alloc (Nat.le_refl _) _).trans (hbel2.mono (by simp))).mono hb1.size)
  clear hbel2 hb1
  go_wp2_with fail
  have hX2 := Blk.new w2 24 (ccells (setOf [b]))
  have hb3 : Below w.heap.size w (w2.alloc (.cells (ccells (setOf [b])) 24)) := hb2.alloc (by have := hb2.size; omega) _
  have hgt : w2.heap.size < (w2.alloc (.cells (ccells (setOf [b])) 24)).heap.size := by simp
  refine (Hfold.out _ (tab_below HT.out hb3 (Nat.le_refl _))).mono ?_
  rintro e w3 ⟨rfl, hbel3⟩
  have hX3 := hX2.below hbel3 hgt
  have hb4 := hb3.trans (hbel3.mono hb3.size)
  clear hX2 hb2 hb3 hbel3 hgt
  go_upto_region 5 with fail
  have hF := Blk.new w3 24 (ccells (foldOf (setOf [b])))
  have hX := hX3.alloc (.cells (ccells (foldOf (setOf [b]))) 24)
  have hbw : Below w.heap.size w (w3.alloc (.cells (ccells (foldOf (setOf [b]))) 24)) := hb4.alloc (by have := hb4.size; omega) _
  clear hX3 hb4
  generalize w3.alloc (.cells (ccells (foldOf (setOf [b]))) 24) = wr at *
  have hxs := hX.lt
  have hfs := hF.lt
  have hsame := Hsame.out
  refine wp_region_fix (S := fun w' => Below wr.heap.size wr w') (by kernel_rfl) ((Below.refl _ _).drew) (fun i => (([fun u => u = cval (setOf [b]), fun u => u = .int .u8 ((c : Nat) : Int), fun u => u = .bool false, fun u => u = .int .u8 ((b : Nat) : Int), fun u => u = .int .u8 ((c : Nat) : Int), fun u => u = .bool false, fun u => u = .bool true, fun u => u = .bool true, fun u => u = cval (setOf [b]), fun u => u = .int .u8 ((b : Nat) : Int), fun u => u = .int .u8 ((b : Nat) : Int), fun u => u = cval (fromTo b b), fun u => u = .bool true, fun u => u = .bool true, fun u => u = .bool true, fun u => u = cval (setOf [b]), fun u => u = .int .i64 1, fun u => u = .bool true, fun u => u = .bool true, fun u => u = .bool true, fun u => u = cval (foldOf (setOf [b])), fun u => u = .int .u8 ((b : Nat) : Int), fun u => u = .bool true, fun u => u = .bool true, fun u => u = .bool true, fun u => u = cval (foldOf (setOf [b])), fun u => u = .int .u8 ((c : Nat) : Int), fun u => u = .bool true, fun u => u = .int .u8 ((b : Nat) : Int), fun u => u = .int .u8 ((c : Nat) : Int), fun u => u = .bool false, fun u => u = .bool false, fun u => u = .int .u8 ((b : Nat) : Int), fun u => u = .int .i64 ((b : Nat) : Int), fun u => u = .int .i64 ((other b : Nat) : Int), fun u => u = .int .u8 ((c : Nat) : Int), fun u => u = .int .i64 ((c : Nat) : Int), fun u => u = .bool true, fun u => u = .bool true, fun u => u = .bool true, fun u => u = .bool true, fun u => u = .bool true] : List (Value → Prop))[i]?).getD (fun _ => True)) ?_
  refine wpFix_take (i := 0) (v := cval (setOf [b])) (some 14) (by simp only [List.getElem?_toArray, List.getElem?_cons_zero]; rfl) rfl (by kernel_rfl) (by kernel_rfl) (by kernel_rfl) rfl (.pure (by rfl) (fun w' hw' => op_load rfl rfl (hX.below hw' hxs))) ?_
  simp only [Act.put, List.setIfInBounds_toArray, List.set_cons_zero, List.set_cons_succ]
  refine wpFix_take (i := 1) (v := .int .u8 ((c : Nat) : Int)) (some 15) (by simp only [List.getElem?_toArray, List.getElem?_cons_succ, List.getElem?_cons_zero]; rfl) rfl (by kernel_rfl) (by kernel_rfl) (by kernel_rfl) rfl (.pure (by rfl) (fun w' _ => by rfl)) ?_
  simp only [Act.put, List.setIfInBounds_toArray, List.set_cons_zero, List.set_cons_succ]
  refine wpFix_take (i := 2) (v := .bool false) (some 16) (by simp only [List.getElem?_toArray, List.getElem?_cons_succ, List.getElem?_cons_zero]; rfl) rfl (by kernel_rfl) (by kernel_rfl) (by kernel_rfl) rfl (.call 22 #[cval (setOf [b]), .int .u8 ((c : Nat) : Int)] (by rfl) (fun w' _ => call_has rfl rfl rfl rfl) (fun w' hw' => (Hxc.out w').mono fun e w2 ⟨h1, h2⟩ => ⟨h1, hw'.trans (h2.mono hw'.size)⟩)) ?_
  simp only [Act.put, List.setIfInBounds_toArray, List.set_cons_zero, List.set_cons_succ]
  refine wpFix_take (i := 3) (v := .int .u8 ((b : Nat) : Int)) (some 17) (by simp only [List.getElem?_toArray, List.getElem?_cons_succ, List.getElem?_cons_zero]; rfl) rfl (by kernel_rfl) (by kernel_rfl) (by kernel_rfl) rfl (.pure (by rfl) (fun w' _ => by rfl)) ?_
  simp only [Act.put, List.setIfInBounds_toArray, List.set_cons_zero, List.set_cons_succ]
  refine wpFix_take (i := 4) (v := .int .u8 ((c : Nat) : Int)) (some 18) (by simp only [List.getElem?_toArray, List.getElem?_cons_succ, List.getElem?_cons_zero]; rfl) rfl (by kernel_rfl) (by kernel_rfl) (by kernel_rfl) rfl (.pure (by rfl) (fun w' _ => by rfl)) ?_
  simp only [Act.put, List.setIfInBounds_toArray, List.set_cons_zero, List.set_cons_succ]
  refine wpFix_take (i := 5) (v := .bool false) (some 19) (by simp only [List.getElem?_toArray, List.getElem?_cons_succ, List.getElem?_cons_zero]; rfl) rfl (by kernel_rfl) (by kernel_rfl) (by kernel_rfl) rfl (.pure (by rfl) (fun w' _ => op_neInt rfl rfl rfl hsame)) ?_
  simp only [Act.put, List.setIfInBounds_toArray, List.set_cons_zero, List.set_cons_succ]
  refine wpFix_take (i := 6) (v := .bool true) (some 20) (by simp only [List.getElem?_toArray, List.getElem?_cons_succ, List.getElem?_cons_zero]; rfl) rfl (by kernel_rfl) (by kernel_rfl) (by kernel_rfl) rfl (.pure (by rfl) (fun w' _ => op_eqBool rfl rfl rfl)) ?_
  simp only [Act.put, List.setIfInBounds_toArray, List.set_cons_zero, List.set_cons_succ]
  refine wpFix_take (i := 7) (v := .bool true) (some 21) (by simp only [List.getElem?_toArray, List.getElem?_cons_succ, List.getElem?_cons_zero]; rfl) rfl (by kernel_rfl) (by kernel_rfl) (by kernel_rfl) rfl (.pure (by rfl) (fun w' _ => by rfl)) ?_
  simp only [Act.put, List.setIfInBounds_toArray, List.set_cons_zero, List.set_cons_succ]
  refine wpFix_take (i := 8) (v := cval (setOf [b])) (some 22) (by simp only [List.getElem?_toArray, List.getElem?_cons_succ, List.getElem?_cons_zero]; rfl) rfl (by kernel_rfl) (by kernel_rfl) (by kernel_rfl) rfl (.pure (by rfl) (fun w' hw' => op_load rfl rfl (hX.below hw' hxs))) ?_
  simp only [Act.put, List.setIfInBounds_toArray, List.set_cons_zero, List.set_cons_succ]
  refine wpFix_take (i := 9) (v := .int .u8 ((b : Nat) : Int)) (some 23) (by simp only [List.getElem?_toArray, List.getElem?_cons_succ, List.getElem?_cons_zero]; rfl) rfl (by kernel_rfl) (by kernel_rfl) (by kernel_rfl) rfl (.pure (by rfl) (fun w' _ => by rfl)) ?_
  simp only [Act.put, List.setIfInBounds_toArray, List.set_cons_zero, List.set_cons_succ]
  refine wpFix_take (i := 10) (v := .int .u8 ((b : Nat) : Int)) (some 24) (by simp only [List.getElem?_toArray, List.getElem?_cons_succ, List.getElem?_cons_zero]; rfl) rfl (by kernel_rfl) (by kernel_rfl) (by kernel_rfl) rfl (.pure (by rfl) (fun w' _ => by rfl)) ?_
  simp only [Act.put, List.setIfInBounds_toArray, List.set_cons_zero, List.set_cons_succ]
  refine wpFix_take (i := 11) (v := cval (fromTo b b)) (some 25) (by simp only [List.getElem?_toArray, List.getElem?_cons_succ, List.getElem?_cons_zero]; rfl) rfl (by kernel_rfl) (by kernel_rfl) (by kernel_rfl) rfl (.call 23 #[.int .u8 ((b : Nat) : Int), .int .u8 ((b : Nat) : Int)] (by rfl) (fun w' _ => call_range rfl rfl rfl rfl) (fun w' hw' => (range_any b b hb hb w').mono fun e w2 ⟨h1, h2⟩ => ⟨h1, hw'.trans (h2.mono hw'.size)⟩)) ?_
  simp only [Act.put, List.setIfInBounds_toArray, List.set_cons_zero, List.set_cons_succ]
  refine wpFix_take (i := 12) (v := .bool true) (some 26) (by simp only [List.getElem?_toArray, List.getElem?_cons_succ, List.getElem?_cons_zero]; rfl) rfl (by kernel_rfl) (by kernel_rfl) (by kernel_rfl) rfl (.pure (by rfl) (fun w' _ => op_eqClass (p := setOf [b]) (q := fromTo b b) rfl rfl rfl (one_range b))) ?_
  simp only [Act.put, List.setIfInBounds_toArray, List.set_cons_zero, List.set_cons_succ]
  refine wpFix_take (i := 13) (v := .bool true) (some 27) (by simp only [List.getElem?_toArray, List.getElem?_cons_succ, List.getElem?_cons_zero]; rfl) rfl (by kernel_rfl) (by kernel_rfl) (by kernel_rfl) rfl (.pure (by rfl) (fun w' _ => by rfl)) ?_
  simp only [Act.put, List.setIfInBounds_toArray, List.set_cons_zero, List.set_cons_succ]
  refine wpFix_take (i := 14) (v := .bool true) (some 28) (by simp only [List.getElem?_toArray, List.getElem?_cons_succ, List.getElem?_cons_zero]; rfl) rfl (by kernel_rfl) (by kernel_rfl) (by kernel_rfl) rfl (.pure (by rfl) (fun w' _ => by rfl)) ?_
  simp only [Act.put, List.setIfInBounds_toArray, List.set_cons_zero, List.set_cons_succ]
  refine wpFix_take (i := 15) (v := cval (setOf [b])) (some 29) (by simp only [List.getElem?_toArray, List.getElem?_cons_succ, List.getElem?_cons_zero]; rfl) rfl (by kernel_rfl) (by kernel_rfl) (by kernel_rfl) rfl (.pure (by rfl) (fun w' hw' => op_load rfl rfl (hX.below hw' hxs))) ?_
  simp only [Act.put, List.setIfInBounds_toArray, List.set_cons_zero, List.set_cons_succ]
  refine wpFix_take (i := 16) (v := .int .i64 1) (some 30) (by simp only [List.getElem?_toArray, List.getElem?_cons_succ, List.getElem?_cons_zero]; rfl) rfl (by kernel_rfl) (by kernel_rfl) (by kernel_rfl) rfl (.call 16 #[cval (setOf [b])] (by rfl) (fun w' _ => call_len_ rfl rfl rfl) (fun w' hw' => (Hone.out w').mono fun e w2 ⟨h1, h2⟩ => ⟨h1, hw'.trans (h2.mono hw'.size)⟩)) ?_
  simp only [Act.put, List.setIfInBounds_toArray, List.set_cons_zero, List.set_cons_succ]
  refine wpFix_take (i := 17) (v := .bool true) (some 31) (by simp only [List.getElem?_toArray, List.getElem?_cons_succ, List.getElem?_cons_zero]; rfl) rfl (by kernel_rfl) (by kernel_rfl) (by kernel_rfl) rfl (.pure (by rfl) (fun w' _ => op_eqInt rfl rfl rfl rfl)) ?_
  simp only [Act.put, List.setIfInBounds_toArray, List.set_cons_zero, List.set_cons_succ]
  refine wpFix_take (i := 18) (v := .bool true) (some 32) (by simp only [List.getElem?_toArray, List.getElem?_cons_succ, List.getElem?_cons_zero]; rfl) rfl (by kernel_rfl) (by kernel_rfl) (by kernel_rfl) rfl (.pure (by rfl) (fun w' _ => by rfl)) ?_
  simp only [Act.put, List.setIfInBounds_toArray, List.set_cons_zero, List.set_cons_succ]
  refine wpFix_take (i := 19) (v := .bool true) (some 33) (by simp only [List.getElem?_toArray, List.getElem?_cons_succ, List.getElem?_cons_zero]; rfl) rfl (by kernel_rfl) (by kernel_rfl) (by kernel_rfl) rfl (.pure (by rfl) (fun w' _ => by rfl)) ?_
  simp only [Act.put, List.setIfInBounds_toArray, List.set_cons_zero, List.set_cons_succ]
  refine wpFix_take (i := 20) (v := cval (foldOf (setOf [b]))) (some 34) (by simp only [List.getElem?_toArray, List.getElem?_cons_succ, List.getElem?_cons_zero]; rfl) rfl (by kernel_rfl) (by kernel_rfl) (by kernel_rfl) rfl (.pure (by rfl) (fun w' hw' => op_load rfl rfl (hF.below hw' hfs))) ?_
  simp only [Act.put, List.setIfInBounds_toArray, List.set_cons_zero, List.set_cons_succ]
  refine wpFix_take (i := 21) (v := .int .u8 ((b : Nat) : Int)) (some 35) (by simp only [List.getElem?_toArray, List.getElem?_cons_succ, List.getElem?_cons_zero]; rfl) rfl (by kernel_rfl) (by kernel_rfl) (by kernel_rfl) rfl (.pure (by rfl) (fun w' _ => by rfl)) ?_
  simp only [Act.put, List.setIfInBounds_toArray, List.set_cons_zero, List.set_cons_succ]
  refine wpFix_take (i := 22) (v := .bool true) (some 36) (by simp only [List.getElem?_toArray, List.getElem?_cons_succ, List.getElem?_cons_zero]; rfl) rfl (by kernel_rfl) (by kernel_rfl) (by kernel_rfl) rfl (.call 22 #[cval (foldOf (setOf [b])), .int .u8 ((b : Nat) : Int)] (by rfl) (fun w' _ => call_has rfl rfl rfl rfl) (fun w' hw' => (Hfb.out w').mono fun e w2 ⟨h1, h2⟩ => ⟨h1, hw'.trans (h2.mono hw'.size)⟩)) ?_
  simp only [Act.put, List.setIfInBounds_toArray, List.set_cons_zero, List.set_cons_succ]
  refine wpFix_take (i := 23) (v := .bool true) (some 37) (by simp only [List.getElem?_toArray, List.getElem?_cons_succ, List.getElem?_cons_zero]; rfl) rfl (by kernel_rfl) (by kernel_rfl) (by kernel_rfl) rfl (.pure (by rfl) (fun w' _ => by rfl)) ?_
  simp only [Act.put, List.setIfInBounds_toArray, List.set_cons_zero, List.set_cons_succ]
  refine wpFix_take (i := 24) (v := .bool true) (some 38) (by simp only [List.getElem?_toArray, List.getElem?_cons_succ, List.getElem?_cons_zero]; rfl) rfl (by kernel_rfl) (by kernel_rfl) (by kernel_rfl) rfl (.pure (by rfl) (fun w' _ => by rfl)) ?_
  simp only [Act.put, List.setIfInBounds_toArray, List.set_cons_zero, List.set_cons_succ]
  refine wpFix_take (i := 25) (v := cval (foldOf (setOf [b]))) (some 39) (by simp only [List.getElem?_toArray, List.getElem?_cons_succ, List.getElem?_cons_zero]; rfl) rfl (by kernel_rfl) (by kernel_rfl) (by kernel_rfl) rfl (.pure (by rfl) (fun w' hw' => op_load rfl rfl (hF.below hw' hfs))) ?_
  simp only [Act.put, List.setIfInBounds_toArray, List.set_cons_zero, List.set_cons_succ]
  refine wpFix_take (i := 26) (v := .int .u8 ((c : Nat) : Int)) (some 40) (by simp only [List.getElem?_toArray, List.getElem?_cons_succ, List.getElem?_cons_zero]; rfl) rfl (by kernel_rfl) (by kernel_rfl) (by kernel_rfl) rfl (.pure (by rfl) (fun w' _ => by rfl)) ?_
  simp only [Act.put, List.setIfInBounds_toArray, List.set_cons_zero, List.set_cons_succ]
  refine wpFix_take (i := 27) (v := .bool true) (some 41) (by simp only [List.getElem?_toArray, List.getElem?_cons_succ, List.getElem?_cons_zero]; rfl) rfl (by kernel_rfl) (by kernel_rfl) (by kernel_rfl) rfl (.call 22 #[cval (foldOf (setOf [b])), .int .u8 ((c : Nat) : Int)] (by rfl) (fun w' _ => call_has rfl rfl rfl rfl) (fun w' hw' => (Hfc.out w').mono fun e w2 ⟨h1, h2⟩ => ⟨h1, hw'.trans (h2.mono hw'.size)⟩)) ?_
  simp only [Act.put, List.setIfInBounds_toArray, List.set_cons_zero, List.set_cons_succ]
  refine wpFix_take (i := 28) (v := .int .u8 ((b : Nat) : Int)) (some 42) (by simp only [List.getElem?_toArray, List.getElem?_cons_succ, List.getElem?_cons_zero]; rfl) rfl (by kernel_rfl) (by kernel_rfl) (by kernel_rfl) rfl (.pure (by rfl) (fun w' _ => by rfl)) ?_
  simp only [Act.put, List.setIfInBounds_toArray, List.set_cons_zero, List.set_cons_succ]
  refine wpFix_take (i := 29) (v := .int .u8 ((c : Nat) : Int)) (some 43) (by simp only [List.getElem?_toArray, List.getElem?_cons_succ, List.getElem?_cons_zero]; rfl) rfl (by kernel_rfl) (by kernel_rfl) (by kernel_rfl) rfl (.pure (by rfl) (fun w' _ => by rfl)) ?_
  simp only [Act.put, List.setIfInBounds_toArray, List.set_cons_zero, List.set_cons_succ]
  refine wpFix_take (i := 30) (v := .bool false) (some 44) (by simp only [List.getElem?_toArray, List.getElem?_cons_succ, List.getElem?_cons_zero]; rfl) rfl (by kernel_rfl) (by kernel_rfl) (by kernel_rfl) rfl (.pure (by rfl) (fun w' _ => op_neInt rfl rfl rfl hsame)) ?_
  simp only [Act.put, List.setIfInBounds_toArray, List.set_cons_zero, List.set_cons_succ]
  refine wpFix_take (i := 31) (v := .bool false) (some 45) (by simp only [List.getElem?_toArray, List.getElem?_cons_succ, List.getElem?_cons_zero]; rfl) rfl (by kernel_rfl) (by kernel_rfl) (by kernel_rfl) rfl (.pure (by rfl) (fun w' _ => by rfl)) ?_
  simp only [Act.put, List.setIfInBounds_toArray, List.set_cons_zero, List.set_cons_succ]
  refine wpFix_take (i := 32) (v := .int .u8 ((b : Nat) : Int)) (some 46) (by simp only [List.getElem?_toArray, List.getElem?_cons_succ, List.getElem?_cons_zero]; rfl) rfl (by kernel_rfl) (by kernel_rfl) (by kernel_rfl) rfl (.pure (by rfl) (fun w' _ => by rfl)) ?_
  simp only [Act.put, List.setIfInBounds_toArray, List.set_cons_zero, List.set_cons_succ]
  refine wpFix_take (i := 33) (v := .int .i64 ((b : Nat) : Int)) (some 47) (by simp only [List.getElem?_toArray, List.getElem?_cons_succ, List.getElem?_cons_zero]; rfl) rfl (by kernel_rfl) (by kernel_rfl) (by kernel_rfl) rfl (.pure (by rfl) (fun w' _ => op_conv rfl rfl hb)) ?_
  simp only [Act.put, List.setIfInBounds_toArray, List.set_cons_zero, List.set_cons_succ]
  refine wpFix_take (i := 34) (v := .int .i64 ((other b : Nat) : Int)) (some 48) (by simp only [List.getElem?_toArray, List.getElem?_cons_succ, List.getElem?_cons_zero]; rfl) rfl (by kernel_rfl) (by kernel_rfl) (by kernel_rfl) rfl (.call 24 #[.int .i64 ((b : Nat) : Int)] (by rfl) (fun w' _ => call_other rfl rfl rfl) (fun w' hw' => (Hother.out w').mono fun e w2 ⟨h1, h2⟩ => ⟨h1, hw'.trans (h2.mono hw'.size)⟩)) ?_
  simp only [Act.put, List.setIfInBounds_toArray, List.set_cons_zero, List.set_cons_succ]
  refine wpFix_take (i := 35) (v := .int .u8 ((c : Nat) : Int)) (some 49) (by simp only [List.getElem?_toArray, List.getElem?_cons_succ, List.getElem?_cons_zero]; rfl) rfl (by kernel_rfl) (by kernel_rfl) (by kernel_rfl) rfl (.pure (by rfl) (fun w' _ => by rfl)) ?_
  simp only [Act.put, List.setIfInBounds_toArray, List.set_cons_zero, List.set_cons_succ]
  refine wpFix_take (i := 36) (v := .int .i64 ((c : Nat) : Int)) (some 50) (by simp only [List.getElem?_toArray, List.getElem?_cons_succ, List.getElem?_cons_zero]; rfl) rfl (by kernel_rfl) (by kernel_rfl) (by kernel_rfl) rfl (.pure (by rfl) (fun w' _ => op_conv rfl rfl hc)) ?_
  simp only [Act.put, List.setIfInBounds_toArray, List.set_cons_zero, List.set_cons_succ]
  refine wpFix_take (i := 37) (v := .bool true) (some 51) (by simp only [List.getElem?_toArray, List.getElem?_cons_succ, List.getElem?_cons_zero]; rfl) rfl (by kernel_rfl) (by kernel_rfl) (by kernel_rfl) rfl (.pure (by rfl) (fun w' _ => op_eqInt rfl rfl rfl hoth)) ?_
  simp only [Act.put, List.setIfInBounds_toArray, List.set_cons_zero, List.set_cons_succ]
  refine wpFix_take (i := 38) (v := .bool true) (some 52) (by simp only [List.getElem?_toArray, List.getElem?_cons_succ, List.getElem?_cons_zero]; rfl) rfl (by kernel_rfl) (by kernel_rfl) (by kernel_rfl) rfl (.pure (by rfl) (fun w' _ => by rfl)) ?_
  simp only [Act.put, List.setIfInBounds_toArray, List.set_cons_zero, List.set_cons_succ]
  refine wpFix_take (i := 39) (v := .bool true) (some 53) (by simp only [List.getElem?_toArray, List.getElem?_cons_succ, List.getElem?_cons_zero]; rfl) rfl (by kernel_rfl) (by kernel_rfl) (by kernel_rfl) rfl (.pure (by rfl) (fun w' _ => op_eqBool rfl rfl rfl)) ?_
  simp only [Act.put, List.setIfInBounds_toArray, List.set_cons_zero, List.set_cons_succ]
  refine wpFix_take (i := 40) (v := .bool true) (some 54) (by simp only [List.getElem?_toArray, List.getElem?_cons_succ, List.getElem?_cons_zero]; rfl) rfl (by kernel_rfl) (by kernel_rfl) (by kernel_rfl) rfl (.pure (by rfl) (fun w' _ => by rfl)) ?_
  simp only [Act.put, List.setIfInBounds_toArray, List.set_cons_zero, List.set_cons_succ]
  refine wpFix_take (i := 41) (v := .bool true) (some 4) (by simp only [List.getElem?_toArray, List.getElem?_cons_succ, List.getElem?_cons_zero]; rfl) rfl (by kernel_rfl) (by kernel_rfl) (by kernel_rfl) rfl (.pure (by rfl) (fun w' _ => by rfl)) ?_
  simp only [Act.put, List.setIfInBounds_toArray, List.set_cons_zero, List.set_cons_succ]
  refine wpFix_done (by kernel_rfl) (fun w' hw' => ?_) _
  go_wp2
  go_ret
  exact ⟨rfl, hbw.trans (hw'.mono hbw.size)⟩

set_option maxRecDepth 100000 in
set_option maxHeartbeats 8000000 in
theorem one_walk_no (b c : Nat) (hb : b < 256) (hc : c < 256) (hsame : ((b : Nat) : Int) ≠ ((c : Nat) : Int)) (hoth : ((other b : Nat) : Int) ≠ ((c : Nat) : Int)) (w : World) (hT : Tab64 w) :
    Calls Tryd.prog 5 #[.int .u8 ((b : Nat) : Int), .int .u8 ((c : Nat) : Int)] w fun e w' => e = .returned (.bool true) ∧ Below w.heap.size w w' := by
  have HT := Lib.hid hT
  clear hT
  have Hxc : Hid (∀ W : World, Calls Tryd.prog 22 #[cval (setOf [b]), .int .u8 ((c : Nat) : Int)] W fun e w' => e = .returned (.bool false) ∧ Below W.heap.size W w') := fun W => by
    have := has_any (setOf [b]) c hc W
    skip
    rwa [one_other b c (by omega)] at this
  have Hfb : Hid (∀ W : World, Calls Tryd.prog 22 #[cval (foldOf (setOf [b])), .int .u8 ((b : Nat) : Int)] W fun e w' => e = .returned (.bool true) ∧ Below W.heap.size W w') := fun W => by
    have := has_any (foldOf (setOf [b])) b hb W
    rwa [one_fold b] at this
  have Hfc : Hid (∀ W : World, Calls Tryd.prog 22 #[cval (foldOf (setOf [b])), .int .u8 ((c : Nat) : Int)] W fun e w' => e = .returned (.bool false) ∧ Below W.heap.size W w') := fun W => by
    have := has_any (foldOf (setOf [b])) c hc W
    skip
    rwa [one_fold3 b c (by omega) (by omega)] at this
  have Hone : Hid (∀ W : World, Calls Tryd.prog 16 #[cval (setOf [b])] W fun e w' => e = .returned (.int .i64 1) ∧ Below W.heap.size W w') := fun W => by
    have := len_any (setOf [b]) W
    rwa [one_pop b hb] at this
  have Hother : Hid (∀ W : World, Calls Tryd.prog 24 #[.int .i64 ((b : Nat) : Int)] W fun e w' => e = .returned (.int .i64 ((other b : Nat) : Int)) ∧ Below W.heap.size W w') := fun W =>
    (other_any b hb W).mono fun _ _ h => ⟨h.1, h.2 ▸ Below.refl _ _⟩
  have Hof := Lib.hid (fun A c W h => of_any [b] (by simpa using hb) A c W (by simp) h)
  have Hfold := Lib.hid (fun (W : World) (h : Tab64 W) => fold_any (setOf [b]) W h)
  have Hsame := Lib.hid hsame
  clear hsame
  go_enter Tryd.func5, Tryd.ntmps5
  go_wp2_with fail
  refine (speaks_any _ HT.out).mono ?_
  rintro e w1 ⟨rfl, hb1⟩
  go_wp2_with fail
  refine (Hof.out _ _ _ (new_rd w1 5 (0, 0) (u8s [b]))).mono ?_
  rintro e w2 ⟨rfl, hbel2⟩
  have hb2 : Below w.heap.size w w2 := hb1.trans ((((Below.refl w1.heap.size w1).alloc (Nat.le_refl _) _).trans (hbel2.mono (by simp))).mono hb1.size)
  clear hbel2 hb1
  go_wp2_with fail
  have hX2 := Blk.new w2 24 (ccells (setOf [b]))
  have hb3 : Below w.heap.size w (w2.alloc (.cells (ccells (setOf [b])) 24)) := hb2.alloc (by have := hb2.size; omega) _
  have hgt : w2.heap.size < (w2.alloc (.cells (ccells (setOf [b])) 24)).heap.size := by simp
  refine (Hfold.out _ (tab_below HT.out hb3 (Nat.le_refl _))).mono ?_
  rintro e w3 ⟨rfl, hbel3⟩
  have hX3 := hX2.below hbel3 hgt
  have hb4 := hb3.trans (hbel3.mono hb3.size)
  clear hX2 hb2 hb3 hbel3 hgt
  go_upto_region 5 with fail
  have hF := Blk.new w3 24 (ccells (foldOf (setOf [b])))
  have hX := hX3.alloc (.cells (ccells (foldOf (setOf [b]))) 24)
  have hbw : Below w.heap.size w (w3.alloc (.cells (ccells (foldOf (setOf [b]))) 24)) := hb4.alloc (by have := hb4.size; omega) _
  clear hX3 hb4
  generalize w3.alloc (.cells (ccells (foldOf (setOf [b]))) 24) = wr at *
  have hxs := hX.lt
  have hfs := hF.lt
  have hsame := Hsame.out
  refine wp_region_fix (S := fun w' => Below wr.heap.size wr w') (by kernel_rfl) ((Below.refl _ _).drew) (fun i => (([fun u => u = cval (setOf [b]), fun u => u = .int .u8 ((c : Nat) : Int), fun u => u = .bool false, fun u => u = .int .u8 ((b : Nat) : Int), fun u => u = .int .u8 ((c : Nat) : Int), fun u => u = .bool false, fun u => u = .bool true, fun u => u = .bool true, fun u => u = cval (setOf [b]), fun u => u = .int .u8 ((b : Nat) : Int), fun u => u = .int .u8 ((b : Nat) : Int), fun u => u = cval (fromTo b b), fun u => u = .bool true, fun u => u = .bool true, fun u => u = .bool true, fun u => u = cval (setOf [b]), fun u => u = .int .i64 1, fun u => u = .bool true, fun u => u = .bool true, fun u => u = .bool true, fun u => u = cval (foldOf (setOf [b])), fun u => u = .int .u8 ((b : Nat) : Int), fun u => u = .bool true, fun u => u = .bool true, fun u => u = .bool true, fun u => u = cval (foldOf (setOf [b])), fun u => u = .int .u8 ((c : Nat) : Int), fun u => u = .bool false, fun u => u = .int .u8 ((b : Nat) : Int), fun u => u = .int .u8 ((c : Nat) : Int), fun u => u = .bool false, fun u => u = .bool false, fun u => u = .int .u8 ((b : Nat) : Int), fun u => u = .int .i64 ((b : Nat) : Int), fun u => u = .int .i64 ((other b : Nat) : Int), fun u => u = .int .u8 ((c : Nat) : Int), fun u => u = .int .i64 ((c : Nat) : Int), fun u => u = .bool false, fun u => u = .bool false, fun u => u = .bool true, fun u => u = .bool true, fun u => u = .bool true] : List (Value → Prop))[i]?).getD (fun _ => True)) ?_
  refine wpFix_take (i := 0) (v := cval (setOf [b])) (some 14) (by simp only [List.getElem?_toArray, List.getElem?_cons_zero]; rfl) rfl (by kernel_rfl) (by kernel_rfl) (by kernel_rfl) rfl (.pure (by rfl) (fun w' hw' => op_load rfl rfl (hX.below hw' hxs))) ?_
  simp only [Act.put, List.setIfInBounds_toArray, List.set_cons_zero, List.set_cons_succ]
  refine wpFix_take (i := 1) (v := .int .u8 ((c : Nat) : Int)) (some 15) (by simp only [List.getElem?_toArray, List.getElem?_cons_succ, List.getElem?_cons_zero]; rfl) rfl (by kernel_rfl) (by kernel_rfl) (by kernel_rfl) rfl (.pure (by rfl) (fun w' _ => by rfl)) ?_
  simp only [Act.put, List.setIfInBounds_toArray, List.set_cons_zero, List.set_cons_succ]
  refine wpFix_take (i := 2) (v := .bool false) (some 16) (by simp only [List.getElem?_toArray, List.getElem?_cons_succ, List.getElem?_cons_zero]; rfl) rfl (by kernel_rfl) (by kernel_rfl) (by kernel_rfl) rfl (.call 22 #[cval (setOf [b]), .int .u8 ((c : Nat) : Int)] (by rfl) (fun w' _ => call_has rfl rfl rfl rfl) (fun w' hw' => (Hxc.out w').mono fun e w2 ⟨h1, h2⟩ => ⟨h1, hw'.trans (h2.mono hw'.size)⟩)) ?_
  simp only [Act.put, List.setIfInBounds_toArray, List.set_cons_zero, List.set_cons_succ]
  refine wpFix_take (i := 3) (v := .int .u8 ((b : Nat) : Int)) (some 17) (by simp only [List.getElem?_toArray, List.getElem?_cons_succ, List.getElem?_cons_zero]; rfl) rfl (by kernel_rfl) (by kernel_rfl) (by kernel_rfl) rfl (.pure (by rfl) (fun w' _ => by rfl)) ?_
  simp only [Act.put, List.setIfInBounds_toArray, List.set_cons_zero, List.set_cons_succ]
  refine wpFix_take (i := 4) (v := .int .u8 ((c : Nat) : Int)) (some 18) (by simp only [List.getElem?_toArray, List.getElem?_cons_succ, List.getElem?_cons_zero]; rfl) rfl (by kernel_rfl) (by kernel_rfl) (by kernel_rfl) rfl (.pure (by rfl) (fun w' _ => by rfl)) ?_
  simp only [Act.put, List.setIfInBounds_toArray, List.set_cons_zero, List.set_cons_succ]
  refine wpFix_take (i := 5) (v := .bool false) (some 19) (by simp only [List.getElem?_toArray, List.getElem?_cons_succ, List.getElem?_cons_zero]; rfl) rfl (by kernel_rfl) (by kernel_rfl) (by kernel_rfl) rfl (.pure (by rfl) (fun w' _ => op_neInt rfl rfl rfl hsame)) ?_
  simp only [Act.put, List.setIfInBounds_toArray, List.set_cons_zero, List.set_cons_succ]
  refine wpFix_take (i := 6) (v := .bool true) (some 20) (by simp only [List.getElem?_toArray, List.getElem?_cons_succ, List.getElem?_cons_zero]; rfl) rfl (by kernel_rfl) (by kernel_rfl) (by kernel_rfl) rfl (.pure (by rfl) (fun w' _ => op_eqBool rfl rfl rfl)) ?_
  simp only [Act.put, List.setIfInBounds_toArray, List.set_cons_zero, List.set_cons_succ]
  refine wpFix_take (i := 7) (v := .bool true) (some 21) (by simp only [List.getElem?_toArray, List.getElem?_cons_succ, List.getElem?_cons_zero]; rfl) rfl (by kernel_rfl) (by kernel_rfl) (by kernel_rfl) rfl (.pure (by rfl) (fun w' _ => by rfl)) ?_
  simp only [Act.put, List.setIfInBounds_toArray, List.set_cons_zero, List.set_cons_succ]
  refine wpFix_take (i := 8) (v := cval (setOf [b])) (some 22) (by simp only [List.getElem?_toArray, List.getElem?_cons_succ, List.getElem?_cons_zero]; rfl) rfl (by kernel_rfl) (by kernel_rfl) (by kernel_rfl) rfl (.pure (by rfl) (fun w' hw' => op_load rfl rfl (hX.below hw' hxs))) ?_
  simp only [Act.put, List.setIfInBounds_toArray, List.set_cons_zero, List.set_cons_succ]
  refine wpFix_take (i := 9) (v := .int .u8 ((b : Nat) : Int)) (some 23) (by simp only [List.getElem?_toArray, List.getElem?_cons_succ, List.getElem?_cons_zero]; rfl) rfl (by kernel_rfl) (by kernel_rfl) (by kernel_rfl) rfl (.pure (by rfl) (fun w' _ => by rfl)) ?_
  simp only [Act.put, List.setIfInBounds_toArray, List.set_cons_zero, List.set_cons_succ]
  refine wpFix_take (i := 10) (v := .int .u8 ((b : Nat) : Int)) (some 24) (by simp only [List.getElem?_toArray, List.getElem?_cons_succ, List.getElem?_cons_zero]; rfl) rfl (by kernel_rfl) (by kernel_rfl) (by kernel_rfl) rfl (.pure (by rfl) (fun w' _ => by rfl)) ?_
  simp only [Act.put, List.setIfInBounds_toArray, List.set_cons_zero, List.set_cons_succ]
  refine wpFix_take (i := 11) (v := cval (fromTo b b)) (some 25) (by simp only [List.getElem?_toArray, List.getElem?_cons_succ, List.getElem?_cons_zero]; rfl) rfl (by kernel_rfl) (by kernel_rfl) (by kernel_rfl) rfl (.call 23 #[.int .u8 ((b : Nat) : Int), .int .u8 ((b : Nat) : Int)] (by rfl) (fun w' _ => call_range rfl rfl rfl rfl) (fun w' hw' => (range_any b b hb hb w').mono fun e w2 ⟨h1, h2⟩ => ⟨h1, hw'.trans (h2.mono hw'.size)⟩)) ?_
  simp only [Act.put, List.setIfInBounds_toArray, List.set_cons_zero, List.set_cons_succ]
  refine wpFix_take (i := 12) (v := .bool true) (some 26) (by simp only [List.getElem?_toArray, List.getElem?_cons_succ, List.getElem?_cons_zero]; rfl) rfl (by kernel_rfl) (by kernel_rfl) (by kernel_rfl) rfl (.pure (by rfl) (fun w' _ => op_eqClass (p := setOf [b]) (q := fromTo b b) rfl rfl rfl (one_range b))) ?_
  simp only [Act.put, List.setIfInBounds_toArray, List.set_cons_zero, List.set_cons_succ]
  refine wpFix_take (i := 13) (v := .bool true) (some 27) (by simp only [List.getElem?_toArray, List.getElem?_cons_succ, List.getElem?_cons_zero]; rfl) rfl (by kernel_rfl) (by kernel_rfl) (by kernel_rfl) rfl (.pure (by rfl) (fun w' _ => by rfl)) ?_
  simp only [Act.put, List.setIfInBounds_toArray, List.set_cons_zero, List.set_cons_succ]
  refine wpFix_take (i := 14) (v := .bool true) (some 28) (by simp only [List.getElem?_toArray, List.getElem?_cons_succ, List.getElem?_cons_zero]; rfl) rfl (by kernel_rfl) (by kernel_rfl) (by kernel_rfl) rfl (.pure (by rfl) (fun w' _ => by rfl)) ?_
  simp only [Act.put, List.setIfInBounds_toArray, List.set_cons_zero, List.set_cons_succ]
  refine wpFix_take (i := 15) (v := cval (setOf [b])) (some 29) (by simp only [List.getElem?_toArray, List.getElem?_cons_succ, List.getElem?_cons_zero]; rfl) rfl (by kernel_rfl) (by kernel_rfl) (by kernel_rfl) rfl (.pure (by rfl) (fun w' hw' => op_load rfl rfl (hX.below hw' hxs))) ?_
  simp only [Act.put, List.setIfInBounds_toArray, List.set_cons_zero, List.set_cons_succ]
  refine wpFix_take (i := 16) (v := .int .i64 1) (some 30) (by simp only [List.getElem?_toArray, List.getElem?_cons_succ, List.getElem?_cons_zero]; rfl) rfl (by kernel_rfl) (by kernel_rfl) (by kernel_rfl) rfl (.call 16 #[cval (setOf [b])] (by rfl) (fun w' _ => call_len_ rfl rfl rfl) (fun w' hw' => (Hone.out w').mono fun e w2 ⟨h1, h2⟩ => ⟨h1, hw'.trans (h2.mono hw'.size)⟩)) ?_
  simp only [Act.put, List.setIfInBounds_toArray, List.set_cons_zero, List.set_cons_succ]
  refine wpFix_take (i := 17) (v := .bool true) (some 31) (by simp only [List.getElem?_toArray, List.getElem?_cons_succ, List.getElem?_cons_zero]; rfl) rfl (by kernel_rfl) (by kernel_rfl) (by kernel_rfl) rfl (.pure (by rfl) (fun w' _ => op_eqInt rfl rfl rfl rfl)) ?_
  simp only [Act.put, List.setIfInBounds_toArray, List.set_cons_zero, List.set_cons_succ]
  refine wpFix_take (i := 18) (v := .bool true) (some 32) (by simp only [List.getElem?_toArray, List.getElem?_cons_succ, List.getElem?_cons_zero]; rfl) rfl (by kernel_rfl) (by kernel_rfl) (by kernel_rfl) rfl (.pure (by rfl) (fun w' _ => by rfl)) ?_
  simp only [Act.put, List.setIfInBounds_toArray, List.set_cons_zero, List.set_cons_succ]
  refine wpFix_take (i := 19) (v := .bool true) (some 33) (by simp only [List.getElem?_toArray, List.getElem?_cons_succ, List.getElem?_cons_zero]; rfl) rfl (by kernel_rfl) (by kernel_rfl) (by kernel_rfl) rfl (.pure (by rfl) (fun w' _ => by rfl)) ?_
  simp only [Act.put, List.setIfInBounds_toArray, List.set_cons_zero, List.set_cons_succ]
  refine wpFix_take (i := 20) (v := cval (foldOf (setOf [b]))) (some 34) (by simp only [List.getElem?_toArray, List.getElem?_cons_succ, List.getElem?_cons_zero]; rfl) rfl (by kernel_rfl) (by kernel_rfl) (by kernel_rfl) rfl (.pure (by rfl) (fun w' hw' => op_load rfl rfl (hF.below hw' hfs))) ?_
  simp only [Act.put, List.setIfInBounds_toArray, List.set_cons_zero, List.set_cons_succ]
  refine wpFix_take (i := 21) (v := .int .u8 ((b : Nat) : Int)) (some 35) (by simp only [List.getElem?_toArray, List.getElem?_cons_succ, List.getElem?_cons_zero]; rfl) rfl (by kernel_rfl) (by kernel_rfl) (by kernel_rfl) rfl (.pure (by rfl) (fun w' _ => by rfl)) ?_
  simp only [Act.put, List.setIfInBounds_toArray, List.set_cons_zero, List.set_cons_succ]
  refine wpFix_take (i := 22) (v := .bool true) (some 36) (by simp only [List.getElem?_toArray, List.getElem?_cons_succ, List.getElem?_cons_zero]; rfl) rfl (by kernel_rfl) (by kernel_rfl) (by kernel_rfl) rfl (.call 22 #[cval (foldOf (setOf [b])), .int .u8 ((b : Nat) : Int)] (by rfl) (fun w' _ => call_has rfl rfl rfl rfl) (fun w' hw' => (Hfb.out w').mono fun e w2 ⟨h1, h2⟩ => ⟨h1, hw'.trans (h2.mono hw'.size)⟩)) ?_
  simp only [Act.put, List.setIfInBounds_toArray, List.set_cons_zero, List.set_cons_succ]
  refine wpFix_take (i := 23) (v := .bool true) (some 37) (by simp only [List.getElem?_toArray, List.getElem?_cons_succ, List.getElem?_cons_zero]; rfl) rfl (by kernel_rfl) (by kernel_rfl) (by kernel_rfl) rfl (.pure (by rfl) (fun w' _ => by rfl)) ?_
  simp only [Act.put, List.setIfInBounds_toArray, List.set_cons_zero, List.set_cons_succ]
  refine wpFix_take (i := 24) (v := .bool true) (some 38) (by simp only [List.getElem?_toArray, List.getElem?_cons_succ, List.getElem?_cons_zero]; rfl) rfl (by kernel_rfl) (by kernel_rfl) (by kernel_rfl) rfl (.pure (by rfl) (fun w' _ => by rfl)) ?_
  simp only [Act.put, List.setIfInBounds_toArray, List.set_cons_zero, List.set_cons_succ]
  refine wpFix_take (i := 25) (v := cval (foldOf (setOf [b]))) (some 39) (by simp only [List.getElem?_toArray, List.getElem?_cons_succ, List.getElem?_cons_zero]; rfl) rfl (by kernel_rfl) (by kernel_rfl) (by kernel_rfl) rfl (.pure (by rfl) (fun w' hw' => op_load rfl rfl (hF.below hw' hfs))) ?_
  simp only [Act.put, List.setIfInBounds_toArray, List.set_cons_zero, List.set_cons_succ]
  refine wpFix_take (i := 26) (v := .int .u8 ((c : Nat) : Int)) (some 40) (by simp only [List.getElem?_toArray, List.getElem?_cons_succ, List.getElem?_cons_zero]; rfl) rfl (by kernel_rfl) (by kernel_rfl) (by kernel_rfl) rfl (.pure (by rfl) (fun w' _ => by rfl)) ?_
  simp only [Act.put, List.setIfInBounds_toArray, List.set_cons_zero, List.set_cons_succ]
  refine wpFix_take (i := 27) (v := .bool false) (some 41) (by simp only [List.getElem?_toArray, List.getElem?_cons_succ, List.getElem?_cons_zero]; rfl) rfl (by kernel_rfl) (by kernel_rfl) (by kernel_rfl) rfl (.call 22 #[cval (foldOf (setOf [b])), .int .u8 ((c : Nat) : Int)] (by rfl) (fun w' _ => call_has rfl rfl rfl rfl) (fun w' hw' => (Hfc.out w').mono fun e w2 ⟨h1, h2⟩ => ⟨h1, hw'.trans (h2.mono hw'.size)⟩)) ?_
  simp only [Act.put, List.setIfInBounds_toArray, List.set_cons_zero, List.set_cons_succ]
  refine wpFix_take (i := 28) (v := .int .u8 ((b : Nat) : Int)) (some 42) (by simp only [List.getElem?_toArray, List.getElem?_cons_succ, List.getElem?_cons_zero]; rfl) rfl (by kernel_rfl) (by kernel_rfl) (by kernel_rfl) rfl (.pure (by rfl) (fun w' _ => by rfl)) ?_
  simp only [Act.put, List.setIfInBounds_toArray, List.set_cons_zero, List.set_cons_succ]
  refine wpFix_take (i := 29) (v := .int .u8 ((c : Nat) : Int)) (some 43) (by simp only [List.getElem?_toArray, List.getElem?_cons_succ, List.getElem?_cons_zero]; rfl) rfl (by kernel_rfl) (by kernel_rfl) (by kernel_rfl) rfl (.pure (by rfl) (fun w' _ => by rfl)) ?_
  simp only [Act.put, List.setIfInBounds_toArray, List.set_cons_zero, List.set_cons_succ]
  refine wpFix_take (i := 30) (v := .bool false) (some 44) (by simp only [List.getElem?_toArray, List.getElem?_cons_succ, List.getElem?_cons_zero]; rfl) rfl (by kernel_rfl) (by kernel_rfl) (by kernel_rfl) rfl (.pure (by rfl) (fun w' _ => op_neInt rfl rfl rfl hsame)) ?_
  simp only [Act.put, List.setIfInBounds_toArray, List.set_cons_zero, List.set_cons_succ]
  refine wpFix_take (i := 31) (v := .bool false) (some 45) (by simp only [List.getElem?_toArray, List.getElem?_cons_succ, List.getElem?_cons_zero]; rfl) rfl (by kernel_rfl) (by kernel_rfl) (by kernel_rfl) rfl (.pure (by rfl) (fun w' _ => by rfl)) ?_
  simp only [Act.put, List.setIfInBounds_toArray, List.set_cons_zero, List.set_cons_succ]
  refine wpFix_take (i := 32) (v := .int .u8 ((b : Nat) : Int)) (some 46) (by simp only [List.getElem?_toArray, List.getElem?_cons_succ, List.getElem?_cons_zero]; rfl) rfl (by kernel_rfl) (by kernel_rfl) (by kernel_rfl) rfl (.pure (by rfl) (fun w' _ => by rfl)) ?_
  simp only [Act.put, List.setIfInBounds_toArray, List.set_cons_zero, List.set_cons_succ]
  refine wpFix_take (i := 33) (v := .int .i64 ((b : Nat) : Int)) (some 47) (by simp only [List.getElem?_toArray, List.getElem?_cons_succ, List.getElem?_cons_zero]; rfl) rfl (by kernel_rfl) (by kernel_rfl) (by kernel_rfl) rfl (.pure (by rfl) (fun w' _ => op_conv rfl rfl hb)) ?_
  simp only [Act.put, List.setIfInBounds_toArray, List.set_cons_zero, List.set_cons_succ]
  refine wpFix_take (i := 34) (v := .int .i64 ((other b : Nat) : Int)) (some 48) (by simp only [List.getElem?_toArray, List.getElem?_cons_succ, List.getElem?_cons_zero]; rfl) rfl (by kernel_rfl) (by kernel_rfl) (by kernel_rfl) rfl (.call 24 #[.int .i64 ((b : Nat) : Int)] (by rfl) (fun w' _ => call_other rfl rfl rfl) (fun w' hw' => (Hother.out w').mono fun e w2 ⟨h1, h2⟩ => ⟨h1, hw'.trans (h2.mono hw'.size)⟩)) ?_
  simp only [Act.put, List.setIfInBounds_toArray, List.set_cons_zero, List.set_cons_succ]
  refine wpFix_take (i := 35) (v := .int .u8 ((c : Nat) : Int)) (some 49) (by simp only [List.getElem?_toArray, List.getElem?_cons_succ, List.getElem?_cons_zero]; rfl) rfl (by kernel_rfl) (by kernel_rfl) (by kernel_rfl) rfl (.pure (by rfl) (fun w' _ => by rfl)) ?_
  simp only [Act.put, List.setIfInBounds_toArray, List.set_cons_zero, List.set_cons_succ]
  refine wpFix_take (i := 36) (v := .int .i64 ((c : Nat) : Int)) (some 50) (by simp only [List.getElem?_toArray, List.getElem?_cons_succ, List.getElem?_cons_zero]; rfl) rfl (by kernel_rfl) (by kernel_rfl) (by kernel_rfl) rfl (.pure (by rfl) (fun w' _ => op_conv rfl rfl hc)) ?_
  simp only [Act.put, List.setIfInBounds_toArray, List.set_cons_zero, List.set_cons_succ]
  refine wpFix_take (i := 37) (v := .bool false) (some 51) (by simp only [List.getElem?_toArray, List.getElem?_cons_succ, List.getElem?_cons_zero]; rfl) rfl (by kernel_rfl) (by kernel_rfl) (by kernel_rfl) rfl (.pure (by rfl) (fun w' _ => op_neInt rfl rfl rfl hoth)) ?_
  simp only [Act.put, List.setIfInBounds_toArray, List.set_cons_zero, List.set_cons_succ]
  refine wpFix_take (i := 38) (v := .bool false) (some 52) (by simp only [List.getElem?_toArray, List.getElem?_cons_succ, List.getElem?_cons_zero]; rfl) rfl (by kernel_rfl) (by kernel_rfl) (by kernel_rfl) rfl (.pure (by rfl) (fun w' _ => by rfl)) ?_
  simp only [Act.put, List.setIfInBounds_toArray, List.set_cons_zero, List.set_cons_succ]
  refine wpFix_take (i := 39) (v := .bool true) (some 53) (by simp only [List.getElem?_toArray, List.getElem?_cons_succ, List.getElem?_cons_zero]; rfl) rfl (by kernel_rfl) (by kernel_rfl) (by kernel_rfl) rfl (.pure (by rfl) (fun w' _ => op_eqBool rfl rfl rfl)) ?_
  simp only [Act.put, List.setIfInBounds_toArray, List.set_cons_zero, List.set_cons_succ]
  refine wpFix_take (i := 40) (v := .bool true) (some 54) (by simp only [List.getElem?_toArray, List.getElem?_cons_succ, List.getElem?_cons_zero]; rfl) rfl (by kernel_rfl) (by kernel_rfl) (by kernel_rfl) rfl (.pure (by rfl) (fun w' _ => by rfl)) ?_
  simp only [Act.put, List.setIfInBounds_toArray, List.set_cons_zero, List.set_cons_succ]
  refine wpFix_take (i := 41) (v := .bool true) (some 4) (by simp only [List.getElem?_toArray, List.getElem?_cons_succ, List.getElem?_cons_zero]; rfl) rfl (by kernel_rfl) (by kernel_rfl) (by kernel_rfl) rfl (.pure (by rfl) (fun w' _ => by rfl)) ?_
  simp only [Act.put, List.setIfInBounds_toArray, List.set_cons_zero, List.set_cons_succ]
  refine wpFix_done (by kernel_rfl) (fun w' hw' => ?_) _
  go_wp2
  go_ret
  exact ⟨rfl, hbw.trans (hw'.mono hbw.size)⟩

theorem one_walk (b c : Nat) (hb : b < 256) (hc : c < 256) (w : World) (hT : Tab64 w) :
    Calls Tryd.prog 5 #[.int .u8 ((b : Nat) : Int), .int .u8 ((c : Nat) : Int)] w fun e w' => e = .returned (.bool true) ∧ Below w.heap.size w w' := by
  by_cases h1 : b = c
  · exact one_walk_same b c hb hc (by omega) w hT
  · by_cases h2 : other b = c
    · exact one_walk_yes b c hb hc (by omega) (by omega) w hT
    · exact one_walk_no b c hb hc (by omega) (by omega) w hT
end Go.Proofs.YtbfgcanceneokaaDoor

/- Walk of riddlelaw02.ClassCounts: it answers true. -/
import Derived.Test.YtbfgcanceneokaaDoorLs
import Derived.Test.YtbfgcanceneokaaDoorGr
import Derived.Test.YtbfgcanceneokaaDoorFy
import Derived.Deep.CutRange
import Derived.Deep.DeepCutAuto
namespace Go.Proofs.YtbfgcanceneokaaDoor
open Go.RowKit

theorem pop_both (p q : Nat → Bool) (n : Nat) : popOf (fun b => p b || q b) n + popOf (fun b => p b && q b) n = popOf p n + popOf q n := by
  induction n with
  | zero => rfl
  | succ n ih =>
    rw [popOf_succ, popOf_succ, popOf_succ, popOf_succ]
    cases p n <;> cases q n <;> simp [Bool.toNat] <;> omega

set_option maxRecDepth 100000 in
set_option maxHeartbeats 8000000 in
theorem counts_walk (p q : Nat → Bool) (w : World) (hT : Tab64 w) :
    Calls Tryd.prog 6 #[cval p, cval q] w fun e w' => e = .returned (.bool true) ∧ Below w.heap.size w w' := by
  have HT := Lib.hid hT
  clear hT
  have hsum := pop_both p q 256
  have b1 := popOf_le (fun b => p b || q b) 256
  have b2 := popOf_le (fun b => p b && q b) 256
  have b3 := popOf_le p 256
  have b4 := popOf_le q 256
  have bm := runsFold_len (bytesOf p 256)
  rw [bytesOf_length] at bm
  have Hn1 := Lib.hid (fun W : World => len_any (fun b => p b || q b) W)
  have Hn2 := Lib.hid (fun W : World => len_any (fun b => p b && q b) W)
  have Hn3 := Lib.hid (fun W : World => len_any p W)
  have Hn4 := Lib.hid (fun W : World => len_any q W)
  have HR0 := Lib.hid (fun (W : World) (h : Tab64 W) => (runs_any p W h).mono fun _ _ hg => gave_runs hg)
  generalize popOf (fun b => p b || q b) 256 = n1 at *
  generalize popOf (fun b => p b && q b) 256 = n2 at *
  generalize popOf p 256 = n3 at *
  generalize popOf q 256 = n4 at *
  generalize (runsFold (bytesOf p 256)) = R at *
  obtain ⟨m, hm⟩ : ∃ m, m = R.length := ⟨_, rfl⟩
  rw [← hm] at bm HR0
  clear hm
  have Hp := Lib.hid (Blk.new w 24 (ccells p))
  have Hq : Hid (Blk ((w.alloc (.cells (ccells p) 24)).alloc (.cells (ccells q) 24)) (w.heap.size + 1) 24 (ccells q)) := by
    have := Blk.new (w.alloc (.cells (ccells p) 24)) 24 (ccells q)
    rw [World.size_alloc] at this
    exact this
  have hb0 : Below w.heap.size w ((w.alloc (.cells (ccells p) 24)).alloc (.cells (ccells q) 24)) := ((Below.refl _ _).alloc (Nat.le_refl _) _).alloc (by simp) _
  go_enter Tryd.func6, Tryd.ntmps6
  go_wp2_with fail
  refine (speaks_any _ (tab_below HT.out hb0 (Nat.le_refl _))).mono ?_
  rintro e wr ⟨rfl, hbel⟩
  have hP := (Hp.out.alloc _).below hbel (by simp <;> omega)
  have hQ := Hq.out.below hbel (by simp <;> omega)
  have hbw := hb0.trans (hbel.mono hb0.size)
  clear hb0 hbel
  have hsp := hP.lt
  have hsz := hQ.lt
  have HR : Hid (∀ W, Below wr.heap.size wr W → Calls Tryd.prog 14 #[cval p] W fun e w' => (∃ v, e = .returned v ∧ ∃ A c, v = .slice A m c) ∧ Below W.heap.size W w') := fun W hW =>
    (HR0.out W (tab_below HT.out (hbw.trans (hW.mono hbw.size)) (Nat.le_refl _))).mono fun _ _ ⟨A, c, h1, _, h2⟩ => ⟨⟨_, h1, A, c, rfl⟩, h2⟩
  go_upto_region 3 with fail
  refine wp_region_fix (S := fun w' => Below wr.heap.size wr w') (by kernel_rfl) ((Below.refl _ _).drew) (fun i => (([fun u => u = cval p, fun u => u = cval q, fun u => u = cval (fun b => p b || q b), fun u => u = .int .i64 ((n1 : Nat) : Int), fun u => u = cval p, fun u => u = cval q, fun u => u = cval (fun b => p b && q b), fun u => u = .int .i64 ((n2 : Nat) : Int), fun u => u = .int .i64 ((n1 + n2 : Nat) : Int), fun u => u = cval p, fun u => u = .int .i64 ((n3 : Nat) : Int), fun u => u = cval q, fun u => u = .int .i64 ((n4 : Nat) : Int), fun u => u = .int .i64 ((n3 + n4 : Nat) : Int), fun u => u = .bool true, fun u => u = .bool true, fun u => u = cval p, fun u => u = cval q, fun u => u = cval (fun b => p b || q b), fun u => u = cval q, fun u => u = cval p, fun u => u = cval (fun b => q b || p b), fun u => u = .bool true, fun u => u = .bool true, fun u => u = .bool true, fun u => u = cval p, fun u => u = cval p, fun u => u = cval q, fun u => u = cval (fun b => p b || q b), fun u => u = cval (fun b => p b && (p b || q b)), fun u => u = cval p, fun u => u = .bool true, fun u => u = .bool true, fun u => u = .bool true, fun u => u = cval p, fun u => ∃ A c, u = .slice A m c, fun u => u = .int .i64 ((m : Nat) : Int), fun u => u = cval p, fun u => u = .int .i64 ((n3 : Nat) : Int), fun u => u = .bool true, fun u => u = .bool true, fun u => u = .bool true] : List (Value → Prop))[i]?).getD (fun _ => True)) ?_
  refine wpFix_take (i := 0) (v := cval p) (some 7) (by simp only [List.getElem?_toArray, List.getElem?_cons_zero]; rfl) rfl (by kernel_rfl) (by kernel_rfl) (by kernel_rfl) rfl (.pure (by rfl) (fun w' hw' => op_load rfl rfl (hP.below hw' hsp))) ?_
  simp only [Act.put, List.setIfInBounds_toArray, List.set_cons_zero, List.set_cons_succ]
  refine wpFix_take (i := 1) (v := cval q) (some 8) (by simp only [List.getElem?_toArray, List.getElem?_cons_succ, List.getElem?_cons_zero]; rfl) rfl (by kernel_rfl) (by kernel_rfl) (by kernel_rfl) rfl (.pure (by rfl) (fun w' hw' => op_load rfl rfl (hQ.below hw' hsz))) ?_
  simp only [Act.put, List.setIfInBounds_toArray, List.set_cons_zero, List.set_cons_succ]
  refine wpFix_take (i := 2) (v := cval (fun b => p b || q b)) (some 9) (by simp only [List.getElem?_toArray, List.getElem?_cons_succ, List.getElem?_cons_zero]; rfl) rfl (by kernel_rfl) (by kernel_rfl) (by kernel_rfl) rfl (.call 11 #[cval p, cval q] (by rfl) (fun w' _ => call_or rfl rfl rfl rfl) (fun w' hw' => (or_any p q w').mono fun e w2 ⟨h1, h2⟩ => ⟨h1, hw'.trans (h2.mono hw'.size)⟩)) ?_
  simp only [Act.put, List.setIfInBounds_toArray, List.set_cons_zero, List.set_cons_succ]
  refine wpFix_take (i := 3) (v := .int .i64 ((n1 : Nat) : Int)) (some 10) (by simp only [List.getElem?_toArray, List.getElem?_cons_succ, List.getElem?_cons_zero]; rfl) rfl (by kernel_rfl) (by kernel_rfl) (by kernel_rfl) rfl (.call 16 #[cval (fun b => p b || q b)] (by rfl) (fun w' _ => call_len_ rfl rfl rfl) (fun w' hw' => (Hn1.out w').mono fun e w2 ⟨h1, h2⟩ => ⟨h1, hw'.trans (h2.mono hw'.size)⟩)) ?_
  simp only [Act.put, List.setIfInBounds_toArray, List.set_cons_zero, List.set_cons_succ]
  refine wpFix_take (i := 4) (v := cval p) (some 11) (by simp only [List.getElem?_toArray, List.getElem?_cons_succ, List.getElem?_cons_zero]; rfl) rfl (by kernel_rfl) (by kernel_rfl) (by kernel_rfl) rfl (.pure (by rfl) (fun w' hw' => op_load rfl rfl (hP.below hw' hsp))) ?_
  simp only [Act.put, List.setIfInBounds_toArray, List.set_cons_zero, List.set_cons_succ]
  refine wpFix_take (i := 5) (v := cval q) (some 12) (by simp only [List.getElem?_toArray, List.getElem?_cons_succ, List.getElem?_cons_zero]; rfl) rfl (by kernel_rfl) (by kernel_rfl) (by kernel_rfl) rfl (.pure (by rfl) (fun w' hw' => op_load rfl rfl (hQ.below hw' hsz))) ?_
  simp only [Act.put, List.setIfInBounds_toArray, List.set_cons_zero, List.set_cons_succ]
  refine wpFix_take (i := 6) (v := cval (fun b => p b && q b)) (some 13) (by simp only [List.getElem?_toArray, List.getElem?_cons_succ, List.getElem?_cons_zero]; rfl) rfl (by kernel_rfl) (by kernel_rfl) (by kernel_rfl) rfl (.call 9 #[cval p, cval q] (by rfl) (fun w' _ => call_and rfl rfl rfl rfl) (fun w' hw' => (and_any p q w').mono fun e w2 ⟨h1, h2⟩ => ⟨h1, hw'.trans (h2.mono hw'.size)⟩)) ?_
  simp only [Act.put, List.setIfInBounds_toArray, List.set_cons_zero, List.set_cons_succ]
  refine wpFix_take (i := 7) (v := .int .i64 ((n2 : Nat) : Int)) (some 14) (by simp only [List.getElem?_toArray, List.getElem?_cons_succ, List.getElem?_cons_zero]; rfl) rfl (by kernel_rfl) (by kernel_rfl) (by kernel_rfl) rfl (.call 16 #[cval (fun b => p b && q b)] (by rfl) (fun w' _ => call_len_ rfl rfl rfl) (fun w' hw' => (Hn2.out w').mono fun e w2 ⟨h1, h2⟩ => ⟨h1, hw'.trans (h2.mono hw'.size)⟩)) ?_
  simp only [Act.put, List.setIfInBounds_toArray, List.set_cons_zero, List.set_cons_succ]
  refine wpFix_take (i := 8) (v := .int .i64 ((n1 + n2 : Nat) : Int)) (some 15) (by simp only [List.getElem?_toArray, List.getElem?_cons_succ, List.getElem?_cons_zero]; rfl) rfl (by kernel_rfl) (by kernel_rfl) (by kernel_rfl) rfl (.pure (by rfl) (fun w' _ => op_add rfl rfl rfl (by omega))) ?_
  simp only [Act.put, List.setIfInBounds_toArray, List.set_cons_zero, List.set_cons_succ]
  refine wpFix_take (i := 9) (v := cval p) (some 16) (by simp only [List.getElem?_toArray, List.getElem?_cons_succ, List.getElem?_cons_zero]; rfl) rfl (by kernel_rfl) (by kernel_rfl) (by kernel_rfl) rfl (.pure (by rfl) (fun w' hw' => op_load rfl rfl (hP.below hw' hsp))) ?_
  simp only [Act.put, List.setIfInBounds_toArray, List.set_cons_zero, List.set_cons_succ]
  refine wpFix_take (i := 10) (v := .int .i64 ((n3 : Nat) : Int)) (some 17) (by simp only [List.getElem?_toArray, List.getElem?_cons_succ, List.getElem?_cons_zero]; rfl) rfl (by kernel_rfl) (by kernel_rfl) (by kernel_rfl) rfl (.call 16 #[cval p] (by rfl) (fun w' _ => call_len_ rfl rfl rfl) (fun w' hw' => (Hn3.out w').mono fun e w2 ⟨h1, h2⟩ => ⟨h1, hw'.trans (h2.mono hw'.size)⟩)) ?_
  simp only [Act.put, List.setIfInBounds_toArray, List.set_cons_zero, List.set_cons_succ]
  refine wpFix_take (i := 11) (v := cval q) (some 18) (by simp only [List.getElem?_toArray, List.getElem?_cons_succ, List.getElem?_cons_zero]; rfl) rfl (by kernel_rfl) (by kernel_rfl) (by kernel_rfl) rfl (.pure (by rfl) (fun w' hw' => op_load rfl rfl (hQ.below hw' hsz))) ?_
  simp only [Act.put, List.setIfInBounds_toArray, List.set_cons_zero, List.set_cons_succ]
  refine wpFix_take (i := 12) (v := .int .i64 ((n4 : Nat) : Int)) (some 19) (by simp only [List.getElem?_toArray, List.getElem?_cons_succ, List.getElem?_cons_zero]; rfl) rfl (by kernel_rfl) (by kernel_rfl) (by kernel_rfl) rfl (.call 16 #[cval q] (by rfl) (fun w' _ => call_len_ rfl rfl rfl) (fun w' hw' => (Hn4.out w').mono fun e w2 ⟨h1, h2⟩ => ⟨h1, hw'.trans (h2.mono hw'.size)⟩)) ?_
  simp only [Act.put, List.setIfInBounds_toArray, List.set_cons_zero, List.set_cons_succ]
  refine wpFix_take (i := 13) (v := .int .i64 ((n3 + n4 : Nat) : Int)) (some 20) (by simp only [List.getElem?_toArray, List.getElem?_cons_succ, List.getElem?_cons_zero]; rfl) rfl (by kernel_rfl) (by kernel_rfl) (by kernel_rfl) rfl (.pure (by rfl) (fun w' _ => op_add rfl rfl rfl (by omega))) ?_
  simp only [Act.put, List.setIfInBounds_toArray, List.set_cons_zero, List.set_cons_succ]
  refine wpFix_take (i := 14) (v := .bool true) (some 21) (by simp only [List.getElem?_toArray, List.getElem?_cons_succ, List.getElem?_cons_zero]; rfl) rfl (by kernel_rfl) (by kernel_rfl) (by kernel_rfl) rfl (.pure (by rfl) (fun w' _ => op_eqInt rfl rfl rfl (by omega))) ?_
  simp only [Act.put, List.setIfInBounds_toArray, List.set_cons_zero, List.set_cons_succ]
  refine wpFix_take (i := 15) (v := .bool true) (some 22) (by simp only [List.getElem?_toArray, List.getElem?_cons_succ, List.getElem?_cons_zero]; rfl) rfl (by kernel_rfl) (by kernel_rfl) (by kernel_rfl) rfl (.pure (by rfl) (fun w' _ => by rfl)) ?_
  simp only [Act.put, List.setIfInBounds_toArray, List.set_cons_zero, List.set_cons_succ]
  refine wpFix_take (i := 16) (v := cval p) (some 23) (by simp only [List.getElem?_toArray, List.getElem?_cons_succ, List.getElem?_cons_zero]; rfl) rfl (by kernel_rfl) (by kernel_rfl) (by kernel_rfl) rfl (.pure (by rfl) (fun w' hw' => op_load rfl rfl (hP.below hw' hsp))) ?_
  simp only [Act.put, List.setIfInBounds_toArray, List.set_cons_zero, List.set_cons_succ]
  refine wpFix_take (i := 17) (v := cval q) (some 24) (by simp only [List.getElem?_toArray, List.getElem?_cons_succ, List.getElem?_cons_zero]; rfl) rfl (by kernel_rfl) (by kernel_rfl) (by kernel_rfl) rfl (.pure (by rfl) (fun w' hw' => op_load rfl rfl (hQ.below hw' hsz))) ?_
  simp only [Act.put, List.setIfInBounds_toArray, List.set_cons_zero, List.set_cons_succ]
  refine wpFix_take (i := 18) (v := cval (fun b => p b || q b)) (some 25) (by simp only [List.getElem?_toArray, List.getElem?_cons_succ, List.getElem?_cons_zero]; rfl) rfl (by kernel_rfl) (by kernel_rfl) (by kernel_rfl) rfl (.call 11 #[cval p, cval q] (by rfl) (fun w' _ => call_or rfl rfl rfl rfl) (fun w' hw' => (or_any p q w').mono fun e w2 ⟨h1, h2⟩ => ⟨h1, hw'.trans (h2.mono hw'.size)⟩)) ?_
  simp only [Act.put, List.setIfInBounds_toArray, List.set_cons_zero, List.set_cons_succ]
  refine wpFix_take (i := 19) (v := cval q) (some 26) (by simp only [List.getElem?_toArray, List.getElem?_cons_succ, List.getElem?_cons_zero]; rfl) rfl (by kernel_rfl) (by kernel_rfl) (by kernel_rfl) rfl (.pure (by rfl) (fun w' hw' => op_load rfl rfl (hQ.below hw' hsz))) ?_
  simp only [Act.put, List.setIfInBounds_toArray, List.set_cons_zero, List.set_cons_succ]
  refine wpFix_take (i := 20) (v := cval p) (some 27) (by simp only [List.getElem?_toArray, List.getElem?_cons_succ, List.getElem?_cons_zero]; rfl) rfl (by kernel_rfl) (by kernel_rfl) (by kernel_rfl) rfl (.pure (by rfl) (fun w' hw' => op_load rfl rfl (hP.below hw' hsp))) ?_
  simp only [Act.put, List.setIfInBounds_toArray, List.set_cons_zero, List.set_cons_succ]
  refine wpFix_take (i := 21) (v := cval (fun b => q b || p b)) (some 28) (by simp only [List.getElem?_toArray, List.getElem?_cons_succ, List.getElem?_cons_zero]; rfl) rfl (by kernel_rfl) (by kernel_rfl) (by kernel_rfl) rfl (.call 11 #[cval q, cval p] (by rfl) (fun w' _ => call_or rfl rfl rfl rfl) (fun w' hw' => (or_any q p w').mono fun e w2 ⟨h1, h2⟩ => ⟨h1, hw'.trans (h2.mono hw'.size)⟩)) ?_
  simp only [Act.put, List.setIfInBounds_toArray, List.set_cons_zero, List.set_cons_succ]
  refine wpFix_take (i := 22) (v := .bool true) (some 29) (by simp only [List.getElem?_toArray, List.getElem?_cons_succ, List.getElem?_cons_zero]; rfl) rfl (by kernel_rfl) (by kernel_rfl) (by kernel_rfl) rfl (.pure (by rfl) (fun w' _ => op_eqClass (p := fun b => p b || q b) (q := fun b => q b || p b) rfl rfl rfl (fun b _ => Bool.or_comm _ _))) ?_
  simp only [Act.put, List.setIfInBounds_toArray, List.set_cons_zero, List.set_cons_succ]
  refine wpFix_take (i := 23) (v := .bool true) (some 30) (by simp only [List.getElem?_toArray, List.getElem?_cons_succ, List.getElem?_cons_zero]; rfl) rfl (by kernel_rfl) (by kernel_rfl) (by kernel_rfl) rfl (.pure (by rfl) (fun w' _ => by rfl)) ?_
  simp only [Act.put, List.setIfInBounds_toArray, List.set_cons_zero, List.set_cons_succ]
  refine wpFix_take (i := 24) (v := .bool true) (some 31) (by simp only [List.getElem?_toArray, List.getElem?_cons_succ, List.getElem?_cons_zero]; rfl) rfl (by kernel_rfl) (by kernel_rfl) (by kernel_rfl) rfl (.pure (by rfl) (fun w' _ => by rfl)) ?_
  simp only [Act.put, List.setIfInBounds_toArray, List.set_cons_zero, List.set_cons_succ]
  refine wpFix_take (i := 25) (v := cval p) (some 32) (by simp only [List.getElem?_toArray, List.getElem?_cons_succ, List.getElem?_cons_zero]; rfl) rfl (by kernel_rfl) (by kernel_rfl) (by kernel_rfl) rfl (.pure (by rfl) (fun w' hw' => op_load rfl rfl (hP.below hw' hsp))) ?_
  simp only [Act.put, List.setIfInBounds_toArray, List.set_cons_zero, List.set_cons_succ]
  refine wpFix_take (i := 26) (v := cval p) (some 33) (by simp only [List.getElem?_toArray, List.getElem?_cons_succ, List.getElem?_cons_zero]; rfl) rfl (by kernel_rfl) (by kernel_rfl) (by kernel_rfl) rfl (.pure (by rfl) (fun w' hw' => op_load rfl rfl (hP.below hw' hsp))) ?_
  simp only [Act.put, List.setIfInBounds_toArray, List.set_cons_zero, List.set_cons_succ]
  refine wpFix_take (i := 27) (v := cval q) (some 34) (by simp only [List.getElem?_toArray, List.getElem?_cons_succ, List.getElem?_cons_zero]; rfl) rfl (by kernel_rfl) (by kernel_rfl) (by kernel_rfl) rfl (.pure (by rfl) (fun w' hw' => op_load rfl rfl (hQ.below hw' hsz))) ?_
  simp only [Act.put, List.setIfInBounds_toArray, List.set_cons_zero, List.set_cons_succ]
  refine wpFix_take (i := 28) (v := cval (fun b => p b || q b)) (some 35) (by simp only [List.getElem?_toArray, List.getElem?_cons_succ, List.getElem?_cons_zero]; rfl) rfl (by kernel_rfl) (by kernel_rfl) (by kernel_rfl) rfl (.call 11 #[cval p, cval q] (by rfl) (fun w' _ => call_or rfl rfl rfl rfl) (fun w' hw' => (or_any p q w').mono fun e w2 ⟨h1, h2⟩ => ⟨h1, hw'.trans (h2.mono hw'.size)⟩)) ?_
  simp only [Act.put, List.setIfInBounds_toArray, List.set_cons_zero, List.set_cons_succ]
  refine wpFix_take (i := 29) (v := cval (fun b => p b && (p b || q b))) (some 36) (by simp only [List.getElem?_toArray, List.getElem?_cons_succ, List.getElem?_cons_zero]; rfl) rfl (by kernel_rfl) (by kernel_rfl) (by kernel_rfl) rfl (.call 9 #[cval p, cval (fun b => p b || q b)] (by rfl) (fun w' _ => call_and rfl rfl rfl rfl) (fun w' hw' => (and_any p (fun b => p b || q b) w').mono fun e w2 ⟨h1, h2⟩ => ⟨h1, hw'.trans (h2.mono hw'.size)⟩)) ?_
  simp only [Act.put, List.setIfInBounds_toArray, List.set_cons_zero, List.set_cons_succ]
  refine wpFix_take (i := 30) (v := cval p) (some 37) (by simp only [List.getElem?_toArray, List.getElem?_cons_succ, List.getElem?_cons_zero]; rfl) rfl (by kernel_rfl) (by kernel_rfl) (by kernel_rfl) rfl (.pure (by rfl) (fun w' hw' => op_load rfl rfl (hP.below hw' hsp))) ?_
  simp only [Act.put, List.setIfInBounds_toArray, List.set_cons_zero, List.set_cons_succ]
  refine wpFix_take (i := 31) (v := .bool true) (some 38) (by simp only [List.getElem?_toArray, List.getElem?_cons_succ, List.getElem?_cons_zero]; rfl) rfl (by kernel_rfl) (by kernel_rfl) (by kernel_rfl) rfl (.pure (by rfl) (fun w' _ => op_eqClass (p := fun b => p b && (p b || q b)) (q := p) rfl rfl rfl (fun b _ => by cases p b <;> simp))) ?_
  simp only [Act.put, List.setIfInBounds_toArray, List.set_cons_zero, List.set_cons_succ]
  refine wpFix_take (i := 32) (v := .bool true) (some 39) (by simp only [List.getElem?_toArray, List.getElem?_cons_succ, List.getElem?_cons_zero]; rfl) rfl (by kernel_rfl) (by kernel_rfl) (by kernel_rfl) rfl (.pure (by rfl) (fun w' _ => by rfl)) ?_
  simp only [Act.put, List.setIfInBounds_toArray, List.set_cons_zero, List.set_cons_succ]
  refine wpFix_take (i := 33) (v := .bool true) (some 40) (by simp only [List.getElem?_toArray, List.getElem?_cons_succ, List.getElem?_cons_zero]; rfl) rfl (by kernel_rfl) (by kernel_rfl) (by kernel_rfl) rfl (.pure (by rfl) (fun w' _ => by rfl)) ?_
  simp only [Act.put, List.setIfInBounds_toArray, List.set_cons_zero, List.set_cons_succ]
  refine wpFix_take (i := 34) (v := cval p) (some 41) (by simp only [List.getElem?_toArray, List.getElem?_cons_succ, List.getElem?_cons_zero]; rfl) rfl (by kernel_rfl) (by kernel_rfl) (by kernel_rfl) rfl (.pure (by rfl) (fun w' hw' => op_load rfl rfl (hP.below hw' hsp))) ?_
  simp only [Act.put, List.setIfInBounds_toArray, List.set_cons_zero, List.set_cons_succ]
  refine wpFix_takeV (i := 35) (some 42) (by simp only [List.getElem?_toArray, List.getElem?_cons_succ, List.getElem?_cons_zero]; rfl) rfl (by kernel_rfl) (by kernel_rfl) (by kernel_rfl) ⟨.slice none m 0, none, 0, rfl⟩ (.callV 14 #[cval p] (by rfl) (fun w' _ => call_runs rfl rfl rfl) (fun w' hw' => (HR.out w' hw').mono fun e w2 ⟨h1, h2⟩ => ⟨h1, hw'.trans (h2.mono hw'.size)⟩)) ?_
  rintro _ ⟨A, c, rfl⟩
  simp only [Act.put, List.setIfInBounds_toArray, List.set_cons_zero, List.set_cons_succ]
  refine wpFix_take (i := 36) (v := .int .i64 ((m : Nat) : Int)) (some 43) (by simp only [List.getElem?_toArray, List.getElem?_cons_succ, List.getElem?_cons_zero]; rfl) rfl (by kernel_rfl) (by kernel_rfl) (by kernel_rfl) rfl (.pure (by rfl) (fun w' _ => op_len rfl rfl)) ?_
  simp only [Act.put, List.setIfInBounds_toArray, List.set_cons_zero, List.set_cons_succ]
  refine wpFix_take (i := 37) (v := cval p) (some 44) (by simp only [List.getElem?_toArray, List.getElem?_cons_succ, List.getElem?_cons_zero]; rfl) rfl (by kernel_rfl) (by kernel_rfl) (by kernel_rfl) rfl (.pure (by rfl) (fun w' hw' => op_load rfl rfl (hP.below hw' hsp))) ?_
  simp only [Act.put, List.setIfInBounds_toArray, List.set_cons_zero, List.set_cons_succ]
  refine wpFix_take (i := 38) (v := .int .i64 ((n3 : Nat) : Int)) (some 45) (by simp only [List.getElem?_toArray, List.getElem?_cons_succ, List.getElem?_cons_zero]; rfl) rfl (by kernel_rfl) (by kernel_rfl) (by kernel_rfl) rfl (.call 16 #[cval p] (by rfl) (fun w' _ => call_len_ rfl rfl rfl) (fun w' hw' => (Hn3.out w').mono fun e w2 ⟨h1, h2⟩ => ⟨h1, hw'.trans (h2.mono hw'.size)⟩)) ?_
  simp only [Act.put, List.setIfInBounds_toArray, List.set_cons_zero, List.set_cons_succ]
  refine wpFix_take (i := 39) (v := .bool true) (some 46) (by simp only [List.getElem?_toArray, List.getElem?_cons_succ, List.getElem?_cons_zero]; rfl) rfl (by kernel_rfl) (by kernel_rfl) (by kernel_rfl) rfl (.pure (by rfl) (fun w' _ => op_leInt rfl rfl rfl (by omega))) ?_
  simp only [Act.put, List.setIfInBounds_toArray, List.set_cons_zero, List.set_cons_succ]
  refine wpFix_take (i := 40) (v := .bool true) (some 47) (by simp only [List.getElem?_toArray, List.getElem?_cons_succ, List.getElem?_cons_zero]; rfl) rfl (by kernel_rfl) (by kernel_rfl) (by kernel_rfl) rfl (.pure (by rfl) (fun w' _ => by rfl)) ?_
  simp only [Act.put, List.setIfInBounds_toArray, List.set_cons_zero, List.set_cons_succ]
  refine wpFix_take (i := 41) (v := .bool true) (some 4) (by simp only [List.getElem?_toArray, List.getElem?_cons_succ, List.getElem?_cons_zero]; rfl) rfl (by kernel_rfl) (by kernel_rfl) (by kernel_rfl) rfl (.pure (by rfl) (fun w' _ => by rfl)) ?_
  simp only [Act.put, List.setIfInBounds_toArray, List.set_cons_zero, List.set_cons_succ]
  refine wpFix_done (by kernel_rfl) (fun w' hw' => ?_) _
  go_wp2
  go_ret
  exact ⟨rfl, hbw.trans (hw'.mono hbw.size)⟩
end Go.Proofs.YtbfgcanceneokaaDoor

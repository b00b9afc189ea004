/- Walk of riddlelaw02.speaks: the document's examples. -/
import Derived.Test.YtbfgcanceneokaaDoorRg
import Derived.Lib.SlBytesConst
namespace Go.Proofs.YtbfgcanceneokaaDoor
open Go.RowKit

theorem ex_runs : runsFold (bytesOf (setOf [98, 99, 97, 48]) 256) = [(48, 48), (97, 99)] := by decide +kernel
theorem ex_fold : bytesOf (foldOf (setOf [97, 90, 95])) 256 = [65, 90, 95, 97, 122] := by decide +kernel

/-- a new block reads as what was laid in it -/
theorem new_rd (w : World) (t : TypeId) (fr : Nat × Nat) (xs : List Value) : Rd (w.alloc (.cells xs.toArray t fr)) (w.alloc (.cells xs.toArray t fr)).heap.size (some ⟨w.heap.size, 0, none⟩) xs := fun _ =>
  ⟨w.heap.size, 0, rfl, by simp, fun k v hk => by
    rw [Nat.zero_add, cell_of_row _ w.heap.size k xs.toArray t fr (heap_alloc_new w _)]
    simpa using hk⟩

set_option maxRecDepth 100000 in
set_option maxHeartbeats 4000000 in
theorem speaks_any (w : World) (hT : Tab64 w) :
    Calls Tryd.prog 8 #[] w fun e w' => e = .returned (.bool true) ∧ Below w.heap.size w w' := by
  have HT := Lib.hid hT
  clear hT
  have Hof1 := Lib.hid (fun A c W h => of_any [98, 99, 97, 48] (by decide) A c W (by decide) h)
  have Hof2 := Lib.hid (fun A c W h => of_any [97, 90, 95] (by decide) A c W (by decide) h)
  have Hruns := Lib.hid (fun W h => runs_any (setOf [98, 99, 97, 48]) W h)
  rw [ex_runs] at Hruns
  have Hfold := Lib.hid (fun W h => fold_any (setOf [97, 90, 95]) W h)
  have Hbytes := Lib.hid (fun W h => bytes_any (foldOf (setOf [97, 90, 95])) W h)
  rw [ex_fold] at Hbytes
  have hcv := fun (W : World) (C : Array Value) (n c : Nat) => Lib.run_convert_bytes_const (P := Tryd.prog) W 30 5 C n c Tryd.underlying30 Tryd.underlying5
  go_enter Tryd.func8, Tryd.ntmps8
  go_wp2_with fail
  refine (Hof1.out _ _ _ (new_rd w 5 (4, 5) (u8s [98, 99, 97, 48]))).mono ?_
  rintro e w1 ⟨rfl, hbel1⟩
  have hb1 : Below w.heap.size w w1 := ((Below.refl _ _).alloc (Nat.le_refl _) _).trans (hbel1.mono (by simp))
  clear hbel1
  go_wp2_with fail
  refine (Hruns.out _ (tab_below HT.out hb1 (Nat.le_refl _))).mono ?_
  rintro e w2 ⟨v, rfl, hown, hbel2⟩
  have hb2 := hb1.trans (hbel2.mono hb1.size)
  clear hb1 hbel2
  obtain ⟨g, c2, rfl, hgb, hgs⟩ := own_some hown (by decide)
  have c0 := hown.cellAt 0 (by decide)
  have c1 := hown.cellAt 1 (by decide)
  have c2' := hown.cellAt 2 (by decide)
  have c3 := hown.cellAt 3 (by decide)
  simp only [runCells, List.flatMap_cons, List.flatMap_nil, List.cons_append, List.nil_append, List.getElem?_cons_zero, List.getElem?_cons_succ, List.append_nil] at c0 c1 c2' c3
  simp only [List.length_cons, List.length_nil, Nat.zero_add, Nat.reduceAdd] at hown ⊢
  have heq := eql_pair
  clear hown
  go_wp2_with fail
  refine (Hof2.out _ _ _ (new_rd w2 5 (3, 4) (u8s [97, 90, 95]))).mono ?_
  rintro e w3 ⟨rfl, hbel3⟩
  have hb3 := hb2.trans (((Below.refl w2.heap.size w2).alloc (Nat.le_refl _) _).trans (hbel3.mono (by simp)) |>.mono hb2.size)
  clear hb2 hbel3
  go_wp2_with fail
  refine (Hfold.out _ (tab_below HT.out hb3 (Nat.le_refl _))).mono ?_
  rintro e w4 ⟨rfl, hbel4⟩
  have hb4 := hb3.trans (hbel4.mono hb3.size)
  clear hb3 hbel4
  go_wp2_with fail
  refine (Hbytes.out _ (tab_below HT.out hb4 (Nat.le_refl _))).mono ?_
  intro e w5 hg
  obtain ⟨A5, c5, rfl, hr5, hbel5⟩ := gave_bytes hg
  have hb5 := hb4.trans (hbel5.mono hb4.size)
  have hs5 := run_strL (P := Tryd.prog) hr5 30 9 5 Tryd.underlying30 Tryd.underlying5 Tryd.underlying9 c5
  have hst := strL_toList [65, 90, 95, 97, 122]
  simp only [List.length_cons, List.length_nil, Nat.zero_add, Nat.reduceAdd] at hs5 ⊢
  clear hb4 hbel5 hg hr5
  go_wp2
  go_ret
  exact ⟨rfl, hb5⟩
end Go.Proofs.YtbfgcanceneokaaDoor

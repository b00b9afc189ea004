/- Walk of riddleref06.Form: a term of kind 7, its kids and what stands behind them. (Printed by gen_U5.py.) -/
import Derived.Test.YtnkiiphliilegaaDoorU4
import Derived.Deep.CutRange
import Derived.Deep.DeepCutAuto
namespace Go.Proofs.YtnkiiphliilegaaDoor
open Go.RowKit

set_option maxRecDepth 100000 in
set_option maxHeartbeats 32000000 in
theorem form_kids7 (N : Nat) (ih : FormOk N) (p : Nat → Bool) (mn mx : Int) (ks : List Tm) (A : Option Addr) (c : Nat) (w : World) (hN : nodesL ks ≤ N) (hN1 : N ≤ 500) (hr : rightT (.node 7 p mn mx ks) = true) (hks : KidsIn w (· < w.heap.size) A ks) :
    Calls Tryd.prog 19 #[tval 7 p mn mx A ks.length c] w fun e w' => e = .returned (.string (strL (rKids RF 7 true ks [] ++ tailF 7 mn mx))) ∧ Below w.heap.size w w' := by
  obtain ⟨hr1, hr2⟩ := rightT_node hr
  obtain ⟨n, hn⟩ : ∃ n, n = ks.length := ⟨_, rfl⟩
  have hn1 : n ≤ 1000 := by have := nodesL_len ks; omega
  rw [← hn]
  have Hn := Lib.hid hn
  have Hk := Lib.hid hks
  have Hih := Lib.hid ih
  have HR2 := Lib.hid hr2
  obtain ⟨T, hT⟩ : ∃ T, T = rKids RF 7 true ks [] := ⟨_, rfl⟩
  have hTl : T.length ≤ 2000000 := by
    have := rKids_len 7 true ks [] hr2
    rw [List.length_nil] at this
    rw [hT]
    omega
  rw [← hT]
  obtain ⟨U, hU⟩ : ∃ U, U = T ++ tailF 7 mn mx := ⟨_, rfl⟩
  rw [← hU]
  have HT := Lib.hid hT
  have HU := Lib.hid hU
  have HTl := Lib.hid hTl
  have hN2 : Hid (nodesL ks ≤ 500) := Lib.hid (by omega)
  clear hn hks ih hT hU hTl hr hr1 hr2
  go_enter Tryd.func19, Tryd.ntmps19
  go_wp2
  go_loopw [4, 5] (fun s i wr => ∃ (k : Nat) (S : List Nat), k ≤ n ∧ i = .int .i64 k ∧ S.length ≤ 3000000 ∧ s = .string (strL S) ∧ Hid (rKids RF 7 (decide (k = 0)) (ks.drop k) S = T) ∧
      Blk wr w.heap.size 27 (tcells 7 p mn mx A n c) ∧ Below w.heap.size w wr) (fun _ i _ => n - (intOf i).toNat)
  case atStart => exact ⟨0, [], Nat.zero_le _, rfl, by simp, rfl, Lib.hid (by rw [HT.out]; rfl), (Blk.new w 27 (tcells 7 p mn mx A n c)).alloc _, ((Below.refl _ _).alloc (Nat.le_refl _) _).alloc (by simp) _⟩
  case round =>
    obtain ⟨k, S, hk, rfl, hSl, rfl, Hrel, hB0, hbel⟩ := hrel
    have c0 := hB0.cell 0
    have c7 := hB0.cell 7
    simp only [List.getElem?_toArray, List.getElem?_cons_zero, List.getElem?_cons_succ] at c0 c7
    have hS := strL_size S
    by_cases hcont : k < n ∧ S.length < 1000
    · obtain ⟨hlt, h1000⟩ := hcont
      have hkl : k < ks.length := by have := Hn.out; omega
      obtain ⟨b, off, kop, p', mn', mx', ks', A', c', rfl, hbB, hkid, hcells, hks'⟩ := Hk.out.kid k hkl
      have hcw := hcells.keep (w' := wr) fun x => hbel.cell (p := ⟨b, x, none⟩) hbB
      have hnk : nodes ks[k] ≤ nodesL ks := nodesL_at ks k hkl
      have hkr := rightL_at HR2.out k hkl
      have hFl := rForm_len ks[k] hkr
      have Hst := Lib.hid (rKids_step 7 ks S k hkl h1000)
      have hFn : (rForm RF ks[k]).length ≤ 2000000 := by have := hN2.out; omega
      rw [hkid] at hnk hkr Hst hFn
      unfold nodes at hnk
      have Hcall := Lib.hid (fun (W : World) (hb : Below wr.heap.size wr W) => Hih.out kop p' mn' mx' ks' A' c' W (by omega) (by omega) hkr ((hks'.below hbel hbel.size).below hb hb.size))
      rw [show opOf (.node kop p' mn' mx' ks') = kop from rfl] at Hst
      obtain ⟨e0, e1, e2, e3, e4, e5, e6, e7⟩ := hcw
      clear hFl hkid hcells hks' hnk hkr
      have hFl := hFn
      clear hFn
      have hkop : kop = 7 ∨ kop = 6 ∨ kop = 1 ∨ kop = 8 ∨ ((kop == 7) = false ∧ (kop == 6) = false ∧ (kop == 1) = false ∧ (kop == 8) = false) := by
        by_cases h7 : kop = 7
        · exact .inl h7
        by_cases h6 : kop = 6
        · exact .inr (.inl h6)
        by_cases h1 : kop = 1
        · exact .inr (.inr (.inl h1))
        by_cases h8 : kop = 8
        · exact .inr (.inr (.inr (.inl h8)))
        · exact .inr (.inr (.inr (.inr ⟨ne_false h7, ne_false h6, ne_false h1, ne_false h8⟩)))
      generalize rForm RF (.node kop p' mn' mx' ks') = F at *
      rcases hkop with hkop | hkop | hkop | hkop | hkop
      · subst hkop
        by_cases hk0 : k = 0
        ·
          obtain ⟨F1, HF1, l1, q1, e1'⟩ := cat_pre #[40] [40] F rfl (by simp; omega)
          rw [List.length_cons, List.length_nil] at l1
          obtain ⟨F2, HF2, l2, q2, e2'⟩ := cat_k F1 #[41] [41] rfl (by simp; omega)
          rw [List.length_cons, List.length_nil] at l2
          obtain ⟨S3, HS3, l3, q3, e3'⟩ := cat_var S F2 (by omega)
          have HX : Hid (S ++ (bar 7 (decide (k = 0)) ++ br (inBr 7 7) F) = S3) := Lib.hid (by rw [HS3.out, HF2.out, HF1.out]; simp [bar, br, inBr, hk0])
          have HL := Lib.hid (show S3.length ≤ 3000000 by omega)
          clear l1 l2 l3 hFl
          have hk1 : ¬ 0 < k := by omega
          clear hk0
          go_wp2_with fail
          refine (Hcall.out _ ((Below.refl _ _).alloc (Nat.le_refl _) _)).mono ?_
          rintro e w1 ⟨rfl, hb1⟩
          have hbx : Below wr.heap.size wr w1 := ((Below.refl _ _).alloc (Nat.le_refl _) _).trans (hb1.mono (by simp))
          have hk0' := ((Blk.new wr 27 _).below hb1 (by simp)).cell 0
          have hB1 := hB0.below hbx hB0.lt
          have c0' := hB1.cell 0
          simp only [List.getElem?_toArray, List.getElem?_cons_zero] at hk0' c0'
          clear c0 c7
          go_wp2
          go_roundw
          case rel => exact ⟨k + 1, S3, by omega, by go_num, HL.out, rfl, Lib.hid (by rw [← HX.out, ← Hst.out]; exact Hrel), hB1, hbel.trans (hbx.mono hbel.size)⟩
          case measure => simp [intOf]; omega
        ·
          obtain ⟨S0, HS0, l0, q0, e0'⟩ := cat_k S #[124] [124] rfl (by simp; omega)
          rw [List.length_cons, List.length_nil] at l0
          obtain ⟨F1, HF1, l1, q1, e1'⟩ := cat_pre #[40] [40] F rfl (by simp; omega)
          rw [List.length_cons, List.length_nil] at l1
          obtain ⟨F2, HF2, l2, q2, e2'⟩ := cat_k F1 #[41] [41] rfl (by simp; omega)
          rw [List.length_cons, List.length_nil] at l2
          obtain ⟨S3, HS3, l3, q3, e3'⟩ := cat_var S0 F2 (by omega)
          have HX : Hid (S ++ (bar 7 (decide (k = 0)) ++ br (inBr 7 7) F) = S3) := Lib.hid (by rw [HS3.out, HF2.out, HF1.out, HS0.out]; simp [bar, br, inBr, hk0])
          have HL := Lib.hid (show S3.length ≤ 3000000 by omega)
          clear l0 l1 l2 l3 hFl
          have hk1 : 0 < k := by omega
          clear hk0
          go_wp2_with fail
          refine (Hcall.out _ ((Below.refl _ _).alloc (Nat.le_refl _) _)).mono ?_
          rintro e w1 ⟨rfl, hb1⟩
          have hbx : Below wr.heap.size wr w1 := ((Below.refl _ _).alloc (Nat.le_refl _) _).trans (hb1.mono (by simp))
          have hk0' := ((Blk.new wr 27 _).below hb1 (by simp)).cell 0
          have hB1 := hB0.below hbx hB0.lt
          have c0' := hB1.cell 0
          simp only [List.getElem?_toArray, List.getElem?_cons_zero] at hk0' c0'
          clear c0 c7
          go_wp2
          go_roundw
          case rel => exact ⟨k + 1, S3, by omega, by go_num, HL.out, rfl, Lib.hid (by rw [← HX.out, ← Hst.out]; exact Hrel), hB1, hbel.trans (hbx.mono hbel.size)⟩
          case measure => simp [intOf]; omega
      · subst hkop
        by_cases hk0 : k = 0
        ·
          obtain ⟨S3, HS3, l3, q3, e3'⟩ := cat_var S F (by omega)
          have HX : Hid (S ++ (bar 7 (decide (k = 0)) ++ br (inBr 7 6) F) = S3) := Lib.hid (by rw [HS3.out]; simp [bar, br, inBr, hk0])
          have HL := Lib.hid (show S3.length ≤ 3000000 by omega)
          clear l3 hFl
          have hk1 : ¬ 0 < k := by omega
          clear hk0
          go_wp2_with fail
          refine (Hcall.out _ ((Below.refl _ _).alloc (Nat.le_refl _) _)).mono ?_
          rintro e w1 ⟨rfl, hb1⟩
          have hbx : Below wr.heap.size wr w1 := ((Below.refl _ _).alloc (Nat.le_refl _) _).trans (hb1.mono (by simp))
          have hk0' := ((Blk.new wr 27 _).below hb1 (by simp)).cell 0
          have hB1 := hB0.below hbx hB0.lt
          have c0' := hB1.cell 0
          simp only [List.getElem?_toArray, List.getElem?_cons_zero] at hk0' c0'
          clear c0 c7
          go_wp2
          go_roundw
          case rel => exact ⟨k + 1, S3, by omega, by go_num, HL.out, rfl, Lib.hid (by rw [← HX.out, ← Hst.out]; exact Hrel), hB1, hbel.trans (hbx.mono hbel.size)⟩
          case measure => simp [intOf]; omega
        ·
          obtain ⟨S0, HS0, l0, q0, e0'⟩ := cat_k S #[124] [124] rfl (by simp; omega)
          rw [List.length_cons, List.length_nil] at l0
          obtain ⟨S3, HS3, l3, q3, e3'⟩ := cat_var S0 F (by omega)
          have HX : Hid (S ++ (bar 7 (decide (k = 0)) ++ br (inBr 7 6) F) = S3) := Lib.hid (by rw [HS3.out, HS0.out]; simp [bar, br, inBr, hk0])
          have HL := Lib.hid (show S3.length ≤ 3000000 by omega)
          clear l0 l3 hFl
          have hk1 : 0 < k := by omega
          clear hk0
          go_wp2_with fail
          refine (Hcall.out _ ((Below.refl _ _).alloc (Nat.le_refl _) _)).mono ?_
          rintro e w1 ⟨rfl, hb1⟩
          have hbx : Below wr.heap.size wr w1 := ((Below.refl _ _).alloc (Nat.le_refl _) _).trans (hb1.mono (by simp))
          have hk0' := ((Blk.new wr 27 _).below hb1 (by simp)).cell 0
          have hB1 := hB0.below hbx hB0.lt
          have c0' := hB1.cell 0
          simp only [List.getElem?_toArray, List.getElem?_cons_zero] at hk0' c0'
          clear c0 c7
          go_wp2
          go_roundw
          case rel => exact ⟨k + 1, S3, by omega, by go_num, HL.out, rfl, Lib.hid (by rw [← HX.out, ← Hst.out]; exact Hrel), hB1, hbel.trans (hbx.mono hbel.size)⟩
          case measure => simp [intOf]; omega
      · subst hkop
        by_cases hk0 : k = 0
        ·
          obtain ⟨S3, HS3, l3, q3, e3'⟩ := cat_var S F (by omega)
          have HX : Hid (S ++ (bar 7 (decide (k = 0)) ++ br (inBr 7 1) F) = S3) := Lib.hid (by rw [HS3.out]; simp [bar, br, inBr, hk0])
          have HL := Lib.hid (show S3.length ≤ 3000000 by omega)
          clear l3 hFl
          have hk1 : ¬ 0 < k := by omega
          clear hk0
          go_wp2_with fail
          refine (Hcall.out _ ((Below.refl _ _).alloc (Nat.le_refl _) _)).mono ?_
          rintro e w1 ⟨rfl, hb1⟩
          have hbx : Below wr.heap.size wr w1 := ((Below.refl _ _).alloc (Nat.le_refl _) _).trans (hb1.mono (by simp))
          have hk0' := ((Blk.new wr 27 _).below hb1 (by simp)).cell 0
          have hB1 := hB0.below hbx hB0.lt
          have c0' := hB1.cell 0
          simp only [List.getElem?_toArray, List.getElem?_cons_zero] at hk0' c0'
          clear c0 c7
          go_wp2
          go_roundw
          case rel => exact ⟨k + 1, S3, by omega, by go_num, HL.out, rfl, Lib.hid (by rw [← HX.out, ← Hst.out]; exact Hrel), hB1, hbel.trans (hbx.mono hbel.size)⟩
          case measure => simp [intOf]; omega
        ·
          obtain ⟨S0, HS0, l0, q0, e0'⟩ := cat_k S #[124] [124] rfl (by simp; omega)
          rw [List.length_cons, List.length_nil] at l0
          obtain ⟨S3, HS3, l3, q3, e3'⟩ := cat_var S0 F (by omega)
          have HX : Hid (S ++ (bar 7 (decide (k = 0)) ++ br (inBr 7 1) F) = S3) := Lib.hid (by rw [HS3.out, HS0.out]; simp [bar, br, inBr, hk0])
          have HL := Lib.hid (show S3.length ≤ 3000000 by omega)
          clear l0 l3 hFl
          have hk1 : 0 < k := by omega
          clear hk0
          go_wp2_with fail
          refine (Hcall.out _ ((Below.refl _ _).alloc (Nat.le_refl _) _)).mono ?_
          rintro e w1 ⟨rfl, hb1⟩
          have hbx : Below wr.heap.size wr w1 := ((Below.refl _ _).alloc (Nat.le_refl _) _).trans (hb1.mono (by simp))
          have hk0' := ((Blk.new wr 27 _).below hb1 (by simp)).cell 0
          have hB1 := hB0.below hbx hB0.lt
          have c0' := hB1.cell 0
          simp only [List.getElem?_toArray, List.getElem?_cons_zero] at hk0' c0'
          clear c0 c7
          go_wp2
          go_roundw
          case rel => exact ⟨k + 1, S3, by omega, by go_num, HL.out, rfl, Lib.hid (by rw [← HX.out, ← Hst.out]; exact Hrel), hB1, hbel.trans (hbx.mono hbel.size)⟩
          case measure => simp [intOf]; omega
      · subst hkop
        by_cases hk0 : k = 0
        ·
          obtain ⟨S3, HS3, l3, q3, e3'⟩ := cat_var S F (by omega)
          have HX : Hid (S ++ (bar 7 (decide (k = 0)) ++ br (inBr 7 8) F) = S3) := Lib.hid (by rw [HS3.out]; simp [bar, br, inBr, hk0])
          have HL := Lib.hid (show S3.length ≤ 3000000 by omega)
          clear l3 hFl
          have hk1 : ¬ 0 < k := by omega
          clear hk0
          go_wp2_with fail
          refine (Hcall.out _ ((Below.refl _ _).alloc (Nat.le_refl _) _)).mono ?_
          rintro e w1 ⟨rfl, hb1⟩
          have hbx : Below wr.heap.size wr w1 := ((Below.refl _ _).alloc (Nat.le_refl _) _).trans (hb1.mono (by simp))
          have hk0' := ((Blk.new wr 27 _).below hb1 (by simp)).cell 0
          have hB1 := hB0.below hbx hB0.lt
          have c0' := hB1.cell 0
          simp only [List.getElem?_toArray, List.getElem?_cons_zero] at hk0' c0'
          clear c0 c7
          go_wp2
          go_roundw
          case rel => exact ⟨k + 1, S3, by omega, by go_num, HL.out, rfl, Lib.hid (by rw [← HX.out, ← Hst.out]; exact Hrel), hB1, hbel.trans (hbx.mono hbel.size)⟩
          case measure => simp [intOf]; omega
        ·
          obtain ⟨S0, HS0, l0, q0, e0'⟩ := cat_k S #[124] [124] rfl (by simp; omega)
          rw [List.length_cons, List.length_nil] at l0
          obtain ⟨S3, HS3, l3, q3, e3'⟩ := cat_var S0 F (by omega)
          have HX : Hid (S ++ (bar 7 (decide (k = 0)) ++ br (inBr 7 8) F) = S3) := Lib.hid (by rw [HS3.out, HS0.out]; simp [bar, br, inBr, hk0])
          have HL := Lib.hid (show S3.length ≤ 3000000 by omega)
          clear l0 l3 hFl
          have hk1 : 0 < k := by omega
          clear hk0
          go_wp2_with fail
          refine (Hcall.out _ ((Below.refl _ _).alloc (Nat.le_refl _) _)).mono ?_
          rintro e w1 ⟨rfl, hb1⟩
          have hbx : Below wr.heap.size wr w1 := ((Below.refl _ _).alloc (Nat.le_refl _) _).trans (hb1.mono (by simp))
          have hk0' := ((Blk.new wr 27 _).below hb1 (by simp)).cell 0
          have hB1 := hB0.below hbx hB0.lt
          have c0' := hB1.cell 0
          simp only [List.getElem?_toArray, List.getElem?_cons_zero] at hk0' c0'
          clear c0 c7
          go_wp2
          go_roundw
          case rel => exact ⟨k + 1, S3, by omega, by go_num, HL.out, rfl, Lib.hid (by rw [← HX.out, ← Hst.out]; exact Hrel), hB1, hbel.trans (hbx.mono hbel.size)⟩
          case measure => simp [intOf]; omega
      · obtain ⟨f7, f6, f1, f8⟩ := hkop
        by_cases hk0 : k = 0
        ·
          obtain ⟨S3, HS3, l3, q3, e3'⟩ := cat_var S F (by omega)
          have HX : Hid (S ++ (bar 7 (decide (k = 0)) ++ br (inBr 7 kop) F) = S3) := Lib.hid (by rw [HS3.out]; simp [bar, br, inBr, hk0, f7])
          have HL := Lib.hid (show S3.length ≤ 3000000 by omega)
          clear l3 hFl
          have hk1 : ¬ 0 < k := by omega
          clear hk0
          go_wp2_with fail
          refine (Hcall.out _ ((Below.refl _ _).alloc (Nat.le_refl _) _)).mono ?_
          rintro e w1 ⟨rfl, hb1⟩
          have hbx : Below wr.heap.size wr w1 := ((Below.refl _ _).alloc (Nat.le_refl _) _).trans (hb1.mono (by simp))
          have hk0' := ((Blk.new wr 27 _).below hb1 (by simp)).cell 0
          have hB1 := hB0.below hbx hB0.lt
          have c0' := hB1.cell 0
          simp only [List.getElem?_toArray, List.getElem?_cons_zero] at hk0' c0'
          clear c0 c7
          go_wp2
          go_roundw
          case rel => exact ⟨k + 1, S3, by omega, by go_num, HL.out, rfl, Lib.hid (by rw [← HX.out, ← Hst.out]; exact Hrel), hB1, hbel.trans (hbx.mono hbel.size)⟩
          case measure => simp [intOf]; omega
        ·
          obtain ⟨S0, HS0, l0, q0, e0'⟩ := cat_k S #[124] [124] rfl (by simp; omega)
          rw [List.length_cons, List.length_nil] at l0
          obtain ⟨S3, HS3, l3, q3, e3'⟩ := cat_var S0 F (by omega)
          have HX : Hid (S ++ (bar 7 (decide (k = 0)) ++ br (inBr 7 kop) F) = S3) := Lib.hid (by rw [HS3.out, HS0.out]; simp [bar, br, inBr, hk0, f7])
          have HL := Lib.hid (show S3.length ≤ 3000000 by omega)
          clear l0 l3 hFl
          have hk1 : 0 < k := by omega
          clear hk0
          go_wp2_with fail
          refine (Hcall.out _ ((Below.refl _ _).alloc (Nat.le_refl _) _)).mono ?_
          rintro e w1 ⟨rfl, hb1⟩
          have hbx : Below wr.heap.size wr w1 := ((Below.refl _ _).alloc (Nat.le_refl _) _).trans (hb1.mono (by simp))
          have hk0' := ((Blk.new wr 27 _).below hb1 (by simp)).cell 0
          have hB1 := hB0.below hbx hB0.lt
          have c0' := hB1.cell 0
          simp only [List.getElem?_toArray, List.getElem?_cons_zero] at hk0' c0'
          clear c0 c7
          go_wp2
          go_roundw
          case rel => exact ⟨k + 1, S3, by omega, by go_num, HL.out, rfl, Lib.hid (by rw [← HX.out, ← Hst.out]; exact Hrel), hB1, hbel.trans (hbx.mono hbel.size)⟩
          case measure => simp [intOf]; omega
    · have HE : Hid (S = T) := Lib.hid (by
        rw [← Hrel.out]
        by_cases hlt : k < n
        · exact (rKids_stop _ _ _ _ (by omega)).symm
        · rw [List.drop_eq_nil_of_le (by have := Hn.out; omega)]; rfl)
      have hexit : (k < n ∧ ¬ S.length < 1000) ∨ ¬ k < n := by omega
      have hSl2 : S.length ≤ 2000000 := by rw [HE.out]; exact HTl.out
      clear hcont hSl
      have HE2 : Hid (S = U) := Lib.hid (by rw [HE.out, HU.out]; simp [tailF])
      rcases hexit with ⟨h1, h2⟩ | h1
      all_goals
        go_wp2
        go_ret
        exact ⟨ret_str HE2.out, hbel⟩
end Go.Proofs.YtnkiiphliilegaaDoor

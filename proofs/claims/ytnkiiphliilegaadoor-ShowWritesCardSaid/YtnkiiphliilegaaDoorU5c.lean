/- Walk of riddleref06.Form: a term of kind 8, its kids and what stands behind them. (Printed by gen_U5.py.) -/
import Derived.Test.YtnkiiphliilegaaDoorU4
import Derived.Deep.CutRange
import Derived.Deep.DeepCutAuto
namespace Go.Proofs.YtnkiiphliilegaaDoor
open Go.RowKit

set_option maxRecDepth 100000 in
set_option maxHeartbeats 32000000 in
theorem form_kids8 (N : Nat) (ih : FormOk N) (p : Nat → Bool) (mn mx : Int) (ks : List Tm) (A : Option Addr) (c : Nat) (w : World) (hN : nodesL ks ≤ N) (hN1 : N ≤ 500) (hr : rightT (.node 8 p mn mx ks) = true) (hks : KidsIn w (· < w.heap.size) A ks) :
    Calls Tryd.prog 19 #[tval 8 p mn mx A ks.length c] w fun e w' => e = .returned (.string (strL (rKids RF 8 true ks [] ++ tailF 8 mn mx))) ∧ Below w.heap.size w w' := by
  obtain ⟨hr1, hr2⟩ := rightT_node hr
  obtain ⟨n, hn⟩ : ∃ n, n = ks.length := ⟨_, rfl⟩
  have hn1 : n ≤ 1000 := by have := nodesL_len ks; omega
  have hnums := (rightN_op hr1).2.2 rfl
  rw [← hn] at hnums ⊢
  have Hnums := Lib.hid hnums
  have Hn := Lib.hid hn
  have Hk := Lib.hid hks
  have Hih := Lib.hid ih
  have HR2 := Lib.hid hr2
  obtain ⟨T, hT⟩ : ∃ T, T = rKids RF 8 true ks [] := ⟨_, rfl⟩
  have hTl : T.length ≤ 2000000 := by
    have := rKids_len 8 true ks [] hr2
    rw [List.length_nil] at this
    rw [hT]
    omega
  rw [← hT]
  obtain ⟨U, hU⟩ : ∃ U, U = T ++ tailF 8 mn mx := ⟨_, rfl⟩
  rw [← hU]
  have HT := Lib.hid hT
  have HU := Lib.hid hU
  have HTl := Lib.hid hTl
  have hN2 : Hid (nodesL ks ≤ 500) := Lib.hid (by omega)
  clear hn hks ih hT hU hTl hr hr1 hr2 hnums
  go_enter Tryd.func19, Tryd.ntmps19
  go_wp2
  go_loopw [4, 5] (fun s i wr => ∃ (k : Nat) (S : List Nat), k ≤ n ∧ i = .int .i64 k ∧ S.length ≤ 3000000 ∧ s = .string (strL S) ∧ Hid (rKids RF 8 (decide (k = 0)) (ks.drop k) S = T) ∧
      Blk wr w.heap.size 27 (tcells 8 p mn mx A n c) ∧ Below w.heap.size w wr) (fun _ i _ => n - (intOf i).toNat)
  case atStart => exact ⟨0, [], Nat.zero_le _, rfl, by simp, rfl, Lib.hid (by rw [HT.out]; rfl), (Blk.new w 27 (tcells 8 p mn mx A n c)).alloc _, ((Below.refl _ _).alloc (Nat.le_refl _) _).alloc (by simp) _⟩
  case round =>
    obtain ⟨k, S, hk, rfl, hSl, rfl, Hrel, hB0, hbel⟩ := hrel
    have c0 := hB0.cell 0
    have c7 := hB0.cell 7
    simp only [List.getElem?_toArray, List.getElem?_cons_zero, List.getElem?_cons_succ] at c0 c7
    have hS := strL_size S
    by_cases hcont : k < n ∧ S.length < 1000
    · obtain ⟨hlt, h1000⟩ := hcont
      have hkl : k < ks.length := by have := Hn.out; omega
      obtain ⟨b, off, kop, p', mn', mx', ks', A', c', rfl, hbB, hkid, hcells, hks'⟩ := Hk.out.kid k hkl
      have hcw := hcells.keep (w' := wr) fun x => hbel.cell (p := ⟨b, x, none⟩) hbB
      have hnk : nodes ks[k] ≤ nodesL ks := nodesL_at ks k hkl
      have hkr := rightL_at HR2.out k hkl
      have hFl := rForm_len ks[k] hkr
      have Hst := Lib.hid (rKids_step 8 ks S k hkl h1000)
      have hFn : (rForm RF ks[k]).length ≤ 2000000 := by have := hN2.out; omega
      rw [hkid] at hnk hkr Hst hFn
      unfold nodes at hnk
      have Hcall := Lib.hid (fun (W : World) (hb : Below wr.heap.size wr W) => Hih.out kop p' mn' mx' ks' A' c' W (by omega) (by omega) hkr ((hks'.below hbel hbel.size).below hb hb.size))
      rw [show opOf (.node kop p' mn' mx' ks') = kop from rfl] at Hst
      obtain ⟨e0, e1, e2, e3, e4, e5, e6, e7⟩ := hcw
      clear hFl hkid hcells hks' hnk hkr
      have hFl := hFn
      clear hFn
      have hkop : kop = 7 ∨ kop = 6 ∨ kop = 1 ∨ kop = 8 ∨ ((kop == 7) = false ∧ (kop == 6) = false ∧ (kop == 1) = false ∧ (kop == 8) = false) := by
        by_cases h7 : kop = 7
        · exact .inl h7
        by_cases h6 : kop = 6
        · exact .inr (.inl h6)
        by_cases h1 : kop = 1
        · exact .inr (.inr (.inl h1))
        by_cases h8 : kop = 8
        · exact .inr (.inr (.inr (.inl h8)))
        · exact .inr (.inr (.inr (.inr ⟨ne_false h7, ne_false h6, ne_false h1, ne_false h8⟩)))
      generalize rForm RF (.node kop p' mn' mx' ks') = F at *
      rcases hkop with hkop | hkop | hkop | hkop | hkop
      · subst hkop
        obtain ⟨F1, HF1, l1, q1, e1'⟩ := cat_pre #[40] [40] F rfl (by simp; omega)
        rw [List.length_cons, List.length_nil] at l1
        obtain ⟨F2, HF2, l2, q2, e2'⟩ := cat_k F1 #[41] [41] rfl (by simp; omega)
        rw [List.length_cons, List.length_nil] at l2
        obtain ⟨S3, HS3, l3, q3, e3'⟩ := cat_var S F2 (by omega)
        have HX : Hid (S ++ (bar 8 (decide (k = 0)) ++ br (inBr 8 7) F) = S3) := Lib.hid (by rw [HS3.out, HF2.out, HF1.out]; simp [bar, br, inBr])
        have HL := Lib.hid (show S3.length ≤ 3000000 by omega)
        clear l1 l2 l3 hFl
        go_wp2_with fail
        refine (Hcall.out _ ((Below.refl _ _).alloc (Nat.le_refl _) _)).mono ?_
        rintro e w1 ⟨rfl, hb1⟩
        have hbx : Below wr.heap.size wr w1 := ((Below.refl _ _).alloc (Nat.le_refl _) _).trans (hb1.mono (by simp))
        have hk0' := ((Blk.new wr 27 _).below hb1 (by simp)).cell 0
        have hB1 := hB0.below hbx hB0.lt
        have c0' := hB1.cell 0
        simp only [List.getElem?_toArray, List.getElem?_cons_zero] at hk0' c0'
        clear c0 c7
        go_wp2
        go_roundw
        case rel => exact ⟨k + 1, S3, by omega, by go_num, HL.out, rfl, Lib.hid (by rw [← HX.out, ← Hst.out]; exact Hrel), hB1, hbel.trans (hbx.mono hbel.size)⟩
        case measure => simp [intOf]; omega
      · subst hkop
        obtain ⟨F1, HF1, l1, q1, e1'⟩ := cat_pre #[40] [40] F rfl (by simp; omega)
        rw [List.length_cons, List.length_nil] at l1
        obtain ⟨F2, HF2, l2, q2, e2'⟩ := cat_k F1 #[41] [41] rfl (by simp; omega)
        rw [List.length_cons, List.length_nil] at l2
        obtain ⟨S3, HS3, l3, q3, e3'⟩ := cat_var S F2 (by omega)
        have HX : Hid (S ++ (bar 8 (decide (k = 0)) ++ br (inBr 8 6) F) = S3) := Lib.hid (by rw [HS3.out, HF2.out, HF1.out]; simp [bar, br, inBr])
        have HL := Lib.hid (show S3.length ≤ 3000000 by omega)
        clear l1 l2 l3 hFl
        go_wp2_with fail
        refine (Hcall.out _ ((Below.refl _ _).alloc (Nat.le_refl _) _)).mono ?_
        rintro e w1 ⟨rfl, hb1⟩
        have hbx : Below wr.heap.size wr w1 := ((Below.refl _ _).alloc (Nat.le_refl _) _).trans (hb1.mono (by simp))
        have hk0' := ((Blk.new wr 27 _).below hb1 (by simp)).cell 0
        have hB1 := hB0.below hbx hB0.lt
        have c0' := hB1.cell 0
        simp only [List.getElem?_toArray, List.getElem?_cons_zero] at hk0' c0'
        clear c0 c7
        go_wp2
        go_roundw
        case rel => exact ⟨k + 1, S3, by omega, by go_num, HL.out, rfl, Lib.hid (by rw [← HX.out, ← Hst.out]; exact Hrel), hB1, hbel.trans (hbx.mono hbel.size)⟩
        case measure => simp [intOf]; omega
      · subst hkop
        obtain ⟨F1, HF1, l1, q1, e1'⟩ := cat_pre #[40] [40] F rfl (by simp; omega)
        rw [List.length_cons, List.length_nil] at l1
        obtain ⟨F2, HF2, l2, q2, e2'⟩ := cat_k F1 #[41] [41] rfl (by simp; omega)
        rw [List.length_cons, List.length_nil] at l2
        obtain ⟨S3, HS3, l3, q3, e3'⟩ := cat_var S F2 (by omega)
        have HX : Hid (S ++ (bar 8 (decide (k = 0)) ++ br (inBr 8 1) F) = S3) := Lib.hid (by rw [HS3.out, HF2.out, HF1.out]; simp [bar, br, inBr])
        have HL := Lib.hid (show S3.length ≤ 3000000 by omega)
        clear l1 l2 l3 hFl
        go_wp2_with fail
        refine (Hcall.out _ ((Below.refl _ _).alloc (Nat.le_refl _) _)).mono ?_
        rintro e w1 ⟨rfl, hb1⟩
        have hbx : Below wr.heap.size wr w1 := ((Below.refl _ _).alloc (Nat.le_refl _) _).trans (hb1.mono (by simp))
        have hk0' := ((Blk.new wr 27 _).below hb1 (by simp)).cell 0
        have hB1 := hB0.below hbx hB0.lt
        have c0' := hB1.cell 0
        simp only [List.getElem?_toArray, List.getElem?_cons_zero] at hk0' c0'
        clear c0 c7
        go_wp2
        go_roundw
        case rel => exact ⟨k + 1, S3, by omega, by go_num, HL.out, rfl, Lib.hid (by rw [← HX.out, ← Hst.out]; exact Hrel), hB1, hbel.trans (hbx.mono hbel.size)⟩
        case measure => simp [intOf]; omega
      · subst hkop
        obtain ⟨F1, HF1, l1, q1, e1'⟩ := cat_pre #[40] [40] F rfl (by simp; omega)
        rw [List.length_cons, List.length_nil] at l1
        obtain ⟨F2, HF2, l2, q2, e2'⟩ := cat_k F1 #[41] [41] rfl (by simp; omega)
        rw [List.length_cons, List.length_nil] at l2
        obtain ⟨S3, HS3, l3, q3, e3'⟩ := cat_var S F2 (by omega)
        have HX : Hid (S ++ (bar 8 (decide (k = 0)) ++ br (inBr 8 8) F) = S3) := Lib.hid (by rw [HS3.out, HF2.out, HF1.out]; simp [bar, br, inBr])
        have HL := Lib.hid (show S3.length ≤ 3000000 by omega)
        clear l1 l2 l3 hFl
        go_wp2_with fail
        refine (Hcall.out _ ((Below.refl _ _).alloc (Nat.le_refl _) _)).mono ?_
        rintro e w1 ⟨rfl, hb1⟩
        have hbx : Below wr.heap.size wr w1 := ((Below.refl _ _).alloc (Nat.le_refl _) _).trans (hb1.mono (by simp))
        have hk0' := ((Blk.new wr 27 _).below hb1 (by simp)).cell 0
        have hB1 := hB0.below hbx hB0.lt
        have c0' := hB1.cell 0
        simp only [List.getElem?_toArray, List.getElem?_cons_zero] at hk0' c0'
        clear c0 c7
        go_wp2
        go_roundw
        case rel => exact ⟨k + 1, S3, by omega, by go_num, HL.out, rfl, Lib.hid (by rw [← HX.out, ← Hst.out]; exact Hrel), hB1, hbel.trans (hbx.mono hbel.size)⟩
        case measure => simp [intOf]; omega
      · obtain ⟨f7, f6, f1, f8⟩ := hkop
        obtain ⟨S3, HS3, l3, q3, e3'⟩ := cat_var S F (by omega)
        have HX : Hid (S ++ (bar 8 (decide (k = 0)) ++ br (inBr 8 kop) F) = S3) := Lib.hid (by rw [HS3.out]; simp [bar, br, inBr, f7, f6, f1, f8])
        have HL := Lib.hid (show S3.length ≤ 3000000 by omega)
        clear l3 hFl
        go_wp2_with fail
        refine (Hcall.out _ ((Below.refl _ _).alloc (Nat.le_refl _) _)).mono ?_
        rintro e w1 ⟨rfl, hb1⟩
        have hbx : Below wr.heap.size wr w1 := ((Below.refl _ _).alloc (Nat.le_refl _) _).trans (hb1.mono (by simp))
        have hk0' := ((Blk.new wr 27 _).below hb1 (by simp)).cell 0
        have hB1 := hB0.below hbx hB0.lt
        have c0' := hB1.cell 0
        simp only [List.getElem?_toArray, List.getElem?_cons_zero] at hk0' c0'
        clear c0 c7
        go_wp2
        go_roundw
        case rel => exact ⟨k + 1, S3, by omega, by go_num, HL.out, rfl, Lib.hid (by rw [← HX.out, ← Hst.out]; exact Hrel), hB1, hbel.trans (hbx.mono hbel.size)⟩
        case measure => simp [intOf]; omega
    · have HE : Hid (S = T) := Lib.hid (by
        rw [← Hrel.out]
        by_cases hlt : k < n
        · exact (rKids_stop _ _ _ _ (by omega)).symm
        · rw [List.drop_eq_nil_of_le (by have := Hn.out; omega)]; rfl)
      have hexit : (k < n ∧ ¬ S.length < 1000) ∨ ¬ k < n := by omega
      have hSl2 : S.length ≤ 2000000 := by rw [HE.out]; exact HTl.out
      clear hcont hSl
      have hsz0 := hB0.lt
      have c5 := hB0.cell 5
      have c6 := hB0.cell 6
      simp only [List.getElem?_toArray, List.getElem?_cons_zero, List.getElem?_cons_succ] at c5 c6
      obtain ⟨_, m0, m1, m2, m3⟩ := Hnums.out
      obtain ⟨a, rfl⟩ : ∃ a : Nat, mn = (a : Int) := ⟨mn.toNat, by omega⟩
      have ha : a ≤ 200 := by omega
      have HnA := Lib.hid (fun W => num_all 1001 a W (by omega) (by omega))
      have hla := numF_len a
      have Hta : Hid ((a : Int).toNat = a) := Lib.hid (by omega)
      clear m0 m1 Hnums
      by_cases hm1 : mx = -1
      · subst hm1
        clear m2 m3
        have hcases : a = 0 ∨ a = 1 ∨ 2 ≤ a := by omega
        rcases hcases with rfl | rfl | ha2
        ·
          obtain ⟨Sz, HSz, _, q1, r1⟩ := cat_k S #[42] [42] rfl (by simp; omega)
          have HE2 : Hid (Sz = U) := Lib.hid (by rw [HSz.out, HE.out, HU.out]; simp [tailF, quantF])
          rcases hexit with ⟨h1, h2⟩ | h1
          all_goals
            go_wp2
            go_ret
            exact ⟨ret_str HE2.out, hbel.alloc (by have := hB0.lt; omega) _⟩
        ·
          obtain ⟨Sz, HSz, _, q1, r1⟩ := cat_k S #[43] [43] rfl (by simp; omega)
          have HE2 : Hid (Sz = U) := Lib.hid (by rw [HSz.out, HE.out, HU.out]; simp [tailF, quantF])
          rcases hexit with ⟨h1, h2⟩ | h1
          all_goals
            go_wp2
            go_ret
            exact ⟨ret_str HE2.out, hbel.alloc (by have := hB0.lt; omega) _⟩
        ·
          have f0 : ((a : Int) == 0) = false := ne_false (by omega)
          have Hf0 : ¬ a = 0 ∧ ¬ (a : Int) = 1 ∧ ¬ (-1 : Int) = (a : Int) := ⟨by omega, by omega, by omega⟩
          have HF0 := Lib.hid Hf0
          clear Hf0
          obtain ⟨F, hF⟩ : ∃ F, F = numF a := ⟨_, rfl⟩
          rw [← hF] at HnA hla
          have HF := Lib.hid hF
          clear hF
          obtain ⟨S1, HS1, l1, q1, r1⟩ := cat_k S #[123] [123] rfl (by simp; omega)
          rw [List.length_cons, List.length_nil] at l1
          obtain ⟨S2, HS2, l2, q2, r2⟩ := cat_var S1 F (by omega)
          obtain ⟨Sz, HSz, _, q3, r3⟩ := cat_k S2 #[44, 125] [44, 125] rfl (by simp; omega)
          have HE2 : Hid (Sz = U) := Lib.hid (by rw [HSz.out, HS2.out, HS1.out, HF.out, HE.out, HU.out]; simp [tailF, quantF, HF0.out.1, HF0.out.2.1, HF0.out.2.2, Hta.out])
          rcases hexit with ⟨h1, h2⟩ | h1
          all_goals
            go_wp2_with fail
            refine (HnA.out _).mono ?_
            rintro e w1 ⟨rfl, hb1⟩
            go_wp2
            go_ret
            exact ⟨ret_str HE2.out, hbel.trans (hb1.mono hbel.size)⟩
      · obtain ⟨b, rfl⟩ : ∃ b : Nat, mx = (b : Int) := ⟨mx.toNat, by omega⟩
        have hb2 : b ≤ 200 := by omega
        have hab : a ≤ b := by omega
        have HnB := Lib.hid (fun W => num_all 1001 b W (by omega) (by omega))
        have hlb := numF_len b
        have Htb : Hid ((b : Int).toNat = b) := Lib.hid (by omega)
        have fm : ((b : Int) == -1) = false := ne_false (by omega)
        have Hb1 : Hid (¬ (b : Int) = -1) := Lib.hid (by omega)
        clear m2 m3 hm1
        have hcases : (a = 0 ∧ b = 1) ∨ (a = b ∧ a = 0) ∨ (a = b ∧ a ≠ 0) ∨ (a < b ∧ a = 0 ∧ b ≠ 1) ∨ (a < b ∧ a ≠ 0) := by omega
        rcases hcases with ⟨rfl, rfl⟩ | ⟨rfl, rfl⟩ | ⟨rfl, hne⟩ | ⟨hlt2, rfl, hne⟩ | ⟨hlt2, hne⟩
        ·
          obtain ⟨Sz, HSz, _, q1, r1⟩ := cat_k S #[63] [63] rfl (by simp; omega)
          have HE2 : Hid (Sz = U) := Lib.hid (by rw [HSz.out, HE.out, HU.out]; simp [tailF, quantF])
          rcases hexit with ⟨h1, h2⟩ | h1
          all_goals
            go_wp2
            go_ret
            exact ⟨ret_str HE2.out, hbel⟩
        ·
          obtain ⟨F, hF⟩ : ∃ F, F = numF 0 := ⟨_, rfl⟩
          rw [← hF] at HnA hla
          have HF := Lib.hid hF
          clear hF HnB hlb
          obtain ⟨S1, HS1, l1, q1, r1⟩ := cat_k S #[123] [123] rfl (by simp; omega)
          rw [List.length_cons, List.length_nil] at l1
          obtain ⟨S2, HS2, l2, q2, r2⟩ := cat_var S1 F (by omega)
          obtain ⟨Sz, HSz, _, q3, r3⟩ := cat_k S2 #[125] [125] rfl (by simp; omega)
          have HE2 : Hid (Sz = U) := Lib.hid (by rw [HSz.out, HS2.out, HS1.out, HF.out, HE.out, HU.out]; simp [tailF, quantF])
          rcases hexit with ⟨h1, h2⟩ | h1
          all_goals
            go_wp2_with fail
            refine (HnA.out _).mono ?_
            rintro e w1 ⟨rfl, hb1⟩
            go_wp2
            go_ret
            exact ⟨ret_str HE2.out, hbel.trans (hb1.mono hbel.size)⟩
        ·
          have f0 : ((a : Int) == 0) = false := ne_false (by omega)
          obtain ⟨F, hF⟩ : ∃ F, F = numF a := ⟨_, rfl⟩
          rw [← hF] at HnA hla
          have HF := Lib.hid hF
          clear hF HnB hlb
          obtain ⟨S1, HS1, l1, q1, r1⟩ := cat_k S #[123] [123] rfl (by simp; omega)
          rw [List.length_cons, List.length_nil] at l1
          obtain ⟨S2, HS2, l2, q2, r2⟩ := cat_var S1 F (by omega)
          obtain ⟨Sz, HSz, _, q3, r3⟩ := cat_k S2 #[125] [125] rfl (by simp; omega)
          have HE2 : Hid (Sz = U) := Lib.hid (by rw [HSz.out, HS2.out, HS1.out, HF.out, HE.out, HU.out]; simp [tailF, quantF, hne, Hb1.out, Hta.out])
          rcases hexit with ⟨h1, h2⟩ | h1
          all_goals
            go_wp2_with fail
            refine (HnA.out _).mono ?_
            rintro e w1 ⟨rfl, hb1⟩
            go_wp2
            go_ret
            exact ⟨ret_str HE2.out, hbel.trans (hb1.mono hbel.size)⟩
        ·
          have f1 : ((b : Int) == 1) = false := ne_false (by omega)
          have Hb2 : Hid (¬ (b : Int) = 1) := Lib.hid (by omega)
          have Hb0 : Hid (¬ b = 0) := Lib.hid (by omega)
          rw [show ((0 : Nat) : Int) = 0 from rfl] at HnA c5
          have fba : ((b : Int) == 0) = false := ne_false (by omega)
          have Hba : Hid (¬ (b : Int) = 0) := Lib.hid (by omega)
          obtain ⟨F, hF⟩ : ∃ F, F = numF 0 := ⟨_, rfl⟩
          rw [← hF] at HnA hla
          have HF := Lib.hid hF
          obtain ⟨G, hG⟩ : ∃ G, G = numF b := ⟨_, rfl⟩
          rw [← hG] at HnB hlb
          have HG := Lib.hid hG
          clear hF hG
          obtain ⟨S1, HS1, l1, q1, r1⟩ := cat_k S #[123] [123] rfl (by simp; omega)
          rw [List.length_cons, List.length_nil] at l1
          obtain ⟨S2, HS2, l2, q2, r2⟩ := cat_var S1 F (by omega)
          obtain ⟨S4, HS4, l4, q4, r4⟩ := cat_k S2 #[44] [44] rfl (by simp; omega)
          rw [List.length_cons, List.length_nil] at l4
          obtain ⟨S5, HS5, l5, q5, r5⟩ := cat_var S4 G (by omega)
          obtain ⟨Sz, HSz, _, q6, r6⟩ := cat_k S5 #[125] [125] rfl (by simp; omega)
          have z1 : ¬ 9223372036854775807 < (strL S).size + 1 := by rw [strL_size]; omega
          have z2 : ¬ 9223372036854775807 < (strL S2).size + 1 := by rw [strL_size]; omega
          have z3 : ¬ 9223372036854775807 < (strL S5).size + 1 := by rw [strL_size]; omega
          have HE2 : Hid (Sz = U) := Lib.hid (by rw [HSz.out, HS5.out, HS4.out, HS2.out, HS1.out, HF.out, HG.out, HE.out, HU.out]; simp [tailF, quantF, Hb1.out, Hb2.out, Htb.out, Hb0.out])
          rcases hexit with ⟨h1, h2⟩ | h1
          all_goals
            go_wp2
            clear hS
            go_region_held3 (fun w' => w'.cell? ⟨w.heap.size, 5, none⟩ = some (.int .i64 0) ∧ w'.cell? ⟨w.heap.size, 6, none⟩ = some (.int .i64 (b : Int)) ∧ Below wr.heap.size wr w')
              (first | exact ⟨c5, c6, (Below.refl _ _).drew⟩ | assumption | (go_split_ands; have hbx := held_step (by assumption) hb1; exact ⟨(hbx.cell (p := ⟨_, 5, none⟩) hB0.lt).trans c5, (hbx.cell (p := ⟨_, 6, none⟩) hB0.lt).trans c6, hbx⟩))
              (first | (go_at_call 31; with_reducible refine (HnA.out _).mono ?_; rintro e w1 ⟨rfl, hb1⟩) | (go_at_call 31; with_reducible refine (HnB.out _).mono ?_; rintro e w1 ⟨rfl, hb1⟩))
            all_goals
              go_split_ands
              have hbx := (by assumption : Below wr.heap.size wr _)
              go_wp2
              go_ret
              exact ⟨ret_str HE2.out, hbel.trans (hbx.mono hbel.size)⟩
        ·
          have f0 : ((a : Int) == 0) = false := ne_false (by omega)
          have fba : ((b : Int) == (a : Int)) = false := ne_false (by omega)
          have Hba : Hid (¬ (b : Int) = (a : Int)) := Lib.hid (by omega)
          obtain ⟨F, hF⟩ : ∃ F, F = numF a := ⟨_, rfl⟩
          rw [← hF] at HnA hla
          have HF := Lib.hid hF
          obtain ⟨G, hG⟩ : ∃ G, G = numF b := ⟨_, rfl⟩
          rw [← hG] at HnB hlb
          have HG := Lib.hid hG
          clear hF hG
          obtain ⟨S1, HS1, l1, q1, r1⟩ := cat_k S #[123] [123] rfl (by simp; omega)
          rw [List.length_cons, List.length_nil] at l1
          obtain ⟨S2, HS2, l2, q2, r2⟩ := cat_var S1 F (by omega)
          obtain ⟨S4, HS4, l4, q4, r4⟩ := cat_k S2 #[44] [44] rfl (by simp; omega)
          rw [List.length_cons, List.length_nil] at l4
          obtain ⟨S5, HS5, l5, q5, r5⟩ := cat_var S4 G (by omega)
          obtain ⟨Sz, HSz, _, q6, r6⟩ := cat_k S5 #[125] [125] rfl (by simp; omega)
          have z1 : ¬ 9223372036854775807 < (strL S).size + 1 := by rw [strL_size]; omega
          have z2 : ¬ 9223372036854775807 < (strL S2).size + 1 := by rw [strL_size]; omega
          have z3 : ¬ 9223372036854775807 < (strL S5).size + 1 := by rw [strL_size]; omega
          have HE2 : Hid (Sz = U) := Lib.hid (by rw [HSz.out, HS5.out, HS4.out, HS2.out, HS1.out, HF.out, HG.out, HE.out, HU.out]; simp [tailF, quantF, hne, Hb1.out, Hba.out, Hta.out, Htb.out])
          rcases hexit with ⟨h1, h2⟩ | h1
          all_goals
            go_wp2
            clear hS
            go_region_held3 (fun w' => w'.cell? ⟨w.heap.size, 5, none⟩ = some (.int .i64 (a : Int)) ∧ w'.cell? ⟨w.heap.size, 6, none⟩ = some (.int .i64 (b : Int)) ∧ Below wr.heap.size wr w')
              (first | exact ⟨c5, c6, (Below.refl _ _).drew⟩ | assumption | (go_split_ands; have hbx := held_step (by assumption) hb1; exact ⟨(hbx.cell (p := ⟨_, 5, none⟩) hB0.lt).trans c5, (hbx.cell (p := ⟨_, 6, none⟩) hB0.lt).trans c6, hbx⟩))
              (first | (go_at_call 31; with_reducible refine (HnA.out _).mono ?_; rintro e w1 ⟨rfl, hb1⟩) | (go_at_call 31; with_reducible refine (HnB.out _).mono ?_; rintro e w1 ⟨rfl, hb1⟩))
            all_goals
              go_split_ands
              have hbx := (by assumption : Below wr.heap.size wr _)
              go_wp2
              go_ret
              exact ⟨ret_str HE2.out, hbel.trans (hbx.mono hbel.size)⟩
end Go.Proofs.YtnkiiphliilegaaDoor

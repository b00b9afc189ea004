/- Walk of the writer's quant. -/
import Derived.Test.YtnkiiphliilegaaDoorV4
import Derived.Deep.CutRange
import Derived.Deep.DeepCutAuto
namespace Go.Proofs.YtnkiiphliilegaaDoor
open Go.RowKit

theorem itF_pos {n : Int} (h : 0 ≤ n) : itF n = numF n.toNat := by
  unfold itF
  rw [if_neg (by omega)]
theorem q_same (n : Int) (h : 0 ≤ n) : quantF n n = ([123] ++ itF n) ++ [125] := by
  unfold quantF
  rw [if_neg (by omega), if_neg (by omega), if_neg (by omega), if_pos rfl, itF_pos h]
  simp
theorem q_open (n : Int) (h : 2 ≤ n) : quantF n (-1) = ([123] ++ itF n) ++ [44, 125] := by
  unfold quantF
  rw [if_neg (by omega), if_neg (by omega), if_neg (by omega), if_neg (by omega), if_pos rfl, itF_pos (by omega)]
  simp
theorem q_two (n m : Int) (h : 0 ≤ n) (h2 : n < m) (h3 : ¬ (n = 0 ∧ m = 1)) : quantF n m = ((([123] ++ itF n) ++ [44]) ++ itF m) ++ [125] := by
  unfold quantF
  rw [if_neg (by omega), if_neg (by omega), if_neg h3, if_neg (by omega), if_neg (by omega), itF_pos h, itF_pos (by omega)]
  simp

set_option maxRecDepth 100000 in
set_option maxHeartbeats 16000000 in
theorem quant_any (g : Nat) (st : St) (op : Int) (p : Nat → Bool) (mn mx : Int) (A : Option Addr) (n c : Nat) (w : World) (hw : WAt w g st) (hT : Tabs w) (m0 : 0 ≤ mn) (m1 : mn ≤ 200) (m2 : mx ≤ 200) (m3 : mx = -1 ∨ mn ≤ mx) (hlen : st.s.length + 500 ≤ 4000000) :
    Calls Tryd.prog 28 #[.pointer (some ⟨g, 0, none⟩), tval op p mn mx A n c] w (Wrote1 g (st.put (quantF mn mx)) w) := by
  unfold Wrote1
  obtain ⟨T, hT2⟩ : ∃ T, T = st.put (quantF mn mx) := ⟨_, rfl⟩
  rw [← hT2]
  have HTT := Lib.hid hT2
  have hlt0 := hw.lt
  have hwr0 : Wr g w (w.alloc (.cells (tcells op p mn mx A n c) 27)) := (Wr.refl g w).alloc (Nat.le_of_lt hlt0) _
  have hw0 := hw.alloc (.cells (tcells op p mn mx A n c) 27)
  have hbk0 := Blk.new w 27 (tcells op p mn mx A n c)
  have HIa := Lib.hid (fun W hb => itoa_any mn (by omega) m1 W (hT.below (Below.trans ((Below.refl w.heap.size w).alloc (Nat.le_refl _) (.cells (tcells op p mn mx A n c) 27)) (B := w.heap.size) hb) hT.size))
  have HIb := Lib.hid (fun W hb => itoa_any mx (by omega) m2 W (hT.below (Below.trans ((Below.refl w.heap.size w).alloc (Nat.le_refl _) (.cells (tcells op p mn mx A n c) 27)) (B := w.heap.size) hb) hT.size))
  have hla := itF_len mn m1
  have hlb := itF_len mx m2
  have HLa := Lib.hid (itF_lt mn)
  have HLb := Lib.hid (itF_lt mx)
  have HM := Lib.hid (And.intro m0 (And.intro m1 (And.intro m2 m3)))
  obtain ⟨Fa, hFa⟩ : ∃ F, F = itF mn := ⟨_, rfl⟩
  obtain ⟨Fb, hFb⟩ : ∃ F, F = itF mx := ⟨_, rfl⟩
  rw [← hFa] at HIa hla HLa
  rw [← hFb] at HIb hlb HLb
  have HFa := Lib.hid hFa
  have HFb := Lib.hid hFb
  have c5 := hbk0.cell 5
  have c6 := hbk0.cell 6
  simp only [List.getElem?_toArray, List.getElem?_cons_zero, List.getElem?_cons_succ] at c5 c6
  obtain ⟨wa, hwa⟩ : ∃ wa, wa = w.alloc (.cells (tcells op p mn mx A n c) 27) := ⟨_, rfl⟩
  have hsz : w.heap.size < wa.heap.size := by rw [hwa]; simp
  have Hbk0 : Hid (Blk wa w.heap.size 27 (tcells op p mn mx A n c)) := Lib.hid (hwa ▸ hbk0)
  have Hw0 : Hid (WAt wa g st) := Lib.hid (hwa ▸ hw0)
  have Hwr0 : Hid (Wr g w wa) := Lib.hid (hwa ▸ hwr0)
  rw [← hwa] at HIa HIb c5 c6
  have Hwa := Lib.hid hwa
  clear hT hT2 hw m0 m1 m2 m3 hFa hFb hwr0 hw0 hbk0 hwa
  go_enter Tryd.func28, Tryd.ntmps28
  go_upto_region 1 with fail
  rw [← Hwa.out]
  go_cut [4, 5] (fun x y wx => x = .string (strL Fa) ∧ y = .string (strL Fb) ∧ Below wa.heap.size wa wx)
  case first =>
   go_region_held3 (fun w' => w'.cell? ⟨w.heap.size, 5, none⟩ = some (.int .i64 mn) ∧ w'.cell? ⟨w.heap.size, 6, none⟩ = some (.int .i64 mx) ∧ Below wa.heap.size wa w')
    (first | exact ⟨c5, c6, (Below.refl _ _).drew⟩ | assumption | (go_split_ands; have hbx := held_step (by assumption) hb1; exact ⟨(hbx.cell (p := ⟨_, 5, none⟩) hsz).trans c5, (hbx.cell (p := ⟨_, 6, none⟩) hsz).trans c6, hbx⟩))
    (first | (go_at_call 38; with_reducible refine (HIa.out _ (by go_split_ands; refine Below.mono ?_ (Nat.le_of_lt hsz); assumption)).mono ?_; rintro e w1 ⟨rfl, hb1⟩) | (go_at_call 38; with_reducible refine (HIb.out _ (by go_split_ands; refine Below.mono ?_ (Nat.le_of_lt hsz); assumption)).mono ?_; rintro e w1 ⟨rfl, hb1⟩))
   all_goals go_split_ands
   all_goals have hbx := (by assumption : Below wa.heap.size wa _)
   all_goals go_wp2_with fail
   all_goals go_meet
   all_goals exact ⟨rfl, rfl, hbx⟩
  case rest =>
    obtain ⟨rfl, rfl, hbx⟩ := hcut
    have hwx := Hw0.out.below hbx
    have hwrx := Hwr0.out.below hbx (by omega)
    have hbk := Hbk0.out.below hbx hsz
    have c5 := hbk.cell 5
    have c6 := hbk.cell 6
    simp only [List.getElem?_toArray, List.getElem?_cons_zero, List.getElem?_cons_succ] at c5 c6
    obtain ⟨m0, m1, m2, m3⟩ := HM.out
    have hcases : (mn = 0 ∧ mx = -1) ∨ (mn = 1 ∧ mx = -1) ∨ (mn = 0 ∧ mx = 1) ∨ (mn = 0 ∧ mx = 0) ∨ (mn = 1 ∧ mx = 1) ∨ (mn = mx ∧ 2 ≤ mx) ∨ (mx = -1 ∧ 2 ≤ mn) ∨ (mn = 0 ∧ 2 ≤ mx) ∨ (mn = 1 ∧ 2 ≤ mx) ∨ (2 ≤ mn ∧ mn < mx) := by omega
    clear m0 m1 m2 m3 Hwa hbk hbx
    rcases hcases with ⟨rfl, rfl⟩ | ⟨rfl, rfl⟩ | ⟨rfl, rfl⟩ | ⟨rfl, rfl⟩ | ⟨rfl, rfl⟩ | ⟨rfl, hm⟩ | ⟨rfl, hm⟩ | ⟨rfl, hm⟩ | ⟨rfl, hm⟩ | ⟨hm, hm2⟩
    · have Hcall := Lib.hid (writeK_any g st #[42] [42] rfl (bytes8_one (by omega)) (by simp) _ hwx (by simp; omega))
      have HE : Hid (st.put [42] = T) := Lib.hid (by rw [HTT.out]; rfl)
      go_wp2_with fail
      refine Hcall.out.mono ?_
      rintro e w2 ⟨rfl, h1, h2⟩
      go_wp2
      go_end0
      exact ⟨rfl, HE.out ▸ h1, hwrx.trans h2⟩
    · have Hcall := Lib.hid (writeK_any g st #[43] [43] rfl (bytes8_one (by omega)) (by simp) _ hwx (by simp; omega))
      have HE : Hid (st.put [43] = T) := Lib.hid (by rw [HTT.out]; rfl)
      go_wp2_with fail
      refine Hcall.out.mono ?_
      rintro e w2 ⟨rfl, h1, h2⟩
      go_wp2
      go_end0
      exact ⟨rfl, HE.out ▸ h1, hwrx.trans h2⟩
    · have Hcall := Lib.hid (writeK_any g st #[63] [63] rfl (bytes8_one (by omega)) (by simp) _ hwx (by simp; omega))
      have HE : Hid (st.put [63] = T) := Lib.hid (by rw [HTT.out]; rfl)
      go_wp2_with fail
      refine Hcall.out.mono ?_
      rintro e w2 ⟨rfl, h1, h2⟩
      go_wp2
      go_end0
      exact ⟨rfl, HE.out ▸ h1, hwrx.trans h2⟩
    · obtain ⟨S1, HS1, l1, q1, r1⟩ := cat_pre #[123] [123] Fa rfl (by simp; omega)
      rw [List.length_cons, List.length_nil] at l1
      obtain ⟨S2, HS2, l2, q2, r2⟩ := cat_k S1 #[125] [125] rfl (by simp; omega)
      have Hcall := Lib.hid (writeString_any g st S2 (by rw [HS2.out, HS1.out]; exact ((bytes8_one (by omega)).app HLa.out).app (bytes8_one (by omega))) (by rw [HS2.out]; simp) _ hwx (by simp at l2; omega))
      have HE : Hid (st.put S2 = T) := Lib.hid (by rw [HTT.out, q_same 0 (by omega), HS2.out, HS1.out, HFa.out])
      clear l1 l2
      go_wp2_with fail
      refine Hcall.out.mono ?_
      rintro e w2 ⟨rfl, h1, h2⟩
      go_wp2
      go_end0
      exact ⟨rfl, HE.out ▸ h1, hwrx.trans h2⟩
    · obtain ⟨S1, HS1, l1, q1, r1⟩ := cat_pre #[123] [123] Fa rfl (by simp; omega)
      rw [List.length_cons, List.length_nil] at l1
      obtain ⟨S2, HS2, l2, q2, r2⟩ := cat_k S1 #[125] [125] rfl (by simp; omega)
      have Hcall := Lib.hid (writeString_any g st S2 (by rw [HS2.out, HS1.out]; exact ((bytes8_one (by omega)).app HLa.out).app (bytes8_one (by omega))) (by rw [HS2.out]; simp) _ hwx (by simp at l2; omega))
      have HE : Hid (st.put S2 = T) := Lib.hid (by rw [HTT.out, q_same 1 (by omega), HS2.out, HS1.out, HFa.out])
      clear l1 l2
      go_wp2_with fail
      refine Hcall.out.mono ?_
      rintro e w2 ⟨rfl, h1, h2⟩
      go_wp2
      go_end0
      exact ⟨rfl, HE.out ▸ h1, hwrx.trans h2⟩
    · have f0 : (mn == 0) = false := ne_false (by omega)
      have f1 : (mn == 1) = false := ne_false (by omega)
      obtain ⟨S1, HS1, l1, q1, r1⟩ := cat_pre #[123] [123] Fa rfl (by simp; omega)
      rw [List.length_cons, List.length_nil] at l1
      obtain ⟨S2, HS2, l2, q2, r2⟩ := cat_k S1 #[125] [125] rfl (by simp; omega)
      have Hcall := Lib.hid (writeString_any g st S2 (by rw [HS2.out, HS1.out]; exact ((bytes8_one (by omega)).app HLa.out).app (bytes8_one (by omega))) (by rw [HS2.out]; simp) _ hwx (by simp at l2; omega))
      have HE : Hid (st.put S2 = T) := Lib.hid (by rw [HTT.out, q_same mn (by omega), HS2.out, HS1.out, HFa.out])
      clear l1 l2
      go_wp2_with fail
      refine Hcall.out.mono ?_
      rintro e w2 ⟨rfl, h1, h2⟩
      go_wp2
      go_end0
      exact ⟨rfl, HE.out ▸ h1, hwrx.trans h2⟩
    · have f0 : (mn == 0) = false := ne_false (by omega)
      have f1 : (mn == 1) = false := ne_false (by omega)
      have f2 : ((-1 : Int) == mn) = false := ne_false (by omega)
      obtain ⟨S1, HS1, l1, q1, r1⟩ := cat_pre #[123] [123] Fa rfl (by simp; omega)
      rw [List.length_cons, List.length_nil] at l1
      obtain ⟨S2, HS2, l2, q2, r2⟩ := cat_k S1 #[44, 125] [44, 125] rfl (by simp; omega)
      have Hcall := Lib.hid (writeString_any g st S2 (by rw [HS2.out, HS1.out]; exact ((bytes8_one (by omega)).app HLa.out).app (bytes8_cons (by omega) (bytes8_one (by omega)))) (by rw [HS2.out]; simp) _ hwx (by simp at l2; omega))
      have HE : Hid (st.put S2 = T) := Lib.hid (by rw [HTT.out, q_open mn (by omega), HS2.out, HS1.out, HFa.out])
      clear l1 l2
      go_wp2_with fail
      refine Hcall.out.mono ?_
      rintro e w2 ⟨rfl, h1, h2⟩
      go_wp2
      go_end0
      exact ⟨rfl, HE.out ▸ h1, hwrx.trans h2⟩
    · have f0 : (mx == -1) = false := ne_false (by omega)
      have f1 : (mx == 1) = false := ne_false (by omega)
      have f2 : (mx == 0) = false := ne_false (by omega)
      obtain ⟨S1, HS1, l1, q1, r1⟩ := cat_pre #[123] [123] Fa rfl (by simp; omega)
      rw [List.length_cons, List.length_nil] at l1
      obtain ⟨S2, HS2, l2, q2, r2⟩ := cat_k S1 #[44] [44] rfl (by simp; omega)
      rw [List.length_cons, List.length_nil] at l2
      obtain ⟨S3, HS3, l3, q3, r3⟩ := cat_var S2 Fb (by omega)
      obtain ⟨S4, HS4, l4, q4, r4⟩ := cat_k S3 #[125] [125] rfl (by simp; omega)
      rw [List.length_cons, List.length_nil] at l4
      have Hcall := Lib.hid (writeString_any g st S4 (by rw [HS4.out, HS3.out, HS2.out, HS1.out]; exact ((((bytes8_one (by omega)).app HLa.out).app (bytes8_one (by omega))).app HLb.out).app (bytes8_one (by omega))) (by rw [HS4.out]; simp) _ hwx (by omega))
      have HE : Hid (st.put S4 = T) := Lib.hid (by rw [HTT.out, q_two _ _ (by omega) (by omega) (by omega), HS4.out, HS3.out, HS2.out, HS1.out, HFa.out, HFb.out])
      clear l1 l2 l3 l4
      go_wp2_with fail
      refine Hcall.out.mono ?_
      rintro e w2 ⟨rfl, h1, h2⟩
      go_wp2
      go_end0
      exact ⟨rfl, HE.out ▸ h1, hwrx.trans h2⟩
    · have f0 : (mx == -1) = false := ne_false (by omega)
      have f1 : (mx == 1) = false := ne_false (by omega)
      obtain ⟨S1, HS1, l1, q1, r1⟩ := cat_pre #[123] [123] Fa rfl (by simp; omega)
      rw [List.length_cons, List.length_nil] at l1
      obtain ⟨S2, HS2, l2, q2, r2⟩ := cat_k S1 #[44] [44] rfl (by simp; omega)
      rw [List.length_cons, List.length_nil] at l2
      obtain ⟨S3, HS3, l3, q3, r3⟩ := cat_var S2 Fb (by omega)
      obtain ⟨S4, HS4, l4, q4, r4⟩ := cat_k S3 #[125] [125] rfl (by simp; omega)
      rw [List.length_cons, List.length_nil] at l4
      have Hcall := Lib.hid (writeString_any g st S4 (by rw [HS4.out, HS3.out, HS2.out, HS1.out]; exact ((((bytes8_one (by omega)).app HLa.out).app (bytes8_one (by omega))).app HLb.out).app (bytes8_one (by omega))) (by rw [HS4.out]; simp) _ hwx (by omega))
      have HE : Hid (st.put S4 = T) := Lib.hid (by rw [HTT.out, q_two _ _ (by omega) (by omega) (by omega), HS4.out, HS3.out, HS2.out, HS1.out, HFa.out, HFb.out])
      clear l1 l2 l3 l4
      go_wp2_with fail
      refine Hcall.out.mono ?_
      rintro e w2 ⟨rfl, h1, h2⟩
      go_wp2
      go_end0
      exact ⟨rfl, HE.out ▸ h1, hwrx.trans h2⟩
    · have f0 : (mn == 0) = false := ne_false (by omega)
      have f1 : (mn == 1) = false := ne_false (by omega)
      have f2 : (mx == mn) = false := ne_false (by omega)
      have f3 : (mx == -1) = false := ne_false (by omega)
      obtain ⟨S1, HS1, l1, q1, r1⟩ := cat_pre #[123] [123] Fa rfl (by simp; omega)
      rw [List.length_cons, List.length_nil] at l1
      obtain ⟨S2, HS2, l2, q2, r2⟩ := cat_k S1 #[44] [44] rfl (by simp; omega)
      rw [List.length_cons, List.length_nil] at l2
      obtain ⟨S3, HS3, l3, q3, r3⟩ := cat_var S2 Fb (by omega)
      obtain ⟨S4, HS4, l4, q4, r4⟩ := cat_k S3 #[125] [125] rfl (by simp; omega)
      rw [List.length_cons, List.length_nil] at l4
      have Hcall := Lib.hid (writeString_any g st S4 (by rw [HS4.out, HS3.out, HS2.out, HS1.out]; exact ((((bytes8_one (by omega)).app HLa.out).app (bytes8_one (by omega))).app HLb.out).app (bytes8_one (by omega))) (by rw [HS4.out]; simp) _ hwx (by omega))
      have HE : Hid (st.put S4 = T) := Lib.hid (by rw [HTT.out, q_two _ _ (by omega) (by omega) (by omega), HS4.out, HS3.out, HS2.out, HS1.out, HFa.out, HFb.out])
      clear l1 l2 l3 l4
      go_wp2_with fail
      refine Hcall.out.mono ?_
      rintro e w2 ⟨rfl, h1, h2⟩
      go_wp2
      go_end0
      exact ⟨rfl, HE.out ▸ h1, hwrx.trans h2⟩
end Go.Proofs.YtnkiiphliilegaaDoor

/- Walks of show.Show and show.Check. -/
import Derived.Test.YtnkiiphliilegaaDoorV10
namespace Go.Proofs.YtnkiiphliilegaaDoor
open Go.RowKit

set_option maxRecDepth 100000 in
set_option maxHeartbeats 8000000 in
theorem show_any (op : Int) (p : Nat → Bool) (mn mx : Int) (ks : List Tm) (A : Option Addr) (c : Nat) (w : World) (hN : nodesL ks ≤ 500) (hks : KidsIn w (· < w.heap.size) A ks) (hT : Tabs w) :
    Calls Tryd.prog 7 #[tval op p mn mx A ks.length c] w (ShowSaid (.node op p mn mx ks) w) := by
  have hb0 : Below w.heap.size w (w.alloc (.cells (tcells op p mn mx A ks.length c) 27)) := (Below.refl _ _).alloc (Nat.le_refl _) _
  have hcr := right_all 501 op p mn mx ks A c _ (by omega) (by omega) (hks.below hb0 hb0.size)
  have hsay := saysW (.node op p mn mx ks)
  have hs2 := hT.size
  have hterm := fun (hr : rightT (.node op p mn mx ks) = true) (g : Nat) (W : World) (hb : Below w.heap.size w W) (hg : w.heap.size ≤ g) (hW : WAt W g ⟨[], 0, 0⟩) => term_all 501 op p mn mx ks A c g ⟨[], 0, 0⟩ W (by omega) (by omega) hr (hks.keep (keeps_below hb hg)) hW (hT.below hb hs2) (by omega) (by simp; omega) (by simp; omega) (by simp)
  have hbd := wTerm_bd (.node op p mn mx ks) ⟨[], 0, 0⟩
  have hlt8 := rForm_lt (.node op p mn mx ks)
  have hsame := show_same RF (.node op p mn mx ks)
  have Hblk := Lib.hid (Blk.new w 27 (tcells op p mn mx A ks.length c))
  have Hb0 := Lib.hid hb0
  cases hr : rightT (.node op p mn mx ks) with
  | false =>
    rw [hr] at hcr hsay
    rw [if_pos rfl] at hsay
    have HE := Lib.hid (fun W hb => said_err (w := w) (w' := W) hsay.symm hb)
    have Hcr := Lib.hid hcr
    clear hcr hsay hterm hbd hlt8 hsame hr hb0 hks hT hN
    generalize ShowSaid (.node op p mn mx ks) w = Q at *
    generalize ks.length = n at *
    go_enter Tryd.func7, Tryd.ntmps7
    go_wp2_with fail
    refine Hcr.out.mono ?_
    rintro e w1 ⟨rfl, hb1⟩
    go_wp2
    exact HE.out _ (Hb0.out.trans (hb1.mono Hb0.out.size))
  | true =>
    rw [hr] at hcr hsay
    rw [if_neg (by simp)] at hsay
    have hbd2 := hbd hr
    unfold nodes at hbd2
    have hl : (wTerm RF (.node op p mn mx ks) ⟨[], 0, 0⟩).s.length ≤ 4000000 := by have := hbd2.1; simp at this; omega
    have hb8 : ¬ 200 < (wTerm RF (.node op p mn mx ks) ⟨[], 0, 0⟩).s.length → Bytes8 (wTerm RF (.node op p mn mx ks) ⟨[], 0, 0⟩).s := fun h => by
      rw [(hsame.2 (fun h' => h (hsame.1.2 h'))).1]
      exact hlt8
    have Hterm := Lib.hid (hterm hr)
    have Hcr := Lib.hid hcr
    have HE := Lib.hid (fun n W h hb => said_err (t := .node op p mn mx ks) (w := w) (w' := W) (n := n) h hb)
    have HO := Lib.hid (fun L W h h8 hb => said_ok (t := .node op p mn mx ks) (w := w) (W := W) (L := L) h h8 hb)
    have Hsay := Lib.hid hsay
    clear hcr hsay hterm hbd hbd2 hlt8 hsame hr hb0 hks hT hN
    generalize ShowSaid (.node op p mn mx ks) w = Q at *
    generalize wTerm RF (.node op p mn mx ks) ⟨[], 0, 0⟩ = r at *
    generalize saysOf (.node op p mn mx ks) = SY at *
    generalize ks.length = n at *
    go_enter Tryd.func7, Tryd.ntmps7
    go_wp2_with fail
    refine Hcr.out.mono ?_
    rintro e w1 ⟨rfl, hb1⟩
    have hblk1 := Hblk.out.below hb1 (by simp)
    have hbw := Hb0.out.trans (hb1.mono Hb0.out.size)
    have hbk := hblk1.alloc (.cells #[.pointer none, .slice none 0 0, .int .i64 0, .int .i64 0] 47)
    have c0 := hbk.cell 0
    have c1 := hbk.cell 1
    have c2 := hbk.cell 2
    have c3 := hbk.cell 3
    have c4 := hbk.cell 4
    have c5 := hbk.cell 5
    have c6 := hbk.cell 6
    have c7 := hbk.cell 7
    simp only [List.getElem?_toArray, List.getElem?_cons_zero, List.getElem?_cons_succ] at c0 c1 c2 c3 c4 c5 c6 c7
    have hWA : WAt (w1.alloc (.cells #[.pointer none, .slice none 0 0, .int .i64 0, .int .i64 0] 47)) w1.heap.size ⟨[], 0, 0⟩ := ⟨_, _, Blk.new w1 _ _, .inl rfl, World.ownsRow_nil _ _ _ _, fun _ => rfl⟩
    have Hcall := Lib.hid (Hterm.out w1.heap.size _ (hbw.alloc hbw.size _) hbw.size hWA)
    have hbw2 := hbw.alloc hbw.size (.cells #[.pointer none, .slice none 0 0, .int .i64 0, .int .i64 0] 47)
    have hwsz := hbw.size
    clear hb1 hblk1 hbk hWA hbw
    go_wp2_with fail
    refine Hcall.out.mono ?_
    rintro e w3 ⟨rfl, h1, h2⟩
    have hb3 := hbw2.trans (h2.1.mono hwsz)
    have Hlong := Lib.hid (long_any _ r _ h1)
    have H1 := Lib.hid h1
    obtain ⟨a, v, hb, _, _, _⟩ := h1
    have d3 := hb.cell 3
    simp only [List.getElem?_toArray, List.getElem?_cons_zero, List.getElem?_cons_succ] at d3
    clear c0 c1 c2 c3 c4 c5 c6 c7 hb h2 hbw2 Hcall
    by_cases h200 : 200 < r.s.length
    · have HE1 := Lib.hid (HE.out 1 w3 (by rw [Hsay.out, if_pos h200]) hb3)
      rw [decide_eq_true h200] at Hlong
      clear h200 hb8
      go_wp2_with fail
      refine Hlong.out.mono ?_
      rintro e w4 ⟨rfl, rfl⟩
      go_wp2
      exact HE1.out
    · rw [decide_eq_false h200] at Hlong
      by_cases h30 : 30 < r.dd
      · have HE1 := Lib.hid (HE.out 52 w3 (by rw [Hsay.out, if_neg h200, if_pos h30]) hb3)
        clear h200 hb8
        go_wp2_with fail
        refine Hlong.out.mono ?_
        rintro e w4 ⟨rfl, rfl⟩
        go_wp2
        exact HE1.out
      · have h8 := hb8 h200
        have HO1 := Lib.hid (fun W hb => HO.out r.s W (by rw [Hsay.out, if_neg h200, if_neg h30]) h8 hb)
        have Hstr := Lib.hid (string_any _ r h8 _ H1.out hl)
        have hcv : ∀ W, (convert 9 31 (.string (strL r.s))).run Tryd.prog W = .ok (.slice (some ⟨W.heap.size, 0, none⟩) (strL r.s).size (grownCap W (strL r.s).size 0 5)) (Lib.bytesWorld W 5 (strL r.s)) := fun W => Lib.run_convert_string_bytes W 9 31 5 (strL r.s) Tryd.underlying9 Tryd.underlying31 Tryd.underlying5
        have Hcv := Lib.hid hcv
        have Hsz := Lib.hid (strL_size r.s)
        clear h200 hb8 h8 hl hcv
        generalize strL r.s = s at *
        go_wp2_with fail
        refine Hlong.out.mono ?_
        rintro e w4 ⟨rfl, rfl⟩
        go_wp2_with fail
        refine Hstr.out.mono ?_
        rintro e w5 ⟨rfl, hb5⟩
        have hb6 := hb3.trans (hb5.mono hwsz)
        have hcv := Hcv.out
        have HO2 := HO1.out _ hb6
        rw [← Hsz.out] at HO2
        have HO3 := Lib.hid HO2
        clear HO2
        go_wp2
        exact HO3.out
end Go.Proofs.YtnkiiphliilegaaDoor

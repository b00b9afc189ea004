/- Walk of riddlelaw06.ShowWrites: it answers true. -/
import Derived.Test.YtnkiiphliilegaaDoorV13
import Derived.Test.YtnkiiphliilegaaDoorTA
namespace Go.Proofs.YtnkiiphliilegaaDoor
open Go.RowKit

/-- the eight cells of a term's block -/
theorem eight {w : World} {g : Nat} {t : TypeId} {a0 a1 a2 a3 a4 a5 a6 a7 : Value} (h : Blk w g t #[a0, a1, a2, a3, a4, a5, a6, a7]) :
    w.cell? ⟨g, 0, none⟩ = some a0 ∧ w.cell? ⟨g, 1, none⟩ = some a1 ∧ w.cell? ⟨g, 2, none⟩ = some a2 ∧ w.cell? ⟨g, 3, none⟩ = some a3 ∧ w.cell? ⟨g, 4, none⟩ = some a4 ∧ w.cell? ⟨g, 5, none⟩ = some a5 ∧ w.cell? ⟨g, 6, none⟩ = some a6 ∧ w.cell? ⟨g, 7, none⟩ = some a7 :=
  ⟨h.cell 0, h.cell 1, h.cell 2, h.cell 3, h.cell 4, h.cell 5, h.cell 6, h.cell 7⟩

set_option maxRecDepth 100000 in
set_option maxHeartbeats 16000000 in
theorem law_any (op : Int) (p : Nat → Bool) (mn mx : Int) (ks : List Tm) (A : Option Addr) (c : Nat) (w : World) (hks : KidsIn w (· < w.heap.size) A ks) (hT : Tabs w) :
    Calls Tryd.prog 3 #[tval op p mn mx A ks.length c] w fun e w' => e = .returned (.bool true) ∧ Below w.heap.size w w' := by
  have hs2 := hT.size
  have hb0 : Below w.heap.size w (w.alloc (.cells (tcells op p mn mx A ks.length c) 27)) := (Below.refl _ _).alloc (Nat.le_refl _) _
  have Hsp := Lib.hid (speaks_any _ (hT.below hb0 hs2))
  have Hblk := Lib.hid (Blk.new w 27 (tcells op p mn mx A ks.length c))
  have Hgr := Lib.hid (fun W hb => great_any op p mn mx ks A c W (hks.below hb hb.size))
  have Hnd : Hid (¬ 500 < sizeT (.node op p mn mx ks) 0 → nodesL ks < 501 ∧ nodesL ks ≤ 500) := Lib.hid (fun h => by
    have := size_nodes (.node op p mn mx ks) 0 (by omega)
    unfold nodes at this
    omega)
  have HT := Lib.hid hT
  have Hks := Lib.hid hks
  have Hb0 := Lib.hid hb0
  obtain ⟨n, hn⟩ : ∃ n, n = ks.length := ⟨_, rfl⟩
  rw [← hn] at Hsp Hblk Hgr Hb0 ⊢
  have Hn := Lib.hid hn
  clear hT hks hb0 hn
  go_enter Tryd.func3, Tryd.ntmps3
  go_wp2_with fail
  refine Hsp.out.mono ?_
  rintro e w1 ⟨rfl, hb1⟩
  have hbk1 := Hblk.out.below hb1 (by simp)
  have hbw1 := Hb0.out.trans (hb1.mono Hb0.out.size)
  obtain ⟨c0, c1, c2, c3, c4, c5, c6, c7⟩ := eight hbk1
  clear hb1
  by_cases hg : 500 < sizeT (.node op p mn mx ks) 0
  · have hgr := Hgr.out _ hbw1
    rw [decide_eq_true hg] at hgr
    have Hgr2 := Lib.hid hgr
    clear hgr hg
    go_wp2_with fail
    refine Hgr2.out.mono ?_
    rintro e w2 ⟨rfl, hb2⟩
    go_wp2
    go_ret
    exact ⟨rfl, hbw1.trans (hb2.mono hbw1.size)⟩
  · obtain ⟨hN, hN0⟩ := Hnd.out hg
    have hgr := Hgr.out _ hbw1
    rw [decide_eq_false hg] at hgr
    have Hgr2 := Lib.hid hgr
    clear hgr hg
    go_wp2_with fail
    refine Hgr2.out.mono ?_
    rintro e w2 ⟨rfl, hb2⟩
    have hbk2 := hbk1.below hb2 hbk1.lt
    have hbw2 := hbw1.trans (hb2.mono hbw1.size)
    have hcp := copy_all 501 op p mn mx ks A c w2 hN (by omega) (Hks.out.below hbw2 hbw2.size)
    rw [← Hn.out] at hcp
    have Hcp := Lib.hid hcp
    clear c0 c1 c2 c3 c4 c5 c6 c7 hbk1 hbw1 hb2 Hgr2 hcp
    obtain ⟨c0, c1, c2, c3, c4, c5, c6, c7⟩ := eight hbk2
    go_wp2_with fail
    refine Hcp.out.mono ?_
    intro e w3 hcpd
    obtain ⟨A', c', rfl, hk3, hb3⟩ := hcpd
    rw [← Hn.out]
    have hbk3 := hbk2.below hb3 hbk2.lt
    have hbw3 := hbw2.trans (hb3.mono hbw2.size)
    have hKs3 : KidsIn w3 (· < w3.heap.size) A' ks := hk3.keep fun b h => ⟨h.2, fun _ => rfl⟩
    have hb3a : Below w3.heap.size w3 (w3.alloc (.cells (tcells op p mn mx A' n c') 27)) := (Below.refl _ _).alloc (Nat.le_refl _) _
    have hin3 := Blk.new w3 27 (tcells op p mn mx A' n c')
    have hbk3a := hbk3.below hb3a hbk3.lt
    have hbw3a := hbw3.trans (hb3a.mono hbw3.size)
    have hsh := show_any op p mn mx ks A' c' _ hN0 (hKs3.below hb3a hb3a.size) (HT.out.below hbw3a hs2)
    rw [← Hn.out] at hsh
    have Hsh := Lib.hid hsh
    have HKs3 := Lib.hid hKs3
    have Hin3 := Lib.hid hin3
    have hlt3 : w3.heap.size < (w3.alloc (.cells (tcells op p mn mx A' n c') 27)).heap.size := by simp
    unfold ShowSaid at Hsh
    clear c0 c1 c2 c3 c4 c5 c6 c7 hbk2 hbw2 hk3 hb3 hKs3 hin3 Hcp hsh hbk3 hbw3
    go_wp2_with fail
    refine Hsh.out.mono ?_
    rintro e w4 ⟨B, d, rfl, hrd, hb4⟩
    have hbk4 := hbk3a.below hb4 hbk3a.lt
    have hin4 := Hin3.out.below hb4 hlt3
    have hbw4 := hbw3a.trans (hb4.mono hbw3a.size)
    have hb34 : Below w3.heap.size w3 w4 := hb3a.trans (hb4.mono hb3a.size)
    have hrs := refShow_any op p mn mx ks A c w4 hN0 (Hks.out.below hbw4 hbw4.size)
    rw [← Hn.out] at hrs
    have Hrs := Lib.hid hrs
    unfold RefSaid at Hrs
    clear hbk3a hbw3a hb3a hb4 hlt3 hrs Hsh
    obtain ⟨c0, c1, c2, c3, c4, c5, c6, c7⟩ := eight hbk4
    have Hrd := Lib.hid hrd
    clear hrd
    go_wp2_with fail
    refine Hrs.out.mono ?_
    rintro e w5 ⟨rfl, hb5⟩
    have hbk5 := hbk4.below hb5 hbk4.lt
    have hin5 := hin4.below hb5 hin4.lt
    have hbw5 := hbw4.trans (hb5.mono hbw4.size)
    have hb35 : Below w3.heap.size w3 w5 := hb34.trans (hb5.mono hb34.size)
    have hrd5 := Hrd.out.below hb5 (Nat.le_refl _)
    have hcv := run_strL (P := Tryd.prog) hrd5 31 9 5 Tryd.underlying31 Tryd.underlying5 Tryd.underlying9 d
    have hck := check_any op p mn mx ks A' c' w5 hN0 (HKs3.out.below hb35 hb35.size) (HT.out.below hbw5 hs2)
    rw [← Hn.out] at hck
    have Hck := Lib.hid hck
    clear c0 c1 c2 c3 c4 c5 c6 c7 hbk4 hbw4 hb5 hck hrd5 Hrd Hrs hb34
    obtain ⟨c0, c1, c2, c3, c4, c5, c6, c7⟩ := eight hin5
    have Hsame := Lib.hid (fun W h1 h2 => same_all 501 op p mn mx ks A' A c' c W hN (by omega) h1 h2)
    rw [← Hn.out] at Hsame
    generalize saysOf (.node op p mn mx ks) = SY at *
    generalize strL SY.1 = s at *
    generalize SY.1.length = m at *
    generalize SY.2 = z at *
    go_wp2_with fail
    refine Hck.out.mono ?_
    rintro e w6 ⟨rfl, hb6⟩
    have hbk6 := hbk5.below hb6 hbk5.lt
    have hin6 := hin5.below hb6 hin5.lt
    have hbw6 := hbw5.trans (hb6.mono hbw5.size)
    have hb36 : Below w3.heap.size w3 w6 := hb35.trans (hb6.mono hb35.size)
    have Hsm := Lib.hid (Hsame.out _ (HKs3.out.below hb36 hb36.size) (Hks.out.below hbw6 hbw6.size))
    clear c0 c1 c2 c3 c4 c5 c6 c7 hbk5 hbw5 hb6 hb35 hin5 hcv hin4
    obtain ⟨c0, c1, c2, c3, c4, c5, c6, c7⟩ := eight hin6
    obtain ⟨d0, d1, d2, d3, d4, d5, d6, d7⟩ := eight hbk6
    go_wp2_with fail
    refine Hsm.out.mono ?_
    rintro e w7 ⟨rfl, hb7⟩
    go_wp2
    go_ret
    exact ⟨rfl, hbw6.trans (hb7.mono hbw6.size)⟩
end Go.Proofs.YtnkiiphliilegaaDoor

/- Walk of the writer's kid. -/
import Derived.Test.YtnkiiphliilegaaDoorV6
namespace Go.Proofs.YtnkiiphliilegaaDoor
open Go.RowKit

/-- what a call of the writer's term does, for terms of few nodes -/
def TermW (N : Nat) : Prop := ∀ (op : Int) (p : Nat → Bool) (mn mx : Int) (ks : List Tm) (A : Option Addr) (c g : Nat) (st : St) (w : World), nodesL ks < N → N ≤ 501 → rightT (.node op p mn mx ks) = true → KidsIn w (· < g) A ks →
    WAt w g st → Tabs w → 2 ≤ g → st.s.length + 4000 * (1 + nodesL ks) ≤ 3000000 → st.d + 2 * (1 + nodesL ks) ≤ 3000 → st.dd ≤ 3000 →
    Calls Tryd.prog 15 #[.pointer (some ⟨g, 0, none⟩), tval op p mn mx A ks.length c] w (Wrote1 g (wTerm RF (.node op p mn mx ks) st) w)

theorem opn_at {w : World} {g : Nat} {st : St} (h : WAt w g (st.put [40])) : WAt ((w.setCell ⟨g, 2, none⟩ (.int .i64 ((st.d : Int) + 1))).setCell ⟨g, 3, none⟩ (.int .i64 ((max st.dd (st.d + 1) : Nat) : Int))) g st.opn := by
  obtain ⟨a, v, hb, ha, hown, hnil⟩ := h
  have h1 := (hb.store 2 (.int .i64 ((st.d : Int) + 1))).store 3 (.int .i64 ((max st.dd (st.d + 1) : Nat) : Int))
  refine ⟨a, v, ?_, ha, own_grown hown (grownBy_store (grownBy_store (World.grownBy.refl w _) 2 _) 3 _) (Nat.lt_succ_self g), hnil⟩
  have e : ((st.opn.d : Nat) : Int) = (st.d : Int) + 1 := by simp [St.opn]
  rw [e]
  simpa [St.opn] using h1
theorem cls_at {w : World} {g : Nat} {r : St} (d : Nat) (h : WAt w g r) : WAt (w.setCell ⟨g, 2, none⟩ (.int .i64 (d : Int))) g ⟨r.s, d, r.dd⟩ := by
  obtain ⟨a, v, hb, ha, hown, hnil⟩ := h
  have h1 := hb.store 2 (.int .i64 (d : Int))
  refine ⟨a, v, ?_, ha, own_grown hown (grownBy_store (World.grownBy.refl w _) 2 _) (Nat.lt_succ_self g), hnil⟩
  simpa using h1
theorem close_eq {r : St} {d : Nat} (h : r.d = d + 1) : (St.mk r.s d r.dd).put [41] = r.close := by
  unfold St.put St.close
  rw [h]
  rfl
set_option maxRecDepth 100000 in
set_option maxHeartbeats 8000000 in
theorem kid_any (N : Nat) (ih : TermW N) (L : List Int) (hL : L.length ≤ 10) (bb : Nat) (op : Int) (p : Nat → Bool) (mn mx : Int) (ks : List Tm) (A : Option Addr) (c g : Nat) (st : St) (w : World) (hN : nodesL ks < N) (hN1 : N ≤ 501) (hr : rightT (.node op p mn mx ks) = true) (hks : KidsIn w (· < g) A ks)
    (hw : WAt w g st) (hT : Tabs w) (hg : 2 ≤ g) (hl : st.s.length + 1 + 4000 * (1 + nodesL ks) ≤ 3000000) (hd : st.d + 1 + 2 * (1 + nodesL ks) ≤ 3000) (hdd : st.dd ≤ 3000) (hbb : Blk w bb 3 (ints L)) :
    Calls Tryd.prog 27 #[.pointer (some ⟨g, 0, none⟩), tval op p mn mx A ks.length c, .slice (some ⟨bb, 0, none⟩) L.length L.length] w
      (Wrote1 g (if L.contains op then (wTerm RF (.node op p mn mx ks) st.opn).close else wTerm RF (.node op p mn mx ks) st) w) := by
  unfold Wrote1
  have hlt0 := hw.lt
  have Hterm := Lib.hid (fun (st' : St) (W : World) (hB : Below g w W) (hW : WAt W g st') h1 h2 h3 => ih op p mn mx ks A c g st' W hN hN1 hr (hks.below hB (Nat.le_refl _)) hW (hT.below hB hg) hg h1 h2 h3)
  have hbd := wTerm_bd (.node op p mn mx ks) st.opn hr
  unfold nodes at hbd
  have Hbd := Lib.hid hbd
  obtain ⟨nd, hnd⟩ : ∃ nd, nd = nodesL ks := ⟨_, rfl⟩
  rw [← hnd] at Hterm Hbd hl hd
  have hwr0 : Wr g w (w.alloc (.cells (tcells op p mn mx A ks.length c) 27)) := (Wr.refl g w).alloc (Nat.le_of_lt hlt0) _
  have hw0 := hw.alloc (.cells (tcells op p mn mx A ks.length c) 27)
  have hbk0 := Blk.new w 27 (tcells op p mn mx A ks.length c)
  have Hcon := Lib.hid (containsI_any bb L op _ hL (hbb.alloc (.cells (tcells op p mn mx A ks.length c) 27)))
  have hne : w.heap.size ≠ g := by omega
  generalize ks.length = n at *
  have Hbk0 := Lib.hid hbk0
  have Hwr0 := Lib.hid hwr0
  have Hw0 := Lib.hid hw0
  clear hw hwr0 hw0 hbk0 hks hT hbb hnd hbd hr hN ih
  generalize wTerm RF (.node op p mn mx ks) = WT at *
  cases hc : L.contains op with
  | false =>
    rw [hc] at Hcon
    generalize L.length = m at *
    clear hc Hbd
    rw [if_neg (by simp)]
    go_enter Tryd.func27, Tryd.ntmps27
    go_wp2_with fail
    refine Hcon.out.mono ?_
    rintro e w1 ⟨rfl, rfl⟩
    go_wp2_with fail
    refine (Hterm.out st _ Hwr0.out.1 Hw0.out (by omega) (by omega) hdd).mono ?_
    rintro e w1 ⟨rfl, h1, h2⟩
    go_wp2
    first | go_end0 | refine bodyPost_ret (results_none Tryd.results27 _ _ _) rfl ?_
    exact ⟨rfl, h1, Hwr0.out.trans h2⟩
  | true =>
    rw [hc] at Hcon
    generalize L.length = m at *
    clear hc
    rw [if_pos rfl]
    have Hopen := Lib.hid (writeK_any g st #[40] [40] rfl (bytes8_one (by omega)) (by simp) _ Hw0.out (by simp; omega))
    go_enter Tryd.func27, Tryd.ntmps27
    go_wp2_with fail
    refine Hcon.out.mono ?_
    rintro e w1 ⟨rfl, rfl⟩
    go_wp2_with fail
    refine Hopen.out.mono ?_
    rintro e w1 ⟨rfl, h1, h2⟩
    have HO := Lib.hid (opn_at h1)
    obtain ⟨a, v, hb, ha, hown, hnil⟩ := h1
    have hbk1 := h2.2 _ _ _ Hbk0.out (by decide) hne
    have hwr1 := Hwr0.out.trans h2
    have c2 := hb.cell 2
    have c3 := hb.cell 3
    have hf := hb.free
    have t0 := hbk1.cell 0
    have t1 := hbk1.cell 1
    have t2 := hbk1.cell 2
    have t3 := hbk1.cell 3
    have t4 := hbk1.cell 4
    have t5 := hbk1.cell 5
    have t6 := hbk1.cell 6
    have t7 := hbk1.cell 7
    simp only [List.getElem?_toArray, List.getElem?_cons_zero, List.getElem?_cons_succ] at c2 c3 t0 t1 t2 t3 t4 t5 t6 t7
    have e1 : (st.put [40]).d = st.d := rfl
    have e2 : (st.put [40]).dd = st.dd := rfl
    rw [e1] at c2
    rw [e2] at c3
    have hmax : max (st.dd : Int) ((st.d : Int) + 1) = ((max st.dd (st.d + 1) : Nat) : Int) := by omega
    have Hwr2 := Lib.hid (((hwr1.store (i := 2) (.int .i64 ((st.d : Int) + 1))).store (i := 3) (.int .i64 ((max st.dd (st.d + 1) : Nat) : Int))).drew)
    have hln : (st.opn).s.length = st.s.length + 1 := by simp [St.opn]
    have hdn : st.opn.d = st.d + 1 := rfl
    have hddn : st.opn.dd = max st.dd (st.d + 1) := rfl
    have Hterm2 := Lib.hid (Hterm.out st.opn _ Hwr2.out.1 HO.out.drew (by omega) (by omega) (by omega))
    have Hdd : Hid ((WT st.opn).d = st.d + 1) := Lib.hid (by rw [Hbd.out.2.1]; rfl)
    have Hll : Hid ((WT st.opn).s.length + 500 ≤ st.s.length + 1 + 4000 * (1 + nd)) := Lib.hid (by have := Hbd.out.1; omega)
    clear hb ha hown hnil h2 e1 e2 hln hdn hddn hwr1 hbk1
    go_wp2
    go_region
    go_wp2_with fail
    refine Hterm2.out.mono ?_
    rintro e w3 ⟨rfl, h3, h4⟩
    have hwr3 := Hwr2.out.trans h4
    have HC := Lib.hid (cls_at st.d h3)
    have HCE := Lib.hid (close_eq Hdd.out)
    obtain ⟨a3, v3, hb3, _, _, _⟩ := h3
    have d2 := hb3.cell 2
    have f3 := hb3.free
    simp only [List.getElem?_toArray, List.getElem?_cons_zero, List.getElem?_cons_succ] at d2
    rw [Hdd.out, show ((st.d + 1 : Nat) : Int) = (st.d : Int) + 1 by omega] at d2
    have Hcl := Lib.hid (writeK_any g _ #[41] [41] rfl (bytes8_one (by omega)) (by simp) _ HC.out (by have := Hll.out; simp; omega))
    have hwr4 := hwr3.store (i := 2) (.int .i64 (st.d : Int))
    clear t0 t1 t2 t3 t4 t5 t6 t7 c2 c3 hf hmax hb3 h4 hwr3
    go_wp2_with fail
    refine Hcl.out.mono ?_
    rintro e w5 ⟨rfl, h5, h6⟩
    go_wp2
    first | go_end0 | refine bodyPost_ret (results_none Tryd.results27 _ _ _) rfl ?_
    exact ⟨rfl, HCE.out ▸ h5, hwr4.trans h6⟩
end Go.Proofs.YtnkiiphliilegaaDoor

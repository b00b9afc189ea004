/- Walk of the writer's term: a repeat; then any right term. -/
import Derived.Test.YtnkiiphliilegaaDoorV9a
import Derived.Test.YtnkiiphliilegaaDoorV9b
namespace Go.Proofs.YtnkiiphliilegaaDoor
open Go.RowKit

set_option maxRecDepth 100000 in
set_option maxHeartbeats 16000000 in
theorem term_rep (N : Nat) (ih : TermW N) (p : Nat → Bool) (mn mx : Int) (ks : List Tm) (A : Option Addr) (c g : Nat) (st : St) (w : World) (hN : nodesL ks ≤ N) (hN1 : N ≤ 501) (hr : rightT (.node 8 p mn mx ks) = true) (hks : KidsIn w (· < g) A ks)
    (hw : WAt w g st) (hT : Tabs w) (hg : 2 ≤ g) (hl : st.s.length + 4000 * (1 + nodesL ks) ≤ 3000000) (hd : st.d + 2 * (1 + nodesL ks) ≤ 3000) (hdd : st.dd ≤ 3000) (h200 : ¬ 200 < st.s.length) :
    Calls Tryd.prog 15 #[.pointer (some ⟨g, 0, none⟩), tval 8 p mn mx A ks.length c] w (Wrote1 g ((wKids RF 8 true ks st).put (quantF mn mx)) w) := by
  obtain ⟨hr1, hr2⟩ := rightT_node hr
  obtain ⟨hn1, m0, m1, m2, m3⟩ := (rightN_op hr1).2.2 rfl
  match ks, hn1, hN, hr2, hks, hl, hd, hr with
  | [kd], _, hN, hr2, hks, hl, hd, hr =>
  unfold Wrote1
  have hlt0 := hw.lt
  have hkr : rightT kd = true := rightL_at hr2 0 (by simp)
  have hbk0 := Blk.new w 27 (tcells 8 p mn mx A 1 c)
  have hw0 := hw.alloc (.cells (tcells 8 p mn mx A 1 c) 27)
  have hwr0 : Wr g w (w.alloc (.cells (tcells 8 p mn mx A 1 c) 27)) := (Wr.refl g w).alloc (Nat.le_of_lt hlt0) _
  have hlo := long_any g st _ hw0
  rw [decide_eq_false h200] at hlo
  have Hlo := Lib.hid hlo
  obtain ⟨b, off, kop, p', mn', mx', ks', A', c', rfl, hbB, hkid, hcells, hks'⟩ := hks.kid 0 (by simp)
  have hkid' : kd = .node kop p' mn' mx' ks' := hkid
  subst hkid'
  have hcw := hcells.keep (w' := w.alloc (.cells (tcells 8 p mn mx (some ⟨b, off, none⟩) 1 c) 27)) fun x => hwr0.1.cell (p := ⟨b, x, none⟩) hbB
  rw [Nat.zero_mul, Nat.add_zero] at hcw
  obtain ⟨e0, e1, e2, e3, e4, e5, e6, e7⟩ := hcw
  have hnodes : nodesL [Tm.node kop p' mn' mx' ks'] = 1 + nodesL ks' := by simp [nodesL, nodes]
  rw [hnodes] at hN hl hd
  have hkb := kidW_bd 8 true (.node kop p' mn' mx' ks') st hkr
  unfold nodes at hkb
  have hbb := Blk.new (w.alloc (.cells (tcells 8 p mn mx (some ⟨b, off, none⟩) 1 c) 27)) 3 (ints [1, 6, 7, 8])
  rw [World.size_alloc] at hbb
  have hT0 := hT.below hwr0.1 hg
  have hwr2 := hwr0.alloc (by simp; omega) (.cells (ints [1, 6, 7, 8]) 3)
  have hcall := kid_any N ih [1, 6, 7, 8] (by simp) _ kop p' mn' mx' ks' A' c' g st _ (by omega) hN1 hkr (hks'.below hwr2.1 (Nat.le_refl _)) (hw0.alloc (.cells (ints [1, 6, 7, 8]) 3)) (hT.below hwr2.1 hg) hg (by omega) (by omega) hdd hbb
  have HE : Hid ((if ([1, 6, 7, 8] : List Int).contains kop then (wTerm RF (.node kop p' mn' mx' ks') st.opn).close else wTerm RF (.node kop p' mn' mx' ks') st) = kidW 8 true (.node kop p' mn' mx' ks') st) := Lib.hid (by
    unfold kidW
    rw [show opOf (.node kop p' mn' mx' ks') = kop from rfl, inBr_eight, show bar 8 true = [] from rfl, put_nil])
  rw [HE.out] at hcall
  have hWK : wKids RF 8 true [Tm.node kop p' mn' mx' ks'] st = kidW 8 true (.node kop p' mn' mx' ks') st := rfl
  rw [hWK]
  have Hcall := Lib.hid hcall
  have Hquant := Lib.hid (fun (W : World) (hB : Below g w W) hW hlq => quant_any g (kidW 8 true (.node kop p' mn' mx' ks') st) 8 p mn mx (some ⟨b, off, none⟩) 1 c W hW (hT.below hB hg) m0 m1 m2 m3 hlq)
  have Hkb := Lib.hid (show (kidW 8 true (.node kop p' mn' mx' ks') st).s.length + 500 ≤ 4000000 by have := hkb.1; omega)
  have Hwr2 := Lib.hid hwr2
  have Hbk0 : Hid (Blk ((w.alloc (.cells (tcells 8 p mn mx (some ⟨b, off, none⟩) 1 c) 27)).alloc (.cells (ints [1, 6, 7, 8]) 3)) w.heap.size 27 (tcells 8 p mn mx (some ⟨b, off, none⟩) 1 c)) := Lib.hid (hbk0.alloc _)
  have hne : w.heap.size ≠ g := by omega
  clear hcall hWK hbb hT0 hwr2 hkb hnodes hcells hks' hkid hw hT hw0 hwr0 hlo hl hd hN hr2 hkr hr ih hbk0 hks hr1 m0 m1 m2 m3 HE
  generalize kidW 8 true (.node kop p' mn' mx' ks') st = s2 at *
  go_enter Tryd.func15, Tryd.ntmps15
  go_wp2_with fail
  refine Hlo.out.mono ?_
  rintro e w1 ⟨rfl, rfl⟩
  go_wp2_with fail
  refine Hcall.out.mono ?_
  rintro e w3 ⟨rfl, h1, h2⟩
  have hwr3 := Hwr2.out.trans h2
  have hbk := h2.2 _ _ _ Hbk0.out (by decide) hne
  have t0 := hbk.cell 0
  have t1 := hbk.cell 1
  have t2 := hbk.cell 2
  have t3 := hbk.cell 3
  have t4 := hbk.cell 4
  have t5 := hbk.cell 5
  have t6 := hbk.cell 6
  have t7 := hbk.cell 7
  simp only [List.getElem?_toArray, List.getElem?_cons_zero, List.getElem?_cons_succ] at t0 t1 t2 t3 t4 t5 t6 t7
  have Hq := Lib.hid (Hquant.out _ hwr3.1 h1 Hkb.out)
  clear e0 e1 e2 e3 e4 e5 e6 e7 h1 h2 hbk
  go_wp2_with fail
  refine Hq.out.mono ?_
  rintro e w4 ⟨rfl, h3, h4⟩
  go_wp2
  first | go_end0 | refine bodyPost_ret (results_none Tryd.results15 _ _ _) rfl ?_
  exact ⟨rfl, h3, hwr3.trans h4⟩

theorem term_step (N : Nat) (ih : TermW N) : TermW (N + 1) := by
  intro op p mn mx ks A c g st w hN hN1 hr hks hw hT hg hl hd hdd
  by_cases h : 200 < st.s.length
  · rw [wTerm_long h]
    exact term_long op p mn mx A _ c g st w hw h
  have ho := rightN_op (rightT_node hr).1
  by_cases h6 : op < 6
  · rw [wTerm_leaf h h6]
    exact term_leaf op p mn mx A _ c g st w hw hT h ho.1 h6
  rw [wTerm_kids h h6]
  have : op = 6 ∨ op = 7 ∨ op = 8 := by omega
  rcases this with rfl | rfl | rfl
  · rw [show tailF 6 mn mx = [] from rfl, put_nil]
    exact term_kids6 N ih p mn mx ks A c g st w (by omega) (by omega) hr hks hw hT hg hl hd hdd h
  · rw [show tailF 7 mn mx = [] from rfl, put_nil]
    exact term_kids7 N ih p mn mx ks A c g st w (by omega) (by omega) hr hks hw hT hg hl hd hdd h
  · rw [show tailF 8 mn mx = quantF mn mx from rfl]
    exact term_rep N ih p mn mx ks A c g st w (by omega) (by omega) hr hks hw hT hg hl hd hdd h
theorem term_all : ∀ N, TermW N
  | 0 => fun _ _ _ _ _ _ _ _ _ _ h => by omega
  | N + 1 => term_step N (term_all N)
end Go.Proofs.YtnkiiphliilegaaDoor

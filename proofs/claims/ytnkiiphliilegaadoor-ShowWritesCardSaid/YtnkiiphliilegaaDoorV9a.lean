/- Walk of the writer's term: the kids of a term of kind 6. (Printed by gen_V9.py.) -/
import Derived.Test.YtnkiiphliilegaaDoorV8
namespace Go.Proofs.YtnkiiphliilegaaDoor
open Go.RowKit

set_option maxRecDepth 100000 in
set_option maxHeartbeats 16000000 in
theorem term_kids6 (N : Nat) (ih : TermW N) (p : Nat → Bool) (mn mx : Int) (ks : List Tm) (A : Option Addr) (c g : Nat) (st : St) (w : World) (hN : nodesL ks ≤ N) (hN1 : N ≤ 501) (hr : rightT (.node 6 p mn mx ks) = true) (hks : KidsIn w (· < g) A ks)
    (hw : WAt w g st) (hT : Tabs w) (hg : 2 ≤ g) (hl : st.s.length + 4000 * (1 + nodesL ks) ≤ 3000000) (hd : st.d + 2 * (1 + nodesL ks) ≤ 3000) (hdd : st.dd ≤ 3000) (h200 : ¬ 200 < st.s.length) :
    Calls Tryd.prog 15 #[.pointer (some ⟨g, 0, none⟩), tval 6 p mn mx A ks.length c] w (Wrote1 g (wKids RF 6 true ks st) w) := by
  unfold Wrote1
  have hr2 := (rightT_node hr).2
  have hlt0 := hw.lt
  obtain ⟨T, hTT⟩ : ∃ T, T = wKids RF 6 true ks st := ⟨_, rfl⟩
  rw [← hTT]
  have HT := Lib.hid hTT
  have hw0 := hw.alloc (.cells (tcells 6 p mn mx A ks.length c) 27)
  have hwr0 : Wr g w (w.alloc (.cells (tcells 6 p mn mx A ks.length c) 27)) := (Wr.refl g w).alloc (Nat.le_of_lt hlt0) _
  have hlo := long_any g st _ hw0
  rw [decide_eq_false h200] at hlo
  have Hlo := Lib.hid hlo
  obtain ⟨n, hn⟩ : ∃ n, n = ks.length := ⟨_, rfl⟩
  have hn1 : n ≤ 1000 := by have := nodesL_len ks; omega
  have hnd : nodesL ks ≤ 501 := by omega
  rw [← hn] at hw0 hwr0 Hlo ⊢
  have Hn := Lib.hid hn
  have Hk := Lib.hid hks
  have Hih := Lib.hid ih
  have HR2 := Lib.hid hr2
  have HTab := Lib.hid hT
  have Hw0 := Lib.hid hw0
  have Hwr0 := Lib.hid hwr0
  have HB := Lib.hid (And.intro hl (And.intro hd (And.intro hdd hnd)))
  clear hn hks ih hr hr2 hT hw hw0 hwr0 hlo hTT hl hd hdd hnd h200
  go_enter Tryd.func15, Tryd.ntmps15
  go_wp2_with fail
  refine Hlo.out.mono ?_
  rintro e w1 ⟨rfl, rfl⟩
  go_wp2
  go_loopw [41] (fun i wr => ∃ (k : Nat) (s : St), k ≤ n ∧ i = .int .i64 k ∧ Hid (wKids RF 6 (decide (k = 0)) (ks.drop k) s = T) ∧ Hid (s.s.length + 4000 * nodesL (ks.drop k) ≤ st.s.length + 4000 * nodesL ks ∧ s.d = st.d ∧ s.dd ≤ 3000) ∧ WAt wr g s ∧ Wr g w wr) (fun i _ => n - (intOf i).toNat)
  case atStart => exact ⟨0, st, Nat.zero_le _, rfl, Lib.hid (by rw [HT.out]; rfl), Lib.hid ⟨by rw [List.drop_zero]; omega, rfl, HB.out.2.2.1⟩, Hw0.out, Hwr0.out⟩
  case round =>
    obtain ⟨k, s, hk, rfl, Hrel, Hbd, hW, hwr⟩ := hrel
    by_cases hlt : k < n
    · have hkl : k < ks.length := by have := Hn.out; omega
      obtain ⟨b, off, kop, p', mn', mx', ks', A', c', rfl, hbB, hkid, hcells, hks'⟩ := Hk.out.kid k hkl
      have hcw := hcells.keep (w' := wr) fun x => hwr.1.cell (p := ⟨b, x, none⟩) hbB
      have hnk : nodes ks[k] ≤ nodesL ks := nodesL_at ks k hkl
      have hkr := rightL_at HR2.out k hkl
      have hst := wKids_step 6 ks s k hkl
      have hdrop := nodesL_drop ks k hkl
      have hkb := kidW_bd 6 (decide (k = 0)) ks[k] s hkr
      have hkb0 := bar_len 6 (decide (k = 0))
      rw [hkid] at hnk hkr hst hdrop hkb
      unfold nodes at hnk hdrop hkb
      obtain ⟨B1, B2, B3⟩ := Hbd.out
      obtain ⟨C1, C2, C3, C4⟩ := HB.out
      have HnewB : Hid ((kidW 6 (decide (k = 0)) (.node kop p' mn' mx' ks') s).s.length + 4000 * nodesL (ks.drop (k + 1)) ≤ st.s.length + 4000 * nodesL ks ∧ (kidW 6 (decide (k = 0)) (.node kop p' mn' mx' ks') s).d = st.d ∧ (kidW 6 (decide (k = 0)) (.node kop p' mn' mx' ks') s).dd ≤ 3000) := Lib.hid (by
        obtain ⟨b1, b2, b3⟩ := hkb
        exact ⟨by omega, by rw [b2, B2], by omega⟩)
      have Hst : Hid (wKids RF 6 (decide (k + 1 = 0)) (ks.drop (k + 1)) (kidW 6 (decide (k = 0)) (.node kop p' mn' mx' ks') s) = T) := Lib.hid (by rw [← hst]; exact Hrel)
      have hkids : KidsIn wr (· < g) A' ks' := hks'.below hwr.1 (Nat.le_refl _)
      have hTabs := HTab.out.below hwr.1 hg
      have hltr := hW.lt
      have Hkid := Lib.hid (fun (s' : St) (W : World) (bb : Nat) (hB : Below g wr W) (hW' : WAt W g s') (hbb : Blk W bb 3 (ints [1, 6, 7])) h1 h2 h3 => kid_any N Hih.out [1, 6, 7] (by simp) bb kop p' mn' mx' ks' A' c' g s' W (by omega) hN1 hkr (hkids.below hB (Nat.le_refl _)) hW' (hTabs.below hB hg) hg h1 h2 h3 hbb)
      have HL : Hid (s.s.length + 1 + 1 + 4000 * (1 + nodesL ks') ≤ 3000000 ∧ s.d + 1 + 2 * (1 + nodesL ks') ≤ 3000 ∧ s.dd ≤ 3000) := Lib.hid ⟨by omega, by omega, B3⟩
      obtain ⟨e0, e1, e2, e3, e4, e5, e6, e7⟩ := hcw
      have HW := Lib.hid hW
      have Hwr := Lib.hid hwr
      clear hkid hcells hks' hnk hkr hst hdrop hkb hkb0 B1 B2 B3 C1 C2 C3 C4 hkids hTabs hW hwr Hrel
      obtain ⟨nk, hnk2⟩ : ∃ nk, nk = nodesL ks' := ⟨_, rfl⟩
      have hbb := Blk.new (wr.alloc (.cells (tcells kop p' mn' mx' A' ks'.length c') 27)) 3 (ints [1, 6, 7])
      rw [World.size_alloc] at hbb
      have Hcall := Lib.hid (Hkid.out s _ _ (((Below.refl g wr).alloc (Nat.le_of_lt hltr) _).alloc (by simp; omega) _) ((HW.out.alloc _).alloc _) hbb (by have := HL.out.1; omega) HL.out.2.1 HL.out.2.2)
      have Hwr2 := Lib.hid ((Hwr.out.alloc (Nat.le_of_lt hltr) (.cells (tcells kop p' mn' mx' A' ks'.length c') 27)).alloc (by simp; omega) (.cells (ints [1, 6, 7]) 3))
      have HE : Hid ((if ([1, 6, 7] : List Int).contains kop then (wTerm RF (.node kop p' mn' mx' ks') s.opn).close else wTerm RF (.node kop p' mn' mx' ks') s) = kidW 6 (decide (k = 0)) (.node kop p' mn' mx' ks') s) := Lib.hid (by
        unfold kidW
        rw [show opOf (.node kop p' mn' mx' ks') = kop from rfl, inBr_six, show bar 6 (decide (k = 0)) = [] from rfl, put_nil])
      clear hbb hnk2
      go_wp2_with fail
      refine Hcall.out.mono ?_
      rintro e w3 ⟨rfl, h1, h2⟩
      go_wp2
      go_roundw
      case rel => exact ⟨k + 1, _, by omega, by go_num, Hst, HnewB, HE.out ▸ h1, Hwr2.out.trans h2⟩
      case measure => simp [intOf]; omega
    · have HE : Hid (s = T) := Lib.hid (by
        rw [← Hrel.out, List.drop_eq_nil_of_le (by have := Hn.out; omega)]
        rfl)
      go_wp2
      first | go_end0 | refine bodyPost_ret (results_none Tryd.results15 _ _ _) rfl ?_
      exact ⟨rfl, HE.out ▸ hW, hwr⟩
end Go.Proofs.YtnkiiphliilegaaDoor

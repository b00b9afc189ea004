/- Walk of the writer's term: when it is long already, and terms without kids. -/
import Derived.Test.YtnkiiphliilegaaDoorV7
namespace Go.Proofs.YtnkiiphliilegaaDoor
open Go.RowKit

theorem put_nil (st : St) : st.put [] = st := by simp [St.put]
theorem wTerm_long {t : Tm} {st : St} (h : 200 < st.s.length) : wTerm RF t st = st := by
  cases t
  unfold wTerm
  rw [if_pos h]
theorem wTerm_leaf {op : Int} {p : Nat → Bool} {mn mx : Int} {ks : List Tm} {st : St} (h : ¬ 200 < st.s.length) (h6 : op < 6) : wTerm RF (.node op p mn mx ks) st = st.put (leafF RF op p) := by
  unfold wTerm
  rw [if_neg h, if_pos h6]
theorem wTerm_kids {op : Int} {p : Nat → Bool} {mn mx : Int} {ks : List Tm} {st : St} (h : ¬ 200 < st.s.length) (h6 : ¬ op < 6) : wTerm RF (.node op p mn mx ks) st = (wKids RF op true ks st).put (tailF op mn mx) := by
  unfold wTerm
  rw [if_neg h, if_neg h6]

section
variable (op : Int) (p : Nat → Bool) (mn mx : Int) (A : Option Addr) (n c g : Nat) (st : St) (w : World)
set_option maxRecDepth 100000 in
set_option maxHeartbeats 4000000 in
theorem term_long (hw : WAt w g st) (h : 200 < st.s.length) :
    Calls Tryd.prog 15 #[.pointer (some ⟨g, 0, none⟩), tval op p mn mx A n c] w (Wrote1 g st w) := by
  unfold Wrote1
  have hlt := hw.lt
  have Hw0 := Lib.hid (hw.alloc (.cells (tcells op p mn mx A n c) 27))
  have hlo := long_any g st _ Hw0.out
  rw [decide_eq_true h] at hlo
  have Hlo := Lib.hid hlo
  clear hlo hw h
  go_enter Tryd.func15, Tryd.ntmps15
  go_wp2_with fail
  refine Hlo.out.mono ?_
  rintro e w1 ⟨rfl, rfl⟩
  go_wp2
  first | go_end0 | refine bodyPost_ret (results_none Tryd.results15 _ _ _) rfl ?_
  exact ⟨rfl, Hw0.out, (Wr.refl g w).alloc (Nat.le_of_lt hlt) _⟩
set_option maxRecDepth 100000 in
set_option maxHeartbeats 4000000 in
theorem term_leaf (hw : WAt w g st) (hT : Tabs w) (h : ¬ 200 < st.s.length) (h1 : 1 ≤ op) (h6 : op < 6) :
    Calls Tryd.prog 15 #[.pointer (some ⟨g, 0, none⟩), tval op p mn mx A n c] w (Wrote1 g (st.put (leafF RF op p)) w) := by
  unfold Wrote1
  have hlt := hw.lt
  have hb0 : Below w.heap.size w (w.alloc (.cells (tcells op p mn mx A n c) 27)) := (Below.refl _ _).alloc (Nat.le_refl _) _
  have hT0 := hT.below hb0 hT.size
  have hw0 := hw.alloc (.cells (tcells op p mn mx A n c) 27)
  have Hwr0 : Hid (Wr g w (w.alloc (.cells (tcells op p mn mx A n c) 27))) := Lib.hid ((Wr.refl g w).alloc (Nat.le_of_lt hlt) _)
  have hlo := long_any g st _ hw0
  rw [decide_eq_false h] at hlo
  have Hlo := Lib.hid hlo
  have hl2 : st.s.length ≤ 200 := by omega
  have Hset := Lib.hid (wset_any g st p _ hw0 hT0 (by omega))
  have H3 := Lib.hid (writeK_any g st #[46] [46] rfl (bytes8_one (by omega)) (by simp) _ hw0 (by simp; omega))
  have H4 := Lib.hid (writeK_any g st #[94] [94] rfl (bytes8_one (by omega)) (by simp) _ hw0 (by simp; omega))
  have H5 := Lib.hid (writeK_any g st #[36] [36] rfl (bytes8_one (by omega)) (by simp) _ hw0 (by simp; omega))
  have Hw0 := Lib.hid hw0
  obtain ⟨T, hT2⟩ : ∃ T, T = st.put (leafF RF op p) := ⟨_, rfl⟩
  rw [← hT2]
  have HT := Lib.hid hT2
  have hcases : op = 1 ∨ op = 2 ∨ op = 3 ∨ op = 4 ∨ op = 5 := by omega
  clear hlo hw hw0 hT hT0 hb0 h h1 h6 hT2
  rcases hcases with rfl | rfl | rfl | rfl | rfl
  · have HE : Hid (st = T) := Lib.hid (by rw [HT.out]; exact (put_nil st).symm)
    go_enter Tryd.func15, Tryd.ntmps15
    go_wp2_with fail
    refine Hlo.out.mono ?_
    rintro e w1 ⟨rfl, rfl⟩
    go_wp2
    first | go_end0 | refine bodyPost_ret (results_none Tryd.results15 _ _ _) rfl ?_
    exact ⟨rfl, HE.out ▸ Hw0.out, Hwr0.out⟩
  · have HE : Hid (st.put (setF (RF p)) = T) := Lib.hid (by rw [HT.out]; rfl)
    go_enter Tryd.func15, Tryd.ntmps15
    go_wp2_with fail
    refine Hlo.out.mono ?_
    rintro e w1 ⟨rfl, rfl⟩
    go_wp2_with fail
    refine Hset.out.mono ?_
    rintro e w1 ⟨rfl, h1, h2⟩
    go_wp2
    first | go_end0 | refine bodyPost_ret (results_none Tryd.results15 _ _ _) rfl ?_
    exact ⟨rfl, HE.out ▸ h1, Hwr0.out.trans h2⟩
  · have HE : Hid (st.put [46] = T) := Lib.hid (by rw [HT.out]; rfl)
    go_enter Tryd.func15, Tryd.ntmps15
    go_wp2_with fail
    refine Hlo.out.mono ?_
    rintro e w1 ⟨rfl, rfl⟩
    go_wp2_with fail
    refine H3.out.mono ?_
    rintro e w1 ⟨rfl, h1, h2⟩
    go_wp2
    first | go_end0 | refine bodyPost_ret (results_none Tryd.results15 _ _ _) rfl ?_
    exact ⟨rfl, HE.out ▸ h1, Hwr0.out.trans h2⟩
  · have HE : Hid (st.put [94] = T) := Lib.hid (by rw [HT.out]; rfl)
    go_enter Tryd.func15, Tryd.ntmps15
    go_wp2_with fail
    refine Hlo.out.mono ?_
    rintro e w1 ⟨rfl, rfl⟩
    go_wp2_with fail
    refine H4.out.mono ?_
    rintro e w1 ⟨rfl, h1, h2⟩
    go_wp2
    first | go_end0 | refine bodyPost_ret (results_none Tryd.results15 _ _ _) rfl ?_
    exact ⟨rfl, HE.out ▸ h1, Hwr0.out.trans h2⟩
  · have HE : Hid (st.put [36] = T) := Lib.hid (by rw [HT.out]; rfl)
    go_enter Tryd.func15, Tryd.ntmps15
    go_wp2_with fail
    refine Hlo.out.mono ?_
    rintro e w1 ⟨rfl, rfl⟩
    go_wp2_with fail
    refine H5.out.mono ?_
    rintro e w1 ⟨rfl, h1, h2⟩
    go_wp2
    first | go_end0 | refine bodyPost_ret (results_none Tryd.results15 _ _ _) rfl ?_
    exact ⟨rfl, HE.out ▸ h1, Hwr0.out.trans h2⟩
end
end Go.Proofs.YtnkiiphliilegaaDoor

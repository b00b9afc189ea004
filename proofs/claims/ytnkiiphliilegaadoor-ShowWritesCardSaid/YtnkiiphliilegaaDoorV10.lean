/- Walks of the writer's String, of show.Show and show.Check. -/
import Derived.Test.YtnkiiphliilegaaDoorV9c
import Derived.Test.YtnkiiphliilegaaDoorS3
import Derived.Lib.ConvBytes
namespace Go.Proofs.YtnkiiphliilegaaDoor
open Go.RowKit

theorem byte_cells1 : Tryd.prog.cellsOf 5 = 1 := by kernel_rfl

set_option maxRecDepth 100000 in
set_option maxHeartbeats 4000000 in
theorem string_any (g : Nat) (st : St) (hL : Bytes8 st.s) (w : World) (h : WAt w g st) (hlen : st.s.length ≤ 4000000) :
    Calls Tryd.prog 17 #[.pointer (some ⟨g, 0, none⟩)] w fun e w' => e = .returned (.string (strL st.s)) ∧ Below g w w' := by
  obtain ⟨a, v, hb, ha, hown, hnil⟩ := h
  by_cases he : st.s = []
  · have hv := hnil he
    subst hv
    rw [he]
    have c1 := hb.cell 1
    simp only [List.getElem?_toArray, List.getElem?_cons_zero, List.getElem?_cons_succ] at c1
    have hSD : ∀ W, (Builtin.unsafeSliceData_ #[31] 60 #[.slice none 0 0]).run Tryd.prog W = .ok (.pointer none) W := fun _ => rfl
    have hUS : ∀ W, (Builtin.unsafeString_ #[60, 3] 9 #[.pointer none, .int .i64 0]).run Tryd.prog W = .ok (.string (strL [])) W := fun W => Lib.run_unsafeString_none W _ _ _ none
    clear hb ha hown hnil he hL hlen
    go_enter Tryd.func17, Tryd.ntmps17
    go_wp2
    go_region
    all_goals
      go_wp2
      go_ret
      exact ⟨rfl, (Below.refl _ _).drew⟩
  · have hpos : 0 < st.s.length := by cases hs : st.s with | nil => exact absurd hs he | cons => simp
    obtain ⟨r, c, cur, rfl, hr, hrb, hcur⟩ := own_blk hown hpos
    have hown2 := hown.2
    have hcap : st.s.length ≤ c ∧ st.s.length ≤ cur.size := by
      rcases hown.2 with ⟨h', _⟩ | ⟨g', cap', cur', h', _, hg', hnc, _, hsz, _⟩
      · simp at h'
      · simp only [Value.slice.injEq, Option.some.injEq, Addr.mk.injEq, and_true, true_and] at h'
        obtain ⟨rfl, rfl⟩ := h'
        have e1 : w.heap[r]? = some (.cells cur 5 (0, 0)) := hrb
        rw [hg'] at e1
        simp only [Option.some.injEq, Obj.cells.injEq] at e1
        obtain ⟨rfl, _⟩ := e1
        exact ⟨hnc, by omega⟩
    have c1 := hb.cell 1
    simp only [List.getElem?_toArray, List.getElem?_cons_zero, List.getElem?_cons_succ] at c1
    have hlm : (st.s.map UInt8.ofNat).length = st.s.length := by simp
    have hUS := Lib.run_unsafeString_row (P := Tryd.prog) w.drew 60 3 9 5 Tryd.underlying60 byte_cells1 r cur.size (by have hg' : w.drew.heap[r]? = some (.cells cur 5 (0, 0)) := hrb; simp [World.shape?, hg']) (st.s.map UInt8.ofNat) (by simpa using he) (by rw [hlm]; exact hcap.2) (by rw [hlm]; omega) (by
      intro j x hx
      have hj : j < st.s.length := by
        rcases Nat.lt_or_ge j st.s.length with h' | h'
        · exact h'
        · rw [List.getElem?_eq_none (by simpa using h')] at hx; cases hx
      have h1 := hrb.drew.cell j
      have h2 := hcur j _ (u8s_get st.s j hj)
      have e2 : (⟨r, 0, none⟩ : Addr).add j = ⟨r, j, none⟩ := by rw [add_at, Nat.zero_add]
      rw [e2, h1, h2]
      have hx2 : x = UInt8.ofNat st.s[j] := by
        rw [List.getElem?_map, List.getElem?_eq_getElem hj] at hx
        simpa using hx.symm
      have h8 := hL st.s[j] (List.getElem_mem hj)
      rw [hx2]
      congr 2
      simp
      omega)
    rw [hlm, strL_of st.s _ rfl] at hUS
    have hSD : ∀ W, (Builtin.unsafeSliceData_ #[31] 60 #[.slice (some ⟨r, 0, none⟩) st.s.length c]).run Tryd.prog W = .ok (.pointer (some ⟨r, 0, none⟩)) W := fun W => Lib.run_unsafeSliceData_row W _ _ _ _ _ (by omega)
    have hgr : g ≤ r := by omega
    clear hb ha hown hown2 hnil hcur hrb hcap hlm he hpos hr
    generalize strL st.s = s at *
    generalize st.s.length = n at *
    go_enter Tryd.func17, Tryd.ntmps17
    go_wp2
    go_region
    all_goals
      go_wp2
      go_ret
      exact ⟨rfl, Lib.below_freeze ((Below.refl g w).drew) (p := ⟨r, 0, none⟩) hgr _⟩

/-- the writer says what the reference says -/
theorem saysW (t : Tm) : saysOf t = if rightT t = false then ([], 2) else if 200 < (wTerm RF t ⟨[], 0, 0⟩).s.length then ([], 1) else if 30 < (wTerm RF t ⟨[], 0, 0⟩).dd then ([], 52) else ((wTerm RF t ⟨[], 0, 0⟩).s, 0) := by
  obtain ⟨h1, h2⟩ := show_same RF t
  unfold saysOf
  by_cases hr : rightT t = false
  · rw [if_pos hr, if_pos hr]
  · rw [if_neg hr, if_neg hr]
    by_cases hl : 200 < (rForm RF t).length
    · rw [if_pos hl, if_pos (h1.2 hl)]
    · rw [if_neg hl, if_neg (fun h => hl (h1.1 h))]
      obtain ⟨e1, e2⟩ := h2 hl
      by_cases hx : exceed 0 (rForm RF t) = true
      · rw [if_pos hx, if_pos (e2.2 hx)]
      · rw [if_neg hx, if_neg (fun h => hx (e2.1 h)), e1]
/-- what a call of show.Show gives -/
def ShowSaid (t : Tm) (w : World) (e : Ending) (w' : World) : Prop :=
  ∃ A c, e = .returned (.tuple #[.slice A (saysOf t).1.length c, .int .i64 ((saysOf t).2 : Int)]) ∧ Rd w' w'.heap.size A (u8s (saysOf t).1) ∧ Below w.heap.size w w'
theorem said_err {t : Tm} {w w' : World} {n : Nat} (h : (([] : List Nat), n) = saysOf t) (hb : Below w.heap.size w w') : ShowSaid t w (.returned (.tuple #[.slice none 0 0, .int .i64 (n : Int)])) w' := by
  unfold ShowSaid
  rw [← h]
  exact ⟨none, 0, rfl, Rd.nil _ _ _, hb⟩
theorem said_ok {t : Tm} {w W : World} {L : List Nat} (h : (L, 0) = saysOf t) (hL : Bytes8 L) (hb : Below w.heap.size w W) : ShowSaid t w (.returned (.tuple #[.slice (some ⟨W.heap.size, 0, none⟩) L.length (grownCap W (strL L).size 0 5), .int .i64 0])) (Lib.bytesWorld W 5 (strL L)) := by
  unfold ShowSaid
  rw [← h]
  refine ⟨_, _, rfl, fun _ => ⟨W.heap.size, 0, rfl, by rw [Lib.bytesWorld_size]; omega, fun k v hk => ?_⟩, ?_⟩
  · have hkl : k < L.length := by
      rcases Nat.lt_or_ge k L.length with h' | h'
      · exact h'
      · rw [List.getElem?_eq_none (by rw [u8s_length]; exact h')] at hk; cases hk
    rw [Nat.zero_add, Lib.bytesWorld_cell W _ _ k (by rw [strL_size]; exact hkl), ← hk, u8s_get L k hkl]
    have h2 : (strL L).data.toList = L.map UInt8.ofNat := by
      have := strL_of L _ rfl
      rw [← this]
    have h8 := hL L[k] (List.getElem_mem hkl)
    rw [h2]
    simp [List.getD_eq_getElem?_getD, hkl]
    omega
  · have hsz := hb.size
    exact hb.trans ⟨rfl, rfl, rfl, by rw [Lib.bytesWorld_size]; omega, fun j hj => Lib.bytesWorld_at_old W _ _ j (by omega)⟩
end Go.Proofs.YtnkiiphliilegaaDoor

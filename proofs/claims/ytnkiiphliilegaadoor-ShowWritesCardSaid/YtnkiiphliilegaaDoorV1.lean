/- The writer in memory; walks of strings.Builder's copyCheck, Len, WriteString, WriteByte at a writer. -/
import Derived.Test.YtnkiiphliilegaaDoorSE
import Derived.Test.YtnkiiphliilegaaDoorU6
import Derived.Test.YtnkiiphliilegaaDoorT7
import Derived.Lib.Builder
import Derived.Lib.AppendStr
import Derived.Lib.UnsafeStr
import Derived.Laws.Externs
namespace Go.Proofs.YtnkiiphliilegaaDoor
open Go.RowKit

/-- the writer in block g, with what it has written -/
def WAt (w : World) (g : Nat) (st : St) : Prop :=
  ∃ a v, Blk w g 47 #[a, v, .int .i64 (st.d : Int), .int .i64 (st.dd : Int)] ∧ (a = .pointer none ∨ a = .pointer (some ⟨g, 0, none⟩)) ∧ w.ownsRow (g + 1) 5 1 v st.s.length (u8s st.s) ∧ (st.s = [] → v = .slice none 0 0)
/-- but for the writer and rows of bytes above it all is as it was -/
def Wr (g : Nat) (w w' : World) : Prop := Below g w w' ∧ ∀ k t cs, Blk w k t cs → t ≠ 5 → k ≠ g → Blk w' k t cs
theorem Wr.refl (g : Nat) (w : World) : Wr g w w := ⟨Below.refl _ _, fun _ _ _ h _ _ => h⟩
theorem Wr.trans {g : Nat} {a b c : World} (h : Wr g a b) (k : Wr g b c) : Wr g a c := ⟨h.1.trans k.1, fun x t cs hb ht hx => k.2 x t cs (h.2 x t cs hb ht hx) ht hx⟩
theorem Wr.size {g : Nat} {w w' : World} (h : Wr g w w') : w.heap.size ≤ w'.heap.size := h.1.size
theorem Wr.alloc {g : Nat} {a w : World} (h : Wr g a w) (hg : g ≤ w.heap.size) (o : Obj) : Wr g a (w.alloc o) := ⟨h.1.alloc hg o, fun x t cs hb ht hx => (h.2 x t cs hb ht hx).alloc o⟩
theorem Wr.drew {g : Nat} {a w : World} (h : Wr g a w) : Wr g a w.drew := ⟨h.1.drew, fun x t cs hb ht hx => (h.2 x t cs hb ht hx).drew⟩
theorem Wr.below {g : Nat} {a w w' : World} (h : Wr g a w) (hb : Below w.heap.size w w') (hg : g ≤ w.heap.size) : Wr g a w' := ⟨h.1.trans (hb.mono hg), fun x t cs hk ht hx => (h.2 x t cs hk ht hx).below hb (h.2 x t cs hk ht hx).lt⟩
theorem Wr.store {g i : Nat} {a w : World} (h : Wr g a w) (u : Value) : Wr g a (w.setCell ⟨g, i, none⟩ u) := ⟨h.1.setCell (Nat.le_refl _) u, fun x t cs hb ht hx => (h.2 x t cs hb ht hx).far (by show x ≠ g; exact hx) u⟩
theorem Wr.grown {g : Nat} {a w w' : World} {v : Value} {n : Nat} {xs : List Value} (h : Wr g a w) (hown : w.ownsRow (g + 1) 5 1 v n xs) (hg : w.grownBy w' v.ownBlock) (hs : g ≤ w.heap.size) : Wr g a w' := by
  refine ⟨h.1.grown hg hs fun k hk => Nat.le_of_lt (hown.lt k hk).1, fun x t cs hb ht hx => (h.2 x t cs hb ht hx).grown hg fun e => ?_⟩
  rcases hown.2 with ⟨rfl, _⟩ | ⟨r, cap, cur, rfl, _, hr, _⟩
  · simp [Value.ownBlock] at e
  · have e' : x = r := by simpa [Value.ownBlock] using e
    have hbx : w.heap[x]? = some (.cells cs t (0, 0)) := h.2 x t cs hb ht hx
    rw [e', hr] at hbx
    simp only [Option.some.injEq, Obj.cells.injEq] at hbx
    exact ht hbx.2.1.symm
theorem WAt.lt {w : World} {g : Nat} {st : St} (h : WAt w g st) : g < w.heap.size := by
  obtain ⟨a, v, hb, _⟩ := h
  exact hb.lt
theorem WAt.below {w w' : World} {g : Nat} {st : St} (h : WAt w g st) (hb : Below w.heap.size w w') : WAt w' g st := by
  obtain ⟨a, v, hk, ha, hown, hnil⟩ := h
  exact ⟨a, v, hk.below hb hk.lt, ha, own_below hown hb (Nat.le_refl _), hnil⟩
theorem WAt.alloc {w : World} {g : Nat} {st : St} (h : WAt w g st) (o : Obj) : WAt (w.alloc o) g st := h.below ((Below.refl _ _).alloc (Nat.le_refl _) o)
theorem WAt.drew {w : World} {g : Nat} {st : St} (h : WAt w g st) : WAt w.drew g st := h.below (Below.refl _ _).drew

theorem own_len {w : World} {base : Nat} {e : TypeId} {size : Nat} {v : Value} {n m : Nat} {xs : List Value} (h : w.ownsRow base e size v n xs) (hn : n = m) : w.ownsRow base e size v m xs := hn ▸ h
theorem builder_size : (Tryd.prog.info? 45).map (·.size) = some 2 := by kernel_rfl
theorem builder_lies : liesAt Tryd.prog Tryd.prog.depth 47 (4 / Tryd.prog.cellsOf 47) 0 45 1 = true := by kernel_rfl

set_option maxHeartbeats 1000000 in
set_option maxRecDepth 100000 in
/-- copyCheck -/
theorem copyCheck_any (g : Nat) (st : St) (w : World) (h : WAt w g st) :
    Calls Tryd.prog 36 #[.pointer (some ⟨g, 0, none⟩)] w fun e w' => e = .returned (.tuple #[]) ∧ (∃ v, Blk w' g 47 #[.pointer (some ⟨g, 0, none⟩), v, .int .i64 (st.d : Int), .int .i64 (st.dd : Int)] ∧ w'.ownsRow (g + 1) 5 1 v st.s.length (u8s st.s) ∧ (st.s = [] → v = .slice none 0 0)) ∧ Wr g w w' := by
  obtain ⟨a, v, hb, ha, hown, hnil⟩ := h
  obtain ⟨j, hj, hjs⟩ := Option.map_eq_some_iff.1 builder_size
  rcases ha with rfl | rfl
  · have h0 := hb.cell 0
    have hf := hb.free 0
    have hsh : w.shape? g = some (47, 4) := by
      have : w.heap[g]? = _ := hb
      simp [World.shape?, this]
    simp only [List.getElem?_toArray, List.getElem?_cons_zero] at h0
    have hst := hb.store 0 (.pointer (some ⟨g, 0, none⟩))
    have Hst := Lib.hid hst
    have Hown := Lib.hid hown
    have Hnil := Lib.hid hnil
    clear hst hown hb hnil
    go_enter Tryd.func36, Tryd.ntmps36
    go_wp2
    rw [Lib.run_to_unsafe w ⟨g, 0, none⟩ Tryd.underlying43 Tryd.underlying78 hj (by rw [hjs]; decide) hsh (show (0 : Nat) < 4 by decide)]
    simp only [Result.andThen]
    rw [Oper.upon_value]
    go_wp2
    rw [run_callFunc_extern Tryd.func44 (by kernel_rfl) (by kernel_rfl) (by kernel_rfl) (e := Extern.AbiNoEscape.same) (by kernel_rfl)]
    rw [Lib.run_noEscape]
    simp only [Result.andThen]
    rw [Oper.upon_value]
    go_wp2
    rw [Lib.run_from_unsafe w ⟨g, 0, none⟩ Tryd.underlying78 Tryd.underlying43 hj hsh builder_lies]
    simp only [Result.andThen]
    rw [Oper.upon_value]
    go_wp2
    go_end0
    exact ⟨rfl, ⟨v, Hst.out, own_grown Hown.out (grownBy_store (World.grownBy.refl w _) 0 _) (by omega), Hnil.out⟩, (Wr.refl g w).store _⟩
  · have h0 := hb.cell 0
    simp only [List.getElem?_toArray, List.getElem?_cons_zero] at h0
    have Hb := Lib.hid hb
    have Hown := Lib.hid hown
    have Hnil := Lib.hid hnil
    clear hown hb hnil
    go_enter Tryd.func36, Tryd.ntmps36
    go_wp2
    rw [Lib.run_neq_ptr_same w _ Tryd.underlying43 hj]
    go_wp2
    go_end0
    exact ⟨rfl, ⟨v, Hb.out, Hown.out, Hnil.out⟩, Wr.refl g w⟩

/-- Len and long -/
theorem len_any (g : Nat) (st : St) (w : World) (h : WAt w g st) :
    Calls Tryd.prog 29 #[.pointer (some ⟨g, 0, none⟩)] w fun e w' => e = .returned (.int .i64 (st.s.length : Int)) ∧ w = w' := by
  obtain ⟨a, v, hb, ha, hown, hnil⟩ := h
  have h1 := hb.cell 1
  simp only [List.getElem?_toArray, List.getElem?_cons_zero, List.getElem?_cons_succ] at h1
  obtain ⟨A, c, rfl⟩ := own_shape hown
  have Hnil := Lib.hid hnil
  clear hnil hb hown ha
  go_enter Tryd.func29, Tryd.ntmps29
  go_wp2
  go_ret
  exact ⟨rfl, rfl⟩
theorem long_any (g : Nat) (st : St) (w : World) (h : WAt w g st) :
    Calls Tryd.prog 16 #[.pointer (some ⟨g, 0, none⟩)] w fun e w' => e = .returned (.bool (decide (200 < st.s.length))) ∧ w = w' := by
  have Hlen := Lib.hid (len_any g st w h)
  clear h
  generalize st.s.length = n at *
  by_cases h2 : 200 < n
  all_goals
    go_enter Tryd.func16, Tryd.ntmps16
    go_wp2_with (go_at_call 29; refine Hlen.out.mono ?_; rintro e w1 ⟨rfl, rfl⟩)
    go_ret
    exact ⟨ret_bool (by simp [h2]; omega), rfl⟩

theorem strL_cells (L : List Nat) (hL : Bytes8 L) : Lib.strCells (strL L) = u8s L := by
  have h2 : (strL L).data.toList = L.map UInt8.ofNat := by
    unfold strL
    rw [strOfNums_data, List.map_map]
    apply List.map_congr_left
    intro n _
    simp
  unfold Lib.strCells u8s
  rw [h2, List.map_map]
  apply List.map_congr_left
  intro n hn
  have := hL n hn
  simp
  omega

set_option maxHeartbeats 2000000 in
set_option maxRecDepth 100000 in
theorem writeString_any (g : Nat) (st : St) (L : List Nat) (hL : Bytes8 L) (hne : L ≠ []) (w : World) (h : WAt w g st) (hlen : st.s.length + L.length ≤ 4000000) :
    Calls Tryd.prog 26 #[.pointer (some ⟨g, 0, none⟩), .string (strL L)] w fun e w' => e = .returned (.tuple #[.int .i64 (L.length : Int), .nilIface]) ∧ WAt w' g (st.put L) ∧ Wr g w w' := by
  obtain ⟨i0, hi, hz0, hz1, hz2⟩ := info_parts u8_info
  have Hcheck := Lib.hid (copyCheck_any g st w h)
  have hsz := strL_size L
  have Hcells := Lib.hid (strL_cells L hL)
  have Hsz := Lib.hid hsz
  have hlt0 := h.lt
  clear h hsz
  generalize strL L = s at *
  go_enter Tryd.func26, Tryd.ntmps26
  go_wp2_with fail
  refine Hcheck.out.mono ?_
  rintro e w1 ⟨rfl, ⟨v, hb, hown, hnil⟩, hwr⟩
  have c1 := hb.cell 1
  simp only [List.getElem?_toArray, List.getElem?_cons_zero, List.getElem?_cons_succ] at c1
  have hlt1 := hb.lt
  go_wp2_with (at_builtin; refine Lib.wpList_append_own_string _ rfl _ _ 31 9 rfl (g + 1) 5 i0 Tryd.underlying31 Tryd.underlying9 hi hz0 hz1 hz2 _ _ _ rfl hown s rfl ?c3 ?c4 ?c5 ?_)
  case c3 => unfold maxLen; have := Hsz.out; omega
  case c4 => have := Hsz.out; omega
  case c5 => omega
  intro v' w2 hown' hgrow _
  rw [Hsz.out, Hcells.out, ← u8s_append] at hown'
  have hb2 := hb.grown hgrow (own_ne hown (by omega))
  have d1 := hb2.cell 1
  have f1 := hb2.free 1
  simp only [List.getElem?_toArray, List.getElem?_cons_zero, List.getElem?_cons_succ] at d1
  have Hst := Lib.hid (hb2.store 1 v')
  have Hown' := Lib.hid (own_grown hown' (grownBy_store (World.grownBy.refl w2 _) 1 v') (show g < g + 1 by omega))
  have Hwr := Lib.hid ((hwr.grown hown hgrow (by omega)).store (i := 1) v')
  obtain ⟨A', c', rfl⟩ := own_shape hown'
  clear hb2 hown' hgrow hown hwr hb hnil c1
  go_wp2
  go_ret2
  exact ⟨by rw [← Hsz.out]; rfl, ⟨_, _, Hst.out, .inr rfl, own_len Hown'.out (by simp [St.put]), fun e => by simp [St.put] at e; exact absurd e.2 hne⟩, Hwr.out⟩
set_option maxHeartbeats 2000000 in
set_option maxRecDepth 100000 in
theorem writeByte_any (g : Nat) (st : St) (b : Nat) (w : World) (h : WAt w g st) (hlen : st.s.length + 1 ≤ 4000000) :
    Calls Tryd.prog 43 #[.pointer (some ⟨g, 0, none⟩), .int .u8 (b : Int)] w fun e w' => e = .returned .nilIface ∧ WAt w' g (st.put [b]) ∧ Wr g w w' := by
  obtain ⟨i0, hi, hz0, hz1, hz2⟩ := info_parts u8_info
  have Hcheck := Lib.hid (copyCheck_any g st w h)
  have hlt0 := h.lt
  clear h
  go_enter Tryd.func43, Tryd.ntmps43
  go_wp2_with fail
  refine Hcheck.out.mono ?_
  rintro e w1 ⟨rfl, ⟨v, hb, hown, hnil⟩, hwr⟩
  have c1 := hb.cell 1
  simp only [List.getElem?_toArray, List.getElem?_cons_zero, List.getElem?_cons_succ] at c1
  have hlt1 := hb.lt
  go_wp2_with (at_builtin; refine wpList_append_new hown [.int .u8 (b : Int)] hi hz0 hz1 hz2 rfl (by decide) _ Tryd.underlying31 rfl _ _ rfl rfl rfl rfl ?c2 ?c3 ?c4 ?c5 ?_)
  case c2 => intro u hu; simp at hu; subst hu; rfl
  case c3 => unfold maxLen; omega
  case c4 => omega
  case c5 => omega
  intro v' w2 hown' hgrow
  have hu : u8s st.s ++ [Value.int .u8 (b : Int)] = u8s (st.s ++ [b]) := by simp [u8s]
  rw [hu] at hown'
  have hb2 := hb.grown hgrow (own_ne hown (by omega))
  have d1 := hb2.cell 1
  have f1 := hb2.free 1
  simp only [List.getElem?_toArray, List.getElem?_cons_zero, List.getElem?_cons_succ] at d1
  have Hst := Lib.hid (hb2.store 1 v')
  have Hown' := Lib.hid (own_grown hown' (grownBy_store (World.grownBy.refl w2 _) 1 v') (show g < g + 1 by omega))
  have Hwr := Lib.hid ((hwr.grown hown hgrow (by omega)).store (i := 1) v')
  obtain ⟨A', c', rfl⟩ := own_shape hown'
  clear hb2 hown' hgrow hown hwr hb hnil c1 hu
  go_wp2
  go_ret
  exact ⟨rfl, ⟨_, _, Hst.out, .inr rfl, own_len Hown'.out (by simp [St.put]), fun e => by simp [St.put] at e⟩, Hwr.out⟩
end Go.Proofs.YtnkiiphliilegaaDoor

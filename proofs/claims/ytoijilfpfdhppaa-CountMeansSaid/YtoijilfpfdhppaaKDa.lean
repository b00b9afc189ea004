/- Words for the counters; walks of the span engine (the greatest age alone). -/
import Derived.Test.YtoijilfpfdhppaaKBi
import Derived.Test.YtoijilfpfdhppaaKCa
import Derived.Test.YtoijilfpfdhppaaWs
import Derived.RegionTactic
import Derived.ChangeAlike
namespace Go.Proofs.Ytoijilfpfdhppaa
open Go.RowKit

theorem grown_of_below {w w' : World} (h : Below w.heap.size w w') (row : Option Nat) : w.grownBy w' row := ⟨h.os, h.tape, h.output, h.size, fun k hk _ => h.block k hk⟩
theorem grown_trans {a w w' : World} {row : Option Nat} (h : a.grownBy w row) (h' : w.grownBy w' row) : a.grownBy w' row :=
  ⟨h'.os.trans h.os, h'.tape.trans h.tape, h'.output.trans h.output, Nat.le_trans h.size h'.size, fun k hk hne => (h'.block k (Nat.lt_of_lt_of_le hk h.size) hne).trans (h.block k hk hne)⟩

/-- a call that gives nothing back came to its end -/
def Ended (R : World → Prop) (e : Ending) (w' : World) : Prop := (∃ u, e = .returned u) ∧ R w'

/-- the span engine's struct -/
def spanCells (top : Int) (stays : Bool) (e : Int) : Array Value := #[.int .i64 top, .bool stays, .int .i64 e]
theorem span_set (top : Int) (stays : Bool) (e m : Int) : (spanCells top stays e).setIfInBounds 2 (.int .i64 m) = spanCells top stays m := rfl
def SpanNow (g : Nat) (top : Int) (stays : Bool) (m : Int) (w w' : World) : Prop := Blk w' g 56 (spanCells top stays m) ∧ w.grownBy w' (some g)
theorem span_arm (g : Nat) (top e : Int) (stays : Bool) (w : World) (h : Blk w g 56 (spanCells top stays e)) :
    Calls Try.prog 60 #[.pointer (some ⟨g, 0, none⟩)] w (Ended (SpanNow g top stays (if e < 0 then 0 else e) w)) := by
  have c2 := h.cell 2
  have f2 := h.free 2
  simp only [spanCells, List.getElem?_toArray, List.getElem?_cons_zero, List.getElem?_cons_succ] at c2
  by_cases he : e < 0
  · rw [if_pos he]
    have hs := Lib.hid (h.store 2 (.int .i64 0))
    rw [span_set] at hs
    have hg := Lib.hid (grownBy_store (World.grownBy.refl w (some g)) 2 (.int .i64 0))
    clear h
    go_enter Try.func60, Try.ntmps60
    go_wp2
    go_end0
    exact ⟨⟨_, rfl⟩, hs.out, hg.out⟩
  · rw [if_neg he]
    have hs := Lib.hid (h.store 2 (.int .i64 e))
    rw [span_set] at hs
    have hg := Lib.hid (grownBy_store (World.grownBy.refl w (some g)) 2 (.int .i64 e))
    clear h
    have he2 : 0 ≤ e := by omega
    go_enter Try.func60, Try.ntmps60
    go_wp2
    go_end0
    exact ⟨⟨_, rfl⟩, hs.out, hg.out⟩
theorem span_clear (g : Nat) (top e : Int) (stays : Bool) (w : World) (h : Blk w g 56 (spanCells top stays e)) :
    Calls Try.prog 61 #[.pointer (some ⟨g, 0, none⟩)] w (Ended (SpanNow g top stays (-1) w)) := by
  have c2 := h.cell 2
  have f2 := h.free 2
  simp only [spanCells, List.getElem?_toArray, List.getElem?_cons_zero, List.getElem?_cons_succ] at c2
  have hs := Lib.hid (h.store 2 (.int .i64 (-1)))
  rw [span_set] at hs
  have hg := Lib.hid (grownBy_store (World.grownBy.refl w (some g)) 2 (.int .i64 (-1)))
  clear h
  go_enter Try.func61, Try.ntmps61
  go_wp2
  go_end0
  exact ⟨⟨_, rfl⟩, hs.out, hg.out⟩
theorem span_done (g : Nat) (top e least : Int) (stays : Bool) (w : World) (h : Blk w g 56 (spanCells top stays e)) :
    Calls Try.prog 62 #[.pointer (some ⟨g, 0, none⟩), .int .i64 least] w fun e' w' => e' = .returned (.bool (decide (least ≤ e))) ∧ w = w' := by
  have c2 := h.cell 2
  simp only [spanCells, List.getElem?_toArray, List.getElem?_cons_zero, List.getElem?_cons_succ] at c2
  clear h
  go_enter Try.func62, Try.ntmps62
  go_wp2
  go_ret
  exact ⟨rfl, rfl⟩
theorem span_grow (g : Nat) (top e : Int) (stays : Bool) (he1 : -1 ≤ e) (he2 : e ≤ 1000) (w : World) (h : Blk w g 56 (spanCells top stays e)) :
    Calls Try.prog 63 #[.pointer (some ⟨g, 0, none⟩)] w (Ended (SpanNow g top stays (if e < 0 then e else if e + 1 ≤ top then e + 1 else top) w)) := by
  have c2 := h.cell 2
  have c0 := h.cell 0
  have f2 := h.free 2
  simp only [spanCells, List.getElem?_toArray, List.getElem?_cons_zero, List.getElem?_cons_succ] at c2 c0
  by_cases he : e < 0
  · rw [if_pos he]
    have H := Lib.hid h
    clear h
    go_enter Try.func63, Try.ntmps63
    go_wp2
    go_end0
    exact ⟨⟨_, rfl⟩, H.out, World.grownBy.refl w _⟩
  · rw [if_neg he]
    have he3 : 0 ≤ e := by omega
    clear he
    by_cases hm : e + 1 ≤ top
    · rw [if_pos hm]
      have hs := Lib.hid (h.store 2 (.int .i64 (e + 1))).drew
      rw [span_set] at hs
      have hg := Lib.hid (grownBy_drew (grownBy_store (World.grownBy.refl w (some g)) 2 (.int .i64 (e + 1))))
      clear h
      go_enter Try.func63, Try.ntmps63
      go_wp2
      go_region
      go_end0
      exact ⟨⟨_, rfl⟩, hs.out, hg.out⟩
    · rw [if_neg hm]
      have hs := Lib.hid (h.store 2 (.int .i64 top)).drew
      rw [span_set] at hs
      have hg := Lib.hid (grownBy_drew (grownBy_store (World.grownBy.refl w (some g)) 2 (.int .i64 top)))
      clear h
      go_enter Try.func63, Try.ntmps63
      go_wp2
      go_region
      go_end0
      exact ⟨⟨_, rfl⟩, hs.out, hg.out⟩
end Go.Proofs.Ytoijilfpfdhppaa

/- Walks of the ring engine of a counter (a list of moments): arm, clear, done. -/
import Derived.Test.YtoijilfpfdhppaaKEb
import Derived.BigQuiet
import Derived.Deep.QuietTactic
namespace Go.Proofs.Ytoijilfpfdhppaa
open Go.RowKit

theorem Blk.drewN {w : World} {g : Nat} {t : TypeId} {cs : Array Value} (h : Blk w g t cs) (n : Nat) : Blk (w.drewN n) g t cs := h
theorem RowO.drewN {w : World} {B : Nat} {v : Value} {M : List Int} (h : RowO w B v M) (n : Nat) : RowO (w.drewN n) B v M := h
theorem grown_drewN {a w : World} {row : Option Nat} (h : a.grownBy w row) (n : Nat) : a.grownBy (w.drewN n) row := ⟨h.os, h.tape, h.output, h.size, h.block⟩

def ringCells (tp : Int) (stays : Bool) (now : Int) (v : Value) : Array Value := #[.int .i64 tp, .bool stays, .int .i64 now, v]
theorem ring_set3 (tp : Int) (stays : Bool) (now : Int) (v u : Value) : (ringCells tp stays now v).setIfInBounds 3 u = ringCells tp stays now u := rfl
theorem ring_set2 (tp : Int) (stays : Bool) (now m : Int) (v : Value) : (ringCells tp stays now v).setIfInBounds 2 (.int .i64 m) = ringCells tp stays m v := rfl
/-- the ring engine's struct and its moments -/
def RingAt (w : World) (g : Nat) (tp : Int) (stays : Bool) (now : Int) (M : List Int) : Prop :=
  ∃ v, Blk w g 53 (ringCells tp stays now v) ∧ RowO w (g + 1) v M
theorem RingAt.below {w w' : World} {g : Nat} {tp : Int} {stays : Bool} {now : Int} {M : List Int} (h : RingAt w g tp stays now M) (hb : Below w.heap.size w w') : RingAt w' g tp stays now M := by
  obtain ⟨v, h1, h2⟩ := h
  exact ⟨v, h1.below hb h1.lt, h2.below hb⟩
def RingNow (g : Nat) (tp : Int) (stays : Bool) (now : Int) (M : List Int) (w w' : World) : Prop := RingAt w' g tp stays now M ∧ Below g w w'
theorem ring_stored {w : World} {g : Nat} {tp : Int} {stays : Bool} {now : Int} {v u : Value} {M : List Int} (h : Blk w g 53 (ringCells tp stays now v)) (hr : RowO w (g + 1) u M) :
    Blk (w.setCell ⟨g, 3, none⟩ u) g 53 (ringCells tp stays now u) ∧ RowO (w.setCell ⟨g, 3, none⟩ u) (g + 1) u M := by
  have h1 := h.store 3 u
  rw [ring_set3] at h1
  exact ⟨h1, hr.grown (grownBy_store (World.grownBy.refl w (some g)) 3 u) (Nat.lt_succ_self g)⟩

theorem ring_clear (g : Nat) (tp : Int) (stays : Bool) (now : Int) (M : List Int) (w : World) (h : RingAt w g tp stays now M) :
    Calls Try.prog 50 #[.pointer (some ⟨g, 0, none⟩)] w (Ended (RingNow g tp stays now [] w)) := by
  obtain ⟨v, hb, hr⟩ := h
  have c3 := hb.cell 3
  have f3 := hb.free 3
  simp only [ringCells, List.getElem?_toArray, List.getElem?_cons_zero, List.getElem?_cons_succ] at c3
  have H := Lib.hid (ring_stored (u := .slice none 0 0) hb (RowO.nil w (g + 1)))
  have HB := Lib.hid ((Below.refl g w).setCell (p := ⟨g, 3, none⟩) (Nat.le_refl g) (.slice none 0 0))
  clear hb hr
  go_enter Try.func50, Try.ntmps50
  go_wp2
  go_end0
  exact ⟨⟨_, rfl⟩, ⟨_, H.out.1, H.out.2⟩, HB.out⟩

def ringDone (least now : Int) : List Int → Bool
  | [] => false
  | m :: _ => decide (least ≤ now - m)
theorem ring_done (g : Nat) (tp least : Int) (stays : Bool) (now : Int) (M : List Int) (hn : 0 ≤ now ∧ now ≤ 100000) (hM : ∀ m ∈ M, 0 ≤ m ∧ m ≤ 100000) (w : World) (h : RingAt w g tp stays now M) :
    Calls Try.prog 51 #[.pointer (some ⟨g, 0, none⟩), .int .i64 least] w fun e w' => e = .returned (.bool (ringDone least now M)) ∧ Below w.heap.size w w' := by
  obtain ⟨v, hb, hr⟩ := h
  obtain ⟨A, c, rfl, hlen, hcap, hcase⟩ := id hr
  have c3 := hb.cell 3
  have c2 := hb.cell 2
  simp only [ringCells, List.getElem?_toArray, List.getElem?_cons_zero, List.getElem?_cons_succ] at c3 c2
  obtain ⟨hn1, hn2⟩ := hn
  cases M with
  | nil =>
    have hd : decide ((0 : Int) < (0 : Int)) = false := by decide
    clear hb hr hcase hM
    show Calls Try.prog 51 #[.pointer (some ⟨g, 0, none⟩), .int .i64 least] w fun e w' => e = .returned (.bool false) ∧ Below w.heap.size w w'
    have c3' : w.cell? ⟨g, 3, none⟩ = some (.slice A 0 c) := c3
    clear c3
    go_enter Try.func51, Try.ntmps51
    go_wp2
    go_quiet (fail)
    go_wp2
    go_ret
    exact ⟨rfl, below_drewN (Below.refl _ _) _⟩
  | cons m M =>
    obtain ⟨b, off, rfl, _, _, hcell⟩ := hr.at_ (k := 0) rfl
    rw [Nat.add_zero] at hcell
    have hm := hM m (by simp)
    obtain ⟨hm1, hm2⟩ := hm
    have hl : (0 : Int) < ((M.length + 1 : Nat) : Int) := by omega
    have hl2 : decide (0 < M.length + 1) = true := by simp
    clear hb hr hcase hM
    show Calls Try.prog 51 #[.pointer (some ⟨g, 0, none⟩), .int .i64 least] w fun e w' => e = .returned (.bool (decide (least ≤ now - m))) ∧ Below w.heap.size w w'
    simp only [List.length_cons] at *
    generalize M.length + 1 = n at *
    have hs : IntKind.i64.wrap (now - m) = now - m := by rw [IntKind.wrap_i64]; omega
    go_enter Try.func51, Try.ntmps51
    go_wp2
    go_quiet (fail)
    go_wp2
    go_ret
    exact ⟨rfl, below_drewN (Below.refl _ _) _⟩
end Go.Proofs.Ytoijilfpfdhppaa

/- Kids that are being copied: rows of terms. -/
import Derived.Test.YtnkiiphliilegaaDoorS2
import Derived.Laws.ResultCell
namespace Go.Proofs.YtnkiiphliilegaaDoor
open Go.RowKit

theorem KidsAt.of {w : World} {P : Nat → Prop} {b : Nat} : ∀ (ks : List Tm) (off : Nat), (∀ i (h : i < ks.length), TermAt w P (fun j => w.cell? ⟨b, off + 8 * i + j, none⟩) ks[i]) → KidsAt w P b off ks
  | [], _, _ => by unfold KidsAt; trivial
  | k :: ks, off, h => by
    unfold KidsAt
    refine ⟨by have := h 0 (by simp); rw [Nat.mul_zero, Nat.add_zero] at this; exact this, KidsAt.of ks (off + 8) fun i hi => ?_⟩
    have := h (i + 1) (by simpa using hi)
    rw [show off + 8 * (i + 1) = off + 8 + 8 * i by omega] at this
    exact this
/-- the cells read as these terms, eight each -/
def ReadsT (w : World) (P : Nat → Prop) (cs : List Value) (ks : List Tm) : Prop := cs.length = 8 * ks.length ∧ ∀ i (h : i < ks.length), TermAt w P (fun j => cs[8 * i + j]?) ks[i]
theorem ReadsT.nil (w : World) (P : Nat → Prop) : ReadsT w P [] [] := ⟨rfl, fun i h => by simp at h⟩
theorem ReadsT.snoc {w : World} {P : Nat → Prop} {cs new : List Value} {ks : List Tm} {k : Tm} (h : ReadsT w P cs ks) (hn : new.length = 8) (hk : TermAt w P (fun j => new[j]?) k) : ReadsT w P (cs ++ new) (ks ++ [k]) := by
  refine ⟨by simp [h.1, hn]; omega, fun i hi => ?_⟩
  by_cases hlt : i < ks.length
  · have e : (ks ++ [k])[i] = ks[i] := by simp [hlt]
    rw [e]
    refine TermAt.congr _ (fun j hj => ?_) (h.2 i hlt)
    rw [List.getElem?_append_left (by rw [h.1]; omega)]
  · obtain rfl : i = ks.length := by simp at hi; omega
    have e : (ks ++ [k])[ks.length] = k := by simp
    rw [e]
    refine TermAt.congr _ (fun j hj => ?_) hk
    rw [List.getElem?_append_right (by rw [h.1]; omega), h.1]
    congr 1
    omega
theorem ReadsT.keep {w w' : World} {P P' : Nat → Prop} (hk : KeepsP P P' w w') {cs : List Value} {ks : List Tm} (h : ReadsT w P cs ks) : ReadsT w' P' cs ks := ⟨h.1, fun i hi => (h.2 i hi).keep hk⟩
/-- a row of its own that reads as these terms -/
theorem kids_row {w : World} {P P' : Nat → Prop} {base : Nat} {e : TypeId} {v : Value} {ks : List Tm} {cs : List Value} (h : w.ownsRow base e 8 v ks.length cs) (hr : ReadsT w P cs ks) (hP : ∀ b, P b → P' b) (hv : ∀ b, base ≤ b → b < w.heap.size → P' b) :
    ∃ A c, v = .slice A ks.length c ∧ KidsIn w P' A ks := by
  have hr' : ReadsT w P' cs ks := hr.keep fun b hb => ⟨hP b hb, fun _ => rfl⟩
  rcases h.2 with ⟨rfl, h0⟩ | ⟨g, cap, cur, rfl, hb, hg, _⟩
  · have : ks = [] := List.eq_nil_of_length_eq_zero h0
    subst this
    exact ⟨none, 0, rfl, .inl rfl⟩
  · refine ⟨_, cap, rfl, .inr ⟨g, 0, rfl, hv g hb (lt_of_block hg), KidsAt.of ks 0 fun i hi => ?_⟩⟩
    refine TermAt.congr _ (fun j hj => ?_) (hr'.2 i hi)
    have := h.cellAt (8 * i + j) (by omega)
    rw [Nat.zero_add]
    exact this.symm
theorem TermAt.val {w : World} {P : Nat → Prop} {op : Int} {p : Nat → Bool} {mn mx : Int} {A : Option Addr} {c : Nat} {ks : List Tm} (h : KidsIn w P A ks) : TermAt w P (fun j => (tcells op p mn mx A ks.length c).toList[j]?) (.node op p mn mx ks) := by
  unfold TermAt
  refine ⟨rfl, fun i hi => ?_, rfl, rfl, A, c, rfl, h⟩
  have : i = 0 ∨ i = 1 ∨ i = 2 ∨ i = 3 := by omega
  rcases this with rfl | rfl | rfl | rfl <;> rfl
/-- a term's cells stored over a block, one by one -/
theorem blk_fill8 {w : World} {g : Nat} {t : TypeId} {a0 a1 a2 a3 a4 a5 a6 a7 c0 c1 c2 c3 c4 c5 c6 c7 : Value} (h : Blk w g t #[c0, c1, c2, c3, c4, c5, c6, c7]) :
    Blk ((((((((w.setCell ⟨g, 0, none⟩ a0).setCell ⟨g, 1, none⟩ a1).setCell ⟨g, 2, none⟩ a2).setCell ⟨g, 3, none⟩ a3).setCell ⟨g, 4, none⟩ a4).setCell ⟨g, 5, none⟩ a5).setCell ⟨g, 6, none⟩ a6).setCell ⟨g, 7, none⟩ a7) g t #[a0, a1, a2, a3, a4, a5, a6, a7] := by
  have := (((((((h.store 0 a0).store 1 a1).store 2 a2).store 3 a3).store 4 a4).store 5 a5).store 6 a6).store 7 a7
  simpa using this
end Go.Proofs.YtnkiiphliilegaaDoor

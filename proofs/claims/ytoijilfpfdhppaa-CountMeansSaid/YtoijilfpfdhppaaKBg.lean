/- Walks of bits.Set, bits.Clear, bits.Count, riddleref01.Copy, riddlelaw01.spoil. -/
import Derived.Test.YtoijilfpfdhppaaKBf
namespace Go.Proofs.Ytoijilfpfdhppaa
open Go.RowKit

/-- a call gave the vector f in its one form and no error -/
def GaveVE (f : Nat → Bool) (N : Nat) (w : World) (e : Ending) (w' : World) : Prop :=
  ∃ A c, e = .returned (.tuple #[.slice A (top f N) c, .int .i64 0]) ∧ Vec w' A (top f N) c f ∧ w'.ownsRow w.heap.size 22 1 (.slice A (top f N) c) (top f N) (u64s (vw f (top f N))) ∧ Below w.heap.size w w'
theorem GaveVE.congr {f g : Nat → Bool} {N M : Nat} {w w' : World} {e : Ending} (h : GaveVE f N w e w') (hf : Sup f N) (hg : Sup g M) (hfg : ∀ i, f i = g i) : GaveVE g M w e w' := by
  obtain rfl : f = g := funext hfg
  unfold GaveVE
  rw [top_ext hg hf]
  exact h

theorem set_no (n : Nat) (A : Option Addr) (c : Nat) (i : Int) (h : i < 0 ∨ 65535 < i) (w : World) :
    Calls Try.prog 36 #[.slice A n c, .int .i64 i] w fun e w' => e = .returned (.tuple #[.slice none 0 0, .int .i64 2]) ∧ w = w' := by
  rcases h with h | h
  · go_enter Try.func36, Try.ntmps36
    go_wp2
    go_ret2
    exact ⟨rfl, rfl⟩
  · have h0 : ¬ i < 0 := by omega
    have h1 : 65536 ≤ i := by omega
    clear h
    go_enter Try.func36, Try.ntmps36
    go_wp2
    go_ret2
    exact ⟨rfl, rfl⟩

theorem addB_or (f : Nat → Bool) (i x : Nat) : (f x || addB noneB i x) = addB f i x := by simp [addB, noneB]
theorem set_yes (f : Nat → Bool) (n : Nat) (A : Option Addr) (c : Nat) (i : Nat) (hi : i ≤ 65535) (w : World) (h : Vec w A n c f) :
    Calls Try.prog 36 #[.slice A n c, .int .i64 (i : Int)] w (GaveVE (addB f i) (max n (i / 64 + 1)) w) := by
  have HV := Lib.hid h
  have Hor := Lib.hid (fun B d W hq => vor_any f (addB noneB i) n (i / 64 + 1) A B c d W (h.below (w' := W) hq))
  have Hs0 := Lib.hid h.sup
  clear h
  have h1 : ¬ (65536 : Int) ≤ (i : Int) := by omega
  go_enter Try.func36, Try.ntmps36
  go_wp2_with fail
  refine (one_any i hi _).mono ?_
  rintro e w1 ⟨B, rfl, hv, hb⟩
  have HB := Lib.hid hb
  have HV1 := Lib.hid hv
  clear hv hb
  go_wp2_with fail
  refine (Hor.out B _ _ HB.out HV1.out).mono ?_
  intro e w2 hg
  have hg2 := hg.congr (g := addB f i) (M := max n (i / 64 + 1)) (fun j hj => by have h1 := Hs0.out j; have h2 := one_sup i j; simp [h1 (by omega), h2 (by omega)]) (addB_sup Hs0.out (by omega) (by omega)) (addB_or f i)
  clear hg
  obtain ⟨A', c', rfl, h1, h2, h3⟩ := hg2
  go_wp2
  go_ret2
  exact ⟨A', c', rfl, h1, own_base h2 HB.out.size, HB.out.trans (h3.mono HB.out.size)⟩

end Go.Proofs.Ytoijilfpfdhppaa

/- Walks of bits.And, bits.Or and bits.Minus. -/
import Derived.Test.YtoijilfpfdhppaaKBd
namespace Go.Proofs.Ytoijilfpfdhppaa
open Go.RowKit

theorem vor_any (p q : Nat → Bool) (n m : Nat) (A B : Option Addr) (c d : Nat) (w : World) (hp : Vec w A n c p) (hq : Vec w B m d q) :
    Calls Try.prog 41 #[.slice A n c, .slice B m d] w (GaveV (fun b => p b || q b) (max n m) w) := by
  have H := Lib.hid (merge_or p q n m A B c d w hp hq)
  clear hp hq
  go_enter Try.func41, Try.ntmps41
  go_wp2_with fail
  refine H.out.mono ?_
  rintro e w1 ⟨A', c', rfl, h1, h2, h3⟩
  go_wp2
  go_ret
  exact ⟨A', c', rfl, h1, h2, h3⟩
theorem vminus_any (p q : Nat → Bool) (n m : Nat) (A B : Option Addr) (c d : Nat) (w : World) (hp : Vec w A n c p) (hq : Vec w B m d q) :
    Calls Try.prog 37 #[.slice A n c, .slice B m d] w (GaveV (fun b => p b && !q b) (max n m) w) := by
  have H := Lib.hid (merge_minus p q n m A B c d w hp hq)
  clear hp hq
  go_enter Try.func37, Try.ntmps37
  go_wp2_with fail
  refine H.out.mono ?_
  rintro e w1 ⟨A', c', rfl, h1, h2, h3⟩
  go_wp2
  go_ret
  exact ⟨A', c', rfl, h1, h2, h3⟩
end Go.Proofs.Ytoijilfpfdhppaa

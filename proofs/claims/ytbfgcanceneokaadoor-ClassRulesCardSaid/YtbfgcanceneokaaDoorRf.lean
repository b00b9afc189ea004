/- Walk of the reference riddleref02.SameBytes; what two classes are held against each other by '=='. -/
import Derived.Test.YtbfgcanceneokaaDoorRe
import Derived.Test.YtbfgcanceneokaaDoorSt
namespace Go.Proofs.YtbfgcanceneokaaDoor
open Go.RowKit

theorem same_any (A B : Option Addr) (c d : Nat) (L M : List Nat) (hL : ∀ b ∈ L, b < 256) (hM : ∀ b ∈ M, b < 256) (w : World) (h1 : Rd w w.heap.size A (u8s L)) (h2 : Rd w w.heap.size B (u8s M)) :
    Calls Tryd.prog 17 #[.slice A L.length c, .slice B M.length d] w fun e w' => e = .returned (.bool (L == M)) ∧ w = w' := by
  have e1 := run_strL (P := Tryd.prog) h1 30 9 5 Tryd.underlying30 Tryd.underlying5 Tryd.underlying9 c
  have e2 := run_strL (P := Tryd.prog) h2 30 9 5 Tryd.underlying30 Tryd.underlying5 Tryd.underlying9 d
  have e3 := strL_beq L M hL hM
  go_enter Tryd.func17, Tryd.ntmps17
  go_wp2
  go_ret
  exact ⟨rfl, rfl⟩
end Go.Proofs.YtbfgcanceneokaaDoor

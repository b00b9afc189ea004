/- An argument of type byte is a number below 256. -/
import Derived.Test.YtbfgcanceneokaaDoorPo
namespace Go.Proofs.YtbfgcanceneokaaDoor
open Go.ChangeShapes Go.WideShapes Go.RowKit

theorem open_byte {H : Type} {enc : TypeId × Value → H} {w : World} {base b0 : Nat} {spare : Nat → Bool} {held : Bool} {v : Value} {d : DataW H} {ps : List MemPlace} {r : Reach}
    (hval : Value.okWide Tryd.prog w r b0 5 v) (hd : DataW.Trod enc Tryd.prog w base spare held 5 v d ps) :
    ∃ a : Nat, v = .int .u8 ((a : Nat) : Int) ∧ d = .lit (.int .u8 ((a : Nat) : Int)) ∧ ps = [] ∧ a < 256 := by
  obtain ⟨n, rfl, rfl, rfl, hw⟩ := open_int Tryd.underlying5 hval hd
  simp [Lit.wf, IntKind.min, IntKind.max, IntKind.signed, IntKind.bits] at hw
  obtain ⟨a, rfl⟩ : ∃ a : Nat, n = (a : Int) := ⟨n.toNat, by omega⟩
  exact ⟨a, rfl, rfl, rfl, by omega⟩
theorem wf_byte {a : Nat} (h : a < 256) : (Lit.int .u8 ((a : Nat) : Int)).wf = true := by
  simp [Lit.wf, IntKind.min, IntKind.max, IntKind.signed, IntKind.bits]
  omega
end Go.Proofs.YtbfgcanceneokaaDoor

/- More single operations as equations: numbers that differ, truth values compared, a byte turned into a number. -/
import Derived.Test.YtbfgcanceneokaaDoorFy
namespace Go.Proofs.YtbfgcanceneokaaDoor

section
variable {f : Operand → Value} {o : Oper} {x y : Operand} {w : World}
theorem op_neInt {k : IntKind} {n m : Int} {t u : TypeId} (ho : o.op = .binOp .eql t x y u) (hx : f x = .int k n) (hy : f y = .int k m) (h : n ≠ m) :
    (execOp f o).run Tryd.prog w = .ok (.value (.bool false)) w := by
  have hd : (n == m) = false := by simpa using h
  unfold execOp
  rw [ho]
  go_simp
theorem op_eqBool {b : Bool} {u : TypeId} (ho : o.op = .binOp .eql 4 x y u) (hx : f x = .bool b) (hy : f y = .bool b) :
    (execOp f o).run Tryd.prog w = .ok (.value (.bool true)) w := by
  have e : (b == b) = true := by simp
  unfold execOp
  rw [ho]
  go_simp
theorem op_conv {b : Nat} (ho : o.op = .convert 5 3 x) (hx : f x = .int .u8 (b : Nat)) (hb : b < 256) :
    (execOp f o).run Tryd.prog w = .ok (.value (.int .i64 (b : Nat))) w := by
  have e : IntKind.i64.wrap (b : Int) = (b : Int) := by rw [IntKind.wrap_i64]; omega
  unfold execOp
  rw [ho]
  go_simp
end
end Go.Proofs.YtbfgcanceneokaaDoor

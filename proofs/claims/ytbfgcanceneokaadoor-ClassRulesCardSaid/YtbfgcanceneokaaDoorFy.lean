/- Single operations of the class laws' regions, as equations: a class loaded, classes and numbers compared, numbers added, a slice's length. -/
import Derived.Test.YtbfgcanceneokaaDoorFx
import Derived.Test.YtbfgcanceneokaaDoorWd
import Derived.Test.YtbfgcanceneokaaDoorRg
import Derived.Test.YtbfgcanceneokaaDoorMc
namespace Go.Proofs.YtbfgcanceneokaaDoor

section
variable {f : Operand → Value} {o : Oper} {x y : Operand} {w : World}
theorem op_load {p : Nat → Bool} {g : Nat} (ho : o.op = .load 24 x) (hx : f x = .pointer (some ⟨g, 0, none⟩)) (h : Blk w g 24 (ccells p)) :
    (execOp f o).run Tryd.prog w = .ok (.value (cval p)) w := by
  have p0 := h.cell 0
  have p1 := h.cell 1
  have p2 := h.cell 2
  have p3 := h.cell 3
  simp only [List.getElem?_toArray, List.getElem?_cons_zero, List.getElem?_cons_succ] at p0 p1 p2 p3
  unfold execOp
  rw [ho]
  go_simp
theorem op_eqClass {p q : Nat → Bool} {t : TypeId} (ho : o.op = .binOp .eql 24 x y t) (hx : f x = cval p) (hy : f y = cval q) (h : ∀ b, b < 256 → p b = q b) :
    (execOp f o).run Tryd.prog w = .ok (.value (.bool true)) w := by
  have e := eql_class p q h
  unfold execOp
  rw [ho]
  go_simp
theorem op_eqInt {k : IntKind} {n m : Int} {t u : TypeId} (ho : o.op = .binOp .eql t x y u) (hx : f x = .int k n) (hy : f y = .int k m) (h : n = m) :
    (execOp f o).run Tryd.prog w = .ok (.value (.bool true)) w := by
  subst h
  unfold execOp
  rw [ho]
  go_simp
theorem op_leInt {n m : Int} {u : TypeId} (ho : o.op = .binOp .leq 3 x y u) (hx : f x = .int .i64 n) (hy : f y = .int .i64 m) (h : n ≤ m) :
    (execOp f o).run Tryd.prog w = .ok (.value (.bool true)) w := by
  have hd : decide (n ≤ m) = true := decide_eq_true h
  unfold execOp
  rw [ho]
  go_simp
theorem op_add {n m : Nat} {u : TypeId} (ho : o.op = .binOp .add 3 x y u) (hx : f x = .int .i64 (n : Nat)) (hy : f y = .int .i64 (m : Nat)) (h : n + m < 9223372036854775808) :
    (execOp f o).run Tryd.prog w = .ok (.value (.int .i64 ((n + m : Nat) : Int))) w := by
  have e : IntKind.i64.wrap ((n : Int) + (m : Int)) = ((n + m : Nat) : Int) := by rw [IntKind.wrap_i64]; omega
  unfold execOp
  rw [ho]
  go_simp
theorem op_len {A : Option Addr} {n c : Nat} (ho : o.op = .call { callee := .builtin .len, args := #[x], argTypes := #[32] }) (hx : f x = .slice A n c) :
    (execOp f o).run Tryd.prog w = .ok (.value (.int .i64 (n : Nat))) w := by
  unfold execOp
  rw [ho]
  go_simp
theorem call_and {u v : Value} {ts : Array TypeId} (ho : o.op = .call { callee := .value (.func 9), args := #[x, y], argTypes := ts }) (hf : f (.func 9) = .func (.func 9) #[] #[]) (hx : f x = u) (hy : f y = v) :
    (execOp f o).run Tryd.prog w = .ok (.enter 9 #[u, v]) w := by
  unfold execOp
  rw [ho]
  go_simp
theorem call_or {u v : Value} {ts : Array TypeId} (ho : o.op = .call { callee := .value (.func 11), args := #[x, y], argTypes := ts }) (hf : f (.func 11) = .func (.func 11) #[] #[]) (hx : f x = u) (hy : f y = v) :
    (execOp f o).run Tryd.prog w = .ok (.enter 11 #[u, v]) w := by
  unfold execOp
  rw [ho]
  go_simp
theorem call_not {u : Value} {ts : Array TypeId} (ho : o.op = .call { callee := .value (.func 12), args := #[x], argTypes := ts }) (hf : f (.func 12) = .func (.func 12) #[] #[]) (hx : f x = u) :
    (execOp f o).run Tryd.prog w = .ok (.enter 12 #[u]) w := by
  unfold execOp
  rw [ho]
  go_simp
theorem call_runs {u : Value} {ts : Array TypeId} (ho : o.op = .call { callee := .value (.func 14), args := #[x], argTypes := ts }) (hf : f (.func 14) = .func (.func 14) #[] #[]) (hx : f x = u) :
    (execOp f o).run Tryd.prog w = .ok (.enter 14 #[u]) w := by
  unfold execOp
  rw [ho]
  go_simp
theorem call_len_ {u : Value} {ts : Array TypeId} (ho : o.op = .call { callee := .value (.func 16), args := #[x], argTypes := ts }) (hf : f (.func 16) = .func (.func 16) #[] #[]) (hx : f x = u) :
    (execOp f o).run Tryd.prog w = .ok (.enter 16 #[u]) w := by
  unfold execOp
  rw [ho]
  go_simp
theorem call_fold {u : Value} {ts : Array TypeId} (ho : o.op = .call { callee := .value (.func 19), args := #[x], argTypes := ts }) (hf : f (.func 19) = .func (.func 19) #[] #[]) (hx : f x = u) :
    (execOp f o).run Tryd.prog w = .ok (.enter 19 #[u]) w := by
  unfold execOp
  rw [ho]
  go_simp
theorem call_of {u : Value} {ts : Array TypeId} (ho : o.op = .call { callee := .value (.func 21), args := #[x], argTypes := ts }) (hf : f (.func 21) = .func (.func 21) #[] #[]) (hx : f x = u) :
    (execOp f o).run Tryd.prog w = .ok (.enter 21 #[u]) w := by
  unfold execOp
  rw [ho]
  go_simp
theorem call_bytes {u : Value} {ts : Array TypeId} (ho : o.op = .call { callee := .value (.func 13), args := #[x], argTypes := ts }) (hf : f (.func 13) = .func (.func 13) #[] #[]) (hx : f x = u) :
    (execOp f o).run Tryd.prog w = .ok (.enter 13 #[u]) w := by
  unfold execOp
  rw [ho]
  go_simp
theorem call_has {u v : Value} {ts : Array TypeId} (ho : o.op = .call { callee := .value (.func 22), args := #[x, y], argTypes := ts }) (hf : f (.func 22) = .func (.func 22) #[] #[]) (hx : f x = u) (hy : f y = v) :
    (execOp f o).run Tryd.prog w = .ok (.enter 22 #[u, v]) w := by
  unfold execOp
  rw [ho]
  go_simp
theorem call_range {u v : Value} {ts : Array TypeId} (ho : o.op = .call { callee := .value (.func 23), args := #[x, y], argTypes := ts }) (hf : f (.func 23) = .func (.func 23) #[] #[]) (hx : f x = u) (hy : f y = v) :
    (execOp f o).run Tryd.prog w = .ok (.enter 23 #[u, v]) w := by
  unfold execOp
  rw [ho]
  go_simp
theorem call_other {u : Value} {ts : Array TypeId} (ho : o.op = .call { callee := .value (.func 24), args := #[x], argTypes := ts }) (hf : f (.func 24) = .func (.func 24) #[] #[]) (hx : f x = u) :
    (execOp f o).run Tryd.prog w = .ok (.enter 24 #[u]) w := by
  unfold execOp
  rw [ho]
  go_simp
end
end Go.Proofs.YtbfgcanceneokaaDoor

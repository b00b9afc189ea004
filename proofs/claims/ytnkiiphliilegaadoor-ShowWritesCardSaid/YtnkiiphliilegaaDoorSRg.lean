/- '==' and '!=' on classes and on pairs of bytes. -/
import Derived.Test.YtnkiiphliilegaaDoorSRe
namespace Go.Proofs.YtnkiiphliilegaaDoor
open Go.RowKit
theorem info22 : (Tryd.prog.info? 22).map (·.size) = some 1 := by kernel_rfl
theorem agg22 (w : World) : (isAgg 22).run Tryd.prog w = .ok false w := by kernel_rfl
set_option maxRecDepth 20000 in
theorem eqlIn_class (d : Nat) (a0 a1 a2 a3 b0 b1 b2 b3 : Int) (w : World) : (Op.equalIn (d + 2) 24 (.agg #[.int .u64 a0, .int .u64 a1, .int .u64 a2, .int .u64 a3]) (.agg #[.int .u64 b0, .int .u64 b1, .int .u64 b2, .int .u64 b3])).run Tryd.prog w =
    .ok (a0 == b0 && (a1 == b1 && (a2 == b2 && a3 == b3))) w := by
  have hu : Tryd.prog.underlying 24 = some (.array 4 22) := Tryd.underlying24
  have hi : Tryd.prog.underlying 22 = some (.int .u64) := Tryd.underlying22
  have he := fun (a b : Int) (w : World) => run_equalIn_int (P := Tryd.prog) w d 22 .u64 .u64 a b hi
  cases hq : Tryd.prog.info? 22 with
  | none => have := info22; rw [hq] at this; cases this
  | some i =>
    have hs : i.size = 1 := by have := info22; rw [hq] at this; simpa using this
    have hz : ∀ w, (sizeOf 22).run Tryd.prog w = .ok 1 w := fun w => by simp [sizeOf, typeInfo, hq, hs]
    have hp : ∀ (cs : Array Value) (j : Nat) (v : Value) (w : World), cs[j]? = some v → (part 22 cs j).run Tryd.prog w = .ok v w := fun cs j v w h => by
      unfold part
      rw [Sem.run_bind, agg22]
      simp [h]
    rw [Op.equalIn, Sem.run_bind, run_underlying hu]
    simp only [Result.andThen_ok]
    rw [Sem.run_bind, hz]
    simp only [Result.andThen_ok]
    have hr : List.range' 0 4 1 = [0, 1, 2, 3] := rfl
    rw [Std.Legacy.Range.forIn_eq_forIn_range']
    have q0 := fun (x0 x1 x2 x3 : Value) (w : World) => hp #[x0, x1, x2, x3] 0 x0 w rfl
    have q1 := fun (x0 x1 x2 x3 : Value) (w : World) => hp #[x0, x1, x2, x3] 1 x1 w rfl
    have q2 := fun (x0 x1 x2 x3 : Value) (w : World) => hp #[x0, x1, x2, x3] 2 x2 w rfl
    have q3 := fun (x0 x1 x2 x3 : Value) (w : World) => hp #[x0, x1, x2, x3] 3 x3 w rfl
    simp only [Std.Legacy.Range.size, Nat.sub_zero, Nat.add_sub_cancel, Nat.div_one, hr, List.forIn_cons, List.forIn_nil, Sem.run_bind, q0, Result.andThen_ok, he, Nat.mul_one]
    cases h0 : (a0 == b0)
    · simp
    · simp only [Bool.not_true, Bool.false_eq_true, if_false, Sem.run_pure, Result.andThen_ok, Sem.run_bind, q1, he]
      cases h1 : (a1 == b1)
      · simp
      · simp only [Bool.not_true, Bool.false_eq_true, if_false, Sem.run_pure, Result.andThen_ok, Sem.run_bind, q2, he]
        cases h2 : (a2 == b2)
        · simp
        · simp only [Bool.not_true, Bool.false_eq_true, if_false, Sem.run_pure, Result.andThen_ok, Sem.run_bind, q3, he]
          cases h3 : (a3 == b3) <;> simp

/-- two classes held against each other -/
theorem eql_class (p q : Nat → Bool) (h : ∀ b, b < 256 → p b = q b) (w : World) : (binOp .eql 24 (cval p) (cval q)).run Tryd.prog w = .ok (.bool true) w := by
  have e0 := pw_congr (by decide : 0 < 4) h
  have e1 := pw_congr (by decide : 1 < 4) h
  have e2 := pw_congr (by decide : 2 < 4) h
  have e3 := pw_congr (by decide : 3 < 4) h
  simp only [binOp, Op.equal, Op.maxDepth, Sem.run_bind]
  rw [eqlIn_class 9998, e0, e1, e2, e3]
  simp
theorem neq_class (p q : Nat → Bool) (h : ∀ b, b < 256 → p b = q b) (w : World) : (binOp .neq 24 (cval p) (cval q)).run Tryd.prog w = .ok (.bool false) w := by
  have e0 := pw_congr (by decide : 0 < 4) h
  have e1 := pw_congr (by decide : 1 < 4) h
  have e2 := pw_congr (by decide : 2 < 4) h
  have e3 := pw_congr (by decide : 3 < 4) h
  simp only [binOp, Op.equal, Op.maxDepth, Sem.run_bind]
  rw [eqlIn_class 9998, e0, e1, e2, e3]
  simp

end Go.Proofs.YtnkiiphliilegaaDoor

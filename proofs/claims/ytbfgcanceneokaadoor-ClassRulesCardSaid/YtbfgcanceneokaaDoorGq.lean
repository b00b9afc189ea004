/- A row of runs that a call gave lies in a new block; a class compared with the empty one; the class of a class's bytes. -/
import Derived.Test.YtbfgcanceneokaaDoorGr
import Derived.Test.YtbfgcanceneokaaDoorFw
import Derived.Test.YtbfgcanceneokaaDoorMr
namespace Go.Proofs.YtbfgcanceneokaaDoor
open Go.RowKit

theorem gave_runs2 {R : List (Nat × Nat)} {w w' : World} {e : Ending} (h : GaveRuns R w e w') :
    ∃ A c, e = .returned (.slice A R.length c) ∧ Rd w' w'.heap.size A (runCells R) ∧ (R.length ≠ 0 → ∀ b off, A = some ⟨b, off, none⟩ → w.heap.size ≤ b) ∧ Below w.heap.size w w' := by
  obtain ⟨v, rfl, hown, hb⟩ := h
  obtain ⟨A, c, rfl, hr⟩ := own_rdn hown
  refine ⟨A, c, rfl, hr, fun hn b off e => ?_, hb⟩
  obtain ⟨g, c', e', hg, _⟩ := own_some hown (by omega)
  rw [e] at e'
  simp only [Value.slice.injEq, Option.some.injEq, Addr.mk.injEq] at e'
  omega

theorem zero_class : (Value.agg #[.int .u64 0, .int .u64 0, .int .u64 0, .int .u64 0]) = cval (fun _ => false) := by
  have e : ∀ i, pw (fun _ => false) i = 0 := fun i => bitsOf_none 64
  show _ = Value.agg #[_, _, _, _]
  rw [e, e, e, e]
  rfl
theorem zero_runs (R : List (Nat × Nat)) : (#[.int .u64 0, .int .u64 0, .int .u64 0, .int .u64 0] : Array Value) = ccells (inRuns (R.take 0)) := by
  have e : ∀ i, pw (inRuns (R.take 0)) i = 0 := fun i => inRuns_zero i
  show _ = #[_, _, _, _]
  rw [e, e, e, e]
  rfl
theorem setOf_bytes (p : Nat → Bool) (b : Nat) (h : b < 256) : setOf (bytesOf p 256) b = p b := by
  unfold setOf
  rw [Bool.eq_iff_iff, List.contains_iff_mem, bytesOf_mem]
  exact ⟨fun x => x.2, fun x => ⟨h, x⟩⟩

section
variable {f : Operand → Value} {o : Oper} {x y : Operand} {w : World}
theorem op_zero (ho : o.op = .build 24 #[]) : (execOp f o).run Tryd.prog w = .ok (.value (.agg #[.int .u64 0, .int .u64 0, .int .u64 0, .int .u64 0])) w := by
  unfold execOp
  rw [ho]
  go_simp
theorem op_eqZero {p : Nat → Bool} {t : TypeId} (ho : o.op = .binOp .eql 24 x y t) (hx : f x = cval p) (hy : f y = .agg #[.int .u64 0, .int .u64 0, .int .u64 0, .int .u64 0]) (h : ∀ b, b < 256 → p b = false) :
    (execOp f o).run Tryd.prog w = .ok (.value (.bool true)) w := by
  rw [zero_class] at hy
  exact op_eqClass ho hx hy h
end

theorem grown_trans {a w w' : World} {row : Option Nat} (h : a.grownBy w row) (h' : w.grownBy w' row) : a.grownBy w' row :=
  ⟨h'.os.trans h.os, h'.tape.trans h.tape, h'.output.trans h.output, Nat.le_trans h.size h'.size, fun i hi hne => (h'.block i (Nat.lt_of_lt_of_le hi h.size) hne).trans (h.block i hi hne)⟩
theorem wpOp_store {ops : Array Oper} {Q : Exit → Act → World → Prop} {i : Nat} {o : Oper} {a : Act} {w : World} {K : Act → World → Prop} {x y : Operand} {p q : Nat → Bool} {g : Nat} (hi : ops[i]? = some o) (hd : o.dst = none)
    (hw : Region.wanted o (yielded ops a.tmps) = true) (ho : o.op = .store 24 x y) (hx : a.eval x = .pointer (some ⟨g, 0, none⟩)) (hy : a.eval y = cval p) (hb : Blk w g 24 (ccells q))
    (h : ∀ w', Blk w' g 24 (ccells p) → w.grownBy w' (some g) → K (a.put none undef) w') : wpOp Tryd.prog ops Q i K a w := by
  obtain ⟨w', hr, h1, h2⟩ := op_store (f := a.eval) ho hx hy hb
  exact wpOp_skip none hi hd hw hr (h w' h1 h2)
end Go.Proofs.YtbfgcanceneokaaDoor

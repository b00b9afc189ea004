/- Steps through a drawn region whose order is forced, or forked by hand: one operation that yields, stores or calls. -/
import Derived.Test.YtbfgcanceneokaaDoorFz
import Derived.Test.YtbfgcanceneokaaDoorWs
import Derived.Test.YtbfgcanceneokaaDoorCd
namespace Go.Proofs.YtbfgcanceneokaaDoor

section
variable {P : Program} {ops : Array Oper} {Q : Exit → Act → World → Prop} {md : Region.Mode} {S : World → Prop}
theorem wpOp_val {i : Nat} {o : Oper} {v : Value} {a : Act} {w w' : World} {K : Act → World → Prop} (d : Option Tmp) (hi : ops[i]? = some o) (hd : o.dst = d)
    (hw : Region.wanted o (yielded ops a.tmps) = true) (hr : (execOp a.eval o).run P w = .ok (.value v) w') (h : K (a.put d v) w') : wpOp P ops Q i K a w := by
  unfold Go.wpOp
  simp only [hi, hw, if_true]
  refine .inl ?_
  unfold Oper.wp
  rw [hr]
  subst hd
  exact h
theorem wpOp_skip {i : Nat} {o : Oper} {a : Act} {w w' : World} {K : Act → World → Prop} (d : Option Tmp) (hi : ops[i]? = some o) (hd : o.dst = d)
    (hw : Region.wanted o (yielded ops a.tmps) = true) (hr : (execOp a.eval o).run P w = .ok .skip w') (h : K (a.put d undef) w') : wpOp P ops Q i K a w := by
  unfold Go.wpOp
  simp only [hi, hw, if_true]
  refine .inl ?_
  unfold Oper.wp
  rw [hr]
  subst hd
  exact h
theorem wpOp_call {i : Nat} {o : Oper} {a : Act} {w : World} {K : Act → World → Prop} (d : Option Tmp) (hi : ops[i]? = some o) (hd : o.dst = d)
    (hw : Region.wanted o (yielded ops a.tmps) = true) {f : FuncId} {args : Array Value} (hr : (execOp a.eval o).run P w = .ok (.enter f args) w)
    (h : Calls P f args w fun e w' => ∃ v, e = .returned v ∧ K (a.put d v) w') : wpOp P ops Q i K a w := by
  unfold Go.wpOp
  simp only [hi, hw, if_true]
  refine .inl ?_
  unfold Oper.wp
  rw [hr, Oper.upon_enter, hd]
  refine h.mono ?_
  rintro e w' ⟨v, rfl, hK⟩
  exact hK
theorem wpAnyH_one {i : Nat} {n : Nat} {listed : Array Bool} {a : Act} {w : World} (hr : Region.ready md ops listed = [i])
    (h : wpOp P ops Q i (fun a' w' => S w' ∧ wpAnyH P md ops Q S n (listed.setIfInBounds i true) a' w') a w) : wpAnyH P md ops Q S (n + 1) listed a w :=
  wpAnyH_all hr (by simp) fun j hj => by rw [List.mem_singleton] at hj; subst hj; exact h
theorem wpAnyH_two {i j : Nat} {n : Nat} {listed : Array Bool} {a : Act} {w : World} (hr : Region.ready md ops listed = [i, j])
    (h : wpOp P ops Q i (fun a' w' => S w' ∧ wpAnyH P md ops Q S n (listed.setIfInBounds i true) a' w') a w)
    (h' : wpOp P ops Q j (fun a' w' => S w' ∧ wpAnyH P md ops Q S n (listed.setIfInBounds j true) a' w') a w) : wpAnyH P md ops Q S (n + 1) listed a w :=
  wpAnyH_all hr (by simp) fun k hk => by
    simp only [List.mem_cons, List.not_mem_nil, or_false] at hk
    rcases hk with rfl | rfl
    · exact h
    · exact h'
theorem wpAnyH_took {i : Nat} {oi : Oper} {v : Value} {n : Nat} {listed : Array Bool} {a : Act} {w : World} (d : Option Tmp) (hi : ops[i]? = some oi) (hd : oi.dst = d)
    (hs : Region.noSelect ops = true) (hf : Region.free md ops listed i = true) (hr : (Region.ready md ops listed).contains i = true)
    (hQ : ∀ c a w, Q (.panic c) (a.put d v) w → Q (.panic c) a w)
    (hw : Region.wanted oi (yielded ops a.tmps) = true) (hv : ∀ w, S w → (execOp a.eval oi).run P w = .ok (.value v) w) (hS : S w)
    (h : wpAnyH P md ops Q S n (listed.setIfInBounds i true) (a.put d v) w) : wpAnyH P md ops Q S (n + 1) listed a w := by
  subst hd
  exact wpAnyH_take hi hs hf hr hQ (.inl ⟨hw, hv⟩) hS h
end

section
variable {f : Operand → Value} {o : Oper} {x y : Operand} {w : World}
theorem op_store {p q : Nat → Bool} {g : Nat} (ho : o.op = .store 24 x y) (hx : f x = .pointer (some ⟨g, 0, none⟩)) (hy : f y = cval p) (h : Blk w g 24 (ccells q)) :
    ∃ w', (execOp f o).run Tryd.prog w = .ok .skip w' ∧ Blk w' g 24 (ccells p) ∧ w.grownBy w' (some g) := by
  have p0 := h.cell 0
  have p1 := h.cell 1
  have p2 := h.cell 2
  have p3 := h.cell 3
  have f0 := h.free 0
  have f1 := h.free 1
  have f2 := h.free 2
  have f3 := h.free 3
  simp only [List.getElem?_toArray, List.getElem?_cons_zero, List.getElem?_cons_succ] at p0 p1 p2 p3
  refine ⟨_, ?_, blk_fill (p := p) h, grownBy_store (grownBy_store (grownBy_store (grownBy_store (World.grownBy.refl w _) 0 _) 1 _) 2 _) 3 _⟩
  unfold execOp
  rw [ho]
  go_simp
theorem op_load8 {c : Addr} {v : Value} (ho : o.op = .load 5 x) (hx : f x = .pointer (some c)) (hv : w.cell? c = some v) :
    (execOp f o).run Tryd.prog w = .ok (.value v) w := by
  unfold execOp
  rw [ho]
  go_simp
end
end Go.Proofs.YtbfgcanceneokaaDoor

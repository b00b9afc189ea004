/- A region that draws its order, all of whose operations and calls yield fixed values (or one of a given kind) in every world that meets S: one order serves for all. -/
import Derived.Tactics
import Derived.OrdersHeld
import Derived.Deep.RegionHeld3
import Derived.Test.YtbfgcanceneokaaDoorChecked
namespace Go.Proofs.YtbfgcanceneokaaDoor

section
variable {P : Program} {ops : Array Oper} {Q : Exit → Act → World → Prop} {md : Region.Mode} {S : World → Prop}

/-- In every world that meets S the operation leaves a value with V in its temporary, in a world that meets S: by itself or by a call. -/
def YieldsS (P : Program) (ops : Array Oper) (S : World → Prop) (o : Oper) (V : Value → Prop) (a : Act) : Prop :=
  (Region.wanted o (yielded ops a.tmps) = true ∧ ∀ w, S w → (∃ v, (execOp a.eval o).run P w = .ok (.value v) w ∧ V v) ∨
    ∃ f args, (execOp a.eval o).run P w = .ok (.enter f args) w ∧ Calls P f args w fun e w' => (∃ v, e = .returned v ∧ V v) ∧ S w') ∨
  (Region.wanted o (yielded ops a.tmps) = false ∧ V undef)

theorem YieldsS.of_same {o : Oper} {V : Value → Prop} {a a' : Act} (hy : YieldsS P ops S o V a) (he : execOp a'.eval o = execOp a.eval o)
    (hw : Region.wanted o (yielded ops a'.tmps) = Region.wanted o (yielded ops a.tmps)) : YieldsS P ops S o V a' := by
  unfold YieldsS at *
  rw [he, hw]
  exact hy

theorem YieldsS.wpOp {i : Nat} {o : Oper} {V : Value → Prop} {a : Act} (hi : ops[i]? = some o) (hy : YieldsS P ops S o V a)
    {w : World} (hS : S w) {K : Act → World → Prop} (hK : ∀ v w', V v → S w' → K (a.put o.dst v) w') : wpOp P ops Q i K a w := by
  unfold Go.wpOp
  simp only [hi]
  rcases hy with ⟨hw, hv⟩ | ⟨hw, hV⟩
  · simp only [hw, if_true]
    refine .inl ?_
    unfold Oper.wp
    rcases hv w hS with ⟨v, h, hV⟩ | ⟨f, args, h, hc⟩
    · rw [h]
      exact hK v w hV hS
    · rw [h, Oper.upon_enter]
      refine hc.mono ?_
      rintro e w' ⟨⟨v, rfl, hV⟩, hS'⟩
      exact hK v w' hV hS'
  · simp only [hw, Bool.false_eq_true, if_false]
    exact hK _ w hV hS

/-- Whatever order is picked: each operation that may come up yields one of its values, and so on. -/
def wpFix (P : Program) (md : Region.Mode) (ops : Array Oper) (Q : Exit → Act → World → Prop) (S : World → Prop) (V : Nat → Value → Prop) : Nat → Array Bool → Act → Prop
  | 0, listed, a => Region.ready md ops listed = [] ∧ ∀ w, S w → Q .normal a w
  | n + 1, listed, a => (Region.ready md ops listed = [] → ∀ w, S w → Q .normal a w) ∧
    ∀ i ∈ Region.ready md ops listed, ∃ o, ops[i]? = some o ∧ YieldsS P ops S o (V i) a ∧ ∀ v, V i v → wpFix P md ops Q S V n (listed.setIfInBounds i true) (a.put o.dst v)

variable {V : Nat → Value → Prop}

theorem wpFix.held : ∀ {n : Nat} {listed : Array Bool} {a : Act}, wpFix P md ops Q S V n listed a → ∀ w, S w → wpAnyH P md ops Q S n listed a w
  | 0, _, _, h, w, hS => ⟨h.1, h.2 w hS⟩
  | n + 1, listed, a, h, w, hS => ⟨fun h0 => h.1 h0 w hS, fun i hi => by
      obtain ⟨o, ho, hy, hr⟩ := h.2 i hi
      exact hy.wpOp ho hS fun v w' hV hS' => ⟨hS', (hr v hV).held w' hS'⟩⟩

theorem wpFix_first {i : Nat} {oi : Oper} (hi : ops[i]? = some oi) (hne : ∃ v, V i v) (hsel : ∀ (j : Nat) (o : Oper) cs b, ops[j]? = some o → o.op ≠ .select cs b) :
    ∀ (n : Nat) (listed : Array Bool) (a : Act),
      (∀ j oj, ops[j]? = some oj → j ≠ i → listed.getD j true = false → (∀ e ∈ oj.after, Region.binds md e = true → e.on ≠ i) → oi.apart ops oj = true) →
      i ∈ Region.ready md ops listed → YieldsS P ops S oi (V i) a →
      (∀ v, V i v → wpFix P md ops Q S V n (listed.setIfInBounds i true) (a.put oi.dst v)) → wpFix P md ops Q S V (n + 1) listed a := by
  intro n
  induction n with
  | zero =>
    intro listed a _ hr hy H
    refine ⟨fun h => (by rw [h] at hr; cases hr), fun j hj => ?_⟩
    by_cases hji : j = i
    · subst hji; exact ⟨oi, hi, hy, H⟩
    · have := ready_mono hj hji
      obtain ⟨v, hv⟩ := hne
      rw [(H v hv).1] at this
      cases this
  | succ n ih =>
    intro listed a hfree hr hy H
    refine ⟨fun h => (by rw [h] at hr; cases hr), fun j hj => ?_⟩
    by_cases hji : j = i
    · subst hji; exact ⟨oi, hi, hy, H⟩
    · obtain ⟨v0, hv0⟩ := hne
      obtain ⟨oj, hoj, hyj, _⟩ := (H v0 hv0).2 j (ready_mono hj hji)
      obtain ⟨hjun, oj', hoj', hall⟩ := mem_ready.1 hj
      obtain rfl : oj = oj' := Option.some.inj (hoj.symm.trans hoj')
      have hnot : ∀ e ∈ oj.after, Region.binds md e = true → e.on ≠ i := fun e he hb heq => by
        have h1 := hall e he hb
        have h0 := (mem_ready.1 hr).1
        rw [heq] at h1
        rcases Nat.lt_or_ge i listed.size with h' | h'
        · simp [h'] at h0 h1; rw [h0] at h1; cases h1
        · simp [Array.getElem?_eq_none h'] at h1
      obtain ⟨h1, h2, h3⟩ := Oper.apart_spec (hfree j oj hoj hji hjun hnot)
      have hfree' : ∀ k ok, ops[k]? = some ok → k ≠ i → (listed.setIfInBounds j true).getD k true = false →
          (∀ e ∈ ok.after, Region.binds md e = true → e.on ≠ i) → oi.apart ops ok = true := fun k ok hk hki hun hno => by
        refine hfree k ok hk hki ?_ hno
        by_cases hjk : j = k
        · subst hjk; exact hjun
        · rw [getD_set_ne true hjk] at hun; exact hun
      refine ⟨oj, hoj, hyj.of_same (execOp_put oj (fun cs b => hsel j oj cs b hoj) a oi.dst v0 h1).symm (wanted_put oj a oi.dst v0 h1).symm, fun u hu => ?_⟩
      refine ih _ _ hfree' (ready_mono hr (Ne.symm hji)) (hy.of_same (execOp_put oi (fun cs b => hsel i oi cs b hi) a oj.dst u h3) (wanted_put oi a oj.dst u h3)) (fun v hv => ?_)
      obtain ⟨oj', hoj', _, hrest⟩ := (H v hv).2 j (ready_mono hj hji)
      obtain rfl : oj = oj' := Option.some.inj (hoj.symm.trans hoj')
      have := hrest u hu
      rw [Array.setIfInBounds_comm _ _ (Ne.symm hji), Act.put_comm a v u h2] at this
      exact this

/-- Take number i first: it yields one of its values. -/
theorem wpFix_takeV {i : Nat} {oi : Oper} {n : Nat} {listed : Array Bool} {a : Act} (d : Option Tmp) (hi : ops[i]? = some oi) (hd : oi.dst = d)
    (hs : Region.noSelect ops = true) (hf : Region.free md ops listed i = true) (hr : (Region.ready md ops listed).contains i = true) (hne : ∃ v, V i v)
    (hy : YieldsS P ops S oi (V i) a) (h : ∀ v, V i v → wpFix P md ops Q S V n (listed.setIfInBounds i true) (a.put d v)) : wpFix P md ops Q S V (n + 1) listed a :=
  wpFix_first hi hne (Region.noSelect_spec hs) n listed a (Region.free_spec hi hf) (by simpa using hr) hy (by rw [hd]; exact h)

/-- Take number i first: it yields this value. -/
theorem wpFix_take {i : Nat} {oi : Oper} {v : Value} {n : Nat} {listed : Array Bool} {a : Act} (d : Option Tmp) (hi : ops[i]? = some oi) (hd : oi.dst = d)
    (hs : Region.noSelect ops = true) (hf : Region.free md ops listed i = true) (hr : (Region.ready md ops listed).contains i = true) (hV : V i = fun u => u = v)
    (hy : YieldsS P ops S oi (fun u => u = v) a) (h : wpFix P md ops Q S V n (listed.setIfInBounds i true) (a.put d v)) : wpFix P md ops Q S V (n + 1) listed a :=
  wpFix_takeV d hi hd hs hf hr ⟨v, by rw [hV]⟩ (by rw [hV]; exact hy) (fun u hu => by rw [hV] at hu; subst hu; exact h)

theorem wpFix_done {listed : Array Bool} {a : Act} (hr : Region.ready md ops listed = []) (h : ∀ w, S w → Q .normal a w) : ∀ n, wpFix P md ops Q S V n listed a
  | 0 => ⟨hr, h⟩
  | _ + 1 => ⟨fun _ => h, by rw [hr]; simp⟩

theorem YieldsS.pure {o : Oper} {v : Value} {a : Act} (hw : Region.wanted o (yielded ops a.tmps) = true) (h : ∀ w, S w → (execOp a.eval o).run P w = .ok (.value v) w) : YieldsS P ops S o (fun u => u = v) a :=
  .inl ⟨hw, fun w hS => .inl ⟨v, h w hS, rfl⟩⟩
theorem YieldsS.call {o : Oper} {v : Value} {a : Act} (f : FuncId) (args : Array Value) (hw : Region.wanted o (yielded ops a.tmps) = true) (he : ∀ w, S w → (execOp a.eval o).run P w = .ok (.enter f args) w)
    (h : ∀ w, S w → Calls P f args w fun e w' => e = .returned v ∧ S w') : YieldsS P ops S o (fun u => u = v) a :=
  .inl ⟨hw, fun w hS => .inr ⟨f, args, he w hS, (h w hS).mono fun _ _ ⟨h1, h2⟩ => ⟨⟨v, h1, rfl⟩, h2⟩⟩⟩
theorem YieldsS.callV {o : Oper} {V : Value → Prop} {a : Act} (f : FuncId) (args : Array Value) (hw : Region.wanted o (yielded ops a.tmps) = true) (he : ∀ w, S w → (execOp a.eval o).run P w = .ok (.enter f args) w)
    (h : ∀ w, S w → Calls P f args w fun e w' => (∃ v, e = .returned v ∧ V v) ∧ S w') : YieldsS P ops S o V a :=
  .inl ⟨hw, fun w hS => .inr ⟨f, args, he w hS, h w hS⟩⟩
theorem YieldsS.not {o : Oper} {a : Act} (hw : Region.wanted o (yielded ops a.tmps) = false) : YieldsS P ops S o (fun u => u = undef) a := .inr ⟨hw, rfl⟩

/-- The beginning. -/
theorem wp_region_fix {id : Nat} {a : Act} {w : World} (hm : P.follows .mixedOrders = true) (hS : S w.drew)
    (V : Nat → Value → Prop) (h : wpFix P .any ops Q S V ops.size (Array.replicate ops.size false) a) : (Code.region id ops true).wp P Q a w :=
  wp_region_held_drew hm hS fun hS => h.held _ hS
end
end Go.Proofs.YtbfgcanceneokaaDoor

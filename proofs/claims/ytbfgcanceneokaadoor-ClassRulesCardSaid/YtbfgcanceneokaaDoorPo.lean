/- The listed table of math/bits gives its cells; an argument of type api.Class is a class; a world in which the table is laid. -/
import Derived.Test.YtbfgcanceneokaaDoorFa
import Derived.Test.YtbfgcanceneokaaDoorMc
import Derived.Test.YtbfgcanceneokaaDoorCards
import Derived.Test.YtbfgcanceneokaaDoorTie
import Derived.ProofKit
import Derived.LaidLaws
import Derived.OpenShut
namespace Go.Proofs.YtbfgcanceneokaaDoor
open Go.ChangeShapes Go.WideShapes Go.RowKit

theorem Tryd.ownKnobNone : ownKnob Tryd.prog.godebug = none := by kernel_rfl
theorem Tryd.laidOutAll : laidOutB Tryd.prog = true := by kernel_rfl
theorem Tryd.tabAt : Tryd.prog.globalNamed "math/bits.deBruijn64tab" = some 0 := by kernel_rfl
theorem Tryd.tabType : (Tryd.prog.globals[0]?).map (·.type) = some 50 := by kernel_rfl
theorem Tryd.tabCells : Tryd.prog.cellsOf 50 = 64 := by kernel_rfl
theorem Tryd.byteCells : Tryd.prog.cellsOf 5 = 1 := by kernel_rfl
theorem Tryd.classCells : Tryd.prog.cellsOf 24 = 4 := by kernel_rfl
theorem Tryd.wordCells : Tryd.prog.cellsOf 22 = 1 := by kernel_rfl

section
variable {H : Type} {enc : TypeId × Value → H} {P : Program} {w : World} {base : Nat} {spare : Nat → Bool} {held : Bool}

/-- One cell read as an int is that int. -/
theorem int_cell {fuel : Nat} {t : TypeId} {k : IntKind} {c : Value} {x : DataW H × List MemPlace} (ht : P.underlying t = some (.int k)) (h : DataW.trod enc P w base spare held fuel t [c] = some x) :
    ∃ n, c = .int k n ∧ x = (.lit (.int k n), []) ∧ (Lit.int k n).wf = true := by
  obtain ⟨n, h, hx, hw⟩ := DataW.trod_int ht h
  simp at h
  exact ⟨n, h, hx, hw⟩

/-- An array of ints, read: its cells are those ints. -/
theorem int_cells {fuel : Nat} {t e : TypeId} {n : Nat} {k : IntKind} {cs : List Value} {x : DataW H × List MemPlace} (ht : P.underlying t = some (.array n e)) (he : P.underlying e = some (.int k)) (hc : P.cellsOf t = n) (hce : P.cellsOf e = 1)
    (h : DataW.trod enc P w base spare held fuel t cs = some x) :
    ∃ ns : List Int, cs = ns.map (Value.int k) ∧ x = (.agg (ns.map fun n => .lit (.int k n)), []) ∧ ns.length = n ∧ ∀ n ∈ ns, (Lit.int k n).wf = true := by
  obtain ⟨xs, m, rfl, rfl, hl, hxl, hi⟩ := DataW.trod_array ht h
  rw [hc] at hl
  have key : ∀ (cs : List Value) (xs : List (DataW H × List MemPlace)), cs.length = xs.length → (∀ i, i < xs.length → DataW.trod enc P w base spare held m e ((cs.drop i).take 1) = xs[i]?) →
      ∃ ns : List Int, cs = ns.map (Value.int k) ∧ xs.map (·.1) = ns.map (fun n => DataW.lit (.int k n)) ∧ xs.flatMap (·.2) = [] ∧ ∀ n ∈ ns, (Lit.int k n).wf = true := by
    intro cs
    induction cs with
    | nil =>
      intro xs hl _
      obtain rfl : xs = [] := List.eq_nil_of_length_eq_zero hl.symm
      exact ⟨[], rfl, rfl, rfl, by simp⟩
    | cons c cs ih =>
      intro xs hl hi
      match xs, hl with
      | x :: xs, hl =>
        have h0 := hi 0 (by simp)
        simp only [List.drop_zero, List.take_succ_cons, List.take_zero, List.getElem?_cons_zero] at h0
        obtain ⟨n, rfl, rfl, hw⟩ := int_cell he h0
        obtain ⟨ns, rfl, e1, e2, e3⟩ := ih xs (by simpa using hl) fun i hlt => by
          have := hi (i + 1) (by simp; omega)
          simpa using this
        refine ⟨n :: ns, rfl, by simp [e1], by simpa using e2, ?_⟩
        intro a ha
        rcases List.mem_cons.1 ha with rfl | ha
        · exact hw
        · exact e3 a ha
  obtain ⟨ns, e0, e1, e2, e3⟩ := key cs xs (by rw [hl, hxl]) fun i hlt => by
    have := hi i (by rw [← hxl]; exact hlt)
    rwa [hce, Nat.mul_one] at this
  refine ⟨ns, e0, by rw [e1, e2], ?_, e3⟩
  have := congrArg List.length e0
  simp at this
  omega
end

/-- What the row's condition gives a walk: the cells of the table. -/
theorem tab_of_laid {W : World} (h : laidMet Tryd.prog [("math/bits.deBruijn64tab", Rows.laid_math_bits_deBruijn64tab)] W) : Tab64 W := by
  obtain ⟨ps, ⟨g, t, cs, fuel, p, q, hg, ht, hvar, hd, _, _⟩, _⟩ := h
  obtain rfl := Option.some.inj (Tryd.tabAt.symm.trans hg)
  obtain rfl := Option.some.inj (Tryd.tabType.symm.trans ht)
  obtain ⟨ns, e, hx, hl, _⟩ := int_cells (k := .u8) Tryd.underlying50 Tryd.underlying5 Tryd.tabCells Tryd.byteCells hd
  have hn : ns = Lib.deBruijn64tab.map (fun (n : Nat) => (n : Int)) := by
    simp only [Prod.mk.injEq, Rows.laid_math_bits_deBruijn64tab, DataW.agg.injEq] at hx
    have h1 := congrArg (List.map fun (d : DataW Unit) => match d with | .lit (.int _ n) => n | _ => 0) hx.1
    rw [List.map_map] at h1
    have h2 : ((fun (d : DataW Unit) => match d with | .lit (.int _ n) => n | _ => 0) ∘ fun n => DataW.lit (.int .u8 n)) = id := by funext n; rfl
    rw [h2, List.map_id] at h1
    rw [← h1]
    rfl
  intro j hj
  have hc := World.var?_cell Tryd.tabAt hvar j
  rw [hc]
  have : cs[j]? = cs.toList[j]? := by simp
  rw [this, e, hn]
  simp [List.getElem?_map, List.getElem?_eq_getElem hj, List.getD_eq_getElem?_getD]

/-- An argument of type Class is the class of a set of bytes. -/
theorem open_class {H : Type} {enc : TypeId × Value → H} {w : World} {base b0 : Nat} {spare : Nat → Bool} {held : Bool} {v : Value} {d : DataW H} {ps : List MemPlace} {r : Reach}
    (hval : Value.okWide Tryd.prog w r b0 24 v) (hd : DataW.Trod enc Tryd.prog w base spare held 24 v d ps) : ∃ p : Nat → Bool, v = cval p ∧ ps = [] ∧ ∀ (w' : World) (b' : Nat) (sp' : Nat → Bool) (hd' : Bool), DataW.Trod enc Tryd.prog w' b' sp' hd' 24 v d [] := by
  obtain ⟨fuel, hf⟩ := hd
  obtain ⟨cs, rfl⟩ : ∃ cs, v = .agg cs := by
    unfold Value.okWide at hval
    rw [Tryd.underlying24] at hval
    obtain ⟨cs, h, _⟩ := hval
    exact ⟨cs, h⟩
  obtain ⟨ns, e, hx, hl, hw⟩ := int_cells (k := .u64) Tryd.underlying24 Tryd.underlying22 Tryd.classCells Tryd.wordCells hf
  match ns, hl with
  | [a, b, c, d], _ =>
    have again : ∀ (w' : World) (b' : Nat) (sp' : Nat → Bool) (hd' : Bool), DataW.trod enc Tryd.prog w' b' sp' hd' 2 24 [.int .u64 a, .int .u64 b, .int .u64 c, .int .u64 d] = some (.agg [.lit (.int .u64 a), .lit (.int .u64 b), .lit (.int .u64 c), .lit (.int .u64 d)], []) := by
      intro w' b' sp' hd'
      have er : List.range 4 = [0, 1, 2, 3] := rfl
      have w1 := hw a (by simp)
      have w2 := hw b (by simp)
      have w3 := hw c (by simp)
      have w4 := hw d (by simp)
      simp [DataW.trod, Tryd.underlying24, Tryd.underlying22, Tryd.classCells, Tryd.wordCells, er, w1, w2, w3, w4]
    have nat : ∀ n ∈ [a, b, c, d], ∃ m : Nat, n = (m : Int) ∧ m < 18446744073709551616 := by
      intro n hn
      have := hw n hn
      simp [Lit.wf, IntKind.min, IntKind.max, IntKind.signed, IntKind.bits] at this
      exact ⟨n.toNat, by omega, by omega⟩
    obtain ⟨a, rfl, ha⟩ := nat a (by simp)
    obtain ⟨b, rfl, hb⟩ := nat b (by simp)
    obtain ⟨c, rfl, hc⟩ := nat c (by simp)
    obtain ⟨d, rfl, hd⟩ := nat d (by simp)
    simp only [Prod.mk.injEq] at hx
    obtain ⟨rfl, rfl⟩ := hx
    refine ⟨asSet a b c d, ?_, rfl, fun w' b' sp' hd' => ⟨2, by rw [e]; exact again w' b' sp' hd'⟩⟩
    obtain ⟨e0, e1, e2, e3⟩ := pw_asSet a b c d ha hb hc hd
    show Value.agg cs = .agg #[_, _, _, _]
    rw [e0, e1, e2, e3]
    obtain ⟨l⟩ := cs
    simp only [Value.cells] at e
    rw [e]
    rfl

/-- A world in which the table is laid. -/
noncomputable def laidWorld (os : Os) : World :=
  { World.holding Tryd.prog os ⟨#[], #[], []⟩ with heap := (World.holding Tryd.prog os ⟨#[], #[], []⟩).heap.modify 0 fun
      | .cells _ t frozen => .cells (Lib.deBruijn64tab.map fun (n : Nat) => Value.int .u8 n).toArray t frozen
      | o => o }
theorem laidWorld_met (os : Os) (args : Array Value) : laidMet Tryd.prog [("math/bits.deBruijn64tab", Rows.laid_math_bits_deBruijn64tab)] ((laidWorld os).forCall (fun _ _ => 0) ⟨#[], args, []⟩).memory :=
  laidMet_of_run' 8 (by kernel_rfl) (by kernel_rfl)

section
variable {H : Type} {enc : TypeId × Value → H} {P : Program}
/-- The row's last step where only what lay below the call's first block is known to be as it was. -/
theorem post_of_below {f : Func} {s : ChangeSpec} {apart fresh handsOn again : Bool} {W W' : World} {args : Array Value} {v : Value} {ds gs : List (DataW H)} {before pa pv : List MemPlace}
    (hW : DataW.Whole enc P f.params.toList s.vars apart W args.toList ds gs before)
    (hres : ∀ (b : Nat) (sp : Nat → Bool) (hd : Bool), DataW.TrodAll enc P W' b sp hd f.resultTypes.toList (v.resultList f.resultTypes.size) (s.fn H (ds ++ gs)).results [])
    (hargs : ∀ sp : Nat → Bool, (∀ p ∈ before, sp p.block = true) → DataW.TrodAll enc P W' 0 sp true f.params.toList args.toList (s.fn H (ds ++ gs)).args pa)
    (hvars : ∀ sp : Nat → Bool, (∀ p ∈ before, sp p.block = true) → DataW.TrodVars enc P W' sp s.vars (s.fn H (ds ++ gs)).vars pv)
    (hps : before = pa ++ pv) (hb : Below W.heap.size W W')
    (hok : ∀ (j : Nat) (t : TypeId) (r : Value), f.resultTypes[j]? = some t → (v.resultList f.resultTypes.size)[j]? = some r → Value.okWide P W' .any 0 t r) :
    s.post enc P f apart fresh handsOn again W args v W' := by
  have hlt : ∀ p ∈ before, p.block < W.heap.size := fun p hp => hW.lt p hp
  have hold : ∀ p ∈ before, (fun b => decide (b < W.heap.size)) p.block = true := fun p hp => by simpa using hlt p hp
  refine ⟨ds, gs, before, [], pa, pv, hW, hres _ _ _, hargs _ hold, hvars _ hold, World.keptBut_mono (fun p hp => ⟨hp, ?_⟩) (hb.frame (· ∈ before)), fun _ => ?_⟩
  · rw [hps, List.mem_append] at hp
    exact Or.inr hp
  · obtain ⟨_, _, _, _, _, hz, hn⟩ := hW
    refine ⟨hok, _, _, ([] ++ pa) ++ pv, ⟨[] ++ pa, pv, trodAll_append (hargs _ (fun _ _ => rfl)) (hres _ _ _), hvars _ (fun _ _ => rfl), rfl, ?_, ?_⟩, ?_⟩
    · intro b off hp
      have hin : MemPlace.cell b off ∈ before := by rw [hps]; simpa using hp
      rw [hb.frozen (hlt _ hin)]
      exact hz b off hin
    · intro ha
      have := hn ha
      rw [hps] at this
      simpa using this
    · intro p hp _
      rw [hps]
      simpa using hp
end
end Go.Proofs.YtbfgcanceneokaaDoor

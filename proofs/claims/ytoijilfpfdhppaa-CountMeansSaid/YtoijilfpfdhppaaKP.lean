/- CountMeans's arguments opened: a Sort by value, bytes, flags; the row's last step. -/
import Derived.Test.YtoijilfpfdhppaaKG2
import Derived.Test.YtoijilfpfdhppaaRows
import Derived.ProofKit
import Derived.OpenShut
import Derived.Carry
import Derived.ChangeSlices
namespace Go.Proofs.Ytoijilfpfdhppaa
open Go.ChangeShapes Go.WideShapes Go.RowKit

theorem Try.ownKnobNone : ownKnob Try.prog.godebug = none := by kernel_rfl
theorem Try.laidOutAll : laidOutB Try.prog = true := by kernel_rfl
theorem Try.byteCells : Try.prog.cellsOf 5 = 1 := by kernel_rfl
theorem Try.boolCells : Try.prog.cellsOf 4 = 1 := by kernel_rfl
theorem Try.intCells : Try.prog.cellsOf 3 = 1 := by kernel_rfl
theorem Try.wordCells : Try.prog.cellsOf 22 = 1 := by kernel_rfl
theorem Try.classCells : Try.prog.cellsOf 24 = 4 := by kernel_rfl
theorem Try.sortSize : Try.prog.cellsOf 26 = 7 := by kernel_rfl

section
variable {H : Type} {enc : TypeId × Value → H} {P : Program} {w : World} {base : Nat} {spare : Nat → Bool} {held : Bool}

/-- One cell read as an int is that int. -/
theorem int_cell {fuel : Nat} {t : TypeId} {k : IntKind} {c : Value} {x : DataW H × List MemPlace} (ht : P.underlying t = some (.int k)) (h : DataW.trod enc P w base spare held fuel t [c] = some x) :
    ∃ n, c = .int k n ∧ x = (.lit (.int k n), []) ∧ (Lit.int k n).wf = true := by
  obtain ⟨n, h, hx, hw⟩ := DataW.trod_int ht h
  simp at h
  exact ⟨n, h, hx, hw⟩

/-- An array of ints, read: its cells are those ints. -/
theorem int_cells {fuel : Nat} {t e : TypeId} {n : Nat} {k : IntKind} {cs : List Value} {x : DataW H × List MemPlace} (ht : P.underlying t = some (.array n e)) (he : P.underlying e = some (.int k)) (hc : P.cellsOf t = n) (hce : P.cellsOf e = 1)
    (h : DataW.trod enc P w base spare held fuel t cs = some x) :
    ∃ ns : List Int, cs = ns.map (Value.int k) ∧ x = (.agg (ns.map fun n => .lit (.int k n)), []) ∧ ns.length = n ∧ ∀ n ∈ ns, (Lit.int k n).wf = true := by
  obtain ⟨xs, m, rfl, rfl, hl, hxl, hi⟩ := DataW.trod_array ht h
  rw [hc] at hl
  have key : ∀ (cs : List Value) (xs : List (DataW H × List MemPlace)), cs.length = xs.length → (∀ i, i < xs.length → DataW.trod enc P w base spare held m e ((cs.drop i).take 1) = xs[i]?) →
      ∃ ns : List Int, cs = ns.map (Value.int k) ∧ xs.map (·.1) = ns.map (fun n => DataW.lit (.int k n)) ∧ xs.flatMap (·.2) = [] ∧ ∀ n ∈ ns, (Lit.int k n).wf = true := by
    intro cs
    induction cs with
    | nil =>
      intro xs hl _
      obtain rfl : xs = [] := List.eq_nil_of_length_eq_zero hl.symm
      exact ⟨[], rfl, rfl, rfl, by simp⟩
    | cons c cs ih =>
      intro xs hl hi
      match xs, hl with
      | x :: xs, hl =>
        have h0 := hi 0 (by simp)
        simp only [List.drop_zero, List.take_succ_cons, List.take_zero, List.getElem?_cons_zero] at h0
        obtain ⟨n, rfl, rfl, hw⟩ := int_cell he h0
        obtain ⟨ns, rfl, e1, e2, e3⟩ := ih xs (by simpa using hl) fun i hlt => by
          have := hi (i + 1) (by simp; omega)
          simpa using this
        refine ⟨n :: ns, rfl, by simp [e1], by simpa using e2, ?_⟩
        intro a ha
        rcases List.mem_cons.1 ha with rfl | ha
        · exact hw
        · exact e3 a ha
  obtain ⟨ns, e0, e1, e2, e3⟩ := key cs xs (by rw [hl, hxl]) fun i hlt => by
    have := hi i (by rw [← hxl]; exact hlt)
    rwa [hce, Nat.mul_one] at this
  refine ⟨ns, e0, by rw [e1, e2], ?_, e3⟩
  have := congrArg List.length e0
  simp at this
  omega
end

section
variable {H : Type} {enc : TypeId × Value → H} {P : Program}
/-- The row's last step where only what lay below the call's first block is known to be as it was. -/
theorem post_of_below {f : Func} {s : ChangeSpec} {apart fresh handsOn again : Bool} {W W' : World} {args : Array Value} {v : Value} {ds gs : List (DataW H)} {before pa pv : List MemPlace}
    (hW : DataW.Whole enc P f.params.toList s.vars apart W args.toList ds gs before)
    (hres : ∀ (b : Nat) (sp : Nat → Bool) (hd : Bool), DataW.TrodAll enc P W' b sp hd f.resultTypes.toList (v.resultList f.resultTypes.size) (s.fn H (ds ++ gs)).results [])
    (hargs : ∀ sp : Nat → Bool, (∀ p ∈ before, sp p.block = true) → DataW.TrodAll enc P W' 0 sp true f.params.toList args.toList (s.fn H (ds ++ gs)).args pa)
    (hvars : ∀ sp : Nat → Bool, (∀ p ∈ before, sp p.block = true) → DataW.TrodVars enc P W' sp s.vars (s.fn H (ds ++ gs)).vars pv)
    (hps : before = pa ++ pv) (hb : Below W.heap.size W W')
    (hok : ∀ (j : Nat) (t : TypeId) (r : Value), f.resultTypes[j]? = some t → (v.resultList f.resultTypes.size)[j]? = some r → Value.okWide P W' .any 0 t r) :
    s.post enc P f apart fresh handsOn again W args v W' := by
  have hlt : ∀ p ∈ before, p.block < W.heap.size := fun p hp => hW.lt p hp
  have hold : ∀ p ∈ before, (fun b => decide (b < W.heap.size)) p.block = true := fun p hp => by simpa using hlt p hp
  refine ⟨ds, gs, before, [], pa, pv, hW, hres _ _ _, hargs _ hold, hvars _ hold, World.keptBut_mono (fun p hp => ⟨hp, ?_⟩) (hb.frame (· ∈ before)), fun _ => ?_⟩
  · rw [hps, List.mem_append] at hp
    exact Or.inr hp
  · obtain ⟨_, _, _, _, _, hz, hn⟩ := hW
    refine ⟨hok, _, _, ([] ++ pa) ++ pv, ⟨[] ++ pa, pv, trodAll_append (hargs _ (fun _ _ => rfl)) (hres _ _ _), hvars _ (fun _ _ => rfl), rfl, ?_, ?_⟩, ?_⟩
    · intro b off hp
      have hin : MemPlace.cell b off ∈ before := by rw [hps]; simpa using hp
      rw [hb.frozen (hlt _ hin)]
      exact hz b off hin
    · intro ha
      have := hn ha
      rw [hps] at this
      simpa using this
    · intro p hp _
      rw [hps]
      simpa using hp
end

section
variable {H : Type} {enc : TypeId × Value → H} {P : Program}
/-- arguments read behind the call as they did, where nothing below the call's first block has turned -/
theorem trodAll_below (hl : laidOutB P = true) {W W' : World} (hb : Below W.heap.size W W') {sp : Nat → Bool} : ∀ {ts : List TypeId} {vs : List Value} {ds : List (DataW H)} {ps : List MemPlace}, (∀ t ∈ ts, P.readableRec t = true ∧ t < P.types.size) →
    DataW.TrodAll enc P W 0 (fun _ => true) true ts vs ds ps → (∀ x ∈ ps, x.block < W.heap.size) → (∀ x ∈ ps, sp x.block = true) → DataW.TrodAll enc P W' 0 sp true ts vs ds ps
  | [], [], [], _, _, h, _, _ => h
  | _ :: _, _ :: _, _ :: _, _, hT, ⟨p, q, h1, h2, e⟩, hlt, hs =>
    ⟨p, q, WideElems.Trod_stays hl (hT _ (List.mem_cons.2 (Or.inl rfl))).1 (hT _ (List.mem_cons.2 (Or.inl rfl))).2 h1 (fun x hx => hb.same (hlt x (by rw [e]; exact List.mem_append_left _ hx))) (fun x hx => hs x (by rw [e]; exact List.mem_append_left _ hx)),
      trodAll_below hl hb (fun t ht => hT t (List.mem_cons.2 (Or.inr ht))) h2 (fun x hx => hlt x (by rw [e]; exact List.mem_append_right _ hx)) (fun x hx => hs x (by rw [e]; exact List.mem_append_right _ hx)), e⟩

end

theorem add_at (b off x : Nat) : ((⟨b, off, none⟩ : Addr).add x) = ⟨b, off + x, none⟩ := by simp [Addr.add]
theorem open_bytes {H : Type} {enc : TypeId × Value → H} {w : World} {base b0 : Nat} {v : Value} {d : DataW H} {ps : List MemPlace} {r : Reach}
    (hval : Value.okWide Try.prog w r b0 27 v) (hd : DataW.Trod enc Try.prog w base (fun _ => true) true 27 v d ps) :
    ∃ A n c, ∃ f : Nat → Nat, v = .slice A n c ∧ (∀ x, f x < 256) ∧ ∀ x, x < n → ∃ b off, A = some ⟨b, off, none⟩ ∧ b < w.heap.size ∧ w.cell? ⟨b, off + x, none⟩ = some (.int .u8 ((f x : Nat) : Int)) := by
  obtain ⟨a0, len, cap, rfl⟩ := okWide_slice Try.underlying27 hval
  obtain ⟨fuel, hf⟩ := hd
  rcases open_ints Try.underlying27 Try.underlying5 Try.byteCells hf with ⟨hcs, hx⟩ | ⟨a, len', cap', zs, hcs, _, hl, hm, hz, hx, hcell, hw⟩
  · simp [Value.cells] at hcs
    obtain ⟨rfl, rfl, rfl⟩ := hcs
    exact ⟨none, 0, 0, fun _ => 0, rfl, fun _ => (by decide : 0 < 256), fun x h => by omega⟩
  · simp [Value.cells] at hcs
    obtain ⟨rfl, rfl, rfl⟩ := hcs
    simp only [if_true] at hz
    have hr : ∀ x, 0 ≤ zs.getD x 0 ∧ zs.getD x 0 ≤ 255 := by
      intro x
      by_cases hx' : x < zs.length
      · rw [List.getD_eq_getElem?_getD, List.getElem?_eq_getElem hx', Option.getD_some]
        have := hw _ (List.getElem_mem hx')
        simp [Lit.wf, IntKind.min, IntKind.max, IntKind.signed, IntKind.bits] at this
        omega
      · rw [List.getD_eq_getElem?_getD, List.getElem?_eq_none (by omega), Option.getD_none]
        omega
    refine ⟨some a, len, cap, fun x => (zs.getD x 0).toNat, rfl, fun x => by have := hr x; show (zs.getD x 0).toNat < 256; omega, fun x hx' => ?_⟩
    have hc := hcell x (by omega)
    obtain ⟨b, off, spot⟩ := a
    have hspot : spot = none := by simpa [Addr.add] using World.cell?_spot (hcell 0 (by omega))
    subst hspot
    rw [add_at] at hc
    refine ⟨b, off, rfl, World.block_lt_of_cell? w _ hc, ?_⟩
    rw [hc]
    have := hr x
    show some (Value.int .u8 (zs.getD x 0)) = some (Value.int .u8 (((zs.getD x 0).toNat : Nat) : Int))
    rw [Int.toNat_of_nonneg this.1]
open Classical in
theorem open_flags {H : Type} {enc : TypeId × Value → H} {w : World} {base b0 : Nat} {v : Value} {d : DataW H} {ps : List MemPlace} {r : Reach}
    (hval : Value.okWide Try.prog w r b0 28 v) (hd : DataW.Trod enc Try.prog w base (fun _ => true) true 28 v d ps) :
    ∃ A n c, ∃ f : Nat → Bool, v = .slice A n c ∧ (∀ x, n ≤ x → f x = false) ∧ ∀ x, x < n → ∃ b off, A = some ⟨b, off, none⟩ ∧ b < w.heap.size ∧ w.cell? ⟨b, off + x, none⟩ = some (.bool (f x)) := by
  obtain ⟨a0, len, cap, rfl⟩ := okWide_slice Try.underlying28 hval
  obtain ⟨fuel, hf⟩ := hd
  rcases DataW.trod_slice Try.underlying28 hf with ⟨hcs, hx⟩ | ⟨a, len', cap', elems, rest, n, _, hcs, _, _, _, _, hlen, hel, _, _⟩
  · simp [Value.cells] at hcs
    obtain ⟨rfl, rfl, rfl⟩ := hcs
    exact ⟨none, 0, 0, fun _ => false, rfl, fun _ _ => rfl, fun x h => by omega⟩
  · simp [Value.cells] at hcs
    obtain ⟨rfl, rfl, rfl⟩ := hcs
    have each : ∀ x, x < len → ∃ u, w.cell? (a.add x) = some (.bool u) := by
      intro x hx
      have hy := hel x hx
      have hxe : x < elems.length := by omega
      rw [List.getElem?_eq_getElem hxe, Try.boolCells, Nat.mul_one, Option.bind_eq_some_iff] at hy
      obtain ⟨cs', hcs, hy'⟩ := hy
      obtain ⟨u, rfl, _⟩ := DataW.trod_bool Try.underlying4 hy'
      exact ⟨u, cell_of_cells?_one hcs⟩
    refine ⟨some a, len, cap, fun x => decide (x < len ∧ w.cell? (a.add x) = some (.bool true)), rfl, fun x hx => ?_, fun x hx => ?_⟩
    · simp only [decide_eq_false_iff_not]
      omega
    · obtain ⟨u, hu⟩ := each x hx
      obtain ⟨b, off, spot⟩ := a
      obtain ⟨u0, hu0⟩ := each 0 (by omega)
      have hspot : spot = none := by simpa [Addr.add] using World.cell?_spot hu0
      subst hspot
      rw [add_at] at hu
      refine ⟨b, off, rfl, World.block_lt_of_cell? w _ hu, ?_⟩
      rw [hu]
      show some (Value.bool u) = some (Value.bool (decide (x < len ∧ w.cell? (Addr.add ⟨b, off, none⟩ x) = some (.bool true))))
      rw [add_at, hu]
      cases u <;> simp [hx]
theorem open_sort {H : Type} {enc : TypeId × Value → H} {w : World} {base b0 : Nat} {spare : Nat → Bool} {held : Bool} {v : Value} {d : DataW H} {ps : List MemPlace} {r : Reach}
    (hval : Value.okWide Try.prog w r b0 26 v) (hd : DataW.Trod enc Try.prog w base spare held 26 v d ps) : ∃ (p : Nat → Bool) (least most kind : Int), v = .agg (sortCells p least most kind) := by
  obtain ⟨fuel, hf⟩ := hd
  obtain ⟨cs, rfl⟩ : ∃ cs, v = .agg cs := by
    unfold Value.okWide at hval
    rw [Try.underlying26] at hval
    obtain ⟨cs, h, _⟩ := hval
    exact ⟨cs, h⟩
  obtain ⟨xs, n, rfl, hx, hl, hxl, hi⟩ := DataW.trod_struct Try.underlying26 hf
  rw [Try.sortSize] at hl
  obtain ⟨l⟩ := cs
  have hcl : (Value.agg ⟨l⟩).cells.toList = l := by simp [Value.cells]
  rw [hcl] at hl hi
  match l, hl with
  | [a0, a1, a2, a3, a4, a5, a6], _ =>
    match xs, hxl with
    | [x0, x1, x2, x3], _ =>
      have i0 := hi 0 _ rfl
      have i1 := hi 1 _ rfl
      have i2 := hi 2 _ rfl
      have i3 := hi 3 _ rfl
      simp only [List.getElem?_cons_zero, List.getElem?_cons_succ] at i0 i1 i2 i3
      obtain ⟨ns, e, _, hl, hw⟩ := int_cells (k := .u64) Try.underlying24 Try.underlying22 Try.classCells Try.wordCells i0
      obtain ⟨l1, rfl, _, _⟩ := int_cell Try.underlying3 i1
      obtain ⟨l2, rfl, _, _⟩ := int_cell Try.underlying3 i2
      obtain ⟨l3, rfl, _, _⟩ := int_cell Try.underlying3 i3
      match ns, hl with
      | [a, b, c, d], _ =>
        have nat : ∀ n ∈ [a, b, c, d], ∃ m : Nat, n = (m : Int) ∧ m < 18446744073709551616 := by
          intro n hn
          have := hw n hn
          simp [Lit.wf, IntKind.min, IntKind.max, IntKind.signed, IntKind.bits] at this
          exact ⟨n.toNat, by omega, by omega⟩
        obtain ⟨a, rfl, ha⟩ := nat a (by simp)
        obtain ⟨b, rfl, hb⟩ := nat b (by simp)
        obtain ⟨c, rfl, hc⟩ := nat c (by simp)
        obtain ⟨d, rfl, hd⟩ := nat d (by simp)
        simp only [List.map_cons, List.map_nil] at e
        obtain ⟨rfl, rfl, rfl, rfl⟩ := e
        obtain ⟨e0, e1, e2, e3⟩ := pw_asSet a b c d ha hb hc hd
        refine ⟨asSet a b c d, l1, l2, l3, ?_⟩
        unfold sortCells
        rw [e0, e1, e2, e3]
end Go.Proofs.Ytoijilfpfdhppaa

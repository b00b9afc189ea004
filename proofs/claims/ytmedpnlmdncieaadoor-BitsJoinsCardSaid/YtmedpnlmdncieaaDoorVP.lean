/- The listed table of math/bits gives its cells; an argument that is a slice of words is a vector; a world in which the table is laid. -/
import Derived.Test.YtmedpnlmdncieaaDoorVL0
import Derived.Test.YtmedpnlmdncieaaDoorCards
import Derived.Test.YtmedpnlmdncieaaDoorTie
import Derived.ProofKit
import Derived.LaidLaws
import Derived.OpenShut
import Derived.Carry
import Derived.SizedLaws
import Derived.ChangeSlices
namespace Go.Proofs.YtmedpnlmdncieaaDoor
open Go.ChangeShapes Go.WideShapes Go.RowKit

theorem Tryd.ownKnobNone : ownKnob Tryd.prog.godebug = none := by kernel_rfl
theorem Tryd.laidOutAll : laidOutB Tryd.prog = true := by kernel_rfl
theorem Tryd.tabAt : Tryd.prog.globalNamed "math/bits.deBruijn64tab" = some 0 := by kernel_rfl
theorem Tryd.tabType : (Tryd.prog.globals[0]?).map (·.type) = some 55 := by kernel_rfl
theorem Tryd.tabCells : Tryd.prog.cellsOf 55 = 64 := by kernel_rfl
theorem Tryd.byteCells : Tryd.prog.cellsOf 5 = 1 := by kernel_rfl
theorem Tryd.intCells : Tryd.prog.cellsOf 3 = 1 := by kernel_rfl
theorem Tryd.wordBytes : Tryd.prog.bytesOf 45 = 8 := by kernel_rfl
theorem Tryd.wordCells : Tryd.prog.cellsOf 45 = 1 := by kernel_rfl

section
variable {H : Type} {enc : TypeId × Value → H} {P : Program} {w : World} {base : Nat} {spare : Nat → Bool} {held : Bool}

/-- One cell read as an int is that int. -/
theorem int_cell {fuel : Nat} {t : TypeId} {k : IntKind} {c : Value} {x : DataW H × List MemPlace} (ht : P.underlying t = some (.int k)) (h : DataW.trod enc P w base spare held fuel t [c] = some x) :
    ∃ n, c = .int k n ∧ x = (.lit (.int k n), []) ∧ (Lit.int k n).wf = true := by
  obtain ⟨n, h, hx, hw⟩ := DataW.trod_int ht h
  simp at h
  exact ⟨n, h, hx, hw⟩

/-- An array of ints, read: its cells are those ints. -/
theorem int_cells {fuel : Nat} {t e : TypeId} {n : Nat} {k : IntKind} {cs : List Value} {x : DataW H × List MemPlace} (ht : P.underlying t = some (.array n e)) (he : P.underlying e = some (.int k)) (hc : P.cellsOf t = n) (hce : P.cellsOf e = 1)
    (h : DataW.trod enc P w base spare held fuel t cs = some x) :
    ∃ ns : List Int, cs = ns.map (Value.int k) ∧ x = (.agg (ns.map fun n => .lit (.int k n)), []) ∧ ns.length = n ∧ ∀ n ∈ ns, (Lit.int k n).wf = true := by
  obtain ⟨xs, m, rfl, rfl, hl, hxl, hi⟩ := DataW.trod_array ht h
  rw [hc] at hl
  have key : ∀ (cs : List Value) (xs : List (DataW H × List MemPlace)), cs.length = xs.length → (∀ i, i < xs.length → DataW.trod enc P w base spare held m e ((cs.drop i).take 1) = xs[i]?) →
      ∃ ns : List Int, cs = ns.map (Value.int k) ∧ xs.map (·.1) = ns.map (fun n => DataW.lit (.int k n)) ∧ xs.flatMap (·.2) = [] ∧ ∀ n ∈ ns, (Lit.int k n).wf = true := by
    intro cs
    induction cs with
    | nil =>
      intro xs hl _
      obtain rfl : xs = [] := List.eq_nil_of_length_eq_zero hl.symm
      exact ⟨[], rfl, rfl, rfl, by simp⟩
    | cons c cs ih =>
      intro xs hl hi
      match xs, hl with
      | x :: xs, hl =>
        have h0 := hi 0 (by simp)
        simp only [List.drop_zero, List.take_succ_cons, List.take_zero, List.getElem?_cons_zero] at h0
        obtain ⟨n, rfl, rfl, hw⟩ := int_cell he h0
        obtain ⟨ns, rfl, e1, e2, e3⟩ := ih xs (by simpa using hl) fun i hlt => by
          have := hi (i + 1) (by simp; omega)
          simpa using this
        refine ⟨n :: ns, rfl, by simp [e1], by simpa using e2, ?_⟩
        intro a ha
        rcases List.mem_cons.1 ha with rfl | ha
        · exact hw
        · exact e3 a ha
  obtain ⟨ns, e0, e1, e2, e3⟩ := key cs xs (by rw [hl, hxl]) fun i hlt => by
    have := hi i (by rw [← hxl]; exact hlt)
    rwa [hce, Nat.mul_one] at this
  refine ⟨ns, e0, by rw [e1, e2], ?_, e3⟩
  have := congrArg List.length e0
  simp at this
  omega
end

/-- What the row's condition gives a walk: the cells of the table. -/
theorem tab_of_laid {W : World} (h : laidMet Tryd.prog [("math/bits.deBruijn64tab", Rows.laid_math_bits_deBruijn64tab)] W) : Tab64 W := by
  obtain ⟨ps, ⟨g, t, cs, fuel, p, q, hg, ht, hvar, hd, _, _⟩, _⟩ := h
  obtain rfl := Option.some.inj (Tryd.tabAt.symm.trans hg)
  obtain rfl := Option.some.inj (Tryd.tabType.symm.trans ht)
  obtain ⟨ns, e, hx, hl, _⟩ := int_cells (k := .u8) Tryd.underlying55 Tryd.underlying5 Tryd.tabCells Tryd.byteCells hd
  have hn : ns = Lib.deBruijn64tab.map (fun (n : Nat) => (n : Int)) := by
    simp only [Prod.mk.injEq, Rows.laid_math_bits_deBruijn64tab, DataW.agg.injEq] at hx
    have h1 := congrArg (List.map fun (d : DataW Unit) => match d with | .lit (.int _ n) => n | _ => 0) hx.1
    rw [List.map_map] at h1
    have h2 : ((fun (d : DataW Unit) => match d with | .lit (.int _ n) => n | _ => 0) ∘ fun n => DataW.lit (.int .u8 n)) = id := by funext n; rfl
    rw [h2, List.map_id] at h1
    rw [← h1]
    rfl
  intro j hj
  have hc := World.var?_cell Tryd.tabAt hvar j
  rw [hc]
  have : cs[j]? = cs.toList[j]? := by simp
  rw [this, e, hn]
  simp [List.getElem?_map, List.getElem?_eq_getElem hj, List.getD_eq_getElem?_getD]

/-- A world in which the table is laid. -/
noncomputable def laidWorld (os : Os) : World :=
  { World.holding Tryd.prog os ⟨#[], #[], []⟩ with heap := (World.holding Tryd.prog os ⟨#[], #[], []⟩).heap.modify 0 fun
      | .cells _ t frozen => .cells (Lib.deBruijn64tab.map fun (n : Nat) => Value.int .u8 n).toArray t frozen
      | o => o }
theorem laidWorld_met (os : Os) (args : Array Value) : laidMet Tryd.prog [("math/bits.deBruijn64tab", Rows.laid_math_bits_deBruijn64tab)] ((laidWorld os).forCall (fun _ _ => 0) ⟨#[], args, []⟩).memory :=
  laidMet_of_run' 8 (by kernel_rfl) (by kernel_rfl)

section
variable {H : Type} {enc : TypeId × Value → H} {P : Program}
/-- The row's last step where only what lay below the call's first block is known to be as it was. -/
theorem post_of_below {f : Func} {s : ChangeSpec} {apart fresh handsOn again : Bool} {W W' : World} {args : Array Value} {v : Value} {ds gs : List (DataW H)} {before pa pv : List MemPlace}
    (hW : DataW.Whole enc P f.params.toList s.vars apart W args.toList ds gs before)
    (hres : ∀ (b : Nat) (sp : Nat → Bool) (hd : Bool), DataW.TrodAll enc P W' b sp hd f.resultTypes.toList (v.resultList f.resultTypes.size) (s.fn H (ds ++ gs)).results [])
    (hargs : ∀ sp : Nat → Bool, (∀ p ∈ before, sp p.block = true) → DataW.TrodAll enc P W' 0 sp true f.params.toList args.toList (s.fn H (ds ++ gs)).args pa)
    (hvars : ∀ sp : Nat → Bool, (∀ p ∈ before, sp p.block = true) → DataW.TrodVars enc P W' sp s.vars (s.fn H (ds ++ gs)).vars pv)
    (hps : before = pa ++ pv) (hb : Below W.heap.size W W')
    (hok : ∀ (j : Nat) (t : TypeId) (r : Value), f.resultTypes[j]? = some t → (v.resultList f.resultTypes.size)[j]? = some r → Value.okWide P W' .any 0 t r) :
    s.post enc P f apart fresh handsOn again W args v W' := by
  have hlt : ∀ p ∈ before, p.block < W.heap.size := fun p hp => hW.lt p hp
  have hold : ∀ p ∈ before, (fun b => decide (b < W.heap.size)) p.block = true := fun p hp => by simpa using hlt p hp
  refine ⟨ds, gs, before, [], pa, pv, hW, hres _ _ _, hargs _ hold, hvars _ hold, World.keptBut_mono (fun p hp => ⟨hp, ?_⟩) (hb.frame (· ∈ before)), fun _ => ?_⟩
  · rw [hps, List.mem_append] at hp
    exact Or.inr hp
  · obtain ⟨_, _, _, _, _, hz, hn⟩ := hW
    refine ⟨hok, _, _, ([] ++ pa) ++ pv, ⟨[] ++ pa, pv, trodAll_append (hargs _ (fun _ _ => rfl)) (hres _ _ _), hvars _ (fun _ _ => rfl), rfl, ?_, ?_⟩, ?_⟩
    · intro b off hp
      have hin : MemPlace.cell b off ∈ before := by rw [hps]; simpa using hp
      rw [hb.frozen (hlt _ hin)]
      exact hz b off hin
    · intro ha
      have := hn ha
      rw [hps] at this
      simpa using this
    · intro p hp _
      rw [hps]
      simpa using hp
end

section
variable {H : Type} {enc : TypeId × Value → H} {P : Program}
/-- arguments read behind the call as they did, where nothing below the call's first block has turned -/
theorem trodAll_below (hl : laidOutB P = true) {W W' : World} (hb : Below W.heap.size W W') {sp : Nat → Bool} : ∀ {ts : List TypeId} {vs : List Value} {ds : List (DataW H)} {ps : List MemPlace}, (∀ t ∈ ts, P.readableRec t = true ∧ t < P.types.size) →
    DataW.TrodAll enc P W 0 (fun _ => true) true ts vs ds ps → (∀ x ∈ ps, x.block < W.heap.size) → (∀ x ∈ ps, sp x.block = true) → DataW.TrodAll enc P W' 0 sp true ts vs ds ps
  | [], [], [], _, _, h, _, _ => h
  | _ :: _, _ :: _, _ :: _, _, hT, ⟨p, q, h1, h2, e⟩, hlt, hs =>
    ⟨p, q, WideElems.Trod_stays hl (hT _ (List.mem_cons.2 (Or.inl rfl))).1 (hT _ (List.mem_cons.2 (Or.inl rfl))).2 h1 (fun x hx => hb.same (hlt x (by rw [e]; exact List.mem_append_left _ hx))) (fun x hx => hs x (by rw [e]; exact List.mem_append_left _ hx)),
      trodAll_below hl hb (fun t ht => hT t (List.mem_cons.2 (Or.inr ht))) h2 (fun x hx => hlt x (by rw [e]; exact List.mem_append_right _ hx)) (fun x hx => hs x (by rw [e]; exact List.mem_append_right _ hx)), e⟩

/-- a slice of whole numbers that came in: its cells, and how many it may have -/
theorem open_row {w : World} {base b0 : Nat} {v : Value} {d : DataW H} {ps : List MemPlace} {r : Reach} {t e : TypeId} {k : IntKind} (ht : P.underlying t = some (.slice e)) (he : P.underlying e = some (.int k)) (hc : P.cellsOf e = 1)
    (hval : Value.okWide P w r b0 t v) (hd : DataW.Trod enc P w base (fun _ => true) true t v d ps) (hlt : ∀ x ∈ ps, x.block < w.heap.size)
    {B : Nat} (hsz : ∀ elems spare, d = .slice elems spare → (elems.length + spare.length) * 8 ≤ B) :
    ∃ A n c, ∃ zs : List Int, v = .slice A n c ∧ n ≤ c ∧ c * 8 ≤ B ∧ zs.length = n ∧ Rd w w.heap.size A (zs.map (Value.int k)) ∧ ∀ z ∈ zs, (Lit.int k z).wf = true := by
  obtain ⟨a0, len, cap, rfl⟩ := okWide_slice ht hval
  obtain ⟨fuel, hf⟩ := hd
  rcases open_ints ht he hc hf with ⟨hcs, hx⟩ | ⟨a, len', cap', zs, hcs, _, hl, hm, hz, hx, hcell, hw⟩
  · simp [Value.cells] at hcs
    obtain ⟨rfl, rfl, rfl⟩ := hcs
    exact ⟨none, 0, 0, [], rfl, Nat.le_refl _, by omega, rfl, Rd.nil _ _ _, by simp⟩
  · simp [Value.cells] at hcs
    obtain ⟨rfl, rfl, rfl⟩ := hcs
    simp only [if_true] at hz
    simp only [Prod.mk.injEq] at hx
    obtain ⟨rfl, rfl⟩ := hx
    have hs := hsz _ _ rfl
    rw [show (lits (H := H) k (zs.take len)).length + (lits (H := H) k (zs.drop len)).length = zs.length from by simp [lits]; omega, hz] at hs
    refine ⟨some a, len, cap, zs.take len, rfl, hl, hs, by rw [List.length_take]; omega, ?_, fun z hz' => hw z (List.mem_of_mem_take hz')⟩
    intro hne
    have hp : 0 < zs.length := by
      cases zs with
      | nil => simp at hne
      | cons x zs => simp
    obtain ⟨b, off, rfl, hc2⟩ := ints_at hcell hp
    refine ⟨b, off, rfl, ?_, ?_⟩
    · exact hlt (.cell b off) (MemPlace.mem_row.2 ⟨0, hp, rfl⟩)
    · intro j u hj
      rw [List.getElem?_map, List.getElem?_take] at hj
      have hjl : j < zs.length := by
        refine Nat.lt_of_not_le fun h => ?_
        rw [List.getElem?_eq_none h] at hj
        simp at hj
      rw [hc2 j hjl]
      split at hj
      · rw [List.getElem?_eq_getElem hjl] at hj
        simp only [Option.map_some, Option.some.injEq] at hj
        rw [← hj]
        simp [List.getD, hjl]
      · cases hj
end

/-- the words of a vector that came in -/
theorem words_nat : ∀ zs : List Int, (∀ z ∈ zs, (Lit.int .u64 z).wf = true) → ∃ L : List Nat, zs.map (Value.int .u64) = u64s L ∧ L.length = zs.length ∧ ∀ x ∈ L, x < 18446744073709551616
  | [], _ => ⟨[], rfl, rfl, by simp⟩
  | z :: zs, h => by
    obtain ⟨L, e, hl, hx⟩ := words_nat zs fun y hy => h y (by simp [hy])
    have hz := bounds_u64 (h z (by simp))
    refine ⟨z.toNat :: L, ?_, by simp [hl], ?_⟩
    · rw [List.map_cons, e]
      show _ = Value.int .u64 ((z.toNat : Nat) : Int) :: u64s L
      rw [show ((z.toNat : Nat) : Int) = z from by omega]
    · intro x hx'
      rcases List.mem_cons.1 hx' with rfl | h'
      · omega
      · exact hx x h'
theorem open_vec {H : Type} {enc : TypeId × Value → H} {w : World} {base b0 : Nat} {v : Value} {d : DataW H} {ps : List MemPlace} {r : Reach}
    (hval : Value.okWide Tryd.prog w r b0 23 v) (hd : DataW.Trod enc Tryd.prog w base (fun _ => true) true 23 v d ps) (hlt : ∀ x ∈ ps, x.block < w.heap.size)
    (hsz : ∀ elems spare, d = .slice elems spare → (elems.length + spare.length) * Tryd.prog.bytesOf 45 ≤ reachBytes) :
    ∃ A n c, ∃ f : Nat → Bool, v = .slice A n c ∧ Vec w A n c f ∧ n ≤ 17592186043904 := by
  rw [Tryd.wordBytes] at hsz
  obtain ⟨A, n, c, zs, rfl, hnc, hcb, hl, hr, hw⟩ := open_row Tryd.underlying23 Tryd.underlying45 Tryd.wordCells hval hd hlt hsz
  obtain ⟨L, e, hL, hx⟩ := words_nat zs hw
  have hb : c * 8 ≤ 140737488351232 := hcb
  have hLn : L.length = n := by omega
  rw [e, bitAt_vw L hx, hLn] at hr
  exact ⟨A, n, c, bitAt L, rfl, ⟨hr, hnc, hLn ▸ bitAt_sup L, by unfold many; omega⟩, by omega⟩
theorem open_list {H : Type} {enc : TypeId × Value → H} {w : World} {base b0 : Nat} {v : Value} {d : DataW H} {ps : List MemPlace} {r : Reach}
    (hval : Value.okWide Tryd.prog w r b0 36 v) (hd : DataW.Trod enc Tryd.prog w base (fun _ => true) true 36 v d ps) (hlt : ∀ x ∈ ps, x.block < w.heap.size)
    (hsz : ∀ elems spare, d = .slice elems spare → (elems.length + spare.length) * Tryd.prog.bytesOf 3 ≤ reachBytes) :
    ∃ A c, ∃ L : List Int, v = .slice A L.length c ∧ Rd w w.heap.size A (i64s L) := by
  rw [show Tryd.prog.bytesOf 3 = 8 by kernel_rfl] at hsz
  obtain ⟨A, n, c, zs, rfl, _, _, rfl, hr, _⟩ := open_row Tryd.underlying36 Tryd.underlying3 Tryd.intCells hval hd hlt hsz
  exact ⟨A, c, zs, rfl, hr⟩
end Go.Proofs.YtmedpnlmdncieaaDoor

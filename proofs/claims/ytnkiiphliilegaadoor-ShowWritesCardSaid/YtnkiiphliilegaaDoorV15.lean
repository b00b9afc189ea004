/- The listed tables give their cells; an argument that is a term is a term in memory; a world in which the tables are laid; the row's last step. -/
import Derived.Test.YtnkiiphliilegaaDoorV14
import Derived.Test.YtnkiiphliilegaaDoorS3
import Derived.Test.YtnkiiphliilegaaDoorCards
import Derived.Test.YtnkiiphliilegaaDoorTie
import Derived.ProofKit
import Derived.LaidLaws
import Derived.OpenShut
import Derived.Carry
import Derived.SizedLaws
import Derived.ChangeSlices
import Derived.Lib.LaidU8
import Derived.Lib.LaidTab
namespace Go.Proofs.YtnkiiphliilegaaDoor
open Go.ChangeShapes Go.WideShapes Go.RowKit

theorem Tryd.ownKnobNone : ownKnob Tryd.prog.godebug = none := by kernel_rfl
theorem Tryd.laidOutAll : laidOutB Tryd.prog = true := by kernel_rfl
theorem tabAt64 : Tryd.prog.globalNamed "math/bits.deBruijn64tab" = some 0 := by kernel_rfl
theorem tabType64 : (Tryd.prog.globals[0]?).map (·.type) = some 84 := by kernel_rfl
theorem powType : (Tryd.prog.globals[1]?).map (·.type) = some 91 := by kernel_rfl
theorem tabCells64 : Tryd.prog.cellsOf 84 = 64 := by kernel_rfl
theorem powCells : Tryd.prog.cellsOf 91 = 20 := by kernel_rfl
theorem tabByteCells : Tryd.prog.cellsOf 5 = 1 := by kernel_rfl

/-- the three listed variables -/
def listed : List (String × DataW Unit) :=
  [("math/bits.deBruijn32tab", Rows.laid_math_bits_deBruijn32tab), ("math/bits.deBruijn64tab", Rows.laid_math_bits_deBruijn64tab), ("internal/strconv.uint64pow10", Rows.laid_internal_strconv_uint64pow10)]

/-- What the row's condition gives a walk: the cells of the two tables that are read. -/
theorem tabs_of_laid {W : World} (h : laidMet Tryd.prog listed W) : Tabs W := by
  refine ⟨?_, ?_⟩
  · obtain ⟨g, t, cs, fuel, p, hg, ht, hvar, hd⟩ := Lib.laidMet.reads h (n := "math/bits.deBruijn64tab") (d := Rows.laid_math_bits_deBruijn64tab) (by simp [listed])
    obtain rfl := Option.some.inj (tabAt64.symm.trans hg)
    obtain rfl := Option.some.inj (tabType64.symm.trans ht)
    have he : cs.toList = (Lib.deBruijn64tab.map fun (n : Nat) => (n : Int)).map fun z => Value.int .u8 z :=
      Lib.cells_of_tab (zs := Lib.deBruijn64tab.map fun (n : Nat) => (n : Int)) Tryd.underlying84 Tryd.underlying5 tabByteCells tabCells64 hd
    intro j hj
    have hc := World.var?_cell tabAt64 hvar j
    rw [hc]
    have : cs[j]? = cs.toList[j]? := by simp
    rw [this, he]
    simp [List.getElem?_map, List.getElem?_eq_getElem hj, List.getD_eq_getElem?_getD]
  · obtain ⟨g, t, cs, fuel, p, hg, ht, hvar, hd⟩ := Lib.laidMet.reads h (n := "internal/strconv.uint64pow10") (d := Rows.laid_internal_strconv_uint64pow10) (by simp [listed])
    obtain rfl := Option.some.inj (powAt.symm.trans hg)
    obtain rfl := Option.some.inj (powType.symm.trans ht)
    have he : cs.toList = Lib.pow10Tab.map fun z => Value.int .u64 z :=
      Lib.cells_of_tab (zs := Lib.pow10Tab) Tryd.underlying91 Tryd.underlying22 Tryd.wordCells powCells hd
    unfold Lib.TabIs
    rw [hvar, ← he]

/-- A block with these cells in their place. -/
def laidIn (L : Array Value) : Obj → Obj
  | .cells _ t frozen => .cells L t frozen
  | o => o
/-- A world in which the tables are laid. -/
noncomputable def laidWorld (os : Os) : World :=
  { World.holding Tryd.prog os ⟨#[], #[], []⟩ with heap := (((World.holding Tryd.prog os ⟨#[], #[], []⟩).heap.modify 0 (laidIn (Lib.deBruijn64tab.map fun (n : Nat) => Value.int .u8 n).toArray)).modify 1 (laidIn (Lib.pow10Tab.map fun z => Value.int .u64 z).toArray)).modify 2 (laidIn (([0, 1, 28, 2, 29, 14, 24, 3, 30, 22, 20, 15, 25, 17, 4, 8, 31, 27, 13, 23, 21, 19, 16, 7, 26, 12, 18, 6, 11, 5, 10, 9] : List Int).map fun z => Value.int .u8 z).toArray) }
theorem laidWorld_met (os : Os) (args : Array Value) : laidMet Tryd.prog listed ((laidWorld os).forCall (fun _ _ => 0) ⟨#[], args, []⟩).memory :=
  laidMet_of_run' 8 (by kernel_rfl) (by kernel_rfl)

/-- a term that came in, by value -/
theorem open_term {H : Type} {enc : TypeId × Value → H} {w : World} {base b0 : Nat} {held : Bool} {v : Value} {d : DataW H} {ps : List MemPlace} {r : Reach}
    (hval : Value.okWide Tryd.prog w r b0 27 v) (hd : DataW.Trod enc Tryd.prog w base (fun _ => true) held 27 v d ps) :
    ∃ (op : Int) (p : Nat → Bool) (mn mx : Int) (ks : List Tm) (A : Option Addr) (c : Nat), v = tval op p mn mx A ks.length c ∧ KidsIn w (· < w.heap.size) A ks := by
  obtain ⟨fuel, hf⟩ := hd
  obtain ⟨cs, rfl⟩ : ∃ cs, v = .agg cs := by
    unfold Value.okWide at hval
    rw [Tryd.underlying27] at hval
    obtain ⟨cs, h, _⟩ := hval
    exact ⟨cs, h⟩
  have hf0 := hf
  obtain ⟨_, _, _, _, hl, _, _⟩ := DataW.trod_struct Tryd.underlying27 hf0
  rw [Tryd.termCells] at hl
  obtain ⟨⟨op, p, mn, mx, ks⟩, ht⟩ := term_of fuel _ _ hf
  obtain ⟨l⟩ := cs
  have hcl : (Value.agg ⟨l⟩).cells.toList = l := by simp [Value.cells]
  rw [hcl] at hl ht
  unfold TermAt at ht
  obtain ⟨h0, hw, h5, h6, A, c, h7, hk⟩ := ht
  have w0 := hw 0 (by omega)
  have w1 := hw 1 (by omega)
  have w2 := hw 2 (by omega)
  have w3 := hw 3 (by omega)
  refine ⟨op, p, mn, mx, ks, A, c, ?_, hk⟩
  match l, hl with
  | [a0, a1, a2, a3, a4, a5, a6, a7], _ =>
    simp only [List.getElem?_cons_zero, List.getElem?_cons_succ, Nat.add_zero, Option.some.injEq, Nat.reduceAdd] at h0 w0 w1 w2 w3 h5 h6 h7
    subst h0 w0 w1 w2 w3 h5 h6 h7
    rfl

section
variable {H : Type} {enc : TypeId × Value → H} {P : Program}
/-- The row's last step where only what lay below the call's first block is known to be as it was. -/
theorem post_of_below {f : Func} {s : ChangeSpec} {apart fresh handsOn again : Bool} {W W' : World} {args : Array Value} {v : Value} {ds gs : List (DataW H)} {before pa pv : List MemPlace}
    (hW : DataW.Whole enc P f.params.toList s.vars apart W args.toList ds gs before)
    (hres : ∀ (b : Nat) (sp : Nat → Bool) (hd : Bool), DataW.TrodAll enc P W' b sp hd f.resultTypes.toList (v.resultList f.resultTypes.size) (s.fn H (ds ++ gs)).results [])
    (hargs : ∀ sp : Nat → Bool, (∀ p ∈ before, sp p.block = true) → DataW.TrodAll enc P W' 0 sp true f.params.toList args.toList (s.fn H (ds ++ gs)).args pa)
    (hvars : ∀ sp : Nat → Bool, (∀ p ∈ before, sp p.block = true) → DataW.TrodVars enc P W' sp s.vars (s.fn H (ds ++ gs)).vars pv)
    (hps : before = pa ++ pv) (hb : Below W.heap.size W W')
    (hok : ∀ (j : Nat) (t : TypeId) (r : Value), f.resultTypes[j]? = some t → (v.resultList f.resultTypes.size)[j]? = some r → Value.okWide P W' .any 0 t r) :
    s.post enc P f apart fresh handsOn again W args v W' := by
  have hlt : ∀ p ∈ before, p.block < W.heap.size := fun p hp => hW.lt p hp
  have hold : ∀ p ∈ before, (fun b => decide (b < W.heap.size)) p.block = true := fun p hp => by simpa using hlt p hp
  refine ⟨ds, gs, before, [], pa, pv, hW, hres _ _ _, hargs _ hold, hvars _ hold, World.keptBut_mono (fun p hp => ⟨hp, ?_⟩) (hb.frame (· ∈ before)), fun _ => ?_⟩
  · rw [hps, List.mem_append] at hp
    exact Or.inr hp
  · obtain ⟨_, _, _, _, _, hz, hn⟩ := hW
    refine ⟨hok, _, _, ([] ++ pa) ++ pv, ⟨[] ++ pa, pv, trodAll_append (hargs _ (fun _ _ => rfl)) (hres _ _ _), hvars _ (fun _ _ => rfl), rfl, ?_, ?_⟩, ?_⟩
    · intro b off hp
      have hin : MemPlace.cell b off ∈ before := by rw [hps]; simpa using hp
      rw [hb.frozen (hlt _ hin)]
      exact hz b off hin
    · intro ha
      have := hn ha
      rw [hps] at this
      simpa using this
    · intro p hp _
      rw [hps]
      simpa using hp
end

section
variable {H : Type} {enc : TypeId × Value → H} {P : Program}
/-- arguments read behind the call as they did, where nothing below the call's first block has turned -/
theorem trodAll_below (hl : laidOutB P = true) {W W' : World} (hb : Below W.heap.size W W') {sp : Nat → Bool} : ∀ {ts : List TypeId} {vs : List Value} {ds : List (DataW H)} {ps : List MemPlace}, (∀ t ∈ ts, P.readableRec t = true ∧ t < P.types.size) →
    DataW.TrodAll enc P W 0 (fun _ => true) true ts vs ds ps → (∀ x ∈ ps, x.block < W.heap.size) → (∀ x ∈ ps, sp x.block = true) → DataW.TrodAll enc P W' 0 sp true ts vs ds ps
  | [], [], [], _, _, h, _, _ => h
  | _ :: _, _ :: _, _ :: _, _, hT, ⟨p, q, h1, h2, e⟩, hlt, hs =>
    ⟨p, q, WideElems.Trod_stays hl (hT _ (List.mem_cons.2 (Or.inl rfl))).1 (hT _ (List.mem_cons.2 (Or.inl rfl))).2 h1 (fun x hx => hb.same (hlt x (by rw [e]; exact List.mem_append_left _ hx))) (fun x hx => hs x (by rw [e]; exact List.mem_append_left _ hx)),
      trodAll_below hl hb (fun t ht => hT t (List.mem_cons.2 (Or.inr ht))) h2 (fun x hx => hlt x (by rw [e]; exact List.mem_append_right _ hx)) (fun x hx => hs x (by rw [e]; exact List.mem_append_right _ hx)), e⟩
end
end Go.Proofs.YtnkiiphliilegaaDoor

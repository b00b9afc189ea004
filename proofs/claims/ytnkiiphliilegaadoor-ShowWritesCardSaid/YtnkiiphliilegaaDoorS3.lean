/- A term that came in is a term in memory. -/
import Derived.Test.YtnkiiphliilegaaDoorS2
import Derived.Test.YtnkiiphliilegaaDoorRows
import Derived.ProofKit
import Derived.OpenShut
import Derived.Carry
import Derived.ChangeSlices
namespace Go.Proofs.YtnkiiphliilegaaDoor
open Go.ChangeShapes Go.WideShapes Go.RowKit

theorem Tryd.intCells : Tryd.prog.cellsOf 3 = 1 := by kernel_rfl
theorem Tryd.wordCells : Tryd.prog.cellsOf 22 = 1 := by kernel_rfl
theorem Tryd.classCells : Tryd.prog.cellsOf 24 = 4 := by kernel_rfl
theorem Tryd.kidsCells : Tryd.prog.cellsOf 25 = 1 := by kernel_rfl
theorem Tryd.termCells : Tryd.prog.cellsOf 27 = 8 := by kernel_rfl

section
variable {H : Type} {enc : TypeId × Value → H} {P : Program} {w : World} {base : Nat} {spare : Nat → Bool} {held : Bool}

/-- One cell read as an int is that int. -/
theorem int_cell {fuel : Nat} {t : TypeId} {k : IntKind} {c : Value} {x : DataW H × List MemPlace} (ht : P.underlying t = some (.int k)) (h : DataW.trod enc P w base spare held fuel t [c] = some x) :
    ∃ n, c = .int k n ∧ x = (.lit (.int k n), []) ∧ (Lit.int k n).wf = true := by
  obtain ⟨n, h, hx, hw⟩ := DataW.trod_int ht h
  simp at h
  exact ⟨n, h, hx, hw⟩

/-- An array of ints, read: its cells are those ints. -/
theorem int_cells {fuel : Nat} {t e : TypeId} {n : Nat} {k : IntKind} {cs : List Value} {x : DataW H × List MemPlace} (ht : P.underlying t = some (.array n e)) (he : P.underlying e = some (.int k)) (hc : P.cellsOf t = n) (hce : P.cellsOf e = 1)
    (h : DataW.trod enc P w base spare held fuel t cs = some x) :
    ∃ ns : List Int, cs = ns.map (Value.int k) ∧ x = (.agg (ns.map fun n => .lit (.int k n)), []) ∧ ns.length = n ∧ ∀ n ∈ ns, (Lit.int k n).wf = true := by
  obtain ⟨xs, m, rfl, rfl, hl, hxl, hi⟩ := DataW.trod_array ht h
  rw [hc] at hl
  have key : ∀ (cs : List Value) (xs : List (DataW H × List MemPlace)), cs.length = xs.length → (∀ i, i < xs.length → DataW.trod enc P w base spare held m e ((cs.drop i).take 1) = xs[i]?) →
      ∃ ns : List Int, cs = ns.map (Value.int k) ∧ xs.map (·.1) = ns.map (fun n => DataW.lit (.int k n)) ∧ xs.flatMap (·.2) = [] ∧ ∀ n ∈ ns, (Lit.int k n).wf = true := by
    intro cs
    induction cs with
    | nil =>
      intro xs hl _
      obtain rfl : xs = [] := List.eq_nil_of_length_eq_zero hl.symm
      exact ⟨[], rfl, rfl, rfl, by simp⟩
    | cons c cs ih =>
      intro xs hl hi
      match xs, hl with
      | x :: xs, hl =>
        have h0 := hi 0 (by simp)
        simp only [List.drop_zero, List.take_succ_cons, List.take_zero, List.getElem?_cons_zero] at h0
        obtain ⟨n, rfl, rfl, hw⟩ := int_cell he h0
        obtain ⟨ns, rfl, e1, e2, e3⟩ := ih xs (by simpa using hl) fun i hlt => by
          have := hi (i + 1) (by simp; omega)
          simpa using this
        refine ⟨n :: ns, rfl, by simp [e1], by simpa using e2, ?_⟩
        intro a ha
        rcases List.mem_cons.1 ha with rfl | ha
        · exact hw
        · exact e3 a ha
  obtain ⟨ns, e0, e1, e2, e3⟩ := key cs xs (by rw [hl, hxl]) fun i hlt => by
    have := hi i (by rw [← hxl]; exact hlt)
    rwa [hce, Nat.mul_one] at this
  refine ⟨ns, e0, by rw [e1, e2], ?_, e3⟩
  have := congrArg List.length e0
  simp at this
  omega
end

theorem add_at (b off x : Nat) : ((⟨b, off, none⟩ : Addr).add x) = ⟨b, off + x, none⟩ := by simp [Addr.add]
theorem term_of {H : Type} {enc : TypeId × Value → H} {w : World} {base : Nat} {held : Bool} : ∀ (fuel : Nat) (cs : List Value) (x : DataW H × List MemPlace), DataW.trod enc Tryd.prog w base (fun _ => true) held fuel 27 cs = some x → ∃ t : Tm, TermAt w (· < w.heap.size) (fun i => cs[i]?) t := by
  intro fuel
  induction fuel using Nat.strongRecOn with
  | _ fuel ih =>
    intro cs x h
    obtain ⟨xs, n, rfl, hx, hl, hxl, hi⟩ := DataW.trod_struct Tryd.underlying27 h
    rw [Tryd.termCells] at hl
    match cs, hl with
    | [a0, a1, a2, a3, a4, a5, a6, a7], _ =>
      match xs, hxl with
      | [x0, x1, x2, x3, x4], _ =>
        have i0 := hi 0 _ rfl
        have i1 := hi 1 _ rfl
        have i2 := hi 2 _ rfl
        have i3 := hi 3 _ rfl
        have i4 := hi 4 _ rfl
        simp only [List.getElem?_cons_zero, List.getElem?_cons_succ] at i0 i1 i2 i3 i4
        obtain ⟨op, rfl, _, _⟩ := int_cell Tryd.underlying3 i0
        obtain ⟨ns, e, _, hl, hw⟩ := int_cells (k := .u64) Tryd.underlying24 Tryd.underlying22 Tryd.classCells Tryd.wordCells i1
        obtain ⟨mn, rfl, _, _⟩ := int_cell Tryd.underlying3 i2
        obtain ⟨mx, rfl, _, _⟩ := int_cell Tryd.underlying3 i3
        match ns, hl with
        | [a, b, c, d], _ =>
          have nat : ∀ n ∈ [a, b, c, d], ∃ m : Nat, n = (m : Int) ∧ m < 18446744073709551616 := by
            intro n hn
            have := hw n hn
            simp [Lit.wf, IntKind.min, IntKind.max, IntKind.signed, IntKind.bits] at this
            exact ⟨n.toNat, by omega, by omega⟩
          obtain ⟨a, rfl, ha⟩ := nat a (by simp)
          obtain ⟨b, rfl, hb⟩ := nat b (by simp)
          obtain ⟨c, rfl, hc⟩ := nat c (by simp)
          obtain ⟨d, rfl, hd⟩ := nat d (by simp)
          simp only [List.map_cons, List.map_nil] at e
          obtain ⟨rfl, rfl, rfl, rfl⟩ := e
          obtain ⟨e0, e1, e2, e3⟩ := pw_asSet a b c d ha hb hc hd
          have words : ∀ i, i < 4 → [Value.int .i64 op, .int .u64 (a : Int), .int .u64 (b : Int), .int .u64 (c : Int), .int .u64 (d : Int), .int .i64 mn, .int .i64 mx, a7][1 + i]? = some (.int .u64 ((pw (asSet a b c d) i : Nat) : Int)) := by
            intro i hi
            have : i = 0 ∨ i = 1 ∨ i = 2 ∨ i = 3 := by omega
            rcases this with rfl | rfl | rfl | rfl
            · rw [e0]; rfl
            · rw [e1]; rfl
            · rw [e2]; rfl
            · rw [e3]; rfl
          rcases DataW.trod_slice Tryd.underlying25 i4 with ⟨hcs, _⟩ | ⟨A, len, cap, elems, rest, m, rfl, hcs, _, _, _, _, hlen, hel, _, _⟩
          · obtain rfl : a7 = .slice none 0 0 := by simpa [Tryd.kidsCells] using hcs
            refine ⟨.node op (asSet a b c d) mn mx [], ?_⟩
            unfold TermAt
            exact ⟨rfl, words, rfl, rfl, none, 0, rfl, Or.inl rfl⟩
          · obtain rfl : a7 = .slice (some A) len cap := by simpa [Tryd.kidsCells] using hcs
            by_cases h0 : len = 0
            · subst h0
              refine ⟨.node op (asSet a b c d) mn mx [], ?_⟩
              unfold TermAt
              exact ⟨rfl, words, rfl, rfl, _, cap, rfl, Or.inl rfl⟩
            have each : ∀ i, i < len → ∃ (cs' : List Value) (k : Tm), w.cells? base (A.add (i * 8)) 8 = some cs' ∧ TermAt w (· < w.heap.size) (fun j => cs'[j]?) k := by
              intro i hi
              have hy := hel i hi
              rw [List.getElem?_eq_getElem (show i < elems.length by omega), Tryd.termCells, Option.bind_eq_some_iff] at hy
              obtain ⟨cs', hcs', hy'⟩ := hy
              obtain ⟨k, hk⟩ := ih m (by omega) cs' _ hy'
              exact ⟨cs', k, hcs', hk⟩
            obtain ⟨B0, off, spot⟩ := A
            obtain ⟨c0, k0, hc0, _⟩ := each 0 (by omega)
            have z0 := (World.cells?_some hc0).2.2 0 (by omega)
            have hl0 := (World.cells?_some hc0).2.1
            rw [List.getElem?_eq_getElem (show 0 < c0.length by omega)] at z0
            have hlt : B0 < w.heap.size := by
              have := World.block_lt_of_cell? w _ z0
              rwa [block_add, block_add] at this
            have hspot : spot = none := by simpa [Addr.add] using World.cell?_spot z0
            subst hspot
            obtain ⟨ks, hkl, hks⟩ := kids_of (w := w) (P := (· < w.heap.size)) (b := B0) len off (fun i hi => by
              obtain ⟨cs', k, h1, h2⟩ := each i hi
              refine ⟨k, TermAt.congr k (fun j hj => ?_) h2⟩
              have := (World.cells?_some h1).2.2 j hj
              rw [add_at, add_at, Nat.mul_comm i 8] at this
              exact this.symm)
            refine ⟨.node op (asSet a b c d) mn mx ks, ?_⟩
            unfold TermAt
            exact ⟨rfl, words, rfl, rfl, _, cap, by rw [hkl]; rfl, Or.inr ⟨B0, off, rfl, hlt, hks⟩⟩
end Go.Proofs.YtnkiiphliilegaaDoor

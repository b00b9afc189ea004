/- Laws for whole arrays in variables: a zero array made, stored whole into its block, loaded whole, looked at and stored into cell by cell. -/
import Derived.Test.YtnkiiphliilegaaDoorWd
namespace Go.Proofs.YtnkiiphliilegaaDoor
open Go.RowKit

theorem run_storeCells_blk {P : Program} {g : Nat} {t : TypeId} : ∀ (vs : List Value) (i : Nat) (w : World) (c : Array Value), Blk w g t c → i + vs.length ≤ c.size → (∀ u ∈ vs, u.oneCell' = true) →
    ∃ w' c', (storeCells ⟨g, 0, none⟩ vs i).run P w = .ok () w' ∧ Blk w' g t c' ∧ w.grownBy w' (some g) ∧ w'.heap.size = w.heap.size ∧ c'.size = c.size ∧ ∀ j, c'[j]? = if i ≤ j ∧ j < i + vs.length then vs[j - i]? else c[j]?
  | [], i, w, c, hb, _, _ => ⟨w, c, rfl, hb, World.grownBy.refl w _, rfl, rfl, fun j => by
      have : ¬ (i ≤ j ∧ j < i + ([] : List Value).length) := by simp
      rw [if_neg this]⟩
  | u :: vs, i, w, c, hb, hl, h1 => by
    have e0 : (⟨g, 0, none⟩ : Addr).add i = ⟨g, i, none⟩ := by
      unfold Addr.add
      by_cases hj0 : i = 0
      · simp [hj0]
      · simp [hj0]
    have hi : i < c.size := by simp only [List.length_cons] at hl; omega
    have hcell : w.cell? ⟨g, i, none⟩ = some c[i] := by rw [hb.cell]; exact Array.getElem?_eq_getElem hi
    have hb2 := hb.store i u
    obtain ⟨w', c', hrun, hb', hg', hsz, hcs, hget⟩ := run_storeCells_blk vs (i + 1) (w.setCell ⟨g, i, none⟩ u) _ hb2 (by simp only [List.length_cons] at hl; simp; omega) (fun x hx => h1 x (by simp [hx]))
    refine ⟨w', c', ?_, hb', ⟨hg'.os, hg'.tape, hg'.output, by have := hg'.size; simpa using this, ?_⟩, by rw [hsz]; simp, by rw [hcs]; simp, ?_⟩
    · simp only [storeCells, e0, Sem.run_bind]
      rw [run_store P w _ u .plain (h1 u (by simp)), hcell, hb.free]
      simpa using hrun
    · intro k hk hne
      exact (hg'.block k (by simpa using hk) hne).trans (heap_setCell_other w ⟨g, i, none⟩ k u (fun e => hne (by rw [e])))
    · intro j
      rw [hget j]
      by_cases hj : i + 1 ≤ j ∧ j < i + 1 + vs.length
      · have h2 : i ≤ j ∧ j < i + (u :: vs).length := by simp only [List.length_cons]; omega
        rw [if_pos hj, if_pos h2]
        obtain ⟨d, rfl⟩ : ∃ d, j = i + 1 + d := ⟨j - (i + 1), by omega⟩
        have a1 : i + 1 + d - (i + 1) = d := by omega
        have a2 : i + 1 + d - i = d + 1 := by omega
        rw [a1, a2]
        rfl
      · rw [if_neg hj]
        by_cases hj2 : j = i
        · subst hj2
          have h2 : j ≤ j ∧ j < j + (u :: vs).length := by simp only [List.length_cons]; omega
          rw [if_pos h2]
          simp [hi]
        · have h2 : ¬ (i ≤ j ∧ j < i + (u :: vs).length) := by simp only [List.length_cons]; omega
          rw [if_neg h2]
          have : ¬ i = j := fun e => hj2 e.symm
          simp [this]

theorem run_storeVar_blk {P : Program} {w : World} {g : Nat} {t ty : TypeId} {cs0 cs : Array Value} (hb : Blk w g t cs0) (hs : cs0.size = cs.size) (h1 : ∀ u ∈ cs.toList, u.oneCell' = true)
    (hi : (P.info? ty).map (·.size) = some cs.size) :
    ∃ w', (storeVar ty ⟨g, 0, none⟩ (.agg cs)).run P w = .ok () w' ∧ Blk w' g t cs ∧ w.grownBy w' (some g) ∧ w'.heap.size = w.heap.size := by
  obtain ⟨w', c', hrun, hb', hg', hsz, hcs, hget⟩ := run_storeCells_blk (P := P) cs.toList 0 w cs0 hb (by simp [hs]) h1
  have hc : c' = cs := by
    apply Array.ext_getElem?
    intro j
    rw [hget j]
    by_cases hj : j < cs.size
    · have : 0 ≤ j ∧ j < 0 + cs.toList.length := by simp; omega
      rw [if_pos this]
      simp
    · have : ¬ (0 ≤ j ∧ j < 0 + cs.toList.length) := by simp; omega
      rw [if_neg this, Array.getElem?_eq_none (by omega), Array.getElem?_eq_none (by omega)]
  subst hc
  refine ⟨w', ?_, hb', hg', hsz⟩
  cases hq : P.info? ty with
  | none => simp [hq] at hi
  | some i =>
    have hs2 : i.size = c'.size := by simpa [hq] using hi
    simp [storeVar, Sem.run_bind, sizeOf, typeInfo, hq, hs2, Value.cells, hrun]

/-- a whole array (or struct) stored into a block of the call's own -/
theorem wpList_store_blk {P : Program} {w : World} {g : Nat} {t : TypeId} {cs0 cs : Array Value} (hb : Blk w g t cs0) (hs : cs0.size = cs.size) (h1 : ∀ u ∈ cs.toList, u.oneCell' = true)
    (ty : TypeId) (hi : (P.info? ty).map (·.size) = some cs.size)
    {ops : Array Oper} {rest : List Oper} {o : Oper} {a : Act} {Q : Exit → Act → World → Prop} (hgd : o.guard = none) (ad x : Operand) (ho : o.op = .store ty ad x)
    (ha : a.eval ad = .pointer (some ⟨g, 0, none⟩)) (hx : a.eval x = .agg cs)
    (h : ∀ w', Blk w' g t cs → w.grownBy w' (some g) → w'.heap.size = w.heap.size → wpList P ops Q rest (a.put o.dst undef) w') : wpList P ops Q (o :: rest) a w := by
  refine wpList_plain hgd fun K hK => ?_
  obtain ⟨w', hrun, hb', hg', hsz⟩ := run_storeVar_blk (P := P) (ty := ty) hb hs h1 hi
  unfold Oper.wp execOp
  simp only [ho, ha, hx, Instr.storeAt, Instr.sureAddr, Sem.run_bind, Sem.run_pure, Result.andThen_ok, hrun]
  exact hK _ _ (h w' hb' hg' hsz)

/-- flags as cells -/
def bools (f : Nat → Bool) (n : Nat) : Array Value := ((List.range n).map fun i => Value.bool (f i)).toArray
theorem bools_size (f : Nat → Bool) (n : Nat) : (bools f n).size = n := by simp [bools]
theorem bools_get (f : Nat → Bool) (n k : Nat) (h : k < n) : (bools f n)[k]? = some (.bool (f k)) := by simp [bools, h]
theorem bools_one (f : Nat → Bool) (n : Nat) : ∀ u ∈ (bools f n).toList, u.oneCell' = true := by
  intro u hu
  simp only [bools, List.mem_map] at hu
  obtain ⟨i, _, rfl⟩ := hu
  rfl
theorem bools_set (f : Nat → Bool) (n k : Nat) (b : Bool) : (bools f n).setIfInBounds k (.bool b) = bools (fun x => if x = k then b else f x) n := by
  apply Array.ext_getElem?
  intro j
  by_cases hj : j < n
  · rw [bools_get _ _ _ hj, Array.getElem?_setIfInBounds, bools_size]
    by_cases hk : k = j
    · subst hk; simp [hj]
    · have : ¬ j = k := fun e => hk e.symm
      rw [if_neg hk, bools_get _ _ _ hj, if_neg this]
  · rw [Array.getElem?_eq_none (by simp [bools_size]; omega), Array.getElem?_eq_none (by rw [bools_size]; omega)]
theorem bools_congr {f g : Nat → Bool} {n : Nat} (h : ∀ j, j < n → f j = g j) : bools f n = bools g n := by
  apply Array.ext_getElem?
  intro j
  by_cases hj : j < n
  · rw [bools_get _ _ _ hj, bools_get _ _ _ hj, h j hj]
  · rw [Array.getElem?_eq_none (by rw [bools_size]; omega), Array.getElem?_eq_none (by rw [bools_size]; omega)]
end Go.Proofs.YtnkiiphliilegaaDoor

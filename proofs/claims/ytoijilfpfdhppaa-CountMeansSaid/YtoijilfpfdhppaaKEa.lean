/- A row of whole numbers that may begin anywhere in its block: kept, appended to, cut at its head, put before. -/
import Derived.Test.YtoijilfpfdhppaaKDb
import Derived.Test.YtoijilfpfdhppaaKE
import Derived.Deep.RegionLaw
import Derived.Deep.RegionLawGrows
namespace Go.Proofs.Ytoijilfpfdhppaa
open Go.RowKit

/-- whole numbers as values -/
def i64s (L : List Int) : List Value := L.map fun n : Int => Value.int .i64 n
theorem i64s_length (L : List Int) : (i64s L).length = L.length := by simp [i64s]
theorem i64s_get (L : List Int) (k : Nat) : (i64s L)[k]? = L[k]?.map (Value.int .i64) := by simp [i64s]
theorem i64s_one (L : List Int) : ∀ u ∈ i64s L, u.oneCell' = true := by
  intro u hu
  unfold i64s at hu
  obtain ⟨n, _, rfl⟩ := List.mem_map.1 hu
  rfl
theorem int_info : (Try.prog.info? 3).map (fun i => (i.zero, i.size, i.bytes)) = some (some (.int .i64 0), 1, 8) := by kernel_rfl
theorem int_parts : ∃ i : TypeInfo, Try.prog.info? 3 = some i ∧ i.zero = some (.int .i64 0) ∧ i.size = 1 ∧ i.bytes = 8 := by
  have h := int_info
  cases e : Try.prog.info? 3 with
  | none => rw [e] at h; cases h
  | some i =>
    rw [e] at h
    simp only [Option.map_some, Option.some.injEq, Prod.mk.injEq] at h
    exact ⟨i, rfl, h.1, h.2.1, h.2.2⟩

/-- v is a slice that reads as M, in a block from B on (or nil) -/
def RowO (w : World) (B : Nat) (v : Value) (M : List Int) : Prop :=
  ∃ A c, v = .slice A M.length c ∧ M.length ≤ c ∧ c ≤ maxLen ∧
    ((A = none ∧ c = 0) ∨ ∃ b off cs, A = some ⟨b, off, none⟩ ∧ B ≤ b ∧ Blk w b 3 cs ∧ off + c ≤ cs.size ∧ ∀ j x, M[j]? = some x → cs[off + j]? = some (.int .i64 x))
theorem RowO.nil (w : World) (B : Nat) : RowO w B (.slice none 0 0) [] := ⟨none, 0, rfl, Nat.le_refl _, by unfold maxLen; omega, .inl ⟨rfl, rfl⟩⟩
theorem RowO.below {w w' : World} {B : Nat} {v : Value} {M : List Int} (h : RowO w B v M) (hb : Below w.heap.size w w') : RowO w' B v M := by
  obtain ⟨A, c, rfl, h1, h2, h3⟩ := h
  refine ⟨A, c, rfl, h1, h2, ?_⟩
  rcases h3 with h3 | ⟨b, off, cs, rfl, h4, h5, h6, h7⟩
  · exact .inl h3
  · exact .inr ⟨b, off, cs, rfl, h4, h5.below hb h5.lt, h6, h7⟩
theorem RowO.grown {w w' : World} {B g : Nat} {v : Value} {M : List Int} (h : RowO w B v M) (hg : w.grownBy w' (some g)) (hB : g < B) : RowO w' B v M := by
  obtain ⟨A, c, rfl, h1, h2, h3⟩ := h
  refine ⟨A, c, rfl, h1, h2, ?_⟩
  rcases h3 with h3 | ⟨b, off, cs, rfl, h4, h5, h6, h7⟩
  · exact .inl h3
  · exact .inr ⟨b, off, cs, rfl, h4, h5.grown hg (by simp; omega), h6, h7⟩
theorem rowO_of_own {w : World} {B : Nat} {v : Value} {M : List Int} (h : w.ownsRow B 3 1 v M.length (i64s M)) : RowO w B v M := by
  obtain ⟨hl, h2⟩ := h
  rcases h2 with ⟨rfl, h0⟩ | ⟨g, cap, cur, rfl, hb, hh, hnc, hm, hs, ht⟩
  · have : M = [] := List.eq_nil_of_length_eq_zero h0
    subst this
    exact RowO.nil w B
  · refine ⟨some ⟨g, 0, none⟩, cap, rfl, hnc, hm, .inr ⟨g, 0, cur, rfl, hb, hh, by omega, fun j x hj => ?_⟩⟩
    have hjl := (List.getElem?_eq_some_iff.1 hj).1
    have := congrArg (fun l => l[j]?) ht
    rw [i64s_get, hj, List.getElem?_take] at this
    rw [if_pos (by omega)] at this
    rw [Nat.zero_add]
    simpa using this
/-- cells stored one behind the other into a block that is known whole -/
theorem blk_setCells {g : Nat} {t : TypeId} : ∀ (vs : List Value) (o : Nat) (w : World) (cs : Array Value), Blk w g t cs → o + vs.length ≤ cs.size →
    ∃ cs', Blk (w.setCells g o vs) g t cs' ∧ cs'.size = cs.size ∧ w.grownBy (w.setCells g o vs) (some g) ∧ ∀ k, cs'[k]? = if o ≤ k ∧ k < o + vs.length then vs[k - o]? else cs[k]?
  | [], o, w, cs, h, _ => ⟨cs, h, rfl, World.grownBy.refl w _, fun k => by
      have : ¬ (o ≤ k ∧ k < o + ([] : List Value).length) := by
        rw [List.length_nil]
        omega
      rw [if_neg this]⟩
  | v :: vs, o, w, cs, h, hl => by
    have hl2 : o + (vs.length + 1) ≤ cs.size := hl
    obtain ⟨cs', h1, h2, h3, h4⟩ := blk_setCells vs (o + 1) _ _ (h.store o v) (by simp; omega)
    refine ⟨cs', h1, by rw [h2]; simp, grown_trans (grownBy_store (World.grownBy.refl w _) o v) h3, fun k => ?_⟩
    rw [h4 k]
    by_cases hk : o + 1 ≤ k ∧ k < o + 1 + vs.length
    · rw [if_pos hk, if_pos (by rw [List.length_cons]; omega)]
      obtain ⟨d, rfl⟩ : ∃ d, k = o + 1 + d := ⟨k - (o + 1), by omega⟩
      rw [show o + 1 + d - (o + 1) = d from by omega, show o + 1 + d - o = d + 1 from by omega]
      rfl
    · rw [if_neg hk]
      by_cases he : k = o
      · subst he
        rw [if_pos (by rw [List.length_cons]; omega)]
        simp [show k < cs.size from by omega]
      · rw [if_neg (by rw [List.length_cons]; omega)]
        have : ¬ o = k := fun e => he e.symm
        simp [this]
/-- .. and the row that lies there -/
theorem rowO_setCells {w : World} {B b off c o : Nat} {cs : Array Value} {vs : List Value} {M : List Int} (h : Blk w b 3 cs) (hB : B ≤ b) (hs : off + c ≤ cs.size) (hM : M.length ≤ c) (hm : c ≤ maxLen) (ho : o + vs.length ≤ cs.size)
    (hc : ∀ j x, M[j]? = some x → (if o ≤ off + j ∧ off + j < o + vs.length then vs[off + j - o]? else cs[off + j]?) = some (.int .i64 x)) : RowO (w.setCells b o vs) B (.slice (some ⟨b, off, none⟩) M.length c) M := by
  obtain ⟨cs', h1, h2, _, h4⟩ := blk_setCells vs o w cs h ho
  exact ⟨_, c, rfl, hM, hm, .inr ⟨b, off, cs', rfl, hB, h1, by omega, fun j x hj => by rw [h4]; exact hc j x hj⟩⟩
theorem below_setCells {w : World} {B b o : Nat} {vs : List Value} {t : TypeId} {cs : Array Value} (h : Blk w b t cs) (hB : B ≤ b) (ho : o + vs.length ≤ cs.size) : Below B w (w.setCells b o vs) := by
  obtain ⟨cs', _, _, h3, _⟩ := blk_setCells vs o w cs h ho
  have := h.lt
  exact (Below.refl B w).grown h3 (by omega) (fun k hk => by cases hk; exact hB)
theorem RowO.tail {w : World} {B : Nat} {A : Option Addr} {n c : Nat} {m : Int} {M : List Int} (h : RowO w B (.slice A n c) (m :: M)) :
    ∃ b off, A = some ⟨b, off, none⟩ ∧ n = M.length + 1 ∧ M.length + 1 ≤ c ∧ c ≤ maxLen ∧ w.cell? ⟨b, off, none⟩ = some (.int .i64 m) ∧ B ≤ b ∧
      (c = 1 → RowO w B (.slice (some ⟨b, off, none⟩) 0 0) M) ∧ RowO w B (.slice (some ⟨b, off + 1, none⟩) M.length (c - 1)) M := by
  obtain ⟨A', c', e, h1, h2, h3⟩ := h
  simp only [Value.slice.injEq] at e
  obtain ⟨rfl, rfl, rfl⟩ := e
  simp only [List.length_cons] at h1
  rcases h3 with ⟨_, h3⟩ | ⟨b, off, cs, rfl, h4, h5, h6, h7⟩
  · omega
  · refine ⟨b, off, rfl, rfl, h1, h2, ?_, h4, fun hc => ?_, ?_⟩
    · rw [h5.cell off]
      exact h7 0 m rfl
    · have hM : M = [] := List.eq_nil_of_length_eq_zero (by omega)
      subst hM
      exact ⟨_, 0, rfl, Nat.le_refl _, by unfold maxLen; omega, .inr ⟨b, off, cs, rfl, h4, h5, by omega, fun j x hj => by simp at hj⟩⟩
    · exact ⟨_, c - 1, rfl, by omega, by omega, .inr ⟨b, off + 1, cs, rfl, h4, h5, by omega, fun j x hj => by
        have := h7 (j + 1) x (by simpa using hj)
        rwa [show off + (j + 1) = off + 1 + j from by omega] at this⟩⟩
theorem RowO.at_ {w : World} {B : Nat} {A : Option Addr} {n c k : Nat} {m : Int} {M : List Int} (h : RowO w B (.slice A n c) M) (hk : M[k]? = some m) :
    ∃ b off, A = some ⟨b, off, none⟩ ∧ n = M.length ∧ n ≤ c ∧ w.cell? ⟨b, off + k, none⟩ = some (.int .i64 m) := by
  obtain ⟨A', c', e, h1, h2, h3⟩ := h
  simp only [Value.slice.injEq] at e
  obtain ⟨rfl, rfl, rfl⟩ := e
  have hkl := (List.getElem?_eq_some_iff.1 hk).1
  rcases h3 with ⟨_, h3⟩ | ⟨b, off, cs, rfl, h4, h5, h6, h7⟩
  · omega
  · exact ⟨b, off, rfl, rfl, h1, by rw [h5.cell]; exact h7 k m hk⟩
end Go.Proofs.Ytoijilfpfdhppaa

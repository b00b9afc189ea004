/- A term in memory. -/
import Derived.Test.YtnkiiphliilegaaDoorS1
import Derived.Test.YtnkiiphliilegaaDoorMc
import Derived.Test.YtnkiiphliilegaaDoorWd
namespace Go.Proofs.YtnkiiphliilegaaDoor
open Go.RowKit

/- a term whose cells are told by 'get'; its kids lie in blocks with P -/
mutual
def TermAt (w : World) (P : Nat → Prop) (get : Nat → Option Value) : Tm → Prop
  | .node op p mn mx ks => get 0 = some (.int .i64 op) ∧ (∀ i, i < 4 → get (1 + i) = some (.int .u64 ((pw p i : Nat) : Int))) ∧ get 5 = some (.int .i64 mn) ∧ get 6 = some (.int .i64 mx) ∧
    ∃ A c, get 7 = some (.slice A ks.length c) ∧ (ks = [] ∨ ∃ b off, A = some ⟨b, off, none⟩ ∧ P b ∧ KidsAt w P b off ks)
def KidsAt (w : World) (P : Nat → Prop) (b : Nat) (off : Nat) : List Tm → Prop
  | [] => True
  | k :: ks => TermAt w P (fun i => w.cell? ⟨b, off + i, none⟩) k ∧ KidsAt w P b (off + 8) ks
end
/-- the kids of a term, where its slice says -/
def KidsIn (w : World) (P : Nat → Prop) (A : Option Addr) (ks : List Tm) : Prop := ks = [] ∨ ∃ b off, A = some ⟨b, off, none⟩ ∧ P b ∧ KidsAt w P b off ks
/-- the blocks with P are as they were -/
def KeepsP (P P' : Nat → Prop) (w w' : World) : Prop := ∀ b, P b → P' b ∧ ∀ o, w'.cell? ⟨b, o, none⟩ = w.cell? ⟨b, o, none⟩
mutual
theorem TermAt.keep {w w' : World} {P P' : Nat → Prop} (hk : KeepsP P P' w w') : ∀ (t : Tm) (get : Nat → Option Value), TermAt w P get t → TermAt w' P' get t
  | .node op p mn mx ks, get, h => by
    unfold TermAt at h ⊢
    obtain ⟨h0, h1, h2, h3, A, c, h4, h5⟩ := h
    refine ⟨h0, h1, h2, h3, A, c, h4, ?_⟩
    rcases h5 with h5 | ⟨b, off, e, hlt, hks⟩
    · exact Or.inl h5
    · exact Or.inr ⟨b, off, e, (hk b hlt).1, KidsAt.keep hk hlt ks off hks⟩
theorem KidsAt.keep {w w' : World} {P P' : Nat → Prop} {b : Nat} (hk : KeepsP P P' w w') (hlt : P b) : ∀ (ks : List Tm) (off : Nat), KidsAt w P b off ks → KidsAt w' P' b off ks
  | [], _, _ => by unfold KidsAt; trivial
  | k :: ks, off, h => by
    unfold KidsAt at h ⊢
    have e : (fun i => w'.cell? ⟨b, off + i, none⟩) = fun i => w.cell? ⟨b, off + i, none⟩ := funext fun i => (hk b hlt).2 _
    rw [e]
    exact ⟨TermAt.keep hk k _ h.1, KidsAt.keep hk hlt ks _ h.2⟩
end
theorem KidsIn.keep {w w' : World} {P P' : Nat → Prop} (hk : KeepsP P P' w w') {A : Option Addr} {ks : List Tm} (h : KidsIn w P A ks) : KidsIn w' P' A ks := by
  rcases h with h | ⟨b, off, e, hP, hks⟩
  · exact Or.inl h
  · exact Or.inr ⟨b, off, e, (hk b hP).1, hks.keep hk hP⟩
theorem keeps_below {w w' : World} {B B' : Nat} (hb : Below B w w') (hB : B ≤ B') : KeepsP (· < B) (· < B') w w' := fun b hlt => ⟨Nat.lt_of_lt_of_le hlt hB, fun o => hb.cell (p := ⟨b, o, none⟩) hlt⟩
theorem KidsIn.below {w w' : World} {B B' : Nat} {A : Option Addr} {ks : List Tm} (h : KidsIn w (· < B) A ks) (hb : Below B w w') (hB : B ≤ B') : KidsIn w' (· < B') A ks := h.keep (keeps_below hb hB)
/-- the i-th kid -/
theorem KidsAt.kid {w : World} {P : Nat → Prop} {b : Nat} : ∀ (ks : List Tm) (off : Nat), KidsAt w P b off ks → ∀ (i : Nat) (k : Tm), ks[i]? = some k → TermAt w P (fun j => w.cell? ⟨b, off + 8 * i + j, none⟩) k
  | [], _, _, i, k, h => by simp at h
  | x :: ks, off, h, i, k, hk => by
    unfold KidsAt at h
    cases i with
    | zero =>
      simp only [List.getElem?_cons_zero, Option.some.injEq] at hk
      subst hk
      simpa using h.1
    | succ i =>
      rw [List.getElem?_cons_succ] at hk
      have := KidsAt.kid ks (off + 8) h.2 i k hk
      have e : off + 8 + 8 * i = off + 8 * (i + 1) := by omega
      rw [e] at this
      exact this
theorem TermAt.congr {w : World} {P : Nat → Prop} {get get' : Nat → Option Value} (t : Tm) (he : ∀ i, i < 8 → get i = get' i) (h : TermAt w P get t) : TermAt w P get' t := by
  cases t with
  | node op p mn mx ks =>
    unfold TermAt at h ⊢
    obtain ⟨h0, h1, h2, h3, A, c, h4, h5⟩ := h
    exact ⟨by rw [← he 0 (by omega)]; exact h0, fun i hi => by rw [← he (1 + i) (by omega)]; exact h1 i hi, by rw [← he 5 (by omega)]; exact h2, by rw [← he 6 (by omega)]; exact h3, A, c, by rw [← he 7 (by omega)]; exact h4, h5⟩
/-- kids that each read as a term make a list of terms -/
theorem kids_of {w : World} {P : Nat → Prop} {b : Nat} : ∀ (n off : Nat), (∀ i, i < n → ∃ k, TermAt w P (fun j => w.cell? ⟨b, off + 8 * i + j, none⟩) k) → ∃ ks : List Tm, ks.length = n ∧ KidsAt w P b off ks
  | 0, _, _ => ⟨[], rfl, by unfold KidsAt; trivial⟩
  | n + 1, off, h => by
    obtain ⟨k, hk⟩ := h 0 (by omega)
    obtain ⟨ks, hl, hks⟩ := kids_of n (off + 8) fun i hi => by
      obtain ⟨x, hx⟩ := h (i + 1) (by omega)
      have e : off + 8 * (i + 1) = off + 8 + 8 * i := by omega
      rw [e] at hx
      exact ⟨x, hx⟩
    refine ⟨k :: ks, by rw [List.length_cons, hl], ?_⟩
    unfold KidsAt
    exact ⟨by simpa using hk, hks⟩

/-- a term as a value -/
abbrev tcells (op : Int) (p : Nat → Bool) (mn mx : Int) (A : Option Addr) (n c : Nat) : Array Value :=
  #[.int .i64 op, .int .u64 (pw p 0 : Nat), .int .u64 (pw p 1 : Nat), .int .u64 (pw p 2 : Nat), .int .u64 (pw p 3 : Nat), .int .i64 mn, .int .i64 mx, .slice A n c]
abbrev tval (op : Int) (p : Nat → Bool) (mn mx : Int) (A : Option Addr) (n c : Nat) : Value := .agg (tcells op p mn mx A n c)

/-- the cells of the i-th kid, in the walk's spelling; its own kids -/
def KidCells (w : World) (b o : Nat) (op : Int) (p : Nat → Bool) (mn mx : Int) (A : Option Addr) (n c : Nat) : Prop :=
  w.cell? ⟨b, o, none⟩ = some (.int .i64 op) ∧ w.cell? ⟨b, o + 1, none⟩ = some (.int .u64 (pw p 0 : Nat)) ∧ w.cell? ⟨b, o + 2, none⟩ = some (.int .u64 (pw p 1 : Nat)) ∧ w.cell? ⟨b, o + 3, none⟩ = some (.int .u64 (pw p 2 : Nat)) ∧
  w.cell? ⟨b, o + 4, none⟩ = some (.int .u64 (pw p 3 : Nat)) ∧ w.cell? ⟨b, o + 5, none⟩ = some (.int .i64 mn) ∧ w.cell? ⟨b, o + 6, none⟩ = some (.int .i64 mx) ∧ w.cell? ⟨b, o + 7, none⟩ = some (.slice A n c)
theorem KidsIn.kid {w : World} {P : Nat → Prop} {A : Option Addr} {ks : List Tm} (h : KidsIn w P A ks) (i : Nat) (hi : i < ks.length) :
    ∃ b off op p mn mx ks' A' c', A = some ⟨b, off, none⟩ ∧ P b ∧ ks[i] = .node op p mn mx ks' ∧ KidCells w b (off + i * 8) op p mn mx A' ks'.length c' ∧ KidsIn w P A' ks' := by
  rcases h with rfl | ⟨b, off, e, hP, hks⟩
  · simp at hi
  · have hk := hks.kid ks off i ks[i] (List.getElem?_eq_getElem hi)
    cases hc : ks[i] with
    | node op p mn mx ks' =>
      rw [hc] at hk
      unfold TermAt at hk
      obtain ⟨h0, h1, h5, h6, A', c', h7, hr⟩ := hk
      refine ⟨b, off, op, p, mn, mx, ks', A', c', e, hP, rfl, ?_, hr⟩
      have e8 : off + i * 8 = off + 8 * i := by omega
      unfold KidCells
      rw [e8]
      exact ⟨h0, h1 0 (by omega), h1 1 (by omega), h1 2 (by omega), h1 3 (by omega), h5, h6, h7⟩
theorem KidCells.keep {w w' : World} {b o : Nat} {op : Int} {p : Nat → Bool} {mn mx : Int} {A : Option Addr} {n c : Nat} (h : KidCells w b o op p mn mx A n c) (hk : ∀ x, w'.cell? ⟨b, x, none⟩ = w.cell? ⟨b, x, none⟩) : KidCells w' b o op p mn mx A n c := by
  unfold KidCells at *
  simp only [hk]
  exact h
end Go.Proofs.YtnkiiphliilegaaDoor

/- Plain law of CountMeans: what the kept ages say of the bytes since an arming; no program in sight. -/
import Derived.Test.YtoijilfpfdhppaaKDb
import Derived.Test.YtoijilfpfdhppaaKFa
namespace Go.Proofs.Ytoijilfpfdhppaa

/-- the ages behind a step -/
def stepB (p S : Nat → Bool) (tp : Nat) (stays : Bool) (b : Nat) : Nat → Bool := if p b then growB S tp stays else noneB
/-- an age that is true: so many bytes ago it was armed, and all bytes since are of the set -/
def trueAge (p : Nat → Bool) (f : Nat → Nat) (A : Nat → Bool) (j a : Nat) : Prop := a ≤ j ∧ A (j - a) = true ∧ ∀ x, j - a ≤ x → x < j → p (f x) = true
/-- the kept ages against the true ones: below the top one by one; at the top that one, or all above it too -/
def CapOf (tp : Nat) (stays : Bool) (R : Nat → Prop) (S : Nat → Bool) : Prop :=
  ∀ a, S a = true ↔ (a < tp ∧ R a) ∨ (a = tp ∧ (R tp ∨ (stays = true ∧ ∃ b, tp ≤ b ∧ R b)))

section
variable {tp : Nat} {stays : Bool} {R R' : Nat → Prop} {S : Nat → Bool}
theorem CapOf.congr (h : CapOf tp stays R S) (he : ∀ a, R a ↔ R' a) : CapOf tp stays R' S := by
  have : R = R' := funext fun a => propext (he a)
  exact this ▸ h
theorem CapOf.top (h : CapOf tp stays R S) (a : Nat) (ha : tp < a) : S a = false := by
  cases hs : S a with
  | false => rfl
  | true => rcases (h a).1 hs with ⟨h1, _⟩ | ⟨h1, _⟩ <;> omega
theorem CapOf.none : CapOf tp stays (fun _ => False) noneB := by
  intro a
  constructor
  · intro h; cases h
  · rintro (⟨_, h⟩ | ⟨_, h | ⟨_, _, _, h⟩⟩) <;> exact h.elim
theorem CapOf.arm (h : CapOf tp stays R S) : CapOf tp stays (fun a => R a ∨ a = 0) (addB S 0) := by
  intro a
  simp only [addB, Bool.or_eq_true, decide_eq_true_eq, h a]
  constructor
  · rintro ((⟨h1, h2⟩ | ⟨h1, h2⟩) | rfl)
    · exact Or.inl ⟨h1, Or.inl h2⟩
    · refine Or.inr ⟨h1, ?_⟩
      rcases h2 with h2 | ⟨h2, b, hb, h3⟩
      · exact Or.inl (Or.inl h2)
      · exact Or.inr ⟨h2, b, hb, Or.inl h3⟩
    · rcases Nat.eq_zero_or_pos tp with h0 | h0
      · exact Or.inr ⟨h0.symm, Or.inl (Or.inr h0)⟩
      · exact Or.inl ⟨h0, Or.inr rfl⟩
  · rintro (⟨h1, h2 | h2⟩ | ⟨h1, (h2 | h2) | ⟨h2, b, hb, h3 | h3⟩⟩)
    · exact Or.inl (Or.inl ⟨h1, h2⟩)
    · exact Or.inr h2
    · exact Or.inl (Or.inr ⟨h1, Or.inl h2⟩)
    · exact Or.inr (by omega)
    · exact Or.inl (Or.inr ⟨h1, Or.inr ⟨h2, b, hb, h3⟩⟩)
    · exact Or.inr (by omega)
theorem CapOf.grow (h : CapOf tp stays R S) : CapOf tp stays (fun a => 1 ≤ a ∧ R (a - 1)) (growB S tp stays) := by
  intro a
  simp only [growB, Bool.or_eq_true, Bool.and_eq_true, decide_eq_true_eq, h (a - 1), h tp]
  constructor
  · rintro (⟨⟨h1, h2⟩, h3⟩ | ⟨⟨h1, h2⟩, h3⟩)
    · have hr : R (a - 1) := by
        rcases h2 with ⟨_, h4⟩ | ⟨h4, _⟩
        · exact h4
        · omega
      rcases Nat.lt_or_ge a tp with h5 | h5
      · exact Or.inl ⟨h5, h1, hr⟩
      · have h6 : a = tp := by omega
        exact Or.inr ⟨h6, Or.inl ⟨h6 ▸ h1, h6 ▸ hr⟩⟩
    · refine Or.inr ⟨h3, Or.inr ⟨h1, ?_⟩⟩
      rcases h2 with ⟨h4, _⟩ | ⟨_, h4 | ⟨_, b, hb, h4⟩⟩
      · omega
      · exact ⟨tp + 1, by omega, by omega, h4⟩
      · exact ⟨b + 1, by omega, by omega, h4⟩
  · rintro (⟨h1, h2, h3⟩ | ⟨h1, ⟨h2, h3⟩ | ⟨h2, b, hb, h3, h4⟩⟩)
    · exact Or.inl ⟨⟨h2, Or.inl ⟨by omega, h3⟩⟩, by omega⟩
    · subst h1
      exact Or.inl ⟨⟨h2, Or.inl ⟨by omega, h3⟩⟩, Nat.le_refl _⟩
    · by_cases hbt : b = tp
      · subst h1
        subst hbt
        exact Or.inl ⟨⟨h3, Or.inl ⟨by omega, h4⟩⟩, Nat.le_refl _⟩
      · exact Or.inr ⟨⟨h2, Or.inr ⟨trivial, Or.inr ⟨h2, b - 1, by omega, h4⟩⟩⟩, h1⟩
theorem CapOf.says (h : CapOf tp stays R S) {least most : Int} (hc : (stays = true ∧ most = -1 ∧ (tp : Int) = least) ∨ (stays = false ∧ most = (tp : Int) ∧ least ≤ (tp : Int))) :
    (∃ a : Nat, S a = true ∧ least ≤ (a : Int)) ↔ ∃ a : Nat, R a ∧ least ≤ (a : Int) ∧ (most < 0 ∨ (a : Int) ≤ most) := by
  constructor
  · rintro ⟨a, ha, hla⟩
    rcases (h a).1 ha with ⟨h1, h2⟩ | ⟨h1, h2⟩
    · refine ⟨a, h2, hla, ?_⟩
      rcases hc with hc | hc
      · exact Or.inl (by omega)
      · exact Or.inr (by omega)
    · rcases h2 with h2 | ⟨h2, b, hb, h3⟩
      · refine ⟨tp, h2, by omega, ?_⟩
        rcases hc with hc | hc
        · exact Or.inl (by omega)
        · exact Or.inr (by omega)
      · rcases hc with hc | hc
        · exact ⟨b, h3, by omega, Or.inl (by omega)⟩
        · rw [hc.1] at h2
          cases h2
  · rintro ⟨a, hR, hla, hm⟩
    rcases hc with hc | hc
    · exact ⟨tp, (h tp).2 (Or.inr ⟨rfl, Or.inr ⟨hc.1, a, by omega, hR⟩⟩), by omega⟩
    · rcases Nat.lt_or_ge a tp with h5 | h5
      · exact ⟨a, (h a).2 (Or.inl ⟨h5, hR⟩), hla⟩
      · have h6 : a = tp := by omega
        exact ⟨a, (h a).2 (Or.inr ⟨h6, Or.inl (h6 ▸ hR)⟩), hla⟩
end

section
variable {p : Nat → Bool} {f : Nat → Nat} {A : Nat → Bool} {tp : Nat} {stays : Bool} {S : Nat → Bool}
theorem true_zero (a : Nat) : trueAge p f A 0 a ↔ (a = 0 ∧ A 0 = true) := by
  constructor
  · rintro ⟨h1, h2, _⟩
    have h0 : a = 0 := by omega
    subst h0
    exact ⟨rfl, h2⟩
  · rintro ⟨rfl, h2⟩
    exact ⟨Nat.le_refl _, h2, fun x _ hx => by omega⟩
theorem true_succ (j a : Nat) : trueAge p f A (j + 1) a ↔ (p (f j) = true ∧ 1 ≤ a ∧ trueAge p f A j (a - 1)) ∨ (a = 0 ∧ A (j + 1) = true) := by
  constructor
  · rintro ⟨h1, h2, h3⟩
    rcases Nat.eq_zero_or_pos a with h0 | h0
    · subst h0
      exact Or.inr ⟨rfl, h2⟩
    · refine Or.inl ⟨h3 j (by omega) (by omega), h0, by omega, ?_, fun x hx hx2 => h3 x (by omega) (by omega)⟩
      have e : j - (a - 1) = j + 1 - a := by omega
      rw [e]
      exact h2
  · rintro (⟨h1, h2, h3, h4, h5⟩ | ⟨rfl, h2⟩)
    · have e : j + 1 - a = j - (a - 1) := by omega
      refine ⟨by omega, by rw [e]; exact h4, fun x hx hx2 => ?_⟩
      by_cases hxj : x = j
      · subst hxj; exact h1
      · exact h5 x (by omega) (by omega)
    · exact ⟨Nat.zero_le _, h2, fun x hx hx2 => by omega⟩
theorem cap_start : CapOf tp stays (fun a => 1 ≤ a ∧ trueAge p f A 0 a) noneB :=
  CapOf.none.congr fun a => ⟨fun h => h.elim, fun ⟨h1, h2⟩ => by have := ((true_zero a).1 h2).1; omega⟩
theorem cap_step {j : Nat} (h : CapOf tp stays (trueAge p f A j) S) : CapOf tp stays (fun a => 1 ≤ a ∧ trueAge p f A (j + 1) a) (stepB p S tp stays (f j)) := by
  unfold stepB
  cases hp : p (f j) with
  | true =>
    refine h.grow.congr fun a => ?_
    constructor
    · rintro ⟨h1, h2⟩
      exact ⟨h1, (true_succ j a).2 (Or.inl ⟨hp, h1, h2⟩)⟩
    · rintro ⟨h1, h2⟩
      rcases (true_succ j a).1 h2 with ⟨_, _, h3⟩ | ⟨h3, _⟩
      · exact ⟨h1, h3⟩
      · omega
  | false =>
    refine CapOf.none.congr fun a => ⟨fun h => h.elim, ?_⟩
    rintro ⟨h1, h2⟩
    rcases (true_succ j a).1 h2 with ⟨h3, _⟩ | ⟨h3, _⟩
    · rw [hp] at h3; cases h3
    · omega
theorem cap_arm {j : Nat} (h : CapOf tp stays (fun a => 1 ≤ a ∧ trueAge p f A j a) S) (hA : A j = true) : CapOf tp stays (trueAge p f A j) (addB S 0) := by
  refine h.arm.congr fun a => ?_
  constructor
  · rintro (⟨_, h⟩ | rfl)
    · exact h
    · exact ⟨Nat.zero_le _, hA, fun x hx hx2 => by omega⟩
  · intro h
    rcases Nat.eq_zero_or_pos a with h0 | h0
    · exact Or.inr h0
    · exact Or.inl ⟨h0, h⟩
theorem cap_still {j : Nat} (h : CapOf tp stays (fun a => 1 ≤ a ∧ trueAge p f A j a) S) (hA : A j = false) : CapOf tp stays (trueAge p f A j) S := by
  refine h.congr fun a => ⟨fun h => h.2, fun h => ⟨?_, h⟩⟩
  rcases Nat.eq_zero_or_pos a with h0 | h0
  · subst h0
    have := h.2.1
    rw [Nat.sub_zero, hA] at this
    cases this
  · exact h0

/-- the law's own count: an arming before the i-th that holds now -/
def wantAt (p : Nat → Bool) (f : Nat → Nat) (A : Nat → Bool) (least most : Int) (j i : Nat) : Prop :=
  ∃ x, x < i ∧ x ≤ j ∧ A x = true ∧ least ≤ (j : Int) - x ∧ (most < 0 ∨ (j : Int) - x ≤ most) ∧ ∀ y, x ≤ y → y < j → p (f y) = true
theorem want_zero (least most : Int) (j : Nat) : (false = true) ↔ wantAt p f A least most j 0 := ⟨fun h => (Bool.false_ne_true h).elim, fun ⟨x, h, _⟩ => by omega⟩
theorem want_skip {least most : Int} {j i : Nat} {b : Bool} (h : b = true ↔ wantAt p f A least most j i) (hn : ¬ (A i = true ∧ least ≤ (j : Int) - i ∧ (most < 0 ∨ (j : Int) - i ≤ most))) : b = true ↔ wantAt p f A least most j (i + 1) := by
  rw [h]
  constructor
  · rintro ⟨x, h1, h2⟩
    exact ⟨x, by omega, h2⟩
  · rintro ⟨x, h1, h2, h3, h4, h5, h6⟩
    by_cases hx : x = i
    · subst hx
      exact (hn ⟨h3, h4, h5⟩).elim
    · exact ⟨x, by omega, h2, h3, h4, h5, h6⟩
theorem want_put {least most : Int} {j i : Nat} {b c : Bool} (hij : i ≤ j) (h : b = true ↔ wantAt p f A least most j i) (hy : A i = true ∧ least ≤ (j : Int) - i ∧ (most < 0 ∨ (j : Int) - i ≤ most)) (hc : c = true ↔ ∀ y, i ≤ y → y < j → p (f y) = true) : (b || c) = true ↔ wantAt p f A least most j (i + 1) := by
  rw [Bool.or_eq_true, h, hc]
  constructor
  · rintro (⟨x, h1, h2⟩ | h1)
    · exact ⟨x, by omega, h2⟩
    · exact ⟨i, by omega, hij, hy.1, hy.2.1, hy.2.2, h1⟩
  · rintro ⟨x, h1, h2, h3, h4, h5, h6⟩
    by_cases hx : x = i
    · subst hx
      exact Or.inr h6
    · exact Or.inl ⟨x, by omega, h2, h3, h4, h5, h6⟩
theorem want_end {least most : Int} {j i : Nat} (he : j < i ∨ ∀ x, i ≤ x → A x = false) : wantAt p f A least most j i ↔ ∃ a : Nat, trueAge p f A j a ∧ least ≤ (a : Int) ∧ (most < 0 ∨ (a : Int) ≤ most) := by
  constructor
  · rintro ⟨x, h1, h2, h3, h4, h5, h6⟩
    have e : j - (j - x) = x := by omega
    refine ⟨j - x, ⟨by omega, by rw [e]; exact h3, by rw [e]; exact h6⟩, by omega, ?_⟩
    rcases h5 with h5 | h5
    · exact Or.inl h5
    · exact Or.inr (by omega)
  · rintro ⟨a, ⟨h1, h2, h3⟩, h4, h5⟩
    refine ⟨j - a, ?_, by omega, h2, by omega, ?_, h3⟩
    · rcases he with he | he
      · omega
      · refine Nat.lt_of_not_le fun hle => ?_
        rw [he _ hle] at h2
        cases h2
    · rcases h5 with h5 | h5
      · exact Or.inl h5
      · exact Or.inr (by omega)
/-- what Done says is what the law wants -/
theorem means_same {least most : Int} {j i : Nat} {d b : Bool} (hS : CapOf tp stays (trueAge p f A j) S) (hc : (stays = true ∧ most = -1 ∧ (tp : Int) = least) ∨ (stays = false ∧ most = (tp : Int) ∧ least ≤ (tp : Int)))
    (hd : d = true ↔ ∃ a : Nat, S a = true ∧ least ≤ (a : Int)) (hb : b = true ↔ wantAt p f A least most j i) (he : j < i ∨ ∀ x, i ≤ x → A x = false) : d = b := by
  rw [hS.says hc, ← want_end he, ← hb] at hd
  cases d <;> cases b <;> simp_all
end
end Go.Proofs.Ytoijilfpfdhppaa

/- Plain mathematics of the counters: the ages that a list of moments, and the greatest age alone, stand for. -/
import Derived.Test.YtoijilfpfdhppaaKEf
import Derived.Test.YtoijilfpfdhppaaKEg
namespace Go.Proofs.Ytoijilfpfdhppaa
open Go.RowKit

/-- moments in order, none older than tp -/
structure RingInv (tp : Nat) (now : Int) (M : List Int) : Prop where
  order : M.Pairwise (· < ·)
  inside : ∀ m ∈ M, 0 ≤ m ∧ m ≤ now ∧ now - m ≤ (tp : Int)
def RingAges (now : Int) (M : List Int) (S : Nat → Bool) : Prop := ∀ a : Nat, S a = true ↔ now - (a : Int) ∈ M

theorem order_len : ∀ (M : List Int) (lo hi : Int), M.Pairwise (· < ·) → (∀ m ∈ M, lo ≤ m ∧ m ≤ hi) → lo ≤ hi + 1 → (M.length : Int) ≤ hi - lo + 1
  | [], lo, hi, _, _, h => by simp; omega
  | m :: M, lo, hi, hp, hm, h => by
    obtain ⟨h1, h2⟩ := List.pairwise_cons.1 hp
    have hm0 := hm m (by simp)
    have := order_len M (m + 1) hi h2 (fun x hx => ⟨h1 x hx, (hm x (by simp [hx])).2⟩) (by omega)
    simp only [List.length_cons]
    omega
theorem RingInv.len {tp : Nat} {now : Int} {M : List Int} (h : RingInv tp now M) : (M.length : Int) ≤ (tp : Int) + 1 := by
  have := order_len M (now - tp) now h.order (fun m hm => by have := h.inside m hm; omega) (by omega)
  omega
theorem RingInv.none (tp : Nat) (now : Int) : RingInv tp now [] := ⟨List.Pairwise.nil, by simp⟩

theorem arm_inv {tp : Nat} {now : Int} {M : List Int} (h : RingInv tp now M) (hn : 0 ≤ now) : RingInv tp now (ringArm now M) := by
  unfold ringArm
  split
  · exact ⟨by simp, by simp; omega⟩
  · rename_i m hm
    obtain ⟨ys, rfl⟩ := List.getLast?_eq_some_iff.1 hm
    split
    · rename_i hlt
      refine ⟨List.pairwise_append.2 ⟨h.order, by simp, fun x hx y hy => ?_⟩, fun x hx => ?_⟩
      · simp only [List.mem_singleton] at hy
        subst hy
        rcases List.mem_append.1 hx with hx | hx
        · have := (List.pairwise_append.1 h.order).2.2 x hx m (by simp)
          omega
        · simp only [List.mem_singleton] at hx
          omega
      · rcases List.mem_append.1 hx with hx | hx
        · exact h.inside x hx
        · simp only [List.mem_singleton] at hx
          omega
    · exact h
theorem arm_ages {tp : Nat} {now : Int} {M : List Int} {S : Nat → Bool} (h : RingInv tp now M) (ha : RingAges now M S) : RingAges now (ringArm now M) (addB S 0) := by
  intro a
  unfold addB
  rw [Bool.or_eq_true, decide_eq_true_eq, ha a]
  unfold ringArm
  split
  · rename_i hm
    have hM : M = [] := List.getLast?_eq_none_iff.1 hm
    subst hM
    simp
    omega
  · rename_i m hm
    obtain ⟨ys, rfl⟩ := List.getLast?_eq_some_iff.1 hm
    have hmi := h.inside m (by simp)
    split
    · rw [List.mem_append (s := ys ++ [m])]
      simp only [List.mem_singleton]
      constructor
      · rintro (h | rfl)
        · exact .inl h
        · exact .inr (by omega)
      · rintro (h | h)
        · exact .inl h
        · exact .inr (by omega)
    · constructor
      · rintro (h | rfl)
        · exact h
        · have : m = now := by omega
          subst this
          simp
      · exact .inl

theorem ringGrow_cons (tp : Int) (stays : Bool) (now m : Int) (M : List Int) : ringGrow tp stays now (m :: M) = if now - m ≤ tp then m :: M else if stays then (match M with
    | [] => [m + 1]
    | k :: M' => if m + 1 < k then (m + 1) :: k :: M' else k :: M') else M := rfl
theorem grow_all {tp : Nat} {now : Int} {M : List Int} {S : Nat → Bool} (stays : Bool) (h : RingInv tp now M) (ha : RingAges now M S) :
    RingInv tp (now + 1) (ringGrow tp stays (now + 1) M) ∧ RingAges (now + 1) (ringGrow tp stays (now + 1) M) (growB S tp stays) := by
  have hg : ∀ a : Nat, growB S tp stays a = true ↔ ((1 ≤ a ∧ a ≤ tp ∧ now + 1 - (a : Int) ∈ M) ∨ (stays = true ∧ now - (tp : Int) ∈ M ∧ a = tp)) := by
    intro a
    unfold growB
    rw [Bool.or_eq_true, Bool.and_eq_true, Bool.and_eq_true, Bool.and_eq_true, Bool.and_eq_true, decide_eq_true_eq, decide_eq_true_eq, decide_eq_true_eq, ha tp]
    constructor
    · rintro (⟨⟨h1, h2⟩, h3⟩ | ⟨⟨h1, h2⟩, h3⟩)
      · refine .inl ⟨h1, h3, ?_⟩
        have := (ha (a - 1)).1 h2
        rwa [show now - ((a - 1 : Nat) : Int) = now + 1 - (a : Int) from by omega] at this
      · exact .inr ⟨h1, h2, h3⟩
    · rintro (⟨h1, h2, h3⟩ | ⟨h1, h2, h3⟩)
      · refine .inl ⟨⟨h1, (ha (a - 1)).2 ?_⟩, h2⟩
        rwa [show now - ((a - 1 : Nat) : Int) = now + 1 - (a : Int) from by omega]
      · exact .inr ⟨⟨h1, h2⟩, h3⟩
  match M, h, hg with
  | [], h, hg => exact ⟨RingInv.none tp _, fun a => by rw [hg a]; simp [ringGrow]⟩
  | m :: M, h, hg =>
    obtain ⟨hp1, hp2⟩ := List.pairwise_cons.1 h.order
    have hm := h.inside m (by simp)
    have hM : ∀ x ∈ M, m < x ∧ x ≤ now := fun x hx => ⟨hp1 x hx, (h.inside x (by simp [hx])).2.1⟩
    rw [ringGrow_cons]
    by_cases hk : now + 1 - m ≤ tp
    · rw [if_pos hk]
      refine ⟨⟨h.order, fun x hx => ?_⟩, fun a => ?_⟩
      · rcases List.mem_cons.1 hx with rfl | hx
        · omega
        · have := hM x hx; omega
      · rw [hg a]
        constructor
        · rintro (⟨_, _, h3⟩ | ⟨_, h2, _⟩)
          · exact h3
          · rcases List.mem_cons.1 h2 with h2 | h2
            · omega
            · have := hM _ h2; omega
        · intro hin
          left
          rcases List.mem_cons.1 hin with h2 | h2
          · exact ⟨by omega, by omega, hin⟩
          · have := hM _ h2
            exact ⟨by omega, by omega, hin⟩
    · rw [if_neg hk]
      have hmt : m = now - tp := by omega
      cases stays with
      | false =>
        simp only [Bool.false_eq_true, if_false, false_and, or_false] at hg ⊢
        refine ⟨⟨hp2, fun x hx => by have := hM x hx; omega⟩, fun a => ?_⟩
        rw [hg a]
        constructor
        · rintro ⟨h1, h2, h3⟩
          rcases List.mem_cons.1 h3 with h3 | h3
          · omega
          · exact h3
        · intro hin
          have := hM _ hin
          exact ⟨by omega, by omega, List.mem_cons_of_mem _ hin⟩
      | true =>
        simp only [if_true, true_and] at hg ⊢
        have hmem : now - (tp : Int) ∈ m :: M := by rw [← hmt]; simp
        match M, hp1, hp2, hM, hg, hmem with
        | [], hp1, hp2, hM, hg, hmem =>
          refine ⟨⟨by simp, fun x hx => by simp at hx; omega⟩, fun a => ?_⟩
          rw [hg a]
          simp only [List.mem_singleton]
          constructor
          · rintro (⟨h1, h2, h3⟩ | ⟨h1, h2⟩) <;> omega
          · intro h1
            exact .inr ⟨by omega, by omega⟩
        | k :: M', hp1, hp2, hM, hg, hmem =>
          have hkm := hM k (by simp)
          obtain ⟨hq1, hq2⟩ := List.pairwise_cons.1 hp2
          have hM' : ∀ x ∈ M', k < x ∧ x ≤ now := fun x hx => ⟨hq1 x hx, (hM x (by simp [hx])).2⟩
          simp only
          by_cases hlt : m + 1 < k
          · rw [if_pos hlt]
            refine ⟨⟨List.pairwise_cons.2 ⟨fun x hx => ?_, hp2⟩, fun x hx => ?_⟩, fun a => ?_⟩
            · rcases List.mem_cons.1 hx with rfl | hx
              · omega
              · have := hM' x hx; omega
            · rcases List.mem_cons.1 hx with rfl | hx
              · omega
              · have := hM x hx; omega
            · rw [hg a]
              constructor
              · rintro (⟨h1, h2, h3⟩ | ⟨h1, rfl⟩)
                · rcases List.mem_cons.1 h3 with h3 | h3
                  · omega
                  · exact List.mem_cons_of_mem _ h3
                · exact List.mem_cons.2 (.inl (by omega))
              · intro hin
                rcases List.mem_cons.1 hin with h3 | h3
                · exact .inr ⟨hmem, by omega⟩
                · have := hM _ h3
                  exact .inl ⟨by omega, by omega, List.mem_cons_of_mem _ h3⟩
          · rw [if_neg hlt]
            have hk1 : k = m + 1 := by omega
            refine ⟨⟨hp2, fun x hx => by have := hM x hx; omega⟩, fun a => ?_⟩
            rw [hg a]
            constructor
            · rintro (⟨h1, h2, h3⟩ | ⟨h1, rfl⟩)
              · rcases List.mem_cons.1 h3 with h3 | h3
                · omega
                · exact h3
              · exact List.mem_cons.2 (.inl (by omega))
            · intro hin
              have := hM _ hin
              exact .inl ⟨by omega, by omega, List.mem_cons_of_mem _ hin⟩

theorem done_ages {tp : Nat} {now least : Int} {M : List Int} {S : Nat → Bool} (h : RingInv tp now M) (ha : RingAges now M S) : ringDone least now M = true ↔ ∃ a : Nat, S a = true ∧ least ≤ (a : Int) := by
  match M, h, ha with
  | [], h, ha =>
    simp only [ringDone, Bool.false_eq_true, false_iff]
    rintro ⟨a, h1, _⟩
    have := (ha a).1 h1
    simp at this
  | m :: M, h, ha =>
    have hm := h.inside m (by simp)
    simp only [ringDone, decide_eq_true_eq]
    constructor
    · intro hl
      refine ⟨(now - m).toNat, (ha _).2 ?_, by omega⟩
      rw [show now - (((now - m).toNat : Nat) : Int) = m from by omega]
      simp
    · rintro ⟨a, h1, h2⟩
      rcases List.mem_cons.1 ((ha a).1 h1) with h3 | h3
      · omega
      · have := (List.pairwise_cons.1 h.order).1 _ h3
        omega

/-- the greatest age alone -/
structure SpanRel (tp : Nat) (e : Int) (S : Nat → Bool) : Prop where
  low : -1 ≤ e
  high : e ≤ tp
  most : ∀ a : Nat, S a = true → (a : Int) ≤ e
  there : 0 ≤ e → S e.toNat = true
theorem SpanRel.none (tp : Nat) : SpanRel tp (-1) noneB := ⟨by omega, by omega, (fun a h => by cases h), (fun h => by omega)⟩
theorem SpanRel.arm {tp : Nat} {e : Int} {S : Nat → Bool} (h : SpanRel tp e S) : SpanRel tp (if e < 0 then 0 else e) (addB S 0) := by
  obtain ⟨h1, h2, h3, h4⟩ := h
  refine ⟨by split <;> omega, by split <;> omega, fun a ha => ?_, fun _ => ?_⟩
  · unfold addB at ha
    rw [Bool.or_eq_true, decide_eq_true_eq] at ha
    rcases ha with ha | rfl
    · have := h3 a ha
      split <;> omega
    · split <;> omega
  · unfold addB
    rw [Bool.or_eq_true, decide_eq_true_eq]
    split
    · exact .inr rfl
    · exact .inl (h4 (by omega))
theorem SpanRel.grow {tp : Nat} {e : Int} {S : Nat → Bool} (h : SpanRel tp e S) : SpanRel tp (if e < 0 then e else if e + 1 ≤ tp then e + 1 else tp) (growB S tp true) := by
  obtain ⟨h1, h2, h3, h4⟩ := h
  have hg : ∀ a : Nat, growB S tp true a = true ↔ ((1 ≤ a ∧ S (a - 1) = true ∧ a ≤ tp) ∨ (S tp = true ∧ a = tp)) := by
    intro a
    simp only [growB, Bool.or_eq_true, Bool.and_eq_true, decide_eq_true_eq, true_and, and_assoc]
  by_cases he : e < 0
  · rw [if_pos he]
    refine ⟨h1, h2, fun a ha => ?_, fun h => by omega⟩
    rcases (hg a).1 ha with ⟨_, h5, _⟩ | ⟨h5, _⟩
    · have := h3 _ h5; omega
    · have := h3 _ h5; omega
  · rw [if_neg he]
    have h5 := h4 (by omega)
    by_cases hm : e + 1 ≤ tp
    · rw [if_pos hm]
      refine ⟨by omega, by omega, fun a ha => ?_, fun _ => (hg _).2 (.inl ⟨by omega, ?_, by omega⟩)⟩
      · rcases (hg a).1 ha with ⟨_, h6, _⟩ | ⟨h6, rfl⟩
        · have := h3 _ h6; omega
        · have := h3 _ h6; omega
      · rwa [show (e + 1).toNat - 1 = e.toNat from by omega]
    · rw [if_neg hm]
      refine ⟨by omega, by omega, fun a ha => ?_, fun _ => (hg _).2 (.inr ⟨?_, by omega⟩)⟩
      · rcases (hg a).1 ha with ⟨_, _, h6⟩ | ⟨_, rfl⟩ <;> omega
      · rwa [show e.toNat = tp from by omega] at h5
theorem SpanRel.done {tp : Nat} {e least : Int} {S : Nat → Bool} (h : SpanRel tp e S) (hl : 0 ≤ least) : decide (least ≤ e) = true ↔ ∃ a : Nat, S a = true ∧ least ≤ (a : Int) := by
  obtain ⟨h1, h2, h3, h4⟩ := h
  rw [decide_eq_true_eq]
  constructor
  · intro hle
    exact ⟨e.toNat, h4 (by omega), by omega⟩
  · rintro ⟨a, h5, h6⟩
    have := h3 a h5
    omega
end Go.Proofs.Ytoijilfpfdhppaa

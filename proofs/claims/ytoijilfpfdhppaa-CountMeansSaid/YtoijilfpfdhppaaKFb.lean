/- The ring engine's grow in one; the three engines under one roof: arm, grow, clear, done. -/
import Derived.Test.YtoijilfpfdhppaaKFa
namespace Go.Proofs.Ytoijilfpfdhppaa
open Go.RowKit

theorem ring_grow (g tp : Nat) (stays : Bool) (now : Int) (M : List Int) (hi : RingInv tp now M) (hn : 0 ≤ now ∧ now ≤ 80000) (ht : tp ≤ 400) (w : World) (h : RingAt w g (tp : Int) stays now M) :
    Calls Try.prog 52 #[.pointer (some ⟨g, 0, none⟩)] w (Ended (RingNow g (tp : Int) stays (now + 1) (ringGrow (tp : Int) stays (now + 1) M) w)) := by
  have hlen := hi.len
  obtain ⟨hn1, hn2⟩ := hn
  match M, hi, h, hlen with
  | [], hi, h, _ => exact ring_grow_nil g tp stays now ⟨hn1, by omega⟩ w h
  | m :: M, hi, h, hlen =>
    have hm := hi.inside m (by simp)
    simp only [List.length_cons] at hlen
    rw [ringGrow_cons]
    by_cases hk : now + 1 - m ≤ tp
    · rw [if_pos hk]
      exact ring_grow_keep g tp stays now m M ⟨hn1, by omega⟩ ⟨by omega, by omega⟩ hk (by omega) w h
    · rw [if_neg hk]
      obtain ⟨v, hb, hr⟩ := h
      obtain ⟨A, c, rfl, hle, _, _⟩ := id hr
      match M, hi, hlen, hb, hr, hle with
      | [], hi, hlen, hb, hr, hle =>
        cases stays with
        | false =>
          simp only [Bool.false_eq_true, if_false]
          by_cases hc : c = 1
          · exact ring_drop_one g tp now m ⟨hn1, by omega⟩ ⟨by omega, by omega⟩ (by omega) c A hc w hb hr
          · exact ring_drop_last g tp now m ⟨hn1, by omega⟩ ⟨by omega, by omega⟩ (by omega) c A hc w hb hr
        | true =>
          simp only [if_true]
          by_cases hc : c = 1
          · exact ring_put_one g tp now m ⟨hn1, by omega⟩ ⟨by omega, by omega⟩ (by omega) (by omega) c A hc w hb hr
          · exact ring_put_last g tp now m ⟨hn1, by omega⟩ ⟨by omega, by omega⟩ (by omega) (by omega) c A hc w hb hr
      | k :: M, hi, hlen, hb, hr, hle =>
        have hkm := (List.pairwise_cons.1 hi.order).1 k (by simp)
        have hki := hi.inside k (by simp)
        simp only [List.length_cons] at hlen hle hb hr
        have hc : ¬ c = 1 := by omega
        cases stays with
        | false =>
          simp only [Bool.false_eq_true, if_false]
          exact ring_drop g tp now m k M ⟨by omega, by omega⟩ (M.length + 1 + 1) rfl (by omega) ⟨hn1, by omega⟩ ⟨by omega, by omega⟩ (by omega) (by omega) c A hc w hb hr
        | true =>
          simp only [if_true]
          by_cases hlt : m + 1 < k
          · rw [if_pos hlt]
            exact ring_put g tp now m k M ⟨by omega, by omega⟩ (M.length + 1 + 1) rfl (by omega) ⟨hn1, by omega⟩ ⟨by omega, by omega⟩ (by omega) (by omega) hlt c A hc w hb hr
          · rw [if_neg hlt]
            exact ring_meet g tp now m k M ⟨by omega, by omega⟩ (M.length + 1 + 1) rfl (by omega) ⟨hn1, by omega⟩ ⟨by omega, by omega⟩ (by omega) (by omega) hlt c A hc w hb hr

/-- the three engines: 0 bits, 1 ring, 2 span; S: the ages that it keeps -/
def EngAt (w : World) (kind g tp : Nat) (stays : Bool) (S : Nat → Bool) (steps : Nat) : Prop :=
  match kind with
  | 0 => BitsAt w g (tp : Int) stays S
  | 1 => ∃ now M, RingAt w g (tp : Int) stays now M ∧ RingInv tp now M ∧ RingAges now M S ∧ 0 ≤ now ∧ now ≤ (steps : Int)
  | _ => ∃ e, Blk w g 56 (spanCells (tp : Int) stays e) ∧ SpanRel tp e S ∧ stays = true
def engType (kind : Nat) : TypeId := match kind with | 0 => 46 | 1 => 50 | _ => 54
def engArm (kind : Nat) : FuncId := match kind with | 0 => 30 | 1 => 49 | _ => 60
def engGrow (kind : Nat) : FuncId := match kind with | 0 => 33 | 1 => 52 | _ => 63
def engClear (kind : Nat) : FuncId := match kind with | 0 => 31 | 1 => 50 | _ => 61
def engDone (kind : Nat) : FuncId := match kind with | 0 => 32 | 1 => 51 | _ => 62
/-- every block but one is as it was -/
def Keeps (g : Nat) (w w' : World) : Prop := ∀ (b : Nat) (t : TypeId) (cs : Array Value), b ≠ g → Blk w b t cs → Blk w' b t cs
theorem keeps_of_grown {w w' : World} {g : Nat} (hg : w.grownBy w' (some g)) : Keeps g w w' := fun _ _ _ hne hb => hb.grown hg (fun h => hne (Option.some.inj h))
theorem Keeps.after {w w1 w' : World} {g : Nat} (h : Keeps g w1 w') (hb : Below w.heap.size w w1) : Keeps g w w' := fun b t cs hne hk => h b t cs hne (hk.below hb hk.lt)
def EngNow (kind g tp : Nat) (stays : Bool) (S : Nat → Bool) (steps : Nat) (w w' : World) : Prop := EngAt w' kind g tp stays S steps ∧ Below g w w' ∧ (kind = 0 → Keeps g w w')
theorem EngAt.lt {w : World} {kind g tp steps : Nat} {stays : Bool} {S : Nat → Bool} (h : EngAt w kind g tp stays S steps) : g < w.heap.size := by
  match kind, h with
  | 0, h =>
    obtain ⟨v, n, h1, _⟩ := h
    exact h1.lt
  | 1, h =>
    obtain ⟨now, M, ⟨v, h1, _⟩, _⟩ := h
    exact h1.lt
  | _ + 2, h =>
    obtain ⟨e, h1, _⟩ := h
    exact h1.lt
theorem EngAt.below {w w' : World} {kind g tp steps : Nat} {stays : Bool} {S : Nat → Bool} (h : EngAt w kind g tp stays S steps) (hb : Below w.heap.size w w') : EngAt w' kind g tp stays S steps := by
  match kind, h with
  | 0, h => exact BitsAt.below h hb
  | 1, h =>
    obtain ⟨now, M, h1, h2⟩ := h
    exact ⟨now, M, h1.below hb, h2⟩
  | _ + 2, h =>
    obtain ⟨e, h1, h2⟩ := h
    exact ⟨e, h1.below hb h1.lt, h2⟩
theorem EngAt.later {w : World} {kind g tp steps steps' : Nat} {stays : Bool} {S : Nat → Bool} (h : EngAt w kind g tp stays S steps) (hs : steps ≤ steps') : EngAt w kind g tp stays S steps' := by
  match kind, h with
  | 0, h => exact h
  | 1, h =>
    obtain ⟨now, M, h1, h2, h3, h4, h5⟩ := h
    exact ⟨now, M, h1, h2, h3, h4, by omega⟩
  | _ + 2, h => exact h
theorem below_of_grown {w w' : World} {g : Nat} (hg : w.grownBy w' (some g)) (hlt : g < w.heap.size) : Below g w w' :=
  (Below.refl g w).grown hg (by omega) (fun k hk => by cases hk; exact Nat.le_refl _)

theorem eng_arm (kind g tp : Nat) (stays : Bool) (S : Nat → Bool) (steps : Nat) (hs : steps ≤ 80000) (ht : tp ≤ 400) (hS : ∀ a, tp < a → S a = false) (w : World) (h : EngAt w kind g tp stays S steps) :
    Calls Try.prog (engArm kind) #[.pointer (some ⟨g, 0, none⟩)] w (Ended (EngNow kind g tp stays (addB S 0) steps w)) := by
  have hlt := h.lt
  match kind, h with
  | 0, h =>
    refine (bits_arm g tp stays S (fun a ha => hS a (by omega)) w h).mono ?_
    rintro e w' ⟨hu, h1, h2⟩
    exact ⟨hu, h1, below_of_grown h2 hlt, fun _ => keeps_of_grown h2⟩
  | 1, h =>
    obtain ⟨now, M, h1, h2, h3, h4, h5⟩ := h
    have hl := h2.len
    refine (ring_arm g tp stays now M ⟨h4, by omega⟩ (fun m hm => by have := h2.inside m hm; omega) (by omega) w h1).mono ?_
    rintro e w' ⟨hu, k1, k2⟩
    exact ⟨hu, ⟨now, _, k1, arm_inv h2 h4, arm_ages h2 h3, h4, h5⟩, k2, fun h0 => by cases h0⟩
  | _ + 2, h =>
    obtain ⟨e0, h1, h2, h3⟩ := h
    refine (span_arm g tp e0 stays w h1).mono ?_
    rintro e w' ⟨hu, k1, k2⟩
    exact ⟨hu, ⟨_, k1, h2.arm, h3⟩, below_of_grown k2 hlt, fun h0 => by omega⟩
theorem eng_clear (kind g tp : Nat) (stays : Bool) (S : Nat → Bool) (steps : Nat) (w : World) (h : EngAt w kind g tp stays S steps) :
    Calls Try.prog (engClear kind) #[.pointer (some ⟨g, 0, none⟩)] w (Ended (EngNow kind g tp stays noneB steps w)) := by
  have hlt := h.lt
  match kind, h with
  | 0, h =>
    refine (bits_clear g tp stays S w h).mono ?_
    rintro e w' ⟨hu, h1, h2⟩
    exact ⟨hu, h1, below_of_grown h2 hlt, fun _ => keeps_of_grown h2⟩
  | 1, h =>
    obtain ⟨now, M, h1, h2, h3, h4, h5⟩ := h
    refine (ring_clear g tp stays now M w h1).mono ?_
    rintro e w' ⟨hu, k1, k2⟩
    exact ⟨hu, ⟨now, [], k1, RingInv.none tp now, (fun a => by simp [noneB]), h4, h5⟩, k2, fun h0 => by cases h0⟩
  | _ + 2, h =>
    obtain ⟨e0, h1, h2, h3⟩ := h
    refine (span_clear g tp e0 stays w h1).mono ?_
    rintro e w' ⟨hu, k1, k2⟩
    exact ⟨hu, ⟨_, k1, SpanRel.none tp, h3⟩, below_of_grown k2 hlt, fun h0 => by omega⟩
theorem eng_grow (kind g tp : Nat) (stays : Bool) (S : Nat → Bool) (steps : Nat) (hs : steps ≤ 70000) (ht : tp ≤ 400) (w : World) (h : EngAt w kind g tp stays S steps) :
    Calls Try.prog (engGrow kind) #[.pointer (some ⟨g, 0, none⟩)] w (Ended (EngNow kind g tp stays (growB S tp stays) (steps + 1) w)) := by
  have hlt := h.lt
  match kind, h with
  | 0, h =>
    refine (bits_grow g tp stays S ht w h).mono ?_
    rintro e w' ⟨hu, h1, h2⟩
    exact ⟨hu, h1, below_of_grown h2 hlt, fun _ => keeps_of_grown h2⟩
  | 1, h =>
    obtain ⟨now, M, h1, h2, h3, h4, h5⟩ := h
    refine (ring_grow g tp stays now M h2 ⟨h4, by omega⟩ ht w h1).mono ?_
    rintro e w' ⟨hu, k1, k2⟩
    obtain ⟨k3, k4⟩ := grow_all stays h2 h3
    exact ⟨hu, ⟨now + 1, _, k1, k3, k4, by omega, by omega⟩, k2, fun h0 => by cases h0⟩
  | _ + 2, h =>
    obtain ⟨e0, h1, h2, rfl⟩ := h
    refine (span_grow g tp e0 true h2.low (by have := h2.high; omega) w h1).mono ?_
    rintro e w' ⟨hu, k1, k2⟩
    exact ⟨hu, ⟨_, k1, h2.grow, rfl⟩, below_of_grown k2 hlt, fun h0 => by omega⟩
theorem eng_done (kind g tp : Nat) (stays : Bool) (S : Nat → Bool) (steps : Nat) (hs : steps ≤ 80000) (ht : tp ≤ 400) (least : Int) (hl : 0 ≤ least ∧ least ≤ 1000) (w : World) (h : EngAt w kind g tp stays S steps) :
    Calls Try.prog (engDone kind) #[.pointer (some ⟨g, 0, none⟩), .int .i64 least] w (SaysDone S least w) := by
  match kind, h with
  | 0, h => exact bits_done g tp least stays S (by omega) w h
  | 1, h =>
    obtain ⟨now, M, h1, h2, h3, h4, h5⟩ := h
    refine (ring_done g tp least stays now M ⟨h4, by omega⟩ (fun m hm => by have := h2.inside m hm; omega) w h1).mono ?_
    rintro e w' ⟨rfl, k2⟩
    exact ⟨_, rfl, done_ages h2 h3, k2⟩
  | _ + 2, h =>
    obtain ⟨e0, h1, h2, h3⟩ := h
    refine (span_done g tp e0 least stays w h1).mono ?_
    rintro e w' ⟨rfl, rfl⟩
    exact ⟨_, rfl, h2.done hl.1, Below.refl _ _⟩
end Go.Proofs.Ytoijilfpfdhppaa

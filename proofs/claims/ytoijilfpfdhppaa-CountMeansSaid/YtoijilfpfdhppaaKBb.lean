/- Walks of slices.Clone of words, riddleref01.Copy and bits.Trim. -/
import Derived.Test.YtoijilfpfdhppaaKBa
namespace Go.Proofs.Ytoijilfpfdhppaa
open Go.RowKit

/-- how long a row of words may be for append's and make's own bounds: more than any argument of a row is -/
def many : Nat := 20000000000000

theorem rd_cells {w : World} {B : Nat} {ad : Addr} {L : List Value} (h : Rd w B (some ad) L) : ∀ j u, L[j]? = some u → w.cell? (ad.add j) = some u := by
  intro j u hj
  obtain ⟨b, o, e, _, hc⟩ := h (by rintro rfl; simp at hj)
  obtain rfl := Option.some.inj e
  have := hc j u hj
  unfold Addr.add
  by_cases hj0 : j = 0
  · subst hj0
    simpa using this
  · simpa [hj0] using this

theorem clone_any (L : List Nat) (hlen : L.length ≤ many) (A : Option Addr) (c : Nat) (w : World) (h : Rd w w.heap.size A (u64s L)) :
    Calls Try.prog 45 #[.slice A L.length c] w (GaveW L w) := by
  obtain ⟨i0, hi, hz0, hz1, hz2⟩ := word_parts
  unfold many at hlen
  cases A with
  | none =>
    have hL : L = [] := by
      cases L with
      | nil => rfl
      | cons x L =>
        obtain ⟨b, o, e, _⟩ := h (by simp [u64s])
        cases e
    subst hL
    have he : ∀ w : World, (binOp .eql 47 (.slice none 0 c) (.slice none 0 0)).run Try.prog w = .ok (.bool true) w := fun _ => rfl
    show Calls Try.prog 45 #[.slice none 0 c] w (GaveW [] w)
    go_enter Try.func45, Try.ntmps45
    go_wp2
    go_ret
    exact ⟨_, rfl, ⟨rfl, .inl ⟨rfl, rfl⟩⟩, Below.refl _ _⟩
  | some ad =>
    have Hown : Hid ((w.alloc (.cells #[] 22)).ownsRow w.heap.size 22 1 (.slice (some ⟨w.heap.size, 0, none⟩) 0 0) 0 []) := by
      have := World.ownsRow_lit (base := w.heap.size) (e := 22) (size := 1) w #[] 0 (by simp) (by unfold maxLen; omega) rfl
      exact this
    have he : ∀ w : World, (binOp .eql 47 (.slice (some ad) L.length c) (.slice none 0 0)).run Try.prog w = .ok (.bool false) w := fun _ => rfl
    have hb0 : Below w.heap.size w (w.alloc (.cells #[] 22)) := (Below.refl _ _).alloc (Nat.le_refl _) _
    have Hc := Lib.hid (rd_cells (h.below hb0 (Nat.le_refl _)))
    go_enter Try.func45, Try.ntmps45
    go_wp2_with (at_builtin; refine wpList_append_own_wide _ rfl _ _ _ rfl w.heap.size 22 i0 _ 1 8 Try.underlying47 hi hz0 hz1 hz2 rfl (by decide) _ 0 [] rfl Hown.out ad L.length c (u64s L) rfl ?c1 ?c2 (u64s_one L) ?c3 ?c4 ?c5 ?_)
    case c1 => rw [u64s_length]; omega
    case c2 => exact Hc.out
    case c3 => unfold maxLen; omega
    case c4 => omega
    case c5 => simp
    intro v' w1 hown1 hgr _
    have hb1 := below_own hb0 hgr Hown.out (Nat.le_refl _) (by simp)
    clear hb0 hgr
    go_wp2
    go_ret
    exact ⟨_, rfl, hown1, hb1⟩

/-- a slice that reads as the first n words of f, and f has nothing behind them -/
structure Vec (w : World) (A : Option Addr) (n c : Nat) (f : Nat → Bool) : Prop where
  rd : Rd w w.heap.size A (u64s (vw f n))
  cap : n ≤ c
  sup : Sup f n
  few : n ≤ many
theorem Vec.below {w w' : World} {A : Option Addr} {n c : Nat} {f : Nat → Bool} (h : Vec w A n c f) (hb : Below w.heap.size w w') : Vec w' A n c f :=
  ⟨(h.rd.below hb (Nat.le_refl _)).more hb.size, h.cap, h.sup, h.few⟩

/-- a call gave the vector f in its one form, in a row of its own; N words are enough for f -/
def GaveV (f : Nat → Bool) (N : Nat) (w : World) (e : Ending) (w' : World) : Prop :=
  ∃ A c, e = .returned (.slice A (top f N) c) ∧ Vec w' A (top f N) c f ∧ w'.ownsRow w.heap.size 22 1 (.slice A (top f N) c) (top f N) (u64s (vw f (top f N))) ∧ Below w.heap.size w w'
theorem GaveV.congr {f g : Nat → Bool} {N M : Nat} {w w' : World} {e : Ending} (h : GaveV f N w e w') (hf : Sup f N) (hg : Sup g M) (hfg : ∀ i, f i = g i) : GaveV g M w e w' := by
  obtain rfl : f = g := funext hfg
  unfold GaveV
  rw [top_ext hg hf]
  exact h
theorem own_cap {w : World} {base : Nat} {e : TypeId} {s n c : Nat} {A : Option Addr} {xs : List Value} (h : w.ownsRow base e s (.slice A n c) n xs) : n ≤ c := by
  rcases h.2 with ⟨h', _⟩ | ⟨g, cap, cur, h', _, hh, hnc, _⟩
  · simp only [Value.slice.injEq] at h'
    omega
  · simp only [Value.slice.injEq] at h'
    omega

theorem Rd.short {w : World} {B : Nat} {A : Option Addr} {f : Nat → Bool} {n k : Nat} (h : Rd w B A (u64s (vw f n))) (hk : k ≤ n) : Rd w B A (u64s (vw f k)) := fun hne => by
  have h0 : 0 < k := by
    cases k with
    | zero => exact absurd rfl hne
    | succ k => omega
  obtain ⟨b, o, e, hb, hc⟩ := h (by
    intro he
    have := congrArg List.length he
    rw [u64s_length, vw_length] at this
    simp at this
    omega)
  refine ⟨b, o, e, hb, fun j v hj => ?_⟩
  have hj2 := (List.getElem?_eq_some_iff.1 hj).1
  rw [u64s_length, vw_length] at hj2
  rw [vw_cell f k j hj2] at hj
  exact hc j v ((vw_cell f n j (by omega)).trans hj)

theorem clone_top (f : Nat → Bool) (n k : Nat) (A : Option Addr) (c : Nat) (w : World) (h : Vec w A n c f) (hk : top f n = k) :
    Calls Try.prog 45 #[.slice A k c] w (GaveV f n w) := by
  subst hk
  have hle := top_le f n
  have h0 := clone_any (vw f (top f n)) (by rw [vw_length]; exact Nat.le_trans hle h.few) A c w (by exact h.rd.short hle)
  rw [vw_length] at h0
  refine h0.mono ?_
  intro e w' hg
  obtain ⟨A', c', rfl, hown, hrd, hb⟩ := gave_words hg
  rw [vw_length] at *
  exact ⟨A', c', rfl, ⟨hrd, own_cap hown, top_sup h.sup, Nat.le_trans hle h.few⟩, hown, hb⟩

theorem trim_any (f : Nat → Bool) (n : Nat) (A : Option Addr) (c : Nat) (w : World) (h : Vec w A n c f) :
    Calls Try.prog 46 #[.slice A n c] w (GaveV f n w) := by
  have hcap := h.cap
  have hfew := h.few
  have HV := Lib.hid h
  unfold many at hfew
  go_enter Try.func46, Try.ntmps46
  go_wp2
  go_loopw [3] (fun i wr => ∃ k : Nat, k ≤ n ∧ i = .int .i64 k ∧ Hid (top f n = top f k) ∧ wr = w) (fun i _ => (intOf i).toNat)
  case atStart => exact ⟨n, Nat.le_refl _, rfl, Lib.hid rfl, rfl⟩
  case round =>
    obtain ⟨k, hk, rfl, htop, rfl⟩ := hrel
    cases k with
    | zero =>
      go_wp2_with fail
      refine (clone_top f n 0 A c _ HV.out htop.out).mono ?_
      rintro e w1 ⟨A', c', rfl, h1, h2, h3⟩
      go_wp2
      go_ret
      exact ⟨A', c', rfl, h1, h2, h3⟩
    | succ k =>
      obtain ⟨b, o, rfl, _, hc⟩ := HV.out.rd.at_ (vw_cell f n k (by omega))
      by_cases hz : pw f k = 0
      · have htop1 : Hid (top f n = top f k) := by
          exact htop.out.trans (by simp [top, hz])
        go_wp2_with fail
        refine ⟨⟨k, by omega, rfl, htop1, trivial⟩, ?_⟩
        simp [intOf]
      · have htop1 : top f n = k + 1 := by
          exact htop.out.trans (by simp [top, hz])
        have HT1 := Lib.hid htop1
        clear htop1
        go_wp2_with fail
        refine (clone_top f n (k + 1) _ c _ HV.out HT1.out).mono ?_
        rintro e w1 ⟨A', c', rfl, h1, h2, h3⟩
        go_wp2
        go_ret
        exact ⟨A', c', rfl, h1, h2, h3⟩
end Go.Proofs.Ytoijilfpfdhppaa

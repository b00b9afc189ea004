/- Walks of riddleref01.Same, SameInts and Copy, of riddlelaw01.spoil. -/
import Derived.Test.YtmedpnlmdncieaaDoorVq
import Derived.BigQuiet
import Derived.Deep.QuietTactic
namespace Go.Proofs.YtmedpnlmdncieaaDoor
open Go.RowKit

/-- what a call that only reads leaves -/
def SaysTrue (w : World) (e : Ending) (w' : World) : Prop := e = .returned (.bool true) ∧ Below w.heap.size w w'

theorem same_words (L : List Nat) (A B : Option Addr) (c d : Nat) (w : World) (hl : L.length ≤ many) (h1 : Rd w w.heap.size A (u64s L)) (h2 : Rd w w.heap.size B (u64s L)) :
    Calls Tryd.prog 17 #[.slice A L.length c, .slice B L.length d] w (SaysTrue w) := by
  unfold many at hl
  have H1 := Lib.hid h1
  have H2 := Lib.hid h2
  clear h1 h2
  obtain ⟨n, hn⟩ : ∃ n, n = L.length := ⟨_, rfl⟩
  rw [← hn] at hl ⊢
  have Hn := Lib.hid hn
  clear hn
  go_enter Tryd.func17, Tryd.ntmps17
  go_wp2
  go_loopw [5] (fun i wr => ∃ k : Nat, k ≤ n ∧ i = .int .i64 k ∧ Below w.heap.size w wr) (fun i _ => n - (intOf i).toNat)
  case atStart => exact ⟨0, Nat.zero_le _, rfl, Below.refl _ _⟩
  case round =>
    obtain ⟨k, hk, rfl, hbel⟩ := hrel
    by_cases hlt : k < n
    · have hkl : k < L.length := by have := Hn.out; omega
      obtain ⟨b, o, rfl, hb, hc⟩ := (H1.out.below hbel (Nat.le_refl _)).at_ (u64s_get L k hkl)
      obtain ⟨b', o', rfl, hb', hc'⟩ := (H2.out.below hbel (Nat.le_refl _)).at_ (u64s_get L k hkl)
      have Hbel := Lib.hid hbel
      have hk0 : (0 : Int) ≤ (k : Int) := by omega
      have hk1 : (k : Int) < (n : Int) := by omega
      clear hbel
      generalize L[k] = x at *
      go_wp2_with fail
      go_quiet (fail)
      go_wp2
      go_roundw
      case rel => exact ⟨k + 1, by omega, by go_num, below_drewN Hbel.out _⟩
      case measure => simp [intOf]; omega
    · go_wp2
      go_ret
      exact ⟨rfl, hbel⟩
theorem same_vec (f : Nat → Bool) (n : Nat) (A B : Option Addr) (c d : Nat) (w : World) (h1 : Vec w A n c f) (h2 : Vec w B n d f) :
    Calls Tryd.prog 17 #[.slice A n c, .slice B n d] w (SaysTrue w) := by
  have := same_words (vw f n) A B c d w (by rw [vw_length]; exact h1.few) h1.rd h2.rd
  rwa [vw_length] at this

/-- whole numbers as values -/
def i64s (L : List Int) : List Value := L.map fun n : Int => Value.int .i64 n
theorem i64s_length (L : List Int) : (i64s L).length = L.length := by simp [i64s]
theorem i64s_append (L M : List Int) : i64s (L ++ M) = i64s L ++ i64s M := by simp [i64s]
theorem i64s_get (L : List Int) (k : Nat) (h : k < L.length) : (i64s L)[k]? = some (.int .i64 L[k]) := by simp [i64s, h]

theorem sameInts_any (L : List Int) (A B : Option Addr) (c d : Nat) (w : World) (hl : L.length ≤ many) (h1 : Rd w w.heap.size A (i64s L)) (h2 : Rd w w.heap.size B (i64s L)) :
    Calls Tryd.prog 35 #[.slice A L.length c, .slice B L.length d] w (SaysTrue w) := by
  unfold many at hl
  have H1 := Lib.hid h1
  have H2 := Lib.hid h2
  clear h1 h2
  obtain ⟨n, hn⟩ : ∃ n, n = L.length := ⟨_, rfl⟩
  rw [← hn] at hl ⊢
  have Hn := Lib.hid hn
  clear hn
  go_enter Tryd.func35, Tryd.ntmps35
  go_wp2
  go_loopw [5] (fun i wr => ∃ k : Nat, k ≤ n ∧ i = .int .i64 k ∧ Below w.heap.size w wr) (fun i _ => n - (intOf i).toNat)
  case atStart => exact ⟨0, Nat.zero_le _, rfl, Below.refl _ _⟩
  case round =>
    obtain ⟨k, hk, rfl, hbel⟩ := hrel
    by_cases hlt : k < n
    · have hkl : k < L.length := by have := Hn.out; omega
      obtain ⟨b, o, rfl, hb, hc⟩ := (H1.out.below hbel (Nat.le_refl _)).at_ (i64s_get L k hkl)
      obtain ⟨b', o', rfl, hb', hc'⟩ := (H2.out.below hbel (Nat.le_refl _)).at_ (i64s_get L k hkl)
      have Hbel := Lib.hid hbel
      have hk0 : (0 : Int) ≤ (k : Int) := by omega
      have hk1 : (k : Int) < (n : Int) := by omega
      clear hbel
      generalize L[k] = x at *
      go_wp2_with fail
      go_quiet (fail)
      go_wp2
      go_roundw
      case rel => exact ⟨k + 1, by omega, by go_num, below_drewN Hbel.out _⟩
      case measure => simp [intOf]; omega
    · go_wp2
      go_ret
      exact ⟨rfl, hbel⟩

/-- Copy -/
theorem copy_any (L : List Nat) (hlen : L.length ≤ many) (A : Option Addr) (c : Nat) (w : World) (h : Rd w w.heap.size A (u64s L)) :
    Calls Tryd.prog 14 #[.slice A L.length c] w (GaveW L w) := by
  obtain ⟨i0, hi, hz0, hz1, hz2⟩ := word_parts
  unfold many at hlen
  have Hown : Hid ((w.alloc (.cells #[] 45)).ownsRow w.heap.size 45 1 (.slice (some ⟨w.heap.size, 0, none⟩) 0 0) 0 []) := by
    have := World.ownsRow_lit (base := w.heap.size) (e := 45) (size := 1) w #[] 0 (by simp) (by unfold maxLen; omega) rfl
    exact this
  have hb0 : Below w.heap.size w (w.alloc (.cells #[] 45)) := (Below.refl _ _).alloc (Nat.le_refl _) _
  cases A with
  | none =>
    have hL : L = [] := by
      cases L with
      | nil => rfl
      | cons x L =>
        obtain ⟨b, o, e, _⟩ := h (by simp [u64s])
        cases e
    subst hL
    show Calls Tryd.prog 14 #[.slice none 0 c] w (GaveW [] w)
    have Hb := Lib.hid hb0
    clear hb0
    go_enter Tryd.func14, Tryd.ntmps14
    go_wp2_with fail
    go_ret
    exact ⟨_, rfl, Hown.out, Hb.out⟩
  | some ad =>
    have Hc := Lib.hid (rd_cells (h.below hb0 (Nat.le_refl _)))
    go_enter Tryd.func14, Tryd.ntmps14
    go_wp2_with (at_builtin; refine wpList_append_own_wide _ rfl _ _ _ rfl w.heap.size 45 i0 _ 1 8 Tryd.underlying23 hi hz0 hz1 hz2 rfl (by decide) _ 0 [] rfl Hown.out ad L.length c (u64s L) rfl ?c1 ?c2 (u64s_one L) ?c3 ?c4 ?c5 ?_)
    case c1 => rw [u64s_length]; omega
    case c2 => exact Hc.out
    case c3 => unfold maxLen; omega
    case c4 => omega
    case c5 => simp
    intro v' w1 hown1 hgr _
    have hb1 := below_own hb0 hgr Hown.out (Nat.le_refl _) (by simp)
    clear hb0 hgr
    go_wp2
    go_ret
    exact ⟨_, rfl, hown1, hb1⟩

/-- spoil writes into a row of the law's own -/
def Spoilt (v : Value) (w : World) (e : Ending) (w' : World) : Prop := (∃ u, e = .returned u) ∧ w.grownBy w' v.ownBlock
theorem spoil_any (A : Option Addr) (n c base : Nat) (xs : List Value) (w : World) (hn : n ≤ many) (h : w.ownsRow base 45 1 (.slice A n c) n xs) :
    Calls Tryd.prog 20 #[.slice A n c] w (Spoilt (.slice A n c) w) := by
  unfold many at hn
  go_enter Tryd.func20, Tryd.ntmps20
  go_wp2
  go_loopw [2, 5] (fun _ i wr => ∃ k : Nat, k ≤ n ∧ i = .int .i64 k ∧ (∃ xs, wr.ownsRow base 45 1 (.slice A n c) n xs) ∧ w.grownBy wr (Value.slice A n c).ownBlock) (fun _ i _ => n - (intOf i).toNat)
  case atStart => exact ⟨0, Nat.zero_le _, rfl, ⟨_, h⟩, World.grownBy.refl w _⟩
  case round =>
    clear h xs
    obtain ⟨k, hk, rfl, ⟨xs, hown⟩, hgr⟩ := hrel
    by_cases hlt : k < n
    · obtain ⟨g, c2, e2, hgb, hgs⟩ := own_some hown (by omega)
      simp only [Value.slice.injEq] at e2
      obtain ⟨rfl, _, rfl⟩ := e2
      have hcell := hown.cellAt k (by omega)
      have hfz := hown.frozenAt k
      have hl : xs.length = n := by have := hown.1; omega
      obtain ⟨x, hx⟩ : ∃ x, xs[k]? = some x := ⟨xs[k], List.getElem?_eq_getElem (by omega)⟩
      rw [hx] at hcell
      obtain ⟨hown2, hgr2⟩ := hown.stored k (.int .u64 238)
      have HO := Lib.hid hown2
      have hg3 : w.grownBy (wr.setCell ⟨g, k, none⟩ (.int .u64 238)) (Value.slice (some ⟨g, 0, none⟩) n c).ownBlock := grownBy_store hgr k _
      have HG := Lib.hid hg3
      clear hown hown2 hgr2 hx hl hg3 hgr
      go_wp2
      go_roundw
      case rel => exact ⟨k + 1, by omega, by go_num, ⟨_, HO.out⟩, HG.out⟩
      case measure => simp [intOf]; omega
    · go_wp2
      go_end0
      exact ⟨⟨_, rfl⟩, hgr⟩
theorem own_far {w1 w w' : World} {e : TypeId} {s n m b b' : Nat} {v u : Value} {xs ys : List Value} (h1 : w1.ownsRow b' e s v m ys) (hb : w1.heap.size ≤ b) (h : w.ownsRow b e s u n xs) (hg : w.grownBy w' v.ownBlock) : w'.ownsRow b e s u n xs :=
  h.kept hg (by
    rcases hu : u.ownBlock with _ | k
    · exact .inl rfl
    · refine .inr fun e => ?_
      have := (h.lt k hu).1
      have := (h1.lt k e.symm).2
      omega)
end Go.Proofs.YtmedpnlmdncieaaDoor

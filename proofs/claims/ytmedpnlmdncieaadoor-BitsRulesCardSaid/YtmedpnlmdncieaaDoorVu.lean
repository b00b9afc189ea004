/- Walks of bits.List and bits.Of. -/
import Derived.Test.YtmedpnlmdncieaaDoorVt
namespace Go.Proofs.YtmedpnlmdncieaaDoor
open Go.RowKit

theorem int_info : (Tryd.prog.info? 3).map (fun i => (i.zero, i.size, i.bytes)) = some (some (.int .i64 0), 1, 8) := by kernel_rfl
theorem bool_info : (Tryd.prog.info? 4).map (fun i => (i.zero, i.size, i.bytes)) = some (some (.bool false), 1, 1) := by kernel_rfl
theorem parts_of {t : TypeId} {z : Value} {b : Nat} (h : (Tryd.prog.info? t).map (fun i => (i.zero, i.size, i.bytes)) = some (some z, 1, b)) : ∃ i : TypeInfo, Tryd.prog.info? t = some i ∧ i.zero = some z ∧ i.size = 1 ∧ i.bytes = b := by
  cases e : Tryd.prog.info? t with
  | none => rw [e] at h; cases h
  | some i =>
    rw [e] at h
    simp only [Option.map_some, Option.some.injEq, Prod.mk.injEq] at h
    exact ⟨i, rfl, h.1, h.2.1, h.2.2⟩

theorem tab_below {w w' : World} {B : Nat} (h : Tab64 w) (hb : Below B w w') (hB : w.heap.size ≤ B) : Tab64 w' := fun j hj =>
  (hb.cell (p := ⟨0, j, none⟩) (Nat.lt_of_lt_of_le (block_lt_of_cell (h j hj)) hB)).trans (h j hj)

/-- a call gave these whole numbers in a row of its own -/
def GaveI (L : List Int) (w : World) (e : Ending) (w' : World) : Prop :=
  ∃ v, e = .returned v ∧ w'.ownsRow w.heap.size 3 1 v L.length (i64s L) ∧ Below w.heap.size w w'
theorem gave_ints {L : List Int} {w w' : World} {e : Ending} (h : GaveI L w e w') :
    ∃ A c, e = .returned (.slice A L.length c) ∧ w'.ownsRow w.heap.size 3 1 (.slice A L.length c) L.length (i64s L) ∧ Rd w' w'.heap.size A (i64s L) ∧ Below w.heap.size w w' := by
  obtain ⟨v, rfl, hown, hb⟩ := h
  obtain ⟨_, A, c, rfl, hr⟩ := own_rd hown
  exact ⟨A, c, rfl, hown, hr, hb⟩

/-- places as whole numbers -/
def posI (f : Nat → Bool) (N : Nat) : List Int := (bytesOf f N).map fun k : Nat => (k : Int)
theorem posI_length (f : Nat → Bool) (N : Nat) : (posI f N).length = popOf f N := by
  unfold posI
  rw [List.length_map, bytesOf_length]
theorem posI_le (f : Nat → Bool) (N : Nat) : (posI f N).length ≤ N := by
  rw [posI_length]
  exact popOf_le f N

set_option maxHeartbeats 2000000 in
theorem list_any (f : Nat → Bool) (n : Nat) (A : Option Addr) (c : Nat) (w : World) (h : Vec w A n c f) (hn : n ≤ 10000) (hT : Tab64 w) :
    Calls Tryd.prog 33 #[.slice A n c] w (GaveI (posI f (64 * n)) w) := by
  obtain ⟨i0, hi, hz0, hz1, hz2⟩ := parts_of int_info
  have HV := Lib.hid h
  have HT := Lib.hid hT
  clear hT h
  go_enter Tryd.func33, Tryd.ntmps33
  go_wp2
  go_loopw [2, 3, 4, 7] (fun out _ _ i wr => ∃ k : Nat, k ≤ n ∧ i = .int .i64 k ∧ wr.ownsRow w.heap.size 3 1 out (posI f (64 * k)).length (i64s (posI f (64 * k))) ∧ Below w.heap.size w wr) (fun _ _ _ i _ => n - (intOf i).toNat)
  case atStart => exact ⟨0, Nat.zero_le _, rfl, World.ownsRow_nil _ _ _ _, Below.refl _ _⟩
  case round =>
    obtain ⟨k, hk, rfl, hown, hbel⟩ := hrel
    by_cases hlt : k < n
    · obtain ⟨b, o, rfl, _, hc⟩ := (HV.out.below hbel).rd.at_ (vw_cell f n k hlt)
      have Hrest : Hid (restOf f k 0 = pw f k) := restOf_zero f k
      generalize pw f k = x0 at *
      obtain ⟨wo, hwo⟩ : ∃ wo : World, wo = wr := ⟨_, rfl⟩
      subst hwo
      go_wp2
      go_loopw [2, 4] (fun out x wi => ∃ m : Nat, m ≤ 64 ∧ x = .int .u64 (restOf f k m : Nat) ∧ wi.ownsRow w.heap.size 3 1 out (posI f (64 * k + m)).length (i64s (posI f (64 * k + m))) ∧ Below w.heap.size w wi) (fun _ x _ => (intOf x).toNat)
      case atStart => exact ⟨0, Nat.zero_le _, by rw [Hrest.out], hown, hbel⟩
      case round =>
        clear hown hbel hc
        obtain ⟨m, hm, rfl, hown, hbel⟩ := hrel
        have hxl := restOf_lt f k m
        obtain ⟨x, hx⟩ : ∃ x, x = restOf f k m := ⟨_, rfl⟩
        rw [← hx] at hxl ⊢
        by_cases hx0 : x = 0
        · have Hend := Lib.hid (restOf_none f k m hm (by rw [← hx]; exact hx0))
          subst hx0
          clear hx hxl
          have HE : Hid (posI f (64 * k + m) = posI f (64 * (k + 1))) := by
            show _ = _
            unfold posI
            rw [Hend.out]
          go_wp2
          go_roundw
          case rel => exact ⟨k + 1, by omega, by go_num, by rw [← HE.out]; exact hown, hbel⟩
          case measure => simp [intOf]; omega
        · obtain ⟨z, hz, hz64, hmz, hlist, hand, hless⟩ := restOf_step f k m x hx hx0
          have hx1 : 1 ≤ x := by omega
          have hxb : ((x : Int) != 0) = true := by simp; omega
          have Htz := Lib.hid (fun W h => tz_any x hx0 hxl W h)
          rw [hz] at Htz
          have hT2 := tab_below HT.out hbel (Nat.le_refl _)
          have HT2 := Lib.hid hT2
          have hlen := posI_le f (64 * k + m)
          have hand2 : bits .and .u64 (x : Int) ((x : Int) - 1) = (restOf f k (z + 1) : Nat) := by
            have e : ((x : Int) - 1) = ((x - 1 : Nat) : Int) := by omega
            rw [e, bits_and_u64_nat _ _ hxl (by omega), hand]
          have Hless := Lib.hid hless
          have Hlist : Hid (posI f (64 * k + (z + 1)) = posI f (64 * k + m) ++ [(k : Int) * 64 + (z : Int)]) := by
            show _ = _
            unfold posI
            rw [hlist, List.map_append]
            have e : ((64 * k + z : Nat) : Int) = (k : Int) * 64 + z := by omega
            simp only [List.map_cons, List.map_nil, e]
          clear hand hlist hless hz hx hT2
          obtain ⟨y, hy⟩ : ∃ y, y = restOf f k (z + 1) := ⟨_, rfl⟩
          rw [← hy] at hand2 Hless
          have Hy := Lib.hid hy
          clear hy
          go_wp2_with (first
            | (go_at_call 48; refine (Htz.out _ HT2.out).mono ?_; rintro e w1 ⟨rfl, rfl⟩)
            | (at_builtin; refine wpList_append_new hown [.int .i64 (k * 64 + z)] hi hz0 hz1 hz2 rfl (by decide) _ Tryd.underlying36 rfl _ _ rfl rfl rfl rfl ?c2 ?c3 ?c4 ?c5 ?_))
          case c2 => intro u hu; simp at hu; subst hu; rfl
          case c3 => unfold maxLen; omega
          case c4 => omega
          case c5 => exact hbel.size
          · intro v' w1 hown1 hgr1
            have hbel1 := below_own hbel hgr1 hown (Nat.le_refl _) hbel.size
            have HO : Hid (w1.ownsRow w.heap.size 3 1 v' (posI f (64 * k + (z + 1))).length (i64s (posI f (64 * k + (z + 1))))) := by
              show w1.ownsRow _ _ _ _ _ _
              rw [Hlist.out, i64s_append, List.length_append]
              exact hown1
            clear hgr1 hown hbel HT2 hown1
            go_wp2
            go_roundw
            case rel =>
              exact ⟨z + 1, by omega, by rw [Hy.out], HO.out, hbel1⟩
            case measure => have := Hless.out; simp [intOf]; omega
    · obtain rfl : k = n := by omega
      go_wp2
      go_ret
      exact ⟨_, rfl, hown, hbel⟩

/-- a place of a vector, as the program takes it -/
def okPlace (x : Int) : Prop := 0 ≤ x ∧ x ≤ 65535
theorem setI_sup (L : List Int) (h : ∀ x ∈ L, okPlace x) : Sup (setI L) 1024 := fun i hi => by
  unfold setI
  rw [Bool.eq_false_iff]
  intro hc
  have := (h _ (List.contains_iff_mem.1 hc)).2
  omega
theorem setI_nil (i : Nat) : setI [] i = false := rfl

/-- a call made a vector of places, or refused: the first place that is none is number j of them -/
def MadeOf (L : List Int) (j : Nat) (w : World) (e : Ending) (w' : World) : Prop :=
  (j = L.length ∧ GaveVE (setI L) 1024 w e w') ∨ (j < L.length ∧ e = .returned (.tuple #[.slice none 0 0, .int .i64 2]) ∧ Below w.heap.size w w')

set_option maxHeartbeats 1000000 in
theorem of_any (L : List Int) (j : Nat) (hj : j ≤ L.length) (hok : ∀ i (h : i < L.length), i < j → okPlace L[i]) (hbad : ∀ h : j < L.length, ¬ okPlace L[j]) (hlen : L.length ≤ 1000000) (A : Option Addr) (c : Nat) (w : World) (h : Rd w w.heap.size A (i64s L)) :
    Calls Tryd.prog 34 #[.slice A L.length c] w (MadeOf L j w) := by
  have HR := Lib.hid h
  have Hok := Lib.hid hok
  have Hbad := Lib.hid hbad
  clear h hok hbad
  obtain ⟨n, hn⟩ : ∃ n, n = L.length := ⟨_, rfl⟩
  have Hsup : Hid (∀ k, k ≤ j → Sup (setI (L.take k)) 1024) := fun k hk => setI_sup _ fun x hx => by
    obtain ⟨i, hi, rfl⟩ := List.getElem_of_mem hx
    rw [List.length_take] at hi
    rw [List.getElem_take]
    exact Hok.out i (by omega) (by omega)
  rw [← hn] at hj hlen ⊢
  have Hn := Lib.hid hn
  clear hn
  go_enter Tryd.func34, Tryd.ntmps34
  go_wp2
  go_loopw [4, 6, 7, 8, 11] (fun out _ _ _ i wr => ∃ k : Nat, k ≤ j ∧ i = .int .i64 k ∧ (∃ B d, out = .slice B (top (setI (L.take k)) 1024) d ∧ Vec wr B (top (setI (L.take k)) 1024) d (setI (L.take k)) ∧ wr.ownsRow w.heap.size 45 1 (.slice B (top (setI (L.take k)) 1024) d) (top (setI (L.take k)) 1024) (u64s (vw (setI (L.take k)) (top (setI (L.take k)) 1024)))) ∧ Below w.heap.size w wr) (fun _ _ _ _ i _ => n - (intOf i).toNat)
  case atStart =>
    have hz : top (setI (L.take 0)) 1024 = 0 := top_zero (fun i => rfl) _
    refine ⟨0, Nat.zero_le _, rfl, ⟨none, 0, by rw [hz], ?_, ?_⟩, Below.refl _ _⟩
    · rw [hz]
      exact ⟨Rd.nil _ _ _, Nat.le_refl _, fun _ _ => rfl, by unfold many; omega⟩
    · rw [hz]
      exact World.ownsRow_nil _ _ _ _
  case round =>
    obtain ⟨k, hk, rfl, ⟨B, d, rfl, hv, hown⟩, hbel⟩ := hrel
    by_cases hlt : k < n
    · have hkl : k < L.length := by have := Hn.out; omega
      obtain ⟨b, o, rfl, _, hc⟩ := (HR.out.below hbel (Nat.le_refl _)).at_ (i64s_get L k hkl)
      by_cases hkj : k < j
      · obtain ⟨h0, h1⟩ := Hok.out k hkl hkj
        obtain ⟨x, hx⟩ : ∃ x : Nat, L[k] = (x : Int) := ⟨L[k].toNat, by omega⟩
        rw [hx] at hc h0 h1
        have HST := Lib.hid (setI_take L k x hkl hx)
        have htl : top (setI (L.take k)) 1024 ≤ 1024 := top_le _ _
        have HS0 := Lib.hid (top_sup (Hsup.out k hk))
        have HS1 := Lib.hid (Hsup.out (k + 1) (by omega))
        have HV := Lib.hid hv
        have HB := Lib.hid hbel
        generalize top (setI (L.take k)) 1024 = t at *
        clear hv hown hbel hx
        go_wp2_with fail
        refine (set_yes _ t B d x (by omega) _ HV.out).mono ?_
        intro e w2 hg
        have hg2 := hg.congr (g := setI (L.take (k + 1))) (M := 1024) (addB_sup HS0.out (by omega) (by omega)) HS1.out (fun i => by rw [HST.out])
        clear hg
        obtain ⟨A', c', rfl, h2, h3, h4⟩ := hg2
        have HV2 := Lib.hid h2
        have HO2 := Lib.hid (own_base h3 HB.out.size)
        have HB2 := Lib.hid (HB.out.trans (h4.mono HB.out.size))
        clear h2 h3 h4
        go_wp2
        go_roundw
        case rel => exact ⟨k + 1, by omega, by go_num, ⟨A', c', rfl, HV2.out, HO2.out⟩, HB2.out⟩
        case measure => simp [intOf]; omega
      · obtain rfl : k = j := by omega
        have hb := Hbad.out hkl
        generalize L[k] = x at *
        have hb2 : x < 0 ∨ 65535 < x := by unfold okPlace at hb; omega
        have HB := Lib.hid hbel
        generalize top (setI (L.take k)) 1024 = t at *
        clear hv hown hbel hb
        go_wp2_with fail
        refine (set_no t B d x hb2 _).mono ?_
        rintro e w2 ⟨rfl, rfl⟩
        clear hb2
        go_wp2
        go_ret2
        exact .inr ⟨hkl, rfl, HB.out⟩
    · obtain rfl : k = n := by omega
      obtain rfl : j = k := by omega
      have hl : L.take j = L := by rw [Hn.out]; exact List.take_length
      rw [hl] at hv hown ⊢
      have HV2 := Lib.hid hv
      have HO2 := Lib.hid hown
      have HB2 := Lib.hid hbel
      clear hv hown hbel hl
      go_wp2
      go_ret2
      exact .inl ⟨Hn.out, _, _, rfl, HV2.out, HO2.out, HB2.out⟩
end Go.Proofs.YtmedpnlmdncieaaDoor

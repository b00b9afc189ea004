/- Walks of riddleref06.Form on any right term, and of riddleref06.Show. -/
import Derived.Test.YtnkiiphliilegaaDoorU5a
import Derived.Test.YtnkiiphliilegaaDoorU5b
import Derived.Test.YtnkiiphliilegaaDoorU5c
import Derived.Test.YtnkiiphliilegaaDoorSE
namespace Go.Proofs.YtnkiiphliilegaaDoor
open Go.RowKit

theorem form_step (N : Nat) (ih : FormOk N) : FormOk (N + 1) := by
  intro op p mn mx ks A c w hN hN1 hr hks
  have ho := rightN_op (rightT_node hr).1
  have hT : rForm RF (.node op p mn mx ks) = if op < 6 then leafF RF op p else rKids RF op true ks [] ++ tailF op mn mx := by
    rw [rForm]
  rw [hT]
  by_cases h6 : op < 6
  · rw [if_pos h6]
    exact form_leaf op p mn mx A _ c w ho.1 h6
  · rw [if_neg h6]
    have : op = 6 ∨ op = 7 ∨ op = 8 := by omega
    rcases this with rfl | rfl | rfl
    · exact form_kids6 N ih p mn mx ks A c w (by omega) (by omega) hr hks
    · exact form_kids7 N ih p mn mx ks A c w (by omega) (by omega) hr hks
    · exact form_kids8 N ih p mn mx ks A c w (by omega) (by omega) hr hks
theorem form_all : ∀ N, FormOk N
  | 0 => fun _ _ _ _ _ _ _ _ h => by omega
  | N + 1 => form_step N (form_all N)

theorem str_at (L : List Nat) (hL : Bytes8 L) (i : Nat) (hi : i < L.length) : ∀ w : World, (Instr.index 9 (.string (strL L)) (.int .i64 (i : Int))).run Tryd.prog w = .ok (.int .u8 ((L[i] : Nat) : Int)) w := by
  intro w
  rw [run_index_string w 9 (strL L) .i64 _ Tryd.underlying9, dif_pos ⟨by omega, by rw [strL_size]; omega⟩]
  have hc := hL L[i] (List.getElem_mem hi)
  have e : ∀ (h : ((i : Int)).toNat < (strL L).size), ((strL L)[((i : Int)).toNat]'h).toNat = L[i] := by
    intro h
    have h0 : ((i : Int)).toNat = i := by omega
    simp only [h0]
    have h1 : (strL L)[i] = (strL L).data.toList[i]'(by rw [Array.length_toList]; rw [h0] at h; exact h) := by simp [ByteArray.getElem_eq_getElem_data]
    rw [h1]
    have h2 : (strL L).data.toList = L.map UInt8.ofNat := by
      unfold strL
      rw [strOfNums_data, List.map_map]
      apply List.map_congr_left
      intro n _
      simp
    simp only [h2, List.getElem_map, UInt8.toNat_ofNat']
    omega
  rw [e]

/-- what a call of riddleref06.Show gives -/
def RefSaid (t : Tm) (w : World) (e : Ending) (w' : World) : Prop := e = .returned (.tuple #[.string (strL (saysOf t).1), .int .i64 ((saysOf t).2 : Int)]) ∧ Below w.heap.size w w'
theorem ret_says {L M : List Nat} {n m : Nat} (h : (L, n) = (M, m)) : Ending.returned (.tuple #[.string (strL L), .int .i64 (n : Int)]) = .returned (.tuple #[.string (strL M), .int .i64 (m : Int)]) := by
  simp only [Prod.mk.injEq] at h
  rw [h.1, h.2]
set_option maxRecDepth 100000 in
set_option maxHeartbeats 8000000 in
theorem refShow_any (op : Int) (p : Nat → Bool) (mn mx : Int) (ks : List Tm) (A : Option Addr) (c : Nat) (w : World) (hN : nodesL ks ≤ 500) (hks : KidsIn w (· < w.heap.size) A ks) :
    Calls Tryd.prog 8 #[tval op p mn mx A ks.length c] w (RefSaid (.node op p mn mx ks) w) := by
  unfold RefSaid
  have hb0 : Below w.heap.size w (w.alloc (.cells (tcells op p mn mx A ks.length c) 27)) := (Below.refl _ _).alloc (Nat.le_refl _) _
  have hcr := refRight_all 501 op p mn mx ks A c _ (by omega) (by omega) (hks.below hb0 hb0.size)
  have Hform := Lib.hid (fun (W : World) (hr : rightT (.node op p mn mx ks) = true) (hb : Below w.heap.size w W) => form_all 501 op p mn mx ks A c W (by omega) (by omega) hr (hks.below hb hb.size))
  have hsay : saysOf (.node op p mn mx ks) = if rightT (.node op p mn mx ks) = false then ([], 2) else if 200 < (rForm RF (.node op p mn mx ks)).length then ([], 1) else if exceed 0 (rForm RF (.node op p mn mx ks)) = true then ([], 52) else (rForm RF (.node op p mn mx ks), 0) := rfl
  have hlt := rForm_lt (.node op p mn mx ks)
  have hlen0 : rightT (.node op p mn mx ks) = true → (rForm RF (.node op p mn mx ks)).length ≤ 4000000 := fun hr => by
    have := rForm_len _ hr
    unfold nodes at this
    omega
  generalize saysOf (.node op p mn mx ks) = P at *
  have Hblk := Lib.hid (Blk.new w 27 (tcells op p mn mx A ks.length c))
  generalize ks.length = n at *
  have Hb0 := Lib.hid hb0
  clear hb0 hks hN
  cases hr : rightT (.node op p mn mx ks) with
  | false =>
    rw [hr] at hcr hsay
    rw [if_pos rfl] at hsay
    subst hsay
    have Hcr := Lib.hid hcr
    clear hcr Hform hr hlt hlen0
    go_enter Tryd.func8, Tryd.ntmps8
    go_wp2_with fail
    refine Hcr.out.mono ?_
    rintro e w1 ⟨rfl, hb1⟩
    go_wp2
    go_ret2
    exact ⟨rfl, Hb0.out.trans (hb1.mono Hb0.out.size)⟩
  | true =>
    have Hform2 := Lib.hid (fun W hb => Hform.out W hr hb)
    rw [hr] at hcr hsay
    rw [if_neg (by simp)] at hsay
    have Hcr := Lib.hid hcr
    have hlen := hlen0 hr
    clear hcr Hform hr hlen0
    generalize rForm RF (.node op p mn mx ks) = L at *
    have hsz := strL_size L
    have Hsay := Lib.hid hsay
    clear hsay
    go_enter Tryd.func8, Tryd.ntmps8
    go_wp2_with fail
    refine Hcr.out.mono ?_
    rintro e w1 ⟨rfl, hb1⟩
    have hblk1 := Hblk.out.below hb1 (by simp)
    have hbw := Hb0.out.trans (hb1.mono Hb0.out.size)
    have c0 := hblk1.cell 0
    have c1 := hblk1.cell 1
    have c2 := hblk1.cell 2
    have c3 := hblk1.cell 3
    have c4 := hblk1.cell 4
    have c5 := hblk1.cell 5
    have c6 := hblk1.cell 6
    have c7 := hblk1.cell 7
    simp only [List.getElem?_toArray, List.getElem?_cons_zero, List.getElem?_cons_succ] at c0 c1 c2 c3 c4 c5 c6 c7
    clear hb1
    go_wp2_with fail
    refine (Hform2.out _ hbw).mono ?_
    rintro e w2 ⟨rfl, hb2⟩
    have hbw2 := hbw.trans (hb2.mono hbw.size)
    clear c0 c1 c2 c3 c4 c5 c6 c7 hblk1 hbw hb2
    by_cases h200 : 200 < L.length
    · have HP : Hid (([], 1) = P) := Lib.hid (by rw [Hsay.out, if_pos h200])
      go_wp2
      go_ret2
      exact ⟨ret_says HP.out, hbw2⟩
    · have HP : Hid ((if exceed 0 L = true then ([], 52) else (L, 0)) = P) := Lib.hid (by rw [Hsay.out, if_neg h200])
      have hl2 : L.length ≤ 200 := by omega
      go_wp2
      go_loopw [5, 6] (fun d i wr => ∃ (k : Nat) (z : Int), k ≤ L.length ∧ i = .int .i64 k ∧ d = .int .i64 z ∧ -(k : Int) ≤ z ∧ z ≤ 30 ∧ Hid (exceed z (L.drop k) = exceed 0 L) ∧ w2 = wr) (fun _ i _ => L.length - (intOf i).toNat)
      case atStart => exact ⟨0, 0, Nat.zero_le _, rfl, rfl, by omega, by omega, Lib.hid rfl, rfl⟩
      case round =>
        obtain ⟨k, z, hk, rfl, rfl, hz1, hz2, Hx, rfl⟩ := hrel
        by_cases hlt2 : k < L.length
        · have hidx := str_at L hlt k hlt2
          have Hst := Lib.hid (exceed_step z L k hlt2)
          have hc256 := hlt L[k] (List.getElem_mem hlt2)
          generalize L[k] = x at *
          by_cases h40 : x = 40
          · subst h40
            by_cases hdeep : 30 < z + 1
            · have HE : Hid (([], 52) = P) := Lib.hid (by rw [← HP.out, ← Hx.out, Hst.out]; simp [hdeep])
              go_wp2
              go_ret2
              exact ⟨ret_says HE.out, hbw2⟩
            · have HE : Hid (exceed (z + 1) (L.drop (k + 1)) = exceed 0 L) := Lib.hid (by rw [← Hx.out, Hst.out]; simp [hdeep])
              go_wp2
              go_roundw
              case rel => exact ⟨k + 1, z + 1, by omega, by go_num, rfl, by omega, by omega, HE, trivial⟩
              case measure => simp [intOf]; omega
          · by_cases h41 : x = 41
            · subst h41
              have hdeep : ¬ 30 < z - 1 := by omega
              have HE : Hid (exceed (z - 1) (L.drop (k + 1)) = exceed 0 L) := Lib.hid (by rw [← Hx.out, Hst.out]; simp [hdeep])
              go_wp2
              go_roundw
              case rel => exact ⟨k + 1, z - 1, by omega, by go_num, rfl, by omega, by omega, HE, trivial⟩
              case measure => simp [intOf]; omega
            · have hdeep : ¬ 30 < z := by omega
              have f40 : ((x : Int) == 40) = false := ne_false (by omega)
              have f41 : ((x : Int) == 41) = false := ne_false (by omega)
              have HE : Hid (exceed z (L.drop (k + 1)) = exceed 0 L) := Lib.hid (by rw [← Hx.out, Hst.out]; simp [hdeep, h40, h41])
              go_wp2
              go_roundw
              case rel => exact ⟨k + 1, z, by omega, by go_num, rfl, by omega, by omega, HE, trivial⟩
              case measure => simp [intOf]; omega
        · have HE : Hid ((L, 0) = P) := Lib.hid (by
            have h0 : exceed 0 L = false := by
              rw [← Hx.out, List.drop_eq_nil_of_le (by omega)]
              rfl
            rw [← HP.out, h0]
            rfl)
          go_wp2
          go_ret2
          exact ⟨ret_says HE.out, hbw2⟩
end Go.Proofs.YtnkiiphliilegaaDoor

/- Walk of class.Runs: the runs of a class's bytes, in new memory. -/
import Derived.Test.YtbfgcanceneokaaDoorCd
namespace Go.Proofs.YtbfgcanceneokaaDoor
open Go.RowKit

/-- A call gave a slice of pairs that reads as these runs, in new memory; nothing that was there has changed. -/
def GaveRuns (R : List (Nat × Nat)) (w : World) (e : Ending) (w' : World) : Prop :=
  ∃ v, e = .returned v ∧ w'.ownsRow w.heap.size 36 2 v R.length (runCells R) ∧ Below w.heap.size w w'
theorem pair_info : (Tryd.prog.info? 36).map (fun i => (i.zero, i.size, i.bytes)) = some (some (.agg #[.int .u8 0, .int .u8 0]), 2, 2) := by kernel_rfl

set_option maxHeartbeats 2000000 in
theorem runs_any (p : Nat → Bool) (w : World) (hT : Tab64 w) :
    Calls Tryd.prog 14 #[cval p] w (GaveRuns (runsFold (bytesOf p 256)) w) := by
  obtain ⟨i0, hi, hz0, hz1, hz2⟩ := info_parts pair_info
  have HT := Lib.hid hT
  clear hT
  have hlenL := bytes_len256 p
  obtain ⟨L, hL⟩ : ∃ L, L = bytesOf p 256 := ⟨_, rfl⟩
  have Hbytes := Lib.hid (fun W h => bytes_any p W h)
  have Hmem : Hid (∀ b, b ∈ L → b < 256) := fun b hb => (bytesOf_mem.1 (hL ▸ hb)).1
  rw [← hL] at hlenL Hbytes ⊢
  clear hL
  obtain ⟨n, hn⟩ : ∃ n, n = L.length := ⟨_, rfl⟩
  rw [← hn] at hlenL
  have Hn := Lib.hid hn
  clear hn
  go_enter Tryd.func14, Tryd.ntmps14
  go_wp2_with fail
  have hb0 : Below w.heap.size w (w.alloc (.cells (ccells p) 24)) := (Below.refl _ _).alloc (Nat.le_refl _) _
  refine (Hbytes.out _ (tab_below HT.out hb0 (Nat.le_refl _))).mono ?_
  rintro e w1 ⟨v, rfl, hown, hbel⟩
  obtain ⟨hlen, A, cap, rfl, hrd⟩ := own_rd hown
  clear hlen hown
  rw [← Hn.out]
  have hbw : Below w.heap.size w w1 := hb0.trans (hbel.mono (by simp))
  clear hb0 hbel
  go_wp2
  go_loopw [2, 9] (fun out i wr => ∃ k : Nat, k ≤ n ∧ i = .int .i64 k ∧ wr.ownsRow w1.heap.size 36 2 out (runsFold (L.take k)).length (runCells (runsFold (L.take k))) ∧ Below w1.heap.size w1 wr) (fun _ i _ => n - (intOf i).toNat)
  case atStart => exact ⟨0, Nat.zero_le _, rfl, World.ownsRow_nil _ _ _ _, Below.refl _ _⟩
  case round =>
    obtain ⟨k, hk, rfl, hown, hbel⟩ := hrel
    by_cases hlt : k < n
    · have hkl : k < L.length := by have := Hn.out; omega
      have hrlen := runsFold_len (L.take k)
      have htl : (L.take k).length = k := by rw [List.length_take]; have := Hn.out; omega
      rw [htl] at hrlen
      have Hlt := Lib.hid (runsFold_lt (L.take k) fun b hb => Hmem.out b (List.mem_of_mem_take hb))
      have hr := hrd.below hbel (Nat.le_refl _)
      obtain ⟨b, off, rfl, hbB, hcw⟩ := hr.at_ (u8s_get L k hkl)
      have hx256 := Hmem.out L[k] (List.getElem_mem hkl)
      have Htake : Hid (L.take (k + 1) = L.take k ++ [L[k]]) := List.take_succ_eq_append_getElem hkl
      generalize L[k] = x at *
      clear hr htl
      have Hsnoc := Lib.hid (runsFold_snoc (L.take k) x)
      generalize runsFold (L.take k) = R at *
      rcases List.eq_nil_or_concat R with rfl | ⟨init, ⟨lo, hi'⟩, rfl⟩
      · rw [runStep_nil] at Hsnoc
        obtain ⟨A2, c2, rfl⟩ := own_shape hown
        simp only [List.length_nil] at hown ⊢
        go_wp2_with (at_builtin; refine wpList_append_new hown [.int .u8 x, .int .u8 x] hi hz0 hz1 hz2 rfl (by decide) _ Tryd.underlying32 rfl _ _ rfl rfl rfl rfl ?c2 ?c3 ?c4 ?c5 ?_)
        case c2 => intro u hu; simp at hu; subst hu; rfl
        case c3 => unfold maxLen; omega
        case c4 => omega
        case c5 => exact hbel.size
        · intro v' w2 hown2 hgr2
          have hbel2 := below_own hbel hgr2 hown (Nat.le_refl _) hbel.size
          clear hgr2 hown hbel
          go_wp2
          go_roundw
          case rel => exact ⟨k + 1, by omega, by go_num, by rw [Htake.out, Hsnoc.out]; exact hown2, hbel2⟩
          case measure => simp [intOf]; omega
      · rw [List.concat_eq_append] at *
        have hlh := Hlt.out (lo, hi') (by simp)
        have hlo : lo < 256 := hlh.1
        have hhi : hi' < 256 := hlh.2
        clear hlh Hlt
        have hln : (init ++ [(lo, hi')]).length = init.length + 1 := by simp
        rw [hln] at hown hrlen
        have hcl := hown.1
        obtain ⟨g, c2, rfl, hgb, hgs⟩ := own_some hown (by omega)
        have hcell := hown.cellAt (init.length * 2 + 1) (by omega)
        rw [runCells_last] at hcell
        have hfz := hown.frozenAt (init.length * 2 + 1)
        obtain ⟨hown3, hgr3⟩ := hown.stored (init.length * 2 + 1) (.int .u8 (x : Int))
        rw [runCells_set] at hown3
        have Hown3 := Lib.hid hown3
        have Hgr3 := Lib.hid hgr3
        clear hown3 hgr3 hln hcl
        by_cases hx : hi' + 1 = x
        · have Hs2 := Lib.hid (runStep_more init lo hi' x hx)
          have hxb : ((hi' : Int) + 1 == (x : Int)) = true := by simp; omega
          have Hx := Lib.hid hx
          clear hx
          go_wp2
          go_roundw
          case rel =>
            refine ⟨k + 1, by omega, by go_num, ?_, below_byGrown hbel Hgr3.out hbel.size hgb⟩
            rw [Htake.out, Hsnoc.out, Hs2.out]
            have e : (init ++ [(lo, x)]).length = init.length + 1 := by simp
            rw [e]
            exact Hown3.out
          case measure => simp [intOf]; omega
        · have Hs2 := Lib.hid (runStep_new init lo hi' x hx)
          have hxb : ((hi' : Int) + 1 == (x : Int)) = false := by simp; omega
          have Hx := Lib.hid hx
          clear hx
          go_wp2_with (at_builtin; refine wpList_append_new hown [.int .u8 x, .int .u8 x] hi hz0 hz1 hz2 rfl (by decide) _ Tryd.underlying32 rfl _ _ rfl rfl rfl rfl ?d2 ?d3 ?d4 ?d5 ?_)
          case d2 => intro u hu; simp at hu; subst hu; rfl
          case d3 => unfold maxLen; omega
          case d4 => omega
          case d5 => exact hbel.size
          · intro v' w2 hown2 hgr2
            have hbel2 := below_own hbel hgr2 hown (Nat.le_refl _) hbel.size
            clear hgr2 hown hbel
            go_wp2
            go_roundw
            case rel =>
              refine ⟨k + 1, by omega, by go_num, ?_, hbel2⟩
              rw [Htake.out, Hsnoc.out, Hs2.out]
              have e : (init ++ [(lo, hi')] ++ [(x, x)]).length = init.length + 1 + 1 := by simp
              rw [e, runCells_append _ [(x, x)]]
              exact hown2
            case measure => simp [intOf]; omega
    · have hkn : k = n := by omega
      subst hkn
      have hL2 : L.take k = L := List.take_of_length_le (by have := Hn.out; omega)
      rw [hL2] at hown
      clear hL2
      go_wp2
      go_ret
      exact ⟨_, rfl, own_base hown hbw.size, hbw.trans (hbel.mono hbw.size)⟩
end Go.Proofs.YtbfgcanceneokaaDoor

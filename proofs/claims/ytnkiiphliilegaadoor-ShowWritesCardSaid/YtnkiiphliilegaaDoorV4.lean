/- Walk of the writer's set. -/
import Derived.Test.YtnkiiphliilegaaDoorV3
namespace Go.Proofs.YtnkiiphliilegaaDoor
open Go.RowKit

theorem writeK_any (g : Nat) (st : St) (k : Array UInt8) (L : List Nat) (hk : strL L = ByteArray.mk k) (hL : Bytes8 L) (hne : L ≠ []) (w : World) (h : WAt w g st) (hlen : st.s.length + L.length ≤ 4000000) :
    Calls Tryd.prog 26 #[.pointer (some ⟨g, 0, none⟩), .string (ByteArray.mk k)] w fun e w' => e = .returned (.tuple #[.int .i64 (L.length : Int), .nilIface]) ∧ WAt w' g (st.put L) ∧ Wr g w w' := by
  rw [← hk]
  exact writeString_any g st L hL hne w h hlen
theorem put_put (st : St) (a b : List Nat) : (st.put a).put b = st.put (a ++ b) := by simp [St.put]
theorem put_len (st : St) (a : List Nat) : (st.put a).s.length = st.s.length + a.length := by simp [St.put]
theorem own_blk {w : World} {base : Nat} {e : TypeId} {size : Nat} {v : Value} {n : Nat} {xs : List Value} (h : w.ownsRow base e size v n xs) (hn : 0 < n) :
    ∃ b c cur, v = .slice (some ⟨b, 0, none⟩) n c ∧ base ≤ b ∧ Blk w b e cur ∧ ∀ (i : Nat) (u : Value), xs[i]? = some u → cur[i]? = some u := by
  rcases h.2 with ⟨_, h0⟩ | ⟨b, cap, cur, rfl, hb, hg, _, _, _, htk⟩
  · omega
  · refine ⟨b, cap, cur, rfl, hb, hg, fun i u hi => ?_⟩
    rw [← htk, List.getElem?_take] at hi
    split at hi
    · simpa using hi
    · cases hi
theorem wrote_eq {g : Nat} {st st' : St} {w w' : World} {e : Ending} (h : Wrote1 g st w e w') (hs : st = st') : Wrote1 g st' w e w' := hs ▸ h

theorem setF_two (R : List (Nat × Nat)) (h0 : R ≠ []) (h1 : oneF R = false) : setF R = [91] ++ R.flatMap runF ++ [93] := by
  unfold setF
  rw [if_neg h0, h1]
  simp
theorem oneF_single (x y : Nat) : oneF [(x, y)] = (x == y) := rfl
theorem oneF_more (R : List (Nat × Nat)) (h : R.length ≠ 1) : oneF R = false := by
  match R, h with
  | [], _ => rfl
  | [_], h => exact absurd rfl h
  | _ :: _ :: _, _ => rfl

set_option maxRecDepth 100000 in
set_option maxHeartbeats 8000000 in
theorem wset_any (g : Nat) (st : St) (p : Nat → Bool) (w : World) (hw : WAt w g st) (hT : Tabs w) (hlen : st.s.length + 2400 ≤ 4000000) :
    Calls Tryd.prog 25 #[.pointer (some ⟨g, 0, none⟩), cval p] w (Wrote1 g (st.put (setF (RF p))) w) := by
  unfold Wrote1
  have hb0 : Below w.heap.size w (w.alloc (.cells (ccells p) 24)) := (Below.refl _ _).alloc (Nat.le_refl _) _
  have hru := runs_any p _ (hT.below hb0 hT.size).1
  have hmem : ∀ b ∈ bytesOf p 256, b < 256 := fun b hb => (bytesOf_mem.1 hb).1
  have hRl : (RF p).length ≤ 256 := RF_len p
  have hRle : ∀ r ∈ RF p, r.1 ≤ r.2 := runsFold_le (bytesOf p 256)
  have hRlt : ∀ r ∈ RF p, r.1 < 256 ∧ r.2 < 256 := runsFold_lt (bytesOf p 256) hmem
  have e : runsFold (bytesOf p 256) = RF p := rfl
  rw [e] at hru
  clear e hmem
  generalize RF p = R at *
  obtain ⟨T, hT2⟩ : ∃ T, T = st.put (setF R) := ⟨_, rfl⟩
  rw [← hT2]
  have HT := Lib.hid hT2
  have Hru := Lib.hid hru
  have hlt0 := hw.lt
  have hwr0 : Wr g w (w.alloc (.cells (ccells p) 24)) := (Wr.refl g w).alloc (Nat.le_of_lt hlt0) _
  have hw0 := hw.alloc (.cells (ccells p) 24)
  have HRle := Lib.hid hRle
  have HRlt := Lib.hid hRlt
  clear hru hT hT2 hw hRle hRlt
  go_enter Tryd.func25, Tryd.ntmps25
  go_wp2_with fail
  refine Hru.out.mono ?_
  intro e w1 hg
  obtain ⟨v, rfl, hown, hbel⟩ := hg
  have hw1 := hw0.below hbel
  have hwr1 : Wr g w w1 := hwr0.below hbel (by simp; omega)
  have hlt1 : g < w1.heap.size := hw1.lt
  clear hbel hwr0 hw0 hb0 Hru
  by_cases hR0 : R.length = 0
  · have hR : R = [] := List.eq_nil_of_length_eq_zero hR0
    obtain ⟨A, c, rfl⟩ := own_shape hown
    have HE : Hid (st.put [91, 98, 45, 97, 93] = T) := Lib.hid (by rw [HT.out, hR]; rfl)
    have Hcall := Lib.hid (writeK_any g st #[91, 98, 45, 97, 93] [91, 98, 45, 97, 93] rfl (by intro c hc; simp at hc; omega) (by simp) w1 hw1 (by simp; omega))
    rw [hR0]
    clear hown hR hR0
    go_wp2_with fail
    refine Hcall.out.mono ?_
    rintro e w2 ⟨rfl, h1, h2⟩
    go_wp2
    exact bodyPost_ret (results_none Tryd.results25 _ _ _) rfl ⟨rfl, HE.out ▸ h1, hwr1.trans h2⟩
  · obtain ⟨b, c, cur, rfl, hbb, hbk, hcur⟩ := own_blk hown (by omega)
    have n0 : ((R.length : Int) == 0) = false := ne_false (by omega)
    have hbg : b ≠ g := by simp at hbb; omega
    have hcell : ∀ k, k < R.length → cur[k * 2]? = some (.int .u8 ((R.getD k (0, 0)).1 : Nat)) ∧ cur[k * 2 + 1]? = some (.int .u8 ((R.getD k (0, 0)).2 : Nat)) := fun k hk => by
      obtain ⟨g1, g2⟩ := runCells_get R k hk
      have e : R.getD k (0, 0) = R[k] := by simp [List.getD_eq_getElem?_getD, hk]
      rw [e]
      exact ⟨hcur _ _ g1, hcur _ _ g2⟩
    have Hcell := Lib.hid hcell
    clear hown hcur hcell
    by_cases hone : oneF R = true
    · obtain ⟨x, hx⟩ : ∃ x, R = [(x, x)] := by
        match R, hone with
        | [(a, b)], h => exact ⟨a, by rw [oneF_single] at h; simp at h; rw [h]⟩
      subst hx
      obtain ⟨k0, k1⟩ := Hcell.out 0 (by simp)
      have c0 := hbk.cell (0 * 2)
      have c1 := hbk.cell (0 * 2 + 1)
      rw [k0] at c0
      rw [k1] at c1
      have HE : Hid (st.put (byteF x) = T) := Lib.hid (by rw [HT.out]; simp [setF, oneF])
      have hx256 := (HRlt.out (x, x) (by simp)).1
      have Hcall := Lib.hid (fun (W : World) (hb : Below w1.heap.size w1 W) => single_any g st x hx256 W (hw1.below hb) (by omega))
      simp only [Nat.zero_mul, Nat.zero_add, List.getD_cons_zero, List.length_cons, List.length_nil] at c0 c1 ⊢
      clear hone n0 hR0 k0 k1 Hcell
      go_wp2
      go_quiet (fail)
      go_wp2_with fail
      refine (Hcall.out _ (below_drewN (Below.refl _ _) _)).mono ?_
      rintro e w2 ⟨rfl, h1, h2⟩
      go_wp2
      exact bodyPost_ret (results_none Tryd.results25 _ _ _) rfl ⟨rfl, HE.out ▸ h1, hwr1.trans (((Wr.refl g w1).below (below_drewN (Below.refl _ _) _) (Nat.le_of_lt hlt1)).trans h2)⟩
    · have hset : setF R = [91] ++ R.flatMap runF ++ [93] := setF_two R (fun e => hR0 (by rw [e]; rfl)) (by simpa using hone)
      have HS : Hid (T = ((st.put [91]).put (R.flatMap runF)).put [93]) := Lib.hid (by rw [HT.out, hset, put_put, put_put]; simp)
      have hcase : (R.length = 1 ∧ ¬ (R.getD 0 (0, 0)).1 = (R.getD 0 (0, 0)).2) ∨ 2 ≤ R.length := by
        match R, hone, hR0 with
        | [], _, h => exact absurd rfl h
        | [(a, b)], h, _ => left; rw [oneF_single] at h; simp at h; exact ⟨rfl, h⟩
        | _ :: _ :: _, _, _ => right; simp
      obtain ⟨m, hm⟩ : ∃ m, m = R.length := ⟨_, rfl⟩
      obtain ⟨k0, k1⟩ := Hcell.out 0 (by omega)
      have c0 := hbk.cell (0 * 2)
      have c1 := hbk.cell (0 * 2 + 1)
      rw [k0] at c0
      rw [k1] at c1
      simp only [Nat.zero_mul, Nat.zero_add] at c0 c1
      have HG0 := Lib.hid (writeK_any g st #[91] [91] rfl (by intro c hc; simp at hc; omega) (by simp))
      rw [← hm] at hRl hcase n0 hR0 Hcell ⊢
      have Hm := Lib.hid hm
      clear hm k0 k1 hset hone
      generalize (R.getD 0 (0, 0)).1 = x0 at *
      generalize (R.getD 0 (0, 0)).2 = y0 at *
      have hsplit : (((m : Int) == 1) = true ∧ ((x0 : Int) == (y0 : Int)) = false) ∨ ((m : Int) == 1) = false := by
        rcases hcase with ⟨q1, q2⟩ | q
        · exact .inl ⟨eq_true (by omega), ne_false (by omega)⟩
        · exact .inr (ne_false (by omega))
      clear hcase
      rcases hsplit with ⟨q1, q2⟩ | q1
      all_goals
        go_wp2
        go_quiet (fail)
        go_wp2_with fail
        refine (HG0.out _ (hw1.below (below_drewN (Below.refl _ _) _)) (by simp; omega)).mono ?_
        rintro e w2 ⟨rfl, h1, h2⟩
        have hbk2 := h2.2 b _ _ (hbk.below (below_drewN (Below.refl _ _) _) hbk.lt) (by decide) hbg
        have hwr2 := hwr1.trans (((Wr.refl g w1).below (below_drewN (Below.refl _ _) _) (Nat.le_of_lt hlt1)).trans h2)
        have HG1 := Lib.hid (fun W (st' : St) h hl => writeK_any g st' #[45] [45] rfl (by intro c hc; simp at hc; omega) (by simp) W h hl)
        have HG2 := Lib.hid (fun W (st' : St) h hl => writeK_any g st' #[93] [93] rfl (by intro c hc; simp at hc; omega) (by simp) W h hl)
        clear hw1 hbk hwr1 c0 c1 h2 HG0
        go_wp2
        go_loopw [44] (fun i wr => ∃ (k : Nat) (S : List Nat), k ≤ m ∧ i = .int .i64 k ∧ Hid (S = (R.take k).flatMap runF) ∧ WAt wr g ((st.put [91]).put S) ∧ Blk wr b 70 cur ∧ Wr g w wr) (fun i _ => m - (intOf i).toNat)
        case atStart => exact ⟨0, [], Nat.zero_le _, rfl, Lib.hid rfl, by rw [put_put]; exact h1, hbk2, hwr2⟩
        case round =>
          clear h1 hbk2 hwr2
          obtain ⟨k, S, hk, rfl, HS1, hW, hbk, hwr⟩ := hrel
          have hSl : S.length ≤ 9 * k := by
            rw [HS1.out]
            exact Nat.le_trans (runsF_len _) (by have := List.length_take_le k R; omega)
          have hltr : g < wr.heap.size := hW.lt
          by_cases hlt : k < m
          · have hkl : k < R.length := by have := Hm.out; omega
            obtain ⟨k0, k1⟩ := Hcell.out k hlt
            have eR : R.getD k (0, 0) = R[k] := by simp [List.getD_eq_getElem?_getD, hkl]
            rw [eR] at k0 k1
            have c0 := hbk.cell (k * 2)
            have c1 := hbk.cell (k * 2 + 1)
            rw [k0] at c0
            rw [k1] at c1
            have hl1 := (HRlt.out _ (List.getElem_mem hkl)).1
            have hl2 := (HRlt.out _ (List.getElem_mem hkl)).2
            have hle := HRle.out _ (List.getElem_mem hkl)
            have Hstep := Lib.hid (runsF_step R k hkl)
            rw [show R[k] = (R[k].1, R[k].2) from rfl] at Hstep
            clear k0 k1 eR
            generalize R[k].1 = x at *
            generalize R[k].2 = y at *
            have hf1 := byteF_len x
            have hf2 := byteF_len y
            have hr := Blk.new wr 70 #[.int .u8 (x : Int), .int .u8 (y : Int)]
            have hWa := hW.alloc (.cells #[.int .u8 (x : Int), .int .u8 (y : Int)] 70)
            have hwra := hwr.alloc (Nat.le_of_lt hltr) (.cells #[.int .u8 (x : Int), .int .u8 (y : Int)] 70)
            have hbka := hbk.alloc (.cells #[.int .u8 (x : Int), .int .u8 (y : Int)] 70)
            have Hs1 := Lib.hid (single_any g _ x hl1 _ hWa (by simp [put_len]; omega))
            have Hs2 := Lib.hid (fun W (st' : St) h hl => single_any g st' y hl2 W h hl)
            have hne : wr.heap.size ≠ g := by omega
            have Hr := Lib.hid hr
            have Hle := Lib.hid hle
            clear hW hbk hwr hWa hr hle
            go_wp2_with fail
            refine Hs1.out.mono ?_
            rintro e w3 ⟨rfl, h3, h4⟩
            have hr3 := h4.2 _ _ _ Hr.out (by decide) hne
            have hb3 := h4.2 b _ _ hbka (by decide) hbg
            have hw3 := hwra.trans h4
            have d0 := hr3.cell 0
            have d1 := hr3.cell 1
            simp only [List.getElem?_toArray, List.getElem?_cons_zero, List.getElem?_cons_succ] at d0 d1
            clear c0 c1 h4 hbka hwra
            rcases (show x = y ∨ x + 1 = y ∨ x + 1 < y by have := Hle.out; omega) with hxy | hxy | hxy
            · have Hf := Lib.hid (runF_same x y hxy)
              subst hxy
              have HE : Hid (((st.put [91]).put S).put (byteF x) = (st.put [91]).put (S ++ runF (x, x))) := Lib.hid (by rw [Hf.out]; simp only [put_put, List.append_assoc])
              go_wp2
              go_roundw
              case rel => exact ⟨k + 1, S ++ runF (x, x), by omega, by go_num, Lib.hid (by rw [HS1.out, Hstep.out]), HE.out ▸ h3, hb3, hw3⟩
              case measure => simp [intOf]; omega
            · have Hf := Lib.hid (runF_next x y hxy)
              subst hxy
              have HE : Hid ((((st.put [91]).put S).put (byteF x)).put (byteF (x + 1)) = (st.put [91]).put (S ++ runF (x, x + 1))) := Lib.hid (by rw [Hf.out]; simp only [put_put, List.append_assoc])
              go_wp2_with fail
              refine (Hs2.out _ _ h3 (by simp [put_len]; omega)).mono ?_
              rintro e w4 ⟨rfl, h5, h6⟩
              have hb4 := h6.2 b _ _ hb3 (by decide) hbg
              have hw4 := hw3.trans h6
              go_wp2
              go_roundw
              case rel => exact ⟨k + 1, S ++ runF (x, x + 1), by omega, by go_num, Lib.hid (by rw [HS1.out, Hstep.out]), HE.out ▸ h5, hb4, hw4⟩
              case measure => simp [intOf]; omega
            · have Hf := Lib.hid (runF_far x y hxy)
              have HE : Hid (((((st.put [91]).put S).put (byteF x)).put [45]).put (byteF y) = (st.put [91]).put (S ++ runF (x, y))) := Lib.hid (by rw [Hf.out]; simp only [put_put, List.append_assoc])
              have hd : 1 < y - x := by omega
              have hsub : IntKind.u8.wrap ((y : Int) - (x : Int)) = (y : Int) - (x : Int) := by rw [IntKind.wrap_u8]; omega
              go_wp2_with fail
              refine (HG1.out _ _ h3 (by simp [put_len]; omega)).mono ?_
              rintro e w4 ⟨rfl, h5, h6⟩
              have hr4 := h6.2 _ _ _ hr3 (by decide) hne
              have hb4 := h6.2 b _ _ hb3 (by decide) hbg
              have hw4 := hw3.trans h6
              have e0 := hr4.cell 0
              have e1 := hr4.cell 1
              simp only [List.getElem?_toArray, List.getElem?_cons_zero, List.getElem?_cons_succ] at e0 e1
              clear d0 d1
              go_wp2_with fail
              refine (Hs2.out _ _ h5 (by simp [put_len]; omega)).mono ?_
              rintro e w5 ⟨rfl, h7, h8⟩
              have hb5 := h8.2 b _ _ hb4 (by decide) hbg
              have hw5 := hw4.trans h8
              go_wp2
              go_roundw
              case rel => exact ⟨k + 1, S ++ runF (x, y), by omega, by go_num, Lib.hid (by rw [HS1.out, Hstep.out]), HE.out ▸ h7, hb5, hw5⟩
              case measure => simp [intOf]; omega
          · have hkm : k = m := by omega
            subst hkm
            have hT : R.take k = R := List.take_of_length_le (by have := Hm.out; omega)
            rw [hT] at HS1
            have HE : Hid (((st.put [91]).put S).put [93] = T) := Lib.hid (by rw [HS.out, HS1.out])
            clear hT
            go_wp2_with fail
            refine (HG2.out _ _ hW (by simp [put_len]; omega)).mono ?_
            rintro e w4 ⟨rfl, h5, h6⟩
            go_wp2
            go_end0
            exact ⟨rfl, HE.out ▸ h5, hwr.trans h6⟩
end Go.Proofs.YtnkiiphliilegaaDoor

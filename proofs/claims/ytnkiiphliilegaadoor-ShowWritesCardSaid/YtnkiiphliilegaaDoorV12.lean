/- Walks of show.Check, riddleref02.Of of a few bytes, and the law's set and shows. -/
import Derived.Test.YtnkiiphliilegaaDoorV11
namespace Go.Proofs.YtnkiiphliilegaaDoor
open Go.RowKit

set_option maxRecDepth 100000 in
set_option maxHeartbeats 4000000 in
theorem check_any (op : Int) (p : Nat → Bool) (mn mx : Int) (ks : List Tm) (A : Option Addr) (c : Nat) (w : World) (hN : nodesL ks ≤ 500) (hks : KidsIn w (· < w.heap.size) A ks) (hT : Tabs w) :
    Calls Tryd.prog 9 #[tval op p mn mx A ks.length c] w fun e w' => e = .returned (.int .i64 ((saysOf (.node op p mn mx ks)).2 : Int)) ∧ Below w.heap.size w w' := by
  have hb0 : Below w.heap.size w (w.alloc (.cells (tcells op p mn mx A ks.length c) 27)) := (Below.refl _ _).alloc (Nat.le_refl _) _
  have Hcall := Lib.hid (show_any op p mn mx ks A c _ hN (hks.below hb0 hb0.size) (hT.below hb0 hT.size))
  have Hb0 := Lib.hid hb0
  unfold ShowSaid at Hcall
  clear hb0 hks hT hN
  generalize saysOf (.node op p mn mx ks) = SY at *
  generalize ks.length = n at *
  go_enter Tryd.func9, Tryd.ntmps9
  go_wp2_with fail
  refine Hcall.out.mono ?_
  rintro e w1 ⟨B, d, rfl, hrd, hb1⟩
  have HX := Lib.hid (Hb0.out.trans (hb1.mono Hb0.out.size))
  clear hrd hb1
  go_wp2
  go_ret
  exact ⟨rfl, HX.out⟩

set_option maxRecDepth 100000 in
set_option maxHeartbeats 4000000 in
theorem refOf_any (L : List Nat) (hL : Bytes8 L) (hn : L.length ≤ 100) (A : Option Addr) (c : Nat) (w : World) (hr : Rd w w.heap.size A (u8s L)) :
    Calls Tryd.prog 20 #[.slice A L.length c] w fun e w' => e = .returned (cval (setOf L)) ∧ Below w.heap.size w w' := by
  have Hfrom : Hid (∀ W, Calls Tryd.prog 32 #[.agg (bools (setOf L) 256)] W fun e w' => e = .returned (cval (setOf L)) ∧ Below W.heap.size W w') := fun W => from_any (setOf L) W
  have Hrd := Lib.hid hr
  have HL := Lib.hid hL
  obtain ⟨n, hnn⟩ : ∃ n, n = L.length := ⟨_, rfl⟩
  rw [← hnn] at hn ⊢
  have Hn := Lib.hid hnn
  clear hr hL hnn
  have hzf := zeroFlags
  unfold bval at hzf
  have H0 := Lib.hid (bools_one (fun _ => false) 256)
  have H1 := Lib.hid (bools_size (fun _ => false) 256)
  have Hcut : Hid (bools (fun _ => false) 256 = bools (setOf (L.take 0)) 256) := bools_congr fun j _ => by simp [setOf]
  generalize bools (fun _ => false) 256 = F0 at *
  have Hr : Hid (Blk (w.alloc (.cells #[.int .u64 0, .int .u64 0, .int .u64 0, .int .u64 0] 24)) w.heap.size 24 #[.int .u64 0, .int .u64 0, .int .u64 0, .int .u64 0]) := Blk.new w _ _
  have Hs : Hid (Blk ((w.alloc (.cells #[.int .u64 0, .int .u64 0, .int .u64 0, .int .u64 0] 24)).alloc (.cells F0 65)) (w.heap.size + 1) 65 F0) := by
    have := Blk.new (w.alloc (.cells #[.int .u64 0, .int .u64 0, .int .u64 0, .int .u64 0] 24)) 65 F0
    rw [World.size_alloc] at this
    exact this
  have Hb : Hid (Below w.heap.size w ((w.alloc (.cells #[.int .u64 0, .int .u64 0, .int .u64 0, .int .u64 0] 24)).alloc (.cells F0 65))) :=
    ((Below.refl _ _).alloc (Nat.le_refl _) _).alloc (by simp) _
  go_enter Tryd.func20, Tryd.ntmps20
  go_wp2_with (with_reducible refine wpList_store_blk Hs.out rfl H0.out 65 (by rw [H1.out]; exact flags_size) rfl (.tmp 3) (.tmp 5) rfl rfl rfl ?_; intro w2 hb2 hg2 hs2)
  have hR : Blk w2 w.heap.size 24 #[.int .u64 0, .int .u64 0, .int .u64 0, .int .u64 0] := (Hr.out.alloc _).grown hg2 (by simp)
  have hB : Below w.heap.size w w2 := below_byGrown Hb.out hg2 (by simp <;> omega) (by omega)
  clear hg2 hs2 Hb Hs Hr
  rw [Hcut.out] at hb2
  have HS := Lib.hid hb2
  have HR := Lib.hid hR
  clear hb2 hR
  go_loopw [4] (fun i wr => ∃ k : Nat, k ≤ n ∧ i = .int .i64 k ∧ Blk wr (w.heap.size + 1) 65 (bools (setOf (L.take k)) 256) ∧ Blk wr w.heap.size 24 #[.int .u64 0, .int .u64 0, .int .u64 0, .int .u64 0] ∧
      Below w.heap.size w wr) (fun i _ => n - (intOf i).toNat)
  case atStart => exact ⟨0, Nat.zero_le _, rfl, HS.out, HR.out, hB⟩
  case round =>
    clear HS HR hB
    obtain ⟨k, hk, rfl, hfl, hres, hbel⟩ := hrel
    by_cases hk1 : k < n
    · have hkl : k < L.length := by have := Hn.out; omega
      obtain ⟨b, off, rfl, hbB, hc0⟩ := Hrd.out.at_ (u8s_get L k hkl)
      have hc := (hbel.cell (p := ⟨b, off + k, none⟩) hbB).trans hc0
      have hz := HL.out L[k] (List.getElem_mem hkl)
      have Htk := Lib.hid (setOf_take L k hkl)
      clear hc0
      generalize L[k] = z at *
      have hf := hfl.free z
      have hcz := hfl.cell z
      rw [bools_get _ _ _ hz] at hcz
      have hst := hfl.store z (.bool true)
      rw [bools_set] at hst
      rw [bools_congr (g := setOf (L.take (k + 1))) (fun j _ => by rw [← Htk.out]; by_cases hj : j = z <;> simp [addB, hj])] at hst
      have Hst := Lib.hid hst
      have Hres := Lib.hid hres
      have Hbel := Lib.hid hbel
      clear hst hfl hres hbel
      generalize setOf (L.take k) = F at *
      go_wp2
      go_roundw
      case rel => exact ⟨k + 1, by omega, by go_num, Hst.out, Hres.out.far (by simp <;> omega) _, Hbel.out.setCell (by simp <;> omega) _⟩
      case measure => simp [intOf]; omega
    · have hk2 : k = n := by omega
      subst hk2
      have hT : L.take k = L := List.take_of_length_le (by have := Hn.out; omega)
      rw [hT] at hfl
      have HR := Lib.hid hres
      have HS := Lib.hid hfl
      have HB := Lib.hid hbel
      have Hres := fun W (h : Blk W w.heap.size 24 #[.int .u64 0, .int .u64 0, .int .u64 0, .int .u64 0]) => blk_fill (p := setOf L) h
      have hfs : (Tryd.prog.info? 65).map (·.size) = some (bools (setOf L) 256).size := by rw [bools_size]; exact flags_size
      generalize bools (setOf L) 256 = F1 at *
      have Hfs := Lib.hid hfs
      have HX := Lib.hid Hres
      clear hfl hres hbel hfs Hres hT
      go_wp2_with (refine wpList_load_row rfl 65 (.tmp 3) rfl (w.heap.size + 1) rfl _ _ _ _ HS.out Tryd.underlying65 rfl Hfs.out ?_)
      refine (Hfrom.out _).mono ?_
      rintro e w3 ⟨rfl, hbel3⟩
      have hR3 := HR.out.below hbel3 HR.out.lt
      have HR3 := Lib.hid hR3
      have e0 := hR3.cell 0
      have e1 := hR3.cell 1
      have e2 := hR3.cell 2
      have e3 := hR3.cell 3
      have hf := hR3.free
      simp only [List.getElem?_toArray, List.getElem?_cons_zero, List.getElem?_cons_succ] at e0 e1 e2 e3
      have HB3 := Lib.hid (HB.out.trans (hbel3.mono HB.out.size))
      clear hR3 hbel3
      go_wp2
      exact bodyPost_ret (v := cval (setOf L)) (results_cell_row Tryd.results20 _ _ _ _ _ _ _ rfl (HX.out _ HR3.out) Tryd.underlying24 rfl (by kernel_rfl)) rfl
        ⟨rfl, (((HB3.out.setCell (by simp <;> omega) _).setCell (by simp <;> omega) _).setCell (by simp <;> omega) _).setCell (by simp <;> omega) _⟩

theorem bytesWorld_rd (L : List Nat) (hL : Bytes8 L) (w W : World) (hb : Below w.heap.size w W) :
    Rd (Lib.bytesWorld W 5 (strL L)) (Lib.bytesWorld W 5 (strL L)).heap.size (some ⟨W.heap.size, 0, none⟩) (u8s L) ∧ Below w.heap.size w (Lib.bytesWorld W 5 (strL L)) := by
  refine ⟨fun _ => ⟨W.heap.size, 0, rfl, by rw [Lib.bytesWorld_size]; omega, fun k v hk => ?_⟩, ?_⟩
  · have hkl : k < L.length := by
      rcases Nat.lt_or_ge k L.length with h' | h'
      · exact h'
      · rw [List.getElem?_eq_none (by rw [u8s_length]; exact h')] at hk; cases hk
    rw [Nat.zero_add, Lib.bytesWorld_cell W _ _ k (by rw [strL_size]; exact hkl), ← hk, u8s_get L k hkl]
    have h2 : (strL L).data.toList = L.map UInt8.ofNat := by
      have := strL_of L _ rfl
      rw [← this]
    have h8 := hL L[k] (List.getElem_mem hkl)
    rw [h2]
    simp [List.getD_eq_getElem?_getD, hkl]
    omega
  · have hsz := hb.size
    exact hb.trans ⟨rfl, rfl, rfl, by rw [Lib.bytesWorld_size]; omega, fun j hj => Lib.bytesWorld_at_old W _ _ j (by omega)⟩

set_option maxRecDepth 100000 in
set_option maxHeartbeats 4000000 in
theorem set_any (L : List Nat) (hL : Bytes8 L) (hn : L.length ≤ 100) (w : World) :
    Calls Tryd.prog 11 #[.string (strL L)] w fun e w' => e = .returned (tval 2 (setOf L) 0 0 none 0 0) ∧ Below w.heap.size w w' := by
  have hb0 : Below w.heap.size w (w.alloc (.cells tzero 27)) := (Below.refl _ _).alloc (Nat.le_refl _) _
  obtain ⟨hrd, hbb⟩ := bytesWorld_rd L hL w _ hb0
  have hcv : (convert 9 31 (.string (strL L))).run Tryd.prog (w.alloc (.cells tzero 27)) = .ok (.slice (some ⟨w.heap.size + 1, 0, none⟩) L.length (grownCap (w.alloc (.cells tzero 27)) (strL L).size 0 5)) (Lib.bytesWorld (w.alloc (.cells tzero 27)) 5 (strL L)) := by
    have := Lib.run_convert_string_bytes (P := Tryd.prog) (w.alloc (.cells tzero 27)) 9 31 5 (strL L) Tryd.underlying9 Tryd.underlying31 Tryd.underlying5
    rw [World.size_alloc, strL_size] at this
    rw [strL_size]
    exact this
  rw [World.size_alloc] at hrd
  have hbk : Blk (Lib.bytesWorld (w.alloc (.cells tzero 27)) 5 (strL L)) w.heap.size 27 tzero := by
    have h1 := Blk.new w 27 tzero
    unfold Blk at h1 ⊢
    rw [Lib.bytesWorld_at_old _ _ _ _ (by simp)]
    exact h1
  have Hcall := Lib.hid (fun C => refOf_any L hL hn _ C _ hrd)
  have Hbk := Lib.hid hbk
  have Hbb := Lib.hid hbb
  generalize Lib.bytesWorld (w.alloc (.cells tzero 27)) 5 (strL L) = wb at *
  generalize strL L = s at *
  clear hrd hbb hbk hb0
  go_enter Tryd.func11, Tryd.ntmps11
  go_wp2_with fail
  refine (Hcall.out _).mono ?_
  rintro e w1 ⟨rfl, hb1⟩
  have hbk1 := Hbk.out.below hb1 Hbk.out.lt
  have hbel := Hbb.out.trans (hb1.mono Hbb.out.size)
  have HBF := Lib.hid (fun (a0 a1 a2 a3 a4 a5 a6 a7 : Value) => blk_fill8 (a0 := a0) (a1 := a1) (a2 := a2) (a3 := a3) (a4 := a4) (a5 := a5) (a6 := a6) (a7 := a7) hbk1)
  have b0 := hbk1.cell 0
  have b1 := hbk1.cell 1
  have b2 := hbk1.cell 2
  have b3 := hbk1.cell 3
  have b4 := hbk1.cell 4
  have b5 := hbk1.cell 5
  have b6 := hbk1.cell 6
  have b7 := hbk1.cell 7
  have hf := hbk1.free
  simp only [List.getElem?_toArray, List.getElem?_cons_zero, List.getElem?_cons_succ] at b0 b1 b2 b3 b4 b5 b6 b7
  have HX := Lib.hid hbel
  clear hbk1 hbel hb1
  go_wp2
  exact bodyPost_ret (v := tval 2 (setOf L) 0 0 none 0 0) (results_cell_row Tryd.results11 _ _ _ _ _ _ _ rfl (HBF.out _ _ _ _ _ _ _ _) Tryd.underlying27 rfl (by kernel_rfl)) rfl
    ⟨rfl, (((((((HX.out.setCell (by simp) _).setCell (by simp) _).setCell (by simp) _).setCell (by simp) _).setCell (by simp) _).setCell (by simp) _).setCell (by simp) _).setCell (by simp) _⟩

set_option maxRecDepth 100000 in
set_option maxHeartbeats 4000000 in
theorem shows_any (op : Int) (p : Nat → Bool) (mn mx : Int) (ks : List Tm) (A : Option Addr) (c : Nat) (L : List Nat) (w : World) (hN : nodesL ks ≤ 500) (hks : KidsIn w (· < w.heap.size) A ks) (hT : Tabs w) (hs : saysOf (.node op p mn mx ks) = (L, 0)) :
    Calls Tryd.prog 12 #[tval op p mn mx A ks.length c, .string (strL L)] w fun e w' => e = .returned (.bool true) ∧ Below w.heap.size w w' := by
  have hb0 : Below w.heap.size w (w.alloc (.cells (tcells op p mn mx A ks.length c) 27)) := (Below.refl _ _).alloc (Nat.le_refl _) _
  have Hcall := Lib.hid (show_any op p mn mx ks A c _ hN (hks.below hb0 hb0.size) (hT.below hb0 hT.size))
  have Hb0 := Lib.hid hb0
  unfold ShowSaid at Hcall
  rw [hs] at Hcall
  clear hb0 hks hT hN hs
  generalize ks.length = n at *
  go_enter Tryd.func12, Tryd.ntmps12
  go_wp2_with fail
  refine Hcall.out.mono ?_
  rintro e w1 ⟨B, d, rfl, hrd, hb1⟩
  have HX := Lib.hid (Hb0.out.trans (hb1.mono Hb0.out.size))
  have hcv := run_strL (P := Tryd.prog) hrd 31 9 5 Tryd.underlying31 Tryd.underlying5 Tryd.underlying9 d
  clear hrd hb1 Hcall Hb0
  generalize strL L = s at *
  generalize L.length = m at *
  go_wp2
  go_ret
  exact ⟨ret_bool (by simp), HX.out⟩
end Go.Proofs.YtnkiiphliilegaaDoor

/- Walks of the reference riddleref02: Other, Fold. -/
import Derived.Test.YtbfgcanceneokaaDoorRb
namespace Go.Proofs.YtbfgcanceneokaaDoor
open Go.RowKit

theorem other_any (b : Nat) (hb : b < 256) (w : World) :
    Calls Tryd.prog 24 #[.int .i64 b] w fun e w' => e = .returned (.int .i64 (other b : Nat)) ∧ w = w' := by
  by_cases h1 : 65 ≤ b ∧ b ≤ 90
  · have ho : other b = b + 32 := by unfold other; rw [if_pos h1]
    rw [ho]
    obtain ⟨h2, h3⟩ := h1
    clear ho
    go_enter Tryd.func24, Tryd.ntmps24
    go_wp2
    go_ret
    exact ⟨by simp, rfl⟩
  · by_cases h4 : 97 ≤ b ∧ b ≤ 122
    · have ho : other b = b - 32 := by unfold other; rw [if_neg h1, if_pos h4]
      rw [ho, show ((b - 32 : Nat) : Int) = (b : Int) - 32 from by omega]
      obtain ⟨h2, h3⟩ := h4
      clear ho h1
      go_enter Tryd.func24, Tryd.ntmps24
      go_wp2
      go_ret
      exact ⟨rfl, rfl⟩
    · have ho : other b = b := by unfold other; rw [if_neg h1, if_neg h4]
      rw [ho]
      clear ho
      have hcases : b < 65 ∨ (90 < b ∧ b < 97) ∨ 122 < b := by omega
      clear h1 h4
      rcases hcases with hq | ⟨hq, hq2⟩ | hq
      all_goals
        go_enter Tryd.func24, Tryd.ntmps24
        go_wp2
        go_ret
        exact ⟨rfl, rfl⟩

/-- flags that may have changed at k alone -/
def Fl (fl k : Nat) (cs : Array Value) (w : World) : Prop := k < cs.size ∧ ∃ b, Blk w fl 43 (cs.setIfInBounds k (.bool b))
/-- the flag at k -/
def flagAt (fl k : Nat) (w : World) : Bool := match w.cell? ⟨fl, k, none⟩ with | some (.bool b) => b | _ => false
theorem Fl.cell {fl k : Nat} {cs : Array Value} {w : World} (h : Fl fl k cs w) : w.cell? ⟨fl, k, none⟩ = some (.bool (flagAt fl k w)) := by
  obtain ⟨hk, b, hb⟩ := h
  have := hb.cell k
  rw [Array.getElem?_setIfInBounds_self_of_lt hk] at this
  unfold flagAt
  rw [this]
theorem Fl.free {fl k : Nat} {cs : Array Value} {w : World} (h : Fl fl k cs w) : w.frozen? ⟨fl, k, none⟩ = false := by
  obtain ⟨_, b, hb⟩ := h
  exact hb.free k
theorem Fl.below {fl k : Nat} {cs : Array Value} {w w' : World} (h : Fl fl k cs w) (hb : Below w.heap.size w w') : Fl fl k cs w' := by
  obtain ⟨hk, b, hh⟩ := h
  exact ⟨hk, b, hh.below hb hh.lt⟩
theorem Fl.store {fl k : Nat} {cs : Array Value} {w : World} (h : Fl fl k cs w) (v : Bool) : Fl fl k cs (w.setCell ⟨fl, k, none⟩ (.bool v)) := by
  obtain ⟨hk, b, hh⟩ := h
  refine ⟨hk, v, ?_⟩
  have := hh.store k (.bool v)
  rwa [Array.setIfInBounds_setIfInBounds] at this
theorem Fl.last {fl k : Nat} {cs : Array Value} {w : World} {v : Bool} (h : Fl fl k cs (w.setCell ⟨fl, k, none⟩ (.bool v))) : Blk (w.setCell ⟨fl, k, none⟩ (.bool v)) fl 43 (cs.setIfInBounds k (.bool v)) := by
  obtain ⟨hk, b, hh⟩ := h
  have h1 := hh.cell k
  rw [Array.getElem?_setIfInBounds_self_of_lt hk] at h1
  have hlt : fl < w.heap.size := by have := hh.lt; simpa using this
  have h2 := hh
  unfold Blk World.setCell at h2
  simp only [Array.getElem?_modify, if_true] at h2
  rw [Array.getElem?_eq_getElem hlt] at h2
  cases ho : w.heap[fl] with
  | cells c t fr =>
    rw [ho] at h2
    simp only [Option.map_some, Option.some.injEq, Obj.cells.injEq, Option.isSome_none, Bool.false_eq_true, if_false] at h2
    have hc : w.cell? ⟨fl, k, none⟩ = c[k]? := by
      unfold World.cell?
      simp [Array.getElem?_eq_getElem hlt, ho]
    have hsz : k < c.size := by
      have := congrArg Array.size h2.1
      simp at this
      omega
    rw [Array.getElem?_eq_getElem hsz] at hc
    rw [World.cell?_setCell_same w _ _ hc] at h1
    simp only [Option.some.injEq, Value.bool.injEq] at h1
    subst h1
    exact hh
  | _ => rw [ho] at h2; simp at h2
theorem grown_below {a w w' : World} {row : Option Nat} (h : a.grownBy w row) (hb : Below w.heap.size w w') : a.grownBy w' row :=
  ⟨hb.os.trans h.os, hb.tape.trans h.tape, hb.output.trans h.output, Nat.le_trans h.size hb.size, fun k hk hne => (hb.block k (Nat.lt_of_lt_of_le hk h.size)).trans (h.block k hk hne)⟩

set_option maxRecDepth 100000 in
set_option maxHeartbeats 4000000 in
theorem refFold_any (p : Nat → Bool) (w : World) :
    Calls Tryd.prog 20 #[cval p] w fun e w' => e = .returned (cval (foldOf p)) ∧ Below w.heap.size w w' := by
  have hz := zeroFlags
  unfold bval at hz
  have H0 := Lib.hid (bools_one (fun _ => false) 256)
  have H1 := Lib.hid (bools_size (fun _ => false) 256)
  have Hcut : Hid (bools (fun _ => false) 256 = bools (cutAt (foldOf p) 0) 256) := bools_congr fun j _ => by simp [cutAt]
  generalize bools (fun _ => false) 256 = F0 at *
  have Hp := Lib.hid (Blk.new w 24 (ccells p))
  have Hr : Hid (Blk ((w.alloc (.cells (ccells p) 24)).alloc (.cells #[.int .u64 0, .int .u64 0, .int .u64 0, .int .u64 0] 24)) (w.heap.size + 1) 24 #[.int .u64 0, .int .u64 0, .int .u64 0, .int .u64 0]) := by
    have := Blk.new (w.alloc (.cells (ccells p) 24)) 24 #[.int .u64 0, .int .u64 0, .int .u64 0, .int .u64 0]
    rw [World.size_alloc] at this
    exact this
  have Hs : Hid (Blk (((w.alloc (.cells (ccells p) 24)).alloc (.cells #[.int .u64 0, .int .u64 0, .int .u64 0, .int .u64 0] 24)).alloc (.cells F0 43)) (w.heap.size + 1 + 1) 43 F0) := by
    have := Blk.new ((w.alloc (.cells (ccells p) 24)).alloc (.cells #[.int .u64 0, .int .u64 0, .int .u64 0, .int .u64 0] 24)) 43 F0
    rw [World.size_alloc, World.size_alloc] at this
    exact this
  have Hb : Hid (Below w.heap.size w (((w.alloc (.cells (ccells p) 24)).alloc (.cells #[.int .u64 0, .int .u64 0, .int .u64 0, .int .u64 0] 24)).alloc (.cells F0 43))) :=
    ((((Below.refl _ _).alloc (Nat.le_refl _) _).alloc (by simp <;> omega) _).alloc (by simp <;> omega) _)
  go_enter Tryd.func20, Tryd.ntmps20
  go_wp2_with (with_reducible refine wpList_store_blk Hs.out rfl H0.out 43 (by rw [H1.out]; exact flags_size) rfl (.tmp 3) (.tmp 5) rfl rfl rfl ?_; intro w2 hb2 hg2 hs2)
  have hP : Blk w2 w.heap.size 24 (ccells p) := ((Hp.out.alloc _).alloc _).grown hg2 (by simp <;> omega)
  have hR : Blk w2 (w.heap.size + 1) 24 #[.int .u64 0, .int .u64 0, .int .u64 0, .int .u64 0] := (Hr.out.alloc _).grown hg2 (by simp <;> omega)
  have hB : Below w.heap.size w w2 := below_byGrown Hb.out hg2 (by simp <;> omega) (by omega)
  clear hg2 hs2 Hb Hs Hr Hp
  rw [Hcut.out] at hb2
  have HS := Lib.hid hb2
  have HP := Lib.hid hP
  have HR := Lib.hid hR
  clear hb2 hP hR
  go_loopw [4] (fun i wr => ∃ k : Nat, k ≤ 256 ∧ i = .int .i64 k ∧ Blk wr w.heap.size 24 (ccells p) ∧ Blk wr (w.heap.size + 1) 24 #[.int .u64 0, .int .u64 0, .int .u64 0, .int .u64 0] ∧
      Blk wr (w.heap.size + 1 + 1) 43 (bools (cutAt (foldOf p) k) 256) ∧ Below w.heap.size w wr) (fun i _ => 256 - (intOf i).toNat)
  case atStart => exact ⟨0, Nat.zero_le _, rfl, HP.out, HR.out, HS.out, hB⟩
  case round =>
    clear HP HR HS hB
    obtain ⟨k, hk, rfl, hP, hR, hS, hbel⟩ := hrel
    by_cases hlt : k < 256
    · have p0 := hP.cell 0
      have p1 := hP.cell 1
      have p2 := hP.cell 2
      have p3 := hP.cell 3
      simp only [List.getElem?_toArray, List.getElem?_cons_zero, List.getElem?_cons_succ] at p0 p1 p2 p3
      have hsp := hP.lt
      have hsf := hS.lt
      have hc := hS.cell k
      rw [bools_get _ _ _ hlt] at hc
      have hfz := hS.free k
      have Hoth := Lib.hid (other_any k hlt)
      have Hol := Lib.hid (other_lt k hlt)
      have Hfold : Hid (foldOf p k = (p k || p (other k))) := rfl
      generalize other k = o at *
      have HF : Fl (w.heap.size + 1 + 1) k (bools (cutAt (foldOf p) k) 256) wr := ⟨by rw [bools_size]; exact hlt, cutAt (foldOf p) k k, by
        have e : bools (cutAt (foldOf p) k) 256 = bools (fun x => if x = k then cutAt (foldOf p) k k else cutAt (foldOf p) k x) 256 := bools_congr fun j _ => by split <;> simp [*]
        rw [bools_set, ← e]
        exact hS⟩
      have hfc := HF.cell
      have hne : some w.heap.size ≠ some (w.heap.size + 1 + 1) := by simp <;> omega
      have Hhas0 := Lib.hid (fun W => refHas_any p k hlt W)
      have Hhas1 := Lib.hid (fun W => refHas_any p o Hol.out W)
      cases hp : p k
      · rw [hp] at Hhas0
        go_wp2
        go_region_held3 (fun w' => w'.cell? ⟨w.heap.size, 0, none⟩ = some (.int .u64 (pw p 0 : Nat)) ∧ w'.cell? ⟨w.heap.size, 1, none⟩ = some (.int .u64 (pw p 1 : Nat)) ∧ w'.cell? ⟨w.heap.size, 2, none⟩ = some (.int .u64 (pw p 2 : Nat)) ∧ w'.cell? ⟨w.heap.size, 3, none⟩ = some (.int .u64 (pw p 3 : Nat)) ∧
            w'.cell? ⟨w.heap.size + 1 + 1, k, none⟩ = some (.bool (flagAt (w.heap.size + 1 + 1) k w')) ∧ w'.frozen? ⟨w.heap.size + 1 + 1, k, none⟩ = false ∧ Fl (w.heap.size + 1 + 1) k (bools (cutAt (foldOf p) k) 256) w' ∧ wr.grownBy w' (some (w.heap.size + 1 + 1)))
          (first | exact ⟨p0, p1, p2, p3, hfc, hfz, HF, grownBy_drew (World.grownBy.refl _ _)⟩ | assumption | (go_split_ands; have hg1 := grown_below (by assumption : wr.grownBy _ (some (w.heap.size + 1 + 1))) hbel1; have hf1 := Fl.below (by assumption : Fl (w.heap.size + 1 + 1) k (bools (cutAt (foldOf p) k) 256) _) hbel1; exact ⟨hg1.cell p0 hne, hg1.cell p1 hne, hg1.cell p2 hne, hg1.cell p3 hne, hf1.cell, hf1.free, hf1, hg1⟩) | (go_split_ands; have hg1 := grownBy_store (by assumption : wr.grownBy _ (some (w.heap.size + 1 + 1))) k (.bool (p o)); have hf1 := Fl.store (by assumption : Fl (w.heap.size + 1 + 1) k (bools (cutAt (foldOf p) k) 256) _) (p o); exact ⟨hg1.cell p0 hne, hg1.cell p1 hne, hg1.cell p2 hne, hg1.cell p3 hne, hf1.cell, hf1.free, hf1, hg1⟩))
          (first | (go_at_call 25; with_reducible refine (Hhas0.out _).mono ?_; rintro e w1 ⟨rfl, hbel1⟩) | (go_at_call 25; with_reducible refine (Hhas1.out _).mono ?_; rintro e w1 ⟨rfl, hbel1⟩) | (go_at_call 24; with_reducible refine (Hoth.out _).mono ?_; rintro e w1 ⟨rfl, rfl⟩))
        go_split_ands
        have hFl := Fl.last (fl := w.heap.size + 1 + 1) (k := k) (cs := bools (cutAt (foldOf p) k) 256) (v := (p o)) (by assumption)
        have hgr := (by assumption : wr.grownBy (World.setCell _ _ _) (some (w.heap.size + 1 + 1)))
        rw [bools_step (foldOf p) k (p o) (by rw [Hfold.out, hp]; simp)] at hFl
        have HF1 := Lib.hid hFl
        have HP1 := Lib.hid (hP.grown hgr (by simp <;> omega))
        have HR1 := Lib.hid (hR.grown hgr (by simp <;> omega))
        have HB1 := Lib.hid (below_byGrown hbel hgr hbel.size (by omega))
        clear hFl hgr HF hfc hfz hc hP hR hS hbel p0 p1 p2 p3
        go_wp2
        go_roundw
        case rel => exact ⟨k + 1, by omega, by go_num, HP1.out, HR1.out, HF1.out, HB1.out⟩
        case measure => simp [intOf]; omega
      · rw [hp] at Hhas0
        go_wp2
        refine wp_region_held_drew (S := fun w' => w'.cell? ⟨w.heap.size, 0, none⟩ = some (.int .u64 (pw p 0 : Nat)) ∧ w'.cell? ⟨w.heap.size, 1, none⟩ = some (.int .u64 (pw p 1 : Nat)) ∧ w'.cell? ⟨w.heap.size, 2, none⟩ = some (.int .u64 (pw p 2 : Nat)) ∧ w'.cell? ⟨w.heap.size, 3, none⟩ = some (.int .u64 (pw p 3 : Nat)) ∧ w'.cell? ⟨w.heap.size + 1 + 1, k, none⟩ = some (.bool (flagAt (w.heap.size + 1 + 1) k w')) ∧ w'.frozen? ⟨w.heap.size + 1 + 1, k, none⟩ = false ∧ Fl (w.heap.size + 1 + 1) k (bools (cutAt (foldOf p) k) 256) w' ∧ wr.grownBy w' (some (w.heap.size + 1 + 1))) (by kernel_rfl) ⟨p0, p1, p2, p3, hfc, hfz, HF, grownBy_drew (World.grownBy.refl _ _)⟩ (fun hHeld => ?_)
        refine wpAnyH_take (i := 0) rfl (by kernel_rfl) (by kernel_rfl) (by kernel_rfl) (fun _ _ _ h => h) (v := .int .i64 (k : Int)) (Or.inl ⟨by rfl, fun w' hw' => ?_⟩) hHeld ?_
        · rfl
        refine wpAnyH_take (i := 1) rfl (by kernel_rfl) (by kernel_rfl) (by kernel_rfl) (fun _ _ _ h => h) (v := cval p) (Or.inl ⟨by rfl, fun w' hw' => ?_⟩) hHeld ?_
        · dsimp only at hw'
          go_split_ands
          go_simp
        refine wpAnyH_take (i := 2) rfl (by kernel_rfl) (by kernel_rfl) (by kernel_rfl) (fun _ _ _ h => h) (v := .int .i64 (k : Int)) (Or.inl ⟨by rfl, fun w' hw' => ?_⟩) hHeld ?_
        · rfl
        simp only [Act.put, List.setIfInBounds_toArray]
        refine wpAnyH_ready (rs := [3]) (by kernel_rfl) (by simp) (AllReadyH.cons rfl (fun K hK => ?_) AllReadyH.nil)
        rw [if_pos (by rfl)]
        go_simp
        go_at_call 25
        refine (Hhas0.out _).mono ?_
        rintro e w1 ⟨rfl, hbel1⟩
        have hg1 := grown_below (grownBy_drew (World.grownBy.refl wr (some (w.heap.size + 1 + 1)))) hbel1
        have hf1 := Fl.below (w := wr.drew) HF hbel1
        refine hK.out _ _ ⟨hg1.cell p0 hne, hg1.cell p1 hne, hg1.cell p2 hne, hg1.cell p3 hne, hf1.cell, hf1.free, hf1, hg1⟩ (fun hHeld2 => ?_)
        refine wpAnyH_take (i := 4) rfl (by kernel_rfl) (by kernel_rfl) (by kernel_rfl) (fun _ _ _ h => h) (v := .bool true) (Or.inl ⟨by rfl, fun w' hw' => ?_⟩) hHeld2 ?_
        · rfl
        simp only [Act.put, List.setIfInBounds_toArray]
        refine wpAnyH_take (i := 5) rfl (by kernel_rfl) (by kernel_rfl) (by kernel_rfl) (fun _ _ _ h => h) (v := undef) (Or.inr ⟨by rfl, rfl⟩) hHeld2 ?_
        refine wpAnyH_take (i := 6) rfl (by kernel_rfl) (by kernel_rfl) (by kernel_rfl) (fun _ _ _ h => h) (v := undef) (Or.inr ⟨by rfl, rfl⟩) hHeld2 ?_
        refine wpAnyH_take (i := 7) rfl (by kernel_rfl) (by kernel_rfl) (by kernel_rfl) (fun _ _ _ h => h) (v := undef) (Or.inr ⟨by rfl, rfl⟩) hHeld2 ?_
        refine wpAnyH_take (i := 8) rfl (by kernel_rfl) (by kernel_rfl) (by kernel_rfl) (fun _ _ _ h => h) (v := undef) (Or.inr ⟨by rfl, rfl⟩) hHeld2 ?_
        refine wpAnyH_take (i := 9) rfl (by kernel_rfl) (by kernel_rfl) (by kernel_rfl) (fun _ _ _ h => h) (v := .bool true) (Or.inl ⟨by rfl, fun w' hw' => ?_⟩) hHeld2 ?_
        · rfl
        refine wpAnyH_take (i := 10) rfl (by kernel_rfl) (by kernel_rfl) (by kernel_rfl) (fun _ _ _ h => h) (v := .pointer (some ⟨w.heap.size + 1 + 1, k, none⟩)) (Or.inl ⟨by rfl, fun w' hw' => ?_⟩) hHeld2 ?_
        · go_simp
        simp only [Act.put]
        refine wpAnyH_ready (rs := [11]) (by kernel_rfl) (by simp) (AllReadyH.cons rfl (fun K hK => ?_) AllReadyH.nil)
        rw [if_pos (by rfl)]
        have c1 := hf1.cell
        have c2 := hf1.free
        go_simp
        have hg2 := grownBy_store hg1 k (.bool true)
        have hf2 := Fl.store hf1 true
        refine hK.out _ _ ⟨hg2.cell p0 hne, hg2.cell p1 hne, hg2.cell p2 hne, hg2.cell p3 hne, hf2.cell, hf2.free, hf2, hg2⟩ (fun _ => ?_)
        refine wpAnyH_done (by kernel_rfl) ?_ _
        have hFl := Fl.last hf2
        rw [bools_step (foldOf p) k true (by rw [Hfold.out, hp]; simp)] at hFl
        have HF1 := Lib.hid hFl
        have HP1 := Lib.hid (hP.grown hg2 (by simp <;> omega))
        have HR1 := Lib.hid (hR.grown hg2 (by simp <;> omega))
        have HB1 := Lib.hid (below_byGrown hbel hg2 hbel.size (by omega))
        clear hFl hg1 hg2 hf1 hf2 c1 c2 HF hfc hfz hc hP hR hS hbel p0 p1 p2 p3 hHeld hHeld2 hK hbel1
        go_wp2
        go_roundw
        case rel => exact ⟨k + 1, by omega, by go_num, HP1.out, HR1.out, HF1.out, HB1.out⟩
        case measure => simp [intOf]; omega
    · have hk2 : k = 256 := by omega
      subst hk2
      rw [bools_congr (cutAt_end (foldOf p))] at hS
      have Hfrom : Hid (∀ W, Calls Tryd.prog 26 #[.agg (bools (foldOf p) 256)] W fun e w' => e = .returned (cval (foldOf p)) ∧ Below W.heap.size W w') := fun W => from_any (foldOf p) W
      have HR := Lib.hid hR
      have HS := Lib.hid hS
      have HB := Lib.hid hbel
      have Hres := fun W (h : Blk W (w.heap.size + 1) 24 #[.int .u64 0, .int .u64 0, .int .u64 0, .int .u64 0]) => blk_fill (p := foldOf p) h
      have hfs : (Tryd.prog.info? 43).map (·.size) = some (bools (foldOf p) 256).size := by rw [bools_size]; exact flags_size
      generalize bools (foldOf p) 256 = F1 at *
      have Hfs := Lib.hid hfs
      have HX := Lib.hid Hres
      clear hP hR hS hbel hfs Hres
      go_wp2_with (refine wpList_load_row rfl 43 (.tmp 3) rfl (w.heap.size + 1 + 1) rfl _ _ _ _ HS.out Tryd.underlying43 rfl Hfs.out ?_)
      refine (Hfrom.out _).mono ?_
      rintro e w3 ⟨rfl, hbel3⟩
      have hR3 := HR.out.below hbel3 HR.out.lt
      have HR3 := Lib.hid hR3
      have e0 := hR3.cell 0
      have e1 := hR3.cell 1
      have e2 := hR3.cell 2
      have e3 := hR3.cell 3
      have hf := hR3.free
      simp only [List.getElem?_toArray, List.getElem?_cons_zero, List.getElem?_cons_succ] at e0 e1 e2 e3
      have HB3 := Lib.hid (HB.out.trans (hbel3.mono HB.out.size))
      clear hR3 hbel3
      go_wp2
      exact bodyPost_ret (v := cval (foldOf p)) (results_cell_row Tryd.results20 _ _ _ _ _ _ _ rfl (HX.out _ HR3.out) Tryd.underlying24 rfl (by kernel_rfl)) rfl
        ⟨rfl, (((HB3.out.setCell (by simp <;> omega) _).setCell (by simp <;> omega) _).setCell (by simp <;> omega) _).setCell (by simp <;> omega) _⟩
end Go.Proofs.YtbfgcanceneokaaDoor

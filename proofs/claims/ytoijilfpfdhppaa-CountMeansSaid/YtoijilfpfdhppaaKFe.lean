/- ref.Of over one byte; four answers held against each other; a counter's methods whatever its kind. -/
import Derived.Test.YtoijilfpfdhppaaKFd
import Derived.Test.YtoijilfpfdhppaaKCb
import Derived.Test.YtoijilfpfdhppaaKG0
namespace Go.Proofs.Ytoijilfpfdhppaa
open Go.RowKit

theorem eql_four (w : World) : (binOp .eql 38 (.agg #[.bool false, .bool true, .bool true, .bool false]) (.agg #[.bool false, .bool true, .bool true, .bool false])).run Try.prog w = .ok (.bool true) w := by kernel_rfl

theorem below_at {w w' : World} {gc g : Nat} {t : TypeId} {cs : Array Value} (h : Blk w gc t cs) (hlt : gc < g) (hb : Below g w w') : Blk w' gc t cs := h.below hb hlt

/-- what a call of a counter's method leaves: the counter with other ages, nothing below it turned -/
def CountNow (kind gc g tp : Nat) (stays : Bool) (S : Nat → Bool) (steps : Nat) (p : Nat → Bool) (least most size : Int) (w w' : World) : Prop :=
  CountAt w' kind gc g tp stays S steps p least most size ∧ Below g w w' ∧ (kind = 0 → Keeps g w w')
theorem now_of {kind gc g tp steps steps' : Nat} {stays : Bool} {S S' : Nat → Bool} {p : Nat → Bool} {least most size : Int} {w w' : World} (h : CountAt w kind gc g tp stays S steps p least most size) (hn : EngNow kind g tp stays S' steps' w w') : CountNow kind gc g tp stays S' steps' p least most size w w' :=
  ⟨⟨below_at h.1 h.2.2 hn.2.1, hn.1, h.2.2⟩, hn.2⟩
variable {kind gc g tp steps : Nat} {stays : Bool} {S : Nat → Bool} {p : Nat → Bool} {least most size : Int}
theorem CountAt.later {w : World} {steps' : Nat} (h : CountAt w kind gc g tp stays S steps p least most size) (hs : steps ≤ steps') : CountAt w kind gc g tp stays S steps' p least most size := ⟨h.1, h.2.1.later hs, h.2.2⟩
theorem CountAt.below {w w' : World} (h : CountAt w kind gc g tp stays S steps p least most size) (hb : Below w.heap.size w w') : CountAt w' kind gc g tp stays S steps p least most size := ⟨h.1.below hb h.1.lt, h.2.1.below hb, h.2.2⟩
theorem CountAt.lt {w : World} (h : CountAt w kind gc g tp stays S steps p least most size) : g < w.heap.size := h.2.1.lt

theorem count_arm (hk : kind < 3) (hs : steps ≤ 80000) (ht : tp ≤ 400) (hS : ∀ a, tp < a → S a = false) (w : World) (h : CountAt w kind gc g tp stays S steps p least most size) :
    Calls Try.prog 7 #[.pointer (some ⟨gc, 0, none⟩)] w (Ended (CountNow kind gc g tp stays (addB S 0) steps p least most size w)) := by
  have hh := h
  obtain ⟨h1, h2, h3⟩ := h
  have : Calls Try.prog 7 #[.pointer (some ⟨gc, 0, none⟩)] w (Ended (EngNow kind g tp stays (addB S 0) steps w)) := by
    match kind, hk with
    | 0, _ => exact counter_arm_0 g gc tp stays S steps p least most size hs ht hS w h1 h2
    | 1, _ => exact counter_arm_1 g gc tp stays S steps p least most size hs ht hS w h1 h2
    | 2, _ => exact counter_arm_2 g gc tp stays S steps p least most size hs ht hS w h1 h2
  refine this.mono ?_
  rintro e w' ⟨hu, hn⟩
  exact ⟨hu, now_of hh hn⟩

theorem count_step (hk : kind < 3) (hs : steps ≤ 70000) (ht : tp ≤ 400) (b : Nat) (hb : b < 256) (w : World) (h : CountAt w kind gc g tp stays S steps p least most size) :
    Calls Try.prog 6 #[.pointer (some ⟨gc, 0, none⟩), .int .u8 ((b : Nat) : Int)] w (Ended (CountNow kind gc g tp stays (stepB p S tp stays b) (steps + 1) p least most size w)) := by
  have hh := h
  obtain ⟨h1, h2, h3⟩ := h
  have : Calls Try.prog 6 #[.pointer (some ⟨gc, 0, none⟩), .int .u8 ((b : Nat) : Int)] w (Ended (EngNow kind g tp stays (stepB p S tp stays b) (steps + 1) w)) := by
    unfold stepB
    cases hp : p b with
    | true =>
      match kind, hk with
      | 0, _ => exact counter_grow_0 g gc tp stays S steps p least most size hs ht b hb hp w h1 h2
      | 1, _ => exact counter_grow_1 g gc tp stays S steps p least most size hs ht b hb hp w h1 h2
      | 2, _ => exact counter_grow_2 g gc tp stays S steps p least most size hs ht b hb hp w h1 h2
    | false =>
      match kind, hk with
      | 0, _ => exact counter_clear_0 g gc tp stays S steps p least most size b hb hp w h1 h2
      | 1, _ => exact counter_clear_1 g gc tp stays S steps p least most size b hb hp w h1 h2
      | 2, _ => exact counter_clear_2 g gc tp stays S steps p least most size b hb hp w h1 h2
  refine this.mono ?_
  rintro e w' ⟨hu, hn⟩
  exact ⟨hu, now_of hh hn⟩

theorem count_done (hk : kind < 3) (hs : steps ≤ 80000) (ht : tp ≤ 400) (hl : 0 ≤ least ∧ least ≤ 1000) (w : World) (h : CountAt w kind gc g tp stays S steps p least most size) :
    Calls Try.prog 9 #[.pointer (some ⟨gc, 0, none⟩)] w (SaysDone S least w) := by
  obtain ⟨h1, h2, h3⟩ := h
  match kind, hk with
  | 0, _ => exact counter_done_0 g gc tp stays S steps p least most size hs ht hl w h1 h2
  | 1, _ => exact counter_done_1 g gc tp stays S steps p least most size hs ht hl w h1 h2
  | 2, _ => exact counter_done_2 g gc tp stays S steps p least most size hs ht hl w h1 h2

set_option maxRecDepth 100000 in
set_option maxHeartbeats 2000000 in
theorem of_one (g z : Nat) (hz : z < 256) (w : World) (h : Blk w g 5 #[.int .u8 (z : Int)]) :
    Calls Try.prog 10 #[.slice (some ⟨g, 0, none⟩) 1 1] w fun e w' => e = .returned (cval fun x => decide (x = z)) ∧ Below w.heap.size w w' := by
  have hlt := h.lt
  have h0 : w.cell? ⟨g, 0, none⟩ = some (.int .u8 (z : Int)) := h.cell 0
  have Hfrom : Hid (∀ W, Calls Try.prog 13 #[.agg (bools (fun x => decide (x = z)) 256)] W fun e w' => e = .returned (cval fun x => decide (x = z)) ∧ Below W.heap.size W w') := fun W => from_any (fun x => decide (x = z)) W
  have H0c := Lib.hid h0
  clear h h0
  have hzf := zeroFlags
  unfold bval at hzf
  have H0 := Lib.hid (bools_one (fun _ => false) 256)
  have H1 := Lib.hid (bools_size (fun _ => false) 256)
  have Hcut : Hid (bools (fun _ => false) 256 = bools (fun x => decide (0 = 1) && decide (x = z)) 256) := bools_congr fun j _ => by simp
  generalize bools (fun _ => false) 256 = F0 at *
  have Hr : Hid (Blk (w.alloc (.cells #[.int .u64 0, .int .u64 0, .int .u64 0, .int .u64 0] 24)) w.heap.size 24 #[.int .u64 0, .int .u64 0, .int .u64 0, .int .u64 0]) := Blk.new w _ _
  have Hs : Hid (Blk ((w.alloc (.cells #[.int .u64 0, .int .u64 0, .int .u64 0, .int .u64 0] 24)).alloc (.cells F0 60)) (w.heap.size + 1) 60 F0) := by
    have := Blk.new (w.alloc (.cells #[.int .u64 0, .int .u64 0, .int .u64 0, .int .u64 0] 24)) 60 F0
    rw [World.size_alloc] at this
    exact this
  have Hb : Hid (Below w.heap.size w ((w.alloc (.cells #[.int .u64 0, .int .u64 0, .int .u64 0, .int .u64 0] 24)).alloc (.cells F0 60))) :=
    ((Below.refl _ _).alloc (Nat.le_refl _) _).alloc (by simp) _
  go_enter Try.func10, Try.ntmps10
  go_wp2_with (with_reducible refine wpList_store_blk Hs.out rfl H0.out 60 (by rw [H1.out]; exact flags_size) rfl (.tmp 3) (.tmp 5) rfl rfl rfl ?_; intro w2 hb2 hg2 hs2)
  have hR : Blk w2 w.heap.size 24 #[.int .u64 0, .int .u64 0, .int .u64 0, .int .u64 0] := (Hr.out.alloc _).grown hg2 (by simp)
  have hB : Below w.heap.size w w2 := below_byGrown Hb.out hg2 (by simp <;> omega) (by omega)
  clear hg2 hs2 Hb Hs Hr
  rw [Hcut.out] at hb2
  have HS := Lib.hid hb2
  have HR := Lib.hid hR
  clear hb2 hR
  go_loopw [4] (fun i wr => ∃ k : Nat, k ≤ 1 ∧ i = .int .i64 k ∧ Blk wr (w.heap.size + 1) 60 (bools (fun x => decide (k = 1) && decide (x = z)) 256) ∧ Blk wr w.heap.size 24 #[.int .u64 0, .int .u64 0, .int .u64 0, .int .u64 0] ∧
      Below w.heap.size w wr) (fun i _ => 1 - (intOf i).toNat)
  case atStart => exact ⟨0, Nat.zero_le _, rfl, HS.out, HR.out, hB⟩
  case round =>
    clear HS HR hB
    obtain ⟨k, hk, rfl, hfl, hres, hbel⟩ := hrel
    by_cases hk1 : k < 1
    · have hk0 : k = 0 := by omega
      subst hk0
      have hc := (hbel.cell (p := ⟨g, 0, none⟩) hlt).trans H0c.out
      have hf := hfl.free z
      have hcz := hfl.cell z
      rw [bools_get _ _ _ hz] at hcz
      have hst := hfl.store z (.bool true)
      rw [bools_set] at hst
      rw [bools_congr (g := fun x => decide (0 + 1 = 1) && decide (x = z)) (fun j _ => by by_cases hj : j = z <;> simp [hj])] at hst
      have Hst := Lib.hid hst
      have Hres := Lib.hid hres
      have Hbel := Lib.hid hbel
      clear hst hfl hres hbel
      go_wp2
      go_roundw
      case rel => exact ⟨0 + 1, by omega, by go_num, Hst.out, Hres.out.far (by simp <;> omega) _, Hbel.out.setCell (by simp <;> omega) _⟩
      case measure => simp [intOf]
    · have hk2 : k = 1 := by omega
      subst hk2
      have hb1 : bools (fun x => decide (1 = 1) && decide (x = z)) 256 = bools (fun x => decide (x = z)) 256 := bools_congr fun j _ => by simp
      rw [hb1] at hfl
      have HR := Lib.hid hres
      have HS := Lib.hid hfl
      have HB := Lib.hid hbel
      have Hres := fun W (h : Blk W w.heap.size 24 #[.int .u64 0, .int .u64 0, .int .u64 0, .int .u64 0]) => blk_fill (p := fun x => decide (x = z)) h
      have hfs : (Try.prog.info? 60).map (·.size) = some (bools (fun x => decide (x = z)) 256).size := by rw [bools_size]; exact flags_size
      generalize bools (fun x => decide (x = z)) 256 = F1 at *
      have Hfs := Lib.hid hfs
      have HX := Lib.hid Hres
      clear hfl hres hbel hfs Hres hb1
      go_wp2_with (refine wpList_load_row rfl 60 (.tmp 3) rfl (w.heap.size + 1) rfl _ _ _ _ HS.out Try.underlying60 rfl Hfs.out ?_)
      refine (Hfrom.out _).mono ?_
      rintro e w3 ⟨rfl, hbel3⟩
      have hR3 := HR.out.below hbel3 HR.out.lt
      have HR3 := Lib.hid hR3
      have e0 := hR3.cell 0
      have e1 := hR3.cell 1
      have e2 := hR3.cell 2
      have e3 := hR3.cell 3
      have hf := hR3.free
      simp only [List.getElem?_toArray, List.getElem?_cons_zero, List.getElem?_cons_succ] at e0 e1 e2 e3
      have HB3 := Lib.hid (HB.out.trans (hbel3.mono HB.out.size))
      clear hR3 hbel3
      go_wp2
      exact bodyPost_ret (v := cval fun x => decide (x = z)) (results_cell_row Try.results10 _ _ _ _ _ _ _ rfl (HX.out _ HR3.out) Try.underlying24 rfl (by kernel_rfl)) rfl
        ⟨rfl, (((HB3.out.setCell (by simp <;> omega) _).setCell (by simp <;> omega) _).setCell (by simp <;> omega) _).setCell (by simp <;> omega) _⟩
end Go.Proofs.Ytoijilfpfdhppaa

/- Walk of riddleref05.Copy: a term in new memory. -/
import Derived.Test.YtnkiiphliilegaaDoorT6
import Derived.Test.YtnkiiphliilegaaDoorS4
import Derived.Deep.AppendLies
import Derived.Deep.RegionLaw
namespace Go.Proofs.YtnkiiphliilegaaDoor
open Go.RowKit

theorem term_info : (Tryd.prog.info? 27).map (fun i => (i.zero, i.size, i.bytes)) = some (some (.agg #[.int .i64 0, .int .u64 0, .int .u64 0, .int .u64 0, .int .u64 0, .int .i64 0, .int .i64 0, .slice none 0 0]), 8, 80) := by kernel_rfl
/-- a call gave a copy of a term, in new memory -/
def Copied (op : Int) (p : Nat → Bool) (mn mx : Int) (ks : List Tm) (w : World) (e : Ending) (w' : World) : Prop :=
  ∃ A c, e = .returned (tval op p mn mx A ks.length c) ∧ KidsIn w' (fun b => w.heap.size ≤ b ∧ b < w'.heap.size) A ks ∧ Below w.heap.size w w'
def CopyOk (N : Nat) : Prop := ∀ (op : Int) (p : Nat → Bool) (mn mx : Int) (ks : List Tm) (A : Option Addr) (c : Nat) (w : World), nodesL ks < N → N ≤ 1000 → KidsIn w (· < w.heap.size) A ks →
    Calls Tryd.prog 6 #[tval op p mn mx A ks.length c] w (Copied op p mn mx ks w)

abbrev tzero : Array Value := #[.int .i64 0, .int .u64 0, .int .u64 0, .int .u64 0, .int .u64 0, .int .i64 0, .int .i64 0, .slice none 0 0]
/-- the blocks of the kids that were copied so far -/
def Mine (base : Nat) (v : Value) (w : World) : Nat → Prop := fun b => base ≤ b ∧ b < w.heap.size ∧ v.ownBlock ≠ some b
theorem copy_rel {base H : Nat} {v v' : Value} {n : Nat} {wr W w1 w2 : World} {cs : List Value} {l : List Tm} {op : Int} {p : Nat → Bool} {mn mx : Int} {A : Option Addr} {c : Nat} {ks : List Tm}
    (hr : ReadsT wr (Mine base v wr) cs l) (hown : wr.ownsRow base 27 8 v n cs) (hb : Below wr.heap.size wr W) (hb1 : Below W.heap.size W w1) (hk : KidsIn w1 (fun b => W.heap.size ≤ b ∧ b < w1.heap.size) A ks) (o : Obj)
    (hg : (w1.alloc o).grownBy w2 v.ownBlock) (hv : v.ownBlock = v'.ownBlock ∨ v'.ownBlock = some H) (hH : w1.heap.size < H) (hbase : base ≤ wr.heap.size) :
    ReadsT w2 (Mine base v' w2) (cs ++ (tcells op p mn mx A ks.length c).toList) (l ++ [.node op p mn mx ks]) := by
  have hz1 := hb.size
  have hz2 := hb1.size
  have hz3 := hg.size
  rw [World.size_alloc] at hz3
  have hown' : ∀ b, v.ownBlock = some b → b < wr.heap.size := fun b h => (hown.lt b h).2
  have same : ∀ b, b < w1.heap.size → v.ownBlock ≠ some b → ∀ x, w2.cell? ⟨b, x, none⟩ = w1.cell? ⟨b, x, none⟩ := fun b hlt hne x =>
    (World.cell?_of_block (a := ⟨b, x, none⟩) (hg.block b (by rw [World.size_alloc]; omega) fun e => hne e.symm)).trans (World.cell?_of_block (a := ⟨b, x, none⟩) (Below.heap_alloc w1 o b hlt))
  have mine : ∀ b, b < w1.heap.size → v.ownBlock ≠ some b → v'.ownBlock ≠ some b := fun b hlt hne => by
    rcases hv with e | e
    · rw [← e]; exact hne
    · rw [e]; simp; omega
  refine (hr.keep (w' := w2) (P' := Mine base v' w2) fun b ⟨h1, h2, h3⟩ => ⟨⟨h1, by omega, mine b (by omega) h3⟩, fun x => ?_⟩).snoc rfl ?_
  · refine TermAt.val (hk.keep fun b ⟨h1, h2⟩ => ?_)
    have hne : v.ownBlock ≠ some b := fun e => by have := hown' b e; omega
    exact ⟨⟨by omega, by omega, mine b h2 hne⟩, same b h2 hne⟩
  · rw [same b (by omega) h3 x, hb1.cell (p := ⟨b, x, none⟩) (by show b < _; omega), hb.cell (p := ⟨b, x, none⟩) (by show b < _; omega)]
theorem reads_store {base g i : Nat} {v : Value} {w : World} {u : Value} {cs : List Value} {l : List Tm} (h : ReadsT w (Mine base v w) cs l) (hg : g < base) : ReadsT (w.setCell ⟨g, i, none⟩ u) (Mine base v (w.setCell ⟨g, i, none⟩ u)) cs l :=
  h.keep fun b ⟨h1, h2, h3⟩ => ⟨⟨h1, by simpa using h2, h3⟩, fun x => World.cell?_of_block (a := ⟨b, x, none⟩) (heap_setCell_other w ⟨g, i, none⟩ b u (by show b ≠ g; omega))⟩
theorem own_ne {w : World} {base : Nat} {e : TypeId} {size : Nat} {v : Value} {n : Nat} {xs : List Value} {g : Nat} (h : w.ownsRow base e size v n xs) (hg : g < base) : some g ≠ v.ownBlock := fun e => by
  have := (h.lt g e.symm).1
  omega
theorem keeps_grown {lo base g : Nat} {w w' : World} (h : w.grownBy w' (some g)) (hg : g < base ∧ lo ≤ base) : KeepsP (fun b => base ≤ b ∧ b < w.heap.size) (fun b => lo ≤ b ∧ b < w'.heap.size) w w' := fun b ⟨h1, h2⟩ =>
  ⟨⟨by omega, Nat.lt_of_lt_of_le h2 h.size⟩, fun x => World.cell?_of_block (a := ⟨b, x, none⟩) (h.block b h2 (by simp; omega))⟩
theorem keepS {N b1 b2 : Nat} {w w' : World} (h1 : b1 < N) (h2 : b2 < N) (h : Below N w w') : (∀ o, w'.cell? ⟨b1, o, none⟩ = w.cell? ⟨b1, o, none⟩) ∧ (∀ o, w'.cell? ⟨b2, o, none⟩ = w.cell? ⟨b2, o, none⟩) ∧ Below N w w' :=
  ⟨fun o => h.cell (p := ⟨b1, o, none⟩) h1, fun o => h.cell (p := ⟨b2, o, none⟩) h2, h⟩

set_option maxRecDepth 100000 in
set_option maxHeartbeats 8000000 in
theorem copy_step (N : Nat) (ih : CopyOk N) : CopyOk (N + 1) := by
  intro op p mn mx ks A c w hN hN1 hks
  obtain ⟨i0, hi0, hz0, hz1, hz2⟩ := info_parts term_info
  obtain ⟨n, hn⟩ : ∃ n, n = ks.length := ⟨_, rfl⟩
  have hn1 : n ≤ 1000 := by have := nodesL_len ks; omega
  rw [← hn]
  have Hn := Lib.hid hn
  have Hk := Lib.hid hks
  have Hih := Lib.hid ih
  clear hn hks ih
  go_enter Tryd.func6, Tryd.ntmps6
  go_wp2
  go_loopw [4] (fun i wr => ∃ (k : Nat) (v : Value) (cs : List Value), k ≤ n ∧ i = .int .i64 k ∧ Blk wr (w.heap.size + 1) 27 tzero ∧
      Blk wr (w.heap.size + 1 + 1) 27 #[.int .i64 op, .int .u64 (pw p 0 : Nat), .int .u64 (pw p 1 : Nat), .int .u64 (pw p 2 : Nat), .int .u64 (pw p 3 : Nat), .int .i64 mn, .int .i64 mx, v] ∧
      wr.ownsRow (w.heap.size + 3) 27 8 v k cs ∧ Hid (ReadsT wr (Mine (w.heap.size + 3) v wr) cs (ks.take k)) ∧ Blk wr w.heap.size 27 (tcells op p mn mx A n c) ∧ Below w.heap.size w wr) (fun i _ => n - (intOf i).toNat)
  case atStart =>
    have b0 := Blk.new w 27 (tcells op p mn mx A n c)
    have b1 := Blk.new (w.alloc (.cells (tcells op p mn mx A n c) 27)) 27 tzero
    have b2 := Blk.new ((w.alloc (.cells (tcells op p mn mx A n c) 27)).alloc (.cells tzero 27)) 27 #[.int .i64 op, .int .u64 (pw p 0 : Nat), .int .u64 (pw p 1 : Nat), .int .u64 (pw p 2 : Nat), .int .u64 (pw p 3 : Nat), .int .i64 mn, .int .i64 mx, .slice none 0 0]
    rw [World.size_alloc] at b1
    rw [World.size_alloc, World.size_alloc] at b2
    exact ⟨0, _, [], Nat.zero_le _, rfl, b1.alloc _, b2, World.ownsRow_nil _ _ _ _, ReadsT.nil _ _, (b0.alloc _).alloc _, (((Below.refl _ _).alloc (Nat.le_refl _) _).alloc (by simp) _).alloc (by simp; omega) _⟩
  case round =>
    obtain ⟨k, v, cs, hk, rfl, hB1, hB2, hown, Hr, hB0, hbel⟩ := hrel
    have c7 := hB0.cell 7
    simp only [List.getElem?_toArray, List.getElem?_cons_zero, List.getElem?_cons_succ] at c7
    have HB0 := Lib.hid hB0
    clear hB0
    have hsz := hB2.lt
    by_cases hlt : k < n
    · have hkl : k < ks.length := by have := Hn.out; omega
      obtain ⟨b, off, op', p', mn', mx', ks', A', c', rfl, hbB, hkid, hcells, hks'⟩ := Hk.out.kid k hkl
      have hcw := hcells.keep (w' := wr) fun x => hbel.cell (p := ⟨b, x, none⟩) hbB
      have hnk : nodesL ks' < N := by
        have := nodesL_at ks k hkl
        rw [hkid] at this
        unfold nodes at this
        omega
      have Hcall := Lib.hid (fun (W : World) (hb : Below wr.heap.size wr W) => Hih.out op' p' mn' mx' ks' A' c' W hnk (by omega) ((hks'.below hbel hbel.size).below hb hb.size))
      have Htake : Hid (ks.take (k + 1) = ks.take k ++ [.node op' p' mn' mx' ks']) := Lib.hid (by rw [List.take_succ_eq_append_getElem hkl, hkid])
      obtain ⟨e0, e1, e2, e3, e4, e5, e6, e7⟩ := hcw
      have hs1 : w.heap.size < w.heap.size + 1 := by omega
      have hs2 : b < w.heap.size + 1 := by omega
      have c27 := hB2.cell 7
      have f27 := hB2.free 7
      have HB1 := Lib.hid hB1
      have HB2 := Lib.hid hB2
      have Hown := Lib.hid hown
      have Hbel := Lib.hid hbel
      simp only [List.getElem?_toArray, List.getElem?_cons_zero, List.getElem?_cons_succ] at c27
      have hk1 : k + 1 ≤ maxLen := by unfold maxLen; omega
      clear hkid hcells hks' hnk hB1 hB2 hown hbel
      go_wp2
      have hs3 : b < wr.heap.size := by omega
      have hs4 : w.heap.size < wr.heap.size := by omega
      go_region_law (first
        | (go_simp; go_at_call 6; refine (Hcall.out _ (Below.refl _ _).drew).mono ?_; intro e w1 hcp; obtain ⟨A2, c2, rfl, hk2, hb1⟩ := hcp; have c27' := (hb1.cell (p := ⟨w.heap.size + 1 + 1, 7, none⟩) hsz).trans c27; have hsz1 := Nat.lt_of_lt_of_le hsz hb1.size; go_wp2_with fail)
        | (have hb1' := held_step ((Below.refl _ _).drew) hb1; refine step_append_lies _ (by rfl) _ _ _ (by rfl) (w.heap.size + 3) 27 i0 _ 8 80 Tryd.underlying25 hi0 hz0 hz1 hz2 rfl (by omega) v k cs (by rfl) ((own_below Hown.out hb1' (Nat.le_refl _)).alloc _) _ 1 1 (tcells op' p' mn' mx' A2 ks'.length c2).toList (by rfl) (by rfl) (World.news_of_block (cs := tcells op' p' mn' mx' A2 ks'.length c2) (t := 27) (fr := (0, 0)) (heap_alloc_new w1 _)) (by simp [Value.oneCell']) (by omega) hk1 (by omega) (by simp; omega) (w1.heap.size + 1) (by simp) ?_; intro gg cap w2 hown2 hgrow hat hlt2; have hB2w := (((HB2.out.below hb1' hsz).alloc _).grown hgrow (own_ne Hown.out (by omega))); have s1 := hB2w.cell 7; have s2 := hB2w.free 7; simp only [List.getElem?_toArray, List.getElem?_cons_zero, List.getElem?_cons_succ] at s1))
      all_goals
        have hst := hB2w.store 7 (.slice (some ⟨gg, 0, none⟩) (k + 1) cap)
        have HR2 := Lib.hid (reads_store (g := w.heap.size + 1 + 1) (i := 7) (u := .slice (some ⟨gg, 0, none⟩) (k + 1) cap) (copy_rel (op := op') (p := p') (mn := mn') (mx := mx') (c := c2) (v' := .slice (some ⟨gg, 0, none⟩) (k + 1) cap) Hr.out Hown.out (Below.refl _ _).drew hb1 hk2 _ hgrow (hat.imp (fun h => h) (fun h => by rw [h]; rfl)) (Nat.lt_succ_self _) (by omega)) (by omega))
        have HO2 := Lib.hid (own_grown hown2 (grownBy_store (World.grownBy.refl w2 _) 7 (.slice (some ⟨gg, 0, none⟩) (k + 1) cap)) (show w.heap.size + 1 + 1 < _ by omega))
        have HB02 := Lib.hid ((((HB0.out.below hb1' hs4).alloc _).grown hgrow (own_ne Hown.out (by omega))).far (p := ⟨w.heap.size + 1 + 1, 7, none⟩) (by show _ ≠ w.heap.size + 1 + 1; omega) (.slice (some ⟨gg, 0, none⟩) (k + 1) cap))
        have HB12 := Lib.hid ((((HB1.out.below hb1' HB1.out.lt).alloc _).grown hgrow (own_ne Hown.out (by omega))).far (p := ⟨w.heap.size + 1 + 1, 7, none⟩) (by show _ ≠ w.heap.size + 1 + 1; omega) (.slice (some ⟨gg, 0, none⟩) (k + 1) cap))
        have hbx := Hbel.out.trans (hb1'.mono Hbel.out.size)
        have HX := Lib.hid ((below_own (hbx.alloc hbx.size _) hgrow ((own_below Hown.out hb1' (Nat.le_refl _)).alloc _) (by omega) (by simp; have := hbx.size; omega)).setCell (p := ⟨w.heap.size + 1 + 1, 7, none⟩) (by simp; omega) (.slice (some ⟨gg, 0, none⟩) (k + 1) cap))
        have Hst := Lib.hid hst
        rw [← Htake.out] at HR2
        clear hst hbx hB2w s1 s2 hb1' hb1 hk2 hown2 hgrow hat
        go_wp2
        go_roundw
        case rel => exact ⟨k + 1, _, _, by omega, by go_num, HB12.out, Hst.out, HO2.out, HR2, HB02.out, HX.out⟩
        case measure => simp [intOf]; omega
    · have hkn : k = n := by omega
      subst hkn
      have hT : ks.take k = ks := List.take_of_length_le (by have := Hn.out; omega)
      rw [hT] at Hr
      have hown' := hown
      rw [Hn.out] at hown'
      have HK := Lib.hid (kids_row (P' := fun b => w.heap.size + 3 ≤ b ∧ b < wr.heap.size) hown' Hr.out (fun b h => ⟨h.1, h.2.1⟩) (fun b h1 h2 => ⟨h1, h2⟩))
      have HBel := Lib.hid hbel
      have HBF := Lib.hid (fun (a0 a1 a2 a3 a4 a5 a6 a7 : Value) => blk_fill8 (a0 := a0) (a1 := a1) (a2 := a2) (a3 := a3) (a4 := a4) (a5 := a5) (a6 := a6) (a7 := a7) hB1)
      have a0 := hB2.cell 0
      have a1 := hB2.cell 1
      have a2 := hB2.cell 2
      have a3 := hB2.cell 3
      have a4 := hB2.cell 4
      have a5 := hB2.cell 5
      have a6 := hB2.cell 6
      have a7 := hB2.cell 7
      have b0 := hB1.cell 0
      have b1 := hB1.cell 1
      have b2 := hB1.cell 2
      have b3 := hB1.cell 3
      have b4 := hB1.cell 4
      have b5 := hB1.cell 5
      have b6 := hB1.cell 6
      have b7 := hB1.cell 7
      have hf := hB1.free
      simp only [List.getElem?_toArray, List.getElem?_cons_zero, List.getElem?_cons_succ] at a0 a1 a2 a3 a4 a5 a6 a7 b0 b1 b2 b3 b4 b5 b6 b7
      clear hT hown hown' Hr hbel hB1 hB2 hlt
      obtain ⟨A', c', rfl, hK⟩ := HK.out
      have HK2 := Lib.hid hK
      clear hK HK
      rw [← Hn.out] at a7
      go_wp2
      exact bodyPost_ret (v := tval op p mn mx A' k c') (results_cell_row Tryd.results6 _ _ _ _ _ _ _ rfl (HBF.out _ _ _ _ _ _ _ _) Tryd.underlying27 rfl (by kernel_rfl)) rfl
        ⟨A', c', by rw [← Hn.out], HK2.out.keep (keeps_grown (grownBy_store (grownBy_store (grownBy_store (grownBy_store (grownBy_store (grownBy_store (grownBy_store (grownBy_store (World.grownBy.refl wr _) _ _) _ _) _ _) _ _) _ _) _ _) _ _) _ _) (by omega)), (((((((HBel.out.setCell (by simp) _).setCell (by simp) _).setCell (by simp) _).setCell (by simp) _).setCell (by simp) _).setCell (by simp) _).setCell (by simp) _).setCell (by simp) _⟩
theorem copy_all : ∀ N, CopyOk N
  | 0 => fun _ _ _ _ _ _ _ _ h => by omega
  | N + 1 => copy_step N (copy_all N)
end Go.Proofs.YtnkiiphliilegaaDoor

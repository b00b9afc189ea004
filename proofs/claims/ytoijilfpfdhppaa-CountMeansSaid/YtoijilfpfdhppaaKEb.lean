/- A number appended to such a row in a drawn region; a number put before it by slices.Insert. -/
import Derived.Test.YtoijilfpfdhppaaKEa
namespace Go.Proofs.Ytoijilfpfdhppaa
open Go.RowKit Go.Shelf

theorem step_row_append {ops : Array Oper} {o : Oper} {a : Act} {w : World} {K : Act → World → Prop} {Q : Exit → Act → World → Prop} {E : Prop}
    (hg : o.guard = none) (s x : Operand) (hop : o.op = Op.call { callee := Callee.builtin Builtin.append, args := #[s, x], argTypes := #[51, 51] })
    (B : Nat) (v : Value) (M : List Int) (hrow : RowO w B v M) (hs : a.eval s = v) (bx : Nat) (y : Int) (hx : a.eval x = .slice (some ⟨bx, 0, none⟩) 1 1) (hy : w.cell? ⟨bx, 0, none⟩ = some (.int .i64 y))
    (hB : B ≤ w.heap.size) (hM : M.length ≤ 4000) (hK : ∀ v' w', RowO w' B v' (M ++ [y]) → Below B w w' → K (a.put o.dst v') w') :
    if Region.wanted o (yielded ops a.tmps) = true then Oper.wp Try.prog o a w K Q else E := by
  obtain ⟨i0, hi, hz0, hz1, hz2⟩ := int_parts
  obtain ⟨A, c, rfl, h1, h2, h3⟩ := hrow
  have hnew : ∀ j u, [Value.int .i64 y][j]? = some u → w.cell? ((⟨bx, 0, none⟩ : Addr).add j) = some u := by
    intro j u hj
    match j, hj with
    | 0, hj => simpa [Addr.add, hy] using hj
  have hone : ∀ u ∈ [Value.int .i64 y], u.oneCell' = true := by intro u hu; simp at hu; subst hu; rfl
  by_cases hr : M.length + 1 ≤ c
  · rcases h3 with ⟨_, h3⟩ | ⟨b, off, cs, rfl, h4, h5, h6, h7⟩
    · omega
    · refine step_append_room hg s x _ hop 3 i0 1 Try.underlying51 hi hz1 b off M.length c hs ⟨bx, 0, none⟩ 1 1 [.int .i64 y] hx rfl hnew hone hr ?_ ?_
      · intro j hj
        simp only [List.length_cons, List.length_nil] at hj
        refine ⟨?_, h5.free _⟩
        rw [h5.cell, Array.getElem?_eq_getElem (by omega)]
        rfl
      · rw [Nat.mul_one]
        refine hK _ _ ?_ (below_setCells h5 h4 (by simp; omega))
        have := rowO_setCells (M := M ++ [y]) (vs := [.int .i64 y]) (o := off + M.length) h5 h4 h6 (by simpa using hr) h2 (by simp; omega) (fun j z hj => by
          by_cases hjl : j < M.length
          · rw [if_neg (by omega)]
            rw [List.getElem?_append_left hjl] at hj
            exact h7 j z hj
          · rw [List.getElem?_append_right (by omega)] at hj
            have hj0 : j - M.length = 0 := by
              refine Nat.eq_zero_of_not_pos fun hp => ?_
              rw [List.getElem?_eq_none (by simp; omega)] at hj
              cases hj
            rw [if_pos (by simp; omega), show off + j - (off + M.length) = 0 from by omega]
            rw [hj0] at hj
            simp only [List.getElem?_cons_zero, Option.some.injEq] at hj ⊢
            rw [hj])
        rwa [List.length_append] at this
  · refine step_append_grows hg s x _ hop 3 i0 _ 1 8 Try.underlying51 hi hz0 hz1 hz2 rfl (by decide) A M.length c (i64s M) hs ?_ (by rw [i64s_length, Nat.mul_one]) ?_ ⟨bx, 0, none⟩ 1 1 [.int .i64 y] hx rfl hnew hone (by omega) (by unfold maxLen; omega) (by omega) ?_
    · intro hA
      rcases h3 with ⟨_, h3⟩ | ⟨b, off, cs, h3, _⟩
      · omega
      · rw [hA] at h3; cases h3
    · intro b hb j u hj
      rcases h3 with ⟨h3, _⟩ | ⟨b', off, cs, h3, h4, h5, h6, h7⟩
      · rw [h3] at hb; cases hb
      · rw [h3] at hb
        cases hb
        rw [i64s_get] at hj
        obtain ⟨z, hz, rfl⟩ := Option.map_eq_some_iff.1 hj
        rw [Addr.add_lit, h5.cell]
        exact h7 j z hz
    · intro v' w' hown hgr
      refine hK v' w' (rowO_of_own ?_) ((Below.refl B w).grown hgr hB (fun k hk => by cases hk))
      have := own_base hown hB
      rw [List.length_append]
      simpa [i64s] using this

theorem size_zeroInts (n : Nat) : (Builtin.zeroCells (Value.int .i64 0).cells n).size = n := by
  simp [Builtin.zeroCells, Value.cells]
/-- slices.Insert(s, 0, y) -/
def Put (B : Nat) (M : List Int) (y : Int) (w : World) (e : Ending) (w' : World) : Prop := ∃ v', e = .returned v' ∧ RowO w' B v' (y :: M) ∧ Below B w w'
theorem insert_front (B : Nat) (v : Value) (M : List Int) (w : World) (hrow : RowO w B v M) (bx : Nat) (y : Int) (hbx : Blk w bx 3 #[.int .i64 y]) (hne : ∀ A n c, v = .slice A n c → ∀ b off, A = some ⟨b, off, none⟩ → bx ≠ b) (hB : B ≤ w.heap.size) (hM : M.length ≤ 4000) :
    Calls Try.prog 55 #[v, .int .i64 0, .slice (some ⟨bx, 0, none⟩) 1 1] w (Put B M y w) := by
  obtain ⟨A, c, rfl, h1, h2, h3⟩ := hrow
  have hc63 : c ≤ 9223372036854775807 := by unfold maxLen at h2; omega
  have hvs : ∀ j u, [Value.int .i64 y][j]? = some u → w.cell? ⟨bx, 0 + j, none⟩ = some u := by
    intro j u hj
    rw [Nat.zero_add, hbx.cell]
    simpa using hj
  have hone : ∀ u ∈ [Value.int .i64 y], u.oneCell' = true := by intro u hu; simp at hu; subst hu; rfl
  by_cases hMe : M = []
  · subst hMe
    by_cases hr : 1 ≤ c
    · rcases h3 with ⟨_, h3⟩ | ⟨b, off, cs, rfl, h4, h5, h6, h7⟩
      · omega
      · have H := Any2.slices_Insert_int_end_room laysInsert b off 0 c bx 0 1 1 [.int .i64 y] w (by decide) hr hc63 rfl
          (fun j hj => by rw [h5.cell, Array.getElem?_eq_getElem (by omega)]; rfl) (fun j hj => h5.free _) hvs hone
        refine Calls.mono H ?_
        rintro e w' ⟨rfl, rfl⟩
        exact ⟨_, rfl, rowO_setCells (M := [y]) (vs := [.int .i64 y]) (o := off + 0) h5 h4 h6 hr h2 (by simp; omega) (fun j z hj => by
          have hj0 : j = 0 := by
            refine Nat.eq_zero_of_not_pos fun hp => ?_
            rw [List.getElem?_eq_none (by simp; omega)] at hj
            cases hj
          subst hj0
          rw [if_pos (by simp)]
          simp only [List.getElem?_cons_zero, Option.some.injEq] at hj
          subst hj
          simp), below_setCells h5 h4 (by simp; omega)⟩
    · have hc0 : c = 0 := by omega
      subst hc0
      have H := Any2.slices_Insert_int_end_grow laysInsert A 0 0 bx 0 1 1 [] [.int .i64 y] w (by decide) (Nat.le_refl _) (by decide) (by decide) rfl rfl (fun _ => rfl) (fun a _ j u hj => by simp at hj) hvs hone
      refine Calls.mono H ?_
      rintro e w' ⟨rfl, rfl⟩
      have hge := grownCap_ge w (0 + 1) 0 (rho.t 3)
      have hle := grownCap_le_maxLen w (0 + 1) 0 (rho.t 3) (by unfold maxLen; omega)
      have hbn : Blk (w.drew.alloc (.cells (([] ++ [Value.int .i64 y]).toArray ++ Builtin.zeroCells (Value.int .i64 0).cells (grownCap w (0 + 1) 0 (rho.t 3) - (0 + 1))) (rho.t 3))) w.heap.size 3 (([] ++ [Value.int .i64 y]).toArray ++ Builtin.zeroCells (Value.int .i64 0).cells (grownCap w (0 + 1) 0 (rho.t 3) - (0 + 1))) := Blk.new w.drew 3 _
      refine ⟨_, rfl, ⟨_, _, rfl, hge, hle, .inr ⟨w.heap.size, 0, _, rfl, hB, hbn, ?_, ?_⟩⟩, ((Below.refl B w).drew).alloc hB _⟩
      · rw [Array.size_append, size_zeroInts]
        simp
        omega
      · intro j z hj
        have hj0 : j = 0 := by
          refine Nat.eq_zero_of_not_pos fun hp => ?_
          rw [List.getElem?_eq_none (by simp; omega)] at hj
          cases hj
        subst hj0
        simp only [List.getElem?_cons_zero, Option.some.injEq] at hj
        subst hj
        rw [Array.getElem?_append_left (by simp)]
        rfl
  · have hpos : 0 < M.length := List.length_pos_iff.2 hMe
    rcases h3 with ⟨_, h3⟩ | ⟨b, off, cs, rfl, h4, h5, h6, h7⟩
    · omega
    · have hcs : ∀ j u, (i64s M)[j]? = some u → w.cell? ⟨b, off + j, none⟩ = some u := by
        intro j u hj
        rw [i64s_get] at hj
        obtain ⟨z, hz, rfl⟩ := Option.map_eq_some_iff.1 hj
        rw [h5.cell]
        exact h7 j z hz
      by_cases hr : M.length + 1 ≤ c
      · have hsa : w.shape? bx = some (3, 1) := by
          unfold World.shape?
          have : w.heap[bx]? = some (.cells #[.int .i64 y] 3 (0, 0)) := hbx
          rw [this]
          rfl
        have hsb : w.shape? b = some (3, cs.size) := by
          unfold World.shape?
          have : w.heap[b]? = some (.cells cs 3 (0, 0)) := h5
          rw [this]
        have H := Any2.slices_Insert_int_shift laysInsert b off M.length c 0 bx 0 1 1 (i64s M) [.int .i64 y] w hpos (by decide) hr hc63 (hne _ _ _ rfl b off rfl) (i64s_length M) rfl hcs
          (fun j hj => by rw [h5.cell, Array.getElem?_eq_getElem (by omega)]; rfl) (fun j hj => h5.free _) hvs (i64s_one M) hone _ _ _ _ hsa hsb (by omega) (hbx.free 0) (hbx.free 1)
        refine Calls.mono H ?_
        rintro e w' ⟨rfl, rfl⟩
        rw [List.drop_zero]
        obtain ⟨cs1, k1, k2, k3, k4⟩ := blk_setCells (i64s M) (off + (0 + 1)) w.drew cs h5.drew (by rw [i64s_length]; omega)
        refine ⟨_, rfl, rowO_setCells (M := y :: M) (vs := [.int .i64 y]) (o := off + 0) k1 h4 (by omega) (by simpa using hr) h2 (by simp; omega) (fun j z hj => ?_), ?_⟩
        · match j, hj with
          | 0, hj =>
            simp only [List.getElem?_cons_zero, Option.some.injEq] at hj
            subst hj
            rw [if_pos (by simp)]
            simp
          | j + 1, hj =>
            simp only [List.getElem?_cons_succ] at hj
            have hjl := (List.getElem?_eq_some_iff.1 hj).1
            rw [if_neg (by simp), k4, if_pos (by rw [i64s_length]; omega), show off + (j + 1) - (off + (0 + 1)) = j from by omega, i64s_get, hj]
            rfl
        · refine ((Below.refl B w).drew.trans ?_).trans (below_setCells k1 h4 (by simp; omega))
          exact below_setCells h5.drew h4 (by rw [i64s_length]; omega)
      · have H := Any2.slices_Insert_int_grow laysInsert b off M.length c 0 bx 0 1 1 (i64s M) [.int .i64 y] w hpos (by decide) h1 (by omega) (by omega) (i64s_length M) rfl hcs hvs (i64s_one M) hone
        refine Calls.mono H ?_
        rintro e w' ⟨rfl, rfl⟩
        have hge := grownCap_ge w (M.length + 1) c (rho.t 3)
        have hle := grownCap_le_maxLen w (M.length + 1) c (rho.t 3) (by unfold maxLen; omega)
        generalize hgc : grownCap w (M.length + 1) c (rho.t 3) = G at *
        rw [List.drop_zero, List.take_zero, Nat.sub_zero]
        have hbn := Blk.new w (rho.t 3) ((([] : List Value).toArray ++ Builtin.zeroCells (Value.int .i64 0).cells (M.length + 1) ++ Builtin.zeroCells (Value.int .i64 0).cells (G - (M.length + 1))))
        have hsz : ((([] : List Value).toArray ++ Builtin.zeroCells (Value.int .i64 0).cells (M.length + 1) ++ Builtin.zeroCells (Value.int .i64 0).cells (G - (M.length + 1)))).size = G := by
          rw [Array.size_append, Array.size_append, size_zeroInts, size_zeroInts]
          simp
          omega
        have hb0 : Below B w (w.alloc (.cells ((([] : List Value).toArray ++ Builtin.zeroCells (Value.int .i64 0).cells (M.length + 1) ++ Builtin.zeroCells (Value.int .i64 0).cells (G - (M.length + 1)))) (rho.t 3))) := (Below.refl B w).alloc hB _
        generalize (([] : List Value).toArray ++ Builtin.zeroCells (Value.int .i64 0).cells (M.length + 1) ++ Builtin.zeroCells (Value.int .i64 0).cells (G - (M.length + 1))) = arr at *
        generalize w.alloc (.cells arr (rho.t 3)) = wa at *
        obtain ⟨cs1, k1, k2, k3, k4⟩ := blk_setCells [Value.int .i64 y] 0 wa.drew arr hbn.drew (by simp; omega)
        refine ⟨_, rfl, rowO_setCells (M := y :: M) (vs := i64s M) (o := 0 + 1) (off := 0) k1.drew hB (c := G) (by omega) (by simpa using hge) hle (by rw [i64s_length]; omega) (fun j z hj => ?_), ?_⟩
        · match j, hj with
          | 0, hj =>
            simp only [List.getElem?_cons_zero, Option.some.injEq] at hj
            subst hj
            rw [if_neg (by omega), k4, if_pos (by simp)]
            rfl
          | j + 1, hj =>
            simp only [List.getElem?_cons_succ] at hj
            have hjl := (List.getElem?_eq_some_iff.1 hj).1
            rw [if_pos (by rw [i64s_length]; omega), show 0 + (j + 1) - (0 + 1) = j from by omega, i64s_get, hj]
            rfl
        · refine (((hb0.drew).trans (below_setCells hbn.drew hB (by simp; omega))).drew).trans (below_setCells k1.drew hB (by rw [i64s_length]; omega))
end Go.Proofs.Ytoijilfpfdhppaa

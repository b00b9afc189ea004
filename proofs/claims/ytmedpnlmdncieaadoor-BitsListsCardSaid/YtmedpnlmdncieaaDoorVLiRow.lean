/- The row of riddlelaw01.BitsLists and its tied card: whatever the arguments, the law answers true, and they read behind the call as before. -/
import Derived.Test.YtmedpnlmdncieaaDoorVLi
import Derived.Test.YtmedpnlmdncieaaDoorVP
import Derived.SevenTiedAt
namespace Go.Proofs.YtmedpnlmdncieaaDoor
open Go.ChangeShapes Go.WideShapes Go.RowKit

set_option maxRecDepth 100000 in
theorem bitsLists_lifted (os : Os) (started : os.Started) (H : Type) (enc : TypeId × Value → H) :
    ReturnsInHanded {} Tryd.checked os 8 .any (fun w args => (Rows.bitsListsSpec.pre enc Tryd.prog Tryd.f8 [] false w args ∧ laidMet Tryd.prog [("math/bits.deBruijn64tab", Rows.laid_math_bits_deBruijn64tab)] w) ∧ sizedMet enc Tryd.prog Tryd.f8 (OpenSpec.ofChange Rows.bitsListsSpec) false w args)
      (Rows.bitsListsSpec.post enc Tryd.prog Tryd.f8 false true false false) := by
  refine returnsInHanded_of_change_and (C := Tryd.checked) (X := fun w _ => laidMet Tryd.prog [("math/bits.deBruijn64tab", Rows.laid_math_bits_deBruijn64tab)] w) (fun _ _ _ hh h => h.of_heap hh) Tryd.ownKnobNone started (by kernel_rfl) Tryd.func8
    (ChangeSpec.witness_at (enc := enc) (C := Tryd.checked) (os := os) (X := fun w _ => laidMet Tryd.prog [("math/bits.deBruijn64tab", Rows.laid_math_bits_deBruijn64tab)] w) false (laidWorld os) #[.slice none 0 0, .slice none 0 0] 8 rfl (by kernel_rfl) (by kernel_rfl) (by kernel_rfl) (by kernel_rfl) (by kernel_rfl) (laidWorld_met os _)) ?_
  intro W base args ds gs before hval0 hW _ hsz hL _
  have hval : ∀ (j : Nat) t v, Tryd.f8.params[j]? = some t → args[j]? = some v → Value.okWide Tryd.prog W .any base t v := hval0
  have hW' := hW
  obtain ⟨p, q, hA0, hV, rfl, hfz, hnd⟩ := hW
  have hA : DataW.TrodAll enc Tryd.prog W 0 (fun _ => true) true Tryd.f8.params.toList args.toList ds p := hA0
  have hAk := hA
  rw [Tryd.params8] at hA hval
  obtain ⟨v0, v1, d0, d1, p0, p1, rfl, rfl, rfl, h0, h1⟩ := trodAll_two hA
  obtain ⟨rfl, rfl⟩ := trodVars_none hV
  clear hA0 hval0
  have hlt : ∀ x ∈ p0 ++ p1, x.block < W.heap.size := fun x hx => hW'.lt x (by simpa using hx)
  obtain ⟨A0, n0, c0, f0, rfl, V0, N0⟩ := open_vec (hval 0 23 v0 rfl rfl) h0 (fun x hx => hlt x (by simp [hx])) (fun elems spare e => sized_slice hsz (j := 0) (t := 23) rfl (by rw [e]; rfl) Tryd.underlying23)
  obtain ⟨A1, c1, L1, rfl, R1⟩ := open_list (hval 1 36 v1 rfl rfl) h1 (fun x hx => hlt x (by simp [hx])) (fun elems spare e => sized_slice hsz (j := 1) (t := 36) rfl (by rw [e]; rfl) Tryd.underlying36)
  refine (lists_walk f0 n0 A0 A1 c0 c1 L1 W (tab_of_laid hL) V0 R1).mono fun e W' ⟨he, hw⟩ => ?_
  subst he
  exact ⟨_, rfl, post_of_below (pv := []) hW' (fun _ _ _ => trodAll_mk1 (shut_bool Tryd.underlying4 true)) (fun sp hsp => trodAll_below Tryd.laidOutAll hw (by rw [Tryd.params8]; decide +kernel) hAk (fun x hx => hW'.lt x (List.mem_append_left _ hx)) (fun x hx => hsp x (List.mem_append_left _ hx))) (fun _ _ => rfl) rfl
    hw (ok_one (by kernel_rfl) rfl (okWide_bool_mk Tryd.underlying4 true))⟩

theorem bitsLists_holds : Rows.BitsListsSaid :=
  OpenClaim.holds_of_wide 8 Tryd.f8 rfl rfl rfl rfl rfl rfl rfl ⟨rfl, rfl, rfl, rfl, rfl⟩ rfl rfl rfl rfl rfl (by kernel_rfl) Tryd.func8 (by kernel_rfl)
    (of_decide_eq_true (by kernel_rfl)) (by unfold Func.isWrapper; rw [if_neg (of_decide_eq_false (by kernel_rfl))]; exact ⟨rfl, rfl⟩)
    (fun os started H enc _ => bitsLists_lifted os started H enc)

theorem bitsLists_card : Rows.BitsListsCardSaid :=
  Claim7.holds_tied_plain_at .later [] [.data] true (true, "b53c51b2210451d49354368c505e20c5887794835ec2b381d58a77c29bdaffbe") false
    bitsLists_holds (fun _ h => by cases h) (by kernel_rfl) (fun _ h => by cases h) bitsLists_row_tie rfl ⟨rfl, rfl⟩ (by kernel_rfl) rfl
    (fun f fn hf hfn => by
      obtain rfl : f = 8 := Option.some.inj ((show Tryd.prog.funcNamed "riddle/riddlelaw01.BitsLists" = some 8 by kernel_rfl).symm.trans hf) |>.symm
      obtain rfl : fn = Tryd.f8 := (Option.some.inj (Tryd.func8.symm.trans hfn)).symm
      exact ⟨by kernel_rfl, fun j t ht => by
        rw [Tryd.params8] at ht
        rcases j with _ | _ | j
        · obtain rfl : t = 23 := by simpa using ht.symm
          exact (show Tryd.prog.wantsStandIn 23 = false by kernel_rfl)
        · obtain rfl : t = 36 := by simpa using ht.symm
          exact (show Tryd.prog.wantsStandIn 36 = false by kernel_rfl)
        · simp at ht⟩)
    (by kernel_rfl)
#print axioms bitsLists_card
end Go.Proofs.YtmedpnlmdncieaaDoor

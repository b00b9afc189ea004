/- Walk of the writer's single: a byte's form. -/
import Derived.Test.YtnkiiphliilegaaDoorV1
namespace Go.Proofs.YtnkiiphliilegaaDoor
open Go.RowKit

theorem hex_cut (x : Nat) (hx : x < 16) : ∀ w : World, (Instr.slice 9 (.string hexs) (some (.int .u8 (x : Int))) (some (.int .u8 ((x : Int) + 1))) none).run Tryd.prog w = .ok (.string (strL [hexd x])) w := by
  match x, hx with
  | 0, _ => exact fun _ => by kernel_rfl
  | 1, _ => exact fun _ => by kernel_rfl
  | 2, _ => exact fun _ => by kernel_rfl
  | 3, _ => exact fun _ => by kernel_rfl
  | 4, _ => exact fun _ => by kernel_rfl
  | 5, _ => exact fun _ => by kernel_rfl
  | 6, _ => exact fun _ => by kernel_rfl
  | 7, _ => exact fun _ => by kernel_rfl
  | 8, _ => exact fun _ => by kernel_rfl
  | 9, _ => exact fun _ => by kernel_rfl
  | 10, _ => exact fun _ => by kernel_rfl
  | 11, _ => exact fun _ => by kernel_rfl
  | 12, _ => exact fun _ => by kernel_rfl
  | 13, _ => exact fun _ => by kernel_rfl
  | 14, _ => exact fun _ => by kernel_rfl
  | 15, _ => exact fun _ => by kernel_rfl
  | n + 16, h => exact absurd h (by omega)

/-- what a method of the writer does -/
def Wrote1 (g : Nat) (st : St) (w : World) (e : Ending) (w' : World) : Prop := e = .returned (.tuple #[]) ∧ WAt w' g st ∧ Wr g w w'

set_option maxRecDepth 100000 in
set_option maxHeartbeats 2000000 in
theorem single_yes (g : Nat) (st : St) (b : Nat) (hb : b < 256) (h : isAl b = true) (w : World) (hw : WAt w g st) (hlen : st.s.length + 4 ≤ 4000000) :
    Calls Tryd.prog 35 #[.pointer (some ⟨g, 0, none⟩), .int .u8 (b : Int)] w (Wrote1 g (st.put (byteF b)) w) := by
  unfold Wrote1
  have hf : byteF b = [b] := by unfold byteF; rw [if_pos h]
  rw [hf]
  have Hwb := Lib.hid (writeByte_any g st b w hw (by omega))
  have hcases : (48 ≤ b ∧ b ≤ 57) ∨ (97 ≤ b ∧ b ≤ 122) ∨ (65 ≤ b ∧ b ≤ 90) := by
    simp [isAl] at h
    omega
  have hlt := hw.lt
  clear h hf hw
  rcases hcases with ⟨h1, h2⟩ | ⟨h1, h2⟩ | ⟨h1, h2⟩
  · go_enter Tryd.func35, Tryd.ntmps35
    go_wp2_with fail
    refine Hwb.out.mono ?_
    rintro e w1 ⟨rfl, h3, h4⟩
    go_wp2
    go_end0
    exact ⟨rfl, h3, h4⟩
  · have h3 : 48 ≤ b := by omega
    have h4 : ¬ b ≤ 57 := by omega
    go_enter Tryd.func35, Tryd.ntmps35
    go_wp2_with fail
    refine Hwb.out.mono ?_
    rintro e w1 ⟨rfl, h3, h4⟩
    go_wp2
    go_end0
    exact ⟨rfl, h3, h4⟩
  · have h3 : 48 ≤ b := by omega
    have h4 : ¬ b ≤ 57 := by omega
    have h5 : ¬ 97 ≤ b := by omega
    go_enter Tryd.func35, Tryd.ntmps35
    go_wp2_with fail
    refine Hwb.out.mono ?_
    rintro e w1 ⟨rfl, h3, h4⟩
    go_wp2
    go_end0
    exact ⟨rfl, h3, h4⟩
set_option maxRecDepth 100000 in
set_option maxHeartbeats 2000000 in
theorem single_no (g : Nat) (st : St) (b : Nat) (hb : b < 256) (h : isAl b = false) (w : World) (hw : WAt w g st) (hlen : st.s.length + 4 ≤ 4000000) :
    Calls Tryd.prog 35 #[.pointer (some ⟨g, 0, none⟩), .int .u8 (b : Int)] w (Wrote1 g (st.put (byteF b)) w) := by
  unfold Wrote1
  have hf : byteF b = [92, 120, hexd (b / 16), hexd (b % 16)] := by unfold byteF; rw [h]; rfl
  have hws := writeString_any g st (byteF b) (byteF_lt b hb) (by rw [hf]; simp) w.drew hw.drew (by rw [hf]; simpa using hlen)
  rw [hf] at hws ⊢
  have Hws := Lib.hid hws
  have hcases : (b < 48) ∨ (48 ≤ b ∧ ¬ b ≤ 57 ∧ ¬ 97 ≤ b ∧ ¬ 65 ≤ b) ∨ (48 ≤ b ∧ ¬ b ≤ 57 ∧ ¬ 97 ≤ b ∧ 65 ≤ b ∧ ¬ b ≤ 90) ∨ (48 ≤ b ∧ ¬ b ≤ 57 ∧ 97 ≤ b ∧ ¬ b ≤ 122 ∧ 65 ≤ b ∧ ¬ b ≤ 90) := by
    simp [isAl] at h
    omega
  have hlt := hw.lt
  have w1 : IntKind.u8.wrap ((b : Int) / 16) = (b : Int) / 16 := by rw [IntKind.wrap_u8]; omega
  have w2 : (b : Int).tmod 16 = (b : Int) % 16 := by rw [Int.tmod_eq_emod_of_nonneg (by omega)]
  have w3 : IntKind.u8.wrap ((b : Int) / 16 + 1) = (b : Int) / 16 + 1 := by rw [IntKind.wrap_u8]; omega
  have w4 : IntKind.u8.wrap ((b : Int) % 16 + 1) = (b : Int) % 16 + 1 := by rw [IntKind.wrap_u8]; omega
  have i1 := hex_cut (b / 16) (by omega)
  have i2 := hex_cut (b % 16) (by omega)
  rw [show ((b / 16 : Nat) : Int) = (b : Int) / 16 by omega] at i1
  rw [show ((b % 16 : Nat) : Int) = (b : Int) % 16 by omega] at i2
  have k1 : ¬ 9223372036854775807 < 2 + (strL [hexd (b / 16)]).size := by rw [strL_size]; simp
  have k2 : ByteArray.mk #[92, 120] ++ strL [hexd (b / 16)] = strL [92, 120, hexd (b / 16)] := by
    rw [show [92, 120, hexd (b / 16)] = [92, 120] ++ [hexd (b / 16)] from rfl, ← strL_app]; rfl
  have k3 : ¬ 9223372036854775807 < (strL [92, 120, hexd (b / 16)]).size + (strL [hexd (b % 16)]).size := by rw [strL_size, strL_size]; simp
  have k4 : strL [92, 120, hexd (b / 16)] ++ strL [hexd (b % 16)] = strL [92, 120, hexd (b / 16), hexd (b % 16)] := strL_app _ _
  have H := Lib.hid (And.intro w1 (And.intro w2 (And.intro w3 (And.intro w4 (And.intro i1 (And.intro i2 (And.intro k1 (And.intro k2 (And.intro k3 k4)))))))))
  clear h hf hws hw w1 w2 w3 w4 i1 i2 k1 k2 k3 k4
  rcases hcases with h1 | ⟨h1, h2, h3, h4⟩ | ⟨h1, h2, h3, h4, h5⟩ | ⟨h1, h2, h3, h4, h5, h6⟩
  all_goals
    go_enter Tryd.func35, Tryd.ntmps35
    go_wp2
    obtain ⟨w1, w2, w3, w4, i1, i2, k1, k2, k3, k4⟩ := H.out
    go_region_law (go_simp; go_at_call 26; with_reducible refine Hws.out.mono ?_; rintro e w1 ⟨rfl, h3, h4⟩; go_wp2_with fail)
    go_wp2
    go_end0
    exact ⟨rfl, h3, (Wr.refl g w).drew.trans h4⟩
theorem single_any (g : Nat) (st : St) (b : Nat) (hb : b < 256) (w : World) (hw : WAt w g st) (hlen : st.s.length + 4 ≤ 4000000) :
    Calls Tryd.prog 35 #[.pointer (some ⟨g, 0, none⟩), .int .u8 (b : Int)] w (Wrote1 g (st.put (byteF b)) w) := by
  cases h : isAl b with
  | true => exact single_yes g st b hb h w hw hlen
  | false => exact single_no g st b hb h w hw hlen
end Go.Proofs.YtnkiiphliilegaaDoor

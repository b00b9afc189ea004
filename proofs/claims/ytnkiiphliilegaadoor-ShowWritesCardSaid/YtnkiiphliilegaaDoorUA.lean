/- Walk of riddleref06.Num: a number's digits. · Walk of riddleref06.Byte: a byte's form. -/
import Derived.Test.YtnkiiphliilegaaDoorSE
import Derived.Test.YtnkiiphliilegaaDoorSt
import Derived.Test.YtnkiiphliilegaaDoorRows
import Derived.Deep.RegionLaw
import Derived.Test.YtnkiiphliilegaaDoorT6
import Derived.IntWalk
namespace Go.Proofs.YtnkiiphliilegaaDoor
section
open Go.RowKit

theorem conv_blk {W : World} {g : Nat} {L : List Nat} (t : TypeId) (h : Blk W g t (u8s L).toArray) : (convert 31 9 (.slice (some ⟨g, 0, none⟩) L.length L.length)).run Tryd.prog W = .ok (.string (strL L)) W := by
  have hr : Rd W (g + 1) (some ⟨g, 0, none⟩) (u8s L) := fun _ => ⟨g, 0, rfl, by omega, fun k v hk => by rw [Nat.zero_add, h.cell]; simpa using hk⟩
  exact run_strL hr _ _ _ Tryd.underlying31 Tryd.underlying5 Tryd.underlying9 _

theorem conv_one {W : World} {g : Nat} {x : Int} {m : Nat} (t : TypeId) (hx : x = (m : Int)) (h : Blk W g t #[.int .u8 x]) : (convert 31 9 (.slice (some ⟨g, 0, none⟩) 1 1)).run Tryd.prog W = .ok (.string (strL [m])) W := by
  subst hx
  exact conv_blk (L := [m]) t h
theorem conv_one' {W w : World} {g : Nat} {x : Int} {m : Nat} (t : TypeId) (hx : x = (m : Int)) {B : Nat} (hb : Below B (w.alloc (.cells #[.int .u8 x] t)).drew W) (hB : w.heap.size < B) (hg : w.heap.size = g) : (convert 31 9 (.slice (some ⟨g, 0, none⟩) 1 1)).run Tryd.prog W = .ok (.string (strL [m])) W := by
  subst hg
  exact conv_one t hx ((Blk.new w t _).drew.below hb hB)

theorem strL_size (L : List Nat) : (strL L).size = L.length := by
  unfold strL
  rw [← ByteArray.size_data, ← Array.length_toList, strOfNums_data]
  simp
theorem strL_app (L M : List Nat) : strL L ++ strL M = strL (L ++ M) := by
  apply ByteArray.ext
  rw [ByteArray.data_append]
  apply Array.toList_inj.1
  unfold strL
  rw [Array.toList_append, strOfNums_data, strOfNums_data, strOfNums_data]
  simp
/-- two strings together are no longer than any string may be -/
theorem add_ok {L M : List Nat} (h : L.length + M.length ≤ 1000000000) : ¬ 9223372036854775807 < (strL L).size + (strL M).size := by
  rw [strL_size, strL_size]
  omega
def NumOk (N : Nat) : Prop := ∀ (n : Nat) (w : World), n < N → n ≤ 1000 →
    Calls Tryd.prog 31 #[.int .i64 (n : Int)] w fun e w' => e = .returned (.string (strL (numF n))) ∧ Below w.heap.size w w'
theorem num_step (N : Nat) (ih : NumOk N) : NumOk (N + 1) := by
  intro n w hN hn
  by_cases h : n < 10
  · have hf : numF n = [48 + n] := by rw [numF, if_pos h]
    rw [hf]
    have hc := conv_one (x := 48 + (n : Int)) (m := 48 + n) 5 (by omega) (Blk.new w 5 _)
    go_enter Tryd.func31, Tryd.ntmps31
    go_wp2
    go_ret
    exact ⟨rfl, (Below.refl _ _).alloc (Nat.le_refl _) _⟩
  · have hf : numF n = numF (n / 10) ++ [48 + n % 10] := by rw [numF, if_neg h]
    rw [hf]
    have Hcall := Lib.hid (fun W => ih (n / 10) W (by omega) (by omega))
    clear hf ih
    have q1 : ((n / 10 : Nat) : Int) = (n : Int) / 10 := by omega
    rw [q1] at Hcall
    have hm : 48 + (n : Int) % 10 = ((48 + n % 10 : Nat) : Int) := by omega
    have w1 : IntKind.i64.wrap ((n : Int) / 10) = (n : Int) / 10 := IntWalk.i64_in _ (by omega)
    have w2 : (n : Int).tmod 10 = (n : Int) % 10 := by rw [Int.tmod_eq_emod_of_nonneg (by omega)]
    have w3 : IntKind.i64.wrap (48 + (n : Int) % 10) = 48 + (n : Int) % 10 := IntWalk.i64_in _ (by omega)
    have w4 : IntKind.u8.wrap (48 + (n : Int) % 10) = 48 + (n : Int) % 10 := by rw [IntKind.wrap_u8]; omega
    have Hm := Lib.hid hm
    have had := add_ok (L := numF (n / 10)) (M := [48 + n % 10]) (by have := numF_len (n / 10); simp; omega)
    clear q1 hm
    have c0 : (convert 31 9 (.slice (some ⟨w.heap.size, 0, none⟩) 1 1)).run Tryd.prog (w.alloc (.cells #[.int .u8 (48 + (n : Int) % 10)] 5)).drew = .ok (.string (strL [48 + n % 10])) (w.alloc (.cells #[.int .u8 (48 + (n : Int) % 10)] 5)).drew := conv_one 5 Hm.out (Blk.new w 5 _).drew
    go_enter Tryd.func31, Tryd.ntmps31
    go_wp2
    go_region_law (go_simp; go_at_call 31; with_reducible refine (Hcall.out _).mono ?_; rintro e w1 ⟨rfl, hb1⟩; have c1 := conv_one (x := 48 + (n : Int) % 10) 5 Hm.out (Blk.new w1 5 _); (try have c2 := conv_one' 5 Hm.out hb1 (by simp) rfl); go_wp2_with fail)
    all_goals
      go_wp2
      go_ret
      exact ⟨by rw [← strL_app]; rfl, by first | exact (((Below.refl _ _).alloc (Nat.le_refl _) _).drew).trans (hb1.mono (by simp)) | exact (held_step (Below.refl _ _).drew hb1).alloc hb1.size _⟩
theorem num_all : ∀ N, NumOk N
  | 0 => fun _ _ h => by omega
  | N + 1 => num_step N (num_all N)
end

section
open Go.RowKit

abbrev hexs : ByteArray := ⟨#[48, 49, 50, 51, 52, 53, 54, 55, 56, 57, 97, 98, 99, 100, 101, 102]⟩
theorem hex_at (x : Nat) (hx : x < 16) : ∀ w : World, (Instr.index 9 (.string hexs) (.int .u8 (x : Int))).run Tryd.prog w = .ok (.int .u8 ((hexd x : Nat) : Int)) w := by
  match x, hx with
  | 0, _ => exact fun _ => by kernel_rfl
  | 1, _ => exact fun _ => by kernel_rfl
  | 2, _ => exact fun _ => by kernel_rfl
  | 3, _ => exact fun _ => by kernel_rfl
  | 4, _ => exact fun _ => by kernel_rfl
  | 5, _ => exact fun _ => by kernel_rfl
  | 6, _ => exact fun _ => by kernel_rfl
  | 7, _ => exact fun _ => by kernel_rfl
  | 8, _ => exact fun _ => by kernel_rfl
  | 9, _ => exact fun _ => by kernel_rfl
  | 10, _ => exact fun _ => by kernel_rfl
  | 11, _ => exact fun _ => by kernel_rfl
  | 12, _ => exact fun _ => by kernel_rfl
  | 13, _ => exact fun _ => by kernel_rfl
  | 14, _ => exact fun _ => by kernel_rfl
  | 15, _ => exact fun _ => by kernel_rfl
  | n + 16, h => exact absurd h (by omega)

theorem conv_two {W : World} {g : Nat} {x y : Nat} (t : TypeId) (h : Blk W g t #[.int .u8 (x : Int), .int .u8 (y : Int)]) : (convert 31 9 (.slice (some ⟨g, 0, none⟩) 2 2)).run Tryd.prog W = .ok (.string (strL [x, y])) W :=
  conv_blk (L := [x, y]) t h
set_option maxHeartbeats 2000000 in
theorem byte_yes (b : Nat) (hb : b < 256) (h : isAl b = true) (w : World) :
    Calls Tryd.prog 40 #[.int .u8 (b : Int)] w fun e w' => e = .returned (.string (strL (byteF b))) ∧ Below w.heap.size w w' := by
  have hf : byteF b = [b] := by unfold byteF; rw [if_pos h]
  rw [hf]
  have hc := conv_one (x := (b : Int)) (m := b) 5 rfl (Blk.new w 5 _)
  have hcases : (48 ≤ b ∧ b ≤ 57) ∨ (97 ≤ b ∧ b ≤ 122) ∨ (65 ≤ b ∧ b ≤ 90) := by
    simp [isAl] at h
    omega
  clear h hf
  have Hc := Lib.hid hc
  clear hc
  rcases hcases with ⟨h1, h2⟩ | ⟨h1, h2⟩ | ⟨h1, h2⟩
  · have hc := Hc.out
    go_enter Tryd.func40, Tryd.ntmps40
    go_wp2
    go_ret
    exact ⟨rfl, (Below.refl _ _).alloc (Nat.le_refl _) _⟩
  · have hc := Hc.out
    have h3 : 48 ≤ b := by omega
    have h4 : ¬ b ≤ 57 := by omega
    go_enter Tryd.func40, Tryd.ntmps40
    go_wp2
    go_ret
    exact ⟨rfl, (Below.refl _ _).alloc (Nat.le_refl _) _⟩
  · have hc := Hc.out
    have h3 : 48 ≤ b := by omega
    have h4 : ¬ b ≤ 57 := by omega
    have h5 : ¬ 97 ≤ b := by omega
    go_enter Tryd.func40, Tryd.ntmps40
    go_wp2
    go_ret
    exact ⟨rfl, (Below.refl _ _).alloc (Nat.le_refl _) _⟩
set_option maxHeartbeats 2000000 in
theorem byte_no (b : Nat) (hb : b < 256) (h : isAl b = false) (w : World) :
    Calls Tryd.prog 40 #[.int .u8 (b : Int)] w fun e w' => e = .returned (.string (strL (byteF b))) ∧ Below w.heap.size w w' := by
  have hf : byteF b = [92, 120, hexd (b / 16), hexd (b % 16)] := by unfold byteF; rw [h]; rfl
  rw [hf]
  have hcases : (b < 48) ∨ (48 ≤ b ∧ ¬ b ≤ 57 ∧ ¬ 97 ≤ b ∧ ¬ 65 ≤ b) ∨ (48 ≤ b ∧ ¬ b ≤ 57 ∧ ¬ 97 ≤ b ∧ 65 ≤ b ∧ ¬ b ≤ 90) ∨ (48 ≤ b ∧ ¬ b ≤ 57 ∧ 97 ≤ b ∧ ¬ b ≤ 122 ∧ 65 ≤ b ∧ ¬ b ≤ 90) := by
    simp [isAl] at h
    omega
  clear h hf
  have w1 : IntKind.u8.wrap ((b : Int) / 16) = (b : Int) / 16 := by rw [IntKind.wrap_u8]; omega
  have w2 : (b : Int).tmod 16 = (b : Int) % 16 := by rw [Int.tmod_eq_emod_of_nonneg (by omega)]
  have i1 := hex_at (b / 16) (by omega)
  have i2 := hex_at (b % 16) (by omega)
  rw [show ((b / 16 : Nat) : Int) = (b : Int) / 16 by omega] at i1
  rw [show ((b % 16 : Nat) : Int) = (b : Int) % 16 by omega] at i2
  have hc : (convert 31 9 (.slice (some ⟨w.heap.size, 0, none⟩) 2 2)).run Tryd.prog (w.alloc (.cells #[.int .u8 ((hexd (b / 16) : Nat) : Int), .int .u8 ((hexd (b % 16) : Nat) : Int)] 5)).drew = .ok (.string (strL [hexd (b / 16), hexd (b % 16)])) (w.alloc (.cells #[.int .u8 ((hexd (b / 16) : Nat) : Int), .int .u8 ((hexd (b % 16) : Nat) : Int)] 5)).drew := conv_two 5 (Blk.new w _ _).drew
  have had : ¬ 9223372036854775807 < (ByteArray.mk #[92, 120]).size + (strL [hexd (b / 16), hexd (b % 16)]).size := by rw [strL_size]; exact (by decide : ¬ 9223372036854775807 < 2 + 2)
  have H1 := Lib.hid w1
  have H2 := Lib.hid w2
  have H3 := Lib.hid i1
  have H4 := Lib.hid i2
  have H5 := Lib.hid hc
  have H6 := Lib.hid had
  clear w1 w2 i1 i2 hc had
  rcases hcases with h1 | ⟨h1, h2, h3, h4⟩ | ⟨h1, h2, h3, h4, h5⟩ | ⟨h1, h2, h3, h4, h5, h6⟩
  all_goals
    go_enter Tryd.func40, Tryd.ntmps40
    go_wp2
    have w1 := H1.out
    have w2 := H2.out
    have i1 := H3.out
    have i2 := H4.out
    have hc := H5.out
    have had := H6.out
    go_region
    all_goals
      go_wp2
      go_ret
      exact ⟨by rw [show [92, 120, hexd (b / 16), hexd (b % 16)] = [92, 120] ++ [hexd (b / 16), hexd (b % 16)] from rfl, ← strL_app]; rfl, ((Below.refl _ _).alloc (Nat.le_refl _) _).drew⟩
theorem byte_any (b : Nat) (hb : b < 256) (w : World) :
    Calls Tryd.prog 40 #[.int .u8 (b : Int)] w fun e w' => e = .returned (.string (strL (byteF b))) ∧ Below w.heap.size w w' := by
  cases h : isAl b with
  | true => exact byte_yes b hb h w
  | false => exact byte_no b hb h w
end
end Go.Proofs.YtnkiiphliilegaaDoor

/- Bytes as strings: the conversion of a slice of bytes; two such strings are equal just if the bytes are. -/
import Derived.Test.YtnkiiphliilegaaDoorWd
import Derived.Laws.BytesArg
namespace Go.Proofs.YtnkiiphliilegaaDoor
open Go.RowKit

/-- the string of some bytes -/
def strL (L : List Nat) : ByteArray := strOfNums (L.map fun n : Nat => (n : Int))
theorem strL_toList (L : List Nat) : (strL L).toList = L.map UInt8.ofNat := by
  rw [ByteArray.toList_eq]
  unfold strL
  rw [strOfNums_data, List.map_map]
  apply List.map_congr_left
  intro n _
  simp
theorem ofNat_inj8 : ∀ (L M : List Nat), (∀ b ∈ L, b < 256) → (∀ b ∈ M, b < 256) → L.map UInt8.ofNat = M.map UInt8.ofNat → L = M
  | [], [], _, _, _ => rfl
  | [], _ :: _, _, _, h => by simp at h
  | _ :: _, [], _, _, h => by simp at h
  | a :: L, b :: M, hL, hM, h => by
    simp only [List.map_cons, List.cons.injEq] at h
    have ha := hL a (by simp)
    have hb := hM b (by simp)
    have h1 := congrArg UInt8.toNat h.1
    simp only [UInt8.toNat_ofNat'] at h1
    rw [ofNat_inj8 L M (fun c hc => hL c (by simp [hc])) (fun c hc => hM c (by simp [hc])) h.2]
    congr 1
    omega
theorem strL_beq (L M : List Nat) (hL : ∀ b ∈ L, b < 256) (hM : ∀ b ∈ M, b < 256) : ((strL L).toList == (strL M).toList) = (L == M) := by
  rw [strL_toList, strL_toList, Bool.eq_iff_iff, beq_iff_eq, beq_iff_eq]
  exact ⟨ofNat_inj8 L M hL hM, fun h => by rw [h]⟩

theorem run_strL {P : Program} {w : World} {B : Nat} {A : Option Addr} {L : List Nat} (hr : Rd w B A (u8s L)) (src dst e : TypeId) (hs : P.underlying src = some (.slice e)) (he : P.underlying e = some (.int .u8)) (hd : P.underlying dst = some .string) (c : Nat) :
    (convert src dst (.slice A L.length c)).run P w = .ok (.string (strL L)) w := by
  by_cases hL : L = []
  · subst hL
    cases A with
    | none => exact run_convert_bytes_nil w src e hs he _ _ dst hd
    | some a =>
      rw [List.length_nil, run_convert_bytes_string w src dst e _ 0 c hs he hd, run_bytesToString w a 0 c [] rfl]
      rfl
  · obtain ⟨b, off, rfl, _, hc⟩ := hr (by unfold u8s; simpa using hL)
    refine run_convert_bytes_arg w src e hs he b off _ c (L.map fun n : Nat => (n : Int)) (by simp) (fun i hi => ?_) dst hd
    have := hc i _ (u8s_get L i hi)
    rw [this]
    simp [hi]
end Go.Proofs.YtnkiiphliilegaaDoor

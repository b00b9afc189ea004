/- count.New, whatever it is told. -/
import Derived.Test.YtoijilfpfdhppaaKFe
namespace Go.Proofs.Ytoijilfpfdhppaa
open Go.RowKit

def NewAny (p : Nat → Bool) (least most : Int) (w : World) (e : Ending) (w' : World) : Prop :=
  NewNot w e w' ∨ ∃ (k tp : Nat) (stays : Bool) (size : Int), k < 3 ∧ tp ≤ 200 ∧ 0 ≤ least ∧ least ≤ 200 ∧ ((stays = true ∧ most = -1 ∧ (tp : Int) = least) ∨ (stays = false ∧ most = (tp : Int) ∧ least ≤ (tp : Int))) ∧ NewGot k tp stays p least most size w e w'
theorem new_any (p : Nat → Bool) (least most kind : Int) (w : World) : Calls Try.prog 5 #[cval p, .int .i64 least, .int .i64 most, .int .i64 kind] w (NewAny p least most w) := by
  by_cases h1 : least < 0
  · exact (new_no_a p least most kind h1 w).mono fun e w' h => Or.inl h
  by_cases h2 : 200 < least
  · exact (new_no_b p least most kind h1 h2 w).mono fun e w' h => Or.inl h
  by_cases h3 : 200 < most
  · exact (new_no_c p least most kind h1 h2 h3 w).mono fun e w' h => Or.inl h
  obtain ⟨l, rfl⟩ : ∃ l : Nat, least = (l : Int) := ⟨least.toNat, by omega⟩
  by_cases h4 : most = -1
  · subst h4
    by_cases k0 : kind = 0
    · subst k0
      exact (new_0_open p l (by omega) w).mono fun e w' h => Or.inr ⟨0, l, true, _, by omega, by omega, by omega, by omega, Or.inl ⟨rfl, rfl, rfl⟩, h⟩
    by_cases k1 : kind = 1
    · subst k1
      exact (new_1_open p l (by omega) w).mono fun e w' h => Or.inr ⟨1, l, true, _, by omega, by omega, by omega, by omega, Or.inl ⟨rfl, rfl, rfl⟩, h⟩
    by_cases k2 : kind = 2
    · subst k2
      exact (new_2_open p l (by omega) w).mono fun e w' h => Or.inr ⟨2, l, true, _, by omega, by omega, by omega, by omega, Or.inl ⟨rfl, rfl, rfl⟩, h⟩
    · exact (new_no_f p l kind h1 h2 k0 k1 k2 w).mono fun e w' h => Or.inl h
  by_cases h5 : most < l
  · exact (new_no_d p l most kind h1 h2 h3 h4 h5 w).mono fun e w' h => Or.inl h
  by_cases k2 : kind = 2
  · subst k2
    exact (new_no_g p l most h1 h2 h3 h4 h5 w).mono fun e w' h => Or.inl h
  obtain ⟨t, rfl⟩ : ∃ t : Nat, most = (t : Int) := ⟨most.toNat, by omega⟩
  by_cases k0 : kind = 0
  · subst k0
    exact (new_0_most p t l (by omega) (by omega) (by omega) w).mono fun e w' h => Or.inr ⟨0, t, false, _, by omega, by omega, by omega, by omega, Or.inr ⟨rfl, rfl, by omega⟩, h⟩
  by_cases k1 : kind = 1
  · subst k1
    exact (new_1_most p t l (by omega) (by omega) (by omega) w).mono fun e w' h => Or.inr ⟨1, t, false, _, by omega, by omega, by omega, by omega, Or.inr ⟨rfl, rfl, by omega⟩, h⟩
  · exact (new_no_e p l t kind h1 h2 h3 h4 h5 k0 k1 k2 w).mono fun e w' h => Or.inl h
end Go.Proofs.Ytoijilfpfdhppaa

/- The kit's contracts of slices.Insert laid for this program: the renaming, and what they ask of the program. -/
import Derived.Test.YtoijilfpfdhppaaChecked
import Derived.Shelf.Spec.SlicesInsert
import Derived.Shelf.Spec.SlicesInsertGrow
import Derived.KernelRfl
namespace Go.Proofs.Ytoijilfpfdhppaa
open Go.Shelf

def rho : Ren :=
  { f := fun x => if x = 21 then 55 else if x = 27 then 56 else if x = 28 then 57 else if x = 35 then 58 else if x = 39 then 59 else 0
    t := fun x => if x = 3 then 3 else if x = 4 then 4 else if x = 22 then 51 else 0
    g := fun x => x }
theorem laysInsert : Lays2.n21 Try.prog rho where
  mixed := by kernel_rfl
  f21 := by kernel_rfl
  f27 := by kernel_rfl
  f28 := by kernel_rfl
  f35 := by kernel_rfl
  f39 := by kernel_rfl
  t0 := by kernel_rfl
  a0 := fun _ => by kernel_rfl
  z0 := fun _ => by kernel_rfl
  v0 := fun _ => by kernel_rfl
  t3 := by kernel_rfl
  a3 := fun _ => by kernel_rfl
  z3 := fun _ => by kernel_rfl
  v3 := fun _ => by kernel_rfl
  t4 := by kernel_rfl
  a4 := fun _ => by kernel_rfl
  z4 := fun _ => by kernel_rfl
  v4 := fun _ => by kernel_rfl
  t22 := by kernel_rfl
  a22 := fun _ => by kernel_rfl
  z22 := fun _ => by kernel_rfl
  v22 := fun _ => by kernel_rfl
  i3 := by kernel_rfl
#print axioms laysInsert
end Go.Proofs.Ytoijilfpfdhppaa

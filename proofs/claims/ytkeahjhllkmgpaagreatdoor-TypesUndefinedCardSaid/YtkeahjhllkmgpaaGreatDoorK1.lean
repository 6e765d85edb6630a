/- A part of the proof over this seat's program: the checked evaluator and its soundness (E..), and what it gives here (the others). No condition. -/
import Derived.Test.YtkeahjhllkmgpaaGreatDoorE20
import Derived.KernelRfl
import Derived.Test.YtkeahjhllkmgpaaGreatDoorProg
namespace Go.Proofs.YtkeahjhllkmgpaaGreatDoor
open Go Go.Eng
/-- the library's functions without a body -/
def X0 (f : FuncId) : Option Ext := if Nat.beq f 206 then some .indexByte else if Nat.beq f 212 then some .cmpString else if Nat.beq f 219 then some .add64 else if Nat.beq f 248 then some .noEscape else none
theorem hX0 : ∀ f x, X0 f = some x → ExtSpec Tryz.prog f x := by
  intro f x h
  unfold X0 at h
  split at h
  · rename_i hf; obtain rfl := Nat.eq_of_beq_eq_true hf; cases h
    exact ExtSpec.indexByte Tryz.func206 (by kernel_rfl) (by kernel_rfl) (by kernel_rfl) (by kernel_rfl)
  split at h
  · rename_i hf; obtain rfl := Nat.eq_of_beq_eq_true hf; cases h
    exact ExtSpec.cmpString Tryz.func212 (by kernel_rfl) (by kernel_rfl) (by kernel_rfl) (by kernel_rfl)
  split at h
  · rename_i hf; obtain rfl := Nat.eq_of_beq_eq_true hf; cases h
    exact ExtSpec.add64 Tryz.func219 (by kernel_rfl) (by kernel_rfl) (by kernel_rfl) (by kernel_rfl)
  split at h
  · rename_i hf; obtain rfl := Nat.eq_of_beq_eq_true hf; cases h
    exact ExtSpec.noEscape Tryz.func248 (by kernel_rfl) (by kernel_rfl) (by kernel_rfl) (by kernel_rfl)
  · cases h
theorem hm : Tryz.prog.follows .mixedOrders = true := by kernel_rfl
end Go.Proofs.YtkeahjhllkmgpaaGreatDoor

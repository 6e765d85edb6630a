/- A part of the proof over this seat's program: the checked evaluator and its soundness (E..), and what it gives here (the others). No condition. -/
import Derived.Test.YtnljmpeaeajcoaaGreatDoorE19
import Derived.KernelRfl
import Derived.Test.YtnljmpeaeajcoaaGreatDoorProg
namespace Go.Proofs.YtnljmpeaeajcoaaGreatDoor
open Go Go.Eng
def X (f : FuncId) : Option Ext := if Nat.beq f 119 then some .indexByte else if Nat.beq f 149 then some .cmpString else if Nat.beq f 157 then some .add64 else if Nat.beq f 135 then some .noEscape else none
theorem hX : ∀ f x, X f = some x → ExtSpec Tryz.prog f x := by
  intro f x h
  unfold X at h
  split at h
  · rename_i hf; obtain rfl := Nat.eq_of_beq_eq_true hf; cases h
    exact ExtSpec.indexByte Tryz.func119 (by kernel_rfl) (by kernel_rfl) (by kernel_rfl) (by kernel_rfl)
  split at h
  · rename_i hf; obtain rfl := Nat.eq_of_beq_eq_true hf; cases h
    exact ExtSpec.cmpString Tryz.func149 (by kernel_rfl) (by kernel_rfl) (by kernel_rfl) (by kernel_rfl)
  split at h
  · rename_i hf; obtain rfl := Nat.eq_of_beq_eq_true hf; cases h
    exact ExtSpec.add64 Tryz.func157 (by kernel_rfl) (by kernel_rfl) (by kernel_rfl) (by kernel_rfl)
  split at h
  · rename_i hf; obtain rfl := Nat.eq_of_beq_eq_true hf; cases h
    exact ExtSpec.noEscape Tryz.func135 (by kernel_rfl) (by kernel_rfl) (by kernel_rfl) (by kernel_rfl)
  · cases h
theorem hm : Tryz.prog.follows .mixedOrders = true := by kernel_rfl
end Go.Proofs.YtnljmpeaeajcoaaGreatDoor

/- A part of the proof over this seat's program: the checked evaluator and its soundness (E..), and what it gives here (the others). No condition. -/
import Derived.Test.YtkeahjhllkmgpaaGreatDoorK1
namespace Go.Proofs.YtkeahjhllkmgpaaGreatDoor
open Go Go.Eng Go.RowKit
theorem known_run : run Tryz.prog X0 20000 5 [] (fun v _ => isTrue v) = true := by kernel_rfl
theorem known_c (w : World) : Calls Tryz.prog 5 #[] w fun e w' => e = .returned (.bool true) ∧ Below w.heap.size w w' :=
  run_true hm hX0 Tryz.func5 (by kernel_rfl) known_run w
/-- with the example's answer as it is shown -/
def X (f : FuncId) : Option Ext := if Nat.beq f 5 then some (.sum (.bool true)) else X0 f
theorem hX : ∀ f x, X f = some x → ExtSpec Tryz.prog f x := by
  intro f x h
  unfold X at h
  split at h
  · rename_i hf; obtain rfl := Nat.eq_of_beq_eq_true hf; cases h
    exact ExtSpec.sumTrue known_c
  · exact hX0 f x h
end Go.Proofs.YtkeahjhllkmgpaaGreatDoor

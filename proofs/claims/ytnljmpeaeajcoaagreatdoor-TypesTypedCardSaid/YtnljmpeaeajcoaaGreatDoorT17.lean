/- A part of the proof over this seat's program: the checked evaluator and its soundness (E..), and what it gives here (the others). No condition. -/
import Derived.Test.YtnljmpeaeajcoaaGreatDoorT16
namespace Go.Proofs.YtnljmpeaeajcoaaGreatDoor
open Go Go.Eng Go.Vi

theorem ok6 : FnOk Tryz.prog 6 Tryz.f6 := ⟨Tryz.func6, by kernel_rfl, by kernel_rfl⟩
theorem known_run : @closedRun Cl Tryz.prog X1 [] 20000 Tryz.f6 [] (.bool true) = true := by kernel_rfl
theorem known_c : BSim Tryz.prog 6 [] [] [] (.bool true) :=
  @BSim.closed Cl Tryz.prog hm X1 (@hX1 Cl) [] (fun _ h => by cases h) 6 Tryz.f6 ok6 _ _ (by rfl) 20000 known_run rfl
end Go.Proofs.YtnljmpeaeajcoaaGreatDoor

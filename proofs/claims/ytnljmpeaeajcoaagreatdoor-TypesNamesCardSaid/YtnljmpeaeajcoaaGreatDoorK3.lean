/- A part of the proof over this seat's program: the checked evaluator and its soundness (E..), and what it gives here (the others). No condition. -/
import Derived.Test.YtnljmpeaeajcoaaGreatDoorK1
namespace Go.Proofs.YtnljmpeaeajcoaaGreatDoor
open Go Go.Eng
theorem known_run : run Tryz.prog X 20000 6 [] (fun v _ => isTrue v) = true := by kernel_rfl
end Go.Proofs.YtnljmpeaeajcoaaGreatDoor

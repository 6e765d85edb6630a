/- A part of the proof over this seat's program: the checked evaluator and its soundness (E..), and what it gives here (the others). No condition. -/
import Derived.Test.YtkeahjhllkmgpaaGreatDoorK2
namespace Go.Proofs.YtkeahjhllkmgpaaGreatDoor
open Go Go.Eng Go.RowKit
theorem u_neg (m : Nat) : run Tryz.prog X 4000 3 [.int .i64 (.negSucc m)] (fun v _ => isTrue v) = true := by kernel_rfl
theorem u_big (m : Nat) : run Tryz.prog X 4000 3 [.int .i64 (.ofNat (m + 9))] (fun v _ => isTrue v) = true := by kernel_rfl
theorem u_0 : run Tryz.prog X 4000 3 [.int .i64 (.ofNat 0)] (fun v _ => isTrue v) = true := by kernel_rfl
theorem u_1 : run Tryz.prog X 4000 3 [.int .i64 (.ofNat 1)] (fun v _ => isTrue v) = true := by kernel_rfl
theorem u_2 : run Tryz.prog X 4000 3 [.int .i64 (.ofNat 2)] (fun v _ => isTrue v) = true := by kernel_rfl
theorem u_3 : run Tryz.prog X 4000 3 [.int .i64 (.ofNat 3)] (fun v _ => isTrue v) = true := by kernel_rfl
theorem u_4 : run Tryz.prog X 4000 3 [.int .i64 (.ofNat 4)] (fun v _ => isTrue v) = true := by kernel_rfl
theorem u_5 : run Tryz.prog X 4000 3 [.int .i64 (.ofNat 5)] (fun v _ => isTrue v) = true := by kernel_rfl
theorem u_6 : run Tryz.prog X 4000 3 [.int .i64 (.ofNat 6)] (fun v _ => isTrue v) = true := by kernel_rfl
theorem u_7 : run Tryz.prog X 4000 3 [.int .i64 (.ofNat 7)] (fun v _ => isTrue v) = true := by kernel_rfl
theorem u_8 : run Tryz.prog X 4000 3 [.int .i64 (.ofNat 8)] (fun v _ => isTrue v) = true := by kernel_rfl
theorem law_of {t : Int} (h : run Tryz.prog X 4000 3 [.int .i64 t] (fun v _ => isTrue v) = true) (w : World) :
    Calls Tryz.prog 3 #[.int .i64 t] w fun e w' => e = .returned (.bool true) ∧ Below w.heap.size w w' := by
  refine (run_any hm hX Tryz.func3 (by kernel_rfl) (cargs := #[.int .i64 t]) (.cons _ _ _ _ (.int _ _) .nil) h w).mono ?_
  rintro e w' ⟨v, M', ρ, cv, rfl, hb, hv, hM⟩
  refine ⟨?_, hM.below⟩
  unfold Eng.isTrue at hb
  split at hb
  · subst hb; rw [hv.bool_inv]
  · cases hb
set_option maxRecDepth 10000 in
theorem law_c (t : Int) (w : World) : Calls Tryz.prog 3 #[.int .i64 t] w fun e w' => e = .returned (.bool true) ∧ Below w.heap.size w w' := by
  cases t with
  | negSucc m => exact law_of (u_neg m) w
  | ofNat t =>
    by_cases h9 : 9 ≤ t
    · obtain ⟨m, rfl⟩ : ∃ m, t = m + 9 := ⟨t - 9, by omega⟩
      exact law_of (u_big m) w
    · have : t = 0 ∨ t = 1 ∨ t = 2 ∨ t = 3 ∨ t = 4 ∨ t = 5 ∨ t = 6 ∨ t = 7 ∨ t = 8 := by omega
      rcases this with rfl | rfl | rfl | rfl | rfl | rfl | rfl | rfl | rfl
      · exact law_of u_0 w
      · exact law_of u_1 w
      · exact law_of u_2 w
      · exact law_of u_3 w
      · exact law_of u_4 w
      · exact law_of u_5 w
      · exact law_of u_6 w
      · exact law_of u_7 w
      · exact law_of u_8 w
end Go.Proofs.YtkeahjhllkmgpaaGreatDoor

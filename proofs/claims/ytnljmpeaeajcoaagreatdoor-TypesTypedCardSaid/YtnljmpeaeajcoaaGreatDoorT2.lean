/- A part of the proof over this seat's program: the checked evaluator and its soundness (E..), and what it gives here (the others). No condition. -/
import Derived.Test.YtnljmpeaeajcoaaGreatDoorT1
import Derived.Test.YtnljmpeaeajcoaaGreatDoorG26
import Derived.Test.YtnljmpeaeajcoaaGreatDoorProg
namespace Go.Proofs.YtnljmpeaeajcoaaGreatDoor
open Go Go.Eng Go.Vi
local instance : Go.Eng.Mode := Sy
def X0 (_ : FuncId) : Option Ext := none
theorem hX0 : ∀ f x, X0 f = some x → ExtSpec Tryz.prog f x := fun _ _ h => by cases h
theorem hm : Tryz.prog.follows .mixedOrders = true := by kernel_rfl
/-- the state of a coder -/
noncomputable def cD (l : List UInt8) (v : Nat) : List Dat := [.slice l.length 1 (fun i => [.int .u8 (.ofNat (l.getD i 0).toNat)]), .int .i64 (.ofNat v)]
theorem ok39 : FnOk Tryz.prog 39 Tryz.f39 := ⟨Tryz.func39, by kernel_rfl, by kernel_rfl⟩
theorem inU8 (a : UInt8) : inI64 (.ofNat a.toNat) = true := inI64_iff _ |>.2 (by have := a.toNat_lt; simp only [Int.ofNat_eq_natCast]; omega)

theorem next_nil (v m : Nat) : BSim Tryz.prog 39 [.ptr 0 0, .int .i64 (.ofNat (m + 1))] [cD [] v] [cD [] v] (.int .i64 (.ofNat 0)) := by
  refine BSim.run hm hX0 (S := []) (fun _ h => by cases h) ok39 (by kernel_rfl) rfl 40 [0] (fun I => I (.int .i64 (.ofNat 0)) [some (.row (toAVs (cD [] v)) false 1)]) (fun I => by kernel_rfl) ?_
  exact pdec_iff.2 (Leaf.box fun _ _ => .plain (.int .i64 (.ofNat 0)))
theorem next_cons (a : UInt8) (l : List UInt8) (v m : Nat) : BSim Tryz.prog 39 [.ptr 0 0, .int .i64 (.ofNat (m + 1))] [cD (a :: l) v] [cD l v] (.int .i64 (.ofNat (a.toNat % (m + 1)))) := by
  refine BSim.run hm hX0 (S := []) (fun _ h => by cases h) ok39 (by kernel_rfl) rfl 40 [0] (fun I => Bool.rec (motive := fun _ => Bool) false (I (.int .i64 (.ofNat (a.toNat % (m + 1)))) [some (.row (toAVs (cD l v)) false 1)]) (inI64 (.ofNat a.toNat))) (fun I => by kernel_rfl) ?_
  refine brec_false.2 ⟨inU8 a, pdec_iff.2 (Leaf.box fun _ _ => .plain (.int .i64 (.ofNat (a.toNat % (m + 1)))))⟩
end Go.Proofs.YtnljmpeaeajcoaaGreatDoor

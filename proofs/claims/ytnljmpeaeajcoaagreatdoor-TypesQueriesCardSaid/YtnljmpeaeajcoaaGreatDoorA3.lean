/- A part of the proof over this seat's program: the checked evaluator and its soundness, and what it gives here. No condition. -/
import Derived.Test.YtnljmpeaeajcoaaGreatDoorA2
import Derived.Test.YtnljmpeaeajcoaaGreatDoorProg

set_option linter.all false



set_option linter.unusedSectionVars false
/-! EXPRESSIONS -/
namespace Go.Vi
open Go Go.Eng
structure Rt where
  neg : Bool
  mag : List UInt8
  dneg : Bool
  dmag : List UInt8
  deriving DecidableEq, Inhabited
inductive Ex where
  | mk (op : Int) (name : List UInt8) (num : Rt) (args : List Ex)
  deriving Inhabited
def Ex.op : Ex → Int | .mk o _ _ _ => o
def Ex.name : Ex → List UInt8 | .mk _ n _ _ => n
def Ex.num : Ex → Rt | .mk _ _ r _ => r
def Ex.args : Ex → List Ex | .mk _ _ _ a => a
noncomputable def sD (l : List UInt8) : Dat := .str l.length (enc l)
noncomputable def rtD (r : Rt) : List Dat := [.bool r.neg, sD r.mag, .bool r.dneg, sD r.dmag]
mutual
noncomputable def Ex.el : Ex → Nat → List Dat
  | .mk _ _ _ args => fun i => (elL args).getD i []
noncomputable def elL : List Ex → List (List Dat)
  | [] => []
  | y :: l => [.int .i64 y.op, sD y.name, .bool y.num.neg, sD y.num.mag, .bool y.num.dneg, sD y.num.dmag, .slice y.args.length 7 y.el] :: elL l
end
/-- the cells of an expression -/
noncomputable def exD (x : Ex) : List Dat := [.int .i64 x.op, sD x.name, .bool x.num.neg, sD x.num.mag, .bool x.num.dneg, sD x.num.dmag, .slice x.args.length 7 x.el]
noncomputable def exA (x : Ex) : AV := .agg (toAVs (exD x))
theorem elL_eq (l : List Ex) : elL l = l.map exD := by
  induction l with
  | nil => simp [elL]
  | cons y l ih => rw [elL, ih]; rfl
theorem el_eq (x : Ex) : x.el = fun i => (x.args.map exD).getD i [] := by
  cases x with | mk o n r a => show Ex.el _ = _; rw [Ex.el, elL_eq]; rfl
theorem exD_len (x : Ex) : (exD x).length = 7 := rfl
def Rt.zero : Rt := ⟨false, [], false, []⟩

mutual
def Ex.size : Ex → Nat | .mk _ _ _ args => 1 + sizeL args
def sizeL : List Ex → Nat
  | [] => 0
  | y :: l => y.size + sizeL l
end
mutual
def Ex.dep : Ex → Nat | .mk _ _ _ args => 1 + depL args
def depL : List Ex → Nat
  | [] => 0
  | y :: l => max y.dep (depL l)
end

variable [Go.Eng.Mode]
/-- an expression that has just been made: its arguments lie in a row of their own -/
theorem fz_ex {k : Nat} {M : Mem} {b cap sz' : Nat} {op' op'' : Bool} (o : Int) (n : List UInt8) (r : Rt) (args : List Ex) (hk : k ≤ b) (hb : M.t.get b = some (.row (toAVs (args.map exD).flatten) op' sz')) (hc : args.length ≤ cap) :
    FzA k M (.agg [.int .i64 o, toAV (sD n), .bool r.neg, toAV (sD r.mag), .bool r.dneg, toAV (sD r.dmag), .slice b 0 args.length cap op'']) (exA (.mk o n r args)) := by
  refine .agg _ _ (.cons _ _ _ _ (.plain (.int .i64 o)) (.cons _ _ _ _ (.plain (sD n)) (.cons _ _ _ _ (.plain (.bool r.neg)) (.cons _ _ _ _ (.plain (sD r.mag)) (.cons _ _ _ _ (.plain (.bool r.dneg)) (.cons _ _ _ _ (.plain (sD r.dmag)) (.cons _ _ _ _ (.dat _ (.slice args.length 7 (Ex.el (.mk o n r args))) ?_) .nil)))))))
  rw [el_eq]
  have := FzD.chunks (k := k) (M := M) (b := b) (cap := cap) (sz' := sz') (op := op'') (op' := op') (args.map exD) 7 hk hb (by simpa using hc) (fun c hc => by
    obtain ⟨y, _, rfl⟩ := List.mem_map.1 hc
    rfl)
  simpa [Ex.args] using this
theorem fz_ex0 {k : Nat} {M : Mem} (o : Int) (n : List UInt8) (r : Rt) :
    FzA k M (.agg [.int .i64 o, toAV (sD n), .bool r.neg, toAV (sD r.mag), .bool r.dneg, toAV (sD r.dmag), .nilSlice]) (exA (.mk o n r [])) :=
  .agg _ _ (.cons _ _ _ _ (.plain (.int .i64 o)) (.cons _ _ _ _ (.plain (sD n)) (.cons _ _ _ _ (.plain (.bool r.neg)) (.cons _ _ _ _ (.plain (sD r.mag)) (.cons _ _ _ _ (.plain (.bool r.dneg)) (.cons _ _ _ _ (.plain (sD r.dmag)) (.cons _ _ _ _ (.dat _ (.slice 0 7 (Ex.el (.mk o n r []))) (.nil _ _)) .nil)))))))
end Go.Vi

namespace Go.Proofs.YtnljmpeaeajcoaaGreatDoor
open Go Go.Eng Go.Vi
local instance : Go.Eng.Mode := Sy
def X0 (_ : FuncId) : Option Ext := none
theorem hX0 : ∀ f x, X0 f = some x → ExtSpec Tryz.prog f x := fun _ _ h => by cases h
theorem hm : Tryz.prog.follows .mixedOrders = true := by kernel_rfl
/-- the state of a coder -/
noncomputable def cD (l : List UInt8) (v : Nat) : List Dat := [.slice l.length 1 (fun i => [.int .u8 (.ofNat (l.getD i 0).toNat)]), .int .i64 (.ofNat v)]
theorem ok39 : FnOk Tryz.prog 39 Tryz.f39 := ⟨Tryz.func39, by kernel_rfl, by kernel_rfl⟩
theorem inU8 (a : UInt8) : inI64 (.ofNat a.toNat) = true := inI64_iff _ |>.2 (by have := a.toNat_lt; simp only [Int.ofNat_eq_natCast]; omega)

theorem next_nil (v m : Nat) : BSim Tryz.prog 39 [.ptr 0 0, .int .i64 (.ofNat (m + 1))] [cD [] v] [cD [] v] (.int .i64 (.ofNat 0)) := by
  refine BSim.run hm hX0 (S := []) (fun _ h => by cases h) ok39 (by kernel_rfl) rfl 40 [0] (fun I => I (.int .i64 (.ofNat 0)) [some (.row (toAVs (cD [] v)) false 1)]) (fun I => by kernel_rfl) ?_
  exact pdec_iff.2 (Leaf.box fun _ _ => .plain (.int .i64 (.ofNat 0)))
theorem next_cons (a : UInt8) (l : List UInt8) (v m : Nat) : BSim Tryz.prog 39 [.ptr 0 0, .int .i64 (.ofNat (m + 1))] [cD (a :: l) v] [cD l v] (.int .i64 (.ofNat (a.toNat % (m + 1)))) := by
  refine BSim.run hm hX0 (S := []) (fun _ h => by cases h) ok39 (by kernel_rfl) rfl 40 [0] (fun I => Bool.rec (motive := fun _ => Bool) false (I (.int .i64 (.ofNat (a.toNat % (m + 1)))) [some (.row (toAVs (cD l v)) false 1)]) (inI64 (.ofNat a.toNat))) (fun I => by kernel_rfl) ?_
  refine brec_false.2 ⟨inU8 a, pdec_iff.2 (Leaf.box fun _ _ => .plain (.int .i64 (.ofNat (a.toNat % (m + 1)))))⟩
end Go.Proofs.YtnljmpeaeajcoaaGreatDoor

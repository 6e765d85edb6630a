/- A part of the proof over this seat's program: the checked evaluator and its soundness (E..), and what it gives here (the others). No condition. -/
import Derived.Test.YtnljmpeaeajcoaaGreatDoorG31
set_option linter.unusedSectionVars false
namespace Go.Eng
open Go
variable [Mode]
/-! from a world with no memory of the run: every block of cells may be read -/
def startEnv (W : World) : Env := ⟨fun _ => none, fun B => match W.heap[B]? with | some (.cells arr _ _) => some arr.toList | _ => none, W.heap.size⟩
theorem startEnv_z {W : World} {B : Nat} {arr : Array Value} {t : TypeId} {fz : Nat × Nat} (h : W.heap[B]? = some (.cells arr t fz)) : (startEnv W).z B = some arr.toList := by
  simp [startEnv, h]
theorem MRel.start (W : World) : MRel W (· < W.heap.size) (startEnv W) ⟨.nil, 0⟩ W where
  os := rfl
  tape := rfl
  output := rfl
  size := Nat.le_refl _
  keep := fun _ _ => rfl
  rlt := fun _ h => h
  blk := fun i b h => by cases h
  inj := fun i j b c B x y h => by cases h
  fresh := fun i p h => by cases h
  zok := fun B l h => by
    simp only [startEnv] at h
    split at h
    · rename_i arr t fz hb
      obtain rfl := Option.some.inj h
      exact ⟨arr, t, fz, hb, List.take_length⟩
    · cases h
  zsep := fun i b B x h => by cases h
  base := Nat.le_refl _
theorem BSim.calls {P : Program} {f : FuncId} {fn : Func} (hf : FnOk P f fn) {args : List AV} {ans : AV} (h : BSim P f args [] [] ans) (ha : mapO (renT []) args = some args) (W : World) (cargs : Array Value) (hv : VsRel (startEnv W) args cargs.toList) :
    Calls P f cargs W fun e W' => ∃ ρ' cv, e = .returned cv ∧ VRel ρ' ans cv ∧ RowKit.Below W.heap.size W W' := by
  have hs := h.spec0 ha ⟨.nil, 0⟩ ⟨.nil, 0⟩ rfl W _ _ W cargs (MRel.start W) hv
  rcases hs with ⟨ρ', cv, w', _, _, _, hrun⟩ | ⟨_, hc⟩
  · have hne : ¬ fn.name = "runtime.NumGoroutine" := by simpa using hf.name
    have hb := codeOf_some hf.body
    rw [show (callFunc f cargs).run P W = .ok (.enter f cargs) W by simp [callFunc, hf.at_, hne, hb]] at hrun
    cases hrun
  · refine hc.mono fun e w' he => ?_
    obtain ⟨ρ', cv, _, he, hv, hM⟩ := he
    exact ⟨ρ', cv, he, hv, ⟨hM.os, hM.tape, hM.output, hM.size, fun k hk => hM.keep k hk⟩⟩
end Go.Eng

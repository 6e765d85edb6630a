/- A part of the proof over this seat's program: the checked evaluator and its soundness (E..), and what it gives here (the others). No condition. -/
import Derived.Test.YtnljmpeaeajcoaaGreatDoorG19
set_option linter.unusedSectionVars false
namespace Go.Eng
open Go
variable [Mode]

/-- A run from arguments that hold no memory. -/
theorem run_any {P : Program} (hm : P.follows .mixedOrders = true) {X : FuncId → Option Ext} (hX : ∀ f x, X f = some x → ExtSpec P f x) {n : Nat} {f : FuncId} {fn : Func} (hf : P.funcs[f]? = some fn) (hb : fn.body.isSome = true)
    {args : List AV} {cargs : Array Value} (hargs : VsRel .empty args cargs.toList) {K : AV → Mem → Bool}
    (h : Eng.run P X n f args K = true) (w : World) : Calls P f cargs w fun e w' => ∃ v M' ρ cv, e = .returned cv ∧ K v M' = true ∧ VRel ρ v cv ∧ MRel w (fun b => b < w.heap.size) ρ M' w' := by
  obtain ⟨v, M', hv, hs⟩ := run_sound hm hX h
  rcases hs w (fun b => b < w.heap.size) .empty w cargs (MRel.empty w _ (fun _ h => h)) hargs with ⟨ρ', cv, w', _, _, _, hr⟩ | ⟨_, hc⟩
  · exfalso
    obtain ⟨c, hc⟩ := Option.isSome_iff_exists.1 hb
    simp only [callFunc, Sem.run_bind, run_program, Result.andThen_ok, hf] at hr
    split at hr
    · cases hr
    · simp [hc] at hr
  · refine hc.mono ?_
    rintro e w' ⟨ρ', cv, _, rfl, hr, hM⟩
    exact ⟨v, M', ρ', cv, rfl, hv, hr, hM⟩

theorem VRel.str_inv {ρ : Env} {l : List UInt8} {v : Value} (h : VRel ρ (.str l.length (enc l)) v) : v = .string ⟨⟨l⟩⟩ := by
  generalize e1 : l.length = n at h
  generalize e2 : enc l = c at h
  cases h with
  | str l' => rw [enc_inj _ _ e1 e2]
theorem VRel.int_inv {ρ : Env} {k : IntKind} {i : Int} {v : Value} (h : VRel ρ (.int k i) v) : v = .int k i := by cases h; rfl
theorem VRel.bool_inv {ρ : Env} {b : Bool} {v : Value} (h : VRel ρ (.bool b) v) : v = .bool b := by cases h; rfl
theorem VRel.pair_inv {ρ : Env} {a b : AV} {v : Value} (h : VRel ρ (.tuple [a, b]) v) : ∃ x y, v = .tuple #[x, y] ∧ VRel ρ a x ∧ VRel ρ b y := by
  cases h with
  | tuple _ vs h =>
    have e : vs = vs.toList.toArray := by simp
    generalize vs.toList = l at e h
    cases h with
    | cons _ x _ xs h1 h2 => cases h2 with | cons _ y _ ys h3 h4 => cases h4; exact ⟨x, y, by rw [e], h1, h3⟩
/-- a pair of plain values -/
noncomputable def is2 (x y v : AV) : Bool := match v with | .tuple [a, b] => Bool.and (beqA a x) (beqA b y) | _ => false
theorem is2_sound {x y v : AV} (h : is2 x y v = true) : v = .tuple [x, y] := by
  unfold is2 at h
  split at h
  · rw [show (beqA _ _).and (beqA _ _) = (beqA _ _ && beqA _ _) from rfl, Bool.and_eq_true] at h
    rw [beqA_sound h.1, beqA_sound h.2]
  · cases h
end Go.Eng

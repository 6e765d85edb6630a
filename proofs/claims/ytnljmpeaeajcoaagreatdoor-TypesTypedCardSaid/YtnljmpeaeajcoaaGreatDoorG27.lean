/- A part of the proof over this seat's program: the checked evaluator and its soundness (E..), and what it gives here (the others). No condition. -/
import Derived.Test.YtnljmpeaeajcoaaGreatDoorG26
set_option linter.unusedSectionVars false
namespace Go.Eng
open Go
variable [Mode]

/-- a value that is data as it stands -/
def flat1 (a : AV) : Bool := match a with | .bool _ | .int .. | .str .. | .nilPtr | .nilMap | .nilFunc | .nilIface => true | _ => false
def flatA (a : AV) : Bool := match a with | .agg l => l.all flat1 | a => flat1 a
def flatT (a : AV) : Bool := match a with | .tuple l => l.all flatA | a => flatA a
theorem flat1_str {k : Nat} {M : Mem} {l c : Nat} : FzA k M (.str l c) (.str l c) := FzA.plain (.str l c)
theorem flat1_fz {k : Nat} {M : Mem} {a : AV} (h : flat1 a = true) : FzA k M a a := by
  cases a <;> first
    | exact FzA.plain (.bool _)
    | exact FzA.plain (.int _ _)
    | exact FzA.plain (.str _ _)
    | exact FzA.plain .nilPtr
    | exact FzA.plain .nilMap
    | exact FzA.plain .nilFunc
    | exact FzA.plain .nilIface
    | exact Bool.noConfusion h
theorem flats_fz {k : Nat} {M : Mem} {p : AV → Bool} (hp : ∀ a, p a = true → FzA k M a a) : ∀ {l : List AV}, l.all p = true → FzAs k M l l := by
  intro l
  induction l with
  | nil => intro _; exact .nil
  | cons a l ih =>
    intro h
    simp only [List.all_cons, Bool.and_eq_true] at h
    exact .cons _ _ _ _ (hp a h.1) (ih h.2)
theorem flatA_fz {k : Nat} {M : Mem} {a : AV} (h : flatA a = true) : FzA k M a a := by
  unfold flatA at h
  split at h
  · exact .agg _ _ (flats_fz (fun _ => flat1_fz) h)
  · exact flat1_fz h
theorem flatT_fz {k : Nat} {M : Mem} {a : AV} (h : flatT a = true) : FzA k M a a := by
  unfold flatT at h
  split at h
  · exact .tuple _ _ (flats_fz (fun _ => flatA_fz) h)
  · exact flatA_fz h
/-- a run on closed values -/
noncomputable def closedRun (P : Program) (X : FuncId → Option Ext) (S : List (FuncId × SEnt)) (n : Nat) (fn : Func) (args : List AV) (ans : AV) : Bool :=
  Eng.exec P X S n fn.ntmps (codeOf fn) (mkFr (argSlots args 0)) (mkMem []) (fun o fr M => endK o (resK P fr M fn.results.toList fun vs => beqT (oneOf vs) ans))
theorem BSim.closed {P : Program} (hm : P.follows .mixedOrders = true) {X : FuncId → Option Ext} (hX : ∀ f x, X f = some x → ExtSpec P f x) {S : List (FuncId × SEnt)} (hS : ∀ e ∈ S, SSpec P e.1 e.2) {f : FuncId} {fn : Func} (hf : FnOk P f fn)
    {args : List AV} {ans : AV} (hlen : Nat.ble args.length fn.ntmps = true) (n : Nat) (h : closedRun P X S n fn args ans = true) (hp : flatT ans = true) : BSim P f args [] [] ans := by
  refine BSim.exec hm hX hS hf hlen rfl n (fun v _ => beqT v ans) h fun v M' hJ => ?_
  obtain rfl := beqT_sound hJ
  exact ⟨flatT_fz hp, fun j r h => by simp at h⟩
end Go.Eng

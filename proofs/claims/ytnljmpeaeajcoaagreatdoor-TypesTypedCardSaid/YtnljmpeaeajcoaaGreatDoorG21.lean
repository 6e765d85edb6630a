/- A part of the proof over this seat's program: the checked evaluator and its soundness (E..), and what it gives here (the others). No condition. -/
import Derived.Test.YtnljmpeaeajcoaaGreatDoorG20
set_option linter.unusedSectionVars false
namespace Go.Eng
open Go
variable [Mode]

theorem beqAs_sound : ∀ (l m : List AV), beqAs l m = true → l = m := by
  intro l
  induction l with
  | nil => intro m h; cases m with | nil => rfl | cons => exact absurd h (by show ¬ (false = true); simp)
  | cons a l ih =>
    intro m h
    cases m with
    | nil => exact absurd h (by show ¬ (false = true); simp)
    | cons b m =>
      change Bool.rec (motive := fun _ => Bool) false (beqAs l m) (beqA a b) = true at h
      rw [brec_false] at h
      rw [beqA_sound h.1, ih m h.2]
theorem beqT_sound {a b : AV} (h : beqT a b = true) : a = b := by
  unfold beqT at h
  split at h
  · rw [beqAs_sound _ _ h]
  · exact beqA_sound h
theorem findT_sound {args : List AV} {v : AV} : ∀ (l : List (List AV × AV)), findT args l = some v → (args, v) ∈ l := by
  intro l
  induction l with
  | nil => intro h; cases h
  | cons p l ih =>
    intro h
    change Bool.rec (motive := fun _ => Option AV) (findT args l) (some p.2) (beqAs args p.1) = some v at h
    cases hb : beqAs args p.1 with
    | true =>
      rw [hb] at h
      obtain rfl := beqAs_sound _ _ hb
      cases h
      exact List.mem_cons_self ..
    | false =>
      rw [hb] at h
      exact List.mem_cons_of_mem _ (ih h)

/-- a value that holds no memory -/
def plain1 (a : AV) : Bool := match a with | .bool _ | .int .. | .str .. | .nilPtr | .nilSlice | .nilMap | .nilFunc | .nilIface => true | _ => false
def plainA (a : AV) : Bool := match a with | .agg l => l.all plain1 | a => plain1 a
def plainT (a : AV) : Bool := match a with | .tuple l => l.all plainA | a => plainA a
theorem plain1_rel {ρ σ : Env} {a : AV} {v : Value} (h : plain1 a = true) (hv : VRel ρ a v) : VRel σ a v := by
  cases hv <;> first | exact .bool _ | exact .int _ _ | exact .str _ | exact .nilPtr | exact .nilSlice | exact .nilMap | exact .nilFunc | exact .nilIface | (exfalso; simp [plain1] at h)
theorem plains_rel {ρ σ : Env} {p : AV → Bool} (hp : ∀ a v, p a = true → VRel ρ a v → VRel σ a v) {l : List AV} {vs : List Value} (h : l.all p = true) (hv : VsRel ρ l vs) : VsRel σ l vs := by
  induction l generalizing vs with
  | nil => cases hv; exact .nil
  | cons a l ih =>
    cases hv with
    | cons _ v _ vs h1 h2 =>
      simp only [List.all_cons, Bool.and_eq_true] at h
      exact .cons _ _ _ _ (hp _ _ h.1 h1) (ih h.2 h2)
theorem plainA_rel {ρ σ : Env} {a : AV} {v : Value} (h : plainA a = true) (hv : VRel ρ a v) : VRel σ a v := by
  unfold plainA at h
  split at h
  · cases hv with | agg _ vs h2 => exact .agg _ _ (plains_rel (fun _ _ => plain1_rel) h h2)
  · exact plain1_rel h hv
theorem plainT_rel {ρ σ : Env} {a : AV} {v : Value} (h : plainT a = true) (hv : VRel ρ a v) : VRel σ a v := by
  unfold plainT at h
  split at h
  · cases hv with | tuple _ vs h2 => exact .tuple _ _ (plains_rel (fun _ _ => plainA_rel) h h2)
  · exact plainA_rel h hv

/-- each row of a table is what a run gives -/
noncomputable def tabOk (P : Program) (X : FuncId → Option Ext) (n : Nat) (f : FuncId) (l : List (List AV × AV)) : Bool :=
  l.all fun p => Bool.rec (motive := fun _ => Bool) false (Eng.run P X n f p.1 fun v _ => beqT v p.2) (Bool.and (p.1.all plainA) (plainT p.2))
theorem tabOk_append {P : Program} {X : FuncId → Option Ext} {n : Nat} {f : FuncId} {l m : List (List AV × AV)} (h : tabOk P X n f l = true) (k : tabOk P X n f m = true) : tabOk P X n f (l ++ m) = true := by
  unfold tabOk at h k ⊢
  rw [List.all_append, h, k]; rfl

/-- A TABLE OF CALLS, as the engine takes it: each row by a run with what was shown before. -/
theorem ExtSpec.tab {P : Program} (hm : P.follows .mixedOrders = true) {X : FuncId → Option Ext} (hX : ∀ f x, X f = some x → ExtSpec P f x) {n : Nat} {f : FuncId} {fn : Func} (hf : P.funcs[f]? = some fn) (hb : fn.body.isSome = true)
    {l : List (List AV × AV)} (h : tabOk P X n f l = true) : ExtSpec P f (.tab l) := by
  refine ⟨fun args v hv ρ cargs hargs w => ?_, fun args K h => by simp only [extA] at h; cases h⟩
  have hmem := findT_sound l hv
  have hrow := List.all_eq_true.1 h _ hmem
  simp only [brec_false, Bool.and_eq_true] at hrow
  obtain ⟨⟨hp, hpv⟩, hrun⟩ := hrow
  refine (run_any hm hX hf hb (plains_rel (fun _ _ => plainA_rel) hp hargs) hrun w).mono ?_
  rintro e w' ⟨u, M', σ, cv, rfl, hbq, hr, hM⟩
  obtain rfl := beqT_sound hbq
  exact ⟨cv, rfl, plainT_rel hpv hr, hM.below⟩
end Go.Eng

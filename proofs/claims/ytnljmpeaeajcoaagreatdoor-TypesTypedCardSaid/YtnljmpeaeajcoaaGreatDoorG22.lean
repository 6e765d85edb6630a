/- A part of the proof over this seat's program: the checked evaluator and its soundness (E..), and what it gives here (the others). No condition. -/
import Derived.Test.YtnljmpeaeajcoaaGreatDoorG21
set_option linter.unusedSectionVars false
namespace Go.Eng
open Go
variable [Mode]

/-! WHAT CODE COMES TO, when the engine may number its blocks anew on the way. The first k blocks keep their numbers. -/
structure ZLe (k : Nat) (ρ σ : Env) : Prop where
  m : ∀ i p, i < k → ρ i = some p → σ i = some p
  z : ρ.z.le σ.z
  base : σ.base = ρ.base
  new : ∀ B l, σ.z B = some l → ρ.z B = some l ∨ Own ρ B
  own : ∀ i p, σ i = some p → Own ρ p.1
theorem Env.le.zle {ρ σ : Env} (h : ρ.le σ) (k : Nat) : ZLe k ρ σ := ⟨fun i p _ e => h.m i p e, h.z, h.base, h.new, h.own⟩
theorem ZLe.refl (k : Nat) (ρ : Env) : ZLe k ρ ρ := (Env.le.refl ρ).zle k
theorem ZLe.trans {k : Nat} {r s t : Env} (h : ZLe k r s) (g : ZLe k s t) : ZLe k r t :=
  ⟨fun i p hi e => g.m i p hi (h.m i p hi e), fun B l e => g.z B l (h.z B l e), g.base.trans h.base, fun B l e => by
    rcases g.new B l e with e | e
    · exact h.new B l e
    · exact .inr (e.back h.base h.own), fun i p e => (g.own i p e).back h.base h.own⟩

def Rests2 (k : Nat) (w0 : World) (R : Nat → Prop) (ρ : Env) (nt : Nat) (o : AE) (fr' : Fr) (M' : Mem) (Q : Exit → Act → World → Prop) : Prop :=
  ∀ ρ' a' w', ZLe k ρ ρ' → FRel ρ' nt fr' a' → MRel w0 R ρ' M' w' → Q o.toExit a' w'
def Sim2 (P : Program) (nt k : Nat) (c : Code) (fr : Fr) (M : Mem) (o : AE) (fr' : Fr) (M' : Mem) : Prop :=
  ∀ w0 R ρ (a : Act) w, FRel ρ nt fr a → MRel w0 R ρ M w → ∀ Q : Exit → Act → World → Prop, Rests2 k w0 R ρ nt o fr' M' Q → c.wp P Q a w
def LSim2 (P : Program) (nt k : Nat) (b : Code) (fr : Fr) (M : Mem) (o : AE) (fr' : Fr) (M' : Mem) : Prop :=
  ∃ n, ∀ w0 R ρ (a : Act) w, FRel ρ nt fr a → MRel w0 R ρ M w → ∀ Q : Exit → Act → World → Prop, Rests2 k w0 R ρ nt o fr' M' Q → Code.rounds P b Q n a w
theorem CodeSim.two {P : Program} {nt : Nat} {c : Code} {fr : Fr} {M : Mem} {o : AE} {fr' : Fr} {M' : Mem} (h : CodeSim P nt c fr M o fr' M') (k : Nat) : Sim2 P nt k c fr M o fr' M' :=
  fun w0 R ρ a w hF hM Q hQ => h w0 R ρ a w hF hM Q fun ρ' a' w' hle => hQ ρ' a' w' (hle.zle k)

/-- the code ends as Q says -/
def W (P : Program) (nt k : Nat) (c : Code) (fr : Fr) (M : Mem) (Q : AE → Fr → Mem → Prop) : Prop := ∃ o fr' M', Q o fr' M' ∧ Sim2 P nt k c fr M o fr' M'
theorem W.mono {P : Program} {nt k : Nat} {c : Code} {fr : Fr} {M : Mem} {Q Q' : AE → Fr → Mem → Prop} (h : W P nt k c fr M Q) (hq : ∀ o fr' M', Q o fr' M' → Q' o fr' M') : W P nt k c fr M Q' := by
  obtain ⟨o, fr', M', hQ, hs⟩ := h
  exact ⟨o, fr', M', hq _ _ _ hQ, hs⟩

/-- behind a piece that ends normally, the next one -/
def Nxt (P : Program) (nt k : Nat) (c : Code) (Q : AE → Fr → Mem → Prop) : AE → Fr → Mem → Prop
  | .normal, fr, M => W P nt k c fr M Q
  | o, fr, M => Q o fr M
theorem W.seq {P : Program} {nt k : Nat} {x y : Code} {fr : Fr} {M : Mem} {Q : AE → Fr → Mem → Prop} (h : W P nt k x fr M (Nxt P nt k y Q)) : W P nt k (.seq x y) fr M Q := by
  obtain ⟨o, fr1, M1, h, hs⟩ := h
  cases o with
  | normal =>
    obtain ⟨o2, fr2, M2, hQ, hs2⟩ := h
    exact ⟨o2, fr2, M2, hQ, fun w0 R ρ a w hF hM Q hQ => wp_seq (hs w0 R ρ a w hF hM _ fun ρ1 a1 w1 hle hF1 hM1 =>
      hs2 w0 R ρ1 a1 w1 hF1 hM1 Q fun ρ2 a2 w2 hle2 => hQ ρ2 a2 w2 (hle.trans hle2))⟩
  | ret => exact ⟨_, _, _, h, fun w0 R ρ a w hF hM Q hQ => wp_seq (hs w0 R ρ a w hF hM _ fun ρ1 a1 w1 hle hF1 hM1 => hQ ρ1 a1 w1 hle hF1 hM1)⟩
  | exit id => exact ⟨_, _, _, h, fun w0 R ρ a w hF hM Q hQ => wp_seq (hs w0 R ρ a w hF hM _ fun ρ1 a1 w1 hle hF1 hM1 => hQ ρ1 a1 w1 hle hF1 hM1)⟩

theorem W.cond {P : Program} {nt k : Nat} {x : Operand} {y z : Code} {fr : Fr} {M : Mem} {Q : AE → Fr → Mem → Prop} (t : Bool) (hv : evD fr x = some (.bool t))
    (h1 : t = true → W P nt k y fr M Q) (h2 : t = false → W P nt k z fr M Q) : W P nt k (.cond x y z) fr M Q := by
  have hcond : ∀ ρ (a : Act), FRel ρ nt fr a → a.eval x = .bool t := fun ρ a hF => by
    have := hF.relX x _ hv
    generalize a.eval x = q at this ⊢
    cases this; rfl
  cases t with
  | true =>
    obtain ⟨o, fr', M', hQ, hs⟩ := h1 rfl
    exact ⟨o, fr', M', hQ, fun w0 R ρ a w hF hM Q hQ => wp_cond_true (hcond ρ a hF) (hs w0 R ρ a w hF hM Q hQ)⟩
  | false =>
    obtain ⟨o, fr', M', hQ, hs⟩ := h2 rfl
    exact ⟨o, fr', M', hQ, fun w0 R ρ a w hF hM Q hQ => wp_cond_false (hcond ρ a hF) (hs w0 R ρ a w hF hM Q hQ)⟩

/-- how a block ends -/
def Blkd (id : Nat) (Q : AE → Fr → Mem → Prop) : AE → Fr → Mem → Prop
  | .exit j, fr, M => if j = id then Q .normal fr M else Q (.exit j) fr M
  | o, fr, M => Q o fr M
theorem W.block {P : Program} {nt k id : Nat} {b : Code} {fr : Fr} {M : Mem} {Q : AE → Fr → Mem → Prop} (h : W P nt k b fr M (Blkd id Q)) : W P nt k (.block id b) fr M Q := by
  obtain ⟨o, fr1, M1, h, hs⟩ := h
  cases o with
  | normal => exact ⟨_, _, _, h, fun w0 R ρ a w hF hM Q hQ => wp_block (hs w0 R ρ a w hF hM _ fun ρ1 a1 w1 hle hF1 hM1 => hQ ρ1 a1 w1 hle hF1 hM1)⟩
  | ret => exact ⟨_, _, _, h, fun w0 R ρ a w hF hM Q hQ => wp_block (hs w0 R ρ a w hF hM _ fun ρ1 a1 w1 hle hF1 hM1 => hQ ρ1 a1 w1 hle hF1 hM1)⟩
  | exit j =>
    by_cases hj : j = id
    · subst hj
      simp only [Blkd, if_true] at h
      exact ⟨_, _, _, h, fun w0 R ρ a w hF hM Q hQ => wp_block (hs w0 R ρ a w hF hM _ fun ρ1 a1 w1 hle hF1 hM1 => by
        show (if j = j then Q .normal a1 w1 else Q (.exit j) a1 w1)
        rw [if_pos rfl]
        exact hQ ρ1 a1 w1 hle hF1 hM1)⟩
    · simp only [Blkd, if_neg hj] at h
      exact ⟨_, _, _, h, fun w0 R ρ a w hF hM Q hQ => wp_block (hs w0 R ρ a w hF hM _ fun ρ1 a1 w1 hle hF1 hM1 => by
        show (if j = id then Q .normal a1 w1 else Q (.exit j) a1 w1)
        rw [if_neg hj]
        exact hQ ρ1 a1 w1 hle hF1 hM1)⟩
theorem W.scope {P : Program} {nt k : Nat} {b : Code} {fr : Fr} {M : Mem} {Q : AE → Fr → Mem → Prop} (h : W P nt k b fr M Q) : W P nt k (.scope b) fr M Q := by
  obtain ⟨o, fr1, M1, h, hs⟩ := h
  refine ⟨_, _, _, h, fun w0 R ρ a w hF hM Q hQ => wp_scope_straight (hs w0 R ρ a w hF hM _ fun ρ1 a1 w1 hle hF1 hM1 => ?_)⟩
  have := hQ ρ1 a1 w1 hle hF1 hM1
  cases o <;> exact this

/-- a loop, by what holds at each round's head and a measure -/
theorem W.loop {P : Program} {nt k : Nat} {b : Code} {Q : AE → Fr → Mem → Prop} {σ : Type} (I : σ → Fr → Mem → Prop) (m : σ → Nat)
    (h : ∀ s fr M, I s fr M → W P nt k b fr M fun o fr' M' => (o = .normal ∧ ∃ s', m s' < m s ∧ I s' fr' M') ∨ (o ≠ .normal ∧ Q o fr' M')) (s : σ) {fr : Fr} {M : Mem} (hI : I s fr M) : W P nt k (.loop b) fr M Q := by
  have key : ∀ (n : Nat) (s : σ) fr M, m s < n → I s fr M → ∃ o fr' M', Q o fr' M' ∧ LSim2 P nt k b fr M o fr' M' := by
    intro n
    induction n with
    | zero => intro s fr M hn; exact absurd hn (Nat.not_lt_zero _)
    | succ n ih =>
      intro s fr M hn hI
      obtain ⟨o, fr1, M1, hq, hs⟩ := h s fr M hI
      rcases hq with ⟨rfl, s', hlt, hI'⟩ | ⟨hne, hq⟩
      · obtain ⟨o2, fr2, M2, hQ, j, hs2⟩ := ih s' fr1 M1 (by omega) hI'
        refine ⟨o2, fr2, M2, hQ, j + 1, fun w0 R ρ a w hF hM Q hQ => ?_⟩
        rw [rounds_succ]
        exact hs w0 R ρ a w hF hM _ fun ρ1 a1 w1 hle hF1 hM1 => hs2 w0 R ρ1 a1 w1 hF1 hM1 Q fun ρ2 a2 w2 hle2 => hQ ρ2 a2 w2 (hle.trans hle2)
      · refine ⟨o, fr1, M1, hq, 1, fun w0 R ρ a w hF hM Q hQ => ?_⟩
        rw [rounds_succ]
        refine hs w0 R ρ a w hF hM _ fun ρ1 a1 w1 hle hF1 hM1 => ?_
        have := hQ ρ1 a1 w1 hle hF1 hM1
        cases o with
        | normal => exact absurd rfl hne
        | ret => exact this
        | exit id => exact this
  obtain ⟨o, fr', M', hQ, n, hs⟩ := key _ s fr M (Nat.lt_succ_self _) hI
  exact ⟨o, fr', M', hQ, fun w0 R ρ a w hF hM Q hQ => wp_loop_rounds n (hs w0 R ρ a w hF hM Q hQ)⟩

/-! what the kernel can run -/
noncomputable def pdec (p : Prop) : Bool := @decide p (Classical.propDecidable p)
theorem pdec_iff {p : Prop} : pdec p = true ↔ p := ⟨@of_decide_eq_true p (Classical.propDecidable p), @decide_eq_true p (Classical.propDecidable p)⟩
noncomputable def lv (ts : List Nat) (fr : Fr) : List (Option AV) := List.map (fun t => fr.get t) ts
noncomputable def mv (π : List Nat) (M : Mem) : List (Option Blk) := List.map (fun b => M.t.get b) π

theorem W.exec {P : Program} (hm : P.follows .mixedOrders = true) {X : FuncId → Option Ext} (hX : ∀ f x, X f = some x → ExtSpec P f x) {S : List (FuncId × SEnt)} (hS : ∀ e ∈ S, SSpec P e.1 e.2) {n nt k : Nat} {c : Code} {fr : Fr} {M : Mem}
    {K : AE → Fr → Mem → Bool} (h : exec P X S n nt c fr M K = true) : W P nt k c fr M fun o fr' M' => K o fr' M' = true := by
  obtain ⟨o, fr', M', hK, hs⟩ := exec_sound hm hX hS n _ _ _ _ _ h
  exact ⟨o, fr', M', hK, hs.code.two k⟩
/-- a piece that the kernel runs: what it leaves in the slots ts and the blocks π -/
theorem W.run {P : Program} (hm : P.follows .mixedOrders = true) {X : FuncId → Option Ext} (hX : ∀ f x, X f = some x → ExtSpec P f x) {S : List (FuncId × SEnt)} (hS : ∀ e ∈ S, SSpec P e.1 e.2) {nt k : Nat} {c : Code} {fr : Fr} {M : Mem} {Q : AE → Fr → Mem → Prop}
    (n : Nat) (ts π : List Nat) (T : (AE → List (Option AV) → List (Option Blk) → Bool) → Bool)
    (h : ∀ I : AE → List (Option AV) → List (Option Blk) → Bool, Eng.exec P X S n nt c fr M (fun o fr' M' => I o (lv ts fr') (mv π M')) = T I)
    (hT : T (fun o vs bs => pdec (∀ fr' M', lv ts fr' = vs → mv π M' = bs → Q o fr' M')) = true) : W P nt k c fr M Q := by
  refine (W.exec hm hX hS (k := k) ((h _).trans hT)).mono fun o fr' M' hK => ?_
  exact pdec_iff.1 hK fr' M' rfl rfl
end Go.Eng

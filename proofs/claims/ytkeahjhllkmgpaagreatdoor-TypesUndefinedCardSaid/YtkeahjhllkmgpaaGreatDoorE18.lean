/- A part of the proof over this seat's program: the checked evaluator and its soundness (E..), and what it gives here (the others). No condition. -/
import Derived.Test.YtkeahjhllkmgpaaGreatDoorE17
import Derived.LoopN
import Derived.Scope
import Derived.Below
namespace Go.Eng
open Go

def AE.toExit : AE → Exit
  | .normal => .normal
  | .ret => .ret
  | .exit id => .exit id

/-- what a piece of code comes to -/
def Rests (w0 : World) (R : Nat → Prop) (ρ : Env) (nt : Nat) (o : AE) (fr' : Fr) (M' : Mem) (Q : Exit → Act → World → Prop) : Prop :=
  ∀ ρ' a' w', ρ.le ρ' → FRel ρ' nt fr' a' → MRel w0 R ρ' M' w' → Q o.toExit a' w'
def CodeSim (P : Program) (nt : Nat) (c : Code) (fr : Fr) (M : Mem) (o : AE) (fr' : Fr) (M' : Mem) : Prop :=
  ∀ w0 R ρ (a : Act) w, FRel ρ nt fr a → MRel w0 R ρ M w → ∀ Q : Exit → Act → World → Prop, Rests w0 R ρ nt o fr' M' Q → c.wp P Q a w
def LoopSim (P : Program) (nt : Nat) (b : Code) (fr : Fr) (M : Mem) (o : AE) (fr' : Fr) (M' : Mem) : Prop :=
  ∃ k, ∀ w0 R ρ (a : Act) w, FRel ρ nt fr a → MRel w0 R ρ M w → ∀ Q : Exit → Act → World → Prop, Rests w0 R ρ nt o fr' M' Q → Code.rounds P b Q k a w
theorem LoopSim.code {P : Program} {nt : Nat} {b : Code} {fr : Fr} {M : Mem} {o : AE} {fr' : Fr} {M' : Mem} (h : LoopSim P nt b fr M o fr' M') : CodeSim P nt (.loop b) fr M o fr' M' := by
  obtain ⟨k, h⟩ := h
  exact fun w0 R ρ a w hF hM Q hQ => wp_loop_rounds k (h w0 R ρ a w hF hM Q hQ)
/-- code, or a loop with its rounds counted -/
def Sim (P : Program) (nt : Nat) (c : Code) (fr : Fr) (M : Mem) (o : AE) (fr' : Fr) (M' : Mem) : Prop :=
  match c with
  | .loop b => LoopSim P nt b fr M o fr' M'
  | c => CodeSim P nt c fr M o fr' M'
theorem Sim.code {P : Program} {nt : Nat} {c : Code} {fr : Fr} {M : Mem} {o : AE} {fr' : Fr} {M' : Mem} (h : Sim P nt c fr M o fr' M') : CodeSim P nt c fr M o fr' M' := by
  cases c <;> first | exact h | exact LoopSim.code h

/-- a library function without a body gives what its row of 'extA' says -/
def ExtSpec (P : Program) (f : FuncId) (x : Ext) : Prop :=
  (∀ v, x = .sum v → ∃ cv, (∀ ρ, VRel ρ v cv) ∧ ∀ w, Calls P f #[] w fun e w' => e = .returned cv ∧ RowKit.Below w.heap.size w w') ∧
  ∀ args K, extA x args K = true → ∃ v, K v = true ∧ ∀ ρ (cargs : Array Value), VsRel ρ args cargs.toList → ∃ cv, VRel ρ v cv ∧ ∀ w, (callFunc f cargs).run P w = .ok (.value cv) w

def ExSound (P : Program) (ex : Nat → Code → Fr → Mem → (AE → Fr → Mem → Bool) → Bool) : Prop :=
  ∀ nt c fr M K, ex nt c fr M K = true → ∃ o fr' M', K o fr' M' = true ∧ Sim P nt c fr M o fr' M'

theorem frInit_sound : ∀ (l : List AV) (i nt : Nat) (fr : Fr) (K : Fr → Bool), frInit l i nt fr K = true →
    ∃ fr', K fr' = true ∧ (l ≠ [] → i + l.length ≤ nt) ∧ ∀ t, getU fr' t = if i ≤ t ∧ t < i + l.length then (l[t - i]?).getD .undef else getU fr t := by
  intro l
  induction l with
  | nil => intro i nt fr K h; exact ⟨fr, h, fun e => absurd rfl e, fun t => by rw [if_neg (by simp)]⟩
  | cons a l ih =>
    intro i nt fr K h
    change Bool.rec (motive := fun _ => Bool) false (T.set a fr i fun fr => frInit l (Nat.succ i) nt fr K) (Nat.blt i nt) = true at h
    rw [brec_false] at h
    obtain ⟨hi, h⟩ := h
    have hi : i < nt := by simpa [Nat.blt_eq] using hi
    obtain ⟨fr1, h, ht⟩ := T.set_spec _ _ _ _ h
    obtain ⟨fr', hK, hlen, H⟩ := ih _ _ _ _ h
    refine ⟨fr', hK, fun _ => ?_, fun t => ?_⟩
    · cases l with
      | nil => simp; omega
      | cons b l => have := hlen (by simp); simp at this ⊢; omega
    · rw [H]
      have h1 : getU fr1 t = if t = i then a else getU fr t := by
        unfold getU; rw [ht]; by_cases e : t = i <;> simp [e]
      rw [h1]
      by_cases e : t = i
      · subst e
        rw [if_neg (by omega), if_pos rfl, if_pos (by simp)]
        simp
      · by_cases hin : i + 1 ≤ t ∧ t < i + 1 + l.length
        · rw [if_pos hin, if_pos (by simp; omega)]
          have : t - i = (t - (i + 1)) + 1 := by omega
          rw [this]; simp
        · rw [if_neg hin, if_neg e, if_neg (by simp; omega)]

theorem frInit_rel {ρ : Env} {args : List AV} {cargs : Array Value} {nt : Nat} {fr : Fr} (hv : VsRel ρ args cargs.toList) (hlen : args ≠ [] → 0 + args.length ≤ nt)
    (h : ∀ t, getU fr t = if 0 ≤ t ∧ t < 0 + args.length then (args[t - 0]?).getD .undef else getU .nil t) : FRel ρ nt fr { tmps := cargs ++ Array.replicate (nt - cargs.size) Go.undef, defers := [] } := by
  have hl := hv.length
  simp only [Array.length_toList] at hl
  have hle : cargs.size ≤ nt := by
    cases args with
    | nil => simp at hl; omega
    | cons a l => have := hlen (by simp); omega
  refine ⟨by simp; omega, rfl, fun t => ?_⟩
  rw [h]
  by_cases ht : t < args.length
  · rw [if_pos (by omega)]
    obtain ⟨a, ha⟩ : ∃ a, args[t]? = some a := ⟨args[t], List.getElem?_eq_getElem ht⟩
    obtain ⟨v, hv', hr⟩ := hv.get' ha
    have : (cargs ++ Array.replicate (nt - cargs.size) Go.undef).getD t Go.undef = v := by
      rw [Array.getD_eq_getD_getElem?, Array.getElem?_append_left (by omega)]
      simp at hv'
      simp [hv']
    rw [this, Nat.sub_zero, ha]
    exact hr
  · rw [if_neg (by omega)]
    have : (cargs ++ Array.replicate (nt - cargs.size) Go.undef).getD t Go.undef = Go.undef := by
      rw [Array.getD_eq_getD_getElem?, Array.getElem?_append_right (by omega), Array.getElem?_replicate]
      split <;> simp
    rw [this]
    exact .undef

/-- a result variable -/
theorem resK_sound {P : Program} {fr : Fr} {M : Mem} : ∀ (l : List ResultVar) (K : List AV → Bool), resK P fr M l K = true →
    ∃ vs, K vs = true ∧ ∀ w0 R ρ (a : Act) w nt, FRel ρ nt fr a → MRel w0 R ρ M w → ∃ cvs, VsRel ρ vs cvs ∧
      (l.mapM (m := Sem) fun
        | .tmp t => pure (a.tmps.getD t Go.undef)
        | .cell x t => do loadVar t (← asAddr (a.tmps.getD x Go.undef))).run P w = .ok cvs w := by
  intro l
  induction l with
  | nil => intro K h; exact ⟨[], h, fun w0 R ρ a w nt hF hM => ⟨[], .nil, by simp⟩⟩
  | cons r l ih =>
    intro K h
    cases r with
    | tmp t =>
      change (getT fr t fun v => resK P fr M l fun vs => K (v :: vs)) = true at h
      rw [getT_iff] at h
      obtain ⟨vs, hK, H⟩ := ih _ h
      refine ⟨_, hK, fun w0 R ρ a w nt hF hM => ?_⟩
      obtain ⟨cvs, hv, hrun⟩ := H w0 R ρ a w nt hF hM
      exact ⟨_ :: cvs, .cons _ _ _ _ (hF.rel t) hv, by rw [List.mapM_cons]; simp only [Sem.run_bind, Sem.run_pure, Result.andThen_ok, hrun]⟩
    | cell x t =>
      change (getT fr x fun p => loadA P t p M fun v => resK P fr M l fun vs => K (v :: vs)) = true at h
      rw [getT_iff] at h
      obtain ⟨v, h, hs⟩ := loadA_sound h
      obtain ⟨vs, hK, H⟩ := ih _ h
      refine ⟨_, hK, fun w0 R ρ a w nt hF hM => ?_⟩
      obtain ⟨cvs, hv, hrun⟩ := H w0 R ρ a w nt hF hM
      obtain ⟨cv, hcv, hl⟩ := hs w0 R ρ w _ hM (hF.rel x)
      refine ⟨cv :: cvs, .cons _ _ _ _ hcv hv, ?_⟩
      rw [List.mapM_cons]
      have hld : ((do loadVar t (← asAddr (a.tmps.getD x Go.undef))) : Sem Value).run P w = .ok cv w := by
        have hp := hF.rel x
        generalize a.tmps.getD x Go.undef = pv at hp hl ⊢
        unfold Instr.loadAt at hl
        have hpp : ∃ ad, pv = .pointer (some ad) := by
          simp only [Sem.run_bind, Instr.sureAddr] at hl
          split at hl
          · exact ⟨_, rfl⟩
          · cases hl
        obtain ⟨ad, rfl⟩ := hpp
        simpa [Instr.sureAddr, asAddr] using hl
      simp only [Sem.run_bind] at hld ⊢
      rw [hld]
      simp only [Result.andThen_ok, hrun, Sem.run_pure]

theorem MRel.of_below {w0 : World} {R : Nat → Prop} {ρ : Env} {M : Mem} {w w' : World} (h : MRel w0 R ρ M w) (hb : RowKit.Below w.heap.size w w') : MRel w0 R ρ M w' :=
  ⟨hb.os.trans h.os, hb.tape.trans h.tape, hb.output.trans h.output, Nat.le_trans h.size hb.size, fun b hR => (hb.block b (Nat.lt_of_lt_of_le (h.rlt b hR) h.size)).trans (h.keep b hR), h.rlt,
    fun i b hi hd => by
      obtain ⟨B, x, o, h1, h2, h3, h4⟩ := h.blk i b hi hd
      refine ⟨B, x, o, h1, h2, ?_, h4⟩
      rw [hb.block B (Array.getElem?_eq_some_iff.1 h3).1]; exact h3, h.inj, h.fresh⟩

theorem callBody_sound {P : Program} {X : FuncId → Option Ext} (hX : ∀ f x, X f = some x → ExtSpec P f x) {ex : Nat → Code → Fr → Mem → (AE → Fr → Mem → Bool) → Bool} (hex : ExSound P ex)
    (f : FuncId) (args : List AV) (M : Mem) (K : AV → Mem → Bool) (h : callBody P X ex f args M K = true) : ∃ v M', K v M' = true ∧ CSim P f args M v M' := by
  unfold callBody at h
  split at h
  · exact absurd h (by simp)
  rename_i fn hf
  split at h
  · exact absurd h (by simp)
  · rename_i c hb hn
    have hname : (fn.name == "runtime.NumGoroutine") = false := hn
    have hne : ¬ fn.name = "runtime.NumGoroutine" := by simpa using hname
    split at h
    · rename_i v hs
      split at h
      · have hx : X f = some (.sum v) := by
          unfold sumOf at hs
          split at hs
          · rename_i hx; cases hs; exact hx
          · cases hs
        obtain ⟨cv, hcv, hcall⟩ := (hX f _ hx).1 v rfl
        refine ⟨v, M, h, fun w0 R ρ w cargs hM hv => .inr ?_⟩
        obtain rfl : cargs = #[] := by
          have := hv.length
          simp at this
          exact Array.eq_empty_of_size_eq_zero this.symm
        refine ⟨by simp [callFunc, hf, hne, hb], (hcall w).mono ?_⟩
        rintro e w' ⟨rfl, hbel⟩
        exact ⟨ρ, cv, .refl _, rfl, hcv ρ, hM.of_below hbel⟩
      · exact absurd h (by simp)
    obtain ⟨fr0, h, hlen, hget⟩ := frInit_sound _ _ _ _ _ h
    obtain ⟨o, fr', M', h, hsim⟩ := hex _ _ _ _ _ h
    have hno : (o = .normal ∨ o = .ret) ∧ ∃ vs, (match vs with | [v] => K v M' | l => K (.tuple l) M') = true ∧ resK P fr' M' fn.results.toList (fun l => (match l with | [v] => K v M' | l => K (.tuple l) M')) = true := by
      cases o with
      | exit id => exact absurd h (by simp)
      | normal => obtain ⟨vs, hK, _⟩ := resK_sound _ _ h; exact ⟨.inl rfl, vs, hK, h⟩
      | ret => obtain ⟨vs, hK, _⟩ := resK_sound _ _ h; exact ⟨.inr rfl, vs, hK, h⟩
    obtain ⟨ho, _, _, hres⟩ := hno
    obtain ⟨vs, hK, H⟩ := resK_sound _ _ hres
    -- the one value
    obtain ⟨v, hKv, hval⟩ : ∃ v, K v M' = true ∧ ∀ ρ cvs, VsRel ρ vs cvs → VRel ρ v (if h : cvs.toArray.size = 1 then cvs.toArray[0] else .tuple cvs.toArray) := by
      split at hK
      · rename_i v
        refine ⟨v, hK, fun ρ cvs hv => ?_⟩
        cases hv with
        | cons _ cv _ _ h1 h2 => cases h2; simpa using h1
      · rename_i hne
        refine ⟨_, hK, fun ρ cvs hv => ?_⟩
        have hl := hv.length
        have : ¬ cvs.toArray.size = 1 := by
          intro e
          simp at e
          cases vs with
          | nil => simp at hl; omega
          | cons x r =>
            cases r with
            | nil => exact hne x rfl
            | cons y r => simp at hl; omega
        rw [dif_neg this]
        exact .tuple _ _ (by simpa using hv)
    refine ⟨v, M', hKv, fun w0 R ρ w cargs hM hv => .inr ?_⟩
    refine ⟨by simp [callFunc, hf, hne, hb], calls_of_wp hf hb ?_⟩
    refine hsim.code w0 R ρ _ w (frInit_rel hv hlen hget) hM _ fun ρ' a' w' hle hF hM' => ?_
    obtain ⟨cvs, hcv, hrun⟩ := H w0 R ρ' a' w' _ hF hM'
    have hresults : (results fn a'.tmps).run P w' = .ok (if h : cvs.toArray.size = 1 then cvs.toArray[0] else .tuple cvs.toArray) w' := by
      unfold results
      rw [Array.mapM_eq_mapM_toList]
      simp only [Sem.run_bind, Sem.run_map]
      refine Eq.trans (congrArg (fun r : Result (List Value) => ((Result.andThen r (fun a w' => Result.ok a.toArray w')).andThen fun a w' => Sem.run P (pure (if h : a.size = 1 then a[0] else Value.tuple a)) w')) hrun) ?_
      simp only [Result.andThen_ok, Sem.run_pure]
    have hpost : a'.defers = [] ∧ ∃ v, (results fn a'.tmps).run P w' = .ok v w' ∧ ∃ ρ'' cv, ρ.le ρ'' ∧ Ending.returned v = .returned cv ∧ VRel ρ'' _ cv ∧ MRel w0 R ρ'' M' w' := ⟨hF.defers, _, hresults, ρ', _, hle, rfl, hval ρ' cvs hcv, hM'⟩
    rcases ho with rfl | rfl
    · exact hpost
    · exact hpost
  · rename_i hb hn
    split at h
    · rename_i x hx
      obtain ⟨v, hK, H⟩ := (hX f x hx).2 args _ h
      refine ⟨v, M, hK, fun w0 R ρ w cargs hM hv => .inl ?_⟩
      obtain ⟨cv, hr, hrun⟩ := H ρ cargs hv
      exact ⟨ρ, cv, w, .refl _, hr, hM, hrun w⟩
    · exact absurd h (by simp)

theorem step_sound {P : Program} (hm : P.follows .mixedOrders = true) {X : FuncId → Option Ext} (hX : ∀ f x, X f = some x → ExtSpec P f x) {ex : Nat → Code → Fr → Mem → (AE → Fr → Mem → Bool) → Bool} (hex : ExSound P ex) :
    ExSound P (step P X ex) := by
  intro nt c fr M K h
  have hcall := callBody_sound hX hex
  cases c <;> simp only [step] at h <;> try (exact Bool.noConfusion h)
  case skip => exact ⟨_, _, _, h, fun w0 R ρ a w hF hM Q hQ => wp_skip (hQ ρ a w (.refl _) hF hM)⟩
  case label l => exact ⟨_, _, _, h, fun w0 R ρ a w hF hM Q hQ => wp_label (hQ ρ a w (.refl _) hF hM)⟩
  case ret => exact ⟨_, _, _, h, fun w0 R ρ a w hF hM Q hQ => wp_ret (hQ ρ a w (.refl _) hF hM)⟩
  case exit id => exact ⟨_, _, _, h, fun w0 R ρ a w hF hM Q hQ => wp_exit (hQ ρ a w (.refl _) hF hM)⟩
  case region id ops d =>
    rw [brec_tt] at h
    rcases h with ⟨rfl, h⟩ | ⟨rfl, h⟩
    · obtain ⟨fr', M', hK, H⟩ := runOps_sound hcall _ _ _ _ h
      exact ⟨_, _, _, hK, fun w0 R ρ a w hF hM Q hQ => wp_region_list (H w0 R ρ a w hF hM Q hQ)⟩
    · rw [brec_false] at h
      obtain ⟨hok, h⟩ := h
      obtain ⟨fr', M', hK, H⟩ := runDraw_sound hm hcall hok h
      exact ⟨_, _, _, hK, fun w0 R ρ a w hF hM Q hQ => H w0 R ρ a w hF hM Q hQ id⟩
  case seq x y =>
    obtain ⟨o, fr1, M1, h, hs⟩ := hex _ _ _ _ _ h
    cases o with
    | normal =>
      obtain ⟨o2, fr2, M2, hK, hs2⟩ := hex _ _ _ _ _ h
      exact ⟨o2, fr2, M2, hK, fun w0 R ρ a w hF hM Q hQ => wp_seq (hs.code w0 R ρ a w hF hM _ fun ρ1 a1 w1 hle hF1 hM1 =>
        hs2.code w0 R ρ1 a1 w1 hF1 hM1 Q fun ρ2 a2 w2 hle2 => hQ ρ2 a2 w2 (hle.trans hle2))⟩
    | ret => exact ⟨_, _, _, h, fun w0 R ρ a w hF hM Q hQ => wp_seq (hs.code w0 R ρ a w hF hM _ fun ρ1 a1 w1 hle hF1 hM1 => hQ ρ1 a1 w1 hle hF1 hM1)⟩
    | exit id => exact ⟨_, _, _, h, fun w0 R ρ a w hF hM Q hQ => wp_seq (hs.code w0 R ρ a w hF hM _ fun ρ1 a1 w1 hle hF1 hM1 => hQ ρ1 a1 w1 hle hF1 hM1)⟩
  case cond x y z =>
    rw [ev_iff] at h
    obtain ⟨v, hv, h⟩ := h
    split at h
    · rename_i t
      have hcond : ∀ ρ (a : Act), FRel ρ nt fr a → a.eval x = .bool t := fun ρ a hF => by
        have := hF.relX x _ hv
        generalize a.eval x = q at this ⊢
        cases this; rfl
      rw [brec_tt] at h
      rcases h with ⟨rfl, h⟩ | ⟨rfl, h⟩
      · obtain ⟨o, fr', M', hK, hs⟩ := hex _ _ _ _ _ h
        exact ⟨_, _, _, hK, fun w0 R ρ a w hF hM Q hQ => wp_cond_false (hcond ρ a hF) (hs.code w0 R ρ a w hF hM Q hQ)⟩
      · obtain ⟨o, fr', M', hK, hs⟩ := hex _ _ _ _ _ h
        exact ⟨_, _, _, hK, fun w0 R ρ a w hF hM Q hQ => wp_cond_true (hcond ρ a hF) (hs.code w0 R ρ a w hF hM Q hQ)⟩
    · exact absurd h (by simp)
  case block id b =>
    obtain ⟨o, fr1, M1, h, hs⟩ := hex _ _ _ _ _ h
    cases o with
    | normal => exact ⟨_, _, _, h, fun w0 R ρ a w hF hM Q hQ => wp_block (hs.code w0 R ρ a w hF hM _ fun ρ1 a1 w1 hle hF1 hM1 => hQ ρ1 a1 w1 hle hF1 hM1)⟩
    | ret => exact ⟨_, _, _, h, fun w0 R ρ a w hF hM Q hQ => wp_block (hs.code w0 R ρ a w hF hM _ fun ρ1 a1 w1 hle hF1 hM1 => hQ ρ1 a1 w1 hle hF1 hM1)⟩
    | exit j =>
      simp only at h
      rw [brec_tt] at h
      rcases h with ⟨hj, h⟩ | ⟨hj, h⟩
      · have hne : ¬ j = id := fun e => by rw [e, Nat.beq_refl] at hj; exact absurd hj (by simp)
        exact ⟨_, _, _, h, fun w0 R ρ a w hF hM Q hQ => wp_block (hs.code w0 R ρ a w hF hM _ fun ρ1 a1 w1 hle hF1 hM1 => by
          show (if j = id then Q .normal a1 w1 else Q (.exit j) a1 w1)
          rw [if_neg hne]
          exact hQ ρ1 a1 w1 hle hF1 hM1)⟩
      · have he : j = id := Nat.eq_of_beq_eq_true hj
        exact ⟨_, _, _, h, fun w0 R ρ a w hF hM Q hQ => wp_block (hs.code w0 R ρ a w hF hM _ fun ρ1 a1 w1 hle hF1 hM1 => by
          show (if j = id then Q .normal a1 w1 else Q (.exit j) a1 w1)
          rw [if_pos he]
          exact hQ ρ1 a1 w1 hle hF1 hM1)⟩
  case loop b =>
    obtain ⟨o, fr1, M1, h, hs⟩ := hex _ _ _ _ _ h
    cases o with
    | normal =>
      obtain ⟨o2, fr2, M2, hK, k, hs2⟩ := hex _ _ _ _ _ h
      refine ⟨o2, fr2, M2, hK, k + 1, fun w0 R ρ a w hF hM Q hQ => ?_⟩
      rw [rounds_succ]
      exact hs.code w0 R ρ a w hF hM _ fun ρ1 a1 w1 hle hF1 hM1 => hs2 w0 R ρ1 a1 w1 hF1 hM1 Q fun ρ2 a2 w2 hle2 => hQ ρ2 a2 w2 (hle.trans hle2)
    | ret =>
      refine ⟨_, _, _, h, 1, fun w0 R ρ a w hF hM Q hQ => ?_⟩
      rw [rounds_succ]
      exact hs.code w0 R ρ a w hF hM _ fun ρ1 a1 w1 hle hF1 hM1 => hQ ρ1 a1 w1 hle hF1 hM1
    | exit id =>
      refine ⟨_, _, _, h, 1, fun w0 R ρ a w hF hM Q hQ => ?_⟩
      rw [rounds_succ]
      exact hs.code w0 R ρ a w hF hM _ fun ρ1 a1 w1 hle hF1 hM1 => hQ ρ1 a1 w1 hle hF1 hM1
  case scope b =>
    obtain ⟨o, fr1, M1, h, hs⟩ := hex _ _ _ _ _ h
    refine ⟨_, _, _, h, fun w0 R ρ a w hF hM Q hQ => wp_scope_straight (hs.code w0 R ρ a w hF hM _ fun ρ1 a1 w1 hle hF1 hM1 => ?_)⟩
    have := hQ ρ1 a1 w1 hle hF1 hM1
    cases o <;> exact this

theorem exec_sound {P : Program} (hm : P.follows .mixedOrders = true) {X : FuncId → Option Ext} (hX : ∀ f x, X f = some x → ExtSpec P f x) : ∀ n, ExSound P (exec P X n) := by
  intro n
  induction n with
  | zero => intro nt c fr M K h; exact absurd h (by show ¬ (false = true); simp)
  | succ n ih => exact step_sound hm hX ih

/-- the empty memory, at the beginning of a run -/
theorem MRel.empty (w : World) (R : Nat → Prop) (hR : ∀ b, R b → b < w.heap.size) : MRel w R (fun _ => Option.none) ⟨.nil, 0⟩ w :=
  ⟨rfl, rfl, rfl, Nat.le_refl _, fun _ _ => rfl, hR, fun i b h => by simp [T.get_nil] at h, fun i j b c B x y h => by simp [T.get_nil] at h, fun i p h => by cases h⟩

/-- A CLOSED RUN: what the engine has run, the program does, in whatever world, whatever order its regions draw. -/
theorem run_sound {P : Program} (hm : P.follows .mixedOrders = true) {X : FuncId → Option Ext} (hX : ∀ f x, X f = some x → ExtSpec P f x) {n : Nat} {f : FuncId} {args : List AV} {K : AV → Mem → Bool} (h : Eng.run P X n f args K = true) :
    ∃ v M', K v M' = true ∧ CSim P f args ⟨.nil, 0⟩ v M' := callBody_sound hX (exec_sound hm hX n) f args ⟨.nil, 0⟩ K h

theorem MRel.below {w w' : World} {ρ : Env} {M : Mem} (h : MRel w (fun b => b < w.heap.size) ρ M w') : RowKit.Below w.heap.size w w' := ⟨h.os, h.tape, h.output, h.size, h.keep⟩

/-- A closed run that answers true. -/
theorem run_true {P : Program} (hm : P.follows .mixedOrders = true) {X : FuncId → Option Ext} (hX : ∀ f x, X f = some x → ExtSpec P f x) {n : Nat} {f : FuncId} {fn : Func} (hf : P.funcs[f]? = some fn) (hb : fn.body.isSome = true)
    (h : Eng.run P X n f [] (fun v _ => isTrue v) = true) (w : World) : Calls P f #[] w fun e w' => e = .returned (.bool true) ∧ RowKit.Below w.heap.size w w' := by
  obtain ⟨v, M', hv, hs⟩ := run_sound hm hX h
  rcases hs w (fun b => b < w.heap.size) (fun _ => none) w #[] (MRel.empty w _ (fun _ h => h)) .nil with ⟨ρ', cv, w', _, _, _, hr⟩ | ⟨_, hc⟩
  · exfalso
    obtain ⟨c, hc⟩ := Option.isSome_iff_exists.1 hb
    simp only [callFunc, Sem.run_bind, run_program, Result.andThen_ok, hf] at hr
    split at hr
    · cases hr
    · simp [hc] at hr
  · refine hc.mono ?_
    rintro e w' ⟨ρ', cv, _, rfl, hr, hM⟩
    refine ⟨?_, hM.below⟩
    cases hr <;> simp_all [isTrue]
end Go.Eng

/- A part of the proof over this seat's program: the checked evaluator and its soundness (E..), and what it gives here (the others). No condition. -/
import Derived.Test.YtnljmpeaeajcoaaGreatDoorG13
set_option linter.unusedSectionVars false
namespace Go.Eng
open Go
variable [Mode]

/-- what is known of a temporary -/
def OV (ρ : Env) (o : Option AV) (v : Value) : Prop := ∀ a, o = some a → VRel ρ a v
theorem OV.mono {ρ σ : Env} (h : ρ.le σ) {o : Option AV} {v : Value} (H : OV ρ o v) : OV σ o v := fun a e => (H a e).mono h
theorem OV.some {ρ : Env} {a : AV} {v : Value} (h : VRel ρ a v) : OV ρ (some a) v := fun b e => by cases e; exact h
/-- the frame is as the engine holds it -/
structure FRel (ρ : Env) (nt : Nat) (fr : Fr) (a : Act) : Prop where
  size : a.tmps.size = nt
  defers : a.defers = []
  rel : ∀ t, OV ρ (fr.get t) (a.tmps.getD t Go.undef)

theorem FRel.mono {ρ σ : Env} {nt : Nat} {fr : Fr} {a : Act} (h : ρ.le σ) (H : FRel ρ nt fr a) : FRel σ nt fr a := ⟨H.size, H.defers, fun t => (H.rel t).mono h⟩

theorem relX_of {ρ : Env} {fr : Fr} {a : Act} {x : Operand} (h : ∀ t, x = .tmp t → OV ρ (fr.get t) (a.tmps.getD t Go.undef)) : RelX ρ fr x (a.eval x) := by
  intro v hv
  cases x with
  | tmp t => exact h t rfl v hv
  | const v => exact ofVal_rel ρ hv
  | global g => cases hv
  | func f => obtain rfl := Option.some.inj hv; exact .func _ _ _ _ _ .nil .nil

theorem FRel.relX {ρ : Env} {nt : Nat} {fr : Fr} {a : Act} (H : FRel ρ nt fr a) (x : Operand) : RelX ρ fr x (a.eval x) := relX_of fun t _ => H.rel t

theorem putT_sound {nt : Nat} {dst : Option Tmp} {v : AV} {fr : Fr} {K : Fr → Bool} (h : putT nt dst v fr K = true) :
    ∃ fr', K fr' = true ∧ (∀ t, fr'.get t = if dst = some t then some v else fr.get t) ∧ (∀ d, dst = some d → d < nt) := by
  unfold putT at h
  split at h
  · exact ⟨fr, h, fun t => by simp, fun d e => by cases e⟩
  · rename_i d
    rw [brec_false] at h
    obtain ⟨hd, h⟩ := h
    obtain ⟨t', h, ht⟩ := T.set_spec _ _ _ _ h
    refine ⟨t', h, fun t => ?_, fun e he => by cases he; simpa [Nat.blt_eq] using hd⟩
    rw [ht]
    by_cases e : t = d
    · subst e; simp
    · have : ¬ (some d = some t) := fun h => e (Option.some.inj h).symm
      simp [e, this]

theorem FRel.put {ρ : Env} {nt : Nat} {fr fr' : Fr} {a : Act} {dst : Option Tmp} {v : AV} {cv : Value} (H : FRel ρ nt fr a) (hv : VRel ρ v cv) (hf : ∀ t, fr'.get t = if dst = some t then some v else fr.get t) (hd : ∀ d, dst = some d → d < nt) :
    FRel ρ nt fr' (a.put dst cv) := by
  cases dst with
  | none => exact ⟨H.size, H.defers, fun t => by rw [hf]; simpa [Act.put] using H.rel t⟩
  | some d =>
    refine ⟨by simp [Act.put, H.size], H.defers, fun t => ?_⟩
    rw [hf]
    have hlt : d < a.tmps.size := by rw [H.size]; exact hd d rfl
    by_cases e : d = t
    · subst e
      rw [if_pos rfl]
      simpa [Act.put, Array.getD_eq_getD_getElem?, hlt] using OV.some hv
    · have hne : ¬ (some d = some t) := fun h => e (Option.some.inj h)
      rw [if_neg hne]
      have := H.rel t
      simp only [Act.put, Array.getD_eq_getD_getElem?] at this ⊢
      rwa [Array.getElem?_setIfInBounds_ne e]

theorem wantK_sound {ops : Array Oper} {o : Oper} {fr : Fr} {K : Bool → Bool} (h : wantK ops o.guard fr K = true) :
    ∃ b, K b = true ∧ ∀ ρ (tmps : Array Value), (∀ t ∈ o.looksAt ops, OV ρ (fr.get t) (tmps.getD t Go.undef)) → Region.wanted o (yielded ops tmps) = b := by
  unfold wantK at h
  split at h
  · rename_i hg
    exact ⟨true, h, fun ρ tmps _ => by simp [Region.wanted, hg]⟩
  · rename_i j want hg
    split at h
    · rename_i hd
      exact ⟨false, h, fun ρ tmps _ => by simp [Region.wanted, hg, yielded, hd]⟩
    · rename_i d hd
      have hmem : d ∈ o.looksAt ops := by simp [Oper.looksAt, hg, hd]
      have hy : ∀ tmps : Array Value, yielded ops tmps j = match tmps[d]? with | some (.bool b) => some b | _ => none := fun tmps => by
        unfold yielded
        rw [hd]
        rfl
      split at h
      · rename_i b hb
        have key : ∀ ρ (tmps : Array Value), (∀ t ∈ o.looksAt ops, OV ρ (fr.get t) (tmps.getD t Go.undef)) → Region.wanted o (yielded ops tmps) = (b == want) := by
          intro ρ tmps hr
          have := hr d hmem _ hb
          rw [Array.getD_eq_getD_getElem?] at this
          have he : tmps[d]? = some (.bool b) := by
            cases hq : tmps[d]? with
            | none => rw [hq] at this; cases this
            | some q => rw [hq] at this; simp only [Option.getD_some] at this; cases this; rfl
          simp [Region.wanted, hg, hy, he]
        rw [brec_tt] at h
        rcases h with ⟨rfl, h⟩ | ⟨rfl, h⟩
        · exact ⟨!want, h, fun ρ tmps hr => by rw [key ρ tmps hr]; cases want <;> rfl⟩
        · exact ⟨want, h, fun ρ tmps hr => by rw [key ρ tmps hr]; cases want <;> rfl⟩
      · rename_i q0 hnb hq
        refine ⟨false, h, fun ρ tmps hr => ?_⟩
        have := hr d hmem _ hq
        have hne : ∀ b, tmps[d]? ≠ some (.bool b) := by
          intro b hb
          rw [Array.getD_eq_getD_getElem?, hb] at this
          simp only [Option.getD_some] at this
          cases this with
          | bool => exact hnb b rfl
          | dslice _ _ _ _ hd => cases hd
        cases hq : tmps[d]? with
        | none => simp [Region.wanted, hg, hy, hq]
        | some q => cases q <;> first | (exact absurd hq (hne _)) | simp [Region.wanted, hg, hy, hq]
      · exact absurd h (by simp)

theorem looks_operand {ops : Array Oper} {o : Oper} {t : Tmp} (h : Operand.tmp t ∈ o.op.operands) : t ∈ o.looksAt ops := by
  unfold Oper.looksAt
  refine List.mem_append_left _ (List.mem_filterMap.2 ⟨.tmp t, by simpa using h, rfl⟩)

/-! a region in the order of its text -/
theorem runOps_sound {P : Program} {call : FuncId → List AV → Mem → (AV → Mem → Bool) → Bool} (hcall : ∀ f args M K, call f args M K = true → ∃ v M', K v M' = true ∧ CSim P f args M v M')
    {nt : Nat} {ops : Array Oper} : ∀ (l : List Oper) (fr : Fr) (M : Mem) (K : Fr → Mem → Bool), runOps P call nt ops l fr M K = true →
      ∃ fr' M', K fr' M' = true ∧ ∀ w0 R ρ (a : Act) w, FRel ρ nt fr a → MRel w0 R ρ M w → ∀ Q : Exit → Act → World → Prop, (∀ ρ' a' w', ρ.le ρ' → FRel ρ' nt fr' a' → MRel w0 R ρ' M' w' → Q .normal a' w') → wpList P ops Q l a w := by
  intro l
  induction l with
  | nil => intro fr M K h; exact ⟨fr, M, h, fun w0 R ρ a w hF hM Q hQ => hQ ρ a w (.refl _) hF hM⟩
  | cons o l ih =>
    intro fr M K h
    change (wantK ops o.guard fr fun b => Bool.rec (motive := fun _ => Bool)
      (putT nt o.dst .undef fr fun fr => runOps P call nt ops l fr M K)
      (opK P call o.op fr M fun v M => putT nt o.dst v fr fun fr => runOps P call nt ops l fr M K) b) = true at h
    obtain ⟨b, h, hw⟩ := wantK_sound h
    cases b with
    | false =>
      obtain ⟨fr1, h, hp, hd⟩ := putT_sound h
      obtain ⟨fr', M', hK, H⟩ := ih _ _ _ h
      refine ⟨fr', M', hK, fun w0 R ρ a w hF hM Q hQ => ?_⟩
      have hwant := hw ρ a.tmps (fun t _ => hF.rel t)
      unfold wpList
      rw [hwant]
      exact H w0 R ρ _ w (hF.put .undef hp hd) hM Q hQ
    | true =>
      obtain ⟨v, M1, h, hs⟩ := opK_sound hcall h
      obtain ⟨fr1, h, hp, hd⟩ := putT_sound h
      obtain ⟨fr', M', hK, H⟩ := ih _ _ _ h
      refine ⟨fr', M', hK, fun w0 R ρ a w hF hM Q hQ => ?_⟩
      have hwant := hw ρ a.tmps (fun t _ => hF.rel t)
      unfold wpList
      rw [hwant]
      refine .inl (hs w0 R ρ a w hM (fun x _ => hF.relX x) _ Q fun ρ' cv w' hle hv hM' => ?_)
      exact H w0 R ρ' _ w' ((hF.mono hle).put hv hp hd) hM' Q fun ρ'' a' w'' hle' => hQ ρ'' a' w'' (hle.trans hle')
end Go.Eng

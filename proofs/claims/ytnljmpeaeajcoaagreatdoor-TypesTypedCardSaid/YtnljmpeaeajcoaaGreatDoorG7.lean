/- A part of the proof over this seat's program: the checked evaluator and its soundness (E..), and what it gives here (the others). No condition. -/
import Derived.Test.YtnljmpeaeajcoaaGreatDoorG6
import Derived.Laws.Build
set_option linter.unusedSectionVars false
namespace Go.Eng
open Go
variable [Mode]

/-- an operation that looks at no memory gives v, wherever its operands are as the engine holds them -/
def PureSim (P : Program) (o : Oper) (fr : Fr) (v : AV) : Prop :=
  ∀ ρ (vals : Operand → Value), (∀ x ∈ o.op.operands, RelX ρ fr x (vals x)) → ∃ cv, VRel ρ v cv ∧ ∀ w, (execOp vals o).run P w = .ok (.value cv) w

theorem relXsA {ρ : Env} {fr : Fr} {vals : Operand → Value} {l : Array Operand} {as : List AV} (hx : ∀ x ∈ l, RelX ρ fr x (vals x)) (h : l.toList.mapM (evD fr) = some as) : VsRel ρ as (l.map vals).toList := by
  rw [Array.toList_map]
  exact relXs (fun x hm => hx x (by simpa using hm)) h

theorem opPure_sound {P : Program} {o : Oper} {fr : Fr} {K : AV → Bool} (h : opPure P o.op fr K = true) : ∃ v, K v = true ∧ PureSim P o fr v := by
  obtain ⟨dst, op, type, pos, after, guard⟩ := o
  cases op <;> simp only [opPure] at h <;> try (exact Bool.noConfusion h)
  case move x =>
    rw [ev_iff] at h
    obtain ⟨a, ha, h⟩ := h
    exact ⟨a, h, fun ρ vals hx => ⟨vals x, hx x (by simp [Op.operands]) a ha, fun w => rfl⟩⟩
  case assign x =>
    rw [ev_iff] at h
    obtain ⟨a, ha, h⟩ := h
    exact ⟨a, h, fun ρ vals hx => ⟨vals x, hx x (by simp [Op.operands]) a ha, fun w => rfl⟩⟩
  case pick c x y =>
    rw [ev_iff] at h
    obtain ⟨a, ha, h⟩ := h
    split at h
    · rename_i b
      rw [brec_tt] at h
      rcases h with ⟨rfl, h⟩ | ⟨rfl, h⟩
      · rw [ev_iff] at h
        obtain ⟨v, hv, h⟩ := h
        refine ⟨v, h, fun ρ vals hx => ⟨vals y, hx y (by simp [Op.operands]) v hv, fun w => ?_⟩⟩
        have hc := hx c (by simp [Op.operands]) _ ha
        simp only [execOp]
        generalize vals c = z at hc ⊢
        cases hc
        simp [asBool]
      · rw [ev_iff] at h
        obtain ⟨v, hv, h⟩ := h
        refine ⟨v, h, fun ρ vals hx => ⟨vals x, hx x (by simp [Op.operands]) v hv, fun w => ?_⟩⟩
        have hc := hx c (by simp [Op.operands]) _ ha
        simp only [execOp]
        generalize vals c = z at hc ⊢
        cases hc
        simp [asBool]
    · exact absurd h (by simp)
  case build t parts =>
    obtain ⟨v, hK, H⟩ := buildA_sound h
    refine ⟨v, hK, fun ρ vals hx => ?_⟩
    obtain ⟨cv, hr, H⟩ := H ρ vals (fun p hp => hx p.2 (by simp only [Op.operands]; exact List.mem_toArray.2 (List.mem_map.2 ⟨p, hp, rfl⟩)))
    refine ⟨cv, hr, fun w => ?_⟩
    have e : (parts.map fun (x : Nat × Operand) => (x.1, vals x.2)) = (parts.toList.map fun p => (p.1, vals p.2)).toArray := by
      apply Array.ext'
      simp
    simp only [execOp, Sem.run_bind]
    have e2 : (parts.map fun x => match x with | (i, x) => (i, vals x)) = (parts.toList.map fun p => (p.1, vals p.2)).toArray := e
    rw [e2, H w]
    rfl
  case nilCheck x =>
    rw [ev_iff] at h
    obtain ⟨a, ha, h⟩ := h
    split at h
    · rename_i b off
      refine ⟨_, h, fun ρ vals hx => ⟨vals x, hx x (by simp [Op.operands]) _ ha, fun w => ?_⟩⟩
      have hc := hx x (by simp [Op.operands]) _ ha
      simp only [execOp]
      generalize vals x = z at hc ⊢
      cases hc
      simp
    · rename_i c off
      refine ⟨_, h, fun ρ vals hx => ⟨vals x, hx x (by simp [Op.operands]) _ ha, fun w => ?_⟩⟩
      have hc := hx x (by simp [Op.operands]) _ ha
      simp only [execOp]
      generalize vals x = z at hc ⊢
      cases hc
      simp
    · rename_i t v
      refine ⟨_, h, fun ρ vals hx => ⟨vals x, hx x (by simp [Op.operands]) _ ha, fun w => ?_⟩⟩
      have hc := hx x (by simp [Op.operands]) _ ha
      simp only [execOp]
      generalize vals x = z at hc ⊢
      cases hc
      simp
    · exact absurd h (by simp)
  case binOp op t x y t2 =>
    rw [ev_iff] at h
    obtain ⟨a, ha, h⟩ := h
    rw [ev_iff] at h
    obtain ⟨b, hb, h⟩ := h
    obtain ⟨v, hK, H⟩ := binA_sound h
    refine ⟨v, hK, fun ρ vals hx => ?_⟩
    obtain ⟨cv, hr, H⟩ := H ρ _ _ (hx x (by simp [Op.operands]) _ ha) (hx y (by simp [Op.operands]) _ hb)
    refine ⟨cv, hr, fun w => ?_⟩
    have e : execOp vals ⟨dst, .binOp op t x y t2, type, pos, after, guard⟩ = (do let r ← (do eqGuard op t x y (vals x) (vals y); binOp op t (vals x) (vals y) : Sem Value); pure (.value r) : Sem Next) := rfl
    rw [e, Sem.run_bind, H x y w]
    rfl
  case unOp op t x =>
    rw [ev_iff] at h
    obtain ⟨a, ha, h⟩ := h
    obtain ⟨v, hK, H⟩ := unA_sound (P := P) h
    refine ⟨v, hK, fun ρ vals hx => ?_⟩
    obtain ⟨cv, hr, H⟩ := H ρ _ (hx x (by simp [Op.operands]) _ ha)
    exact ⟨cv, hr, fun w => by simp only [execOp, Sem.run_bind, H w, Result.andThen_ok, Sem.run_pure]⟩
  case convert s d x =>
    rw [ev_iff] at h
    obtain ⟨a, ha, h⟩ := h
    obtain ⟨v, hK, H⟩ := convPure_sound (P := P) h
    refine ⟨v, hK, fun ρ vals hx => ?_⟩
    obtain ⟨cv, hr, H⟩ := H ρ _ (hx x (by simp [Op.operands]) _ ha)
    exact ⟨cv, hr, fun w => by simp only [execOp, Sem.run_bind, H w, Result.andThen_ok, Sem.run_pure]⟩
  case makeInterface t x =>
    rw [ev_iff] at h
    obtain ⟨a, ha, h⟩ := h
    split at h
    · exact absurd h (by simp)
    · rename_i d hd hu
      refine ⟨_, h, fun ρ vals hx => ⟨_, .iface t a (vals x) (hx x (by simp [Op.operands]) _ ha), fun w => ?_⟩⟩
      have : P.concrete t = true := by
        unfold Program.concrete
        rw [hu]
        cases d <;> first | rfl | exact absurd rfl (hd _)
      simp only [execOp, Sem.run_bind, run_makeInterface w t (vals x) this, Result.andThen_ok, Sem.run_pure]
    · exact absurd h (by simp)
  case makeFunc fn first cap =>
    rw [evs_iff] at h
    obtain ⟨as, ha, h⟩ := h
    rw [evs_iff] at h
    obtain ⟨bs, hb, h⟩ := h
    refine ⟨_, h, fun ρ vals hx => ⟨.func fn (first.map vals) (cap.map vals), .func _ _ _ _ _ (relXsA (fun x hm => hx x (by simp [Op.operands, hm])) ha) (relXsA (fun x hm => hx x (by simp [Op.operands, hm])) hb), fun w => ?_⟩⟩
    simp [execOp, Instr.makeFunc]
  case slice t x lo hi mx =>
    split at h
    · rw [ev_iff] at h
      obtain ⟨a, ha, h⟩ := h
      obtain ⟨v, hK, H⟩ := sliceA_sound h
      refine ⟨v, hK, fun ρ vals hx => ?_⟩
      obtain ⟨cv, hr, H⟩ := H ρ vals _ (hx x (by simp [Op.operands]) _ ha) (fun y e => by subst e; exact hx y (by simp [Op.operands])) (fun y e => by subst e; exact hx y (by simp [Op.operands]))
      exact ⟨cv, hr, fun w => by simp only [execOp, Sem.run_bind, Option.map_none, H w, Result.andThen_ok, Sem.run_pure]⟩
    · exact absurd h (by simp)
  case fieldAddr s x f =>
    rw [ev_iff] at h
    obtain ⟨a, ha, h⟩ := h
    obtain ⟨v, hK, H⟩ := fieldAddrA_sound h
    refine ⟨v, hK, fun ρ vals hx => ?_⟩
    obtain ⟨cv, hr, H⟩ := H ρ _ (hx x (by simp [Op.operands]) _ ha)
    exact ⟨cv, hr, fun w => by simp only [execOp, Sem.run_bind, H w, Result.andThen_ok, Sem.run_pure]⟩
  case field s x f =>
    rw [ev_iff] at h
    obtain ⟨a, ha, h⟩ := h
    obtain ⟨v, hK, H⟩ := fieldA_sound h
    refine ⟨v, hK, fun ρ vals hx => ?_⟩
    obtain ⟨cv, hr, H⟩ := H ρ _ (hx x (by simp [Op.operands]) _ ha)
    exact ⟨cv, hr, fun w => by simp only [execOp, Sem.run_bind, H w, Result.andThen_ok, Sem.run_pure]⟩
  case indexAddr t x ix =>
    rw [ev_iff] at h
    obtain ⟨a, ha, h⟩ := h
    rw [ev_iff] at h
    obtain ⟨b, hb, h⟩ := h
    obtain ⟨v, hK, H⟩ := indexAddrA_sound h
    refine ⟨v, hK, fun ρ vals hx => ?_⟩
    obtain ⟨cv, hr, H⟩ := H ρ _ _ (hx x (by simp [Op.operands]) _ ha) (hx ix (by simp [Op.operands]) _ hb)
    exact ⟨cv, hr, fun w => by simp only [execOp, Sem.run_bind, H w, Result.andThen_ok, Sem.run_pure]⟩
  case index t x ix =>
    rw [ev_iff] at h
    obtain ⟨a, ha, h⟩ := h
    rw [ev_iff] at h
    obtain ⟨b, hb, h⟩ := h
    obtain ⟨v, hK, H⟩ := indexA_sound h
    refine ⟨v, hK, fun ρ vals hx => ?_⟩
    obtain ⟨cv, hr, H⟩ := H ρ _ _ (hx x (by simp [Op.operands]) _ ha) (hx ix (by simp [Op.operands]) _ hb)
    exact ⟨cv, hr, fun w => by simp only [execOp, Sem.run_bind, H w, Result.andThen_ok, Sem.run_pure]⟩
  case extract x i =>
    rw [ev_iff] at h
    obtain ⟨a, ha, h⟩ := h
    split at h
    · rename_i l
      rw [dropK_iff] at h
      obtain ⟨h1, h⟩ := h
      rw [headK_iff] at h
      obtain ⟨b, r, hd, h⟩ := h
      refine ⟨b, h, fun ρ vals hx => ?_⟩
      have hc := hx x (by simp [Op.operands]) _ ha
      simp only [execOp]
      generalize vals x = z at hc ⊢
      cases hc with
      | tuple _ vs hs =>
        have hget : l[i]? = some b := by
          have : (l.drop i)[0]? = some b := by rw [hd]; rfl
          simpa using this
        obtain ⟨v, hv, hr⟩ := hs.get' hget
        have hv' : vs[i]? = some v := by simpa using hv
        exact ⟨v, hr, fun w => by simp [Instr.extract, hv']⟩
    · exact absurd h (by simp)
  case call c =>
    obtain ⟨callee, args, argTypes⟩ := c
    cases callee <;> simp only at h <;> try (exact Bool.noConfusion h)
    case builtin b =>
      cases b <;> simp only at h <;> try (exact Bool.noConfusion h)
      case len =>
        split at h
        · rename_i t ht
          rw [evs_iff] at h
          obtain ⟨as, ha, h⟩ := h
          rw [headK_iff] at h
          obtain ⟨a, r, rfl, h⟩ := h
          obtain ⟨v, hK, H⟩ := lenPure_sound ht type h
          refine ⟨v, hK, fun ρ vals hx => ?_⟩
          have hr := relXsA (fun x hm => hx x (by simp [Op.operands, Call.operands, hm])) ha
          obtain ⟨ca, hca, hra⟩ := hr.get' (i := 0) rfl
          obtain ⟨cv, hcv, H⟩ := H ρ ca (args.map vals) hra (by simpa using hca)
          exact ⟨cv, hcv, fun w => by simp [execOp, resolve, invoke, builtin, H w]⟩
        · exact Bool.noConfusion h
      case max =>
        rw [evs_iff] at h
        obtain ⟨as, ha, h⟩ := h
        split at h
        · exact Bool.noConfusion h
        · rename_i a r
          obtain ⟨v, hK, H⟩ := min_sound (P := P) true r a K h
          refine ⟨v, hK, fun ρ vals hx => ?_⟩
          have hr := relXsA (fun x hm => hx x (by simp [Op.operands, Call.operands, hm])) ha
          generalize hl : (args.map vals).toList = cl at hr
          cases hr with
          | cons _ ca _ cr hra hrs =>
            obtain ⟨cv, hcv, H⟩ := H ρ ca cr hra hrs
            refine ⟨cv, hcv, fun w => ?_⟩
            have H' := H w
            simp only [if_true] at H'
            simp only [execOp, resolve, invoke, builtin, Sem.run_bind, Sem.run_pure, Result.andThen_ok, Builtin.max_, hl, H']
      case min =>
        rw [evs_iff] at h
        obtain ⟨as, ha, h⟩ := h
        split at h
        · exact Bool.noConfusion h
        · rename_i a r
          obtain ⟨v, hK, H⟩ := min_sound (P := P) false r a K h
          refine ⟨v, hK, fun ρ vals hx => ?_⟩
          have hr := relXsA (fun x hm => hx x (by simp [Op.operands, Call.operands, hm])) ha
          generalize hl : (args.map vals).toList = cl at hr
          cases hr with
          | cons _ ca _ cr hra hrs =>
            obtain ⟨cv, hcv, H⟩ := H ρ ca cr hra hrs
            refine ⟨cv, hcv, fun w => ?_⟩
            have H' := H w
            simp only [Bool.false_eq_true, if_false] at H'
            simp only [execOp, resolve, invoke, builtin, Sem.run_bind, Sem.run_pure, Result.andThen_ok, Builtin.min_, hl, H']
end Go.Eng

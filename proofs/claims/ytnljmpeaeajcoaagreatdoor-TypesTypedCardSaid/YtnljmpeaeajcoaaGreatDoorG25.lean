/- A part of the proof over this seat's program: the checked evaluator and its soundness (E..), and what it gives here (the others). No condition. -/
import Derived.Test.YtnljmpeaeajcoaaGreatDoorG24
set_option linter.unusedSectionVars false
namespace Go.Eng
open Go
variable [Mode]

theorem args_ren {ρ : Env} {β : List Nat} : ∀ {l m : List AV} {vs : List Value}, mapO (renT β) l = some m → VsRel ρ m vs → VsRel (ρ.ren β) l vs := fun h hv => renL_rel (fun _ _ _ => renT_rel) h hv
theorem data_rel {ρ σ : Env} (hz : ρ.z.le σ.z) {l : List Dat} {vs : List Value} (h : VsRel ρ (toAVs l) vs) : VsRel σ (toAVs l) vs := by
  induction l generalizing vs with
  | nil => cases h; exact .nil
  | cons d l ih =>
    change VsRel ρ (toAV d :: toAVs l) vs at h
    cases h with
    | cons _ v _ vs e es => exact .cons _ _ _ _ (DRel.toAV ((toAV_inv e).mono hz)) (ih es)

/-- THE LAW: a function whose code ends as it should, from a frame of its arguments and a memory of the rows that come by pointers -/
theorem BSim.of_W {P : Program} {f : FuncId} {fn : Func} {c : Code} (hf : P.funcs[f]? = some fn) (hb : fn.body = some c) (hname : (fn.name == "runtime.NumGoroutine") = false)
    {args0 : List AV} {rows0 rows1 : List (List Dat)} {ans : AV} (hlen : args0.length ≤ fn.ntmps) (hrows : rows1.length = rows0.length)
    (h : W P fn.ntmps rows0.length c (mkFr (argSlots args0 0)) (mkMem (rowsOf rows0)) (Fin P fn rows0.length rows1 ans)) : BSim P f args0 rows0 rows1 ans := by
  intro β args hβ hn hargs M M' hU w0 R ρ w cargs hM hv
  obtain ⟨hnx, hat, hoff⟩ := Ups.spec β rows0 rows1 M M' hβ hrows hn hU
  have hne : ¬ fn.name = "runtime.NumGoroutine" := by simpa using hname
  refine .inr ⟨by simp [callFunc, hf, hne, hb], calls_of_wp hf hb ?_⟩
  obtain ⟨o, fr', M1, ⟨ho, vs, hres, hfz, hbox⟩, hsim⟩ := h
  -- the rows that come by pointers
  have hbx : ∀ (j b : Nat), β[j]? = some b → ∃ r s sz B x arr t, rows0[j]? = some r ∧ rows1[j]? = some s ∧ M.t.get b = some (.row (toAVs r) false sz) ∧ M'.t.get b = some (.row (toAVs s) false sz) ∧ ρ b = some (B, x) ∧ ¬ R B ∧
      w.heap[B]? = some (.cells arr t (0, 0)) ∧ VsRel ρ (toAVs r) (arr.toList.take (toAVs r).length) ∧ arr.size = (toAVs r).length := by
    intro j b hj
    have hjl : j < rows0.length := by rw [← hβ]; exact (List.getElem?_eq_some_iff.1 hj).1
    have hr0 : rows0[j]? = some rows0[j] := List.getElem?_eq_getElem hjl
    have hr1 : rows1[j]? = some (rows1[j]'(by omega)) := List.getElem?_eq_getElem (by omega)
    obtain ⟨sz, g1, g2⟩ := hat j b _ _ hj hr0 hr1
    obtain ⟨B, x, ob, hr, hRB, hob, hO⟩ := hM.blk b _ g1 (by simp)
    unfold ORel at hO
    cases ob <;> simp only at hO
    case cells arr t fz =>
      obtain ⟨h1, h2, rfl⟩ := hO
      exact ⟨_, _, sz, B, x, arr, t, hr0, hr1, g1, g2, hr, hRB, hob, h1, by simpa using h2⟩
  -- where the run begins
  let isBox : Nat → Prop := fun B => ∃ (j b x : Nat), β[j]? = some b ∧ ρ b = some (B, x)
  let R1 : Nat → Prop := fun B => B < w.heap.size ∧ ¬ isBox B
  let ρ1 : Env := { (ρ.ren β) with base := w.heap.size }
  have hrow0 : ∀ (j : Nat) (b : Blk), (mkMem (rowsOf rows0)).t.get j = some b → ∃ r, rows0[j]? = some r ∧ b = .row (toAVs r) false 1 ∧ ∃ i, β[j]? = some i := by
    intro j b hj
    rw [mkMem_get] at hj
    simp only [rowsOf, List.getElem?_map] at hj
    cases hr0 : rows0[j]? with
    | none => rw [hr0] at hj; cases hj
    | some r =>
      rw [hr0] at hj
      have hjl : j < β.length := by rw [hβ]; exact (List.getElem?_eq_some_iff.1 hr0).1
      exact ⟨r, rfl, (Option.some.inj hj).symm, _, List.getElem?_eq_getElem hjl⟩
  have hMb : MRel w R1 ρ1 (mkMem (rowsOf rows0)) w := by
    refine ⟨rfl, rfl, rfl, Nat.le_refl _, fun _ _ => rfl, fun b hb => hb.1, fun j b hj hd => ?_, fun j j' b c B x y hj hd hj' he e1 e2 => ?_, fun j p e => ?_, hM.zok, fun j b B x hj hd e => ?_, Nat.le_refl _⟩
    · obtain ⟨r, hr0, rfl, i, hjb⟩ := hrow0 j b hj
      obtain ⟨r', s, sz, B, x, arr, t, g1, g2, g3, g4, g5, g6, g7, g8, g9⟩ := hbx j _ hjb
      rw [hr0] at g1
      obtain rfl := Option.some.inj g1
      refine ⟨B, x, _, (ren_at hjb).trans g5, fun hR1 => hR1.2 ⟨j, _, x, hjb, g5⟩, g7, data_rel (ρ := ρ) (σ := ρ1) (fun _ _ h => h) g8, by simpa using g9, rfl⟩
    · obtain ⟨r, hr0, rfl, i, hjb⟩ := hrow0 j b hj
      obtain ⟨r', hr0', rfl, i', hjb'⟩ := hrow0 j' c hj'
      change (ρ.ren β) j = _ at e1
      change (ρ.ren β) j' = _ at e2
      rw [ren_at hjb] at e1
      rw [ren_at hjb'] at e2
      obtain ⟨_, _, _, _, _, _, _, _, _, g3, _⟩ := hbx j _ hjb
      obtain ⟨_, _, _, _, _, _, _, _, _, g3', _⟩ := hbx j' _ hjb'
      have := hM.inj i i' _ _ B x y g3 (by simp) g3' (by simp) e1 e2
      subst this
      obtain ⟨l1, q1⟩ := List.getElem?_eq_some_iff.1 hjb
      obtain ⟨l2, q2⟩ := List.getElem?_eq_some_iff.1 hjb'
      have hpw := List.pairwise_iff_getElem.1 hn
      rcases Nat.lt_trichotomy j j' with hlt | he' | hlt
      · exact absurd (q1.trans q2.symm) (hpw j j' l1 l2 hlt)
      · exact he'
      · exact absurd (q2.trans q1.symm) (hpw j' j l2 l1 hlt)
    · show j < lenL (rowsOf rows0)
      rw [lenL_eq]
      change (match β[j]? with | .some i => ρ i | .none => .none) = some p at e
      cases hj : β[j]? with
      | none => rw [hj] at e; cases e
      | some i => have := (List.getElem?_eq_some_iff.1 hj).1; simp [rowsOf]; omega
    · obtain ⟨r, hr0, rfl, i, hjb⟩ := hrow0 j b hj
      change (ρ.ren β) j = _ at e
      rw [ren_at hjb] at e
      obtain ⟨_, _, _, _, _, _, _, _, _, g3, _⟩ := hbx j _ hjb
      exact hM.zsep i _ B x g3 (by simp) e
  have hvr : VsRel ρ1 args0 cargs.toList := VsRel.sub (ρ := ρ.ren β) (σ := ρ1) ⟨fun _ _ h => h, fun _ _ h => h⟩ (args_ren hargs hv)
  have hcl : cargs.size = args0.length := by have := hvr.length; simpa using this.symm
  have hF1 : FRel ρ1 fn.ntmps (mkFr (argSlots args0 0)) { tmps := cargs ++ Array.replicate (fn.ntmps - cargs.size) Go.undef, defers := [] } := by
    refine ⟨by simp; omega, rfl, fun t a ha => ?_⟩
    obtain ⟨_, h2⟩ := argSlots_mem _ _ _ _ (mkFr_get _ _ _ ha)
    obtain ⟨v, hv', hr⟩ := hvr.get' h2
    have hlt : t < cargs.size := by have := (List.getElem?_eq_some_iff.1 h2).1; omega
    have : (cargs ++ Array.replicate (fn.ntmps - cargs.size) Go.undef).getD t Go.undef = v := by
      rw [Array.getD_eq_getD_getElem?, Array.getElem?_append_left hlt]
      simp at hv'
      simp [hv']
    rw [this]; exact hr
  refine hsim w R1 ρ1 _ w hF1 hMb _ fun ρ' a' w' hz hF hM' => ?_
  -- its answer
  obtain ⟨vs', hvs, H⟩ := resK_sound _ _ hres
  obtain rfl : vs' = vs := pdec_iff.1 hvs
  obtain ⟨cvs, hcv, hrun⟩ := H w R1 ρ' a' w' _ hF hM'
  have hresults : (results fn a'.tmps).run P w' = .ok (if h : cvs.toArray.size = 1 then cvs.toArray[0] else .tuple cvs.toArray) w' := by
    unfold results
    rw [Array.mapM_eq_mapM_toList]
    simp only [Sem.run_bind, Sem.run_map]
    refine Eq.trans (congrArg (fun r : Result (List Value) => ((Result.andThen r (fun a w' => Result.ok a.toArray w')).andThen fun a w' => Sem.run P (pure (if h : a.size = 1 then a[0] else Value.tuple a)) w')) hrun) ?_
    simp only [Result.andThen_ok, Sem.run_pure]
  have hval : VRel ρ' (oneOf vs') (if h : cvs.toArray.size = 1 then cvs.toArray[0] else .tuple cvs.toArray) := by
    unfold oneOf
    split
    · cases hcv with
      | cons _ cv _ _ h1 h2 => cases h2; simpa using h1
    · rename_i hne
      have hl := hcv.length
      have : ¬ cvs.toArray.size = 1 := by
        intro e
        simp at e
        cases vs' with
        | nil => simp at hl; omega
        | cons x r =>
          cases r with
          | nil => exact hne x rfl
          | cons y r => simp at hl; omega
      rw [dif_neg this]
      exact .tuple _ _ (by simpa using hcv)
  -- what stands still from here
  let σ : Env := ⟨ρ.m, stillOf rows0.length ρ' M1 w', ρ.base⟩
  have hans : VRel σ ans _ := hfz.rel hM' (σ := σ) rfl hval
  have hboxlt : ∀ B, isBox B → B < w.heap.size := by
    rintro B ⟨j, b, x, hj, hr⟩
    obtain ⟨_, _, _, B', x', arr, t, _, _, _, _, g5, _, g7, _⟩ := hbx j b hj
    rw [hr] at g5
    obtain ⟨rfl, rfl⟩ := Prod.mk.inj (Option.some.inj g5)
    exact (Array.getElem?_eq_some_iff.1 g7).1
  have hbox' : ∀ (j b B x : Nat), β[j]? = some b → ρ b = some (B, x) → ∃ r s c sz sz', rows0[j]? = some r ∧ rows1[j]? = some s ∧ M'.t.get b = some (.row (toAVs s) false sz) ∧ M1.t.get j = some (.row c false sz') ∧ FzDs rows0.length M1 c s ∧ ρ' j = some (B, x) := by
    intro j b B x hj hr
    obtain ⟨r, s, sz, B', x', arr, t, g1, g2, g3, g4, g5, _⟩ := hbx j b hj
    obtain ⟨c, sz', h1, h2⟩ := hbox j s g2
    have hjk : j < rows0.length := (List.getElem?_eq_some_iff.1 g1).1
    exact ⟨r, s, c, sz, sz', g1, g2, g4, h1, h2, hz.m j _ hjk ((ren_at hj).trans hr)⟩
  have hLives : ∀ B, Lives rows0.length ρ' M1 B → w.heap.size ≤ B := by
    rintro B ⟨i, c, op, sz, x, hk, hb, hr⟩
    obtain ⟨B', x', o', hr', hR, _, _⟩ := hM'.blk i _ hb (by simp)
    rw [hr] at hr'
    obtain ⟨rfl, rfl⟩ := Prod.mk.inj (Option.some.inj hr')
    rcases Nat.lt_or_ge B w.heap.size with hlt | hge
    · exfalso
      refine hR ⟨hlt, ?_⟩
      rintro ⟨j, b, y, hj, hrb⟩
      obtain ⟨r, s, c', sz1, sz2, g1, g2, g3, g4, g5, g6⟩ := hbox' j b B y hj hrb
      have := hM'.inj i j _ _ B x y hb (by simp) g4 (by simp) hr g6
      have hjk : j < rows0.length := (List.getElem?_eq_some_iff.1 g1).1
      omega
    · exact hge
  have hnewz : ∀ B l, σ.z B = some l → ρ.z B = some l ∨ w.heap.size ≤ B := by
    intro B l hzB
    rcases still_inv hzB with ⟨hl, _⟩ | h1
    · exact .inr (hLives B hl)
    · rcases hz.new B l h1 with h2 | h2 | ⟨j, x, h2⟩
      · exact .inl h2
      · exact .inr h2
      · exfalso
        change (match β[j]? with | .some i => ρ i | .none => .none) = some (B, x) at h2
        cases hj : β[j]? with
        | none => rw [hj] at h2; cases h2
        | some b =>
          rw [hj] at h2
          obtain ⟨r, s, c, sz, sz', g1, g2, g3, g4, g5, g6⟩ := hbox' j b B x hj h2
          rw [hM'.zsep j _ B x g4 (by simp) g6] at h1
          cases h1
  have hle : ρ.le σ := ⟨fun _ _ h => h, fun B l e => still_ge hM' B l (hz.z B l e), rfl, fun B l e => by
    rcases hnewz B l e with h1 | h1
    · exact .inl h1
    · exact .inr (.inl (Nat.le_trans hM.base h1)), fun i p e => .inr ⟨i, p.2, e⟩⟩
  have hMi : ∀ (i : Nat) (b : Blk), M'.t.get i = some b → b ≠ .dead → ∃ c, M.t.get i = some c ∧ c ≠ .dead := by
    intro i b hi hd
    by_cases hin : i ∈ β
    · obtain ⟨j, hj⟩ := List.getElem?_of_mem hin
      obtain ⟨_, _, _, _, _, _, _, _, _, g3, _⟩ := hbx j i hj
      exact ⟨_, g3, by simp⟩
    · rw [hoff i hin] at hi; exact ⟨b, hi, hd⟩
  have hMR : MRel w0 R σ M' w' := by
    refine ⟨hM'.os.trans hM.os, hM'.tape.trans hM.tape, hM'.output.trans hM.output, Nat.le_trans hM.size hM'.size, fun b hb => ?_, hM.rlt, fun i b hi hd => ?_, fun i j b c B x y hi hd hj he e1 e2 => ?_, fun i p e => ?_, fun B l e => ?_, fun i b B x hi hd e => ?_, Nat.le_trans hM.base hM'.size⟩
    · have h1 : R1 b := by
        refine ⟨Nat.lt_of_lt_of_le (hM.rlt b hb) hM.size, ?_⟩
        rintro ⟨j, b', x, hj, hr⟩
        obtain ⟨_, _, _, B', x', arr, t, _, _, _, _, g5, g6, _⟩ := hbx j b' hj
        rw [hr] at g5
        obtain ⟨rfl, rfl⟩ := Prod.mk.inj (Option.some.inj g5)
        exact g6 hb
      exact (hM'.keep b h1).trans (hM.keep b hb)
    · by_cases hin : i ∈ β
      · obtain ⟨j, hj⟩ := List.getElem?_of_mem hin
        obtain ⟨r, s, sz, B, x, arr, t, g1, g2, g3, g4, g5, g6, g7, g8, g9⟩ := hbx j i hj
        obtain ⟨r', s', c, sz1, sz2, k1, k2, k3, k4, k5, k6⟩ := hbox' j i B x hj g5
        rw [g2] at k2
        obtain rfl := Option.some.inj k2
        rw [g4] at hi
        obtain rfl := Option.some.inj hi
        obtain ⟨arr', t', ho, hv', hsz⟩ := hM'.row k4 k6
        have hd' := (k5.rel hM' hv').toAVs (ρ := σ)
        have hll : (toAVs s).length = c.length := by rw [toAVs_length]; exact k5.length.symm
        refine ⟨B, x, _, g5, g6, ho, ?_⟩
        refine ⟨by rw [hll]; exact hd', by rw [hll]; simpa using hsz, rfl⟩
      · rw [hoff i hin] at hi
        obtain ⟨B, x, ob, hr, hRB, hob, hO⟩ := hM.blk i b hi hd
        refine ⟨B, x, ob, hr, hRB, ?_, hO.mono hle⟩
        rw [hM'.keep B ⟨(Array.getElem?_eq_some_iff.1 hob).1, ?_⟩]
        · exact hob
        · rintro ⟨j, b', y, hj, hrb⟩
          obtain ⟨_, _, _, _, _, _, _, _, _, g3, _⟩ := hbx j b' hj
          have := hM.inj i b' b _ B x y hi hd g3 (by simp) hr hrb
          subst this
          exact hin (List.mem_of_getElem? hj)
    · obtain ⟨b', h1, h2⟩ := hMi i b hi hd
      obtain ⟨c', h3, h4⟩ := hMi j c hj he
      exact hM.inj i j b' c' B x y h1 h2 h3 h4 e1 e2
    · rw [hnx]; exact hM.fresh i p e
    · rcases still_inv e with ⟨⟨i, c, op, sz, x, hk, hb, hr⟩, arr, t, f, ho, rfl⟩ | h1
      · obtain ⟨arr', t', ho', _⟩ := hM'.row hb hr
        have e0 := Option.some.inj (ho.symm.trans ho')
        have e1 : arr = arr' := by injection e0
        subst e1
        exact ⟨arr, t', _, ho', List.take_length⟩
      · exact hM'.zok B l h1
    · obtain ⟨b', h1, h2⟩ := hMi i b hi hd
      have hlt := hM.lt h1 h2 e
      cases hzB : σ.z B with
      | none => rfl
      | some l =>
        rcases hnewz B l hzB with h3 | h3
        · rw [hM.zsep i b' B x h1 h2 e] at h3; cases h3
        · omega
  have hpost : a'.defers = [] ∧ ∃ v, (results fn a'.tmps).run P w' = .ok v w' ∧ ∃ ρ'' cv, ρ.le ρ'' ∧ Ending.returned v = .returned cv ∧ VRel ρ'' ans cv ∧ MRel w0 R ρ'' M' w' := ⟨hF.defers, _, hresults, σ, _, hle, rfl, hans, hMR⟩
  rcases ho with rfl | rfl
  · exact hpost
  · exact hpost
end Go.Eng

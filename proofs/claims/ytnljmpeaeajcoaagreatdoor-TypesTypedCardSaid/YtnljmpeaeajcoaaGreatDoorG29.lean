/- A part of the proof over this seat's program: the checked evaluator and its soundness (E..), and what it gives here (the others). No condition. -/
import Derived.Test.YtnljmpeaeajcoaaGreatDoorG28
set_option linter.unusedSectionVars false
namespace Go.Eng
open Go
variable [Mode]

/-! THE SAME WITH ROWS THAT HOLD POINTERS TO ONE ANOTHER, or functions that have captured them -/
inductive FzC (k : Nat) (M : Mem) : AV → AV → Prop
  | dat (a : AV) (d : Dat) (h : FzD k M a d) : FzC k M a (toAV d)
  | ptr (i o : Nat) (hi : i < k) : FzC k M (.ptr i o) (.ptr i o)
inductive FzCs (k : Nat) (M : Mem) : List AV → List AV → Prop
  | nil : FzCs k M [] []
  | cons (a b : AV) (l m : List AV) (h : FzC k M a b) (hs : FzCs k M l m) : FzCs k M (a :: l) (b :: m)
inductive FzB (k : Nat) (M : Mem) : AV → AV → Prop
  | cell (a b : AV) (h : FzC k M a b) : FzB k M a b
  | func (f : Fn) (l m l' m' : List AV) (h : FzCs k M l l') (h' : FzCs k M m m') : FzB k M (.func f l m) (.func f l' m')
inductive FzBs (k : Nat) (M : Mem) : List AV → List AV → Prop
  | nil : FzBs k M [] []
  | cons (a b : AV) (l m : List AV) (h : FzB k M a b) (hs : FzBs k M l m) : FzBs k M (a :: l) (b :: m)
theorem FzBs.length {k : Nat} {M : Mem} {l m : List AV} (h : FzBs k M l m) : l.length = m.length := by
  induction h with
  | nil => rfl
  | cons a b l m h hs ih => simp [ih]
theorem ren1_toAV (β : List Nat) (d : Dat) : ren1 β (toAV d) = some (toAV d) := by cases d <;> rfl
theorem renA_of_ren1 {β : List Nat} {a b : AV} (h : ren1 β a = some b) : renA β a = some b := by
  cases a <;> first | exact h | (exact absurd h (by simp [ren1]))
section
variable {k : Nat} {w0 : World} {R : Nat → Prop} {ρ σ : Env} {M : Mem} {w : World} {β : List Nat}
theorem FzC.rel (h : MRel w0 R ρ M w) (hσ : σ.z = stillOf k ρ M w) (hβ : ∀ i b p, i < k → β[i]? = some b → ρ i = some p → σ b = some p) {a b b' : AV} (hf : FzC k M a b) (hr : ren1 β b = some b') {v : Value} (hv : VRel ρ a v) : VRel σ b' v := by
  cases hf with
  | dat _ d hd =>
    rw [ren1_toAV] at hr
    obtain rfl := Option.some.inj hr
    exact DRel.toAV (by rw [hσ]; exact hd.rel h hv)
  | ptr i o hi =>
    simp only [ren1] at hr
    split at hr
    · rename_i b hb
      obtain rfl := Option.some.inj hr
      cases hv with
      | ptr _ _ B x e => exact .ptr _ _ B x (hβ i b _ hi hb e)
    · cases hr
theorem FzCs.rel (h : MRel w0 R ρ M w) (hσ : σ.z = stillOf k ρ M w) (hβ : ∀ i b p, i < k → β[i]? = some b → ρ i = some p → σ b = some p) : ∀ {l m m' : List AV}, FzCs k M l m → mapO (ren1 β) m = some m' → ∀ {vs : List Value}, VsRel ρ l vs → VsRel σ m' vs := by
  intro l
  induction l with
  | nil =>
    intro m m' hf hr vs hv
    cases hf; cases hv
    obtain rfl := Option.some.inj (show some [] = some m' from hr)
    exact .nil
  | cons a l ih =>
    intro m m' hf hr vs hv
    cases hf with
    | cons _ b _ m h1 h2 =>
      obtain ⟨y, s, rfl, g1, g2⟩ := mapO_cons hr
      cases hv with
      | cons _ v _ vs e es => exact .cons _ _ _ _ (h1.rel h hσ hβ g1 e) (ih h2 g2 es)
theorem FzB.rel (h : MRel w0 R ρ M w) (hσ : σ.z = stillOf k ρ M w) (hβ : ∀ i b p, i < k → β[i]? = some b → ρ i = some p → σ b = some p) {a b b' : AV} (hf : FzB k M a b) (hr : renA β b = some b') {v : Value} (hv : VRel ρ a v) : VRel σ b' v := by
  cases hf with
  | cell _ _ hc =>
    refine hc.rel h hσ hβ ?_ hv
    cases hc with
    | dat _ d hd => cases d <;> exact hr
    | ptr i o hi => exact hr
  | func f l m l' m' h1 h2 =>
    simp only [renA] at hr
    split at hr
    · rename_i x y g1 g2
      obtain rfl := Option.some.inj hr
      cases hv with
      | func _ _ _ vs ws e1 e2 => exact .func _ _ _ _ _ (h1.rel h hσ hβ g1 e1) (h2.rel h hσ hβ g2 e2)
    · cases hr
theorem FzBs.rel (h : MRel w0 R ρ M w) (hσ : σ.z = stillOf k ρ M w) (hβ : ∀ i b p, i < k → β[i]? = some b → ρ i = some p → σ b = some p) : ∀ {l m m' : List AV}, FzBs k M l m → mapO (renA β) m = some m' → ∀ {vs : List Value}, VsRel ρ l vs → VsRel σ m' vs := by
  intro l
  induction l with
  | nil =>
    intro m m' hf hr vs hv
    cases hf; cases hv
    obtain rfl := Option.some.inj (show some [] = some m' from hr)
    exact .nil
  | cons a l ih =>
    intro m m' hf hr vs hv
    cases hf with
    | cons _ b _ m h1 h2 =>
      obtain ⟨y, s, rfl, g1, g2⟩ := mapO_cons hr
      cases hv with
      | cons _ v _ vs e es => exact .cons _ _ _ _ (h1.rel h hσ hβ g1 e) (ih h2 g2 es)
end
theorem mapO_len {α γ : Type} {f : α → Option γ} : ∀ {l : List α} {m : List γ}, mapO f l = some m → l.length = m.length := by
  intro l
  induction l with
  | nil => intro m h; obtain rfl := Option.some.inj (show some [] = some m from h); rfl
  | cons a l ih => intro m h; obtain ⟨y, s, rfl, h1, h2⟩ := mapO_cons h; simp [ih h2]
theorem mapO_at {α γ : Type} {f : α → Option γ} : ∀ {l : List α} {m : List γ}, mapO f l = some m → ∀ (j : Nat) (x : α), l[j]? = some x → ∃ y, m[j]? = some y ∧ f x = some y := by
  intro l
  induction l with
  | nil => intro m _ j x h; simp at h
  | cons a l ih =>
    intro m h j x hj
    obtain ⟨y, s, rfl, h1, h2⟩ := mapO_cons h
    cases j with
    | zero => obtain rfl : a = x := by simpa using hj
              exact ⟨y, by simp, h1⟩
    | succ j => obtain ⟨z, g1, g2⟩ := ih h2 j x (by simpa using hj)
                exact ⟨z, by simpa using g1, g2⟩

def FinG (P : Program) (fn : Func) (k : Nat) (rows1 : List (List AV)) (ans : AV) (o : AE) (fr' : Fr) (M' : Mem) : Prop :=
  (o = .normal ∨ o = .ret) ∧ ∃ vs, resK P fr' M' fn.results.toList (fun l => pdec (l = vs)) = true ∧ FzA k M' (oneOf vs) ans ∧
    ∀ (j : Nat) (r : List AV), rows1[j]? = some r → ∃ c sz, M'.t.get j = some (.row c false sz) ∧ FzBs k M' c r
def zipU : List Nat → List (List AV) → List (List AV) → List (Nat × List AV × List AV)
  | b :: β, r :: rs, s :: ss => (b, r, s) :: zipU β rs ss
  | _, _, _ => []
def rowsG (rows : List (List AV)) : List Blk := rows.map fun r => .row r false 1
noncomputable def renRows (β : List Nat) (rows : List (List AV)) : Option (List (List AV)) := mapO (fun r => mapO (renA β) r) rows
def BSimG (P : Program) (f : FuncId) (args0 : List AV) (rows0 rows1 : List (List AV)) (ans : AV) : Prop :=
  ∀ (β : List Nat) (args : List AV) (r0 r1 : List (List AV)), β.length = rows0.length → β.Nodup → mapO (renT β) args0 = some args → renRows β rows0 = some r0 → renRows β rows1 = some r1 → SSpec P f ⟨args, zipU β r0 r1, ans⟩
theorem Ups.specU : ∀ (β : List Nat) (r0 r1 : List (List AV)) (M M' : Mem), β.length = r0.length → r1.length = r0.length → β.Nodup → Ups (zipU β r0 r1) M M' →
    M'.nx = M.nx ∧ (∀ (j b : Nat) (r s : List AV), β[j]? = some b → r0[j]? = some r → r1[j]? = some s → ∃ sz, M.t.get b = some (.row r false sz) ∧ M'.t.get b = some (.row s false sz)) ∧ (∀ b, b ∉ β → M'.t.get b = M.t.get b) := by
  intro β
  induction β with
  | nil =>
    intro r0 r1 M M' h1 h2 hn hU
    simp only [zipU, Ups] at hU
    subst hU
    exact ⟨rfl, fun j b r s h => by simp at h, fun _ _ => rfl⟩
  | cons b β ih =>
    intro r0 r1 M M' h1 h2 hn hU
    cases r0 with
    | nil => simp at h1
    | cons r r0 =>
      cases r1 with
      | nil => simp at h2
      | cons s r1 =>
        simp only [zipU, Ups] at hU
        obtain ⟨sz, M1, hg, hM1, hnx, hU⟩ := hU
        rw [List.nodup_cons] at hn
        obtain ⟨e1, e2, e3⟩ := ih r0 r1 M1 M' (by simpa using h1) (by simpa using h2) hn.2 hU
        refine ⟨e1.trans hnx, fun j b' r' s' hj hr hs => ?_, fun b' hb' => ?_⟩
        · cases j with
          | zero =>
            simp only [List.getElem?_cons_zero, Option.some.injEq] at hj hr hs
            subst hj hr hs
            exact ⟨sz, hg, by rw [e3 b hn.1, hM1, if_pos rfl]⟩
          | succ j =>
            simp only [List.getElem?_cons_succ] at hj hr hs
            obtain ⟨sz', g1, g2⟩ := e2 j b' r' s' hj hr hs
            have hne : b' ≠ b := fun e => hn.1 (by rw [← e]; exact List.mem_of_getElem? hj)
            exact ⟨sz', by rwa [hM1, if_neg hne] at g1, g2⟩
        · rw [List.mem_cons, not_or] at hb'
          rw [e3 b' hb'.2, hM1, if_neg hb'.1]

/-- THE LAW: a function whose code ends as it should, from a frame of its arguments and a memory of the rows that come by pointers -/
theorem BSimG.of_W {P : Program} {f : FuncId} {fn : Func} {c : Code} (hf : P.funcs[f]? = some fn) (hb : fn.body = some c) (hname : (fn.name == "runtime.NumGoroutine") = false)
    {args0 : List AV} {rows0 rows1 : List (List AV)} {ans : AV} (hlen : args0.length ≤ fn.ntmps) (hrows : rows1.length = rows0.length)
    (h : W P fn.ntmps rows0.length c (mkFr (argSlots args0 0)) (mkMem (rowsG rows0)) (FinG P fn rows0.length rows1 ans)) : BSimG P f args0 rows0 rows1 ans := by
  intro β args q0 q1 hβ hn hargs hq0 hq1 M M' hU w0 R ρ w cargs hM hv
  have hl0 := mapO_len hq0
  have hl1 := mapO_len hq1
  obtain ⟨hnx, hat, hoff⟩ := Ups.specU β q0 q1 M M' (by omega) (by omega) hn hU
  have hne : ¬ fn.name = "runtime.NumGoroutine" := by simpa using hname
  refine .inr ⟨by simp [callFunc, hf, hne, hb], calls_of_wp hf hb ?_⟩
  obtain ⟨o, fr', M1, ⟨ho, vs, hres, hfz, hbox⟩, hsim⟩ := h
  -- the rows that come by pointers
  have hbx : ∀ (j b : Nat), β[j]? = some b → ∃ r s sz B x arr t, (∃ r0, rows0[j]? = some r0 ∧ mapO (renA β) r0 = some r) ∧ (∃ s0, rows1[j]? = some s0 ∧ mapO (renA β) s0 = some s) ∧ M.t.get b = some (.row r false sz) ∧ M'.t.get b = some (.row s false sz) ∧ ρ b = some (B, x) ∧ ¬ R B ∧
      w.heap[B]? = some (.cells arr t (0, 0)) ∧ VsRel ρ r (arr.toList.take r.length) ∧ arr.size = r.length := by
    intro j b hj
    have hjl : j < rows0.length := by rw [← hβ]; exact (List.getElem?_eq_some_iff.1 hj).1
    have hr0 : rows0[j]? = some rows0[j] := List.getElem?_eq_getElem hjl
    have hr1 : rows1[j]? = some (rows1[j]'(by omega)) := List.getElem?_eq_getElem (by omega)
    obtain ⟨y0, z0, y1⟩ := mapO_at hq0 j _ hr0
    obtain ⟨y2, z2, y3⟩ := mapO_at hq1 j _ hr1
    obtain ⟨sz, g1, g2⟩ := hat j b _ _ hj z0 z2
    obtain ⟨B, x, ob, hr, hRB, hob, hO⟩ := hM.blk b _ g1 (by simp)
    unfold ORel at hO
    cases ob <;> simp only at hO
    case cells arr t fz =>
      obtain ⟨h1, h2, rfl⟩ := hO
      exact ⟨_, _, sz, B, x, arr, t, ⟨_, hr0, y1⟩, ⟨_, hr1, y3⟩, g1, g2, hr, hRB, hob, h1, by simpa using h2⟩
  -- where the run begins
  let isBox : Nat → Prop := fun B => ∃ (j b x : Nat), β[j]? = some b ∧ ρ b = some (B, x)
  let R1 : Nat → Prop := fun B => B < w.heap.size ∧ ¬ isBox B
  let ρ1 : Env := { (ρ.ren β) with base := w.heap.size }
  have hrow0 : ∀ (j : Nat) (b : Blk), (mkMem (rowsG rows0)).t.get j = some b → ∃ r, rows0[j]? = some r ∧ b = .row r false 1 ∧ ∃ i, β[j]? = some i := by
    intro j b hj
    rw [mkMem_get] at hj
    simp only [rowsG, List.getElem?_map] at hj
    cases hr0 : rows0[j]? with
    | none => rw [hr0] at hj; cases hj
    | some r =>
      rw [hr0] at hj
      have hjl : j < β.length := by rw [hβ]; exact (List.getElem?_eq_some_iff.1 hr0).1
      exact ⟨r, rfl, (Option.some.inj hj).symm, _, List.getElem?_eq_getElem hjl⟩
  have hMb : MRel w R1 ρ1 (mkMem (rowsG rows0)) w := by
    refine ⟨rfl, rfl, rfl, Nat.le_refl _, fun _ _ => rfl, fun b hb => hb.1, fun j b hj hd => ?_, fun j j' b c B x y hj hd hj' he e1 e2 => ?_, fun j p e => ?_, hM.zok, fun j b B x hj hd e => ?_, Nat.le_refl _⟩
    · obtain ⟨r, hr0, rfl, i, hjb⟩ := hrow0 j b hj
      obtain ⟨r', s, sz, B, x, arr, t, g1, g2, g3, g4, g5, g6, g7, g8, g9⟩ := hbx j _ hjb
      obtain ⟨r0, g1, g1'⟩ := g1
      rw [hr0] at g1
      obtain rfl := Option.some.inj g1
      have hll := mapO_len g1'
      refine ⟨B, x, _, (ren_at hjb).trans g5, fun hR1 => hR1.2 ⟨j, _, x, hjb, g5⟩, g7, ?_, by rw [hll]; simpa using g9, rfl⟩
      rw [hll]
      exact VsRel.sub (ρ := ρ.ren β) (σ := ρ1) ⟨fun _ _ h => h, fun _ _ h => h⟩ (renL_rel (fun _ _ _ => renA_rel) g1' g8)
    · obtain ⟨r, hr0, rfl, i, hjb⟩ := hrow0 j b hj
      obtain ⟨r', hr0', rfl, i', hjb'⟩ := hrow0 j' c hj'
      change (ρ.ren β) j = _ at e1
      change (ρ.ren β) j' = _ at e2
      rw [ren_at hjb] at e1
      rw [ren_at hjb'] at e2
      obtain ⟨_, _, _, _, _, _, _, _, _, g3, _⟩ := hbx j _ hjb
      obtain ⟨_, _, _, _, _, _, _, _, _, g3', _⟩ := hbx j' _ hjb'
      have := hM.inj i i' _ _ B x y g3 (by simp) g3' (by simp) e1 e2
      subst this
      obtain ⟨l1, q1⟩ := List.getElem?_eq_some_iff.1 hjb
      obtain ⟨l2, q2⟩ := List.getElem?_eq_some_iff.1 hjb'
      have hpw := List.pairwise_iff_getElem.1 hn
      rcases Nat.lt_trichotomy j j' with hlt | he' | hlt
      · exact absurd (q1.trans q2.symm) (hpw j j' l1 l2 hlt)
      · exact he'
      · exact absurd (q2.trans q1.symm) (hpw j' j l2 l1 hlt)
    · show j < lenL (rowsG rows0)
      rw [lenL_eq]
      change (match β[j]? with | .some i => ρ i | .none => .none) = some p at e
      cases hj : β[j]? with
      | none => rw [hj] at e; cases e
      | some i => have := (List.getElem?_eq_some_iff.1 hj).1; simp [rowsG]; omega
    · obtain ⟨r, hr0, rfl, i, hjb⟩ := hrow0 j b hj
      change (ρ.ren β) j = _ at e
      rw [ren_at hjb] at e
      obtain ⟨_, _, _, _, _, _, _, _, _, g3, _⟩ := hbx j _ hjb
      exact hM.zsep i _ B x g3 (by simp) e
  have hvr : VsRel ρ1 args0 cargs.toList := VsRel.sub (ρ := ρ.ren β) (σ := ρ1) ⟨fun _ _ h => h, fun _ _ h => h⟩ (args_ren hargs hv)
  have hcl : cargs.size = args0.length := by have := hvr.length; simpa using this.symm
  have hF1 : FRel ρ1 fn.ntmps (mkFr (argSlots args0 0)) { tmps := cargs ++ Array.replicate (fn.ntmps - cargs.size) Go.undef, defers := [] } := by
    refine ⟨by simp; omega, rfl, fun t a ha => ?_⟩
    obtain ⟨_, h2⟩ := argSlots_mem _ _ _ _ (mkFr_get _ _ _ ha)
    obtain ⟨v, hv', hr⟩ := hvr.get' h2
    have hlt : t < cargs.size := by have := (List.getElem?_eq_some_iff.1 h2).1; omega
    have : (cargs ++ Array.replicate (fn.ntmps - cargs.size) Go.undef).getD t Go.undef = v := by
      rw [Array.getD_eq_getD_getElem?, Array.getElem?_append_left hlt]
      simp at hv'
      simp [hv']
    rw [this]; exact hr
  refine hsim w R1 ρ1 _ w hF1 hMb _ fun ρ' a' w' hz hF hM' => ?_
  -- its answer
  obtain ⟨vs', hvs, H⟩ := resK_sound _ _ hres
  obtain rfl : vs' = vs := pdec_iff.1 hvs
  obtain ⟨cvs, hcv, hrun⟩ := H w R1 ρ' a' w' _ hF hM'
  have hresults : (results fn a'.tmps).run P w' = .ok (if h : cvs.toArray.size = 1 then cvs.toArray[0] else .tuple cvs.toArray) w' := by
    unfold results
    rw [Array.mapM_eq_mapM_toList]
    simp only [Sem.run_bind, Sem.run_map]
    refine Eq.trans (congrArg (fun r : Result (List Value) => ((Result.andThen r (fun a w' => Result.ok a.toArray w')).andThen fun a w' => Sem.run P (pure (if h : a.size = 1 then a[0] else Value.tuple a)) w')) hrun) ?_
    simp only [Result.andThen_ok, Sem.run_pure]
  have hval : VRel ρ' (oneOf vs') (if h : cvs.toArray.size = 1 then cvs.toArray[0] else .tuple cvs.toArray) := by
    unfold oneOf
    split
    · cases hcv with
      | cons _ cv _ _ h1 h2 => cases h2; simpa using h1
    · rename_i hne
      have hl := hcv.length
      have : ¬ cvs.toArray.size = 1 := by
        intro e
        simp at e
        cases vs' with
        | nil => simp at hl; omega
        | cons x r =>
          cases r with
          | nil => exact hne x rfl
          | cons y r => simp at hl; omega
      rw [dif_neg this]
      exact .tuple _ _ (by simpa using hcv)
  -- what stands still from here
  let σ : Env := ⟨ρ.m, stillOf rows0.length ρ' M1 w', ρ.base⟩
  have hans : VRel σ ans _ := hfz.rel hM' (σ := σ) rfl hval
  have hboxlt : ∀ B, isBox B → B < w.heap.size := by
    rintro B ⟨j, b, x, hj, hr⟩
    obtain ⟨_, _, _, B', x', arr, t, _, _, _, _, g5, _, g7, _⟩ := hbx j b hj
    rw [hr] at g5
    obtain ⟨rfl, rfl⟩ := Prod.mk.inj (Option.some.inj g5)
    exact (Array.getElem?_eq_some_iff.1 g7).1
  have hbox' : ∀ (j b B x : Nat), β[j]? = some b → ρ b = some (B, x) → ∃ s s0 c sz sz', j < rows0.length ∧ mapO (renA β) s0 = some s ∧ M'.t.get b = some (.row s false sz) ∧ M1.t.get j = some (.row c false sz') ∧ FzBs rows0.length M1 c s0 ∧ ρ' j = some (B, x) := by
    intro j b B x hj hr
    obtain ⟨r, s, sz, B', x', arr, t, ⟨r0, g1, g1'⟩, ⟨s0, g2, g2'⟩, g3, g4, g5, _⟩ := hbx j b hj
    obtain ⟨c, sz', h1, h2⟩ := hbox j s0 g2
    have hjk : j < rows0.length := (List.getElem?_eq_some_iff.1 g1).1
    exact ⟨s, s0, c, sz, sz', hjk, g2', g4, h1, h2, hz.m j _ hjk ((ren_at hj).trans hr)⟩
  have hβσ : ∀ i b p, i < rows0.length → β[i]? = some b → ρ' i = some p → σ b = some p := by
    intro i b p hi hb e
    obtain ⟨_, _, _, B, x, _, _, _, _, _, _, g5, _⟩ := hbx i b hb
    have := hz.m i _ hi ((ren_at hb).trans g5)
    rw [this] at e
    rw [← e]; exact g5
  have hLives : ∀ B, Lives rows0.length ρ' M1 B → w.heap.size ≤ B := by
    rintro B ⟨i, c, op, sz, x, hk, hb, hr⟩
    obtain ⟨B', x', o', hr', hR, _, _⟩ := hM'.blk i _ hb (by simp)
    rw [hr] at hr'
    obtain ⟨rfl, rfl⟩ := Prod.mk.inj (Option.some.inj hr')
    rcases Nat.lt_or_ge B w.heap.size with hlt | hge
    · exfalso
      refine hR ⟨hlt, ?_⟩
      rintro ⟨j, b, y, hj, hrb⟩
      obtain ⟨s, s0, c', sz1, sz2, hjk, g2, g3, g4, g5, g6⟩ := hbox' j b B y hj hrb
      have := hM'.inj i j _ _ B x y hb (by simp) g4 (by simp) hr g6
      omega
    · exact hge
  have hnewz : ∀ B l, σ.z B = some l → ρ.z B = some l ∨ w.heap.size ≤ B := by
    intro B l hzB
    rcases still_inv hzB with ⟨hl, _⟩ | h1
    · exact .inr (hLives B hl)
    · rcases hz.new B l h1 with h2 | h2 | ⟨j, x, h2⟩
      · exact .inl h2
      · exact .inr h2
      · exfalso
        change (match β[j]? with | .some i => ρ i | .none => .none) = some (B, x) at h2
        cases hj : β[j]? with
        | none => rw [hj] at h2; cases h2
        | some b =>
          rw [hj] at h2
          obtain ⟨s, s0, c, sz, sz', g1, g2, g3, g4, g5, g6⟩ := hbox' j b B x hj h2
          rw [hM'.zsep j _ B x g4 (by simp) g6] at h1
          cases h1
  have hle : ρ.le σ := ⟨fun _ _ h => h, fun B l e => still_ge hM' B l (hz.z B l e), rfl, fun B l e => by
    rcases hnewz B l e with h1 | h1
    · exact .inl h1
    · exact .inr (.inl (Nat.le_trans hM.base h1)), fun i p e => .inr ⟨i, p.2, e⟩⟩
  have hMi : ∀ (i : Nat) (b : Blk), M'.t.get i = some b → b ≠ .dead → ∃ c, M.t.get i = some c ∧ c ≠ .dead := by
    intro i b hi hd
    by_cases hin : i ∈ β
    · obtain ⟨j, hj⟩ := List.getElem?_of_mem hin
      obtain ⟨_, _, _, _, _, _, _, _, _, g3, _⟩ := hbx j i hj
      exact ⟨_, g3, by simp⟩
    · rw [hoff i hin] at hi; exact ⟨b, hi, hd⟩
  have hMR : MRel w0 R σ M' w' := by
    refine ⟨hM'.os.trans hM.os, hM'.tape.trans hM.tape, hM'.output.trans hM.output, Nat.le_trans hM.size hM'.size, fun b hb => ?_, hM.rlt, fun i b hi hd => ?_, fun i j b c B x y hi hd hj he e1 e2 => ?_, fun i p e => ?_, fun B l e => ?_, fun i b B x hi hd e => ?_, Nat.le_trans hM.base hM'.size⟩
    · have h1 : R1 b := by
        refine ⟨Nat.lt_of_lt_of_le (hM.rlt b hb) hM.size, ?_⟩
        rintro ⟨j, b', x, hj, hr⟩
        obtain ⟨_, _, _, B', x', arr, t, _, _, _, _, g5, g6, _⟩ := hbx j b' hj
        rw [hr] at g5
        obtain ⟨rfl, rfl⟩ := Prod.mk.inj (Option.some.inj g5)
        exact g6 hb
      exact (hM'.keep b h1).trans (hM.keep b hb)
    · by_cases hin : i ∈ β
      · obtain ⟨j, hj⟩ := List.getElem?_of_mem hin
        obtain ⟨r, s, sz, B, x, arr, t, g1, g2, g3, g4, g5, g6, g7, g8, g9⟩ := hbx j i hj
        obtain ⟨s', s0, c, sz1, sz2, hjk, k2, k3, k4, k5, k6⟩ := hbox' j i B x hj g5
        rw [k3] at hi
        obtain rfl := Option.some.inj hi
        obtain ⟨arr', t', ho, hv', hsz⟩ := hM'.row k4 k6
        have hd' := k5.rel hM' (σ := σ) rfl hβσ k2 hv'
        have hll : s'.length = c.length := by rw [k5.length]; exact (mapO_len k2).symm
        refine ⟨B, x, _, g5, g6, ho, ?_⟩
        refine ⟨by rw [hll]; exact hd', by rw [hll]; simpa using hsz, rfl⟩
      · rw [hoff i hin] at hi
        obtain ⟨B, x, ob, hr, hRB, hob, hO⟩ := hM.blk i b hi hd
        refine ⟨B, x, ob, hr, hRB, ?_, hO.mono hle⟩
        rw [hM'.keep B ⟨(Array.getElem?_eq_some_iff.1 hob).1, ?_⟩]
        · exact hob
        · rintro ⟨j, b', y, hj, hrb⟩
          obtain ⟨_, _, _, _, _, _, _, _, _, g3, _⟩ := hbx j b' hj
          have := hM.inj i b' b _ B x y hi hd g3 (by simp) hr hrb
          subst this
          exact hin (List.mem_of_getElem? hj)
    · obtain ⟨b', h1, h2⟩ := hMi i b hi hd
      obtain ⟨c', h3, h4⟩ := hMi j c hj he
      exact hM.inj i j b' c' B x y h1 h2 h3 h4 e1 e2
    · rw [hnx]; exact hM.fresh i p e
    · rcases still_inv e with ⟨⟨i, c, op, sz, x, hk, hb, hr⟩, arr, t, f, ho, rfl⟩ | h1
      · obtain ⟨arr', t', ho', _⟩ := hM'.row hb hr
        have e0 := Option.some.inj (ho.symm.trans ho')
        have e1 : arr = arr' := by injection e0
        subst e1
        exact ⟨arr, t', _, ho', List.take_length⟩
      · exact hM'.zok B l h1
    · obtain ⟨b', h1, h2⟩ := hMi i b hi hd
      have hlt := hM.lt h1 h2 e
      cases hzB : σ.z B with
      | none => rfl
      | some l =>
        rcases hnewz B l hzB with h3 | h3
        · rw [hM.zsep i b' B x h1 h2 e] at h3; cases h3
        · omega
  have hpost : a'.defers = [] ∧ ∃ v, (results fn a'.tmps).run P w' = .ok v w' ∧ ∃ ρ'' cv, ρ.le ρ'' ∧ Ending.returned v = .returned cv ∧ VRel ρ'' ans cv ∧ MRel w0 R ρ'' M' w' := ⟨hF.defers, _, hresults, σ, _, hle, rfl, hans, hMR⟩
  rcases ho with rfl | rfl
  · exact hpost
  · exact hpost
end Go.Eng

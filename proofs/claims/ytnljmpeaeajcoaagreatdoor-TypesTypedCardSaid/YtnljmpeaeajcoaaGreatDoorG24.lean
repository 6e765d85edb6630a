/- A part of the proof over this seat's program: the checked evaluator and its soundness (E..), and what it gives here (the others). No condition. -/
import Derived.Test.YtnljmpeaeajcoaaGreatDoorG23
set_option linter.unusedSectionVars false
namespace Go.Eng
open Go
variable [Mode]

/-! WHAT A CALL LEAVES IN MEMORY STANDS STILL FROM THEN ON: how a value reads as data. The first k blocks stay as they are. -/
mutual
inductive FzD (k : Nat) (M : Mem) : AV → Dat → Prop
  | same (d : Dat) : FzD k M (toAV d) d
  | nil (sz : Nat) (el : Nat → List Dat) : FzD k M .nilSlice (.slice 0 sz el)
  | slice (b o n cap : Nat) (op : Bool) (c : List AV) (op' : Bool) (sz' sz : Nat) (el : Nat → List Dat) (hk : k ≤ b) (hb : M.t.get b = some (.row c op' sz')) (hc : n ≤ cap) (hl : o + n * sz ≤ c.length)
      (h : ∀ i, i < n → FzDs k M ((c.drop (o + i * sz)).take sz) (el i)) : FzD k M (.slice b o n cap op) (.slice n sz el)
inductive FzDs (k : Nat) (M : Mem) : List AV → List Dat → Prop
  | nil : FzDs k M [] []
  | cons (a : AV) (d : Dat) (l : List AV) (m : List Dat) (h : FzD k M a d) (hs : FzDs k M l m) : FzDs k M (a :: l) (d :: m)
end
mutual
inductive FzA (k : Nat) (M : Mem) : AV → AV → Prop
  | dat (a : AV) (d : Dat) (h : FzD k M a d) : FzA k M a (toAV d)
  | fn (f : Fn) : FzA k M (.func f [] []) (.func f [] [])
  | agg (l m : List AV) (h : FzAs k M l m) : FzA k M (.agg l) (.agg m)
  | tuple (l m : List AV) (h : FzAs k M l m) : FzA k M (.tuple l) (.tuple m)
inductive FzAs (k : Nat) (M : Mem) : List AV → List AV → Prop
  | nil : FzAs k M [] []
  | cons (a b : AV) (l m : List AV) (h : FzA k M a b) (hs : FzAs k M l m) : FzAs k M (a :: l) (b :: m)
end

theorem toAV_inv {ρ : Env} {d : Dat} {v : Value} (h : VRel ρ (toAV d) v) : DRel ρ.z d v := by
  cases d <;> (simp only [toAV] at h; cases h) <;> first | exact .bool _ | exact .int _ _ | exact .str _ | exact .nilPtr | exact .nilMap | exact .nilFunc | exact .nilIface | assumption

/-- the blocks that the engine knows, but for the first k, stand still now -/
def Lives (k : Nat) (ρ : Env) (M : Mem) (B : Nat) : Prop := ∃ i c op sz x, k ≤ i ∧ M.t.get i = some (.row c op sz) ∧ ρ i = some (B, x)
noncomputable def stillOf (k : Nat) (ρ : Env) (M : Mem) (w : World) : Still := fun B =>
  if pdec (Lives k ρ M B) = true then (match w.heap[B]? with | some (.cells arr _ _) => some arr.toList | _ => .none) else ρ.z B

section
variable {k : Nat} {w0 : World} {R : Nat → Prop} {ρ : Env} {M : Mem} {w : World}
theorem still_at (h : MRel w0 R ρ M w) {i : Nat} {c : List AV} {op : Bool} {sz B x : Nat} (hk : k ≤ i) (hb : M.t.get i = some (.row c op sz)) (hr : ρ i = some (B, x)) :
    ∃ arr t, w.heap[B]? = some (.cells arr t (0, 0)) ∧ stillOf k ρ M w B = some arr.toList ∧ VsRel ρ c (arr.toList.take c.length) := by
  obtain ⟨arr, t, ho, hv, _⟩ := h.row hb hr
  refine ⟨arr, t, ho, ?_, hv⟩
  have : pdec (Lives k ρ M B) = true := pdec_iff.2 ⟨i, c, op, sz, x, hk, hb, hr⟩
  simp [stillOf, this, ho]
theorem still_ge (h : MRel w0 R ρ M w) : ρ.z.le (stillOf k ρ M w) := by
  intro B l hz
  have : ¬ pdec (Lives k ρ M B) = true := by
    rw [pdec_iff]
    rintro ⟨i, c, op, sz, x, _, hb, hr⟩
    have := h.zsep i _ B x hb (by simp) hr
    rw [this] at hz; cases hz
  simp [stillOf, this, hz]
theorem still_inv {B : Nat} {l : List Value} (hz : stillOf k ρ M w B = some l) : (Lives k ρ M B ∧ ∃ arr t f, w.heap[B]? = some (.cells arr t f) ∧ l = arr.toList) ∨ ρ.z B = some l := by
  unfold stillOf at hz
  split at hz
  · rename_i hp
    refine .inl ⟨pdec_iff.1 hp, ?_⟩
    split at hz
    · rename_i arr t f ho
      exact ⟨arr, t, f, ho, (Option.some.inj hz).symm⟩
    · cases hz
  · exact .inr hz

mutual
theorem FzD.rel (h : MRel w0 R ρ M w) : ∀ {a : AV} {d : Dat}, FzD k M a d → ∀ {v : Value}, VRel ρ a v → DRel (stillOf k ρ M w) d v
  | _, _, .same d, v, hv => (toAV_inv hv).mono (still_ge h)
  | _, _, .nil sz el, v, hv => by cases hv; exact .none _ _
  | _, _, .slice b o n cap op c op' sz' sz el hk hb hc hl hel, v, hv => by
    cases hv with
    | slice _ _ _ _ _ B x c' hr hcc =>
      obtain ⟨arr, t, ho, hst, hvs⟩ := still_at (k := k) h hk hb hr
      have hlen := hvs.length
      rw [List.length_take] at hlen
      have hle : c.length ≤ arr.toList.length := by omega
      refine .slice n sz el B o c' arr.toList hst (by omega) (by omega) fun i hi => ?_
      have hm : (i + 1) * sz ≤ n * sz := Nat.mul_le_mul_right _ (by omega)
      rw [Nat.add_mul, Nat.one_mul] at hm
      have e : ((arr.toList.take c.length).drop (o + i * sz)).take sz = (arr.toList.drop (o + i * sz)).take sz := by
        rw [List.drop_take, List.take_take, Nat.min_eq_left (by omega)]
      have := FzDs.rel h (hel i hi) (vs := ((arr.toList.take c.length).drop (o + i * sz)).take sz) ((hvs.drop _).take _)
      rwa [e] at this
theorem FzDs.rel (h : MRel w0 R ρ M w) : ∀ {l : List AV} {m : List Dat}, FzDs k M l m → ∀ {vs : List Value}, VsRel ρ l vs → DsRel (stillOf k ρ M w) m vs
  | _, _, .nil, vs, hv => by cases hv; exact .nil
  | _, _, .cons a d l m ha hs, vs, hv => by
    cases hv with
    | cons _ v _ vs e es => exact .cons _ _ _ _ (FzD.rel h ha e) (FzDs.rel h hs es)
end
mutual
theorem FzA.rel (h : MRel w0 R ρ M w) {σ : Env} (hσ : σ.z = stillOf k ρ M w) : ∀ {a b : AV}, FzA k M a b → ∀ {v : Value}, VRel ρ a v → VRel σ b v
  | _, _, .dat a d hd, v, hv => DRel.toAV (by rw [hσ]; exact hd.rel h hv)
  | _, _, .fn f, v, hv => by
    cases hv with
    | func _ _ _ vs ws h1 h2 =>
      obtain rfl : vs = #[] := Array.eq_empty_of_size_eq_zero (by have := h1.length; simpa using this.symm)
      obtain rfl : ws = #[] := Array.eq_empty_of_size_eq_zero (by have := h2.length; simpa using this.symm)
      exact .func _ _ _ _ _ .nil .nil
  | _, _, .agg l m hs, v, hv => by cases hv with | agg _ vs e => exact .agg _ _ (FzAs.rel h hσ hs e)
  | _, _, .tuple l m hs, v, hv => by cases hv with | tuple _ vs e => exact .tuple _ _ (FzAs.rel h hσ hs e)
theorem FzAs.rel (h : MRel w0 R ρ M w) {σ : Env} (hσ : σ.z = stillOf k ρ M w) : ∀ {l m : List AV}, FzAs k M l m → ∀ {vs : List Value}, VsRel ρ l vs → VsRel σ m vs
  | _, _, .nil, vs, hv => by cases hv; exact .nil
  | _, _, .cons a b l m ha hs, vs, hv => by cases hv with | cons _ v _ vs e es => exact .cons _ _ _ _ (FzA.rel h hσ ha e) (FzAs.rel h hσ hs es)
end
theorem FzDs.length {l : List AV} {m : List Dat} (h : FzDs k M l m) : l.length = m.length := by
  induction l generalizing m with
  | nil => cases h; rfl
  | cons a l ih => cases h with | cons _ b _ m h hs => simp [ih hs]
theorem FzAs.length {l m : List AV} (h : FzAs k M l m) : l.length = m.length := by
  induction l generalizing m with
  | nil => cases h; rfl
  | cons a l ih => cases h with | cons _ b _ m h hs => simp [ih hs]
end

/-! THE SPECIFICATION OF A CALL: from data, and from some rows by pointers, to data, and the rows as they are behind it -/
def oneOf (vs : List AV) : AV := match vs with | [v] => v | l => .tuple l
/-- how a function's code is to end -/
def Fin (P : Program) (fn : Func) (k : Nat) (rows1 : List (List Dat)) (ans : AV) (o : AE) (fr' : Fr) (M' : Mem) : Prop :=
  (o = .normal ∨ o = .ret) ∧ ∃ vs, resK P fr' M' fn.results.toList (fun l => pdec (l = vs)) = true ∧ FzA k M' (oneOf vs) ans ∧
    ∀ (j : Nat) (r : List Dat), rows1[j]? = some r → ∃ c sz, M'.t.get j = some (.row c false sz) ∧ FzDs k M' c r
def argSlots : List AV → Nat → List (Nat × AV)
  | [], _ => []
  | a :: l, i => (i, a) :: argSlots l (i + 1)
theorem argSlots_mem : ∀ (l : List AV) (i t : Nat) (a : AV), (t, a) ∈ argSlots l i → i ≤ t ∧ l[t - i]? = some a := by
  intro l
  induction l with
  | nil => intro i t a h; cases h
  | cons b l ih =>
    intro i t a h
    rcases List.mem_cons.1 h with h | h
    · cases h; exact ⟨Nat.le_refl _, by simp⟩
    · obtain ⟨h1, h2⟩ := ih _ _ _ h
      exact ⟨by omega, by rw [show t - i = (t - (i + 1)) + 1 by omega]; simpa using h2⟩
noncomputable def zip3 : List Nat → List (List Dat) → List (List Dat) → List (Nat × List AV × List AV)
  | b :: β, r :: rs, s :: ss => (b, toAVs r, toAVs s) :: zip3 β rs ss
  | _, _, _ => []
noncomputable def rowsOf (rows : List (List Dat)) : List Blk := rows.map fun r => .row (toAVs r) false 1

def BSim (P : Program) (f : FuncId) (args0 : List AV) (rows0 rows1 : List (List Dat)) (ans : AV) : Prop :=
  ∀ (β : List Nat) (args : List AV), β.length = rows0.length → β.Nodup → mapO (renT β) args0 = some args → SSpec P f ⟨args, zip3 β rows0 rows1, ans⟩

/-- what the rows of 'ups' are before and behind -/
theorem Ups.spec : ∀ (β : List Nat) (r0 r1 : List (List Dat)) (M M' : Mem), β.length = r0.length → r1.length = r0.length → β.Nodup → Ups (zip3 β r0 r1) M M' →
    M'.nx = M.nx ∧ (∀ (j b : Nat) (r s : List Dat), β[j]? = some b → r0[j]? = some r → r1[j]? = some s → ∃ sz, M.t.get b = some (.row (toAVs r) false sz) ∧ M'.t.get b = some (.row (toAVs s) false sz)) ∧ (∀ b, b ∉ β → M'.t.get b = M.t.get b) := by
  intro β
  induction β with
  | nil =>
    intro r0 r1 M M' h1 h2 hn hU
    simp only [zip3, Ups] at hU
    subst hU
    exact ⟨rfl, fun j b r s h => by simp at h, fun _ _ => rfl⟩
  | cons b β ih =>
    intro r0 r1 M M' h1 h2 hn hU
    cases r0 with
    | nil => simp at h1
    | cons r r0 =>
      cases r1 with
      | nil => simp at h2
      | cons s r1 =>
        simp only [zip3, Ups] at hU
        obtain ⟨sz, M1, hg, hM1, hnx, hU⟩ := hU
        rw [List.nodup_cons] at hn
        obtain ⟨e1, e2, e3⟩ := ih r0 r1 M1 M' (by simpa using h1) (by simpa using h2) hn.2 hU
        refine ⟨e1.trans hnx, fun j b' r' s' hj hr hs => ?_, fun b' hb' => ?_⟩
        · cases j with
          | zero =>
            simp only [List.getElem?_cons_zero, Option.some.injEq] at hj hr hs
            subst hj hr hs
            exact ⟨sz, hg, by rw [e3 b hn.1, hM1, if_pos rfl]⟩
          | succ j =>
            simp only [List.getElem?_cons_succ] at hj hr hs
            obtain ⟨sz', g1, g2⟩ := e2 j b' r' s' hj hr hs
            have hne : b' ≠ b := fun e => hn.1 (by rw [← e]; exact List.mem_of_getElem? hj)
            exact ⟨sz', by rwa [hM1, if_neg hne] at g1, g2⟩
        · rw [List.mem_cons, not_or] at hb'
          rw [e3 b' hb'.2, hM1, if_neg hb'.1]
end Go.Eng

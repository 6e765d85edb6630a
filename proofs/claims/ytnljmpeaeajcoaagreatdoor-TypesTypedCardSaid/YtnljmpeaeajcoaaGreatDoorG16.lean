/- A part of the proof over this seat's program: the checked evaluator and its soundness (E..), and what it gives here (the others). No condition. -/
import Derived.Test.YtnljmpeaeajcoaaGreatDoorG15
set_option linter.unusedSectionVars false
namespace Go.Eng
open Go
variable [Mode]

/-! what must stand ahead -/
def maskOf (acc : Array Nat) (o : Oper) : Nat := o.after.foldl (fun s e => if Region.binds .any e then s ||| 2 ^ e.on ||| acc.getD e.on 0 else s) 0
theorem mask_dest {acc : Array Nat} {o : Oper} {i : Nat} (h : Nat.testBit (maskOf acc o) i = true) : ∃ e ∈ o.after, Region.binds .any e = true ∧ (e.on = i ∨ Nat.testBit (acc.getD e.on 0) i = true) := by
  unfold maskOf at h
  rw [← Array.foldl_toList] at h
  have key : ∀ (l : List Edge) (s : Nat), Nat.testBit (l.foldl (fun s e => if Region.binds .any e then s ||| 2 ^ e.on ||| acc.getD e.on 0 else s) s) i = true →
      Nat.testBit s i = true ∨ ∃ e ∈ l, Region.binds .any e = true ∧ (e.on = i ∨ Nat.testBit (acc.getD e.on 0) i = true) := by
    intro l
    induction l with
    | nil => intro s h; exact .inl h
    | cons e l ih =>
      intro s h
      rw [List.foldl_cons] at h
      rcases ih _ h with h | ⟨e', he', hb⟩
      · by_cases hb : Region.binds .any e = true
        · rw [if_pos hb, Nat.testBit_or, Nat.testBit_or, Nat.testBit_two_pow] at h
          simp only [Bool.or_eq_true, decide_eq_true_eq] at h
          rcases h with (h | h) | h
          · exact .inl h
          · exact .inr ⟨e, List.mem_cons_self, hb, .inl h⟩
          · exact .inr ⟨e, List.mem_cons_self, hb, .inr h⟩
        · rw [if_neg hb] at h; exact .inl h
      · exact .inr ⟨e', List.mem_cons_of_mem _ he', hb⟩
  rcases key _ _ h with h | ⟨e, he, hb⟩
  · simp at h
  · exact ⟨e, by simpa using he, hb⟩

theorem before_eq (ops : Array Oper) : Region.before ops = ops.toList.foldl (fun acc o => acc.push (maskOf acc o)) #[] := by
  unfold Region.before
  rw [← Array.foldl_toList]
  rfl
theorem foldB : ∀ (l : List Oper) (acc : Array Nat), (∀ k, k < acc.size → (l.foldl (fun acc o => acc.push (maskOf acc o)) acc)[k]? = acc[k]?) ∧
    ∀ (j : Nat) (o : Oper), l[j]? = some o → ∃ acc' : Array Nat, acc'.size = acc.size + j ∧ (∀ k, k < acc'.size → (l.foldl (fun acc o => acc.push (maskOf acc o)) acc)[k]? = acc'[k]?) ∧ (l.foldl (fun acc o => acc.push (maskOf acc o)) acc)[acc.size + j]? = some (maskOf acc' o) := by
  intro l
  induction l with
  | nil => intro acc; exact ⟨fun k hk => rfl, fun j o h => by simp at h⟩
  | cons o l ih =>
    intro acc
    obtain ⟨h1, h2⟩ := ih (acc.push (maskOf acc o))
    have hold : ∀ k, k < acc.size → ((o :: l).foldl (fun acc o => acc.push (maskOf acc o)) acc)[k]? = acc[k]? := fun k hk => by
      rw [List.foldl_cons, h1 k (by simp; omega), Array.getElem?_push, if_neg (by omega)]
    refine ⟨hold, fun j q hj => ?_⟩
    cases j with
    | zero =>
      obtain rfl : o = q := by simpa using hj
      refine ⟨acc, rfl, hold, ?_⟩
      rw [List.foldl_cons, Nat.add_zero, h1 acc.size (by simp), Array.getElem?_push, if_pos rfl]
    | succ j =>
      obtain ⟨acc', a1, a2, a3⟩ := h2 j q (by simpa using hj)
      refine ⟨acc', by simp at a1; omega, fun k hk => by rw [List.foldl_cons]; exact a2 k hk, ?_⟩
      rw [List.foldl_cons]
      have : (acc.push (maskOf acc o)).size + j = acc.size + (j + 1) := by simp; omega
      rw [this] at a3
      exact a3

theorem anc_dest {ops : Array Oper} {i j : Nat} {o : Oper} (ho : ops[j]? = some o) (hlt : ∀ e ∈ o.after, Region.binds .any e = true → e.on < j) (h : isAnc ops i j = true) :
    ∃ e ∈ o.after, Region.binds .any e = true ∧ (e.on = i ∨ isAnc ops i e.on = true) := by
  obtain ⟨acc', a1, a2, a3⟩ := (foldB ops.toList #[]).2 j o (by simpa using ho)
  rw [← before_eq] at a2 a3
  simp only [List.size_toArray, List.length_nil, Nat.zero_add] at a1 a3
  unfold isAnc ancOf at h
  rw [Array.getD_eq_getD_getElem?, a3] at h
  obtain ⟨e, he, hb, h⟩ := mask_dest h
  refine ⟨e, he, hb, h.imp id fun h => ?_⟩
  unfold isAnc ancOf
  have := a2 e.on (by rw [a1]; exact hlt e he hb)
  rw [Array.getD_eq_getD_getElem?, this]
  rwa [Array.getD_eq_getD_getElem?] at h

theorem drawOk_spec {ops : Array Oper} (h : drawOk ops = true) {j : Nat} {oj : Oper} (hj : ops[j]? = some oj) :
    (∀ e ∈ oj.after, Region.binds .any e = true → e.on < j) ∧ ∀ i oi, i < j → ops[i]? = some oi → isAnc ops i j = true ∨ oi.apart ops oj = true := by
  unfold drawOk at h
  have hlt : j < ops.size := (Array.getElem?_eq_some_iff.1 hj).1
  have := List.all_eq_true.1 h j (List.mem_range.2 hlt)
  rw [hj] at this
  simp only [Bool.and_eq_true] at this
  obtain ⟨h1, h2⟩ := this
  constructor
  · intro e he hb
    have := List.all_eq_true.1 h1 e (by simpa using he)
    simp only [Bool.or_eq_true, Bool.not_eq_true', hb] at this
    rcases this with h | h
    · cases h
    · simpa [Nat.blt_eq] using h
  · intro i oi hi ho
    have := List.all_eq_true.1 h2 i (List.mem_range.2 hi)
    rw [ho] at this
    simp at this
    exact this

theorem apart_dest {ops : Array Oper} {x y : Oper} (h : x.apart ops y = true) : (∀ d, x.dst = some d → d ∉ y.looksAt ops ∧ y.dst ≠ some d) ∧ (∀ d, y.dst = some d → d ∉ x.looksAt ops) := by
  unfold Oper.apart at h
  rw [Bool.and_eq_true] at h
  obtain ⟨h1, h2⟩ := h
  constructor
  · intro d hd
    rw [hd] at h1
    simp only [Bool.and_eq_true, Bool.not_eq_true', bne_iff_ne, ne_eq] at h1
    exact ⟨fun hm => by have := List.contains_iff_mem.2 hm; rw [this] at h1; exact absurd h1.1 (by simp), h1.2⟩
  · intro d hd
    rw [hd] at h2
    simp only [Bool.not_eq_true'] at h2
    exact fun hm => by have := List.contains_iff_mem.2 hm; rw [this] at h2; exact absurd h2 (by simp)

/-- the value that a temporary holds when just the operations of L have run -/
def Cur (ops : Array Oper) (V : Nat → AV) (fr0 : Fr) (L : Nat → Prop) (t : Tmp) (x : Option AV) : Prop :=
  (∃ i o, L i ∧ ops[i]? = some o ∧ o.dst = some t ∧ x = some (V i) ∧ ∀ j q, L j → ops[j]? = some q → q.dst = some t → j ≤ i) ∨
  ((∀ j q, L j → ops[j]? = some q → q.dst ≠ some t) ∧ x = fr0.get t)

theorem Cur.unique {ops : Array Oper} {V : Nat → AV} {fr0 : Fr} {L L' : Nat → Prop} {t : Tmp} {x y : Option AV} (h : Cur ops V fr0 L t x) (k : Cur ops V fr0 L' t y) (hl : ∀ j q, ops[j]? = some q → q.dst = some t → (L j ↔ L' j)) : x = y := by
  rcases h with ⟨i, o, hi, ho, hd, rfl, hmax⟩ | ⟨hn, rfl⟩ <;> rcases k with ⟨i', o', hi', ho', hd', rfl, hmax'⟩ | ⟨hn', rfl⟩
  · have h1 := hmax i' o' ((hl i' o' ho' hd').2 hi') ho' hd'
    have h2 := hmax' i o ((hl i o ho hd).1 hi) ho hd
    rw [Nat.le_antisymm h2 h1]
  · exact absurd hd (hn' i o ((hl i o ho hd).1 hi) ho)
  · exact absurd hd' (hn i' o' ((hl i' o' ho' hd').2 hi') ho')
  · rfl

section
variable {P : Program} {ops : Array Oper} {nt : Nat} {M0 : Mem} {ms : List Mem} {ss : List Nat} {ls : List Ld} {F : Nat → Fr} {V : Nat → AV} {D : Nat → Kind}

theorem cur_text (hF : Facts P ops nt 0 ops.toList M0 none ms ss ls F V D) (t : Tmp) : ∀ i, i ≤ ops.size → Cur ops V (F 0) (fun j => j < i) t ((F i).get t) := by
  intro i
  induction i with
  | zero => intro _; exact .inr ⟨fun j q hj _ => absurd hj (Nat.not_lt_zero _), rfl⟩
  | succ i ih =>
    intro hi
    have ho : ops[i]? = some ops[i] := Array.getElem?_eq_getElem (by omega)
    have hp := hF.fputs i ops[i] (by simp)
    simp only [Nat.zero_add] at hp
    rw [hp.1 t]
    by_cases hd : ops[i].dst = some t
    · rw [if_pos hd]
      exact .inl ⟨i, ops[i], Nat.lt_succ_self _, ho, hd, rfl, fun j q hj _ _ => Nat.le_of_lt_succ hj⟩
    · rw [if_neg hd]
      rcases ih (by omega) with ⟨k, o, hk, hko, hkd, he, hmax⟩ | ⟨hn, he⟩
      · refine .inl ⟨k, o, Nat.lt_succ_of_lt hk, hko, hkd, he, fun j q hj hq hqd => ?_⟩
        rcases Nat.lt_succ_iff_lt_or_eq.1 hj with hj | rfl
        · exact hmax j q hj hq hqd
        · rw [ho] at hq; obtain rfl := Option.some.inj hq; exact absurd hqd hd
      · refine .inr ⟨fun j q hj hq => ?_, he⟩
        rcases Nat.lt_succ_iff_lt_or_eq.1 hj with hj | rfl
        · exact hn j q hj hq
        · rw [ho] at hq; obtain rfl := Option.some.inj hq; exact hd

/-- where a run in any order stands -/
structure Inv (w0 : World) (R : Nat → Prop) (ops : Array Oper) (nt : Nat) (M0 : Mem) (ms : List Mem) (ss : List Nat) (F : Nat → Fr) (V : Nat → AV) (ρ : Env) (listed : Array Bool) (c : Nat) (a : Act) (w : World) : Prop where
  lsize : listed.size = ops.size
  closed : ∀ j, listed.getD j false = true → ∀ i, isAnc ops i j = true → listed.getD i false = true
  pre : ∀ (k s : Nat), ss[k]? = some s → (listed.getD s false = true ↔ k < c)
  cle : c ≤ ss.length
  mem : ∃ M, (M0 :: ms)[c]? = some M ∧ MRel w0 R ρ M w
  size : a.tmps.size = nt
  defers : a.defers = []
  tmps : ∀ t, ∃ x, Cur ops V (F 0) (fun j => listed.getD j false = true) t x ∧ OV ρ x (a.tmps.getD t Go.undef)

theorem getD_set_self {listed : Array Bool} {j : Nat} (h : j < listed.size) : (listed.setIfInBounds j true).getD j false = true := by simp [Array.getD_eq_getD_getElem?, h]
theorem getD_set_iff {listed : Array Bool} {j : Nat} (h : j < listed.size) (k : Nat) : (listed.setIfInBounds j true).getD k false = true ↔ listed.getD k false = true ∨ k = j := by
  by_cases e : k = j
  · subst e; simp [getD_set_self h]
  · rw [getD_set_ne false (Ne.symm e)]; simp [e]

/-- an operation has run: the temporaries -/
theorem inv_put (hok : drawOk ops = true) {listed : Array Bool} {ρ ρ' : Env} {j : Nat} {o : Oper} {a : Act} {cv : Value} (hj : ops[j]? = some o) (hls : listed.size = ops.size) (hnl : listed.getD j true = false)
    (hcl : ∀ j, listed.getD j false = true → ∀ i, isAnc ops i j = true → listed.getD i false = true) (hle : ρ.le ρ') (hd : ∀ d, o.dst = some d → d < nt) (hsz : a.tmps.size = nt)
    (ht : ∀ t, ∃ x, Cur ops V (F 0) (fun j => listed.getD j false = true) t x ∧ OV ρ x (a.tmps.getD t Go.undef)) (hv : VRel ρ' (V j) cv) :
    (a.put o.dst cv).tmps.size = nt ∧ ∀ t, ∃ x, Cur ops V (F 0) (fun k => (listed.setIfInBounds j true).getD k false = true) t x ∧ OV ρ' x ((a.put o.dst cv).tmps.getD t Go.undef) := by
  have hjlt : j < listed.size := by rw [hls]; exact (Array.getElem?_eq_some_iff.1 hj).1
  have hjl : ¬ listed.getD j false = true := by
    rw [Array.getD_eq_getD_getElem?, Array.getElem?_eq_getElem hjlt] at hnl ⊢
    simp at hnl ⊢
    exact hnl
  constructor
  · cases o.dst <;> simp [Act.put, hsz]
  · intro t
    by_cases hdt : o.dst = some t
    · refine ⟨some (V j), .inl ⟨j, o, getD_set_self hjlt, hj, hdt, rfl, fun k q hk hq hqd => ?_⟩, ?_⟩
      · rcases (getD_set_iff hjlt k).1 hk with hk | rfl
        · rcases Nat.lt_or_ge j k with hjk | hjk
          · -- a later writer would have had to wait
            exfalso
            rcases (drawOk_spec hok hq).2 j o hjk hj with h | h
            · exact hjl (hcl k hk j h)
            · exact ((apart_dest h).1 t hdt).2 hqd
          · exact hjk
        · exact Nat.le_refl _
      · rw [hdt]
        have hlt : t < a.tmps.size := by rw [hsz]; exact hd t hdt
        simpa [Act.put, Array.getD_eq_getD_getElem?, hlt] using OV.some hv
    · obtain ⟨x, hx, hr⟩ := ht t
      refine ⟨x, ?_, ?_⟩
      · rcases hx with ⟨i, q, hi, hq, hqd, he, hmax⟩ | ⟨hn, he⟩
        · refine .inl ⟨i, q, (getD_set_iff hjlt i).2 (.inl hi), hq, hqd, he, fun k r hk hr hrd => ?_⟩
          rcases (getD_set_iff hjlt k).1 hk with hk | rfl
          · exact hmax k r hk hr hrd
          · rw [hj] at hr; obtain rfl := Option.some.inj hr; exact absurd hrd hdt
        · refine .inr ⟨fun k r hk hr hrd => ?_, he⟩
          rcases (getD_set_iff hjlt k).1 hk with hk | rfl
          · exact hn k r hk hr hrd
          · rw [hj] at hr; obtain rfl := Option.some.inj hr; exact hdt hrd
      · have : (a.put o.dst cv).tmps.getD t Go.undef = a.tmps.getD t Go.undef := by
          cases hdd : o.dst with
          | none => rfl
          | some d =>
            have hne : d ≠ t := fun e => hdt (by rw [hdd, e])
            simp only [Act.put, Array.getD_eq_getD_getElem?, Array.getElem?_setIfInBounds_ne hne]
        rw [this]
        exact hr.mono hle

/-- what a ready operation looks at is as in the order of the text -/
theorem inv_looks (hok : drawOk ops = true) (hF : Facts P ops nt 0 ops.toList M0 none ms ss ls F V D) {listed : Array Bool} {ρ : Env} {j : Nat} {o : Oper} {a : Act} (hj : ops[j]? = some o) (hls : listed.size = ops.size) (hnl : listed.getD j true = false)
    (hcl : ∀ j, listed.getD j false = true → ∀ i, isAnc ops i j = true → listed.getD i false = true) (hanc : ∀ i, isAnc ops i j = true → listed.getD i false = true)
    (ht : ∀ t, ∃ x, Cur ops V (F 0) (fun j => listed.getD j false = true) t x ∧ OV ρ x (a.tmps.getD t Go.undef)) : ∀ t ∈ o.looksAt ops, OV ρ ((F j).get t) (a.tmps.getD t Go.undef) := by
  have hjs : j < ops.size := (Array.getElem?_eq_some_iff.1 hj).1
  have hjlt : j < listed.size := by rw [hls]; exact hjs
  have hjl : ¬ listed.getD j false = true := by
    rw [Array.getD_eq_getD_getElem?, Array.getElem?_eq_getElem hjlt] at hnl ⊢
    simp at hnl ⊢
    exact hnl
  intro t hm
  obtain ⟨x, hx, hr⟩ := ht t
  have := hx.unique (cur_text hF t j (Nat.le_of_lt hjs)) (fun k q hq hqd => ?_)
  · rw [← this]; exact hr
  · constructor
    · intro hk
      rcases Nat.lt_trichotomy k j with h | rfl | h
      · exact h
      · exact absurd hk hjl
      · exfalso
        rcases (drawOk_spec hok hq).2 j o h hj with h' | h'
        · exact hjl (hcl k hk j h')
        · exact (apart_dest h').2 t hqd hm
    · intro hk
      rcases (drawOk_spec hok hj).2 k q hk hq with h' | h'
      · exact hanc k h'
      · exact absurd hm ((apart_dest h').1 t hqd).1
end
end Go.Eng

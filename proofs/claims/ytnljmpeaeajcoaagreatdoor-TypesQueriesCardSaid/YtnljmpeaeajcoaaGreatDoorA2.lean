/- A part of the proof over this seat's program: the checked evaluator and its soundness, and what it gives here. No condition. -/
import Derived.Test.YtnljmpeaeajcoaaGreatDoorA1
import Derived.LoopN
import Derived.Scope
import Derived.Below
import Derived.Laws.Entries
import Derived.Lib.Bytealg
import Derived.Lib.Builder
import Derived.ChangeSlices

set_option linter.all false

set_option linter.unusedSectionVars false
namespace Go.Eng
open Go
variable [Mode]

/-! what must stand ahead -/
def maskOf (acc : Array Nat) (o : Oper) : Nat := o.after.foldl (fun s e => if Region.binds .any e then s ||| 2 ^ e.on ||| acc.getD e.on 0 else s) 0
theorem mask_dest {acc : Array Nat} {o : Oper} {i : Nat} (h : Nat.testBit (maskOf acc o) i = true) : ∃ e ∈ o.after, Region.binds .any e = true ∧ (e.on = i ∨ Nat.testBit (acc.getD e.on 0) i = true) := by
  unfold maskOf at h
  rw [← Array.foldl_toList] at h
  have key : ∀ (l : List Edge) (s : Nat), Nat.testBit (l.foldl (fun s e => if Region.binds .any e then s ||| 2 ^ e.on ||| acc.getD e.on 0 else s) s) i = true →
      Nat.testBit s i = true ∨ ∃ e ∈ l, Region.binds .any e = true ∧ (e.on = i ∨ Nat.testBit (acc.getD e.on 0) i = true) := by
    intro l
    induction l with
    | nil => intro s h; exact .inl h
    | cons e l ih =>
      intro s h
      rw [List.foldl_cons] at h
      rcases ih _ h with h | ⟨e', he', hb⟩
      · by_cases hb : Region.binds .any e = true
        · rw [if_pos hb, Nat.testBit_or, Nat.testBit_or, Nat.testBit_two_pow] at h
          simp only [Bool.or_eq_true, decide_eq_true_eq] at h
          rcases h with (h | h) | h
          · exact .inl h
          · exact .inr ⟨e, List.mem_cons_self, hb, .inl h⟩
          · exact .inr ⟨e, List.mem_cons_self, hb, .inr h⟩
        · rw [if_neg hb] at h; exact .inl h
      · exact .inr ⟨e', List.mem_cons_of_mem _ he', hb⟩
  rcases key _ _ h with h | ⟨e, he, hb⟩
  · simp at h
  · exact ⟨e, by simpa using he, hb⟩

theorem before_eq (ops : Array Oper) : Region.before ops = ops.toList.foldl (fun acc o => acc.push (maskOf acc o)) #[] := by
  unfold Region.before
  rw [← Array.foldl_toList]
  rfl
theorem foldB : ∀ (l : List Oper) (acc : Array Nat), (∀ k, k < acc.size → (l.foldl (fun acc o => acc.push (maskOf acc o)) acc)[k]? = acc[k]?) ∧
    ∀ (j : Nat) (o : Oper), l[j]? = some o → ∃ acc' : Array Nat, acc'.size = acc.size + j ∧ (∀ k, k < acc'.size → (l.foldl (fun acc o => acc.push (maskOf acc o)) acc)[k]? = acc'[k]?) ∧ (l.foldl (fun acc o => acc.push (maskOf acc o)) acc)[acc.size + j]? = some (maskOf acc' o) := by
  intro l
  induction l with
  | nil => intro acc; exact ⟨fun k hk => rfl, fun j o h => by simp at h⟩
  | cons o l ih =>
    intro acc
    obtain ⟨h1, h2⟩ := ih (acc.push (maskOf acc o))
    have hold : ∀ k, k < acc.size → ((o :: l).foldl (fun acc o => acc.push (maskOf acc o)) acc)[k]? = acc[k]? := fun k hk => by
      rw [List.foldl_cons, h1 k (by simp; omega), Array.getElem?_push, if_neg (by omega)]
    refine ⟨hold, fun j q hj => ?_⟩
    cases j with
    | zero =>
      obtain rfl : o = q := by simpa using hj
      refine ⟨acc, rfl, hold, ?_⟩
      rw [List.foldl_cons, Nat.add_zero, h1 acc.size (by simp), Array.getElem?_push, if_pos rfl]
    | succ j =>
      obtain ⟨acc', a1, a2, a3⟩ := h2 j q (by simpa using hj)
      refine ⟨acc', by simp at a1; omega, fun k hk => by rw [List.foldl_cons]; exact a2 k hk, ?_⟩
      rw [List.foldl_cons]
      have : (acc.push (maskOf acc o)).size + j = acc.size + (j + 1) := by simp; omega
      rw [this] at a3
      exact a3

theorem anc_dest {ops : Array Oper} {i j : Nat} {o : Oper} (ho : ops[j]? = some o) (hlt : ∀ e ∈ o.after, Region.binds .any e = true → e.on < j) (h : isAnc ops i j = true) :
    ∃ e ∈ o.after, Region.binds .any e = true ∧ (e.on = i ∨ isAnc ops i e.on = true) := by
  obtain ⟨acc', a1, a2, a3⟩ := (foldB ops.toList #[]).2 j o (by simpa using ho)
  rw [← before_eq] at a2 a3
  simp only [List.size_toArray, List.length_nil, Nat.zero_add] at a1 a3
  unfold isAnc ancOf at h
  rw [Array.getD_eq_getD_getElem?, a3] at h
  obtain ⟨e, he, hb, h⟩ := mask_dest h
  refine ⟨e, he, hb, h.imp id fun h => ?_⟩
  unfold isAnc ancOf
  have := a2 e.on (by rw [a1]; exact hlt e he hb)
  rw [Array.getD_eq_getD_getElem?, this]
  rwa [Array.getD_eq_getD_getElem?] at h

theorem drawOk_spec {ops : Array Oper} (h : drawOk ops = true) {j : Nat} {oj : Oper} (hj : ops[j]? = some oj) :
    (∀ e ∈ oj.after, Region.binds .any e = true → e.on < j) ∧ ∀ i oi, i < j → ops[i]? = some oi → isAnc ops i j = true ∨ oi.apart ops oj = true := by
  unfold drawOk at h
  have hlt : j < ops.size := (Array.getElem?_eq_some_iff.1 hj).1
  have := List.all_eq_true.1 h j (List.mem_range.2 hlt)
  rw [hj] at this
  simp only [Bool.and_eq_true] at this
  obtain ⟨h1, h2⟩ := this
  constructor
  · intro e he hb
    have := List.all_eq_true.1 h1 e (by simpa using he)
    simp only [Bool.or_eq_true, Bool.not_eq_true', hb] at this
    rcases this with h | h
    · cases h
    · simpa [Nat.blt_eq] using h
  · intro i oi hi ho
    have := List.all_eq_true.1 h2 i (List.mem_range.2 hi)
    rw [ho] at this
    simp at this
    exact this

theorem apart_dest {ops : Array Oper} {x y : Oper} (h : x.apart ops y = true) : (∀ d, x.dst = some d → d ∉ y.looksAt ops ∧ y.dst ≠ some d) ∧ (∀ d, y.dst = some d → d ∉ x.looksAt ops) := by
  unfold Oper.apart at h
  rw [Bool.and_eq_true] at h
  obtain ⟨h1, h2⟩ := h
  constructor
  · intro d hd
    rw [hd] at h1
    simp only [Bool.and_eq_true, Bool.not_eq_true', bne_iff_ne, ne_eq] at h1
    exact ⟨fun hm => by have := List.contains_iff_mem.2 hm; rw [this] at h1; exact absurd h1.1 (by simp), h1.2⟩
  · intro d hd
    rw [hd] at h2
    simp only [Bool.not_eq_true'] at h2
    exact fun hm => by have := List.contains_iff_mem.2 hm; rw [this] at h2; exact absurd h2 (by simp)

/-- the value that a temporary holds when just the operations of L have run -/
def Cur (ops : Array Oper) (V : Nat → AV) (fr0 : Fr) (L : Nat → Prop) (t : Tmp) (x : Option AV) : Prop :=
  (∃ i o, L i ∧ ops[i]? = some o ∧ o.dst = some t ∧ x = some (V i) ∧ ∀ j q, L j → ops[j]? = some q → q.dst = some t → j ≤ i) ∨
  ((∀ j q, L j → ops[j]? = some q → q.dst ≠ some t) ∧ x = fr0.get t)

theorem Cur.unique {ops : Array Oper} {V : Nat → AV} {fr0 : Fr} {L L' : Nat → Prop} {t : Tmp} {x y : Option AV} (h : Cur ops V fr0 L t x) (k : Cur ops V fr0 L' t y) (hl : ∀ j q, ops[j]? = some q → q.dst = some t → (L j ↔ L' j)) : x = y := by
  rcases h with ⟨i, o, hi, ho, hd, rfl, hmax⟩ | ⟨hn, rfl⟩ <;> rcases k with ⟨i', o', hi', ho', hd', rfl, hmax'⟩ | ⟨hn', rfl⟩
  · have h1 := hmax i' o' ((hl i' o' ho' hd').2 hi') ho' hd'
    have h2 := hmax' i o ((hl i o ho hd).1 hi) ho hd
    rw [Nat.le_antisymm h2 h1]
  · exact absurd hd (hn' i o ((hl i o ho hd).1 hi) ho)
  · exact absurd hd' (hn i' o' ((hl i' o' ho' hd').2 hi') ho')
  · rfl

section
variable {P : Program} {ops : Array Oper} {nt : Nat} {M0 : Mem} {ms : List Mem} {ss : List Nat} {ls : List Ld} {F : Nat → Fr} {V : Nat → AV} {D : Nat → Kind}

theorem cur_text (hF : Facts P ops nt 0 ops.toList M0 none ms ss ls F V D) (t : Tmp) : ∀ i, i ≤ ops.size → Cur ops V (F 0) (fun j => j < i) t ((F i).get t) := by
  intro i
  induction i with
  | zero => intro _; exact .inr ⟨fun j q hj _ => absurd hj (Nat.not_lt_zero _), rfl⟩
  | succ i ih =>
    intro hi
    have ho : ops[i]? = some ops[i] := Array.getElem?_eq_getElem (by omega)
    have hp := hF.fputs i ops[i] (by simp)
    simp only [Nat.zero_add] at hp
    rw [hp.1 t]
    by_cases hd : ops[i].dst = some t
    · rw [if_pos hd]
      exact .inl ⟨i, ops[i], Nat.lt_succ_self _, ho, hd, rfl, fun j q hj _ _ => Nat.le_of_lt_succ hj⟩
    · rw [if_neg hd]
      rcases ih (by omega) with ⟨k, o, hk, hko, hkd, he, hmax⟩ | ⟨hn, he⟩
      · refine .inl ⟨k, o, Nat.lt_succ_of_lt hk, hko, hkd, he, fun j q hj hq hqd => ?_⟩
        rcases Nat.lt_succ_iff_lt_or_eq.1 hj with hj | rfl
        · exact hmax j q hj hq hqd
        · rw [ho] at hq; obtain rfl := Option.some.inj hq; exact absurd hqd hd
      · refine .inr ⟨fun j q hj hq => ?_, he⟩
        rcases Nat.lt_succ_iff_lt_or_eq.1 hj with hj | rfl
        · exact hn j q hj hq
        · rw [ho] at hq; obtain rfl := Option.some.inj hq; exact hd

/-- where a run in any order stands -/
structure Inv (w0 : World) (R : Nat → Prop) (ops : Array Oper) (nt : Nat) (M0 : Mem) (ms : List Mem) (ss : List Nat) (F : Nat → Fr) (V : Nat → AV) (ρ : Env) (listed : Array Bool) (c : Nat) (a : Act) (w : World) : Prop where
  lsize : listed.size = ops.size
  closed : ∀ j, listed.getD j false = true → ∀ i, isAnc ops i j = true → listed.getD i false = true
  pre : ∀ (k s : Nat), ss[k]? = some s → (listed.getD s false = true ↔ k < c)
  cle : c ≤ ss.length
  mem : ∃ M, (M0 :: ms)[c]? = some M ∧ MRel w0 R ρ M w
  size : a.tmps.size = nt
  defers : a.defers = []
  tmps : ∀ t, ∃ x, Cur ops V (F 0) (fun j => listed.getD j false = true) t x ∧ OV ρ x (a.tmps.getD t Go.undef)

theorem getD_set_self {listed : Array Bool} {j : Nat} (h : j < listed.size) : (listed.setIfInBounds j true).getD j false = true := by simp [Array.getD_eq_getD_getElem?, h]
theorem getD_set_iff {listed : Array Bool} {j : Nat} (h : j < listed.size) (k : Nat) : (listed.setIfInBounds j true).getD k false = true ↔ listed.getD k false = true ∨ k = j := by
  by_cases e : k = j
  · subst e; simp [getD_set_self h]
  · rw [getD_set_ne false (Ne.symm e)]; simp [e]

/-- an operation has run: the temporaries -/
theorem inv_put (hok : drawOk ops = true) {listed : Array Bool} {ρ ρ' : Env} {j : Nat} {o : Oper} {a : Act} {cv : Value} (hj : ops[j]? = some o) (hls : listed.size = ops.size) (hnl : listed.getD j true = false)
    (hcl : ∀ j, listed.getD j false = true → ∀ i, isAnc ops i j = true → listed.getD i false = true) (hle : ρ.le ρ') (hd : ∀ d, o.dst = some d → d < nt) (hsz : a.tmps.size = nt)
    (ht : ∀ t, ∃ x, Cur ops V (F 0) (fun j => listed.getD j false = true) t x ∧ OV ρ x (a.tmps.getD t Go.undef)) (hv : VRel ρ' (V j) cv) :
    (a.put o.dst cv).tmps.size = nt ∧ ∀ t, ∃ x, Cur ops V (F 0) (fun k => (listed.setIfInBounds j true).getD k false = true) t x ∧ OV ρ' x ((a.put o.dst cv).tmps.getD t Go.undef) := by
  have hjlt : j < listed.size := by rw [hls]; exact (Array.getElem?_eq_some_iff.1 hj).1
  have hjl : ¬ listed.getD j false = true := by
    rw [Array.getD_eq_getD_getElem?, Array.getElem?_eq_getElem hjlt] at hnl ⊢
    simp at hnl ⊢
    exact hnl
  constructor
  · cases o.dst <;> simp [Act.put, hsz]
  · intro t
    by_cases hdt : o.dst = some t
    · refine ⟨some (V j), .inl ⟨j, o, getD_set_self hjlt, hj, hdt, rfl, fun k q hk hq hqd => ?_⟩, ?_⟩
      · rcases (getD_set_iff hjlt k).1 hk with hk | rfl
        · rcases Nat.lt_or_ge j k with hjk | hjk
          · -- a later writer would have had to wait
            exfalso
            rcases (drawOk_spec hok hq).2 j o hjk hj with h | h
            · exact hjl (hcl k hk j h)
            · exact ((apart_dest h).1 t hdt).2 hqd
          · exact hjk
        · exact Nat.le_refl _
      · rw [hdt]
        have hlt : t < a.tmps.size := by rw [hsz]; exact hd t hdt
        simpa [Act.put, Array.getD_eq_getD_getElem?, hlt] using OV.some hv
    · obtain ⟨x, hx, hr⟩ := ht t
      refine ⟨x, ?_, ?_⟩
      · rcases hx with ⟨i, q, hi, hq, hqd, he, hmax⟩ | ⟨hn, he⟩
        · refine .inl ⟨i, q, (getD_set_iff hjlt i).2 (.inl hi), hq, hqd, he, fun k r hk hr hrd => ?_⟩
          rcases (getD_set_iff hjlt k).1 hk with hk | rfl
          · exact hmax k r hk hr hrd
          · rw [hj] at hr; obtain rfl := Option.some.inj hr; exact absurd hrd hdt
        · refine .inr ⟨fun k r hk hr hrd => ?_, he⟩
          rcases (getD_set_iff hjlt k).1 hk with hk | rfl
          · exact hn k r hk hr hrd
          · rw [hj] at hr; obtain rfl := Option.some.inj hr; exact hdt hrd
      · have : (a.put o.dst cv).tmps.getD t Go.undef = a.tmps.getD t Go.undef := by
          cases hdd : o.dst with
          | none => rfl
          | some d =>
            have hne : d ≠ t := fun e => hdt (by rw [hdd, e])
            simp only [Act.put, Array.getD_eq_getD_getElem?, Array.getElem?_setIfInBounds_ne hne]
        rw [this]
        exact hr.mono hle

/-- what a ready operation looks at is as in the order of the text -/
theorem inv_looks (hok : drawOk ops = true) (hF : Facts P ops nt 0 ops.toList M0 none ms ss ls F V D) {listed : Array Bool} {ρ : Env} {j : Nat} {o : Oper} {a : Act} (hj : ops[j]? = some o) (hls : listed.size = ops.size) (hnl : listed.getD j true = false)
    (hcl : ∀ j, listed.getD j false = true → ∀ i, isAnc ops i j = true → listed.getD i false = true) (hanc : ∀ i, isAnc ops i j = true → listed.getD i false = true)
    (ht : ∀ t, ∃ x, Cur ops V (F 0) (fun j => listed.getD j false = true) t x ∧ OV ρ x (a.tmps.getD t Go.undef)) : ∀ t ∈ o.looksAt ops, OV ρ ((F j).get t) (a.tmps.getD t Go.undef) := by
  have hjs : j < ops.size := (Array.getElem?_eq_some_iff.1 hj).1
  have hjlt : j < listed.size := by rw [hls]; exact hjs
  have hjl : ¬ listed.getD j false = true := by
    rw [Array.getD_eq_getD_getElem?, Array.getElem?_eq_getElem hjlt] at hnl ⊢
    simp at hnl ⊢
    exact hnl
  intro t hm
  obtain ⟨x, hx, hr⟩ := ht t
  have := hx.unique (cur_text hF t j (Nat.le_of_lt hjs)) (fun k q hq hqd => ?_)
  · rw [← this]; exact hr
  · constructor
    · intro hk
      rcases Nat.lt_trichotomy k j with h | rfl | h
      · exact h
      · exact absurd hk hjl
      · exfalso
        rcases (drawOk_spec hok hq).2 j o h hj with h' | h'
        · exact hjl (hcl k hk j h')
        · exact (apart_dest h').2 t hqd hm
    · intro hk
      rcases (drawOk_spec hok hj).2 k q hk hq with h' | h'
      · exact hanc k h'
      · exact absurd hm ((apart_dest h').1 t hqd).1
end
end Go.Eng

set_option linter.unusedSectionVars false
namespace Go.Eng
open Go
variable [Mode]

/-- how many are yet to run -/
def unl (n : Nat) (listed : Array Bool) : Nat := ((List.range n).filter fun i => !listed.getD i true).length

theorem filter_less {α : Type} (p q : α → Bool) : ∀ (l : List α), (∀ x, q x = true → p x = true) → (∃ x ∈ l, p x = true ∧ q x = false) → (l.filter q).length < (l.filter p).length := by
  intro l hqp
  have hle : ∀ l : List α, (l.filter q).length ≤ (l.filter p).length := by
    intro l
    induction l with
    | nil => simp
    | cons x l ih =>
      simp only [List.filter_cons]
      cases hq : q x with
      | true => rw [hqp x hq]; simpa using ih
      | false =>
        cases hp : p x with
        | true => simp; omega
        | false => simpa using ih
  induction l with
  | nil => rintro ⟨x, hx, _⟩; cases hx
  | cons x l ih =>
    rintro ⟨y, hy, hpy, hqy⟩
    simp only [List.filter_cons]
    rcases List.mem_cons.1 hy with rfl | hy
    · rw [hpy, hqy]
      have := hle l
      simp; omega
    · have := ih ⟨y, hy, hpy, hqy⟩
      cases hq : q x with
      | true => rw [hqp x hq]; simpa using this
      | false =>
        cases hp : p x with
        | true => simp; omega
        | false => simpa using this

theorem unl_less {n : Nat} {listed : Array Bool} {j : Nat} (hj : j < n) (hs : listed.size = n) (hl : listed.getD j true = false) : unl n (listed.setIfInBounds j true) < unl n listed := by
  refine filter_less _ _ _ (fun x hx => ?_) ⟨j, List.mem_range.2 hj, by simp [hl], ?_⟩
  · by_cases e : x = j
    · subst e; simp [hl]
    · rw [getD_set_ne true (Ne.symm e)] at hx; exact hx
  · simp [Array.getD_eq_getD_getElem?, hs, hj]

section
variable {P : Program} {ops : Array Oper} {nt : Nat} {M0 : Mem} {ms : List Mem} {ss : List Nat} {ls : List Ld} {F : Nat → Fr} {V : Nat → AV} {D : Nat → Kind} {w0 : World} {R : Nat → Prop} {Q : Exit → Act → World → Prop}

theorem asc_unique {ss : List Nat} (h : ss.Pairwise (· < ·)) {k k' s : Nat} (hk : ss[k]? = some s) (hk' : ss[k']? = some s) : k = k' := by
  rw [List.pairwise_iff_getElem] at h
  obtain ⟨a, b⟩ := List.getElem?_eq_some_iff.1 hk
  obtain ⟨a', b'⟩ := List.getElem?_eq_some_iff.1 hk'
  rcases Nat.lt_trichotomy k k' with hlt | e | hlt
  · have := h k k' a a' hlt; omega
  · exact e
  · have := h k' k a' a hlt; omega

theorem rev_get {α : Type} (l : List α) (d : Nat) (h : d < l.length) : l.reverse[d]? = l[l.length - 1 - d]? := by
  rw [List.getElem?_reverse h]

theorem draw_any (_hm : P.follows .mixedOrders = true) (hok : drawOk ops = true) (hF : Facts P ops nt 0 ops.toList M0 none ms ss ls F V D) {M' : Mem} (hlast : (M0 :: ms).getLast? = some M')
    (hchk : ss.reverse = [] ∨ ∀ x ∈ ls, chkLoad P ops x (ms.reverse ++ [M0]) ss.reverse none = true) {ρ0 : Env}
    (hQ : ∀ ρ' a' w', ρ0.le ρ' → FRel ρ' nt (F ops.size) a' → MRel w0 R ρ' M' w' → Q .normal a' w') :
    ∀ (fuel : Nat) (listed : Array Bool) (c : Nat) (ρ : Env) (a : Act) (w : World), unl ops.size listed ≤ fuel → ρ0.le ρ → Inv w0 R ops nt M0 ms ss F V ρ listed c a w → wpAny P .any ops Q fuel listed a w := by
  -- nothing ready: all have run
  have hend : ∀ (listed : Array Bool) (c : Nat) (ρ : Env) (a : Act) (w : World), ρ0.le ρ → Inv w0 R ops nt M0 ms ss F V ρ listed c a w → Region.ready .any ops listed = [] → Q .normal a w := by
    intro listed c ρ a w hρ hI hr
    have hall : ∀ j, j < ops.size → listed.getD j false = true := by
      intro j
      induction j using Nat.strongRecOn with
      | _ j ih =>
        intro hj
        by_cases hl : listed.getD j true = false
        · exfalso
          have ho : ops[j]? = some ops[j] := Array.getElem?_eq_getElem hj
          have : j ∈ Region.ready .any ops listed := mem_ready.2 ⟨hl, ops[j], ho, fun e he hb => by
            have hlt := (drawOk_spec hok ho).1 e he hb
            exact ih e.on hlt (by omega)⟩
          rw [hr] at this; cases this
        · have hjl : j < listed.size := by rw [hI.lsize]; exact hj
          rw [Array.getD_eq_getD_getElem?, Array.getElem?_eq_getElem hjl] at hl ⊢
          simpa using hl
    have hc : c = ss.length := by
      rcases Nat.lt_or_ge c ss.length with h | h
      · obtain ⟨s, hs⟩ : ∃ s, ss[c]? = some s := ⟨ss[c], List.getElem?_eq_getElem h⟩
        have h1 := hF.fmem s (List.mem_of_getElem? hs)
        have := (hI.pre c s hs).1 (hall s (by simpa using h1.2.1))
        omega
      · exact Nat.le_antisymm hI.cle h
    obtain ⟨M, hM, hMR⟩ := hI.mem
    have hMM : M = M' := by
      rw [hc, ← hF.flen] at hM
      rw [List.getLast?_eq_getElem?] at hlast
      simp at hlast hM
      rw [hM] at hlast
      exact hlast
    subst hMM
    refine hQ ρ a w hρ ⟨hI.size, hI.defers, fun t => ?_⟩ hMR
    obtain ⟨x, hx, hrx⟩ := hI.tmps t
    have := hx.unique (cur_text hF t ops.size (Nat.le_refl _)) (fun j q hq _ => ⟨fun _ => (Array.getElem?_eq_some_iff.1 hq).1, fun _ => hall j (Array.getElem?_eq_some_iff.1 hq).1⟩)
    rw [← this]; exact hrx
  intro fuel
  induction fuel with
  | zero =>
    intro listed c ρ a w hu hρ hI
    have hr : Region.ready .any ops listed = [] := by
      cases h : Region.ready .any ops listed with
      | nil => rfl
      | cons j l =>
        exfalso
        have hj : j ∈ Region.ready .any ops listed := by rw [h]; exact List.mem_cons_self
        obtain ⟨hl, o, ho, _⟩ := mem_ready.1 hj
        have : j ∈ (List.range ops.size).filter fun i => !listed.getD i true := List.mem_filter.2 ⟨List.mem_range.2 (Array.getElem?_eq_some_iff.1 ho).1, by simp [hl]⟩
        unfold unl at hu
        have := List.length_pos_of_mem this
        omega
    exact ⟨hr, hend listed c ρ a w hρ hI hr⟩
  | succ fuel ih =>
    intro listed c ρ a w hu hρ hI
    refine ⟨hend listed c ρ a w hρ hI, fun j hj => ?_⟩
    obtain ⟨hl, o, ho, hedges⟩ := mem_ready.1 hj
    have hjs : j < ops.size := (Array.getElem?_eq_some_iff.1 ho).1
    have hjlt : j < listed.size := by rw [hI.lsize]; exact hjs
    have hjl : ¬ listed.getD j false = true := by
      have h := hl
      rw [Array.getD_eq_getD_getElem?, Array.getElem?_eq_getElem hjlt] at h ⊢
      simp at h ⊢
      exact h
    have hanc : ∀ i, isAnc ops i j = true → listed.getD i false = true := by
      intro i hi
      obtain ⟨e, he, hb, h⟩ := anc_dest ho (drawOk_spec hok ho).1 hi
      rcases h with rfl | h
      · exact hedges e he hb
      · exact hI.closed e.on (hedges e he hb) i h
    have hlooks := inv_looks hok hF ho hI.lsize hl hI.closed hanc hI.tmps
    have hojs : ops.toList[j]? = some o := by simpa using ho
    have hputs := hF.fputs j o hojs
    simp only [Nat.zero_add] at hputs
    have hu' : unl ops.size (listed.setIfInBounds j true) ≤ fuel := by have := unl_less hjs hI.lsize hl; omega
    have hclosed' : ∀ k, (listed.setIfInBounds j true).getD k false = true → ∀ i, isAnc ops i k = true → (listed.setIfInBounds j true).getD i false = true := by
      intro k hk i hi
      rcases (getD_set_iff hjlt k).1 hk with hk | rfl
      · exact getD_set_true (hI.closed k hk i hi)
      · exact getD_set_true (hanc i hi)
    have hrelX : ∀ x ∈ o.op.operands, RelX ρ (F j) x (a.eval x) := fun x hx => relX_of fun t e => by subst e; exact hlooks t (looks_operand hx)
    -- what is left to say once the operation has given a value
    have hnext : ∀ (c' : Nat) (ρ' : Env) (cv : Value) (w' : World), ρ.le ρ' → VRel ρ' (V j) cv → (∀ (k s : Nat), ss[k]? = some s → ((listed.setIfInBounds j true).getD s false = true ↔ k < c')) → c' ≤ ss.length →
        (∃ M, (M0 :: ms)[c']? = some M ∧ MRel w0 R ρ' M w') → wpAny P .any ops Q fuel (listed.setIfInBounds j true) (a.put o.dst cv) w' := by
      intro c' ρ' cv w' hle hv hpre hcle hmem
      obtain ⟨hsz', ht'⟩ := inv_put hok ho hI.lsize hl hI.closed hle hputs.2 hI.size hI.tmps hv
      refine ih _ c' ρ' _ w' hu' (hρ.trans hle) ⟨by simp [hI.lsize], hclosed', hpre, hcle, hmem, hsz', ?_, ht'⟩
      cases o.dst <;> exact hI.defers
    -- an operation that is none on memory leaves the memory where it stands
    have hstay : (∀ s ∈ ss, s ≠ j) → ∀ (k s : Nat), ss[k]? = some s → ((listed.setIfInBounds j true).getD s false = true ↔ k < c) := by
      intro hne k s hs
      rw [getD_set_iff hjlt]
      have := hne s (List.mem_of_getElem? hs)
      simp only [this, or_false]
      exact hI.pre k s hs
    obtain ⟨M, hM, hMR⟩ := hI.mem
    unfold wpOp
    rw [ho]
    simp only
    cases hk : D j with
    | off =>
      obtain ⟨hw, hv⟩ := hF.foff j o hojs (by simpa using hk)
      simp only [Nat.zero_add] at hw hv
      rw [hw ρ a.tmps hlooks]
      simp only [Bool.false_eq_true, if_false]
      refine hnext c ρ Go.undef w (.refl _) (by rw [hv]; exact .undef) (hstay fun s hs e => ?_) hI.cle ⟨M, hM, hMR⟩
      have := (hF.fmem s hs).2.2
      rw [e, hk] at this; cases this
    | pure =>
      obtain ⟨hw, hs⟩ := hF.fpure j o hojs (by simpa using hk)
      simp only [Nat.zero_add] at hw hs
      rw [hw ρ a.tmps hlooks]
      simp only [if_true]
      refine .inl (hs M w0 R ρ a w hMR hrelX _ Q fun ρ' cv w' hle hv hM' => ?_)
      refine hnext c ρ' cv w' hle hv (hstay fun s hs e => ?_) hI.cle ⟨M, hM, hM'⟩
      have := (hF.fmem s hs).2.2
      rw [e, hk] at this; cases this
    | load t x p =>
      obtain ⟨hw, hop, hev, c0, N, hN, hld, hmem⟩ := hF.fload j o t x p hojs (by simpa using hk)
      simp only [Nat.zero_add] at hw hev hmem hld
      rw [hw ρ a.tmps hlooks]
      simp only [if_true]
      -- the load gives the same in this memory
      have hload : c0 ≠ c → (∀ x ∈ ls, chkLoad P ops x (ms.reverse ++ [M0]) ss.reverse none = true) → loadA P t p M (fun v => eqM (V j) v) = true := by
        intro hne hchk
        have hc := hchk _ hmem
        have hlen := hF.flen
        have hcl := hI.cle
        have hc0 : c0 ≤ ss.length := by have := (List.getElem?_eq_some_iff.1 hN).1; simp at this; omega
        refine chkLoad_sound _ _ _ hc (ss.length - c) M ?_ ?_ (fun s hs => ?_) (fun s hs => ?_)
        · have e : ms.reverse ++ [M0] = (M0 :: ms).reverse := by simp
          rw [e, rev_get _ _ (by simp; omega)]
          have : (M0 :: ms).length - 1 - (ss.length - c) = c := by simp; omega
          rw [this]; exact hM
        · have e1 : ss.reverse[ss.length - c]? = if c = 0 then none else ss[c - 1]? := by
            by_cases hz : c = 0
            · rw [if_pos hz, List.getElem?_eq_none_iff.2 (by simp; omega)]
            · rw [if_neg hz, rev_get _ _ (by omega)]
              congr 1
              omega
          rw [e1]
          show sameP _ (if c0 = 0 then none else ss[c0 - 1]?) = false
          by_cases hz : c = 0
          · rw [if_pos hz, if_neg (by omega), List.getElem?_eq_getElem (by omega)]; rfl
          · rw [if_neg hz, List.getElem?_eq_getElem (by omega)]
            by_cases hz0 : c0 = 0
            · rw [if_pos hz0]; rfl
            · rw [if_neg hz0, List.getElem?_eq_getElem (by omega)]
              refine nbeq_ne fun e => hne ?_
              have h1 : ss[c - 1]? = some ss[c - 1] := List.getElem?_eq_getElem (by omega)
              have h2 : ss[c0 - 1]? = some ss[c - 1] := by rw [e]; exact List.getElem?_eq_getElem (by omega)
              have := asc_unique hF.fasc h1 h2
              omega
        · -- the last that has run
          cases h : isAnc ops j s with
          | false => rfl
          | true =>
            exfalso
            have hd : ss.length - c < ss.length := by
              have := (List.getElem?_eq_some_iff.1 hs).1
              simpa using this
            rw [rev_get _ _ hd] at hs
            have e : ss.length - 1 - (ss.length - c) = c - 1 := by omega
            rw [e] at hs
            exact hjl (hI.closed s ((hI.pre (c - 1) s hs).2 (by omega)) j h)
        · -- the next that is to run
          cases h : isAnc ops s j with
          | false => rfl
          | true =>
            exfalso
            by_cases hz : ss.length - c = 0
            · rw [if_pos hz] at hs; cases hs
            · rw [if_neg hz, rev_get _ _ (by omega)] at hs
              have e : ss.length - 1 - (ss.length - c - 1) = c := by omega
              rw [e] at hs
              have := (hI.pre c s hs).1 (hanc s h)
              omega
      have hsim : LoadSim P t p M (V j) := by
        by_cases hcc : c0 = c
        · subst hcc
          rw [hM] at hN
          obtain rfl := Option.some.inj hN
          exact hld
        · rcases hchk with he | hchk
          · exfalso
            have he' : ss = [] := by simpa using he
            have hcl := hI.cle
            have hlen := hF.flen
            have := (List.getElem?_eq_some_iff.1 hN).1
            have h0 : ss.length = 0 := by rw [he']; rfl
            simp only [List.length_cons] at this
            omega
          · obtain ⟨v', hbeq, hsim⟩ := loadA_sound (hload hcc hchk)
            rw [eqM_sound hbeq]; exact hsim
      have hstate : StateSim P o (F j) M (V j) M := by
        refine .of_run fun w0 R ρ vals w hM hx => ?_
        obtain ⟨cv, hv, hrun⟩ := hsim w0 R ρ w _ hM (hx x (by rw [hop]; simp [Op.operands]) _ hev)
        exact ⟨ρ, cv, w, .refl _, hv, hM, .inl (by simp [execOp, hop, hrun])⟩
      refine .inl (hstate w0 R ρ a w hMR hrelX _ Q fun ρ' cv w' hle hv hM' => ?_)
      refine hnext c ρ' cv w' hle hv (hstay fun s hs e => ?_) hI.cle ⟨M, hM, hM'⟩
      have := (hF.fmem s hs).2.2
      rw [e, hk] at this; cases this
    | state =>
      obtain ⟨hw, c', M1, M2, h1, h2, h3, hs⟩ := hF.fstate j o hojs (by simpa using hk)
      simp only [Nat.zero_add] at hw h1 hs
      rw [hw ρ a.tmps hlooks]
      simp only [if_true]
      -- it is the next one of the chain
      have hcc : c' = c := by
        have hnot : ¬ c' < c := fun h => hjl ((hI.pre c' j h1).2 h)
        rcases Nat.lt_or_ge c c' with h | h
        · exfalso
          have hcl : c' < ss.length := (List.getElem?_eq_some_iff.1 h1).1
          obtain ⟨s, hsp⟩ : ∃ s, ss[c' - 1]? = some s := ⟨_, List.getElem?_eq_getElem (by omega)⟩
          have hch := hF.fchain (c' - 1) s j hsp (by rw [show c' - 1 + 1 = c' from by omega]; exact h1)
          have := (hI.pre (c' - 1) s hsp).1 (hanc s hch)
          omega
        · omega
      subst hcc
      rw [hM] at h2
      obtain rfl := Option.some.inj h2
      refine .inl (hs w0 R ρ a w hMR hrelX _ Q fun ρ' cv w' hle hv hM' => ?_)
      refine hnext (c' + 1) ρ' cv w' hle hv (fun k s hsk => ?_) (by have := (List.getElem?_eq_some_iff.1 h1).1; omega) ⟨M2, by simpa using h3, hM'⟩
      rw [getD_set_iff hjlt, hI.pre k s hsk]
      constructor
      · rintro (h | rfl)
        · omega
        · rw [asc_unique hF.fasc hsk h1]; omega
      · intro h
        rcases Nat.lt_succ_iff_lt_or_eq.1 h with h | rfl
        · exact .inl h
        · rw [h1] at hsk; exact .inr (Option.some.inj hsk).symm
end

theorem runDraw_sound {P : Program} (hm : P.follows .mixedOrders = true) {call : FuncId → List AV → Mem → (AV → Mem → Bool) → Bool} (hcall : ∀ f args M K, call f args M K = true → ∃ v M', K v M' = true ∧ CSim P f args M v M')
    {nt : Nat} {ops : Array Oper} {fr : Fr} {M : Mem} {K : Fr → Mem → Bool} (hok : drawOk ops = true) (h : runDraw P call nt ops ops.toList 0 fr M [M] [] [] K = true) :
    ∃ fr' M', K fr' M' = true ∧ ∀ w0 R ρ (a : Act) w, FRel ρ nt fr a → MRel w0 R ρ M w → ∀ Q : Exit → Act → World → Prop, (∀ ρ' a' w', ρ.le ρ' → FRel ρ' nt fr' a' → MRel w0 R ρ' M' w' → Q .normal a' w') →
      ∀ id, (Code.region id ops true).wp P Q a w := by
  obtain ⟨fr', M', ms, ss, ls, hK, hc, hr⟩ := runDraw_run hcall _ _ _ _ _ _ _ _ h
  obtain ⟨hlast, F, V, D, h1, h2, hF⟩ := hr.facts
  simp only [Nat.zero_add, Array.length_toList] at h2
  refine ⟨fr', M', hK, fun w0 R ρ a w hFr hM Q hQ id => wp_region_any hm ?_⟩
  have hchk := chkLoads_sound _ hc
  simp only [List.append_nil, List.mem_reverse] at hchk
  have hunl : unl ops.size (Array.replicate ops.size false) ≤ ops.size := by
    unfold unl
    have := List.length_filter_le (fun i => !(Array.replicate ops.size false).getD i true) (List.range ops.size)
    simpa using this
  have hfalse : ∀ j, ¬ (Array.replicate ops.size false).getD j false = true := by
    intro j
    rw [Array.getD_eq_getD_getElem?, Array.getElem?_replicate]
    split <;> simp
  refine draw_any hm hok hF hlast hchk (ρ0 := ρ) (fun ρ' a' w' hle hf hM' => hQ ρ' a' w' hle (by rw [← h2]; exact hf) hM') _ _ 0 ρ a _ hunl (.refl _) ⟨by simp, fun j hj => absurd hj (hfalse j), fun k s _ => ⟨fun hj => absurd hj (hfalse s), fun hk => absurd hk (Nat.not_lt_zero _)⟩, Nat.zero_le _, ⟨M, by simp, hM.drew⟩, hFr.size, hFr.defers, fun t => ⟨(F 0).get t, .inr ⟨fun j q hj _ => absurd hj (hfalse j), rfl⟩, ?_⟩⟩
  rw [h1]
  exact hFr.rel t
end Go.Eng

set_option linter.unusedSectionVars false
namespace Go.Eng
open Go
variable [Mode]

def AE.toExit : AE → Exit
  | .normal => .normal
  | .ret => .ret
  | .exit id => .exit id

/-- what a piece of code comes to -/
def Rests (w0 : World) (R : Nat → Prop) (ρ : Env) (nt : Nat) (o : AE) (fr' : Fr) (M' : Mem) (Q : Exit → Act → World → Prop) : Prop :=
  ∀ ρ' a' w', ρ.le ρ' → FRel ρ' nt fr' a' → MRel w0 R ρ' M' w' → Q o.toExit a' w'
def CodeSim (P : Program) (nt : Nat) (c : Code) (fr : Fr) (M : Mem) (o : AE) (fr' : Fr) (M' : Mem) : Prop :=
  ∀ w0 R ρ (a : Act) w, FRel ρ nt fr a → MRel w0 R ρ M w → ∀ Q : Exit → Act → World → Prop, Rests w0 R ρ nt o fr' M' Q → c.wp P Q a w
def LoopSim (P : Program) (nt : Nat) (b : Code) (fr : Fr) (M : Mem) (o : AE) (fr' : Fr) (M' : Mem) : Prop :=
  ∃ k, ∀ w0 R ρ (a : Act) w, FRel ρ nt fr a → MRel w0 R ρ M w → ∀ Q : Exit → Act → World → Prop, Rests w0 R ρ nt o fr' M' Q → Code.rounds P b Q k a w
theorem LoopSim.code {P : Program} {nt : Nat} {b : Code} {fr : Fr} {M : Mem} {o : AE} {fr' : Fr} {M' : Mem} (h : LoopSim P nt b fr M o fr' M') : CodeSim P nt (.loop b) fr M o fr' M' := by
  obtain ⟨k, h⟩ := h
  exact fun w0 R ρ a w hF hM Q hQ => wp_loop_rounds k (h w0 R ρ a w hF hM Q hQ)
/-- code, or a loop with its rounds counted -/
def Sim (P : Program) (nt : Nat) (c : Code) (fr : Fr) (M : Mem) (o : AE) (fr' : Fr) (M' : Mem) : Prop :=
  match c with
  | .loop b => LoopSim P nt b fr M o fr' M'
  | c => CodeSim P nt c fr M o fr' M'
theorem Sim.code {P : Program} {nt : Nat} {c : Code} {fr : Fr} {M : Mem} {o : AE} {fr' : Fr} {M' : Mem} (h : Sim P nt c fr M o fr' M') : CodeSim P nt c fr M o fr' M' := by
  cases c <;> first | exact h | exact LoopSim.code h

/-- known blocks as they are before and behind; new blocks -/
def UpsB : List (Nat × Blk × Blk) → Mem → Mem → Prop
  | [], M, M' => M' = M
  | u :: l, M, M' => ∃ M1, M.t.get u.1 = some u.2.1 ∧ (∀ k, M1.t.get k = if k = u.1 then some u.2.2 else M.t.get k) ∧ M1.nx = M.nx ∧ UpsB l M1 M'
def News : List Blk → Mem → Mem → Prop
  | [], M, M' => M' = M
  | b :: l, M, M' => ∃ M1, (∀ k, M1.t.get k = if k = M.nx then some b else M.t.get k) ∧ M1.nx = M.nx + 1 ∧ News l M1 M'
/-- a call that changes the memory does what its entry says -/
def MSpec (P : Program) (f : FuncId) (e : MEnt) : Prop := ∀ M M1 M', M.nx = e.nx → UpsB e.ups M M1 → News e.news M1 M' → CSim P f e.args M e.ans M'
/-- a library function without a body gives what its row of 'extA' says -/
def ExtSpec0 (P : Program) (f : FuncId) (x : Ext) : Prop :=
  (∀ args v, ansOf x args = some v → ∀ ρ (cargs : Array Value), VsRel ρ args cargs.toList → ∀ w, Calls P f cargs w fun e w' => ∃ cv, e = .returned cv ∧ VRel ρ v cv ∧ RowKit.Below w.heap.size w w') ∧
  ∀ args K, extA x args K = true → ∃ v, K v = true ∧ ∀ ρ (cargs : Array Value), VsRel ρ args cargs.toList → ∃ cv, VRel ρ v cv ∧ ∀ w, (callFunc f cargs).run P w = .ok (.value cv) w

def ExtSpec (P : Program) (f : FuncId) (x : Ext) : Prop := match x with | .mem e => MSpec P f e | x => ExtSpec0 P f x
theorem ExtSpec.plain {P : Program} {f : FuncId} {x : Ext} (h : ExtSpec P f x) (hm : memOf (some x) = none) : ExtSpec0 P f x := by
  cases x <;> first | exact h | cases hm

theorem ExtSpec.ext {P : Program} {f : FuncId} {x : Ext} (h : ExtSpec P f x) : ∀ args K, extA x args K = true → ∃ v, K v = true ∧ ∀ ρ (cargs : Array Value), VsRel ρ args cargs.toList → ∃ cv, VRel ρ v cv ∧ ∀ w, (callFunc f cargs).run P w = .ok (.value cv) w := by
  cases x with
  | mem e => intro args K h; exact absurd h (by simp [extA])
  | _ => exact h.2

def ExSound (P : Program) (ex : Nat → Code → Fr → Mem → (AE → Fr → Mem → Bool) → Bool) : Prop :=
  ∀ nt c fr M K, ex nt c fr M K = true → ∃ o fr' M', K o fr' M' = true ∧ Sim P nt c fr M o fr' M'

theorem frInit_sound : ∀ (l : List AV) (i nt : Nat) (fr : Fr) (K : Fr → Bool), frInit l i nt fr K = true →
    ∃ fr', K fr' = true ∧ (l ≠ [] → i + l.length ≤ nt) ∧ ∀ t, fr'.get t = if i ≤ t ∧ t < i + l.length then l[t - i]? else fr.get t := by
  intro l
  induction l with
  | nil => intro i nt fr K h; exact ⟨fr, h, fun e => absurd rfl e, fun t => by rw [if_neg (by simp)]⟩
  | cons a l ih =>
    intro i nt fr K h
    change Bool.rec (motive := fun _ => Bool) false (T.set a fr i fun fr => frInit l (Nat.succ i) nt fr K) (Nat.blt i nt) = true at h
    rw [brec_false] at h
    obtain ⟨hi, h⟩ := h
    have hi : i < nt := by simpa [Nat.blt_eq] using hi
    obtain ⟨fr1, h, ht⟩ := T.set_spec _ _ _ _ h
    obtain ⟨fr', hK, hlen, H⟩ := ih _ _ _ _ h
    refine ⟨fr', hK, fun _ => ?_, fun t => ?_⟩
    · cases l with
      | nil => simp; omega
      | cons b l => have := hlen (by simp); simp at this ⊢; omega
    · rw [H]
      rw [ht]
      by_cases e : t = i
      · subst e
        rw [if_neg (by omega), if_pos rfl, if_pos (by simp)]
        simp
      · by_cases hin : i + 1 ≤ t ∧ t < i + 1 + l.length
        · rw [if_pos hin, if_pos (by simp; omega)]
          have : t - i = (t - (i + 1)) + 1 := by omega
          rw [this]; simp
        · rw [if_neg hin, if_neg e, if_neg (by simp; omega)]

theorem frInit_rel {ρ : Env} {args : List AV} {cargs : Array Value} {nt : Nat} {fr : Fr} (hv : VsRel ρ args cargs.toList) (hlen : args ≠ [] → 0 + args.length ≤ nt)
    (h : ∀ t, fr.get t = if 0 ≤ t ∧ t < 0 + args.length then args[t - 0]? else T.get .nil t) : FRel ρ nt fr { tmps := cargs ++ Array.replicate (nt - cargs.size) Go.undef, defers := [] } := by
  have hl := hv.length
  simp only [Array.length_toList] at hl
  have hle : cargs.size ≤ nt := by
    cases args with
    | nil => simp at hl; omega
    | cons a l => have := hlen (by simp); omega
  refine ⟨by simp; omega, rfl, fun t => ?_⟩
  rw [h]
  by_cases ht : t < args.length
  · rw [if_pos (by omega)]
    obtain ⟨a, ha⟩ : ∃ a, args[t]? = some a := ⟨args[t], List.getElem?_eq_getElem ht⟩
    obtain ⟨v, hv', hr⟩ := hv.get' ha
    have : (cargs ++ Array.replicate (nt - cargs.size) Go.undef).getD t Go.undef = v := by
      rw [Array.getD_eq_getD_getElem?, Array.getElem?_append_left (by omega)]
      simp at hv'
      simp [hv']
    rw [this, Nat.sub_zero, ha]
    exact .some hr
  · rw [if_neg (by omega)]
    intro b e
    rw [T.get_nil] at e
    cases e

/-- a result variable -/
theorem resK_sound {P : Program} {fr : Fr} {M : Mem} : ∀ (l : List ResultVar) (K : List AV → Bool), resK P fr M l K = true →
    ∃ vs, K vs = true ∧ ∀ w0 R ρ (a : Act) w nt, FRel ρ nt fr a → MRel w0 R ρ M w → ∃ cvs, VsRel ρ vs cvs ∧
      (l.mapM (m := Sem) fun
        | .tmp t => pure (a.tmps.getD t Go.undef)
        | .cell x t => do loadVar t (← asAddr (a.tmps.getD x Go.undef))).run P w = .ok cvs w := by
  intro l
  induction l with
  | nil => intro K h; exact ⟨[], h, fun w0 R ρ a w nt hF hM => ⟨[], .nil, by simp⟩⟩
  | cons r l ih =>
    intro K h
    cases r with
    | tmp t =>
      change (getT fr t fun v => resK P fr M l fun vs => K (v :: vs)) = true at h
      rw [getT_iff] at h
      obtain ⟨av, hav, h⟩ := h
      obtain ⟨vs, hK, H⟩ := ih _ h
      refine ⟨_, hK, fun w0 R ρ a w nt hF hM => ?_⟩
      obtain ⟨cvs, hv, hrun⟩ := H w0 R ρ a w nt hF hM
      exact ⟨_ :: cvs, .cons _ _ _ _ (hF.rel t _ hav) hv, by rw [List.mapM_cons]; simp only [Sem.run_bind, Sem.run_pure, Result.andThen_ok, hrun]⟩
    | cell x t =>
      change (getT fr x fun p => loadA P t p M fun v => resK P fr M l fun vs => K (v :: vs)) = true at h
      rw [getT_iff] at h
      obtain ⟨av, hav, h⟩ := h
      obtain ⟨v, h, hs⟩ := loadA_sound h
      obtain ⟨vs, hK, H⟩ := ih _ h
      refine ⟨_, hK, fun w0 R ρ a w nt hF hM => ?_⟩
      obtain ⟨cvs, hv, hrun⟩ := H w0 R ρ a w nt hF hM
      obtain ⟨cv, hcv, hl⟩ := hs w0 R ρ w _ hM (hF.rel x _ hav)
      refine ⟨cv :: cvs, .cons _ _ _ _ hcv hv, ?_⟩
      rw [List.mapM_cons]
      have hld : ((do loadVar t (← asAddr (a.tmps.getD x Go.undef))) : Sem Value).run P w = .ok cv w := by
        have hp := hF.rel x _ hav
        generalize a.tmps.getD x Go.undef = pv at hp hl ⊢
        unfold Instr.loadAt at hl
        have hpp : ∃ ad, pv = .pointer (some ad) := by
          simp only [Sem.run_bind, Instr.sureAddr] at hl
          split at hl
          · exact ⟨_, rfl⟩
          · cases hl
        obtain ⟨ad, rfl⟩ := hpp
        simpa [Instr.sureAddr, asAddr] using hl
      simp only [Sem.run_bind] at hld ⊢
      rw [hld]
      simp only [Result.andThen_ok, hrun, Sem.run_pure]

theorem MRel.of_below {w0 : World} {R : Nat → Prop} {ρ : Env} {M : Mem} {w w' : World} (h : MRel w0 R ρ M w) (hb : RowKit.Below w.heap.size w w') : MRel w0 R ρ M w' :=
  ⟨hb.os.trans h.os, hb.tape.trans h.tape, hb.output.trans h.output, Nat.le_trans h.size hb.size, fun b hR => (hb.block b (Nat.lt_of_lt_of_le (h.rlt b hR) h.size)).trans (h.keep b hR), h.rlt,
    fun i b hi hd => by
      obtain ⟨B, x, o, h1, h2, h3, h4⟩ := h.blk i b hi hd
      refine ⟨B, x, o, h1, h2, ?_, h4⟩
      rw [hb.block B (Array.getElem?_eq_some_iff.1 h3).1]; exact h3, h.inj, h.fresh,
    fun B l hz => by
      obtain ⟨arr, t, fz, ho, hl⟩ := h.zok B l hz
      exact ⟨arr, t, fz, by rw [hb.block B (Array.getElem?_eq_some_iff.1 ho).1]; exact ho, hl⟩, h.zsep, Nat.le_trans h.base hb.size⟩

theorem gateP_iff {p : Prop} {b : Bool} : gateP p b = true ↔ p ∧ b = true := by
  unfold gateP
  rw [brec_false]
  exact ⟨fun h => ⟨@of_decide_eq_true p (Classical.propDecidable p) h.1, h.2⟩, fun h => ⟨@decide_eq_true p (Classical.propDecidable p) h.1, h.2⟩⟩
theorem upsBK_sound : ∀ (l : List (Nat × Blk × Blk)) (M : Mem) (K : Mem → Bool), upsBK l M K = true → ∃ M', K M' = true ∧ UpsB l M M' := by
  intro l
  induction l with
  | nil => intro M K h; exact ⟨M, h, rfl⟩
  | cons u l ih =>
    intro M K h
    change (match M.t.get u.1 with
      | some b => gateP (b = u.2.1) (setB u.1 u.2.2 M fun M => upsBK l M K)
      | none => false) = true at h
    split at h
    · rename_i b hg
      rw [gateP_iff] at h
      obtain ⟨rfl, h⟩ := h
      obtain ⟨t', h, ht⟩ := setB_sound h
      obtain ⟨M', hK, hU⟩ := ih _ _ h
      exact ⟨M', hK, ⟨t', M.nx⟩, hg, ht, rfl, hU⟩
    · exact absurd h (by simp)
theorem newsK_sound : ∀ (l : List Blk) (M : Mem) (K : Mem → Bool), newsK l M K = true → ∃ M', K M' = true ∧ News l M M' := by
  intro l
  induction l with
  | nil => intro M K h; exact ⟨M, h, rfl⟩
  | cons b l ih =>
    intro M K h
    change newB b M (fun _ M => newsK l M K) = true at h
    obtain ⟨t', h, ht⟩ := newB_sound h
    obtain ⟨M', hK, hU⟩ := ih _ _ h
    exact ⟨M', hK, ⟨t', M.nx + 1⟩, ht, rfl, hU⟩
theorem memK_sound {P : Program} {f : FuncId} {e : MEnt} (hs : MSpec P f e) {args : List AV} {M : Mem} {K : AV → Mem → Bool} (h : memK e args M K = true) : ∃ v M', K v M' = true ∧ CSim P f args M v M' := by
  unfold memK at h
  rw [brec_false, gateP_iff] at h
  obtain ⟨hnx, rfl, h⟩ := h
  obtain ⟨M1, h, hU⟩ := upsBK_sound _ _ _ h
  obtain ⟨M', h, hN⟩ := newsK_sound _ _ _ h
  exact ⟨_, M', h, hs M M1 M' (Nat.eq_of_beq_eq_true hnx) hU hN⟩
theorem callBody_sound {P : Program} {X : FuncId → Option Ext} (hX : ∀ f x, X f = some x → ExtSpec P f x) {ex : Nat → Code → Fr → Mem → (AE → Fr → Mem → Bool) → Bool} (hex : ExSound P ex)
    (f : FuncId) (args : List AV) (M : Mem) (K : AV → Mem → Bool) (h : callBody P X ex f args M K = true) : ∃ v M', K v M' = true ∧ CSim P f args M v M' := by
  unfold callBody at h
  split at h
  · exact absurd h (by simp)
  rename_i fn hf
  split at h
  · exact absurd h (by simp)
  · rename_i c hb hn
    have hname : (fn.name == "runtime.NumGoroutine") = false := hn
    have hne : ¬ fn.name = "runtime.NumGoroutine" := by simpa using hname
    split at h
    · rename_i e he
      have hx : X f = some (.mem e) := by
        unfold memOf at he
        split at he
        · rename_i x; obtain rfl := Option.some.inj he; assumption
        · cases he
      exact memK_sound (hX f _ hx) h
    rename_i hmem
    split at h
    · rename_i v hs
      obtain ⟨x, hx, ha⟩ : ∃ x, X f = some x ∧ ansOf x args = some v := by
        unfold ansX at hs
        split at hs
        · rename_i x hx; exact ⟨x, hx, hs⟩
        · cases hs
      refine ⟨v, M, h, fun w0 R ρ w cargs hM hv => .inr ⟨by simp [callFunc, hf, hne, hb], (((hX f x hx).plain (by rw [← hx]; exact hmem)).1 args v ha ρ cargs hv w).mono ?_⟩⟩
      rintro e w' ⟨cv, rfl, hcv, hbel⟩
      exact ⟨ρ, cv, .refl _, rfl, hcv, hM.of_below hbel⟩
    obtain ⟨fr0, h, hlen, hget⟩ := frInit_sound _ _ _ _ _ h
    obtain ⟨o, fr', M', h, hsim⟩ := hex _ _ _ _ _ h
    have hno : (o = .normal ∨ o = .ret) ∧ ∃ vs, (match vs with | [v] => K v M' | l => K (.tuple l) M') = true ∧ resK P fr' M' fn.results.toList (fun l => (match l with | [v] => K v M' | l => K (.tuple l) M')) = true := by
      cases o with
      | exit id => exact absurd h (by simp)
      | normal => obtain ⟨vs, hK, _⟩ := resK_sound _ _ h; exact ⟨.inl rfl, vs, hK, h⟩
      | ret => obtain ⟨vs, hK, _⟩ := resK_sound _ _ h; exact ⟨.inr rfl, vs, hK, h⟩
    obtain ⟨ho, _, _, hres⟩ := hno
    obtain ⟨vs, hK, H⟩ := resK_sound _ _ hres
    -- the one value
    obtain ⟨v, hKv, hval⟩ : ∃ v, K v M' = true ∧ ∀ ρ cvs, VsRel ρ vs cvs → VRel ρ v (if h : cvs.toArray.size = 1 then cvs.toArray[0] else .tuple cvs.toArray) := by
      split at hK
      · rename_i v
        refine ⟨v, hK, fun ρ cvs hv => ?_⟩
        cases hv with
        | cons _ cv _ _ h1 h2 => cases h2; simpa using h1
      · rename_i hne
        refine ⟨_, hK, fun ρ cvs hv => ?_⟩
        have hl := hv.length
        have : ¬ cvs.toArray.size = 1 := by
          intro e
          simp at e
          cases vs with
          | nil => simp at hl; omega
          | cons x r =>
            cases r with
            | nil => exact hne x rfl
            | cons y r => simp at hl; omega
        rw [dif_neg this]
        exact .tuple _ _ (by simpa using hv)
    refine ⟨v, M', hKv, fun w0 R ρ w cargs hM hv => .inr ?_⟩
    refine ⟨by simp [callFunc, hf, hne, hb], calls_of_wp hf hb ?_⟩
    refine hsim.code w0 R ρ _ w (frInit_rel hv hlen hget) hM _ fun ρ' a' w' hle hF hM' => ?_
    obtain ⟨cvs, hcv, hrun⟩ := H w0 R ρ' a' w' _ hF hM'
    have hresults : (results fn a'.tmps).run P w' = .ok (if h : cvs.toArray.size = 1 then cvs.toArray[0] else .tuple cvs.toArray) w' := by
      unfold results
      rw [Array.mapM_eq_mapM_toList]
      simp only [Sem.run_bind, Sem.run_map]
      refine Eq.trans (congrArg (fun r : Result (List Value) => ((Result.andThen r (fun a w' => Result.ok a.toArray w')).andThen fun a w' => Sem.run P (pure (if h : a.size = 1 then a[0] else Value.tuple a)) w')) hrun) ?_
      simp only [Result.andThen_ok, Sem.run_pure]
    have hpost : a'.defers = [] ∧ ∃ v, (results fn a'.tmps).run P w' = .ok v w' ∧ ∃ ρ'' cv, ρ.le ρ'' ∧ Ending.returned v = .returned cv ∧ VRel ρ'' _ cv ∧ MRel w0 R ρ'' M' w' := ⟨hF.defers, _, hresults, ρ', _, hle, rfl, hval ρ' cvs hcv, hM'⟩
    rcases ho with rfl | rfl
    · exact hpost
    · exact hpost
  · rename_i hb hn
    split at h
    · rename_i x hx
      obtain ⟨v, hK, H⟩ := ExtSpec.ext (hX f x hx) args _ h
      refine ⟨v, M, hK, fun w0 R ρ w cargs hM hv => .inl ?_⟩
      obtain ⟨cv, hr, hrun⟩ := H ρ cargs hv
      exact ⟨ρ, cv, w, .refl _, hr, hM, hrun w⟩
    · exact absurd h (by simp)

/-- a call whose answer is shown elsewhere -/
def Ups : List (Nat × List AV × List AV) → Mem → Mem → Prop
  | [], M, M' => M' = M
  | u :: l, M, M' => ∃ sz M1, M.t.get u.1 = some (.row u.2.1 false sz) ∧ (∀ k, M1.t.get k = if k = u.1 then some (.row u.2.2 false sz) else M.t.get k) ∧ M1.nx = M.nx ∧ Ups l M1 M'
def SSpec (P : Program) (f : FuncId) (e : SEnt) : Prop := ∀ M M', Ups e.ups M M' → CSim P f e.args M e.ans M'
theorem upsK_sound : ∀ (l : List (Nat × List AV × List AV)) (M : Mem) (K : Mem → Bool), upsK l M K = true → ∃ M', K M' = true ∧ Ups l M M' := by
  intro l
  induction l with
  | nil => intro M K h; exact ⟨M, h, rfl⟩
  | cons u l ih =>
    intro M K h
    change (match M.t.get u.1 with
      | some (.row r op sz) => Bool.rec (motive := fun _ => Bool) (gateP (r = u.2.1) (setB u.1 (.row u.2.2 op sz) M fun M => upsK l M K)) false op
      | _ => false) = true at h
    split at h
    · rename_i r op sz hg
      rw [brec_not, gateP_iff] at h
      obtain ⟨rfl, rfl, h⟩ := h
      obtain ⟨t', h, ht⟩ := setB_sound h
      obtain ⟨M', hK, hU⟩ := ih _ _ h
      exact ⟨M', hK, sz, ⟨t', M.nx⟩, hg, ht, rfl, hU⟩
    · exact absurd h (by simp)
theorem CSim.killed {P : Program} {f : FuncId} {args : List AV} {M M1 M' : Mem} {v : AV} {j : Nat} {t' : T Blk} (ht : ∀ k, t'.get k = if k = j then some .dead else M.t.get k) (h : CSim P f args ⟨t', M.nx⟩ v M') : CSim P f args M v M' :=
  fun w0 R ρ w cargs hM hv => h w0 R ρ w cargs (hM.kill j ht) hv
theorem callS_sound {P : Program} {S : List (FuncId × SEnt)} (hS : ∀ e ∈ S, SSpec P e.1 e.2) {call : FuncId → List AV → Mem → (AV → Mem → Bool) → Bool}
    (hcall : ∀ f args M K, call f args M K = true → ∃ v M', K v M' = true ∧ CSim P f args M v M') : ∀ f args M K, callS S call f args M K = true → ∃ v M', K v M' = true ∧ CSim P f args M v M' := by
  intro f args M K h
  unfold callS at h
  rw [brec_tt] at h
  rcases h with ⟨_, h⟩ | ⟨_, h⟩
  · exact hcall f args M K h
  · clear hcall
    have key : ∀ (l : List (FuncId × SEnt)) (j : Nat), (∀ e ∈ l, SSpec P e.1 e.2) → answerK l f args M K j = true → ∃ v M', K v M' = true ∧ CSim P f args M v M' := by
      intro l
      induction l with
      | nil => intro j _ h; exact absurd h (by show ¬ (false = true); simp)
      | cons e l ih =>
        intro j hl h
        change (match M.t.get j with
          | some .dead => answerK l f args M K (Nat.succ j)
          | _ => Bool.rec (motive := fun _ => Bool) false (setB j .dead M fun M => gateP (args = e.2.args) (upsK e.2.ups M fun M => K e.2.ans M)) (Nat.beq e.1 f)) = true at h
        split at h
        · exact ih _ (fun x hx => hl x (List.mem_cons_of_mem _ hx)) h
        · rw [brec_false] at h
          obtain ⟨he, h2⟩ := h
          obtain rfl : e.1 = f := Nat.eq_of_beq_eq_true he
          obtain ⟨t', h3, ht⟩ := setB_sound h2
          rw [gateP_iff] at h3
          obtain ⟨rfl, h4⟩ := h3
          obtain ⟨M', hK, hU⟩ := upsK_sound _ _ _ h4
          exact ⟨_, M', hK, .killed (M1 := M) ht (hl e (List.mem_cons_self ..) _ _ hU)⟩
    exact key S 1000 hS h

theorem step_sound {P : Program} (hm : P.follows .mixedOrders = true) {call : FuncId → List AV → Mem → (AV → Mem → Bool) → Bool}
    (hcall : ∀ f args M K, call f args M K = true → ∃ v M', K v M' = true ∧ CSim P f args M v M') {ex : Nat → Code → Fr → Mem → (AE → Fr → Mem → Bool) → Bool} (hex : ExSound P ex) :
    ExSound P (step P call ex) := by
  intro nt c fr M K h
  cases c <;> simp only [step] at h <;> try (exact Bool.noConfusion h)
  case skip => exact ⟨_, _, _, h, fun w0 R ρ a w hF hM Q hQ => wp_skip (hQ ρ a w (.refl _) hF hM)⟩
  case label l => exact ⟨_, _, _, h, fun w0 R ρ a w hF hM Q hQ => wp_label (hQ ρ a w (.refl _) hF hM)⟩
  case ret => exact ⟨_, _, _, h, fun w0 R ρ a w hF hM Q hQ => wp_ret (hQ ρ a w (.refl _) hF hM)⟩
  case exit id => exact ⟨_, _, _, h, fun w0 R ρ a w hF hM Q hQ => wp_exit (hQ ρ a w (.refl _) hF hM)⟩
  case region id ops d =>
    rw [brec_tt] at h
    rcases h with ⟨rfl, h⟩ | ⟨rfl, h⟩
    · obtain ⟨fr', M', hK, H⟩ := runOps_sound hcall _ _ _ _ h
      exact ⟨_, _, _, hK, fun w0 R ρ a w hF hM Q hQ => wp_region_list (H w0 R ρ a w hF hM Q hQ)⟩
    · rw [brec_false] at h
      obtain ⟨hok, h⟩ := h
      obtain ⟨fr', M', hK, H⟩ := runDraw_sound hm hcall hok h
      exact ⟨_, _, _, hK, fun w0 R ρ a w hF hM Q hQ => H w0 R ρ a w hF hM Q hQ id⟩
  case seq x y =>
    obtain ⟨o, fr1, M1, h, hs⟩ := hex _ _ _ _ _ h
    cases o with
    | normal =>
      obtain ⟨o2, fr2, M2, hK, hs2⟩ := hex _ _ _ _ _ h
      exact ⟨o2, fr2, M2, hK, fun w0 R ρ a w hF hM Q hQ => wp_seq (hs.code w0 R ρ a w hF hM _ fun ρ1 a1 w1 hle hF1 hM1 =>
        hs2.code w0 R ρ1 a1 w1 hF1 hM1 Q fun ρ2 a2 w2 hle2 => hQ ρ2 a2 w2 (hle.trans hle2))⟩
    | ret => exact ⟨_, _, _, h, fun w0 R ρ a w hF hM Q hQ => wp_seq (hs.code w0 R ρ a w hF hM _ fun ρ1 a1 w1 hle hF1 hM1 => hQ ρ1 a1 w1 hle hF1 hM1)⟩
    | exit id => exact ⟨_, _, _, h, fun w0 R ρ a w hF hM Q hQ => wp_seq (hs.code w0 R ρ a w hF hM _ fun ρ1 a1 w1 hle hF1 hM1 => hQ ρ1 a1 w1 hle hF1 hM1)⟩
  case cond x y z =>
    rw [ev_iff] at h
    obtain ⟨v, hv, h⟩ := h
    split at h
    · rename_i t
      have hcond : ∀ ρ (a : Act), FRel ρ nt fr a → a.eval x = .bool t := fun ρ a hF => by
        have := hF.relX x _ hv
        generalize a.eval x = q at this ⊢
        cases this; rfl
      rw [brec_tt] at h
      rcases h with ⟨rfl, h⟩ | ⟨rfl, h⟩
      · obtain ⟨o, fr', M', hK, hs⟩ := hex _ _ _ _ _ h
        exact ⟨_, _, _, hK, fun w0 R ρ a w hF hM Q hQ => wp_cond_false (hcond ρ a hF) (hs.code w0 R ρ a w hF hM Q hQ)⟩
      · obtain ⟨o, fr', M', hK, hs⟩ := hex _ _ _ _ _ h
        exact ⟨_, _, _, hK, fun w0 R ρ a w hF hM Q hQ => wp_cond_true (hcond ρ a hF) (hs.code w0 R ρ a w hF hM Q hQ)⟩
    · exact absurd h (by simp)
  case block id b =>
    obtain ⟨o, fr1, M1, h, hs⟩ := hex _ _ _ _ _ h
    cases o with
    | normal => exact ⟨_, _, _, h, fun w0 R ρ a w hF hM Q hQ => wp_block (hs.code w0 R ρ a w hF hM _ fun ρ1 a1 w1 hle hF1 hM1 => hQ ρ1 a1 w1 hle hF1 hM1)⟩
    | ret => exact ⟨_, _, _, h, fun w0 R ρ a w hF hM Q hQ => wp_block (hs.code w0 R ρ a w hF hM _ fun ρ1 a1 w1 hle hF1 hM1 => hQ ρ1 a1 w1 hle hF1 hM1)⟩
    | exit j =>
      simp only at h
      rw [brec_tt] at h
      rcases h with ⟨hj, h⟩ | ⟨hj, h⟩
      · have hne : ¬ j = id := fun e => by rw [e, Nat.beq_refl] at hj; exact absurd hj (by simp)
        exact ⟨_, _, _, h, fun w0 R ρ a w hF hM Q hQ => wp_block (hs.code w0 R ρ a w hF hM _ fun ρ1 a1 w1 hle hF1 hM1 => by
          show (if j = id then Q .normal a1 w1 else Q (.exit j) a1 w1)
          rw [if_neg hne]
          exact hQ ρ1 a1 w1 hle hF1 hM1)⟩
      · have he : j = id := Nat.eq_of_beq_eq_true hj
        exact ⟨_, _, _, h, fun w0 R ρ a w hF hM Q hQ => wp_block (hs.code w0 R ρ a w hF hM _ fun ρ1 a1 w1 hle hF1 hM1 => by
          show (if j = id then Q .normal a1 w1 else Q (.exit j) a1 w1)
          rw [if_pos he]
          exact hQ ρ1 a1 w1 hle hF1 hM1)⟩
  case loop b =>
    obtain ⟨o, fr1, M1, h, hs⟩ := hex _ _ _ _ _ h
    cases o with
    | normal =>
      obtain ⟨o2, fr2, M2, hK, k, hs2⟩ := hex _ _ _ _ _ h
      refine ⟨o2, fr2, M2, hK, k + 1, fun w0 R ρ a w hF hM Q hQ => ?_⟩
      rw [rounds_succ]
      exact hs.code w0 R ρ a w hF hM _ fun ρ1 a1 w1 hle hF1 hM1 => hs2 w0 R ρ1 a1 w1 hF1 hM1 Q fun ρ2 a2 w2 hle2 => hQ ρ2 a2 w2 (hle.trans hle2)
    | ret =>
      refine ⟨_, _, _, h, 1, fun w0 R ρ a w hF hM Q hQ => ?_⟩
      rw [rounds_succ]
      exact hs.code w0 R ρ a w hF hM _ fun ρ1 a1 w1 hle hF1 hM1 => hQ ρ1 a1 w1 hle hF1 hM1
    | exit id =>
      refine ⟨_, _, _, h, 1, fun w0 R ρ a w hF hM Q hQ => ?_⟩
      rw [rounds_succ]
      exact hs.code w0 R ρ a w hF hM _ fun ρ1 a1 w1 hle hF1 hM1 => hQ ρ1 a1 w1 hle hF1 hM1
  case scope b =>
    obtain ⟨o, fr1, M1, h, hs⟩ := hex _ _ _ _ _ h
    refine ⟨_, _, _, h, fun w0 R ρ a w hF hM Q hQ => wp_scope_straight (hs.code w0 R ρ a w hF hM _ fun ρ1 a1 w1 hle hF1 hM1 => ?_)⟩
    have := hQ ρ1 a1 w1 hle hF1 hM1
    cases o <;> exact this

theorem exec_sound {P : Program} (hm : P.follows .mixedOrders = true) {X : FuncId → Option Ext} (hX : ∀ f x, X f = some x → ExtSpec P f x) {S : List (FuncId × SEnt)} (hS : ∀ e ∈ S, SSpec P e.1 e.2) : ∀ n, ExSound P (exec P X S n) := by
  intro n
  induction n with
  | zero => intro nt c fr M K h; exact absurd h (by show ¬ (false = true); simp)
  | succ n ih => exact step_sound hm (callS_sound hS (callBody_sound hX ih)) ih
theorem noS_spec {P : Program} : ∀ e ∈ noS, SSpec P e.1 e.2 := fun _ h => by cases h

/-- the empty memory, at the beginning of a run -/
theorem MRel.empty (w : World) (R : Nat → Prop) (hR : ∀ b, R b → b < w.heap.size) : MRel w R .empty ⟨.nil, 0⟩ w :=
  ⟨rfl, rfl, rfl, Nat.le_refl _, fun _ _ => rfl, hR, fun i b h => by simp [T.get_nil] at h, fun i j b c B x y h => by simp [T.get_nil] at h, fun i p h => (by cases h), fun B l h => (by cases h), fun i b B x h => by simp [T.get_nil] at h, Nat.zero_le _⟩

/-- A CLOSED RUN: what the engine has run, the program does, in whatever world, whatever order its regions draw. -/
theorem run_sound {P : Program} (hm : P.follows .mixedOrders = true) {X : FuncId → Option Ext} (hX : ∀ f x, X f = some x → ExtSpec P f x) {n : Nat} {f : FuncId} {args : List AV} {K : AV → Mem → Bool} (h : Eng.run P X n f args K = true) :
    ∃ v M', K v M' = true ∧ CSim P f args ⟨.nil, 0⟩ v M' := callBody_sound hX (exec_sound hm hX noS_spec n) f args ⟨.nil, 0⟩ K h

theorem MRel.below {w w' : World} {ρ : Env} {M : Mem} (h : MRel w (fun b => b < w.heap.size) ρ M w') : RowKit.Below w.heap.size w w' := ⟨h.os, h.tape, h.output, h.size, h.keep⟩

/-- A closed run that answers true. -/
theorem run_true {P : Program} (hm : P.follows .mixedOrders = true) {X : FuncId → Option Ext} (hX : ∀ f x, X f = some x → ExtSpec P f x) {n : Nat} {f : FuncId} {fn : Func} (hf : P.funcs[f]? = some fn) (hb : fn.body.isSome = true)
    (h : Eng.run P X n f [] (fun v _ => isTrue v) = true) (w : World) : Calls P f #[] w fun e w' => e = .returned (.bool true) ∧ RowKit.Below w.heap.size w w' := by
  obtain ⟨v, M', hv, hs⟩ := run_sound hm hX h
  rcases hs w (fun b => b < w.heap.size) .empty w #[] (MRel.empty w _ (fun _ h => h)) .nil with ⟨ρ', cv, w', _, _, _, hr⟩ | ⟨_, hc⟩
  · exfalso
    obtain ⟨c, hc⟩ := Option.isSome_iff_exists.1 hb
    simp only [callFunc, Sem.run_bind, run_program, Result.andThen_ok, hf] at hr
    split at hr
    · cases hr
    · simp [hc] at hr
  · refine hc.mono ?_
    rintro e w' ⟨ρ', cv, _, rfl, hr, hM⟩
    refine ⟨?_, hM.below⟩
    cases hr <;> simp_all [isTrue]
end Go.Eng

set_option linter.unusedSectionVars false
namespace Go.Eng
open Go Go.Lib
variable [Mode]

theorem findByte_eq : ∀ (l : List UInt8) (c : UInt8) (i : Nat), findByte l.length (enc l) c.toNat i = if indexByte l c = -1 then -1 else Int.ofNat i + indexByte l c := by
  intro l c
  induction l with
  | nil => intro i; rfl
  | cons a l ih =>
    intro i
    show Bool.rec (motive := fun _ => Int) (findByte l.length (enc (a :: l) / 256) c.toNat (i + 1)) (Int.ofNat i) (Nat.beq (enc (a :: l) % 256) c.toNat) = _
    have d1 : enc (a :: l) / 256 = enc l := by rw [enc_cons]; have := a.toNat_lt; omega
    rw [enc_head _ a l rfl, d1, ih]
    have unf : indexByte (a :: l) c = if a == c then 0 else if indexByte l c == -1 then -1 else indexByte l c + 1 := rfl
    rw [unf]
    by_cases h : a = c
    · subst h
      have : Nat.beq a.toNat a.toNat = true := by simp
      rw [this]; simp
    · have hn : Nat.beq a.toNat c.toNat = false := nbeq_ne fun e => h (UInt8.toNat_inj.1 e)
      have hb : (a == c) = false := by simpa using h
      rw [hn, hb]
      simp only [Bool.false_eq_true, if_false]
      have := indexByte_ge l c
      by_cases e : indexByte l c = -1
      · simp [e]
      · have e2 : (indexByte l c == -1) = false := by simpa using e
        rw [if_neg e, e2]
        simp only [Bool.false_eq_true, if_false]
        rw [if_neg (by omega)]
        simp only [Int.ofNat_eq_natCast]
        omega

theorem compareBytes_eq : ∀ (s t : List UInt8), compareBytes s t = if s = t then 0 else if Op.bytesLess s t then -1 else 1 := by
  intro s
  induction s with
  | nil => intro t; cases t <;> simp [compareBytes, Op.bytesLess]
  | cons a s ih =>
    intro t
    cases t with
    | nil => simp [compareBytes, Op.bytesLess]
    | cons b t =>
      unfold compareBytes
      simp only [Op.bytesLess]
      by_cases hab : a = b
      · subst hab
        have : ¬ a < a := UInt8.lt_irrefl a
        simp [this, ih]
      · by_cases hlt : a < b
        · simp [hab, hlt]
        · have : b < a := UInt8.lt_of_le_of_ne (UInt8.not_lt.1 hlt) (Ne.symm hab)
          simp [hab, hlt, this]

section
variable {P : Program} {f : FuncId} {fn : Func}
theorem ExtSpec.indexByte (hf : P.funcs[f]? = some fn) (hname : (fn.name == "runtime.NumGoroutine") = false) (hb : fn.body.isNone = true) (hn : Extern.findNext fn = none)
    (he : Extern.find fn = some Extern.BytealgIndexByte.indexByte) : ExtSpec P f .indexByte := by
  refine ⟨fun args v hv => (by simp [ansOf] at hv), ?_⟩
  intro args K h
  simp only [extA] at h
  split at h
  · rename_i n c b
    rw [brec_false] at h
    obtain ⟨hb', h⟩ := h
    have hlt : b < 256 := by simpa [Nat.blt_eq] using hb'
    rw [fI_eq] at h
    refine ⟨_, h, fun ρ cargs hv => ?_⟩
    obtain ⟨l, rfl, rfl, rfl⟩ : ∃ l : List UInt8, cargs = #[.string ⟨⟨l⟩⟩, .int .u8 (.ofNat b)] ∧ n = l.length ∧ c = enc l := by
      have e : cargs = cargs.toList.toArray := by simp
      generalize cargs.toList = cl at e hv
      cases hv with
      | cons _ v _ vs h1 h2 =>
        cases h1 with
        | str l =>
          cases h2 with
          | cons _ v' _ vs' h3 h4 => cases h3; cases h4; exact ⟨l, e, rfl, rfl⟩
    refine ⟨_, .int _ _, fun w => ?_⟩
    rw [run_callFunc_extern hf hname hb hn he, run_indexByteString]
    simp only [Result.andThen_ok]
    have hc : (b.toUInt8).toNat = b := by simp; omega
    have := findByte_eq l b.toUInt8 0
    rw [hc] at this
    rw [this]
    have hge := indexByte_ge l b.toUInt8
    congr 3
    show Lib.indexByte l b.toUInt8 = _
    split <;> simp_all
  · exact absurd h (by simp)

theorem ExtSpec.cmpString (hf : P.funcs[f]? = some fn) (hname : (fn.name == "runtime.NumGoroutine") = false) (hb : fn.body.isNone = true) (hn : Extern.findNext fn = none)
    (he : Extern.find fn = some Extern.BytealgCompare.compare) : ExtSpec P f .cmpString := by
  refine ⟨fun args v hv => (by simp [ansOf] at hv), ?_⟩
  intro args K h
  simp only [extA] at h
  split at h
  · rename_i n c n' c'
    obtain ⟨v, hK, H⟩ : ∃ v, K v = true ∧ ∀ s t : List UInt8, n = s.length → c = enc s → n' = t.length → c' = enc t → v = .int .i64 (compareBytes s t) := by
      rw [brec_tt] at h
      rcases h with ⟨h1, h⟩ | ⟨h1, h⟩
      · rw [brec_tt] at h
        rcases h with ⟨h2, h⟩ | ⟨h2, h⟩
        · refine ⟨_, h, fun s t e1 e2 e3 e4 => ?_⟩
          subst e1 e2 e3 e4
          rw [seqA_iff] at h1; rw [sltA_iff] at h2
          rw [compareBytes_eq, if_neg (by simpa using h1), if_neg (by simpa using h2)]
        · refine ⟨_, h, fun s t e1 e2 e3 e4 => ?_⟩
          subst e1 e2 e3 e4
          rw [seqA_iff] at h1; rw [sltA_iff] at h2
          rw [compareBytes_eq, if_neg (by simpa using h1), if_pos (by simpa using h2)]
      · refine ⟨_, h, fun s t e1 e2 e3 e4 => ?_⟩
        subst e1 e2 e3 e4
        rw [seqA_iff] at h1
        rw [compareBytes_eq, if_pos (by simpa using h1)]
    refine ⟨_, hK, fun ρ cargs hv => ?_⟩
    obtain ⟨s, t, rfl, h1, h2, h3, h4⟩ : ∃ s t : List UInt8, cargs = #[.string ⟨⟨s⟩⟩, .string ⟨⟨t⟩⟩] ∧ n = s.length ∧ c = enc s ∧ n' = t.length ∧ c' = enc t := by
      have e : cargs = cargs.toList.toArray := by simp
      generalize cargs.toList = cl at e hv
      cases hv with
      | cons _ v _ vs h1 h2 =>
        cases h1 with
        | str l =>
          cases h2 with
          | cons _ v' _ vs' h3 h4 =>
            cases h3 with
            | str l' => cases h4; exact ⟨l, l', e, rfl, rfl, rfl, rfl⟩
    refine ⟨.int .i64 (compareBytes s t), ?_, fun w => ?_⟩
    · rw [H s t h1 h2 h3 h4]
      exact .int _ _
    · rw [run_callFunc_extern hf hname hb hn he, run_compareString]
      rfl
  · exact absurd h (by simp)

theorem ExtSpec.add64 (hf : P.funcs[f]? = some fn) (hname : (fn.name == "runtime.NumGoroutine") = false) (hb : fn.body.isNone = true) (hn : Extern.findNext fn = none)
    (he : Extern.find fn = some add64Entry) : ExtSpec P f .add64 := by
  refine ⟨fun args v hv => (by simp [ansOf] at hv), ?_⟩
  intro args K h
  simp only [extA] at h
  split at h
  · rename_i a b c
    rw [brec_false] at h
    obtain ⟨hb', h⟩ := h
    have hlt : c < 2 := by simpa [Nat.blt_eq] using hb'
    rw [fN_eq, fN_eq] at h
    refine ⟨_, h, fun ρ cargs hv => ?_⟩
    obtain rfl : cargs = #[.int .u64 (.ofNat a), .int .u64 (.ofNat b), .int .u64 (.ofNat c)] := by
      have e : cargs = cargs.toList.toArray := by simp
      generalize cargs.toList = cl at e hv
      cases hv with
      | cons _ v _ vs h1 h2 =>
        cases h1
        cases h2 with
        | cons _ v' _ vs' h3 h4 =>
          cases h3
          cases h4 with
          | cons _ v' _ vs' h5 h6 => cases h5; cases h6; exact e
    refine ⟨_, .tuple _ #[_, _] (.cons _ _ _ _ (.int _ _) (.cons _ _ _ _ (.int _ _) .nil)), fun w => ?_⟩
    rw [run_callFunc_extern hf hname hb hn he, run_add64 _ _ _ (by simp) (by simp) (by simp) (by simp; omega)]
    rfl
  · exact absurd h (by simp)

theorem ExtSpec.noEscape (hf : P.funcs[f]? = some fn) (hname : (fn.name == "runtime.NumGoroutine") = false) (hb : fn.body.isNone = true) (hn : Extern.findNext fn = none)
    (he : Extern.find fn = some Extern.AbiNoEscape.same) : ExtSpec P f .noEscape := by
  refine ⟨fun args v hv => (by simp [ansOf] at hv), ?_⟩
  intro args K h
  simp only [extA] at h
  split at h
  · rename_i x
    refine ⟨_, h, fun ρ cargs hv => ?_⟩
    obtain ⟨y, rfl, hy⟩ : ∃ y, cargs = #[y] ∧ VRel ρ x y := by
      have e : cargs = cargs.toList.toArray := by simp
      generalize cargs.toList = cl at e hv
      cases hv with
      | cons _ v _ vs h1 h2 => cases h2; exact ⟨_, e, h1⟩
    refine ⟨_, hy, fun w => ?_⟩
    rw [run_callFunc_extern hf hname hb hn he, run_noEscape]
    rfl
  · exact absurd h (by simp)
/-- a closed run that answers true, as a summary -/
theorem ExtSpec.sumTrue (hcall : ∀ w, Calls P f #[] w fun e w' => e = .returned (.bool true) ∧ RowKit.Below w.heap.size w w') : ExtSpec P f (.sum (.bool true)) := by
  refine ⟨fun args v hv ρ cargs hargs w => ?_, fun args K h => by simp only [extA] at h; cases h⟩
  simp only [ansOf] at hv
  split at hv
  · cases hv
    obtain rfl : cargs = #[] := by
      have := hargs.length
      simp at this
      exact Array.eq_empty_of_size_eq_zero this.symm
    refine (hcall w).mono ?_
    rintro e w' ⟨rfl, hb⟩
    exact ⟨_, rfl, .bool _, hb⟩
  · cases hv
end
end Go.Eng

set_option linter.unusedSectionVars false
namespace Go.Eng
open Go
variable [Mode]

/-- A run from arguments that hold no memory. -/
theorem run_any {P : Program} (hm : P.follows .mixedOrders = true) {X : FuncId → Option Ext} (hX : ∀ f x, X f = some x → ExtSpec P f x) {n : Nat} {f : FuncId} {fn : Func} (hf : P.funcs[f]? = some fn) (hb : fn.body.isSome = true)
    {args : List AV} {cargs : Array Value} (hargs : VsRel .empty args cargs.toList) {K : AV → Mem → Bool}
    (h : Eng.run P X n f args K = true) (w : World) : Calls P f cargs w fun e w' => ∃ v M' ρ cv, e = .returned cv ∧ K v M' = true ∧ VRel ρ v cv ∧ MRel w (fun b => b < w.heap.size) ρ M' w' := by
  obtain ⟨v, M', hv, hs⟩ := run_sound hm hX h
  rcases hs w (fun b => b < w.heap.size) .empty w cargs (MRel.empty w _ (fun _ h => h)) hargs with ⟨ρ', cv, w', _, _, _, hr⟩ | ⟨_, hc⟩
  · exfalso
    obtain ⟨c, hc⟩ := Option.isSome_iff_exists.1 hb
    simp only [callFunc, Sem.run_bind, run_program, Result.andThen_ok, hf] at hr
    split at hr
    · cases hr
    · simp [hc] at hr
  · refine hc.mono ?_
    rintro e w' ⟨ρ', cv, _, rfl, hr, hM⟩
    exact ⟨v, M', ρ', cv, rfl, hv, hr, hM⟩

theorem VRel.str_inv {ρ : Env} {l : List UInt8} {v : Value} (h : VRel ρ (.str l.length (enc l)) v) : v = .string ⟨⟨l⟩⟩ := by
  generalize e1 : l.length = n at h
  generalize e2 : enc l = c at h
  cases h with
  | str l' => rw [enc_inj _ _ e1 e2]
theorem VRel.int_inv {ρ : Env} {k : IntKind} {i : Int} {v : Value} (h : VRel ρ (.int k i) v) : v = .int k i := by cases h; rfl
theorem VRel.bool_inv {ρ : Env} {b : Bool} {v : Value} (h : VRel ρ (.bool b) v) : v = .bool b := by cases h; rfl
theorem VRel.pair_inv {ρ : Env} {a b : AV} {v : Value} (h : VRel ρ (.tuple [a, b]) v) : ∃ x y, v = .tuple #[x, y] ∧ VRel ρ a x ∧ VRel ρ b y := by
  cases h with
  | tuple _ vs h =>
    have e : vs = vs.toList.toArray := by simp
    generalize vs.toList = l at e h
    cases h with
    | cons _ x _ xs h1 h2 => cases h2 with | cons _ y _ ys h3 h4 => cases h4; exact ⟨x, y, by rw [e], h1, h3⟩
/-- a pair of plain values -/
noncomputable def is2 (x y v : AV) : Bool := match v with | .tuple [a, b] => Bool.and (beqA a x) (beqA b y) | _ => false
theorem is2_sound {x y v : AV} (h : is2 x y v = true) : v = .tuple [x, y] := by
  unfold is2 at h
  split at h
  · rw [show (beqA _ _).and (beqA _ _) = (beqA _ _ && beqA _ _) from rfl, Bool.and_eq_true] at h
    rw [beqA_sound h.1, beqA_sound h.2]
  · cases h
end Go.Eng

set_option linter.unusedSectionVars false
namespace Go.Eng
open Go
variable [Mode]

theorem beqAs_sound : ∀ (l m : List AV), beqAs l m = true → l = m := by
  intro l
  induction l with
  | nil => intro m h; cases m with | nil => rfl | cons => exact absurd h (by show ¬ (false = true); simp)
  | cons a l ih =>
    intro m h
    cases m with
    | nil => exact absurd h (by show ¬ (false = true); simp)
    | cons b m =>
      change Bool.rec (motive := fun _ => Bool) false (beqAs l m) (beqA a b) = true at h
      rw [brec_false] at h
      rw [beqA_sound h.1, ih m h.2]
theorem beqT_sound {a b : AV} (h : beqT a b = true) : a = b := by
  unfold beqT at h
  split at h
  · rw [beqAs_sound _ _ h]
  · exact beqA_sound h
theorem findT_sound {args : List AV} {v : AV} : ∀ (l : List (List AV × AV)), findT args l = some v → (args, v) ∈ l := by
  intro l
  induction l with
  | nil => intro h; cases h
  | cons p l ih =>
    intro h
    change Bool.rec (motive := fun _ => Option AV) (findT args l) (some p.2) (beqAs args p.1) = some v at h
    cases hb : beqAs args p.1 with
    | true =>
      rw [hb] at h
      obtain rfl := beqAs_sound _ _ hb
      cases h
      exact List.mem_cons_self ..
    | false =>
      rw [hb] at h
      exact List.mem_cons_of_mem _ (ih h)

/-- a value that holds no memory -/
def plain1 (a : AV) : Bool := match a with | .bool _ | .int .. | .str .. | .nilPtr | .nilSlice | .nilMap | .nilFunc | .nilIface => true | _ => false
def plainA (a : AV) : Bool := match a with | .agg l => l.all plain1 | a => plain1 a
def plainT (a : AV) : Bool := match a with | .tuple l => l.all plainA | a => plainA a
theorem plain1_rel {ρ σ : Env} {a : AV} {v : Value} (h : plain1 a = true) (hv : VRel ρ a v) : VRel σ a v := by
  cases hv <;> first | exact .bool _ | exact .int _ _ | exact .str _ | exact .nilPtr | exact .nilSlice | exact .nilMap | exact .nilFunc | exact .nilIface | (exfalso; simp [plain1] at h)
theorem plains_rel {ρ σ : Env} {p : AV → Bool} (hp : ∀ a v, p a = true → VRel ρ a v → VRel σ a v) {l : List AV} {vs : List Value} (h : l.all p = true) (hv : VsRel ρ l vs) : VsRel σ l vs := by
  induction l generalizing vs with
  | nil => cases hv; exact .nil
  | cons a l ih =>
    cases hv with
    | cons _ v _ vs h1 h2 =>
      simp only [List.all_cons, Bool.and_eq_true] at h
      exact .cons _ _ _ _ (hp _ _ h.1 h1) (ih h.2 h2)
theorem plainA_rel {ρ σ : Env} {a : AV} {v : Value} (h : plainA a = true) (hv : VRel ρ a v) : VRel σ a v := by
  unfold plainA at h
  split at h
  · cases hv with | agg _ vs h2 => exact .agg _ _ (plains_rel (fun _ _ => plain1_rel) h h2)
  · exact plain1_rel h hv
theorem plainT_rel {ρ σ : Env} {a : AV} {v : Value} (h : plainT a = true) (hv : VRel ρ a v) : VRel σ a v := by
  unfold plainT at h
  split at h
  · cases hv with | tuple _ vs h2 => exact .tuple _ _ (plains_rel (fun _ _ => plainA_rel) h h2)
  · exact plainA_rel h hv

/-- each row of a table is what a run gives -/
noncomputable def tabOk (P : Program) (X : FuncId → Option Ext) (n : Nat) (f : FuncId) (l : List (List AV × AV)) : Bool :=
  l.all fun p => Bool.rec (motive := fun _ => Bool) false (Eng.run P X n f p.1 fun v _ => beqT v p.2) (Bool.and (p.1.all plainA) (plainT p.2))
theorem tabOk_append {P : Program} {X : FuncId → Option Ext} {n : Nat} {f : FuncId} {l m : List (List AV × AV)} (h : tabOk P X n f l = true) (k : tabOk P X n f m = true) : tabOk P X n f (l ++ m) = true := by
  unfold tabOk at h k ⊢
  rw [List.all_append, h, k]; rfl

/-- A TABLE OF CALLS, as the engine takes it: each row by a run with what was shown before. -/
theorem ExtSpec.tab {P : Program} (hm : P.follows .mixedOrders = true) {X : FuncId → Option Ext} (hX : ∀ f x, X f = some x → ExtSpec P f x) {n : Nat} {f : FuncId} {fn : Func} (hf : P.funcs[f]? = some fn) (hb : fn.body.isSome = true)
    {l : List (List AV × AV)} (h : tabOk P X n f l = true) : ExtSpec P f (.tab l) := by
  refine ⟨fun args v hv ρ cargs hargs w => ?_, fun args K h => by simp only [extA] at h; cases h⟩
  have hmem := findT_sound l hv
  have hrow := List.all_eq_true.1 h _ hmem
  simp only [brec_false, Bool.and_eq_true] at hrow
  obtain ⟨⟨hp, hpv⟩, hrun⟩ := hrow
  refine (run_any hm hX hf hb (plains_rel (fun _ _ => plainA_rel) hp hargs) hrun w).mono ?_
  rintro e w' ⟨u, M', σ, cv, rfl, hbq, hr, hM⟩
  obtain rfl := beqT_sound hbq
  exact ⟨cv, rfl, plainT_rel hpv hr, hM.below⟩
end Go.Eng

set_option linter.unusedSectionVars false
namespace Go.Eng
open Go
variable [Mode]

/-! WHAT CODE COMES TO, when the engine may number its blocks anew on the way. The first k blocks keep their numbers. -/
structure ZLe (k : Nat) (ρ σ : Env) : Prop where
  m : ∀ i p, i < k → ρ i = some p → σ i = some p
  z : ρ.z.le σ.z
  base : σ.base = ρ.base
  new : ∀ B l, σ.z B = some l → ρ.z B = some l ∨ Own ρ B
  own : ∀ i p, σ i = some p → Own ρ p.1
theorem Env.le.zle {ρ σ : Env} (h : ρ.le σ) (k : Nat) : ZLe k ρ σ := ⟨fun i p _ e => h.m i p e, h.z, h.base, h.new, h.own⟩
theorem ZLe.refl (k : Nat) (ρ : Env) : ZLe k ρ ρ := (Env.le.refl ρ).zle k
theorem ZLe.trans {k : Nat} {r s t : Env} (h : ZLe k r s) (g : ZLe k s t) : ZLe k r t :=
  ⟨fun i p hi e => g.m i p hi (h.m i p hi e), fun B l e => g.z B l (h.z B l e), g.base.trans h.base, fun B l e => by
    rcases g.new B l e with e | e
    · exact h.new B l e
    · exact .inr (e.back h.base h.own), fun i p e => (g.own i p e).back h.base h.own⟩

def Rests2 (k : Nat) (w0 : World) (R : Nat → Prop) (ρ : Env) (nt : Nat) (o : AE) (fr' : Fr) (M' : Mem) (Q : Exit → Act → World → Prop) : Prop :=
  ∀ ρ' a' w', ZLe k ρ ρ' → FRel ρ' nt fr' a' → MRel w0 R ρ' M' w' → Q o.toExit a' w'
def Sim2 (P : Program) (nt k : Nat) (c : Code) (fr : Fr) (M : Mem) (o : AE) (fr' : Fr) (M' : Mem) : Prop :=
  ∀ w0 R ρ (a : Act) w, FRel ρ nt fr a → MRel w0 R ρ M w → ∀ Q : Exit → Act → World → Prop, Rests2 k w0 R ρ nt o fr' M' Q → c.wp P Q a w
def LSim2 (P : Program) (nt k : Nat) (b : Code) (fr : Fr) (M : Mem) (o : AE) (fr' : Fr) (M' : Mem) : Prop :=
  ∃ n, ∀ w0 R ρ (a : Act) w, FRel ρ nt fr a → MRel w0 R ρ M w → ∀ Q : Exit → Act → World → Prop, Rests2 k w0 R ρ nt o fr' M' Q → Code.rounds P b Q n a w
theorem CodeSim.two {P : Program} {nt : Nat} {c : Code} {fr : Fr} {M : Mem} {o : AE} {fr' : Fr} {M' : Mem} (h : CodeSim P nt c fr M o fr' M') (k : Nat) : Sim2 P nt k c fr M o fr' M' :=
  fun w0 R ρ a w hF hM Q hQ => h w0 R ρ a w hF hM Q fun ρ' a' w' hle => hQ ρ' a' w' (hle.zle k)

/-- the code ends as Q says -/
def W (P : Program) (nt k : Nat) (c : Code) (fr : Fr) (M : Mem) (Q : AE → Fr → Mem → Prop) : Prop := ∃ o fr' M', Q o fr' M' ∧ Sim2 P nt k c fr M o fr' M'
theorem W.mono {P : Program} {nt k : Nat} {c : Code} {fr : Fr} {M : Mem} {Q Q' : AE → Fr → Mem → Prop} (h : W P nt k c fr M Q) (hq : ∀ o fr' M', Q o fr' M' → Q' o fr' M') : W P nt k c fr M Q' := by
  obtain ⟨o, fr', M', hQ, hs⟩ := h
  exact ⟨o, fr', M', hq _ _ _ hQ, hs⟩

/-- behind a piece that ends normally, the next one -/
def Nxt (P : Program) (nt k : Nat) (c : Code) (Q : AE → Fr → Mem → Prop) : AE → Fr → Mem → Prop
  | .normal, fr, M => W P nt k c fr M Q
  | o, fr, M => Q o fr M
theorem W.seq {P : Program} {nt k : Nat} {x y : Code} {fr : Fr} {M : Mem} {Q : AE → Fr → Mem → Prop} (h : W P nt k x fr M (Nxt P nt k y Q)) : W P nt k (.seq x y) fr M Q := by
  obtain ⟨o, fr1, M1, h, hs⟩ := h
  cases o with
  | normal =>
    obtain ⟨o2, fr2, M2, hQ, hs2⟩ := h
    exact ⟨o2, fr2, M2, hQ, fun w0 R ρ a w hF hM Q hQ => wp_seq (hs w0 R ρ a w hF hM _ fun ρ1 a1 w1 hle hF1 hM1 =>
      hs2 w0 R ρ1 a1 w1 hF1 hM1 Q fun ρ2 a2 w2 hle2 => hQ ρ2 a2 w2 (hle.trans hle2))⟩
  | ret => exact ⟨_, _, _, h, fun w0 R ρ a w hF hM Q hQ => wp_seq (hs w0 R ρ a w hF hM _ fun ρ1 a1 w1 hle hF1 hM1 => hQ ρ1 a1 w1 hle hF1 hM1)⟩
  | exit id => exact ⟨_, _, _, h, fun w0 R ρ a w hF hM Q hQ => wp_seq (hs w0 R ρ a w hF hM _ fun ρ1 a1 w1 hle hF1 hM1 => hQ ρ1 a1 w1 hle hF1 hM1)⟩

theorem W.cond {P : Program} {nt k : Nat} {x : Operand} {y z : Code} {fr : Fr} {M : Mem} {Q : AE → Fr → Mem → Prop} (t : Bool) (hv : evD fr x = some (.bool t))
    (h1 : t = true → W P nt k y fr M Q) (h2 : t = false → W P nt k z fr M Q) : W P nt k (.cond x y z) fr M Q := by
  have hcond : ∀ ρ (a : Act), FRel ρ nt fr a → a.eval x = .bool t := fun ρ a hF => by
    have := hF.relX x _ hv
    generalize a.eval x = q at this ⊢
    cases this; rfl
  cases t with
  | true =>
    obtain ⟨o, fr', M', hQ, hs⟩ := h1 rfl
    exact ⟨o, fr', M', hQ, fun w0 R ρ a w hF hM Q hQ => wp_cond_true (hcond ρ a hF) (hs w0 R ρ a w hF hM Q hQ)⟩
  | false =>
    obtain ⟨o, fr', M', hQ, hs⟩ := h2 rfl
    exact ⟨o, fr', M', hQ, fun w0 R ρ a w hF hM Q hQ => wp_cond_false (hcond ρ a hF) (hs w0 R ρ a w hF hM Q hQ)⟩

/-- how a block ends -/
def Blkd (id : Nat) (Q : AE → Fr → Mem → Prop) : AE → Fr → Mem → Prop
  | .exit j, fr, M => if j = id then Q .normal fr M else Q (.exit j) fr M
  | o, fr, M => Q o fr M
theorem W.block {P : Program} {nt k id : Nat} {b : Code} {fr : Fr} {M : Mem} {Q : AE → Fr → Mem → Prop} (h : W P nt k b fr M (Blkd id Q)) : W P nt k (.block id b) fr M Q := by
  obtain ⟨o, fr1, M1, h, hs⟩ := h
  cases o with
  | normal => exact ⟨_, _, _, h, fun w0 R ρ a w hF hM Q hQ => wp_block (hs w0 R ρ a w hF hM _ fun ρ1 a1 w1 hle hF1 hM1 => hQ ρ1 a1 w1 hle hF1 hM1)⟩
  | ret => exact ⟨_, _, _, h, fun w0 R ρ a w hF hM Q hQ => wp_block (hs w0 R ρ a w hF hM _ fun ρ1 a1 w1 hle hF1 hM1 => hQ ρ1 a1 w1 hle hF1 hM1)⟩
  | exit j =>
    by_cases hj : j = id
    · subst hj
      simp only [Blkd, if_true] at h
      exact ⟨_, _, _, h, fun w0 R ρ a w hF hM Q hQ => wp_block (hs w0 R ρ a w hF hM _ fun ρ1 a1 w1 hle hF1 hM1 => by
        show (if j = j then Q .normal a1 w1 else Q (.exit j) a1 w1)
        rw [if_pos rfl]
        exact hQ ρ1 a1 w1 hle hF1 hM1)⟩
    · simp only [Blkd, if_neg hj] at h
      exact ⟨_, _, _, h, fun w0 R ρ a w hF hM Q hQ => wp_block (hs w0 R ρ a w hF hM _ fun ρ1 a1 w1 hle hF1 hM1 => by
        show (if j = id then Q .normal a1 w1 else Q (.exit j) a1 w1)
        rw [if_neg hj]
        exact hQ ρ1 a1 w1 hle hF1 hM1)⟩
theorem W.scope {P : Program} {nt k : Nat} {b : Code} {fr : Fr} {M : Mem} {Q : AE → Fr → Mem → Prop} (h : W P nt k b fr M Q) : W P nt k (.scope b) fr M Q := by
  obtain ⟨o, fr1, M1, h, hs⟩ := h
  refine ⟨_, _, _, h, fun w0 R ρ a w hF hM Q hQ => wp_scope_straight (hs w0 R ρ a w hF hM _ fun ρ1 a1 w1 hle hF1 hM1 => ?_)⟩
  have := hQ ρ1 a1 w1 hle hF1 hM1
  cases o <;> exact this

/-- a loop, by what holds at each round's head and a measure -/
theorem W.loop {P : Program} {nt k : Nat} {b : Code} {Q : AE → Fr → Mem → Prop} {σ : Type} (I : σ → Fr → Mem → Prop) (m : σ → Nat)
    (h : ∀ s fr M, I s fr M → W P nt k b fr M fun o fr' M' => (o = .normal ∧ ∃ s', m s' < m s ∧ I s' fr' M') ∨ (o ≠ .normal ∧ Q o fr' M')) (s : σ) {fr : Fr} {M : Mem} (hI : I s fr M) : W P nt k (.loop b) fr M Q := by
  have key : ∀ (n : Nat) (s : σ) fr M, m s < n → I s fr M → ∃ o fr' M', Q o fr' M' ∧ LSim2 P nt k b fr M o fr' M' := by
    intro n
    induction n with
    | zero => intro s fr M hn; exact absurd hn (Nat.not_lt_zero _)
    | succ n ih =>
      intro s fr M hn hI
      obtain ⟨o, fr1, M1, hq, hs⟩ := h s fr M hI
      rcases hq with ⟨rfl, s', hlt, hI'⟩ | ⟨hne, hq⟩
      · obtain ⟨o2, fr2, M2, hQ, j, hs2⟩ := ih s' fr1 M1 (by omega) hI'
        refine ⟨o2, fr2, M2, hQ, j + 1, fun w0 R ρ a w hF hM Q hQ => ?_⟩
        rw [rounds_succ]
        exact hs w0 R ρ a w hF hM _ fun ρ1 a1 w1 hle hF1 hM1 => hs2 w0 R ρ1 a1 w1 hF1 hM1 Q fun ρ2 a2 w2 hle2 => hQ ρ2 a2 w2 (hle.trans hle2)
      · refine ⟨o, fr1, M1, hq, 1, fun w0 R ρ a w hF hM Q hQ => ?_⟩
        rw [rounds_succ]
        refine hs w0 R ρ a w hF hM _ fun ρ1 a1 w1 hle hF1 hM1 => ?_
        have := hQ ρ1 a1 w1 hle hF1 hM1
        cases o with
        | normal => exact absurd rfl hne
        | ret => exact this
        | exit id => exact this
  obtain ⟨o, fr', M', hQ, n, hs⟩ := key _ s fr M (Nat.lt_succ_self _) hI
  exact ⟨o, fr', M', hQ, fun w0 R ρ a w hF hM Q hQ => wp_loop_rounds n (hs w0 R ρ a w hF hM Q hQ)⟩

/-! what the kernel can run -/
noncomputable def pdec (p : Prop) : Bool := @decide p (Classical.propDecidable p)
theorem pdec_iff {p : Prop} : pdec p = true ↔ p := ⟨@of_decide_eq_true p (Classical.propDecidable p), @decide_eq_true p (Classical.propDecidable p)⟩
noncomputable def lv (ts : List Nat) (fr : Fr) : List (Option AV) := List.map (fun t => fr.get t) ts
noncomputable def mv (π : List Nat) (M : Mem) : List (Option Blk) := List.map (fun b => M.t.get b) π

theorem W.exec {P : Program} (hm : P.follows .mixedOrders = true) {X : FuncId → Option Ext} (hX : ∀ f x, X f = some x → ExtSpec P f x) {S : List (FuncId × SEnt)} (hS : ∀ e ∈ S, SSpec P e.1 e.2) {n nt k : Nat} {c : Code} {fr : Fr} {M : Mem}
    {K : AE → Fr → Mem → Bool} (h : exec P X S n nt c fr M K = true) : W P nt k c fr M fun o fr' M' => K o fr' M' = true := by
  obtain ⟨o, fr', M', hK, hs⟩ := exec_sound hm hX hS n _ _ _ _ _ h
  exact ⟨o, fr', M', hK, hs.code.two k⟩
/-- a piece that the kernel runs: what it leaves in the slots ts and the blocks π -/
theorem W.run {P : Program} (hm : P.follows .mixedOrders = true) {X : FuncId → Option Ext} (hX : ∀ f x, X f = some x → ExtSpec P f x) {S : List (FuncId × SEnt)} (hS : ∀ e ∈ S, SSpec P e.1 e.2) {nt k : Nat} {c : Code} {fr : Fr} {M : Mem} {Q : AE → Fr → Mem → Prop}
    (n : Nat) (ts π : List Nat) (T : (AE → List (Option AV) → List (Option Blk) → Bool) → Bool)
    (h : ∀ I : AE → List (Option AV) → List (Option Blk) → Bool, Eng.exec P X S n nt c fr M (fun o fr' M' => I o (lv ts fr') (mv π M')) = T I)
    (hT : T (fun o vs bs => pdec (∀ fr' M', lv ts fr' = vs → mv π M' = bs → Q o fr' M')) = true) : W P nt k c fr M Q := by
  refine (W.exec hm hX hS (k := k) ((h _).trans hT)).mono fun o fr' M' hK => ?_
  exact pdec_iff.1 hK fr' M' rfl rfl
end Go.Eng

set_option linter.unusedSectionVars false
namespace Go.Eng
open Go
variable [Mode]

/-! frames and memories by lists -/
noncomputable def T.singleD {α : Type} (x : α) (f : Nat) : Nat → T α :=
  Nat.rec (motive := fun _ => Nat → T α) (fun _ => .nil)
    (fun _ ih n => Nat.rec (motive := fun _ => T α) (.node .nil (some x) .nil)
      (fun m _ => Bool.rec (motive := fun _ => T α) (.node (ih (Nat.div m 2)) none .nil) (.node .nil none (ih (Nat.div m 2))) (Nat.beq (Nat.mod m 2) 1)) n) f
noncomputable def T.putD {α : Type} (x : α) (t : T α) : Nat → T α :=
  T.rec (motive := fun _ => Nat → T α) (fun n => T.singleD x (Nat.succ n) n)
    (fun l v r sl sr n => Nat.rec (motive := fun _ => T α) (.node l (some x) r)
      (fun m _ => Bool.rec (motive := fun _ => T α) (.node (sl (Nat.div m 2)) v r) (.node l v (sr (Nat.div m 2))) (Nat.beq (Nat.mod m 2) 1)) n) t
theorem T.singleD_get {α : Type} (x : α) : ∀ (f n : Nat), n < f → ∀ k, (T.singleD x f n).get k = if k = n then some x else none := by
  intro f
  induction f with
  | zero => intro n h; exact absurd h (Nat.not_lt_zero _)
  | succ f ih =>
    intro n hn k
    cases n with
    | zero =>
      change (T.node .nil (some x) .nil : T α).get k = _
      cases k with
      | zero => rfl
      | succ k => rw [T.get_succ]; simp [T.get_nil]
    | succ m =>
      have hd : m / 2 < f := by omega
      change (Bool.rec (motive := fun _ => T α) (.node (T.singleD x f (m / 2)) none .nil) (.node .nil none (T.singleD x f (m / 2))) (Nat.beq (m % 2) 1) : T α).get k = _
      by_cases hm : m % 2 = 1
      · rw [nbeq_eq hm]
        cases k with
        | zero => simp [T.get_zero]
        | succ k =>
          change (T.node .nil none (T.singleD x f (m / 2)) : T α).get (k + 1) = _
          rw [T.get_succ, ih _ hd]
          by_cases hk : k % 2 = 1
          · simp only [hk, if_true, Nat.add_right_cancel_iff]
            by_cases e : k = m
            · simp [e]
            · rw [if_neg (fun h => e (odd_half hk hm h)), if_neg e]
          · simp only [hk, if_false, T.get_nil]
            rw [if_neg]; intro e; exact hk (by omega)
      · rw [nbeq_ne hm]
        cases k with
        | zero => simp [T.get_zero]
        | succ k =>
          change (T.node (T.singleD x f (m / 2)) none .nil : T α).get (k + 1) = _
          rw [T.get_succ, ih _ hd]
          by_cases hk : k % 2 = 1
          · simp only [hk, if_true, T.get_nil]
            rw [if_neg]; intro e; exact hm (by omega)
          · simp only [hk, if_false, Nat.add_right_cancel_iff]
            by_cases e : k = m
            · simp [e]
            · rw [if_neg (fun h => e (even_half hk hm h)), if_neg e]
theorem T.putD_get {α : Type} (x : α) : ∀ (t : T α) (n k : Nat), (T.putD x t n).get k = if k = n then some x else t.get k := by
  intro t
  induction t with
  | nil => intro n k; change (T.singleD x (n + 1) n).get k = _; rw [T.singleD_get x _ _ (Nat.lt_succ_self _), T.get_nil]
  | node l v r ihl ihr =>
    intro n k
    cases n with
    | zero =>
      change (T.node l (some x) r : T α).get k = _
      cases k with
      | zero => rfl
      | succ k => simp [T.get_succ]
    | succ m =>
      change (Bool.rec (motive := fun _ => T α) (.node (T.putD x l (m / 2)) v r) (.node l v (T.putD x r (m / 2))) (Nat.beq (m % 2) 1) : T α).get k = _
      by_cases hm : m % 2 = 1
      · rw [nbeq_eq hm]
        cases k with
        | zero => simp [T.get_zero]
        | succ k =>
          change (T.node l v (T.putD x r (m / 2)) : T α).get (k + 1) = _
          rw [T.get_succ, T.get_succ, ihr]
          by_cases hk : k % 2 = 1
          · simp only [hk, if_true, Nat.add_right_cancel_iff]
            by_cases e : k = m
            · simp [e]
            · rw [if_neg (fun h => e (odd_half hk hm h)), if_neg e]
          · simp only [hk, if_false]
            rw [if_neg]; intro e; exact hk (by omega)
      · rw [nbeq_ne hm]
        cases k with
        | zero => simp [T.get_zero]
        | succ k =>
          change (T.node (T.putD x l (m / 2)) v r : T α).get (k + 1) = _
          rw [T.get_succ, T.get_succ, ihl]
          by_cases hk : k % 2 = 1
          · simp only [hk, if_true]
            rw [if_neg]; intro e; exact hm (by omega)
          · simp only [hk, if_false, Nat.add_right_cancel_iff]
            by_cases e : k = m
            · simp [e]
            · rw [if_neg (fun h => e (even_half hk hm h)), if_neg e]

noncomputable def mkFr (l : List (Nat × AV)) : Fr := List.rec (motive := fun _ => Fr) .nil (fun p _ ih => T.putD p.2 ih p.1) l
theorem mkFr_get : ∀ (l : List (Nat × AV)) (t : Nat) (a : AV), (mkFr l).get t = some a → (t, a) ∈ l := by
  intro l
  induction l with
  | nil => intro t a h; change (T.nil : T AV).get t = _ at h; rw [T.get_nil] at h; cases h
  | cons p l ih =>
    intro t a h
    change (T.putD p.2 (mkFr l) p.1).get t = _ at h
    rw [T.putD_get] at h
    by_cases e : t = p.1
    · rw [if_pos e] at h
      subst e
      obtain rfl := Option.some.inj h
      exact List.mem_cons_self ..
    · rw [if_neg e] at h
      exact List.mem_cons_of_mem _ (ih t a h)
noncomputable def mkT (l : List Blk) : Nat → T Blk := List.rec (motive := fun _ => Nat → T Blk) (fun _ => .nil) (fun b _ ih i => T.putD b (ih (Nat.succ i)) i) l
noncomputable def mkMem (l : List Blk) : Mem := ⟨mkT l 0, lenL l⟩
theorem mkT_get : ∀ (l : List Blk) (i j : Nat), (mkT l i).get j = if i ≤ j then l[j - i]? else none := by
  intro l
  induction l with
  | nil => intro i j; change (T.nil : T Blk).get j = _; rw [T.get_nil]; simp
  | cons b l ih =>
    intro i j
    change (T.putD b (mkT l (i + 1)) i).get j = _
    rw [T.putD_get, ih]
    by_cases e : j = i
    · subst e; simp
    · rw [if_neg e]
      by_cases h : i + 1 ≤ j
      · rw [if_pos h, if_pos (by omega)]
        rw [show j - i = (j - (i + 1)) + 1 by omega]
        simp
      · rw [if_neg h, if_neg (by omega)]
theorem mkMem_get (l : List Blk) (j : Nat) : (mkMem l).t.get j = l[j]? := by
  show (mkT l 0).get j = _
  rw [mkT_get]; simp

/-! numbering anew: the block j of the new memory is the block π[j] of the old one -/
noncomputable def mapO {α β : Type} (f : α → Option β) (l : List α) : Option (List β) :=
  List.rec (motive := fun _ => Option (List β)) (some []) (fun x _ ih => match f x, ih with | some y, some r => some (y :: r) | _, _ => none) l
theorem mapO_cons {α β : Type} {f : α → Option β} {x : α} {l : List α} {r : List β} (h : mapO f (x :: l) = some r) : ∃ y s, r = y :: s ∧ f x = some y ∧ mapO f l = some s := by
  change (match f x, mapO f l with | some y, some r => some (y :: r) | _, _ => none) = some r at h
  split at h
  · rename_i y s h1 h2
    exact ⟨y, s, (Option.some.inj h).symm, h1, h2⟩
  · cases h
def ren1 (π : List Nat) (a : AV) : Option AV :=
  match a with
  | .ptr b o => match π[b]? with | some i => some (.ptr i o) | none => none
  | .slice b o l c op => match π[b]? with | some i => some (.slice i o l c op) | none => none
  | .map b => match π[b]? with | some i => some (.map i) | none => none
  | .agg _ => none
  | .tuple _ => none
  | .func _ _ _ => none
  | .iface _ _ => none
  | a => some a
noncomputable def renA (π : List Nat) (a : AV) : Option AV :=
  match a with
  | .agg l => match mapO (ren1 π) l with | some l => some (.agg l) | none => none
  | .func fn l m => match mapO (ren1 π) l, mapO (ren1 π) m with | some l, some m => some (.func fn l m) | _, _ => none
  | .iface t a => match ren1 π a with | some a => some (.iface t a) | none => none
  | a => ren1 π a
noncomputable def renT (π : List Nat) (a : AV) : Option AV :=
  match a with
  | .tuple l => match mapO (renA π) l with | some l => some (.tuple l) | none => none
  | a => renA π a
def Env.ren (ρ : Env) (π : List Nat) : Env := { ρ with m := fun j => match π[j]? with | some i => ρ i | none => none }
theorem ren_at {ρ : Env} {π : List Nat} {j i : Nat} (h : π[j]? = some i) : (ρ.ren π) j = ρ i := by
  show (match π[j]? with | some i => ρ i | none => none) = _
  rw [h]
theorem ren1_rel {ρ : Env} {π : List Nat} {a b : AV} {v : Value} (h : ren1 π a = some b) (hv : VRel ρ b v) : VRel (ρ.ren π) a v := by
  unfold ren1 at h
  split at h
  · split at h
    · rename_i i hi
      obtain rfl := Option.some.inj h
      cases hv with | ptr _ _ B x e => exact .ptr _ _ B x ((ren_at hi).trans e)
    · cases h
  · split at h
    · rename_i i hi
      obtain rfl := Option.some.inj h
      cases hv with | slice _ _ _ _ _ B x c e hc => exact .slice _ _ _ _ _ B x c ((ren_at hi).trans e) hc
    · cases h
  · split at h
    · rename_i i hi
      obtain rfl := Option.some.inj h
      cases hv with | map _ B x e => exact .map _ B x ((ren_at hi).trans e)
    · cases h
  · cases h
  · cases h
  · cases h
  · cases h
  · rename_i h1 h2 h3 h4 h5 h6 h7
    obtain rfl := Option.some.inj h
    cases hv with
    | bool => exact .bool _
    | int => exact .int _ _
    | str => exact .str _
    | nilPtr => exact .nilPtr
    | nilSlice => exact .nilSlice
    | nilMap => exact .nilMap
    | nilFunc => exact .nilFunc
    | nilIface => exact .nilIface
    | dslice _ _ _ _ e => exact .dslice _ _ _ _ e
    | dptr _ _ B o l hz hl e => exact .dptr _ _ B o l hz hl e
    | ptr => exact absurd rfl (h1 _ _)
    | slice => exact absurd rfl (h2 _ _ _ _ _)
    | map => exact absurd rfl (h3 _)
    | agg => exact absurd rfl (h4 _)
    | tuple => exact absurd rfl (h5 _)
    | func => exact absurd rfl (h6 _ _ _)
    | iface => exact absurd rfl (h7 _ _)
theorem renL_rel {ρ : Env} {π : List Nat} {f : AV → Option AV} (hf : ∀ a b v, f a = some b → VRel ρ b v → VRel (ρ.ren π) a v) : ∀ {l m : List AV} {vs : List Value}, mapO f l = some m → VsRel ρ m vs → VsRel (ρ.ren π) l vs := by
  intro l
  induction l with
  | nil => intro m vs h hv; obtain rfl := Option.some.inj (show some [] = some m from h); cases hv; exact .nil
  | cons a l ih =>
    intro m vs h hv
    obtain ⟨y, s, rfl, h1, h2⟩ := mapO_cons h
    cases hv with
    | cons _ v _ vs e es => exact .cons _ _ _ _ (hf _ _ _ h1 e) (ih h2 es)
theorem renA_rel {ρ : Env} {π : List Nat} {a b : AV} {v : Value} (h : renA π a = some b) (hv : VRel ρ b v) : VRel (ρ.ren π) a v := by
  unfold renA at h
  split at h
  · split at h
    · rename_i m hm
      obtain rfl := Option.some.inj h
      cases hv with | agg _ vs e => exact .agg _ _ (renL_rel (fun _ _ _ => ren1_rel) hm e)
    · cases h
  · split at h
    · rename_i m1 m2 h1 h2
      obtain rfl := Option.some.inj h
      cases hv with | func _ _ _ vs ws e1 e2 => exact .func _ _ _ _ _ (renL_rel (fun _ _ _ => ren1_rel) h1 e1) (renL_rel (fun _ _ _ => ren1_rel) h2 e2)
    · cases h
  · split at h
    · rename_i m hm
      obtain rfl := Option.some.inj h
      cases hv with | iface _ _ v e => exact .iface _ _ _ (ren1_rel hm e)
    · cases h
  · exact ren1_rel h hv
theorem renT_rel {ρ : Env} {π : List Nat} {a b : AV} {v : Value} (h : renT π a = some b) (hv : VRel ρ b v) : VRel (ρ.ren π) a v := by
  unfold renT at h
  split at h
  · split at h
    · rename_i m hm
      obtain rfl := Option.some.inj h
      cases hv with | tuple _ vs e => exact .tuple _ _ (renL_rel (fun _ _ _ => renA_rel) hm e)
    · cases h
  · exact renA_rel h hv

noncomputable def renE (π : List Nat) (p : AV × AV) : Option (AV × AV) := match renA π p.1, renA π p.2 with | some a, some b => some (a, b) | _, _ => none
noncomputable def renB (π : List Nat) (b : Blk) : Option Blk :=
  match b with
  | .row c op sz => match mapO (renA π) c with | some c => some (.row c op sz) | none => none
  | .map es => match mapO (renE π) es with | some es => some (.map es) | none => none
  | b => some b
theorem renEs_rel {ρ : Env} {π : List Nat} : ∀ {l m : List (AV × AV)} {es : List MapEntry}, mapO (renE π) l = some m → EsRel ρ m es → EsRel (ρ.ren π) l es := by
  intro l
  induction l with
  | nil => intro m vs h hv; obtain rfl := Option.some.inj (show some [] = some m from h); cases hv; exact .nil
  | cons a l ih =>
    intro m vs h hv
    obtain ⟨y, s, rfl, h1, h2⟩ := mapO_cons h
    obtain ⟨a1, a2⟩ := a
    unfold renE at h1
    split at h1
    · rename_i b1 b2 e1 e2
      obtain rfl := Option.some.inj h1
      cases hv with
      | cons _ _ e _ es hk hv hs => exact .cons _ _ _ _ _ (renA_rel e1 hk) (renA_rel e2 hv) (ih h2 hs)
    · cases h1
theorem renB_rel {ρ : Env} {π : List Nat} {a b : Blk} {x : Nat} {o : Obj} (h : renB π a = some b) (hv : ORel ρ x b o) : ORel (ρ.ren π) x a o := by
  have mapO_length : ∀ {l m : List AV}, mapO (renA π) l = some m → l.length = m.length := by
    intro l
    induction l with
    | nil => intro m h; obtain rfl := Option.some.inj (show some [] = some m from h); rfl
    | cons a l ih => intro m h; obtain ⟨y, s, rfl, h1, h2⟩ := mapO_cons h; simp [ih h2]
  unfold renB at h
  split at h
  · split at h
    · rename_i m hm
      obtain rfl := Option.some.inj h
      unfold ORel at hv ⊢
      cases o <;> simp only at hv ⊢
      rw [← mapO_length hm] at hv
      exact ⟨renL_rel (fun _ _ _ => renA_rel) hm hv.1, hv.2⟩
    · cases h
  · split at h
    · rename_i m hm
      obtain rfl := Option.some.inj h
      unfold ORel at hv ⊢
      cases o <;> simp only at hv ⊢
      exact renEs_rel hm hv
    · cases h
  · rename_i h1 h2
    obtain rfl := Option.some.inj h
    cases a with
    | row => exact absurd rfl (h1 _ _ _)
    | map => exact absurd rfl (h2 _)
    | siter => unfold ORel at hv ⊢; cases o <;> simp only at hv ⊢ <;> exact hv
    | dead => unfold ORel at hv; cases o <;> exact hv.elim

theorem MRel.ren {w0 : World} {R : Nat → Prop} {ρ : Env} {M : Mem} {w : World} (h : MRel w0 R ρ M w) (π : List Nat) (rows : List Blk) (hn : π.Nodup) (hl : π.length = rows.length)
    (hr : ∀ (j : Nat) (b : Blk), rows[j]? = some b → ∃ (i : Nat) (c : Blk), π[j]? = some i ∧ M.t.get i = some c ∧ renB π b = some c) : MRel w0 R (ρ.ren π) (mkMem rows) w := by
  have hdead : ∀ (b c : Blk), b ≠ .dead → renB π b = some c → c ≠ .dead := by
    intro b c hb hc e
    subst e
    unfold renB at hc
    split at hc
    · split at hc <;> cases hc
    · split at hc <;> cases hc
    · exact hb (Option.some.inj hc)
  refine ⟨h.os, h.tape, h.output, h.size, h.keep, h.rlt, fun j b hj hd => ?_, fun j j' b c B x y hj hd hj' he e1 e2 => ?_, fun j p e => ?_, h.zok, fun j b B x hj hd e => ?_, h.base⟩
  · rw [mkMem_get] at hj
    obtain ⟨i, c, hi, hc, hb⟩ := hr j b hj
    obtain ⟨B, x, o, e1, e2, e3, e4⟩ := h.blk i c hc (hdead _ _ hd hb)
    exact ⟨B, x, o, (ren_at hi).trans e1, e2, e3, renB_rel hb e4⟩
  · rw [mkMem_get] at hj hj'
    obtain ⟨i, c1, hi, hc, hb⟩ := hr j b hj
    obtain ⟨i', c2, hi', hc', hb'⟩ := hr j' c hj'
    rw [ren_at hi] at e1
    rw [ren_at hi'] at e2
    have := h.inj i i' c1 c2 B x y hc (hdead _ _ hd hb) hc' (hdead _ _ he hb') e1 e2
    subst this
    obtain ⟨l1, g1⟩ := List.getElem?_eq_some_iff.1 hi
    obtain ⟨l2, g2⟩ := List.getElem?_eq_some_iff.1 hi'
    have hpw := List.pairwise_iff_getElem.1 hn
    rcases Nat.lt_trichotomy j j' with hlt | he | hlt
    · exact absurd (g1.trans g2.symm) (hpw j j' l1 l2 hlt)
    · exact he
    · exact absurd (g2.trans g1.symm) (hpw j' j l2 l1 hlt)
  · show j < lenL rows
    rw [lenL_eq, ← hl]
    change (match π[j]? with | .some i => ρ i | .none => .none) = some p at e
    cases hj : π[j]? with
    | none => rw [hj] at e; cases e
    | some i => exact (List.getElem?_eq_some_iff.1 hj).1
  · rw [mkMem_get] at hj
    obtain ⟨i, c, hi, hc, hb⟩ := hr j b hj
    rw [ren_at hi] at e
    exact h.zsep i c B x hc (hdead _ _ hd hb) e

theorem own_ren {ρ : Env} {π : List Nat} {B : Nat} (_x : Nat) (h : Own (ρ.ren π) B) : Own ρ B := by
  rcases h with h | ⟨j, x, h⟩
  · exact .inl h
  · change (match π[j]? with | .some i => ρ i | .none => .none) = some (B, x) at h
    cases hj : π[j]? with
    | none => rw [hj] at h; cases h
    | some i => rw [hj] at h; exact .inr ⟨i, x, h⟩
/-- the state is written anew -/
theorem W.gc {P : Program} {nt k : Nat} {c : Code} {Q : AE → Fr → Mem → Prop} {fr : Fr} {M : Mem} (π : List Nat) (slots : List (Nat × AV)) (rows : List Blk) (hk : ∀ j, j < k → π[j]? = some j) (hn : π.Nodup) (hl : π.length = rows.length)
    (hs : ∀ p ∈ slots, ∃ a, fr.get p.1 = some a ∧ renT π p.2 = some a)
    (hr : ∀ (j : Nat) (b : Blk), rows[j]? = some b → ∃ (i : Nat) (c : Blk), π[j]? = some i ∧ M.t.get i = some c ∧ renB π b = some c)
    (h : W P nt k c (mkFr slots) (mkMem rows) Q) : W P nt k c fr M Q := by
  obtain ⟨o, fr', M', hQ, hsim⟩ := h
  refine ⟨o, fr', M', hQ, fun w0 R ρ a w hF hM Q hQ => hsim w0 R (ρ.ren π) a w ⟨hF.size, hF.defers, fun t b hb => ?_⟩ (hM.ren π rows hn hl hr) Q fun ρ1 a1 w1 hle hF1 hM1 => hQ ρ1 a1 w1 ⟨fun i p hi e => hle.m i p hi ?_, hle.z, hle.base, fun B l e => (hle.new B l e).imp id (own_ren 0), fun i p e => own_ren 0 (hle.own i p e)⟩ hF1 hM1⟩
  · obtain ⟨a0, h1, h2⟩ := hs _ (mkFr_get _ _ _ hb)
    exact renT_rel h2 (hF.rel t a0 h1)
  · rw [ren_at (hk i hi)]; exact e

noncomputable def vals2 (π : List Nat) (l : List (Nat × AV)) : List (Option AV) := List.map (fun p => renT π p.2) l
noncomputable def rows2 (π : List Nat) (l : List Blk) : List (Option Blk) := List.map (fun b => renB π b) l
noncomputable def okPi (k : Nat) (π : List Nat) (n : Nat) : Bool := decide (π.Nodup) && Nat.beq π.length n && (List.range k).all fun j => π[j]? == some j
theorem lv_get {l : List (Nat × AV)} {fr : Fr} {π : List Nat} (h : lv (l.map (·.1)) fr = vals2 π l) (hs : ∀ x ∈ vals2 π l, x ≠ none) : ∀ p ∈ l, ∃ a, fr.get p.1 = some a ∧ renT π p.2 = some a := by
  induction l with
  | nil => intro p hp; cases hp
  | cons q l ih =>
    simp only [lv, vals2, List.map_cons, List.cons.injEq] at h
    intro p hp
    rcases List.mem_cons.1 hp with rfl | hp
    · cases hr : renT π p.2 with
      | none => exact absurd hr (hs _ (by simp [vals2]))
      | some a => exact ⟨a, h.1.trans hr, rfl⟩
    · exact ih h.2 (fun x hx => hs x (by simp only [vals2, List.map_cons]; exact List.mem_cons_of_mem _ hx)) p hp
theorem mv_get {π0 : List Nat} {l : List Blk} {M : Mem} : ∀ {π : List Nat}, mv π M = rows2 π0 l → (∀ x ∈ rows2 π0 l, x ≠ none) → ∀ (j : Nat) (b : Blk), l[j]? = some b → ∃ (i : Nat) (c : Blk), π[j]? = some i ∧ M.t.get i = some c ∧ renB π0 b = some c := by
  induction l with
  | nil => intro π _ _ j b h; simp at h
  | cons q l ih =>
    intro π h hs j b hj
    cases π with
    | nil => simp [mv, rows2] at h
    | cons i π =>
      simp only [mv, rows2, List.map_cons, List.cons.injEq] at h
      cases j with
      | zero =>
        obtain rfl : q = b := by simpa using hj
        cases hr : renB π0 q with
        | none => exact absurd hr (hs _ (by simp [rows2]))
        | some c => exact ⟨i, c, rfl, h.1.trans hr, rfl⟩
      | succ j => exact ih h.2 (fun x hx => hs x (by simp only [rows2, List.map_cons]; exact List.mem_cons_of_mem _ hx)) j b (by simpa using hj)
/-- goes on from a state written anew, behind a piece that the kernel ran -/
theorem W.next {P : Program} {nt k : Nat} {c : Code} {Q : AE → Fr → Mem → Prop} {fr : Fr} {M : Mem} {ts π : List Nat} {vs : List (Option AV)} {bs : List (Option Blk)} (hv : lv ts fr = vs) (hm : mv π M = bs) (slots : List (Nat × AV)) (rows : List Blk)
    (hts : slots.map (·.1) = ts) (h1 : vals2 π slots = vs) (h2 : rows2 π rows = bs) (hk : okPi k π rows.length = true) (hs1 : ∀ x ∈ vs, x ≠ none) (hs2 : ∀ x ∈ bs, x ≠ none)
    (h : W P nt k c (mkFr slots) (mkMem rows) Q) : W P nt k c fr M Q := by
  unfold okPi at hk
  simp only [Bool.and_eq_true, decide_eq_true_eq, List.all_eq_true, List.mem_range] at hk
  obtain ⟨⟨hn, hl⟩, hk⟩ := hk
  subst hts h1 h2
  refine W.gc π slots rows (fun j hj => by simpa using hk j hj) hn (Nat.eq_of_beq_eq_true hl) (lv_get hv hs1) (mv_get hm hs2) h
end Go.Eng

set_option linter.unusedSectionVars false
namespace Go.Eng
open Go
variable [Mode]

/-! WHAT A CALL LEAVES IN MEMORY STANDS STILL FROM THEN ON: how a value reads as data. The first k blocks stay as they are. -/
mutual
inductive FzD (k : Nat) (M : Mem) : AV → Dat → Prop
  | same (d : Dat) : FzD k M (toAV d) d
  | nil (sz : Nat) (el : Nat → List Dat) : FzD k M .nilSlice (.slice 0 sz el)
  | slice (b o n cap : Nat) (op : Bool) (c : List AV) (op' : Bool) (sz' sz : Nat) (el : Nat → List Dat) (hk : k ≤ b) (hb : M.t.get b = some (.row c op' sz')) (hc : n ≤ cap) (hl : o + n * sz ≤ c.length)
      (h : ∀ i, i < n → FzDs k M ((c.drop (o + i * sz)).take sz) (el i)) : FzD k M (.slice b o n cap op) (.slice n sz el)
inductive FzDs (k : Nat) (M : Mem) : List AV → List Dat → Prop
  | nil : FzDs k M [] []
  | cons (a : AV) (d : Dat) (l : List AV) (m : List Dat) (h : FzD k M a d) (hs : FzDs k M l m) : FzDs k M (a :: l) (d :: m)
end
mutual
inductive FzA (k : Nat) (M : Mem) : AV → AV → Prop
  | dat (a : AV) (d : Dat) (h : FzD k M a d) : FzA k M a (toAV d)
  | fn (f : Fn) : FzA k M (.func f [] []) (.func f [] [])
  | agg (l m : List AV) (h : FzAs k M l m) : FzA k M (.agg l) (.agg m)
  | tuple (l m : List AV) (h : FzAs k M l m) : FzA k M (.tuple l) (.tuple m)
inductive FzAs (k : Nat) (M : Mem) : List AV → List AV → Prop
  | nil : FzAs k M [] []
  | cons (a b : AV) (l m : List AV) (h : FzA k M a b) (hs : FzAs k M l m) : FzAs k M (a :: l) (b :: m)
end

theorem toAV_inv {ρ : Env} {d : Dat} {v : Value} (h : VRel ρ (toAV d) v) : DRel ρ.z d v := by
  cases d <;> (simp only [toAV] at h; cases h) <;> first | exact .bool _ | exact .int _ _ | exact .str _ | exact .nilPtr | exact .nilMap | exact .nilFunc | exact .nilIface | assumption

/-- the blocks that the engine knows, but for the first k, stand still now -/
def Lives (k : Nat) (ρ : Env) (M : Mem) (B : Nat) : Prop := ∃ i c op sz x, k ≤ i ∧ M.t.get i = some (.row c op sz) ∧ ρ i = some (B, x)
noncomputable def stillOf (k : Nat) (ρ : Env) (M : Mem) (w : World) : Still := fun B =>
  if pdec (Lives k ρ M B) = true then (match w.heap[B]? with | some (.cells arr _ _) => some arr.toList | _ => .none) else ρ.z B

section
variable {k : Nat} {w0 : World} {R : Nat → Prop} {ρ : Env} {M : Mem} {w : World}
theorem still_at (h : MRel w0 R ρ M w) {i : Nat} {c : List AV} {op : Bool} {sz B x : Nat} (hk : k ≤ i) (hb : M.t.get i = some (.row c op sz)) (hr : ρ i = some (B, x)) :
    ∃ arr t, w.heap[B]? = some (.cells arr t (0, 0)) ∧ stillOf k ρ M w B = some arr.toList ∧ VsRel ρ c (arr.toList.take c.length) := by
  obtain ⟨arr, t, ho, hv, _⟩ := h.row hb hr
  refine ⟨arr, t, ho, ?_, hv⟩
  have : pdec (Lives k ρ M B) = true := pdec_iff.2 ⟨i, c, op, sz, x, hk, hb, hr⟩
  simp [stillOf, this, ho]
theorem still_ge (h : MRel w0 R ρ M w) : ρ.z.le (stillOf k ρ M w) := by
  intro B l hz
  have : ¬ pdec (Lives k ρ M B) = true := by
    rw [pdec_iff]
    rintro ⟨i, c, op, sz, x, _, hb, hr⟩
    have := h.zsep i _ B x hb (by simp) hr
    rw [this] at hz; cases hz
  simp [stillOf, this, hz]
theorem still_inv {B : Nat} {l : List Value} (hz : stillOf k ρ M w B = some l) : (Lives k ρ M B ∧ ∃ arr t f, w.heap[B]? = some (.cells arr t f) ∧ l = arr.toList) ∨ ρ.z B = some l := by
  unfold stillOf at hz
  split at hz
  · rename_i hp
    refine .inl ⟨pdec_iff.1 hp, ?_⟩
    split at hz
    · rename_i arr t f ho
      exact ⟨arr, t, f, ho, (Option.some.inj hz).symm⟩
    · cases hz
  · exact .inr hz

mutual
theorem FzD.rel (h : MRel w0 R ρ M w) : ∀ {a : AV} {d : Dat}, FzD k M a d → ∀ {v : Value}, VRel ρ a v → DRel (stillOf k ρ M w) d v
  | _, _, .same d, v, hv => (toAV_inv hv).mono (still_ge h)
  | _, _, .nil sz el, v, hv => by cases hv; exact .none _ _
  | _, _, .slice b o n cap op c op' sz' sz el hk hb hc hl hel, v, hv => by
    cases hv with
    | slice _ _ _ _ _ B x c' hr hcc =>
      obtain ⟨arr, t, ho, hst, hvs⟩ := still_at (k := k) h hk hb hr
      have hlen := hvs.length
      rw [List.length_take] at hlen
      have hle : c.length ≤ arr.toList.length := by omega
      refine .slice n sz el B o c' arr.toList hst (by omega) (by omega) fun i hi => ?_
      have hm : (i + 1) * sz ≤ n * sz := Nat.mul_le_mul_right _ (by omega)
      rw [Nat.add_mul, Nat.one_mul] at hm
      have e : ((arr.toList.take c.length).drop (o + i * sz)).take sz = (arr.toList.drop (o + i * sz)).take sz := by
        rw [List.drop_take, List.take_take, Nat.min_eq_left (by omega)]
      have := FzDs.rel h (hel i hi) (vs := ((arr.toList.take c.length).drop (o + i * sz)).take sz) ((hvs.drop _).take _)
      rwa [e] at this
theorem FzDs.rel (h : MRel w0 R ρ M w) : ∀ {l : List AV} {m : List Dat}, FzDs k M l m → ∀ {vs : List Value}, VsRel ρ l vs → DsRel (stillOf k ρ M w) m vs
  | _, _, .nil, vs, hv => by cases hv; exact .nil
  | _, _, .cons a d l m ha hs, vs, hv => by
    cases hv with
    | cons _ v _ vs e es => exact .cons _ _ _ _ (FzD.rel h ha e) (FzDs.rel h hs es)
end
mutual
theorem FzA.rel (h : MRel w0 R ρ M w) {σ : Env} (hσ : σ.z = stillOf k ρ M w) : ∀ {a b : AV}, FzA k M a b → ∀ {v : Value}, VRel ρ a v → VRel σ b v
  | _, _, .dat a d hd, v, hv => DRel.toAV (by rw [hσ]; exact hd.rel h hv)
  | _, _, .fn f, v, hv => by
    cases hv with
    | func _ _ _ vs ws h1 h2 =>
      obtain rfl : vs = #[] := Array.eq_empty_of_size_eq_zero (by have := h1.length; simpa using this.symm)
      obtain rfl : ws = #[] := Array.eq_empty_of_size_eq_zero (by have := h2.length; simpa using this.symm)
      exact .func _ _ _ _ _ .nil .nil
  | _, _, .agg l m hs, v, hv => by cases hv with | agg _ vs e => exact .agg _ _ (FzAs.rel h hσ hs e)
  | _, _, .tuple l m hs, v, hv => by cases hv with | tuple _ vs e => exact .tuple _ _ (FzAs.rel h hσ hs e)
theorem FzAs.rel (h : MRel w0 R ρ M w) {σ : Env} (hσ : σ.z = stillOf k ρ M w) : ∀ {l m : List AV}, FzAs k M l m → ∀ {vs : List Value}, VsRel ρ l vs → VsRel σ m vs
  | _, _, .nil, vs, hv => by cases hv; exact .nil
  | _, _, .cons a b l m ha hs, vs, hv => by cases hv with | cons _ v _ vs e es => exact .cons _ _ _ _ (FzA.rel h hσ ha e) (FzAs.rel h hσ hs es)
end
theorem FzDs.length {l : List AV} {m : List Dat} (h : FzDs k M l m) : l.length = m.length := by
  induction l generalizing m with
  | nil => cases h; rfl
  | cons a l ih => cases h with | cons _ b _ m h hs => simp [ih hs]
theorem FzAs.length {l m : List AV} (h : FzAs k M l m) : l.length = m.length := by
  induction l generalizing m with
  | nil => cases h; rfl
  | cons a l ih => cases h with | cons _ b _ m h hs => simp [ih hs]
end

/-! THE SPECIFICATION OF A CALL: from data, and from some rows by pointers, to data, and the rows as they are behind it -/
def oneOf (vs : List AV) : AV := match vs with | [v] => v | l => .tuple l
/-- how a function's code is to end -/
def Fin (P : Program) (fn : Func) (k : Nat) (rows1 : List (List Dat)) (ans : AV) (o : AE) (fr' : Fr) (M' : Mem) : Prop :=
  (o = .normal ∨ o = .ret) ∧ ∃ vs, resK P fr' M' fn.results.toList (fun l => pdec (l = vs)) = true ∧ FzA k M' (oneOf vs) ans ∧
    ∀ (j : Nat) (r : List Dat), rows1[j]? = some r → ∃ c sz, M'.t.get j = some (.row c false sz) ∧ FzDs k M' c r
def argSlots : List AV → Nat → List (Nat × AV)
  | [], _ => []
  | a :: l, i => (i, a) :: argSlots l (i + 1)
theorem argSlots_mem : ∀ (l : List AV) (i t : Nat) (a : AV), (t, a) ∈ argSlots l i → i ≤ t ∧ l[t - i]? = some a := by
  intro l
  induction l with
  | nil => intro i t a h; cases h
  | cons b l ih =>
    intro i t a h
    rcases List.mem_cons.1 h with h | h
    · cases h; exact ⟨Nat.le_refl _, by simp⟩
    · obtain ⟨h1, h2⟩ := ih _ _ _ h
      exact ⟨by omega, by rw [show t - i = (t - (i + 1)) + 1 by omega]; simpa using h2⟩
noncomputable def zip3 : List Nat → List (List Dat) → List (List Dat) → List (Nat × List AV × List AV)
  | b :: β, r :: rs, s :: ss => (b, toAVs r, toAVs s) :: zip3 β rs ss
  | _, _, _ => []
noncomputable def rowsOf (rows : List (List Dat)) : List Blk := rows.map fun r => .row (toAVs r) false 1

def BSim (P : Program) (f : FuncId) (args0 : List AV) (rows0 rows1 : List (List Dat)) (ans : AV) : Prop :=
  ∀ (β : List Nat) (args : List AV), β.length = rows0.length → β.Nodup → mapO (renT β) args0 = some args → SSpec P f ⟨args, zip3 β rows0 rows1, ans⟩

/-- what the rows of 'ups' are before and behind -/
theorem Ups.spec : ∀ (β : List Nat) (r0 r1 : List (List Dat)) (M M' : Mem), β.length = r0.length → r1.length = r0.length → β.Nodup → Ups (zip3 β r0 r1) M M' →
    M'.nx = M.nx ∧ (∀ (j b : Nat) (r s : List Dat), β[j]? = some b → r0[j]? = some r → r1[j]? = some s → ∃ sz, M.t.get b = some (.row (toAVs r) false sz) ∧ M'.t.get b = some (.row (toAVs s) false sz)) ∧ (∀ b, b ∉ β → M'.t.get b = M.t.get b) := by
  intro β
  induction β with
  | nil =>
    intro r0 r1 M M' h1 h2 hn hU
    simp only [zip3, Ups] at hU
    subst hU
    exact ⟨rfl, fun j b r s h => by simp at h, fun _ _ => rfl⟩
  | cons b β ih =>
    intro r0 r1 M M' h1 h2 hn hU
    cases r0 with
    | nil => simp at h1
    | cons r r0 =>
      cases r1 with
      | nil => simp at h2
      | cons s r1 =>
        simp only [zip3, Ups] at hU
        obtain ⟨sz, M1, hg, hM1, hnx, hU⟩ := hU
        rw [List.nodup_cons] at hn
        obtain ⟨e1, e2, e3⟩ := ih r0 r1 M1 M' (by simpa using h1) (by simpa using h2) hn.2 hU
        refine ⟨e1.trans hnx, fun j b' r' s' hj hr hs => ?_, fun b' hb' => ?_⟩
        · cases j with
          | zero =>
            simp only [List.getElem?_cons_zero, Option.some.injEq] at hj hr hs
            subst hj hr hs
            exact ⟨sz, hg, by rw [e3 b hn.1, hM1, if_pos rfl]⟩
          | succ j =>
            simp only [List.getElem?_cons_succ] at hj hr hs
            obtain ⟨sz', g1, g2⟩ := e2 j b' r' s' hj hr hs
            have hne : b' ≠ b := fun e => hn.1 (by rw [← e]; exact List.mem_of_getElem? hj)
            exact ⟨sz', by rwa [hM1, if_neg hne] at g1, g2⟩
        · rw [List.mem_cons, not_or] at hb'
          rw [e3 b' hb'.2, hM1, if_neg hb'.1]
end Go.Eng

set_option linter.unusedSectionVars false
namespace Go.Eng
open Go
variable [Mode]

theorem args_ren {ρ : Env} {β : List Nat} : ∀ {l m : List AV} {vs : List Value}, mapO (renT β) l = some m → VsRel ρ m vs → VsRel (ρ.ren β) l vs := fun h hv => renL_rel (fun _ _ _ => renT_rel) h hv
theorem data_rel {ρ σ : Env} (hz : ρ.z.le σ.z) {l : List Dat} {vs : List Value} (h : VsRel ρ (toAVs l) vs) : VsRel σ (toAVs l) vs := by
  induction l generalizing vs with
  | nil => cases h; exact .nil
  | cons d l ih =>
    change VsRel ρ (toAV d :: toAVs l) vs at h
    cases h with
    | cons _ v _ vs e es => exact .cons _ _ _ _ (DRel.toAV ((toAV_inv e).mono hz)) (ih es)

/-- THE LAW: a function whose code ends as it should, from a frame of its arguments and a memory of the rows that come by pointers -/
theorem BSim.of_W {P : Program} {f : FuncId} {fn : Func} {c : Code} (hf : P.funcs[f]? = some fn) (hb : fn.body = some c) (hname : (fn.name == "runtime.NumGoroutine") = false)
    {args0 : List AV} {rows0 rows1 : List (List Dat)} {ans : AV} (hlen : args0.length ≤ fn.ntmps) (hrows : rows1.length = rows0.length)
    (h : W P fn.ntmps rows0.length c (mkFr (argSlots args0 0)) (mkMem (rowsOf rows0)) (Fin P fn rows0.length rows1 ans)) : BSim P f args0 rows0 rows1 ans := by
  intro β args hβ hn hargs M M' hU w0 R ρ w cargs hM hv
  obtain ⟨hnx, hat, hoff⟩ := Ups.spec β rows0 rows1 M M' hβ hrows hn hU
  have hne : ¬ fn.name = "runtime.NumGoroutine" := by simpa using hname
  refine .inr ⟨by simp [callFunc, hf, hne, hb], calls_of_wp hf hb ?_⟩
  obtain ⟨o, fr', M1, ⟨ho, vs, hres, hfz, hbox⟩, hsim⟩ := h
  -- the rows that come by pointers
  have hbx : ∀ (j b : Nat), β[j]? = some b → ∃ r s sz B x arr t, rows0[j]? = some r ∧ rows1[j]? = some s ∧ M.t.get b = some (.row (toAVs r) false sz) ∧ M'.t.get b = some (.row (toAVs s) false sz) ∧ ρ b = some (B, x) ∧ ¬ R B ∧
      w.heap[B]? = some (.cells arr t (0, 0)) ∧ VsRel ρ (toAVs r) (arr.toList.take (toAVs r).length) ∧ arr.size = (toAVs r).length := by
    intro j b hj
    have hjl : j < rows0.length := by rw [← hβ]; exact (List.getElem?_eq_some_iff.1 hj).1
    have hr0 : rows0[j]? = some rows0[j] := List.getElem?_eq_getElem hjl
    have hr1 : rows1[j]? = some (rows1[j]'(by omega)) := List.getElem?_eq_getElem (by omega)
    obtain ⟨sz, g1, g2⟩ := hat j b _ _ hj hr0 hr1
    obtain ⟨B, x, ob, hr, hRB, hob, hO⟩ := hM.blk b _ g1 (by simp)
    unfold ORel at hO
    cases ob <;> simp only at hO
    case cells arr t fz =>
      obtain ⟨h1, h2, rfl⟩ := hO
      exact ⟨_, _, sz, B, x, arr, t, hr0, hr1, g1, g2, hr, hRB, hob, h1, by simpa using h2⟩
  -- where the run begins
  let isBox : Nat → Prop := fun B => ∃ (j b x : Nat), β[j]? = some b ∧ ρ b = some (B, x)
  let R1 : Nat → Prop := fun B => B < w.heap.size ∧ ¬ isBox B
  let ρ1 : Env := { (ρ.ren β) with base := w.heap.size }
  have hrow0 : ∀ (j : Nat) (b : Blk), (mkMem (rowsOf rows0)).t.get j = some b → ∃ r, rows0[j]? = some r ∧ b = .row (toAVs r) false 1 ∧ ∃ i, β[j]? = some i := by
    intro j b hj
    rw [mkMem_get] at hj
    simp only [rowsOf, List.getElem?_map] at hj
    cases hr0 : rows0[j]? with
    | none => rw [hr0] at hj; cases hj
    | some r =>
      rw [hr0] at hj
      have hjl : j < β.length := by rw [hβ]; exact (List.getElem?_eq_some_iff.1 hr0).1
      exact ⟨r, rfl, (Option.some.inj hj).symm, _, List.getElem?_eq_getElem hjl⟩
  have hMb : MRel w R1 ρ1 (mkMem (rowsOf rows0)) w := by
    refine ⟨rfl, rfl, rfl, Nat.le_refl _, fun _ _ => rfl, fun b hb => hb.1, fun j b hj hd => ?_, fun j j' b c B x y hj hd hj' he e1 e2 => ?_, fun j p e => ?_, hM.zok, fun j b B x hj hd e => ?_, Nat.le_refl _⟩
    · obtain ⟨r, hr0, rfl, i, hjb⟩ := hrow0 j b hj
      obtain ⟨r', s, sz, B, x, arr, t, g1, g2, g3, g4, g5, g6, g7, g8, g9⟩ := hbx j _ hjb
      rw [hr0] at g1
      obtain rfl := Option.some.inj g1
      refine ⟨B, x, _, (ren_at hjb).trans g5, fun hR1 => hR1.2 ⟨j, _, x, hjb, g5⟩, g7, data_rel (ρ := ρ) (σ := ρ1) (fun _ _ h => h) g8, by simpa using g9, rfl⟩
    · obtain ⟨r, hr0, rfl, i, hjb⟩ := hrow0 j b hj
      obtain ⟨r', hr0', rfl, i', hjb'⟩ := hrow0 j' c hj'
      change (ρ.ren β) j = _ at e1
      change (ρ.ren β) j' = _ at e2
      rw [ren_at hjb] at e1
      rw [ren_at hjb'] at e2
      obtain ⟨_, _, _, _, _, _, _, _, _, g3, _⟩ := hbx j _ hjb
      obtain ⟨_, _, _, _, _, _, _, _, _, g3', _⟩ := hbx j' _ hjb'
      have := hM.inj i i' _ _ B x y g3 (by simp) g3' (by simp) e1 e2
      subst this
      obtain ⟨l1, q1⟩ := List.getElem?_eq_some_iff.1 hjb
      obtain ⟨l2, q2⟩ := List.getElem?_eq_some_iff.1 hjb'
      have hpw := List.pairwise_iff_getElem.1 hn
      rcases Nat.lt_trichotomy j j' with hlt | he' | hlt
      · exact absurd (q1.trans q2.symm) (hpw j j' l1 l2 hlt)
      · exact he'
      · exact absurd (q2.trans q1.symm) (hpw j' j l2 l1 hlt)
    · show j < lenL (rowsOf rows0)
      rw [lenL_eq]
      change (match β[j]? with | .some i => ρ i | .none => .none) = some p at e
      cases hj : β[j]? with
      | none => rw [hj] at e; cases e
      | some i => have := (List.getElem?_eq_some_iff.1 hj).1; simp [rowsOf]; omega
    · obtain ⟨r, hr0, rfl, i, hjb⟩ := hrow0 j b hj
      change (ρ.ren β) j = _ at e
      rw [ren_at hjb] at e
      obtain ⟨_, _, _, _, _, _, _, _, _, g3, _⟩ := hbx j _ hjb
      exact hM.zsep i _ B x g3 (by simp) e
  have hvr : VsRel ρ1 args0 cargs.toList := VsRel.sub (ρ := ρ.ren β) (σ := ρ1) ⟨fun _ _ h => h, fun _ _ h => h⟩ (args_ren hargs hv)
  have hcl : cargs.size = args0.length := by have := hvr.length; simpa using this.symm
  have hF1 : FRel ρ1 fn.ntmps (mkFr (argSlots args0 0)) { tmps := cargs ++ Array.replicate (fn.ntmps - cargs.size) Go.undef, defers := [] } := by
    refine ⟨by simp; omega, rfl, fun t a ha => ?_⟩
    obtain ⟨_, h2⟩ := argSlots_mem _ _ _ _ (mkFr_get _ _ _ ha)
    obtain ⟨v, hv', hr⟩ := hvr.get' h2
    have hlt : t < cargs.size := by have := (List.getElem?_eq_some_iff.1 h2).1; omega
    have : (cargs ++ Array.replicate (fn.ntmps - cargs.size) Go.undef).getD t Go.undef = v := by
      rw [Array.getD_eq_getD_getElem?, Array.getElem?_append_left hlt]
      simp at hv'
      simp [hv']
    rw [this]; exact hr
  refine hsim w R1 ρ1 _ w hF1 hMb _ fun ρ' a' w' hz hF hM' => ?_
  -- its answer
  obtain ⟨vs', hvs, H⟩ := resK_sound _ _ hres
  obtain rfl : vs' = vs := pdec_iff.1 hvs
  obtain ⟨cvs, hcv, hrun⟩ := H w R1 ρ' a' w' _ hF hM'
  have hresults : (results fn a'.tmps).run P w' = .ok (if h : cvs.toArray.size = 1 then cvs.toArray[0] else .tuple cvs.toArray) w' := by
    unfold results
    rw [Array.mapM_eq_mapM_toList]
    simp only [Sem.run_bind, Sem.run_map]
    refine Eq.trans (congrArg (fun r : Result (List Value) => ((Result.andThen r (fun a w' => Result.ok a.toArray w')).andThen fun a w' => Sem.run P (pure (if h : a.size = 1 then a[0] else Value.tuple a)) w')) hrun) ?_
    simp only [Result.andThen_ok, Sem.run_pure]
  have hval : VRel ρ' (oneOf vs') (if h : cvs.toArray.size = 1 then cvs.toArray[0] else .tuple cvs.toArray) := by
    unfold oneOf
    split
    · cases hcv with
      | cons _ cv _ _ h1 h2 => cases h2; simpa using h1
    · rename_i hne
      have hl := hcv.length
      have : ¬ cvs.toArray.size = 1 := by
        intro e
        simp at e
        cases vs' with
        | nil => simp at hl; omega
        | cons x r =>
          cases r with
          | nil => exact hne x rfl
          | cons y r => simp at hl; omega
      rw [dif_neg this]
      exact .tuple _ _ (by simpa using hcv)
  -- what stands still from here
  let σ : Env := ⟨ρ.m, stillOf rows0.length ρ' M1 w', ρ.base⟩
  have hans : VRel σ ans _ := hfz.rel hM' (σ := σ) rfl hval
  have hboxlt : ∀ B, isBox B → B < w.heap.size := by
    rintro B ⟨j, b, x, hj, hr⟩
    obtain ⟨_, _, _, B', x', arr, t, _, _, _, _, g5, _, g7, _⟩ := hbx j b hj
    rw [hr] at g5
    obtain ⟨rfl, rfl⟩ := Prod.mk.inj (Option.some.inj g5)
    exact (Array.getElem?_eq_some_iff.1 g7).1
  have hbox' : ∀ (j b B x : Nat), β[j]? = some b → ρ b = some (B, x) → ∃ r s c sz sz', rows0[j]? = some r ∧ rows1[j]? = some s ∧ M'.t.get b = some (.row (toAVs s) false sz) ∧ M1.t.get j = some (.row c false sz') ∧ FzDs rows0.length M1 c s ∧ ρ' j = some (B, x) := by
    intro j b B x hj hr
    obtain ⟨r, s, sz, B', x', arr, t, g1, g2, g3, g4, g5, _⟩ := hbx j b hj
    obtain ⟨c, sz', h1, h2⟩ := hbox j s g2
    have hjk : j < rows0.length := (List.getElem?_eq_some_iff.1 g1).1
    exact ⟨r, s, c, sz, sz', g1, g2, g4, h1, h2, hz.m j _ hjk ((ren_at hj).trans hr)⟩
  have hLives : ∀ B, Lives rows0.length ρ' M1 B → w.heap.size ≤ B := by
    rintro B ⟨i, c, op, sz, x, hk, hb, hr⟩
    obtain ⟨B', x', o', hr', hR, _, _⟩ := hM'.blk i _ hb (by simp)
    rw [hr] at hr'
    obtain ⟨rfl, rfl⟩ := Prod.mk.inj (Option.some.inj hr')
    rcases Nat.lt_or_ge B w.heap.size with hlt | hge
    · exfalso
      refine hR ⟨hlt, ?_⟩
      rintro ⟨j, b, y, hj, hrb⟩
      obtain ⟨r, s, c', sz1, sz2, g1, g2, g3, g4, g5, g6⟩ := hbox' j b B y hj hrb
      have := hM'.inj i j _ _ B x y hb (by simp) g4 (by simp) hr g6
      have hjk : j < rows0.length := (List.getElem?_eq_some_iff.1 g1).1
      omega
    · exact hge
  have hnewz : ∀ B l, σ.z B = some l → ρ.z B = some l ∨ w.heap.size ≤ B := by
    intro B l hzB
    rcases still_inv hzB with ⟨hl, _⟩ | h1
    · exact .inr (hLives B hl)
    · rcases hz.new B l h1 with h2 | h2 | ⟨j, x, h2⟩
      · exact .inl h2
      · exact .inr h2
      · exfalso
        change (match β[j]? with | .some i => ρ i | .none => .none) = some (B, x) at h2
        cases hj : β[j]? with
        | none => rw [hj] at h2; cases h2
        | some b =>
          rw [hj] at h2
          obtain ⟨r, s, c, sz, sz', g1, g2, g3, g4, g5, g6⟩ := hbox' j b B x hj h2
          rw [hM'.zsep j _ B x g4 (by simp) g6] at h1
          cases h1
  have hle : ρ.le σ := ⟨fun _ _ h => h, fun B l e => still_ge hM' B l (hz.z B l e), rfl, fun B l e => by
    rcases hnewz B l e with h1 | h1
    · exact .inl h1
    · exact .inr (.inl (Nat.le_trans hM.base h1)), fun i p e => .inr ⟨i, p.2, e⟩⟩
  have hMi : ∀ (i : Nat) (b : Blk), M'.t.get i = some b → b ≠ .dead → ∃ c, M.t.get i = some c ∧ c ≠ .dead := by
    intro i b hi hd
    by_cases hin : i ∈ β
    · obtain ⟨j, hj⟩ := List.getElem?_of_mem hin
      obtain ⟨_, _, _, _, _, _, _, _, _, g3, _⟩ := hbx j i hj
      exact ⟨_, g3, by simp⟩
    · rw [hoff i hin] at hi; exact ⟨b, hi, hd⟩
  have hMR : MRel w0 R σ M' w' := by
    refine ⟨hM'.os.trans hM.os, hM'.tape.trans hM.tape, hM'.output.trans hM.output, Nat.le_trans hM.size hM'.size, fun b hb => ?_, hM.rlt, fun i b hi hd => ?_, fun i j b c B x y hi hd hj he e1 e2 => ?_, fun i p e => ?_, fun B l e => ?_, fun i b B x hi hd e => ?_, Nat.le_trans hM.base hM'.size⟩
    · have h1 : R1 b := by
        refine ⟨Nat.lt_of_lt_of_le (hM.rlt b hb) hM.size, ?_⟩
        rintro ⟨j, b', x, hj, hr⟩
        obtain ⟨_, _, _, B', x', arr, t, _, _, _, _, g5, g6, _⟩ := hbx j b' hj
        rw [hr] at g5
        obtain ⟨rfl, rfl⟩ := Prod.mk.inj (Option.some.inj g5)
        exact g6 hb
      exact (hM'.keep b h1).trans (hM.keep b hb)
    · by_cases hin : i ∈ β
      · obtain ⟨j, hj⟩ := List.getElem?_of_mem hin
        obtain ⟨r, s, sz, B, x, arr, t, g1, g2, g3, g4, g5, g6, g7, g8, g9⟩ := hbx j i hj
        obtain ⟨r', s', c, sz1, sz2, k1, k2, k3, k4, k5, k6⟩ := hbox' j i B x hj g5
        rw [g2] at k2
        obtain rfl := Option.some.inj k2
        rw [g4] at hi
        obtain rfl := Option.some.inj hi
        obtain ⟨arr', t', ho, hv', hsz⟩ := hM'.row k4 k6
        have hd' := (k5.rel hM' hv').toAVs (ρ := σ)
        have hll : (toAVs s).length = c.length := by rw [toAVs_length]; exact k5.length.symm
        refine ⟨B, x, _, g5, g6, ho, ?_⟩
        refine ⟨by rw [hll]; exact hd', by rw [hll]; simpa using hsz, rfl⟩
      · rw [hoff i hin] at hi
        obtain ⟨B, x, ob, hr, hRB, hob, hO⟩ := hM.blk i b hi hd
        refine ⟨B, x, ob, hr, hRB, ?_, hO.mono hle⟩
        rw [hM'.keep B ⟨(Array.getElem?_eq_some_iff.1 hob).1, ?_⟩]
        · exact hob
        · rintro ⟨j, b', y, hj, hrb⟩
          obtain ⟨_, _, _, _, _, _, _, _, _, g3, _⟩ := hbx j b' hj
          have := hM.inj i b' b _ B x y hi hd g3 (by simp) hr hrb
          subst this
          exact hin (List.mem_of_getElem? hj)
    · obtain ⟨b', h1, h2⟩ := hMi i b hi hd
      obtain ⟨c', h3, h4⟩ := hMi j c hj he
      exact hM.inj i j b' c' B x y h1 h2 h3 h4 e1 e2
    · rw [hnx]; exact hM.fresh i p e
    · rcases still_inv e with ⟨⟨i, c, op, sz, x, hk, hb, hr⟩, arr, t, f, ho, rfl⟩ | h1
      · obtain ⟨arr', t', ho', _⟩ := hM'.row hb hr
        have e0 := Option.some.inj (ho.symm.trans ho')
        have e1 : arr = arr' := by injection e0
        subst e1
        exact ⟨arr, t', _, ho', List.take_length⟩
      · exact hM'.zok B l h1
    · obtain ⟨b', h1, h2⟩ := hMi i b hi hd
      have hlt := hM.lt h1 h2 e
      cases hzB : σ.z B with
      | none => rfl
      | some l =>
        rcases hnewz B l hzB with h3 | h3
        · rw [hM.zsep i b' B x h1 h2 e] at h3; cases h3
        · omega
  have hpost : a'.defers = [] ∧ ∃ v, (results fn a'.tmps).run P w' = .ok v w' ∧ ∃ ρ'' cv, ρ.le ρ'' ∧ Ending.returned v = .returned cv ∧ VRel ρ'' ans cv ∧ MRel w0 R ρ'' M' w' := ⟨hF.defers, _, hresults, σ, _, hle, rfl, hans, hMR⟩
  rcases ho with rfl | rfl
  · exact hpost
  · exact hpost
end Go.Eng

set_option linter.unusedSectionVars false
namespace Go.Eng
open Go
variable [Mode]

/-! FREEZING, piece by piece -/
theorem FzDs.sames {k : Nat} {M : Mem} : ∀ ds : List Dat, FzDs k M (toAVs ds) ds
  | [] => .nil
  | d :: ds => .cons _ _ _ _ (.same d) (FzDs.sames ds)
theorem FzAs.sames {k : Nat} {M : Mem} : ∀ ds : List Dat, FzAs k M (toAVs ds) (toAVs ds)
  | [] => .nil
  | d :: ds => .cons _ _ _ _ (.dat _ _ (.same d)) (FzAs.sames ds)
theorem FzA.plain {k : Nat} {M : Mem} (d : Dat) : FzA k M (toAV d) (toAV d) := .dat _ _ (.same d)
theorem FzA.aggs {k : Nat} {M : Mem} (ds : List Dat) : FzA k M (.agg (toAVs ds)) (.agg (toAVs ds)) := .agg _ _ (FzAs.sames ds)
theorem toAVs_append (l m : List Dat) : toAVs (l ++ m) = toAVs l ++ toAVs m := by
  induction l with
  | nil => rfl
  | cons d l ih => show toAV d :: toAVs (l ++ m) = _; rw [ih]; rfl
theorem toAVs_drop (l : List Dat) (n : Nat) : (toAVs l).drop n = toAVs (l.drop n) := by
  induction l generalizing n with
  | nil => simp [toAVs]
  | cons d l ih =>
    cases n with
    | zero => rfl
    | succ n => exact ih n
theorem toAVs_take (l : List Dat) (n : Nat) : (toAVs l).take n = toAVs (l.take n) := by
  induction l generalizing n with
  | nil => simp [toAVs]
  | cons d l ih =>
    cases n with
    | zero => rfl
    | succ n => show toAV d :: (toAVs l).take n = _; rw [ih]; rfl
theorem chunk_get {α : Type} {sz : Nat} : ∀ (l : List (List α)) (i : Nat), (∀ c ∈ l, c.length = sz) → i < l.length → (l.flatten.drop (i * sz)).take sz = l.getD i [] := by
  intro l
  induction l with
  | nil => intro i _ h; exact absurd h (Nat.not_lt_zero _)
  | cons c l ih =>
    intro i hc hi
    have h0 : c.length = sz := hc c (List.mem_cons_self ..)
    cases i with
    | zero =>
      rw [Nat.zero_mul, List.drop_zero, List.flatten_cons, List.getD_cons_zero, ← h0, List.take_left]
    | succ i =>
      rw [Nat.succ_mul, List.flatten_cons, List.getD_cons_succ, Nat.add_comm, ← List.drop_drop, ← h0, List.drop_left, h0]
      exact ih i (fun c h => hc c (List.mem_cons_of_mem _ h)) (by simpa using hi)
theorem flatten_len {α : Type} {sz : Nat} : ∀ (l : List (List α)), (∀ c ∈ l, c.length = sz) → l.flatten.length = l.length * sz := by
  intro l
  induction l with
  | nil => intro _; simp
  | cons c l ih =>
    intro h
    rw [List.flatten_cons, List.length_append, h c (List.mem_cons_self ..), ih fun d hd => h d (List.mem_cons_of_mem _ hd), List.length_cons, Nat.succ_mul, Nat.add_comm]
/-- a slice over a row that holds data, element by element -/
theorem FzD.chunks {k : Nat} {M : Mem} {b cap sz' : Nat} {op op' : Bool} (l : List (List Dat)) (sz : Nat) (hk : k ≤ b) (hb : M.t.get b = some (.row (toAVs l.flatten) op' sz')) (hc : l.length ≤ cap) (hl : ∀ c ∈ l, c.length = sz) :
    FzD k M (.slice b 0 l.length cap op) (.slice l.length sz (fun i => l.getD i [])) := by
  refine .slice b 0 l.length cap op _ op' sz' sz _ hk hb hc ?_ fun i hi => ?_
  · rw [toAVs_length, flatten_len l hl]; omega
  · rw [Nat.zero_add, toAVs_drop, toAVs_take, chunk_get l i hl hi]
    exact FzDs.sames _

def codeOf (fn : Func) : Code := match fn.body with | some c => c | none => .skip
theorem codeOf_some {fn : Func} (h : fn.body.isSome = true) : fn.body = some (codeOf fn) := by
  unfold codeOf
  cases e : fn.body with
  | none => rw [e] at h; cases h
  | some c => rfl
def endK (o : AE) (b : Bool) : Bool := match o with | .normal => b | .ret => b | .exit _ => false
/-- the facts of a function that a run needs -/
structure FnOk (P : Program) (f : FuncId) (fn : Func) : Prop where
  at_ : P.funcs[f]? = some fn
  body : fn.body.isSome = true
  name : (fn.name == "runtime.NumGoroutine") = false
/-- what a leaf of the run must show -/
def Leaf (k : Nat) (π : List Nat) (rows1 : List (List Dat)) (ans : AV) (v : AV) (bs : List (Option Blk)) : Prop :=
  ∀ M', mv π M' = bs → FzA k M' v ans ∧ ∀ (j : Nat) (r : List Dat), rows1[j]? = some r → ∃ c sz, M'.t.get j = some (.row c false sz) ∧ FzDs k M' c r

theorem BSim.exec {P : Program} (hm : P.follows .mixedOrders = true) {X : FuncId → Option Ext} (hX : ∀ f x, X f = some x → ExtSpec P f x) {S : List (FuncId × SEnt)} (hS : ∀ e ∈ S, SSpec P e.1 e.2) {f : FuncId} {fn : Func} (hf : FnOk P f fn)
    {args0 : List AV} {rows0 rows1 : List (List Dat)} {ans : AV} (hlen : Nat.ble args0.length fn.ntmps = true) (hrows : rows1.length = rows0.length) (n : Nat) (J : AV → Mem → Bool)
    (h : Eng.exec P X S n fn.ntmps (codeOf fn) (mkFr (argSlots args0 0)) (mkMem (rowsOf rows0)) (fun o fr M => endK o (resK P fr M fn.results.toList fun vs => J (oneOf vs) M)) = true)
    (hJ : ∀ v M', J v M' = true → FzA rows0.length M' v ans ∧ ∀ (j : Nat) (r : List Dat), rows1[j]? = some r → ∃ c sz, M'.t.get j = some (.row c false sz) ∧ FzDs rows0.length M' c r) : BSim P f args0 rows0 rows1 ans := by
  refine BSim.of_W hf.at_ (codeOf_some hf.body) hf.name (nble_le hlen) hrows ((W.exec hm hX hS (k := rows0.length) h).mono fun o fr' M' hK => ?_)
  have hend : (o = .normal ∨ o = .ret) ∧ resK P fr' M' fn.results.toList (fun vs => J (oneOf vs) M') = true := by
    cases o with
    | normal => exact ⟨.inl rfl, hK⟩
    | ret => exact ⟨.inr rfl, hK⟩
    | exit id => exact absurd hK (by simp [endK])
  obtain ⟨ho, hres⟩ := hend
  refine ⟨ho, ?_⟩
  clear h
  have : ∀ (l : List ResultVar) (J : List AV → Bool), resK P fr' M' l J = true → ∃ vs, J vs = true ∧ ∀ J' : List AV → Bool, J' vs = true → resK P fr' M' l J' = true := by
    intro l
    induction l with
    | nil => intro J h; exact ⟨[], h, fun J' h' => h'⟩
    | cons r l ih =>
      intro J h
      cases r with
      | tmp t =>
        change (getT fr' t fun v => resK P fr' M' l fun vs => J (v :: vs)) = true at h
        rw [getT_iff] at h
        obtain ⟨av, hav, h⟩ := h
        obtain ⟨vs, h1, h2⟩ := ih _ h
        refine ⟨av :: vs, h1, fun J' h' => ?_⟩
        show (getT fr' t fun v => resK P fr' M' l fun vs => J' (v :: vs)) = true
        rw [getT_iff]
        exact ⟨av, hav, h2 (fun vs => J' (av :: vs)) h'⟩
      | cell x t =>
        change (getT fr' x fun p => loadA P t p M' fun v => resK P fr' M' l fun vs => J (v :: vs)) = true at h
        rw [getT_iff] at h
        obtain ⟨av, hav, h⟩ := h
        obtain ⟨u, hu1, hu2⟩ : ∃ u, (resK P fr' M' l fun vs => J (u :: vs)) = true ∧ ∀ J' : AV → Bool, J' u = true → loadA P t av M' J' = true := by
          unfold loadA at h
          split at h
          · rename_i b o
            split at h
            · rename_i c op sz hb
              obtain ⟨u, h1, h2⟩ : ∃ u, (resK P fr' M' l fun vs => J (u :: vs)) = true ∧ ∀ J' : AV → Bool, J' u = true → partK P t c o J' = true := by
                unfold partK at h ⊢
                split at h
                · rw [dropK_iff] at h
                  obtain ⟨h1, h⟩ := h
                  rw [takeK_iff] at h
                  exact ⟨_, h.2, fun J' hJ => by rw [dropK_iff, takeK_iff]; exact ⟨h1, h.1, hJ⟩⟩
                · rw [dropK_iff] at h
                  obtain ⟨h1, h⟩ := h
                  rw [headK_iff] at h
                  obtain ⟨x, r, e, h⟩ := h
                  exact ⟨x, h, fun J' hJ => by rw [dropK_iff, headK_iff]; exact ⟨h1, x, r, e, hJ⟩⟩
                · exact absurd h (by simp)
              exact ⟨u, h1, fun J' hJ => by simp only [loadA, hb]; exact h2 J' hJ⟩
            · exact absurd h (by simp)
          · rename_i c o
            obtain ⟨u, h1, h2⟩ : ∃ u, (resK P fr' M' l fun vs => J (u :: vs)) = true ∧ ∀ J' : AV → Bool, J' u = true → partK P t (toAVs c) o J' = true := by
              unfold partK at h ⊢
              split at h
              · rw [dropK_iff] at h
                obtain ⟨h1, h⟩ := h
                rw [takeK_iff] at h
                exact ⟨_, h.2, fun J' hJ => by rw [dropK_iff, takeK_iff]; exact ⟨h1, h.1, hJ⟩⟩
              · rw [dropK_iff] at h
                obtain ⟨h1, h⟩ := h
                rw [headK_iff] at h
                obtain ⟨x, r, e, h⟩ := h
                exact ⟨x, h, fun J' hJ => by rw [dropK_iff, headK_iff]; exact ⟨h1, x, r, e, hJ⟩⟩
              · exact absurd h (by simp)
            exact ⟨u, h1, fun J' hJ => by simp only [loadA]; exact h2 J' hJ⟩
          · exact absurd h (by simp)
        obtain ⟨vs, h1, h2⟩ := ih _ hu1
        refine ⟨u :: vs, h1, fun J' h' => ?_⟩
        show (getT fr' x fun p => loadA P t p M' fun v => resK P fr' M' l fun vs => J' (v :: vs)) = true
        rw [getT_iff]
        exact ⟨av, hav, hu2 _ (h2 (fun vs => J' (u :: vs)) h')⟩
  obtain ⟨vs, h1, h2⟩ := this _ _ hres
  refine ⟨vs, h2 _ (pdec_iff.2 rfl), ?_⟩
  exact hJ _ _ h1
theorem BSim.run {P : Program} (hm : P.follows .mixedOrders = true) {X : FuncId → Option Ext} (hX : ∀ f x, X f = some x → ExtSpec P f x) {S : List (FuncId × SEnt)} (hS : ∀ e ∈ S, SSpec P e.1 e.2) {f : FuncId} {fn : Func} (hf : FnOk P f fn)
    {args0 : List AV} {rows0 rows1 : List (List Dat)} {ans : AV} (hlen : Nat.ble args0.length fn.ntmps = true) (hrows : rows1.length = rows0.length) (n : Nat) (π : List Nat) (T : (AV → List (Option Blk) → Bool) → Bool)
    (h : ∀ I : AV → List (Option Blk) → Bool, Eng.exec P X S n fn.ntmps (codeOf fn) (mkFr (argSlots args0 0)) (mkMem (rowsOf rows0)) (fun o fr M => endK o (resK P fr M fn.results.toList fun vs => I (oneOf vs) (mv π M))) = T I)
    (hT : T (fun v bs => pdec (Leaf rows0.length π rows1 ans v bs)) = true) : BSim P f args0 rows0 rows1 ans :=
  BSim.exec hm hX hS hf hlen hrows n (fun v M => pdec (Leaf rows0.length π rows1 ans v (mv π M))) ((h fun v bs => pdec (Leaf rows0.length π rows1 ans v bs)).trans hT) fun v M' hJ => pdec_iff.1 hJ M' rfl

theorem rows_of_mv {k : Nat} {M' : Mem} : ∀ {rows1 : List (List Dat)} {i : Nat}, mv (List.range' i rows1.length) M' = (rowsOf rows1).map some → ∀ (j : Nat) (r : List Dat), rows1[j]? = some r → ∃ c sz, M'.t.get (i + j) = some (.row c false sz) ∧ FzDs k M' c r := by
  intro rows1
  induction rows1 with
  | nil => intro i _ j r h; simp at h
  | cons q rows1 ih =>
    intro i h j r hj
    simp only [List.length_cons, List.range'_succ, mv, rowsOf, List.map_cons, List.cons.injEq] at h
    cases j with
    | zero =>
      obtain rfl : q = r := by simpa using hj
      refine ⟨_, _, by simpa using h.1, ?_⟩
      have : ∀ ds : List Dat, FzDs k M' (toAVs ds) ds := by
        intro ds
        induction ds with
        | nil => exact .nil
        | cons d ds ih => exact .cons _ _ _ _ (.same d) ih
      exact this q
    | succ j =>
      obtain ⟨c, sz, h1, h2⟩ := ih h.2 j r (by simpa using hj)
      exact ⟨c, sz, by rw [show i + (j + 1) = i + 1 + j by omega]; exact h1, h2⟩
/-- a leaf that gives data at once -/
theorem Leaf.of {k : Nat} {rows1 : List (List Dat)} {ans v : AV} {π : List Nat} {bs : List (Option Blk)} (h : ∀ M', mv π M' = bs → FzA k M' v ans) : Leaf k (List.range' 0 rows1.length ++ π) rows1 ans v ((rowsOf rows1).map some ++ bs) := by
  intro M' hm
  unfold mv at hm
  rw [List.map_append] at hm
  have hl : ((List.range' 0 rows1.length).map fun b => M'.t.get b).length = ((rowsOf rows1).map some).length := by simp [rowsOf]
  obtain ⟨h1, h2⟩ := List.append_inj hm hl
  refine ⟨h M' h2, fun j r hj => ?_⟩
  have := rows_of_mv (k := k) (i := 0) h1 j r hj
  simpa using this
theorem Leaf.box {k : Nat} {r : List Dat} {ans v : AV} {π : List Nat} {bs : List (Option Blk)} (h : ∀ M', mv π M' = bs → FzA k M' v ans) : Leaf k (0 :: π) [r] ans v (some (.row (toAVs r) false 1) :: bs) := Leaf.of (rows1 := [r]) h
theorem Leaf.flat {k : Nat} {ans v : AV} {π : List Nat} {bs : List (Option Blk)} (h : ∀ M', mv π M' = bs → FzA k M' v ans) : Leaf k π [] ans v bs := Leaf.of (rows1 := []) h
/-- a call by pointers to nothing, from data to data -/
theorem BSim.spec0 {P : Program} {f : FuncId} {args : List AV} {ans : AV} (h : BSim P f args [] [] ans) (ha : mapO (renT []) args = some args) : SSpec P f ⟨args, [], ans⟩ := h [] args rfl List.nodup_nil ha
theorem BSim.spec1 {P : Program} {f : FuncId} {args args' : List AV} {r s : List Dat} {ans : AV} (h : BSim P f args [r] [s] ans) (b : Nat) (ha : mapO (renT [b]) args = some args') : SSpec P f ⟨args', [(b, toAVs r, toAVs s)], ans⟩ := h [b] args' rfl (by simp) ha
end Go.Eng

set_option linter.unusedSectionVars false
namespace Go.Eng
open Go
variable [Mode]

/-- a value that is data as it stands -/
def flat1 (a : AV) : Bool := match a with | .bool _ | .int .. | .str .. | .nilPtr | .nilMap | .nilFunc | .nilIface => true | _ => false
def flatA (a : AV) : Bool := match a with | .agg l => l.all flat1 | a => flat1 a
def flatT (a : AV) : Bool := match a with | .tuple l => l.all flatA | a => flatA a
theorem flat1_str {k : Nat} {M : Mem} {l c : Nat} : FzA k M (.str l c) (.str l c) := FzA.plain (.str l c)
theorem flat1_fz {k : Nat} {M : Mem} {a : AV} (h : flat1 a = true) : FzA k M a a := by
  cases a <;> first
    | exact FzA.plain (.bool _)
    | exact FzA.plain (.int _ _)
    | exact FzA.plain (.str _ _)
    | exact FzA.plain .nilPtr
    | exact FzA.plain .nilMap
    | exact FzA.plain .nilFunc
    | exact FzA.plain .nilIface
    | exact Bool.noConfusion h
theorem flats_fz {k : Nat} {M : Mem} {p : AV → Bool} (hp : ∀ a, p a = true → FzA k M a a) : ∀ {l : List AV}, l.all p = true → FzAs k M l l := by
  intro l
  induction l with
  | nil => intro _; exact .nil
  | cons a l ih =>
    intro h
    simp only [List.all_cons, Bool.and_eq_true] at h
    exact .cons _ _ _ _ (hp a h.1) (ih h.2)
theorem flatA_fz {k : Nat} {M : Mem} {a : AV} (h : flatA a = true) : FzA k M a a := by
  unfold flatA at h
  split at h
  · exact .agg _ _ (flats_fz (fun _ => flat1_fz) h)
  · exact flat1_fz h
theorem flatT_fz {k : Nat} {M : Mem} {a : AV} (h : flatT a = true) : FzA k M a a := by
  unfold flatT at h
  split at h
  · exact .tuple _ _ (flats_fz (fun _ => flatA_fz) h)
  · exact flatA_fz h
/-- a run on closed values -/
noncomputable def closedRun (P : Program) (X : FuncId → Option Ext) (S : List (FuncId × SEnt)) (n : Nat) (fn : Func) (args : List AV) (ans : AV) : Bool :=
  Eng.exec P X S n fn.ntmps (codeOf fn) (mkFr (argSlots args 0)) (mkMem []) (fun o fr M => endK o (resK P fr M fn.results.toList fun vs => beqT (oneOf vs) ans))
theorem BSim.closed {P : Program} (hm : P.follows .mixedOrders = true) {X : FuncId → Option Ext} (hX : ∀ f x, X f = some x → ExtSpec P f x) {S : List (FuncId × SEnt)} (hS : ∀ e ∈ S, SSpec P e.1 e.2) {f : FuncId} {fn : Func} (hf : FnOk P f fn)
    {args : List AV} {ans : AV} (hlen : Nat.ble args.length fn.ntmps = true) (n : Nat) (h : closedRun P X S n fn args ans = true) (hp : flatT ans = true) : BSim P f args [] [] ans := by
  refine BSim.exec hm hX hS hf hlen rfl n (fun v _ => beqT v ans) h fun v M' hJ => ?_
  obtain rfl := beqT_sound hJ
  exact ⟨flatT_fz hp, fun j r h => by simp at h⟩
end Go.Eng

set_option linter.unusedSectionVars false
namespace Go.Eng
open Go
variable [Mode]

/-! data that read alike -/
theorem DRel.slice_congr {Z : Still} {n sz : Nat} {el el' : Nat → List Dat} {v : Value} (h : DRel Z (.slice n sz el) v) (he : ∀ i, i < n → el i = el' i) : DRel Z (.slice n sz el') v := by
  cases h with
  | none => exact .none _ _
  | empty => exact .empty _ _ _ _
  | slice _ _ _ B o cap l hz hc hl hd => exact .slice _ _ _ B o cap l hz hc hl fun i hi => by rw [← he i hi]; exact hd i hi
theorem VRel.dslice_congr {ρ : Env} {n sz : Nat} {el el' : Nat → List Dat} {v : Value} (h : VRel ρ (.dslice n sz el) v) (he : ∀ i, i < n → el i = el' i) : VRel ρ (.dslice n sz el') v := by
  cases h with
  | dslice _ _ _ _ hd => exact .dslice _ _ _ _ (hd.slice_congr he)
theorem SSpec.conv_row {P : Program} {f : FuncId} {args : List AV} {b : Nat} {r r' s : List AV} {ans : AV} (h : SSpec P f ⟨args, [(b, r', s)], ans⟩) (hl : r.length = r'.length) (hr : ∀ ρ vs, VsRel ρ r vs → VsRel ρ r' vs) :
    SSpec P f ⟨args, [(b, r, s)], ans⟩ := by
  intro M M' hU
  obtain ⟨sz, M1, hg, hM1, hnx, hE⟩ := hU
  obtain rfl : M' = M1 := hE
  have hU2 : Ups [(b, r', s)] ⟨T.putD (.row r' false sz) M.t b, M.nx⟩ M' := by
    refine ⟨sz, M', by rw [T.putD_get, if_pos rfl], fun k => ?_, hnx, rfl⟩
    rw [hM1, T.putD_get]
    by_cases e : k = b
    · rw [if_pos e, if_pos e]
    · rw [if_neg e, if_neg e, if_neg e]
  intro w0 R ρ w cargs hM hv
  refine h _ _ hU2 w0 R ρ w cargs ?_ hv
  obtain ⟨B, x, o, hb, hRB, ho, hO⟩ := hM.blk b _ hg (by simp)
  refine hM.set hg (by simp) hb _ o (fun k => T.putD_get _ _ _ _) rfl rfl rfl (Nat.le_refl _) (fun _ _ _ => rfl) ho ?_
  unfold ORel at hO ⊢
  cases o <;> simp only at hO ⊢
  rw [← hl]
  exact ⟨hr _ _ hO.1, hO.2⟩
theorem SSpec.conv_args {P : Program} {f : FuncId} {args args' : List AV} {ups : List (Nat × List AV × List AV)} {ans : AV} (h : SSpec P f ⟨args', ups, ans⟩) (ha : ∀ ρ vs, VsRel ρ args vs → VsRel ρ args' vs) : SSpec P f ⟨args, ups, ans⟩ :=
  fun M M' hU w0 R ρ w cargs hM hv => h M M' hU w0 R ρ w cargs hM (ha _ _ hv)
end Go.Eng

set_option linter.unusedSectionVars false
namespace Go.Eng
open Go
variable [Mode]

/-! THE SAME WITH ROWS THAT HOLD POINTERS TO ONE ANOTHER, or functions that have captured them -/
inductive FzC (k : Nat) (M : Mem) : AV → AV → Prop
  | dat (a : AV) (d : Dat) (h : FzD k M a d) : FzC k M a (toAV d)
  | ptr (i o : Nat) (hi : i < k) : FzC k M (.ptr i o) (.ptr i o)
inductive FzCs (k : Nat) (M : Mem) : List AV → List AV → Prop
  | nil : FzCs k M [] []
  | cons (a b : AV) (l m : List AV) (h : FzC k M a b) (hs : FzCs k M l m) : FzCs k M (a :: l) (b :: m)
inductive FzB (k : Nat) (M : Mem) : AV → AV → Prop
  | cell (a b : AV) (h : FzC k M a b) : FzB k M a b
  | func (f : Fn) (l m l' m' : List AV) (h : FzCs k M l l') (h' : FzCs k M m m') : FzB k M (.func f l m) (.func f l' m')
inductive FzBs (k : Nat) (M : Mem) : List AV → List AV → Prop
  | nil : FzBs k M [] []
  | cons (a b : AV) (l m : List AV) (h : FzB k M a b) (hs : FzBs k M l m) : FzBs k M (a :: l) (b :: m)
theorem FzBs.length {k : Nat} {M : Mem} {l m : List AV} (h : FzBs k M l m) : l.length = m.length := by
  induction h with
  | nil => rfl
  | cons a b l m h hs ih => simp [ih]
theorem ren1_toAV (β : List Nat) (d : Dat) : ren1 β (toAV d) = some (toAV d) := by cases d <;> rfl
theorem renA_of_ren1 {β : List Nat} {a b : AV} (h : ren1 β a = some b) : renA β a = some b := by
  cases a <;> first | exact h | (exact absurd h (by simp [ren1]))
section
variable {k : Nat} {w0 : World} {R : Nat → Prop} {ρ σ : Env} {M : Mem} {w : World} {β : List Nat}
theorem FzC.rel (h : MRel w0 R ρ M w) (hσ : σ.z = stillOf k ρ M w) (hβ : ∀ i b p, i < k → β[i]? = some b → ρ i = some p → σ b = some p) {a b b' : AV} (hf : FzC k M a b) (hr : ren1 β b = some b') {v : Value} (hv : VRel ρ a v) : VRel σ b' v := by
  cases hf with
  | dat _ d hd =>
    rw [ren1_toAV] at hr
    obtain rfl := Option.some.inj hr
    exact DRel.toAV (by rw [hσ]; exact hd.rel h hv)
  | ptr i o hi =>
    simp only [ren1] at hr
    split at hr
    · rename_i b hb
      obtain rfl := Option.some.inj hr
      cases hv with
      | ptr _ _ B x e => exact .ptr _ _ B x (hβ i b _ hi hb e)
    · cases hr
theorem FzCs.rel (h : MRel w0 R ρ M w) (hσ : σ.z = stillOf k ρ M w) (hβ : ∀ i b p, i < k → β[i]? = some b → ρ i = some p → σ b = some p) : ∀ {l m m' : List AV}, FzCs k M l m → mapO (ren1 β) m = some m' → ∀ {vs : List Value}, VsRel ρ l vs → VsRel σ m' vs := by
  intro l
  induction l with
  | nil =>
    intro m m' hf hr vs hv
    cases hf; cases hv
    obtain rfl := Option.some.inj (show some [] = some m' from hr)
    exact .nil
  | cons a l ih =>
    intro m m' hf hr vs hv
    cases hf with
    | cons _ b _ m h1 h2 =>
      obtain ⟨y, s, rfl, g1, g2⟩ := mapO_cons hr
      cases hv with
      | cons _ v _ vs e es => exact .cons _ _ _ _ (h1.rel h hσ hβ g1 e) (ih h2 g2 es)
theorem FzB.rel (h : MRel w0 R ρ M w) (hσ : σ.z = stillOf k ρ M w) (hβ : ∀ i b p, i < k → β[i]? = some b → ρ i = some p → σ b = some p) {a b b' : AV} (hf : FzB k M a b) (hr : renA β b = some b') {v : Value} (hv : VRel ρ a v) : VRel σ b' v := by
  cases hf with
  | cell _ _ hc =>
    refine hc.rel h hσ hβ ?_ hv
    cases hc with
    | dat _ d hd => cases d <;> exact hr
    | ptr i o hi => exact hr
  | func f l m l' m' h1 h2 =>
    simp only [renA] at hr
    split at hr
    · rename_i x y g1 g2
      obtain rfl := Option.some.inj hr
      cases hv with
      | func _ _ _ vs ws e1 e2 => exact .func _ _ _ _ _ (h1.rel h hσ hβ g1 e1) (h2.rel h hσ hβ g2 e2)
    · cases hr
theorem FzBs.rel (h : MRel w0 R ρ M w) (hσ : σ.z = stillOf k ρ M w) (hβ : ∀ i b p, i < k → β[i]? = some b → ρ i = some p → σ b = some p) : ∀ {l m m' : List AV}, FzBs k M l m → mapO (renA β) m = some m' → ∀ {vs : List Value}, VsRel ρ l vs → VsRel σ m' vs := by
  intro l
  induction l with
  | nil =>
    intro m m' hf hr vs hv
    cases hf; cases hv
    obtain rfl := Option.some.inj (show some [] = some m' from hr)
    exact .nil
  | cons a l ih =>
    intro m m' hf hr vs hv
    cases hf with
    | cons _ b _ m h1 h2 =>
      obtain ⟨y, s, rfl, g1, g2⟩ := mapO_cons hr
      cases hv with
      | cons _ v _ vs e es => exact .cons _ _ _ _ (h1.rel h hσ hβ g1 e) (ih h2 g2 es)
end
theorem mapO_len {α γ : Type} {f : α → Option γ} : ∀ {l : List α} {m : List γ}, mapO f l = some m → l.length = m.length := by
  intro l
  induction l with
  | nil => intro m h; obtain rfl := Option.some.inj (show some [] = some m from h); rfl
  | cons a l ih => intro m h; obtain ⟨y, s, rfl, h1, h2⟩ := mapO_cons h; simp [ih h2]
theorem mapO_at {α γ : Type} {f : α → Option γ} : ∀ {l : List α} {m : List γ}, mapO f l = some m → ∀ (j : Nat) (x : α), l[j]? = some x → ∃ y, m[j]? = some y ∧ f x = some y := by
  intro l
  induction l with
  | nil => intro m _ j x h; simp at h
  | cons a l ih =>
    intro m h j x hj
    obtain ⟨y, s, rfl, h1, h2⟩ := mapO_cons h
    cases j with
    | zero => obtain rfl : a = x := by simpa using hj
              exact ⟨y, by simp, h1⟩
    | succ j => obtain ⟨z, g1, g2⟩ := ih h2 j x (by simpa using hj)
                exact ⟨z, by simpa using g1, g2⟩

def FinG (P : Program) (fn : Func) (k : Nat) (rows1 : List (List AV)) (ans : AV) (o : AE) (fr' : Fr) (M' : Mem) : Prop :=
  (o = .normal ∨ o = .ret) ∧ ∃ vs, resK P fr' M' fn.results.toList (fun l => pdec (l = vs)) = true ∧ FzA k M' (oneOf vs) ans ∧
    ∀ (j : Nat) (r : List AV), rows1[j]? = some r → ∃ c sz, M'.t.get j = some (.row c false sz) ∧ FzBs k M' c r
def zipU : List Nat → List (List AV) → List (List AV) → List (Nat × List AV × List AV)
  | b :: β, r :: rs, s :: ss => (b, r, s) :: zipU β rs ss
  | _, _, _ => []
def rowsG (rows : List (List AV)) : List Blk := rows.map fun r => .row r false 1
noncomputable def renRows (β : List Nat) (rows : List (List AV)) : Option (List (List AV)) := mapO (fun r => mapO (renA β) r) rows
def BSimG (P : Program) (f : FuncId) (args0 : List AV) (rows0 rows1 : List (List AV)) (ans : AV) : Prop :=
  ∀ (β : List Nat) (args : List AV) (r0 r1 : List (List AV)), β.length = rows0.length → β.Nodup → mapO (renT β) args0 = some args → renRows β rows0 = some r0 → renRows β rows1 = some r1 → SSpec P f ⟨args, zipU β r0 r1, ans⟩
theorem Ups.specU : ∀ (β : List Nat) (r0 r1 : List (List AV)) (M M' : Mem), β.length = r0.length → r1.length = r0.length → β.Nodup → Ups (zipU β r0 r1) M M' →
    M'.nx = M.nx ∧ (∀ (j b : Nat) (r s : List AV), β[j]? = some b → r0[j]? = some r → r1[j]? = some s → ∃ sz, M.t.get b = some (.row r false sz) ∧ M'.t.get b = some (.row s false sz)) ∧ (∀ b, b ∉ β → M'.t.get b = M.t.get b) := by
  intro β
  induction β with
  | nil =>
    intro r0 r1 M M' h1 h2 hn hU
    simp only [zipU, Ups] at hU
    subst hU
    exact ⟨rfl, fun j b r s h => by simp at h, fun _ _ => rfl⟩
  | cons b β ih =>
    intro r0 r1 M M' h1 h2 hn hU
    cases r0 with
    | nil => simp at h1
    | cons r r0 =>
      cases r1 with
      | nil => simp at h2
      | cons s r1 =>
        simp only [zipU, Ups] at hU
        obtain ⟨sz, M1, hg, hM1, hnx, hU⟩ := hU
        rw [List.nodup_cons] at hn
        obtain ⟨e1, e2, e3⟩ := ih r0 r1 M1 M' (by simpa using h1) (by simpa using h2) hn.2 hU
        refine ⟨e1.trans hnx, fun j b' r' s' hj hr hs => ?_, fun b' hb' => ?_⟩
        · cases j with
          | zero =>
            simp only [List.getElem?_cons_zero, Option.some.injEq] at hj hr hs
            subst hj hr hs
            exact ⟨sz, hg, by rw [e3 b hn.1, hM1, if_pos rfl]⟩
          | succ j =>
            simp only [List.getElem?_cons_succ] at hj hr hs
            obtain ⟨sz', g1, g2⟩ := e2 j b' r' s' hj hr hs
            have hne : b' ≠ b := fun e => hn.1 (by rw [← e]; exact List.mem_of_getElem? hj)
            exact ⟨sz', by rwa [hM1, if_neg hne] at g1, g2⟩
        · rw [List.mem_cons, not_or] at hb'
          rw [e3 b' hb'.2, hM1, if_neg hb'.1]

/-- THE LAW: a function whose code ends as it should, from a frame of its arguments and a memory of the rows that come by pointers -/
theorem BSimG.of_W {P : Program} {f : FuncId} {fn : Func} {c : Code} (hf : P.funcs[f]? = some fn) (hb : fn.body = some c) (hname : (fn.name == "runtime.NumGoroutine") = false)
    {args0 : List AV} {rows0 rows1 : List (List AV)} {ans : AV} (hlen : args0.length ≤ fn.ntmps) (hrows : rows1.length = rows0.length)
    (h : W P fn.ntmps rows0.length c (mkFr (argSlots args0 0)) (mkMem (rowsG rows0)) (FinG P fn rows0.length rows1 ans)) : BSimG P f args0 rows0 rows1 ans := by
  intro β args q0 q1 hβ hn hargs hq0 hq1 M M' hU w0 R ρ w cargs hM hv
  have hl0 := mapO_len hq0
  have hl1 := mapO_len hq1
  obtain ⟨hnx, hat, hoff⟩ := Ups.specU β q0 q1 M M' (by omega) (by omega) hn hU
  have hne : ¬ fn.name = "runtime.NumGoroutine" := by simpa using hname
  refine .inr ⟨by simp [callFunc, hf, hne, hb], calls_of_wp hf hb ?_⟩
  obtain ⟨o, fr', M1, ⟨ho, vs, hres, hfz, hbox⟩, hsim⟩ := h
  -- the rows that come by pointers
  have hbx : ∀ (j b : Nat), β[j]? = some b → ∃ r s sz B x arr t, (∃ r0, rows0[j]? = some r0 ∧ mapO (renA β) r0 = some r) ∧ (∃ s0, rows1[j]? = some s0 ∧ mapO (renA β) s0 = some s) ∧ M.t.get b = some (.row r false sz) ∧ M'.t.get b = some (.row s false sz) ∧ ρ b = some (B, x) ∧ ¬ R B ∧
      w.heap[B]? = some (.cells arr t (0, 0)) ∧ VsRel ρ r (arr.toList.take r.length) ∧ arr.size = r.length := by
    intro j b hj
    have hjl : j < rows0.length := by rw [← hβ]; exact (List.getElem?_eq_some_iff.1 hj).1
    have hr0 : rows0[j]? = some rows0[j] := List.getElem?_eq_getElem hjl
    have hr1 : rows1[j]? = some (rows1[j]'(by omega)) := List.getElem?_eq_getElem (by omega)
    obtain ⟨y0, z0, y1⟩ := mapO_at hq0 j _ hr0
    obtain ⟨y2, z2, y3⟩ := mapO_at hq1 j _ hr1
    obtain ⟨sz, g1, g2⟩ := hat j b _ _ hj z0 z2
    obtain ⟨B, x, ob, hr, hRB, hob, hO⟩ := hM.blk b _ g1 (by simp)
    unfold ORel at hO
    cases ob <;> simp only at hO
    case cells arr t fz =>
      obtain ⟨h1, h2, rfl⟩ := hO
      exact ⟨_, _, sz, B, x, arr, t, ⟨_, hr0, y1⟩, ⟨_, hr1, y3⟩, g1, g2, hr, hRB, hob, h1, by simpa using h2⟩
  -- where the run begins
  let isBox : Nat → Prop := fun B => ∃ (j b x : Nat), β[j]? = some b ∧ ρ b = some (B, x)
  let R1 : Nat → Prop := fun B => B < w.heap.size ∧ ¬ isBox B
  let ρ1 : Env := { (ρ.ren β) with base := w.heap.size }
  have hrow0 : ∀ (j : Nat) (b : Blk), (mkMem (rowsG rows0)).t.get j = some b → ∃ r, rows0[j]? = some r ∧ b = .row r false 1 ∧ ∃ i, β[j]? = some i := by
    intro j b hj
    rw [mkMem_get] at hj
    simp only [rowsG, List.getElem?_map] at hj
    cases hr0 : rows0[j]? with
    | none => rw [hr0] at hj; cases hj
    | some r =>
      rw [hr0] at hj
      have hjl : j < β.length := by rw [hβ]; exact (List.getElem?_eq_some_iff.1 hr0).1
      exact ⟨r, rfl, (Option.some.inj hj).symm, _, List.getElem?_eq_getElem hjl⟩
  have hMb : MRel w R1 ρ1 (mkMem (rowsG rows0)) w := by
    refine ⟨rfl, rfl, rfl, Nat.le_refl _, fun _ _ => rfl, fun b hb => hb.1, fun j b hj hd => ?_, fun j j' b c B x y hj hd hj' he e1 e2 => ?_, fun j p e => ?_, hM.zok, fun j b B x hj hd e => ?_, Nat.le_refl _⟩
    · obtain ⟨r, hr0, rfl, i, hjb⟩ := hrow0 j b hj
      obtain ⟨r', s, sz, B, x, arr, t, g1, g2, g3, g4, g5, g6, g7, g8, g9⟩ := hbx j _ hjb
      obtain ⟨r0, g1, g1'⟩ := g1
      rw [hr0] at g1
      obtain rfl := Option.some.inj g1
      have hll := mapO_len g1'
      refine ⟨B, x, _, (ren_at hjb).trans g5, fun hR1 => hR1.2 ⟨j, _, x, hjb, g5⟩, g7, ?_, by rw [hll]; simpa using g9, rfl⟩
      rw [hll]
      exact VsRel.sub (ρ := ρ.ren β) (σ := ρ1) ⟨fun _ _ h => h, fun _ _ h => h⟩ (renL_rel (fun _ _ _ => renA_rel) g1' g8)
    · obtain ⟨r, hr0, rfl, i, hjb⟩ := hrow0 j b hj
      obtain ⟨r', hr0', rfl, i', hjb'⟩ := hrow0 j' c hj'
      change (ρ.ren β) j = _ at e1
      change (ρ.ren β) j' = _ at e2
      rw [ren_at hjb] at e1
      rw [ren_at hjb'] at e2
      obtain ⟨_, _, _, _, _, _, _, _, _, g3, _⟩ := hbx j _ hjb
      obtain ⟨_, _, _, _, _, _, _, _, _, g3', _⟩ := hbx j' _ hjb'
      have := hM.inj i i' _ _ B x y g3 (by simp) g3' (by simp) e1 e2
      subst this
      obtain ⟨l1, q1⟩ := List.getElem?_eq_some_iff.1 hjb
      obtain ⟨l2, q2⟩ := List.getElem?_eq_some_iff.1 hjb'
      have hpw := List.pairwise_iff_getElem.1 hn
      rcases Nat.lt_trichotomy j j' with hlt | he' | hlt
      · exact absurd (q1.trans q2.symm) (hpw j j' l1 l2 hlt)
      · exact he'
      · exact absurd (q2.trans q1.symm) (hpw j' j l2 l1 hlt)
    · show j < lenL (rowsG rows0)
      rw [lenL_eq]
      change (match β[j]? with | .some i => ρ i | .none => .none) = some p at e
      cases hj : β[j]? with
      | none => rw [hj] at e; cases e
      | some i => have := (List.getElem?_eq_some_iff.1 hj).1; simp [rowsG]; omega
    · obtain ⟨r, hr0, rfl, i, hjb⟩ := hrow0 j b hj
      change (ρ.ren β) j = _ at e
      rw [ren_at hjb] at e
      obtain ⟨_, _, _, _, _, _, _, _, _, g3, _⟩ := hbx j _ hjb
      exact hM.zsep i _ B x g3 (by simp) e
  have hvr : VsRel ρ1 args0 cargs.toList := VsRel.sub (ρ := ρ.ren β) (σ := ρ1) ⟨fun _ _ h => h, fun _ _ h => h⟩ (args_ren hargs hv)
  have hcl : cargs.size = args0.length := by have := hvr.length; simpa using this.symm
  have hF1 : FRel ρ1 fn.ntmps (mkFr (argSlots args0 0)) { tmps := cargs ++ Array.replicate (fn.ntmps - cargs.size) Go.undef, defers := [] } := by
    refine ⟨by simp; omega, rfl, fun t a ha => ?_⟩
    obtain ⟨_, h2⟩ := argSlots_mem _ _ _ _ (mkFr_get _ _ _ ha)
    obtain ⟨v, hv', hr⟩ := hvr.get' h2
    have hlt : t < cargs.size := by have := (List.getElem?_eq_some_iff.1 h2).1; omega
    have : (cargs ++ Array.replicate (fn.ntmps - cargs.size) Go.undef).getD t Go.undef = v := by
      rw [Array.getD_eq_getD_getElem?, Array.getElem?_append_left hlt]
      simp at hv'
      simp [hv']
    rw [this]; exact hr
  refine hsim w R1 ρ1 _ w hF1 hMb _ fun ρ' a' w' hz hF hM' => ?_
  -- its answer
  obtain ⟨vs', hvs, H⟩ := resK_sound _ _ hres
  obtain rfl : vs' = vs := pdec_iff.1 hvs
  obtain ⟨cvs, hcv, hrun⟩ := H w R1 ρ' a' w' _ hF hM'
  have hresults : (results fn a'.tmps).run P w' = .ok (if h : cvs.toArray.size = 1 then cvs.toArray[0] else .tuple cvs.toArray) w' := by
    unfold results
    rw [Array.mapM_eq_mapM_toList]
    simp only [Sem.run_bind, Sem.run_map]
    refine Eq.trans (congrArg (fun r : Result (List Value) => ((Result.andThen r (fun a w' => Result.ok a.toArray w')).andThen fun a w' => Sem.run P (pure (if h : a.size = 1 then a[0] else Value.tuple a)) w')) hrun) ?_
    simp only [Result.andThen_ok, Sem.run_pure]
  have hval : VRel ρ' (oneOf vs') (if h : cvs.toArray.size = 1 then cvs.toArray[0] else .tuple cvs.toArray) := by
    unfold oneOf
    split
    · cases hcv with
      | cons _ cv _ _ h1 h2 => cases h2; simpa using h1
    · rename_i hne
      have hl := hcv.length
      have : ¬ cvs.toArray.size = 1 := by
        intro e
        simp at e
        cases vs' with
        | nil => simp at hl; omega
        | cons x r =>
          cases r with
          | nil => exact hne x rfl
          | cons y r => simp at hl; omega
      rw [dif_neg this]
      exact .tuple _ _ (by simpa using hcv)
  -- what stands still from here
  let σ : Env := ⟨ρ.m, stillOf rows0.length ρ' M1 w', ρ.base⟩
  have hans : VRel σ ans _ := hfz.rel hM' (σ := σ) rfl hval
  have hboxlt : ∀ B, isBox B → B < w.heap.size := by
    rintro B ⟨j, b, x, hj, hr⟩
    obtain ⟨_, _, _, B', x', arr, t, _, _, _, _, g5, _, g7, _⟩ := hbx j b hj
    rw [hr] at g5
    obtain ⟨rfl, rfl⟩ := Prod.mk.inj (Option.some.inj g5)
    exact (Array.getElem?_eq_some_iff.1 g7).1
  have hbox' : ∀ (j b B x : Nat), β[j]? = some b → ρ b = some (B, x) → ∃ s s0 c sz sz', j < rows0.length ∧ mapO (renA β) s0 = some s ∧ M'.t.get b = some (.row s false sz) ∧ M1.t.get j = some (.row c false sz') ∧ FzBs rows0.length M1 c s0 ∧ ρ' j = some (B, x) := by
    intro j b B x hj hr
    obtain ⟨r, s, sz, B', x', arr, t, ⟨r0, g1, g1'⟩, ⟨s0, g2, g2'⟩, g3, g4, g5, _⟩ := hbx j b hj
    obtain ⟨c, sz', h1, h2⟩ := hbox j s0 g2
    have hjk : j < rows0.length := (List.getElem?_eq_some_iff.1 g1).1
    exact ⟨s, s0, c, sz, sz', hjk, g2', g4, h1, h2, hz.m j _ hjk ((ren_at hj).trans hr)⟩
  have hβσ : ∀ i b p, i < rows0.length → β[i]? = some b → ρ' i = some p → σ b = some p := by
    intro i b p hi hb e
    obtain ⟨_, _, _, B, x, _, _, _, _, _, _, g5, _⟩ := hbx i b hb
    have := hz.m i _ hi ((ren_at hb).trans g5)
    rw [this] at e
    rw [← e]; exact g5
  have hLives : ∀ B, Lives rows0.length ρ' M1 B → w.heap.size ≤ B := by
    rintro B ⟨i, c, op, sz, x, hk, hb, hr⟩
    obtain ⟨B', x', o', hr', hR, _, _⟩ := hM'.blk i _ hb (by simp)
    rw [hr] at hr'
    obtain ⟨rfl, rfl⟩ := Prod.mk.inj (Option.some.inj hr')
    rcases Nat.lt_or_ge B w.heap.size with hlt | hge
    · exfalso
      refine hR ⟨hlt, ?_⟩
      rintro ⟨j, b, y, hj, hrb⟩
      obtain ⟨s, s0, c', sz1, sz2, hjk, g2, g3, g4, g5, g6⟩ := hbox' j b B y hj hrb
      have := hM'.inj i j _ _ B x y hb (by simp) g4 (by simp) hr g6
      omega
    · exact hge
  have hnewz : ∀ B l, σ.z B = some l → ρ.z B = some l ∨ w.heap.size ≤ B := by
    intro B l hzB
    rcases still_inv hzB with ⟨hl, _⟩ | h1
    · exact .inr (hLives B hl)
    · rcases hz.new B l h1 with h2 | h2 | ⟨j, x, h2⟩
      · exact .inl h2
      · exact .inr h2
      · exfalso
        change (match β[j]? with | .some i => ρ i | .none => .none) = some (B, x) at h2
        cases hj : β[j]? with
        | none => rw [hj] at h2; cases h2
        | some b =>
          rw [hj] at h2
          obtain ⟨s, s0, c, sz, sz', g1, g2, g3, g4, g5, g6⟩ := hbox' j b B x hj h2
          rw [hM'.zsep j _ B x g4 (by simp) g6] at h1
          cases h1
  have hle : ρ.le σ := ⟨fun _ _ h => h, fun B l e => still_ge hM' B l (hz.z B l e), rfl, fun B l e => by
    rcases hnewz B l e with h1 | h1
    · exact .inl h1
    · exact .inr (.inl (Nat.le_trans hM.base h1)), fun i p e => .inr ⟨i, p.2, e⟩⟩
  have hMi : ∀ (i : Nat) (b : Blk), M'.t.get i = some b → b ≠ .dead → ∃ c, M.t.get i = some c ∧ c ≠ .dead := by
    intro i b hi hd
    by_cases hin : i ∈ β
    · obtain ⟨j, hj⟩ := List.getElem?_of_mem hin
      obtain ⟨_, _, _, _, _, _, _, _, _, g3, _⟩ := hbx j i hj
      exact ⟨_, g3, by simp⟩
    · rw [hoff i hin] at hi; exact ⟨b, hi, hd⟩
  have hMR : MRel w0 R σ M' w' := by
    refine ⟨hM'.os.trans hM.os, hM'.tape.trans hM.tape, hM'.output.trans hM.output, Nat.le_trans hM.size hM'.size, fun b hb => ?_, hM.rlt, fun i b hi hd => ?_, fun i j b c B x y hi hd hj he e1 e2 => ?_, fun i p e => ?_, fun B l e => ?_, fun i b B x hi hd e => ?_, Nat.le_trans hM.base hM'.size⟩
    · have h1 : R1 b := by
        refine ⟨Nat.lt_of_lt_of_le (hM.rlt b hb) hM.size, ?_⟩
        rintro ⟨j, b', x, hj, hr⟩
        obtain ⟨_, _, _, B', x', arr, t, _, _, _, _, g5, g6, _⟩ := hbx j b' hj
        rw [hr] at g5
        obtain ⟨rfl, rfl⟩ := Prod.mk.inj (Option.some.inj g5)
        exact g6 hb
      exact (hM'.keep b h1).trans (hM.keep b hb)
    · by_cases hin : i ∈ β
      · obtain ⟨j, hj⟩ := List.getElem?_of_mem hin
        obtain ⟨r, s, sz, B, x, arr, t, g1, g2, g3, g4, g5, g6, g7, g8, g9⟩ := hbx j i hj
        obtain ⟨s', s0, c, sz1, sz2, hjk, k2, k3, k4, k5, k6⟩ := hbox' j i B x hj g5
        rw [k3] at hi
        obtain rfl := Option.some.inj hi
        obtain ⟨arr', t', ho, hv', hsz⟩ := hM'.row k4 k6
        have hd' := k5.rel hM' (σ := σ) rfl hβσ k2 hv'
        have hll : s'.length = c.length := by rw [k5.length]; exact (mapO_len k2).symm
        refine ⟨B, x, _, g5, g6, ho, ?_⟩
        refine ⟨by rw [hll]; exact hd', by rw [hll]; simpa using hsz, rfl⟩
      · rw [hoff i hin] at hi
        obtain ⟨B, x, ob, hr, hRB, hob, hO⟩ := hM.blk i b hi hd
        refine ⟨B, x, ob, hr, hRB, ?_, hO.mono hle⟩
        rw [hM'.keep B ⟨(Array.getElem?_eq_some_iff.1 hob).1, ?_⟩]
        · exact hob
        · rintro ⟨j, b', y, hj, hrb⟩
          obtain ⟨_, _, _, _, _, _, _, _, _, g3, _⟩ := hbx j b' hj
          have := hM.inj i b' b _ B x y hi hd g3 (by simp) hr hrb
          subst this
          exact hin (List.mem_of_getElem? hj)
    · obtain ⟨b', h1, h2⟩ := hMi i b hi hd
      obtain ⟨c', h3, h4⟩ := hMi j c hj he
      exact hM.inj i j b' c' B x y h1 h2 h3 h4 e1 e2
    · rw [hnx]; exact hM.fresh i p e
    · rcases still_inv e with ⟨⟨i, c, op, sz, x, hk, hb, hr⟩, arr, t, f, ho, rfl⟩ | h1
      · obtain ⟨arr', t', ho', _⟩ := hM'.row hb hr
        have e0 := Option.some.inj (ho.symm.trans ho')
        have e1 : arr = arr' := by injection e0
        subst e1
        exact ⟨arr, t', _, ho', List.take_length⟩
      · exact hM'.zok B l h1
    · obtain ⟨b', h1, h2⟩ := hMi i b hi hd
      have hlt := hM.lt h1 h2 e
      cases hzB : σ.z B with
      | none => rfl
      | some l =>
        rcases hnewz B l hzB with h3 | h3
        · rw [hM.zsep i b' B x h1 h2 e] at h3; cases h3
        · omega
  have hpost : a'.defers = [] ∧ ∃ v, (results fn a'.tmps).run P w' = .ok v w' ∧ ∃ ρ'' cv, ρ.le ρ'' ∧ Ending.returned v = .returned cv ∧ VRel ρ'' ans cv ∧ MRel w0 R ρ'' M' w' := ⟨hF.defers, _, hresults, σ, _, hle, rfl, hans, hMR⟩
  rcases ho with rfl | rfl
  · exact hpost
  · exact hpost
end Go.Eng

set_option linter.unusedSectionVars false
namespace Go.Eng
open Go
variable [Mode]
def LeafG (k : Nat) (π : List Nat) (rows1 : List (List AV)) (ans : AV) (v : AV) (bs : List (Option Blk)) : Prop :=
  ∀ M', mv π M' = bs → FzA k M' v ans ∧ ∀ (j : Nat) (r : List AV), rows1[j]? = some r → ∃ c sz, M'.t.get j = some (.row c false sz) ∧ FzBs k M' c r

theorem BSimG.exec {P : Program} (hm : P.follows .mixedOrders = true) {X : FuncId → Option Ext} (hX : ∀ f x, X f = some x → ExtSpec P f x) {S : List (FuncId × SEnt)} (hS : ∀ e ∈ S, SSpec P e.1 e.2) {f : FuncId} {fn : Func} (hf : FnOk P f fn)
    {args0 : List AV} {rows0 rows1 : List (List AV)} {ans : AV} (hlen : Nat.ble args0.length fn.ntmps = true) (hrows : rows1.length = rows0.length) (n : Nat) (J : AV → Mem → Bool)
    (h : Eng.exec P X S n fn.ntmps (codeOf fn) (mkFr (argSlots args0 0)) (mkMem (rowsG rows0)) (fun o fr M => endK o (resK P fr M fn.results.toList fun vs => J (oneOf vs) M)) = true)
    (hJ : ∀ v M', J v M' = true → FzA rows0.length M' v ans ∧ ∀ (j : Nat) (r : List AV), rows1[j]? = some r → ∃ c sz, M'.t.get j = some (.row c false sz) ∧ FzBs rows0.length M' c r) : BSimG P f args0 rows0 rows1 ans := by
  refine BSimG.of_W hf.at_ (codeOf_some hf.body) hf.name (nble_le hlen) hrows ((W.exec hm hX hS (k := rows0.length) h).mono fun o fr' M' hK => ?_)
  have hend : (o = .normal ∨ o = .ret) ∧ resK P fr' M' fn.results.toList (fun vs => J (oneOf vs) M') = true := by
    cases o with
    | normal => exact ⟨.inl rfl, hK⟩
    | ret => exact ⟨.inr rfl, hK⟩
    | exit id => exact absurd hK (by simp [endK])
  obtain ⟨ho, hres⟩ := hend
  refine ⟨ho, ?_⟩
  clear h
  have : ∀ (l : List ResultVar) (J : List AV → Bool), resK P fr' M' l J = true → ∃ vs, J vs = true ∧ ∀ J' : List AV → Bool, J' vs = true → resK P fr' M' l J' = true := by
    intro l
    induction l with
    | nil => intro J h; exact ⟨[], h, fun J' h' => h'⟩
    | cons r l ih =>
      intro J h
      cases r with
      | tmp t =>
        change (getT fr' t fun v => resK P fr' M' l fun vs => J (v :: vs)) = true at h
        rw [getT_iff] at h
        obtain ⟨av, hav, h⟩ := h
        obtain ⟨vs, h1, h2⟩ := ih _ h
        refine ⟨av :: vs, h1, fun J' h' => ?_⟩
        show (getT fr' t fun v => resK P fr' M' l fun vs => J' (v :: vs)) = true
        rw [getT_iff]
        exact ⟨av, hav, h2 (fun vs => J' (av :: vs)) h'⟩
      | cell x t =>
        change (getT fr' x fun p => loadA P t p M' fun v => resK P fr' M' l fun vs => J (v :: vs)) = true at h
        rw [getT_iff] at h
        obtain ⟨av, hav, h⟩ := h
        obtain ⟨u, hu1, hu2⟩ : ∃ u, (resK P fr' M' l fun vs => J (u :: vs)) = true ∧ ∀ J' : AV → Bool, J' u = true → loadA P t av M' J' = true := by
          unfold loadA at h
          split at h
          · rename_i b o
            split at h
            · rename_i c op sz hb
              obtain ⟨u, h1, h2⟩ : ∃ u, (resK P fr' M' l fun vs => J (u :: vs)) = true ∧ ∀ J' : AV → Bool, J' u = true → partK P t c o J' = true := by
                unfold partK at h ⊢
                split at h
                · rw [dropK_iff] at h
                  obtain ⟨h1, h⟩ := h
                  rw [takeK_iff] at h
                  exact ⟨_, h.2, fun J' hJ => by rw [dropK_iff, takeK_iff]; exact ⟨h1, h.1, hJ⟩⟩
                · rw [dropK_iff] at h
                  obtain ⟨h1, h⟩ := h
                  rw [headK_iff] at h
                  obtain ⟨x, r, e, h⟩ := h
                  exact ⟨x, h, fun J' hJ => by rw [dropK_iff, headK_iff]; exact ⟨h1, x, r, e, hJ⟩⟩
                · exact absurd h (by simp)
              exact ⟨u, h1, fun J' hJ => by simp only [loadA, hb]; exact h2 J' hJ⟩
            · exact absurd h (by simp)
          · rename_i c o
            obtain ⟨u, h1, h2⟩ : ∃ u, (resK P fr' M' l fun vs => J (u :: vs)) = true ∧ ∀ J' : AV → Bool, J' u = true → partK P t (toAVs c) o J' = true := by
              unfold partK at h ⊢
              split at h
              · rw [dropK_iff] at h
                obtain ⟨h1, h⟩ := h
                rw [takeK_iff] at h
                exact ⟨_, h.2, fun J' hJ => by rw [dropK_iff, takeK_iff]; exact ⟨h1, h.1, hJ⟩⟩
              · rw [dropK_iff] at h
                obtain ⟨h1, h⟩ := h
                rw [headK_iff] at h
                obtain ⟨x, r, e, h⟩ := h
                exact ⟨x, h, fun J' hJ => by rw [dropK_iff, headK_iff]; exact ⟨h1, x, r, e, hJ⟩⟩
              · exact absurd h (by simp)
            exact ⟨u, h1, fun J' hJ => by simp only [loadA]; exact h2 J' hJ⟩
          · exact absurd h (by simp)
        obtain ⟨vs, h1, h2⟩ := ih _ hu1
        refine ⟨u :: vs, h1, fun J' h' => ?_⟩
        show (getT fr' x fun p => loadA P t p M' fun v => resK P fr' M' l fun vs => J' (v :: vs)) = true
        rw [getT_iff]
        exact ⟨av, hav, hu2 _ (h2 (fun vs => J' (u :: vs)) h')⟩
  obtain ⟨vs, h1, h2⟩ := this _ _ hres
  refine ⟨vs, h2 _ (pdec_iff.2 rfl), ?_⟩
  exact hJ _ _ h1
theorem BSimG.run {P : Program} (hm : P.follows .mixedOrders = true) {X : FuncId → Option Ext} (hX : ∀ f x, X f = some x → ExtSpec P f x) {S : List (FuncId × SEnt)} (hS : ∀ e ∈ S, SSpec P e.1 e.2) {f : FuncId} {fn : Func} (hf : FnOk P f fn)
    {args0 : List AV} {rows0 rows1 : List (List AV)} {ans : AV} (hlen : Nat.ble args0.length fn.ntmps = true) (hrows : rows1.length = rows0.length) (n : Nat) (π : List Nat) (T : (AV → List (Option Blk) → Bool) → Bool)
    (h : ∀ I : AV → List (Option Blk) → Bool, Eng.exec P X S n fn.ntmps (codeOf fn) (mkFr (argSlots args0 0)) (mkMem (rowsG rows0)) (fun o fr M => endK o (resK P fr M fn.results.toList fun vs => I (oneOf vs) (mv π M))) = T I)
    (hT : T (fun v bs => pdec (LeafG rows0.length π rows1 ans v bs)) = true) : BSimG P f args0 rows0 rows1 ans :=
  BSimG.exec hm hX hS hf hlen hrows n (fun v M => pdec (LeafG rows0.length π rows1 ans v (mv π M))) ((h fun v bs => pdec (LeafG rows0.length π rows1 ans v bs)).trans hT) fun v M' hJ => pdec_iff.1 hJ M' rfl


/-- the rows, read off -/
theorem rowsG_of_mv {k : Nat} {M' : Mem} : ∀ {rows1 : List (List AV)} {i : Nat}, mv (List.range' i rows1.length) M' = (rowsG rows1).map some → (∀ r ∈ rows1, FzBs k M' r r) → ∀ (j : Nat) (r : List AV), rows1[j]? = some r → ∃ c sz, M'.t.get (i + j) = some (.row c false sz) ∧ FzBs k M' c r := by
  intro rows1
  induction rows1 with
  | nil => intro i _ _ j r h; simp at h
  | cons q rows1 ih =>
    intro i h hf j r hj
    simp only [List.length_cons, List.range'_succ, mv, rowsG, List.map_cons, List.cons.injEq] at h
    cases j with
    | zero =>
      obtain rfl : q = r := by simpa using hj
      exact ⟨_, _, by simpa using h.1, hf q (List.mem_cons_self ..)⟩
    | succ j =>
      obtain ⟨c, sz, h1, h2⟩ := ih h.2 (fun r hr => hf r (List.mem_cons_of_mem _ hr)) j r (by simpa using hj)
      exact ⟨c, sz, by rw [show i + (j + 1) = i + 1 + j by omega]; exact h1, h2⟩
theorem LeafG.of {k : Nat} {rows1 : List (List AV)} {ans v : AV} {π : List Nat} {bs : List (Option Blk)} (hf : ∀ M', ∀ r ∈ rows1, FzBs k M' r r) (h : ∀ M', mv π M' = bs → FzA k M' v ans) : LeafG k (List.range' 0 rows1.length ++ π) rows1 ans v ((rowsG rows1).map some ++ bs) := by
  intro M' hm
  unfold mv at hm
  rw [List.map_append] at hm
  have hl : ((List.range' 0 rows1.length).map fun b => M'.t.get b).length = ((rowsG rows1).map some).length := by simp [rowsG]
  obtain ⟨h1, h2⟩ := List.append_inj hm hl
  refine ⟨h M' h2, fun j r hj => ?_⟩
  have := rowsG_of_mv (k := k) (i := 0) h1 (hf M') j r hj
  simpa using this
theorem FzB.plain {k : Nat} {M : Mem} (d : Dat) : FzB k M (toAV d) (toAV d) := .cell _ _ (.dat _ _ (.same d))
end Go.Eng

set_option linter.unusedSectionVars false
namespace Go.Eng
open Go
variable [Mode]
theorem W.fin {P : Program} (hm : P.follows .mixedOrders = true) {X : FuncId → Option Ext} (hX : ∀ f x, X f = some x → ExtSpec P f x) {S : List (FuncId × SEnt)} (hS : ∀ e ∈ S, SSpec P e.1 e.2) {fn : Func} {nt k : Nat} {c : Code} {fr : Fr} {M : Mem}
    {rows1 : List (List Dat)} {ans : AV} (n : Nat) (J : AV → Mem → Bool)
    (h : Eng.exec P X S n nt c fr M (fun o fr M => endK o (resK P fr M fn.results.toList fun vs => J (oneOf vs) M)) = true)
    (hJ : ∀ v M', J v M' = true → FzA k M' v ans ∧ ∀ (j : Nat) (r : List Dat), rows1[j]? = some r → ∃ c sz, M'.t.get j = some (.row c false sz) ∧ FzDs k M' c r) : W P nt k c fr M (Fin P fn k rows1 ans) := by
  refine (W.exec hm hX hS (k := k) h).mono fun o fr' M' hK => ?_
  have hend : (o = .normal ∨ o = .ret) ∧ resK P fr' M' fn.results.toList (fun vs => J (oneOf vs) M') = true := by
    cases o with
    | normal => exact ⟨.inl rfl, hK⟩
    | ret => exact ⟨.inr rfl, hK⟩
    | exit id => exact absurd hK (by simp [endK])
  obtain ⟨ho, hres⟩ := hend
  refine ⟨ho, ?_⟩
  clear h
  have : ∀ (l : List ResultVar) (J : List AV → Bool), resK P fr' M' l J = true → ∃ vs, J vs = true ∧ ∀ J' : List AV → Bool, J' vs = true → resK P fr' M' l J' = true := by
    intro l
    induction l with
    | nil => intro J h; exact ⟨[], h, fun J' h' => h'⟩
    | cons r l ih =>
      intro J h
      cases r with
      | tmp t =>
        change (getT fr' t fun v => resK P fr' M' l fun vs => J (v :: vs)) = true at h
        rw [getT_iff] at h
        obtain ⟨av, hav, h⟩ := h
        obtain ⟨vs, h1, h2⟩ := ih _ h
        refine ⟨av :: vs, h1, fun J' h' => ?_⟩
        show (getT fr' t fun v => resK P fr' M' l fun vs => J' (v :: vs)) = true
        rw [getT_iff]
        exact ⟨av, hav, h2 (fun vs => J' (av :: vs)) h'⟩
      | cell x t =>
        change (getT fr' x fun p => loadA P t p M' fun v => resK P fr' M' l fun vs => J (v :: vs)) = true at h
        rw [getT_iff] at h
        obtain ⟨av, hav, h⟩ := h
        obtain ⟨u, hu1, hu2⟩ : ∃ u, (resK P fr' M' l fun vs => J (u :: vs)) = true ∧ ∀ J' : AV → Bool, J' u = true → loadA P t av M' J' = true := by
          unfold loadA at h
          split at h
          · rename_i b o
            split at h
            · rename_i c op sz hb
              obtain ⟨u, h1, h2⟩ : ∃ u, (resK P fr' M' l fun vs => J (u :: vs)) = true ∧ ∀ J' : AV → Bool, J' u = true → partK P t c o J' = true := by
                unfold partK at h ⊢
                split at h
                · rw [dropK_iff] at h
                  obtain ⟨h1, h⟩ := h
                  rw [takeK_iff] at h
                  exact ⟨_, h.2, fun J' hJ => by rw [dropK_iff, takeK_iff]; exact ⟨h1, h.1, hJ⟩⟩
                · rw [dropK_iff] at h
                  obtain ⟨h1, h⟩ := h
                  rw [headK_iff] at h
                  obtain ⟨x, r, e, h⟩ := h
                  exact ⟨x, h, fun J' hJ => by rw [dropK_iff, headK_iff]; exact ⟨h1, x, r, e, hJ⟩⟩
                · exact absurd h (by simp)
              exact ⟨u, h1, fun J' hJ => by simp only [loadA, hb]; exact h2 J' hJ⟩
            · exact absurd h (by simp)
          · rename_i c o
            obtain ⟨u, h1, h2⟩ : ∃ u, (resK P fr' M' l fun vs => J (u :: vs)) = true ∧ ∀ J' : AV → Bool, J' u = true → partK P t (toAVs c) o J' = true := by
              unfold partK at h ⊢
              split at h
              · rw [dropK_iff] at h
                obtain ⟨h1, h⟩ := h
                rw [takeK_iff] at h
                exact ⟨_, h.2, fun J' hJ => by rw [dropK_iff, takeK_iff]; exact ⟨h1, h.1, hJ⟩⟩
              · rw [dropK_iff] at h
                obtain ⟨h1, h⟩ := h
                rw [headK_iff] at h
                obtain ⟨x, r, e, h⟩ := h
                exact ⟨x, h, fun J' hJ => by rw [dropK_iff, headK_iff]; exact ⟨h1, x, r, e, hJ⟩⟩
              · exact absurd h (by simp)
            exact ⟨u, h1, fun J' hJ => by simp only [loadA]; exact h2 J' hJ⟩
          · exact absurd h (by simp)
        obtain ⟨vs, h1, h2⟩ := ih _ hu1
        refine ⟨u :: vs, h1, fun J' h' => ?_⟩
        show (getT fr' x fun p => loadA P t p M' fun v => resK P fr' M' l fun vs => J' (v :: vs)) = true
        rw [getT_iff]
        exact ⟨av, hav, hu2 _ (h2 (fun vs => J' (u :: vs)) h')⟩
  obtain ⟨vs, h1, h2⟩ := this _ _ hres
  refine ⟨vs, h2 _ (pdec_iff.2 rfl), ?_⟩
  exact hJ _ _ h1

theorem W.finRun {P : Program} (hm : P.follows .mixedOrders = true) {X : FuncId → Option Ext} (hX : ∀ f x, X f = some x → ExtSpec P f x) {S : List (FuncId × SEnt)} (hS : ∀ e ∈ S, SSpec P e.1 e.2) {fn : Func} {nt k : Nat} {c : Code} {fr : Fr} {M : Mem}
    {rows1 : List (List Dat)} {ans : AV} (n : Nat) (π : List Nat) (T : (AV → List (Option Blk) → Bool) → Bool)
    (h : ∀ I : AV → List (Option Blk) → Bool, Eng.exec P X S n nt c fr M (fun o fr M => endK o (resK P fr M fn.results.toList fun vs => I (oneOf vs) (mv π M))) = T I)
    (hT : T (fun v bs => pdec (Leaf k π rows1 ans v bs)) = true) : W P nt k c fr M (Fin P fn k rows1 ans) :=
  W.fin hm hX hS n (fun v M => pdec (Leaf k π rows1 ans v (mv π M))) ((h fun v bs => pdec (Leaf k π rows1 ans v bs)).trans hT) fun v M' hJ => pdec_iff.1 hJ M' rfl

/-! the parts of a sequence -/
def lhs (c : Code) : Code := match c with | .seq a _ => a | _ => .skip
def rhs (c : Code) : Code := match c with | .seq _ b => b | _ => .skip
def isSeq (c : Code) : Bool := match c with | .seq _ _ => true | _ => false
theorem isSeq_eq {c : Code} (h : isSeq c = true) : c = .seq (lhs c) (rhs c) := by
  cases c <;> first | rfl | exact Bool.noConfusion h
theorem W.parts {P : Program} {nt k : Nat} {c : Code} {fr : Fr} {M : Mem} {Q : AE → Fr → Mem → Prop} (hc : isSeq c = true) (h : W P nt k (lhs c) fr M (Nxt P nt k (rhs c) Q)) : W P nt k c fr M Q := by
  rw [isSeq_eq hc]; exact W.seq h
/-- a piece that ends normally, and the state behind it written anew -/
theorem W.piece {P : Program} (hm : P.follows .mixedOrders = true) {X : FuncId → Option Ext} (hX : ∀ f x, X f = some x → ExtSpec P f x) {S : List (FuncId × SEnt)} (hS : ∀ e ∈ S, SSpec P e.1 e.2) {nt k : Nat} {c : Code} {fr : Fr} {M : Mem} {Q : AE → Fr → Mem → Prop} (hc : isSeq c = true)
    (n : Nat) (ts π : List Nat) (vs : List AV) (bs : List Blk) (G : Bool → Bool) (hG : ∀ b, b = true → G b = true)
    (h : ∀ I : AE → List (Option AV) → List (Option Blk) → Bool, Eng.exec P X S n nt (lhs c) fr M (fun o fr' M' => I o (lv ts fr') (mv π M')) = G (I .normal (vs.map some) (bs.map some)))
    (slots : List (Nat × AV)) (rows : List Blk) (hts : slots.map (·.1) = ts) (h1 : vals2 π slots = vs.map some) (h2 : rows2 π rows = bs.map some) (hk : okPi k π rows.length = true)
    (hn : W P nt k (rhs c) (mkFr slots) (mkMem rows) Q) : W P nt k c fr M Q := by
  refine W.parts hc (W.run hm hX hS n ts π (fun I => G (I .normal (vs.map some) (bs.map some))) h (hG _ (pdec_iff.2 fun fr' M' hv hm' => ?_)))
  exact W.next hv hm' slots rows hts h1 h2 hk (by simp) (by simp) hn
end Go.Eng

set_option linter.unusedSectionVars false
namespace Go.Eng
open Go
variable [Mode]
/-! from a world with no memory of the run: every block of cells may be read -/
def startEnv (W : World) : Env := ⟨fun _ => none, fun B => match W.heap[B]? with | some (.cells arr _ _) => some arr.toList | _ => none, W.heap.size⟩
theorem startEnv_z {W : World} {B : Nat} {arr : Array Value} {t : TypeId} {fz : Nat × Nat} (h : W.heap[B]? = some (.cells arr t fz)) : (startEnv W).z B = some arr.toList := by
  simp [startEnv, h]
theorem MRel.start (W : World) : MRel W (· < W.heap.size) (startEnv W) ⟨.nil, 0⟩ W where
  os := rfl
  tape := rfl
  output := rfl
  size := Nat.le_refl _
  keep := fun _ _ => rfl
  rlt := fun _ h => h
  blk := fun i b h => by cases h
  inj := fun i j b c B x y h => by cases h
  fresh := fun i p h => by cases h
  zok := fun B l h => by
    simp only [startEnv] at h
    split at h
    · rename_i arr t fz hb
      obtain rfl := Option.some.inj h
      exact ⟨arr, t, fz, hb, List.take_length⟩
    · cases h
  zsep := fun i b B x h => by cases h
  base := Nat.le_refl _
theorem BSim.calls {P : Program} {f : FuncId} {fn : Func} (hf : FnOk P f fn) {args : List AV} {ans : AV} (h : BSim P f args [] [] ans) (ha : mapO (renT []) args = some args) (W : World) (cargs : Array Value) (hv : VsRel (startEnv W) args cargs.toList) :
    Calls P f cargs W fun e W' => ∃ ρ' cv, e = .returned cv ∧ VRel ρ' ans cv ∧ RowKit.Below W.heap.size W W' := by
  have hs := h.spec0 ha ⟨.nil, 0⟩ ⟨.nil, 0⟩ rfl W _ _ W cargs (MRel.start W) hv
  rcases hs with ⟨ρ', cv, w', _, _, _, hrun⟩ | ⟨_, hc⟩
  · have hne : ¬ fn.name = "runtime.NumGoroutine" := by simpa using hf.name
    have hb := codeOf_some hf.body
    rw [show (callFunc f cargs).run P W = .ok (.enter f cargs) W by simp [callFunc, hf.at_, hne, hb]] at hrun
    cases hrun
  · refine hc.mono fun e w' he => ?_
    obtain ⟨ρ', cv, _, he, hv, hM⟩ := he
    exact ⟨ρ', cv, he, hv, ⟨hM.os, hM.tape, hM.output, hM.size, fun k hk => hM.keep k hk⟩⟩
end Go.Eng

set_option linter.unusedSectionVars false
/-! arguments of a row, in a run's words -/
namespace Go.Eng
open Go
theorem rowAt_le {p : Program} {fits : TypeId → Bool} {d : Nat} {e : TypeId} {count off n : Nat} (h : rowAt p fits d e count off n = true) : off ≤ count * p.cellsOf e := by
  cases d with
  | zero => simp [rowAt] at h
  | succ d =>
    unfold rowAt at h
    by_cases hs : p.cellsOf e = 0
    · simp [hs] at h
    · simp only [hs, if_false] at h
      have hp : 0 < p.cellsOf e := Nat.pos_of_ne_zero hs
      have hdm := Nat.div_add_mod off (p.cellsOf e)
      rw [Bool.or_eq_true] at h
      rcases h with h | h
      · simp only [Bool.and_eq_true, beq_iff_eq, decide_eq_true_eq] at h
        have h1 : off / p.cellsOf e ≤ count := by omega
        calc off = p.cellsOf e * (off / p.cellsOf e) := by omega
          _ ≤ p.cellsOf e * count := Nat.mul_le_mul_left _ h1
          _ = _ := Nat.mul_comm _ _
      · rw [Bool.and_eq_true, decide_eq_true_eq] at h
        have h1 : off / p.cellsOf e + 1 ≤ count := h.1
        have h2 := Nat.mod_lt off hp
        calc off ≤ p.cellsOf e * (off / p.cellsOf e + 1) := by rw [Nat.mul_add]; omega
          _ ≤ p.cellsOf e * count := Nat.mul_le_mul_left _ h1
          _ = _ := Nat.mul_comm _ _
theorem liesAt_le {p : Program} : ∀ {d : Nat} {e : TypeId} {count off : Nat} {u : TypeId} {n : Nat}, liesAt p d e count off u n = true → off ≤ count * p.cellsOf e := by
  intro d
  induction d with
  | zero => intro e count off u n h; simp [liesAt] at h
  | succ d ih =>
    intro e count off u n h
    unfold liesAt at h
    rw [Bool.or_eq_true] at h
    rcases h with h | h
    · exact rowAt_le h
    · split at h
      · exact ih h
      · cases h
/-- where a block lies, and that the place lies within -/
theorem has_block {P : Program} {W : World} {r : Reach} {base : Nat} {a : Addr} {e : TypeId} {n : Nat} (h : W.has P r base a e n) : ∃ arr t fz, a = ⟨a.block, a.off, none⟩ ∧ W.heap[a.block]? = some (.cells arr t fz) ∧ a.off ≤ arr.size := by
  obtain ⟨_, hs, row, cells, hsh, hl⟩ := h
  unfold World.shape? at hsh
  split at hsh
  · rename_i arr t fz hb
    obtain ⟨rfl, rfl⟩ := Prod.mk.inj (Option.some.inj hsh)
    refine ⟨arr, _, fz, ?_, hb, ?_⟩
    · cases a; simp_all
    · exact Nat.le_trans (liesAt_le hl) (Nat.div_mul_le_self _ _)
  · cases hsh
variable [Mode]
/-- the argument '[]byte' -/
theorem arg_bytes {H : Type} {enc : TypeId × Value → H} {P : Program} {W : World} {r : Reach} {b0 : Nat} {held : Bool} {t e : TypeId} {v : Value} {d : DataW H} {p : List MemPlace} (ht : P.underlying t = some (.slice e)) (he : P.underlying e = some (.int .u8)) (hc : P.cellsOf e = 1)
    (hval : Value.okWide P W r b0 t v) (hd : DataW.Trod enc P W 0 (fun _ => true) held t v d p) : ∃ l : List UInt8, VRel (startEnv W) (.dslice l.length 1 (fun i => [.int .u8 (.ofNat (l.getD i 0).toNat)])) v := by
  obtain ⟨fuel, hf⟩ := hd
  simp only [Value.okWide, ht, Cell.okWide, Cell.ok] at hval
  rcases ChangeShapes.open_ints ht he hc hf with ⟨hcs, _⟩ | ⟨a, len, cap, zs, hcs, _, hl, hm, hz, _, hcell, hw⟩
  · have : v = .slice none 0 0 := by
      cases v <;> simp [Value.cells] at hcs ⊢ <;> simp_all
    subst this
    exact ⟨[], .dslice _ _ _ _ (.none 1 _)⟩
  · have : v = .slice (some a) len cap := by
      cases v <;> simp [Value.cells] at hcs ⊢ <;> simp_all
    subst this
    simp only [if_true] at hz
    obtain ⟨_, _, hhas⟩ := hval
    obtain ⟨arr, t', fz, ha, hb, hoff⟩ := has_block hhas
    have hget : ∀ i, i < cap → arr[a.off + i]? = some (.int .u8 (zs.getD i 0)) := by
      intro i hi
      have h1 := hcell i (by omega)
      rw [ha] at h1
      by_cases h0 : i = 0
      · subst h0; simpa [World.cell?, Addr.add, hb] using h1
      · simpa [World.cell?, Addr.add, hb, h0] using h1
    have hlen : a.off + len ≤ arr.size := by
      cases len with
      | zero => exact hoff
      | succ n =>
        have := (Array.getElem?_eq_some_iff.1 (hget n (by omega))).1
        omega
    refine ⟨(zs.take len).map fun n => UInt8.ofNat n.toNat, ?_⟩
    have hln : ((zs.take len).map fun n => UInt8.ofNat n.toNat).length = len := by simp; omega
    rw [hln, ha]
    refine .dslice _ _ _ _ (.slice len 1 _ a.block a.off cap arr.toList (startEnv_z hb) hl (by simpa using hlen) fun i hi => ?_)
    have h1 := hget i (by omega)
    have e1 : (arr.toList.drop (a.off + i * 1)).take 1 = [.int .u8 (zs.getD i 0)] := by
      rw [Nat.mul_one]
      have h2 : arr.toList[a.off + i]? = some (.int .u8 (zs.getD i 0)) := by simpa using h1
      obtain ⟨h3, h4⟩ := List.getElem?_eq_some_iff.1 h2
      rw [List.drop_eq_getElem_cons h3, h4]
      rfl
    rw [e1]
    have hwi : (Lit.int .u8 (zs.getD i 0)).wf = true := hw _ (by
      have : zs.getD i 0 = zs[i]'(by omega) := by simp [List.getD, show i < zs.length by omega]
      rw [this]; exact List.getElem_mem _)
    have hr : 0 ≤ zs.getD i 0 ∧ zs.getD i 0 ≤ 255 := by simpa [Lit.wf, IntKind.min, IntKind.max, IntKind.signed, IntKind.bits] using hwi
    have e2 : ((((zs.take len).map fun n => UInt8.ofNat n.toNat)).getD i 0).toNat = (zs.getD i 0).toNat := by
      have : (((zs.take len).map fun n => UInt8.ofNat n.toNat)).getD i 0 = UInt8.ofNat (zs.getD i 0).toNat := by
        simp [List.getD, List.getElem?_take_of_lt hi, show i < zs.length by omega]
      rw [this]
      have h5 : (zs.getD i 0).toNat < 256 := by omega
      rw [UInt8.toNat_ofNat']
      exact Nat.mod_eq_of_lt h5
    have e3 : Int.ofNat ((((zs.take len).map fun n => UInt8.ofNat n.toNat)).getD i 0).toNat = zs.getD i 0 := by
      rw [e2]; simp only [Int.ofNat_eq_natCast]; omega
    rw [e3]
    exact .cons _ _ _ _ (.int _ _) .nil
end Go.Eng

set_option linter.unusedSectionVars false
namespace Go.Eng
open Go
variable [Mode]
/-! answers that are not told: some answer, with a property -/
theorem resK_vs {P : Program} {fr' : Fr} {M' : Mem} : ∀ (l : List ResultVar) (J : List AV → Bool), resK P fr' M' l J = true → ∃ vs, J vs = true ∧ ∀ J' : List AV → Bool, J' vs = true → resK P fr' M' l J' = true := by
  intro l
  induction l with
  | nil => intro J h; exact ⟨[], h, fun J' h' => h'⟩
  | cons r l ih =>
    intro J h
    cases r with
    | tmp t =>
      change (getT fr' t fun v => resK P fr' M' l fun vs => J (v :: vs)) = true at h
      rw [getT_iff] at h
      obtain ⟨av, hav, h⟩ := h
      obtain ⟨vs, h1, h2⟩ := ih _ h
      refine ⟨av :: vs, h1, fun J' h' => ?_⟩
      show (getT fr' t fun v => resK P fr' M' l fun vs => J' (v :: vs)) = true
      rw [getT_iff]
      exact ⟨av, hav, h2 (fun vs => J' (av :: vs)) h'⟩
    | cell x t =>
      change (getT fr' x fun p => loadA P t p M' fun v => resK P fr' M' l fun vs => J (v :: vs)) = true at h
      rw [getT_iff] at h
      obtain ⟨av, hav, h⟩ := h
      obtain ⟨u, hu1, hu2⟩ : ∃ u, (resK P fr' M' l fun vs => J (u :: vs)) = true ∧ ∀ J' : AV → Bool, J' u = true → loadA P t av M' J' = true := by
        unfold loadA at h
        split at h
        · rename_i b o
          split at h
          · rename_i c op sz hb
            obtain ⟨u, h1, h2⟩ : ∃ u, (resK P fr' M' l fun vs => J (u :: vs)) = true ∧ ∀ J' : AV → Bool, J' u = true → partK P t c o J' = true := by
              unfold partK at h ⊢
              split at h
              · rw [dropK_iff] at h
                obtain ⟨h1, h⟩ := h
                rw [takeK_iff] at h
                exact ⟨_, h.2, fun J' hJ => by rw [dropK_iff, takeK_iff]; exact ⟨h1, h.1, hJ⟩⟩
              · rw [dropK_iff] at h
                obtain ⟨h1, h⟩ := h
                rw [headK_iff] at h
                obtain ⟨x, r, e, h⟩ := h
                exact ⟨x, h, fun J' hJ => by rw [dropK_iff, headK_iff]; exact ⟨h1, x, r, e, hJ⟩⟩
              · exact absurd h (by simp)
            exact ⟨u, h1, fun J' hJ => by simp only [loadA, hb]; exact h2 J' hJ⟩
          · exact absurd h (by simp)
        · rename_i c o
          obtain ⟨u, h1, h2⟩ : ∃ u, (resK P fr' M' l fun vs => J (u :: vs)) = true ∧ ∀ J' : AV → Bool, J' u = true → partK P t (toAVs c) o J' = true := by
            unfold partK at h ⊢
            split at h
            · rw [dropK_iff] at h
              obtain ⟨h1, h⟩ := h
              rw [takeK_iff] at h
              exact ⟨_, h.2, fun J' hJ => by rw [dropK_iff, takeK_iff]; exact ⟨h1, h.1, hJ⟩⟩
            · rw [dropK_iff] at h
              obtain ⟨h1, h⟩ := h
              rw [headK_iff] at h
              obtain ⟨x, r, e, h⟩ := h
              exact ⟨x, h, fun J' hJ => by rw [dropK_iff, headK_iff]; exact ⟨h1, x, r, e, hJ⟩⟩
            · exact absurd h (by simp)
          exact ⟨u, h1, fun J' hJ => by simp only [loadA]; exact h2 J' hJ⟩
        · exact absurd h (by simp)
      obtain ⟨vs, h1, h2⟩ := ih _ hu1
      refine ⟨u :: vs, h1, fun J' h' => ?_⟩
      show (getT fr' x fun p => loadA P t p M' fun v => resK P fr' M' l fun vs => J' (v :: vs)) = true
      rw [getT_iff]
      exact ⟨av, hav, hu2 _ (h2 (fun vs => J' (u :: vs)) h')⟩
theorem endK_inv {o : AE} {b : Bool} (h : endK o b = true) : (o = .normal ∨ o = .ret) ∧ b = true := by
  cases o with
  | normal => exact ⟨.inl rfl, h⟩
  | ret => exact ⟨.inr rfl, h⟩
  | exit id => exact absurd h (by simp [endK])
theorem W.ex {P : Program} {nt k : Nat} {c : Code} {fr : Fr} {M : Mem} {α : Type} {Q : α → AE → Fr → Mem → Prop} (h : W P nt k c fr M fun o fr' M' => ∃ a, Q a o fr' M') : ∃ a, W P nt k c fr M (Q a) := by
  obtain ⟨o, fr', M', ⟨a, hq⟩, hs⟩ := h
  exact ⟨a, o, fr', M', hq, hs⟩
/-- the end of a function: some answer -/
def FinEx (P : Program) (fn : Func) (k : Nat) (rows1 : List (List Dat)) (Pr : AV → Prop) : AE → Fr → Mem → Prop := fun o fr M => ∃ ans, Pr ans ∧ Fin P fn k rows1 ans o fr M
theorem W.finEx {P : Program} (hm : P.follows .mixedOrders = true) {X : FuncId → Option Ext} (hX : ∀ f x, X f = some x → ExtSpec P f x) {S : List (FuncId × SEnt)} (hS : ∀ e ∈ S, SSpec P e.1 e.2) {fn : Func} {nt k : Nat} {c : Code} {fr : Fr} {M : Mem}
    {rows1 : List (List Dat)} {Pr : AV → Prop} (n : Nat) (π : List Nat) (T : (AV → List (Option Blk) → Bool) → Bool)
    (h : ∀ I : AV → List (Option Blk) → Bool, Eng.exec P X S n nt c fr M (fun o fr M => endK o (resK P fr M fn.results.toList fun vs => I (oneOf vs) (mv π M))) = T I)
    (hT : T (fun v bs => pdec (∃ ans, Pr ans ∧ Leaf k π rows1 ans v bs)) = true) : W P nt k c fr M (FinEx P fn k rows1 Pr) := by
  refine (W.exec hm hX hS (k := k) ((h _).trans hT)).mono fun o fr' M' hK => ?_
  obtain ⟨ho, hres⟩ := endK_inv hK
  obtain ⟨vs, h1, h2⟩ := resK_vs _ _ hres
  obtain ⟨ans, hp, hl⟩ := pdec_iff.1 h1
  exact ⟨ans, hp, ho, vs, h2 _ (pdec_iff.2 rfl), hl M' rfl⟩
theorem BSim.of_WEx {P : Program} {f : FuncId} {fn : Func} (hf : FnOk P f fn) {args0 : List AV} {rows0 rows1 : List (List Dat)} {Pr : AV → Prop} (hlen : Nat.ble args0.length fn.ntmps = true) (hrows : rows1.length = rows0.length)
    (h : W P fn.ntmps rows0.length (codeOf fn) (mkFr (argSlots args0 0)) (mkMem (rowsOf rows0)) (FinEx P fn rows0.length rows1 Pr)) : ∃ ans, Pr ans ∧ BSim P f args0 rows0 rows1 ans := by
  obtain ⟨o, fr', M', ⟨ans, hp, hfin⟩, hs⟩ := h
  exact ⟨ans, hp, BSim.of_W hf.at_ (codeOf_some hf.body) hf.name (nble_le hlen) hrows ⟨o, fr', M', hfin, hs⟩⟩
/-- a call that ends with some answer -/
theorem BSim.runEx {P : Program} (hm : P.follows .mixedOrders = true) {X : FuncId → Option Ext} (hX : ∀ f x, X f = some x → ExtSpec P f x) {S : List (FuncId × SEnt)} (hS : ∀ e ∈ S, SSpec P e.1 e.2) {f : FuncId} {fn : Func} (hf : FnOk P f fn)
    {args0 : List AV} {rows0 rows1 : List (List Dat)} {Pr : AV → Prop} (hlen : Nat.ble args0.length fn.ntmps = true) (hrows : rows1.length = rows0.length) (n : Nat) (π : List Nat) (T : (AV → List (Option Blk) → Bool) → Bool)
    (h : ∀ I : AV → List (Option Blk) → Bool, Eng.exec P X S n fn.ntmps (codeOf fn) (mkFr (argSlots args0 0)) (mkMem (rowsOf rows0)) (fun o fr M => endK o (resK P fr M fn.results.toList fun vs => I (oneOf vs) (mv π M))) = T I)
    (hT : T (fun v bs => pdec (∃ ans, Pr ans ∧ Leaf rows0.length π rows1 ans v bs)) = true) : ∃ ans, Pr ans ∧ BSim P f args0 rows0 rows1 ans :=
  BSim.of_WEx hf hlen hrows (W.finEx hm hX hS n π T h hT)
end Go.Eng

set_option linter.unusedSectionVars false
namespace Go.Eng
open Go
variable [Mode]
/-- a loop over slots that hold no memory -/
theorem W.loopF {P : Program} {nt : Nat} {b : Code} {Q : AE → Fr → Mem → Prop} {σ : Type} (slots : σ → List (Nat × AV)) (m : σ → Nat) (hs : ∀ s, ∀ x ∈ vals2 [] (slots s), x ≠ none)
    (h : ∀ s, W P nt 0 b (mkFr (slots s)) (mkMem []) fun o fr' M' => (o = .normal ∧ ∃ s', m s' < m s ∧ lv ((slots s').map (·.1)) fr' = vals2 [] (slots s')) ∨ (o ≠ .normal ∧ Q o fr' M'))
    (s : σ) {fr : Fr} {M : Mem} (hI : lv ((slots s).map (·.1)) fr = vals2 [] (slots s)) : W P nt 0 (.loop b) fr M Q :=
  W.loop (fun s fr _ => lv ((slots s).map (·.1)) fr = vals2 [] (slots s)) m
    (fun s fr M hI => W.next (π := []) (bs := []) hI rfl (slots s) [] rfl rfl rfl (by unfold okPi; decide) (hs s) (by simp) (h s)) s hI
end Go.Eng

set_option linter.unusedSectionVars false
namespace Go.Eng
open Go
variable [Mode]

/-! A CALL THAT CHANGES THE MEMORY: the first k blocks keep their numbers; the next ones (loose blocks, of which nobody else knows) are given up; the call leaves new ones -/
noncomputable def killL (δ : List Nat) (M : Mem) : Mem := ⟨List.rec (motive := fun _ => T Blk) M.t (fun d _ t => T.putD .dead t d) δ, M.nx⟩
theorem killL_get (δ : List Nat) (M : Mem) (i : Nat) : (killL δ M).t.get i = if i ∈ δ then some .dead else M.t.get i := by
  induction δ with
  | nil => simp [killL]
  | cons d δ ih =>
    change (T.putD Blk.dead (killL δ M).t d).get i = _
    rw [T.putD_get, ih]
    by_cases h : i = d
    · simp [h]
    · simp [h]
theorem MRel.killL {w0 : World} {R : Nat → Prop} {ρ : Env} {M : Mem} {w : World} (h : MRel w0 R ρ M w) (δ : List Nat) : MRel w0 R ρ (killL δ M) w := by
  induction δ with
  | nil => exact h
  | cons d δ ih => exact ih.kill (M := Go.Eng.killL δ M) d fun k => T.putD_get _ _ _ _

mutual
/-- how a value reads behind the call: data, or pointers to blocks that stay known -/
inductive FzN (k : Nat) (M : Mem) (δ : List Nat) (nx : Nat) : AV → AV → Prop
  | dat (a : AV) (d : Dat) (h : FzD k M a d) : FzN k M δ nx a (toAV d)
  | ptr (i o : Nat) (hi : i < k) : FzN k M δ nx (.ptr i o) (.ptr i o)
  | nptr (j i o : Nat) (h : δ[j]? = some i) : FzN k M δ nx (.ptr i o) (.ptr (nx + j) o)
  | slice (i o l c : Nat) (op : Bool) (hi : i < k) : FzN k M δ nx (.slice i o l c op) (.slice i o l c op)
  | nslice (j i o l c : Nat) (op : Bool) (h : δ[j]? = some i) : FzN k M δ nx (.slice i o l c op) (.slice (nx + j) o l c op)
  | nil : FzN k M δ nx .nilSlice .nilSlice
  | func (f : Fn) (l m l' m' : List AV) (h : FzNs k M δ nx l l') (h' : FzNs k M δ nx m m') : FzN k M δ nx (.func f l m) (.func f l' m')
  | agg (l m : List AV) (h : FzNs k M δ nx l m) : FzN k M δ nx (.agg l) (.agg m)
  | tuple (l m : List AV) (h : FzNs k M δ nx l m) : FzN k M δ nx (.tuple l) (.tuple m)
inductive FzNs (k : Nat) (M : Mem) (δ : List Nat) (nx : Nat) : List AV → List AV → Prop
  | nil : FzNs k M δ nx [] []
  | cons (a b : AV) (l m : List AV) (h : FzN k M δ nx a b) (hs : FzNs k M δ nx l m) : FzNs k M δ nx (a :: l) (b :: m)
end
section
variable {k : Nat} {w0 : World} {R : Nat → Prop} {ρ σ : Env} {M : Mem} {w : World} {δ : List Nat} {nx : Nat}
mutual
theorem FzN.rel (h : MRel w0 R ρ M w) (hσ : σ.z = stillOf k ρ M w) (hk : ∀ i p, i < k → ρ i = some p → σ i = some p) (hδ : ∀ j i p, δ[j]? = some i → ρ i = some p → σ (nx + j) = some p) :
    ∀ {a b : AV}, FzN k M δ nx a b → ∀ {v : Value}, VRel ρ a v → VRel σ b v
  | _, _, .dat a d hd, v, hv => DRel.toAV (by rw [hσ]; exact hd.rel h hv)
  | _, _, .ptr i o hi, v, hv => by cases hv with | ptr _ _ B x e => exact .ptr _ _ B x (hk _ _ hi e)
  | _, _, .nptr j i o hi, v, hv => by cases hv with | ptr _ _ B x e => exact .ptr _ _ B x (hδ _ _ _ hi e)
  | _, _, .slice i o l c op hi, v, hv => by cases hv with | slice _ _ _ _ _ B x c e hc => exact .slice _ _ _ _ _ B x c (hk _ _ hi e) hc
  | _, _, .nslice j i o l c op hi, v, hv => by cases hv with | slice _ _ _ _ _ B x c e hc => exact .slice _ _ _ _ _ B x c (hδ _ _ _ hi e) hc
  | _, _, .nil, v, hv => by cases hv; exact .nilSlice
  | _, _, .func f l m l' m' h1 h2, v, hv => by cases hv with | func _ _ _ vs ws e1 e2 => exact .func _ _ _ _ _ (FzNs.rel h hσ hk hδ h1 e1) (FzNs.rel h hσ hk hδ h2 e2)
  | _, _, .agg l m h1, v, hv => by cases hv with | agg _ vs e => exact .agg _ _ (FzNs.rel h hσ hk hδ h1 e)
  | _, _, .tuple l m h1, v, hv => by cases hv with | tuple _ vs e => exact .tuple _ _ (FzNs.rel h hσ hk hδ h1 e)
theorem FzNs.rel (h : MRel w0 R ρ M w) (hσ : σ.z = stillOf k ρ M w) (hk : ∀ i p, i < k → ρ i = some p → σ i = some p) (hδ : ∀ j i p, δ[j]? = some i → ρ i = some p → σ (nx + j) = some p) :
    ∀ {l m : List AV}, FzNs k M δ nx l m → ∀ {vs : List Value}, VsRel ρ l vs → VsRel σ m vs
  | _, _, .nil, vs, hv => by cases hv; exact .nil
  | _, _, .cons a b l m ha hs, vs, hv => by cases hv with | cons _ v _ vs e es => exact .cons _ _ _ _ (FzN.rel h hσ hk hδ ha e) (FzNs.rel h hσ hk hδ hs es)
end
theorem FzNs.length : ∀ {l m : List AV}, FzNs k M δ nx l m → l.length = m.length
  | _, _, .nil => rfl
  | _, _, .cons a b l m ha hs => by simp [FzNs.length hs]
theorem FzNs.sames : ∀ ds : List Dat, FzNs k M δ nx (toAVs ds) (toAVs ds)
  | [] => .nil
  | d :: ds => .cons _ _ _ _ (.dat _ _ (.same d)) (FzNs.sames ds)
theorem FzNs.append {l m l' m' : List AV} (h : FzNs k M δ nx l m) (h' : FzNs k M δ nx l' m') : FzNs k M δ nx (l ++ l') (m ++ m') := by
  induction l generalizing m with
  | nil => cases h; exact h'
  | cons a l ih => cases h with | cons _ b _ m ha hs => exact .cons _ _ _ _ ha (ih hs)
end
inductive FzBk (k : Nat) (M : Mem) (δ : List Nat) (nx : Nat) : Blk → Blk → Prop
  | row (c c' : List AV) (op : Bool) (sz : Nat) (h : FzNs k M δ nx c c') : FzBk k M δ nx (.row c op sz) (.row c' op sz)
theorem FzBk.live {k : Nat} {M : Mem} {δ : List Nat} {nx : Nat} {b c : Blk} (h : FzBk k M δ nx b c) : b ≠ .dead := by cases h; simp

def numU : Nat → List (Blk × Blk) → List (Nat × Blk × Blk)
  | _, [] => []
  | i, p :: l => (i, p.1, p.2) :: numU (i + 1) l
theorem UpsB.num : ∀ {l : List (Blk × Blk)} {i : Nat} {M M1 : Mem}, UpsB (numU i l) M M1 →
    M1.nx = M.nx ∧ (∀ j p, l[j]? = some p → M.t.get (i + j) = some p.1 ∧ M1.t.get (i + j) = some p.2) ∧ (∀ b, b < i ∨ i + l.length ≤ b → M1.t.get b = M.t.get b) := by
  intro l
  induction l with
  | nil => intro i M M1 h; simp only [numU, UpsB] at h; subst h; exact ⟨rfl, fun j p h => by simp at h, fun _ _ => rfl⟩
  | cons p l ih =>
    intro i M M1 h
    simp only [numU, UpsB] at h
    obtain ⟨M2, h1, h2, h3, h4⟩ := h
    obtain ⟨g1, g2, g3⟩ := ih h4
    refine ⟨g1.trans h3, fun j q hj => ?_, fun b hb => ?_⟩
    · cases j with
      | zero =>
        obtain rfl : p = q := by simpa using hj
        exact ⟨h1, by rw [Nat.add_zero, g3 i (.inl (by omega)), h2, if_pos rfl]⟩
      | succ j =>
        obtain ⟨e1, e2⟩ := g2 j q (by simpa using hj)
        rw [show i + (j + 1) = i + 1 + j by omega]
        rw [h2, if_neg (by omega)] at e1
        exact ⟨e1, e2⟩
    · rw [g3 b (by simp only [List.length_cons] at hb; omega), h2, if_neg (by simp only [List.length_cons] at hb; omega)]
theorem News.num : ∀ {l : List Blk} {M M' : Mem}, News l M M' →
    M'.nx = M.nx + l.length ∧ (∀ j b, l[j]? = some b → M'.t.get (M.nx + j) = some b) ∧ (∀ b, b < M.nx ∨ M.nx + l.length ≤ b → M'.t.get b = M.t.get b) := by
  intro l
  induction l with
  | nil => intro M M' h; simp only [News] at h; subst h; exact ⟨rfl, fun j p h => by simp at h, fun _ _ => rfl⟩
  | cons p l ih =>
    intro M M' h
    simp only [News] at h
    obtain ⟨M2, h2, h3, h4⟩ := h
    obtain ⟨g1, g2, g3⟩ := ih h4
    rw [h3] at g1 g2 g3
    refine ⟨by rw [g1, List.length_cons]; omega, fun j q hj => ?_, fun b hb => ?_⟩
    · cases j with
      | zero =>
        obtain rfl : p = q := by simpa using hj
        rw [Nat.add_zero, g3 M.nx (.inl (by omega)), h2, if_pos rfl]
      | succ j =>
        have := g2 j q (by simpa using hj)
        rwa [show M.nx + (j + 1) = M.nx + 1 + j by omega]
    · rw [g3 b (by simp only [List.length_cons] at hb; omega), h2, if_neg (by simp only [List.length_cons] at hb; omega)]

/-- the entry of such a call -/
def nEnt (args : List AV) (rows0 loose0 : List Blk) (rows1 loose1 : Nat → List Blk) (ans : Nat → AV) (nx : Nat) : MEnt :=
  ⟨args, nx, numU 0 (rows0.zip (rows1 nx) ++ loose0.map fun b => (b, .dead)), loose1 nx, ans nx⟩
def NSpec (P : Program) (f : FuncId) (args : List AV) (rows0 loose0 : List Blk) (rows1 loose1 : Nat → List Blk) (ans : Nat → AV) : Prop :=
  ∀ nx, rows0.length + loose0.length ≤ nx → MSpec P f (nEnt args rows0 loose0 rows1 loose1 ans nx)
/-- how its code is to end -/
def FinN (P : Program) (fn : Func) (k : Nat) (rows1 loose1 : Nat → List Blk) (ans : Nat → AV) (o : AE) (fr' : Fr) (M' : Mem) : Prop :=
  (o = .normal ∨ o = .ret) ∧ ∃ vs δ, resK P fr' M' fn.results.toList (fun l => pdec (l = vs)) = true ∧ δ.Nodup ∧ (∀ d ∈ δ, k ≤ d) ∧ ∀ nx, δ.length = (loose1 nx).length ∧ FzN k (killL δ M') δ nx (oneOf vs) (ans nx) ∧
    (∀ (j : Nat) (b' : Blk), (rows1 nx)[j]? = some b' → ∃ b, M'.t.get j = some b ∧ FzBk k (killL δ M') δ nx b b') ∧
    (∀ (j : Nat) (b' : Blk), (loose1 nx)[j]? = some b' → ∃ d b, δ[j]? = some d ∧ M'.t.get d = some b ∧ FzBk k (killL δ M') δ nx b b')
def isRow (b : Blk) : Bool := match b with | .row _ _ _ => true | _ => false

theorem range_at {n j : Nat} (h : j < n) : (List.range n)[j]? = some j := by simp [h]

theorem NSpec.of_W {P : Program} {f : FuncId} {fn : Func} {c : Code} (hf : P.funcs[f]? = some fn) (hb : fn.body = some c) (hname : (fn.name == "runtime.NumGoroutine") = false)
    {args : List AV} {rows0 loose0 : List Blk} {rows1 loose1 : Nat → List Blk} {ans : Nat → AV} (hlen : args.length ≤ fn.ntmps) (hrows : ∀ nx, (rows1 nx).length = rows0.length) (hl0 : ∀ b ∈ rows0 ++ loose0, isRow b = true)
    (ha0 : mapO (renT (List.range (rows0.length + loose0.length))) args = some args) (hl1 : ∀ b ∈ rows0 ++ loose0, renB (List.range (rows0.length + loose0.length)) b = some b)
    (h : W P fn.ntmps rows0.length c (mkFr (argSlots args 0)) (mkMem (rows0 ++ loose0)) (FinN P fn rows0.length rows1 loose1 ans)) : NSpec P f args rows0 loose0 rows1 loose1 ans := by
  intro nx hnx0 M M1' M' hnx hU hN w0 R ρ w cargs hM hv
  change M.nx = nx at hnx
  change UpsB (numU 0 (rows0.zip (rows1 nx) ++ loose0.map fun b => (b, Blk.dead))) M M1' at hU
  change News (loose1 nx) M1' M' at hN
  change VsRel ρ args cargs.toList at hv
  obtain ⟨u1, u2, u3⟩ := hU.num
  obtain ⟨n1, n2, n3⟩ := hN.num
  simp only [Nat.zero_add] at u2 u3
  rw [u1, hnx] at n1 n2 n3
  have hzl : (rows0.zip (rows1 nx)).length = rows0.length := by simp [hrows nx]
  have hul : (rows0.zip (rows1 nx) ++ loose0.map fun b => (b, Blk.dead)).length = rows0.length + loose0.length := by rw [List.length_append, hzl, List.length_map]
  rw [hul] at u3
  generalize hN0 : rows0.length + loose0.length = N at *
  -- the blocks before and behind
  have hkeep : ∀ j, j < rows0.length → ∃ b b', rows0[j]? = some b ∧ (rows1 nx)[j]? = some b' ∧ M.t.get j = some b ∧ M'.t.get j = some b' := by
    intro j hj
    have hp : (rows0.zip (rows1 nx) ++ loose0.map fun b => (b, Blk.dead))[j]? = some (rows0[j], (rows1 nx)[j]'(by rw [hrows]; exact hj)) := by
      rw [List.getElem?_append_left (by rw [hzl]; exact hj), List.getElem?_eq_getElem (by rw [hzl]; exact hj)]
      simp
    obtain ⟨e1, e2⟩ := u2 j _ hp
    exact ⟨_, _, List.getElem?_eq_getElem hj, List.getElem?_eq_getElem _, e1, by rw [n3 j (.inl (by omega))]; exact e2⟩
  have hloose : ∀ j, rows0.length ≤ j → j < N → ∃ b, loose0[j - rows0.length]? = some b ∧ M.t.get j = some b ∧ M'.t.get j = some .dead := by
    intro j hj1 hj2
    have hjl : j - rows0.length < loose0.length := by omega
    have hp : (rows0.zip (rows1 nx) ++ loose0.map fun b => (b, Blk.dead))[j]? = some (loose0[j - rows0.length], .dead) := by
      rw [List.getElem?_append_right (by rw [hzl]; exact hj1), hzl, List.getElem?_map, List.getElem?_eq_getElem hjl]
      rfl
    obtain ⟨e1, e2⟩ := u2 j _ hp
    exact ⟨_, List.getElem?_eq_getElem hjl, e1, by rw [n3 j (.inl (by omega))]; exact e2⟩
  have hother : ∀ j, N ≤ j → j < nx ∨ nx + (loose1 nx).length ≤ j → M'.t.get j = M.t.get j := by
    intro j hj1 hj2
    rw [n3 j hj2]
    exact u3 j (.inr hj1)
  have hne : ¬ fn.name = "runtime.NumGoroutine" := by simpa using hname
  refine .inr ⟨by simp [callFunc, hf, hne, hb], calls_of_wp hf hb ?_⟩
  obtain ⟨o, fr', M1, ⟨ho, vs, δ, hres, hnd, hδk, hfin⟩, hsim⟩ := h
  obtain ⟨hδl, hfz, hrow1, hloo1⟩ := hfin nx
  -- the known blocks
  have hbx : ∀ j, j < N → ∃ r op sz B x arr t, (rows0 ++ loose0)[j]? = some (.row r op sz) ∧ M.t.get j = some (.row r op sz) ∧ ρ j = some (B, x) ∧ ¬ R B ∧ w.heap[B]? = some (.cells arr t (0, 0)) ∧ VsRel ρ r (arr.toList.take r.length) ∧ arr.size = r.length + (if op then x * sz else 0) := by
    intro j hj
    obtain ⟨b, hb0, hg⟩ : ∃ b, (rows0 ++ loose0)[j]? = some b ∧ M.t.get j = some b := by
      by_cases hjk : j < rows0.length
      · obtain ⟨b, b', h1, h2, h3, h4⟩ := hkeep j hjk
        exact ⟨b, by rw [List.getElem?_append_left hjk]; exact h1, h3⟩
      · obtain ⟨b, h1, h2, h3⟩ := hloose j (by omega) hj
        exact ⟨b, by rw [List.getElem?_append_right (by omega)]; exact h1, h2⟩
    have hir := hl0 b (List.mem_of_getElem? hb0)
    cases b with
    | row r op sz =>
      obtain ⟨B, x, ob, hr, hRB, hob, hO⟩ := hM.blk j _ hg (by simp)
      unfold ORel at hO
      cases ob <;> simp only at hO
      case cells arr t fz =>
        obtain ⟨h1, h2, rfl⟩ := hO
        exact ⟨r, op, sz, B, x, arr, t, hb0, hg, hr, hRB, hob, h1, h2⟩
    | _ => cases hir
  -- where the run begins
  let isBox : Nat → Prop := fun B => ∃ (j x : Nat), j < N ∧ ρ j = some (B, x)
  let R1 : Nat → Prop := fun B => B < w.heap.size ∧ ¬ isBox B
  let ρ1 : Env := { (ρ.ren (List.range N)) with base := w.heap.size }
  have hρ1 : ∀ j p, ρ1 j = some p → j < N ∧ ρ j = some p := by
    intro j p e
    change (match (List.range N)[j]? with | .some i => ρ i | .none => .none) = some p at e
    by_cases hj : j < N
    · rw [range_at hj] at e; exact ⟨hj, e⟩
    · rw [List.getElem?_eq_none (by simp; omega)] at e; cases e
  have hρ1' : ∀ j, j < N → ρ1 j = ρ j := fun j hj => ren_at (range_at hj)
  have hrow0 : ∀ (j : Nat) (b : Blk), (mkMem (rows0 ++ loose0)).t.get j = some b → j < N ∧ (rows0 ++ loose0)[j]? = some b := by
    intro j b hj
    rw [mkMem_get] at hj
    have := (List.getElem?_eq_some_iff.1 hj).1
    rw [List.length_append] at this
    exact ⟨by omega, hj⟩
  have hMb : MRel w R1 ρ1 (mkMem (rows0 ++ loose0)) w := by
    refine ⟨rfl, rfl, rfl, Nat.le_refl _, fun _ _ => rfl, fun b hb => hb.1, fun j b hj hd => ?_, fun j j' b c B x y hj hd hj' he e1 e2 => ?_, fun j p e => ?_, hM.zok, fun j b B x hj hd e => ?_, Nat.le_refl _⟩
    · obtain ⟨hjN, hjb⟩ := hrow0 j b hj
      obtain ⟨r, op, sz, B, x, arr, t, g1, g2, g3, g4, g5, g6, g7⟩ := hbx j hjN
      rw [hjb] at g1
      obtain rfl := Option.some.inj g1
      refine ⟨B, x, _, (hρ1' j hjN).trans g3, fun hR1 => hR1.2 ⟨j, x, hjN, g3⟩, g5, ?_, g7, rfl⟩
      have := hl1 _ (List.mem_of_getElem? hjb)
      simp only [renB] at this
      split at this
      · rename_i c hc
        obtain rfl : c = r := by injection Option.some.inj this
        exact VsRel.sub (ρ := ρ.ren (List.range N)) (σ := ρ1) ⟨fun _ _ h => h, fun _ _ h => h⟩ (renL_rel (fun _ _ _ => renA_rel) hc g6)
      · cases this
    · obtain ⟨hjN, _⟩ := hrow0 j b hj
      obtain ⟨hjN', _⟩ := hrow0 j' c hj'
      rw [hρ1' j hjN] at e1
      rw [hρ1' j' hjN'] at e2
      obtain ⟨r, op, sz, _, _, _, _, _, g2, _⟩ := hbx j hjN
      obtain ⟨r', op', sz', _, _, _, _, _, g2', _⟩ := hbx j' hjN'
      exact hM.inj j j' _ _ B x y g2 (by simp) g2' (by simp) e1 e2
    · show j < lenL (rows0 ++ loose0)
      rw [lenL_eq, List.length_append, hN0]
      exact (hρ1 j p e).1
    · obtain ⟨hjN, _⟩ := hrow0 j b hj
      rw [hρ1' j hjN] at e
      obtain ⟨r, op, sz, _, _, _, _, _, g2, _⟩ := hbx j hjN
      exact hM.zsep j _ B x g2 (by simp) e
  have hvr : VsRel ρ1 args cargs.toList := VsRel.sub (ρ := ρ.ren (List.range N)) (σ := ρ1) ⟨fun _ _ h => h, fun _ _ h => h⟩ (args_ren ha0 hv)
  have hcl : cargs.size = args.length := by have := hvr.length; simpa using this.symm
  have hF1 : FRel ρ1 fn.ntmps (mkFr (argSlots args 0)) { tmps := cargs ++ Array.replicate (fn.ntmps - cargs.size) Go.undef, defers := [] } := by
    refine ⟨by simp; omega, rfl, fun t a ha => ?_⟩
    obtain ⟨_, h2⟩ := argSlots_mem _ _ _ _ (mkFr_get _ _ _ ha)
    obtain ⟨v, hv', hr⟩ := hvr.get' h2
    have hlt : t < cargs.size := by have := (List.getElem?_eq_some_iff.1 h2).1; omega
    have : (cargs ++ Array.replicate (fn.ntmps - cargs.size) Go.undef).getD t Go.undef = v := by
      rw [Array.getD_eq_getD_getElem?, Array.getElem?_append_left hlt]
      simp at hv'
      simp [hv']
    rw [this]; exact hr
  refine hsim w R1 ρ1 _ w hF1 hMb _ fun ρ' a' w' hz hF hM' => ?_
  -- its answer
  obtain ⟨vs', hvs, H⟩ := resK_sound _ _ hres
  obtain rfl : vs' = vs := pdec_iff.1 hvs
  obtain ⟨cvs, hcv, hrun⟩ := H w R1 ρ' a' w' _ hF hM'
  have hresults : (results fn a'.tmps).run P w' = .ok (if h : cvs.toArray.size = 1 then cvs.toArray[0] else .tuple cvs.toArray) w' := by
    unfold results
    rw [Array.mapM_eq_mapM_toList]
    simp only [Sem.run_bind, Sem.run_map]
    refine Eq.trans (congrArg (fun r : Result (List Value) => ((Result.andThen r (fun a w' => Result.ok a.toArray w')).andThen fun a w' => Sem.run P (pure (if h : a.size = 1 then a[0] else Value.tuple a)) w')) hrun) ?_
    simp only [Result.andThen_ok, Sem.run_pure]
  have hval : VRel ρ' (oneOf vs') (if h : cvs.toArray.size = 1 then cvs.toArray[0] else .tuple cvs.toArray) := by
    unfold oneOf
    split
    · cases hcv with
      | cons _ cv _ _ h1 h2 => cases h2; simpa using h1
    · rename_i hne
      have hl := hcv.length
      have : ¬ cvs.toArray.size = 1 := by
        intro e
        simp at e
        cases vs' with
        | nil => simp at hl; omega
        | cons x r =>
          cases r with
          | nil => exact hne x rfl
          | cons y r => simp at hl; omega
      rw [dif_neg this]
      exact .tuple _ _ (by simpa using hcv)
  -- what stands still from here, and the new numbers
  have hM2 := hM'.killL δ
  have hm2 : ∀ i b, (killL δ M1).t.get i = some b → b ≠ .dead → i ∉ δ ∧ M1.t.get i = some b := by
    intro i b hi hd
    rw [killL_get] at hi
    by_cases hin : i ∈ δ
    · rw [if_pos hin] at hi; exact absurd (Option.some.inj hi).symm hd
    · rw [if_neg hin] at hi; exact ⟨hin, hi⟩
  let σ : Env := ⟨fun i => if i < nx then ρ i else match δ[i - nx]? with | some d => ρ' d | none => none, stillOf rows0.length ρ' (killL δ M1) w', ρ.base⟩
  have hσ0 : ∀ i, i < nx → σ i = ρ i := fun i hi => if_pos hi
  have hσ1 : ∀ j, σ (nx + j) = match δ[j]? with | some d => ρ' d | none => none := by
    intro j
    show (if nx + j < nx then ρ (nx + j) else match δ[nx + j - nx]? with | some d => ρ' d | none => none) = _
    rw [if_neg (by omega), Nat.add_sub_cancel_left]
  have hρnx : ∀ i p, ρ i = some p → i < nx := fun i p e => hnx ▸ hM.fresh i p e
  have hkρ : ∀ i p, i < rows0.length → ρ' i = some p → σ i = some p := by
    intro i p hi e
    obtain ⟨r, op, sz, B, x, arr, t, g1, g2, g3, _⟩ := hbx i (by omega)
    have := hz.m i _ hi ((hρ1' i (by omega)).trans g3)
    rw [this] at e
    rw [hσ0 i (by omega), ← e]; exact g3
  have hδρ : ∀ j i p, δ[j]? = some i → ρ' i = some p → σ (nx + j) = some p := by
    intro j i p hj e
    rw [hσ1, hj]; exact e
  have hans : VRel σ (ans nx) _ := hfz.rel hM2 (σ := σ) rfl hkρ hδρ hval
  have hboxlt : ∀ B, isBox B → B < w.heap.size := by
    rintro B ⟨j, x, hj, hr⟩
    obtain ⟨_, _, _, B', x', arr, t, _, _, g3, _, g5, _⟩ := hbx j hj
    rw [hr] at g3
    obtain ⟨rfl, rfl⟩ := Prod.mk.inj (Option.some.inj g3)
    exact (Array.getElem?_eq_some_iff.1 g5).1
  have hOwn : ∀ B, Own ρ1 B → w.heap.size ≤ B ∨ isBox B := by
    rintro B (h | ⟨j, x, h⟩)
    · exact .inl h
    · exact .inr ⟨j, x, hρ1 j _ h⟩
  have hOwn' : ∀ B, (w.heap.size ≤ B ∨ isBox B) → Own ρ B := by
    rintro B (h | ⟨j, x, _, h⟩)
    · exact .inl (Nat.le_trans hM.base h)
    · exact .inr ⟨j, x, h⟩
  have hnotR : ∀ i b B x, M1.t.get i = some b → b ≠ .dead → ρ' i = some (B, x) → w.heap.size ≤ B ∨ isBox B := by
    intro i b B x hi hd hr
    obtain ⟨B', x', o', hr', hR, _, _⟩ := hM'.blk i b hi hd
    rw [hr] at hr'
    obtain ⟨rfl, rfl⟩ := Prod.mk.inj (Option.some.inj hr')
    rcases Nat.lt_or_ge B w.heap.size with hlt | hge
    · by_cases hb : isBox B
      · exact .inr hb
      · exact absurd ⟨hlt, hb⟩ hR
    · exact .inl hge
  have hLives : ∀ B, Lives rows0.length ρ' (killL δ M1) B → w.heap.size ≤ B ∨ isBox B := by
    rintro B ⟨i, c, op, sz, x, hk, hb, hr⟩
    obtain ⟨_, hb'⟩ := hm2 i _ hb (by simp)
    exact hnotR i _ B x hb' (by simp) hr
  have hnewz : ∀ B l, σ.z B = some l → ρ.z B = some l ∨ (w.heap.size ≤ B ∨ isBox B) := by
    intro B l hzB
    rcases still_inv hzB with ⟨hl, _⟩ | h1
    · exact .inr (hLives B hl)
    · rcases hz.new B l h1 with h2 | h2
      · exact .inl h2
      · exact .inr (hOwn B h2)
  have hle : ρ.le σ := ⟨fun i p e => (hσ0 i (hρnx i p e)).trans e, fun B l e => still_ge hM2 B l (hz.z B l e), rfl, fun B l e => by
    rcases hnewz B l e with h1 | h1
    · exact .inl h1
    · exact .inr (hOwn' B h1), fun i p e => by
    change (if i < nx then ρ i else match δ[i - nx]? with | some d => ρ' d | none => none) = some p at e
    by_cases hi : i < nx
    · rw [if_pos hi] at e; exact .inr ⟨i, p.2, e⟩
    · rw [if_neg hi] at e
      split at e
      · exact hOwn' _ (hOwn _ (hz.own _ p e))
      · cases e⟩
  -- which blocks are known behind the call, and where they come from
  have hcases : ∀ (i : Nat) (b : Blk) (B x : Nat), M'.t.get i = some b → b ≠ .dead → σ i = some (B, x) →
      (∃ d c, (d < rows0.length ∧ i = d ∨ δ[i - nx]? = some d ∧ nx ≤ i) ∧ M1.t.get d = some c ∧ c ≠ .dead ∧ ρ' d = some (B, x) ∧ FzBk rows0.length (killL δ M1) δ nx c b) ∨
      (N ≤ i ∧ i < nx ∧ M.t.get i = some b ∧ ρ i = some (B, x) ∧ R1 B) := by
    intro i b B x hi hd hr
    by_cases hin : i < nx
    · rw [hσ0 i hin] at hr
      by_cases hik : i < rows0.length
      · obtain ⟨b0, b', h1, h2, h3, h4⟩ := hkeep i hik
        rw [h4] at hi
        obtain rfl := Option.some.inj hi
        obtain ⟨c, h5, h6⟩ := hrow1 i _ h2
        refine .inl ⟨i, c, .inl ⟨hik, rfl⟩, h5, ?_, hz.m i _ hik ((hρ1' i (by omega)).trans hr), h6⟩
        cases h6; simp
      · by_cases hiN : i < N
        · obtain ⟨b0, h1, h2, h3⟩ := hloose i (by omega) hiN
          rw [h3] at hi
          exact absurd (Option.some.inj hi).symm hd
        · rw [hother i (by omega) (.inl hin)] at hi
          refine .inr ⟨by omega, hin, hi, hr, hM.lt hi hd hr, ?_⟩
          rintro ⟨j, y, hj, hrj⟩
          obtain ⟨r, op, sz, _, _, _, _, _, g2, _⟩ := hbx j hj
          have := hM.inj i j b _ B x y hi hd g2 (by simp) hr hrj
          omega
    · by_cases hil : i < nx + (loose1 nx).length
      · obtain ⟨j, rfl⟩ : ∃ j, i = nx + j := ⟨i - nx, by omega⟩
        have hjl : j < (loose1 nx).length := by omega
        have hb : M'.t.get (nx + j) = some ((loose1 nx)[j]) := n2 j _ (List.getElem?_eq_getElem hjl)
        rw [hb] at hi
        obtain rfl := Option.some.inj hi
        obtain ⟨d, c, h1, h2, h3⟩ := hloo1 j _ (List.getElem?_eq_getElem hjl)
        rw [hσ1, h1] at hr
        exact .inl ⟨d, c, .inr ⟨by rw [Nat.add_sub_cancel_left]; exact h1, by omega⟩, h2, h3.live, hr, h3⟩
      · change (if i < nx then ρ i else match δ[i - nx]? with | some d => ρ' d | none => none) = some (B, x) at hr
        rw [if_neg hin, List.getElem?_eq_none (by omega)] at hr
        cases hr
  have hgetσ : ∀ (i : Nat) (b : Blk), M'.t.get i = some b → b ≠ .dead → ∃ B x, σ i = some (B, x) := by
    intro i b hi hd
    by_cases hin : i < nx
    · rw [hσ0 i hin]
      by_cases hiN : i < N
      · obtain ⟨_, _, _, B, x, _, _, _, _, g3, _⟩ := hbx i hiN
        exact ⟨B, x, g3⟩
      · rw [hother i (by omega) (.inl hin)] at hi
        obtain ⟨B, x, _, h, _⟩ := hM.blk i b hi hd
        exact ⟨B, x, h⟩
    · by_cases hil : i < nx + (loose1 nx).length
      · obtain ⟨j, rfl⟩ : ∃ j, i = nx + j := ⟨i - nx, by omega⟩
        have hjl : j < (loose1 nx).length := by omega
        obtain ⟨d, c, h1, h2, h3⟩ := hloo1 j _ (List.getElem?_eq_getElem hjl)
        rw [hσ1, h1]
        obtain ⟨B, x, _, h, _⟩ := hM'.blk d c h2 h3.live
        exact ⟨B, x, h⟩
      · rw [hother i (by omega) (.inr (by omega))] at hi
        obtain ⟨B, x, _, h, _⟩ := hM.blk i b hi hd
        have := hρnx i _ h
        omega
  have hMR : MRel w0 R σ M' w' := by
    refine ⟨hM'.os.trans hM.os, hM'.tape.trans hM.tape, hM'.output.trans hM.output, Nat.le_trans hM.size hM'.size, fun b hb => ?_, hM.rlt, fun i b hi hd => ?_, fun i j b c B x y hi hd hj he e1 e2 => ?_, fun i p e => ?_, fun B l e => ?_, fun i b B x hi hd e => ?_, Nat.le_trans hM.base hM'.size⟩
    · have h1 : R1 b := by
        refine ⟨Nat.lt_of_lt_of_le (hM.rlt b hb) hM.size, ?_⟩
        rintro ⟨j, x, hj, hr⟩
        obtain ⟨_, _, _, B', x', arr, t, _, _, g3, g4, _⟩ := hbx j hj
        rw [hr] at g3
        obtain ⟨rfl, rfl⟩ := Prod.mk.inj (Option.some.inj g3)
        exact g4 hb
      exact (hM'.keep b h1).trans (hM.keep b hb)
    · obtain ⟨B, x, hr⟩ := hgetσ i b hi hd
      rcases hcases i b B x hi hd hr with ⟨d, c, hdd, h1, h2, h3, h4⟩ | ⟨h1, h2, h3, h4, h5⟩
      · obtain ⟨B', x', o', hr', hR, ho', hO⟩ := hM'.blk d c h1 h2
        rw [h3] at hr'
        obtain ⟨rfl, rfl⟩ := Prod.mk.inj (Option.some.inj hr')
        refine ⟨B, x, o', hr, ?_, ho', ?_⟩
        · intro hRB
          refine hR ⟨Nat.lt_of_lt_of_le (hM.rlt B hRB) hM.size, ?_⟩
          rintro ⟨j, y, hj, hrj⟩
          obtain ⟨_, _, _, B', x', arr, t, _, _, g3, g4, _⟩ := hbx j hj
          rw [hrj] at g3
          obtain ⟨rfl, rfl⟩ := Prod.mk.inj (Option.some.inj g3)
          exact g4 hRB
        · cases h4 with
          | row c c' op sz hc =>
            unfold ORel at hO ⊢
            cases o' <;> simp only at hO ⊢
            rw [← hc.length]
            exact ⟨hc.rel hM2 (σ := σ) rfl hkρ hδρ hO.1, hO.2⟩
      · obtain ⟨B', x', ob, hr', hRB, hob, hO⟩ := hM.blk i b h3 hd
        rw [h4] at hr'
        obtain ⟨rfl, rfl⟩ := Prod.mk.inj (Option.some.inj hr')
        exact ⟨B, x, ob, hr, hRB, (hM'.keep B h5).trans hob, hO.mono hle⟩
    · rcases hcases i b B x hi hd e1 with ⟨d, p, hdd, h1, h2, h3, h4⟩ | ⟨h1, h2, h3, h4, h5⟩
      · rcases hcases j c B y hj he e2 with ⟨d', p', hdd', g1, g2, g3, g4⟩ | ⟨g1, g2, g3, g4, g5⟩
        · have hdd0 := hM'.inj d d' p p' B x y h1 h2 g1 g2 h3 g3
          subst hdd0
          rcases hdd with ⟨q1, rfl⟩ | ⟨q1, q2⟩
          · rcases hdd' with ⟨q1', rfl⟩ | ⟨q1', q2'⟩
            · rfl
            · have := hδk _ (List.mem_of_getElem? q1'); omega
          · rcases hdd' with ⟨q1', rfl⟩ | ⟨q1', q2'⟩
            · have := hδk _ (List.mem_of_getElem? q1); omega
            · obtain ⟨l1, m1⟩ := List.getElem?_eq_some_iff.1 q1
              obtain ⟨l2, m2⟩ := List.getElem?_eq_some_iff.1 q1'
              have hpw := List.pairwise_iff_getElem.1 hnd
              rcases Nat.lt_trichotomy (i - nx) (j - nx) with hlt | he' | hlt
              · exact absurd (m1.trans m2.symm) (hpw _ _ l1 l2 hlt)
              · omega
              · exact absurd (m2.trans m1.symm) (hpw _ _ l2 l1 hlt)
        · rcases hnotR d p B x h1 h2 h3 with hq | hq
          · have := g5.1; omega
          · exact absurd hq g5.2
      · rcases hcases j c B y hj he e2 with ⟨d', p', hdd', g1, g2, g3, g4⟩ | ⟨g1, g2, g3, g4, g5⟩
        · rcases hnotR d' p' B y g1 g2 g3 with hq | hq
          · have := h5.1; omega
          · exact absurd hq h5.2
        · exact hM.inj i j b c B x y h3 hd g3 he h4 g4
    · rw [n1]
      change (if i < nx then ρ i else match δ[i - nx]? with | some d => ρ' d | none => none) = some p at e
      by_cases hi : i < nx
      · omega
      · rw [if_neg hi] at e
        split at e
        · rename_i d hd
          have := (List.getElem?_eq_some_iff.1 hd).1
          omega
        · cases e
    · rcases still_inv e with ⟨⟨i, c, op, sz, x, hk, hb, hr⟩, arr, t, f, ho, rfl⟩ | h1
      · obtain ⟨arr', t', ho', _⟩ := hM2.row hb hr
        have e0 := Option.some.inj (ho.symm.trans ho')
        have e1 : arr = arr' := by injection e0
        subst e1
        exact ⟨arr, t', _, ho', List.take_length⟩
      · exact hM'.zok B l h1
    · cases hzB : σ.z B with
      | none => rfl
      | some l =>
        exfalso
        rcases hcases i b B x hi hd e with ⟨d, c, hdd, h1, h2, h3, h4⟩ | ⟨h1, h2, h3, h4, h5⟩
        · rcases still_inv hzB with ⟨⟨i', c', op, sz, x', hk, hb, hr⟩, _⟩ | h6
          · obtain ⟨hin, hb'⟩ := hm2 i' _ hb (by simp)
            have := hM'.inj d i' c _ B x x' h1 h2 hb' (by simp) h3 hr
            subst this
            rcases hdd with ⟨q1, _⟩ | ⟨q1, _⟩
            · omega
            · exact hin (List.mem_of_getElem? q1)
          · rw [hM'.zsep d c B x h1 h2 h3] at h6; cases h6
        · rcases hnewz B l hzB with h6 | h6 | h6
          · rw [hM.zsep i b B x h3 hd h4] at h6; cases h6
          · have := h5.1; omega
          · exact h5.2 h6
  have hpost : a'.defers = [] ∧ ∃ v, (results fn a'.tmps).run P w' = .ok v w' ∧ ∃ ρ'' cv, ρ.le ρ'' ∧ Ending.returned v = .returned cv ∧ VRel ρ'' (ans nx) cv ∧ MRel w0 R ρ'' M' w' := ⟨hF.defers, _, hresults, σ, _, hle, rfl, hans, hMR⟩
  rcases ho with rfl | rfl
  · exact hpost
  · exact hpost
end Go.Eng

set_option linter.unusedSectionVars false
namespace Go.Eng
open Go
variable [Mode]
/-! running a function whose call changes the memory -/
def LeafN (k : Nat) (π : List Nat) (rows1 loose1 : Nat → List Blk) (ans : Nat → AV) (v : AV) (bs : List (Option Blk)) : Prop :=
  ∃ δ : List Nat, δ.Nodup ∧ (∀ d ∈ δ, k ≤ d) ∧ ∀ M', mv π M' = bs → ∀ nx, δ.length = (loose1 nx).length ∧ FzN k (killL δ M') δ nx v (ans nx) ∧
    (∀ (j : Nat) (b' : Blk), (rows1 nx)[j]? = some b' → ∃ b, M'.t.get j = some b ∧ FzBk k (killL δ M') δ nx b b') ∧
    (∀ (j : Nat) (b' : Blk), (loose1 nx)[j]? = some b' → ∃ d b, δ[j]? = some d ∧ M'.t.get d = some b ∧ FzBk k (killL δ M') δ nx b b')
theorem W.finN {P : Program} (hm : P.follows .mixedOrders = true) {X : FuncId → Option Ext} (hX : ∀ f x, X f = some x → ExtSpec P f x) {S : List (FuncId × SEnt)} (hS : ∀ e ∈ S, SSpec P e.1 e.2) {fn : Func} {nt k : Nat} {c : Code} {fr : Fr} {M : Mem}
    {rows1 loose1 : Nat → List Blk} {ans : Nat → AV} (n : Nat) (π : List Nat) (T : (AV → List (Option Blk) → Bool) → Bool)
    (h : ∀ I : AV → List (Option Blk) → Bool, Eng.exec P X S n nt c fr M (fun o fr M => endK o (resK P fr M fn.results.toList fun vs => I (oneOf vs) (mv π M))) = T I)
    (hT : T (fun v bs => pdec (LeafN k π rows1 loose1 ans v bs)) = true) : W P nt k c fr M (FinN P fn k rows1 loose1 ans) := by
  refine (W.exec hm hX hS (k := k) ((h _).trans hT)).mono fun o fr' M' hK => ?_
  obtain ⟨ho, hres⟩ := endK_inv hK
  obtain ⟨vs, h1, h2⟩ := resK_vs _ _ hres
  obtain ⟨δ, h3, h4, h5⟩ := pdec_iff.1 h1
  exact ⟨ho, vs, δ, h2 _ (pdec_iff.2 rfl), h3, h4, h5 M' rfl⟩
theorem NSpec.of {P : Program} {f : FuncId} {fn : Func} (hf : FnOk P f fn) {args : List AV} {rows0 loose0 : List Blk} {rows1 loose1 : Nat → List Blk} {ans : Nat → AV} (hlen : Nat.ble args.length fn.ntmps = true) (hrows : ∀ nx, (rows1 nx).length = rows0.length)
    (hl0 : ∀ b ∈ rows0 ++ loose0, isRow b = true) (ha0 : mapO (renT (List.range (rows0.length + loose0.length))) args = some args) (hl1 : ∀ b ∈ rows0 ++ loose0, renB (List.range (rows0.length + loose0.length)) b = some b)
    (h : W P fn.ntmps rows0.length (codeOf fn) (mkFr (argSlots args 0)) (mkMem (rows0 ++ loose0)) (FinN P fn rows0.length rows1 loose1 ans)) : NSpec P f args rows0 loose0 rows1 loose1 ans :=
  NSpec.of_W hf.at_ (codeOf_some hf.body) hf.name (nble_le hlen) hrows hl0 ha0 hl1 h
theorem NSpec.run {P : Program} (hm : P.follows .mixedOrders = true) {X : FuncId → Option Ext} (hX : ∀ f x, X f = some x → ExtSpec P f x) {S : List (FuncId × SEnt)} (hS : ∀ e ∈ S, SSpec P e.1 e.2) {f : FuncId} {fn : Func} (hf : FnOk P f fn)
    {args : List AV} {rows0 loose0 : List Blk} {rows1 loose1 : Nat → List Blk} {ans : Nat → AV} (hlen : Nat.ble args.length fn.ntmps = true) (hrows : ∀ nx, (rows1 nx).length = rows0.length)
    (hl0 : ∀ b ∈ rows0 ++ loose0, isRow b = true) (ha0 : mapO (renT (List.range (rows0.length + loose0.length))) args = some args) (hl1 : ∀ b ∈ rows0 ++ loose0, renB (List.range (rows0.length + loose0.length)) b = some b)
    (n : Nat) (π : List Nat) (T : (AV → List (Option Blk) → Bool) → Bool)
    (h : ∀ I : AV → List (Option Blk) → Bool, Eng.exec P X S n fn.ntmps (codeOf fn) (mkFr (argSlots args 0)) (mkMem (rows0 ++ loose0)) (fun o fr M => endK o (resK P fr M fn.results.toList fun vs => I (oneOf vs) (mv π M))) = T I)
    (hT : T (fun v bs => pdec (LeafN rows0.length π rows1 loose1 ans v bs)) = true) : NSpec P f args rows0 loose0 rows1 loose1 ans :=
  NSpec.of hf hlen hrows hl0 ha0 hl1 (W.finN hm hX hS n π T h hT)

/-- one more function whose calls change the memory -/
noncomputable def Xm (X : FuncId → Option Ext) (f : FuncId) (e : MEnt) : FuncId → Option Ext := fun g => Bool.rec (motive := fun _ => Option Ext) (X g) (some (.mem e)) (Nat.beq g f)
theorem hXm {P : Program} {X : FuncId → Option Ext} (hX : ∀ f x, X f = some x → ExtSpec P f x) {f : FuncId} {e : MEnt} (he : MSpec P f e) : ∀ g x, Xm X f e g = some x → ExtSpec P g x := by
  intro g x h
  unfold Xm at h
  cases hb : Nat.beq g f with
  | false => rw [hb] at h; exact hX g x h
  | true =>
    rw [hb] at h
    obtain rfl := Nat.eq_of_beq_eq_true hb
    obtain rfl := Option.some.inj h
    exact he
noncomputable def gX {α : Type} (x : α) (b : Bool) : Bool := gateP (x = x) b
theorem gX_iff {α : Type} {x : α} {b : Bool} : gX x b = true ↔ b = true := by unfold gX; rw [gateP_iff]; exact ⟨fun h => h.2, fun h => ⟨rfl, h⟩⟩
noncomputable def gUB (l : List (Nat × Blk × Blk)) (b : Bool) : Bool := List.rec (motive := fun _ => Bool) b (fun u _ ih => gX u.2.1 ih) l
theorem gUB_iff {l : List (Nat × Blk × Blk)} {b : Bool} : gUB l b = true ↔ b = true := by
  induction l with
  | nil => exact Iff.rfl
  | cons u l ih => show gX u.2.1 (gUB l b) = true ↔ _; rw [gX_iff, ih]
/-- what such a call asks for -/
noncomputable def gM (e : MEnt) (b : Bool) : Bool := gX e.args (gUB e.ups b)
theorem gM_iff {e : MEnt} {b : Bool} : gM e b = true ↔ b = true := by unfold gM; rw [gX_iff, gUB_iff]

/-- data are the same under every numbering -/
theorem renA_toAV (π : List Nat) (d : Dat) : renA π (toAV d) = some (toAV d) := by cases d <;> rfl
theorem mapO_mk {α β : Type} {f : α → Option β} {x : α} {l : List α} {y : β} {s : List β} (h1 : f x = some y) (h2 : mapO f l = some s) : mapO f (x :: l) = some (y :: s) := by
  change (match f x, mapO f l with | some y, some r => some (y :: r) | _, _ => none) = some (y :: s)
  rw [h1, h2]
theorem renL_toAVs (π : List Nat) : ∀ l : List Dat, mapO (renA π) (toAVs l) = some (toAVs l)
  | [] => rfl
  | d :: l => mapO_mk (f := renA π) (x := toAV d) (l := toAVs l) (renA_toAV π d) (renL_toAVs π l)
theorem renB_data (π : List Nat) (l : List Dat) (op : Bool) (sz : Nat) : renB π (.row (toAVs l) op sz) = some (.row (toAVs l) op sz) := by
  show (match mapO (renA π) (toAVs l) with | some c => some (Blk.row c op sz) | none => none) = _
  rw [renL_toAVs]
/-- a call that leaves one new row of data and answers a slice of all of it -/
theorem LeafN.fresh {k i n : Nat} {l : List Dat} {op : Bool} {sz : Nat} (hk : k ≤ i) (rows1 : Nat → List Blk) (bs : List (Option Blk)) (π : List Nat)
    (hrow : ∀ M', mv π M' = bs → M'.t.get i = some (.row (toAVs l) op sz))
    (hr : ∀ M', mv π M' = bs → ∀ nx (j : Nat) (b' : Blk), (rows1 nx)[j]? = some b' → ∃ b, M'.t.get j = some b ∧ FzBk k (killL [i] M') [i] nx b b') :
    LeafN k π rows1 (fun _ => [.row (toAVs l) op sz]) (fun nx => .slice nx 0 n n op) (.slice i 0 n n op) bs := by
  refine ⟨[i], by simp, by simpa using hk, fun M' hM' nx => ⟨rfl, ?_, hr M' hM' nx, fun j b' hj => ?_⟩⟩
  · have := FzN.nslice (k := k) (M := killL [i] M') (δ := [i]) (nx := nx) 0 i 0 n n op rfl
    simpa using this
  · cases j with
    | zero =>
      obtain rfl : Blk.row (toAVs l) op sz = b' := by simpa using hj
      exact ⟨i, _, rfl, hrow M' hM', .row _ _ _ _ (FzNs.sames l)⟩
    | succ j => simp at hj

/-! the first statements of a sequence at once -/
def post : Nat → Code → Code
  | 0, c => c
  | n + 1, .seq _ b => post n b
  | _ + 1, c => c
noncomputable def execN (P : Program) (X : FuncId → Option Ext) (S : List (FuncId × SEnt)) (fuel nt n : Nat) : Code → Fr → Mem → (AE → Fr → Mem → Bool) → Bool :=
  Nat.rec (motive := fun _ => Code → Fr → Mem → (AE → Fr → Mem → Bool) → Bool) (fun _ fr M K => K .normal fr M)
    (fun _ ih c fr M K => match c with
      | .seq a b => exec P X S fuel nt a fr M fun o fr M => (match o with | .normal => ih b fr M K | o => K o fr M)
      | _ => false) n
theorem W.execN {P : Program} (hm : P.follows .mixedOrders = true) {X : FuncId → Option Ext} (hX : ∀ f x, X f = some x → ExtSpec P f x) {S : List (FuncId × SEnt)} (hS : ∀ e ∈ S, SSpec P e.1 e.2) {fuel nt k : Nat} {Q : AE → Fr → Mem → Prop} :
    ∀ (n : Nat) {c : Code} {fr : Fr} {M : Mem} {K : AE → Fr → Mem → Bool}, Eng.execN P X S fuel nt n c fr M K = true → (∀ o fr' M', K o fr' M' = true → Nxt P nt k (post n c) Q o fr' M') → W P nt k c fr M Q := by
  intro n
  induction n with
  | zero => intro c fr M K h hK; exact hK .normal fr M h
  | succ n ih =>
    intro c fr M K h hK
    cases c with
    | seq a b =>
      change Eng.exec P X S fuel nt a fr M (fun o fr M => (match o with | .normal => Eng.execN P X S fuel nt n b fr M K | o => K o fr M)) = true at h
      refine W.seq ((W.exec hm hX hS (k := k) h).mono fun o fr' M' h1 => ?_)
      cases o with
      | normal => exact ih h1 fun o fr'' M'' h2 => hK o fr'' M'' h2
      | ret => exact hK .ret fr' M' h1
      | exit id => exact hK (.exit id) fr' M' h1
    | _ => exact absurd h (by show ¬ (false = true); simp)
theorem W.runN {P : Program} (hm : P.follows .mixedOrders = true) {X : FuncId → Option Ext} (hX : ∀ f x, X f = some x → ExtSpec P f x) {S : List (FuncId × SEnt)} (hS : ∀ e ∈ S, SSpec P e.1 e.2) {nt k : Nat} {c : Code} {fr : Fr} {M : Mem} {Q : AE → Fr → Mem → Prop}
    (fuel n : Nat) (ts π : List Nat) (T : (AE → List (Option AV) → List (Option Blk) → Bool) → Bool)
    (h : ∀ I : AE → List (Option AV) → List (Option Blk) → Bool, Eng.execN P X S fuel nt n c fr M (fun o fr' M' => I o (lv ts fr') (mv π M')) = T I)
    (hT : T (fun o vs bs => pdec (∀ fr' M', lv ts fr' = vs → mv π M' = bs → Nxt P nt k (post n c) Q o fr' M')) = true) : W P nt k c fr M Q :=
  W.execN hm hX hS n ((h fun o vs bs => pdec (∀ fr' M', lv ts fr' = vs → mv π M' = bs → Nxt P nt k (post n c) Q o fr' M')).trans hT) fun _ fr' M' hK => pdec_iff.1 hK fr' M' rfl rfl
/-- the same, and the state behind it written anew -/
theorem W.next0 {P : Program} {nt k : Nat} {c : Code} {Q : AE → Fr → Mem → Prop} {fr : Fr} {M : Mem} {ts π : List Nat} {vs : List AV} {bs : List Blk} (hv : lv ts fr = vs.map some) (hm : mv π M = bs.map some) (slots : List (Nat × AV)) (rows : List Blk)
    (hts : slots.map (·.1) = ts) (h1 : vals2 π slots = vs.map some) (h2 : rows2 π rows = bs.map some) (hk : okPi k π rows.length = true) (h : W P nt k c (mkFr slots) (mkMem rows) Q) : W P nt k c fr M Q :=
  W.next hv hm slots rows hts h1 h2 hk (by simp) (by simp) h
end Go.Eng

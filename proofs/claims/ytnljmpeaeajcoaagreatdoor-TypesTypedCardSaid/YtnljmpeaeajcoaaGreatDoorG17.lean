/- A part of the proof over this seat's program: the checked evaluator and its soundness (E..), and what it gives here (the others). No condition. -/
import Derived.Test.YtnljmpeaeajcoaaGreatDoorG16
set_option linter.unusedSectionVars false
namespace Go.Eng
open Go
variable [Mode]

/-- how many are yet to run -/
def unl (n : Nat) (listed : Array Bool) : Nat := ((List.range n).filter fun i => !listed.getD i true).length

theorem filter_less {α : Type} (p q : α → Bool) : ∀ (l : List α), (∀ x, q x = true → p x = true) → (∃ x ∈ l, p x = true ∧ q x = false) → (l.filter q).length < (l.filter p).length := by
  intro l hqp
  have hle : ∀ l : List α, (l.filter q).length ≤ (l.filter p).length := by
    intro l
    induction l with
    | nil => simp
    | cons x l ih =>
      simp only [List.filter_cons]
      cases hq : q x with
      | true => rw [hqp x hq]; simpa using ih
      | false =>
        cases hp : p x with
        | true => simp; omega
        | false => simpa using ih
  induction l with
  | nil => rintro ⟨x, hx, _⟩; cases hx
  | cons x l ih =>
    rintro ⟨y, hy, hpy, hqy⟩
    simp only [List.filter_cons]
    rcases List.mem_cons.1 hy with rfl | hy
    · rw [hpy, hqy]
      have := hle l
      simp; omega
    · have := ih ⟨y, hy, hpy, hqy⟩
      cases hq : q x with
      | true => rw [hqp x hq]; simpa using this
      | false =>
        cases hp : p x with
        | true => simp; omega
        | false => simpa using this

theorem unl_less {n : Nat} {listed : Array Bool} {j : Nat} (hj : j < n) (hs : listed.size = n) (hl : listed.getD j true = false) : unl n (listed.setIfInBounds j true) < unl n listed := by
  refine filter_less _ _ _ (fun x hx => ?_) ⟨j, List.mem_range.2 hj, by simp [hl], ?_⟩
  · by_cases e : x = j
    · subst e; simp [hl]
    · rw [getD_set_ne true (Ne.symm e)] at hx; exact hx
  · simp [Array.getD_eq_getD_getElem?, hs, hj]

section
variable {P : Program} {ops : Array Oper} {nt : Nat} {M0 : Mem} {ms : List Mem} {ss : List Nat} {ls : List Ld} {F : Nat → Fr} {V : Nat → AV} {D : Nat → Kind} {w0 : World} {R : Nat → Prop} {Q : Exit → Act → World → Prop}

theorem asc_unique {ss : List Nat} (h : ss.Pairwise (· < ·)) {k k' s : Nat} (hk : ss[k]? = some s) (hk' : ss[k']? = some s) : k = k' := by
  rw [List.pairwise_iff_getElem] at h
  obtain ⟨a, b⟩ := List.getElem?_eq_some_iff.1 hk
  obtain ⟨a', b'⟩ := List.getElem?_eq_some_iff.1 hk'
  rcases Nat.lt_trichotomy k k' with hlt | e | hlt
  · have := h k k' a a' hlt; omega
  · exact e
  · have := h k' k a' a hlt; omega

theorem rev_get {α : Type} (l : List α) (d : Nat) (h : d < l.length) : l.reverse[d]? = l[l.length - 1 - d]? := by
  rw [List.getElem?_reverse h]

theorem draw_any (_hm : P.follows .mixedOrders = true) (hok : drawOk ops = true) (hF : Facts P ops nt 0 ops.toList M0 none ms ss ls F V D) {M' : Mem} (hlast : (M0 :: ms).getLast? = some M')
    (hchk : ss.reverse = [] ∨ ∀ x ∈ ls, chkLoad P ops x (ms.reverse ++ [M0]) ss.reverse none = true) {ρ0 : Env}
    (hQ : ∀ ρ' a' w', ρ0.le ρ' → FRel ρ' nt (F ops.size) a' → MRel w0 R ρ' M' w' → Q .normal a' w') :
    ∀ (fuel : Nat) (listed : Array Bool) (c : Nat) (ρ : Env) (a : Act) (w : World), unl ops.size listed ≤ fuel → ρ0.le ρ → Inv w0 R ops nt M0 ms ss F V ρ listed c a w → wpAny P .any ops Q fuel listed a w := by
  -- nothing ready: all have run
  have hend : ∀ (listed : Array Bool) (c : Nat) (ρ : Env) (a : Act) (w : World), ρ0.le ρ → Inv w0 R ops nt M0 ms ss F V ρ listed c a w → Region.ready .any ops listed = [] → Q .normal a w := by
    intro listed c ρ a w hρ hI hr
    have hall : ∀ j, j < ops.size → listed.getD j false = true := by
      intro j
      induction j using Nat.strongRecOn with
      | _ j ih =>
        intro hj
        by_cases hl : listed.getD j true = false
        · exfalso
          have ho : ops[j]? = some ops[j] := Array.getElem?_eq_getElem hj
          have : j ∈ Region.ready .any ops listed := mem_ready.2 ⟨hl, ops[j], ho, fun e he hb => by
            have hlt := (drawOk_spec hok ho).1 e he hb
            exact ih e.on hlt (by omega)⟩
          rw [hr] at this; cases this
        · have hjl : j < listed.size := by rw [hI.lsize]; exact hj
          rw [Array.getD_eq_getD_getElem?, Array.getElem?_eq_getElem hjl] at hl ⊢
          simpa using hl
    have hc : c = ss.length := by
      rcases Nat.lt_or_ge c ss.length with h | h
      · obtain ⟨s, hs⟩ : ∃ s, ss[c]? = some s := ⟨ss[c], List.getElem?_eq_getElem h⟩
        have h1 := hF.fmem s (List.mem_of_getElem? hs)
        have := (hI.pre c s hs).1 (hall s (by simpa using h1.2.1))
        omega
      · exact Nat.le_antisymm hI.cle h
    obtain ⟨M, hM, hMR⟩ := hI.mem
    have hMM : M = M' := by
      rw [hc, ← hF.flen] at hM
      rw [List.getLast?_eq_getElem?] at hlast
      simp at hlast hM
      rw [hM] at hlast
      exact hlast
    subst hMM
    refine hQ ρ a w hρ ⟨hI.size, hI.defers, fun t => ?_⟩ hMR
    obtain ⟨x, hx, hrx⟩ := hI.tmps t
    have := hx.unique (cur_text hF t ops.size (Nat.le_refl _)) (fun j q hq _ => ⟨fun _ => (Array.getElem?_eq_some_iff.1 hq).1, fun _ => hall j (Array.getElem?_eq_some_iff.1 hq).1⟩)
    rw [← this]; exact hrx
  intro fuel
  induction fuel with
  | zero =>
    intro listed c ρ a w hu hρ hI
    have hr : Region.ready .any ops listed = [] := by
      cases h : Region.ready .any ops listed with
      | nil => rfl
      | cons j l =>
        exfalso
        have hj : j ∈ Region.ready .any ops listed := by rw [h]; exact List.mem_cons_self
        obtain ⟨hl, o, ho, _⟩ := mem_ready.1 hj
        have : j ∈ (List.range ops.size).filter fun i => !listed.getD i true := List.mem_filter.2 ⟨List.mem_range.2 (Array.getElem?_eq_some_iff.1 ho).1, by simp [hl]⟩
        unfold unl at hu
        have := List.length_pos_of_mem this
        omega
    exact ⟨hr, hend listed c ρ a w hρ hI hr⟩
  | succ fuel ih =>
    intro listed c ρ a w hu hρ hI
    refine ⟨hend listed c ρ a w hρ hI, fun j hj => ?_⟩
    obtain ⟨hl, o, ho, hedges⟩ := mem_ready.1 hj
    have hjs : j < ops.size := (Array.getElem?_eq_some_iff.1 ho).1
    have hjlt : j < listed.size := by rw [hI.lsize]; exact hjs
    have hjl : ¬ listed.getD j false = true := by
      have h := hl
      rw [Array.getD_eq_getD_getElem?, Array.getElem?_eq_getElem hjlt] at h ⊢
      simp at h ⊢
      exact h
    have hanc : ∀ i, isAnc ops i j = true → listed.getD i false = true := by
      intro i hi
      obtain ⟨e, he, hb, h⟩ := anc_dest ho (drawOk_spec hok ho).1 hi
      rcases h with rfl | h
      · exact hedges e he hb
      · exact hI.closed e.on (hedges e he hb) i h
    have hlooks := inv_looks hok hF ho hI.lsize hl hI.closed hanc hI.tmps
    have hojs : ops.toList[j]? = some o := by simpa using ho
    have hputs := hF.fputs j o hojs
    simp only [Nat.zero_add] at hputs
    have hu' : unl ops.size (listed.setIfInBounds j true) ≤ fuel := by have := unl_less hjs hI.lsize hl; omega
    have hclosed' : ∀ k, (listed.setIfInBounds j true).getD k false = true → ∀ i, isAnc ops i k = true → (listed.setIfInBounds j true).getD i false = true := by
      intro k hk i hi
      rcases (getD_set_iff hjlt k).1 hk with hk | rfl
      · exact getD_set_true (hI.closed k hk i hi)
      · exact getD_set_true (hanc i hi)
    have hrelX : ∀ x ∈ o.op.operands, RelX ρ (F j) x (a.eval x) := fun x hx => relX_of fun t e => by subst e; exact hlooks t (looks_operand hx)
    -- what is left to say once the operation has given a value
    have hnext : ∀ (c' : Nat) (ρ' : Env) (cv : Value) (w' : World), ρ.le ρ' → VRel ρ' (V j) cv → (∀ (k s : Nat), ss[k]? = some s → ((listed.setIfInBounds j true).getD s false = true ↔ k < c')) → c' ≤ ss.length →
        (∃ M, (M0 :: ms)[c']? = some M ∧ MRel w0 R ρ' M w') → wpAny P .any ops Q fuel (listed.setIfInBounds j true) (a.put o.dst cv) w' := by
      intro c' ρ' cv w' hle hv hpre hcle hmem
      obtain ⟨hsz', ht'⟩ := inv_put hok ho hI.lsize hl hI.closed hle hputs.2 hI.size hI.tmps hv
      refine ih _ c' ρ' _ w' hu' (hρ.trans hle) ⟨by simp [hI.lsize], hclosed', hpre, hcle, hmem, hsz', ?_, ht'⟩
      cases o.dst <;> exact hI.defers
    -- an operation that is none on memory leaves the memory where it stands
    have hstay : (∀ s ∈ ss, s ≠ j) → ∀ (k s : Nat), ss[k]? = some s → ((listed.setIfInBounds j true).getD s false = true ↔ k < c) := by
      intro hne k s hs
      rw [getD_set_iff hjlt]
      have := hne s (List.mem_of_getElem? hs)
      simp only [this, or_false]
      exact hI.pre k s hs
    obtain ⟨M, hM, hMR⟩ := hI.mem
    unfold wpOp
    rw [ho]
    simp only
    cases hk : D j with
    | off =>
      obtain ⟨hw, hv⟩ := hF.foff j o hojs (by simpa using hk)
      simp only [Nat.zero_add] at hw hv
      rw [hw ρ a.tmps hlooks]
      simp only [Bool.false_eq_true, if_false]
      refine hnext c ρ Go.undef w (.refl _) (by rw [hv]; exact .undef) (hstay fun s hs e => ?_) hI.cle ⟨M, hM, hMR⟩
      have := (hF.fmem s hs).2.2
      rw [e, hk] at this; cases this
    | pure =>
      obtain ⟨hw, hs⟩ := hF.fpure j o hojs (by simpa using hk)
      simp only [Nat.zero_add] at hw hs
      rw [hw ρ a.tmps hlooks]
      simp only [if_true]
      refine .inl (hs M w0 R ρ a w hMR hrelX _ Q fun ρ' cv w' hle hv hM' => ?_)
      refine hnext c ρ' cv w' hle hv (hstay fun s hs e => ?_) hI.cle ⟨M, hM, hM'⟩
      have := (hF.fmem s hs).2.2
      rw [e, hk] at this; cases this
    | load t x p =>
      obtain ⟨hw, hop, hev, c0, N, hN, hld, hmem⟩ := hF.fload j o t x p hojs (by simpa using hk)
      simp only [Nat.zero_add] at hw hev hmem hld
      rw [hw ρ a.tmps hlooks]
      simp only [if_true]
      -- the load gives the same in this memory
      have hload : c0 ≠ c → (∀ x ∈ ls, chkLoad P ops x (ms.reverse ++ [M0]) ss.reverse none = true) → loadA P t p M (fun v => beqA (V j) v) = true := by
        intro hne hchk
        have hc := hchk _ hmem
        have hlen := hF.flen
        have hcl := hI.cle
        have hc0 : c0 ≤ ss.length := by have := (List.getElem?_eq_some_iff.1 hN).1; simp at this; omega
        refine chkLoad_sound _ _ _ hc (ss.length - c) M ?_ ?_ (fun s hs => ?_) (fun s hs => ?_)
        · have e : ms.reverse ++ [M0] = (M0 :: ms).reverse := by simp
          rw [e, rev_get _ _ (by simp; omega)]
          have : (M0 :: ms).length - 1 - (ss.length - c) = c := by simp; omega
          rw [this]; exact hM
        · have e1 : ss.reverse[ss.length - c]? = if c = 0 then none else ss[c - 1]? := by
            by_cases hz : c = 0
            · rw [if_pos hz, List.getElem?_eq_none_iff.2 (by simp; omega)]
            · rw [if_neg hz, rev_get _ _ (by omega)]
              congr 1
              omega
          rw [e1]
          show sameP _ (if c0 = 0 then none else ss[c0 - 1]?) = false
          by_cases hz : c = 0
          · rw [if_pos hz, if_neg (by omega), List.getElem?_eq_getElem (by omega)]; rfl
          · rw [if_neg hz, List.getElem?_eq_getElem (by omega)]
            by_cases hz0 : c0 = 0
            · rw [if_pos hz0]; rfl
            · rw [if_neg hz0, List.getElem?_eq_getElem (by omega)]
              refine nbeq_ne fun e => hne ?_
              have h1 : ss[c - 1]? = some ss[c - 1] := List.getElem?_eq_getElem (by omega)
              have h2 : ss[c0 - 1]? = some ss[c - 1] := by rw [e]; exact List.getElem?_eq_getElem (by omega)
              have := asc_unique hF.fasc h1 h2
              omega
        · -- the last that has run
          cases h : isAnc ops j s with
          | false => rfl
          | true =>
            exfalso
            have hd : ss.length - c < ss.length := by
              have := (List.getElem?_eq_some_iff.1 hs).1
              simpa using this
            rw [rev_get _ _ hd] at hs
            have e : ss.length - 1 - (ss.length - c) = c - 1 := by omega
            rw [e] at hs
            exact hjl (hI.closed s ((hI.pre (c - 1) s hs).2 (by omega)) j h)
        · -- the next that is to run
          cases h : isAnc ops s j with
          | false => rfl
          | true =>
            exfalso
            by_cases hz : ss.length - c = 0
            · rw [if_pos hz] at hs; cases hs
            · rw [if_neg hz, rev_get _ _ (by omega)] at hs
              have e : ss.length - 1 - (ss.length - c - 1) = c := by omega
              rw [e] at hs
              have := (hI.pre c s hs).1 (hanc s h)
              omega
      have hsim : LoadSim P t p M (V j) := by
        by_cases hcc : c0 = c
        · subst hcc
          rw [hM] at hN
          obtain rfl := Option.some.inj hN
          exact hld
        · rcases hchk with he | hchk
          · exfalso
            have he' : ss = [] := by simpa using he
            have hcl := hI.cle
            have hlen := hF.flen
            have := (List.getElem?_eq_some_iff.1 hN).1
            have h0 : ss.length = 0 := by rw [he']; rfl
            simp only [List.length_cons] at this
            omega
          · obtain ⟨v', hbeq, hsim⟩ := loadA_sound (hload hcc hchk)
            rw [beqA_sound hbeq]; exact hsim
      have hstate : StateSim P o (F j) M (V j) M := by
        refine .of_run fun w0 R ρ vals w hM hx => ?_
        obtain ⟨cv, hv, hrun⟩ := hsim w0 R ρ w _ hM (hx x (by rw [hop]; simp [Op.operands]) _ hev)
        exact ⟨ρ, cv, w, .refl _, hv, hM, .inl (by simp [execOp, hop, hrun])⟩
      refine .inl (hstate w0 R ρ a w hMR hrelX _ Q fun ρ' cv w' hle hv hM' => ?_)
      refine hnext c ρ' cv w' hle hv (hstay fun s hs e => ?_) hI.cle ⟨M, hM, hM'⟩
      have := (hF.fmem s hs).2.2
      rw [e, hk] at this; cases this
    | state =>
      obtain ⟨hw, c', M1, M2, h1, h2, h3, hs⟩ := hF.fstate j o hojs (by simpa using hk)
      simp only [Nat.zero_add] at hw h1 hs
      rw [hw ρ a.tmps hlooks]
      simp only [if_true]
      -- it is the next one of the chain
      have hcc : c' = c := by
        have hnot : ¬ c' < c := fun h => hjl ((hI.pre c' j h1).2 h)
        rcases Nat.lt_or_ge c c' with h | h
        · exfalso
          have hcl : c' < ss.length := (List.getElem?_eq_some_iff.1 h1).1
          obtain ⟨s, hsp⟩ : ∃ s, ss[c' - 1]? = some s := ⟨_, List.getElem?_eq_getElem (by omega)⟩
          have hch := hF.fchain (c' - 1) s j hsp (by rw [show c' - 1 + 1 = c' from by omega]; exact h1)
          have := (hI.pre (c' - 1) s hsp).1 (hanc s hch)
          omega
        · omega
      subst hcc
      rw [hM] at h2
      obtain rfl := Option.some.inj h2
      refine .inl (hs w0 R ρ a w hMR hrelX _ Q fun ρ' cv w' hle hv hM' => ?_)
      refine hnext (c' + 1) ρ' cv w' hle hv (fun k s hsk => ?_) (by have := (List.getElem?_eq_some_iff.1 h1).1; omega) ⟨M2, by simpa using h3, hM'⟩
      rw [getD_set_iff hjlt, hI.pre k s hsk]
      constructor
      · rintro (h | rfl)
        · omega
        · rw [asc_unique hF.fasc hsk h1]; omega
      · intro h
        rcases Nat.lt_succ_iff_lt_or_eq.1 h with h | rfl
        · exact .inl h
        · rw [h1] at hsk; exact .inr (Option.some.inj hsk).symm
end

theorem runDraw_sound {P : Program} (hm : P.follows .mixedOrders = true) {call : FuncId → List AV → Mem → (AV → Mem → Bool) → Bool} (hcall : ∀ f args M K, call f args M K = true → ∃ v M', K v M' = true ∧ CSim P f args M v M')
    {nt : Nat} {ops : Array Oper} {fr : Fr} {M : Mem} {K : Fr → Mem → Bool} (hok : drawOk ops = true) (h : runDraw P call nt ops ops.toList 0 fr M [M] [] [] K = true) :
    ∃ fr' M', K fr' M' = true ∧ ∀ w0 R ρ (a : Act) w, FRel ρ nt fr a → MRel w0 R ρ M w → ∀ Q : Exit → Act → World → Prop, (∀ ρ' a' w', ρ.le ρ' → FRel ρ' nt fr' a' → MRel w0 R ρ' M' w' → Q .normal a' w') →
      ∀ id, (Code.region id ops true).wp P Q a w := by
  obtain ⟨fr', M', ms, ss, ls, hK, hc, hr⟩ := runDraw_run hcall _ _ _ _ _ _ _ _ h
  obtain ⟨hlast, F, V, D, h1, h2, hF⟩ := hr.facts
  simp only [Nat.zero_add, Array.length_toList] at h2
  refine ⟨fr', M', hK, fun w0 R ρ a w hFr hM Q hQ id => wp_region_any hm ?_⟩
  have hchk := chkLoads_sound _ hc
  simp only [List.append_nil, List.mem_reverse] at hchk
  have hunl : unl ops.size (Array.replicate ops.size false) ≤ ops.size := by
    unfold unl
    have := List.length_filter_le (fun i => !(Array.replicate ops.size false).getD i true) (List.range ops.size)
    simpa using this
  have hfalse : ∀ j, ¬ (Array.replicate ops.size false).getD j false = true := by
    intro j
    rw [Array.getD_eq_getD_getElem?, Array.getElem?_replicate]
    split <;> simp
  refine draw_any hm hok hF hlast hchk (ρ0 := ρ) (fun ρ' a' w' hle hf hM' => hQ ρ' a' w' hle (by rw [← h2]; exact hf) hM') _ _ 0 ρ a _ hunl (.refl _) ⟨by simp, fun j hj => absurd hj (hfalse j), fun k s _ => ⟨fun hj => absurd hj (hfalse s), fun hk => absurd hk (Nat.not_lt_zero _)⟩, Nat.zero_le _, ⟨M, by simp, hM.drew⟩, hFr.size, hFr.defers, fun t => ⟨(F 0).get t, .inr ⟨fun j q hj _ => absurd hj (hfalse j), rfl⟩, ?_⟩⟩
  rw [h1]
  exact hFr.rel t
end Go.Eng

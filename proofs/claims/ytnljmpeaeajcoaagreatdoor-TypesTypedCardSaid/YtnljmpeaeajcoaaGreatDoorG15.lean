/- A part of the proof over this seat's program: the checked evaluator and its soundness (E..), and what it gives here (the others). No condition. -/
import Derived.Test.YtnljmpeaeajcoaaGreatDoorG14
set_option linter.unusedSectionVars false
namespace Go.Eng
open Go
variable [Mode]

theorem beq1_sound {a b : AV} (h : beq1 a b = true) : a = b := by
  unfold beq1 at h
  split at h
  · rename_i x y; cases x <;> cases y <;> first | rfl | (exact absurd h (by simp))
  · rw [brec_false, ieq_iff] at h
    obtain rfl := (keq_iff _ _).1 h.1
    have := eq_of_beq h.2
    rw [this]
  · unfold seqA at h
    rw [brec_false] at h
    rw [Nat.eq_of_beq_eq_true h.1, Nat.eq_of_beq_eq_true h.2]
  · rfl
  · rw [brec_false] at h
    rw [Nat.eq_of_beq_eq_true h.1, Nat.eq_of_beq_eq_true h.2]
  · rfl
  · rename_i p _ _ _ _ p'
    rw [brec_false, brec_false, brec_false, brec_false] at h
    obtain ⟨h1, h2, h3, h4, h5⟩ := h
    have : p = p' := by cases p <;> cases p' <;> first | rfl | (exact absurd h5 (by simp))
    rw [Nat.eq_of_beq_eq_true h1, Nat.eq_of_beq_eq_true h2, Nat.eq_of_beq_eq_true h3, Nat.eq_of_beq_eq_true h4, this]
  · rfl
  · rw [Nat.eq_of_beq_eq_true h]
  · rfl
  · rfl
  · exact absurd h (by simp)
theorem beqL_sound : ∀ (l m : List AV), beqL l m = true → l = m := by
  intro l
  induction l with
  | nil => intro m h; cases m with | nil => rfl | cons => exact absurd h (by show ¬ (false = true); simp)
  | cons a l ih =>
    intro m h
    cases m with
    | nil => exact absurd h (by show ¬ (false = true); simp)
    | cons b m =>
      change Bool.rec (motive := fun _ => Bool) false (beqL l m) (beq1 a b) = true at h
      rw [brec_false] at h
      rw [beq1_sound h.1, ih m h.2]
theorem beqA_sound {a b : AV} (h : beqA a b = true) : a = b := by
  unfold beqA at h
  split at h
  · rw [beqL_sound _ _ h]
  · exact beq1_sound h

theorem chkLoad_sound {P : Program} {ops : Array Oper} {x : Ld} : ∀ (Ms : List Mem) (ss : List Nat) (next : Option Nat), chkLoad P ops x Ms ss next = true →
    ∀ d M, Ms[d]? = some M → sameP ss[d]? x.p = false → (∀ s, ss[d]? = some s → isAnc ops x.j s = false) → (∀ s, (if d = 0 then next else ss[d - 1]?) = some s → isAnc ops s x.j = false) →
      loadA P x.t x.a M (fun v => beqA x.v v) = true := by
  intro Ms
  induction Ms with
  | nil => intro ss next _ d M h; simp at h
  | cons M0 Ms ih =>
    intro ss next h d M hM hp h1 h2
    change Bool.rec (motive := fun _ => Bool) false (chkLoad P ops x Ms ss.tail ss.head?)
      (Bool.rec (motive := fun _ => Bool)
        (Bool.rec (motive := fun _ => Bool)
          (Bool.rec (motive := fun _ => Bool) (loadA P x.t x.a M0 fun v => beqA x.v v) true (nextAnc ops next x.j))
          true (prevAnc ops ss.head? x.j))
        true (sameP ss.head? x.p)) = true at h
    rw [brec_false] at h
    obtain ⟨h0, h⟩ := h
    cases d with
    | zero =>
      simp at hM
      subst hM
      have e0 : sameP ss.head? x.p = false := by rw [← hp]; cases ss <;> rfl
      rw [e0] at h0
      have e1 : prevAnc ops ss.head? x.j = false := by
        cases ss with
        | nil => rfl
        | cons s ss => exact h1 s rfl
      rw [e1] at h0
      have e2 : nextAnc ops next x.j = false := by
        cases next with
        | none => rfl
        | some s => exact h2 s rfl
      rw [e2] at h0
      exact h0
    | succ d =>
      refine ih _ _ h d M (by simpa using hM) (by rw [← hp]; cases ss <;> simp) (fun s hs => h1 s ?_) (fun s hs => h2 s ?_)
      · cases ss with
        | nil => simp at hs
        | cons y ss => simpa using hs
      · simp only [Nat.add_one_ne_zero, if_false, Nat.add_sub_cancel]
        cases ss with
        | nil => cases d <;> simp at hs
        | cons y ss =>
          cases d with
          | zero => simpa using hs
          | succ d => simpa using hs

theorem chkLoads_sound {P : Program} {ops : Array Oper} {Ms : List Mem} {ss : List Nat} : ∀ (ls : List Ld), chkLoads P ops Ms ss ls = true → ss = [] ∨ ∀ x ∈ ls, chkLoad P ops x Ms ss none = true := by
  intro ls h
  cases ss with
  | nil => exact .inl rfl
  | cons s ss =>
    refine .inr ?_
    induction ls with
    | nil => intro x hx; cases hx
    | cons y ls ih =>
      intro x hx
      change Bool.rec (motive := fun _ => Bool) false (chkLoads P ops Ms (s :: ss) ls) (chkLoad P ops y Ms (s :: ss) none) = true at h
      rw [brec_false] at h
      rcases List.mem_cons.1 hx with rfl | hx
      · exact h.1
      · exact ih h.2 x hx

/-- wanted, or not, wherever what it looks at is as the engine holds it -/
def Wants (ops : Array Oper) (o : Oper) (fr : Fr) (b : Bool) : Prop := ∀ ρ (tmps : Array Value), (∀ t ∈ o.looksAt ops, OV ρ (fr.get t) (tmps.getD t Go.undef)) → Region.wanted o (yielded ops tmps) = b
def Puts (nt : Nat) (o : Oper) (v : AV) (fr fr' : Fr) : Prop := (∀ t, fr'.get t = if o.dst = some t then some v else fr.get t) ∧ (∀ d, o.dst = some d → d < nt)

/-- the run of a region in the order of its text -/
inductive Run (P : Program) (ops : Array Oper) (nt : Nat) : Nat → List Oper → Fr → Mem → Option Nat → Fr → Mem → List Mem → List Nat → List Ld → Prop
  | nil (i : Nat) (fr : Fr) (M : Mem) (p : Option Nat) : Run P ops nt i [] fr M p fr M [] [] []
  | off (i : Nat) (o : Oper) (l : List Oper) (fr fr1 fr' : Fr) (M M' : Mem) (p : Option Nat) (ms : List Mem) (ss : List Nat) (ls : List Ld) (hw : Wants ops o fr false) (hp : Puts nt o .undef fr fr1)
      (h : Run P ops nt (i + 1) l fr1 M p fr' M' ms ss ls) : Run P ops nt i (o :: l) fr M p fr' M' ms ss ls
  | pure (i : Nat) (o : Oper) (l : List Oper) (fr fr1 fr' : Fr) (M M' : Mem) (p : Option Nat) (ms : List Mem) (ss : List Nat) (ls : List Ld) (v : AV) (hw : Wants ops o fr true) (hs : ∀ N, StateSim P o fr N v N) (hp : Puts nt o v fr fr1)
      (h : Run P ops nt (i + 1) l fr1 M p fr' M' ms ss ls) : Run P ops nt i (o :: l) fr M p fr' M' ms ss ls
  | load (i : Nat) (o : Oper) (l : List Oper) (fr fr1 fr' : Fr) (M M' : Mem) (p : Option Nat) (ms : List Mem) (ss : List Nat) (ls : List Ld) (t : TypeId) (x : Operand) (a v : AV) (hw : Wants ops o fr true) (ho : o.op = .load t x) (ha : evD fr x = some a) (hld : LoadSim P t a M v) (hp : Puts nt o v fr fr1)
      (h : Run P ops nt (i + 1) l fr1 M p fr' M' ms ss ls) : Run P ops nt i (o :: l) fr M p fr' M' ms ss (⟨i, t, a, v, p⟩ :: ls)
  | state (i : Nat) (o : Oper) (l : List Oper) (fr fr1 fr' : Fr) (M M1 M' : Mem) (p : Option Nat) (ms : List Mem) (ss : List Nat) (ls : List Ld) (v : AV) (hw : Wants ops o fr true) (hs : StateSim P o fr M v M1) (hp : Puts nt o v fr fr1) (hc : ∀ s, p = some s → isAnc ops s i = true)
      (h : Run P ops nt (i + 1) l fr1 M1 (some i) fr' M' ms ss ls) : Run P ops nt i (o :: l) fr M p fr' M' (M1 :: ms) (i :: ss) ls

theorem runDraw_run {P : Program} {call : FuncId → List AV → Mem → (AV → Mem → Bool) → Bool} (hcall : ∀ f args M K, call f args M K = true → ∃ v M', K v M' = true ∧ CSim P f args M v M')
    {nt : Nat} {ops : Array Oper} : ∀ (l : List Oper) (i : Nat) (fr : Fr) (M : Mem) (Ms : List Mem) (ss : List Nat) (ls : List Ld) (K : Fr → Mem → Bool), runDraw P call nt ops l i fr M Ms ss ls K = true →
      ∃ fr' M' ms' ss' ls', K fr' M' = true ∧ chkLoads P ops (ms'.reverse ++ Ms) (ss'.reverse ++ ss) (ls'.reverse ++ ls) = true ∧ Run P ops nt i l fr M ss.head? fr' M' ms' ss' ls' := by
  intro l
  induction l with
  | nil =>
    intro i fr M Ms ss ls K h
    change Bool.rec (motive := fun _ => Bool) false (K fr M) (chkLoads P ops Ms ss ls) = true at h
    rw [brec_false] at h
    exact ⟨fr, M, [], [], [], h.2, h.1, .nil _ _ _ _⟩
  | cons o l ih =>
    intro i fr M Ms ss ls K h
    change (wantK ops o.guard fr fun b => Bool.rec (motive := fun _ => Bool)
      (putT nt o.dst .undef fr fun fr => runDraw P call nt ops l (Nat.succ i) fr M Ms ss ls K)
      (drawOp P call ops i o.op fr M Ms ss ls fun v M Ms ss ls => putT nt o.dst v fr fun fr => runDraw P call nt ops l (Nat.succ i) fr M Ms ss ls K) b) = true at h
    obtain ⟨b, h, hw⟩ := wantK_sound h
    cases b with
    | false =>
      obtain ⟨fr1, h, hp⟩ := putT_sound h
      obtain ⟨fr', M', ms', ss', ls', hK, hc, hr⟩ := ih _ _ _ _ _ _ _ h
      exact ⟨fr', M', ms', ss', ls', hK, hc, .off _ _ _ _ _ _ _ _ _ _ _ _ hw hp hr⟩
    | true =>
      change drawOp P call ops i o.op fr M Ms ss ls (fun v M Ms ss ls => putT nt o.dst v fr fun fr => runDraw P call nt ops l (Nat.succ i) fr M Ms ss ls K) = true at h
      unfold drawOp at h
      split at h
      · obtain ⟨v, h, hs⟩ := opPure_sound h
        obtain ⟨fr1, h, hp⟩ := putT_sound h
        obtain ⟨fr', M', ms', ss', ls', hK, hc, hr⟩ := ih _ _ _ _ _ _ _ h
        exact ⟨fr', M', ms', ss', ls', hK, hc, .pure _ _ _ _ _ _ _ _ _ _ _ _ v hw (fun _ => .of_pure hs) hp hr⟩
      · split at h
        · rename_i t x hop
          rw [ev_iff] at h
          obtain ⟨a, ha, h⟩ := h
          obtain ⟨v, h, hs⟩ := loadA_sound h
          obtain ⟨fr1, h, hp⟩ := putT_sound h
          obtain ⟨fr', M', ms', ss', ls', hK, hc, hr⟩ := ih _ _ _ _ _ _ _ h
          exact ⟨fr', M', ms', ss', ⟨i, t, a, v, ss.head?⟩ :: ls', hK, by simpa using hc, .load _ _ _ _ _ _ _ _ _ _ _ _ t x a v hw hop ha hs hp hr⟩
        · exact absurd h (by simp)
      · rw [brec_tt] at h
        rcases h with ⟨_, h⟩ | ⟨_, h⟩
        rotate_left
        · obtain ⟨v, h, hs⟩ := stillK_sound h
          obtain ⟨fr1, h, hp⟩ := putT_sound h
          obtain ⟨fr', M', ms', ss', ls', hK, hc, hr⟩ := ih _ _ _ _ _ _ _ h
          exact ⟨fr', M', ms', ss', ls', hK, hc, .pure _ _ _ _ _ _ _ _ _ _ _ _ v hw (fun N => .of_run (hs N)) hp hr⟩
        rw [brec_false] at h
        obtain ⟨hanc, h⟩ := h
        obtain ⟨v, M1, h, hs⟩ := opState_sound hcall h
        obtain ⟨fr1, h, hp⟩ := putT_sound h
        obtain ⟨fr', M', ms', ss', ls', hK, hc, hr⟩ := ih _ _ _ _ _ _ _ h
        refine ⟨fr', M', M1 :: ms', i :: ss', ls', hK, by simpa using hc, .state _ _ _ _ _ _ _ _ _ _ _ _ _ v hw hs hp (fun s hs => ?_) hr⟩
        rw [hs] at hanc
        exact hanc

/-- what one operation of the run is -/
inductive Kind where
  | off | pure | load (t : TypeId) (x : Operand) (a : AV) | state

/-- the run, by the operations' places -/
structure Facts (P : Program) (ops : Array Oper) (nt : Nat) (i : Nat) (l : List Oper) (M : Mem) (p : Option Nat) (ms : List Mem) (ss : List Nat) (ls : List Ld) (fr : Nat → Fr) (val : Nat → AV) (kd : Nat → Kind) : Prop where
  fputs : ∀ (j : Nat) (o : Oper), l[j]? = some o → Puts nt o (val (i + j)) (fr (i + j)) (fr (i + j + 1))
  foff : ∀ (j : Nat) (o : Oper), l[j]? = some o → kd (i + j) = .off → Wants ops o (fr (i + j)) false ∧ val (i + j) = .undef
  fpure : ∀ (j : Nat) (o : Oper), l[j]? = some o → kd (i + j) = .pure → Wants ops o (fr (i + j)) true ∧ ∀ N, StateSim P o (fr (i + j)) N (val (i + j)) N
  fload : ∀ (j : Nat) (o : Oper) (t : TypeId) (x : Operand) (a : AV), l[j]? = some o → kd (i + j) = .load t x a → Wants ops o (fr (i + j)) true ∧ o.op = .load t x ∧ evD (fr (i + j)) x = some a ∧ ∃ (c : Nat) (M1 : Mem), (M :: ms)[c]? = some M1 ∧ LoadSim P t a M1 (val (i + j)) ∧ ⟨i + j, t, a, val (i + j), if c = 0 then p else ss[c - 1]?⟩ ∈ ls
  fstate : ∀ (j : Nat) (o : Oper), l[j]? = some o → kd (i + j) = .state → Wants ops o (fr (i + j)) true ∧ ∃ (c : Nat) (M1 M2 : Mem), ss[c]? = some (i + j) ∧ (M :: ms)[c]? = some M1 ∧ ms[c]? = some M2 ∧ StateSim P o (fr (i + j)) M1 (val (i + j)) M2
  fmem : ∀ s ∈ ss, i ≤ s ∧ s < i + l.length ∧ kd s = .state
  fasc : ss.Pairwise (· < ·)
  flen : ms.length = ss.length
  fchain : ∀ (c s s' : Nat), ss[c]? = some s → ss[c + 1]? = some s' → isAnc ops s s' = true
  ffirst : ∀ (s s' : Nat), p = some s → ss[0]? = some s' → isAnc ops s s' = true

/-- one operation more ahead, which is no operation on memory -/
theorem Facts.cons {P : Program} {ops : Array Oper} {nt : Nat} {i : Nat} {o : Oper} {l : List Oper} {M : Mem} {p : Option Nat} {ms : List Mem} {ss : List Nat} {ls ls' : List Ld} {F : Nat → Fr} {V : Nat → AV} {D : Nat → Kind} {fr : Fr} {v : AV} {k : Kind}
    (h : Facts P ops nt (i + 1) l M p ms ss ls F V D) (hp : Puts nt o v fr (F (i + 1))) (hsub : ∀ x ∈ ls, x ∈ ls') (hk : k ≠ .state)
    (hoff : k = .off → Wants ops o fr false ∧ v = .undef) (hpure : k = .pure → Wants ops o fr true ∧ ∀ N, StateSim P o fr N v N)
    (hload : ∀ t x a, k = .load t x a → Wants ops o fr true ∧ o.op = .load t x ∧ evD fr x = some a ∧ LoadSim P t a M v ∧ ⟨i, t, a, v, p⟩ ∈ ls') :
    Facts P ops nt i (o :: l) M p ms ss ls' (fun j => if j = i then fr else F j) (fun j => if j = i then v else V j) (fun j => if j = i then k else D j) := by
  have hne : ∀ j, i + (j + 1) ≠ i := fun j => by omega
  have heq : ∀ j, i + (j + 1) = i + 1 + j := fun j => by omega
  refine ⟨fun j q hj => ?_, fun j q hj hd => ?_, fun j q hj hd => ?_, fun j q t x a hj hd => ?_, fun j q hj hd => ?_, fun s hs => ?_, h.fasc, h.flen, h.fchain, h.ffirst⟩
  · cases j with
    | zero =>
      obtain rfl : o = q := by simpa using hj
      simpa using hp
    | succ j =>
      simp only [hne, if_false, Nat.add_assoc]
      have := h.fputs j q (by simpa using hj)
      rw [heq]
      rwa [show i + (j + 1 + 1) = i + 1 + j + 1 from by omega]
  · cases j with
    | zero =>
      obtain rfl : o = q := by simpa using hj
      simp only [Nat.add_zero, if_true] at hd ⊢
      exact hoff hd
    | succ j =>
      simp only [hne, if_false] at hd ⊢
      rw [heq] at hd ⊢
      exact h.foff j q (by simpa using hj) hd
  · cases j with
    | zero =>
      obtain rfl : o = q := by simpa using hj
      simp only [Nat.add_zero, if_true] at hd ⊢
      exact hpure hd
    | succ j =>
      simp only [hne, if_false] at hd ⊢
      rw [heq] at hd ⊢
      exact h.fpure j q (by simpa using hj) hd
  · cases j with
    | zero =>
      obtain rfl : o = q := by simpa using hj
      simp only [Nat.add_zero, if_true] at hd ⊢
      obtain ⟨h1, h2, h3, h4, h5⟩ := hload t x a hd
      exact ⟨h1, h2, h3, 0, M, rfl, h4, h5⟩
    | succ j =>
      simp only [hne, if_false] at hd ⊢
      rw [heq] at hd ⊢
      obtain ⟨h1, h2, h3, c, M1, h4, h5, h6⟩ := h.fload j q t x a (by simpa using hj) hd
      exact ⟨h1, h2, h3, c, M1, h4, h5, hsub _ h6⟩
  · cases j with
    | zero => simp only [Nat.add_zero, if_true] at hd; exact absurd hd hk
    | succ j =>
      simp only [hne, if_false] at hd ⊢
      rw [heq] at hd ⊢
      exact h.fstate j q (by simpa using hj) hd
  · obtain ⟨h1, h2, h3⟩ := h.fmem s hs
    have : s ≠ i := by omega
    refine ⟨by omega, by simp; omega, by simp [this, h3]⟩

theorem Run.facts {P : Program} {ops : Array Oper} {nt : Nat} {i : Nat} {l : List Oper} {fr0 fr' : Fr} {M M' : Mem} {p : Option Nat} {ms : List Mem} {ss : List Nat} {ls : List Ld} (h : Run P ops nt i l fr0 M p fr' M' ms ss ls) :
    (M :: ms).getLast? = some M' ∧ ∃ (F : Nat → Fr) (V : Nat → AV) (D : Nat → Kind), F i = fr0 ∧ F (i + l.length) = fr' ∧ Facts P ops nt i l M p ms ss ls F V D := by
  induction h with
  | nil i fr M p =>
    exact ⟨by simp, fun _ => fr, fun _ => .undef, fun _ => .off, rfl, rfl, ⟨by simp, by simp, by simp, by simp, by simp, by simp, .nil, rfl, by simp, by simp⟩⟩
  | off i o l fr fr1 fr' M M' p ms ss ls hw hp h ih =>
    obtain ⟨hl, F, V, D, h1, h2, hF⟩ := ih
    refine ⟨hl, fun j => if j = i then fr else F j, fun j => if j = i then .undef else V j, fun j => if j = i then .off else D j, by simp, ?_, ?_⟩
    · have : i + (o :: l).length ≠ i := by simp
      simp only [this, if_false]
      rw [List.length_cons, show i + (l.length + 1) = i + 1 + l.length from by omega]; exact h2
    · exact hF.cons (by rw [h1]; exact hp) (fun x hx => hx) (by simp) (fun _ => ⟨hw, rfl⟩) (by simp) (by simp)
  | pure i o l fr fr1 fr' M M' p ms ss ls v hw hs hp h ih =>
    obtain ⟨hl, F, V, D, h1, h2, hF⟩ := ih
    refine ⟨hl, fun j => if j = i then fr else F j, fun j => if j = i then v else V j, fun j => if j = i then .pure else D j, by simp, ?_, ?_⟩
    · have : i + (o :: l).length ≠ i := by simp
      simp only [this, if_false]
      rw [List.length_cons, show i + (l.length + 1) = i + 1 + l.length from by omega]; exact h2
    · exact hF.cons (by rw [h1]; exact hp) (fun x hx => hx) (by simp) (by simp) (fun _ => ⟨hw, hs⟩) (by simp)
  | load i o l fr fr1 fr' M M' p ms ss ls t x a v hw ho ha hld hp h ih =>
    obtain ⟨hl, F, V, D, h1, h2, hF⟩ := ih
    refine ⟨hl, fun j => if j = i then fr else F j, fun j => if j = i then v else V j, fun j => if j = i then .load t x a else D j, by simp, ?_, ?_⟩
    · have : i + (o :: l).length ≠ i := by simp
      simp only [this, if_false]
      rw [List.length_cons, show i + (l.length + 1) = i + 1 + l.length from by omega]; exact h2
    · refine hF.cons (by rw [h1]; exact hp) (fun x hx => List.mem_cons_of_mem _ hx) (by simp) (by simp) (by simp) (fun t' x' a' e => ?_)
      cases e
      exact ⟨hw, ho, ha, hld, List.mem_cons_self⟩
  | state i o l fr fr1 fr' M M1 M' p ms ss ls v hw hs hp hc h ih =>
    obtain ⟨hl, F, V, D, h1, h2, hF⟩ := ih
    have hne : ∀ j, i + (j + 1) ≠ i := fun j => by omega
    have heq : ∀ j, i + (j + 1) = i + 1 + j := fun j => by omega
    refine ⟨by simpa using hl, fun j => if j = i then fr else F j, fun j => if j = i then v else V j, fun j => if j = i then .state else D j, by simp, ?_, ?_⟩
    · have : i + (o :: l).length ≠ i := by simp
      simp only [this, if_false]
      rw [List.length_cons, show i + (l.length + 1) = i + 1 + l.length from by omega]; exact h2
    · refine ⟨fun j q hj => ?_, fun j q hj hd => ?_, fun j q hj hd => ?_, fun j q t x a hj hd => ?_, fun j q hj hd => ?_, fun s hs => ?_, ?_, by simp [hF.flen], fun c s s' hs hs' => ?_, fun s s' hps hs' => ?_⟩
      · cases j with
        | zero =>
          obtain rfl : o = q := by simpa using hj
          simp
          rw [h1]
          exact hp
        | succ j =>
          simp only [hne, if_false, Nat.add_assoc]
          have := hF.fputs j q (by simpa using hj)
          rw [heq]
          rwa [show i + (j + 1 + 1) = i + 1 + j + 1 from by omega]
      · cases j with
        | zero => simp at hd
        | succ j =>
          simp only [hne, if_false] at hd ⊢
          rw [heq] at hd ⊢
          exact hF.foff j q (by simpa using hj) hd
      · cases j with
        | zero => simp at hd
        | succ j =>
          simp only [hne, if_false] at hd ⊢
          rw [heq] at hd ⊢
          exact hF.fpure j q (by simpa using hj) hd
      · cases j with
        | zero => simp at hd
        | succ j =>
          simp only [hne, if_false] at hd ⊢
          rw [heq] at hd ⊢
          obtain ⟨b1, b2, b3, c, N, b4, b5, b6⟩ := hF.fload j q t x a (by simpa using hj) hd
          refine ⟨b1, b2, b3, c + 1, N, by simpa using b4, b5, ?_⟩
          cases c with
          | zero => simpa using b6
          | succ c => simpa using b6
      · cases j with
        | zero =>
          obtain rfl : o = q := by simpa using hj
          simp only [Nat.add_zero, if_true]
          exact ⟨hw, 0, M, M1, by simp, by simp, by simp, hs⟩
        | succ j =>
          simp only [hne, if_false] at hd ⊢
          rw [heq] at hd ⊢
          obtain ⟨hw', c, A, B, a1, a2, a3, a4⟩ := hF.fstate j q (by simpa using hj) hd
          exact ⟨hw', c + 1, A, B, by simpa using a1, by simpa using a2, by simpa using a3, a4⟩
      · rcases List.mem_cons.1 hs with rfl | hs
        · exact ⟨Nat.le_refl _, by simp, by simp⟩
        · obtain ⟨a1, a2, a3⟩ := hF.fmem s hs
          have : s ≠ i := by omega
          exact ⟨by omega, by simp; omega, by simp [this, a3]⟩
      · refine List.pairwise_cons.2 ⟨fun s hs => ?_, hF.fasc⟩
        have := (hF.fmem s hs).1
        omega
      · cases c with
        | zero =>
          obtain rfl : i = s := by simpa using hs
          exact hF.ffirst i s' rfl (by simpa using hs')
        | succ c => exact hF.fchain c s s' (by simpa using hs) (by simpa using hs')
      · obtain rfl : i = s' := by simpa using hs'
        exact hc s hps
end Go.Eng

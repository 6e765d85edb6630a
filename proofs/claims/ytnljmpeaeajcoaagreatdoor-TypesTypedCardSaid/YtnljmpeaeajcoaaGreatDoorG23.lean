/- A part of the proof over this seat's program: the checked evaluator and its soundness (E..), and what it gives here (the others). No condition. -/
import Derived.Test.YtnljmpeaeajcoaaGreatDoorG22
set_option linter.unusedSectionVars false
namespace Go.Eng
open Go
variable [Mode]

/-! frames and memories by lists -/
noncomputable def T.singleD {α : Type} (x : α) (f : Nat) : Nat → T α :=
  Nat.rec (motive := fun _ => Nat → T α) (fun _ => .nil)
    (fun _ ih n => Nat.rec (motive := fun _ => T α) (.node .nil (some x) .nil)
      (fun m _ => Bool.rec (motive := fun _ => T α) (.node (ih (Nat.div m 2)) none .nil) (.node .nil none (ih (Nat.div m 2))) (Nat.beq (Nat.mod m 2) 1)) n) f
noncomputable def T.putD {α : Type} (x : α) (t : T α) : Nat → T α :=
  T.rec (motive := fun _ => Nat → T α) (fun n => T.singleD x (Nat.succ n) n)
    (fun l v r sl sr n => Nat.rec (motive := fun _ => T α) (.node l (some x) r)
      (fun m _ => Bool.rec (motive := fun _ => T α) (.node (sl (Nat.div m 2)) v r) (.node l v (sr (Nat.div m 2))) (Nat.beq (Nat.mod m 2) 1)) n) t
theorem T.singleD_get {α : Type} (x : α) : ∀ (f n : Nat), n < f → ∀ k, (T.singleD x f n).get k = if k = n then some x else none := by
  intro f
  induction f with
  | zero => intro n h; exact absurd h (Nat.not_lt_zero _)
  | succ f ih =>
    intro n hn k
    cases n with
    | zero =>
      change (T.node .nil (some x) .nil : T α).get k = _
      cases k with
      | zero => rfl
      | succ k => rw [T.get_succ]; simp [T.get_nil]
    | succ m =>
      have hd : m / 2 < f := by omega
      change (Bool.rec (motive := fun _ => T α) (.node (T.singleD x f (m / 2)) none .nil) (.node .nil none (T.singleD x f (m / 2))) (Nat.beq (m % 2) 1) : T α).get k = _
      by_cases hm : m % 2 = 1
      · rw [nbeq_eq hm]
        cases k with
        | zero => simp [T.get_zero]
        | succ k =>
          change (T.node .nil none (T.singleD x f (m / 2)) : T α).get (k + 1) = _
          rw [T.get_succ, ih _ hd]
          by_cases hk : k % 2 = 1
          · simp only [hk, if_true, Nat.add_right_cancel_iff]
            by_cases e : k = m
            · simp [e]
            · rw [if_neg (fun h => e (odd_half hk hm h)), if_neg e]
          · simp only [hk, if_false, T.get_nil]
            rw [if_neg]; intro e; exact hk (by omega)
      · rw [nbeq_ne hm]
        cases k with
        | zero => simp [T.get_zero]
        | succ k =>
          change (T.node (T.singleD x f (m / 2)) none .nil : T α).get (k + 1) = _
          rw [T.get_succ, ih _ hd]
          by_cases hk : k % 2 = 1
          · simp only [hk, if_true, T.get_nil]
            rw [if_neg]; intro e; exact hm (by omega)
          · simp only [hk, if_false, Nat.add_right_cancel_iff]
            by_cases e : k = m
            · simp [e]
            · rw [if_neg (fun h => e (even_half hk hm h)), if_neg e]
theorem T.putD_get {α : Type} (x : α) : ∀ (t : T α) (n k : Nat), (T.putD x t n).get k = if k = n then some x else t.get k := by
  intro t
  induction t with
  | nil => intro n k; change (T.singleD x (n + 1) n).get k = _; rw [T.singleD_get x _ _ (Nat.lt_succ_self _), T.get_nil]
  | node l v r ihl ihr =>
    intro n k
    cases n with
    | zero =>
      change (T.node l (some x) r : T α).get k = _
      cases k with
      | zero => rfl
      | succ k => simp [T.get_succ]
    | succ m =>
      change (Bool.rec (motive := fun _ => T α) (.node (T.putD x l (m / 2)) v r) (.node l v (T.putD x r (m / 2))) (Nat.beq (m % 2) 1) : T α).get k = _
      by_cases hm : m % 2 = 1
      · rw [nbeq_eq hm]
        cases k with
        | zero => simp [T.get_zero]
        | succ k =>
          change (T.node l v (T.putD x r (m / 2)) : T α).get (k + 1) = _
          rw [T.get_succ, T.get_succ, ihr]
          by_cases hk : k % 2 = 1
          · simp only [hk, if_true, Nat.add_right_cancel_iff]
            by_cases e : k = m
            · simp [e]
            · rw [if_neg (fun h => e (odd_half hk hm h)), if_neg e]
          · simp only [hk, if_false]
            rw [if_neg]; intro e; exact hk (by omega)
      · rw [nbeq_ne hm]
        cases k with
        | zero => simp [T.get_zero]
        | succ k =>
          change (T.node (T.putD x l (m / 2)) v r : T α).get (k + 1) = _
          rw [T.get_succ, T.get_succ, ihl]
          by_cases hk : k % 2 = 1
          · simp only [hk, if_true]
            rw [if_neg]; intro e; exact hm (by omega)
          · simp only [hk, if_false, Nat.add_right_cancel_iff]
            by_cases e : k = m
            · simp [e]
            · rw [if_neg (fun h => e (even_half hk hm h)), if_neg e]

noncomputable def mkFr (l : List (Nat × AV)) : Fr := List.rec (motive := fun _ => Fr) .nil (fun p _ ih => T.putD p.2 ih p.1) l
theorem mkFr_get : ∀ (l : List (Nat × AV)) (t : Nat) (a : AV), (mkFr l).get t = some a → (t, a) ∈ l := by
  intro l
  induction l with
  | nil => intro t a h; change (T.nil : T AV).get t = _ at h; rw [T.get_nil] at h; cases h
  | cons p l ih =>
    intro t a h
    change (T.putD p.2 (mkFr l) p.1).get t = _ at h
    rw [T.putD_get] at h
    by_cases e : t = p.1
    · rw [if_pos e] at h
      subst e
      obtain rfl := Option.some.inj h
      exact List.mem_cons_self ..
    · rw [if_neg e] at h
      exact List.mem_cons_of_mem _ (ih t a h)
noncomputable def mkT (l : List Blk) : Nat → T Blk := List.rec (motive := fun _ => Nat → T Blk) (fun _ => .nil) (fun b _ ih i => T.putD b (ih (Nat.succ i)) i) l
noncomputable def mkMem (l : List Blk) : Mem := ⟨mkT l 0, lenL l⟩
theorem mkT_get : ∀ (l : List Blk) (i j : Nat), (mkT l i).get j = if i ≤ j then l[j - i]? else none := by
  intro l
  induction l with
  | nil => intro i j; change (T.nil : T Blk).get j = _; rw [T.get_nil]; simp
  | cons b l ih =>
    intro i j
    change (T.putD b (mkT l (i + 1)) i).get j = _
    rw [T.putD_get, ih]
    by_cases e : j = i
    · subst e; simp
    · rw [if_neg e]
      by_cases h : i + 1 ≤ j
      · rw [if_pos h, if_pos (by omega)]
        rw [show j - i = (j - (i + 1)) + 1 by omega]
        simp
      · rw [if_neg h, if_neg (by omega)]
theorem mkMem_get (l : List Blk) (j : Nat) : (mkMem l).t.get j = l[j]? := by
  show (mkT l 0).get j = _
  rw [mkT_get]; simp

/-! numbering anew: the block j of the new memory is the block π[j] of the old one -/
noncomputable def mapO {α β : Type} (f : α → Option β) (l : List α) : Option (List β) :=
  List.rec (motive := fun _ => Option (List β)) (some []) (fun x _ ih => match f x, ih with | some y, some r => some (y :: r) | _, _ => none) l
theorem mapO_cons {α β : Type} {f : α → Option β} {x : α} {l : List α} {r : List β} (h : mapO f (x :: l) = some r) : ∃ y s, r = y :: s ∧ f x = some y ∧ mapO f l = some s := by
  change (match f x, mapO f l with | some y, some r => some (y :: r) | _, _ => none) = some r at h
  split at h
  · rename_i y s h1 h2
    exact ⟨y, s, (Option.some.inj h).symm, h1, h2⟩
  · cases h
def ren1 (π : List Nat) (a : AV) : Option AV :=
  match a with
  | .ptr b o => match π[b]? with | some i => some (.ptr i o) | none => none
  | .slice b o l c op => match π[b]? with | some i => some (.slice i o l c op) | none => none
  | .map b => match π[b]? with | some i => some (.map i) | none => none
  | .agg _ => none
  | .tuple _ => none
  | .func _ _ _ => none
  | .iface _ _ => none
  | a => some a
noncomputable def renA (π : List Nat) (a : AV) : Option AV :=
  match a with
  | .agg l => match mapO (ren1 π) l with | some l => some (.agg l) | none => none
  | .func fn l m => match mapO (ren1 π) l, mapO (ren1 π) m with | some l, some m => some (.func fn l m) | _, _ => none
  | .iface t a => match ren1 π a with | some a => some (.iface t a) | none => none
  | a => ren1 π a
noncomputable def renT (π : List Nat) (a : AV) : Option AV :=
  match a with
  | .tuple l => match mapO (renA π) l with | some l => some (.tuple l) | none => none
  | a => renA π a
def Env.ren (ρ : Env) (π : List Nat) : Env := { ρ with m := fun j => match π[j]? with | some i => ρ i | none => none }
theorem ren_at {ρ : Env} {π : List Nat} {j i : Nat} (h : π[j]? = some i) : (ρ.ren π) j = ρ i := by
  show (match π[j]? with | some i => ρ i | none => none) = _
  rw [h]
theorem ren1_rel {ρ : Env} {π : List Nat} {a b : AV} {v : Value} (h : ren1 π a = some b) (hv : VRel ρ b v) : VRel (ρ.ren π) a v := by
  unfold ren1 at h
  split at h
  · split at h
    · rename_i i hi
      obtain rfl := Option.some.inj h
      cases hv with | ptr _ _ B x e => exact .ptr _ _ B x ((ren_at hi).trans e)
    · cases h
  · split at h
    · rename_i i hi
      obtain rfl := Option.some.inj h
      cases hv with | slice _ _ _ _ _ B x c e hc => exact .slice _ _ _ _ _ B x c ((ren_at hi).trans e) hc
    · cases h
  · split at h
    · rename_i i hi
      obtain rfl := Option.some.inj h
      cases hv with | map _ B x e => exact .map _ B x ((ren_at hi).trans e)
    · cases h
  · cases h
  · cases h
  · cases h
  · cases h
  · rename_i h1 h2 h3 h4 h5 h6 h7
    obtain rfl := Option.some.inj h
    cases hv with
    | bool => exact .bool _
    | int => exact .int _ _
    | str => exact .str _
    | nilPtr => exact .nilPtr
    | nilSlice => exact .nilSlice
    | nilMap => exact .nilMap
    | nilFunc => exact .nilFunc
    | nilIface => exact .nilIface
    | dslice _ _ _ _ e => exact .dslice _ _ _ _ e
    | dptr _ _ B o l hz hl e => exact .dptr _ _ B o l hz hl e
    | ptr => exact absurd rfl (h1 _ _)
    | slice => exact absurd rfl (h2 _ _ _ _ _)
    | map => exact absurd rfl (h3 _)
    | agg => exact absurd rfl (h4 _)
    | tuple => exact absurd rfl (h5 _)
    | func => exact absurd rfl (h6 _ _ _)
    | iface => exact absurd rfl (h7 _ _)
theorem renL_rel {ρ : Env} {π : List Nat} {f : AV → Option AV} (hf : ∀ a b v, f a = some b → VRel ρ b v → VRel (ρ.ren π) a v) : ∀ {l m : List AV} {vs : List Value}, mapO f l = some m → VsRel ρ m vs → VsRel (ρ.ren π) l vs := by
  intro l
  induction l with
  | nil => intro m vs h hv; obtain rfl := Option.some.inj (show some [] = some m from h); cases hv; exact .nil
  | cons a l ih =>
    intro m vs h hv
    obtain ⟨y, s, rfl, h1, h2⟩ := mapO_cons h
    cases hv with
    | cons _ v _ vs e es => exact .cons _ _ _ _ (hf _ _ _ h1 e) (ih h2 es)
theorem renA_rel {ρ : Env} {π : List Nat} {a b : AV} {v : Value} (h : renA π a = some b) (hv : VRel ρ b v) : VRel (ρ.ren π) a v := by
  unfold renA at h
  split at h
  · split at h
    · rename_i m hm
      obtain rfl := Option.some.inj h
      cases hv with | agg _ vs e => exact .agg _ _ (renL_rel (fun _ _ _ => ren1_rel) hm e)
    · cases h
  · split at h
    · rename_i m1 m2 h1 h2
      obtain rfl := Option.some.inj h
      cases hv with | func _ _ _ vs ws e1 e2 => exact .func _ _ _ _ _ (renL_rel (fun _ _ _ => ren1_rel) h1 e1) (renL_rel (fun _ _ _ => ren1_rel) h2 e2)
    · cases h
  · split at h
    · rename_i m hm
      obtain rfl := Option.some.inj h
      cases hv with | iface _ _ v e => exact .iface _ _ _ (ren1_rel hm e)
    · cases h
  · exact ren1_rel h hv
theorem renT_rel {ρ : Env} {π : List Nat} {a b : AV} {v : Value} (h : renT π a = some b) (hv : VRel ρ b v) : VRel (ρ.ren π) a v := by
  unfold renT at h
  split at h
  · split at h
    · rename_i m hm
      obtain rfl := Option.some.inj h
      cases hv with | tuple _ vs e => exact .tuple _ _ (renL_rel (fun _ _ _ => renA_rel) hm e)
    · cases h
  · exact renA_rel h hv

noncomputable def renE (π : List Nat) (p : AV × AV) : Option (AV × AV) := match renA π p.1, renA π p.2 with | some a, some b => some (a, b) | _, _ => none
noncomputable def renB (π : List Nat) (b : Blk) : Option Blk :=
  match b with
  | .row c op sz => match mapO (renA π) c with | some c => some (.row c op sz) | none => none
  | .map es => match mapO (renE π) es with | some es => some (.map es) | none => none
  | b => some b
theorem renEs_rel {ρ : Env} {π : List Nat} : ∀ {l m : List (AV × AV)} {es : List MapEntry}, mapO (renE π) l = some m → EsRel ρ m es → EsRel (ρ.ren π) l es := by
  intro l
  induction l with
  | nil => intro m vs h hv; obtain rfl := Option.some.inj (show some [] = some m from h); cases hv; exact .nil
  | cons a l ih =>
    intro m vs h hv
    obtain ⟨y, s, rfl, h1, h2⟩ := mapO_cons h
    obtain ⟨a1, a2⟩ := a
    unfold renE at h1
    split at h1
    · rename_i b1 b2 e1 e2
      obtain rfl := Option.some.inj h1
      cases hv with
      | cons _ _ e _ es hk hv hs => exact .cons _ _ _ _ _ (renA_rel e1 hk) (renA_rel e2 hv) (ih h2 hs)
    · cases h1
theorem renB_rel {ρ : Env} {π : List Nat} {a b : Blk} {x : Nat} {o : Obj} (h : renB π a = some b) (hv : ORel ρ x b o) : ORel (ρ.ren π) x a o := by
  have mapO_length : ∀ {l m : List AV}, mapO (renA π) l = some m → l.length = m.length := by
    intro l
    induction l with
    | nil => intro m h; obtain rfl := Option.some.inj (show some [] = some m from h); rfl
    | cons a l ih => intro m h; obtain ⟨y, s, rfl, h1, h2⟩ := mapO_cons h; simp [ih h2]
  unfold renB at h
  split at h
  · split at h
    · rename_i m hm
      obtain rfl := Option.some.inj h
      unfold ORel at hv ⊢
      cases o <;> simp only at hv ⊢
      rw [← mapO_length hm] at hv
      exact ⟨renL_rel (fun _ _ _ => renA_rel) hm hv.1, hv.2⟩
    · cases h
  · split at h
    · rename_i m hm
      obtain rfl := Option.some.inj h
      unfold ORel at hv ⊢
      cases o <;> simp only at hv ⊢
      exact renEs_rel hm hv
    · cases h
  · rename_i h1 h2
    obtain rfl := Option.some.inj h
    cases a with
    | row => exact absurd rfl (h1 _ _ _)
    | map => exact absurd rfl (h2 _)
    | siter => unfold ORel at hv ⊢; cases o <;> simp only at hv ⊢ <;> exact hv
    | dead => unfold ORel at hv; cases o <;> exact hv.elim

theorem MRel.ren {w0 : World} {R : Nat → Prop} {ρ : Env} {M : Mem} {w : World} (h : MRel w0 R ρ M w) (π : List Nat) (rows : List Blk) (hn : π.Nodup) (hl : π.length = rows.length)
    (hr : ∀ (j : Nat) (b : Blk), rows[j]? = some b → ∃ (i : Nat) (c : Blk), π[j]? = some i ∧ M.t.get i = some c ∧ renB π b = some c) : MRel w0 R (ρ.ren π) (mkMem rows) w := by
  have hdead : ∀ (b c : Blk), b ≠ .dead → renB π b = some c → c ≠ .dead := by
    intro b c hb hc e
    subst e
    unfold renB at hc
    split at hc
    · split at hc <;> cases hc
    · split at hc <;> cases hc
    · exact hb (Option.some.inj hc)
  refine ⟨h.os, h.tape, h.output, h.size, h.keep, h.rlt, fun j b hj hd => ?_, fun j j' b c B x y hj hd hj' he e1 e2 => ?_, fun j p e => ?_, h.zok, fun j b B x hj hd e => ?_, h.base⟩
  · rw [mkMem_get] at hj
    obtain ⟨i, c, hi, hc, hb⟩ := hr j b hj
    obtain ⟨B, x, o, e1, e2, e3, e4⟩ := h.blk i c hc (hdead _ _ hd hb)
    exact ⟨B, x, o, (ren_at hi).trans e1, e2, e3, renB_rel hb e4⟩
  · rw [mkMem_get] at hj hj'
    obtain ⟨i, c1, hi, hc, hb⟩ := hr j b hj
    obtain ⟨i', c2, hi', hc', hb'⟩ := hr j' c hj'
    rw [ren_at hi] at e1
    rw [ren_at hi'] at e2
    have := h.inj i i' c1 c2 B x y hc (hdead _ _ hd hb) hc' (hdead _ _ he hb') e1 e2
    subst this
    obtain ⟨l1, g1⟩ := List.getElem?_eq_some_iff.1 hi
    obtain ⟨l2, g2⟩ := List.getElem?_eq_some_iff.1 hi'
    have hpw := List.pairwise_iff_getElem.1 hn
    rcases Nat.lt_trichotomy j j' with hlt | he | hlt
    · exact absurd (g1.trans g2.symm) (hpw j j' l1 l2 hlt)
    · exact he
    · exact absurd (g2.trans g1.symm) (hpw j' j l2 l1 hlt)
  · show j < lenL rows
    rw [lenL_eq, ← hl]
    change (match π[j]? with | .some i => ρ i | .none => .none) = some p at e
    cases hj : π[j]? with
    | none => rw [hj] at e; cases e
    | some i => exact (List.getElem?_eq_some_iff.1 hj).1
  · rw [mkMem_get] at hj
    obtain ⟨i, c, hi, hc, hb⟩ := hr j b hj
    rw [ren_at hi] at e
    exact h.zsep i c B x hc (hdead _ _ hd hb) e

theorem own_ren {ρ : Env} {π : List Nat} {B : Nat} (_x : Nat) (h : Own (ρ.ren π) B) : Own ρ B := by
  rcases h with h | ⟨j, x, h⟩
  · exact .inl h
  · change (match π[j]? with | .some i => ρ i | .none => .none) = some (B, x) at h
    cases hj : π[j]? with
    | none => rw [hj] at h; cases h
    | some i => rw [hj] at h; exact .inr ⟨i, x, h⟩
/-- the state is written anew -/
theorem W.gc {P : Program} {nt k : Nat} {c : Code} {Q : AE → Fr → Mem → Prop} {fr : Fr} {M : Mem} (π : List Nat) (slots : List (Nat × AV)) (rows : List Blk) (hk : ∀ j, j < k → π[j]? = some j) (hn : π.Nodup) (hl : π.length = rows.length)
    (hs : ∀ p ∈ slots, ∃ a, fr.get p.1 = some a ∧ renT π p.2 = some a)
    (hr : ∀ (j : Nat) (b : Blk), rows[j]? = some b → ∃ (i : Nat) (c : Blk), π[j]? = some i ∧ M.t.get i = some c ∧ renB π b = some c)
    (h : W P nt k c (mkFr slots) (mkMem rows) Q) : W P nt k c fr M Q := by
  obtain ⟨o, fr', M', hQ, hsim⟩ := h
  refine ⟨o, fr', M', hQ, fun w0 R ρ a w hF hM Q hQ => hsim w0 R (ρ.ren π) a w ⟨hF.size, hF.defers, fun t b hb => ?_⟩ (hM.ren π rows hn hl hr) Q fun ρ1 a1 w1 hle hF1 hM1 => hQ ρ1 a1 w1 ⟨fun i p hi e => hle.m i p hi ?_, hle.z, hle.base, fun B l e => (hle.new B l e).imp id (own_ren 0), fun i p e => own_ren 0 (hle.own i p e)⟩ hF1 hM1⟩
  · obtain ⟨a0, h1, h2⟩ := hs _ (mkFr_get _ _ _ hb)
    exact renT_rel h2 (hF.rel t a0 h1)
  · rw [ren_at (hk i hi)]; exact e

noncomputable def vals2 (π : List Nat) (l : List (Nat × AV)) : List (Option AV) := List.map (fun p => renT π p.2) l
noncomputable def rows2 (π : List Nat) (l : List Blk) : List (Option Blk) := List.map (fun b => renB π b) l
noncomputable def okPi (k : Nat) (π : List Nat) (n : Nat) : Bool := decide (π.Nodup) && Nat.beq π.length n && (List.range k).all fun j => π[j]? == some j
theorem lv_get {l : List (Nat × AV)} {fr : Fr} {π : List Nat} (h : lv (l.map (·.1)) fr = vals2 π l) (hs : ∀ x ∈ vals2 π l, x ≠ none) : ∀ p ∈ l, ∃ a, fr.get p.1 = some a ∧ renT π p.2 = some a := by
  induction l with
  | nil => intro p hp; cases hp
  | cons q l ih =>
    simp only [lv, vals2, List.map_cons, List.cons.injEq] at h
    intro p hp
    rcases List.mem_cons.1 hp with rfl | hp
    · cases hr : renT π p.2 with
      | none => exact absurd hr (hs _ (by simp [vals2]))
      | some a => exact ⟨a, h.1.trans hr, rfl⟩
    · exact ih h.2 (fun x hx => hs x (by simp only [vals2, List.map_cons]; exact List.mem_cons_of_mem _ hx)) p hp
theorem mv_get {π0 : List Nat} {l : List Blk} {M : Mem} : ∀ {π : List Nat}, mv π M = rows2 π0 l → (∀ x ∈ rows2 π0 l, x ≠ none) → ∀ (j : Nat) (b : Blk), l[j]? = some b → ∃ (i : Nat) (c : Blk), π[j]? = some i ∧ M.t.get i = some c ∧ renB π0 b = some c := by
  induction l with
  | nil => intro π _ _ j b h; simp at h
  | cons q l ih =>
    intro π h hs j b hj
    cases π with
    | nil => simp [mv, rows2] at h
    | cons i π =>
      simp only [mv, rows2, List.map_cons, List.cons.injEq] at h
      cases j with
      | zero =>
        obtain rfl : q = b := by simpa using hj
        cases hr : renB π0 q with
        | none => exact absurd hr (hs _ (by simp [rows2]))
        | some c => exact ⟨i, c, rfl, h.1.trans hr, rfl⟩
      | succ j => exact ih h.2 (fun x hx => hs x (by simp only [rows2, List.map_cons]; exact List.mem_cons_of_mem _ hx)) j b (by simpa using hj)
/-- goes on from a state written anew, behind a piece that the kernel ran -/
theorem W.next {P : Program} {nt k : Nat} {c : Code} {Q : AE → Fr → Mem → Prop} {fr : Fr} {M : Mem} {ts π : List Nat} {vs : List (Option AV)} {bs : List (Option Blk)} (hv : lv ts fr = vs) (hm : mv π M = bs) (slots : List (Nat × AV)) (rows : List Blk)
    (hts : slots.map (·.1) = ts) (h1 : vals2 π slots = vs) (h2 : rows2 π rows = bs) (hk : okPi k π rows.length = true) (hs1 : ∀ x ∈ vs, x ≠ none) (hs2 : ∀ x ∈ bs, x ≠ none)
    (h : W P nt k c (mkFr slots) (mkMem rows) Q) : W P nt k c fr M Q := by
  unfold okPi at hk
  simp only [Bool.and_eq_true, decide_eq_true_eq, List.all_eq_true, List.mem_range] at hk
  obtain ⟨⟨hn, hl⟩, hk⟩ := hk
  subst hts h1 h2
  refine W.gc π slots rows (fun j hj => by simpa using hk j hj) hn (Nat.eq_of_beq_eq_true hl) (lv_get hv hs1) (mv_get hm hs2) h
end Go.Eng

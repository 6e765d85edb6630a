/- A part of the proof over this seat's program: the checked evaluator and its soundness (E..), and what it gives here (the others). No condition. -/
import Derived.Test.YtnljmpeaeajcoaaGreatDoorG7
import Derived.Laws.CopyRow
import Derived.Laws.Rows
set_option linter.unusedSectionVars false
namespace Go.Eng
open Go
variable [Mode]

inductive EsRel (ρ : Env) : List (AV × AV) → List MapEntry → Prop
  | nil : EsRel ρ [] []
  | cons (k v : AV) (e : MapEntry) (l : List (AV × AV)) (es : List MapEntry) (hk : VRel ρ k e.key) (hv : VRel ρ v e.val) (hs : EsRel ρ l es) : EsRel ρ ((k, v) :: l) (e :: es)
theorem EsRel.mono {ρ σ : Env} (h : ρ.Sub σ) {l : List (AV × AV)} {es : List MapEntry} (H : EsRel ρ l es) : EsRel σ l es := by
  induction H with
  | nil => exact .nil
  | cons k v e l es hk hv _ ih => exact .cons _ _ _ _ _ (hk.sub h) (hv.sub h) ih
theorem EsRel.length {ρ : Env} {l : List (AV × AV)} {es : List MapEntry} (H : EsRel ρ l es) : l.length = es.length := by
  induction H with
  | nil => rfl
  | cons k v e l es hk hv _ ih => simp [ih]

/-- a block of the heap is as the engine holds it; x: its further elements -/
def ORel (ρ : Env) (x : Nat) (b : Blk) (o : Obj) : Prop :=
  match b, o with
  | .row c op sz, .cells arr _ fz => VsRel ρ c (arr.toList.take c.length) ∧ arr.size = c.length + (if op then x * sz else 0) ∧ fz = (0, 0)
  | .map es, .map entries _ => EsRel ρ es entries.toList
  | .siter l c pos, .stringIter s p => l = s.data.toList.length ∧ c = enc s.data.toList ∧ pos = p
  | _, _ => False
theorem ORel.sub {ρ σ : Env} (h : ρ.Sub σ) {x : Nat} {b : Blk} {o : Obj} (H : ORel ρ x b o) : ORel σ x b o := by
  unfold ORel at *
  split at H
  · exact ⟨H.1.sub h, H.2⟩
  · exact EsRel.mono h H
  · exact H
  · exact H.elim

theorem ORel.mono {ρ σ : Env} (h : ρ.le σ) {x : Nat} {b : Blk} {o : Obj} (H : ORel ρ x b o) : ORel σ x b o := H.sub h.sub
/-- the memory that the engine knows; w0: the world in which the run began; R: the blocks that it must leave alone -/
structure MRel (w0 : World) (R : Nat → Prop) (ρ : Env) (M : Mem) (w : World) : Prop where
  os : w.os = w0.os
  tape : w.tape = w0.tape
  output : w.output = w0.output
  size : w0.heap.size ≤ w.heap.size
  keep : ∀ b, R b → w.heap[b]? = w0.heap[b]?
  rlt : ∀ b, R b → b < w0.heap.size
  blk : ∀ i b, M.t.get i = some b → b ≠ .dead → ∃ B x o, ρ i = some (B, x) ∧ ¬ R B ∧ w.heap[B]? = some o ∧ ORel ρ x b o
  inj : ∀ i j b c B x y, M.t.get i = some b → b ≠ .dead → M.t.get j = some c → c ≠ .dead → ρ i = some (B, x) → ρ j = some (B, y) → i = j
  fresh : ∀ i p, ρ i = some p → i < M.nx
  zok : ∀ B l, ρ.z B = some l → ∃ arr t fz, w.heap[B]? = some (.cells arr t fz) ∧ arr.toList.take l.length = l
  zsep : ∀ i b B x, M.t.get i = some b → b ≠ .dead → ρ i = some (B, x) → ρ.z B = .none
  base : ρ.base ≤ w.heap.size

theorem MRel.drew {w0 : World} {R : Nat → Prop} {ρ : Env} {M : Mem} {w : World} (h : MRel w0 R ρ M w) : MRel w0 R ρ M { w with drawn := w.drawn + 1 } :=
  ⟨h.os, h.tape, h.output, h.size, h.keep, h.rlt, h.blk, h.inj, h.fresh, h.zok, h.zsep, h.base⟩

/-- one more block is known -/
def Env.ext (ρ : Env) (n : Nat) (p : Nat × Nat) : Env := { ρ with m := fun i => if i = n then some p else ρ i }
theorem Env.sub_ext {ρ : Env} {n : Nat} {p : Nat × Nat} (h : ρ n = none) : ρ.Sub (ρ.ext n p) := by
  refine ⟨fun i q hq => ?_, fun _ _ h => h⟩
  show (if i = n then some p else ρ i) = some q
  by_cases e : i = n
  · subst e; rw [h] at hq; cases hq
  · rw [if_neg e]; exact hq
theorem Env.le_ext {ρ : Env} {n : Nat} {p : Nat × Nat} (h : ρ n = none) (ho : Own ρ p.1) : ρ.le (ρ.ext n p) := by
  refine ⟨(Env.sub_ext h).m, fun _ _ h => h, rfl, fun _ _ h => .inl h, fun i q e => ?_⟩
  change (if i = n then some p else ρ i) = some q at e
  by_cases hi : i = n
  · rw [if_pos hi] at e; obtain rfl := Option.some.inj e; exact ho
  · rw [if_neg hi] at e; exact .inr ⟨i, q.2, e⟩
theorem Env.ext_same (ρ : Env) (n : Nat) (p : Nat × Nat) : ρ.ext n p n = some p := by simp [Env.ext]
theorem Env.ext_ne (ρ : Env) {n i : Nat} (p : Nat × Nat) (h : i ≠ n) : ρ.ext n p i = ρ i := by simp [Env.ext, h]

theorem MRel.none {w0 : World} {R : Nat → Prop} {ρ : Env} {M : Mem} {w : World} (h : MRel w0 R ρ M w) : ρ M.nx = none := by
  cases e : ρ M.nx with
  | none => rfl
  | some p => exact absurd (h.fresh _ _ e) (Nat.lt_irrefl _)

theorem MRel.le_push {w0 : World} {R : Nat → Prop} {ρ : Env} {M : Mem} {w : World} (h : MRel w0 R ρ M w) (x : Nat) : ρ.le (ρ.ext M.nx (w.heap.size, x)) := Env.le_ext h.none (.inl h.base)
theorem MRel.lt {w0 : World} {R : Nat → Prop} {ρ : Env} {M : Mem} {w : World} (h : MRel w0 R ρ M w) {i : Nat} {b : Blk} {B x : Nat} (hb : M.t.get i = some b) (hd : b ≠ .dead) (hr : ρ i = some (B, x)) : B < w.heap.size := by
  obtain ⟨B', x', o, hr', _, ho, _⟩ := h.blk i b hb hd
  rw [hr] at hr'
  obtain ⟨rfl, rfl⟩ := Prod.mk.inj (Option.some.inj hr')
  exact (Array.getElem?_eq_some_iff.1 ho).1

/-- a block is known in another place, or made: the law behind newB -/
theorem MRel.new {w0 : World} {R : Nat → Prop} {ρ : Env} {M : Mem} {w w' : World} {t' : T Blk} (h : MRel w0 R ρ M w) (b : Blk) (B x : Nat) (o : Obj)
    (ht : ∀ k, t'.get k = if k = M.nx then some b else M.t.get k)
    (hos : w'.os = w.os) (htape : w'.tape = w.tape) (hout : w'.output = w.output) (hsize : w.heap.size ≤ w'.heap.size)
    (hold : ∀ k, k ≠ B → k < w.heap.size → w'.heap[k]? = w.heap[k]?) (hnew : w'.heap[B]? = some o) (hR : ¬ R B)
    (hfree : ∀ i c y, M.t.get i = some c → c ≠ .dead → ρ i = some (B, y) → False) (hzB : ρ.z B = .none)
    (hrel : ORel (ρ.ext M.nx (B, x)) x b o) :
    MRel w0 R (ρ.ext M.nx (B, x)) ⟨t', M.nx + 1⟩ w' := by
  have hle : ρ.Sub (ρ.ext M.nx (B, x)) := Env.sub_ext h.none
  refine ⟨hos.trans h.os, htape.trans h.tape, hout.trans h.output, Nat.le_trans h.size hsize, fun k hk => ?_, h.rlt, fun i c hi hd => ?_, fun i j c d C y z hi hd hj he hri hrj => ?_, fun i p hp => ?_, fun C l hz => ?_, fun i c C y hi hd hr => ?_, Nat.le_trans h.base hsize⟩
  · rw [hold k (fun e => by subst e; exact hR hk) (Nat.lt_of_lt_of_le (h.rlt k hk) h.size)]
    exact h.keep k hk
  · simp only [ht] at hi
    by_cases e : i = M.nx
    · subst e
      rw [if_pos rfl] at hi
      obtain rfl := Option.some.inj hi
      exact ⟨B, x, o, Env.ext_same _ _ _, hR, hnew, hrel⟩
    · rw [if_neg e] at hi
      obtain ⟨C, y, o', hr, hC, ho, hO⟩ := h.blk i c hi hd
      refine ⟨C, y, o', by rw [Env.ext_ne _ _ e]; exact hr, hC, ?_, hO.sub hle⟩
      rw [hold C (fun e' => by subst e'; exact hfree i c y hi hd hr) (Array.getElem?_eq_some_iff.1 ho).1]
      exact ho
  · simp only [ht] at hi hj
    by_cases ei : i = M.nx
    · subst ei
      rw [Env.ext_same] at hri
      obtain ⟨rfl, rfl⟩ := Prod.mk.inj (Option.some.inj hri)
      by_cases ej : j = M.nx
      · exact ej.symm
      · rw [if_neg ej] at hj
        rw [Env.ext_ne _ _ ej] at hrj
        exact (hfree j d z hj he hrj).elim
    · rw [if_neg ei] at hi
      rw [Env.ext_ne _ _ ei] at hri
      by_cases ej : j = M.nx
      · subst ej
        rw [Env.ext_same] at hrj
        obtain ⟨rfl, rfl⟩ := Prod.mk.inj (Option.some.inj hrj)
        exact (hfree i c y hi hd hri).elim
      · rw [if_neg ej] at hj
        rw [Env.ext_ne _ _ ej] at hrj
        exact h.inj i j c d C y z hi hd hj he hri hrj
  · by_cases e : i = M.nx
    · subst e; exact Nat.lt_succ_self _
    · rw [Env.ext_ne _ _ e] at hp
      exact Nat.lt_succ_of_lt (h.fresh i p hp)
  · obtain ⟨arr, t, fz, ho, hl⟩ := h.zok C l hz
    refine ⟨arr, t, fz, ?_, hl⟩
    rw [hold C (fun e => by subst e; exact absurd (hzB.symm.trans hz) (by simp)) (Array.getElem?_eq_some_iff.1 ho).1]
    exact ho
  · simp only [ht] at hi
    by_cases e : i = M.nx
    · subst e
      rw [Env.ext_same] at hr
      obtain ⟨rfl, rfl⟩ := Prod.mk.inj (Option.some.inj hr)
      exact hzB
    · rw [if_neg e] at hi
      rw [Env.ext_ne _ _ e] at hr
      exact h.zsep i c C y hi hd hr

theorem MRel.still {w0 : World} {R : Nat → Prop} {ρ : Env} {M : Mem} {w : World} (h : MRel w0 R ρ M w) : ρ.z w.heap.size = .none := by
  cases e : ρ.z w.heap.size with
  | none => rfl
  | some l =>
    obtain ⟨arr, t, fz, ho, _⟩ := h.zok _ l e
    simp at ho

/-- a new object at the heap's end -/
theorem MRel.push {w0 : World} {R : Nat → Prop} {ρ : Env} {M : Mem} {w : World} {t' : T Blk} (h : MRel w0 R ρ M w) (b : Blk) (x : Nat) (o : Obj)
    (ht : ∀ k, t'.get k = if k = M.nx then some b else M.t.get k) (hrel : ORel (ρ.ext M.nx (w.heap.size, x)) x b o) :
    MRel w0 R (ρ.ext M.nx (w.heap.size, x)) ⟨t', M.nx + 1⟩ { w with heap := w.heap.push o } := by
  refine h.new b w.heap.size x o ht rfl rfl rfl (by simp) (fun k _ hk => by simp [Array.getElem?_push, Nat.ne_of_lt hk]) (by simp) (fun hR => ?_) (fun i c y hi hd hr => ?_) ?_ hrel
  · exact absurd (Nat.lt_of_lt_of_le (h.rlt _ hR) h.size) (Nat.lt_irrefl _)
  · exact absurd (h.lt hi hd hr) (Nat.lt_irrefl _)
  · exact h.still

/-- a known block turns -/
theorem MRel.set {w0 : World} {R : Nat → Prop} {ρ : Env} {M : Mem} {w w' : World} {t' : T Blk} (h : MRel w0 R ρ M w) {i : Nat} {c : Blk} {B x : Nat} (hi : M.t.get i = some c) (hc : c ≠ .dead) (hr : ρ i = some (B, x)) (b : Blk) (o : Obj)
    (ht : ∀ k, t'.get k = if k = i then some b else M.t.get k)
    (hos : w'.os = w.os) (htape : w'.tape = w.tape) (hout : w'.output = w.output) (hsize : w.heap.size ≤ w'.heap.size)
    (hold : ∀ k, k ≠ B → k < w.heap.size → w'.heap[k]? = w.heap[k]?) (hnew : w'.heap[B]? = some o) (hrel : ORel ρ x b o) :
    MRel w0 R ρ ⟨t', M.nx⟩ w' := by
  obtain ⟨B', x', o', hr', hRB, ho', _⟩ := h.blk i c hi hc
  rw [hr] at hr'
  obtain ⟨rfl, rfl⟩ := Prod.mk.inj (Option.some.inj hr')
  have hzB := h.zsep i c B x hi hc hr
  refine ⟨hos.trans h.os, htape.trans h.tape, hout.trans h.output, Nat.le_trans h.size hsize, fun k hk => ?_, h.rlt, fun j d hj hd => ?_, fun j k d e C y z hj hd hk he hrj hrk => ?_, h.fresh, fun C l hz => ?_, fun j d C y hj hd hrj => ?_, Nat.le_trans h.base hsize⟩
  · rw [hold k (fun e => by subst e; exact hRB hk) (Nat.lt_of_lt_of_le (h.rlt k hk) h.size)]
    exact h.keep k hk
  · simp only [ht] at hj
    by_cases e : j = i
    · subst e
      rw [if_pos rfl] at hj
      obtain rfl := Option.some.inj hj
      exact ⟨B, x, o, hr, hRB, hnew, hrel⟩
    · rw [if_neg e] at hj
      obtain ⟨C, y, o'', hrj, hC, ho, hO⟩ := h.blk j d hj hd
      refine ⟨C, y, o'', hrj, hC, ?_, hO⟩
      rw [hold C (fun e' => by subst e'; exact e (h.inj j i d c C y x hj hd hi hc hrj hr)) (Array.getElem?_eq_some_iff.1 ho).1]
      exact ho
  · simp only [ht] at hj hk
    have hj' : ∃ d', M.t.get j = some d' ∧ d' ≠ .dead := by
      by_cases ej : j = i
      · subst ej; exact ⟨c, hi, hc⟩
      · rw [if_neg ej] at hj; exact ⟨d, hj, hd⟩
    have hk' : ∃ d', M.t.get k = some d' ∧ d' ≠ .dead := by
      by_cases ek : k = i
      · subst ek; exact ⟨c, hi, hc⟩
      · rw [if_neg ek] at hk; exact ⟨e, hk, he⟩
    obtain ⟨d', a1, a2⟩ := hj'
    obtain ⟨e', b1, b2⟩ := hk'
    exact h.inj j k d' e' C y z a1 a2 b1 b2 hrj hrk
  · obtain ⟨arr, t, fz, ho, hl⟩ := h.zok C l hz
    refine ⟨arr, t, fz, ?_, hl⟩
    rw [hold C (fun e => by subst e; exact absurd (hzB.symm.trans hz) (by simp)) (Array.getElem?_eq_some_iff.1 ho).1]
    exact ho
  · simp only [ht] at hj
    by_cases e : j = i
    · subst e; exact h.zsep j c C y hi hc hrj
    · rw [if_neg e] at hj; exact h.zsep j d C y hj hd hrj

/-- a block is known no more -/
theorem MRel.kill {w0 : World} {R : Nat → Prop} {ρ : Env} {M : Mem} {w : World} {t' : T Blk} (h : MRel w0 R ρ M w) (i : Nat) (ht : ∀ k, t'.get k = if k = i then some .dead else M.t.get k) : MRel w0 R ρ ⟨t', M.nx⟩ w := by
  refine ⟨h.os, h.tape, h.output, h.size, h.keep, h.rlt, fun j d hj hd => ?_, fun j k d e C y z hj hd hk he hrj hrk => ?_, h.fresh, h.zok, fun j d C y hj hd hrj => ?_, h.base⟩
  · simp only [ht] at hj
    by_cases e : j = i
    · rw [if_pos e] at hj; exact absurd (Option.some.inj hj).symm hd
    · rw [if_neg e] at hj; exact h.blk j d hj hd
  · simp only [ht] at hj hk
    by_cases ej : j = i
    · rw [if_pos ej] at hj; exact absurd (Option.some.inj hj).symm hd
    · by_cases ek : k = i
      · rw [if_pos ek] at hk; exact absurd (Option.some.inj hk).symm he
      · rw [if_neg ej] at hj; rw [if_neg ek] at hk
        exact h.inj j k d e C y z hj hd hk he hrj hrk
  · simp only [ht] at hj
    by_cases e : j = i
    · rw [if_pos e] at hj; exact absurd (Option.some.inj hj).symm hd
    · rw [if_neg e] at hj; exact h.zsep j d C y hj hd hrj

/-! loads -/
theorem MRel.row {w0 : World} {R : Nat → Prop} {ρ : Env} {M : Mem} {w : World} (h : MRel w0 R ρ M w) {b : Nat} {c : List AV} {op : Bool} {sz B x : Nat} (hb : M.t.get b = some (.row c op sz)) (hr : ρ b = some (B, x)) :
    ∃ arr t, w.heap[B]? = some (.cells arr t (0, 0)) ∧ VsRel ρ c (arr.toList.take c.length) ∧ arr.size = c.length + (if op then x * sz else 0) := by
  obtain ⟨B', x', o, hr', _, ho, hO⟩ := h.blk b _ hb (by simp)
  rw [hr] at hr'
  obtain ⟨rfl, rfl⟩ := Prod.mk.inj (Option.some.inj hr')
  unfold ORel at hO
  cases o <;> simp only at hO
  case cells arr t fz =>
    obtain ⟨h1, h2, rfl⟩ := hO
    exact ⟨arr, t, ho, h1, h2⟩

theorem run_cells {P : Program} {w : World} {B o n : Nat} {arr : Array Value} {t : TypeId} {fz : Nat × Nat} (hb : w.heap[B]? = some (.cells arr t fz)) (h : o + n ≤ arr.size) :
    (loadCells ⟨B, o, none⟩ n).run P w = .ok ((arr.toList.drop o).take n).toArray w := by
  have hlen : ((arr.toList.drop o).take n).length = n := by simp; omega
  have := run_loadCells_list (P := P) w ⟨B, o, none⟩ ((arr.toList.drop o).take n) (fun j v hv => by
    rw [addr_add, cell_of_row w B (o + j) arr t fz hb]
    have hj : j < n := by
      have := (List.getElem?_eq_some_iff.1 hv).1
      omega
    rw [List.getElem?_take_of_lt hj, List.getElem?_drop] at hv
    simpa using hv)
  rwa [hlen] at this

theorem rowOf_sound {P : Program} {b o n : Nat} {M : Mem} {K : List AV → Bool} (h : rowOf b o n M K = true) :
    ∃ l c op sz, K l = true ∧ M.t.get b = some (.row c op sz) ∧ l = (c.drop o).take n ∧ l.length = n ∧ o + n ≤ c.length ∧
      ∀ w0 R ρ w B x, MRel w0 R ρ M w → ρ b = some (B, x) → ∃ vs : List Value, VsRel ρ l vs ∧ (loadCells ⟨B, o, none⟩ n).run P w = .ok vs.toArray w := by
  unfold rowOf at h
  split at h
  · rename_i c op sz hb
    rw [dropK_iff] at h
    obtain ⟨h1, h⟩ := h
    rw [takeK_iff] at h
    obtain ⟨h2, h⟩ := h
    have h3 : o + n ≤ c.length := by simp at h2; omega
    refine ⟨_, c, op, sz, h, hb, rfl, by simp; omega, h3, fun w0 R ρ w B x hM hr => ?_⟩
    obtain ⟨arr, t, ho, hv, hs⟩ := hM.row hb hr
    refine ⟨(arr.toList.drop o).take n, ?_, run_cells ho (by omega)⟩
    have := (hv.drop o).take n
    rwa [List.drop_take, List.take_take, Nat.min_eq_left (by omega)] at this
  · exact absurd h (by simp)

def LoadSim (P : Program) (t : TypeId) (a : AV) (M : Mem) (v : AV) : Prop :=
  ∀ w0 R ρ w ca, MRel w0 R ρ M w → VRel ρ a ca → ∃ cv, VRel ρ v cv ∧ (Instr.loadAt t ca).run P w = .ok cv w

theorem loadA_sound {P : Program} {t : TypeId} {a : AV} {M : Mem} {K : AV → Bool} (h : loadA P t a M K = true) : ∃ v, K v = true ∧ LoadSim P t a M v := by
  unfold loadA at h
  split at h
  · rename_i b o
    split at h
    · rename_i c op sz hb
      unfold partK at h
      split at h
      · rename_i n hs
        have hrow : rowOf b o n M (fun r => K (.agg r)) = true := by unfold rowOf; rw [hb]; exact h
        obtain ⟨l, c', op', sz', hK, hb', hl, hlen, hle, H⟩ := rowOf_sound (P := P) hrow
        refine ⟨_, hK, fun w0 R ρ w ca hM ha => ?_⟩
        cases ha with
        | ptr _ _ B x hr =>
          obtain ⟨vs, hv, hrun⟩ := H w0 R ρ w B x hM hr
          refine ⟨.agg vs.toArray, .agg _ _ (by simpa using hv), ?_⟩
          have := run_isAgg_agg hs w
          simp [Instr.loadAt, Instr.sureAddr, loadVar, this.1, this.2, hrun]
      · rename_i hs
        rw [dropK_iff] at h
        obtain ⟨h1, h⟩ := h
        rw [headK_iff] at h
        obtain ⟨v, r, hd, h⟩ := h
        refine ⟨v, h, fun w0 R ρ w ca hM ha => ?_⟩
        cases ha with
        | ptr _ _ B x hr =>
          obtain ⟨arr, t', ho, hv, hsz⟩ := hM.row hb hr
          have hget : c[o]? = some v := by
            have : (c.drop o)[0]? = some v := by rw [hd]; rfl
            simpa using this
          obtain ⟨cv, hcv, hrel⟩ := hv.get' hget
          refine ⟨cv, hrel, ?_⟩
          have hlt : o < c.length := (List.getElem?_eq_some_iff.1 hget).1
          rw [List.getElem?_take_of_lt hlt] at hcv
          have hcell : w.cell? ⟨B, o, none⟩ = some cv := by rw [cell_of_row w B o arr t' (0, 0) ho]; simpa using hcv
          simp [Instr.loadAt, Instr.sureAddr, loadVar, run_isAgg_one hs w, hcell]
      · exact absurd h (by simp)
    · exact absurd h (by simp)
  · rename_i c o
    unfold partK at h
    split at h
    · rename_i n hs
      rw [dropK_iff] at h
      obtain ⟨h1, h⟩ := h
      rw [takeK_iff] at h
      obtain ⟨h2, h⟩ := h
      refine ⟨_, h, fun w0 R ρ w ca hM ha => ?_⟩
      cases ha with
      | dptr _ _ B b l hz hle hd =>
        obtain ⟨arr, t', fz, ho, hl⟩ := hM.zok B l hz
        rw [toAVs_length] at h1
        simp only [List.length_drop, toAVs_length] at h2
        have hal : l.length ≤ arr.size := by
          have := congrArg List.length hl
          simp at this; omega
        have hv := (hd.toAVs.drop o).take n
        refine ⟨.agg (((arr.toList.drop (b + o)).take n).toArray), .agg _ _ ?_, ?_⟩
        · have e2 : (arr.toList.drop (b + o)).take n = ((((l.drop b).take c.length)).drop o).take n := by
            rw [← hl]
            simp only [List.drop_take, List.take_take, List.drop_drop]
            congr 1
            omega
          simpa [e2] using hv
        · have h3 := run_cells (P := P) (w := w) (B := B) (o := b + o) (n := n) ho (by omega)
          have := run_isAgg_agg hs w
          simp [Instr.loadAt, Instr.sureAddr, loadVar, this.1, this.2, h3]
    · rename_i hs
      rw [dropK_iff] at h
      obtain ⟨h1, h⟩ := h
      rw [headK_iff] at h
      obtain ⟨v, r, hdr, h⟩ := h
      refine ⟨v, h, fun w0 R ρ w ca hM ha => ?_⟩
      cases ha with
      | dptr _ _ B b l hz hle hd =>
        obtain ⟨arr, t', fz, ho, hl⟩ := hM.zok B l hz
        have hget : (toAVs c)[o]? = some v := by
          have : ((toAVs c).drop o)[0]? = some v := by rw [hdr]; rfl
          simpa using this
        obtain ⟨cv, hcv, hrel⟩ := hd.toAVs.get' hget
        refine ⟨cv, hrel, ?_⟩
        have hlt : o < c.length := by have := (List.getElem?_eq_some_iff.1 hget).1; rwa [toAVs_length] at this
        rw [List.getElem?_take_of_lt hlt, List.getElem?_drop] at hcv
        have hlt2 : b + o < l.length := (List.getElem?_eq_some_iff.1 hcv).1
        have hcell : w.cell? ⟨B, b + o, none⟩ = some cv := by
          rw [cell_of_row w B (b + o) arr t' fz ho]
          rw [← hl, List.getElem?_take_of_lt hlt2] at hcv
          simpa using hcv
        simp [Instr.loadAt, Instr.sureAddr, loadVar, run_isAgg_one hs w, hcell]
    · exact absurd h (by simp)
  · exact absurd h (by simp)
end Go.Eng

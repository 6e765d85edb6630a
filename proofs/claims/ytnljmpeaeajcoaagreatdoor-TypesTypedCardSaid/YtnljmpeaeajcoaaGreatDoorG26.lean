/- A part of the proof over this seat's program: the checked evaluator and its soundness (E..), and what it gives here (the others). No condition. -/
import Derived.Test.YtnljmpeaeajcoaaGreatDoorG25
set_option linter.unusedSectionVars false
namespace Go.Eng
open Go
variable [Mode]

/-! FREEZING, piece by piece -/
theorem FzDs.sames {k : Nat} {M : Mem} : ∀ ds : List Dat, FzDs k M (toAVs ds) ds
  | [] => .nil
  | d :: ds => .cons _ _ _ _ (.same d) (FzDs.sames ds)
theorem FzAs.sames {k : Nat} {M : Mem} : ∀ ds : List Dat, FzAs k M (toAVs ds) (toAVs ds)
  | [] => .nil
  | d :: ds => .cons _ _ _ _ (.dat _ _ (.same d)) (FzAs.sames ds)
theorem FzA.plain {k : Nat} {M : Mem} (d : Dat) : FzA k M (toAV d) (toAV d) := .dat _ _ (.same d)
theorem FzA.aggs {k : Nat} {M : Mem} (ds : List Dat) : FzA k M (.agg (toAVs ds)) (.agg (toAVs ds)) := .agg _ _ (FzAs.sames ds)
theorem toAVs_append (l m : List Dat) : toAVs (l ++ m) = toAVs l ++ toAVs m := by
  induction l with
  | nil => rfl
  | cons d l ih => show toAV d :: toAVs (l ++ m) = _; rw [ih]; rfl
theorem toAVs_drop (l : List Dat) (n : Nat) : (toAVs l).drop n = toAVs (l.drop n) := by
  induction l generalizing n with
  | nil => simp [toAVs]
  | cons d l ih =>
    cases n with
    | zero => rfl
    | succ n => exact ih n
theorem toAVs_take (l : List Dat) (n : Nat) : (toAVs l).take n = toAVs (l.take n) := by
  induction l generalizing n with
  | nil => simp [toAVs]
  | cons d l ih =>
    cases n with
    | zero => rfl
    | succ n => show toAV d :: (toAVs l).take n = _; rw [ih]; rfl
theorem chunk_get {α : Type} {sz : Nat} : ∀ (l : List (List α)) (i : Nat), (∀ c ∈ l, c.length = sz) → i < l.length → (l.flatten.drop (i * sz)).take sz = l.getD i [] := by
  intro l
  induction l with
  | nil => intro i _ h; exact absurd h (Nat.not_lt_zero _)
  | cons c l ih =>
    intro i hc hi
    have h0 : c.length = sz := hc c (List.mem_cons_self ..)
    cases i with
    | zero =>
      rw [Nat.zero_mul, List.drop_zero, List.flatten_cons, List.getD_cons_zero, ← h0, List.take_left]
    | succ i =>
      rw [Nat.succ_mul, List.flatten_cons, List.getD_cons_succ, Nat.add_comm, ← List.drop_drop, ← h0, List.drop_left, h0]
      exact ih i (fun c h => hc c (List.mem_cons_of_mem _ h)) (by simpa using hi)
theorem flatten_len {α : Type} {sz : Nat} : ∀ (l : List (List α)), (∀ c ∈ l, c.length = sz) → l.flatten.length = l.length * sz := by
  intro l
  induction l with
  | nil => intro _; simp
  | cons c l ih =>
    intro h
    rw [List.flatten_cons, List.length_append, h c (List.mem_cons_self ..), ih fun d hd => h d (List.mem_cons_of_mem _ hd), List.length_cons, Nat.succ_mul, Nat.add_comm]
/-- a slice over a row that holds data, element by element -/
theorem FzD.chunks {k : Nat} {M : Mem} {b cap sz' : Nat} {op op' : Bool} (l : List (List Dat)) (sz : Nat) (hk : k ≤ b) (hb : M.t.get b = some (.row (toAVs l.flatten) op' sz')) (hc : l.length ≤ cap) (hl : ∀ c ∈ l, c.length = sz) :
    FzD k M (.slice b 0 l.length cap op) (.slice l.length sz (fun i => l.getD i [])) := by
  refine .slice b 0 l.length cap op _ op' sz' sz _ hk hb hc ?_ fun i hi => ?_
  · rw [toAVs_length, flatten_len l hl]; omega
  · rw [Nat.zero_add, toAVs_drop, toAVs_take, chunk_get l i hl hi]
    exact FzDs.sames _

def codeOf (fn : Func) : Code := match fn.body with | some c => c | none => .skip
theorem codeOf_some {fn : Func} (h : fn.body.isSome = true) : fn.body = some (codeOf fn) := by
  unfold codeOf
  cases e : fn.body with
  | none => rw [e] at h; cases h
  | some c => rfl
def endK (o : AE) (b : Bool) : Bool := match o with | .normal => b | .ret => b | .exit _ => false
/-- the facts of a function that a run needs -/
structure FnOk (P : Program) (f : FuncId) (fn : Func) : Prop where
  at_ : P.funcs[f]? = some fn
  body : fn.body.isSome = true
  name : (fn.name == "runtime.NumGoroutine") = false
/-- what a leaf of the run must show -/
def Leaf (k : Nat) (π : List Nat) (rows1 : List (List Dat)) (ans : AV) (v : AV) (bs : List (Option Blk)) : Prop :=
  ∀ M', mv π M' = bs → FzA k M' v ans ∧ ∀ (j : Nat) (r : List Dat), rows1[j]? = some r → ∃ c sz, M'.t.get j = some (.row c false sz) ∧ FzDs k M' c r

theorem BSim.exec {P : Program} (hm : P.follows .mixedOrders = true) {X : FuncId → Option Ext} (hX : ∀ f x, X f = some x → ExtSpec P f x) {S : List (FuncId × SEnt)} (hS : ∀ e ∈ S, SSpec P e.1 e.2) {f : FuncId} {fn : Func} (hf : FnOk P f fn)
    {args0 : List AV} {rows0 rows1 : List (List Dat)} {ans : AV} (hlen : Nat.ble args0.length fn.ntmps = true) (hrows : rows1.length = rows0.length) (n : Nat) (J : AV → Mem → Bool)
    (h : Eng.exec P X S n fn.ntmps (codeOf fn) (mkFr (argSlots args0 0)) (mkMem (rowsOf rows0)) (fun o fr M => endK o (resK P fr M fn.results.toList fun vs => J (oneOf vs) M)) = true)
    (hJ : ∀ v M', J v M' = true → FzA rows0.length M' v ans ∧ ∀ (j : Nat) (r : List Dat), rows1[j]? = some r → ∃ c sz, M'.t.get j = some (.row c false sz) ∧ FzDs rows0.length M' c r) : BSim P f args0 rows0 rows1 ans := by
  refine BSim.of_W hf.at_ (codeOf_some hf.body) hf.name (nble_le hlen) hrows ((W.exec hm hX hS (k := rows0.length) h).mono fun o fr' M' hK => ?_)
  have hend : (o = .normal ∨ o = .ret) ∧ resK P fr' M' fn.results.toList (fun vs => J (oneOf vs) M') = true := by
    cases o with
    | normal => exact ⟨.inl rfl, hK⟩
    | ret => exact ⟨.inr rfl, hK⟩
    | exit id => exact absurd hK (by simp [endK])
  obtain ⟨ho, hres⟩ := hend
  refine ⟨ho, ?_⟩
  clear h
  have : ∀ (l : List ResultVar) (J : List AV → Bool), resK P fr' M' l J = true → ∃ vs, J vs = true ∧ ∀ J' : List AV → Bool, J' vs = true → resK P fr' M' l J' = true := by
    intro l
    induction l with
    | nil => intro J h; exact ⟨[], h, fun J' h' => h'⟩
    | cons r l ih =>
      intro J h
      cases r with
      | tmp t =>
        change (getT fr' t fun v => resK P fr' M' l fun vs => J (v :: vs)) = true at h
        rw [getT_iff] at h
        obtain ⟨av, hav, h⟩ := h
        obtain ⟨vs, h1, h2⟩ := ih _ h
        refine ⟨av :: vs, h1, fun J' h' => ?_⟩
        show (getT fr' t fun v => resK P fr' M' l fun vs => J' (v :: vs)) = true
        rw [getT_iff]
        exact ⟨av, hav, h2 (fun vs => J' (av :: vs)) h'⟩
      | cell x t =>
        change (getT fr' x fun p => loadA P t p M' fun v => resK P fr' M' l fun vs => J (v :: vs)) = true at h
        rw [getT_iff] at h
        obtain ⟨av, hav, h⟩ := h
        obtain ⟨u, hu1, hu2⟩ : ∃ u, (resK P fr' M' l fun vs => J (u :: vs)) = true ∧ ∀ J' : AV → Bool, J' u = true → loadA P t av M' J' = true := by
          unfold loadA at h
          split at h
          · rename_i b o
            split at h
            · rename_i c op sz hb
              obtain ⟨u, h1, h2⟩ : ∃ u, (resK P fr' M' l fun vs => J (u :: vs)) = true ∧ ∀ J' : AV → Bool, J' u = true → partK P t c o J' = true := by
                unfold partK at h ⊢
                split at h
                · rw [dropK_iff] at h
                  obtain ⟨h1, h⟩ := h
                  rw [takeK_iff] at h
                  exact ⟨_, h.2, fun J' hJ => by rw [dropK_iff, takeK_iff]; exact ⟨h1, h.1, hJ⟩⟩
                · rw [dropK_iff] at h
                  obtain ⟨h1, h⟩ := h
                  rw [headK_iff] at h
                  obtain ⟨x, r, e, h⟩ := h
                  exact ⟨x, h, fun J' hJ => by rw [dropK_iff, headK_iff]; exact ⟨h1, x, r, e, hJ⟩⟩
                · exact absurd h (by simp)
              exact ⟨u, h1, fun J' hJ => by simp only [loadA, hb]; exact h2 J' hJ⟩
            · exact absurd h (by simp)
          · rename_i c o
            obtain ⟨u, h1, h2⟩ : ∃ u, (resK P fr' M' l fun vs => J (u :: vs)) = true ∧ ∀ J' : AV → Bool, J' u = true → partK P t (toAVs c) o J' = true := by
              unfold partK at h ⊢
              split at h
              · rw [dropK_iff] at h
                obtain ⟨h1, h⟩ := h
                rw [takeK_iff] at h
                exact ⟨_, h.2, fun J' hJ => by rw [dropK_iff, takeK_iff]; exact ⟨h1, h.1, hJ⟩⟩
              · rw [dropK_iff] at h
                obtain ⟨h1, h⟩ := h
                rw [headK_iff] at h
                obtain ⟨x, r, e, h⟩ := h
                exact ⟨x, h, fun J' hJ => by rw [dropK_iff, headK_iff]; exact ⟨h1, x, r, e, hJ⟩⟩
              · exact absurd h (by simp)
            exact ⟨u, h1, fun J' hJ => by simp only [loadA]; exact h2 J' hJ⟩
          · exact absurd h (by simp)
        obtain ⟨vs, h1, h2⟩ := ih _ hu1
        refine ⟨u :: vs, h1, fun J' h' => ?_⟩
        show (getT fr' x fun p => loadA P t p M' fun v => resK P fr' M' l fun vs => J' (v :: vs)) = true
        rw [getT_iff]
        exact ⟨av, hav, hu2 _ (h2 (fun vs => J' (u :: vs)) h')⟩
  obtain ⟨vs, h1, h2⟩ := this _ _ hres
  refine ⟨vs, h2 _ (pdec_iff.2 rfl), ?_⟩
  exact hJ _ _ h1
theorem BSim.run {P : Program} (hm : P.follows .mixedOrders = true) {X : FuncId → Option Ext} (hX : ∀ f x, X f = some x → ExtSpec P f x) {S : List (FuncId × SEnt)} (hS : ∀ e ∈ S, SSpec P e.1 e.2) {f : FuncId} {fn : Func} (hf : FnOk P f fn)
    {args0 : List AV} {rows0 rows1 : List (List Dat)} {ans : AV} (hlen : Nat.ble args0.length fn.ntmps = true) (hrows : rows1.length = rows0.length) (n : Nat) (π : List Nat) (T : (AV → List (Option Blk) → Bool) → Bool)
    (h : ∀ I : AV → List (Option Blk) → Bool, Eng.exec P X S n fn.ntmps (codeOf fn) (mkFr (argSlots args0 0)) (mkMem (rowsOf rows0)) (fun o fr M => endK o (resK P fr M fn.results.toList fun vs => I (oneOf vs) (mv π M))) = T I)
    (hT : T (fun v bs => pdec (Leaf rows0.length π rows1 ans v bs)) = true) : BSim P f args0 rows0 rows1 ans :=
  BSim.exec hm hX hS hf hlen hrows n (fun v M => pdec (Leaf rows0.length π rows1 ans v (mv π M))) ((h fun v bs => pdec (Leaf rows0.length π rows1 ans v bs)).trans hT) fun v M' hJ => pdec_iff.1 hJ M' rfl

theorem rows_of_mv {k : Nat} {M' : Mem} : ∀ {rows1 : List (List Dat)} {i : Nat}, mv (List.range' i rows1.length) M' = (rowsOf rows1).map some → ∀ (j : Nat) (r : List Dat), rows1[j]? = some r → ∃ c sz, M'.t.get (i + j) = some (.row c false sz) ∧ FzDs k M' c r := by
  intro rows1
  induction rows1 with
  | nil => intro i _ j r h; simp at h
  | cons q rows1 ih =>
    intro i h j r hj
    simp only [List.length_cons, List.range'_succ, mv, rowsOf, List.map_cons, List.cons.injEq] at h
    cases j with
    | zero =>
      obtain rfl : q = r := by simpa using hj
      refine ⟨_, _, by simpa using h.1, ?_⟩
      have : ∀ ds : List Dat, FzDs k M' (toAVs ds) ds := by
        intro ds
        induction ds with
        | nil => exact .nil
        | cons d ds ih => exact .cons _ _ _ _ (.same d) ih
      exact this q
    | succ j =>
      obtain ⟨c, sz, h1, h2⟩ := ih h.2 j r (by simpa using hj)
      exact ⟨c, sz, by rw [show i + (j + 1) = i + 1 + j by omega]; exact h1, h2⟩
/-- a leaf that gives data at once -/
theorem Leaf.of {k : Nat} {rows1 : List (List Dat)} {ans v : AV} {π : List Nat} {bs : List (Option Blk)} (h : ∀ M', mv π M' = bs → FzA k M' v ans) : Leaf k (List.range' 0 rows1.length ++ π) rows1 ans v ((rowsOf rows1).map some ++ bs) := by
  intro M' hm
  unfold mv at hm
  rw [List.map_append] at hm
  have hl : ((List.range' 0 rows1.length).map fun b => M'.t.get b).length = ((rowsOf rows1).map some).length := by simp [rowsOf]
  obtain ⟨h1, h2⟩ := List.append_inj hm hl
  refine ⟨h M' h2, fun j r hj => ?_⟩
  have := rows_of_mv (k := k) (i := 0) h1 j r hj
  simpa using this
theorem Leaf.box {k : Nat} {r : List Dat} {ans v : AV} {π : List Nat} {bs : List (Option Blk)} (h : ∀ M', mv π M' = bs → FzA k M' v ans) : Leaf k (0 :: π) [r] ans v (some (.row (toAVs r) false 1) :: bs) := Leaf.of (rows1 := [r]) h
theorem Leaf.flat {k : Nat} {ans v : AV} {π : List Nat} {bs : List (Option Blk)} (h : ∀ M', mv π M' = bs → FzA k M' v ans) : Leaf k π [] ans v bs := Leaf.of (rows1 := []) h
/-- a call by pointers to nothing, from data to data -/
theorem BSim.spec0 {P : Program} {f : FuncId} {args : List AV} {ans : AV} (h : BSim P f args [] [] ans) (ha : mapO (renT []) args = some args) : SSpec P f ⟨args, [], ans⟩ := h [] args rfl List.nodup_nil ha
theorem BSim.spec1 {P : Program} {f : FuncId} {args args' : List AV} {r s : List Dat} {ans : AV} (h : BSim P f args [r] [s] ans) (b : Nat) (ha : mapO (renT [b]) args = some args') : SSpec P f ⟨args', [(b, toAVs r, toAVs s)], ans⟩ := h [b] args' rfl (by simp) ha
end Go.Eng

/- A part of the proof over this seat's program: the checked evaluator and its soundness (E..), and what it gives here (the others). No condition. -/
import Derived.Test.YtnljmpeaeajcoaaGreatDoorG29
set_option linter.unusedSectionVars false
namespace Go.Eng
open Go
variable [Mode]
def LeafG (k : Nat) (π : List Nat) (rows1 : List (List AV)) (ans : AV) (v : AV) (bs : List (Option Blk)) : Prop :=
  ∀ M', mv π M' = bs → FzA k M' v ans ∧ ∀ (j : Nat) (r : List AV), rows1[j]? = some r → ∃ c sz, M'.t.get j = some (.row c false sz) ∧ FzBs k M' c r

theorem BSimG.exec {P : Program} (hm : P.follows .mixedOrders = true) {X : FuncId → Option Ext} (hX : ∀ f x, X f = some x → ExtSpec P f x) {S : List (FuncId × SEnt)} (hS : ∀ e ∈ S, SSpec P e.1 e.2) {f : FuncId} {fn : Func} (hf : FnOk P f fn)
    {args0 : List AV} {rows0 rows1 : List (List AV)} {ans : AV} (hlen : Nat.ble args0.length fn.ntmps = true) (hrows : rows1.length = rows0.length) (n : Nat) (J : AV → Mem → Bool)
    (h : Eng.exec P X S n fn.ntmps (codeOf fn) (mkFr (argSlots args0 0)) (mkMem (rowsG rows0)) (fun o fr M => endK o (resK P fr M fn.results.toList fun vs => J (oneOf vs) M)) = true)
    (hJ : ∀ v M', J v M' = true → FzA rows0.length M' v ans ∧ ∀ (j : Nat) (r : List AV), rows1[j]? = some r → ∃ c sz, M'.t.get j = some (.row c false sz) ∧ FzBs rows0.length M' c r) : BSimG P f args0 rows0 rows1 ans := by
  refine BSimG.of_W hf.at_ (codeOf_some hf.body) hf.name (nble_le hlen) hrows ((W.exec hm hX hS (k := rows0.length) h).mono fun o fr' M' hK => ?_)
  have hend : (o = .normal ∨ o = .ret) ∧ resK P fr' M' fn.results.toList (fun vs => J (oneOf vs) M') = true := by
    cases o with
    | normal => exact ⟨.inl rfl, hK⟩
    | ret => exact ⟨.inr rfl, hK⟩
    | exit id => exact absurd hK (by simp [endK])
  obtain ⟨ho, hres⟩ := hend
  refine ⟨ho, ?_⟩
  clear h
  have : ∀ (l : List ResultVar) (J : List AV → Bool), resK P fr' M' l J = true → ∃ vs, J vs = true ∧ ∀ J' : List AV → Bool, J' vs = true → resK P fr' M' l J' = true := by
    intro l
    induction l with
    | nil => intro J h; exact ⟨[], h, fun J' h' => h'⟩
    | cons r l ih =>
      intro J h
      cases r with
      | tmp t =>
        change (getT fr' t fun v => resK P fr' M' l fun vs => J (v :: vs)) = true at h
        rw [getT_iff] at h
        obtain ⟨av, hav, h⟩ := h
        obtain ⟨vs, h1, h2⟩ := ih _ h
        refine ⟨av :: vs, h1, fun J' h' => ?_⟩
        show (getT fr' t fun v => resK P fr' M' l fun vs => J' (v :: vs)) = true
        rw [getT_iff]
        exact ⟨av, hav, h2 (fun vs => J' (av :: vs)) h'⟩
      | cell x t =>
        change (getT fr' x fun p => loadA P t p M' fun v => resK P fr' M' l fun vs => J (v :: vs)) = true at h
        rw [getT_iff] at h
        obtain ⟨av, hav, h⟩ := h
        obtain ⟨u, hu1, hu2⟩ : ∃ u, (resK P fr' M' l fun vs => J (u :: vs)) = true ∧ ∀ J' : AV → Bool, J' u = true → loadA P t av M' J' = true := by
          unfold loadA at h
          split at h
          · rename_i b o
            split at h
            · rename_i c op sz hb
              obtain ⟨u, h1, h2⟩ : ∃ u, (resK P fr' M' l fun vs => J (u :: vs)) = true ∧ ∀ J' : AV → Bool, J' u = true → partK P t c o J' = true := by
                unfold partK at h ⊢
                split at h
                · rw [dropK_iff] at h
                  obtain ⟨h1, h⟩ := h
                  rw [takeK_iff] at h
                  exact ⟨_, h.2, fun J' hJ => by rw [dropK_iff, takeK_iff]; exact ⟨h1, h.1, hJ⟩⟩
                · rw [dropK_iff] at h
                  obtain ⟨h1, h⟩ := h
                  rw [headK_iff] at h
                  obtain ⟨x, r, e, h⟩ := h
                  exact ⟨x, h, fun J' hJ => by rw [dropK_iff, headK_iff]; exact ⟨h1, x, r, e, hJ⟩⟩
                · exact absurd h (by simp)
              exact ⟨u, h1, fun J' hJ => by simp only [loadA, hb]; exact h2 J' hJ⟩
            · exact absurd h (by simp)
          · rename_i c o
            obtain ⟨u, h1, h2⟩ : ∃ u, (resK P fr' M' l fun vs => J (u :: vs)) = true ∧ ∀ J' : AV → Bool, J' u = true → partK P t (toAVs c) o J' = true := by
              unfold partK at h ⊢
              split at h
              · rw [dropK_iff] at h
                obtain ⟨h1, h⟩ := h
                rw [takeK_iff] at h
                exact ⟨_, h.2, fun J' hJ => by rw [dropK_iff, takeK_iff]; exact ⟨h1, h.1, hJ⟩⟩
              · rw [dropK_iff] at h
                obtain ⟨h1, h⟩ := h
                rw [headK_iff] at h
                obtain ⟨x, r, e, h⟩ := h
                exact ⟨x, h, fun J' hJ => by rw [dropK_iff, headK_iff]; exact ⟨h1, x, r, e, hJ⟩⟩
              · exact absurd h (by simp)
            exact ⟨u, h1, fun J' hJ => by simp only [loadA]; exact h2 J' hJ⟩
          · exact absurd h (by simp)
        obtain ⟨vs, h1, h2⟩ := ih _ hu1
        refine ⟨u :: vs, h1, fun J' h' => ?_⟩
        show (getT fr' x fun p => loadA P t p M' fun v => resK P fr' M' l fun vs => J' (v :: vs)) = true
        rw [getT_iff]
        exact ⟨av, hav, hu2 _ (h2 (fun vs => J' (u :: vs)) h')⟩
  obtain ⟨vs, h1, h2⟩ := this _ _ hres
  refine ⟨vs, h2 _ (pdec_iff.2 rfl), ?_⟩
  exact hJ _ _ h1
theorem BSimG.run {P : Program} (hm : P.follows .mixedOrders = true) {X : FuncId → Option Ext} (hX : ∀ f x, X f = some x → ExtSpec P f x) {S : List (FuncId × SEnt)} (hS : ∀ e ∈ S, SSpec P e.1 e.2) {f : FuncId} {fn : Func} (hf : FnOk P f fn)
    {args0 : List AV} {rows0 rows1 : List (List AV)} {ans : AV} (hlen : Nat.ble args0.length fn.ntmps = true) (hrows : rows1.length = rows0.length) (n : Nat) (π : List Nat) (T : (AV → List (Option Blk) → Bool) → Bool)
    (h : ∀ I : AV → List (Option Blk) → Bool, Eng.exec P X S n fn.ntmps (codeOf fn) (mkFr (argSlots args0 0)) (mkMem (rowsG rows0)) (fun o fr M => endK o (resK P fr M fn.results.toList fun vs => I (oneOf vs) (mv π M))) = T I)
    (hT : T (fun v bs => pdec (LeafG rows0.length π rows1 ans v bs)) = true) : BSimG P f args0 rows0 rows1 ans :=
  BSimG.exec hm hX hS hf hlen hrows n (fun v M => pdec (LeafG rows0.length π rows1 ans v (mv π M))) ((h fun v bs => pdec (LeafG rows0.length π rows1 ans v bs)).trans hT) fun v M' hJ => pdec_iff.1 hJ M' rfl


/-- the rows, read off -/
theorem rowsG_of_mv {k : Nat} {M' : Mem} : ∀ {rows1 : List (List AV)} {i : Nat}, mv (List.range' i rows1.length) M' = (rowsG rows1).map some → (∀ r ∈ rows1, FzBs k M' r r) → ∀ (j : Nat) (r : List AV), rows1[j]? = some r → ∃ c sz, M'.t.get (i + j) = some (.row c false sz) ∧ FzBs k M' c r := by
  intro rows1
  induction rows1 with
  | nil => intro i _ _ j r h; simp at h
  | cons q rows1 ih =>
    intro i h hf j r hj
    simp only [List.length_cons, List.range'_succ, mv, rowsG, List.map_cons, List.cons.injEq] at h
    cases j with
    | zero =>
      obtain rfl : q = r := by simpa using hj
      exact ⟨_, _, by simpa using h.1, hf q (List.mem_cons_self ..)⟩
    | succ j =>
      obtain ⟨c, sz, h1, h2⟩ := ih h.2 (fun r hr => hf r (List.mem_cons_of_mem _ hr)) j r (by simpa using hj)
      exact ⟨c, sz, by rw [show i + (j + 1) = i + 1 + j by omega]; exact h1, h2⟩
theorem LeafG.of {k : Nat} {rows1 : List (List AV)} {ans v : AV} {π : List Nat} {bs : List (Option Blk)} (hf : ∀ M', ∀ r ∈ rows1, FzBs k M' r r) (h : ∀ M', mv π M' = bs → FzA k M' v ans) : LeafG k (List.range' 0 rows1.length ++ π) rows1 ans v ((rowsG rows1).map some ++ bs) := by
  intro M' hm
  unfold mv at hm
  rw [List.map_append] at hm
  have hl : ((List.range' 0 rows1.length).map fun b => M'.t.get b).length = ((rowsG rows1).map some).length := by simp [rowsG]
  obtain ⟨h1, h2⟩ := List.append_inj hm hl
  refine ⟨h M' h2, fun j r hj => ?_⟩
  have := rowsG_of_mv (k := k) (i := 0) h1 (hf M') j r hj
  simpa using this
theorem FzB.plain {k : Nat} {M : Mem} (d : Dat) : FzB k M (toAV d) (toAV d) := .cell _ _ (.dat _ _ (.same d))
end Go.Eng

/- A part of the proof over this seat's program: the checked evaluator and its soundness (E..), and what it gives here (the others). No condition. -/
import Derived.Test.YtnljmpeaeajcoaaGreatDoorG30
set_option linter.unusedSectionVars false
namespace Go.Eng
open Go
variable [Mode]
theorem W.fin {P : Program} (hm : P.follows .mixedOrders = true) {X : FuncId → Option Ext} (hX : ∀ f x, X f = some x → ExtSpec P f x) {S : List (FuncId × SEnt)} (hS : ∀ e ∈ S, SSpec P e.1 e.2) {fn : Func} {nt k : Nat} {c : Code} {fr : Fr} {M : Mem}
    {rows1 : List (List Dat)} {ans : AV} (n : Nat) (J : AV → Mem → Bool)
    (h : Eng.exec P X S n nt c fr M (fun o fr M => endK o (resK P fr M fn.results.toList fun vs => J (oneOf vs) M)) = true)
    (hJ : ∀ v M', J v M' = true → FzA k M' v ans ∧ ∀ (j : Nat) (r : List Dat), rows1[j]? = some r → ∃ c sz, M'.t.get j = some (.row c false sz) ∧ FzDs k M' c r) : W P nt k c fr M (Fin P fn k rows1 ans) := by
  refine (W.exec hm hX hS (k := k) h).mono fun o fr' M' hK => ?_
  have hend : (o = .normal ∨ o = .ret) ∧ resK P fr' M' fn.results.toList (fun vs => J (oneOf vs) M') = true := by
    cases o with
    | normal => exact ⟨.inl rfl, hK⟩
    | ret => exact ⟨.inr rfl, hK⟩
    | exit id => exact absurd hK (by simp [endK])
  obtain ⟨ho, hres⟩ := hend
  refine ⟨ho, ?_⟩
  clear h
  have : ∀ (l : List ResultVar) (J : List AV → Bool), resK P fr' M' l J = true → ∃ vs, J vs = true ∧ ∀ J' : List AV → Bool, J' vs = true → resK P fr' M' l J' = true := by
    intro l
    induction l with
    | nil => intro J h; exact ⟨[], h, fun J' h' => h'⟩
    | cons r l ih =>
      intro J h
      cases r with
      | tmp t =>
        change (getT fr' t fun v => resK P fr' M' l fun vs => J (v :: vs)) = true at h
        rw [getT_iff] at h
        obtain ⟨av, hav, h⟩ := h
        obtain ⟨vs, h1, h2⟩ := ih _ h
        refine ⟨av :: vs, h1, fun J' h' => ?_⟩
        show (getT fr' t fun v => resK P fr' M' l fun vs => J' (v :: vs)) = true
        rw [getT_iff]
        exact ⟨av, hav, h2 (fun vs => J' (av :: vs)) h'⟩
      | cell x t =>
        change (getT fr' x fun p => loadA P t p M' fun v => resK P fr' M' l fun vs => J (v :: vs)) = true at h
        rw [getT_iff] at h
        obtain ⟨av, hav, h⟩ := h
        obtain ⟨u, hu1, hu2⟩ : ∃ u, (resK P fr' M' l fun vs => J (u :: vs)) = true ∧ ∀ J' : AV → Bool, J' u = true → loadA P t av M' J' = true := by
          unfold loadA at h
          split at h
          · rename_i b o
            split at h
            · rename_i c op sz hb
              obtain ⟨u, h1, h2⟩ : ∃ u, (resK P fr' M' l fun vs => J (u :: vs)) = true ∧ ∀ J' : AV → Bool, J' u = true → partK P t c o J' = true := by
                unfold partK at h ⊢
                split at h
                · rw [dropK_iff] at h
                  obtain ⟨h1, h⟩ := h
                  rw [takeK_iff] at h
                  exact ⟨_, h.2, fun J' hJ => by rw [dropK_iff, takeK_iff]; exact ⟨h1, h.1, hJ⟩⟩
                · rw [dropK_iff] at h
                  obtain ⟨h1, h⟩ := h
                  rw [headK_iff] at h
                  obtain ⟨x, r, e, h⟩ := h
                  exact ⟨x, h, fun J' hJ => by rw [dropK_iff, headK_iff]; exact ⟨h1, x, r, e, hJ⟩⟩
                · exact absurd h (by simp)
              exact ⟨u, h1, fun J' hJ => by simp only [loadA, hb]; exact h2 J' hJ⟩
            · exact absurd h (by simp)
          · rename_i c o
            obtain ⟨u, h1, h2⟩ : ∃ u, (resK P fr' M' l fun vs => J (u :: vs)) = true ∧ ∀ J' : AV → Bool, J' u = true → partK P t (toAVs c) o J' = true := by
              unfold partK at h ⊢
              split at h
              · rw [dropK_iff] at h
                obtain ⟨h1, h⟩ := h
                rw [takeK_iff] at h
                exact ⟨_, h.2, fun J' hJ => by rw [dropK_iff, takeK_iff]; exact ⟨h1, h.1, hJ⟩⟩
              · rw [dropK_iff] at h
                obtain ⟨h1, h⟩ := h
                rw [headK_iff] at h
                obtain ⟨x, r, e, h⟩ := h
                exact ⟨x, h, fun J' hJ => by rw [dropK_iff, headK_iff]; exact ⟨h1, x, r, e, hJ⟩⟩
              · exact absurd h (by simp)
            exact ⟨u, h1, fun J' hJ => by simp only [loadA]; exact h2 J' hJ⟩
          · exact absurd h (by simp)
        obtain ⟨vs, h1, h2⟩ := ih _ hu1
        refine ⟨u :: vs, h1, fun J' h' => ?_⟩
        show (getT fr' x fun p => loadA P t p M' fun v => resK P fr' M' l fun vs => J' (v :: vs)) = true
        rw [getT_iff]
        exact ⟨av, hav, hu2 _ (h2 (fun vs => J' (u :: vs)) h')⟩
  obtain ⟨vs, h1, h2⟩ := this _ _ hres
  refine ⟨vs, h2 _ (pdec_iff.2 rfl), ?_⟩
  exact hJ _ _ h1

theorem W.finRun {P : Program} (hm : P.follows .mixedOrders = true) {X : FuncId → Option Ext} (hX : ∀ f x, X f = some x → ExtSpec P f x) {S : List (FuncId × SEnt)} (hS : ∀ e ∈ S, SSpec P e.1 e.2) {fn : Func} {nt k : Nat} {c : Code} {fr : Fr} {M : Mem}
    {rows1 : List (List Dat)} {ans : AV} (n : Nat) (π : List Nat) (T : (AV → List (Option Blk) → Bool) → Bool)
    (h : ∀ I : AV → List (Option Blk) → Bool, Eng.exec P X S n nt c fr M (fun o fr M => endK o (resK P fr M fn.results.toList fun vs => I (oneOf vs) (mv π M))) = T I)
    (hT : T (fun v bs => pdec (Leaf k π rows1 ans v bs)) = true) : W P nt k c fr M (Fin P fn k rows1 ans) :=
  W.fin hm hX hS n (fun v M => pdec (Leaf k π rows1 ans v (mv π M))) ((h fun v bs => pdec (Leaf k π rows1 ans v bs)).trans hT) fun v M' hJ => pdec_iff.1 hJ M' rfl

/-! the parts of a sequence -/
def lhs (c : Code) : Code := match c with | .seq a _ => a | _ => .skip
def rhs (c : Code) : Code := match c with | .seq _ b => b | _ => .skip
def isSeq (c : Code) : Bool := match c with | .seq _ _ => true | _ => false
theorem isSeq_eq {c : Code} (h : isSeq c = true) : c = .seq (lhs c) (rhs c) := by
  cases c <;> first | rfl | exact Bool.noConfusion h
theorem W.parts {P : Program} {nt k : Nat} {c : Code} {fr : Fr} {M : Mem} {Q : AE → Fr → Mem → Prop} (hc : isSeq c = true) (h : W P nt k (lhs c) fr M (Nxt P nt k (rhs c) Q)) : W P nt k c fr M Q := by
  rw [isSeq_eq hc]; exact W.seq h
/-- a piece that ends normally, and the state behind it written anew -/
theorem W.piece {P : Program} (hm : P.follows .mixedOrders = true) {X : FuncId → Option Ext} (hX : ∀ f x, X f = some x → ExtSpec P f x) {S : List (FuncId × SEnt)} (hS : ∀ e ∈ S, SSpec P e.1 e.2) {nt k : Nat} {c : Code} {fr : Fr} {M : Mem} {Q : AE → Fr → Mem → Prop} (hc : isSeq c = true)
    (n : Nat) (ts π : List Nat) (vs : List AV) (bs : List Blk) (G : Bool → Bool) (hG : ∀ b, b = true → G b = true)
    (h : ∀ I : AE → List (Option AV) → List (Option Blk) → Bool, Eng.exec P X S n nt (lhs c) fr M (fun o fr' M' => I o (lv ts fr') (mv π M')) = G (I .normal (vs.map some) (bs.map some)))
    (slots : List (Nat × AV)) (rows : List Blk) (hts : slots.map (·.1) = ts) (h1 : vals2 π slots = vs.map some) (h2 : rows2 π rows = bs.map some) (hk : okPi k π rows.length = true)
    (hn : W P nt k (rhs c) (mkFr slots) (mkMem rows) Q) : W P nt k c fr M Q := by
  refine W.parts hc (W.run hm hX hS n ts π (fun I => G (I .normal (vs.map some) (bs.map some))) h (hG _ (pdec_iff.2 fun fr' M' hv hm' => ?_)))
  exact W.next hv hm' slots rows hts h1 h2 hk (by simp) (by simp) hn
end Go.Eng

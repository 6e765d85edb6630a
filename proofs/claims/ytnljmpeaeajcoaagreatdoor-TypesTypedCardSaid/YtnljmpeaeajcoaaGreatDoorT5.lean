/- A part of the proof over this seat's program: the checked evaluator and its soundness (E..), and what it gives here (the others). No condition. -/
import Derived.Test.YtnljmpeaeajcoaaGreatDoorT4
namespace Go.Proofs.YtnljmpeaeajcoaaGreatDoor
open Go Go.Eng Go.Vi
local instance : Go.Eng.Mode := Sy

def vname (i : Nat) : List UInt8 := if i = 0 then [97] else [98]
def exObj (n : Nat) : Ex := .mk 3 [] (intRt n) []
def exVar (i : Nat) : Ex := .mk 4 (vname i) Rt.zero []
def exPoint (v k : Nat) : Ex := if 0 < v ∧ 4 ≤ k then exVar (k % v) else exObj (1 + k % 4)
theorem ok42 : FnOk Tryz.prog 42 Tryz.f42 := ⟨Tryz.func42, by kernel_rfl, by kernel_rfl⟩
noncomputable def eInt (n : Nat) : FuncId × SEnt := (48, ⟨[.int .i64 (.ofNat n)], [], rtA (intRt n)⟩)
theorem eInt_ok {n : Nat} (hn : n < 257) : SSpec Tryz.prog (eInt n).1 (eInt n).2 := (fromInt n hn).spec0 rfl
theorem two_mem {a b : FuncId × SEnt} (ha : SSpec Tryz.prog a.1 a.2) (hb : SSpec Tryz.prog b.1 b.2) : ∀ e ∈ [a, b], SSpec Tryz.prog e.1 e.2 := by
  intro e he
  rcases List.mem_cons.1 he with rfl | he
  · exact ha
  · rcases List.mem_cons.1 he with rfl | he
    · exact hb
    · cases he
theorem point_c (l l' : List UInt8) (v k : Nat) (hv : v < 3) (h : nx 8 l = (k, l')) : BSim Tryz.prog 42 [.ptr 0 0] [cD l v] [cD l' v] (exA (exPoint v k)) := by
  have hk : k < 8 := by have := nx_lt (m := 8) l (by omega); rw [h] at this; exact this
  have hk' : k = 0 ∨ k = 1 ∨ k = 2 ∨ k = 3 ∨ k = 4 ∨ k = 5 ∨ k = 6 ∨ k = 7 := by omega
  have hv' : v = 0 ∨ v = 1 ∨ v = 2 := by omega
  have obj : ∀ n, n < 257 → (∀ I : AV → List (Option Blk) → Bool, Eng.exec Tryz.prog X0 [eNext 0 8 l l' v k, eInt n] 40 Tryz.f42.ntmps (codeOf Tryz.f42) (mkFr (argSlots [.ptr 0 0] 0)) (mkMem (rowsOf [cD l v])) (fun o fr M => endK o (resK Tryz.prog fr M Tryz.f42.results.toList fun vs => I (oneOf vs) (mv [0] M))) =
      gC (eNext 0 8 l l' v k) (gC (eInt n) (I (mkA 3 [] (intRt n) .nilSlice) [some (.row (toAVs (cD l' v)) false 1)]))) → BSim Tryz.prog 42 [.ptr 0 0] [cD l v] [cD l' v] (exA (exObj n)) := by
    intro n hn hrun
    refine BSim.run hm hX0 (two_mem (eNext_ok h) (eInt_ok hn)) ok42 (by kernel_rfl) rfl 40 [0] _ hrun ?_
    simp only [gC_iff]
    exact pdec_iff.2 (Leaf.box fun _ _ => mkA0 ..)
  have var : ∀ i, (∀ I : AV → List (Option Blk) → Bool, Eng.exec Tryz.prog X0 [eNext 0 8 l l' v k] 40 Tryz.f42.ntmps (codeOf Tryz.f42) (mkFr (argSlots [.ptr 0 0] 0)) (mkMem (rowsOf [cD l v])) (fun o fr M => endK o (resK Tryz.prog fr M Tryz.f42.results.toList fun vs => I (oneOf vs) (mv [0] M))) =
      gC (eNext 0 8 l l' v k) (I (mkA 4 (vname i) Rt.zero .nilSlice) [some (.row (toAVs (cD l' v)) false 1)])) → BSim Tryz.prog 42 [.ptr 0 0] [cD l v] [cD l' v] (exA (exVar i)) := by
    intro i hrun
    refine BSim.run hm hX0 (S := [eNext 0 8 l l' v k]) (fun e he => ?_) ok42 (by kernel_rfl) rfl 40 [0] _ hrun ?_
    · obtain rfl := List.mem_singleton.1 he
      exact eNext_ok h
    · simp only [gC_iff]
      exact pdec_iff.2 (Leaf.box fun _ _ => mkA0 ..)
  rcases hv' with rfl | rfl | rfl
  · rcases hk' with rfl | rfl | rfl | rfl | rfl | rfl | rfl | rfl
    · exact obj 1 (by omega) (fun I => by kernel_rfl)
    · exact obj 2 (by omega) (fun I => by kernel_rfl)
    · exact obj 3 (by omega) (fun I => by kernel_rfl)
    · exact obj 4 (by omega) (fun I => by kernel_rfl)
    · exact obj 1 (by omega) (fun I => by kernel_rfl)
    · exact obj 2 (by omega) (fun I => by kernel_rfl)
    · exact obj 3 (by omega) (fun I => by kernel_rfl)
    · exact obj 4 (by omega) (fun I => by kernel_rfl)
  · rcases hk' with rfl | rfl | rfl | rfl | rfl | rfl | rfl | rfl
    · exact obj 1 (by omega) (fun I => by kernel_rfl)
    · exact obj 2 (by omega) (fun I => by kernel_rfl)
    · exact obj 3 (by omega) (fun I => by kernel_rfl)
    · exact obj 4 (by omega) (fun I => by kernel_rfl)
    · exact var 0 (fun I => by kernel_rfl)
    · exact var 0 (fun I => by kernel_rfl)
    · exact var 0 (fun I => by kernel_rfl)
    · exact var 0 (fun I => by kernel_rfl)
  · rcases hk' with rfl | rfl | rfl | rfl | rfl | rfl | rfl | rfl
    · exact obj 1 (by omega) (fun I => by kernel_rfl)
    · exact obj 2 (by omega) (fun I => by kernel_rfl)
    · exact obj 3 (by omega) (fun I => by kernel_rfl)
    · exact obj 4 (by omega) (fun I => by kernel_rfl)
    · exact var 0 (fun I => by kernel_rfl)
    · exact var 1 (fun I => by kernel_rfl)
    · exact var 0 (fun I => by kernel_rfl)
    · exact var 1 (fun I => by kernel_rfl)
end Go.Proofs.YtnljmpeaeajcoaaGreatDoor

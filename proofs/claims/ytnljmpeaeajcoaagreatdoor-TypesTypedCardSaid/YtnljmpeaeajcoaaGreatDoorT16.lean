/- A part of the proof over this seat's program: the checked evaluator and its soundness (E..), and what it gives here (the others). No condition. -/
import Derived.Test.YtnljmpeaeajcoaaGreatDoorT15
namespace Go.Proofs.YtnljmpeaeajcoaaGreatDoor
open Go Go.Eng Go.Vi
local instance : Go.Eng.Mode := Sy

/-! Bind -/
theorem ok13 : FnOk Tryz.prog 13 Tryz.f13 := ⟨Tryz.func13, by kernel_rfl, by kernel_rfl⟩
noncomputable def ex0 : AV := .agg [.int .i64 0, .str 0 0, .bool false, .str 0 0, .bool false, .str 0 0, .nilSlice]
noncomputable def gIf (c x y : Bool) : Bool := Bool.rec (motive := fun _ => Bool) y x c
theorem gIf_f {c x y : Bool} (hc : c = false) (h : y = true) : gIf c x y = true := by subst hc; exact h
noncomputable def bd27 (I : AV → List (Option Blk) → Bool) : Bool := I (.tuple [ex0, .int .i64 27]) []
theorem bind_c {a b : Nat} {x y : Ex} (hx : Good x) (hn : x.size ≤ 256) (hd : x.dep ≤ 32) (ha : a < 256) (hb : b < 256) (h : Bd (a + 1) (b + 1) x y) :
    BSim Tryz.prog 13 [exA x, nmA, idA (a + 1) (b + 1)] [] [] (.tuple [exA y, .int .i64 0]) := by
  refine BSim.run hm hX0 (S := [eCE x, eB (a + 1) (b + 1) x y]) (AllOk.mem ⟨(checkExpr_c hx hn hd).spec0 rfl, eB_ok h, trivial⟩) ok13 (by kernel_rfl) rfl 60 []
    (fun I => gC (eCE x) (gIf (ilt 1073741824 (.ofNat (a + 1))) (bd27 I) (gIf (ilt 1073741824 (.ofNat (b + 1))) (bd27 I) (gC (eB (a + 1) (b + 1) x y) (I (.tuple [exA y, .int .i64 0]) []))))) (fun I => by kernel_rfl) ?_
  simp only [gC_iff]
  have h2 : ∀ n : Nat, n < 256 → ilt 1073741824 (.ofNat (n + 1)) = false := fun n hn => by
    rw [ilt_iff]; exact decide_eq_false (by simp only [Int.ofNat_eq_natCast]; omega)
  refine gIf_f (h2 a ha) (gIf_f (h2 b hb) ?_)
  simp only [gC_iff]
  exact pdec_iff.2 (Leaf.flat fun _ _ => .tuple _ _ (.cons _ _ _ _ (.aggs _) (.cons _ _ _ _ (.plain (.int .i64 0)) .nil)))
end Go.Proofs.YtnljmpeaeajcoaaGreatDoor

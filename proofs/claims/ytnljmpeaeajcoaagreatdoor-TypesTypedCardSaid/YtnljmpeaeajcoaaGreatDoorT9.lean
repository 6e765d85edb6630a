/- A part of the proof over this seat's program: the checked evaluator and its soundness (E..), and what it gives here (the others). No condition. -/
import Derived.Test.YtnljmpeaeajcoaaGreatDoorT8
import Derived.Test.YtnljmpeaeajcoaaGreatDoorG28
namespace Go.Proofs.YtnljmpeaeajcoaaGreatDoor
open Go Go.Eng Go.Vi
local instance : Go.Eng.Mode := Sy

noncomputable def byteEl (l : List UInt8) : Nat → List Dat := fun i => [.int .u8 (.ofNat (l.getD i 0).toNat)]
noncomputable def codesA (l : List UInt8) : AV := .dslice l.length 1 (byteEl l)
noncomputable def qOf (n : Nat) : Nat := Bool.rec (motive := fun _ => Nat) n 24 (Nat.blt 24 n)
theorem qOf_eq (n : Nat) : qOf n = min 24 n := by
  unfold qOf
  by_cases h : 24 < n
  · have : Nat.blt 24 n = true := by rw [Nat.blt_eq]; exact h
    rw [this]; show 24 = _; omega
  · have : Nat.blt 24 n = false := by
      cases e : Nat.blt 24 n with
      | false => rfl
      | true => rw [Nat.blt_eq] at e; exact absurd e h
    rw [this]; show n = _; omega
theorem ok12 : FnOk Tryz.prog 12 Tryz.f12 := ⟨Tryz.func12, by kernel_rfl, by kernel_rfl⟩
/-- the expression of Typed -/
def typedEx (v t : Nat) (l : List UInt8) : Ex := (typedM v 5 t (l.take 24)).1
noncomputable def eTyped (v t : Nat) (l : List UInt8) : FuncId × SEnt := (23, ⟨[.ptr 1 0, .int .i64 (.ofNat t), .int .i64 (.ofNat 4)], [(1, [.dslice (qOf l.length) 1 (byteEl l), .int .i64 (.ofNat v)], toAVs (cD (typedM v 5 t (l.take 24)).2 v))], exA (typedEx v t l)⟩)
theorem eTyped_ok {v t : Nat} (hv : v < 3) (ht : t ∈ [1, 2, 3, 4, 5, 6, 7, 8]) (l : List UInt8) : SSpec Tryz.prog (eTyped v t l).1 (eTyped v t l).2 := by
  have h := (spec_4 hv t ht (l.take 24)).spec1 1 rfl
  refine SSpec.conv_row h rfl fun ρ vs hvs => ?_
  cases hvs with
  | cons _ x _ xs h1 h2 =>
    refine .cons _ _ _ _ ?_ h2
    have e : qOf l.length = (l.take 24).length := by rw [qOf_eq, List.length_take]
    rw [e] at h1
    refine VRel.dslice_congr h1 fun i hi => ?_
    have hi' : i < 24 := by rw [List.length_take] at hi; omega
    show [Dat.int .u8 (.ofNat (l.getD i 0).toNat)] = [Dat.int .u8 (.ofNat ((l.take 24).getD i 0).toNat)]
    rw [List.getD_eq_getElem?_getD, List.getD_eq_getElem?_getD, List.getElem?_take_of_lt hi']
theorem Typed_c (v t : Nat) (hv : v < 3) (ht : t ∈ [1, 2, 3, 4, 5, 6, 7, 8]) (l : List UInt8) : BSim Tryz.prog 12 [codesA l, .int .i64 (.ofNat t), .int .i64 (.ofNat v)] [] [] (exA (typedEx v t l)) := by
  have key : (∀ I : AV → List (Option Blk) → Bool, Eng.exec Tryz.prog X0 [eTyped v t l] 60 Tryz.f12.ntmps (codeOf Tryz.f12) (mkFr (argSlots [codesA l, .int .i64 (.ofNat t), .int .i64 (.ofNat v)] 0)) (mkMem (rowsOf [])) (fun o fr M => endK o (resK Tryz.prog fr M Tryz.f12.results.toList fun vs => I (oneOf vs) (mv [] M))) =
      gB (Nat.ble (qOf l.length) l.length) (gC (eTyped v t l) (I (exA (typedEx v t l)) []))) → BSim Tryz.prog 12 [codesA l, .int .i64 (.ofNat t), .int .i64 (.ofNat v)] [] [] (exA (typedEx v t l)) := by
    intro hrun
    refine BSim.run hm hX0 (S := [eTyped v t l]) (AllOk.mem ⟨eTyped_ok hv ht l, trivial⟩) ok12 (by kernel_rfl) rfl 60 [] _ hrun ?_
    simp only [gC_iff, gB_iff]
    exact ⟨nble_t (by rw [qOf_eq]; omega), pdec_iff.2 (Leaf.flat fun _ _ => .aggs _)⟩
  simp only [List.mem_cons, List.not_mem_nil, or_false] at ht
  have hv' : v = 0 ∨ v = 1 ∨ v = 2 := by omega
  rcases hv' with rfl | rfl | rfl <;> rcases ht with rfl | rfl | rfl | rfl | rfl | rfl | rfl | rfl <;> exact key (fun I => by kernel_rfl)
end Go.Proofs.YtnljmpeaeajcoaaGreatDoor

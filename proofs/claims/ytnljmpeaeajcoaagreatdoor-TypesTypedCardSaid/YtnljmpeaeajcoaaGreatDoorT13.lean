/- A part of the proof over this seat's program: the checked evaluator and its soundness (E..), and what it gives here (the others). No condition. -/
import Derived.Test.YtnljmpeaeajcoaaGreatDoorT12
namespace Go.Proofs.YtnljmpeaeajcoaaGreatDoor
open Go Go.Eng Go.Vi
local instance : Go.Eng.Mode := Sy

theorem ok26 : FnOk Tryz.prog 26 Tryz.f26 := ⟨Tryz.func26, by kernel_rfl, by kernel_rfl⟩
/-- what typed answers for an expression of a type -/
noncomputable def tyA (t : Int) : AV := .tuple [.int .i64 t, .dslice 0 1 (fun _ => []), .bool true]
def Ty (x : Ex) (t : Int) : Prop := BSim Tryz.prog 26 [exA x] [] [] (tyA t)
noncomputable def eT (x : Ex) (t : Int) : FuncId × SEnt := (26, ⟨[exA x], [], tyA t⟩)
theorem eT_ok {x : Ex} {t : Int} (h : Ty x t) : SSpec Tryz.prog (eT x t).1 (eT x t).2 := h.spec0 rfl
theorem ty_of {S : List (FuncId × SEnt)} (hS : AllOk S) {x : Ex} {t : Int} (G : Bool → Bool) (hG : ∀ c, c = true → G c = true)
    (hrun : ∀ I : AV → List (Option Blk) → Bool, Eng.exec Tryz.prog X0 S 100 Tryz.f26.ntmps (codeOf Tryz.f26) (mkFr (argSlots [exA x] 0)) (mkMem (rowsOf [])) (fun o fr M => endK o (resK Tryz.prog fr M Tryz.f26.results.toList fun vs => I (oneOf vs) (mv [] M))) = G (I (.tuple [.int .i64 t, .nilSlice, .bool true]) [])) : Ty x t := by
  refine BSim.run hm hX0 hS.mem ok26 (by kernel_rfl) rfl 100 [] (fun I => G (I (.tuple [.int .i64 t, .nilSlice, .bool true]) [])) hrun ?_
  exact hG _ (pdec_iff.2 (Leaf.flat fun _ _ => .tuple _ _ (.cons _ _ _ _ (.plain (.int .i64 t)) (.cons _ _ _ _ (.dat _ (.slice 0 1 fun _ => []) (.nil _ _)) (.cons _ _ _ _ (.plain (.bool true)) .nil)))))
theorem ty_num (n : List UInt8) (r : Rt) : Ty (.mk 1 n r []) 2 := ty_of (S := []) trivial (fun c => c) (fun c hc => hc) (fun I => by kernel_rfl)
theorem ty_obj (n : List UInt8) (r : Rt) : Ty (.mk 3 n r []) 7 := ty_of (S := []) trivial (fun c => c) (fun c hc => hc) (fun I => by kernel_rfl)
theorem ty_var (n : List UInt8) (r : Rt) : Ty (.mk 4 n r []) 7 := ty_of (S := []) trivial (fun c => c) (fun c hc => hc) (fun I => by kernel_rfl)
theorem ty_zon (n : List UInt8) (r : Rt) : Ty (.mk 5 n r []) 8 := ty_of (S := []) trivial (fun c => c) (fun c hc => hc) (fun I => by kernel_rfl)
theorem ty_2_22 (x : Ex) (y : Ex) (hx : Ty x 2) (hy : Ty y 2) : Ty (.mk 2 [] Rt.zero [x, y]) 3 := by
  refine ty_of (S := [eT x 2, eT y 2]) ⟨eT_ok hx, eT_ok hy, trivial⟩ (fun c => gC (eT x 2) (gC (eT y 2) (c))) ?_ (fun I => by kernel_rfl)
  intro c hc; simp only [gC_iff]; exact hc
theorem ty_6_22 (x : Ex) (y : Ex) (hx : Ty x 2) (hy : Ty y 2) : Ty (.mk 6 [] Rt.zero [x, y]) 4 := by
  refine ty_of (S := [eT x 2, eT y 2]) ⟨eT_ok hx, eT_ok hy, trivial⟩ (fun c => gC (eT x 2) (gC (eT y 2) (c))) ?_ (fun I => by kernel_rfl)
  intro c hc; simp only [gC_iff]; exact hc
theorem ty_7_44 (x : Ex) (y : Ex) (hx : Ty x 4) (hy : Ty y 4) : Ty (.mk 7 [] Rt.zero [x, y]) 4 := by
  refine ty_of (S := [eT x 4, eT y 4]) ⟨eT_ok hx, eT_ok hy, trivial⟩ (fun c => gC (eT x 4) (gC (eT y 4) (c))) ?_ (fun I => by kernel_rfl)
  intro c hc; simp only [gC_iff]; exact hc
theorem ty_8_44 (x : Ex) (y : Ex) (hx : Ty x 4) (hy : Ty y 4) : Ty (.mk 8 [] Rt.zero [x, y]) 4 := by
  refine ty_of (S := [eT x 4, eT y 4]) ⟨eT_ok hx, eT_ok hy, trivial⟩ (fun c => gC (eT x 4) (gC (eT y 4) (c))) ?_ (fun I => by kernel_rfl)
  intro c hc; simp only [gC_iff]; exact hc
theorem ty_9_44 (x : Ex) (y : Ex) (hx : Ty x 4) (hy : Ty y 4) : Ty (.mk 9 [] Rt.zero [x, y]) 4 := by
  refine ty_of (S := [eT x 4, eT y 4]) ⟨eT_ok hx, eT_ok hy, trivial⟩ (fun c => gC (eT x 4) (gC (eT y 4) (c))) ?_ (fun I => by kernel_rfl)
  intro c hc; simp only [gC_iff]; exact hc
theorem ty_10_5 (x : Ex) (hx : Ty x 5) : Ty (.mk 10 [] Rt.zero [x]) 4 := by
  refine ty_of (S := [eT x 5]) ⟨eT_ok hx, trivial⟩ (fun c => gC (eT x 5) (c)) ?_ (fun I => by kernel_rfl)
  intro c hc; simp only [gC_iff]; exact hc
theorem ty_11_5 (x : Ex) (hx : Ty x 5) : Ty (.mk 11 [] Rt.zero [x]) 4 := by
  refine ty_of (S := [eT x 5]) ⟨eT_ok hx, trivial⟩ (fun c => gC (eT x 5) (c)) ?_ (fun I => by kernel_rfl)
  intro c hc; simp only [gC_iff]; exact hc
theorem ty_12_54 (x : Ex) (y : Ex) (hx : Ty x 5) (hy : Ty y 4) : Ty (.mk 12 [] Rt.zero [x, y]) 5 := by
  refine ty_of (S := [eT x 5, eT y 4]) ⟨eT_ok hx, eT_ok hy, trivial⟩ (fun c => gC (eT x 5) (gC (eT y 4) (c))) ?_ (fun I => by kernel_rfl)
  intro c hc; simp only [gC_iff]; exact hc
theorem ty_29_52 (x : Ex) (y : Ex) (hx : Ty x 5) (hy : Ty y 2) : Ty (.mk 29 [] Rt.zero [x, y]) 5 := by
  refine ty_of (S := [eT x 5, eT y 2]) ⟨eT_ok hx, eT_ok hy, trivial⟩ (fun c => gC (eT x 5) (gC (eT y 2) (c))) ?_ (fun I => by kernel_rfl)
  intro c hc; simp only [gC_iff]; exact hc
theorem ty_11_6 (x : Ex) (hx : Ty x 6) : Ty (.mk 11 [] Rt.zero [x]) 4 := by
  refine ty_of (S := [eT x 6]) ⟨eT_ok hx, trivial⟩ (fun c => gC (eT x 6) (c)) ?_ (fun I => by kernel_rfl)
  intro c hc; simp only [gC_iff]; exact hc
theorem ty_12_64 (x : Ex) (y : Ex) (hx : Ty x 6) (hy : Ty y 4) : Ty (.mk 12 [] Rt.zero [x, y]) 6 := by
  refine ty_of (S := [eT x 6, eT y 4]) ⟨eT_ok hx, eT_ok hy, trivial⟩ (fun c => gC (eT x 6) (gC (eT y 4) (c))) ?_ (fun I => by kernel_rfl)
  intro c hc; simp only [gC_iff]; exact hc
theorem ty_29_62 (x : Ex) (y : Ex) (hx : Ty x 6) (hy : Ty y 2) : Ty (.mk 29 [] Rt.zero [x, y]) 6 := by
  refine ty_of (S := [eT x 6, eT y 2]) ⟨eT_ok hx, eT_ok hy, trivial⟩ (fun c => gC (eT x 6) (gC (eT y 2) (c))) ?_ (fun I => by kernel_rfl)
  intro c hc; simp only [gC_iff]; exact hc
theorem ty_11_7 (x : Ex) (hx : Ty x 7) : Ty (.mk 11 [] Rt.zero [x]) 4 := by
  refine ty_of (S := [eT x 7]) ⟨eT_ok hx, trivial⟩ (fun c => gC (eT x 7) (c)) ?_ (fun I => by kernel_rfl)
  intro c hc; simp only [gC_iff]; exact hc
theorem ty_12_74 (x : Ex) (y : Ex) (hx : Ty x 7) (hy : Ty y 4) : Ty (.mk 12 [] Rt.zero [x, y]) 7 := by
  refine ty_of (S := [eT x 7, eT y 4]) ⟨eT_ok hx, eT_ok hy, trivial⟩ (fun c => gC (eT x 7) (gC (eT y 4) (c))) ?_ (fun I => by kernel_rfl)
  intro c hc; simp only [gC_iff]; exact hc
theorem ty_29_72 (x : Ex) (y : Ex) (hx : Ty x 7) (hy : Ty y 2) : Ty (.mk 29 [] Rt.zero [x, y]) 7 := by
  refine ty_of (S := [eT x 7, eT y 2]) ⟨eT_ok hx, eT_ok hy, trivial⟩ (fun c => gC (eT x 7) (gC (eT y 2) (c))) ?_ (fun I => by kernel_rfl)
  intro c hc; simp only [gC_iff]; exact hc
theorem ty_11_8 (x : Ex) (hx : Ty x 8) : Ty (.mk 11 [] Rt.zero [x]) 4 := by
  refine ty_of (S := [eT x 8]) ⟨eT_ok hx, trivial⟩ (fun c => gC (eT x 8) (c)) ?_ (fun I => by kernel_rfl)
  intro c hc; simp only [gC_iff]; exact hc
theorem ty_12_84 (x : Ex) (y : Ex) (hx : Ty x 8) (hy : Ty y 4) : Ty (.mk 12 [] Rt.zero [x, y]) 8 := by
  refine ty_of (S := [eT x 8, eT y 4]) ⟨eT_ok hx, eT_ok hy, trivial⟩ (fun c => gC (eT x 8) (gC (eT y 4) (c))) ?_ (fun I => by kernel_rfl)
  intro c hc; simp only [gC_iff]; exact hc
theorem ty_29_82 (x : Ex) (y : Ex) (hx : Ty x 8) (hy : Ty y 2) : Ty (.mk 29 [] Rt.zero [x, y]) 8 := by
  refine ty_of (S := [eT x 8, eT y 2]) ⟨eT_ok hx, eT_ok hy, trivial⟩ (fun c => gC (eT x 8) (gC (eT y 2) (c))) ?_ (fun I => by kernel_rfl)
  intro c hc; simp only [gC_iff]; exact hc
theorem ty_13_77 (x : Ex) (y : Ex) (hx : Ty x 7) (hy : Ty y 7) : Ty (.mk 13 [] Rt.zero [x, y]) 6 := by
  refine ty_of (S := [eT x 7, eT y 7]) ⟨eT_ok hx, eT_ok hy, trivial⟩ (fun c => gC (eT x 7) (gC (eT y 7) (c))) ?_ (fun I => by kernel_rfl)
  intro c hc; simp only [gC_iff]; exact hc
theorem ty_15_772 (x : Ex) (y : Ex) (z : Ex) (hx : Ty x 7) (hy : Ty y 7) (hz : Ty z 2) : Ty (.mk 15 [] Rt.zero [x, y, z]) 5 := by
  refine ty_of (S := [eT x 7, eT y 7, eT z 2]) ⟨eT_ok hx, eT_ok hy, eT_ok hz, trivial⟩ (fun c => gC (eT x 7) (gC (eT y 7) (gC (eT z 2) (c)))) ?_ (fun I => by kernel_rfl)
  intro c hc; simp only [gC_iff]; exact hc
theorem ty_13_73 (x : Ex) (y : Ex) (hx : Ty x 7) (hy : Ty y 3) : Ty (.mk 13 [] Rt.zero [x, y]) 6 := by
  refine ty_of (S := [eT x 7, eT y 3]) ⟨eT_ok hx, eT_ok hy, trivial⟩ (fun c => gC (eT x 7) (gC (eT y 3) (c))) ?_ (fun I => by kernel_rfl)
  intro c hc; simp only [gC_iff]; exact hc
theorem ty_15_732 (x : Ex) (y : Ex) (z : Ex) (hx : Ty x 7) (hy : Ty y 3) (hz : Ty z 2) : Ty (.mk 15 [] Rt.zero [x, y, z]) 5 := by
  refine ty_of (S := [eT x 7, eT y 3, eT z 2]) ⟨eT_ok hx, eT_ok hy, eT_ok hz, trivial⟩ (fun c => gC (eT x 7) (gC (eT y 3) (gC (eT z 2) (c)))) ?_ (fun I => by kernel_rfl)
  intro c hc; simp only [gC_iff]; exact hc
theorem ty_14_7 (x : Ex) (hx : Ty x 7) : Ty (.mk 14 [] Rt.zero [x]) 6 := by
  refine ty_of (S := [eT x 7]) ⟨eT_ok hx, trivial⟩ (fun c => gC (eT x 7) (c)) ?_ (fun I => by kernel_rfl)
  intro c hc; simp only [gC_iff]; exact hc
theorem ty_16_78 (x : Ex) (y : Ex) (hx : Ty x 7) (hy : Ty y 8) : Ty (.mk 16 [] Rt.zero [x, y]) 5 := by
  refine ty_of (S := [eT x 7, eT y 8]) ⟨eT_ok hx, eT_ok hy, trivial⟩ (fun c => gC (eT x 7) (gC (eT y 8) (c))) ?_ (fun I => by kernel_rfl)
  intro c hc; simp only [gC_iff]; exact hc
theorem ty_17_8 (x : Ex) (hx : Ty x 8) : Ty (.mk 17 [] Rt.zero [x]) 6 := by
  refine ty_of (S := [eT x 8]) ⟨eT_ok hx, trivial⟩ (fun c => gC (eT x 8) (c)) ?_ (fun I => by kernel_rfl)
  intro c hc; simp only [gC_iff]; exact hc
theorem ty_18_66 (x : Ex) (y : Ex) (hx : Ty x 6) (hy : Ty y 6) : Ty (.mk 18 [] Rt.zero [x, y]) 6 := by
  refine ty_of (S := [eT x 6, eT y 6]) ⟨eT_ok hx, eT_ok hy, trivial⟩ (fun c => gC (eT x 6) (gC (eT y 6) (c))) ?_ (fun I => by kernel_rfl)
  intro c hc; simp only [gC_iff]; exact hc
theorem ty_18_62 (x : Ex) (y : Ex) (hx : Ty x 6) (hy : Ty y 2) : Ty (.mk 18 [] Rt.zero [x, y]) 6 := by
  refine ty_of (S := [eT x 6, eT y 2]) ⟨eT_ok hx, eT_ok hy, trivial⟩ (fun c => gC (eT x 6) (gC (eT y 2) (c))) ?_ (fun I => by kernel_rfl)
  intro c hc; simp only [gC_iff]; exact hc
theorem ty_19_66 (x : Ex) (y : Ex) (hx : Ty x 6) (hy : Ty y 6) : Ty (.mk 19 [] Rt.zero [x, y]) 6 := by
  refine ty_of (S := [eT x 6, eT y 6]) ⟨eT_ok hx, eT_ok hy, trivial⟩ (fun c => gC (eT x 6) (gC (eT y 6) (c))) ?_ (fun I => by kernel_rfl)
  intro c hc; simp only [gC_iff]; exact hc
theorem ty_19_62 (x : Ex) (y : Ex) (hx : Ty x 6) (hy : Ty y 2) : Ty (.mk 19 [] Rt.zero [x, y]) 6 := by
  refine ty_of (S := [eT x 6, eT y 2]) ⟨eT_ok hx, eT_ok hy, trivial⟩ (fun c => gC (eT x 6) (gC (eT y 2) (c))) ?_ (fun I => by kernel_rfl)
  intro c hc; simp only [gC_iff]; exact hc
theorem ty_20_26 (x : Ex) (y : Ex) (hx : Ty x 2) (hy : Ty y 6) : Ty (.mk 20 [] Rt.zero [x, y]) 6 := by
  refine ty_of (S := [eT x 2, eT y 6]) ⟨eT_ok hx, eT_ok hy, trivial⟩ (fun c => gC (eT x 2) (gC (eT y 6) (c))) ?_ (fun I => by kernel_rfl)
  intro c hc; simp only [gC_iff]; exact hc
theorem ty_21_66 (x : Ex) (y : Ex) (hx : Ty x 6) (hy : Ty y 6) : Ty (.mk 21 [] Rt.zero [x, y]) 5 := by
  refine ty_of (S := [eT x 6, eT y 6]) ⟨eT_ok hx, eT_ok hy, trivial⟩ (fun c => gC (eT x 6) (gC (eT y 6) (c))) ?_ (fun I => by kernel_rfl)
  intro c hc; simp only [gC_iff]; exact hc
theorem ty_21_62 (x : Ex) (y : Ex) (hx : Ty x 6) (hy : Ty y 2) : Ty (.mk 21 [] Rt.zero [x, y]) 5 := by
  refine ty_of (S := [eT x 6, eT y 2]) ⟨eT_ok hx, eT_ok hy, trivial⟩ (fun c => gC (eT x 6) (gC (eT y 2) (c))) ?_ (fun I => by kernel_rfl)
  intro c hc; simp only [gC_iff]; exact hc
theorem ty_22_66 (x : Ex) (y : Ex) (hx : Ty x 6) (hy : Ty y 6) : Ty (.mk 22 [] Rt.zero [x, y]) 5 := by
  refine ty_of (S := [eT x 6, eT y 6]) ⟨eT_ok hx, eT_ok hy, trivial⟩ (fun c => gC (eT x 6) (gC (eT y 6) (c))) ?_ (fun I => by kernel_rfl)
  intro c hc; simp only [gC_iff]; exact hc
theorem ty_22_62 (x : Ex) (y : Ex) (hx : Ty x 6) (hy : Ty y 2) : Ty (.mk 22 [] Rt.zero [x, y]) 5 := by
  refine ty_of (S := [eT x 6, eT y 2]) ⟨eT_ok hx, eT_ok hy, trivial⟩ (fun c => gC (eT x 6) (gC (eT y 2) (c))) ?_ (fun I => by kernel_rfl)
  intro c hc; simp only [gC_iff]; exact hc
theorem ty_23_55 (x : Ex) (y : Ex) (hx : Ty x 5) (hy : Ty y 5) : Ty (.mk 23 [] Rt.zero [x, y]) 5 := by
  refine ty_of (S := [eT x 5, eT y 5]) ⟨eT_ok hx, eT_ok hy, trivial⟩ (fun c => gC (eT x 5) (gC (eT y 5) (c))) ?_ (fun I => by kernel_rfl)
  intro c hc; simp only [gC_iff]; exact hc
theorem ty_23_11 (x : Ex) (y : Ex) (hx : Ty x 1) (hy : Ty y 1) : Ty (.mk 23 [] Rt.zero [x, y]) 1 := by
  refine ty_of (S := [eT x 1, eT y 1]) ⟨eT_ok hx, eT_ok hy, trivial⟩ (fun c => gC (eT x 1) (gC (eT y 1) (c))) ?_ (fun I => by kernel_rfl)
  intro c hc; simp only [gC_iff]; exact hc
theorem ty_24_55 (x : Ex) (y : Ex) (hx : Ty x 5) (hy : Ty y 5) : Ty (.mk 24 [] Rt.zero [x, y]) 5 := by
  refine ty_of (S := [eT x 5, eT y 5]) ⟨eT_ok hx, eT_ok hy, trivial⟩ (fun c => gC (eT x 5) (gC (eT y 5) (c))) ?_ (fun I => by kernel_rfl)
  intro c hc; simp only [gC_iff]; exact hc
theorem ty_24_11 (x : Ex) (y : Ex) (hx : Ty x 1) (hy : Ty y 1) : Ty (.mk 24 [] Rt.zero [x, y]) 1 := by
  refine ty_of (S := [eT x 1, eT y 1]) ⟨eT_ok hx, eT_ok hy, trivial⟩ (fun c => gC (eT x 1) (gC (eT y 1) (c))) ?_ (fun I => by kernel_rfl)
  intro c hc; simp only [gC_iff]; exact hc
theorem ty_25_5 (x : Ex) (hx : Ty x 5) : Ty (.mk 25 [] Rt.zero [x]) 5 := by
  refine ty_of (S := [eT x 5]) ⟨eT_ok hx, trivial⟩ (fun c => gC (eT x 5) (c)) ?_ (fun I => by kernel_rfl)
  intro c hc; simp only [gC_iff]; exact hc
theorem ty_25_1 (x : Ex) (hx : Ty x 1) : Ty (.mk 25 [] Rt.zero [x]) 1 := by
  refine ty_of (S := [eT x 1]) ⟨eT_ok hx, trivial⟩ (fun c => gC (eT x 1) (c)) ?_ (fun I => by kernel_rfl)
  intro c hc; simp only [gC_iff]; exact hc
theorem ty_26_5 (x : Ex) (hx : Ty x 5) : Ty (.mk 26 [] Rt.zero [x]) 1 := by
  refine ty_of (S := [eT x 5]) ⟨eT_ok hx, trivial⟩ (fun c => gC (eT x 5) (c)) ?_ (fun I => by kernel_rfl)
  intro c hc; simp only [gC_iff]; exact hc
theorem ty_27_5 (x : Ex) (hx : Ty x 5) : Ty (.mk 27 [] Rt.zero [x]) 1 := by
  refine ty_of (S := [eT x 5]) ⟨eT_ok hx, trivial⟩ (fun c => gC (eT x 5) (c)) ?_ (fun I => by kernel_rfl)
  intro c hc; simp only [gC_iff]; exact hc
theorem ty_28_52 (x : Ex) (y : Ex) (hx : Ty x 5) (hy : Ty y 2) : Ty (.mk 28 [] Rt.zero [x, y]) 1 := by
  refine ty_of (S := [eT x 5, eT y 2]) ⟨eT_ok hx, eT_ok hy, trivial⟩ (fun c => gC (eT x 5) (gC (eT y 2) (c))) ?_ (fun I => by kernel_rfl)
  intro c hc; simp only [gC_iff]; exact hc
theorem ty_30_62 (x : Ex) (y : Ex) (hx : Ty x 6) (hy : Ty y 2) : Ty (.mk 30 [] Rt.zero [x, y]) 1 := by
  refine ty_of (S := [eT x 6, eT y 2]) ⟨eT_ok hx, eT_ok hy, trivial⟩ (fun c => gC (eT x 6) (gC (eT y 2) (c))) ?_ (fun I => by kernel_rfl)
  intro c hc; simp only [gC_iff]; exact hc
end Go.Proofs.YtnljmpeaeajcoaaGreatDoor

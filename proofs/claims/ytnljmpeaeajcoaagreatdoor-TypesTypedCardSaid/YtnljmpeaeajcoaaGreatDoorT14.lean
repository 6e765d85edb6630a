/- A part of the proof over this seat's program: the checked evaluator and its soundness (E..), and what it gives here (the others). No condition. -/
import Derived.Test.YtnljmpeaeajcoaaGreatDoorT13
namespace Go.Proofs.YtnljmpeaeajcoaaGreatDoor
open Go Go.Eng Go.Vi
local instance : Go.Eng.Mode := Sy

/-! CheckExpr and Of -/
def fV12 : AV := .func (.func 45) [] [.ptr 1 0, .ptr 2 0]
noncomputable def eV12 (x : Ex) : FuncId × SEnt := (45, ⟨[exA x, .int .i64 (.ofNat 1), .ptr 1 0, .ptr 2 0], [(1, [.int .i64 (.ofNat 0)], [.int .i64 (.ofNat (0 + x.size))]), (2, [fV12], [fV12])], .int .i64 0⟩)
theorem ok24 : FnOk Tryz.prog 24 Tryz.f24 := ⟨Tryz.func24, by kernel_rfl, by kernel_rfl⟩
theorem ok14 : FnOk Tryz.prog 14 Tryz.f14 := ⟨Tryz.func14, by kernel_rfl, by kernel_rfl⟩
theorem checkExpr_c {x : Ex} (hx : Good x) (hn : x.size ≤ 256) (hd : x.dep ≤ 32) : BSim Tryz.prog 24 [exA x] [] [] (.int .i64 0) := by
  have h := visit_c hx 1 0 (by omega) (by omega)
  refine BSim.run hm hX0 (S := [eV12 x]) (AllOk.mem ⟨h [1, 2] _ _ _ rfl (by decide) rfl rfl rfl, trivial⟩) ok24 (by kernel_rfl) rfl 60 [] (fun I => gD (eV12 x) (I (.int .i64 0) [])) (fun I => by kernel_rfl) ?_
  simp only [gD_iff]
  exact pdec_iff.2 (Leaf.flat fun _ _ => .plain (.int .i64 0))
noncomputable def eCE (x : Ex) : FuncId × SEnt := (24, ⟨[exA x], [], .int .i64 0⟩)
theorem of_c {x : Ex} {t : Int} (hx : Good x) (hn : x.size ≤ 256) (hd : x.dep ≤ 32) (ht : Ty x t) : BSim Tryz.prog 14 [exA x] [] [] (.tuple [.int .i64 t, .int .i64 0]) := by
  refine BSim.run hm hX0 (S := [eCE x, eT x t]) (AllOk.mem ⟨(checkExpr_c hx hn hd).spec0 rfl, eT_ok ht, trivial⟩) ok14 (by kernel_rfl) rfl 60 [] (fun I => gC (eCE x) (gC (eT x t) (I (.tuple [.int .i64 t, .int .i64 0]) []))) (fun I => by kernel_rfl) ?_
  simp only [gC_iff]
  exact pdec_iff.2 (Leaf.flat fun _ _ => .tuple _ _ (.cons _ _ _ _ (.plain (.int .i64 t)) (.cons _ _ _ _ (.plain (.int .i64 0)) .nil)))

/-! binding -/
noncomputable def nmA : AV := .dslice 2 1 (fun i => List.getD (chunkN 1 2 [sD [97], sD [98]]) i [])
noncomputable def idA (a b : Nat) : AV := .dslice 2 1 (fun i => List.getD (chunkN 1 2 [.int .i64 (.ofNat a), .int .i64 (.ofNat b)]) i [])
theorem ok25 : FnOk Tryz.prog 25 Tryz.f25 := ⟨Tryz.func25, by kernel_rfl, by kernel_rfl⟩
def Bd (a b : Nat) (x y : Ex) : Prop := BSim Tryz.prog 25 [exA x, nmA, idA a b] [] [] (exA y)
noncomputable def eB (a b : Nat) (x y : Ex) : FuncId × SEnt := (25, ⟨[exA x, nmA, idA a b], [], exA y⟩)
theorem eB_ok {a b : Nat} {x y : Ex} (h : Bd a b x y) : SSpec Tryz.prog (eB a b x y).1 (eB a b x y).2 := h.spec0 rfl
noncomputable def run25 (S : List (FuncId × SEnt)) (a b : Nat) (x : Ex) (π : List Nat) (I : AV → List (Option Blk) → Bool) : Bool :=
  Eng.exec Tryz.prog X0 S 60 Tryz.f25.ntmps (codeOf Tryz.f25) (mkFr (argSlots [exA x, nmA, idA a b] 0)) (mkMem (rowsOf [])) (fun o fr M => endK o (resK Tryz.prog fr M Tryz.f25.results.toList fun vs => I (oneOf vs) (mv π M)))
theorem bd_node {S : List (FuncId × SEnt)} (hS : AllOk S) {a b : Nat} {x : Ex} (o : Int) (xs : List Ex) (bk : Nat) (G : Bool → Bool) (hG : ∀ c, c = true → G c = true)
    (hrun : ∀ I, run25 S a b x [bk] I = G (I (mkA o [] Rt.zero (.slice bk 0 xs.length xs.length true)) [some (.row (toAVs (xs.map exD).flatten) true 7)])) : Bd a b x (.mk o [] Rt.zero xs) := by
  refine BSim.run hm hX0 hS.mem ok25 (by kernel_rfl) rfl 60 [bk] (fun I => G (I (mkA o [] Rt.zero (.slice bk 0 xs.length xs.length true)) [some (.row (toAVs (xs.map exD).flatten) true 7)])) hrun ?_
  refine hG _ (pdec_iff.2 (Leaf.flat fun M' hM' => ?_))
  simp only [mv, List.map_cons, List.map_nil, List.cons.injEq] at hM'
  exact fz_ex o [] Rt.zero xs (Nat.zero_le _) hM'.1 (Nat.le_refl _)
theorem bd_leaf {S : List (FuncId × SEnt)} (hS : AllOk S) {a b : Nat} {x : Ex} (o : Int) (n : List UInt8) (r : Rt) (G : Bool → Bool) (hG : ∀ c, c = true → G c = true)
    (hrun : ∀ I, run25 S a b x [] I = G (I (mkA o n r .nilSlice) [])) : Bd a b x (.mk o n r []) := by
  refine BSim.run hm hX0 hS.mem ok25 (by kernel_rfl) rfl 60 [] (fun I => G (I (mkA o n r .nilSlice) [])) hrun ?_
  exact hG _ (pdec_iff.2 (Leaf.flat fun M' hM' => mkA0 ..))
theorem bd_num (a b k : Nat) : Bd a b (exNum k) (exNum k) := bd_leaf (S := []) trivial 1 [] (ratOf (k % 64) (1 + k / 128)) (fun c => c) (fun c hc => hc) (fun I => by kernel_rfl)
theorem bd_obj (a b k : Nat) : Bd a b (exObj k) (exObj k) := bd_leaf (S := []) trivial 3 [] (intRt k) (fun c => c) (fun c hc => hc) (fun I => by kernel_rfl)
theorem bd_zone (a b j : Nat) (hj : j < 3) : Bd a b (exZone j) (exZone j) := by
  have hj' : j = 0 ∨ j = 1 ∨ j = 2 := by omega
  rcases hj' with rfl | rfl | rfl
  · exact bd_leaf (S := []) trivial 5 (zname 0) Rt.zero (fun c => c) (fun c hc => hc) (fun I => by kernel_rfl)
  · exact bd_leaf (S := []) trivial 5 (zname 1) Rt.zero (fun c => c) (fun c hc => hc) (fun I => by kernel_rfl)
  · exact bd_leaf (S := []) trivial 5 (zname 2) Rt.zero (fun c => c) (fun c hc => hc) (fun I => by kernel_rfl)
theorem bd_var0 (a b : Nat) (ha : a < 257) : Bd a b (exVar 0) (exObj a) := by
  refine bd_leaf (S := [eInt a]) ⟨eInt_ok ha, trivial⟩ 3 [] (intRt a) (fun c => gC (eInt a) c) ?_ (fun I => by kernel_rfl)
  intro c hc; simp only [gC_iff]; exact hc
theorem bd_var1 (a b : Nat) (hb : b < 257) : Bd a b (exVar 1) (exObj b) := by
  refine bd_leaf (S := [eInt b]) ⟨eInt_ok hb, trivial⟩ 3 [] (intRt b) (fun c => gC (eInt b) c) ?_ (fun I => by kernel_rfl)
  intro c hc; simp only [gC_iff]; exact hc
theorem bd_10 {a b : Nat} {x x' : Ex} (hx : Bd a b x x') : Bd a b (.mk 10 [] Rt.zero [x]) (.mk 10 [] Rt.zero [x']) := by
  refine bd_node (S := [eB a b x x']) ⟨eB_ok hx, trivial⟩ 10 [x'] 4 (fun c => gC (eB a b x x') (c)) ?_ (fun I => by kernel_rfl)
  intro c hc; simp only [gC_iff]; exact hc
theorem bd_11 {a b : Nat} {x x' : Ex} (hx : Bd a b x x') : Bd a b (.mk 11 [] Rt.zero [x]) (.mk 11 [] Rt.zero [x']) := by
  refine bd_node (S := [eB a b x x']) ⟨eB_ok hx, trivial⟩ 11 [x'] 4 (fun c => gC (eB a b x x') (c)) ?_ (fun I => by kernel_rfl)
  intro c hc; simp only [gC_iff]; exact hc
theorem bd_14 {a b : Nat} {x x' : Ex} (hx : Bd a b x x') : Bd a b (.mk 14 [] Rt.zero [x]) (.mk 14 [] Rt.zero [x']) := by
  refine bd_node (S := [eB a b x x']) ⟨eB_ok hx, trivial⟩ 14 [x'] 4 (fun c => gC (eB a b x x') (c)) ?_ (fun I => by kernel_rfl)
  intro c hc; simp only [gC_iff]; exact hc
theorem bd_17 {a b : Nat} {x x' : Ex} (hx : Bd a b x x') : Bd a b (.mk 17 [] Rt.zero [x]) (.mk 17 [] Rt.zero [x']) := by
  refine bd_node (S := [eB a b x x']) ⟨eB_ok hx, trivial⟩ 17 [x'] 4 (fun c => gC (eB a b x x') (c)) ?_ (fun I => by kernel_rfl)
  intro c hc; simp only [gC_iff]; exact hc
theorem bd_25 {a b : Nat} {x x' : Ex} (hx : Bd a b x x') : Bd a b (.mk 25 [] Rt.zero [x]) (.mk 25 [] Rt.zero [x']) := by
  refine bd_node (S := [eB a b x x']) ⟨eB_ok hx, trivial⟩ 25 [x'] 4 (fun c => gC (eB a b x x') (c)) ?_ (fun I => by kernel_rfl)
  intro c hc; simp only [gC_iff]; exact hc
theorem bd_26 {a b : Nat} {x x' : Ex} (hx : Bd a b x x') : Bd a b (.mk 26 [] Rt.zero [x]) (.mk 26 [] Rt.zero [x']) := by
  refine bd_node (S := [eB a b x x']) ⟨eB_ok hx, trivial⟩ 26 [x'] 4 (fun c => gC (eB a b x x') (c)) ?_ (fun I => by kernel_rfl)
  intro c hc; simp only [gC_iff]; exact hc
theorem bd_27 {a b : Nat} {x x' : Ex} (hx : Bd a b x x') : Bd a b (.mk 27 [] Rt.zero [x]) (.mk 27 [] Rt.zero [x']) := by
  refine bd_node (S := [eB a b x x']) ⟨eB_ok hx, trivial⟩ 27 [x'] 4 (fun c => gC (eB a b x x') (c)) ?_ (fun I => by kernel_rfl)
  intro c hc; simp only [gC_iff]; exact hc
theorem bd_2 {a b : Nat} {x y x' y' : Ex} (hx : Bd a b x x') (hy : Bd a b y y') : Bd a b (.mk 2 [] Rt.zero [x, y]) (.mk 2 [] Rt.zero [x', y']) := by
  refine bd_node (S := [eB a b x x', eB a b y y']) ⟨eB_ok hx, eB_ok hy, trivial⟩ 2 [x', y'] 7 (fun c => gC (eB a b x x') (gC (eB a b y y') (c))) ?_ (fun I => by kernel_rfl)
  intro c hc; simp only [gC_iff]; exact hc
theorem bd_6 {a b : Nat} {x y x' y' : Ex} (hx : Bd a b x x') (hy : Bd a b y y') : Bd a b (.mk 6 [] Rt.zero [x, y]) (.mk 6 [] Rt.zero [x', y']) := by
  refine bd_node (S := [eB a b x x', eB a b y y']) ⟨eB_ok hx, eB_ok hy, trivial⟩ 6 [x', y'] 7 (fun c => gC (eB a b x x') (gC (eB a b y y') (c))) ?_ (fun I => by kernel_rfl)
  intro c hc; simp only [gC_iff]; exact hc
theorem bd_7 {a b : Nat} {x y x' y' : Ex} (hx : Bd a b x x') (hy : Bd a b y y') : Bd a b (.mk 7 [] Rt.zero [x, y]) (.mk 7 [] Rt.zero [x', y']) := by
  refine bd_node (S := [eB a b x x', eB a b y y']) ⟨eB_ok hx, eB_ok hy, trivial⟩ 7 [x', y'] 7 (fun c => gC (eB a b x x') (gC (eB a b y y') (c))) ?_ (fun I => by kernel_rfl)
  intro c hc; simp only [gC_iff]; exact hc
theorem bd_8 {a b : Nat} {x y x' y' : Ex} (hx : Bd a b x x') (hy : Bd a b y y') : Bd a b (.mk 8 [] Rt.zero [x, y]) (.mk 8 [] Rt.zero [x', y']) := by
  refine bd_node (S := [eB a b x x', eB a b y y']) ⟨eB_ok hx, eB_ok hy, trivial⟩ 8 [x', y'] 7 (fun c => gC (eB a b x x') (gC (eB a b y y') (c))) ?_ (fun I => by kernel_rfl)
  intro c hc; simp only [gC_iff]; exact hc
theorem bd_9 {a b : Nat} {x y x' y' : Ex} (hx : Bd a b x x') (hy : Bd a b y y') : Bd a b (.mk 9 [] Rt.zero [x, y]) (.mk 9 [] Rt.zero [x', y']) := by
  refine bd_node (S := [eB a b x x', eB a b y y']) ⟨eB_ok hx, eB_ok hy, trivial⟩ 9 [x', y'] 7 (fun c => gC (eB a b x x') (gC (eB a b y y') (c))) ?_ (fun I => by kernel_rfl)
  intro c hc; simp only [gC_iff]; exact hc
theorem bd_12 {a b : Nat} {x y x' y' : Ex} (hx : Bd a b x x') (hy : Bd a b y y') : Bd a b (.mk 12 [] Rt.zero [x, y]) (.mk 12 [] Rt.zero [x', y']) := by
  refine bd_node (S := [eB a b x x', eB a b y y']) ⟨eB_ok hx, eB_ok hy, trivial⟩ 12 [x', y'] 7 (fun c => gC (eB a b x x') (gC (eB a b y y') (c))) ?_ (fun I => by kernel_rfl)
  intro c hc; simp only [gC_iff]; exact hc
theorem bd_13 {a b : Nat} {x y x' y' : Ex} (hx : Bd a b x x') (hy : Bd a b y y') : Bd a b (.mk 13 [] Rt.zero [x, y]) (.mk 13 [] Rt.zero [x', y']) := by
  refine bd_node (S := [eB a b x x', eB a b y y']) ⟨eB_ok hx, eB_ok hy, trivial⟩ 13 [x', y'] 7 (fun c => gC (eB a b x x') (gC (eB a b y y') (c))) ?_ (fun I => by kernel_rfl)
  intro c hc; simp only [gC_iff]; exact hc
theorem bd_16 {a b : Nat} {x y x' y' : Ex} (hx : Bd a b x x') (hy : Bd a b y y') : Bd a b (.mk 16 [] Rt.zero [x, y]) (.mk 16 [] Rt.zero [x', y']) := by
  refine bd_node (S := [eB a b x x', eB a b y y']) ⟨eB_ok hx, eB_ok hy, trivial⟩ 16 [x', y'] 7 (fun c => gC (eB a b x x') (gC (eB a b y y') (c))) ?_ (fun I => by kernel_rfl)
  intro c hc; simp only [gC_iff]; exact hc
theorem bd_18 {a b : Nat} {x y x' y' : Ex} (hx : Bd a b x x') (hy : Bd a b y y') : Bd a b (.mk 18 [] Rt.zero [x, y]) (.mk 18 [] Rt.zero [x', y']) := by
  refine bd_node (S := [eB a b x x', eB a b y y']) ⟨eB_ok hx, eB_ok hy, trivial⟩ 18 [x', y'] 7 (fun c => gC (eB a b x x') (gC (eB a b y y') (c))) ?_ (fun I => by kernel_rfl)
  intro c hc; simp only [gC_iff]; exact hc
theorem bd_19 {a b : Nat} {x y x' y' : Ex} (hx : Bd a b x x') (hy : Bd a b y y') : Bd a b (.mk 19 [] Rt.zero [x, y]) (.mk 19 [] Rt.zero [x', y']) := by
  refine bd_node (S := [eB a b x x', eB a b y y']) ⟨eB_ok hx, eB_ok hy, trivial⟩ 19 [x', y'] 7 (fun c => gC (eB a b x x') (gC (eB a b y y') (c))) ?_ (fun I => by kernel_rfl)
  intro c hc; simp only [gC_iff]; exact hc
theorem bd_20 {a b : Nat} {x y x' y' : Ex} (hx : Bd a b x x') (hy : Bd a b y y') : Bd a b (.mk 20 [] Rt.zero [x, y]) (.mk 20 [] Rt.zero [x', y']) := by
  refine bd_node (S := [eB a b x x', eB a b y y']) ⟨eB_ok hx, eB_ok hy, trivial⟩ 20 [x', y'] 7 (fun c => gC (eB a b x x') (gC (eB a b y y') (c))) ?_ (fun I => by kernel_rfl)
  intro c hc; simp only [gC_iff]; exact hc
theorem bd_21 {a b : Nat} {x y x' y' : Ex} (hx : Bd a b x x') (hy : Bd a b y y') : Bd a b (.mk 21 [] Rt.zero [x, y]) (.mk 21 [] Rt.zero [x', y']) := by
  refine bd_node (S := [eB a b x x', eB a b y y']) ⟨eB_ok hx, eB_ok hy, trivial⟩ 21 [x', y'] 7 (fun c => gC (eB a b x x') (gC (eB a b y y') (c))) ?_ (fun I => by kernel_rfl)
  intro c hc; simp only [gC_iff]; exact hc
theorem bd_22 {a b : Nat} {x y x' y' : Ex} (hx : Bd a b x x') (hy : Bd a b y y') : Bd a b (.mk 22 [] Rt.zero [x, y]) (.mk 22 [] Rt.zero [x', y']) := by
  refine bd_node (S := [eB a b x x', eB a b y y']) ⟨eB_ok hx, eB_ok hy, trivial⟩ 22 [x', y'] 7 (fun c => gC (eB a b x x') (gC (eB a b y y') (c))) ?_ (fun I => by kernel_rfl)
  intro c hc; simp only [gC_iff]; exact hc
theorem bd_23 {a b : Nat} {x y x' y' : Ex} (hx : Bd a b x x') (hy : Bd a b y y') : Bd a b (.mk 23 [] Rt.zero [x, y]) (.mk 23 [] Rt.zero [x', y']) := by
  refine bd_node (S := [eB a b x x', eB a b y y']) ⟨eB_ok hx, eB_ok hy, trivial⟩ 23 [x', y'] 7 (fun c => gC (eB a b x x') (gC (eB a b y y') (c))) ?_ (fun I => by kernel_rfl)
  intro c hc; simp only [gC_iff]; exact hc
theorem bd_24 {a b : Nat} {x y x' y' : Ex} (hx : Bd a b x x') (hy : Bd a b y y') : Bd a b (.mk 24 [] Rt.zero [x, y]) (.mk 24 [] Rt.zero [x', y']) := by
  refine bd_node (S := [eB a b x x', eB a b y y']) ⟨eB_ok hx, eB_ok hy, trivial⟩ 24 [x', y'] 7 (fun c => gC (eB a b x x') (gC (eB a b y y') (c))) ?_ (fun I => by kernel_rfl)
  intro c hc; simp only [gC_iff]; exact hc
theorem bd_28 {a b : Nat} {x y x' y' : Ex} (hx : Bd a b x x') (hy : Bd a b y y') : Bd a b (.mk 28 [] Rt.zero [x, y]) (.mk 28 [] Rt.zero [x', y']) := by
  refine bd_node (S := [eB a b x x', eB a b y y']) ⟨eB_ok hx, eB_ok hy, trivial⟩ 28 [x', y'] 7 (fun c => gC (eB a b x x') (gC (eB a b y y') (c))) ?_ (fun I => by kernel_rfl)
  intro c hc; simp only [gC_iff]; exact hc
theorem bd_29 {a b : Nat} {x y x' y' : Ex} (hx : Bd a b x x') (hy : Bd a b y y') : Bd a b (.mk 29 [] Rt.zero [x, y]) (.mk 29 [] Rt.zero [x', y']) := by
  refine bd_node (S := [eB a b x x', eB a b y y']) ⟨eB_ok hx, eB_ok hy, trivial⟩ 29 [x', y'] 7 (fun c => gC (eB a b x x') (gC (eB a b y y') (c))) ?_ (fun I => by kernel_rfl)
  intro c hc; simp only [gC_iff]; exact hc
theorem bd_30 {a b : Nat} {x y x' y' : Ex} (hx : Bd a b x x') (hy : Bd a b y y') : Bd a b (.mk 30 [] Rt.zero [x, y]) (.mk 30 [] Rt.zero [x', y']) := by
  refine bd_node (S := [eB a b x x', eB a b y y']) ⟨eB_ok hx, eB_ok hy, trivial⟩ 30 [x', y'] 7 (fun c => gC (eB a b x x') (gC (eB a b y y') (c))) ?_ (fun I => by kernel_rfl)
  intro c hc; simp only [gC_iff]; exact hc
theorem bd_15 {a b : Nat} {x y z x' y' z' : Ex} (hx : Bd a b x x') (hy : Bd a b y y') (hz : Bd a b z z') : Bd a b (.mk 15 [] Rt.zero [x, y, z]) (.mk 15 [] Rt.zero [x', y', z']) := by
  refine bd_node (S := [eB a b x x', eB a b y y', eB a b z z']) ⟨eB_ok hx, eB_ok hy, eB_ok hz, trivial⟩ 15 [x', y', z'] 10 (fun c => gC (eB a b x x') (gC (eB a b y y') (gC (eB a b z z') (c)))) ?_ (fun I => by kernel_rfl)
  intro c hc; simp only [gC_iff]; exact hc
end Go.Proofs.YtnljmpeaeajcoaaGreatDoor

/- A part of the proof over this seat's program: the checked evaluator and its soundness (E..), and what it gives here (the others). No condition. -/
import Derived.Test.YtnljmpeaeajcoaaGreatDoorT10
namespace Go.Proofs.YtnljmpeaeajcoaaGreatDoor
open Go Go.Eng Go.Vi
local instance : Go.Eng.Mode := Sy

theorem ok46 : FnOk Tryz.prog 46 Tryz.f46 := ⟨Tryz.func46, by kernel_rfl, by kernel_rfl⟩
noncomputable def eCount (o : Nat) : FuncId × SEnt := (62, ⟨[.int .i64 (.ofNat o)], [], .int .i64 (.ofNat (nArgs o))⟩)
theorem eCount_ok {o : Nat} (h1 : 1 ≤ o) (h2 : o ≤ 30) : SSpec Tryz.prog (eCount o).1 (eCount o).2 := (count_c o h1 h2).spec0 rfl
noncomputable def eId (r : Rt) (n : Nat) (b : Bool) : FuncId × SEnt := (64, ⟨[rtA r], [], .tuple [.int .i64 (.ofNat n), .bool b]⟩)
noncomputable def eCk (r : Rt) : FuncId × SEnt := (63, ⟨[rtA r], [], .int .i64 0⟩)
theorem eId0 : SSpec Tryz.prog (eId Rt.zero 0 false).1 (eId Rt.zero 0 false).2 := (id_int 0 (by omega)).spec0 rfl
/-- a node that is right by itself -/
def Right (x : Ex) : Prop := BSim Tryz.prog 46 [exA x] [] [] (.int .i64 0)
theorem right_of {S : List (FuncId × SEnt)} (hS : AllOk S) {x : Ex} (G : Bool → Bool) (hG : ∀ c, c = true → G c = true)
    (hrun : ∀ I : AV → List (Option Blk) → Bool, Eng.exec Tryz.prog X0 S 60 Tryz.f46.ntmps (codeOf Tryz.f46) (mkFr (argSlots [exA x] 0)) (mkMem (rowsOf [])) (fun o fr M => endK o (resK Tryz.prog fr M Tryz.f46.results.toList fun vs => I (oneOf vs) (mv [] M))) = G (I (.int .i64 0) [])) : Right x := by
  refine BSim.run hm hX0 hS.mem ok46 (by kernel_rfl) rfl 60 [] (fun I => G (I (.int .i64 0) [])) hrun ?_
  exact hG _ (pdec_iff.2 (Leaf.flat fun _ _ => .plain (.int .i64 0)))
theorem right_num (k : Nat) (hk : k < 256) : Right (exNum k) := by
  have hn : k % 64 < 64 := Nat.mod_lt _ (by omega)
  have hd : 1 + k / 128 = 1 ∨ 1 + k / 128 = 2 := by omega
  refine right_of (S := [eCount 1, eCk (ratOf (k % 64) (1 + k / 128)), eId (ratOf (k % 64) (1 + k / 128)) (ratInt (k % 64) (1 + k / 128)) (ratIs (k % 64) (1 + k / 128))]) ⟨eCount_ok (by omega) (by omega), (check_rat _ _ hn hd).spec0 rfl, (id_rat _ _ hn hd).spec0 rfl, trivial⟩
    (fun c => gC (eCount 1) (gC (eCk (ratOf (k % 64) (1 + k / 128))) (gC (eId (ratOf (k % 64) (1 + k / 128)) (ratInt (k % 64) (1 + k / 128)) (ratIs (k % 64) (1 + k / 128))) c))) ?_ (fun I => by kernel_rfl)
  intro c hc; simp only [gC_iff]; exact hc
theorem right_obj (n : Nat) (h1 : 1 ≤ n) (hn : n < 257) : Right (exObj n) := by
  have h := id_int n hn
  rw [decide_eq_true h1] at h
  refine right_of (S := [eCount 3, eId (intRt n) n true]) ⟨eCount_ok (by omega) (by omega), h.spec0 rfl, trivial⟩ (fun c => gC (eCount 3) (gC (eId (intRt n) n true) c)) ?_ (fun I => by kernel_rfl)
  intro c hc; simp only [gC_iff]; exact hc
noncomputable def eName (i : Nat) : FuncId × SEnt := (28, ⟨[toAV (sD (vname i))], [], .bool true⟩)
theorem right_var (i : Nat) : Right (exVar i) := by
  refine right_of (S := [eCount 4, eId Rt.zero 0 false, eName i]) ⟨eCount_ok (by omega) (by omega), eId0, (isName_c i).spec0 rfl, trivial⟩ (fun c => gC (eCount 4) (gC (eId Rt.zero 0 false) (gC (eName i) c))) ?_ (fun I => by kernel_rfl)
  intro c hc; simp only [gC_iff]; exact hc
noncomputable def eZone (i : Nat) : FuncId × SEnt := (65, ⟨[toAV (sD (zname i))], [], .bool true⟩)
theorem right_zone (i : Nat) (hi : i < 3) : Right (exZone i) := by
  refine right_of (S := [eCount 5, eId Rt.zero 0 false, eZone i]) ⟨eCount_ok (by omega) (by omega), eId0, (isZone_c i hi).spec0 rfl, trivial⟩ (fun c => gC (eCount 5) (gC (eId Rt.zero 0 false) (gC (eZone i) c))) ?_ (fun I => by kernel_rfl)
  intro c hc; simp only [gC_iff]; exact hc
theorem right_point (j k : Nat) : Right (.mk 2 [] Rt.zero [exNum j, exNum k]) := by
  refine right_of (S := [eCount 2, eId Rt.zero 0 false]) ⟨eCount_ok (by omega) (by omega), eId0, trivial⟩ (fun c => gC (eCount 2) (gC (eId Rt.zero 0 false) c)) ?_ (fun I => by kernel_rfl)
  intro c hc; simp only [gC_iff]; exact hc
theorem right_10 (x : Ex) : Right (.mk 10 [] Rt.zero [x]) := by
  refine right_of (S := [eCount 10, eId Rt.zero 0 false]) ⟨eCount_ok (by omega) (by omega), eId0, trivial⟩ (fun c => gC (eCount 10) (gC (eId Rt.zero 0 false) c)) ?_ (fun I => by kernel_rfl)
  intro c hc; simp only [gC_iff]; exact hc
theorem right_11 (x : Ex) : Right (.mk 11 [] Rt.zero [x]) := by
  refine right_of (S := [eCount 11, eId Rt.zero 0 false]) ⟨eCount_ok (by omega) (by omega), eId0, trivial⟩ (fun c => gC (eCount 11) (gC (eId Rt.zero 0 false) c)) ?_ (fun I => by kernel_rfl)
  intro c hc; simp only [gC_iff]; exact hc
theorem right_14 (x : Ex) : Right (.mk 14 [] Rt.zero [x]) := by
  refine right_of (S := [eCount 14, eId Rt.zero 0 false]) ⟨eCount_ok (by omega) (by omega), eId0, trivial⟩ (fun c => gC (eCount 14) (gC (eId Rt.zero 0 false) c)) ?_ (fun I => by kernel_rfl)
  intro c hc; simp only [gC_iff]; exact hc
theorem right_17 (x : Ex) : Right (.mk 17 [] Rt.zero [x]) := by
  refine right_of (S := [eCount 17, eId Rt.zero 0 false]) ⟨eCount_ok (by omega) (by omega), eId0, trivial⟩ (fun c => gC (eCount 17) (gC (eId Rt.zero 0 false) c)) ?_ (fun I => by kernel_rfl)
  intro c hc; simp only [gC_iff]; exact hc
theorem right_25 (x : Ex) : Right (.mk 25 [] Rt.zero [x]) := by
  refine right_of (S := [eCount 25, eId Rt.zero 0 false]) ⟨eCount_ok (by omega) (by omega), eId0, trivial⟩ (fun c => gC (eCount 25) (gC (eId Rt.zero 0 false) c)) ?_ (fun I => by kernel_rfl)
  intro c hc; simp only [gC_iff]; exact hc
theorem right_26 (x : Ex) : Right (.mk 26 [] Rt.zero [x]) := by
  refine right_of (S := [eCount 26, eId Rt.zero 0 false]) ⟨eCount_ok (by omega) (by omega), eId0, trivial⟩ (fun c => gC (eCount 26) (gC (eId Rt.zero 0 false) c)) ?_ (fun I => by kernel_rfl)
  intro c hc; simp only [gC_iff]; exact hc
theorem right_27 (x : Ex) : Right (.mk 27 [] Rt.zero [x]) := by
  refine right_of (S := [eCount 27, eId Rt.zero 0 false]) ⟨eCount_ok (by omega) (by omega), eId0, trivial⟩ (fun c => gC (eCount 27) (gC (eId Rt.zero 0 false) c)) ?_ (fun I => by kernel_rfl)
  intro c hc; simp only [gC_iff]; exact hc
theorem right_6 (x y : Ex) : Right (.mk 6 [] Rt.zero [x, y]) := by
  refine right_of (S := [eCount 6, eId Rt.zero 0 false]) ⟨eCount_ok (by omega) (by omega), eId0, trivial⟩ (fun c => gC (eCount 6) (gC (eId Rt.zero 0 false) c)) ?_ (fun I => by kernel_rfl)
  intro c hc; simp only [gC_iff]; exact hc
theorem right_7 (x y : Ex) : Right (.mk 7 [] Rt.zero [x, y]) := by
  refine right_of (S := [eCount 7, eId Rt.zero 0 false]) ⟨eCount_ok (by omega) (by omega), eId0, trivial⟩ (fun c => gC (eCount 7) (gC (eId Rt.zero 0 false) c)) ?_ (fun I => by kernel_rfl)
  intro c hc; simp only [gC_iff]; exact hc
theorem right_8 (x y : Ex) : Right (.mk 8 [] Rt.zero [x, y]) := by
  refine right_of (S := [eCount 8, eId Rt.zero 0 false]) ⟨eCount_ok (by omega) (by omega), eId0, trivial⟩ (fun c => gC (eCount 8) (gC (eId Rt.zero 0 false) c)) ?_ (fun I => by kernel_rfl)
  intro c hc; simp only [gC_iff]; exact hc
theorem right_9 (x y : Ex) : Right (.mk 9 [] Rt.zero [x, y]) := by
  refine right_of (S := [eCount 9, eId Rt.zero 0 false]) ⟨eCount_ok (by omega) (by omega), eId0, trivial⟩ (fun c => gC (eCount 9) (gC (eId Rt.zero 0 false) c)) ?_ (fun I => by kernel_rfl)
  intro c hc; simp only [gC_iff]; exact hc
theorem right_12 (x y : Ex) : Right (.mk 12 [] Rt.zero [x, y]) := by
  refine right_of (S := [eCount 12, eId Rt.zero 0 false]) ⟨eCount_ok (by omega) (by omega), eId0, trivial⟩ (fun c => gC (eCount 12) (gC (eId Rt.zero 0 false) c)) ?_ (fun I => by kernel_rfl)
  intro c hc; simp only [gC_iff]; exact hc
theorem right_13 (x y : Ex) : Right (.mk 13 [] Rt.zero [x, y]) := by
  refine right_of (S := [eCount 13, eId Rt.zero 0 false]) ⟨eCount_ok (by omega) (by omega), eId0, trivial⟩ (fun c => gC (eCount 13) (gC (eId Rt.zero 0 false) c)) ?_ (fun I => by kernel_rfl)
  intro c hc; simp only [gC_iff]; exact hc
theorem right_16 (x y : Ex) : Right (.mk 16 [] Rt.zero [x, y]) := by
  refine right_of (S := [eCount 16, eId Rt.zero 0 false]) ⟨eCount_ok (by omega) (by omega), eId0, trivial⟩ (fun c => gC (eCount 16) (gC (eId Rt.zero 0 false) c)) ?_ (fun I => by kernel_rfl)
  intro c hc; simp only [gC_iff]; exact hc
theorem right_18 (x y : Ex) : Right (.mk 18 [] Rt.zero [x, y]) := by
  refine right_of (S := [eCount 18, eId Rt.zero 0 false]) ⟨eCount_ok (by omega) (by omega), eId0, trivial⟩ (fun c => gC (eCount 18) (gC (eId Rt.zero 0 false) c)) ?_ (fun I => by kernel_rfl)
  intro c hc; simp only [gC_iff]; exact hc
theorem right_19 (x y : Ex) : Right (.mk 19 [] Rt.zero [x, y]) := by
  refine right_of (S := [eCount 19, eId Rt.zero 0 false]) ⟨eCount_ok (by omega) (by omega), eId0, trivial⟩ (fun c => gC (eCount 19) (gC (eId Rt.zero 0 false) c)) ?_ (fun I => by kernel_rfl)
  intro c hc; simp only [gC_iff]; exact hc
theorem right_20 (x y : Ex) : Right (.mk 20 [] Rt.zero [x, y]) := by
  refine right_of (S := [eCount 20, eId Rt.zero 0 false]) ⟨eCount_ok (by omega) (by omega), eId0, trivial⟩ (fun c => gC (eCount 20) (gC (eId Rt.zero 0 false) c)) ?_ (fun I => by kernel_rfl)
  intro c hc; simp only [gC_iff]; exact hc
theorem right_21 (x y : Ex) : Right (.mk 21 [] Rt.zero [x, y]) := by
  refine right_of (S := [eCount 21, eId Rt.zero 0 false]) ⟨eCount_ok (by omega) (by omega), eId0, trivial⟩ (fun c => gC (eCount 21) (gC (eId Rt.zero 0 false) c)) ?_ (fun I => by kernel_rfl)
  intro c hc; simp only [gC_iff]; exact hc
theorem right_22 (x y : Ex) : Right (.mk 22 [] Rt.zero [x, y]) := by
  refine right_of (S := [eCount 22, eId Rt.zero 0 false]) ⟨eCount_ok (by omega) (by omega), eId0, trivial⟩ (fun c => gC (eCount 22) (gC (eId Rt.zero 0 false) c)) ?_ (fun I => by kernel_rfl)
  intro c hc; simp only [gC_iff]; exact hc
theorem right_23 (x y : Ex) : Right (.mk 23 [] Rt.zero [x, y]) := by
  refine right_of (S := [eCount 23, eId Rt.zero 0 false]) ⟨eCount_ok (by omega) (by omega), eId0, trivial⟩ (fun c => gC (eCount 23) (gC (eId Rt.zero 0 false) c)) ?_ (fun I => by kernel_rfl)
  intro c hc; simp only [gC_iff]; exact hc
theorem right_24 (x y : Ex) : Right (.mk 24 [] Rt.zero [x, y]) := by
  refine right_of (S := [eCount 24, eId Rt.zero 0 false]) ⟨eCount_ok (by omega) (by omega), eId0, trivial⟩ (fun c => gC (eCount 24) (gC (eId Rt.zero 0 false) c)) ?_ (fun I => by kernel_rfl)
  intro c hc; simp only [gC_iff]; exact hc
theorem right_28 (x y : Ex) : Right (.mk 28 [] Rt.zero [x, y]) := by
  refine right_of (S := [eCount 28, eId Rt.zero 0 false]) ⟨eCount_ok (by omega) (by omega), eId0, trivial⟩ (fun c => gC (eCount 28) (gC (eId Rt.zero 0 false) c)) ?_ (fun I => by kernel_rfl)
  intro c hc; simp only [gC_iff]; exact hc
theorem right_29 (x y : Ex) : Right (.mk 29 [] Rt.zero [x, y]) := by
  refine right_of (S := [eCount 29, eId Rt.zero 0 false]) ⟨eCount_ok (by omega) (by omega), eId0, trivial⟩ (fun c => gC (eCount 29) (gC (eId Rt.zero 0 false) c)) ?_ (fun I => by kernel_rfl)
  intro c hc; simp only [gC_iff]; exact hc
theorem right_30 (x y : Ex) : Right (.mk 30 [] Rt.zero [x, y]) := by
  refine right_of (S := [eCount 30, eId Rt.zero 0 false]) ⟨eCount_ok (by omega) (by omega), eId0, trivial⟩ (fun c => gC (eCount 30) (gC (eId Rt.zero 0 false) c)) ?_ (fun I => by kernel_rfl)
  intro c hc; simp only [gC_iff]; exact hc
theorem right_15 (x y z : Ex) : Right (.mk 15 [] Rt.zero [x, y, z]) := by
  refine right_of (S := [eCount 15, eId Rt.zero 0 false]) ⟨eCount_ok (by omega) (by omega), eId0, trivial⟩ (fun c => gC (eCount 15) (gC (eId Rt.zero 0 false) c)) ?_ (fun I => by kernel_rfl)
  intro c hc; simp only [gC_iff]; exact hc
end Go.Proofs.YtnljmpeaeajcoaaGreatDoor

/- A part of the proof over this seat's program: the checked evaluator and its soundness, and what it gives here. No condition. -/
import Derived.Test.YtnljmpeaeajcoaaGreatDoorA5

set_option linter.all false

namespace Go.Proofs.YtnljmpeaeajcoaaGreatDoor
open Go Go.Eng Go.Vi
local instance : Go.Eng.Mode := Sy

theorem ok46 : FnOk Tryz.prog 46 Tryz.f46 := ⟨Tryz.func46, by kernel_rfl, by kernel_rfl⟩
noncomputable def eCount (o : Nat) : FuncId × SEnt := (62, ⟨[.int .i64 (.ofNat o)], [], .int .i64 (.ofNat (nArgs o))⟩)
theorem eCount_ok {o : Nat} (h1 : 1 ≤ o) (h2 : o ≤ 30) : SSpec Tryz.prog (eCount o).1 (eCount o).2 := (count_c o h1 h2).spec0 rfl
noncomputable def eId (r : Rt) (n : Nat) (b : Bool) : FuncId × SEnt := (64, ⟨[rtA r], [], .tuple [.int .i64 (.ofNat n), .bool b]⟩)
noncomputable def eCk (r : Rt) : FuncId × SEnt := (63, ⟨[rtA r], [], .int .i64 0⟩)
theorem eId0 : SSpec Tryz.prog (eId Rt.zero 0 false).1 (eId Rt.zero 0 false).2 := (id_int 0 (by omega)).spec0 rfl
/-- a node that is right by itself -/
def Right (x : Ex) : Prop := BSim Tryz.prog 46 [exA x] [] [] (.int .i64 0)
theorem right_of {S : List (FuncId × SEnt)} (hS : AllOk S) {x : Ex} (G : Bool → Bool) (hG : ∀ c, c = true → G c = true)
    (hrun : ∀ I : AV → List (Option Blk) → Bool, Eng.exec Tryz.prog X0 S 60 Tryz.f46.ntmps (codeOf Tryz.f46) (mkFr (argSlots [exA x] 0)) (mkMem (rowsOf [])) (fun o fr M => endK o (resK Tryz.prog fr M Tryz.f46.results.toList fun vs => I (oneOf vs) (mv [] M))) = G (I (.int .i64 0) [])) : Right x := by
  refine BSim.run hm hX0 hS.mem ok46 (by kernel_rfl) rfl 60 [] (fun I => G (I (.int .i64 0) [])) hrun ?_
  exact hG _ (pdec_iff.2 (Leaf.flat fun _ _ => .plain (.int .i64 0)))
theorem right_num (k : Nat) (hk : k < 256) : Right (exNum k) := by
  have hn : k % 64 < 64 := Nat.mod_lt _ (by omega)
  have hd : 1 + k / 128 = 1 ∨ 1 + k / 128 = 2 := by omega
  refine right_of (S := [eCount 1, eCk (ratOf (k % 64) (1 + k / 128)), eId (ratOf (k % 64) (1 + k / 128)) (ratInt (k % 64) (1 + k / 128)) (ratIs (k % 64) (1 + k / 128))]) ⟨eCount_ok (by omega) (by omega), (check_rat _ _ hn hd).spec0 rfl, (id_rat _ _ hn hd).spec0 rfl, trivial⟩
    (fun c => gC (eCount 1) (gC (eCk (ratOf (k % 64) (1 + k / 128))) (gC (eId (ratOf (k % 64) (1 + k / 128)) (ratInt (k % 64) (1 + k / 128)) (ratIs (k % 64) (1 + k / 128))) c))) ?_ (fun I => by kernel_rfl)
  intro c hc; simp only [gC_iff]; exact hc
theorem right_obj (n : Nat) (h1 : 1 ≤ n) (hn : n < 257) : Right (exObj n) := by
  have h := id_int n hn
  rw [decide_eq_true h1] at h
  refine right_of (S := [eCount 3, eId (intRt n) n true]) ⟨eCount_ok (by omega) (by omega), h.spec0 rfl, trivial⟩ (fun c => gC (eCount 3) (gC (eId (intRt n) n true) c)) ?_ (fun I => by kernel_rfl)
  intro c hc; simp only [gC_iff]; exact hc
noncomputable def eName (i : Nat) : FuncId × SEnt := (28, ⟨[toAV (sD (vname i))], [], .bool true⟩)
theorem right_var (i : Nat) : Right (exVar i) := by
  refine right_of (S := [eCount 4, eId Rt.zero 0 false, eName i]) ⟨eCount_ok (by omega) (by omega), eId0, (isName_c i).spec0 rfl, trivial⟩ (fun c => gC (eCount 4) (gC (eId Rt.zero 0 false) (gC (eName i) c))) ?_ (fun I => by kernel_rfl)
  intro c hc; simp only [gC_iff]; exact hc
noncomputable def eZone (i : Nat) : FuncId × SEnt := (65, ⟨[toAV (sD (zname i))], [], .bool true⟩)
theorem right_zone (i : Nat) (hi : i < 3) : Right (exZone i) := by
  refine right_of (S := [eCount 5, eId Rt.zero 0 false, eZone i]) ⟨eCount_ok (by omega) (by omega), eId0, (isZone_c i hi).spec0 rfl, trivial⟩ (fun c => gC (eCount 5) (gC (eId Rt.zero 0 false) (gC (eZone i) c))) ?_ (fun I => by kernel_rfl)
  intro c hc; simp only [gC_iff]; exact hc
theorem right_point (j k : Nat) : Right (.mk 2 [] Rt.zero [exNum j, exNum k]) := by
  refine right_of (S := [eCount 2, eId Rt.zero 0 false]) ⟨eCount_ok (by omega) (by omega), eId0, trivial⟩ (fun c => gC (eCount 2) (gC (eId Rt.zero 0 false) c)) ?_ (fun I => by kernel_rfl)
  intro c hc; simp only [gC_iff]; exact hc
theorem right_10 (x : Ex) : Right (.mk 10 [] Rt.zero [x]) := by
  refine right_of (S := [eCount 10, eId Rt.zero 0 false]) ⟨eCount_ok (by omega) (by omega), eId0, trivial⟩ (fun c => gC (eCount 10) (gC (eId Rt.zero 0 false) c)) ?_ (fun I => by kernel_rfl)
  intro c hc; simp only [gC_iff]; exact hc
theorem right_11 (x : Ex) : Right (.mk 11 [] Rt.zero [x]) := by
  refine right_of (S := [eCount 11, eId Rt.zero 0 false]) ⟨eCount_ok (by omega) (by omega), eId0, trivial⟩ (fun c => gC (eCount 11) (gC (eId Rt.zero 0 false) c)) ?_ (fun I => by kernel_rfl)
  intro c hc; simp only [gC_iff]; exact hc
theorem right_14 (x : Ex) : Right (.mk 14 [] Rt.zero [x]) := by
  refine right_of (S := [eCount 14, eId Rt.zero 0 false]) ⟨eCount_ok (by omega) (by omega), eId0, trivial⟩ (fun c => gC (eCount 14) (gC (eId Rt.zero 0 false) c)) ?_ (fun I => by kernel_rfl)
  intro c hc; simp only [gC_iff]; exact hc
theorem right_17 (x : Ex) : Right (.mk 17 [] Rt.zero [x]) := by
  refine right_of (S := [eCount 17, eId Rt.zero 0 false]) ⟨eCount_ok (by omega) (by omega), eId0, trivial⟩ (fun c => gC (eCount 17) (gC (eId Rt.zero 0 false) c)) ?_ (fun I => by kernel_rfl)
  intro c hc; simp only [gC_iff]; exact hc
theorem right_25 (x : Ex) : Right (.mk 25 [] Rt.zero [x]) := by
  refine right_of (S := [eCount 25, eId Rt.zero 0 false]) ⟨eCount_ok (by omega) (by omega), eId0, trivial⟩ (fun c => gC (eCount 25) (gC (eId Rt.zero 0 false) c)) ?_ (fun I => by kernel_rfl)
  intro c hc; simp only [gC_iff]; exact hc
theorem right_26 (x : Ex) : Right (.mk 26 [] Rt.zero [x]) := by
  refine right_of (S := [eCount 26, eId Rt.zero 0 false]) ⟨eCount_ok (by omega) (by omega), eId0, trivial⟩ (fun c => gC (eCount 26) (gC (eId Rt.zero 0 false) c)) ?_ (fun I => by kernel_rfl)
  intro c hc; simp only [gC_iff]; exact hc
theorem right_27 (x : Ex) : Right (.mk 27 [] Rt.zero [x]) := by
  refine right_of (S := [eCount 27, eId Rt.zero 0 false]) ⟨eCount_ok (by omega) (by omega), eId0, trivial⟩ (fun c => gC (eCount 27) (gC (eId Rt.zero 0 false) c)) ?_ (fun I => by kernel_rfl)
  intro c hc; simp only [gC_iff]; exact hc
theorem right_6 (x y : Ex) : Right (.mk 6 [] Rt.zero [x, y]) := by
  refine right_of (S := [eCount 6, eId Rt.zero 0 false]) ⟨eCount_ok (by omega) (by omega), eId0, trivial⟩ (fun c => gC (eCount 6) (gC (eId Rt.zero 0 false) c)) ?_ (fun I => by kernel_rfl)
  intro c hc; simp only [gC_iff]; exact hc
theorem right_7 (x y : Ex) : Right (.mk 7 [] Rt.zero [x, y]) := by
  refine right_of (S := [eCount 7, eId Rt.zero 0 false]) ⟨eCount_ok (by omega) (by omega), eId0, trivial⟩ (fun c => gC (eCount 7) (gC (eId Rt.zero 0 false) c)) ?_ (fun I => by kernel_rfl)
  intro c hc; simp only [gC_iff]; exact hc
theorem right_8 (x y : Ex) : Right (.mk 8 [] Rt.zero [x, y]) := by
  refine right_of (S := [eCount 8, eId Rt.zero 0 false]) ⟨eCount_ok (by omega) (by omega), eId0, trivial⟩ (fun c => gC (eCount 8) (gC (eId Rt.zero 0 false) c)) ?_ (fun I => by kernel_rfl)
  intro c hc; simp only [gC_iff]; exact hc
theorem right_9 (x y : Ex) : Right (.mk 9 [] Rt.zero [x, y]) := by
  refine right_of (S := [eCount 9, eId Rt.zero 0 false]) ⟨eCount_ok (by omega) (by omega), eId0, trivial⟩ (fun c => gC (eCount 9) (gC (eId Rt.zero 0 false) c)) ?_ (fun I => by kernel_rfl)
  intro c hc; simp only [gC_iff]; exact hc
theorem right_12 (x y : Ex) : Right (.mk 12 [] Rt.zero [x, y]) := by
  refine right_of (S := [eCount 12, eId Rt.zero 0 false]) ⟨eCount_ok (by omega) (by omega), eId0, trivial⟩ (fun c => gC (eCount 12) (gC (eId Rt.zero 0 false) c)) ?_ (fun I => by kernel_rfl)
  intro c hc; simp only [gC_iff]; exact hc
theorem right_13 (x y : Ex) : Right (.mk 13 [] Rt.zero [x, y]) := by
  refine right_of (S := [eCount 13, eId Rt.zero 0 false]) ⟨eCount_ok (by omega) (by omega), eId0, trivial⟩ (fun c => gC (eCount 13) (gC (eId Rt.zero 0 false) c)) ?_ (fun I => by kernel_rfl)
  intro c hc; simp only [gC_iff]; exact hc
theorem right_16 (x y : Ex) : Right (.mk 16 [] Rt.zero [x, y]) := by
  refine right_of (S := [eCount 16, eId Rt.zero 0 false]) ⟨eCount_ok (by omega) (by omega), eId0, trivial⟩ (fun c => gC (eCount 16) (gC (eId Rt.zero 0 false) c)) ?_ (fun I => by kernel_rfl)
  intro c hc; simp only [gC_iff]; exact hc
theorem right_18 (x y : Ex) : Right (.mk 18 [] Rt.zero [x, y]) := by
  refine right_of (S := [eCount 18, eId Rt.zero 0 false]) ⟨eCount_ok (by omega) (by omega), eId0, trivial⟩ (fun c => gC (eCount 18) (gC (eId Rt.zero 0 false) c)) ?_ (fun I => by kernel_rfl)
  intro c hc; simp only [gC_iff]; exact hc
theorem right_19 (x y : Ex) : Right (.mk 19 [] Rt.zero [x, y]) := by
  refine right_of (S := [eCount 19, eId Rt.zero 0 false]) ⟨eCount_ok (by omega) (by omega), eId0, trivial⟩ (fun c => gC (eCount 19) (gC (eId Rt.zero 0 false) c)) ?_ (fun I => by kernel_rfl)
  intro c hc; simp only [gC_iff]; exact hc
theorem right_20 (x y : Ex) : Right (.mk 20 [] Rt.zero [x, y]) := by
  refine right_of (S := [eCount 20, eId Rt.zero 0 false]) ⟨eCount_ok (by omega) (by omega), eId0, trivial⟩ (fun c => gC (eCount 20) (gC (eId Rt.zero 0 false) c)) ?_ (fun I => by kernel_rfl)
  intro c hc; simp only [gC_iff]; exact hc
theorem right_21 (x y : Ex) : Right (.mk 21 [] Rt.zero [x, y]) := by
  refine right_of (S := [eCount 21, eId Rt.zero 0 false]) ⟨eCount_ok (by omega) (by omega), eId0, trivial⟩ (fun c => gC (eCount 21) (gC (eId Rt.zero 0 false) c)) ?_ (fun I => by kernel_rfl)
  intro c hc; simp only [gC_iff]; exact hc
theorem right_22 (x y : Ex) : Right (.mk 22 [] Rt.zero [x, y]) := by
  refine right_of (S := [eCount 22, eId Rt.zero 0 false]) ⟨eCount_ok (by omega) (by omega), eId0, trivial⟩ (fun c => gC (eCount 22) (gC (eId Rt.zero 0 false) c)) ?_ (fun I => by kernel_rfl)
  intro c hc; simp only [gC_iff]; exact hc
theorem right_23 (x y : Ex) : Right (.mk 23 [] Rt.zero [x, y]) := by
  refine right_of (S := [eCount 23, eId Rt.zero 0 false]) ⟨eCount_ok (by omega) (by omega), eId0, trivial⟩ (fun c => gC (eCount 23) (gC (eId Rt.zero 0 false) c)) ?_ (fun I => by kernel_rfl)
  intro c hc; simp only [gC_iff]; exact hc
theorem right_24 (x y : Ex) : Right (.mk 24 [] Rt.zero [x, y]) := by
  refine right_of (S := [eCount 24, eId Rt.zero 0 false]) ⟨eCount_ok (by omega) (by omega), eId0, trivial⟩ (fun c => gC (eCount 24) (gC (eId Rt.zero 0 false) c)) ?_ (fun I => by kernel_rfl)
  intro c hc; simp only [gC_iff]; exact hc
theorem right_28 (x y : Ex) : Right (.mk 28 [] Rt.zero [x, y]) := by
  refine right_of (S := [eCount 28, eId Rt.zero 0 false]) ⟨eCount_ok (by omega) (by omega), eId0, trivial⟩ (fun c => gC (eCount 28) (gC (eId Rt.zero 0 false) c)) ?_ (fun I => by kernel_rfl)
  intro c hc; simp only [gC_iff]; exact hc
theorem right_29 (x y : Ex) : Right (.mk 29 [] Rt.zero [x, y]) := by
  refine right_of (S := [eCount 29, eId Rt.zero 0 false]) ⟨eCount_ok (by omega) (by omega), eId0, trivial⟩ (fun c => gC (eCount 29) (gC (eId Rt.zero 0 false) c)) ?_ (fun I => by kernel_rfl)
  intro c hc; simp only [gC_iff]; exact hc
theorem right_30 (x y : Ex) : Right (.mk 30 [] Rt.zero [x, y]) := by
  refine right_of (S := [eCount 30, eId Rt.zero 0 false]) ⟨eCount_ok (by omega) (by omega), eId0, trivial⟩ (fun c => gC (eCount 30) (gC (eId Rt.zero 0 false) c)) ?_ (fun I => by kernel_rfl)
  intro c hc; simp only [gC_iff]; exact hc
theorem right_15 (x y z : Ex) : Right (.mk 15 [] Rt.zero [x, y, z]) := by
  refine right_of (S := [eCount 15, eId Rt.zero 0 false]) ⟨eCount_ok (by omega) (by omega), eId0, trivial⟩ (fun c => gC (eCount 15) (gC (eId Rt.zero 0 false) c)) ?_ (fun I => by kernel_rfl)
  intro c hc; simp only [gC_iff]; exact hc
end Go.Proofs.YtnljmpeaeajcoaaGreatDoor

namespace Go.Proofs.YtnljmpeaeajcoaaGreatDoor
open Go Go.Eng Go.Vi
local instance : Go.Eng.Mode := Sy

noncomputable def gUs (l : List (Nat × List AV × List AV)) (b : Bool) : Bool := List.rec (motive := fun _ => Bool) b (fun u _ ih => gE u.2.1 ih) l
theorem gUs_iff {l : List (Nat × List AV × List AV)} {b : Bool} : gUs l b = true ↔ b = true := by
  induction l with
  | nil => exact Iff.rfl
  | cons u l ih => show gE u.2.1 (gUs l b) = true ↔ _; rw [gE_iff, ih]
/-- a call of the script with more rows -/
noncomputable def gD (e : FuncId × SEnt) (b : Bool) : Bool := gE e.2.args (gUs e.2.ups b)
theorem gD_iff {e : FuncId × SEnt} {b : Bool} : gD e b = true ↔ b = true := by unfold gD; rw [gE_iff, gUs_iff]
noncomputable def ifB (c a b : Bool) : Bool := Bool.rec (motive := fun _ => Bool) b a c
theorem ifB_false {c a b : Bool} (h : c = false) : ifB c a b = b := by subst h; rfl

inductive Good : Ex → Prop
  | mk (o : Int) (n : List UInt8) (r : Rt) (args : List Ex) (h : Right (.mk o n r args)) (hl : args.length ≤ 3) (ha : ∀ y ∈ args, Good y) : Good (.mk o n r args)

def fV : AV := .func (.func 45) [] [.ptr 0 0, .ptr 1 0]
def rowsV (n : Nat) : List (List AV) := [[.int .i64 (.ofNat n)], [fV]]
theorem rowsV_fz (n : Nat) (M' : Mem) : ∀ r ∈ rowsV n, FzBs 2 M' r r := by
  intro r hr
  rcases List.mem_cons.1 hr with rfl | hr
  · exact .cons _ _ _ _ (.plain (.int .i64 (.ofNat n))) .nil
  · obtain rfl := List.mem_singleton.1 hr
    exact .cons _ _ _ _ (.func _ _ _ _ _ .nil (.cons _ _ _ _ (.ptr 0 0 (by omega)) (.cons _ _ _ _ (.ptr 1 0 (by omega)) .nil))) .nil
noncomputable def eR (x : Ex) : FuncId × SEnt := (46, ⟨[exA x], [], .int .i64 0⟩)
noncomputable def eV (x : Ex) (lev n n' : Nat) : FuncId × SEnt := (45, ⟨[exA x, .int .i64 (.ofNat lev), .ptr 0 0, .ptr 1 0], [(0, [.int .i64 (.ofNat n)], [.int .i64 (.ofNat n')]), (1, [fV], [fV])], .int .i64 0⟩)
theorem ok45 : FnOk Tryz.prog 45 Tryz.f45 := ⟨Tryz.func45, by kernel_rfl, by kernel_rfl⟩
theorem eV_ok {x : Ex} {lev n n' : Nat} (h : BSimG Tryz.prog 45 [exA x, .int .i64 (.ofNat lev), .ptr 0 0, .ptr 1 0] (rowsV n) (rowsV n') (.int .i64 0)) : SSpec Tryz.prog (eV x lev n n').1 (eV x lev n n').2 :=
  h [0, 1] _ _ _ rfl (by decide) rfl rfl rfl
noncomputable def leafV (n : Nat) (e : Int) (I : AV → List (Option Blk) → Bool) : Bool := I (.int .i64 e) ((rowsG (rowsV n)).map some ++ [])
/-- one argument -/
noncomputable def stepV (y : Ex) (lev n n' : Nat) (b : Bool) : Bool := gB (inI64 (.ofNat (lev + 1))) (gD (eV y (lev + 1) n n') b)
noncomputable def runV (S : List (FuncId × SEnt)) (x : Ex) (lev n : Nat) (I : AV → List (Option Blk) → Bool) : Bool :=
  Eng.exec Tryz.prog X0 S 60 Tryz.f45.ntmps (codeOf Tryz.f45) (mkFr (argSlots [exA x, .int .i64 (.ofNat lev), .ptr 0 0, .ptr 1 0] 0)) (mkMem (rowsG (rowsV n))) (fun o fr M => endK o (resK Tryz.prog fr M Tryz.f45.results.toList fun vs => I (oneOf vs) (mv [0, 1] M)))
theorem visit_of {S : List (FuncId × SEnt)} (hS : AllOk S) {x : Ex} {lev n n' : Nat} (hn : n < 256) (hlev : lev ≤ 32) (G : Bool → Bool) (hG : ∀ c, c = true → G c = true)
    (hrun : ∀ I, runV S x lev n I = ifB (Bool.not (ilt (.ofNat n) 256)) (leafV n 3 I) (ifB (ilt 32 (.ofNat lev)) (leafV n 33 I) (gB (inI64 (.ofNat (n + 1))) (gD (eR x) (G (leafV n' 0 I)))))) :
    BSimG Tryz.prog 45 [exA x, .int .i64 (.ofNat lev), .ptr 0 0, .ptr 1 0] (rowsV n) (rowsV n') (.int .i64 0) := by
  refine BSimG.run hm hX0 hS.mem ok45 (by kernel_rfl) rfl 60 [0, 1] _ hrun ?_
  have c1 : Bool.not (ilt (.ofNat n) 256) = false := by rw [ilt_iff]; simp; omega
  have c2 : ilt 32 (.ofNat lev) = false := by rw [ilt_iff]; simp; omega
  simp only [ifB_false c1, ifB_false c2, gB_iff, gD_iff]
  exact ⟨smallI _ (by omega), hG _ (pdec_iff.2 (LeafG.of (rowsV_fz n') fun _ _ => .plain (.int .i64 0)))⟩
theorem visit_c : ∀ {x : Ex}, Good x → ∀ lev n, n + x.size ≤ 256 → lev + x.dep ≤ 33 → BSimG Tryz.prog 45 [exA x, .int .i64 (.ofNat lev), .ptr 0 0, .ptr 1 0] (rowsV n) (rowsV (n + x.size)) (.int .i64 0) := by
  intro x hx
  induction hx with
  | mk o nm r args hR hl ha ih =>
    intro lev n hn hd
    have e1 : (Ex.mk o nm r args).size = 1 + sizeL args := by simp [Ex.size]
    have e2 : (Ex.mk o nm r args).dep = 1 + depL args := by simp [Ex.dep]
    rw [e1] at hn
    rw [e2] at hd
    rw [e1]
    have hlv : inI64 (.ofNat (lev + 1)) = true := smallI _ (by omega)
    have hR' : SSpec Tryz.prog (eR (.mk o nm r args)).1 (eR (.mk o nm r args)).2 := hR.spec0 rfl
    match args, hl with
    | [], _ =>
      simp only [sizeL] at hn ⊢
      refine visit_of (S := [eR (.mk o nm r [])]) ⟨hR', trivial⟩ (by omega) (by omega) (fun c => c) (fun c hc => hc) (fun I => by kernel_rfl)
    | [y], _ =>
      simp only [sizeL, depL, Nat.add_zero] at hn hd ⊢
      have h1 := ih y (by simp) (lev + 1) (n + 1) (by omega) (by omega)
      have e3 : n + (1 + y.size) = n + 1 + y.size := by omega
      rw [e3]
      refine visit_of (S := [eR (.mk o nm r [y]), eV y (lev + 1) (n + 1) (n + 1 + y.size)]) ⟨hR', eV_ok h1, trivial⟩ (by omega) (by omega) (fun c => stepV y lev (n + 1) (n + 1 + y.size) c) ?_ (fun I => by kernel_rfl)
      intro c hc; simp only [stepV, gB_iff, gD_iff]; exact ⟨hlv, hc⟩
    | [y, z], _ =>
      simp only [sizeL, depL, Nat.add_zero] at hn hd ⊢
      have h1 := ih y (by simp) (lev + 1) (n + 1) (by omega) (by omega)
      have h2 := ih z (by simp) (lev + 1) (n + 1 + y.size) (by omega) (by omega)
      have e3 : n + (1 + (y.size + z.size)) = n + 1 + y.size + z.size := by omega
      rw [e3]
      refine visit_of (S := [eR (.mk o nm r [y, z]), eV y (lev + 1) (n + 1) (n + 1 + y.size), eV z (lev + 1) (n + 1 + y.size) (n + 1 + y.size + z.size)]) ⟨hR', eV_ok h1, eV_ok h2, trivial⟩ (by omega) (by omega)
        (fun c => stepV y lev (n + 1) (n + 1 + y.size) (stepV z lev (n + 1 + y.size) (n + 1 + y.size + z.size) c)) ?_ (fun I => by kernel_rfl)
      intro c hc; simp only [stepV, gB_iff, gD_iff]; exact ⟨hlv, hlv, hc⟩
    | [y, z, u], _ =>
      simp only [sizeL, depL, Nat.add_zero] at hn hd ⊢
      have h1 := ih y (by simp) (lev + 1) (n + 1) (by omega) (by omega)
      have h2 := ih z (by simp) (lev + 1) (n + 1 + y.size) (by omega) (by omega)
      have h3 := ih u (by simp) (lev + 1) (n + 1 + y.size + z.size) (by omega) (by omega)
      have e3 : n + (1 + (y.size + (z.size + u.size))) = n + 1 + y.size + z.size + u.size := by omega
      rw [e3]
      refine visit_of (S := [eR (.mk o nm r [y, z, u]), eV y (lev + 1) (n + 1) (n + 1 + y.size), eV z (lev + 1) (n + 1 + y.size) (n + 1 + y.size + z.size), eV u (lev + 1) (n + 1 + y.size + z.size) (n + 1 + y.size + z.size + u.size)])
        ⟨hR', eV_ok h1, eV_ok h2, eV_ok h3, trivial⟩ (by omega) (by omega)
        (fun c => stepV y lev (n + 1) (n + 1 + y.size) (stepV z lev (n + 1 + y.size) (n + 1 + y.size + z.size) (stepV u lev (n + 1 + y.size + z.size) (n + 1 + y.size + z.size + u.size) c))) ?_ (fun I => by kernel_rfl)
      intro c hc; simp only [stepV, gB_iff, gD_iff]; exact ⟨hlv, hlv, hlv, hc⟩
    | _ :: _ :: _ :: _ :: _, h => simp at h
end Go.Proofs.YtnljmpeaeajcoaaGreatDoor

namespace Go.Proofs.YtnljmpeaeajcoaaGreatDoor
open Go Go.Eng Go.Vi
local instance : Go.Eng.Mode := Sy

theorem ok26 : FnOk Tryz.prog 26 Tryz.f26 := ⟨Tryz.func26, by kernel_rfl, by kernel_rfl⟩
/-- what typed answers for an expression of a type -/
noncomputable def tyA (t : Int) : AV := .tuple [.int .i64 t, .dslice 0 1 (fun _ => []), .bool true]
def Ty (x : Ex) (t : Int) : Prop := BSim Tryz.prog 26 [exA x] [] [] (tyA t)
noncomputable def eT (x : Ex) (t : Int) : FuncId × SEnt := (26, ⟨[exA x], [], tyA t⟩)
theorem eT_ok {x : Ex} {t : Int} (h : Ty x t) : SSpec Tryz.prog (eT x t).1 (eT x t).2 := h.spec0 rfl
theorem ty_of {S : List (FuncId × SEnt)} (hS : AllOk S) {x : Ex} {t : Int} (G : Bool → Bool) (hG : ∀ c, c = true → G c = true)
    (hrun : ∀ I : AV → List (Option Blk) → Bool, Eng.exec Tryz.prog X0 S 100 Tryz.f26.ntmps (codeOf Tryz.f26) (mkFr (argSlots [exA x] 0)) (mkMem (rowsOf [])) (fun o fr M => endK o (resK Tryz.prog fr M Tryz.f26.results.toList fun vs => I (oneOf vs) (mv [] M))) = G (I (.tuple [.int .i64 t, .nilSlice, .bool true]) [])) : Ty x t := by
  refine BSim.run hm hX0 hS.mem ok26 (by kernel_rfl) rfl 100 [] (fun I => G (I (.tuple [.int .i64 t, .nilSlice, .bool true]) [])) hrun ?_
  exact hG _ (pdec_iff.2 (Leaf.flat fun _ _ => .tuple _ _ (.cons _ _ _ _ (.plain (.int .i64 t)) (.cons _ _ _ _ (.dat _ (.slice 0 1 fun _ => []) (.nil _ _)) (.cons _ _ _ _ (.plain (.bool true)) .nil)))))
theorem ty_num (n : List UInt8) (r : Rt) : Ty (.mk 1 n r []) 2 := ty_of (S := []) trivial (fun c => c) (fun c hc => hc) (fun I => by kernel_rfl)
theorem ty_obj (n : List UInt8) (r : Rt) : Ty (.mk 3 n r []) 7 := ty_of (S := []) trivial (fun c => c) (fun c hc => hc) (fun I => by kernel_rfl)
theorem ty_var (n : List UInt8) (r : Rt) : Ty (.mk 4 n r []) 7 := ty_of (S := []) trivial (fun c => c) (fun c hc => hc) (fun I => by kernel_rfl)
theorem ty_zon (n : List UInt8) (r : Rt) : Ty (.mk 5 n r []) 8 := ty_of (S := []) trivial (fun c => c) (fun c hc => hc) (fun I => by kernel_rfl)
theorem ty_2_22 (x : Ex) (y : Ex) (hx : Ty x 2) (hy : Ty y 2) : Ty (.mk 2 [] Rt.zero [x, y]) 3 := by
  refine ty_of (S := [eT x 2, eT y 2]) ⟨eT_ok hx, eT_ok hy, trivial⟩ (fun c => gC (eT x 2) (gC (eT y 2) (c))) ?_ (fun I => by kernel_rfl)
  intro c hc; simp only [gC_iff]; exact hc
theorem ty_6_22 (x : Ex) (y : Ex) (hx : Ty x 2) (hy : Ty y 2) : Ty (.mk 6 [] Rt.zero [x, y]) 4 := by
  refine ty_of (S := [eT x 2, eT y 2]) ⟨eT_ok hx, eT_ok hy, trivial⟩ (fun c => gC (eT x 2) (gC (eT y 2) (c))) ?_ (fun I => by kernel_rfl)
  intro c hc; simp only [gC_iff]; exact hc
theorem ty_7_44 (x : Ex) (y : Ex) (hx : Ty x 4) (hy : Ty y 4) : Ty (.mk 7 [] Rt.zero [x, y]) 4 := by
  refine ty_of (S := [eT x 4, eT y 4]) ⟨eT_ok hx, eT_ok hy, trivial⟩ (fun c => gC (eT x 4) (gC (eT y 4) (c))) ?_ (fun I => by kernel_rfl)
  intro c hc; simp only [gC_iff]; exact hc
theorem ty_8_44 (x : Ex) (y : Ex) (hx : Ty x 4) (hy : Ty y 4) : Ty (.mk 8 [] Rt.zero [x, y]) 4 := by
  refine ty_of (S := [eT x 4, eT y 4]) ⟨eT_ok hx, eT_ok hy, trivial⟩ (fun c => gC (eT x 4) (gC (eT y 4) (c))) ?_ (fun I => by kernel_rfl)
  intro c hc; simp only [gC_iff]; exact hc
theorem ty_9_44 (x : Ex) (y : Ex) (hx : Ty x 4) (hy : Ty y 4) : Ty (.mk 9 [] Rt.zero [x, y]) 4 := by
  refine ty_of (S := [eT x 4, eT y 4]) ⟨eT_ok hx, eT_ok hy, trivial⟩ (fun c => gC (eT x 4) (gC (eT y 4) (c))) ?_ (fun I => by kernel_rfl)
  intro c hc; simp only [gC_iff]; exact hc
theorem ty_10_5 (x : Ex) (hx : Ty x 5) : Ty (.mk 10 [] Rt.zero [x]) 4 := by
  refine ty_of (S := [eT x 5]) ⟨eT_ok hx, trivial⟩ (fun c => gC (eT x 5) (c)) ?_ (fun I => by kernel_rfl)
  intro c hc; simp only [gC_iff]; exact hc
theorem ty_11_5 (x : Ex) (hx : Ty x 5) : Ty (.mk 11 [] Rt.zero [x]) 4 := by
  refine ty_of (S := [eT x 5]) ⟨eT_ok hx, trivial⟩ (fun c => gC (eT x 5) (c)) ?_ (fun I => by kernel_rfl)
  intro c hc; simp only [gC_iff]; exact hc
theorem ty_12_54 (x : Ex) (y : Ex) (hx : Ty x 5) (hy : Ty y 4) : Ty (.mk 12 [] Rt.zero [x, y]) 5 := by
  refine ty_of (S := [eT x 5, eT y 4]) ⟨eT_ok hx, eT_ok hy, trivial⟩ (fun c => gC (eT x 5) (gC (eT y 4) (c))) ?_ (fun I => by kernel_rfl)
  intro c hc; simp only [gC_iff]; exact hc
theorem ty_29_52 (x : Ex) (y : Ex) (hx : Ty x 5) (hy : Ty y 2) : Ty (.mk 29 [] Rt.zero [x, y]) 5 := by
  refine ty_of (S := [eT x 5, eT y 2]) ⟨eT_ok hx, eT_ok hy, trivial⟩ (fun c => gC (eT x 5) (gC (eT y 2) (c))) ?_ (fun I => by kernel_rfl)
  intro c hc; simp only [gC_iff]; exact hc
theorem ty_11_6 (x : Ex) (hx : Ty x 6) : Ty (.mk 11 [] Rt.zero [x]) 4 := by
  refine ty_of (S := [eT x 6]) ⟨eT_ok hx, trivial⟩ (fun c => gC (eT x 6) (c)) ?_ (fun I => by kernel_rfl)
  intro c hc; simp only [gC_iff]; exact hc
theorem ty_12_64 (x : Ex) (y : Ex) (hx : Ty x 6) (hy : Ty y 4) : Ty (.mk 12 [] Rt.zero [x, y]) 6 := by
  refine ty_of (S := [eT x 6, eT y 4]) ⟨eT_ok hx, eT_ok hy, trivial⟩ (fun c => gC (eT x 6) (gC (eT y 4) (c))) ?_ (fun I => by kernel_rfl)
  intro c hc; simp only [gC_iff]; exact hc
theorem ty_29_62 (x : Ex) (y : Ex) (hx : Ty x 6) (hy : Ty y 2) : Ty (.mk 29 [] Rt.zero [x, y]) 6 := by
  refine ty_of (S := [eT x 6, eT y 2]) ⟨eT_ok hx, eT_ok hy, trivial⟩ (fun c => gC (eT x 6) (gC (eT y 2) (c))) ?_ (fun I => by kernel_rfl)
  intro c hc; simp only [gC_iff]; exact hc
theorem ty_11_7 (x : Ex) (hx : Ty x 7) : Ty (.mk 11 [] Rt.zero [x]) 4 := by
  refine ty_of (S := [eT x 7]) ⟨eT_ok hx, trivial⟩ (fun c => gC (eT x 7) (c)) ?_ (fun I => by kernel_rfl)
  intro c hc; simp only [gC_iff]; exact hc
theorem ty_12_74 (x : Ex) (y : Ex) (hx : Ty x 7) (hy : Ty y 4) : Ty (.mk 12 [] Rt.zero [x, y]) 7 := by
  refine ty_of (S := [eT x 7, eT y 4]) ⟨eT_ok hx, eT_ok hy, trivial⟩ (fun c => gC (eT x 7) (gC (eT y 4) (c))) ?_ (fun I => by kernel_rfl)
  intro c hc; simp only [gC_iff]; exact hc
theorem ty_29_72 (x : Ex) (y : Ex) (hx : Ty x 7) (hy : Ty y 2) : Ty (.mk 29 [] Rt.zero [x, y]) 7 := by
  refine ty_of (S := [eT x 7, eT y 2]) ⟨eT_ok hx, eT_ok hy, trivial⟩ (fun c => gC (eT x 7) (gC (eT y 2) (c))) ?_ (fun I => by kernel_rfl)
  intro c hc; simp only [gC_iff]; exact hc
theorem ty_11_8 (x : Ex) (hx : Ty x 8) : Ty (.mk 11 [] Rt.zero [x]) 4 := by
  refine ty_of (S := [eT x 8]) ⟨eT_ok hx, trivial⟩ (fun c => gC (eT x 8) (c)) ?_ (fun I => by kernel_rfl)
  intro c hc; simp only [gC_iff]; exact hc
theorem ty_12_84 (x : Ex) (y : Ex) (hx : Ty x 8) (hy : Ty y 4) : Ty (.mk 12 [] Rt.zero [x, y]) 8 := by
  refine ty_of (S := [eT x 8, eT y 4]) ⟨eT_ok hx, eT_ok hy, trivial⟩ (fun c => gC (eT x 8) (gC (eT y 4) (c))) ?_ (fun I => by kernel_rfl)
  intro c hc; simp only [gC_iff]; exact hc
theorem ty_29_82 (x : Ex) (y : Ex) (hx : Ty x 8) (hy : Ty y 2) : Ty (.mk 29 [] Rt.zero [x, y]) 8 := by
  refine ty_of (S := [eT x 8, eT y 2]) ⟨eT_ok hx, eT_ok hy, trivial⟩ (fun c => gC (eT x 8) (gC (eT y 2) (c))) ?_ (fun I => by kernel_rfl)
  intro c hc; simp only [gC_iff]; exact hc
theorem ty_13_77 (x : Ex) (y : Ex) (hx : Ty x 7) (hy : Ty y 7) : Ty (.mk 13 [] Rt.zero [x, y]) 6 := by
  refine ty_of (S := [eT x 7, eT y 7]) ⟨eT_ok hx, eT_ok hy, trivial⟩ (fun c => gC (eT x 7) (gC (eT y 7) (c))) ?_ (fun I => by kernel_rfl)
  intro c hc; simp only [gC_iff]; exact hc
theorem ty_15_772 (x : Ex) (y : Ex) (z : Ex) (hx : Ty x 7) (hy : Ty y 7) (hz : Ty z 2) : Ty (.mk 15 [] Rt.zero [x, y, z]) 5 := by
  refine ty_of (S := [eT x 7, eT y 7, eT z 2]) ⟨eT_ok hx, eT_ok hy, eT_ok hz, trivial⟩ (fun c => gC (eT x 7) (gC (eT y 7) (gC (eT z 2) (c)))) ?_ (fun I => by kernel_rfl)
  intro c hc; simp only [gC_iff]; exact hc
theorem ty_13_73 (x : Ex) (y : Ex) (hx : Ty x 7) (hy : Ty y 3) : Ty (.mk 13 [] Rt.zero [x, y]) 6 := by
  refine ty_of (S := [eT x 7, eT y 3]) ⟨eT_ok hx, eT_ok hy, trivial⟩ (fun c => gC (eT x 7) (gC (eT y 3) (c))) ?_ (fun I => by kernel_rfl)
  intro c hc; simp only [gC_iff]; exact hc
theorem ty_15_732 (x : Ex) (y : Ex) (z : Ex) (hx : Ty x 7) (hy : Ty y 3) (hz : Ty z 2) : Ty (.mk 15 [] Rt.zero [x, y, z]) 5 := by
  refine ty_of (S := [eT x 7, eT y 3, eT z 2]) ⟨eT_ok hx, eT_ok hy, eT_ok hz, trivial⟩ (fun c => gC (eT x 7) (gC (eT y 3) (gC (eT z 2) (c)))) ?_ (fun I => by kernel_rfl)
  intro c hc; simp only [gC_iff]; exact hc
theorem ty_14_7 (x : Ex) (hx : Ty x 7) : Ty (.mk 14 [] Rt.zero [x]) 6 := by
  refine ty_of (S := [eT x 7]) ⟨eT_ok hx, trivial⟩ (fun c => gC (eT x 7) (c)) ?_ (fun I => by kernel_rfl)
  intro c hc; simp only [gC_iff]; exact hc
theorem ty_16_78 (x : Ex) (y : Ex) (hx : Ty x 7) (hy : Ty y 8) : Ty (.mk 16 [] Rt.zero [x, y]) 5 := by
  refine ty_of (S := [eT x 7, eT y 8]) ⟨eT_ok hx, eT_ok hy, trivial⟩ (fun c => gC (eT x 7) (gC (eT y 8) (c))) ?_ (fun I => by kernel_rfl)
  intro c hc; simp only [gC_iff]; exact hc
theorem ty_17_8 (x : Ex) (hx : Ty x 8) : Ty (.mk 17 [] Rt.zero [x]) 6 := by
  refine ty_of (S := [eT x 8]) ⟨eT_ok hx, trivial⟩ (fun c => gC (eT x 8) (c)) ?_ (fun I => by kernel_rfl)
  intro c hc; simp only [gC_iff]; exact hc
theorem ty_18_66 (x : Ex) (y : Ex) (hx : Ty x 6) (hy : Ty y 6) : Ty (.mk 18 [] Rt.zero [x, y]) 6 := by
  refine ty_of (S := [eT x 6, eT y 6]) ⟨eT_ok hx, eT_ok hy, trivial⟩ (fun c => gC (eT x 6) (gC (eT y 6) (c))) ?_ (fun I => by kernel_rfl)
  intro c hc; simp only [gC_iff]; exact hc
theorem ty_18_62 (x : Ex) (y : Ex) (hx : Ty x 6) (hy : Ty y 2) : Ty (.mk 18 [] Rt.zero [x, y]) 6 := by
  refine ty_of (S := [eT x 6, eT y 2]) ⟨eT_ok hx, eT_ok hy, trivial⟩ (fun c => gC (eT x 6) (gC (eT y 2) (c))) ?_ (fun I => by kernel_rfl)
  intro c hc; simp only [gC_iff]; exact hc
theorem ty_19_66 (x : Ex) (y : Ex) (hx : Ty x 6) (hy : Ty y 6) : Ty (.mk 19 [] Rt.zero [x, y]) 6 := by
  refine ty_of (S := [eT x 6, eT y 6]) ⟨eT_ok hx, eT_ok hy, trivial⟩ (fun c => gC (eT x 6) (gC (eT y 6) (c))) ?_ (fun I => by kernel_rfl)
  intro c hc; simp only [gC_iff]; exact hc
theorem ty_19_62 (x : Ex) (y : Ex) (hx : Ty x 6) (hy : Ty y 2) : Ty (.mk 19 [] Rt.zero [x, y]) 6 := by
  refine ty_of (S := [eT x 6, eT y 2]) ⟨eT_ok hx, eT_ok hy, trivial⟩ (fun c => gC (eT x 6) (gC (eT y 2) (c))) ?_ (fun I => by kernel_rfl)
  intro c hc; simp only [gC_iff]; exact hc
theorem ty_20_26 (x : Ex) (y : Ex) (hx : Ty x 2) (hy : Ty y 6) : Ty (.mk 20 [] Rt.zero [x, y]) 6 := by
  refine ty_of (S := [eT x 2, eT y 6]) ⟨eT_ok hx, eT_ok hy, trivial⟩ (fun c => gC (eT x 2) (gC (eT y 6) (c))) ?_ (fun I => by kernel_rfl)
  intro c hc; simp only [gC_iff]; exact hc
theorem ty_21_66 (x : Ex) (y : Ex) (hx : Ty x 6) (hy : Ty y 6) : Ty (.mk 21 [] Rt.zero [x, y]) 5 := by
  refine ty_of (S := [eT x 6, eT y 6]) ⟨eT_ok hx, eT_ok hy, trivial⟩ (fun c => gC (eT x 6) (gC (eT y 6) (c))) ?_ (fun I => by kernel_rfl)
  intro c hc; simp only [gC_iff]; exact hc
theorem ty_21_62 (x : Ex) (y : Ex) (hx : Ty x 6) (hy : Ty y 2) : Ty (.mk 21 [] Rt.zero [x, y]) 5 := by
  refine ty_of (S := [eT x 6, eT y 2]) ⟨eT_ok hx, eT_ok hy, trivial⟩ (fun c => gC (eT x 6) (gC (eT y 2) (c))) ?_ (fun I => by kernel_rfl)
  intro c hc; simp only [gC_iff]; exact hc
theorem ty_22_66 (x : Ex) (y : Ex) (hx : Ty x 6) (hy : Ty y 6) : Ty (.mk 22 [] Rt.zero [x, y]) 5 := by
  refine ty_of (S := [eT x 6, eT y 6]) ⟨eT_ok hx, eT_ok hy, trivial⟩ (fun c => gC (eT x 6) (gC (eT y 6) (c))) ?_ (fun I => by kernel_rfl)
  intro c hc; simp only [gC_iff]; exact hc
theorem ty_22_62 (x : Ex) (y : Ex) (hx : Ty x 6) (hy : Ty y 2) : Ty (.mk 22 [] Rt.zero [x, y]) 5 := by
  refine ty_of (S := [eT x 6, eT y 2]) ⟨eT_ok hx, eT_ok hy, trivial⟩ (fun c => gC (eT x 6) (gC (eT y 2) (c))) ?_ (fun I => by kernel_rfl)
  intro c hc; simp only [gC_iff]; exact hc
theorem ty_23_55 (x : Ex) (y : Ex) (hx : Ty x 5) (hy : Ty y 5) : Ty (.mk 23 [] Rt.zero [x, y]) 5 := by
  refine ty_of (S := [eT x 5, eT y 5]) ⟨eT_ok hx, eT_ok hy, trivial⟩ (fun c => gC (eT x 5) (gC (eT y 5) (c))) ?_ (fun I => by kernel_rfl)
  intro c hc; simp only [gC_iff]; exact hc
theorem ty_23_11 (x : Ex) (y : Ex) (hx : Ty x 1) (hy : Ty y 1) : Ty (.mk 23 [] Rt.zero [x, y]) 1 := by
  refine ty_of (S := [eT x 1, eT y 1]) ⟨eT_ok hx, eT_ok hy, trivial⟩ (fun c => gC (eT x 1) (gC (eT y 1) (c))) ?_ (fun I => by kernel_rfl)
  intro c hc; simp only [gC_iff]; exact hc
theorem ty_24_55 (x : Ex) (y : Ex) (hx : Ty x 5) (hy : Ty y 5) : Ty (.mk 24 [] Rt.zero [x, y]) 5 := by
  refine ty_of (S := [eT x 5, eT y 5]) ⟨eT_ok hx, eT_ok hy, trivial⟩ (fun c => gC (eT x 5) (gC (eT y 5) (c))) ?_ (fun I => by kernel_rfl)
  intro c hc; simp only [gC_iff]; exact hc
theorem ty_24_11 (x : Ex) (y : Ex) (hx : Ty x 1) (hy : Ty y 1) : Ty (.mk 24 [] Rt.zero [x, y]) 1 := by
  refine ty_of (S := [eT x 1, eT y 1]) ⟨eT_ok hx, eT_ok hy, trivial⟩ (fun c => gC (eT x 1) (gC (eT y 1) (c))) ?_ (fun I => by kernel_rfl)
  intro c hc; simp only [gC_iff]; exact hc
theorem ty_25_5 (x : Ex) (hx : Ty x 5) : Ty (.mk 25 [] Rt.zero [x]) 5 := by
  refine ty_of (S := [eT x 5]) ⟨eT_ok hx, trivial⟩ (fun c => gC (eT x 5) (c)) ?_ (fun I => by kernel_rfl)
  intro c hc; simp only [gC_iff]; exact hc
theorem ty_25_1 (x : Ex) (hx : Ty x 1) : Ty (.mk 25 [] Rt.zero [x]) 1 := by
  refine ty_of (S := [eT x 1]) ⟨eT_ok hx, trivial⟩ (fun c => gC (eT x 1) (c)) ?_ (fun I => by kernel_rfl)
  intro c hc; simp only [gC_iff]; exact hc
theorem ty_26_5 (x : Ex) (hx : Ty x 5) : Ty (.mk 26 [] Rt.zero [x]) 1 := by
  refine ty_of (S := [eT x 5]) ⟨eT_ok hx, trivial⟩ (fun c => gC (eT x 5) (c)) ?_ (fun I => by kernel_rfl)
  intro c hc; simp only [gC_iff]; exact hc
theorem ty_27_5 (x : Ex) (hx : Ty x 5) : Ty (.mk 27 [] Rt.zero [x]) 1 := by
  refine ty_of (S := [eT x 5]) ⟨eT_ok hx, trivial⟩ (fun c => gC (eT x 5) (c)) ?_ (fun I => by kernel_rfl)
  intro c hc; simp only [gC_iff]; exact hc
theorem ty_28_52 (x : Ex) (y : Ex) (hx : Ty x 5) (hy : Ty y 2) : Ty (.mk 28 [] Rt.zero [x, y]) 1 := by
  refine ty_of (S := [eT x 5, eT y 2]) ⟨eT_ok hx, eT_ok hy, trivial⟩ (fun c => gC (eT x 5) (gC (eT y 2) (c))) ?_ (fun I => by kernel_rfl)
  intro c hc; simp only [gC_iff]; exact hc
theorem ty_30_62 (x : Ex) (y : Ex) (hx : Ty x 6) (hy : Ty y 2) : Ty (.mk 30 [] Rt.zero [x, y]) 1 := by
  refine ty_of (S := [eT x 6, eT y 2]) ⟨eT_ok hx, eT_ok hy, trivial⟩ (fun c => gC (eT x 6) (gC (eT y 2) (c))) ?_ (fun I => by kernel_rfl)
  intro c hc; simp only [gC_iff]; exact hc
end Go.Proofs.YtnljmpeaeajcoaaGreatDoor

namespace Go.Proofs.YtnljmpeaeajcoaaGreatDoor
open Go Go.Eng Go.Vi
local instance : Go.Eng.Mode := Sy

/-! CheckExpr and Of -/
def fV12 : AV := .func (.func 45) [] [.ptr 1 0, .ptr 2 0]
noncomputable def eV12 (x : Ex) : FuncId × SEnt := (45, ⟨[exA x, .int .i64 (.ofNat 1), .ptr 1 0, .ptr 2 0], [(1, [.int .i64 (.ofNat 0)], [.int .i64 (.ofNat (0 + x.size))]), (2, [fV12], [fV12])], .int .i64 0⟩)
theorem ok24 : FnOk Tryz.prog 24 Tryz.f24 := ⟨Tryz.func24, by kernel_rfl, by kernel_rfl⟩
theorem ok14 : FnOk Tryz.prog 14 Tryz.f14 := ⟨Tryz.func14, by kernel_rfl, by kernel_rfl⟩
theorem checkExpr_c {x : Ex} (hx : Good x) (hn : x.size ≤ 256) (hd : x.dep ≤ 32) : BSim Tryz.prog 24 [exA x] [] [] (.int .i64 0) := by
  have h := visit_c hx 1 0 (by omega) (by omega)
  refine BSim.run hm hX0 (S := [eV12 x]) (AllOk.mem ⟨h [1, 2] _ _ _ rfl (by decide) rfl rfl rfl, trivial⟩) ok24 (by kernel_rfl) rfl 60 [] (fun I => gD (eV12 x) (I (.int .i64 0) [])) (fun I => by kernel_rfl) ?_
  simp only [gD_iff]
  exact pdec_iff.2 (Leaf.flat fun _ _ => .plain (.int .i64 0))
noncomputable def eCE (x : Ex) : FuncId × SEnt := (24, ⟨[exA x], [], .int .i64 0⟩)
theorem of_c {x : Ex} {t : Int} (hx : Good x) (hn : x.size ≤ 256) (hd : x.dep ≤ 32) (ht : Ty x t) : BSim Tryz.prog 14 [exA x] [] [] (.tuple [.int .i64 t, .int .i64 0]) := by
  refine BSim.run hm hX0 (S := [eCE x, eT x t]) (AllOk.mem ⟨(checkExpr_c hx hn hd).spec0 rfl, eT_ok ht, trivial⟩) ok14 (by kernel_rfl) rfl 60 [] (fun I => gC (eCE x) (gC (eT x t) (I (.tuple [.int .i64 t, .int .i64 0]) []))) (fun I => by kernel_rfl) ?_
  simp only [gC_iff]
  exact pdec_iff.2 (Leaf.flat fun _ _ => .tuple _ _ (.cons _ _ _ _ (.plain (.int .i64 t)) (.cons _ _ _ _ (.plain (.int .i64 0)) .nil)))

/-! binding -/
noncomputable def nmA : AV := .dslice 2 1 (fun i => List.getD (chunkN 1 2 [sD [97], sD [98]]) i [])
noncomputable def idA (a b : Nat) : AV := .dslice 2 1 (fun i => List.getD (chunkN 1 2 [.int .i64 (.ofNat a), .int .i64 (.ofNat b)]) i [])
theorem ok25 : FnOk Tryz.prog 25 Tryz.f25 := ⟨Tryz.func25, by kernel_rfl, by kernel_rfl⟩
def Bd (a b : Nat) (x y : Ex) : Prop := BSim Tryz.prog 25 [exA x, nmA, idA a b] [] [] (exA y)
noncomputable def eB (a b : Nat) (x y : Ex) : FuncId × SEnt := (25, ⟨[exA x, nmA, idA a b], [], exA y⟩)
theorem eB_ok {a b : Nat} {x y : Ex} (h : Bd a b x y) : SSpec Tryz.prog (eB a b x y).1 (eB a b x y).2 := h.spec0 rfl
noncomputable def run25 (S : List (FuncId × SEnt)) (a b : Nat) (x : Ex) (π : List Nat) (I : AV → List (Option Blk) → Bool) : Bool :=
  Eng.exec Tryz.prog X0 S 60 Tryz.f25.ntmps (codeOf Tryz.f25) (mkFr (argSlots [exA x, nmA, idA a b] 0)) (mkMem (rowsOf [])) (fun o fr M => endK o (resK Tryz.prog fr M Tryz.f25.results.toList fun vs => I (oneOf vs) (mv π M)))
theorem bd_node {S : List (FuncId × SEnt)} (hS : AllOk S) {a b : Nat} {x : Ex} (o : Int) (xs : List Ex) (bk : Nat) (G : Bool → Bool) (hG : ∀ c, c = true → G c = true)
    (hrun : ∀ I, run25 S a b x [bk] I = G (I (mkA o [] Rt.zero (.slice bk 0 xs.length xs.length true)) [some (.row (toAVs (xs.map exD).flatten) true 7)])) : Bd a b x (.mk o [] Rt.zero xs) := by
  refine BSim.run hm hX0 hS.mem ok25 (by kernel_rfl) rfl 60 [bk] (fun I => G (I (mkA o [] Rt.zero (.slice bk 0 xs.length xs.length true)) [some (.row (toAVs (xs.map exD).flatten) true 7)])) hrun ?_
  refine hG _ (pdec_iff.2 (Leaf.flat fun M' hM' => ?_))
  simp only [mv, List.map_cons, List.map_nil, List.cons.injEq] at hM'
  exact fz_ex o [] Rt.zero xs (Nat.zero_le _) hM'.1 (Nat.le_refl _)
theorem bd_leaf {S : List (FuncId × SEnt)} (hS : AllOk S) {a b : Nat} {x : Ex} (o : Int) (n : List UInt8) (r : Rt) (G : Bool → Bool) (hG : ∀ c, c = true → G c = true)
    (hrun : ∀ I, run25 S a b x [] I = G (I (mkA o n r .nilSlice) [])) : Bd a b x (.mk o n r []) := by
  refine BSim.run hm hX0 hS.mem ok25 (by kernel_rfl) rfl 60 [] (fun I => G (I (mkA o n r .nilSlice) [])) hrun ?_
  exact hG _ (pdec_iff.2 (Leaf.flat fun M' hM' => mkA0 ..))
theorem bd_num (a b k : Nat) : Bd a b (exNum k) (exNum k) := bd_leaf (S := []) trivial 1 [] (ratOf (k % 64) (1 + k / 128)) (fun c => c) (fun c hc => hc) (fun I => by kernel_rfl)
theorem bd_obj (a b k : Nat) : Bd a b (exObj k) (exObj k) := bd_leaf (S := []) trivial 3 [] (intRt k) (fun c => c) (fun c hc => hc) (fun I => by kernel_rfl)
theorem bd_zone (a b j : Nat) (hj : j < 3) : Bd a b (exZone j) (exZone j) := by
  have hj' : j = 0 ∨ j = 1 ∨ j = 2 := by omega
  rcases hj' with rfl | rfl | rfl
  · exact bd_leaf (S := []) trivial 5 (zname 0) Rt.zero (fun c => c) (fun c hc => hc) (fun I => by kernel_rfl)
  · exact bd_leaf (S := []) trivial 5 (zname 1) Rt.zero (fun c => c) (fun c hc => hc) (fun I => by kernel_rfl)
  · exact bd_leaf (S := []) trivial 5 (zname 2) Rt.zero (fun c => c) (fun c hc => hc) (fun I => by kernel_rfl)
theorem bd_var0 (a b : Nat) (ha : a < 257) : Bd a b (exVar 0) (exObj a) := by
  refine bd_leaf (S := [eInt a]) ⟨eInt_ok ha, trivial⟩ 3 [] (intRt a) (fun c => gC (eInt a) c) ?_ (fun I => by kernel_rfl)
  intro c hc; simp only [gC_iff]; exact hc
theorem bd_var1 (a b : Nat) (hb : b < 257) : Bd a b (exVar 1) (exObj b) := by
  refine bd_leaf (S := [eInt b]) ⟨eInt_ok hb, trivial⟩ 3 [] (intRt b) (fun c => gC (eInt b) c) ?_ (fun I => by kernel_rfl)
  intro c hc; simp only [gC_iff]; exact hc
theorem bd_10 {a b : Nat} {x x' : Ex} (hx : Bd a b x x') : Bd a b (.mk 10 [] Rt.zero [x]) (.mk 10 [] Rt.zero [x']) := by
  refine bd_node (S := [eB a b x x']) ⟨eB_ok hx, trivial⟩ 10 [x'] 4 (fun c => gC (eB a b x x') (c)) ?_ (fun I => by kernel_rfl)
  intro c hc; simp only [gC_iff]; exact hc
theorem bd_11 {a b : Nat} {x x' : Ex} (hx : Bd a b x x') : Bd a b (.mk 11 [] Rt.zero [x]) (.mk 11 [] Rt.zero [x']) := by
  refine bd_node (S := [eB a b x x']) ⟨eB_ok hx, trivial⟩ 11 [x'] 4 (fun c => gC (eB a b x x') (c)) ?_ (fun I => by kernel_rfl)
  intro c hc; simp only [gC_iff]; exact hc
theorem bd_14 {a b : Nat} {x x' : Ex} (hx : Bd a b x x') : Bd a b (.mk 14 [] Rt.zero [x]) (.mk 14 [] Rt.zero [x']) := by
  refine bd_node (S := [eB a b x x']) ⟨eB_ok hx, trivial⟩ 14 [x'] 4 (fun c => gC (eB a b x x') (c)) ?_ (fun I => by kernel_rfl)
  intro c hc; simp only [gC_iff]; exact hc
theorem bd_17 {a b : Nat} {x x' : Ex} (hx : Bd a b x x') : Bd a b (.mk 17 [] Rt.zero [x]) (.mk 17 [] Rt.zero [x']) := by
  refine bd_node (S := [eB a b x x']) ⟨eB_ok hx, trivial⟩ 17 [x'] 4 (fun c => gC (eB a b x x') (c)) ?_ (fun I => by kernel_rfl)
  intro c hc; simp only [gC_iff]; exact hc
theorem bd_25 {a b : Nat} {x x' : Ex} (hx : Bd a b x x') : Bd a b (.mk 25 [] Rt.zero [x]) (.mk 25 [] Rt.zero [x']) := by
  refine bd_node (S := [eB a b x x']) ⟨eB_ok hx, trivial⟩ 25 [x'] 4 (fun c => gC (eB a b x x') (c)) ?_ (fun I => by kernel_rfl)
  intro c hc; simp only [gC_iff]; exact hc
theorem bd_26 {a b : Nat} {x x' : Ex} (hx : Bd a b x x') : Bd a b (.mk 26 [] Rt.zero [x]) (.mk 26 [] Rt.zero [x']) := by
  refine bd_node (S := [eB a b x x']) ⟨eB_ok hx, trivial⟩ 26 [x'] 4 (fun c => gC (eB a b x x') (c)) ?_ (fun I => by kernel_rfl)
  intro c hc; simp only [gC_iff]; exact hc
theorem bd_27 {a b : Nat} {x x' : Ex} (hx : Bd a b x x') : Bd a b (.mk 27 [] Rt.zero [x]) (.mk 27 [] Rt.zero [x']) := by
  refine bd_node (S := [eB a b x x']) ⟨eB_ok hx, trivial⟩ 27 [x'] 4 (fun c => gC (eB a b x x') (c)) ?_ (fun I => by kernel_rfl)
  intro c hc; simp only [gC_iff]; exact hc
theorem bd_2 {a b : Nat} {x y x' y' : Ex} (hx : Bd a b x x') (hy : Bd a b y y') : Bd a b (.mk 2 [] Rt.zero [x, y]) (.mk 2 [] Rt.zero [x', y']) := by
  refine bd_node (S := [eB a b x x', eB a b y y']) ⟨eB_ok hx, eB_ok hy, trivial⟩ 2 [x', y'] 7 (fun c => gC (eB a b x x') (gC (eB a b y y') (c))) ?_ (fun I => by kernel_rfl)
  intro c hc; simp only [gC_iff]; exact hc
theorem bd_6 {a b : Nat} {x y x' y' : Ex} (hx : Bd a b x x') (hy : Bd a b y y') : Bd a b (.mk 6 [] Rt.zero [x, y]) (.mk 6 [] Rt.zero [x', y']) := by
  refine bd_node (S := [eB a b x x', eB a b y y']) ⟨eB_ok hx, eB_ok hy, trivial⟩ 6 [x', y'] 7 (fun c => gC (eB a b x x') (gC (eB a b y y') (c))) ?_ (fun I => by kernel_rfl)
  intro c hc; simp only [gC_iff]; exact hc
theorem bd_7 {a b : Nat} {x y x' y' : Ex} (hx : Bd a b x x') (hy : Bd a b y y') : Bd a b (.mk 7 [] Rt.zero [x, y]) (.mk 7 [] Rt.zero [x', y']) := by
  refine bd_node (S := [eB a b x x', eB a b y y']) ⟨eB_ok hx, eB_ok hy, trivial⟩ 7 [x', y'] 7 (fun c => gC (eB a b x x') (gC (eB a b y y') (c))) ?_ (fun I => by kernel_rfl)
  intro c hc; simp only [gC_iff]; exact hc
theorem bd_8 {a b : Nat} {x y x' y' : Ex} (hx : Bd a b x x') (hy : Bd a b y y') : Bd a b (.mk 8 [] Rt.zero [x, y]) (.mk 8 [] Rt.zero [x', y']) := by
  refine bd_node (S := [eB a b x x', eB a b y y']) ⟨eB_ok hx, eB_ok hy, trivial⟩ 8 [x', y'] 7 (fun c => gC (eB a b x x') (gC (eB a b y y') (c))) ?_ (fun I => by kernel_rfl)
  intro c hc; simp only [gC_iff]; exact hc
theorem bd_9 {a b : Nat} {x y x' y' : Ex} (hx : Bd a b x x') (hy : Bd a b y y') : Bd a b (.mk 9 [] Rt.zero [x, y]) (.mk 9 [] Rt.zero [x', y']) := by
  refine bd_node (S := [eB a b x x', eB a b y y']) ⟨eB_ok hx, eB_ok hy, trivial⟩ 9 [x', y'] 7 (fun c => gC (eB a b x x') (gC (eB a b y y') (c))) ?_ (fun I => by kernel_rfl)
  intro c hc; simp only [gC_iff]; exact hc
theorem bd_12 {a b : Nat} {x y x' y' : Ex} (hx : Bd a b x x') (hy : Bd a b y y') : Bd a b (.mk 12 [] Rt.zero [x, y]) (.mk 12 [] Rt.zero [x', y']) := by
  refine bd_node (S := [eB a b x x', eB a b y y']) ⟨eB_ok hx, eB_ok hy, trivial⟩ 12 [x', y'] 7 (fun c => gC (eB a b x x') (gC (eB a b y y') (c))) ?_ (fun I => by kernel_rfl)
  intro c hc; simp only [gC_iff]; exact hc
theorem bd_13 {a b : Nat} {x y x' y' : Ex} (hx : Bd a b x x') (hy : Bd a b y y') : Bd a b (.mk 13 [] Rt.zero [x, y]) (.mk 13 [] Rt.zero [x', y']) := by
  refine bd_node (S := [eB a b x x', eB a b y y']) ⟨eB_ok hx, eB_ok hy, trivial⟩ 13 [x', y'] 7 (fun c => gC (eB a b x x') (gC (eB a b y y') (c))) ?_ (fun I => by kernel_rfl)
  intro c hc; simp only [gC_iff]; exact hc
theorem bd_16 {a b : Nat} {x y x' y' : Ex} (hx : Bd a b x x') (hy : Bd a b y y') : Bd a b (.mk 16 [] Rt.zero [x, y]) (.mk 16 [] Rt.zero [x', y']) := by
  refine bd_node (S := [eB a b x x', eB a b y y']) ⟨eB_ok hx, eB_ok hy, trivial⟩ 16 [x', y'] 7 (fun c => gC (eB a b x x') (gC (eB a b y y') (c))) ?_ (fun I => by kernel_rfl)
  intro c hc; simp only [gC_iff]; exact hc
theorem bd_18 {a b : Nat} {x y x' y' : Ex} (hx : Bd a b x x') (hy : Bd a b y y') : Bd a b (.mk 18 [] Rt.zero [x, y]) (.mk 18 [] Rt.zero [x', y']) := by
  refine bd_node (S := [eB a b x x', eB a b y y']) ⟨eB_ok hx, eB_ok hy, trivial⟩ 18 [x', y'] 7 (fun c => gC (eB a b x x') (gC (eB a b y y') (c))) ?_ (fun I => by kernel_rfl)
  intro c hc; simp only [gC_iff]; exact hc
theorem bd_19 {a b : Nat} {x y x' y' : Ex} (hx : Bd a b x x') (hy : Bd a b y y') : Bd a b (.mk 19 [] Rt.zero [x, y]) (.mk 19 [] Rt.zero [x', y']) := by
  refine bd_node (S := [eB a b x x', eB a b y y']) ⟨eB_ok hx, eB_ok hy, trivial⟩ 19 [x', y'] 7 (fun c => gC (eB a b x x') (gC (eB a b y y') (c))) ?_ (fun I => by kernel_rfl)
  intro c hc; simp only [gC_iff]; exact hc
theorem bd_20 {a b : Nat} {x y x' y' : Ex} (hx : Bd a b x x') (hy : Bd a b y y') : Bd a b (.mk 20 [] Rt.zero [x, y]) (.mk 20 [] Rt.zero [x', y']) := by
  refine bd_node (S := [eB a b x x', eB a b y y']) ⟨eB_ok hx, eB_ok hy, trivial⟩ 20 [x', y'] 7 (fun c => gC (eB a b x x') (gC (eB a b y y') (c))) ?_ (fun I => by kernel_rfl)
  intro c hc; simp only [gC_iff]; exact hc
theorem bd_21 {a b : Nat} {x y x' y' : Ex} (hx : Bd a b x x') (hy : Bd a b y y') : Bd a b (.mk 21 [] Rt.zero [x, y]) (.mk 21 [] Rt.zero [x', y']) := by
  refine bd_node (S := [eB a b x x', eB a b y y']) ⟨eB_ok hx, eB_ok hy, trivial⟩ 21 [x', y'] 7 (fun c => gC (eB a b x x') (gC (eB a b y y') (c))) ?_ (fun I => by kernel_rfl)
  intro c hc; simp only [gC_iff]; exact hc
theorem bd_22 {a b : Nat} {x y x' y' : Ex} (hx : Bd a b x x') (hy : Bd a b y y') : Bd a b (.mk 22 [] Rt.zero [x, y]) (.mk 22 [] Rt.zero [x', y']) := by
  refine bd_node (S := [eB a b x x', eB a b y y']) ⟨eB_ok hx, eB_ok hy, trivial⟩ 22 [x', y'] 7 (fun c => gC (eB a b x x') (gC (eB a b y y') (c))) ?_ (fun I => by kernel_rfl)
  intro c hc; simp only [gC_iff]; exact hc
theorem bd_23 {a b : Nat} {x y x' y' : Ex} (hx : Bd a b x x') (hy : Bd a b y y') : Bd a b (.mk 23 [] Rt.zero [x, y]) (.mk 23 [] Rt.zero [x', y']) := by
  refine bd_node (S := [eB a b x x', eB a b y y']) ⟨eB_ok hx, eB_ok hy, trivial⟩ 23 [x', y'] 7 (fun c => gC (eB a b x x') (gC (eB a b y y') (c))) ?_ (fun I => by kernel_rfl)
  intro c hc; simp only [gC_iff]; exact hc
theorem bd_24 {a b : Nat} {x y x' y' : Ex} (hx : Bd a b x x') (hy : Bd a b y y') : Bd a b (.mk 24 [] Rt.zero [x, y]) (.mk 24 [] Rt.zero [x', y']) := by
  refine bd_node (S := [eB a b x x', eB a b y y']) ⟨eB_ok hx, eB_ok hy, trivial⟩ 24 [x', y'] 7 (fun c => gC (eB a b x x') (gC (eB a b y y') (c))) ?_ (fun I => by kernel_rfl)
  intro c hc; simp only [gC_iff]; exact hc
theorem bd_28 {a b : Nat} {x y x' y' : Ex} (hx : Bd a b x x') (hy : Bd a b y y') : Bd a b (.mk 28 [] Rt.zero [x, y]) (.mk 28 [] Rt.zero [x', y']) := by
  refine bd_node (S := [eB a b x x', eB a b y y']) ⟨eB_ok hx, eB_ok hy, trivial⟩ 28 [x', y'] 7 (fun c => gC (eB a b x x') (gC (eB a b y y') (c))) ?_ (fun I => by kernel_rfl)
  intro c hc; simp only [gC_iff]; exact hc
theorem bd_29 {a b : Nat} {x y x' y' : Ex} (hx : Bd a b x x') (hy : Bd a b y y') : Bd a b (.mk 29 [] Rt.zero [x, y]) (.mk 29 [] Rt.zero [x', y']) := by
  refine bd_node (S := [eB a b x x', eB a b y y']) ⟨eB_ok hx, eB_ok hy, trivial⟩ 29 [x', y'] 7 (fun c => gC (eB a b x x') (gC (eB a b y y') (c))) ?_ (fun I => by kernel_rfl)
  intro c hc; simp only [gC_iff]; exact hc
theorem bd_30 {a b : Nat} {x y x' y' : Ex} (hx : Bd a b x x') (hy : Bd a b y y') : Bd a b (.mk 30 [] Rt.zero [x, y]) (.mk 30 [] Rt.zero [x', y']) := by
  refine bd_node (S := [eB a b x x', eB a b y y']) ⟨eB_ok hx, eB_ok hy, trivial⟩ 30 [x', y'] 7 (fun c => gC (eB a b x x') (gC (eB a b y y') (c))) ?_ (fun I => by kernel_rfl)
  intro c hc; simp only [gC_iff]; exact hc
theorem bd_15 {a b : Nat} {x y z x' y' z' : Ex} (hx : Bd a b x x') (hy : Bd a b y y') (hz : Bd a b z z') : Bd a b (.mk 15 [] Rt.zero [x, y, z]) (.mk 15 [] Rt.zero [x', y', z']) := by
  refine bd_node (S := [eB a b x x', eB a b y y', eB a b z z']) ⟨eB_ok hx, eB_ok hy, eB_ok hz, trivial⟩ 15 [x', y', z'] 10 (fun c => gC (eB a b x x') (gC (eB a b y y') (gC (eB a b z z') (c)))) ?_ (fun I => by kernel_rfl)
  intro c hc; simp only [gC_iff]; exact hc
end Go.Proofs.YtnljmpeaeajcoaaGreatDoor

namespace Go.Proofs.YtnljmpeaeajcoaaGreatDoor
open Go Go.Eng Go.Vi
local instance : Go.Eng.Mode := Sy

def tab1 : List (Nat × Nat × Nat) := [(10, 5, 4), (11, 5, 4), (11, 6, 4), (11, 7, 4), (11, 8, 4), (14, 7, 6), (17, 8, 6), (25, 5, 5), (25, 1, 1), (26, 5, 1), (27, 5, 1)]
def tab2 : List (Nat × Nat × Nat × Nat) := [(6, 2, 2, 4), (7, 4, 4, 4), (8, 4, 4, 4), (9, 4, 4, 4), (12, 5, 4, 5), (29, 5, 2, 5), (12, 6, 4, 6), (29, 6, 2, 6), (12, 7, 4, 7), (29, 7, 2, 7), (12, 8, 4, 8), (29, 8, 2, 8), (13, 7, 7, 6), (13, 7, 3, 6), (16, 7, 8, 5), (18, 6, 6, 6), (18, 6, 2, 6), (19, 6, 6, 6), (19, 6, 2, 6), (20, 2, 6, 6), (21, 6, 6, 5), (21, 6, 2, 5), (22, 6, 6, 5), (22, 6, 2, 5), (23, 5, 5, 5), (23, 1, 1, 1), (24, 5, 5, 5), (24, 1, 1, 1), (28, 5, 2, 1), (30, 6, 2, 1)]
def tab3 : List (Nat × Nat × Nat × Nat × Nat) := [(15, 7, 7, 2, 5), (15, 7, 3, 2, 5)]
/-- the typed expressions -/
inductive Typ : Ex → Nat → Prop
  | num (k : Nat) (hk : k < 256) : Typ (exNum k) 2
  | obj (n : Nat) (h1 : 1 ≤ n) (h2 : n < 257) : Typ (exObj n) 7
  | var0 : Typ (exVar 0) 7
  | var1 : Typ (exVar 1) 7
  | zone (j : Nat) (hj : j < 3) : Typ (exZone j) 8
  | pt (j k : Nat) (hj : j < 256) (hk : k < 256) : Typ (.mk 2 [] Rt.zero [exNum j, exNum k]) 3
  | n1 (o s t : Nat) (h : (o, s, t) ∈ tab1) (x : Ex) (hx : Typ x s) : Typ (.mk (.ofNat o) [] Rt.zero [x]) t
  | n2 (o s1 s2 t : Nat) (h : (o, s1, s2, t) ∈ tab2) (x y : Ex) (hx : Typ x s1) (hy : Typ y s2) : Typ (.mk (.ofNat o) [] Rt.zero [x, y]) t
  | n3 (o s1 s2 s3 t : Nat) (h : (o, s1, s2, s3, t) ∈ tab3) (x y z : Ex) (hx : Typ x s1) (hy : Typ y s2) (hz : Typ z s3) : Typ (.mk (.ofNat o) [] Rt.zero [x, y, z]) t

theorem good_num (k : Nat) (hk : k < 256) : Good (exNum k) := .mk _ _ _ _ (right_num k hk) (by simp) (fun y hy => by cases hy)
theorem Typ.good {x : Ex} {t : Nat} (h : Typ x t) : Good x := by
  have m1 : ∀ {x : Ex}, Good x → ∀ y ∈ [x], Good y := fun h y hy => by obtain rfl := List.mem_singleton.1 hy; exact h
  have m2 : ∀ {x x' : Ex}, Good x → Good x' → ∀ y ∈ [x, x'], Good y := fun h h' y hy => by
    rcases List.mem_cons.1 hy with rfl | hy
    · exact h
    · exact m1 h' y hy
  have m3 : ∀ {x x' x'' : Ex}, Good x → Good x' → Good x'' → ∀ y ∈ [x, x', x''], Good y := fun h h' h'' y hy => by
    rcases List.mem_cons.1 hy with rfl | hy
    · exact h
    · exact m2 h' h'' y hy
  induction h with
  | num k hk => exact good_num k hk
  | obj n h1 h2 => exact .mk _ _ _ _ (right_obj n h1 h2) (by simp) (fun y hy => by cases hy)
  | var0 => exact .mk _ _ _ _ (right_var 0) (by simp) (fun y hy => by cases hy)
  | var1 => exact .mk _ _ _ _ (right_var 1) (by simp) (fun y hy => by cases hy)
  | zone j hj => exact .mk _ _ _ _ (right_zone j hj) (by simp) (fun y hy => by cases hy)
  | pt j k hj hk => exact .mk _ _ _ _ (right_point j k) (by simp) (m2 (good_num j hj) (good_num k hk))
  | n1 o s t h x hx ih =>
    refine .mk _ _ _ _ ?_ (by simp) (m1 ih)
    simp only [tab1, List.mem_cons, Prod.mk.injEq, List.not_mem_nil, or_false] at h
    rcases h with ⟨rfl, rfl, rfl⟩ | ⟨rfl, rfl, rfl⟩ | ⟨rfl, rfl, rfl⟩ | ⟨rfl, rfl, rfl⟩ | ⟨rfl, rfl, rfl⟩ | ⟨rfl, rfl, rfl⟩ | ⟨rfl, rfl, rfl⟩ | ⟨rfl, rfl, rfl⟩ | ⟨rfl, rfl, rfl⟩ | ⟨rfl, rfl, rfl⟩ | ⟨rfl, rfl, rfl⟩
    · exact right_10 x
    · exact right_11 x
    · exact right_11 x
    · exact right_11 x
    · exact right_11 x
    · exact right_14 x
    · exact right_17 x
    · exact right_25 x
    · exact right_25 x
    · exact right_26 x
    · exact right_27 x
  | n2 o s1 s2 t h x y hx hy ihx ihy =>
    refine .mk _ _ _ _ ?_ (by simp) (m2 ihx ihy)
    simp only [tab2, List.mem_cons, Prod.mk.injEq, List.not_mem_nil, or_false] at h
    rcases h with ⟨rfl, rfl, rfl, rfl⟩ | ⟨rfl, rfl, rfl, rfl⟩ | ⟨rfl, rfl, rfl, rfl⟩ | ⟨rfl, rfl, rfl, rfl⟩ | ⟨rfl, rfl, rfl, rfl⟩ | ⟨rfl, rfl, rfl, rfl⟩ | ⟨rfl, rfl, rfl, rfl⟩ | ⟨rfl, rfl, rfl, rfl⟩ | ⟨rfl, rfl, rfl, rfl⟩ | ⟨rfl, rfl, rfl, rfl⟩ | ⟨rfl, rfl, rfl, rfl⟩ | ⟨rfl, rfl, rfl, rfl⟩ | ⟨rfl, rfl, rfl, rfl⟩ | ⟨rfl, rfl, rfl, rfl⟩ | ⟨rfl, rfl, rfl, rfl⟩ | ⟨rfl, rfl, rfl, rfl⟩ | ⟨rfl, rfl, rfl, rfl⟩ | ⟨rfl, rfl, rfl, rfl⟩ | ⟨rfl, rfl, rfl, rfl⟩ | ⟨rfl, rfl, rfl, rfl⟩ | ⟨rfl, rfl, rfl, rfl⟩ | ⟨rfl, rfl, rfl, rfl⟩ | ⟨rfl, rfl, rfl, rfl⟩ | ⟨rfl, rfl, rfl, rfl⟩ | ⟨rfl, rfl, rfl, rfl⟩ | ⟨rfl, rfl, rfl, rfl⟩ | ⟨rfl, rfl, rfl, rfl⟩ | ⟨rfl, rfl, rfl, rfl⟩ | ⟨rfl, rfl, rfl, rfl⟩ | ⟨rfl, rfl, rfl, rfl⟩
    · exact right_6 x y
    · exact right_7 x y
    · exact right_8 x y
    · exact right_9 x y
    · exact right_12 x y
    · exact right_29 x y
    · exact right_12 x y
    · exact right_29 x y
    · exact right_12 x y
    · exact right_29 x y
    · exact right_12 x y
    · exact right_29 x y
    · exact right_13 x y
    · exact right_13 x y
    · exact right_16 x y
    · exact right_18 x y
    · exact right_18 x y
    · exact right_19 x y
    · exact right_19 x y
    · exact right_20 x y
    · exact right_21 x y
    · exact right_21 x y
    · exact right_22 x y
    · exact right_22 x y
    · exact right_23 x y
    · exact right_23 x y
    · exact right_24 x y
    · exact right_24 x y
    · exact right_28 x y
    · exact right_30 x y
  | n3 o s1 s2 s3 t h x y z hx hy hz ihx ihy ihz =>
    refine .mk _ _ _ _ ?_ (by simp) (m3 ihx ihy ihz)
    simp only [tab3, List.mem_cons, Prod.mk.injEq, List.not_mem_nil, or_false] at h
    rcases h with ⟨rfl, rfl, rfl, rfl, rfl⟩ | ⟨rfl, rfl, rfl, rfl, rfl⟩
    · exact right_15 x y z
    · exact right_15 x y z
theorem Typ.ty {x : Ex} {t : Nat} (h : Typ x t) : Ty x (.ofNat t) := by
  induction h with
  | num k hk => exact ty_num _ _
  | obj n h1 h2 => exact ty_obj _ _
  | var0 => exact ty_var _ _
  | var1 => exact ty_var _ _
  | zone j hj => exact ty_zon _ _
  | pt j k hj hk => exact ty_2_22 _ _ (ty_num _ _) (ty_num _ _)
  | n1 o s t h x hx ih =>
    simp only [tab1, List.mem_cons, Prod.mk.injEq, List.not_mem_nil, or_false] at h
    rcases h with ⟨rfl, rfl, rfl⟩ | ⟨rfl, rfl, rfl⟩ | ⟨rfl, rfl, rfl⟩ | ⟨rfl, rfl, rfl⟩ | ⟨rfl, rfl, rfl⟩ | ⟨rfl, rfl, rfl⟩ | ⟨rfl, rfl, rfl⟩ | ⟨rfl, rfl, rfl⟩ | ⟨rfl, rfl, rfl⟩ | ⟨rfl, rfl, rfl⟩ | ⟨rfl, rfl, rfl⟩
    · exact ty_10_5 x ih
    · exact ty_11_5 x ih
    · exact ty_11_6 x ih
    · exact ty_11_7 x ih
    · exact ty_11_8 x ih
    · exact ty_14_7 x ih
    · exact ty_17_8 x ih
    · exact ty_25_5 x ih
    · exact ty_25_1 x ih
    · exact ty_26_5 x ih
    · exact ty_27_5 x ih
  | n2 o s1 s2 t h x y hx hy ihx ihy =>
    simp only [tab2, List.mem_cons, Prod.mk.injEq, List.not_mem_nil, or_false] at h
    rcases h with ⟨rfl, rfl, rfl, rfl⟩ | ⟨rfl, rfl, rfl, rfl⟩ | ⟨rfl, rfl, rfl, rfl⟩ | ⟨rfl, rfl, rfl, rfl⟩ | ⟨rfl, rfl, rfl, rfl⟩ | ⟨rfl, rfl, rfl, rfl⟩ | ⟨rfl, rfl, rfl, rfl⟩ | ⟨rfl, rfl, rfl, rfl⟩ | ⟨rfl, rfl, rfl, rfl⟩ | ⟨rfl, rfl, rfl, rfl⟩ | ⟨rfl, rfl, rfl, rfl⟩ | ⟨rfl, rfl, rfl, rfl⟩ | ⟨rfl, rfl, rfl, rfl⟩ | ⟨rfl, rfl, rfl, rfl⟩ | ⟨rfl, rfl, rfl, rfl⟩ | ⟨rfl, rfl, rfl, rfl⟩ | ⟨rfl, rfl, rfl, rfl⟩ | ⟨rfl, rfl, rfl, rfl⟩ | ⟨rfl, rfl, rfl, rfl⟩ | ⟨rfl, rfl, rfl, rfl⟩ | ⟨rfl, rfl, rfl, rfl⟩ | ⟨rfl, rfl, rfl, rfl⟩ | ⟨rfl, rfl, rfl, rfl⟩ | ⟨rfl, rfl, rfl, rfl⟩ | ⟨rfl, rfl, rfl, rfl⟩ | ⟨rfl, rfl, rfl, rfl⟩ | ⟨rfl, rfl, rfl, rfl⟩ | ⟨rfl, rfl, rfl, rfl⟩ | ⟨rfl, rfl, rfl, rfl⟩ | ⟨rfl, rfl, rfl, rfl⟩
    · exact ty_6_22 x y ihx ihy
    · exact ty_7_44 x y ihx ihy
    · exact ty_8_44 x y ihx ihy
    · exact ty_9_44 x y ihx ihy
    · exact ty_12_54 x y ihx ihy
    · exact ty_29_52 x y ihx ihy
    · exact ty_12_64 x y ihx ihy
    · exact ty_29_62 x y ihx ihy
    · exact ty_12_74 x y ihx ihy
    · exact ty_29_72 x y ihx ihy
    · exact ty_12_84 x y ihx ihy
    · exact ty_29_82 x y ihx ihy
    · exact ty_13_77 x y ihx ihy
    · exact ty_13_73 x y ihx ihy
    · exact ty_16_78 x y ihx ihy
    · exact ty_18_66 x y ihx ihy
    · exact ty_18_62 x y ihx ihy
    · exact ty_19_66 x y ihx ihy
    · exact ty_19_62 x y ihx ihy
    · exact ty_20_26 x y ihx ihy
    · exact ty_21_66 x y ihx ihy
    · exact ty_21_62 x y ihx ihy
    · exact ty_22_66 x y ihx ihy
    · exact ty_22_62 x y ihx ihy
    · exact ty_23_55 x y ihx ihy
    · exact ty_23_11 x y ihx ihy
    · exact ty_24_55 x y ihx ihy
    · exact ty_24_11 x y ihx ihy
    · exact ty_28_52 x y ihx ihy
    · exact ty_30_62 x y ihx ihy
  | n3 o s1 s2 s3 t h x y z hx hy hz ihx ihy ihz =>
    simp only [tab3, List.mem_cons, Prod.mk.injEq, List.not_mem_nil, or_false] at h
    rcases h with ⟨rfl, rfl, rfl, rfl, rfl⟩ | ⟨rfl, rfl, rfl, rfl, rfl⟩
    · exact ty_15_772 x y z ihx ihy ihz
    · exact ty_15_732 x y z ihx ihy ihz
theorem Typ.bd {x : Ex} {t : Nat} (a b : Nat) (ha : 1 ≤ a ∧ a < 257) (hb : 1 ≤ b ∧ b < 257) (h : Typ x t) : ∃ y, Typ y t ∧ Bd a b x y ∧ y.size = x.size ∧ y.dep = x.dep := by
  induction h with
  | num k hk => exact ⟨_, .num k hk, bd_num a b k, rfl, rfl⟩
  | obj n h1 h2 => exact ⟨_, .obj n h1 h2, bd_obj a b n, rfl, rfl⟩
  | var0 => exact ⟨_, .obj a ha.1 ha.2, bd_var0 a b ha.2, rfl, rfl⟩
  | var1 => exact ⟨_, .obj b hb.1 hb.2, bd_var1 a b hb.2, rfl, rfl⟩
  | zone j hj => exact ⟨_, .zone j hj, bd_zone a b j hj, rfl, rfl⟩
  | pt j k hj hk => exact ⟨_, .pt j k hj hk, bd_2 (bd_num a b j) (bd_num a b k), rfl, rfl⟩
  | n1 o s t h x hx ih =>
    obtain ⟨x', h1, h2, h3, h4⟩ := ih
    refine ⟨_, .n1 o s t h x' h1, ?_, by simp [Ex.size, sizeL, h3], by simp [Ex.dep, depL, h4]⟩
    simp only [tab1, List.mem_cons, Prod.mk.injEq, List.not_mem_nil, or_false] at h
    rcases h with ⟨rfl, rfl, rfl⟩ | ⟨rfl, rfl, rfl⟩ | ⟨rfl, rfl, rfl⟩ | ⟨rfl, rfl, rfl⟩ | ⟨rfl, rfl, rfl⟩ | ⟨rfl, rfl, rfl⟩ | ⟨rfl, rfl, rfl⟩ | ⟨rfl, rfl, rfl⟩ | ⟨rfl, rfl, rfl⟩ | ⟨rfl, rfl, rfl⟩ | ⟨rfl, rfl, rfl⟩
    · exact bd_10 h2
    · exact bd_11 h2
    · exact bd_11 h2
    · exact bd_11 h2
    · exact bd_11 h2
    · exact bd_14 h2
    · exact bd_17 h2
    · exact bd_25 h2
    · exact bd_25 h2
    · exact bd_26 h2
    · exact bd_27 h2
  | n2 o s1 s2 t h x y hx hy ihx ihy =>
    obtain ⟨x', h1, h2, h3, h4⟩ := ihx
    obtain ⟨y', g1, g2, g3, g4⟩ := ihy
    refine ⟨_, .n2 o s1 s2 t h x' y' h1 g1, ?_, by simp [Ex.size, sizeL, h3, g3], by simp [Ex.dep, depL, h4, g4]⟩
    simp only [tab2, List.mem_cons, Prod.mk.injEq, List.not_mem_nil, or_false] at h
    rcases h with ⟨rfl, rfl, rfl, rfl⟩ | ⟨rfl, rfl, rfl, rfl⟩ | ⟨rfl, rfl, rfl, rfl⟩ | ⟨rfl, rfl, rfl, rfl⟩ | ⟨rfl, rfl, rfl, rfl⟩ | ⟨rfl, rfl, rfl, rfl⟩ | ⟨rfl, rfl, rfl, rfl⟩ | ⟨rfl, rfl, rfl, rfl⟩ | ⟨rfl, rfl, rfl, rfl⟩ | ⟨rfl, rfl, rfl, rfl⟩ | ⟨rfl, rfl, rfl, rfl⟩ | ⟨rfl, rfl, rfl, rfl⟩ | ⟨rfl, rfl, rfl, rfl⟩ | ⟨rfl, rfl, rfl, rfl⟩ | ⟨rfl, rfl, rfl, rfl⟩ | ⟨rfl, rfl, rfl, rfl⟩ | ⟨rfl, rfl, rfl, rfl⟩ | ⟨rfl, rfl, rfl, rfl⟩ | ⟨rfl, rfl, rfl, rfl⟩ | ⟨rfl, rfl, rfl, rfl⟩ | ⟨rfl, rfl, rfl, rfl⟩ | ⟨rfl, rfl, rfl, rfl⟩ | ⟨rfl, rfl, rfl, rfl⟩ | ⟨rfl, rfl, rfl, rfl⟩ | ⟨rfl, rfl, rfl, rfl⟩ | ⟨rfl, rfl, rfl, rfl⟩ | ⟨rfl, rfl, rfl, rfl⟩ | ⟨rfl, rfl, rfl, rfl⟩ | ⟨rfl, rfl, rfl, rfl⟩ | ⟨rfl, rfl, rfl, rfl⟩
    · exact bd_6 h2 g2
    · exact bd_7 h2 g2
    · exact bd_8 h2 g2
    · exact bd_9 h2 g2
    · exact bd_12 h2 g2
    · exact bd_29 h2 g2
    · exact bd_12 h2 g2
    · exact bd_29 h2 g2
    · exact bd_12 h2 g2
    · exact bd_29 h2 g2
    · exact bd_12 h2 g2
    · exact bd_29 h2 g2
    · exact bd_13 h2 g2
    · exact bd_13 h2 g2
    · exact bd_16 h2 g2
    · exact bd_18 h2 g2
    · exact bd_18 h2 g2
    · exact bd_19 h2 g2
    · exact bd_19 h2 g2
    · exact bd_20 h2 g2
    · exact bd_21 h2 g2
    · exact bd_21 h2 g2
    · exact bd_22 h2 g2
    · exact bd_22 h2 g2
    · exact bd_23 h2 g2
    · exact bd_23 h2 g2
    · exact bd_24 h2 g2
    · exact bd_24 h2 g2
    · exact bd_28 h2 g2
    · exact bd_30 h2 g2
  | n3 o s1 s2 s3 t h x y z hx hy hz ihx ihy ihz =>
    obtain ⟨x', h1, h2, h3, h4⟩ := ihx
    obtain ⟨y', g1, g2, g3, g4⟩ := ihy
    obtain ⟨z', k1, k2, k3, k4⟩ := ihz
    refine ⟨_, .n3 o s1 s2 s3 t h x' y' z' h1 g1 k1, ?_, by simp [Ex.size, sizeL, h3, g3, k3], by simp [Ex.dep, depL, h4, g4, k4]⟩
    simp only [tab3, List.mem_cons, Prod.mk.injEq, List.not_mem_nil, or_false] at h
    rcases h with ⟨rfl, rfl, rfl, rfl, rfl⟩ | ⟨rfl, rfl, rfl, rfl, rfl⟩
    · exact bd_15 h2 g2 k2
    · exact bd_15 h2 g2 k2

/-! what the coder makes is typed, and small -/
def Ok (S D : Nat) (g : Gen) (ss : List Nat) : Prop := ∀ l, (∃ s ∈ ss, Typ (g l).1 s) ∧ (g l).1.size ≤ S ∧ (g l).1.dep ≤ D
theorem Ok.op1 {S D o t : Nat} {f : Gen} {ss : List Nat} (hf : Ok S D f ss) (h : ∀ s ∈ ss, (o, s, t) ∈ tab1) : Ok (2 * S + 1) (D + 1) (op1 (.ofNat o) f) [t] := by
  intro l
  obtain ⟨⟨s, hs, h1⟩, h2, h3⟩ := hf l
  refine ⟨⟨t, by simp, .n1 o s t (h s hs) _ h1⟩, ?_, ?_⟩
  · simp only [Go.Proofs.YtnljmpeaeajcoaaGreatDoor.op1, Ex.size, sizeL]; omega
  · simp only [Go.Proofs.YtnljmpeaeajcoaaGreatDoor.op1, Ex.dep, depL]; omega
theorem Ok.op2 {S D o t : Nat} {f g : Gen} {ss rr : List Nat} (hf : Ok S D f ss) (hg : Ok S D g rr) (h : ∀ s ∈ ss, ∀ r ∈ rr, (o, s, r, t) ∈ tab2) : Ok (2 * S + 1) (D + 1) (op2 (.ofNat o) f g) [t] := by
  intro l
  obtain ⟨⟨s, hs, h1⟩, h2, h3⟩ := hf l
  obtain ⟨⟨r, hr, g1⟩, g2, g3⟩ := hg (f l).2
  refine ⟨⟨t, by simp, .n2 o s r t (h s hs r hr) _ _ h1 g1⟩, ?_, ?_⟩
  · simp only [Go.Proofs.YtnljmpeaeajcoaaGreatDoor.op2, Ex.size, sizeL]; omega
  · simp only [Go.Proofs.YtnljmpeaeajcoaaGreatDoor.op2, Ex.dep, depL]; omega
theorem ok_nu {S D : Nat} (hS : 1 ≤ S) (hD : 1 ≤ D) : Ok S D nu [2] := fun l => ⟨⟨2, by simp, .num _ (nx_lt l (by omega))⟩, hS, hD⟩
theorem ok_pt {S D v : Nat} (hv : v < 3) (hS : 1 ≤ S) (hD : 1 ≤ D) : Ok S D (pt v) [7] := by
  intro l
  have hk := nx_lt (m := 8) l (by omega)
  show (∃ s ∈ [7], Typ (exPoint v (nx 8 l).1) s) ∧ (exPoint v (nx 8 l).1).size ≤ S ∧ (exPoint v (nx 8 l).1).dep ≤ D
  generalize (nx 8 l).1 = k at hk
  unfold exPoint
  split
  · rename_i h
    have : k % v = 0 ∨ k % v = 1 := by
      have hv' : v = 1 ∨ v = 2 := by omega
      rcases hv' with rfl | rfl <;> omega
    rcases this with e | e <;> rw [e]
    · exact ⟨⟨7, by simp, .var0⟩, hS, hD⟩
    · exact ⟨⟨7, by simp, .var1⟩, hS, hD⟩
  · exact ⟨⟨7, by simp, .obj _ (by omega) (by omega)⟩, hS, hD⟩
theorem ok_zn {S D : Nat} (hS : 1 ≤ S) (hD : 1 ≤ D) : Ok S D zn [8] := fun l => ⟨⟨8, by simp, .zone _ (nx_lt l (by omega))⟩, hS, hD⟩
theorem ok_plc {S D : Nat} {T : Nat → Gen} (h7 : Ok S D (T 7) [7]) (h3 : Ok S D (T 3) [3]) : Ok S D (plc T) [7, 3] := by
  intro l
  unfold plc
  split
  · obtain ⟨⟨s, hs, h1⟩, h2⟩ := h7 (nx 2 l).2; exact ⟨⟨s, by simp at hs; simp [hs], h1⟩, h2⟩
  · obtain ⟨⟨s, hs, h1⟩, h2⟩ := h3 (nx 2 l).2; exact ⟨⟨s, by simp at hs; simp [hs], h1⟩, h2⟩
theorem ok_amt {S D : Nat} {T : Nat → Gen} (hS : 1 ≤ S) (hD : 1 ≤ D) (h6 : Ok S D (T 6) [6]) : Ok S D (amt T) [6, 2] := by
  intro l
  unfold amt
  split
  · obtain ⟨⟨s, hs, h1⟩, h2⟩ := h6 (nx 2 l).2; exact ⟨⟨s, by simp at hs; simp [hs], h1⟩, h2⟩
  · obtain ⟨⟨s, hs, h1⟩, h2⟩ := ok_nu hS hD (nx 2 l).2; exact ⟨⟨s, by simp at hs; simp [hs], h1⟩, h2⟩
theorem ok_dfn {S D : Nat} {T : Nat → Gen} (h : ∀ s ∈ [5, 6, 7, 8], Ok S D (T s) [s]) : Ok (2 * S + 1) (D + 1) (dfn T) [4] := by
  intro l
  have hk := nx_lt (m := 4) l (by omega)
  show _ ∧ _
  unfold dfn
  generalize (nx 4 l).1 = k at hk
  have hk' : k = 0 ∨ k = 1 ∨ k = 2 ∨ k = 3 := by omega
  rcases hk' with rfl | rfl | rfl | rfl
  · exact (h 5 (by decide)).op1 (o := 11) (by decide) (nx 4 l).2
  · exact (h 6 (by decide)).op1 (o := 11) (by decide) (nx 4 l).2
  · exact (h 7 (by decide)).op1 (o := 11) (by decide) (nx 4 l).2
  · exact (h 8 (by decide)).op1 (o := 11) (by decide) (nx 4 l).2
theorem Ok.le {S D S' D' : Nat} {g : Gen} {ss : List Nat} (h : Ok S D g ss) (hS : S ≤ S') (hD : D ≤ D') : Ok S' D' g ss := fun l => by
  obtain ⟨h1, h2, h3⟩ := h l
  exact ⟨h1, by omega, by omega⟩
theorem ok_two {S D : Nat} (hS : 1 ≤ S) : Ok (2 * S + 1) (D + 1 + 1) (op2 2 nu nu) [3] := fun l => ⟨⟨3, by simp, .pt _ _ (nx_lt _ (by omega)) (nx_lt _ (by omega))⟩, by show 3 ≤ _; omega, by show 2 ≤ _; omega⟩
theorem ok_op3 {S D v : Nat} {T : Nat → Gen} (hv : v < 3) (hS : 2 ≤ S) (hD : 1 ≤ D) (hp : Ok S D (plc T) [7, 3]) : Ok (2 * S + 1) (D + 1) (op3 15 (pt v) (plc T) nu) [5] := by
  intro l
  obtain ⟨⟨s, hs, h1⟩, h2, h3⟩ := ok_pt (S := 1) (D := 1) hv (by omega) (by omega) l
  obtain ⟨⟨r, hr, g1⟩, g2, g3⟩ := hp (pt v l).2
  obtain ⟨⟨q, hq, k1⟩, k2, k3⟩ := ok_nu (S := 1) (D := 1) (by omega) (by omega) (plc T (pt v l).2).2
  obtain rfl : s = 7 := by simpa using hs
  obtain rfl : q = 2 := by simpa using hq
  refine ⟨⟨5, by simp, .n3 15 7 r 2 5 ?_ _ _ _ h1 g1 k1⟩, ?_, ?_⟩
  · simp only [List.mem_cons, List.not_mem_nil, or_false] at hr
    rcases hr with rfl | rfl <;> decide
  · simp only [op3, Ex.size, sizeL]; omega
  · simp only [op3, Ex.dep, depL]; omega
/-- with all types below -/
theorem ok_leaf {S D v : Nat} {T : Nat → Gen} (hv : v < 3) (hS : 3 ≤ S) (hD : 2 ≤ D) (h : ∀ s ∈ [1, 2, 3, 4, 5, 6, 7, 8], Ok S D (T s) [s]) (t k : Nat) (ht : t ∈ [1, 2, 3, 4, 5, 6, 7, 8]) : Ok (2 * S + 1) (D + 1) (leafOf v T t k) [t] := by
  have h1 := h 1 (by decide); have h4 := h 4 (by decide); have h5 := h 5 (by decide); have h6 := h 6 (by decide); have h7 := h 7 (by decide); have h3 := h 3 (by decide); have h8 := h 8 (by decide)
  have hn : Ok S D nu [2] := ok_nu (by omega) (by omega)
  have hp := ok_plc h7 h3
  have ha := ok_amt (T := T) (by omega) (by omega) h6
  have ho : Ok (2 * S + 1) (D + 1) (op2 2 nu nu) [3] := by
    obtain ⟨D', rfl⟩ : ∃ D', D = D' + 1 := ⟨D - 1, by omega⟩
    exact ok_two (by omega)
  simp only [List.mem_cons, List.not_mem_nil, or_false] at ht
  unfold leafOf
  rcases ht with rfl | rfl | rfl | rfl | rfl | rfl | rfl | rfl
  · rw [if_neg (by omega)]; simp only [if_neg (show ¬ 1 = 2 by decide), if_neg (show ¬ 1 = 3 by decide), if_neg (show ¬ 1 = 7 by decide), if_neg (show ¬ 1 = 8 by decide), if_neg (show ¬ 1 = 4 by decide), if_neg (show ¬ 1 = 6 by decide), if_neg (show ¬ 1 = 5 by decide)]
    unfold leaf1
    repeat' split
    · exact h1.op2 (o := 23) h1 (by decide)
    · exact h1.op2 (o := 24) h1 (by decide)
    · exact h1.op1 (o := 25) (by decide)
    · exact h5.op2 (o := 28) hn (by decide)
    · exact h6.op2 (o := 30) hn (by decide)
    · exact h5.op1 (o := 27) (by decide)
    · exact h5.op1 (o := 26) (by decide)
  · rw [if_neg (by omega), if_pos rfl]; exact hn.le (by omega) (by omega)
  · rw [if_neg (by omega), if_neg (by decide), if_pos rfl]; exact ho
  · rw [if_neg (by omega)]; simp only [if_neg (show ¬ 4 = 2 by decide), if_neg (show ¬ 4 = 3 by decide), if_neg (show ¬ 4 = 7 by decide), if_neg (show ¬ 4 = 8 by decide), if_true]
    unfold leaf4
    repeat' split
    · exact h4.op2 (o := 7) h4 (by decide)
    · exact h4.op2 (o := 8) h4 (by decide)
    · exact h4.op2 (o := 9) h4 (by decide)
    · exact h5.op1 (o := 10) (by decide)
    · exact ok_dfn fun s hs => h s (by simp only [List.mem_cons, List.not_mem_nil, or_false] at hs ⊢; omega)
    · exact hn.op2 (o := 6) hn (by decide)
  · split
    · split
      · exact h5.op2 (o := 12) h4 (by decide)
      · exact h5.op2 (o := 29) hn (by decide)
    · simp only [if_neg (show ¬ 5 = 2 by decide), if_neg (show ¬ 5 = 3 by decide), if_neg (show ¬ 5 = 7 by decide), if_neg (show ¬ 5 = 8 by decide), if_neg (show ¬ 5 = 4 by decide), if_neg (show ¬ 5 = 6 by decide), if_true]
      unfold leaf5
      repeat' split
      · exact h7.op2 (o := 16) h8 (by decide)
      · exact h6.op2 (o := 21) ha (by decide)
      · exact h6.op2 (o := 22) ha (by decide)
      · exact h5.op2 (o := 23) h5 (by decide)
      · exact h5.op2 (o := 24) h5 (by decide)
      · exact h5.op1 (o := 25) (by decide)
      · exact ok_op3 hv (by omega) (by omega) hp
  · split
    · split
      · exact h6.op2 (o := 12) h4 (by decide)
      · exact h6.op2 (o := 29) hn (by decide)
    · simp only [if_neg (show ¬ 6 = 2 by decide), if_neg (show ¬ 6 = 3 by decide), if_neg (show ¬ 6 = 7 by decide), if_neg (show ¬ 6 = 8 by decide), if_neg (show ¬ 6 = 4 by decide), if_true]
      unfold leaf6
      repeat' split
      · exact h7.op2 (o := 13) hp (by decide)
      · exact h8.op1 (o := 17) (by decide)
      · exact h6.op2 (o := 18) ha (by decide)
      · exact h6.op2 (o := 19) ha (by decide)
      · exact hn.op2 (o := 20) h6 (by decide)
      · exact (ok_pt (S := S) (D := D) hv (by omega) (by omega)).op1 (o := 14) (by decide)
  · split
    · split
      · exact h7.op2 (o := 12) h4 (by decide)
      · exact h7.op2 (o := 29) hn (by decide)
    · simp only [if_neg (show ¬ 7 = 2 by decide), if_neg (show ¬ 7 = 3 by decide), if_true]
      exact ok_pt hv (by omega) (by omega)
  · split
    · split
      · exact h8.op2 (o := 12) h4 (by decide)
      · exact h8.op2 (o := 29) hn (by decide)
    · simp only [if_neg (show ¬ 8 = 2 by decide), if_neg (show ¬ 8 = 3 by decide), if_neg (show ¬ 8 = 7 by decide), if_true]
      exact ok_zn (by omega) (by omega)
theorem ok0 {v : Nat} (hv : v < 3) : ∀ s ∈ [3, 7], Ok 3 2 (typedM v 0 s) [s] := by
  intro s hs
  simp only [List.mem_cons, List.not_mem_nil, or_false] at hs
  rcases hs with rfl | rfl
  · exact ok_two (S := 1) (D := 0) (by omega)
  · exact ok_pt hv (by omega) (by omega)
theorem ok1 {v : Nat} (hv : v < 3) : ∀ s ∈ [3, 5, 7], Ok 7 3 (typedM v 1 s) [s] := by
  intro s hs
  have h := ok0 hv
  simp only [List.mem_cons, List.not_mem_nil, or_false] at hs
  rcases hs with rfl | rfl | rfl
  · exact ok_two (S := 3) (D := 1) (by omega)
  · exact ok_op3 (S := 3) (D := 2) hv (by omega) (by omega) (ok_plc (h 7 (by decide)) (h 3 (by decide)))
  · exact ok_pt hv (by omega) (by omega)
theorem ok2 {v : Nat} (hv : v < 3) : ∀ s ∈ [1, 2, 3, 4, 5, 6, 7, 8], Ok 15 4 (typedM v 2 s) [s] := by
  intro s hs
  have h := ok1 hv
  simp only [List.mem_cons, List.not_mem_nil, or_false] at hs
  rcases hs with rfl | rfl | rfl | rfl | rfl | rfl | rfl | rfl
  · exact (h 5 (by decide)).op1 (o := 26) (by decide)
  · exact ok_nu (by omega) (by omega)
  · exact ok_two (S := 7) (D := 2) (by omega)
  · exact (ok_nu (S := 7) (D := 3) (by omega) (by omega)).op2 (o := 6) (ok_nu (by omega) (by omega)) (by decide)
  · exact ok_op3 (S := 7) (D := 3) hv (by omega) (by omega) (ok_plc (h 7 (by decide)) (h 3 (by decide)))
  · exact (ok_pt (S := 7) (D := 3) hv (by omega) (by omega)).op1 (o := 14) (by decide)
  · exact ok_pt hv (by omega) (by omega)
  · exact ok_zn (by omega) (by omega)
theorem ok_up {S D v L : Nat} (hv : v < 3) (hS : 3 ≤ S) (hD : 2 ≤ D) (hL : 2 ≤ L) (h : ∀ s ∈ [1, 2, 3, 4, 5, 6, 7, 8], Ok S D (typedM v L s) [s]) : ∀ s ∈ [1, 2, 3, 4, 5, 6, 7, 8], Ok (2 * S + 1) (D + 1) (typedM v (L + 1) s) [s] := by
  intro s hs l
  have e : typedM v (L + 1) s l = leafOf v (typedM v L) s (nx 10 l).1 (nx 10 l).2 := by
    show (if 2 ≤ L then _ else _) = _
    rw [if_pos hL]
  rw [e]
  exact ok_leaf hv hS hD h s _ hs _
theorem ok5 {v : Nat} (hv : v < 3) : ∀ s ∈ [1, 2, 3, 4, 5, 6, 7, 8], Ok 127 7 (typedM v 5 s) [s] :=
  ok_up (S := 63) (D := 6) hv (by omega) (by omega) (by omega) (ok_up (S := 31) (D := 5) hv (by omega) (by omega) (by omega) (ok_up (S := 15) (D := 4) hv (by omega) (by omega) (by omega) (ok2 hv)))
theorem typed_ok {v t : Nat} (hv : v < 3) (ht : t ∈ [1, 2, 3, 4, 5, 6, 7, 8]) (l : List UInt8) : Typ (typedEx v t l) t ∧ (typedEx v t l).size ≤ 127 ∧ (typedEx v t l).dep ≤ 7 := by
  obtain ⟨⟨s, hs, h1⟩, h2⟩ := ok5 hv t ht (l.take 24)
  obtain rfl : s = t := by simpa using hs
  exact ⟨h1, h2⟩
end Go.Proofs.YtnljmpeaeajcoaaGreatDoor

namespace Go.Proofs.YtnljmpeaeajcoaaGreatDoor
open Go Go.Eng Go.Vi

theorem ok6 : FnOk Tryz.prog 6 Tryz.f6 := ⟨Tryz.func6, by kernel_rfl, by kernel_rfl⟩
theorem known_run : @closedRun Cl Tryz.prog X1 [] 20000 Tryz.f6 [] (.bool true) = true := by kernel_rfl
theorem known_c : BSim Tryz.prog 6 [] [] [] (.bool true) :=
  @BSim.closed Cl Tryz.prog hm X1 (@hX1 Cl) [] (fun _ h => by cases h) 6 Tryz.f6 ok6 _ _ (by rfl) 20000 known_run rfl
end Go.Proofs.YtnljmpeaeajcoaaGreatDoor

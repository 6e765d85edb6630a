/- A part of the proof over this seat's program: the checked evaluator and its soundness (E..), and what it gives here (the others). No condition. -/
import Derived.Test.YtnljmpeaeajcoaaGreatDoorT11
namespace Go.Proofs.YtnljmpeaeajcoaaGreatDoor
open Go Go.Eng Go.Vi
local instance : Go.Eng.Mode := Sy

noncomputable def gUs (l : List (Nat × List AV × List AV)) (b : Bool) : Bool := List.rec (motive := fun _ => Bool) b (fun u _ ih => gE u.2.1 ih) l
theorem gUs_iff {l : List (Nat × List AV × List AV)} {b : Bool} : gUs l b = true ↔ b = true := by
  induction l with
  | nil => exact Iff.rfl
  | cons u l ih => show gE u.2.1 (gUs l b) = true ↔ _; rw [gE_iff, ih]
/-- a call of the script with more rows -/
noncomputable def gD (e : FuncId × SEnt) (b : Bool) : Bool := gE e.2.args (gUs e.2.ups b)
theorem gD_iff {e : FuncId × SEnt} {b : Bool} : gD e b = true ↔ b = true := by unfold gD; rw [gE_iff, gUs_iff]
noncomputable def ifB (c a b : Bool) : Bool := Bool.rec (motive := fun _ => Bool) b a c
theorem ifB_false {c a b : Bool} (h : c = false) : ifB c a b = b := by subst h; rfl

inductive Good : Ex → Prop
  | mk (o : Int) (n : List UInt8) (r : Rt) (args : List Ex) (h : Right (.mk o n r args)) (hl : args.length ≤ 3) (ha : ∀ y ∈ args, Good y) : Good (.mk o n r args)

def fV : AV := .func (.func 45) [] [.ptr 0 0, .ptr 1 0]
def rowsV (n : Nat) : List (List AV) := [[.int .i64 (.ofNat n)], [fV]]
theorem rowsV_fz (n : Nat) (M' : Mem) : ∀ r ∈ rowsV n, FzBs 2 M' r r := by
  intro r hr
  rcases List.mem_cons.1 hr with rfl | hr
  · exact .cons _ _ _ _ (.plain (.int .i64 (.ofNat n))) .nil
  · obtain rfl := List.mem_singleton.1 hr
    exact .cons _ _ _ _ (.func _ _ _ _ _ .nil (.cons _ _ _ _ (.ptr 0 0 (by omega)) (.cons _ _ _ _ (.ptr 1 0 (by omega)) .nil))) .nil
noncomputable def eR (x : Ex) : FuncId × SEnt := (46, ⟨[exA x], [], .int .i64 0⟩)
noncomputable def eV (x : Ex) (lev n n' : Nat) : FuncId × SEnt := (45, ⟨[exA x, .int .i64 (.ofNat lev), .ptr 0 0, .ptr 1 0], [(0, [.int .i64 (.ofNat n)], [.int .i64 (.ofNat n')]), (1, [fV], [fV])], .int .i64 0⟩)
theorem ok45 : FnOk Tryz.prog 45 Tryz.f45 := ⟨Tryz.func45, by kernel_rfl, by kernel_rfl⟩
theorem eV_ok {x : Ex} {lev n n' : Nat} (h : BSimG Tryz.prog 45 [exA x, .int .i64 (.ofNat lev), .ptr 0 0, .ptr 1 0] (rowsV n) (rowsV n') (.int .i64 0)) : SSpec Tryz.prog (eV x lev n n').1 (eV x lev n n').2 :=
  h [0, 1] _ _ _ rfl (by decide) rfl rfl rfl
noncomputable def leafV (n : Nat) (e : Int) (I : AV → List (Option Blk) → Bool) : Bool := I (.int .i64 e) ((rowsG (rowsV n)).map some ++ [])
/-- one argument -/
noncomputable def stepV (y : Ex) (lev n n' : Nat) (b : Bool) : Bool := gB (inI64 (.ofNat (lev + 1))) (gD (eV y (lev + 1) n n') b)
noncomputable def runV (S : List (FuncId × SEnt)) (x : Ex) (lev n : Nat) (I : AV → List (Option Blk) → Bool) : Bool :=
  Eng.exec Tryz.prog X0 S 60 Tryz.f45.ntmps (codeOf Tryz.f45) (mkFr (argSlots [exA x, .int .i64 (.ofNat lev), .ptr 0 0, .ptr 1 0] 0)) (mkMem (rowsG (rowsV n))) (fun o fr M => endK o (resK Tryz.prog fr M Tryz.f45.results.toList fun vs => I (oneOf vs) (mv [0, 1] M)))
theorem visit_of {S : List (FuncId × SEnt)} (hS : AllOk S) {x : Ex} {lev n n' : Nat} (hn : n < 256) (hlev : lev ≤ 32) (G : Bool → Bool) (hG : ∀ c, c = true → G c = true)
    (hrun : ∀ I, runV S x lev n I = ifB (Bool.not (ilt (.ofNat n) 256)) (leafV n 3 I) (ifB (ilt 32 (.ofNat lev)) (leafV n 33 I) (gB (inI64 (.ofNat (n + 1))) (gD (eR x) (G (leafV n' 0 I)))))) :
    BSimG Tryz.prog 45 [exA x, .int .i64 (.ofNat lev), .ptr 0 0, .ptr 1 0] (rowsV n) (rowsV n') (.int .i64 0) := by
  refine BSimG.run hm hX0 hS.mem ok45 (by kernel_rfl) rfl 60 [0, 1] _ hrun ?_
  have c1 : Bool.not (ilt (.ofNat n) 256) = false := by rw [ilt_iff]; simp; omega
  have c2 : ilt 32 (.ofNat lev) = false := by rw [ilt_iff]; simp; omega
  simp only [ifB_false c1, ifB_false c2, gB_iff, gD_iff]
  exact ⟨smallI _ (by omega), hG _ (pdec_iff.2 (LeafG.of (rowsV_fz n') fun _ _ => .plain (.int .i64 0)))⟩
theorem visit_c : ∀ {x : Ex}, Good x → ∀ lev n, n + x.size ≤ 256 → lev + x.dep ≤ 33 → BSimG Tryz.prog 45 [exA x, .int .i64 (.ofNat lev), .ptr 0 0, .ptr 1 0] (rowsV n) (rowsV (n + x.size)) (.int .i64 0) := by
  intro x hx
  induction hx with
  | mk o nm r args hR hl ha ih =>
    intro lev n hn hd
    have e1 : (Ex.mk o nm r args).size = 1 + sizeL args := by simp [Ex.size]
    have e2 : (Ex.mk o nm r args).dep = 1 + depL args := by simp [Ex.dep]
    rw [e1] at hn
    rw [e2] at hd
    rw [e1]
    have hlv : inI64 (.ofNat (lev + 1)) = true := smallI _ (by omega)
    have hR' : SSpec Tryz.prog (eR (.mk o nm r args)).1 (eR (.mk o nm r args)).2 := hR.spec0 rfl
    match args, hl with
    | [], _ =>
      simp only [sizeL] at hn ⊢
      refine visit_of (S := [eR (.mk o nm r [])]) ⟨hR', trivial⟩ (by omega) (by omega) (fun c => c) (fun c hc => hc) (fun I => by kernel_rfl)
    | [y], _ =>
      simp only [sizeL, depL, Nat.add_zero] at hn hd ⊢
      have h1 := ih y (by simp) (lev + 1) (n + 1) (by omega) (by omega)
      have e3 : n + (1 + y.size) = n + 1 + y.size := by omega
      rw [e3]
      refine visit_of (S := [eR (.mk o nm r [y]), eV y (lev + 1) (n + 1) (n + 1 + y.size)]) ⟨hR', eV_ok h1, trivial⟩ (by omega) (by omega) (fun c => stepV y lev (n + 1) (n + 1 + y.size) c) ?_ (fun I => by kernel_rfl)
      intro c hc; simp only [stepV, gB_iff, gD_iff]; exact ⟨hlv, hc⟩
    | [y, z], _ =>
      simp only [sizeL, depL, Nat.add_zero] at hn hd ⊢
      have h1 := ih y (by simp) (lev + 1) (n + 1) (by omega) (by omega)
      have h2 := ih z (by simp) (lev + 1) (n + 1 + y.size) (by omega) (by omega)
      have e3 : n + (1 + (y.size + z.size)) = n + 1 + y.size + z.size := by omega
      rw [e3]
      refine visit_of (S := [eR (.mk o nm r [y, z]), eV y (lev + 1) (n + 1) (n + 1 + y.size), eV z (lev + 1) (n + 1 + y.size) (n + 1 + y.size + z.size)]) ⟨hR', eV_ok h1, eV_ok h2, trivial⟩ (by omega) (by omega)
        (fun c => stepV y lev (n + 1) (n + 1 + y.size) (stepV z lev (n + 1 + y.size) (n + 1 + y.size + z.size) c)) ?_ (fun I => by kernel_rfl)
      intro c hc; simp only [stepV, gB_iff, gD_iff]; exact ⟨hlv, hlv, hc⟩
    | [y, z, u], _ =>
      simp only [sizeL, depL, Nat.add_zero] at hn hd ⊢
      have h1 := ih y (by simp) (lev + 1) (n + 1) (by omega) (by omega)
      have h2 := ih z (by simp) (lev + 1) (n + 1 + y.size) (by omega) (by omega)
      have h3 := ih u (by simp) (lev + 1) (n + 1 + y.size + z.size) (by omega) (by omega)
      have e3 : n + (1 + (y.size + (z.size + u.size))) = n + 1 + y.size + z.size + u.size := by omega
      rw [e3]
      refine visit_of (S := [eR (.mk o nm r [y, z, u]), eV y (lev + 1) (n + 1) (n + 1 + y.size), eV z (lev + 1) (n + 1 + y.size) (n + 1 + y.size + z.size), eV u (lev + 1) (n + 1 + y.size + z.size) (n + 1 + y.size + z.size + u.size)])
        ⟨hR', eV_ok h1, eV_ok h2, eV_ok h3, trivial⟩ (by omega) (by omega)
        (fun c => stepV y lev (n + 1) (n + 1 + y.size) (stepV z lev (n + 1 + y.size) (n + 1 + y.size + z.size) (stepV u lev (n + 1 + y.size + z.size) (n + 1 + y.size + z.size + u.size) c))) ?_ (fun I => by kernel_rfl)
      intro c hc; simp only [stepV, gB_iff, gD_iff]; exact ⟨hlv, hlv, hlv, hc⟩
    | _ :: _ :: _ :: _ :: _, h => simp at h
end Go.Proofs.YtnljmpeaeajcoaaGreatDoor

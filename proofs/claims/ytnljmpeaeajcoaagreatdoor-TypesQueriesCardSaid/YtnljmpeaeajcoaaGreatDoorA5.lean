/- A part of the proof over this seat's program: the checked evaluator and its soundness, and what it gives here. No condition. -/
import Derived.Test.YtnljmpeaeajcoaaGreatDoorA4

set_option linter.all false

namespace Go.Proofs.YtnljmpeaeajcoaaGreatDoor
open Go Go.Eng Go.Vi

def X1 (f : FuncId) : Option Ext := if Nat.beq f 119 then some .indexByte else if Nat.beq f 149 then some .cmpString else if Nat.beq f 157 then some .add64 else if Nat.beq f 135 then some .noEscape else none
theorem hX1 [Go.Eng.Mode] : ∀ f x, X1 f = some x → ExtSpec Tryz.prog f x := by
  intro f x h
  unfold X1 at h
  split at h
  · rename_i hf; obtain rfl := Nat.eq_of_beq_eq_true hf; cases h
    exact ExtSpec.indexByte Tryz.func119 (by kernel_rfl) (by kernel_rfl) (by kernel_rfl) (by kernel_rfl)
  split at h
  · rename_i hf; obtain rfl := Nat.eq_of_beq_eq_true hf; cases h
    exact ExtSpec.cmpString Tryz.func149 (by kernel_rfl) (by kernel_rfl) (by kernel_rfl) (by kernel_rfl)
  split at h
  · rename_i hf; obtain rfl := Nat.eq_of_beq_eq_true hf; cases h
    exact ExtSpec.add64 Tryz.func157 (by kernel_rfl) (by kernel_rfl) (by kernel_rfl) (by kernel_rfl)
  split at h
  · rename_i hf; obtain rfl := Nat.eq_of_beq_eq_true hf; cases h
    exact ExtSpec.noEscape Tryz.func135 (by kernel_rfl) (by kernel_rfl) (by kernel_rfl) (by kernel_rfl)
  · cases h
/-! closed runs: fractions, and the numbers of arguments -/
theorem ok63 : FnOk Tryz.prog 63 Tryz.f63 := ⟨Tryz.func63, by kernel_rfl, by kernel_rfl⟩
theorem ok64 : FnOk Tryz.prog 64 Tryz.f64 := ⟨Tryz.func64, by kernel_rfl, by kernel_rfl⟩
theorem ok62 : FnOk Tryz.prog 62 Tryz.f62 := ⟨Tryz.func62, by kernel_rfl, by kernel_rfl⟩
noncomputable def ckRun (r : Rt) : Bool := @closedRun Cl Tryz.prog X1 [] 400 Tryz.f63 [rtA r] (.int .i64 0)
theorem check_of {r : Rt} (h : ckRun r = true) : BSim Tryz.prog 63 [rtA r] [] [] (.int .i64 0) :=
  @BSim.closed Cl Tryz.prog hm X1 (@hX1 Cl) [] (fun _ h => by cases h) 63 Tryz.f63 ok63 _ _ (by rfl) 400 h rfl
theorem ck1 : ((List.range 64).all fun n => ckRun (ratOf n 1)) = true := by kernel_rfl
theorem ck2a : ((List.range' 0 32).all fun n => ckRun (ratOf n 2)) = true := by kernel_rfl
theorem ck2b : ((List.range' 32 32).all fun n => ckRun (ratOf n 2)) = true := by kernel_rfl
theorem check_rat (n d : Nat) (hn : n < 64) (hd : d = 1 ∨ d = 2) : BSim Tryz.prog 63 [rtA (ratOf n d)] [] [] (.int .i64 0) := by
  rcases hd with rfl | rfl
  · exact check_of (List.all_eq_true.1 ck1 n (List.mem_range.2 hn))
  · by_cases h : n < 32
    · exact check_of (List.all_eq_true.1 ck2a n (List.mem_range'.2 ⟨n, by omega, by omega⟩))
    · exact check_of (List.all_eq_true.1 ck2b n (List.mem_range'.2 ⟨n - 32, by omega, by omega⟩))
/-- the id that a fraction is: some number, and whether it is one -/
noncomputable def idRun (r : Rt) (n : Nat) (b : Bool) : Bool := @closedRun Cl Tryz.prog X1 [] 400 Tryz.f64 [rtA r] (.tuple [.int .i64 (.ofNat n), .bool b])
theorem id_of {r : Rt} {n : Nat} {b : Bool} (h : idRun r n b = true) : BSim Tryz.prog 64 [rtA r] [] [] (.tuple [.int .i64 (.ofNat n), .bool b]) :=
  @BSim.closed Cl Tryz.prog hm X1 (@hX1 Cl) [] (fun _ h => by cases h) 64 Tryz.f64 ok64 _ _ (by rfl) 400 h rfl
def ratInt (n d : Nat) : Nat := if d = 1 then n else if n % 2 = 0 then n / 2 else n
def ratIs (n d : Nat) : Bool := if d = 1 then decide (1 ≤ n) else decide (n % 2 = 0 ∧ 1 ≤ n)
theorem id1 : ((List.range 64).all fun n => idRun (ratOf n 1) (ratInt n 1) (ratIs n 1)) = true := by kernel_rfl
theorem id2a : ((List.range' 0 32).all fun n => idRun (ratOf n 2) (ratInt n 2) (ratIs n 2)) = true := by kernel_rfl
theorem id2b : ((List.range' 32 32).all fun n => idRun (ratOf n 2) (ratInt n 2) (ratIs n 2)) = true := by kernel_rfl
theorem id3 : ((List.range 257).all fun n => idRun (intRt n) n (decide (1 ≤ n))) = true := by kernel_rfl
theorem id_rat (n d : Nat) (hn : n < 64) (hd : d = 1 ∨ d = 2) : BSim Tryz.prog 64 [rtA (ratOf n d)] [] [] (.tuple [.int .i64 (.ofNat (ratInt n d)), .bool (ratIs n d)]) := by
  rcases hd with rfl | rfl
  · exact id_of (List.all_eq_true.1 id1 n (List.mem_range.2 hn))
  · by_cases h : n < 32
    · exact id_of (List.all_eq_true.1 id2a n (List.mem_range'.2 ⟨n, by omega, by omega⟩))
    · exact id_of (List.all_eq_true.1 id2b n (List.mem_range'.2 ⟨n - 32, by omega, by omega⟩))
theorem id_int (n : Nat) (hn : n < 257) : BSim Tryz.prog 64 [rtA (intRt n)] [] [] (.tuple [.int .i64 (.ofNat n), .bool (decide (1 ≤ n))]) :=
  id_of (List.all_eq_true.1 id3 n (List.mem_range.2 hn))

def nArgs (o : Nat) : Nat := if o = 1 ∨ o = 3 ∨ o = 4 ∨ o = 5 then 0 else if o = 10 ∨ o = 11 ∨ o = 14 ∨ o = 17 ∨ o = 25 ∨ o = 26 ∨ o = 27 then 1 else if o = 15 then 3 else 2
noncomputable def countRun (o : Nat) : Bool := @closedRun Cl Tryz.prog X1 [] 400 Tryz.f62 [.int .i64 (.ofNat o)] (.int .i64 (.ofNat (nArgs o)))
theorem counts : ((List.range' 1 30).all fun o => countRun o) = true := by kernel_rfl
theorem count_c (o : Nat) (h1 : 1 ≤ o) (h2 : o ≤ 30) : BSim Tryz.prog 62 [.int .i64 (.ofNat o)] [] [] (.int .i64 (.ofNat (nArgs o))) :=
  @BSim.closed Cl Tryz.prog hm X1 (@hX1 Cl) [] (fun _ h => by cases h) 62 Tryz.f62 ok62 _ _ (by rfl) 400 (List.all_eq_true.1 counts o (List.mem_range'.2 ⟨o - 1, by omega, by omega⟩)) rfl
theorem ok28 : FnOk Tryz.prog 28 Tryz.f28 := ⟨Tryz.func28, by kernel_rfl, by kernel_rfl⟩
theorem ok65 : FnOk Tryz.prog 65 Tryz.f65 := ⟨Tryz.func65, by kernel_rfl, by kernel_rfl⟩
theorem isName_runs : ([0, 1].all fun i => @closedRun Cl Tryz.prog X1 [] 400 Tryz.f28 [toAV (sD (vname i))] (.bool true)) = true := by kernel_rfl
theorem isName_c (i : Nat) : BSim Tryz.prog 28 [toAV (sD (vname i))] [] [] (.bool true) := by
  have h : @closedRun Cl Tryz.prog X1 [] 400 Tryz.f28 [toAV (sD (vname i))] (.bool true) = true := by
    by_cases h0 : i = 0
    · subst h0; exact List.all_eq_true.1 isName_runs 0 (by simp)
    · have : vname i = vname 1 := by unfold vname; rw [if_neg h0, if_neg (by decide)]
      rw [this]; exact List.all_eq_true.1 isName_runs 1 (by simp)
  exact @BSim.closed Cl Tryz.prog hm X1 (@hX1 Cl) [] (fun _ h => by cases h) 28 Tryz.f28 ok28 _ _ (by rfl) 400 h rfl
theorem isZone_runs : ([0, 1, 2].all fun i => @closedRun Cl Tryz.prog X1 [] 400 Tryz.f65 [toAV (sD (zname i))] (.bool true)) = true := by kernel_rfl
theorem isZone_c (i : Nat) (hi : i < 3) : BSim Tryz.prog 65 [toAV (sD (zname i))] [] [] (.bool true) := by
  have h := List.all_eq_true.1 isZone_runs i (by simp; omega)
  exact @BSim.closed Cl Tryz.prog hm X1 (@hX1 Cl) [] (fun _ h => by cases h) 65 Tryz.f65 ok65 _ _ (by rfl) 400 h rfl
end Go.Proofs.YtnljmpeaeajcoaaGreatDoor

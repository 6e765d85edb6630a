/- A part of the proof over this seat's program: the checked evaluator and its soundness (E..), and what it gives here (the others). No condition. -/
import Derived.Test.YtnljmpeaeajcoaaGreatDoorT2
namespace Go.Proofs.YtnljmpeaeajcoaaGreatDoor
open Go Go.Eng Go.Vi

/-- a fraction of small numbers, as the package makes it -/
def byteMag (n : Nat) : List UInt8 := if n = 0 then [] else if n < 256 then [UInt8.ofNat n] else [UInt8.ofNat (n / 256), UInt8.ofNat n]
def ratOf (n d : Nat) : Rt := if d = 1 then ⟨false, byteMag n, false, []⟩ else if n % 2 = 0 then ⟨false, byteMag (n / 2), false, []⟩ else ⟨false, byteMag n, false, [2]⟩
def intRt (n : Nat) : Rt := ⟨false, byteMag n, false, []⟩
noncomputable def rtA (r : Rt) : AV := .agg (toAVs (rtD r))

theorem ok61 : FnOk Tryz.prog 61 Tryz.f61 := ⟨Tryz.func61, by kernel_rfl, by kernel_rfl⟩
theorem ok48 : FnOk Tryz.prog 48 Tryz.f48 := ⟨Tryz.func48, by kernel_rfl, by kernel_rfl⟩
noncomputable def fiRun (i : Nat) : Bool := (List.range' i 8).all fun n => [1, 2].all fun d => @closedRun Cl Tryz.prog X0 [] 400 Tryz.f61 [.int .i64 (.ofNat n), .int .i64 (.ofNat d)] (.tuple [rtA (ratOf n d), .int .i64 0])
theorem fi0 : fiRun 0 = true := by kernel_rfl
theorem fi1 : fiRun 8 = true := by kernel_rfl
theorem fi2 : fiRun 16 = true := by kernel_rfl
theorem fi3 : fiRun 24 = true := by kernel_rfl
theorem fi4 : fiRun 32 = true := by kernel_rfl
theorem fi5 : fiRun 40 = true := by kernel_rfl
theorem fi6 : fiRun 48 = true := by kernel_rfl
theorem fi7 : fiRun 56 = true := by kernel_rfl
theorem fromInts (n d : Nat) (hn : n < 64) (hd : d = 1 ∨ d = 2) : BSim Tryz.prog 61 [.int .i64 (.ofNat n), .int .i64 (.ofNat d)] [] [] (.tuple [rtA (ratOf n d), .int .i64 0]) := by
  have key : ∀ i, fiRun i = true → i ≤ n → n < i + 8 → @closedRun Cl Tryz.prog X0 [] 400 Tryz.f61 [.int .i64 (.ofNat n), .int .i64 (.ofNat d)] (.tuple [rtA (ratOf n d), .int .i64 0]) = true := by
    intro i h h1 h2
    exact List.all_eq_true.1 (List.all_eq_true.1 h n (List.mem_range'.2 ⟨n - i, by omega, by omega⟩)) d (by simpa using hd)
  have h : @closedRun Cl Tryz.prog X0 [] 400 Tryz.f61 [.int .i64 (.ofNat n), .int .i64 (.ofNat d)] (.tuple [rtA (ratOf n d), .int .i64 0]) = true := by
    by_cases h0 : n < 8
    · exact key 0 fi0 (by omega) (by omega)
    by_cases h1 : n < 16
    · exact key 8 fi1 (by omega) (by omega)
    by_cases h2 : n < 24
    · exact key 16 fi2 (by omega) (by omega)
    by_cases h3 : n < 32
    · exact key 24 fi3 (by omega) (by omega)
    by_cases h4 : n < 40
    · exact key 32 fi4 (by omega) (by omega)
    by_cases h5 : n < 48
    · exact key 40 fi5 (by omega) (by omega)
    by_cases h6 : n < 56
    · exact key 48 fi6 (by omega) (by omega)
    · exact key 56 fi7 (by omega) (by omega)
  exact @BSim.closed Cl Tryz.prog hm X0 (fun _ _ h => by cases h) [] (fun _ h => by cases h) 61 Tryz.f61 ok61 _ _ (by rfl) 400 h rfl
theorem fromInt_runs : ((List.range 257).all fun n => @closedRun Cl Tryz.prog X0 [] 400 Tryz.f48 [.int .i64 (.ofNat n)] (rtA (intRt n))) = true := by kernel_rfl
theorem fromInt (n : Nat) (hn : n < 257) : BSim Tryz.prog 48 [.int .i64 (.ofNat n)] [] [] (rtA (intRt n)) := by
  have h := List.all_eq_true.1 fromInt_runs n (List.mem_range.2 hn)
  exact @BSim.closed Cl Tryz.prog hm X0 (fun _ _ h => by cases h) [] (fun _ h => by cases h) 48 Tryz.f48 ok48 _ _ (by rfl) 400 h rfl
end Go.Proofs.YtnljmpeaeajcoaaGreatDoor

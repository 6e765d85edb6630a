/- A part of the proof over this seat's program: the checked evaluator and its soundness (E..), and what it gives here (the others). No condition. -/
import Derived.Test.YtnljmpeaeajcoaaGreatDoorE20
import Derived.Test.YtnljmpeaeajcoaaGreatDoorK3
namespace Go.Proofs.YtnljmpeaeajcoaaGreatDoor
open Go Go.Eng Go.RowKit

def tn : List (List UInt8) := [[], [98, 111, 111, 108], [110, 117, 109, 98, 101, 114], [112, 111, 105, 110, 116], [112, 101, 114, 105, 111, 100], [109, 98, 111, 111, 108], [109, 110, 117, 109, 98, 101, 114], [109, 112, 111, 105, 110, 116], [109, 114, 101, 103, 105, 111, 110]]
def nmOf (t : Int) : List UInt8 := if 1 ≤ t ∧ t ≤ 8 then tn.getD t.toNat [] else []
def errOf (t : Int) : Int := if 1 ≤ t ∧ t ≤ 8 then 0 else 4

theorem known_c (w : World) : Calls Tryz.prog 6 #[] w fun e w' => e = .returned (.bool true) ∧ Below w.heap.size w w' :=
  run_true hm hX Tryz.func6 (by kernel_rfl) known_run w

theorem name_of_run {t : Int} {l : List UInt8} {n : Int} (h : run Tryz.prog X 400 7 [.int .i64 t] (fun v _ => is2 (.str l.length (enc l)) (.int .i64 n) v) = true) (w : World) :
    Calls Tryz.prog 7 #[.int .i64 t] w fun e w' => e = .returned (.tuple #[.string ⟨⟨l⟩⟩, .int .i64 n]) ∧ Below w.heap.size w w' := by
  refine (run_any hm hX Tryz.func7 (by kernel_rfl) (cargs := #[.int .i64 t]) (.cons _ _ _ _ (.int _ _) .nil) h w).mono ?_
  rintro e w' ⟨v, M', ρ, cv, rfl, hb, hv, hM⟩
  obtain rfl := is2_sound hb
  obtain ⟨x, y, rfl, h1, h2⟩ := hv.pair_inv
  rw [h1.str_inv, h2.int_inv]
  exact ⟨rfl, hM.below⟩

theorem nr_neg (m : Nat) : run Tryz.prog X 400 7 [.int .i64 (.negSucc m)] (fun v _ => is2 (.str (List.length ([] : List UInt8)) (enc ([] : List UInt8))) (.int .i64 4) v) = true := by kernel_rfl
theorem nr_big (m : Nat) : run Tryz.prog X 400 7 [.int .i64 (.ofNat (m + 9))] (fun v _ => is2 (.str (List.length ([] : List UInt8)) (enc ([] : List UInt8))) (.int .i64 4) v) = true := by kernel_rfl
theorem nr_0 : run Tryz.prog X 400 7 [.int .i64 (.ofNat 0)] (fun v _ => is2 (.str (List.length ([] : List UInt8)) (enc ([] : List UInt8))) (.int .i64 4) v) = true := by kernel_rfl
theorem nr_all : ([1, 2, 3, 4, 5, 6, 7, 8].all fun t => run Tryz.prog X 400 7 [.int .i64 (.ofNat t)] (fun v _ => is2 (.str (tn.getD t []).length (enc (tn.getD t []))) (.int .i64 0) v)) = true := by kernel_rfl

set_option maxRecDepth 10000 in
theorem name_c (t : Int) (w : World) : Calls Tryz.prog 7 #[.int .i64 t] w fun e w' => e = .returned (.tuple #[.string ⟨⟨nmOf t⟩⟩, .int .i64 (errOf t)]) ∧ Below w.heap.size w w' := by
  cases t with
  | negSucc m =>
    have e1 : nmOf (.negSucc m) = [] := if_neg (by omega)
    have e2 : errOf (.negSucc m) = 4 := if_neg (by omega)
    rw [e1, e2]
    exact name_of_run (l := []) (n := 4) (nr_neg m) w
  | ofNat t =>
    by_cases h9 : 9 ≤ t
    · obtain ⟨m, rfl⟩ : ∃ m, t = m + 9 := ⟨t - 9, by omega⟩
      have e1 : nmOf (.ofNat (m + 9)) = [] := if_neg (by simp only [Int.ofNat_eq_natCast]; omega)
      have e2 : errOf (.ofNat (m + 9)) = 4 := if_neg (by simp only [Int.ofNat_eq_natCast]; omega)
      rw [e1, e2]
      exact name_of_run (l := []) (n := 4) (nr_big m) w
    · by_cases h0 : t = 0
      · subst h0
        have e1 : nmOf (.ofNat 0) = [] := if_neg (by decide)
        have e2 : errOf (.ofNat 0) = 4 := if_neg (by decide)
        rw [e1, e2]
        exact name_of_run (l := []) (n := 4) nr_0 w
      · have hin : t ∈ [1, 2, 3, 4, 5, 6, 7, 8] := by
          have : t = 1 ∨ t = 2 ∨ t = 3 ∨ t = 4 ∨ t = 5 ∨ t = 6 ∨ t = 7 ∨ t = 8 := by omega
          simpa using this
        have e1 : nmOf (.ofNat t) = tn.getD t [] := if_pos (by simp only [Int.ofNat_eq_natCast]; omega)
        have e2 : errOf (.ofNat t) = 0 := if_pos (by simp only [Int.ofNat_eq_natCast]; omega)
        rw [e1, e2]
        exact name_of_run (l := tn.getD t []) (n := 0) (List.all_eq_true.1 nr_all t hin) w
end Go.Proofs.YtnljmpeaeajcoaaGreatDoor

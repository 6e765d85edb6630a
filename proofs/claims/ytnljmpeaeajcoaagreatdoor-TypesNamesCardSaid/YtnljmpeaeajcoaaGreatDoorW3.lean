/- A part of the proof over this seat's program: the checked evaluator and its soundness (E..), and what it gives here (the others). No condition. -/
import Derived.Test.YtnljmpeaeajcoaaGreatDoorW2
import Derived.Test.YtnljmpeaeajcoaaGreatDoorRows
import Derived.WalkKit
import Derived.WalkSpells
import Derived.WalkLawsBesides
namespace Go.Proofs.YtnljmpeaeajcoaaGreatDoor
open Go Go.RowKit

theorem moving_c (t : Int) (mb : Bool) (hmb : Hid (mb = decide (5 ≤ t ∧ t ≤ 8))) (w : World) : Calls Tryz.prog 10 #[.int .i64 t] w fun e w' => e = .returned (.bool mb) ∧ w' = w := by
  obtain rfl := hmb.out
  clear hmb
  by_cases h : 5 ≤ t
  · by_cases h2 : t ≤ 8
    · go_enter Tryz.func10, Tryz.ntmps10
      go_wp2
      go_ret
      exact ⟨by simp [*], rfl⟩
    · go_enter Tryz.func10, Tryz.ntmps10
      go_wp2
      go_ret
      exact ⟨by simp [*], rfl⟩
  · go_enter Tryz.func10, Tryz.ntmps10
    go_wp2
    go_ret
    exact ⟨by simp; omega, rfl⟩
theorem isMoving_c (t : Int) (mb : Bool) (hmb : Hid (mb = decide (5 ≤ t ∧ t ≤ 8))) (w : World) : Calls Tryz.prog 11 #[.int .i64 t] w fun e w' => e = .returned (.bool mb) ∧ w' = w := by
  obtain rfl := hmb.out
  clear hmb
  by_cases h : 5 ≤ t
  · by_cases h2 : t ≤ 8
    · go_enter Tryz.func11, Tryz.ntmps11
      go_wp2
      go_ret
      exact ⟨by simp [*], rfl⟩
    · go_enter Tryz.func11, Tryz.ntmps11
      go_wp2
      go_ret
      exact ⟨by simp [*], rfl⟩
  · go_enter Tryz.func11, Tryz.ntmps11
    go_wp2
    go_ret
    exact ⟨by simp; omega, rfl⟩

/-- the type with a name, or 0 -/
def IsFind (l : List UInt8) (k : Nat) : Prop := (k = 0 ∧ ∀ j, 1 ≤ j → j ≤ 8 → tn.getD j [] ≠ l) ∨ (1 ≤ k ∧ k ≤ 8 ∧ tn.getD k [] = l)
theorem tn_inj : ∀ i, 1 ≤ i → i ≤ 8 → ∀ j, 1 ≤ j → j ≤ 8 → tn.getD i [] = tn.getD j [] → i = j := by
  have : ∀ i ∈ [1, 2, 3, 4, 5, 6, 7, 8], ∀ j ∈ [1, 2, 3, 4, 5, 6, 7, 8], tn.getD i [] = tn.getD j [] → i = j := by decide
  intro i h1 h2 j h3 h4
  refine this i ?_ j ?_
  · have : i = 1 ∨ i = 2 ∨ i = 3 ∨ i = 4 ∨ i = 5 ∨ i = 6 ∨ i = 7 ∨ i = 8 := by omega
    simpa using this
  · have : j = 1 ∨ j = 2 ∨ j = 3 ∨ j = 4 ∨ j = 5 ∨ j = 6 ∨ j = 7 ∨ j = 8 := by omega
    simpa using this
theorem IsFind.unique {l : List UInt8} {i j : Nat} (h : IsFind l i) (k : IsFind l j) : i = j := by
  rcases h with ⟨rfl, h⟩ | ⟨h1, h2, h3⟩ <;> rcases k with ⟨rfl, k⟩ | ⟨k1, k2, k3⟩
  · rfl
  · exact absurd k3 (h _ k1 k2)
  · exact absurd h3 (k _ h1 h2)
  · exact tn_inj _ h1 h2 _ k1 k2 (h3.trans k3.symm)

set_option maxHeartbeats 400000 in
theorem find_c (l : List UInt8) (w : World) : Calls Tryz.prog 8 #[.string ⟨⟨l⟩⟩] w fun e w' => ∃ (k : Nat) (fe : Int), Hid (IsFind l k ∧ fe = if k = 0 then 16 else 0) ∧ e = .returned (.tuple #[.int .i64 k, .int .i64 fe]) ∧ Below w.heap.size w w' := by
  go_enter Tryz.func8, Tryz.ntmps8
  go_wp2
  go_loopw [4] (fun v wr => ∃ k : Nat, v = .int .i64 k ∧ Hid (1 ≤ k ∧ k ≤ 9 ∧ ∀ j, 1 ≤ j → j < k → tn.getD j [] ≠ l) ∧ Below w.heap.size w wr) (fun v _ => 9 - (intOf v).toNat)
  case atStart => exact ⟨1, rfl, ⟨by omega, by omega, fun j h1 h2 => by omega⟩, Below.refl _ _⟩
  case round =>
    obtain ⟨k, rfl, H, hb⟩ := hrel
    by_cases hk : k ≤ 8
    · have hnm : nmOf k = tn.getD k [] := if_pos (by have := H.out; omega)
      go_wp2_with (first | (go_at_call 7; refine (name_c _ _).mono ?_; rintro e w' ⟨rfl, hb2⟩))
      · rename_i hh
        have he : tn.getD k [] = l := by simpa using hh
        go_ret2
        have hH := H.out
        exact ⟨k, 0, ⟨.inr ⟨hH.1, hk, he⟩, by rw [if_neg (by omega)]⟩, rfl, hb.trans (hb2.mono hb.size)⟩
      · rename_i hh
        have he : ¬ tn.getD k [] = l := by simpa using hh
        have hH := H.out
        refine ⟨⟨k + 1, by go_num, ⟨by omega, by omega, fun j h1 h2 => ?_⟩, hb.trans (hb2.mono hb.size)⟩, by simp [intOf]; omega⟩
        by_cases hj : j = k
        · subst hj; exact he
        · exact hH.2.2 j h1 (by omega)
    · go_wp2
      go_ret2
      have hH := H.out
      exact ⟨0, 16, ⟨.inl ⟨rfl, fun j h1 h2 => hH.2.2 j h1 (by omega)⟩, rfl⟩, rfl, hb⟩
end Go.Proofs.YtnljmpeaeajcoaaGreatDoor

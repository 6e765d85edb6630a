/- A part of the proof over this seat's program: the checked evaluator and its soundness (E..), and what it gives here (the others). No condition. -/
import Derived.Test.YtnljmpeaeajcoaaGreatDoorW3
namespace Go.Proofs.YtnljmpeaeajcoaaGreatDoor
open Go Go.RowKit

/-- the names in memory -/
def tnCells : Array Value := #[.string ⟨#[]⟩, .string ⟨#[98, 111, 111, 108]⟩, .string ⟨#[110, 117, 109, 98, 101, 114]⟩, .string ⟨#[112, 111, 105, 110, 116]⟩, .string ⟨#[112, 101, 114, 105, 111, 100]⟩, .string ⟨#[109, 98, 111, 111, 108]⟩, .string ⟨#[109, 110, 117, 109, 98, 101, 114]⟩, .string ⟨#[109, 112, 111, 105, 110, 116]⟩, .string ⟨#[109, 114, 101, 103, 105, 111, 110]⟩]
theorem tnCells_get : ∀ k : Nat, k ≤ 8 → tnCells[k]? = some (.string ⟨⟨tn.getD k []⟩⟩) := by
  intro k hk
  have : k = 0 ∨ k = 1 ∨ k = 2 ∨ k = 3 ∨ k = 4 ∨ k = 5 ∨ k = 6 ∨ k = 7 ∨ k = 8 := by omega
  rcases this with rfl | rfl | rfl | rfl | rfl | rfl | rfl | rfl | rfl <;> rfl
theorem names_c (w : World) : Calls Tryz.prog 9 #[] w fun e w' => ∃ B, e = .returned (.slice (some ⟨B, 0, none⟩) 9 9) ∧ (∀ k : Nat, k ≤ 8 → w'.cell? ⟨B, k, none⟩ = some (.string ⟨⟨tn.getD k []⟩⟩)) ∧ Below w.heap.size w w' := by
  go_enter Tryz.func9, Tryz.ntmps9
  go_wp2
  go_ret
  refine ⟨_, rfl, fun k hk => ?_, (Below.refl _ _).alloc (Nat.le_refl _) _⟩
  have : k = 0 ∨ k = 1 ∨ k = 2 ∨ k = 3 ∨ k = 4 ∨ k = 5 ∨ k = 6 ∨ k = 7 ∨ k = 8 := by omega
  rcases this with rfl | rfl | rfl | rfl | rfl | rfl | rfl | rfl | rfl <;> simp [tn]

set_option maxHeartbeats 1000000 in
theorem law_c (t : Int) (l : List UInt8) (w : World) : Calls Tryz.prog 3 #[.int .i64 t, .string ⟨⟨l⟩⟩] w fun e w' => e = .returned (.bool true) ∧ Below w.heap.size w w' := by
  by_cases h20 : l.length ≤ 20
  · go_enter Tryz.func3, Tryz.ntmps3
    go_wp2_with (first | (go_at_call 6; refine (known_c _).mono ?_; rintro e w1 ⟨rfl, hb1⟩) | (go_at_call 7; refine (name_c _ _).mono ?_; rintro e w2 ⟨rfl, hb2⟩) | (go_at_call 8; refine (find_c _ _).mono ?_; rintro e w3 ⟨k, fe, HK, rfl, hb3⟩))
    have hB : Below w.heap.size w w3 := hb1.trans ((hb2.mono hb1.size).trans (hb3.mono (Nat.le_trans hb1.size hb2.size)))
    clear hb1 hb2 hb3
    go_loopw [9, 10] (fun v9 v10 wr => ∃ q j : Nat, v9 = .int .i64 q ∧ v10 = .int .i64 j ∧ Hid (1 ≤ j ∧ j ≤ 9 ∧ ((q = 0 ∧ ∀ i, 1 ≤ i → i < j → tn.getD i [] ≠ l) ∨ (1 ≤ q ∧ q < j ∧ tn.getD q [] = l))) ∧ Below w.heap.size w wr) (fun _ v10 _ => 9 - (intOf v10).toNat)
    case atStart => exact ⟨0, 1, rfl, rfl, ⟨by omega, by omega, .inl ⟨rfl, fun i h1 h2 => by omega⟩⟩, hB⟩
    case round =>
      obtain ⟨q, j, rfl, rfl, H, hb⟩ := hrel
      by_cases hj : j ≤ 8
      · go_wp2_with (first | (go_at_call 9; refine (names_c _).mono ?_; rintro e w4 ⟨B, rfl, hc0, hb4⟩; have hc := hc0 j hj; clear hc0))
        · rename_i hh
          have he : tn.getD j [] = l := by simpa using hh
          have hH := H.out
          exact ⟨⟨j, j + 1, rfl, by go_num, ⟨by omega, by omega, .inr ⟨hH.1, by omega, he⟩⟩, hb.trans (hb4.mono hb.size)⟩, by simp [intOf]; omega⟩
        · rename_i hh
          have he : ¬ tn.getD j [] = l := by simpa using hh
          have hH := H.out
          refine ⟨⟨q, j + 1, rfl, by go_num, ⟨by omega, by omega, ?_⟩, hb.trans (hb4.mono hb.size)⟩, by simp [intOf]; omega⟩
          rcases hH.2.2 with ⟨h1, h2⟩ | ⟨h1, h2, h3⟩
          · refine .inl ⟨h1, fun i hi1 hi2 => ?_⟩
            by_cases hji : i = j
            · subst hji; exact he
            · exact h2 i hi1 (by omega)
          · exact .inr ⟨h1, by omega, h3⟩
      · have hq : IsFind l q := by
          have hH := H.out
          rcases hH.2.2 with ⟨h1, h2⟩ | ⟨h1, h2, h3⟩
          · exact .inl ⟨h1, fun i hi1 hi2 => h2 i hi1 (by omega)⟩
          · exact .inr ⟨h1, by omega, h3⟩
        obtain rfl : q = k := hq.unique HK.out.1
        clear hq H
        obtain ⟨mb, hmb⟩ : ∃ mb, Hid (mb = decide (5 ≤ t ∧ t ≤ 8)) := ⟨_, rfl⟩
        have hqf : Hid ((fe = 0 ∧ 0 < q) ∨ (fe = 16 ∧ q = 0)) := by
          by_cases h : q = 0
          · exact .inr ⟨by rw [HK.out.2, if_pos h], h⟩
          · exact .inl ⟨by rw [HK.out.2, if_neg h], by omega⟩
        clear HK
        by_cases ht : 1 ≤ t ∧ t ≤ 8
        · obtain ⟨m, rfl⟩ : ∃ m : Nat, t = m := ⟨t.toNat, by omega⟩
          have en : nmOf m = tn.getD m [] := if_pos ht
          have ee : errOf m = 0 := if_pos ht
          obtain ⟨ht1, ht2⟩ := ht
          have hm8 : m ≤ 8 := by omega
          rcases hqf.out with ⟨rfl, hq0⟩ | ⟨rfl, rfl⟩
          all_goals
            clear hqf
            go_wp2_with (first | (go_at_call 9; refine (names_c _).mono ?_; rintro e w4 ⟨B, rfl, hc0, hb4⟩; have hc := hc0 m hm8; clear hc0) | (go_at_call 10; refine (moving_c _ mb hmb _).mono ?_; rintro e w5 ⟨rfl, rfl⟩) | (go_at_call 11; refine (isMoving_c _ mb hmb _).mono ?_; rintro e w5 ⟨rfl, rfl⟩))
            go_ret
            exact ⟨by simp, hb.trans (hb4.mono hb.size)⟩
        · have en : nmOf t = [] := if_neg ht
          have ee : errOf t = 4 := if_neg ht
          rcases hqf.out with ⟨rfl, hq0⟩ | ⟨rfl, rfl⟩
          all_goals
            clear hqf
            rcases (by omega : t < 1 ∨ 8 < t) with h1 | h1
          all_goals
            go_wp2_with (first | (go_at_call 9; refine (names_c _).mono ?_; rintro e w4 ⟨B, rfl, hc0, hb4⟩; clear hc0) | (go_at_call 10; refine (moving_c _ mb hmb _).mono ?_; rintro e w5 ⟨rfl, rfl⟩) | (go_at_call 11; refine (isMoving_c _ mb hmb _).mono ?_; rintro e w5 ⟨rfl, rfl⟩))
            go_ret
            exact ⟨by simp, hb⟩
  · go_enter Tryz.func3, Tryz.ntmps3
    go_wp2_with (first | (go_at_call 6; refine (known_c _).mono ?_; rintro e w1 ⟨rfl, hb1⟩))
    go_ret
    have h0 : ∃ x, Below w.heap.size w x ∧ Below x.heap.size x w1 := ⟨_, by assumption, hb1⟩
    obtain ⟨x, h1, h2⟩ := h0
    exact ⟨rfl, h1.trans (h2.mono h1.size)⟩
end Go.Proofs.YtnljmpeaeajcoaaGreatDoor

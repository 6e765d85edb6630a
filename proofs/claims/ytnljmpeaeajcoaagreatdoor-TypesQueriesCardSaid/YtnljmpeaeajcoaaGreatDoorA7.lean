/- A part of the proof over this seat's program: the checked evaluator and its soundness, and what it gives here. No condition. -/
import Derived.Test.YtnljmpeaeajcoaaGreatDoorA5

set_option linter.all false

/-! the estimate of one digit of a quotient -/
namespace Go.Knuth
variable {B : Nat}
/-- the loop that lowers the guess -/
def adj (B v y2 u2 : Nat) : Nat → Nat → Nat → Nat
  | 0, g, _ => g
  | f + 1, g, r => if B ≤ g ∨ r * B + u2 < g * y2 then (if B ≤ r + v then g - 1 else adj B v y2 u2 f (g - 1) (r + v)) else g

structure Est (B v y2 u2 high P yl ul : Nat) : Prop where
  hv : B ≤ 2 * v
  hB2 : 2 < B
  hvB : v < B
  hy2 : y2 < B
  hu2 : u2 < B
  hyl : yl < P
  hul : ul < P
  hP : 0 < P
  hU : (high * B + u2) * P + ul < ((v * B + y2) * P + yl) * B
  hh : high < (v + 1) * B
variable {v y2 u2 high P yl ul : Nat}
theorem Est.q_lt (h : Est B v y2 u2 high P yl ul) {q : Nat} (hq : q * ((v * B + y2) * P + yl) ≤ (high * B + u2) * P + ul) : q < B := by
  apply Nat.lt_of_not_le
  intro hB
  have h1 := Nat.mul_le_mul_right ((v * B + y2) * P + yl) hB
  have h2 := h.hU
  rw [Nat.mul_comm ((v * B + y2) * P + yl) B] at h2
  omega
/-- what is asked of the guess only by its two highest digits -/
theorem Est.gt (h : Est B v y2 u2 high P yl ul) {q g r : Nat} (hq : q * ((v * B + y2) * P + yl) ≤ (high * B + u2) * P + ul) (hg : g * v + r = high) (hc : B ≤ g ∨ r * B + u2 < g * y2) : q < g := by
  rcases hc with hc | hc
  · exact Nat.lt_of_lt_of_le (h.q_lt hq) hc
  · apply Nat.lt_of_not_le
    intro hle
    have e1 : high * B + u2 < g * (v * B + y2) := by
      have e0 : high * B = g * v * B + r * B := by rw [← hg, Nat.add_mul]
      rw [Nat.mul_add, ← Nat.mul_assoc]
      omega
    have e2 : (high * B + u2 + 1) * P ≤ g * (v * B + y2) * P := Nat.mul_le_mul_right P e1
    have e3 : (high * B + u2 + 1) * P = (high * B + u2) * P + P := by rw [Nat.add_mul, Nat.one_mul]
    have e4 : g * ((v * B + y2) * P + yl) ≤ q * ((v * B + y2) * P + yl) := Nat.mul_le_mul_right _ hle
    have e5 : g * ((v * B + y2) * P + yl) = g * (v * B + y2) * P + g * yl := by rw [Nat.mul_add, Nat.mul_assoc]
    have := h.hul
    omega
theorem Est.init (h : Est B v y2 u2 high P yl ul) {q : Nat} (hq : q * ((v * B + y2) * P + yl) ≤ (high * B + u2) * P + ul) : q ≤ high / v := by
  have hv0 : 0 < v := by have := h.hv; have := h.hB2; omega
  rw [Nat.le_div_iff_mul_le hv0]
  apply Nat.le_of_lt_succ
  apply Nat.lt_of_not_le
  intro hle
  have e1 : (high + 1) * (B * P) ≤ q * v * (B * P) := Nat.mul_le_mul_right _ hle
  have e2 : q * ((v * B + y2) * P + yl) = q * v * (B * P) + q * (y2 * P) + q * yl := by
    simp only [Nat.mul_add, Nat.add_mul, Nat.mul_assoc]
  have e3 : (high + 1) * (B * P) = high * B * P + B * P := by rw [Nat.add_mul, Nat.one_mul, Nat.mul_assoc]
  have e4 : (high * B + u2) * P = high * B * P + u2 * P := by rw [Nat.add_mul]
  have e5 : (u2 + 1) * P ≤ B * P := Nat.mul_le_mul_right _ h.hu2
  have e6 : (u2 + 1) * P = u2 * P + P := by rw [Nat.add_mul, Nat.one_mul]
  have := h.hul
  omega
theorem Est.le (h : Est B v y2 u2 high P yl ul) {q g r : Nat} (hq : (high * B + u2) * P + ul < (q + 1) * ((v * B + y2) * P + yl)) (hg : g * v + r = high) (hB : g < B) (hc : g * y2 ≤ r * B + u2) : g ≤ q + 1 := by
  apply Nat.le_of_not_lt
  intro hlt
  obtain ⟨k, rfl⟩ : ∃ k, g = k + 1 := ⟨g - 1, by omega⟩
  have hk : q + 1 ≤ k := by omega
  have e1 : (k + 1) * (v * B + y2) ≤ high * B + u2 := by
    have : high * B = (k + 1) * v * B + r * B := by rw [← hg, Nat.add_mul]
    rw [Nat.mul_add, ← Nat.mul_assoc]
    omega
  have e2 : (q + 1) * ((v * B + y2) * P + yl) ≤ k * ((v * B + y2) * P + yl) := Nat.mul_le_mul_right _ hk
  have e3 : k * ((v * B + y2) * P + yl) ≤ k * ((v * B + y2) * P + P) := Nat.mul_le_mul_left _ (Nat.add_le_add_left (Nat.le_of_lt h.hyl) _)
  have e4 : (k + 1) * (v * B + y2) * P ≤ (high * B + u2) * P := Nat.mul_le_mul_right _ e1
  have e5 : k * ((v * B + y2) * P + P) = (k * (v * B + y2) + k) * P := by
    rw [Nat.mul_add k, Nat.add_mul (k * (v * B + y2)) k P, Nat.mul_assoc]
  have e6 : (k + 1) * (v * B + y2) * P < (k * (v * B + y2) + k) * P := by omega
  have e7 : (k + 1) * (v * B + y2) < k * (v * B + y2) + k := Nat.lt_of_mul_lt_mul_right e6
  have e8 : (k + 1) * (v * B + y2) = k * (v * B + y2) + (v * B + y2) := by rw [Nat.add_mul, Nat.one_mul]
  have e9 : 1 * B ≤ v * B := Nat.mul_le_mul_right _ (by have := h.hv; have := h.hB2; omega)
  omega

/-- THE ESTIMATE: at most one too great -/
theorem Est.adj (h : Est B v y2 u2 high P yl ul) {q : Nat} (hq1 : q * ((v * B + y2) * P + yl) ≤ (high * B + u2) * P + ul) (hq2 : (high * B + u2) * P + ul < (q + 1) * ((v * B + y2) * P + yl)) :
    ∀ (f g r : Nat), g * v + r = high → q ≤ g → r < B → B ≤ r + f * v → 0 < f → q ≤ adj B v y2 u2 f g r ∧ adj B v y2 u2 f g r ≤ q + 1 ∧ adj B v y2 u2 f g r < B := by
  have hv := h.hv
  intro f
  induction f with
  | zero => intro g r _ _ _ _ h0; omega
  | succ f ih =>
    intro g r hg hle hr hf _
    unfold Knuth.adj
    by_cases hc : B ≤ g ∨ r * B + u2 < g * y2
    · rw [if_pos hc]
      have hlt := h.gt hq1 hg hc
      obtain ⟨k, rfl⟩ : ∃ k, g = k + 1 := ⟨g - 1, by omega⟩
      have hg' : k * v + (r + v) = high := by rw [← hg, Nat.add_mul]; omega
      rw [Nat.add_sub_cancel]
      by_cases hb : B ≤ r + v
      · rw [if_pos hb]
        have hkB : k < B := by
          apply Nat.lt_of_not_le
          intro hBk
          have e1 : B * v ≤ k * v := Nat.mul_le_mul_right _ hBk
          have e2 := h.hh
          rw [Nat.add_mul, Nat.one_mul, Nat.mul_comm v B] at e2
          omega
        refine ⟨by omega, h.le hq2 hg' hkB ?_, hkB⟩
        have e1 : k * y2 ≤ k * B := Nat.mul_le_mul_left _ (Nat.le_of_lt h.hy2)
        have e2 : k * B ≤ (r + v) * B := Nat.mul_le_mul_right _ (by omega)
        omega
      · rw [if_neg hb]
        have hf' : B ≤ r + v + f * v := by rw [Nat.add_mul, Nat.one_mul] at hf; omega
        refine ih k (r + v) hg' (by omega) (by omega) hf' ?_
        apply Nat.pos_of_ne_zero
        rintro rfl
        omega
    · rw [if_neg hc]
      have hc1 : ¬ B ≤ g := fun e => hc (.inl e)
      have hc2 : ¬ r * B + u2 < g * y2 := fun e => hc (.inr e)
      exact ⟨hle, h.le hq2 hg (by omega) (by omega), by omega⟩
theorem Est.guess (h : Est B v y2 u2 high P yl ul) {q : Nat} (hq1 : q * ((v * B + y2) * P + yl) ≤ (high * B + u2) * P + ul) (hq2 : (high * B + u2) * P + ul < (q + 1) * ((v * B + y2) * P + yl)) :
    q ≤ Knuth.adj B v y2 u2 2 (high / v) (high % v) ∧ Knuth.adj B v y2 u2 2 (high / v) (high % v) ≤ q + 1 ∧ Knuth.adj B v y2 u2 2 (high / v) (high % v) < B := by
  have hv := h.hv
  have hv0 : 0 < v := by have := h.hB2; omega
  have hm := Nat.mod_lt high hv0
  have hd := Nat.div_add_mod high v
  refine h.adj hq1 hq2 2 _ _ (by rw [Nat.mul_comm]; exact hd) (h.init hq1) (Nat.lt_trans hm h.hvB) (by omega) (by decide)
end Go.Knuth

/-! one step of a long division, digit by digit (the lowest first) -/
namespace Go.Knuth
variable {B : Nat}
def val (B : Nat) : List Nat → Nat
  | [] => 0
  | d :: l => d + B * val B l
/-- x - g * y, digit by digit: the digits, what was borrowed, what is carried -/
def mulsub (B g : Nat) : List Nat → List Nat → Nat → Nat → List Nat × Nat × Nat
  | x :: xs, y :: ys, b, c =>
    let t := b + (c + g * y) % B
    let d := if x < t then x + B - t else x - t
    let r := mulsub B g xs ys (if x < t then 1 else 0) ((c + g * y) / B)
    (d :: r.1, r.2)
  | _, _, b, c => ([], b, c)
theorem mulsub_len (g : Nat) : ∀ (xs ys : List Nat) (b c : Nat), xs.length = ys.length → (mulsub B g xs ys b c).1.length = xs.length
  | [], [], _, _, _ => rfl
  | x :: xs, y :: ys, b, c, h => by
    simp only [mulsub, List.length_cons]
    rw [mulsub_len g xs ys _ _ (by simpa using h)]
theorem mulsub_val (hB : 0 < B) (g : Nat) : ∀ (xs ys : List Nat) (b c : Nat), xs.length = ys.length → (∀ x ∈ xs, x < B) → b ≤ 1 →
    val B (mulsub B g xs ys b c).1 + g * val B ys + b + c = val B xs + B ^ xs.length * ((mulsub B g xs ys b c).2.1 + (mulsub B g xs ys b c).2.2)
      ∧ (mulsub B g xs ys b c).2.1 ≤ 1 ∧ ∀ d ∈ (mulsub B g xs ys b c).1, d < B
  | [], [], b, c, _, _, hb => by simp [mulsub, val, hb]
  | x :: xs, y :: ys, b, c, h, hx, hb => by
    have hx0 : x < B := hx x (List.mem_cons_self ..)
    have hm := Nat.mod_lt (c + g * y) hB
    have hd := Nat.div_add_mod (c + g * y) B
    obtain ⟨i1, i2, i3⟩ := mulsub_val hB g xs ys (if x < b + (c + g * y) % B then 1 else 0) ((c + g * y) / B) (by simpa using h) (fun z hz => hx z (List.mem_cons_of_mem _ hz)) (by split <;> omega)
    simp only [mulsub, val, List.length_cons]
    generalize hr : mulsub B g xs ys (if x < b + (c + g * y) % B then 1 else 0) ((c + g * y) / B) = r at i1 i2 i3 ⊢
    refine ⟨?_, i2, ?_⟩
    · have e1 : B * (val B r.1 + g * val B ys + (if x < b + (c + g * y) % B then 1 else 0) + (c + g * y) / B) = B * (val B xs + B ^ xs.length * (r.2.1 + r.2.2)) := by rw [i1]
      have e2 : B ^ (xs.length + 1) * (r.2.1 + r.2.2) = B * (B ^ xs.length * (r.2.1 + r.2.2)) := by rw [Nat.pow_succ, Nat.mul_comm (B ^ xs.length) B, Nat.mul_assoc]
      have e3 : g * (y + B * val B ys) = g * y + B * (g * val B ys) := by rw [Nat.mul_add, Nat.mul_left_comm]
      rw [e2, e3]
      simp only [Nat.mul_add] at e1 ⊢
      by_cases hlt : x < b + (c + g * y) % B
      · simp only [if_pos hlt] at e1 ⊢
        omega
      · simp only [if_neg hlt] at e1 ⊢
        omega
    · intro d hd'
      rcases List.mem_cons.1 hd' with rfl | hd'
      · split <;> omega
      · exact i3 d hd'
/-- x + y, digit by digit -/
def addb (B : Nat) : List Nat → List Nat → Nat → List Nat × Nat
  | x :: xs, y :: ys, s =>
    let r := addb B xs ys ((s + (x + y)) / B)
    ((s + (x + y)) % B :: r.1, r.2)
  | _, _, s => ([], s)
theorem addb_val (hB : 0 < B) : ∀ (xs ys : List Nat) (s : Nat), xs.length = ys.length →
    val B (addb B xs ys s).1 + B ^ xs.length * (addb B xs ys s).2 = val B xs + val B ys + s ∧ (addb B xs ys s).1.length = xs.length ∧ ∀ d ∈ (addb B xs ys s).1, d < B
  | [], [], s, _ => by simp [addb, val]
  | x :: xs, y :: ys, s, h => by
    have hm := Nat.mod_lt (s + (x + y)) hB
    have hd := Nat.div_add_mod (s + (x + y)) B
    obtain ⟨i1, i2, i3⟩ := addb_val hB xs ys ((s + (x + y)) / B) (by simpa using h)
    simp only [addb, val, List.length_cons]
    generalize addb B xs ys ((s + (x + y)) / B) = r at i1 i2 i3 ⊢
    refine ⟨?_, by simp [i2], ?_⟩
    · have e1 : B * (val B r.1 + B ^ xs.length * r.2) = B * (val B xs + val B ys + (s + (x + y)) / B) := by rw [i1]
      have e2 : B ^ (xs.length + 1) * r.2 = B * (B ^ xs.length * r.2) := by rw [Nat.pow_succ, Nat.mul_comm (B ^ xs.length) B, Nat.mul_assoc]
      rw [e2]
      simp only [Nat.mul_add] at e1 ⊢
      omega
    · intro d hd'
      rcases List.mem_cons.1 hd' with rfl | hd'
      · exact hm
      · exact i3 d hd'
theorem val_lt (hB : 0 < B) : ∀ (xs : List Nat), (∀ x ∈ xs, x < B) → val B xs < B ^ xs.length
  | [], _ => by simp [val]
  | x :: xs, h => by
    have h1 := val_lt hB xs fun z hz => h z (List.mem_cons_of_mem _ hz)
    have h2 := h x (List.mem_cons_self ..)
    simp only [val, List.length_cons, Nat.pow_succ]
    rw [Nat.mul_comm (B ^ xs.length) B]
    have : B * (val B xs + 1) ≤ B * B ^ xs.length := Nat.mul_le_mul_left _ h1
    rw [Nat.mul_add] at this
    omega
/-- one step: the window (its digits below the top one, and the top one) after the guess is taken off, and put back if it was too great -/
def stepW (B g : Nat) (xs ys : List Nat) (top : Nat) : List Nat :=
  let r := mulsub B g xs ys 0 0
  if top < r.2.1 + r.2.2 then (addb B r.1 ys 0).1 else r.1
/-- THE STEP's LAW: what is left is the remainder -/
theorem step_val (hB : 0 < B) {g q top : Nat} {xs ys : List Nat} (hl : xs.length = ys.length) (hx : ∀ x ∈ xs, x < B) (hY : val B ys < B ^ ys.length)
    (hq1 : q * val B ys ≤ val B xs + B ^ xs.length * top) (hq2 : val B xs + B ^ xs.length * top < (q + 1) * val B ys) (hg1 : q ≤ g) (hg2 : g ≤ q + 1) :
    val B (stepW B g xs ys top) + q * val B ys = val B xs + B ^ xs.length * top ∧ (stepW B g xs ys top).length = xs.length ∧ ∀ d ∈ stepW B g xs ys top, d < B := by
  obtain ⟨m1, m2, m3⟩ := mulsub_val hB g xs ys 0 0 hl hx (by omega)
  have ml := mulsub_len (B := B) g xs ys 0 0 hl
  unfold stepW
  generalize mulsub B g xs ys 0 0 = r at m1 m2 m3 ml ⊢
  simp only [Nat.add_zero] at m1
  have hr := val_lt hB r.1 m3
  rw [ml] at hr
  obtain ⟨a1, a2, a3⟩ := addb_val hB r.1 ys 0 (by rw [ml, hl])
  rw [ml] at a1 a2
  generalize hN : B ^ xs.length = N at *
  have hY' : val B ys < N := by rw [← hN, hl]; exact hY
  have hs := val_lt hB (addb B r.1 ys 0).1 a3
  rw [a2, hN] at hs
  rw [Nat.add_mul, Nat.one_mul] at hq2
  rcases (by omega : g = q ∨ g = q + 1) with rfl | rfl
  · -- the guess is right
    by_cases hc : top < r.2.1 + r.2.2
    · exfalso
      have : N * (top + 1) ≤ N * (r.2.1 + r.2.2) := Nat.mul_le_mul_left _ hc
      rw [Nat.mul_add] at this
      omega
    · rw [if_neg hc]
      have hle : r.2.1 + r.2.2 = top := by
        apply Nat.le_antisymm (by omega)
        apply Nat.le_of_not_lt
        intro hlt
        have : N * (r.2.1 + r.2.2 + 1) ≤ N * top := Nat.mul_le_mul_left _ hlt
        rw [Nat.mul_add N _ 1] at this
        omega
      rw [hle] at m1
      exact ⟨by omega, ml, m3⟩
  · -- one too great
    rw [Nat.add_mul, Nat.one_mul] at m1
    have hc : top < r.2.1 + r.2.2 := by
      apply Nat.lt_of_not_le
      intro hle
      have : N * (r.2.1 + r.2.2) ≤ N * top := Nat.mul_le_mul_left _ hle
      omega
    rw [if_pos hc]
    have hle : r.2.1 + r.2.2 = top + 1 := by
      apply Nat.le_antisymm _ hc
      apply Nat.le_of_not_lt
      intro hlt
      have : N * (top + 1 + 1) ≤ N * (r.2.1 + r.2.2) := Nat.mul_le_mul_left _ hlt
      rw [Nat.mul_add, Nat.mul_add] at this
      omega
    rw [hle, Nat.mul_add] at m1
    have hsum : (addb B r.1 ys 0).2 = 1 := by
      have h1 : ¬ (addb B r.1 ys 0).2 = 0 := by
        intro e
        rw [e] at a1
        omega
      have h2 : ¬ 2 ≤ (addb B r.1 ys 0).2 := by
        intro e
        have : N * 2 ≤ N * (addb B r.1 ys 0).2 := Nat.mul_le_mul_left _ e
        omega
      omega
    rw [hsum] at a1
    exact ⟨by omega, a2, a3⟩
end Go.Knuth

/-! all steps of a long division: what is left is less than the divisor -/
namespace Go.Knuth
variable {B : Nat}
theorem val_append (xs ys : List Nat) : val B (xs ++ ys) = val B xs + B ^ xs.length * val B ys := by
  induction xs with
  | nil => simp [val]
  | cons x xs ih =>
    rw [List.cons_append, val, val, ih, List.length_cons, Nat.pow_succ, Nat.mul_add, Nat.mul_comm (B ^ xs.length) B, Nat.mul_assoc]
    omega
/-- the guess for a window: its digits below the top one, and the top one -/
theorem window_guess (hB2 : 2 < B) {ys lo xs3 : List Nat} {v y2 u0 u1 u2 : Nat} (hy : ys = lo ++ [y2, v]) (hlo : lo.length = xs3.length) (hv : B ≤ 2 * v) (hvB : v < B) (hy2 : y2 < B) (hu2 : u2 < B) (_hu1 : u1 < B)
    (hlo' : ∀ d ∈ lo, d < B) (hx' : ∀ d ∈ xs3, d < B) (hU : val B (xs3 ++ [u2, u1]) + B ^ ys.length * u0 < val B ys * B) {q : Nat}
    (hq1 : q * val B ys ≤ val B (xs3 ++ [u2, u1]) + B ^ ys.length * u0) (hq2 : val B (xs3 ++ [u2, u1]) + B ^ ys.length * u0 < (q + 1) * val B ys) :
    let g := adj B v y2 u2 2 ((u0 * B + u1) / v) ((u0 * B + u1) % v)
    q ≤ g ∧ g ≤ q + 1 ∧ g < B := by
  have hP : 0 < B ^ lo.length := Nat.pow_pos (by omega)
  have e1 : val B ys = (v * B + y2) * B ^ lo.length + val B lo := by
    rw [hy, val_append]
    simp only [val, Nat.mul_zero, Nat.add_zero]
    rw [Nat.mul_comm v B, Nat.add_comm (B * v) y2, Nat.mul_comm (y2 + B * v), Nat.add_comm]
  have e2 : val B (xs3 ++ [u2, u1]) + B ^ ys.length * u0 = ((u0 * B + u1) * B + u2) * B ^ lo.length + val B xs3 := by
    rw [val_append, hy, List.length_append, ← hlo]
    simp only [val, Nat.mul_zero, Nat.add_zero, List.length_cons, List.length_nil]
    have h0 : B ^ (lo.length + (0 + 1 + 1)) * u0 = B ^ lo.length * (B * (B * u0)) := by
      rw [Nat.pow_add, show (0 + 1 + 1) = 2 from rfl, Nat.pow_two, Nat.mul_assoc, Nat.mul_assoc]
    have h1 : (u0 * B + u1) * B + u2 = u2 + B * u1 + B * (B * u0) := by
      rw [Nat.add_mul, Nat.mul_comm (u0 * B) B, Nat.mul_comm u0 B, Nat.mul_comm u1 B]; omega
    rw [h0, h1, Nat.mul_comm _ (B ^ lo.length), Nat.mul_add (B ^ lo.length) (u2 + B * u1)]
    omega
  rw [e1, e2] at hU hq1 hq2
  have h : Est B v y2 u2 (u0 * B + u1) (B ^ lo.length) (val B lo) (val B xs3) := by
    refine ⟨hv, hB2, hvB, hy2, hu2, val_lt (by omega) lo hlo', by rw [hlo]; exact val_lt (by omega) xs3 hx', hP, hU, ?_⟩
    apply Nat.lt_of_not_le
    intro hle
    have f1 : (v + 1) * B * B * B ^ lo.length ≤ (u0 * B + u1) * B * B ^ lo.length := Nat.mul_le_mul_right _ (Nat.mul_le_mul_right _ hle)
    have f2 : (y2 + 1) * B ^ lo.length ≤ B * B ^ lo.length := Nat.mul_le_mul_right _ hy2
    have f3 := val_lt (by omega) lo hlo'
    have f4 : ((v * B + y2) * B ^ lo.length + val B lo) < (v + 1) * B * B ^ lo.length := by
      rw [Nat.add_mul, Nat.one_mul] at f2
      rw [Nat.add_mul v 1 B, Nat.one_mul, Nat.add_mul (v * B) B, Nat.add_mul (v * B) y2]
      omega
    have f5 := Nat.mul_le_mul_right B (Nat.le_of_lt f4)
    have f6 : (v + 1) * B * B ^ lo.length * B = (v + 1) * B * B * B ^ lo.length := by rw [Nat.mul_assoc _ (B ^ lo.length) B, Nat.mul_comm (B ^ lo.length) B, ← Nat.mul_assoc]
    have f7 : ((u0 * B + u1) * B + u2) * B ^ lo.length = (u0 * B + u1) * B * B ^ lo.length + u2 * B ^ lo.length := Nat.add_mul ..
    omega
  exact h.guess hq1 hq2
/-- ONE STEP: what is left of the window is its remainder -/
theorem window_step (hB2 : 2 < B) {ys lo xs3 : List Nat} {v y2 u0 u1 u2 : Nat} (hy : ys = lo ++ [y2, v]) (hlo : lo.length = xs3.length) (hv : B ≤ 2 * v) (hvB : v < B) (hy2 : y2 < B) (hu2 : u2 < B) (hu1 : u1 < B)
    (hlo' : ∀ d ∈ lo, d < B) (hx' : ∀ d ∈ xs3, d < B) (hU : val B (xs3 ++ [u2, u1]) + B ^ ys.length * u0 < val B ys * B) :
    let g := adj B v y2 u2 2 ((u0 * B + u1) / v) ((u0 * B + u1) % v)
    g < B ∧ val B (stepW B g (xs3 ++ [u2, u1]) ys u0) < val B ys ∧ (stepW B g (xs3 ++ [u2, u1]) ys u0).length = ys.length ∧ ∀ d ∈ stepW B g (xs3 ++ [u2, u1]) ys u0, d < B := by
  intro g
  have hY : 0 < val B ys := by
    rcases Nat.eq_zero_or_pos (val B ys) with h | h
    · rw [h, Nat.zero_mul] at hU; omega
    · exact h
  have hl : (xs3 ++ [u2, u1]).length = ys.length := by rw [hy]; simp [hlo]
  have hd := Nat.div_add_mod (val B (xs3 ++ [u2, u1]) + B ^ ys.length * u0) (val B ys)
  have hm := Nat.mod_lt (val B (xs3 ++ [u2, u1]) + B ^ ys.length * u0) hY
  generalize hq : (val B (xs3 ++ [u2, u1]) + B ^ ys.length * u0) / val B ys = q at hd
  rw [Nat.mul_comm] at hd
  have hq1 : q * val B ys ≤ val B (xs3 ++ [u2, u1]) + B ^ ys.length * u0 := by omega
  have hq2 : val B (xs3 ++ [u2, u1]) + B ^ ys.length * u0 < (q + 1) * val B ys := by rw [Nat.add_mul, Nat.one_mul]; omega
  obtain ⟨g1, g2, g3⟩ := window_guess hB2 hy hlo hv hvB hy2 hu2 hu1 hlo' hx' hU hq1 hq2
  have hyd : ∀ d ∈ ys, d < B := by
    intro d hd'
    rw [hy, List.mem_append] at hd'
    rcases hd' with h | h
    · exact hlo' d h
    · simp only [List.mem_cons, List.not_mem_nil, or_false] at h
      rcases h with rfl | rfl <;> assumption
  have hxd : ∀ d ∈ xs3 ++ [u2, u1], d < B := by
    intro d hd'
    rw [List.mem_append] at hd'
    rcases hd' with h | h
    · exact hx' d h
    · simp only [List.mem_cons, List.not_mem_nil, or_false] at h
      rcases h with rfl | rfl <;> assumption
  obtain ⟨s1, s2, s3⟩ := step_val (top := u0) (by omega) hl hxd (val_lt (by omega) ys hyd) (by rw [hl]; exact hq1) (by rw [hl]; exact hq2) g1 g2
  rw [hl] at s1
  refine ⟨g3, ?_, s2.trans hl, s3⟩
  show val B (stepW B (adj B v y2 u2 2 ((u0 * B + u1) / v) ((u0 * B + u1) % v)) (xs3 ++ [u2, u1]) ys u0) < val B ys
  omega
end Go.Knuth

namespace Go.Knuth
variable {B : Nat}
/-- what comes of the digit above the window -/
theorem step_top (hB : 0 < B) {g q top : Nat} {xs ys : List Nat} (hl : xs.length = ys.length) (hx : ∀ x ∈ xs, x < B) (hY : val B ys < B ^ ys.length)
    (hq1 : q * val B ys ≤ val B xs + B ^ xs.length * top) (hq2 : val B xs + B ^ xs.length * top < (q + 1) * val B ys) (hg1 : q ≤ g) (hg2 : g ≤ q + 1) :
    (¬ top < (mulsub B g xs ys 0 0).2.1 + (mulsub B g xs ys 0 0).2.2 → (mulsub B g xs ys 0 0).2.1 + (mulsub B g xs ys 0 0).2.2 = top) ∧
      (top < (mulsub B g xs ys 0 0).2.1 + (mulsub B g xs ys 0 0).2.2 → (mulsub B g xs ys 0 0).2.1 + (mulsub B g xs ys 0 0).2.2 = top + 1 ∧ (addb B (mulsub B g xs ys 0 0).1 ys 0).2 = 1) := by
  obtain ⟨m1, m2, m3⟩ := mulsub_val hB g xs ys 0 0 hl hx (by omega)
  have ml := mulsub_len (B := B) g xs ys 0 0 hl
  generalize mulsub B g xs ys 0 0 = r at m1 m2 m3 ml ⊢
  simp only [Nat.add_zero] at m1
  have hr := val_lt hB r.1 m3
  rw [ml] at hr
  obtain ⟨a1, a2, a3⟩ := addb_val hB r.1 ys 0 (by rw [ml, hl])
  rw [ml] at a1 a2
  generalize hN : B ^ xs.length = N at *
  have hY' : val B ys < N := by rw [← hN, hl]; exact hY
  have hs := val_lt hB (addb B r.1 ys 0).1 a3
  rw [a2, hN] at hs
  rw [Nat.add_mul, Nat.one_mul] at hq2
  rcases (by omega : g = q ∨ g = q + 1) with rfl | rfl
  · constructor
    · intro hc
      apply Nat.le_antisymm (by omega)
      apply Nat.le_of_not_lt
      intro hlt
      have : N * (r.2.1 + r.2.2 + 1) ≤ N * top := Nat.mul_le_mul_left _ hlt
      rw [Nat.mul_add N _ 1] at this
      omega
    · intro hc
      exfalso
      have : N * (top + 1) ≤ N * (r.2.1 + r.2.2) := Nat.mul_le_mul_left _ hc
      rw [Nat.mul_add] at this
      omega
  · rw [Nat.add_mul, Nat.one_mul] at m1
    have hc : top < r.2.1 + r.2.2 := by
      apply Nat.lt_of_not_le
      intro hle
      have : N * (r.2.1 + r.2.2) ≤ N * top := Nat.mul_le_mul_left _ hle
      omega
    refine ⟨fun h => absurd hc h, fun _ => ?_⟩
    have hle : r.2.1 + r.2.2 = top + 1 := by
      apply Nat.le_antisymm _ hc
      apply Nat.le_of_not_lt
      intro hlt
      have : N * (top + 1 + 1) ≤ N * (r.2.1 + r.2.2) := Nat.mul_le_mul_left _ hlt
      rw [Nat.mul_add, Nat.mul_add] at this
      omega
    rw [hle, Nat.mul_add] at m1
    refine ⟨hle, ?_⟩
    have h1 : ¬ (addb B r.1 ys 0).2 = 0 := by
      intro e
      rw [e] at a1
      omega
    have h2 : ¬ 2 ≤ (addb B r.1 ys 0).2 := by
      intro e
      have : N * 2 ≤ N * (addb B r.1 ys 0).2 := Nat.mul_le_mul_left _ e
      omega
    omega
/-- ONE STEP, with the digit above -/
theorem window_full (hB2 : 2 < B) {ys lo xs3 : List Nat} {v y2 u0 u1 u2 : Nat} (hy : ys = lo ++ [y2, v]) (hlo : lo.length = xs3.length) (hv : B ≤ 2 * v) (hvB : v < B) (hy2 : y2 < B) (hu2 : u2 < B) (hu1 : u1 < B)
    (hlo' : ∀ d ∈ lo, d < B) (hx' : ∀ d ∈ xs3, d < B) (hU : val B (xs3 ++ [u2, u1]) + B ^ ys.length * u0 < val B ys * B) :
    let g := adj B v y2 u2 2 ((u0 * B + u1) / v) ((u0 * B + u1) % v)
    let r := mulsub B g (xs3 ++ [u2, u1]) ys 0 0
    g < B ∧ val B (stepW B g (xs3 ++ [u2, u1]) ys u0) < val B ys ∧ (stepW B g (xs3 ++ [u2, u1]) ys u0).length = ys.length ∧ (∀ d ∈ stepW B g (xs3 ++ [u2, u1]) ys u0, d < B) ∧
      (¬ u0 < r.2.1 + r.2.2 → r.2.1 + r.2.2 = u0) ∧ (u0 < r.2.1 + r.2.2 → r.2.1 + r.2.2 = u0 + 1 ∧ (addb B r.1 ys 0).2 = 1) := by
  intro g r
  obtain ⟨h1, h2, h3, h4⟩ := window_step hB2 hy hlo hv hvB hy2 hu2 hu1 hlo' hx' hU
  refine ⟨h1, h2, h3, h4, ?_⟩
  have hY : 0 < val B ys := by
    rcases Nat.eq_zero_or_pos (val B ys) with h | h
    · rw [h, Nat.zero_mul] at hU; omega
    · exact h
  have hl : (xs3 ++ [u2, u1]).length = ys.length := by rw [hy]; simp [hlo]
  have hd := Nat.div_add_mod (val B (xs3 ++ [u2, u1]) + B ^ ys.length * u0) (val B ys)
  have hm := Nat.mod_lt (val B (xs3 ++ [u2, u1]) + B ^ ys.length * u0) hY
  generalize hq : (val B (xs3 ++ [u2, u1]) + B ^ ys.length * u0) / val B ys = q at hd
  rw [Nat.mul_comm] at hd
  have hq1 : q * val B ys ≤ val B (xs3 ++ [u2, u1]) + B ^ ys.length * u0 := by omega
  have hq2 : val B (xs3 ++ [u2, u1]) + B ^ ys.length * u0 < (q + 1) * val B ys := by rw [Nat.add_mul, Nat.one_mul]; omega
  obtain ⟨g1, g2, g3⟩ := window_guess hB2 hy hlo hv hvB hy2 hu2 hu1 hlo' hx' hU hq1 hq2
  have hyd : ∀ d ∈ ys, d < B := by
    intro d hd'
    rw [hy, List.mem_append] at hd'
    rcases hd' with h | h
    · exact hlo' d h
    · simp only [List.mem_cons, List.not_mem_nil, or_false] at h
      rcases h with rfl | rfl <;> assumption
  have hxd : ∀ d ∈ xs3 ++ [u2, u1], d < B := by
    intro d hd'
    rw [List.mem_append] at hd'
    rcases hd' with h | h
    · exact hx' d h
    · simp only [List.mem_cons, List.not_mem_nil, or_false] at h
      rcases h with rfl | rfl <;> assumption
  have := step_top (top := u0) (by omega) hl hxd (val_lt (by omega) ys hyd) (by rw [hl]; exact hq1) (by rw [hl]; exact hq2) g1 g2
  exact this
end Go.Knuth

namespace Go.Proofs.YtnljmpeaeajcoaaGreatDoor
open Go Go.Eng Go.Vi
local instance modeI1 : Go.Eng.Mode := Sy

/-! integer: word, words -/
/-- the number that bytes are, the highest first -/
def be (l : List UInt8) : Nat := l.foldl (fun n b => n * 256 + b.toNat) 0
theorem be_snoc (l : List UInt8) (b : UInt8) : be (l ++ [b]) = be l * 256 + b.toNat := by simp [be]
theorem be_lt (l : List UInt8) : be l < 256 ^ l.length := by
  have : ∀ (l : List UInt8) (n : Nat), l.foldl (fun n b => n * 256 + b.toNat) n < (n + 1) * 256 ^ l.length := by
    intro l
    induction l with
    | nil => intro n; simp
    | cons b l ih =>
      intro n
      refine Nat.lt_of_lt_of_le (ih _) ?_
      rw [List.length_cons, Nat.pow_succ, Nat.mul_comm (256 ^ l.length) 256, ← Nat.mul_assoc]
      exact Nat.mul_le_mul_right _ (by have := b.toNat_lt; show n * 256 + b.toNat + 1 ≤ (n + 1) * 256; omega)
  simpa [be] using this l 0
theorem ok112 : FnOk Tryz.prog 112 Tryz.f112 := ⟨Tryz.func112, by kernel_rfl, by kernel_rfl⟩
theorem ok110 : FnOk Tryz.prog 110 Tryz.f110 := ⟨Tryz.func110, by kernel_rfl, by kernel_rfl⟩
noncomputable def strA (l : List UInt8) : AV := .str l.length (enc l)
noncomputable def byteE (l : List UInt8) (i : Nat) : Int := .ofNat (Nat.mod (Nat.div (enc l) (Nat.pow 256 i)) 256)
theorem byteE_eq : ∀ (l : List UInt8) (i : Nat) (h : i < l.length), byteE l i = .ofNat (l[i].toNat)
  | b :: l, 0, _ => by
    have := b.toNat_lt
    show Int.ofNat ((b.toNat + 256 * enc l) / 256 ^ 0 % 256) = _
    rw [Nat.pow_zero, Nat.div_one, Nat.add_mul_mod_self_left, Nat.mod_eq_of_lt (by omega)]
    rfl
  | b :: l, i + 1, h => by
    have hb := b.toNat_lt
    rw [List.getElem_cons_succ, ← byteE_eq l i (by simpa using h)]
    show Int.ofNat ((b.toNat + 256 * enc l) / 256 ^ (i + 1) % 256) = Int.ofNat (enc l / 256 ^ i % 256)
    rw [Nat.pow_succ, Nat.mul_comm (256 ^ i) 256, ← Nat.div_div_eq_div_mul, Nat.add_mul_div_left b.toNat (enc l) (by decide), Nat.div_eq_of_lt (show b.toNat < 256 by omega), Nat.zero_add]
/-- one byte more -/
noncomputable def wordF (u b : Int) : Int := IntKind.u64.wrap (Int.ofNat (Nat.lor (toU .u64 (IntKind.u64.wrap (Int.mul u (Int.ofNat (Nat.pow 2 (shAmt .u64 8)))))) (toU .u64 (IntKind.u64.wrap b))))
noncomputable def wordU (l : List UInt8) (n : Nat) : Int := Nat.rec (motive := fun _ => Int) 0 (fun i u => wordF u (byteE l i)) n
theorem wrapU64 (n : Nat) (h : n < 18446744073709551616) : IntKind.u64.wrap (.ofNat n) = .ofNat n := by
  simp [IntKind.wrap, IntKind.bits, IntKind.signed]
  omega
theorem toU64 (n : Nat) (h : n < 18446744073709551616) : toU .u64 (.ofNat n) = n := Nat.mod_eq_of_lt h
theorem lor_low (u b : Nat) (k : Nat) (h : b < 2 ^ k) : Nat.lor (u * 2 ^ k) b = u * 2 ^ k + b := by
  have := Nat.shiftLeft_add_eq_or_of_lt h u
  rw [Nat.shiftLeft_eq] at this
  exact this.symm
theorem wordF_eq (u b : Nat) (hu : u < 72057594037927936) (hb : b < 256) : wordF (.ofNat u) (.ofNat b) = .ofNat (u * 256 + b) := by
  unfold wordF
  have e1 : Int.mul (.ofNat u) (Int.ofNat (Nat.pow 2 (shAmt .u64 8))) = .ofNat (u * 256) := rfl
  rw [e1, wrapU64 (u * 256) (by omega), wrapU64 b (by omega), toU64 (u * 256) (by omega), toU64 b (by omega)]
  have := lor_low u b 8 hb
  rw [show (2 : Nat) ^ 8 = 256 by decide] at this
  rw [this, wrapU64 _ (by omega)]
theorem wordU_eq (l : List UInt8) : ∀ n, n ≤ 8 → n ≤ l.length → wordU l n = .ofNat (be (l.take n)) := by
  intro n
  induction n with
  | zero => intro _ _; rfl
  | succ n ih =>
    intro h8 hl
    show wordF (wordU l n) (byteE l n) = _
    rw [ih (by omega) (by omega), byteE_eq l n (by omega)]
    have h1 := be_lt (l.take n)
    have h2 : 256 ^ (l.take n).length ≤ 256 ^ 7 := Nat.pow_le_pow_right (by decide) (by simp; omega)
    rw [wordF_eq _ _ (by have : (256 : Nat) ^ 7 = 72057594037927936 := by decide
                         omega) (l[n].toNat_lt)]
    have e : l.take (n + 1) = l.take n ++ [l[n]] := by rw [List.take_succ_eq_append_getElem (by omega)]
    rw [e, be_snoc]
noncomputable def run112 (l : List UInt8) (I : AV → List (Option Blk) → Bool) : Bool :=
  Eng.exec Tryz.prog X0 [] 300 Tryz.f112.ntmps (codeOf Tryz.f112) (mkFr (argSlots [strA l] 0)) (mkMem (rowsOf [])) (fun o fr M => endK o (resK Tryz.prog fr M Tryz.f112.results.toList fun vs => I (oneOf vs) (mv [] M)))
theorem word_run : ∀ (l : List UInt8) (h : l.length ≤ 8) (I : AV → List (Option Blk) → Bool), run112 l I = I (.tuple [.int .u64 (wordU l l.length), .bool true]) []
  | [], _, I => by kernel_rfl
  | [_], _, I => by kernel_rfl
  | [_, _], _, I => by kernel_rfl
  | [_, _, _], _, I => by kernel_rfl
  | [_, _, _, _], _, I => by kernel_rfl
  | [_, _, _, _, _], _, I => by kernel_rfl
  | [_, _, _, _, _, _], _, I => by kernel_rfl
  | [_, _, _, _, _, _, _], _, I => by kernel_rfl
  | [_, _, _, _, _, _, _, _], _, I => by kernel_rfl
  | _ :: _ :: _ :: _ :: _ :: _ :: _ :: _ :: _ :: _, h, _ => absurd h (by simp)
theorem word_long : ∀ (l : List UInt8) (h : 8 < l.length) (I : AV → List (Option Blk) → Bool), run112 l I = I (.tuple [.int .u64 0, .bool false]) []
  | [], h, _ => absurd h (by simp)
  | [_], h, _ => absurd h (by simp)
  | [_, _], h, _ => absurd h (by simp)
  | [_, _, _], h, _ => absurd h (by simp)
  | [_, _, _, _], h, _ => absurd h (by simp)
  | [_, _, _, _, _], h, _ => absurd h (by simp)
  | [_, _, _, _, _, _], h, _ => absurd h (by simp)
  | [_, _, _, _, _, _, _], h, _ => absurd h (by simp)
  | [_, _, _, _, _, _, _, _], h, _ => absurd h (by simp)
  | _ :: _ :: _ :: _ :: _ :: _ :: _ :: _ :: _ :: _, _, I => by kernel_rfl
/-- what word answers -/
noncomputable def wordN (l : List UInt8) : Nat := if l.length ≤ 8 then be l else 0
noncomputable def wordA (l : List UInt8) : AV := .tuple [.int .u64 (.ofNat (wordN l)), .bool (decide (l.length ≤ 8))]
theorem word_c (l : List UInt8) : BSim Tryz.prog 112 [strA l] [] [] (wordA l) := by
  by_cases h : l.length ≤ 8
  · refine BSim.run hm hX0 (S := []) (fun _ h => by cases h) ok112 (by kernel_rfl) rfl 300 [] (fun I => I (.tuple [.int .u64 (wordU l l.length), .bool true]) []) (word_run l h) ?_
    rw [wordU_eq l _ h (Nat.le_refl _), List.take_length]
    have e : wordA l = .tuple [.int .u64 (.ofNat (be l)), .bool true] := by simp [wordA, wordN, h]
    rw [e]
    exact pdec_iff.2 (Leaf.flat fun _ _ => .tuple _ _ (.cons _ _ _ _ (.plain (.int .u64 (.ofNat (be l)))) (.cons _ _ _ _ (.plain (.bool true)) .nil)))
  · refine BSim.run hm hX0 (S := []) (fun _ h => by cases h) ok112 (by kernel_rfl) rfl 300 [] (fun I => I (.tuple [.int .u64 0, .bool false]) []) (word_long l (by omega)) ?_
    have e : wordA l = .tuple [.int .u64 0, .bool false] := by simp [wordA, wordN, h]
    rw [e]
    exact pdec_iff.2 (Leaf.flat fun _ _ => .tuple _ _ (.cons _ _ _ _ (.plain (.int .u64 0)) (.cons _ _ _ _ (.plain (.bool false)) .nil)))
noncomputable def eWord (l : List UInt8) : FuncId × SEnt := (112, ⟨[strA l], [], wordA l⟩)
noncomputable def wordsA (x y : List UInt8) : AV := .tuple [.int .u64 (.ofNat (wordN x)), .int .u64 (.ofNat (wordN y)), .bool (decide (x.length ≤ 8) && decide (y.length ≤ 8))]
end Go.Proofs.YtnljmpeaeajcoaaGreatDoor

namespace Go.Proofs.YtnljmpeaeajcoaaGreatDoor
open Go Go.Eng Go.Vi
local instance modeI2 : Go.Eng.Mode := Sy

theorem words_of {x y : List UInt8} {n m : Nat} {bx bY : Bool} (hx : BSim Tryz.prog 112 [strA x] [] [] (.tuple [.int .u64 (.ofNat n), .bool bx])) (hy : BSim Tryz.prog 112 [strA y] [] [] (.tuple [.int .u64 (.ofNat m), .bool bY])) :
    BSim Tryz.prog 110 [strA x, strA y] [] [] (.tuple [.int .u64 (.ofNat n), .int .u64 (.ofNat m), .bool (bx && bY)]) := by
  have key : ∀ b : Bool, (∀ I : AV → List (Option Blk) → Bool, Eng.exec Tryz.prog X0 [(112, ⟨[strA x], [], .tuple [.int .u64 (.ofNat n), .bool bx]⟩), (112, ⟨[strA y], [], .tuple [.int .u64 (.ofNat m), .bool bY]⟩)] 60 Tryz.f110.ntmps (codeOf Tryz.f110) (mkFr (argSlots [strA x, strA y] 0)) (mkMem (rowsOf []))
      (fun o fr M => endK o (resK Tryz.prog fr M Tryz.f110.results.toList fun vs => I (oneOf vs) (mv [] M))) = gC (112, ⟨[strA x], [], .tuple [.int .u64 (.ofNat n), .bool bx]⟩) (gC (112, ⟨[strA y], [], .tuple [.int .u64 (.ofNat m), .bool bY]⟩) (I (.tuple [.int .u64 (.ofNat n), .int .u64 (.ofNat m), .bool b]) []))) →
      BSim Tryz.prog 110 [strA x, strA y] [] [] (.tuple [.int .u64 (.ofNat n), .int .u64 (.ofNat m), .bool b]) := by
    intro b hrun
    refine BSim.run hm hX0 (S := [(112, ⟨[strA x], [], .tuple [.int .u64 (.ofNat n), .bool bx]⟩), (112, ⟨[strA y], [], .tuple [.int .u64 (.ofNat m), .bool bY]⟩)]) (AllOk.mem ⟨hx.spec0 rfl, hy.spec0 rfl, trivial⟩) ok110 (by kernel_rfl) rfl 60 [] _ hrun ?_
    simp only [gC_iff]
    exact pdec_iff.2 (Leaf.flat fun _ _ => .tuple _ _ (.cons _ _ _ _ (.plain (.int .u64 (.ofNat n))) (.cons _ _ _ _ (.plain (.int .u64 (.ofNat m))) (.cons _ _ _ _ (.plain (.bool b)) .nil))))
  cases bx <;> cases bY
  · exact key false (fun I => by kernel_rfl)
  · exact key false (fun I => by kernel_rfl)
  · exact key false (fun I => by kernel_rfl)
  · exact key true (fun I => by kernel_rfl)
theorem words_c (x y : List UInt8) : BSim Tryz.prog 110 [strA x, strA y] [] [] (wordsA x y) := words_of (word_c x) (word_c y)

theorem ok88 : FnOk Tryz.prog 88 Tryz.f88 := ⟨Tryz.func88, by kernel_rfl, by kernel_rfl⟩
theorem made_c (m : List UInt8) : BSim Tryz.prog 88 [.bool false, strA m] [] [] (.agg [.bool false, strA m]) := by
  refine BSim.run hm hX0 (S := []) (fun _ h => by cases h) ok88 (by kernel_rfl) rfl 60 [] (fun I => I (.agg [.bool false, strA m]) []) (fun I => by kernel_rfl) ?_
  exact pdec_iff.2 (Leaf.flat fun _ _ => .aggs [.bool false, .str m.length (enc m)])
end Go.Proofs.YtnljmpeaeajcoaaGreatDoor

namespace Go.Proofs.YtnljmpeaeajcoaaGreatDoor
open Go Go.Eng Go.Vi
local instance modeI3 : Go.Eng.Mode := Sy

/-! bits.Len64 -/
def LenOk (y n : Nat) : Prop := y < 2 ^ n ∧ (0 < y → 2 ^ n ≤ 2 * y)
theorem LenOk.lift {y k n : Nat} (h : LenOk (y / 2 ^ k) n) (hx : 0 < y / 2 ^ k) : LenOk y (k + n) := by
  have hp : 0 < 2 ^ k := Nat.pow_pos (by decide)
  have h1 := Nat.div_add_mod y (2 ^ k)
  have h2 := Nat.mod_lt y hp
  have h3 : 2 ^ k * (y / 2 ^ k + 1) ≤ 2 ^ k * 2 ^ n := Nat.mul_le_mul_left _ h.1
  have h4 : 2 ^ k * 2 ^ n ≤ 2 ^ k * (2 * (y / 2 ^ k)) := Nat.mul_le_mul_left _ (h.2 hx)
  rw [Nat.mul_add] at h3
  rw [Nat.mul_left_comm] at h4
  constructor
  · rw [Nat.pow_add]; omega
  · intro _; rw [Nat.pow_add]; omega
def tabL : List UInt8 := [0, 1] ++ List.replicate 2 2 ++ List.replicate 4 3 ++ List.replicate 8 4 ++ List.replicate 16 5 ++ List.replicate 32 6 ++ List.replicate 64 7 ++ List.replicate 128 8
noncomputable def tb (x : Nat) : Nat := Nat.mod (Nat.div (enc tabL) (Nat.pow 256 x)) 256
theorem tb_all : ((List.range 256).all fun x => Bool.and (Nat.blt x (2 ^ tb x)) (Bool.and (Bool.or (Nat.beq x 0) (Nat.ble (2 ^ tb x) (2 * x))) (Nat.ble (tb x) 8))) = true := by kernel_rfl
theorem tb_ok {x : Nat} (h : x < 256) : LenOk x (tb x) ∧ tb x ≤ 8 := by
  have := List.all_eq_true.1 tb_all x (List.mem_range.2 h)
  simp only [Bool.and_eq_true, Bool.or_eq_true, Nat.blt_eq, Nat.beq_eq, Nat.ble_eq] at this
  exact ⟨⟨this.1, fun h0 => by rcases this.2.1 with e | e; · omega
                               exact e⟩, this.2.2⟩
theorem ok100 : FnOk Tryz.prog 100 Tryz.f100 := ⟨Tryz.func100, by kernel_rfl, by kernel_rfl⟩
noncomputable def len0 (I : AV → List (Option Blk) → Bool) (x n : Nat) : Bool :=
  gB (Nat.blt (x % 256) 256) (gB (inI64 (.ofNat (tb (x % 256)))) (gB (inI64 (Int.add (.ofNat n) (.ofNat (tb (x % 256))))) (I (.int .i64 (Int.add (.ofNat n) (.ofNat (tb (x % 256))))) [])))
noncomputable def len8 (I : AV → List (Option Blk) → Bool) (x n : Nat) : Bool := gIf (Bool.not (ilt (.ofNat x) 256)) (len0 I (x / 256) (n + 8)) (len0 I x n)
noncomputable def len16 (I : AV → List (Option Blk) → Bool) (x n : Nat) : Bool := gIf (Bool.not (ilt (.ofNat x) 65536)) (len8 I (x / 65536) (n + 16)) (len8 I x n)
noncomputable def len64 (I : AV → List (Option Blk) → Bool) (u : Nat) : Bool := gIf (Bool.not (ilt (.ofNat u) 4294967296)) (len16 I (u / 4294967296) 32) (len16 I u 0)
noncomputable def lenA (n : Nat) : AV := .int .i64 (.ofNat n)
noncomputable def run100 (u : Nat) (I : AV → List (Option Blk) → Bool) : Bool :=
  Eng.exec Tryz.prog X0 [] 300 Tryz.f100.ntmps (codeOf Tryz.f100) (mkFr (argSlots [.int .u64 (.ofNat u)] 0)) (mkMem (rowsOf [])) (fun o fr M => endK o (resK Tryz.prog fr M Tryz.f100.results.toList fun vs => I (oneOf vs) (mv [] M)))
theorem len_run (u : Nat) : ∀ I, run100 u I = len64 I u := fun I => by kernel_rfl
theorem nilt {x c : Nat} : (Bool.not (ilt (.ofNat x) (.ofNat c)) = true → c ≤ x) ∧ (Bool.not (ilt (.ofNat x) (.ofNat c)) = false → x < c) := by
  rw [ilt_iff]
  constructor
  · intro h
    have : ¬ (Int.ofNat x < Int.ofNat c) := by simpa using h
    simp only [Int.ofNat_eq_natCast] at this; omega
  · intro h
    have : Int.ofNat x < Int.ofNat c := by simpa using h
    simp only [Int.ofNat_eq_natCast] at this; omega
theorem len0_of {Pr : Nat → Prop} {I : AV → List (Option Blk) → Bool} (hI : ∀ n, Pr n → I (lenA n) [] = true) {x n : Nat} (hx : x < 256) (hn : n ≤ 56) (h : ∀ m, LenOk x m → Pr (n + m)) : len0 I x n = true := by
  obtain ⟨h1, h2⟩ := tb_ok hx
  unfold len0
  rw [Nat.mod_eq_of_lt hx]
  simp only [gB_iff, Nat.blt_eq]
  have e : Int.add (.ofNat n) (.ofNat (tb x)) = .ofNat (n + tb x) := rfl
  rw [e]
  exact ⟨hx, inI64_iff _ |>.2 (by simp only [Int.ofNat_eq_natCast]; omega), inI64_iff _ |>.2 (by simp only [Int.ofNat_eq_natCast]; omega), hI _ (h _ h1)⟩
theorem len8_of {Pr : Nat → Prop} {I : AV → List (Option Blk) → Bool} (hI : ∀ n, Pr n → I (lenA n) [] = true) {x n : Nat} (hx : x < 65536) (hn : n ≤ 48) (h : ∀ m, LenOk x m → Pr (n + m)) : len8 I x n = true := by
  refine gIf_of (fun hc => ?_) (fun hc => ?_)
  · have hc := nilt.1 hc
    refine len0_of hI (by omega) (by omega) fun m hm => ?_
    have := LenOk.lift (y := x) (k := 8) (n := m) hm (Nat.div_pos hc (by decide))
    rw [Nat.add_assoc]; exact h _ this
  · exact len0_of hI (nilt.2 hc) (by omega) h
theorem len16_of {Pr : Nat → Prop} {I : AV → List (Option Blk) → Bool} (hI : ∀ n, Pr n → I (lenA n) [] = true) {x n : Nat} (hx : x < 4294967296) (hn : n ≤ 32) (h : ∀ m, LenOk x m → Pr (n + m)) : len16 I x n = true := by
  refine gIf_of (fun hc => ?_) (fun hc => ?_)
  · have hc := nilt.1 hc
    refine len8_of hI (by omega) (by omega) fun m hm => ?_
    have := LenOk.lift (y := x) (k := 16) (n := m) hm (Nat.div_pos hc (by decide))
    rw [Nat.add_assoc]; exact h _ this
  · exact len8_of hI (nilt.2 hc) (by omega) h
theorem len64_of {Pr : Nat → Prop} {I : AV → List (Option Blk) → Bool} (hI : ∀ n, Pr n → I (lenA n) [] = true) {u : Nat} (hx : u < 18446744073709551616) (h : ∀ m, LenOk u m → Pr m) : len64 I u = true := by
  refine gIf_of (fun hc => ?_) (fun hc => ?_)
  · have hc := nilt.1 hc
    refine len16_of hI (by omega) (by omega) fun m hm => ?_
    have := LenOk.lift (y := u) (k := 32) (n := m) hm (Nat.div_pos hc (by decide))
    exact h _ this
  · exact len16_of hI (nilt.2 hc) (by omega) fun m hm => by rw [Nat.zero_add]; exact h _ hm
theorem len64_c (u : Nat) (hu : u < 18446744073709551616) : ∃ n, LenOk u n ∧ BSim Tryz.prog 100 [.int .u64 (.ofNat u)] [] [] (lenA n) := by
  obtain ⟨ans, ⟨n, hn, rfl⟩, h⟩ := BSim.runEx hm hX0 (S := []) (fun _ h => by cases h) ok100 (by kernel_rfl) rfl 300 [] (Pr := fun ans => ∃ n, LenOk u n ∧ ans = lenA n) (fun I => len64 I u) (len_run u)
    (len64_of (Pr := LenOk u) (fun n hn => pdec_iff.2 ⟨_, ⟨n, hn, rfl⟩, Leaf.flat fun _ _ => .plain (.int .i64 (.ofNat n))⟩) hu fun m hm => hm)
  exact ⟨n, hn, h⟩
end Go.Proofs.YtnljmpeaeajcoaaGreatDoor

namespace Go.Proofs.YtnljmpeaeajcoaaGreatDoor
open Go Go.Eng Go.Vi
local instance modeI4 : Go.Eng.Mode := Sy

/-! magnitude -/
noncomputable def encN (l : List Nat) : Nat := List.rec (motive := fun _ => Nat) 0 (fun b _ n => Nat.add b (Nat.mul 256 n)) l
theorem encN_eq : ∀ (l : List Nat), (∀ b ∈ l, b < 256) → encN l = enc (l.map UInt8.ofNat)
  | [], _ => rfl
  | b :: l, h => by
    have h1 := encN_eq l fun c hc => h c (List.mem_cons_of_mem _ hc)
    have h2 := h b (List.mem_cons_self ..)
    show b + 256 * encN l = (UInt8.ofNat b).toNat + 256 * enc (l.map UInt8.ofNat)
    rw [h1, UInt8.toNat_ofNat', Nat.mod_eq_of_lt (show b < 2 ^ 8 from h2)]
noncomputable def byteU (u i : Nat) : Nat := Nat.div u (Nat.pow 2 (8 * i)) % 256
noncomputable def magB (u k : Nat) : List Nat := Nat.rec (motive := fun _ => List Nat) [] (fun k l => byteU u k :: l) k
noncomputable def magT (I : AV → List (Option Blk) → Bool) (u k : Nat) : Bool :=
  Nat.rec (motive := fun _ => Bool → Bool) (fun b => b) (fun i ih b => gB (Nat.blt (byteU u i) 256) (ih b)) k (I (.str k (encN (magB u k))) [])
theorem be_cons (b : UInt8) (l : List UInt8) : be (b :: l) = b.toNat * 256 ^ l.length + be l := by
  have : ∀ (l : List UInt8) (n : Nat), l.foldl (fun n b => n * 256 + b.toNat) n = n * 256 ^ l.length + be l := by
    intro l
    induction l with
    | nil => intro n; simp [be]
    | cons c l ih =>
      intro n
      have e1 : be (c :: l) = l.foldl (fun n b => n * 256 + b.toNat) (0 * 256 + c.toNat) := rfl
      rw [e1, ih]
      show l.foldl (fun n b => n * 256 + b.toNat) (n * 256 + c.toNat) = _
      rw [ih, List.length_cons, Nat.pow_succ, Nat.add_mul, Nat.zero_mul, Nat.zero_add, Nat.mul_assoc, Nat.mul_comm 256 (256 ^ l.length)]
      omega
  show l.foldl (fun n b => n * 256 + b.toNat) (0 * 256 + b.toNat) = _
  rw [this]; simp
theorem magB_len (u k : Nat) : (magB u k).length = k := by
  induction k with
  | zero => rfl
  | succ k ih => show (byteU u k :: magB u k).length = _; simp [ih]
theorem magB_lt (u k : Nat) : ∀ b ∈ magB u k, b < 256 := by
  induction k with
  | zero => intro b h; cases h
  | succ k ih =>
    intro b h
    rcases List.mem_cons.1 h with rfl | h
    · exact Nat.mod_lt _ (by decide)
    · exact ih b h
/-- the bytes of a number -/
noncomputable def magL (u k : Nat) : List UInt8 := (magB u k).map UInt8.ofNat
theorem magL_len (u k : Nat) : (magL u k).length = k := by simp [magL, magB_len]
theorem magL_be (u : Nat) : ∀ k, be (magL u k) = u % 256 ^ k
  | 0 => by rw [Nat.pow_zero, Nat.mod_one]; rfl
  | k + 1 => by
    have ih := magL_be u k
    have e : magL u (k + 1) = UInt8.ofNat (byteU u k) :: magL u k := rfl
    rw [e, be_cons, ih, magL_len, UInt8.toNat_ofNat', Nat.mod_eq_of_lt (show byteU u k < 2 ^ 8 from Nat.mod_lt _ (by decide))]
    have e2 : (2 : Nat) ^ (8 * k) = 256 ^ k := by rw [Nat.pow_mul]
    show u / 2 ^ (8 * k) % 256 * 256 ^ k + u % 256 ^ k = _
    rw [e2, Nat.pow_succ, Nat.mod_mul, Nat.mul_comm]
    omega
theorem magT_of {I : AV → List (Option Blk) → Bool} {u k : Nat} (h : I (strA (magL u k)) [] = true) : magT I u k = true := by
  have e : AV.str k (encN (magB u k)) = strA (magL u k) := by
    unfold strA
    rw [magL_len, encN_eq _ (magB_lt u k)]; rfl
  unfold magT
  rw [e]
  generalize I (strA (magL u k)) [] = b at h
  subst h
  clear e
  induction k with
  | zero => rfl
  | succ k ih =>
    show gB (Nat.blt (byteU u k) 256) _ = true
    rw [gB_iff, Nat.blt_eq]
    exact ⟨Nat.mod_lt _ (by decide), ih⟩
theorem ok89 : FnOk Tryz.prog 89 Tryz.f89 := ⟨Tryz.func89, by kernel_rfl, by kernel_rfl⟩
noncomputable def eLen (u n : Nat) : FuncId × SEnt := (100, ⟨[.int .u64 (.ofNat u)], [], lenA n⟩)
noncomputable def run89 (u n : Nat) (I : AV → List (Option Blk) → Bool) : Bool :=
  Eng.exec Tryz.prog X0 [eLen u n] 300 Tryz.f89.ntmps (codeOf Tryz.f89) (mkFr (argSlots [.int .u64 (.ofNat u)] 0)) (mkMem (rowsOf [])) (fun o fr M => endK o (resK Tryz.prog fr M Tryz.f89.results.toList fun vs => I (oneOf vs) (mv [] M)))
theorem mag0 (I : AV → List (Option Blk) → Bool) : Eng.exec Tryz.prog X0 [] 300 Tryz.f89.ntmps (codeOf Tryz.f89) (mkFr (argSlots [.int .u64 (.ofNat 0)] 0)) (mkMem (rowsOf [])) (fun o fr M => endK o (resK Tryz.prog fr M Tryz.f89.results.toList fun vs => I (oneOf vs) (mv [] M))) = I (.str 0 0) [] := by kernel_rfl
def magRun (u n : Nat) : Prop := ∀ I, run89 (u + 1) n I = gC (eLen (u + 1) n) (magT I (u + 1) ((n + 7) / 8))
theorem mag_1 (u : Nat) : magRun u 1 := fun I => by kernel_rfl
theorem mag_2 (u : Nat) : magRun u 2 := fun I => by kernel_rfl
theorem mag_3 (u : Nat) : magRun u 3 := fun I => by kernel_rfl
theorem mag_4 (u : Nat) : magRun u 4 := fun I => by kernel_rfl
theorem mag_5 (u : Nat) : magRun u 5 := fun I => by kernel_rfl
theorem mag_6 (u : Nat) : magRun u 6 := fun I => by kernel_rfl
theorem mag_7 (u : Nat) : magRun u 7 := fun I => by kernel_rfl
theorem mag_8 (u : Nat) : magRun u 8 := fun I => by kernel_rfl
theorem mag_9 (u : Nat) : magRun u 9 := fun I => by kernel_rfl
theorem mag_10 (u : Nat) : magRun u 10 := fun I => by kernel_rfl
theorem mag_11 (u : Nat) : magRun u 11 := fun I => by kernel_rfl
theorem mag_12 (u : Nat) : magRun u 12 := fun I => by kernel_rfl
theorem mag_13 (u : Nat) : magRun u 13 := fun I => by kernel_rfl
theorem mag_14 (u : Nat) : magRun u 14 := fun I => by kernel_rfl
theorem mag_15 (u : Nat) : magRun u 15 := fun I => by kernel_rfl
theorem mag_16 (u : Nat) : magRun u 16 := fun I => by kernel_rfl
theorem mag_17 (u : Nat) : magRun u 17 := fun I => by kernel_rfl
theorem mag_18 (u : Nat) : magRun u 18 := fun I => by kernel_rfl
theorem mag_19 (u : Nat) : magRun u 19 := fun I => by kernel_rfl
theorem mag_20 (u : Nat) : magRun u 20 := fun I => by kernel_rfl
theorem mag_21 (u : Nat) : magRun u 21 := fun I => by kernel_rfl
theorem mag_22 (u : Nat) : magRun u 22 := fun I => by kernel_rfl
theorem mag_23 (u : Nat) : magRun u 23 := fun I => by kernel_rfl
theorem mag_24 (u : Nat) : magRun u 24 := fun I => by kernel_rfl
theorem mag_25 (u : Nat) : magRun u 25 := fun I => by kernel_rfl
theorem mag_26 (u : Nat) : magRun u 26 := fun I => by kernel_rfl
theorem mag_27 (u : Nat) : magRun u 27 := fun I => by kernel_rfl
theorem mag_28 (u : Nat) : magRun u 28 := fun I => by kernel_rfl
theorem mag_29 (u : Nat) : magRun u 29 := fun I => by kernel_rfl
theorem mag_30 (u : Nat) : magRun u 30 := fun I => by kernel_rfl
theorem mag_31 (u : Nat) : magRun u 31 := fun I => by kernel_rfl
theorem mag_32 (u : Nat) : magRun u 32 := fun I => by kernel_rfl
theorem mag_33 (u : Nat) : magRun u 33 := fun I => by kernel_rfl
theorem mag_34 (u : Nat) : magRun u 34 := fun I => by kernel_rfl
theorem mag_35 (u : Nat) : magRun u 35 := fun I => by kernel_rfl
theorem mag_36 (u : Nat) : magRun u 36 := fun I => by kernel_rfl
theorem mag_37 (u : Nat) : magRun u 37 := fun I => by kernel_rfl
theorem mag_38 (u : Nat) : magRun u 38 := fun I => by kernel_rfl
theorem mag_39 (u : Nat) : magRun u 39 := fun I => by kernel_rfl
theorem mag_40 (u : Nat) : magRun u 40 := fun I => by kernel_rfl
theorem mag_41 (u : Nat) : magRun u 41 := fun I => by kernel_rfl
theorem mag_42 (u : Nat) : magRun u 42 := fun I => by kernel_rfl
theorem mag_43 (u : Nat) : magRun u 43 := fun I => by kernel_rfl
theorem mag_44 (u : Nat) : magRun u 44 := fun I => by kernel_rfl
theorem mag_45 (u : Nat) : magRun u 45 := fun I => by kernel_rfl
theorem mag_46 (u : Nat) : magRun u 46 := fun I => by kernel_rfl
theorem mag_47 (u : Nat) : magRun u 47 := fun I => by kernel_rfl
theorem mag_48 (u : Nat) : magRun u 48 := fun I => by kernel_rfl
theorem mag_49 (u : Nat) : magRun u 49 := fun I => by kernel_rfl
theorem mag_50 (u : Nat) : magRun u 50 := fun I => by kernel_rfl
theorem mag_51 (u : Nat) : magRun u 51 := fun I => by kernel_rfl
theorem mag_52 (u : Nat) : magRun u 52 := fun I => by kernel_rfl
theorem mag_53 (u : Nat) : magRun u 53 := fun I => by kernel_rfl
theorem mag_54 (u : Nat) : magRun u 54 := fun I => by kernel_rfl
theorem mag_55 (u : Nat) : magRun u 55 := fun I => by kernel_rfl
theorem mag_56 (u : Nat) : magRun u 56 := fun I => by kernel_rfl
theorem mag_57 (u : Nat) : magRun u 57 := fun I => by kernel_rfl
theorem mag_58 (u : Nat) : magRun u 58 := fun I => by kernel_rfl
theorem mag_59 (u : Nat) : magRun u 59 := fun I => by kernel_rfl
theorem mag_60 (u : Nat) : magRun u 60 := fun I => by kernel_rfl
theorem mag_61 (u : Nat) : magRun u 61 := fun I => by kernel_rfl
theorem mag_62 (u : Nat) : magRun u 62 := fun I => by kernel_rfl
theorem mag_63 (u : Nat) : magRun u 63 := fun I => by kernel_rfl
theorem mag_64 (u : Nat) : magRun u 64 := fun I => by kernel_rfl
theorem mag_run (u : Nat) : ∀ n, 1 ≤ n → n ≤ 64 → magRun u n := by
  intro n h1 h2
  have h : n = 1 ∨ n = 2 ∨ n = 3 ∨ n = 4 ∨ n = 5 ∨ n = 6 ∨ n = 7 ∨ n = 8 ∨ n = 9 ∨ n = 10 ∨ n = 11 ∨ n = 12 ∨ n = 13 ∨ n = 14 ∨ n = 15 ∨ n = 16 ∨ n = 17 ∨ n = 18 ∨ n = 19 ∨ n = 20 ∨ n = 21 ∨ n = 22 ∨ n = 23 ∨ n = 24 ∨ n = 25 ∨ n = 26 ∨ n = 27 ∨ n = 28 ∨ n = 29 ∨ n = 30 ∨ n = 31 ∨ n = 32 ∨ n = 33 ∨ n = 34 ∨ n = 35 ∨ n = 36 ∨ n = 37 ∨ n = 38 ∨ n = 39 ∨ n = 40 ∨ n = 41 ∨ n = 42 ∨ n = 43 ∨ n = 44 ∨ n = 45 ∨ n = 46 ∨ n = 47 ∨ n = 48 ∨ n = 49 ∨ n = 50 ∨ n = 51 ∨ n = 52 ∨ n = 53 ∨ n = 54 ∨ n = 55 ∨ n = 56 ∨ n = 57 ∨ n = 58 ∨ n = 59 ∨ n = 60 ∨ n = 61 ∨ n = 62 ∨ n = 63 ∨ n = 64 := by omega
  rcases h with rfl | rfl | rfl | rfl | rfl | rfl | rfl | rfl | rfl | rfl | rfl | rfl | rfl | rfl | rfl | rfl | rfl | rfl | rfl | rfl | rfl | rfl | rfl | rfl | rfl | rfl | rfl | rfl | rfl | rfl | rfl | rfl | rfl | rfl | rfl | rfl | rfl | rfl | rfl | rfl | rfl | rfl | rfl | rfl | rfl | rfl | rfl | rfl | rfl | rfl | rfl | rfl | rfl | rfl | rfl | rfl | rfl | rfl | rfl | rfl | rfl | rfl | rfl | rfl
  · exact mag_1 u
  · exact mag_2 u
  · exact mag_3 u
  · exact mag_4 u
  · exact mag_5 u
  · exact mag_6 u
  · exact mag_7 u
  · exact mag_8 u
  · exact mag_9 u
  · exact mag_10 u
  · exact mag_11 u
  · exact mag_12 u
  · exact mag_13 u
  · exact mag_14 u
  · exact mag_15 u
  · exact mag_16 u
  · exact mag_17 u
  · exact mag_18 u
  · exact mag_19 u
  · exact mag_20 u
  · exact mag_21 u
  · exact mag_22 u
  · exact mag_23 u
  · exact mag_24 u
  · exact mag_25 u
  · exact mag_26 u
  · exact mag_27 u
  · exact mag_28 u
  · exact mag_29 u
  · exact mag_30 u
  · exact mag_31 u
  · exact mag_32 u
  · exact mag_33 u
  · exact mag_34 u
  · exact mag_35 u
  · exact mag_36 u
  · exact mag_37 u
  · exact mag_38 u
  · exact mag_39 u
  · exact mag_40 u
  · exact mag_41 u
  · exact mag_42 u
  · exact mag_43 u
  · exact mag_44 u
  · exact mag_45 u
  · exact mag_46 u
  · exact mag_47 u
  · exact mag_48 u
  · exact mag_49 u
  · exact mag_50 u
  · exact mag_51 u
  · exact mag_52 u
  · exact mag_53 u
  · exact mag_54 u
  · exact mag_55 u
  · exact mag_56 u
  · exact mag_57 u
  · exact mag_58 u
  · exact mag_59 u
  · exact mag_60 u
  · exact mag_61 u
  · exact mag_62 u
  · exact mag_63 u
  · exact mag_64 u
/-- the magnitude of a number -/
theorem mag_c (u : Nat) (hu : u < 18446744073709551616) : ∃ l : List UInt8, be l = u ∧ (∀ b r, l = b :: r → b ≠ 0) ∧ BSim Tryz.prog 89 [.int .u64 (.ofNat u)] [] [] (strA l) := by
  cases u with
  | zero =>
    refine ⟨[], rfl, (fun b r h => absurd h (by simp)), ?_⟩
    refine BSim.run hm hX0 (S := []) (fun _ h => by cases h) ok89 (by kernel_rfl) rfl 300 [] (fun I => I (.str 0 0) []) (fun I => mag0 I) ?_
    · exact pdec_iff.2 (Leaf.flat fun _ _ => .plain (.str 0 0))
  | succ u =>
    obtain ⟨n, hn, hs⟩ := len64_c (u + 1) hu
    have h1 : 1 ≤ n := by
      rcases Nat.eq_zero_or_pos n with rfl | h
      · have := hn.1; simp at this
      · exact h
    have h2 : n ≤ 64 := by
      apply Nat.le_of_not_lt
      intro h
      have e1 : 2 ^ 65 ≤ 2 ^ n := Nat.pow_le_pow_right (by decide) h
      have e2 := hn.2 (by omega)
      have e3 : (2 : Nat) ^ 65 = 36893488147419103232 := by decide
      omega
    refine ⟨magL (u + 1) ((n + 7) / 8), ?_, ?_, ?_⟩
    · rw [magL_be]
      apply Nat.mod_eq_of_lt
      refine Nat.lt_of_lt_of_le hn.1 ?_
      rw [show (256 : Nat) = 2 ^ 8 by decide, ← Nat.pow_mul]
      exact Nat.pow_le_pow_right (by decide) (by omega)
    · intro b r h
      obtain ⟨k, hk⟩ : ∃ k, (n + 7) / 8 = k + 1 := ⟨(n + 7) / 8 - 1, by omega⟩
      rw [hk] at h
      have e : magL (u + 1) (k + 1) = UInt8.ofNat (byteU (u + 1) k) :: magL (u + 1) k := rfl
      rw [e] at h
      obtain ⟨rfl, _⟩ := List.cons.inj h
      intro h0
      have h3 : byteU (u + 1) k = 0 := by
        have := congrArg UInt8.toNat h0
        rw [UInt8.toNat_ofNat', Nat.mod_eq_of_lt (show byteU (u + 1) k < 2 ^ 8 from Nat.mod_lt _ (by decide))] at this
        exact this
      have e4 : 2 ^ (8 * k + 1) ≤ 2 ^ n := Nat.pow_le_pow_right (by decide) (by omega)
      have e5 := hn.2 (by omega)
      rw [Nat.pow_succ] at e4
      have e6 : 2 ^ (8 * k) ≤ u + 1 := by omega
      have e7 : u + 1 < 2 ^ (8 * k) * 256 := by
        refine Nat.lt_of_lt_of_le hn.1 ?_
        rw [show (256 : Nat) = 2 ^ 8 by decide, ← Nat.pow_add]
        exact Nat.pow_le_pow_right (by decide) (by omega)
      have e8 : (u + 1) / 2 ^ (8 * k) < 256 := Nat.div_lt_of_lt_mul e7
      have e9 : 0 < (u + 1) / 2 ^ (8 * k) := Nat.div_pos e6 (Nat.pow_pos (by decide))
      have : byteU (u + 1) k = (u + 1) / 2 ^ (8 * k) := Nat.mod_eq_of_lt e8
      omega
    · refine BSim.run hm hX0 (S := [eLen (u + 1) n]) (AllOk.mem ⟨hs.spec0 rfl, trivial⟩) ok89 (by kernel_rfl) rfl 300 [] (fun I => gC (eLen (u + 1) n) (magT I (u + 1) ((n + 7) / 8))) (mag_run u n h1 h2) ?_
      rw [gC_iff]
      exact magT_of (pdec_iff.2 (Leaf.flat fun _ _ => .plain (.str (magL (u + 1) ((n + 7) / 8)).length (enc (magL (u + 1) ((n + 7) / 8))))))
end Go.Proofs.YtnljmpeaeajcoaaGreatDoor

namespace Go.Proofs.YtnljmpeaeajcoaaGreatDoor
open Go Go.Eng Go.Vi
local instance modeI5 : Go.Eng.Mode := Sy

/-! TrimLeft of zeros -/
noncomputable def byte0 (l : List UInt8) : Nat := Nat.mod (Nat.div (enc l) (Nat.pow 256 0)) 256
theorem byte0_eq (b : UInt8) (l : List UInt8) : byte0 (b :: l) = b.toNat := by
  have := byteE_eq (b :: l) 0 (by simp)
  exact Int.ofNat.inj this
noncomputable def tailA (l : List UInt8) : AV := .str (Nat.sub l.length 1) (Nat.mod (Nat.div (enc l) (Nat.pow 256 1)) (Nat.pow 256 (Nat.sub l.length 1)))
theorem enc_lt : ∀ l : List UInt8, enc l < 256 ^ l.length
  | [] => by simp [enc]
  | b :: l => by
    have h1 := enc_lt l
    have h2 := b.toNat_lt
    show b.toNat + 256 * enc l < 256 ^ (l.length + 1)
    rw [Nat.pow_succ]
    omega
theorem tailA_eq (b : UInt8) (l : List UInt8) : tailA (b :: l) = strA l := by
  have h2 := b.toNat_lt
  show AV.str l.length ((b.toNat + 256 * enc l) / 256 ^ 1 % 256 ^ l.length) = AV.str l.length (enc l)
  rw [Nat.pow_one, Nat.add_mul_div_left b.toNat (enc l) (by decide), Nat.div_eq_of_lt (show b.toNat < 256 by omega), Nat.zero_add, Nat.mod_eq_of_lt (enc_lt l)]
/-- without zeros at the head -/
def dropZ : List UInt8 → List UInt8
  | [] => []
  | b :: l => if b = 0 then dropZ l else b :: l
theorem ok150 : FnOk Tryz.prog 150 Tryz.f150 := ⟨Tryz.func150, by kernel_rfl, by kernel_rfl⟩
noncomputable def bodyOf (c : Code) : Code := match c with | .block _ b => b | .loop b => b | _ => .skip
noncomputable def blk0 : Code := lhs (rhs (codeOf Tryz.f150))
noncomputable def loop0 : Code := bodyOf (bodyOf blk0)
noncomputable def runL (l : List UInt8) (I : AE → List (Option AV) → List (Option Blk) → Bool) : Bool :=
  Eng.exec Tryz.prog X0 [] 60 Tryz.f150.ntmps loop0 (mkFr [(0, strA l), (1, .int .u8 0)]) (mkMem []) (fun o fr' M' => I o (lv [0, 1] fr') (mv [] M'))
theorem runL_nil (I : AE → List (Option AV) → List (Option Blk) → Bool) : runL [] I = I (.exit 0) [some (strA []), some (.int .u8 0)] [] := by kernel_rfl
theorem runL_cons (b : UInt8) (l : List UInt8) (I : AE → List (Option AV) → List (Option Blk) → Bool) :
    runL (b :: l) I = gIf (ieq (.ofNat (byte0 (b :: l))) 0) (I .normal [some (tailA (b :: l)), some (.int .u8 0)] []) (I (.exit 0) [some (strA (b :: l)), some (.int .u8 0)] []) := by kernel_rfl
theorem dropZ_cons (b : UInt8) (l : List UInt8) : (b = 0 → dropZ (b :: l) = dropZ l) ∧ (b ≠ 0 → dropZ (b :: l) = b :: l) := ⟨fun h => if_pos h, fun h => if_neg h⟩
noncomputable def slotsL (s : List UInt8) : List (Nat × AV) := [(0, strA s), (1, .int .u8 0)]
theorem blk0_eq : blk0 = .block 0 (.loop loop0) := by kernel_rfl
theorem loop_c (l : List UInt8) {fr : Fr} {M : Mem} (hI : lv [0, 1] fr = [some (strA l), some (.int .u8 0)]) :
    W Tryz.prog Tryz.f150.ntmps 0 (.loop loop0) fr M fun o fr' _ => o = .exit 0 ∧ fr'.get 0 = some (strA (dropZ l)) := by
  refine W.loopF (σ := { s : List UInt8 // dropZ s = dropZ l }) (fun s => slotsL s.1) (fun s => s.1.length) (fun s x hx => ?_) (fun s => ?_) ⟨l, rfl⟩ hI
  · simp only [vals2, slotsL, List.map_cons, List.map_nil, List.mem_cons, List.not_mem_nil, or_false] at hx
    rcases hx with rfl | rfl
    · exact Option.some_ne_none (strA s.1)
    · exact Option.some_ne_none (AV.int .u8 0)
  · obtain ⟨s, hs⟩ := s
    cases s with
    | nil =>
      refine W.run hm hX0 (S := []) (fun _ h => by cases h) 60 [0, 1] [] (fun I => I (.exit 0) [some (strA []), some (.int .u8 0)] []) (fun I => runL_nil I) (pdec_iff.2 fun fr' M' hv _ => .inr ⟨by simp, rfl, ?_⟩)
      simp only [lv, List.map_cons, List.map_nil, List.cons.injEq] at hv
      rw [hv.1, ← hs]; rfl
    | cons b s =>
      refine W.run hm hX0 (S := []) (fun _ h => by cases h) 60 [0, 1] [] (fun I => gIf (ieq (.ofNat (byte0 (b :: s))) 0) (I .normal [some (tailA (b :: s)), some (.int .u8 0)] []) (I (.exit 0) [some (strA (b :: s)), some (.int .u8 0)] [])) (fun I => runL_cons b s I) ?_
      rw [byte0_eq, tailA_eq]
      refine gIf_of (fun hc => pdec_iff.2 fun fr' M' hv _ => .inl ⟨rfl, ⟨s, ?_⟩, ?_, ?_⟩) (fun hc => pdec_iff.2 fun fr' M' hv _ => .inr ⟨by simp, rfl, ?_⟩)
      · have h0 : b.toNat = 0 := by
          have : Nat.beq b.toNat 0 = true := hc
          rwa [Nat.beq_eq] at this
        rw [← hs, (dropZ_cons b s).1 (UInt8.toNat_inj.1 h0)]
      · show s.length < (b :: s).length; simp
      · exact hv
      · have h0 : b ≠ 0 := by
          rintro rfl
          cases hc
        simp only [lv, List.map_cons, List.map_nil, List.cons.injEq] at hv
        rw [hv.1, ← hs, (dropZ_cons b s).2 h0]
theorem trimByte_c (l : List UInt8) : BSim Tryz.prog 150 [strA l, .int .u8 0] [] [] (strA (dropZ l)) := by
  refine BSim.of_W ok150.at_ (codeOf_some ok150.body) ok150.name (nble_le (by rfl)) rfl ?_
  refine W.parts (by kernel_rfl) (W.run hm hX0 (S := []) (fun _ h => by cases h) 60 [0, 1] [] (fun I => I .normal [some (strA l), some (.int .u8 0)] []) (fun I => by kernel_rfl) (pdec_iff.2 fun fr1 M1 hv1 _ => ?_))
  refine W.parts (by kernel_rfl) ?_
  show W Tryz.prog Tryz.f150.ntmps 0 blk0 fr1 M1 _
  rw [blk0_eq]
  refine W.block ((loop_c l hv1).mono fun o fr2 M2 h => ?_)
  obtain ⟨rfl, h2⟩ := h
  show W Tryz.prog Tryz.f150.ntmps 0 (rhs (rhs (codeOf Tryz.f150))) fr2 M2 _
  refine W.next (ts := [0]) (π := []) (vs := [some (strA (dropZ l))]) (bs := []) (by simp [lv, h2]) rfl [(0, strA (dropZ l))] [] rfl rfl rfl (by unfold okPi; decide) (by simp) (by simp) ?_
  refine W.finRun hm hX0 (S := []) (fun _ h => by cases h) 60 [] (fun I => I (strA (dropZ l)) []) (fun I => by kernel_rfl) (pdec_iff.2 (Leaf.flat fun _ _ => .plain (.str (dropZ l).length (enc (dropZ l)))))
/-! TrimLeft -/
theorem ok143 : FnOk Tryz.prog 143 Tryz.f143 := ⟨Tryz.func143, by kernel_rfl, by kernel_rfl⟩
noncomputable def eTrim (l : List UInt8) : FuncId × SEnt := (150, ⟨[strA l, .int .u8 0], [], strA (dropZ l)⟩)
theorem trim_c (l : List UInt8) : BSim Tryz.prog 143 [strA l, strA [0]] [] [] (strA (dropZ l)) := by
  cases l with
  | nil => exact BSim.run hm hX0 (S := []) (fun _ h => by cases h) ok143 (by kernel_rfl) rfl 60 [] (fun I => I (strA []) []) (fun I => by kernel_rfl) (pdec_iff.2 (Leaf.flat fun _ _ => .plain (.str 0 0)))
  | cons b l =>
    refine BSim.run hm hX0 (S := [eTrim (b :: l)]) (AllOk.mem ⟨(trimByte_c (b :: l)).spec0 rfl, trivial⟩) ok143 (by kernel_rfl) rfl 60 [] (fun I => gC (eTrim (b :: l)) (I (strA (dropZ (b :: l))) [])) (fun I => by kernel_rfl) ?_
    rw [gC_iff]
    exact pdec_iff.2 (Leaf.flat fun _ _ => .plain (.str (dropZ (b :: l)).length (enc (dropZ (b :: l)))))
end Go.Proofs.YtnljmpeaeajcoaaGreatDoor

namespace Go.Proofs.YtnljmpeaeajcoaaGreatDoor
open Go Go.Eng Go.Vi
local instance modeI6 : Go.Eng.Mode := Sy

/-! compare -/
theorem hX1s : ∀ f x, X1 f = some x → ExtSpec Tryz.prog f x := hX1
theorem ieq_self (n : Nat) : ieq (.ofNat n) (.ofNat n) = true := by show Nat.beq n n = true; rw [Nat.beq_eq]
theorem ok108 : FnOk Tryz.prog 108 Tryz.f108 := ⟨Tryz.func108, by kernel_rfl, by kernel_rfl⟩
theorem ok128 : FnOk Tryz.prog 128 Tryz.f128 := ⟨Tryz.func128, by kernel_rfl, by kernel_rfl⟩
theorem ok109 : FnOk Tryz.prog 109 Tryz.f109 := ⟨Tryz.func109, by kernel_rfl, by kernel_rfl⟩
noncomputable def i1 (I : AV → List (Option Blk) → Bool) (n : Int) : Bool := I (.int .i64 n) []
noncomputable def cmpT (x y : Nat) (I : AV → List (Option Blk) → Bool) : Bool :=
  gIf (Bool.not (ieq (.ofNat x) (.ofNat x))) (gIf (Bool.not (ieq (.ofNat y) (.ofNat y))) (i1 I 0) (i1 I (-1)))
    (gIf (Bool.not (ieq (.ofNat y) (.ofNat y))) (i1 I 1) (gIf (ilt (.ofNat x) (.ofNat y)) (i1 I (-1)) (gIf (ilt (.ofNat y) (.ofNat x)) (i1 I 1) (i1 I 0))))
noncomputable def run108 (x y : Nat) (I : AV → List (Option Blk) → Bool) : Bool :=
  Eng.exec Tryz.prog X1 [] 300 Tryz.f108.ntmps (codeOf Tryz.f108) (mkFr (argSlots [.int .i64 (.ofNat x), .int .i64 (.ofNat y)] 0)) (mkMem (rowsOf [])) (fun o fr M => endK o (resK Tryz.prog fr M Tryz.f108.results.toList fun vs => I (oneOf vs) (mv [] M)))
theorem cmp_run (x y : Nat) : ∀ I, run108 x y I = cmpT x y I := fun I => by kernel_rfl
def cmpN (x y : Nat) : Int := if x < y then -1 else if y < x then 1 else 0
theorem natlt (x y : Nat) : ilt (.ofNat x) (.ofNat y) = decide (x < y) := by
  rw [ilt_iff]; simp
theorem cmp_c (x y : Nat) : BSim Tryz.prog 108 [.int .i64 (.ofNat x), .int .i64 (.ofNat y)] [] [] (.int .i64 (cmpN x y)) := by
  refine BSim.run hm hX1s (S := []) (fun _ h => by cases h) ok108 (by kernel_rfl) rfl 300 [] (fun I => cmpT x y I) (cmp_run x y) ?_
  unfold cmpT
  rw [ieq_self, ieq_self, natlt, natlt]
  refine gIf_of (fun h => by cases h) fun _ => gIf_of (fun h => by cases h) fun _ => gIf_of (fun h => ?_) fun h => gIf_of (fun h' => ?_) fun h' => ?_
  · have e : cmpN x y = -1 := if_pos (of_decide_eq_true h)
    rw [e]; exact pdec_iff.2 (Leaf.flat fun _ _ => .plain (.int .i64 (-1)))
  · have e : cmpN x y = 1 := by unfold cmpN; rw [if_neg (of_decide_eq_false h), if_pos (of_decide_eq_true h')]
    rw [e]; exact pdec_iff.2 (Leaf.flat fun _ _ => .plain (.int .i64 1))
  · have e : cmpN x y = 0 := by unfold cmpN; rw [if_neg (of_decide_eq_false h), if_neg (of_decide_eq_false h')]
    rw [e]; exact pdec_iff.2 (Leaf.flat fun _ _ => .plain (.int .i64 0))
noncomputable def run128 (x y : List UInt8) (I : AV → List (Option Blk) → Bool) : Bool :=
  Eng.exec Tryz.prog X1 [] 300 Tryz.f128.ntmps (codeOf Tryz.f128) (mkFr (argSlots [strA x, strA y] 0)) (mkMem (rowsOf [])) (fun o fr M => endK o (resK Tryz.prog fr M Tryz.f128.results.toList fun vs => I (oneOf vs) (mv [] M)))
theorem scmp_run (x y : List UInt8) : ∀ I, run128 x y I = gIf (seqA x.length (enc x) y.length (enc y)) (i1 I 0) (gIf (sltA x.length (enc x) y.length (enc y)) (i1 I (-1)) (i1 I 1)) := fun I => by kernel_rfl
def scmpN (x y : List UInt8) : Int := if x = y then 0 else if Op.bytesLess x y then -1 else 1
theorem scmp_c (x y : List UInt8) : BSim Tryz.prog 128 [strA x, strA y] [] [] (.int .i64 (scmpN x y)) := by
  refine BSim.run hm hX1s (S := []) (fun _ h => by cases h) ok128 (by kernel_rfl) rfl 300 [] _ (scmp_run x y) ?_
  rw [sltA_iff]
  refine gIf_of (fun h => ?_) fun h => gIf_of (fun h' => ?_) fun h' => ?_
  · have e : scmpN x y = 0 := if_pos (by rw [seqA_iff] at h; simpa using h)
    rw [e]; exact pdec_iff.2 (Leaf.flat fun _ _ => .plain (.int .i64 0))
  · have e : scmpN x y = -1 := by unfold scmpN; rw [if_neg (by rw [seqA_iff] at h; simpa using h), if_pos h']
    rw [e]; exact pdec_iff.2 (Leaf.flat fun _ _ => .plain (.int .i64 (-1)))
  · have e : scmpN x y = 1 := by unfold scmpN; rw [if_neg (by rw [seqA_iff] at h; simpa using h), if_neg (by simp [h'])]
    rw [e]; exact pdec_iff.2 (Leaf.flat fun _ _ => .plain (.int .i64 1))
/-- both together -/
def compareN (x y : List UInt8) : Int := if cmpN x.length y.length = 0 then scmpN x y else cmpN x.length y.length
noncomputable def eCmp (x y : Nat) (c : Int) : FuncId × SEnt := (108, ⟨[.int .i64 (.ofNat x), .int .i64 (.ofNat y)], [], .int .i64 c⟩)
noncomputable def eScmp (x y : List UInt8) (c : Int) : FuncId × SEnt := (128, ⟨[strA x, strA y], [], .int .i64 c⟩)
theorem cmpN_3 (x y : Nat) : cmpN x y = -1 ∨ cmpN x y = 0 ∨ cmpN x y = 1 := by
  unfold cmpN
  by_cases h : x < y
  · exact .inl (if_pos h)
  · rw [if_neg h]
    by_cases h' : y < x
    · exact .inr (.inr (if_pos h'))
    · exact .inr (.inl (if_neg h'))
theorem scmpN_3 (x y : List UInt8) : scmpN x y = -1 ∨ scmpN x y = 0 ∨ scmpN x y = 1 := by
  unfold scmpN
  by_cases h : x = y
  · exact .inr (.inl (if_pos h))
  · rw [if_neg h]
    by_cases h' : Op.bytesLess x y = true
    · exact .inl (if_pos h')
    · exact .inr (.inr (if_neg h'))
theorem compare_of {x y : List UInt8} {c d r : Int} (hc : BSim Tryz.prog 108 [.int .i64 (.ofNat x.length), .int .i64 (.ofNat y.length)] [] [] (.int .i64 c)) (hd : BSim Tryz.prog 128 [strA x, strA y] [] [] (.int .i64 d))
    (hrun : ∀ I : AV → List (Option Blk) → Bool, Eng.exec Tryz.prog X0 [eCmp x.length y.length c, eScmp x y d] 100 Tryz.f109.ntmps (codeOf Tryz.f109) (mkFr (argSlots [strA x, strA y] 0)) (mkMem (rowsOf [])) (fun o fr M => endK o (resK Tryz.prog fr M Tryz.f109.results.toList fun vs => I (oneOf vs) (mv [] M))) = gC (eCmp x.length y.length c) (gC (eScmp x y d) (i1 I r))) :
    BSim Tryz.prog 109 [strA x, strA y] [] [] (.int .i64 r) := by
  refine BSim.run hm hX0 (S := [eCmp x.length y.length c, eScmp x y d]) (AllOk.mem ⟨hc.spec0 rfl, hd.spec0 rfl, trivial⟩) ok109 (by kernel_rfl) rfl 100 [] _ hrun ?_
  simp only [gC_iff]
  exact pdec_iff.2 (Leaf.flat fun _ _ => .plain (.int .i64 r))
theorem compare_c (x y : List UInt8) : BSim Tryz.prog 109 [strA x, strA y] [] [] (.int .i64 (compareN x y)) := by
  have h1 := cmp_c x.length y.length
  have h2 := scmp_c x y
  unfold compareN
  rcases cmpN_3 x.length y.length with e | e | e <;> rcases scmpN_3 x y with e' | e' | e' <;> rw [e] at h1 <;> rw [e'] at h2 <;> simp only [e, e'] <;> exact compare_of h1 h2 (fun I => by kernel_rfl)
end Go.Proofs.YtnljmpeaeajcoaaGreatDoor

namespace Go.Proofs.YtnljmpeaeajcoaaGreatDoor
open Go Go.Eng Go.Vi
local instance modeI7 : Go.Eng.Mode := Sy

/-! nat.bytes: the runs -/
noncomputable def u32D (n : Nat) : Dat := .int .u32 (.ofNat n)
noncomputable def rowD (l : List Nat) : List Dat := List.rec (motive := fun _ => List Dat) [] (fun d _ r => u32D d :: r) l
noncomputable def run131 (S : List (FuncId × SEnt)) (n : Nat) (row : List Dat) (I : AV → List (Option Blk) → Bool) : Bool :=
  Eng.exec Tryz.prog X0 S 300 Tryz.f131.ntmps (codeOf Tryz.f131) (mkFr (argSlots [.slice 0 0 n n false] 0)) (mkMem (rowsOf [row])) (fun o fr M => endK o (resK Tryz.prog fr M Tryz.f131.results.toList fun vs => I (oneOf vs) (mv [0] M)))
noncomputable def rawB (ds : List Nat) : List Nat := List.rec (motive := fun _ => List Nat) [] (fun d _ ih => ih ++ [byteU d 3, byteU d 2, byteU d 1, byteU d 0]) ds
noncomputable def gAll (raw : List Nat) (b : Bool) : Bool := List.rec (motive := fun _ => Bool) b (fun r _ ih => gB (Nat.blt r 256) ih) raw
noncomputable def rawS (ds : List Nat) : List UInt8 := (rawB ds).map UInt8.ofNat
noncomputable def eRaw (n : Nat) (ds : List Nat) : FuncId × SEnt := (143, ⟨[.str n (encN (rawB ds)), strA [0]], [], strA (dropZ (rawS ds))⟩)
noncomputable def rowB (l : List Nat) : List (Option Blk) := [some (.row (toAVs (rowD l)) false 1)]
def zrs (z : Nat) : List Nat := List.replicate z 0
theorem by_0_0 (I : AV → List (Option Blk) → Bool) : run131 [] 0 (rowD []) I = I (.str 0 0) (rowB []) := by kernel_rfl
theorem by_0_1 (I : AV → List (Option Blk) → Bool) : run131 [] 1 (rowD [0]) I = I (.str 0 0) (rowB [0]) := by kernel_rfl
theorem by_0_2 (I : AV → List (Option Blk) → Bool) : run131 [] 2 (rowD [0, 0]) I = I (.str 0 0) (rowB [0, 0]) := by kernel_rfl
theorem by_0_3 (I : AV → List (Option Blk) → Bool) : run131 [] 3 (rowD [0, 0, 0]) I = I (.str 0 0) (rowB [0, 0, 0]) := by kernel_rfl
theorem by_0_4 (I : AV → List (Option Blk) → Bool) : run131 [] 4 (rowD [0, 0, 0, 0]) I = I (.str 0 0) (rowB [0, 0, 0, 0]) := by kernel_rfl
theorem by_0_5 (I : AV → List (Option Blk) → Bool) : run131 [] 5 (rowD [0, 0, 0, 0, 0]) I = I (.str 0 0) (rowB [0, 0, 0, 0, 0]) := by kernel_rfl
theorem by_0_6 (I : AV → List (Option Blk) → Bool) : run131 [] 6 (rowD [0, 0, 0, 0, 0, 0]) I = I (.str 0 0) (rowB [0, 0, 0, 0, 0, 0]) := by kernel_rfl
theorem by_1_0 (d0 : Nat) (I : AV → List (Option Blk) → Bool) : run131 [eRaw 4 [d0 + 1]] 1 (rowD [d0 + 1]) I = gAll (rawB [d0 + 1]) (gC (eRaw 4 [d0 + 1]) (I (strA (dropZ (rawS [d0 + 1]))) (rowB [d0 + 1]))) := by kernel_rfl
theorem by_1_1 (d0 : Nat) (I : AV → List (Option Blk) → Bool) : run131 [eRaw 4 [d0 + 1]] 2 (rowD [d0 + 1, 0]) I = gAll (rawB [d0 + 1]) (gC (eRaw 4 [d0 + 1]) (I (strA (dropZ (rawS [d0 + 1]))) (rowB [d0 + 1, 0]))) := by kernel_rfl
theorem by_1_2 (d0 : Nat) (I : AV → List (Option Blk) → Bool) : run131 [eRaw 4 [d0 + 1]] 3 (rowD [d0 + 1, 0, 0]) I = gAll (rawB [d0 + 1]) (gC (eRaw 4 [d0 + 1]) (I (strA (dropZ (rawS [d0 + 1]))) (rowB [d0 + 1, 0, 0]))) := by kernel_rfl
theorem by_1_3 (d0 : Nat) (I : AV → List (Option Blk) → Bool) : run131 [eRaw 4 [d0 + 1]] 4 (rowD [d0 + 1, 0, 0, 0]) I = gAll (rawB [d0 + 1]) (gC (eRaw 4 [d0 + 1]) (I (strA (dropZ (rawS [d0 + 1]))) (rowB [d0 + 1, 0, 0, 0]))) := by kernel_rfl
theorem by_1_4 (d0 : Nat) (I : AV → List (Option Blk) → Bool) : run131 [eRaw 4 [d0 + 1]] 5 (rowD [d0 + 1, 0, 0, 0, 0]) I = gAll (rawB [d0 + 1]) (gC (eRaw 4 [d0 + 1]) (I (strA (dropZ (rawS [d0 + 1]))) (rowB [d0 + 1, 0, 0, 0, 0]))) := by kernel_rfl
theorem by_1_5 (d0 : Nat) (I : AV → List (Option Blk) → Bool) : run131 [eRaw 4 [d0 + 1]] 6 (rowD [d0 + 1, 0, 0, 0, 0, 0]) I = gAll (rawB [d0 + 1]) (gC (eRaw 4 [d0 + 1]) (I (strA (dropZ (rawS [d0 + 1]))) (rowB [d0 + 1, 0, 0, 0, 0, 0]))) := by kernel_rfl
theorem by_2_0 (d0 d1 : Nat) (I : AV → List (Option Blk) → Bool) : run131 [eRaw 8 [d0, d1 + 1]] 2 (rowD [d0, d1 + 1]) I = gAll (rawB [d0, d1 + 1]) (gC (eRaw 8 [d0, d1 + 1]) (I (strA (dropZ (rawS [d0, d1 + 1]))) (rowB [d0, d1 + 1]))) := by kernel_rfl
theorem by_2_1 (d0 d1 : Nat) (I : AV → List (Option Blk) → Bool) : run131 [eRaw 8 [d0, d1 + 1]] 3 (rowD [d0, d1 + 1, 0]) I = gAll (rawB [d0, d1 + 1]) (gC (eRaw 8 [d0, d1 + 1]) (I (strA (dropZ (rawS [d0, d1 + 1]))) (rowB [d0, d1 + 1, 0]))) := by kernel_rfl
theorem by_2_2 (d0 d1 : Nat) (I : AV → List (Option Blk) → Bool) : run131 [eRaw 8 [d0, d1 + 1]] 4 (rowD [d0, d1 + 1, 0, 0]) I = gAll (rawB [d0, d1 + 1]) (gC (eRaw 8 [d0, d1 + 1]) (I (strA (dropZ (rawS [d0, d1 + 1]))) (rowB [d0, d1 + 1, 0, 0]))) := by kernel_rfl
theorem by_2_3 (d0 d1 : Nat) (I : AV → List (Option Blk) → Bool) : run131 [eRaw 8 [d0, d1 + 1]] 5 (rowD [d0, d1 + 1, 0, 0, 0]) I = gAll (rawB [d0, d1 + 1]) (gC (eRaw 8 [d0, d1 + 1]) (I (strA (dropZ (rawS [d0, d1 + 1]))) (rowB [d0, d1 + 1, 0, 0, 0]))) := by kernel_rfl
theorem by_2_4 (d0 d1 : Nat) (I : AV → List (Option Blk) → Bool) : run131 [eRaw 8 [d0, d1 + 1]] 6 (rowD [d0, d1 + 1, 0, 0, 0, 0]) I = gAll (rawB [d0, d1 + 1]) (gC (eRaw 8 [d0, d1 + 1]) (I (strA (dropZ (rawS [d0, d1 + 1]))) (rowB [d0, d1 + 1, 0, 0, 0, 0]))) := by kernel_rfl
theorem by_3_0 (d0 d1 d2 : Nat) (I : AV → List (Option Blk) → Bool) : run131 [eRaw 12 [d0, d1, d2 + 1]] 3 (rowD [d0, d1, d2 + 1]) I = gAll (rawB [d0, d1, d2 + 1]) (gC (eRaw 12 [d0, d1, d2 + 1]) (I (strA (dropZ (rawS [d0, d1, d2 + 1]))) (rowB [d0, d1, d2 + 1]))) := by kernel_rfl
theorem by_3_1 (d0 d1 d2 : Nat) (I : AV → List (Option Blk) → Bool) : run131 [eRaw 12 [d0, d1, d2 + 1]] 4 (rowD [d0, d1, d2 + 1, 0]) I = gAll (rawB [d0, d1, d2 + 1]) (gC (eRaw 12 [d0, d1, d2 + 1]) (I (strA (dropZ (rawS [d0, d1, d2 + 1]))) (rowB [d0, d1, d2 + 1, 0]))) := by kernel_rfl
theorem by_3_2 (d0 d1 d2 : Nat) (I : AV → List (Option Blk) → Bool) : run131 [eRaw 12 [d0, d1, d2 + 1]] 5 (rowD [d0, d1, d2 + 1, 0, 0]) I = gAll (rawB [d0, d1, d2 + 1]) (gC (eRaw 12 [d0, d1, d2 + 1]) (I (strA (dropZ (rawS [d0, d1, d2 + 1]))) (rowB [d0, d1, d2 + 1, 0, 0]))) := by kernel_rfl
theorem by_3_3 (d0 d1 d2 : Nat) (I : AV → List (Option Blk) → Bool) : run131 [eRaw 12 [d0, d1, d2 + 1]] 6 (rowD [d0, d1, d2 + 1, 0, 0, 0]) I = gAll (rawB [d0, d1, d2 + 1]) (gC (eRaw 12 [d0, d1, d2 + 1]) (I (strA (dropZ (rawS [d0, d1, d2 + 1]))) (rowB [d0, d1, d2 + 1, 0, 0, 0]))) := by kernel_rfl
theorem by_4_0 (d0 d1 d2 d3 : Nat) (I : AV → List (Option Blk) → Bool) : run131 [eRaw 16 [d0, d1, d2, d3 + 1]] 4 (rowD [d0, d1, d2, d3 + 1]) I = gAll (rawB [d0, d1, d2, d3 + 1]) (gC (eRaw 16 [d0, d1, d2, d3 + 1]) (I (strA (dropZ (rawS [d0, d1, d2, d3 + 1]))) (rowB [d0, d1, d2, d3 + 1]))) := by kernel_rfl
theorem by_4_1 (d0 d1 d2 d3 : Nat) (I : AV → List (Option Blk) → Bool) : run131 [eRaw 16 [d0, d1, d2, d3 + 1]] 5 (rowD [d0, d1, d2, d3 + 1, 0]) I = gAll (rawB [d0, d1, d2, d3 + 1]) (gC (eRaw 16 [d0, d1, d2, d3 + 1]) (I (strA (dropZ (rawS [d0, d1, d2, d3 + 1]))) (rowB [d0, d1, d2, d3 + 1, 0]))) := by kernel_rfl
theorem by_4_2 (d0 d1 d2 d3 : Nat) (I : AV → List (Option Blk) → Bool) : run131 [eRaw 16 [d0, d1, d2, d3 + 1]] 6 (rowD [d0, d1, d2, d3 + 1, 0, 0]) I = gAll (rawB [d0, d1, d2, d3 + 1]) (gC (eRaw 16 [d0, d1, d2, d3 + 1]) (I (strA (dropZ (rawS [d0, d1, d2, d3 + 1]))) (rowB [d0, d1, d2, d3 + 1, 0, 0]))) := by kernel_rfl
theorem by_5_0 (d0 d1 d2 d3 d4 : Nat) (I : AV → List (Option Blk) → Bool) : run131 [eRaw 20 [d0, d1, d2, d3, d4 + 1]] 5 (rowD [d0, d1, d2, d3, d4 + 1]) I = gAll (rawB [d0, d1, d2, d3, d4 + 1]) (gC (eRaw 20 [d0, d1, d2, d3, d4 + 1]) (I (strA (dropZ (rawS [d0, d1, d2, d3, d4 + 1]))) (rowB [d0, d1, d2, d3, d4 + 1]))) := by kernel_rfl
theorem by_5_1 (d0 d1 d2 d3 d4 : Nat) (I : AV → List (Option Blk) → Bool) : run131 [eRaw 20 [d0, d1, d2, d3, d4 + 1]] 6 (rowD [d0, d1, d2, d3, d4 + 1, 0]) I = gAll (rawB [d0, d1, d2, d3, d4 + 1]) (gC (eRaw 20 [d0, d1, d2, d3, d4 + 1]) (I (strA (dropZ (rawS [d0, d1, d2, d3, d4 + 1]))) (rowB [d0, d1, d2, d3, d4 + 1, 0]))) := by kernel_rfl
theorem by_6_0 (d0 d1 d2 d3 d4 d5 : Nat) (I : AV → List (Option Blk) → Bool) : run131 [eRaw 24 [d0, d1, d2, d3, d4, d5 + 1]] 6 (rowD [d0, d1, d2, d3, d4, d5 + 1]) I = gAll (rawB [d0, d1, d2, d3, d4, d5 + 1]) (gC (eRaw 24 [d0, d1, d2, d3, d4, d5 + 1]) (I (strA (dropZ (rawS [d0, d1, d2, d3, d4, d5 + 1]))) (rowB [d0, d1, d2, d3, d4, d5 + 1]))) := by kernel_rfl
end Go.Proofs.YtnljmpeaeajcoaaGreatDoor

namespace Go.Proofs.YtnljmpeaeajcoaaGreatDoor
open Go Go.Eng Go.Vi Go.Knuth
local instance modeI8 : Go.Eng.Mode := Sy

/-! nat.bytes -/
theorem be_dropZ : ∀ l : List UInt8, be (dropZ l) = be l
  | [] => rfl
  | b :: l => by
    by_cases h : b = 0
    · rw [(dropZ_cons b l).1 h, be_dropZ l, be_cons, h]; simp
    · rw [(dropZ_cons b l).2 h]
theorem dropZ_head : ∀ (l : List UInt8) (b : UInt8) (r : List UInt8), dropZ l = b :: r → b ≠ 0
  | [], b, r, h => by cases h
  | c :: l, b, r, h => by
    by_cases h0 : c = 0
    · rw [(dropZ_cons c l).1 h0] at h; exact dropZ_head l b r h
    · rw [(dropZ_cons c l).2 h0] at h
      obtain ⟨rfl, _⟩ := List.cons.inj h
      exact h0
theorem be_append (l m : List UInt8) : be (l ++ m) = be l * 256 ^ m.length + be m := by
  induction l with
  | nil => simp [be]
  | cons b l ih =>
    rw [List.cons_append, be_cons, be_cons, ih, List.length_append, Nat.pow_add, Nat.add_mul, Nat.mul_assoc]
    omega
theorem rawB_cons (d : Nat) (ds : List Nat) : rawB (d :: ds) = rawB ds ++ [byteU d 3, byteU d 2, byteU d 1, byteU d 0] := rfl
theorem rawB_lt : ∀ (ds : List Nat), ∀ b ∈ rawB ds, b < 256
  | [], b, h => by cases h
  | d :: ds, b, h => by
    rw [rawB_cons, List.mem_append] at h
    rcases h with h | h
    · exact rawB_lt ds b h
    · simp only [List.mem_cons, List.not_mem_nil, or_false] at h
      rcases h with rfl | rfl | rfl | rfl <;> exact Nat.mod_lt _ (by decide)
theorem rawS_be : ∀ (ds : List Nat), (∀ d ∈ ds, d < 4294967296) → be (rawS ds) = val 4294967296 ds
  | [], _ => rfl
  | d :: ds, h => by
    have ih := rawS_be ds fun x hx => h x (List.mem_cons_of_mem _ hx)
    have hd := h d (List.mem_cons_self ..)
    have e : rawS (d :: ds) = rawS ds ++ magL d 4 := by
      unfold rawS
      rw [rawB_cons, List.map_append]; rfl
    rw [e, be_append, ih, magL_be, magL_len, val]
    have e2 : (256 : Nat) ^ 4 = 4294967296 := by decide
    rw [e2, Nat.mod_eq_of_lt hd]
    omega
theorem eRaw_ok (n : Nat) (ds : List Nat) (hn : (rawB ds).length = n) : SSpec Tryz.prog (eRaw n ds).1 (eRaw n ds).2 := by
  have h := (trim_c (rawS ds)).spec0 rfl
  have e : strA (rawS ds) = .str n (encN (rawB ds)) := by
    unfold strA
    rw [encN_eq _ (rawB_lt ds)]
    simp [rawS, hn]
  rw [e] at h
  exact h
theorem gAll_of {raw : List Nat} {b : Bool} (h : ∀ r ∈ raw, r < 256) (hb : b = true) : gAll raw b = true := by
  induction raw with
  | nil => exact hb
  | cons r raw ih =>
    show gB (Nat.blt r 256) (gAll raw b) = true
    rw [gB_iff, Nat.blt_eq]
    exact ⟨h r (List.mem_cons_self ..), ih fun x hx => h x (List.mem_cons_of_mem _ hx)⟩
end Go.Proofs.YtnljmpeaeajcoaaGreatDoor

namespace Go.Proofs.YtnljmpeaeajcoaaGreatDoor
open Go Go.Eng Go.Vi Go.Knuth
local instance modeI9 : Go.Eng.Mode := Sy

theorem ok131 : FnOk Tryz.prog 131 Tryz.f131 := ⟨Tryz.func131, by kernel_rfl, by kernel_rfl⟩
theorem bytes_of {n m : Nat} {ds row : List Nat} (hm' : (rawB ds).length = m)
    (hrun : ∀ I, run131 [eRaw m ds] n (rowD row) I = gAll (rawB ds) (gC (eRaw m ds) (I (strA (dropZ (rawS ds))) (rowB row)))) : BSim Tryz.prog 131 [.slice 0 0 n n false] [rowD row] [rowD row] (strA (dropZ (rawS ds))) := by
  refine BSim.run hm hX0 (S := [eRaw m ds]) (AllOk.mem ⟨eRaw_ok m ds hm', trivial⟩) ok131 (by kernel_rfl) rfl 300 [0] _ hrun ?_
  refine gAll_of (rawB_lt ds) ?_
  rw [gC_iff]
  exact pdec_iff.2 (Leaf.box fun _ _ => .plain (.str (dropZ (rawS ds)).length (enc (dropZ (rawS ds)))))
theorem bytes_zero {n : Nat} {row : List Nat} (hrun : ∀ I, run131 [] n (rowD row) I = I (.str 0 0) (rowB row)) : BSim Tryz.prog 131 [.slice 0 0 n n false] [rowD row] [rowD row] (strA (dropZ (rawS []))) := by
  refine BSim.run hm hX0 (S := []) (fun _ h => by cases h) ok131 (by kernel_rfl) rfl 300 [0] _ hrun ?_
  exact pdec_iff.2 (Leaf.box fun _ _ => .plain (.str 0 0))
/-- the number stays, and what is left are digits of it -/
def BytesOf (ds : List Nat) : Prop := ∃ ds' : List Nat, val 4294967296 ds' = val 4294967296 ds ∧ (∀ d ∈ ds', d ∈ ds) ∧ BSim Tryz.prog 131 [.slice 0 0 ds.length ds.length false] [rowD ds] [rowD ds] (strA (dropZ (rawS ds')))
theorem bytes_ex : ∀ (ds : List Nat), ds.length ≤ 6 → BytesOf ds
  | [], _ => ⟨[], by simp [val], by simp, bytes_zero (fun I => by_0_0 I)⟩
  | [0], _ => ⟨[], by simp [val], by simp, bytes_zero (fun I => by_0_1 I)⟩
  | [d0 + 1], _ => ⟨[d0 + 1], by simp [val], by simp, bytes_of rfl (fun I => by_1_0 d0 I)⟩
  | [0, 0], _ => ⟨[], by simp [val], by simp, bytes_zero (fun I => by_0_2 I)⟩
  | [d0 + 1, 0], _ => ⟨[d0 + 1], by simp [val], by simp, bytes_of rfl (fun I => by_1_1 d0 I)⟩
  | [d0, d1 + 1], _ => ⟨[d0, d1 + 1], by simp [val], by simp, bytes_of rfl (fun I => by_2_0 d0 d1 I)⟩
  | [0, 0, 0], _ => ⟨[], by simp [val], by simp, bytes_zero (fun I => by_0_3 I)⟩
  | [d0 + 1, 0, 0], _ => ⟨[d0 + 1], by simp [val], by simp, bytes_of rfl (fun I => by_1_2 d0 I)⟩
  | [d0, d1 + 1, 0], _ => ⟨[d0, d1 + 1], by simp [val], by simp, bytes_of rfl (fun I => by_2_1 d0 d1 I)⟩
  | [d0, d1, d2 + 1], _ => ⟨[d0, d1, d2 + 1], by simp [val], by simp, bytes_of rfl (fun I => by_3_0 d0 d1 d2 I)⟩
  | [0, 0, 0, 0], _ => ⟨[], by simp [val], by simp, bytes_zero (fun I => by_0_4 I)⟩
  | [d0 + 1, 0, 0, 0], _ => ⟨[d0 + 1], by simp [val], by simp, bytes_of rfl (fun I => by_1_3 d0 I)⟩
  | [d0, d1 + 1, 0, 0], _ => ⟨[d0, d1 + 1], by simp [val], by simp, bytes_of rfl (fun I => by_2_2 d0 d1 I)⟩
  | [d0, d1, d2 + 1, 0], _ => ⟨[d0, d1, d2 + 1], by simp [val], by simp, bytes_of rfl (fun I => by_3_1 d0 d1 d2 I)⟩
  | [d0, d1, d2, d3 + 1], _ => ⟨[d0, d1, d2, d3 + 1], by simp [val], by simp, bytes_of rfl (fun I => by_4_0 d0 d1 d2 d3 I)⟩
  | [0, 0, 0, 0, 0], _ => ⟨[], by simp [val], by simp, bytes_zero (fun I => by_0_5 I)⟩
  | [d0 + 1, 0, 0, 0, 0], _ => ⟨[d0 + 1], by simp [val], by simp, bytes_of rfl (fun I => by_1_4 d0 I)⟩
  | [d0, d1 + 1, 0, 0, 0], _ => ⟨[d0, d1 + 1], by simp [val], by simp, bytes_of rfl (fun I => by_2_3 d0 d1 I)⟩
  | [d0, d1, d2 + 1, 0, 0], _ => ⟨[d0, d1, d2 + 1], by simp [val], by simp, bytes_of rfl (fun I => by_3_2 d0 d1 d2 I)⟩
  | [d0, d1, d2, d3 + 1, 0], _ => ⟨[d0, d1, d2, d3 + 1], by simp [val], by simp, bytes_of rfl (fun I => by_4_1 d0 d1 d2 d3 I)⟩
  | [d0, d1, d2, d3, d4 + 1], _ => ⟨[d0, d1, d2, d3, d4 + 1], by simp [val], by simp, bytes_of rfl (fun I => by_5_0 d0 d1 d2 d3 d4 I)⟩
  | [0, 0, 0, 0, 0, 0], _ => ⟨[], by simp [val], by simp, bytes_zero (fun I => by_0_6 I)⟩
  | [d0 + 1, 0, 0, 0, 0, 0], _ => ⟨[d0 + 1], by simp [val], by simp, bytes_of rfl (fun I => by_1_5 d0 I)⟩
  | [d0, d1 + 1, 0, 0, 0, 0], _ => ⟨[d0, d1 + 1], by simp [val], by simp, bytes_of rfl (fun I => by_2_4 d0 d1 I)⟩
  | [d0, d1, d2 + 1, 0, 0, 0], _ => ⟨[d0, d1, d2 + 1], by simp [val], by simp, bytes_of rfl (fun I => by_3_3 d0 d1 d2 I)⟩
  | [d0, d1, d2, d3 + 1, 0, 0], _ => ⟨[d0, d1, d2, d3 + 1], by simp [val], by simp, bytes_of rfl (fun I => by_4_2 d0 d1 d2 d3 I)⟩
  | [d0, d1, d2, d3, d4 + 1, 0], _ => ⟨[d0, d1, d2, d3, d4 + 1], by simp [val], by simp, bytes_of rfl (fun I => by_5_1 d0 d1 d2 d3 d4 I)⟩
  | [d0, d1, d2, d3, d4, d5 + 1], _ => ⟨[d0, d1, d2, d3, d4, d5 + 1], by simp [val], by simp, bytes_of rfl (fun I => by_6_0 d0 d1 d2 d3 d4 d5 I)⟩
  | _ :: _ :: _ :: _ :: _ :: _ :: _ :: _, h => absurd h (by simp)
/-- nat.bytes: the bytes of the number -/
theorem bytes_c (ds : List Nat) (hl : ds.length ≤ 6) (hB : ∀ d ∈ ds, d < 4294967296) : ∃ l : List UInt8, be l = val 4294967296 ds ∧ (∀ b r, l = b :: r → b ≠ 0) ∧ BSim Tryz.prog 131 [.slice 0 0 ds.length ds.length false] [rowD ds] [rowD ds] (strA l) := by
  obtain ⟨ds', h1, h2, h3⟩ := bytes_ex ds hl
  refine ⟨dropZ (rawS ds'), ?_, fun b r h => dropZ_head _ b r h, h3⟩
  rw [be_dropZ, rawS_be ds' fun d hd => hB d (h2 d hd), h1]
end Go.Proofs.YtnljmpeaeajcoaaGreatDoor

namespace Go.Proofs.YtnljmpeaeajcoaaGreatDoor
open Go Go.Eng Go.Vi
local instance modeI10 : Go.Eng.Mode := Sy

/-! digits: what the engine leaves in the row (run inlined in div) -/
noncomputable def dgF (cur b : Int) (s : Nat) : Int := IntKind.u32.wrap (Int.ofNat (Nat.lor (toU .u32 cur) (toU .u32 (IntKind.u32.wrap (Int.mul (IntKind.u32.wrap b) (Int.ofNat (Nat.pow 2 (shAmt .u32 s))))))))
/-- digit j of a string of length L, k of its bytes put in -/
noncomputable def dgE (x : List UInt8) (L j : Nat) (k : Nat) : Int := Nat.rec (motive := fun _ => Int) 0 (fun i cur => dgF cur (byteE x (L - 1 - (4 * j + i))) (8 * i)) k
theorem wrapU32 (n : Nat) (h : n < 4294967296) : IntKind.u32.wrap (.ofNat n) = .ofNat n := by
  simp [IntKind.wrap, IntKind.bits, IntKind.signed]
  omega
theorem toU32 (n : Nat) (h : n < 4294967296) : toU .u32 (.ofNat n) = n := Nat.mod_eq_of_lt h
theorem shAmt32 (s : Nat) (h : s ≤ 32) : shAmt .u32 s = s := by
  unfold shAmt
  have : Nat.ble s (bitsOf .u32) = true := by rw [Nat.ble_eq]; exact h
  rw [this]
theorem dgF_eq (a b s : Nat) (hs : s ≤ 24) (ha : a < 2 ^ s) (hb : b < 256) : dgF (.ofNat a) (.ofNat b) s = .ofNat (a + b * 2 ^ s) := by
  have h1 : 2 ^ s ≤ 2 ^ 24 := Nat.pow_le_pow_right (by decide) hs
  have h24 : (2 : Nat) ^ 24 = 16777216 := by decide
  have h2 : (b + 1) * 2 ^ s ≤ 256 * 2 ^ s := Nat.mul_le_mul_right _ hb
  rw [Nat.add_mul, Nat.one_mul] at h2
  unfold dgF
  rw [shAmt32 s (by omega), wrapU32 b (by omega)]
  have e1 : Int.mul (.ofNat b) (Int.ofNat (Nat.pow 2 s)) = .ofNat (b * 2 ^ s) := rfl
  rw [e1, wrapU32 (b * 2 ^ s) (by omega), toU32 a (by omega), toU32 (b * 2 ^ s) (by omega)]
  have e2 : Nat.lor a (b * 2 ^ s) = b * 2 ^ s + a := by
    rw [← lor_low b a s ha]; exact Nat.or_comm a (b * 2 ^ s)
  rw [e2, wrapU32 _ (by omega), Nat.add_comm]
/-- the same as a number -/
def dgN (x : List UInt8) (j : Nat) : Nat → Nat
  | 0 => 0
  | i + 1 => dgN x j i + (x.getD (x.length - 1 - (4 * j + i)) 0).toNat * 2 ^ (8 * i)
theorem dgN_lt (x : List UInt8) (j : Nat) : ∀ k, dgN x j k < 2 ^ (8 * k)
  | 0 => by simp [dgN]
  | k + 1 => by
    have ih := dgN_lt x j k
    have hb := (x.getD (x.length - 1 - (4 * j + k)) 0).toNat_lt
    have h2 : ((x.getD (x.length - 1 - (4 * j + k)) 0).toNat + 1) * 2 ^ (8 * k) ≤ 256 * 2 ^ (8 * k) := Nat.mul_le_mul_right _ hb
    rw [Nat.add_mul, Nat.one_mul] at h2
    show dgN x j k + _ < 2 ^ (8 * (k + 1))
    rw [Nat.mul_add, Nat.pow_add, Nat.mul_comm (2 ^ (8 * k)), show (2 : Nat) ^ (8 * 1) = 256 by decide]
    omega
theorem dgE_eq (x : List UInt8) (j : Nat) : ∀ k, k ≤ 4 → 4 * j + k ≤ x.length → dgE x x.length j k = .ofNat (dgN x j k)
  | 0, _, _ => rfl
  | k + 1, hk, hl => by
    have ih := dgE_eq x j k (by omega) (by omega)
    show dgF (dgE x x.length j k) (byteE x (x.length - 1 - (4 * j + k))) (8 * k) = _
    have hlt : x.length - 1 - (4 * j + k) < x.length := by omega
    rw [ih, byteE_eq x _ hlt, dgF_eq _ _ _ (by omega) (dgN_lt x j k) (UInt8.toNat_lt _)]
    show _ = Int.ofNat (dgN x j k + (x.getD (x.length - 1 - (4 * j + k)) 0).toNat * 2 ^ (8 * k))
    rw [List.getD_eq_getElem?_getD, List.getElem?_eq_getElem hlt]; rfl
noncomputable def run129 (x : List UInt8) (I : AV → List (Option Blk) → Bool) : Bool :=
  Eng.exec Tryz.prog X0 [] 600 Tryz.f129.ntmps (codeOf Tryz.f129) (mkFr (argSlots [strA x] 0)) (mkMem (rowsOf [])) (fun o fr M => endK o (resK Tryz.prog fr M Tryz.f129.results.toList fun vs => I (oneOf vs) (mv [0] M)))
theorem dig_5 (a b c d e : UInt8) (I : AV → List (Option Blk) → Bool) : run129 [a,b,c,d,e] I = I (.slice 0 0 2 2 false) [some (.row [.int .u32 (dgE [a,b,c,d,e] 5 0 4), .int .u32 (dgE [a,b,c,d,e] 5 1 1)] false 1)] := by kernel_rfl
end Go.Proofs.YtnljmpeaeajcoaaGreatDoor

namespace Go.Proofs.YtnljmpeaeajcoaaGreatDoor
open Go Go.Eng Go.Vi Go.Knuth
local instance modeI11 : Go.Eng.Mode := Sy

/-! digits: a new row -/
noncomputable def dgRow (l : List UInt8) : List AV := (List.range ((l.length + 3) / 4)).map fun j => .int .u32 (dgE l l.length j (min 4 (l.length - 4 * j)))
noncomputable def dgL (l : List UInt8) : List Nat := (List.range ((l.length + 3) / 4)).map fun j => dgN l j (min 4 (l.length - 4 * j))
theorem rowD_map (f : Nat → Nat) : ∀ l : List Nat, toAVs (rowD (l.map f)) = l.map fun j => AV.int .u32 (.ofNat (f j))
  | [] => rfl
  | x :: l => congrArg (AV.int .u32 (.ofNat (f x)) :: ·) (rowD_map f l)
theorem dgRow_eq (l : List UInt8) : dgRow l = toAVs (rowD (dgL l)) := by
  unfold dgRow dgL
  rw [rowD_map]
  apply List.map_congr_left
  intro j hj
  have hj := List.mem_range.1 hj
  rw [dgE_eq l j _ (by omega) (by omega)]
def leN : List UInt8 → Nat
  | [] => 0
  | b :: r => b.toNat + 256 * leN r
theorem leN_append (r s : List UInt8) : leN (r ++ s) = leN r + 256 ^ r.length * leN s := by
  induction r with
  | nil => simp [leN]
  | cons b r ih =>
    rw [List.cons_append, leN, leN, ih, List.length_cons, Nat.pow_succ, Nat.mul_add, Nat.mul_comm (256 ^ r.length) 256, Nat.mul_assoc]
    omega
theorem be_le (l : List UInt8) : be l = leN l.reverse := by
  induction l with
  | nil => rfl
  | cons b l ih => rw [be_cons, List.reverse_cons, leN_append, ih, List.length_reverse, Nat.add_comm, Nat.mul_comm]; simp [leN]
theorem leN_take (l : List UInt8) (j : Nat) : ∀ k, 4 * j + k ≤ l.length → leN (l.reverse.take (4 * j + k)) = leN (l.reverse.take (4 * j)) + 256 ^ (4 * j) * dgN l j k
  | 0, _ => by simp [dgN]
  | k + 1, h => by
    have ih := leN_take l j k (by omega)
    have hlt : 4 * j + k < l.reverse.length := by simp; omega
    have e : l.reverse.take (4 * j + (k + 1)) = l.reverse.take (4 * j + k) ++ [l.reverse[4 * j + k]] := by rw [← Nat.add_assoc, List.take_succ_eq_append_getElem hlt]
    have e2 : l.reverse[4 * j + k] = l.getD (l.length - 1 - (4 * j + k)) 0 := by
      rw [List.getElem_reverse, List.getD_eq_getElem?_getD, List.getElem?_eq_getElem (by omega)]; rfl
    rw [e, leN_append, ih, e2, List.length_take, Nat.min_eq_left (by omega)]
    show _ + _ * ((l.getD _ 0).toNat + 256 * 0) = _ + _ * (dgN l j k + (l.getD (l.length - 1 - (4 * j + k)) 0).toNat * 2 ^ (8 * k))
    have e3 : (2 : Nat) ^ (8 * k) = 256 ^ k := by rw [Nat.pow_mul]
    rw [e3, Nat.pow_add, Nat.mul_zero, Nat.add_zero, Nat.mul_add, Nat.add_assoc, Nat.mul_assoc, Nat.mul_comm (256 ^ k)]
theorem dgL_val_aux (l : List UInt8) : ∀ J, (∀ j, j < J → 4 * j < l.length) → val 4294967296 ((List.range J).map fun j => dgN l j (min 4 (l.length - 4 * j))) = leN (l.reverse.take (min (4 * J) l.length))
  | 0, _ => by simp [val, leN]
  | J + 1, h => by
    have ih := dgL_val_aux l J fun j hj => h j (by omega)
    have hJ := h J (by omega)
    rw [List.range_succ, List.map_append, val_append, ih, List.length_map, List.length_range]
    have e0 : min (4 * J) l.length = 4 * J := by omega
    have e1 : min (4 * (J + 1)) l.length = 4 * J + min 4 (l.length - 4 * J) := by omega
    rw [e0, e1, leN_take l J _ (by omega)]
    have e2 : (4294967296 : Nat) = 256 ^ 4 := by decide
    simp only [List.map_cons, List.map_nil, val, Nat.mul_zero, Nat.add_zero]
    rw [e2, ← Nat.pow_mul]
theorem dgL_val (l : List UInt8) : val 4294967296 (dgL l) = be l := by
  unfold dgL
  rw [dgL_val_aux l _ (fun j hj => by omega), be_le]
  have : min (4 * ((l.length + 3) / 4)) l.length = l.reverse.length := by simp; omega
  rw [this, List.take_length]
theorem dgL_len (l : List UInt8) : (dgL l).length = (l.length + 3) / 4 := by simp [dgL]
theorem dgL_lt (l : List UInt8) : ∀ d ∈ dgL l, d < 4294967296 := by
  intro d hd
  unfold dgL at hd
  obtain ⟨j, hj, rfl⟩ := List.mem_map.1 hd
  refine Nat.lt_of_lt_of_le (dgN_lt l j _) ?_
  rw [show (4294967296 : Nat) = 2 ^ 32 by decide]
  exact Nat.pow_le_pow_right (by decide) (by omega)
theorem ok129 : FnOk Tryz.prog 129 Tryz.f129 := ⟨Tryz.func129, by kernel_rfl, by kernel_rfl⟩
def DigRun (l : List UInt8) : Prop := ∀ I : AV → List (Option Blk) → Bool, run129 l I = I (.slice 0 0 ((l.length + 3) / 4) ((l.length + 3) / 4) false) [some (.row (dgRow l) false 1)]
theorem dgr_1 (a0 : UInt8) : DigRun [a0] := fun I => by kernel_rfl
theorem dgr_2 (a0 a1 : UInt8) : DigRun [a0, a1] := fun I => by kernel_rfl
theorem dgr_3 (a0 a1 a2 : UInt8) : DigRun [a0, a1, a2] := fun I => by kernel_rfl
theorem dgr_4 (a0 a1 a2 a3 : UInt8) : DigRun [a0, a1, a2, a3] := fun I => by kernel_rfl
theorem dgr_5 (a0 a1 a2 a3 a4 : UInt8) : DigRun [a0, a1, a2, a3, a4] := fun I => by kernel_rfl
theorem dgr_6 (a0 a1 a2 a3 a4 a5 : UInt8) : DigRun [a0, a1, a2, a3, a4, a5] := fun I => by kernel_rfl
theorem dgr_7 (a0 a1 a2 a3 a4 a5 a6 : UInt8) : DigRun [a0, a1, a2, a3, a4, a5, a6] := fun I => by kernel_rfl
theorem dgr_8 (a0 a1 a2 a3 a4 a5 a6 a7 : UInt8) : DigRun [a0, a1, a2, a3, a4, a5, a6, a7] := fun I => by kernel_rfl
theorem dgr_9 (a0 a1 a2 a3 a4 a5 a6 a7 a8 : UInt8) : DigRun [a0, a1, a2, a3, a4, a5, a6, a7, a8] := fun I => by kernel_rfl
theorem dgr_10 (a0 a1 a2 a3 a4 a5 a6 a7 a8 a9 : UInt8) : DigRun [a0, a1, a2, a3, a4, a5, a6, a7, a8, a9] := fun I => by kernel_rfl
theorem dgr_11 (a0 a1 a2 a3 a4 a5 a6 a7 a8 a9 a10 : UInt8) : DigRun [a0, a1, a2, a3, a4, a5, a6, a7, a8, a9, a10] := fun I => by kernel_rfl
theorem dgr_12 (a0 a1 a2 a3 a4 a5 a6 a7 a8 a9 a10 a11 : UInt8) : DigRun [a0, a1, a2, a3, a4, a5, a6, a7, a8, a9, a10, a11] := fun I => by kernel_rfl
theorem dgr_13 (a0 a1 a2 a3 a4 a5 a6 a7 a8 a9 a10 a11 a12 : UInt8) : DigRun [a0, a1, a2, a3, a4, a5, a6, a7, a8, a9, a10, a11, a12] := fun I => by kernel_rfl
theorem dgr_14 (a0 a1 a2 a3 a4 a5 a6 a7 a8 a9 a10 a11 a12 a13 : UInt8) : DigRun [a0, a1, a2, a3, a4, a5, a6, a7, a8, a9, a10, a11, a12, a13] := fun I => by kernel_rfl
theorem dgr_15 (a0 a1 a2 a3 a4 a5 a6 a7 a8 a9 a10 a11 a12 a13 a14 : UInt8) : DigRun [a0, a1, a2, a3, a4, a5, a6, a7, a8, a9, a10, a11, a12, a13, a14] := fun I => by kernel_rfl
theorem dgr_16 (a0 a1 a2 a3 a4 a5 a6 a7 a8 a9 a10 a11 a12 a13 a14 a15 : UInt8) : DigRun [a0, a1, a2, a3, a4, a5, a6, a7, a8, a9, a10, a11, a12, a13, a14, a15] := fun I => by kernel_rfl
theorem dgr_17 (a0 a1 a2 a3 a4 a5 a6 a7 a8 a9 a10 a11 a12 a13 a14 a15 a16 : UInt8) : DigRun [a0, a1, a2, a3, a4, a5, a6, a7, a8, a9, a10, a11, a12, a13, a14, a15, a16] := fun I => by kernel_rfl
theorem dgr_18 (a0 a1 a2 a3 a4 a5 a6 a7 a8 a9 a10 a11 a12 a13 a14 a15 a16 a17 : UInt8) : DigRun [a0, a1, a2, a3, a4, a5, a6, a7, a8, a9, a10, a11, a12, a13, a14, a15, a16, a17] := fun I => by kernel_rfl
theorem dgr_19 (a0 a1 a2 a3 a4 a5 a6 a7 a8 a9 a10 a11 a12 a13 a14 a15 a16 a17 a18 : UInt8) : DigRun [a0, a1, a2, a3, a4, a5, a6, a7, a8, a9, a10, a11, a12, a13, a14, a15, a16, a17, a18] := fun I => by kernel_rfl
theorem dgr_20 (a0 a1 a2 a3 a4 a5 a6 a7 a8 a9 a10 a11 a12 a13 a14 a15 a16 a17 a18 a19 : UInt8) : DigRun [a0, a1, a2, a3, a4, a5, a6, a7, a8, a9, a10, a11, a12, a13, a14, a15, a16, a17, a18, a19] := fun I => by kernel_rfl
theorem dig_run : ∀ (l : List UInt8), 1 ≤ l.length → l.length ≤ 20 → DigRun l
  | [], h, _ => absurd h (by simp)
  | [a0], _, _ => dgr_1 a0
  | [a0, a1], _, _ => dgr_2 a0 a1
  | [a0, a1, a2], _, _ => dgr_3 a0 a1 a2
  | [a0, a1, a2, a3], _, _ => dgr_4 a0 a1 a2 a3
  | [a0, a1, a2, a3, a4], _, _ => dgr_5 a0 a1 a2 a3 a4
  | [a0, a1, a2, a3, a4, a5], _, _ => dgr_6 a0 a1 a2 a3 a4 a5
  | [a0, a1, a2, a3, a4, a5, a6], _, _ => dgr_7 a0 a1 a2 a3 a4 a5 a6
  | [a0, a1, a2, a3, a4, a5, a6, a7], _, _ => dgr_8 a0 a1 a2 a3 a4 a5 a6 a7
  | [a0, a1, a2, a3, a4, a5, a6, a7, a8], _, _ => dgr_9 a0 a1 a2 a3 a4 a5 a6 a7 a8
  | [a0, a1, a2, a3, a4, a5, a6, a7, a8, a9], _, _ => dgr_10 a0 a1 a2 a3 a4 a5 a6 a7 a8 a9
  | [a0, a1, a2, a3, a4, a5, a6, a7, a8, a9, a10], _, _ => dgr_11 a0 a1 a2 a3 a4 a5 a6 a7 a8 a9 a10
  | [a0, a1, a2, a3, a4, a5, a6, a7, a8, a9, a10, a11], _, _ => dgr_12 a0 a1 a2 a3 a4 a5 a6 a7 a8 a9 a10 a11
  | [a0, a1, a2, a3, a4, a5, a6, a7, a8, a9, a10, a11, a12], _, _ => dgr_13 a0 a1 a2 a3 a4 a5 a6 a7 a8 a9 a10 a11 a12
  | [a0, a1, a2, a3, a4, a5, a6, a7, a8, a9, a10, a11, a12, a13], _, _ => dgr_14 a0 a1 a2 a3 a4 a5 a6 a7 a8 a9 a10 a11 a12 a13
  | [a0, a1, a2, a3, a4, a5, a6, a7, a8, a9, a10, a11, a12, a13, a14], _, _ => dgr_15 a0 a1 a2 a3 a4 a5 a6 a7 a8 a9 a10 a11 a12 a13 a14
  | [a0, a1, a2, a3, a4, a5, a6, a7, a8, a9, a10, a11, a12, a13, a14, a15], _, _ => dgr_16 a0 a1 a2 a3 a4 a5 a6 a7 a8 a9 a10 a11 a12 a13 a14 a15
  | [a0, a1, a2, a3, a4, a5, a6, a7, a8, a9, a10, a11, a12, a13, a14, a15, a16], _, _ => dgr_17 a0 a1 a2 a3 a4 a5 a6 a7 a8 a9 a10 a11 a12 a13 a14 a15 a16
  | [a0, a1, a2, a3, a4, a5, a6, a7, a8, a9, a10, a11, a12, a13, a14, a15, a16, a17], _, _ => dgr_18 a0 a1 a2 a3 a4 a5 a6 a7 a8 a9 a10 a11 a12 a13 a14 a15 a16 a17
  | [a0, a1, a2, a3, a4, a5, a6, a7, a8, a9, a10, a11, a12, a13, a14, a15, a16, a17, a18], _, _ => dgr_19 a0 a1 a2 a3 a4 a5 a6 a7 a8 a9 a10 a11 a12 a13 a14 a15 a16 a17 a18
  | [a0, a1, a2, a3, a4, a5, a6, a7, a8, a9, a10, a11, a12, a13, a14, a15, a16, a17, a18, a19], _, _ => dgr_20 a0 a1 a2 a3 a4 a5 a6 a7 a8 a9 a10 a11 a12 a13 a14 a15 a16 a17 a18 a19
  | _ :: _ :: _ :: _ :: _ :: _ :: _ :: _ :: _ :: _ :: _ :: _ :: _ :: _ :: _ :: _ :: _ :: _ :: _ :: _ :: _ :: _, _, h => absurd h (by simp)
noncomputable def digRow (l : List UInt8) : Blk := .row (toAVs (rowD (dgL l))) false 1
theorem digits_n (l : List UInt8) (h1 : 1 ≤ l.length) (h2 : l.length ≤ 20) : NSpec Tryz.prog 129 [strA l] [] [] (fun _ => []) (fun _ => [digRow l]) (fun nx => .slice nx 0 ((l.length + 3) / 4) ((l.length + 3) / 4) false) := by
  refine NSpec.run hm hX0 (S := []) (fun _ h => by cases h) ok129 (by kernel_rfl) (fun _ => rfl) (by simp) rfl (by simp) 600 [0] (fun I => I (.slice 0 0 ((l.length + 3) / 4) ((l.length + 3) / 4) false) [some (.row (dgRow l) false 1)]) (dig_run l h1 h2) ?_
  rw [dgRow_eq]
  refine pdec_iff.2 (LeafN.fresh (Nat.zero_le _) _ _ _ (fun M' hM' => ?_) (fun M' hM' nx j b' hj => by simp at hj))
  simp only [mv, List.map_cons, List.map_nil, List.cons.injEq] at hM'
  exact hM'.1
end Go.Proofs.YtnljmpeaeajcoaaGreatDoor

namespace Go.Proofs.YtnljmpeaeajcoaaGreatDoor
open Go Go.Eng Go.Vi Go.Knuth
local instance modeI12 : Go.Eng.Mode := Sy

/-! div: what it answers; numbers of 64 bits, and a lesser one by a greater one -/
/-- no zero at the head -/
def NZ (l : List UInt8) : Prop := ∀ b r, l = b :: r → b ≠ 0
def DivOk (_a b : List UInt8) (v : AV) : Prop := ∃ q r : List UInt8, v = .tuple [strA q, strA r] ∧ be r < be b ∧ NZ q ∧ NZ r
theorem ok111 : FnOk Tryz.prog 111 Tryz.f111 := ⟨Tryz.func111, by kernel_rfl, by kernel_rfl⟩
noncomputable def eDig (l : List UInt8) (ds : List Nat) (nx : Nat) : MEnt := nEnt [strA l] [] [] (fun _ => []) (fun _ => [.row (toAVs (rowD ds)) false 1]) (fun nx => .slice nx 0 ds.length ds.length false) nx
theorem eDig_ok (l : List UInt8) (ds : List Nat) (nx : Nat) (h1 : 1 ≤ l.length) (h2 : l.length ≤ 20) (hd : dgL l = ds) : MSpec Tryz.prog 129 (eDig l ds nx) := by
  subst hd
  have := digits_n l h1 h2 nx (by simp)
  unfold eDig
  rw [dgL_len]
  exact this
noncomputable def c111 : Code := codeOf Tryz.f111
def thenOf (c : Code) : Code := match c with | .cond _ a _ => a | _ => .skip
def elseOf (c : Code) : Code := match c with | .cond _ _ a => a | _ => .skip
def condOf (c : Code) : Operand := match c with | .cond x _ _ => x | _ => .const (.bool false)
noncomputable def XD (l : List UInt8) (ds : List Nat) (nx : Nat) := Xm X0 129 (eDig l ds nx)
noncomputable def eWords (x y : List UInt8) : FuncId × SEnt := (110, ⟨[strA x, strA y], [], .tuple [.int .u64 (.ofNat (wordN x)), .int .u64 (.ofNat (wordN y)), .bool false]⟩)
noncomputable def eCmpB (x y : List UInt8) (c : Int) : FuncId × SEnt := (109, ⟨[strA x, strA y], [], .int .i64 c⟩)
theorem eWords_ok {x y : List UInt8} (h : ¬ (x.length ≤ 8 ∧ y.length ≤ 8)) : SSpec Tryz.prog (eWords x y).1 (eWords x y).2 := by
  have := (words_c x y).spec0 rfl
  have e : (decide (x.length ≤ 8) && decide (y.length ≤ 8)) = false := by
    rw [← Bool.decide_and]; exact decide_eq_false h
  unfold wordsA at this
  rw [e] at this
  exact this
noncomputable def eMag (u : Nat) (l : List UInt8) : FuncId × SEnt := (89, ⟨[.int .u64 (.ofNat u)], [], strA l⟩)

/-! the answer, read off two slots -/
theorem fin_of_lv {fn : Func} {a b : Nat} (hres : fn.results.toList = [.tmp a, .tmp b]) {k : Nat} {rows1 : List (List Dat)} {Pr : AV → Prop} {o : AE} {fr : Fr} {M : Mem} (ho : o = .ret) {x y : AV} (hl : lv [a, b] fr = [some x, some y])
    (h : ∃ ans, Pr ans ∧ FzA k M (.tuple [x, y]) ans ∧ ∀ (j : Nat) (r : List Dat), rows1[j]? = some r → ∃ c sz, M.t.get j = some (.row c false sz) ∧ FzDs k M c r) : FinEx Tryz.prog fn k rows1 Pr o fr M := by
  obtain ⟨ans, hp, hf, hr⟩ := h
  simp only [lv, List.map_cons, List.map_nil, List.cons.injEq] at hl
  refine ⟨ans, hp, .inr ho, [x, y], ?_, hf, hr⟩
  rw [hres]
  show getT fr a (fun v => resK Tryz.prog fr M [.tmp b] fun vs => pdec (v :: vs = [x, y])) = true
  rw [getT_iff]
  refine ⟨x, hl.1, ?_⟩
  show getT fr b (fun w => pdec ([x, w] = [x, y])) = true
  rw [getT_iff]
  exact ⟨y, hl.2.1, pdec_iff.2 rfl⟩
theorem res111 : Tryz.f111.results.toList = [.tmp 4, .tmp 5] := by kernel_rfl

/-! one digit -/
noncomputable def hiF (r x : Int) : Int := IntKind.u64.wrap (.ofNat (Nat.lor (toU .u64 (IntKind.u64.wrap (Int.mul r (.ofNat (Nat.pow 2 (shAmt .u64 32)))))) (toU .u64 (IntKind.u64.wrap x))))
noncomputable def qF (r x y : Int) : Int := IntKind.u32.wrap (IntKind.u64.wrap (Int.tdiv (hiF r x) (IntKind.u64.wrap y)))
noncomputable def rF (r x y : Int) : Int := Int.tmod (hiF r x) (IntKind.u64.wrap y)
/-- digits and the remainder, from the top -/
noncomputable def shF (y : Int) : List Int → List Int × Int
  | [] => ([], 0)
  | d :: l => (qF (shF y l).2 d y :: (shF y l).1, rF (shF y l).2 d y)
noncomputable def gN (c b : Bool) : Bool := Bool.rec (motive := fun _ => Bool) b false c
theorem gN_iff {c b : Bool} : gN c b = true ↔ c = false ∧ b = true := brec_not
noncomputable def gNs (n : Nat) (c b : Bool) : Bool := Nat.rec (motive := fun _ => Bool) b (fun _ ih => gN c ih) n
theorem gNs_of {n : Nat} {c b : Bool} (hc : c = false) (hb : b = true) : gNs n c b = true := by
  induction n with
  | zero => exact hb
  | succ n ih => show gN c (gNs n c b) = true; rw [gN_iff]; exact ⟨hc, ih⟩
theorem hiF_eq (r x : Nat) (hr : r < 4294967296) (hx : x < 4294967296) : hiF (.ofNat r) (.ofNat x) = .ofNat (r * 4294967296 + x) := by
  unfold hiF
  have e1 : Int.mul (.ofNat r) (.ofNat (Nat.pow 2 (shAmt .u64 32))) = .ofNat (r * 4294967296) := rfl
  rw [e1, wrapU64 (r * 4294967296) (by omega), wrapU64 x (by omega), toU64 (r * 4294967296) (by omega), toU64 x (by omega)]
  have := lor_low r x 32 hx
  rw [show (2 : Nat) ^ 32 = 4294967296 by decide] at this
  rw [this, wrapU64 _ (by omega)]
def shN (y : Nat) : List Nat → List Nat × Nat
  | [] => ([], 0)
  | d :: l => (((shN y l).2 * 4294967296 + d) / y :: (shN y l).1, ((shN y l).2 * 4294967296 + d) % y)
theorem shN_lt {y : Nat} (hy : 0 < y) : ∀ l, (shN y l).2 < y
  | [] => hy
  | _ :: _ => Nat.mod_lt _ hy
theorem shN_q {y : Nat} (hy : 0 < y) : ∀ l, (∀ d ∈ l, d < 4294967296) → ∀ q ∈ (shN y l).1, q < 4294967296
  | [], _, q, h => by cases h
  | d :: l, hl, q, h => by
    rcases List.mem_cons.1 h with rfl | h
    · have h1 := shN_lt hy l
      have h2 := hl d (List.mem_cons_self ..)
      rw [Nat.div_lt_iff_lt_mul hy]
      have : ((shN y l).2 + 1) * 4294967296 ≤ y * 4294967296 := Nat.mul_le_mul_right _ h1
      rw [Nat.mul_comm 4294967296 y]
      omega
    · exact shN_q hy l (fun d hd => hl d (List.mem_cons_of_mem _ hd)) q h
theorem shN_len (y : Nat) : ∀ l, (shN y l).1.length = l.length
  | [] => rfl
  | d :: l => by simp [shN, shN_len y l]
theorem shN_val {y : Nat} (hy : 0 < y) : ∀ l, val 4294967296 l = val 4294967296 (shN y l).1 * y + (shN y l).2
  | [] => by simp [shN, val]
  | d :: l => by
    have ih := shN_val hy l
    have h := Nat.div_add_mod ((shN y l).2 * 4294967296 + d) y
    simp only [shN, val]
    rw [ih, Nat.add_mul, Nat.mul_comm _ y, Nat.mul_add]
    generalize ((shN y l).2 * 4294967296 + d) / y = q at *
    generalize ((shN y l).2 * 4294967296 + d) % y = r at *
    have e := Nat.mul_comm y (val 4294967296 (shN y l).1)
    have e2 := Nat.mul_comm y q
    rw [Nat.mul_assoc]
    omega
theorem shF_eq {y : Nat} (hy : 0 < y) (hyB : y < 4294967296) : ∀ l : List Nat, (∀ d ∈ l, d < 4294967296) → shF (.ofNat y) (l.map Int.ofNat) = ((shN y l).1.map Int.ofNat, .ofNat (shN y l).2)
  | [], _ => rfl
  | d :: l, h => by
    have ih := shF_eq hy hyB l fun x hx => h x (List.mem_cons_of_mem _ hx)
    have h1 := shN_lt hy l
    have hd := h d (List.mem_cons_self ..)
    have hq := shN_q hy (d :: l) h _ (List.mem_cons_self ..)
    rw [List.map_cons, shF, ih, shN]
    simp only [qF, rF]
    rw [hiF_eq _ _ (by omega) hd, wrapU64 y (by omega)]
    have e1 : Int.tdiv (.ofNat ((shN y l).2 * 4294967296 + d)) (.ofNat y) = .ofNat (((shN y l).2 * 4294967296 + d) / y) := rfl
    have e2 : Int.tmod (.ofNat ((shN y l).2 * 4294967296 + d)) (.ofNat y) = .ofNat (((shN y l).2 * 4294967296 + d) % y) := rfl
    rw [e1, e2, wrapU64 _ (by omega), wrapU32 _ hq]
    rfl
noncomputable def rowI (l : List Int) : List AV := List.rec (motive := fun _ => List AV) [] (fun d _ r => AV.int .u32 d :: r) l
theorem rowI_eq (l : List Nat) : rowI (l.map Int.ofNat) = toAVs (rowD l) := by
  induction l with
  | nil => rfl
  | cons d l ih => exact congrArg (AV.int .u32 (.ofNat d) :: ·) ih
noncomputable def shTop : Code := thenOf (rhs (lhs (post 4 c111)))
/-- the runs: three to five digits by one -/
def ShRun (a : List UInt8) (ds : List Nat) (y : Nat) : Prop := ∀ I : AE → List (Option AV) → List (Option Blk) → Bool,
  Eng.execN Tryz.prog (XD a ds 1) [] 300 Tryz.f111.ntmps 2 shTop (mkFr [(0, strA a), (9, .slice 0 0 1 1 false)]) (mkMem [.row (toAVs (rowD [y])) false 1]) (fun o fr' M' => I o (lv [10, 11] fr') (mv [1] M')) =
    gM (eDig a ds 1) (gNs (2 * ds.length) (ieq (IntKind.u64.wrap (.ofNat y)) 0) (I .normal [some (.slice 1 0 ds.length ds.length false), some (.int .u32 (IntKind.u32.wrap (shF (.ofNat y) (ds.map Int.ofNat)).2))] [some (.row (rowI (shF (.ofNat y) (ds.map Int.ofNat)).1) false 1)]))
theorem sh_3 (a : List UInt8) (d0 d1 d2 y : Nat) : ShRun a [d0, d1, d2] y := fun I => by kernel_rfl
theorem sh_4 (a : List UInt8) (d0 d1 d2 d3 y : Nat) : ShRun a [d0, d1, d2, d3] y := fun I => by kernel_rfl
theorem sh_5 (a : List UInt8) (d0 d1 d2 d3 d4 y : Nat) : ShRun a [d0, d1, d2, d3, d4] y := fun I => by kernel_rfl

/-- up to the digits of the divisor -/
def HeadRun (a b : List UInt8) (ds : List Nat) (c : Int) : Prop := ∀ I : AE → List (Option AV) → List (Option Blk) → Bool,
    Eng.execN Tryz.prog (XD b ds 0) [eWords a b, eCmpB a b c] 300 Tryz.f111.ntmps 4 c111 (mkFr (argSlots [strA a, strA b] 0)) (mkMem (rowsOf [])) (fun o fr' M' => I o (lv [0, 1, 9] fr') (mv [0] M')) =
      gC (eWords a b) (gC (eCmpB a b c) (gM (eDig b ds 0) (I .normal [some (strA a), some (strA b), some (.slice 0 0 ds.length ds.length false)] [some (.row (toAVs (rowD ds)) false 1)])))
theorem head_run0 (a b : List UInt8) (ds : List Nat) : HeadRun a b ds 0 := fun I => by kernel_rfl
theorem head_run1 (a b : List UInt8) (ds : List Nat) : HeadRun a b ds 1 := fun I => by kernel_rfl
theorem cmp_ge {a b : List UInt8} (h : ¬ compareN a b < 0) : compareN a b = 0 ∨ compareN a b = 1 := by
  unfold compareN at h ⊢
  have h1 := cmpN_3 a.length b.length
  have h2 := scmpN_3 a b
  split at h <;> split <;> simp_all <;> omega
/-- the divisor is not greater: what is to come behind its digits -/
theorem div_head {a b : List UInt8} {ds : List Nat} (hw : ¬ (a.length ≤ 8 ∧ b.length ≤ 8)) (hc : ¬ compareN a b < 0) (h1 : 1 ≤ b.length) (h2 : b.length ≤ 20) (hd : dgL b = ds) {Pr : AV → Prop}
    (h : W Tryz.prog Tryz.f111.ntmps 0 (post 4 c111) (mkFr [(0, strA a), (1, strA b), (9, .slice 0 0 ds.length ds.length false)]) (mkMem [.row (toAVs (rowD ds)) false 1]) (FinEx Tryz.prog Tryz.f111 0 [] Pr)) :
    ∃ ans, Pr ans ∧ BSim Tryz.prog 111 [strA a, strA b] [] [] ans := by
  refine BSim.of_WEx ok111 (by kernel_rfl) rfl ?_
  have key : ∀ c : Int, HeadRun a b ds c → BSim Tryz.prog 109 [strA a, strA b] [] [] (.int .i64 c) → W Tryz.prog Tryz.f111.ntmps 0 c111 (mkFr (argSlots [strA a, strA b] 0)) (mkMem (rowsOf [])) (FinEx Tryz.prog Tryz.f111 0 [] Pr) := by
    intro c hrun hcmp
    refine W.runN hm (hXm hX0 (eDig_ok b ds 0 h1 h2 hd)) (S := [eWords a b, eCmpB a b c]) (AllOk.mem ⟨eWords_ok hw, hcmp.spec0 rfl, trivial⟩) 300 4 [0, 1, 9] [0] _ hrun ?_
    simp only [gC_iff, gM_iff]
    refine pdec_iff.2 fun fr' M' hv hm' => ?_
    exact W.next0 (vs := [strA a, strA b, .slice 0 0 ds.length ds.length false]) (bs := [.row (toAVs (rowD ds)) false 1]) hv hm' [(0, strA a), (1, strA b), (9, .slice 0 0 ds.length ds.length false)] [.row (toAVs (rowD ds)) false 1] rfl rfl
      (by simp only [rows2, List.map_cons, List.map_nil, renB_data]) (by rfl) h
  have hcmp := compare_c a b
  rcases cmp_ge hc with e | e <;> rw [e] at hcmp
  · exact key 0 (head_run0 a b ds) hcmp
  · exact key 1 (head_run1 a b ds) hcmp
end Go.Proofs.YtnljmpeaeajcoaaGreatDoor

namespace Go.Proofs.YtnljmpeaeajcoaaGreatDoor
open Go Go.Eng Go.Vi Go.Knuth
local instance modeI13 : Go.Eng.Mode := Sy

/-! div by one digit -/
theorem shCond : rhs (lhs (post 4 c111)) = .cond (.tmp 54) shTop .skip := by kernel_rfl
noncomputable def eBy (n : Nat) (ds : List Nat) (b : Nat) (l : List UInt8) : FuncId × SEnt := (131, ⟨[.slice b 0 n n false], [(b, toAVs (rowD ds), toAVs (rowD ds))], strA l⟩)
theorem eBy_ok {ds : List Nat} {l : List UInt8} (b : Nat) (h : BSim Tryz.prog 131 [.slice 0 0 ds.length ds.length false] [rowD ds] [rowD ds] (strA l)) : SSpec Tryz.prog (eBy ds.length ds b l).1 (eBy ds.length ds b l).2 := h.spec1 b rfl
theorem eMag_ok {u : Nat} {l : List UInt8} (h : BSim Tryz.prog 89 [.int .u64 (.ofNat u)] [] [] (strA l)) : SSpec Tryz.prog (eMag u l).1 (eMag u l).2 := h.spec0 rfl
/-- the last statements -/
theorem sh_end (qs : List Nat) (r : Nat) (l m : List UInt8) (I : AE → List (Option AV) → List (Option Blk) → Bool) :
    Eng.execN Tryz.prog X0 [eBy qs.length qs 0 l, eMag r m] 300 Tryz.f111.ntmps 1 (post 2 shTop) (mkFr [(10, .slice 0 0 qs.length qs.length false), (11, .int .u32 (.ofNat r))]) (mkMem [.row (toAVs (rowD qs)) false 1]) (fun o fr' M' => I o (lv [4, 5] fr') (mv [] M')) =
      gC (eBy qs.length qs 0 l) (gateP ([AV.int .u64 (IntKind.u64.wrap (.ofNat r))] = [AV.int .u64 (.ofNat r)]) (I .normal [some (strA l), some (strA m)] [])) := by kernel_rfl
theorem shRet : post 1 (post 2 shTop) = .ret := by kernel_rfl
theorem W.ret {nt k : Nat} {fr : Fr} {M : Mem} {Q : AE → Fr → Mem → Prop} (h : Q .ret fr M) : W Tryz.prog nt k .ret fr M Q :=
  (W.exec hm hX0 (S := []) (fun _ h => by cases h) (k := k) (n := 1) (c := .ret) (K := fun o fr' M' => pdec (Q o fr' M')) (show pdec (Q .ret fr M) = true from pdec_iff.2 h)).mono fun _ _ _ hK => pdec_iff.1 hK
theorem div_short {a b : List UInt8} (hw : ¬ (a.length ≤ 8 ∧ b.length ≤ 8)) (hc : ¬ compareN a b < 0) (h1 : 1 ≤ b.length) (h2 : b.length ≤ 4) (hb : NZ b) (ha1 : 9 ≤ a.length) (ha2 : a.length ≤ 20) :
    ∃ ans, DivOk a b ans ∧ BSim Tryz.prog 111 [strA a, strA b] [] [] ans := by
  obtain ⟨y, hy⟩ : ∃ y, dgL b = [y] := by
    have hl := dgL_len b
    match hd : dgL b, hl with
    | [y], _ => exact ⟨y, rfl⟩
    | [], h => simp at h; omega
    | _ :: _ :: _, h => simp at h; omega
  have hyv : y = be b := by have := dgL_val b; rw [hy] at this; simpa [val] using this
  have hy0 : 0 < y := by
    rw [hyv]
    cases b with
    | nil => simp at h1
    | cons c l =>
      rw [be_cons]
      have : 0 < c.toNat := by
        apply Nat.pos_of_ne_zero
        intro e
        exact hb c l rfl (UInt8.toNat_inj.1 e)
      exact Nat.lt_of_lt_of_le (Nat.mul_pos this (Nat.pow_pos (by decide))) (Nat.le_add_right _ _)
  have hyB : y < 4294967296 := dgL_lt b y (by rw [hy]; simp)
  obtain ⟨ds, hds⟩ : ∃ ds, dgL a = ds := ⟨_, rfl⟩
  have hdl : 3 ≤ ds.length ∧ ds.length ≤ 5 := by rw [← hds, dgL_len]; omega
  have hdB : ∀ d ∈ ds, d < 4294967296 := by rw [← hds]; exact dgL_lt a
  have hrun : ShRun a ds y := by
    match ds, hdl with
    | [_, _, _], _ => exact sh_3 _ _ _ _ _
    | [_, _, _, _], _ => exact sh_4 _ _ _ _ _ _
    | [_, _, _, _, _], _ => exact sh_5 _ _ _ _ _ _ _
    | [], h => simp at h
    | [_], h => simp at h
    | [_, _], h => simp at h
    | _ :: _ :: _ :: _ :: _ :: _ :: _, h => simp at h
  refine div_head hw hc h1 (by omega) hy ?_
  refine W.parts (by kernel_rfl) (W.parts (by kernel_rfl) ?_)
  refine W.run hm hX0 (S := []) (fun _ h => by cases h) 300 [0, 9, 54] [0] (fun I => I .normal [some (strA a), some (.slice 0 0 1 1 false), some (.bool true)] [some (.row (toAVs (rowD [y])) false 1)]) (fun I => by kernel_rfl) (pdec_iff.2 fun fr1 M1 hv1 hm1 => ?_)
  show W Tryz.prog Tryz.f111.ntmps 0 (rhs (lhs (post 4 c111))) fr1 M1 _
  rw [shCond]
  simp only [lv, List.map_cons, List.map_nil, List.cons.injEq] at hv1
  refine W.cond true hv1.2.2.1 (fun _ => ?_) (fun h => by cases h)
  refine W.next0 (ts := [0, 9]) (vs := [strA a, .slice 0 0 1 1 false]) (bs := [.row (toAVs (rowD [y])) false 1]) (by simp only [lv, List.map_cons, List.map_nil, hv1.1, hv1.2.1]) hm1 [(0, strA a), (9, .slice 0 0 1 1 false)] [.row (toAVs (rowD [y])) false 1] rfl rfl
    (by simp only [rows2, List.map_cons, List.map_nil, renB_data]) (by rfl) ?_
  refine W.runN hm (hXm hX0 (eDig_ok a ds 1 (by omega) (by omega) hds)) (S := []) (fun _ h => by cases h) 300 2 [10, 11] [1] _ hrun ?_
  rw [gM_iff]
  refine gNs_of (by rw [wrapU64 y (by omega), ieq_iff]; simp only [Int.ofNat_eq_natCast, beq_eq_false_iff_ne, ne_eq]; omega) ?_
  rw [shF_eq hy0 hyB ds hdB]
  have hr := shN_lt hy0 ds
  rw [wrapU32 _ (by omega), rowI_eq]
  have hql := shN_len y ds
  have hqB := shN_q hy0 ds hdB
  have hvl := shN_val hy0 ds
  generalize (shN y ds).2 = r at *
  generalize (shN y ds).1 = qs at *
  rw [← hql]
  refine pdec_iff.2 fun fr2 M2 hv2 hm2 => ?_
  show W Tryz.prog Tryz.f111.ntmps 0 (post 2 shTop) fr2 M2 _
  refine W.next (π := [1]) hv2 hm2 [(10, .slice 0 0 qs.length qs.length false), (11, .int .u32 (.ofNat r))] [.row (toAVs (rowD qs)) false 1] rfl rfl (by simp only [rows2, List.map_cons, List.map_nil, renB_data]) (by rfl) (by simp) (by simp) ?_
  obtain ⟨l, hl1, hl2, hl3⟩ := bytes_c qs (by omega) hqB
  obtain ⟨m, hm1', hm2', hm3'⟩ := mag_c r (by omega)
  refine W.runN hm hX0 (S := [eBy qs.length qs 0 l, eMag r m]) (AllOk.mem ⟨eBy_ok 0 hl3, eMag_ok hm3', trivial⟩) 300 1 [4, 5] [] _ (sh_end qs r l m) ?_
  rw [gC_iff, gateP_iff]
  refine ⟨by rw [wrapU64 r (by omega)], pdec_iff.2 fun fr3 M3 hv3 _ => ?_⟩
  show W Tryz.prog Tryz.f111.ntmps 0 (post 1 (post 2 shTop)) fr3 M3 _
  rw [shRet]
  refine W.ret (fin_of_lv res111 rfl hv3 ⟨.tuple [strA l, strA m], ⟨l, m, rfl, ?_, hl2, hm2'⟩, .tuple _ _ (.cons _ _ _ _ (.plain (.str l.length (enc l))) (.cons _ _ _ _ (.plain (.str m.length (enc m))) .nil)), fun j r hj => by simp at hj⟩)
  rw [hm1', ← hyv]; exact hr
end Go.Proofs.YtnljmpeaeajcoaaGreatDoor

namespace Go.Proofs.YtnljmpeaeajcoaaGreatDoor
open Go Go.Eng Go.Vi Go.Knuth
local instance modeI14 : Go.Eng.Mode := Sy

/-! how far the divisor is shifted -/
theorem ok99 : FnOk Tryz.prog 99 Tryz.f99 := ⟨Tryz.func99, by kernel_rfl, by kernel_rfl⟩
theorem ok132 : FnOk Tryz.prog 132 Tryz.f132 := ⟨Tryz.func132, by kernel_rfl, by kernel_rfl⟩
noncomputable def run99 (u : Nat) (I : AV → List (Option Blk) → Bool) : Bool :=
  Eng.exec Tryz.prog X0 [] 300 Tryz.f99.ntmps (codeOf Tryz.f99) (mkFr (argSlots [.int .u32 (.ofNat u)] 0)) (mkMem (rowsOf [])) (fun o fr M => endK o (resK Tryz.prog fr M Tryz.f99.results.toList fun vs => I (oneOf vs) (mv [] M)))
theorem len32_run (u : Nat) : ∀ I, run99 u I = gIf (Bool.not (ilt (.ofNat u) 65536)) (len8 I (u / 65536) 16) (len8 I u 0) := fun I => by kernel_rfl
theorem len32_c (u : Nat) (hu : u < 4294967296) : ∃ n, LenOk u n ∧ BSim Tryz.prog 99 [.int .u32 (.ofNat u)] [] [] (lenA n) := by
  obtain ⟨ans, ⟨n, hn, rfl⟩, h⟩ := BSim.runEx hm hX0 (S := []) (fun _ h => by cases h) ok99 (by kernel_rfl) rfl 300 [] (Pr := fun ans => ∃ n, LenOk u n ∧ ans = lenA n) _ (len32_run u)
    (gIf_of (fun hc => len8_of (Pr := LenOk u) (fun n hn => pdec_iff.2 ⟨_, ⟨n, hn, rfl⟩, Leaf.flat fun _ _ => .plain (.int .i64 (.ofNat n))⟩) (by omega) (by omega) fun m hm => by
        have hc := nilt.1 hc
        exact LenOk.lift (y := u) (k := 16) (n := m) hm (Nat.div_pos hc (by decide)))
      (fun hc => len8_of (Pr := LenOk u) (fun n hn => pdec_iff.2 ⟨_, ⟨n, hn, rfl⟩, Leaf.flat fun _ _ => .plain (.int .i64 (.ofNat n))⟩) (nilt.2 hc) (by omega) fun m hm => by rw [Nat.zero_add]; exact hm))
  exact ⟨n, hn, h⟩
noncomputable def eL32 (u n : Nat) : FuncId × SEnt := (99, ⟨[.int .u32 (.ofNat u)], [], lenA n⟩)
noncomputable def eLz (v : Nat) (b : Nat) : FuncId × SEnt := (132, ⟨[.int .u32 (.ofNat v)], [], .int .i64 (.ofNat b)⟩)
theorem lz_c (u : Nat) (hu : u < 4294967296) (h0 : 0 < u) : ∃ b, b ≤ 31 ∧ u * 2 ^ b < 4294967296 ∧ 4294967296 ≤ 2 * (u * 2 ^ b) ∧ BSim Tryz.prog 132 [.int .u32 (.ofNat u)] [] [] (.int .i64 (.ofNat b)) := by
  obtain ⟨n, ⟨h1, h2⟩, h⟩ := len32_c u hu
  have h2 := h2 h0
  have hn : n ≤ 32 := by
    apply Nat.le_of_not_lt
    intro h
    have : 2 ^ 33 ≤ 2 ^ n := Nat.pow_le_pow_right (by decide) h
    omega
  have hn1 : 1 ≤ n := by
    apply Nat.pos_of_ne_zero
    rintro rfl
    simp at h1; omega
  have e : 2 ^ n * 2 ^ (32 - n) = 4294967296 := by rw [← Nat.pow_add, Nat.add_sub_cancel' hn]
  have hp : 0 < 2 ^ (32 - n) := Nat.pow_pos (by decide)
  refine ⟨32 - n, by omega, ?_, ?_, ?_⟩
  · rw [← e]; exact Nat.mul_lt_mul_of_pos_right h1 hp
  · rw [← e, ← Nat.mul_assoc]; exact Nat.mul_le_mul_right _ h2
  · refine BSim.run hm hX0 (S := [eL32 u n]) (AllOk.mem ⟨h.spec0 rfl, trivial⟩) ok132 (by kernel_rfl) rfl 300 [] (fun I => gC (eL32 u n) (gB (inI64 (Int.sub 32 (.ofNat n))) (I (.int .i64 (Int.sub 32 (.ofNat n))) []))) (fun I => by kernel_rfl) ?_
    rw [gC_iff, gB_iff]
    have e2 : Int.sub 32 (.ofNat n) = .ofNat (32 - n) := by
      show (32 : Int) - (n : Int) = ((32 - n : Nat) : Int)
      omega
    rw [e2]
    exact ⟨inI64_iff _ |>.2 (by simp only [Int.ofNat_eq_natCast]; omega), pdec_iff.2 (Leaf.flat fun _ _ => .plain (.int .i64 (.ofNat (32 - n))))⟩

/-! digits, shifted to the left -/
noncomputable def wF (d : Int) (b : Nat) : Int := IntKind.u64.wrap (Int.mul (IntKind.u64.wrap d) (.ofNat (Nat.pow 2 (shAmt .u64 b))))
noncomputable def shlF (b : Nat) : Int → List Int → List Int
  | cur, [] => [cur]
  | cur, d :: l => IntKind.u32.wrap (.ofNat (Nat.lor (toU .u32 cur) (toU .u32 (IntKind.u32.wrap (wF d b))))) :: shlF b (IntKind.u32.wrap (fdivP (wF d b) (Nat.pow 2 (shAmt .u64 32)))) l
/-- the same as numbers -/
def shlN (b : Nat) : Nat → List Nat → List Nat
  | cur, [] => [cur]
  | cur, d :: l => ((d * 2 ^ b) % 4294967296 + cur) :: shlN b (d * 2 ^ b / 4294967296) l
theorem shl_low {b d cur : Nat} (hb : b ≤ 31) (hc : cur < 2 ^ b) : Nat.lor cur (d * 2 ^ b % 4294967296) = d * 2 ^ b % 4294967296 + cur ∧ d * 2 ^ b % 4294967296 + cur < 4294967296 := by
  have e : 2 ^ b * 2 ^ (32 - b) = 4294967296 := by rw [← Nat.pow_add, Nat.add_sub_cancel' (by omega)]
  have e1 : d * 2 ^ b % 4294967296 = d % 2 ^ (32 - b) * 2 ^ b := by
    rw [← e, Nat.mul_comm (2 ^ b), Nat.mul_mod_mul_right]
  have h1 : d % 2 ^ (32 - b) < 2 ^ (32 - b) := Nat.mod_lt _ (Nat.pow_pos (by decide))
  constructor
  · rw [e1, ← lor_low _ cur b hc]; exact Nat.or_comm ..
  · have : (d % 2 ^ (32 - b) + 1) * 2 ^ b ≤ 2 ^ (32 - b) * 2 ^ b := Nat.mul_le_mul_right _ h1
    rw [Nat.add_mul, Nat.mul_comm (2 ^ (32 - b)), e] at this
    omega
theorem shl_hi {b d : Nat} (hd : d < 4294967296) : d * 2 ^ b / 4294967296 < 2 ^ b := by
  rw [Nat.div_lt_iff_lt_mul (by decide), Nat.mul_comm (2 ^ b)]
  exact Nat.mul_lt_mul_of_pos_right hd (Nat.pow_pos (by decide))
theorem shAmt64 (s : Nat) (h : s ≤ 64) : shAmt .u64 s = s := by
  unfold shAmt
  have : Nat.ble s (bitsOf .u64) = true := by rw [Nat.ble_eq]; exact h
  rw [this]
theorem wrapU32m (n : Nat) : IntKind.u32.wrap (.ofNat n) = .ofNat (n % 4294967296) := by
  simp [IntKind.wrap, IntKind.bits, IntKind.signed]
theorem shlF_eq {b : Nat} (hb : b ≤ 31) : ∀ (l : List Nat) (cur : Nat), (∀ d ∈ l, d < 4294967296) → cur < 2 ^ b → shlF b (.ofNat cur) (l.map Int.ofNat) = (shlN b cur l).map Int.ofNat
  | [], cur, _, _ => rfl
  | d :: l, cur, h, hc => by
    have hd := h d (List.mem_cons_self ..)
    have h2 := shl_hi (b := b) hd
    obtain ⟨h3, h4⟩ := shl_low (d := d) hb hc
    have hw : wF (.ofNat d) b = .ofNat (d * 2 ^ b) := by
      unfold wF
      rw [shAmt64 b (by omega), wrapU64 d (by omega)]
      have e1 : Int.mul (.ofNat d) (.ofNat (Nat.pow 2 b)) = .ofNat (d * 2 ^ b) := rfl
      have h5 : d * 2 ^ b ≤ 4294967296 * 2 ^ 31 := Nat.mul_le_mul (by omega) (Nat.pow_le_pow_right (by decide) hb)
      have h6 : (4294967296 : Nat) * 2 ^ 31 = 9223372036854775808 := by decide
      rw [e1, wrapU64 _ (by omega)]
    have h31 : 2 ^ b ≤ 2 ^ 31 := Nat.pow_le_pow_right (by decide) hb
    have h32 : (2 : Nat) ^ 31 = 2147483648 := by decide
    rw [List.map_cons, shlF, hw, shAmt64 32 (by decide), shlN, List.map_cons]
    have e2 : fdivP (.ofNat (d * 2 ^ b)) (Nat.pow 2 32) = .ofNat (d * 2 ^ b / 4294967296) := rfl
    rw [e2, wrapU32m (d * 2 ^ b), toU32 cur (by omega), toU32 _ (Nat.mod_lt _ (by decide)), h3, wrapU32 _ h4, wrapU32 _ (by omega), shlF_eq hb l _ (fun x hx => h x (List.mem_cons_of_mem _ hx)) h2]
theorem shlN_len (b : Nat) : ∀ (l : List Nat) (cur : Nat), (shlN b cur l).length = l.length + 1
  | [], _ => rfl
  | d :: l, cur => by rw [shlN, List.length_cons, shlN_len b l]; rfl
theorem shlN_val (b : Nat) : ∀ (l : List Nat) (cur : Nat), val 4294967296 (shlN b cur l) = val 4294967296 l * 2 ^ b + cur
  | [], cur => by simp [shlN, val]
  | d :: l, cur => by
    have h := Nat.div_add_mod (d * 2 ^ b) 4294967296
    rw [shlN, val, shlN_val b l, val, Nat.add_mul, Nat.mul_add, Nat.mul_assoc]
    omega
theorem shlN_lt {b : Nat} (hb : b ≤ 31) : ∀ (l : List Nat) (cur : Nat), (∀ d ∈ l, d < 4294967296) → cur < 2 ^ b → ∀ d ∈ shlN b cur l, d < 4294967296
  | [], cur, _, hc, d, hd => by
    have h31 : 2 ^ b ≤ 2 ^ 31 := Nat.pow_le_pow_right (by decide) hb
    have h32 : (2 : Nat) ^ 31 = 2147483648 := by decide
    obtain rfl := List.mem_singleton.1 hd
    omega
  | x :: l, cur, h, hc, d, hd => by
    rcases List.mem_cons.1 hd with rfl | hd
    · exact (shl_low hb hc).2
    · exact shlN_lt hb l _ (fun x hx => h x (List.mem_cons_of_mem _ hx)) (shl_hi (h x (List.mem_cons_self ..))) d hd
/-- the highest digit is small -/
theorem shlN_top {b : Nat} : ∀ (l : List Nat) (cur : Nat), (∀ d ∈ l, d < 4294967296) → cur < 2 ^ b → ∀ (m : List Nat) (t : Nat), shlN b cur l = m ++ [t] → t < 2 ^ b
  | [], cur, _, hc, m, t, h => by
    cases m with
    | nil => simp [shlN] at h; omega
    | cons x m => simp [shlN] at h
  | x :: l, cur, hl, hc, m, t, h => by
    cases m with
    | nil => simp [shlN] at h; have := shlN_len b l (x * 2 ^ b / 4294967296); rw [h.2] at this; simp at this
    | cons y m =>
      rw [shlN, List.cons_append] at h
      exact shlN_top l _ (fun d hd => hl d (List.mem_cons_of_mem _ hd)) (shl_hi (hl x (List.mem_cons_self ..))) m t (List.cons.inj h).2
end Go.Proofs.YtnljmpeaeajcoaaGreatDoor

namespace Go.Proofs.YtnljmpeaeajcoaaGreatDoor
open Go Go.Eng Go.Vi Go.Knuth
local instance modeI15 : Go.Eng.Mode := Sy

/-! div by more digits: both numbers are shifted -/
noncomputable def zrow (n : Nat) : List Nat := List.replicate n 0
def ShfRun (a : List UInt8) (ds ys : List Nat) (t b : Nat) : Prop := ∀ I : AE → List (Option AV) → List (Option Blk) → Bool,
  Eng.execN Tryz.prog (XD a ds 1) [eLz t b] 300 Tryz.f111.ntmps 6 (post 4 c111) (mkFr [(0, strA a), (9, .slice 0 0 ys.length ys.length false)]) (mkMem [.row (toAVs (rowD ys)) false 1]) (fun o fr' M' => I o (lv [9, 12, 13, 14, 15] fr') (mv [2, 3, 4] M')) =
    gC (eLz t b) (gM (eDig a ds 1) (I .normal [some (.slice 3 0 ys.length (ys.length + 1) false), some (.int .i64 (.ofNat b)), some (.slice 2 0 (ds.length + 1) (ds.length + 1) false), some (.int .i64 (.ofNat ys.length)), some (.slice 4 0 (ds.length + 1 - ys.length) (ds.length + 1 - ys.length) false)]
      [some (.row (rowI (shlF b (.ofNat 0) (ds.map Int.ofNat))) false 1), some (.row (rowI (shlF b (.ofNat 0) (ys.map Int.ofNat))) false 1), some (.row (toAVs (rowD (zrow (ds.length + 1 - ys.length)))) false 1)]))
theorem shf_23 (a : List UInt8) (d0 d1 d2 y0 y1 b : Nat) : ShfRun a [d0, d1, d2] [y0, y1] y1 b := fun I => by kernel_rfl
theorem shf_24 (a : List UInt8) (d0 d1 d2 d3 y0 y1 b : Nat) : ShfRun a [d0, d1, d2, d3] [y0, y1] y1 b := fun I => by kernel_rfl
theorem shf_33 (a : List UInt8) (d0 d1 d2 y0 y1 y2 b : Nat) : ShfRun a [d0, d1, d2] [y0, y1, y2] y2 b := fun I => by kernel_rfl
/-- the state in the long division -/
noncomputable def divSlots (n m b : Nat) : List (Nat × AV) := [(9, .slice 1 0 n (n + 1) false), (12, .int .i64 (.ofNat b)), (13, .slice 0 0 m m false), (14, .int .i64 (.ofNat n)), (15, .slice 2 0 (m - n) (m - n) false)]
noncomputable def divRows (xs ys os : List Nat) : List Blk := [.row (toAVs (rowD xs)) false 1, .row (toAVs (rowD ys)) false 1, .row (toAVs (rowD os)) false 1]
theorem divRows_ren (π : List Nat) (xs ys os : List Nat) : rows2 π (divRows xs ys os) = (divRows xs ys os).map some := by
  simp only [rows2, divRows, List.map_cons, List.map_nil, renB_data]
theorem div_shift {a b : List UInt8} {ds ys : List Nat} {t : Nat} (ha1 : 9 ≤ a.length) (ha2 : a.length ≤ 20) (hd : dgL a = ds) (hrun : ∀ b, ShfRun a ds ys t b) (ht : t < 4294967296) (ht0 : 0 < t) (hys : ∀ d ∈ ys, d < 4294967296)
    {Pr : AV → Prop} (h : ∀ sh, sh ≤ 31 → t * 2 ^ sh < 4294967296 → 4294967296 ≤ 2 * (t * 2 ^ sh) →
      W Tryz.prog Tryz.f111.ntmps 0 (post 10 c111) (mkFr (divSlots ys.length (ds.length + 1) sh)) (mkMem (divRows (shlN sh 0 ds) (shlN sh 0 ys) (zrow (ds.length + 1 - ys.length)))) (FinEx Tryz.prog Tryz.f111 0 [] Pr)) :
    W Tryz.prog Tryz.f111.ntmps 0 (post 4 c111) (mkFr [(0, strA a), (1, strA b), (9, .slice 0 0 ys.length ys.length false)]) (mkMem [.row (toAVs (rowD ys)) false 1]) (FinEx Tryz.prog Tryz.f111 0 [] Pr) := by
  obtain ⟨sh, h1, h2, h3, h4⟩ := lz_c t ht ht0
  have hds : ∀ d ∈ ds, d < 4294967296 := by rw [← hd]; exact dgL_lt a
  refine W.next0 (ts := [0, 9]) (π := [0]) (vs := [strA a, .slice 0 0 ys.length ys.length false]) (bs := [.row (toAVs (rowD ys)) false 1]) rfl (by rfl) [(0, strA a), (9, .slice 0 0 ys.length ys.length false)] [.row (toAVs (rowD ys)) false 1] rfl rfl
    (by simp only [rows2, List.map_cons, List.map_nil, renB_data]) (by rfl) ?_
  refine W.runN hm (hXm hX0 (eDig_ok a ds 1 (by omega) (by omega) hd)) (S := [eLz t sh]) (AllOk.mem ⟨h4.spec0 rfl, trivial⟩) 300 6 [9, 12, 13, 14, 15] [2, 3, 4] _ (hrun sh) ?_
  have hp : 0 < 2 ^ sh := Nat.pow_pos (by decide)
  rw [gC_iff, gM_iff, shlF_eq h1 ds 0 hds hp, shlF_eq h1 ys 0 hys hp, rowI_eq, rowI_eq]
  refine pdec_iff.2 fun fr1 M1 hv1 hm1 => ?_
  exact W.next (π := [2, 3, 4]) hv1 hm1 (divSlots ys.length (ds.length + 1) sh) (divRows (shlN sh 0 ds) (shlN sh 0 ys) (zrow (ds.length + 1 - ys.length))) rfl rfl (divRows_ren ..) (by rfl) (by simp) (by simp) (h sh h1 h2 h3)
end Go.Proofs.YtnljmpeaeajcoaaGreatDoor

namespace Go.Proofs.YtnljmpeaeajcoaaGreatDoor
open Go Go.Eng Go.Vi Go.Knuth
local instance modeI16 : Go.Eng.Mode := Sy

/-! one round of the long division: the runs -/
noncomputable def bodyL : Code := bodyOf (bodyOf (rhs (lhs (post 10 c111))))
noncomputable def bodyJ : Code := bodyOf (lhs (rhs bodyL))
noncomputable def bodyG : Code := bodyOf (bodyOf (lhs (post 2 bodyJ)))
noncomputable def jSlots (j : Int) (n m sh : Nat) : List (Nat × AV) := (16, .int .i64 j) :: divSlots n m sh
noncomputable def gSlots (g r : Int) (j : Int) (n m sh : Nat) : List (Nat × AV) := (18, .int .u64 g) :: (19, .int .u64 r) :: jSlots j n m sh
noncomputable def kys (l : List (Nat × AV)) : List Nat := List.map (·.1) l
noncomputable def vls (l : List (Nat × AV)) : List (Option AV) := List.map (fun p => some p.2) l
noncomputable def rws (l : List Blk) : List (Option Blk) := List.map some l
abbrev IK := AE → List (Option AV) → List (Option Blk) → Bool
noncomputable def T111 : Nat := Tryz.f111.ntmps
/-- the head of the round -/
def HeadJ (j : Int) (n m sh : Nat) (xs ys os : List Nat) : Prop := ∀ I : IK, Eng.exec Tryz.prog X0 [] 300 T111 (lhs bodyL) (mkFr (jSlots j n m sh)) (mkMem (divRows xs ys os)) (fun o fr' M' => I o (lv (kys (jSlots j n m sh)) fr') (mv [0, 1, 2] M')) = I .normal (vls (jSlots j n m sh)) (rws (divRows xs ys os))
/-- the first guess -/
def InitG (j : Int) (n m sh : Nat) (xs ys os : List Nat) (u0 u1 v : Nat) : Prop := ∀ I : IK, Eng.execN Tryz.prog X0 [] 300 T111 2 bodyJ (mkFr (jSlots j n m sh)) (mkMem (divRows xs ys os)) (fun o fr' M' => I o (lv (kys (gSlots 0 0 j n m sh)) fr') (mv [0, 1, 2] M')) =
  gNs 2 (ieq (IntKind.u64.wrap (.ofNat v)) 0) (I .normal (vls (gSlots (IntKind.u64.wrap (Int.tdiv (hiF (IntKind.u64.wrap (.ofNat u0)) (.ofNat u1)) (IntKind.u64.wrap (.ofNat v)))) (Int.tmod (hiF (IntKind.u64.wrap (.ofNat u0)) (.ofNat u1)) (IntKind.u64.wrap (.ofNat v))) j n m sh)) (rws (divRows xs ys os)))
noncomputable def gtF (g r y2 u2 : Nat) : Bool := ilt (hiF (.ofNat r) (.ofNat u2)) (IntKind.u64.wrap (Int.mul (.ofNat g) (IntKind.u64.wrap (.ofNat y2))))
noncomputable def tSlots (b : Bool) (g r : Nat) (j : Int) (n m sh : Nat) : List (Nat × AV) := (154, .bool b) :: gSlots (.ofNat g) (.ofNat r) j n m sh
/-- is the guess too great? -/
def TestG (j : Int) (n m sh : Nat) (xs ys os : List Nat) (y2 u2 : Nat) : Prop := ∀ (g r : Nat) (I : IK), Eng.exec Tryz.prog X0 [] 300 T111 (lhs (lhs bodyG)) (mkFr (gSlots (.ofNat g) (.ofNat r) j n m sh)) (mkMem (divRows xs ys os)) (fun o fr' M' => I o (lv (kys (tSlots true g r j n m sh)) fr') (mv [0, 1, 2] M')) =
  gIf (Bool.not (ilt (.ofNat g) 4294967296)) (I .normal (vls (tSlots true g r j n m sh)) (rws (divRows xs ys os))) (I .normal (vls (tSlots (gtF g r y2 u2) g r j n m sh)) (rws (divRows xs ys os)))
noncomputable def rvF (r v : Nat) : Int := IntKind.u64.wrap (Int.add (.ofNat r) (IntKind.u64.wrap (.ofNat v)))
/-- one less -/
def StepG (j : Int) (n m sh : Nat) (xs ys os : List Nat) (v : Nat) : Prop := ∀ (g r : Nat) (I : IK), Eng.exec Tryz.prog X0 [] 300 T111 (bodyOf (rhs bodyG)) (mkFr (gSlots (.ofNat g) (.ofNat r) j n m sh)) (mkMem (divRows xs ys os)) (fun o fr' M' => I o (lv (kys (gSlots 0 0 j n m sh)) fr') (mv [0, 1, 2] M')) =
  gIf (Bool.not (ilt (rvF r v) 4294967296)) (I (.exit 2) (vls (gSlots (IntKind.u64.wrap (Int.sub (.ofNat g) 1)) (rvF r v) j n m sh)) (rws (divRows xs ys os))) (I .normal (vls (gSlots (IntKind.u64.wrap (Int.sub (.ofNat g) 1)) (rvF r v) j n m sh)) (rws (divRows xs ys os)))
noncomputable def c1F (g : Int) (y : Nat) (c : Int) : Int := IntKind.u64.wrap (Int.add c (IntKind.u64.wrap (Int.mul g (IntKind.u64.wrap (.ofNat y)))))
noncomputable def dF (x : Nat) (b t : Int) : Int := Int.sub (Int.sub (.ofNat x) b) t
noncomputable def upF (c : Int) : Int := fdivP c (Nat.pow 2 (shAmt .u64 32))
/-- the guess times the divisor is taken off -/
noncomputable def msT (g : Int) (K : List Int → Int → Int → Bool) : List (Nat × Nat) → Int → Int → List Int → Bool
  | [], b, c, acc => K acc b c
  | p :: l, b, c, acc =>
    gB (inI64 (.ofNat p.1)) (gB (inI64 (Int.sub (.ofNat p.1) b)) (gB (inI64 (IntKind.u32.wrap (c1F g p.2 c))) (gB (inI64 (dF p.1 b (IntKind.u32.wrap (c1F g p.2 c))))
      (gIf (ilt (dF p.1 b (IntKind.u32.wrap (c1F g p.2 c))) 0)
        (gB (inI64 (Int.add (dF p.1 b (IntKind.u32.wrap (c1F g p.2 c))) 4294967296)) (msT g K l 1 (upF (c1F g p.2 c)) (acc ++ [IntKind.u32.wrap (Int.add (dF p.1 b (IntKind.u32.wrap (c1F g p.2 c))) 4294967296)])))
        (msT g K l 0 (upF (c1F g p.2 c)) (acc ++ [IntKind.u32.wrap (dF p.1 b (IntKind.u32.wrap (c1F g p.2 c)))]))))))
noncomputable def s1F (s x : Int) (y : Nat) : Int := IntKind.u64.wrap (Int.add s (IntKind.u64.wrap (Int.add (IntKind.u64.wrap x) (IntKind.u64.wrap (.ofNat y)))))
/-- put back -/
noncomputable def adF : List Int → List Nat → Int → List Int × Int
  | x :: xs, y :: ys, s => (IntKind.u32.wrap (s1F s x y) :: (adF xs ys (upF (s1F s x y))).1, (adF xs ys (upF (s1F s x y))).2)
  | _, _, s => ([], s)
noncomputable def setI (l : List Int) (i : Nat) (x : Int) : List Int := List.take i l ++ x :: List.drop (i + 1) l
noncomputable def roundRows (lo hi : List Nat) (w : List Int) (t : Int) (ys os : List Nat) (j : Nat) (q : Int) : List Blk :=
  [.row (rowI (lo.map Int.ofNat ++ w ++ t :: hi.map Int.ofNat)) false 1, .row (toAVs (rowD ys)) false 1, .row (rowI (setI (os.map Int.ofNat) j q)) false 1]
noncomputable def topT (I : IK) (g : Int) (jn n m sh : Nat) (lo hi ys yn os : List Nat) (u0 : Nat) (acc : List Int) (b c : Int) : Bool :=
  gB (inI64 (.ofNat u0)) (gB (inI64 (Int.sub (.ofNat u0) b)) (gB (inI64 c) (gB (inI64 (dF u0 b c))
    (gIf (ilt (dF u0 b c) 0)
      (I .normal (vls (jSlots (.ofNat jn) n m sh)) (rws (roundRows lo hi (adF acc yn 0).1 (IntKind.u32.wrap (Int.add (IntKind.u32.wrap (dF u0 b c)) (IntKind.u32.wrap (adF acc yn 0).2))) ys os jn (IntKind.u32.wrap (IntKind.u64.wrap (Int.sub g 1))))))
      (I .normal (vls (jSlots (.ofNat jn) n m sh)) (rws (roundRows lo hi acc (IntKind.u32.wrap (dF u0 b c)) ys os jn (IntKind.u32.wrap g))))))))
/-- the rest of the round -/
def RestJ (jn n m sh : Nat) (lo w hi yn ys os : List Nat) (u0 : Nat) : Prop := ∀ (g : Nat) (I : IK), Eng.exec Tryz.prog X0 [] 300 T111 (post 3 bodyJ) (mkFr ((18, .int .u64 (.ofNat g)) :: jSlots (.ofNat jn) n m sh)) (mkMem (divRows (lo ++ w ++ u0 :: hi) ys os)) (fun o fr' M' => I o (lv (kys (jSlots 0 n m sh)) fr') (mv [0, 1, 2] M')) =
  msT (.ofNat g) (fun acc b c => topT I (.ofNat g) jn n m sh lo hi ys yn os u0 acc b c) (w.zip yn) 0 0 []
/-- the last statement of the round -/
def NextJ (j : Int) (n m sh : Nat) (xs ys os : List Nat) : Prop := ∀ I : IK, Eng.exec Tryz.prog X0 [] 300 T111 (rhs (rhs bodyL)) (mkFr (jSlots j n m sh)) (mkMem (divRows xs ys os)) (fun o fr' M' => I o (lv (kys (jSlots 0 n m sh)) fr') (mv [0, 1, 2] M')) = I .normal (vls (jSlots (Int.sub j 1) n m sh)) (rws (divRows xs ys os))
/-- the end of the rounds -/
def ExitJ (n m sh : Nat) (xs ys os : List Nat) : Prop := ∀ I : IK, Eng.exec Tryz.prog X0 [] 300 T111 (lhs bodyL) (mkFr (jSlots (-1) n m sh)) (mkMem (divRows xs ys os)) (fun o fr' M' => I o (lv (kys (divSlots n m sh)) fr') (mv [0, 1, 2] M')) = I (.exit 0) (vls (divSlots n m sh)) (rws (divRows xs ys os))
/-- all that a round needs -/
structure Round (j n m sh : Nat) (lo w3 hi yl os : List Nat) (u0 u1 u2 y2 v yt : Nat) : Prop where
  head : HeadJ (.ofNat j) n m sh (lo ++ (w3 ++ [u2, u1]) ++ u0 :: hi) (yl ++ [y2, v] ++ [yt]) os
  init : InitG (.ofNat j) n m sh (lo ++ (w3 ++ [u2, u1]) ++ u0 :: hi) (yl ++ [y2, v] ++ [yt]) os u0 u1 v
  test : TestG (.ofNat j) n m sh (lo ++ (w3 ++ [u2, u1]) ++ u0 :: hi) (yl ++ [y2, v] ++ [yt]) os y2 u2
  step : StepG (.ofNat j) n m sh (lo ++ (w3 ++ [u2, u1]) ++ u0 :: hi) (yl ++ [y2, v] ++ [yt]) os v
  rest : RestJ j n m sh lo (w3 ++ [u2, u1]) hi (yl ++ [y2, v]) (yl ++ [y2, v] ++ [yt]) os u0
theorem nextJ (j : Int) (n m sh : Nat) (xs ys os : List Nat) (I : IK) : Eng.exec Tryz.prog X0 [] 300 T111 (rhs (rhs bodyL)) (mkFr (jSlots j n m sh)) (mkMem (divRows xs ys os)) (fun o fr' M' => I o (lv (kys (jSlots 0 n m sh)) fr') (mv [0, 1, 2] M')) =
  gB (inI64 (Int.sub j 1)) (I .normal (vls (jSlots (Int.sub j 1) n m sh)) (rws (divRows xs ys os))) := by kernel_rfl
theorem exitJ (n m sh : Nat) (xs ys os : List Nat) : ExitJ n m sh xs ys os := fun I => by kernel_rfl
theorem rd241 (l0 o0 o1 sh u0 u1 u2 y2 v yt : Nat) : Round 1 2 4 sh [l0] [] [] [] [o0, o1] u0 u1 u2 y2 v yt :=
  ⟨fun I => by kernel_rfl, fun I => by kernel_rfl, fun g r I => by kernel_rfl, fun g r I => by kernel_rfl, fun g I => by kernel_rfl⟩
theorem rd240 (h0 o0 o1 sh u0 u1 u2 y2 v yt : Nat) : Round 0 2 4 sh [] [] [h0] [] [o0, o1] u0 u1 u2 y2 v yt :=
  ⟨fun I => by kernel_rfl, fun I => by kernel_rfl, fun g r I => by kernel_rfl, fun g r I => by kernel_rfl, fun g I => by kernel_rfl⟩
theorem rd252 (l0 l1 o0 o1 o2 sh u0 u1 u2 y2 v yt : Nat) : Round 2 2 5 sh [l0, l1] [] [] [] [o0, o1, o2] u0 u1 u2 y2 v yt :=
  ⟨fun I => by kernel_rfl, fun I => by kernel_rfl, fun g r I => by kernel_rfl, fun g r I => by kernel_rfl, fun g I => by kernel_rfl⟩
theorem rd251 (l0 h0 o0 o1 o2 sh u0 u1 u2 y2 v yt : Nat) : Round 1 2 5 sh [l0] [] [h0] [] [o0, o1, o2] u0 u1 u2 y2 v yt :=
  ⟨fun I => by kernel_rfl, fun I => by kernel_rfl, fun g r I => by kernel_rfl, fun g r I => by kernel_rfl, fun g I => by kernel_rfl⟩
theorem rd250 (h0 h1 o0 o1 o2 sh u0 u1 u2 y2 v yt : Nat) : Round 0 2 5 sh [] [] [h0, h1] [] [o0, o1, o2] u0 u1 u2 y2 v yt :=
  ⟨fun I => by kernel_rfl, fun I => by kernel_rfl, fun g r I => by kernel_rfl, fun g r I => by kernel_rfl, fun g I => by kernel_rfl⟩
theorem rd340 (w0 z0 o0 sh u0 u1 u2 y2 v yt : Nat) : Round 0 3 4 sh [] [w0] [] [z0] [o0] u0 u1 u2 y2 v yt :=
  ⟨fun I => by kernel_rfl, fun I => by kernel_rfl, fun g r I => by kernel_rfl, fun g r I => by kernel_rfl, fun g I => by kernel_rfl⟩
end Go.Proofs.YtnljmpeaeajcoaaGreatDoor

namespace Go.Proofs.YtnljmpeaeajcoaaGreatDoor
open Go Go.Eng Go.Vi Go.Knuth
local instance modeI17 : Go.Eng.Mode := Sy

/-! one round: the guess -/

theorem vls_vals (l : List (Nat × AV)) (π : List Nat) (h : ∀ p ∈ l, renT π p.2 = some p.2) : vals2 π l = vls l := by
  unfold vals2 vls
  exact List.map_congr_left h
theorem vls_some (l : List (Nat × AV)) : ∀ x ∈ vls l, x ≠ none := by
  intro x hx e
  subst e
  obtain ⟨p, _, h⟩ := List.mem_map.1 hx
  cases h
theorem divSlots_ren (n m sh : Nat) : ∀ p ∈ divSlots n m sh, renT [0, 1, 2] p.2 = some p.2 := by
  intro p hp
  simp only [divSlots, List.mem_cons, List.not_mem_nil, or_false] at hp
  rcases hp with rfl | rfl | rfl | rfl | rfl <;> rfl
theorem jSlots_ren (j : Int) (n m sh : Nat) : ∀ p ∈ jSlots j n m sh, renT [0, 1, 2] p.2 = some p.2 := by
  intro p hp
  rcases List.mem_cons.1 hp with rfl | hp
  · rfl
  · exact divSlots_ren n m sh p hp
theorem gSlots_ren (g r j : Int) (n m sh : Nat) : ∀ p ∈ gSlots g r j n m sh, renT [0, 1, 2] p.2 = some p.2 := by
  intro p hp
  rcases List.mem_cons.1 hp with rfl | hp
  · rfl
  rcases List.mem_cons.1 hp with rfl | hp
  · rfl
  · exact jSlots_ren j n m sh p hp
/-- goes on from such a state -/
theorem W.from {c : Code} {Q : AE → Fr → Mem → Prop} {fr : Fr} {M : Mem} (slots : List (Nat × AV)) (hs : ∀ p ∈ slots, renT [0, 1, 2] p.2 = some p.2) (xs ys os : List Nat) (hv : lv (kys slots) fr = vls slots) (hm' : mv [0, 1, 2] M = rws (divRows xs ys os))
    (h : W Tryz.prog T111 0 c (mkFr slots) (mkMem (divRows xs ys os)) Q) : W Tryz.prog T111 0 c fr M Q :=
  W.next (π := [0, 1, 2]) hv hm' slots (divRows xs ys os) rfl (vls_vals slots _ hs) (divRows_ren ..) (by rfl) (vls_some slots) (by simp [rws]) h
theorem Blkd_ne {id j : Nat} {Q : AE → Fr → Mem → Prop} {fr : Fr} {M : Mem} (h : j ≠ id) (hq : Q (.exit j) fr M) : Blkd id Q (.exit j) fr M := by
  show if j = id then Q .normal fr M else Q (.exit j) fr M
  rw [if_neg h]; exact hq
theorem bodyG_cond : rhs (lhs bodyG) = .cond (.tmp 154) .skip (.exit 2) := by kernel_rfl
theorem bodyG_blk : rhs bodyG = .block 3 (bodyOf (rhs bodyG)) := by kernel_rfl
theorem W.skip {nt k : Nat} {fr : Fr} {M : Mem} {Q : AE → Fr → Mem → Prop} (h : Q .normal fr M) : W Tryz.prog nt k .skip fr M Q :=
  (W.exec hm hX0 (S := []) (fun _ h => by cases h) (k := k) (n := 1) (c := .skip) (K := fun o fr' M' => pdec (Q o fr' M')) (show pdec (Q .normal fr M) = true from pdec_iff.2 h)).mono fun _ _ _ hK => pdec_iff.1 hK
theorem W.exit {nt k id : Nat} {fr : Fr} {M : Mem} {Q : AE → Fr → Mem → Prop} (h : Q (.exit id) fr M) : W Tryz.prog nt k (.exit id) fr M Q :=
  (W.exec hm hX0 (S := []) (fun _ h => by cases h) (k := k) (n := 1) (c := .exit id) (K := fun o fr' M' => pdec (Q o fr' M')) (show pdec (Q (.exit id) fr M) = true from pdec_iff.2 h)).mono fun _ _ _ hK => pdec_iff.1 hK
theorem gtF_eq {g r y2 u2 : Nat} (hg : g < 4294967296) (hr : r < 4294967296) (hy : y2 < 4294967296) (hu : u2 < 4294967296) : gtF g r y2 u2 = decide (r * 4294967296 + u2 < g * y2) := by
  unfold gtF
  have h1 : g * y2 ≤ (4294967296 - 1) * (4294967296 - 1) := Nat.mul_le_mul (by omega) (by omega)
  have h2 : (4294967296 - 1) * (4294967296 - 1) = 18446744065119617025 := by decide
  have e1 : Int.mul (.ofNat g) (.ofNat y2) = .ofNat (g * y2) := rfl
  rw [hiF_eq r u2 hr hu, wrapU64 y2 (by omega), e1, wrapU64 (g * y2) (by omega), natlt]
theorem rvF_eq {r v : Nat} (hr : r < 4294967296) (hv : v < 4294967296) : rvF r v = .ofNat (r + v) := by
  unfold rvF
  have e1 : Int.add (.ofNat r) (.ofNat v) = .ofNat (r + v) := rfl
  rw [wrapU64 v (by omega), e1, wrapU64 _ (by omega)]
theorem sub1_eq {g : Nat} (h : 0 < g) (hg : g < 18446744073709551616) : IntKind.u64.wrap (Int.sub (.ofNat g) 1) = .ofNat (g - 1) := by
  have e1 : Int.sub (.ofNat g) 1 = .ofNat (g - 1) := by
    show (g : Int) - 1 = ((g - 1 : Nat) : Int)
    omega
  rw [e1, wrapU64 _ (by omega)]
theorem tSlots_lv {b : Bool} {g r : Nat} {j : Int} {n m sh : Nat} {fr : Fr} (h : lv (kys (tSlots true g r j n m sh)) fr = vls (tSlots b g r j n m sh)) :
    fr.get 154 = some (.bool b) ∧ lv (kys (gSlots (.ofNat g) (.ofNat r) j n m sh)) fr = vls (gSlots (.ofNat g) (.ofNat r) j n m sh) := by
  have h' : fr.get 154 :: lv (kys (gSlots (.ofNat g) (.ofNat r) j n m sh)) fr = some (.bool b) :: vls (gSlots (.ofNat g) (.ofNat r) j n m sh) := h
  exact List.cons.inj h'
theorem guess_loop {j : Int} {n m sh : Nat} {xs ys os : List Nat} {y2 u2 v : Nat} (hT : TestG j n m sh xs ys os y2 u2) (hS : StepG j n m sh xs ys os v) (hv1 : v < 4294967296) (hy : y2 < 4294967296) (hu : u2 < 4294967296) (G : Nat)
    {f g r : Nat} (hf : 4294967296 ≤ r + f * v) (hr : r < 4294967296) (hg : g < 17179869184) (hG : adj 4294967296 v y2 u2 f g r = G) {fr : Fr} {M : Mem} (hl : lv (kys (gSlots (.ofNat g) (.ofNat r) j n m sh)) fr = vls (gSlots (.ofNat g) (.ofNat r) j n m sh)) (hm0 : mv [0, 1, 2] M = rws (divRows xs ys os)) :
    W Tryz.prog T111 0 (.loop bodyG) fr M fun o fr' M' => o = .exit 2 ∧ (∃ r' : Int, lv (kys (gSlots 0 0 j n m sh)) fr' = vls (gSlots (.ofNat G) r' j n m sh)) ∧ mv [0, 1, 2] M' = rws (divRows xs ys os) := by
  refine W.loop (σ := { p : Nat × Nat × Nat // 4294967296 ≤ p.2.2 + p.1 * v ∧ p.2.2 < 4294967296 ∧ p.2.1 < 17179869184 ∧ adj 4294967296 v y2 u2 p.1 p.2.1 p.2.2 = G })
    (fun s fr M => lv (kys (gSlots (.ofNat s.1.2.1) (.ofNat s.1.2.2) j n m sh)) fr = vls (gSlots (.ofNat s.1.2.1) (.ofNat s.1.2.2) j n m sh) ∧ mv [0, 1, 2] M = rws (divRows xs ys os)) (fun s => s.1.1) ?_ ⟨(f, g, r), hf, hr, hg, hG⟩ ⟨hl, hm0⟩
  rintro ⟨⟨f, g, r⟩, hf, hr, hg, hG⟩ fr M ⟨hl, hm0⟩
  simp only at hf hr hg hG hl
  refine W.from (gSlots (.ofNat g) (.ofNat r) j n m sh) (gSlots_ren _ _ _ _ _ _) xs ys os hl hm0 ?_
  refine W.parts (by kernel_rfl) (W.parts (by kernel_rfl) ?_)
  refine W.run hm hX0 (S := []) (fun _ h => by cases h) 300 _ [0, 1, 2] _ (hT g r) ?_
  obtain ⟨f, rfl⟩ : ∃ k, f = k + 1 := ⟨f - 1, by
    have : f ≠ 0 := by rintro rfl; simp at hf; omega
    omega⟩
  -- less one
  have less : ∀ fr1 M1, 0 < g → (4294967296 ≤ g ∨ r * 4294967296 + u2 < g * y2) → lv (kys (gSlots (.ofNat g) (.ofNat r) j n m sh)) fr1 = vls (gSlots (.ofNat g) (.ofNat r) j n m sh) → mv [0, 1, 2] M1 = rws (divRows xs ys os) →
      W Tryz.prog T111 0 (rhs bodyG) fr1 M1 fun o fr' M' => (o = .normal ∧ ∃ s' : { p : Nat × Nat × Nat // 4294967296 ≤ p.2.2 + p.1 * v ∧ p.2.2 < 4294967296 ∧ p.2.1 < 17179869184 ∧ adj 4294967296 v y2 u2 p.1 p.2.1 p.2.2 = G }, s'.1.1 < f + 1 ∧ lv (kys (gSlots (.ofNat s'.1.2.1) (.ofNat s'.1.2.2) j n m sh)) fr' = vls (gSlots (.ofNat s'.1.2.1) (.ofNat s'.1.2.2) j n m sh) ∧ mv [0, 1, 2] M' = rws (divRows xs ys os)) ∨
        (o ≠ .normal ∧ o = .exit 2 ∧ (∃ r' : Int, lv (kys (gSlots 0 0 j n m sh)) fr' = vls (gSlots (.ofNat G) r' j n m sh)) ∧ mv [0, 1, 2] M' = rws (divRows xs ys os)) := by
    intro fr1 M1 hg0 hc hl1 hm1
    refine W.from (gSlots (.ofNat g) (.ofNat r) j n m sh) (gSlots_ren _ _ _ _ _ _) xs ys os hl1 hm1 ?_
    rw [bodyG_blk]
    refine W.block (W.run hm hX0 (S := []) (fun _ h => by cases h) 300 _ [0, 1, 2] _ (hS g r) ?_)
    rw [sub1_eq hg0 (by omega), rvF_eq hr hv1]
    have ha : adj 4294967296 v y2 u2 (f + 1) g r = if 4294967296 ≤ r + v then g - 1 else adj 4294967296 v y2 u2 f (g - 1) (r + v) := by
      rw [adj, if_pos hc]
    rw [ha] at hG
    refine gIf_of (fun h1 => pdec_iff.2 fun fr2 M2 hl2 hm2 => ?_) (fun h1 => pdec_iff.2 fun fr2 M2 hl2 hm2 => ?_)
    · have h1 : 4294967296 ≤ r + v := nilt.1 h1
      rw [if_pos h1] at hG
      subst hG
      exact Blkd_ne (by decide) (.inr ⟨by simp, rfl, ⟨_, hl2⟩, hm2⟩)
    · have h1 : r + v < 4294967296 := nilt.2 h1
      rw [if_neg (by omega)] at hG
      refine .inl ⟨rfl, ⟨(f, g - 1, r + v), ?_, h1, show g - 1 < 17179869184 by omega, hG⟩, Nat.lt_succ_self f, hl2, hm2⟩
      rw [Nat.add_mul, Nat.one_mul] at hf
      simp only
      omega
  refine gIf_of (fun h1 => pdec_iff.2 fun fr1 M1 hl1 hm1 => ?_) (fun h1 => pdec_iff.2 fun fr1 M1 hl1 hm1 => ?_)
  · obtain ⟨h154, hl1⟩ := tSlots_lv hl1
    have h1 : 4294967296 ≤ g := nilt.1 h1
    show W Tryz.prog T111 0 (rhs (lhs bodyG)) fr1 M1 _
    rw [bodyG_cond]
    exact W.cond true h154 (fun _ => W.skip (less fr1 M1 (by omega) (.inl h1) hl1 hm1)) (fun h => by cases h)
  · obtain ⟨h154, hl1⟩ := tSlots_lv hl1
    have h1 : g < 4294967296 := nilt.2 h1
    show W Tryz.prog T111 0 (rhs (lhs bodyG)) fr1 M1 _
    rw [bodyG_cond]
    rw [gtF_eq h1 hr hy hu] at h154
    by_cases hc : r * 4294967296 + u2 < g * y2
    · rw [decide_eq_true hc] at h154
      refine W.cond true h154 (fun _ => W.skip (less fr1 M1 ?_ (.inr hc) hl1 hm1)) (fun h => by cases h)
      apply Nat.pos_of_ne_zero
      rintro rfl
      omega
    · rw [decide_eq_false hc] at h154
      refine W.cond false h154 (fun h => by cases h) (fun _ => W.exit ?_)
      rw [adj, if_neg (by omega)] at hG
      subst hG
      exact .inr ⟨by simp, rfl, ⟨_, hl1⟩, hm1⟩
end Go.Proofs.YtnljmpeaeajcoaaGreatDoor

namespace Go.Proofs.YtnljmpeaeajcoaaGreatDoor
open Go Go.Eng Go.Vi Go.Knuth
local instance modeI18 : Go.Eng.Mode := Sy

/-! one round: the guess times the divisor is taken off, and put back if it was too great -/
theorem i64ok {x : Int} (h1 : -9223372036854775808 ≤ x) (h2 : x < 9223372036854775808) : inI64 x = true := (inI64_iff _).2 ⟨h1, h2⟩
theorem upF_eq (n : Nat) : upF (.ofNat n) = .ofNat (n / 4294967296) := by
  unfold upF
  rw [shAmt64 32 (by decide)]
  rfl
theorem gy_lt {c g y : Nat} (hg : g < 4294967296) (hy : y < 4294967296) (hc : c < 4294967296) : c + g * y < 18446744073709551616 ∧ (c + g * y) / 4294967296 < 4294967296 := by
  have h1 : g * y ≤ 4294967295 * 4294967295 := Nat.mul_le_mul (by omega) (by omega)
  constructor
  · omega
  · omega
theorem c1F_eq {c g y : Nat} (hg : g < 4294967296) (hy : y < 4294967296) (hc : c < 4294967296) : c1F (.ofNat g) y (.ofNat c) = .ofNat (c + g * y) := by
  obtain ⟨h1, _⟩ := gy_lt hg hy hc
  unfold c1F
  have e1 : Int.mul (.ofNat g) (.ofNat y) = .ofNat (g * y) := rfl
  have e2 : Int.add (.ofNat c) (.ofNat (g * y)) = .ofNat (c + g * y) := rfl
  rw [wrapU64 y (by omega), e1, wrapU64 (g * y) (by omega), e2, wrapU64 _ h1]
theorem dF_eq (x b t : Nat) : dF x (.ofNat b) (.ofNat t) = (x : Int) - b - t := rfl
theorem wrapU32i {z : Int} {n : Nat} (h : z = .ofNat n) (hn : n < 4294967296) : IntKind.u32.wrap z = .ofNat n := by rw [h, wrapU32 n hn]
theorem msT_of {g : Nat} (hg : g < 4294967296) {K : List Int → Int → Int → Bool} : ∀ (xs ys : List Nat) (b c : Nat) (acc : List Int), xs.length = ys.length → (∀ x ∈ xs, x < 4294967296) → (∀ y ∈ ys, y < 4294967296) → b ≤ 1 → c < 4294967296 →
    K (acc ++ (mulsub 4294967296 g xs ys b c).1.map Int.ofNat) (.ofNat (mulsub 4294967296 g xs ys b c).2.1) (.ofNat (mulsub 4294967296 g xs ys b c).2.2) = true → msT (.ofNat g) K (xs.zip ys) (.ofNat b) (.ofNat c) acc = true
  | [], [], b, c, acc, _, _, _, _, _, h => by simpa [mulsub, msT] using h
  | x :: xs, y :: ys, b, c, acc, hl, hx, hy, hb, hc, h => by
    have hx0 := hx x (List.mem_cons_self ..)
    have hy0 := hy y (List.mem_cons_self ..)
    obtain ⟨h1, h2⟩ := gy_lt hg hy0 hc
    have hm' := Nat.mod_lt (c + g * y) (show 0 < 4294967296 by decide)
    have ih := msT_of hg (K := K) xs ys
    rw [List.zip_cons_cons, msT]
    simp only []
    rw [c1F_eq hg hy0 hc, wrapU32m, upF_eq, dF_eq]
    simp only [gB_iff]
    refine ⟨i64ok (by simp only [Int.ofNat_eq_natCast]; omega) (by simp only [Int.ofNat_eq_natCast]; omega), i64ok (by show -9223372036854775808 ≤ (x : Int) - (b : Int); omega) (by show (x : Int) - (b : Int) < _; omega), i64ok (by simp only [Int.ofNat_eq_natCast]; omega) (by simp only [Int.ofNat_eq_natCast]; omega), i64ok (by omega) (by omega), ?_⟩
    rw [ilt_iff]
    refine gIf_of (fun hlt => ?_) (fun hlt => ?_)
    · have hlt := of_decide_eq_true hlt
      have hlt' : x < b + (c + g * y) % 4294967296 := by omega
      have e : Int.add ((x : Int) - b - ((c + g * y) % 4294967296 : Nat)) 4294967296 = .ofNat (x + 4294967296 - (b + (c + g * y) % 4294967296)) := by
        show (x : Int) - b - ((c + g * y) % 4294967296 : Nat) + 4294967296 = ((x + 4294967296 - (b + (c + g * y) % 4294967296) : Nat) : Int)
        omega
      rw [gB_iff, e, wrapU32 _ (by omega)]
      refine ⟨i64ok (by simp only [Int.ofNat_eq_natCast]; omega) (by simp only [Int.ofNat_eq_natCast]; omega), ?_⟩
      refine ih 1 _ _ (by simpa using hl) (fun z hz => hx z (List.mem_cons_of_mem _ hz)) (fun z hz => hy z (List.mem_cons_of_mem _ hz)) (by omega) h2 ?_
      simp only [mulsub, if_pos hlt'] at h
      simpa [List.append_assoc] using h
    · have hlt := of_decide_eq_false hlt
      have hlt' : ¬ x < b + (c + g * y) % 4294967296 := by omega
      have e : (x : Int) - b - ((c + g * y) % 4294967296 : Nat) = .ofNat (x - (b + (c + g * y) % 4294967296)) := by
        show _ = ((x - (b + (c + g * y) % 4294967296) : Nat) : Int)
        omega
      rw [wrapU32i e (by omega)]
      refine ih 0 _ _ (by simpa using hl) (fun z hz => hx z (List.mem_cons_of_mem _ hz)) (fun z hz => hy z (List.mem_cons_of_mem _ hz)) (by omega) h2 ?_
      simp only [mulsub, if_neg hlt'] at h
      simpa [List.append_assoc] using h
  | [], _ :: _, _, _, _, hl, _, _, _, _, _ => by simp at hl
  | _ :: _, [], _, _, _, hl, _, _, _, _, _ => by simp at hl
theorem mulsub_c {g : Nat} (hg : g < 4294967296) : ∀ (xs ys : List Nat) (b c : Nat), (∀ y ∈ ys, y < 4294967296) → c < 4294967296 → (mulsub 4294967296 g xs ys b c).2.2 < 4294967296
  | [], _, b, c, _, hc => by simpa [mulsub] using hc
  | _ :: _, [], b, c, _, hc => by simpa [mulsub] using hc
  | x :: xs, y :: ys, b, c, hy, hc => by
    simp only [mulsub]
    exact mulsub_c hg xs ys _ _ (fun z hz => hy z (List.mem_cons_of_mem _ hz)) (gy_lt hg (hy y (List.mem_cons_self ..)) hc).2
theorem adF_eq : ∀ (xs ys : List Nat) (s : Nat), (∀ x ∈ xs, x < 4294967296) → (∀ y ∈ ys, y < 4294967296) → s ≤ 2 → adF (xs.map Int.ofNat) ys (.ofNat s) = ((addb 4294967296 xs ys s).1.map Int.ofNat, .ofNat (addb 4294967296 xs ys s).2)
  | [], ys, s, _, _, _ => by cases ys <;> simp [adF, addb]
  | _ :: _, [], s, _, _, _ => by simp [adF, addb]
  | x :: xs, y :: ys, s, hx, hy, hs => by
    have hx0 := hx x (List.mem_cons_self ..)
    have hy0 := hy y (List.mem_cons_self ..)
    have e : s1F (.ofNat s) (.ofNat x) y = .ofNat (s + (x + y)) := by
      unfold s1F
      have e1 : Int.add (.ofNat x) (.ofNat y) = .ofNat (x + y) := rfl
      have e2 : Int.add (.ofNat s) (.ofNat (x + y)) = .ofNat (s + (x + y)) := rfl
      rw [wrapU64 x (by omega), wrapU64 y (by omega), e1, wrapU64 _ (by omega), e2, wrapU64 _ (by omega)]
    rw [List.map_cons, adF, e, upF_eq, wrapU32m, adF_eq xs ys _ (fun z hz => hx z (List.mem_cons_of_mem _ hz)) (fun z hz => hy z (List.mem_cons_of_mem _ hz)) (by omega)]
    simp [addb]
theorem u32_any (z : Int) : ∃ n : Nat, n < 4294967296 ∧ IntKind.u32.wrap z = .ofNat n := by
  have h1 : 0 ≤ z % 4294967296 := Int.emod_nonneg _ (by decide)
  have h2 : z % 4294967296 < 4294967296 := Int.emod_lt_of_pos _ (by decide)
  refine ⟨(z % 4294967296).toNat, by omega, ?_⟩
  have : IntKind.u32.wrap z = z % 4294967296 := by simp [IntKind.wrap, IntKind.bits, IntKind.signed]
  rw [this]
  simp only [Int.ofNat_eq_natCast]; omega
/-- with one digit replaced -/
def setN (l : List Nat) (i : Nat) (x : Nat) : List Nat := l.take i ++ x :: l.drop (i + 1)
theorem setI_eq (l : List Nat) (i x : Nat) : setI (l.map Int.ofNat) i (.ofNat x) = (setN l i x).map Int.ofNat := by
  simp [setI, setN, List.map_take, List.map_drop]
theorem roundRows_eq (lo hi w : List Nat) (ys os : List Nat) (j q : Nat) : roundRows lo hi (w.map Int.ofNat) (.ofNat 0) ys os j (.ofNat q) = divRows (lo ++ w ++ 0 :: hi) ys (setN os j q) := by
  unfold roundRows divRows
  rw [setI_eq, rowI_eq, ← rowI_eq (lo ++ w ++ 0 :: hi)]
  simp
theorem topT_of {I : IK} {g jn n m sh u0 : Nat} {lo hi ys yn os xs : List Nat} (hg : g < 4294967296) (hl : xs.length = yn.length) (hx : ∀ x ∈ xs, x < 4294967296) (hy : ∀ y ∈ yn, y < 4294967296) (hu : u0 < 4294967296)
    (h1 : ¬ u0 < (mulsub 4294967296 g xs yn 0 0).2.1 + (mulsub 4294967296 g xs yn 0 0).2.2 → (mulsub 4294967296 g xs yn 0 0).2.1 + (mulsub 4294967296 g xs yn 0 0).2.2 = u0)
    (h2 : u0 < (mulsub 4294967296 g xs yn 0 0).2.1 + (mulsub 4294967296 g xs yn 0 0).2.2 → (mulsub 4294967296 g xs yn 0 0).2.1 + (mulsub 4294967296 g xs yn 0 0).2.2 = u0 + 1 ∧ (addb 4294967296 (mulsub 4294967296 g xs yn 0 0).1 yn 0).2 = 1)
    (hI : ∀ q, q < 4294967296 → I .normal (vls (jSlots (.ofNat jn) n m sh)) (rws (divRows (lo ++ stepW 4294967296 g xs yn u0 ++ 0 :: hi) ys (setN os jn q))) = true) :
    msT (.ofNat g) (fun acc b c => topT I (.ofNat g) jn n m sh lo hi ys yn os u0 acc b c) (xs.zip yn) 0 0 [] = true := by
  refine msT_of hg xs yn 0 0 [] hl hx hy (by omega) (by omega) ?_
  rw [List.nil_append]
  have hmv := mulsub_val (B := 4294967296) (by decide) g xs yn 0 0 hl hx (by omega)
  have hmc := mulsub_c hg xs yn 0 0 hy (by omega)
  unfold stepW at hI
  generalize hr : mulsub 4294967296 g xs yn 0 0 = r at *
  obtain ⟨ds, b, c⟩ := r
  simp only at *
  obtain ⟨_, hb, hds⟩ := hmv
  unfold topT
  simp only [gB_iff]
  refine ⟨i64ok (by simp only [Int.ofNat_eq_natCast]; omega) (by simp only [Int.ofNat_eq_natCast]; omega), i64ok (by show -9223372036854775808 ≤ (u0 : Int) - (b : Int); omega) (by show (u0 : Int) - (b : Int) < _; omega), i64ok (by simp only [Int.ofNat_eq_natCast]; omega) (by simp only [Int.ofNat_eq_natCast]; omega), i64ok (by rw [dF_eq]; omega) (by rw [dF_eq]; omega), ?_⟩
  rw [ilt_iff]
  refine gIf_of (fun hlt => ?_) (fun hlt => ?_)
  · have hlt := of_decide_eq_true hlt
    rw [dF_eq] at hlt
    have hlt' : u0 < b + c := by omega
    obtain ⟨h3, h4⟩ := h2 hlt'
    have e : IntKind.u32.wrap (dF u0 (.ofNat b) (.ofNat c)) = .ofNat 4294967295 := by
      have : dF u0 (.ofNat b) (.ofNat c) = -1 := by rw [dF_eq]; omega
      rw [this]; rfl
    obtain ⟨q, hq, eq⟩ := u32_any (IntKind.u64.wrap (Int.sub (.ofNat g) 1))
    have had : adF (ds.map Int.ofNat) yn 0 = _ := adF_eq ds yn 0 hds hy (by omega)
    rw [e, had, h4, eq]
    have e2 : IntKind.u32.wrap (Int.add (.ofNat 4294967295) (IntKind.u32.wrap (.ofNat 1))) = .ofNat 0 := rfl
    rw [e2, roundRows_eq]
    have := hI q hq
    rwa [if_pos hlt'] at this
  · have hlt := of_decide_eq_false hlt
    rw [dF_eq] at hlt
    have hlt' : ¬ u0 < b + c := by omega
    have h3 := h1 hlt'
    have e : IntKind.u32.wrap (dF u0 (.ofNat b) (.ofNat c)) = .ofNat 0 := by
      have : dF u0 (.ofNat b) (.ofNat c) = 0 := by rw [dF_eq]; omega
      rw [this]; rfl
    obtain ⟨q, hq, eq⟩ := u32_any (.ofNat g)
    rw [e, eq, roundRows_eq]
    have := hI q hq
    rwa [if_neg hlt'] at this
end Go.Proofs.YtnljmpeaeajcoaaGreatDoor

namespace Go.Proofs.YtnljmpeaeajcoaaGreatDoor
open Go Go.Eng Go.Vi Go.Knuth
local instance modeI19 : Go.Eng.Mode := Sy

/-! one round, whole -/
theorem bodyL_blk : lhs (rhs bodyL) = .block 1 bodyJ := by kernel_rfl
theorem bodyJ_blk : lhs (post 2 bodyJ) = .block 2 (.loop bodyG) := by kernel_rfl
theorem Blkd_eq {id : Nat} {Q : AE → Fr → Mem → Prop} {fr : Fr} {M : Mem} (hq : Q .normal fr M) : Blkd id Q (.exit id) fr M := by
  show if id = id then Q .normal fr M else Q (.exit id) fr M
  rw [if_pos rfl]; exact hq
theorem ieq0 {v : Nat} (hv : v < 4294967296) (h0 : 0 < v) : ieq (IntKind.u64.wrap (.ofNat v)) 0 = false := by
  rw [wrapU64 v (by omega), ieq_iff]
  simp only [Int.ofNat_eq_natCast, beq_eq_false_iff_ne, ne_eq]
  omega
theorem kys_g (g r j : Int) (n m sh : Nat) : kys (gSlots g r j n m sh) = [18, 19, 16, 9, 12, 13, 14, 15] := rfl
theorem kys_j (j : Int) (n m sh : Nat) : kys (jSlots j n m sh) = [16, 9, 12, 13, 14, 15] := rfl
theorem round_c {j n m sh : Nat} {lo w3 hi yl os : List Nat} {u0 u1 u2 y2 v yt : Nat} (hR : Round j n m sh lo w3 hi yl os u0 u1 u2 y2 v yt) (hl : yl.length = w3.length) (hv : 4294967296 ≤ 2 * v) (hvB : v < 4294967296) (hy2 : y2 < 4294967296)
    (hu0 : u0 < 4294967296) (hu1 : u1 < 4294967296) (hu2 : u2 < 4294967296) (hyl : ∀ d ∈ yl, d < 4294967296) (hw3 : ∀ d ∈ w3, d < 4294967296) (hj : j < 4294967296)
    (hU : val 4294967296 (w3 ++ [u2, u1]) + 4294967296 ^ (yl ++ [y2, v]).length * u0 < val 4294967296 (yl ++ [y2, v]) * 4294967296) :
    W Tryz.prog T111 0 bodyL (mkFr (jSlots (.ofNat j) n m sh)) (mkMem (divRows (lo ++ (w3 ++ [u2, u1]) ++ u0 :: hi) (yl ++ [y2, v] ++ [yt]) os)) fun o fr' M' =>
      o = .normal ∧ ∃ (q : Nat) (ws : List Nat), q < 4294967296 ∧ val 4294967296 ws < val 4294967296 (yl ++ [y2, v]) ∧ ws.length = (yl ++ [y2, v]).length ∧ (∀ d ∈ ws, d < 4294967296) ∧
        lv (kys (jSlots 0 n m sh)) fr' = vls (jSlots (Int.sub (.ofNat j) 1) n m sh) ∧ mv [0, 1, 2] M' = rws (divRows (lo ++ ws ++ 0 :: hi) (yl ++ [y2, v] ++ [yt]) (setN os j q)) := by
  obtain ⟨k1, k2, k3, k4, k5, k6⟩ := window_full (B := 4294967296) (by decide) rfl hl hv hvB hy2 hu2 hu1 hyl hw3 hU
  have hhigh : u0 * 4294967296 + u1 < 18446744073709551616 := by omega
  have hv0 : 0 < v := by omega
  have hq0 : (u0 * 4294967296 + u1) / v < 17179869184 := by
    rw [Nat.div_lt_iff_lt_mul hv0]
    have : 17179869184 * 2147483648 ≤ 17179869184 * v := Nat.mul_le_mul_left _ (by omega)
    omega
  have hr0 := Nat.mod_lt (u0 * 4294967296 + u1) hv0
  have hyn : ∀ d ∈ yl ++ [y2, v], d < 4294967296 := by
    intro d hd
    rcases List.mem_append.1 hd with hd | hd
    · exact hyl d hd
    · simp only [List.mem_cons, List.not_mem_nil, or_false] at hd
      rcases hd with rfl | rfl <;> assumption
  have hxs : ∀ d ∈ w3 ++ [u2, u1], d < 4294967296 := by
    intro d hd
    rcases List.mem_append.1 hd with hd | hd
    · exact hw3 d hd
    · simp only [List.mem_cons, List.not_mem_nil, or_false] at hd
      rcases hd with rfl | rfl <;> assumption
  have hadj : adj 4294967296 v y2 u2 2 ((u0 * 4294967296 + u1) / v) ((u0 * 4294967296 + u1) % v) = _ := rfl
  generalize hG : adj 4294967296 v y2 u2 2 ((u0 * 4294967296 + u1) / v) ((u0 * 4294967296 + u1) % v) = G at k1 k2 k3 k4 k5 k6
  refine W.parts (by kernel_rfl) (W.run hm hX0 (S := []) (fun _ h => by cases h) 300 _ [0, 1, 2] _ hR.head (pdec_iff.2 fun fr1 M1 hl1 hm1 => ?_))
  show W Tryz.prog T111 0 (rhs bodyL) fr1 M1 _
  refine W.from _ (jSlots_ren _ _ _ _) _ _ _ hl1 hm1 ?_
  refine W.parts (by kernel_rfl) ?_
  rw [bodyL_blk]
  refine W.block ?_
  refine W.runN hm hX0 (S := []) (fun _ h => by cases h) 300 2 _ [0, 1, 2] _ hR.init ?_
  refine gNs_of (ieq0 hvB hv0) ?_
  rw [wrapU64 u0 (by omega), hiF_eq u0 u1 hu0 hu1, wrapU64 v (by omega)]
  have e1 : Int.tdiv (.ofNat (u0 * 4294967296 + u1)) (.ofNat v) = .ofNat ((u0 * 4294967296 + u1) / v) := rfl
  have e2 : Int.tmod (.ofNat (u0 * 4294967296 + u1)) (.ofNat v) = .ofNat ((u0 * 4294967296 + u1) % v) := rfl
  rw [e1, e2, wrapU64 _ (by omega)]
  clear e1 e2 hadj
  generalize (u0 * 4294967296 + u1) / v = g0 at *
  generalize (u0 * 4294967296 + u1) % v = r0 at *
  refine pdec_iff.2 fun fr2 M2 hl2 hm2 => ?_
  rw [kys_g] at hl2
  show W Tryz.prog T111 0 (post 2 bodyJ) fr2 M2 _
  refine W.parts (by kernel_rfl) ?_
  rw [bodyJ_blk]
  refine W.block ((guess_loop hR.test hR.step hvB hy2 hu2 G (f := 2) (by omega) (by omega) hq0 hG (by rw [kys_g]; exact hl2) hm2).mono fun o fr3 M3 h => ?_)
  obtain ⟨rfl, ⟨r', hl3⟩, hm3⟩ := h
  refine Blkd_eq ?_
  show W Tryz.prog T111 0 (rhs (post 2 bodyJ)) fr3 M3 _
  refine W.from ((18, .int .u64 (.ofNat G)) :: jSlots (.ofNat j) n m sh) ?_ (lo ++ (w3 ++ [u2, u1]) ++ u0 :: hi) (yl ++ [y2, v] ++ [yt]) os ?_ hm3 ?_
  · intro p hp
    rcases List.mem_cons.1 hp with rfl | hp
    · rfl
    · exact jSlots_ren _ _ _ _ p hp
  · have h' : fr3.get 18 :: fr3.get 19 :: lv (kys (jSlots (.ofNat j) n m sh)) fr3 = some (.int .u64 (.ofNat G)) :: some (.int .u64 r') :: vls (jSlots (.ofNat j) n m sh) := hl3
    have h18 := (List.cons.inj h').1
    have h0 := (List.cons.inj (List.cons.inj h').2).2
    show fr3.get 18 :: lv (kys (jSlots (.ofNat j) n m sh)) fr3 = some (.int .u64 (.ofNat G)) :: vls (jSlots (.ofNat j) n m sh)
    rw [h18, h0]
  refine W.run hm hX0 (S := []) (fun _ h => by cases h) 300 _ [0, 1, 2] _ (hR.rest G) ?_
  refine topT_of k1 (by simp [hl]) hxs hyn hu0 k5 k6 fun q hq => pdec_iff.2 fun fr4 M4 hl4 hm4 => ?_
  show W Tryz.prog T111 0 (rhs (rhs bodyL)) fr4 M4 _
  refine W.from (jSlots (.ofNat j) n m sh) (jSlots_ren _ _ _ _) _ _ _ hl4 hm4 ?_
  refine W.run hm hX0 (S := []) (fun _ h => by cases h) 300 _ [0, 1, 2] _ (nextJ (.ofNat j) n m sh _ _ _) ?_
  rw [gB_iff]
  refine ⟨i64ok (by show -9223372036854775808 ≤ (j : Int) - 1; omega) (by show (j : Int) - 1 < _; omega), pdec_iff.2 fun fr5 M5 hl5 hm5 => ?_⟩
  exact ⟨rfl, q, _, hq, k2, k3, k4, hl5, hm5⟩
end Go.Proofs.YtnljmpeaeajcoaaGreatDoor

namespace Go.Proofs.YtnljmpeaeajcoaaGreatDoor
open Go Go.Eng Go.Vi Go.Knuth
local instance modeI20 : Go.Eng.Mode := Sy

/-! the rounds -/
def jv (c : Nat) : Int := match c with | 0 => -1 | j + 1 => .ofNat j
theorem jv_pred (j : Nat) : Int.sub (.ofNat j) 1 = jv j := by
  cases j with
  | zero => rfl
  | succ j => show ((j + 1 : Nat) : Int) - 1 = (j : Int); omega
structure Inv (n m : Nat) (ysn : List Nat) (c : Nat) (xs os : List Nat) : Prop where
  len : xs.length = m
  olen : os.length = m - n
  hc : c ≤ m - n
  dig : ∀ d ∈ xs, d < 4294967296
  odig : ∀ d ∈ os, d < 4294967296
  win : (c = 0 → ∃ ws hi, xs = ws ++ 0 :: hi ∧ ws.length = n ∧ val 4294967296 ws < val 4294967296 ysn) ∧
    ∀ j, c = j + 1 → ∃ lo w u0 hi, xs = lo ++ w ++ u0 :: hi ∧ lo.length = j ∧ w.length = n ∧ val 4294967296 w + 4294967296 ^ n * u0 < val 4294967296 ysn * 4294967296
/-- all rounds there are -/
def Rounds (n m : Nat) : Prop := ∀ (j : Nat) (lo w3 hi yl os : List Nat) (sh u0 u1 u2 y2 v yt : Nat), lo.length = j → w3.length = n - 2 → yl.length = n - 2 → hi.length = m - 1 - n - j → os.length = m - n → j < m - n → Round j n m sh lo w3 hi yl os u0 u1 u2 y2 v yt
theorem last2 : ∀ (l : List Nat), 2 ≤ l.length → ∃ l' a b, l = l' ++ [a, b]
  | [], h => by simp at h
  | [_], h => by simp at h
  | [a, b], _ => ⟨[], a, b, rfl⟩
  | a :: b :: c :: l, _ => by
    obtain ⟨l', x, y, h⟩ := last2 (b :: c :: l) (by simp)
    exact ⟨a :: l', x, y, by rw [h]; rfl⟩
theorem last1 : ∀ (l : List Nat), 1 ≤ l.length → ∃ l' a, l = l' ++ [a]
  | [], h => by simp at h
  | [a], _ => ⟨[], a, rfl⟩
  | a :: b :: l, _ => by
    obtain ⟨l', x, h⟩ := last1 (b :: l) (by simp)
    exact ⟨a :: l', x, by rw [h]; rfl⟩
theorem setN_len (l : List Nat) (i x : Nat) (h : i < l.length) : (setN l i x).length = l.length := by
  simp [setN]; omega
theorem setN_mem {l : List Nat} {i x d : Nat} (h : d ∈ setN l i x) : d = x ∨ d ∈ l := by
  unfold setN at h
  rcases List.mem_append.1 h with h | h
  · exact .inr (List.mem_of_mem_take h)
  · rcases List.mem_cons.1 h with h | h
    · exact .inl h
    · exact .inr (List.mem_of_mem_drop h)
theorem rounds_loop {n m sh : Nat} (hn : 2 ≤ n) (hm4 : m < 4294967296) (hR : Rounds n m) {yl : List Nat} {y2 v yt : Nat} (hyl : yl.length = n - 2) (hv : 4294967296 ≤ 2 * v) (hvB : v < 4294967296) (hy2 : y2 < 4294967296) (hylB : ∀ d ∈ yl, d < 4294967296)
    {c : Nat} {xs os : List Nat} (hI : Inv n m (yl ++ [y2, v]) c xs os) {fr : Fr} {M : Mem} (hl : lv [16, 9, 12, 13, 14, 15] fr = vls (jSlots (jv c) n m sh)) (hm0 : mv [0, 1, 2] M = rws (divRows xs (yl ++ [y2, v] ++ [yt]) os)) :
    W Tryz.prog T111 0 (.loop bodyL) fr M fun o fr' M' => o = .exit 0 ∧ ∃ ws hi os', ws.length = n ∧ val 4294967296 ws < val 4294967296 (yl ++ [y2, v]) ∧ (ws ++ 0 :: hi).length = m ∧ os'.length = m - n ∧ (∀ d ∈ ws ++ 0 :: hi, d < 4294967296) ∧ (∀ d ∈ os', d < 4294967296) ∧
      lv [9, 12, 13, 14, 15] fr' = vls (divSlots n m sh) ∧ mv [0, 1, 2] M' = rws (divRows (ws ++ 0 :: hi) (yl ++ [y2, v] ++ [yt]) os') := by
  refine W.loop (σ := { p : Nat × List Nat × List Nat // Inv n m (yl ++ [y2, v]) p.1 p.2.1 p.2.2 })
    (fun s fr M => lv [16, 9, 12, 13, 14, 15] fr = vls (jSlots (jv s.1.1) n m sh) ∧ mv [0, 1, 2] M = rws (divRows s.1.2.1 (yl ++ [y2, v] ++ [yt]) s.1.2.2)) (fun s => s.1.1) ?_ ⟨(c, xs, os), hI⟩ ⟨hl, hm0⟩
  rintro ⟨⟨c, xs, os⟩, hI⟩ fr M ⟨hl, hm0⟩
  simp only at hI hl hm0
  refine W.from (jSlots (jv c) n m sh) (jSlots_ren _ _ _ _) xs _ os (by rw [kys_j]; exact hl) hm0 ?_
  cases c with
  | zero =>
    obtain ⟨ws, hi, rfl, h1, h2⟩ := hI.win.1 rfl
    refine W.parts (by kernel_rfl) (W.run hm hX0 (S := []) (fun _ h => by cases h) 300 _ [0, 1, 2] _ (exitJ n m sh _ _ _) (pdec_iff.2 fun fr1 M1 hl1 hm1 => ?_))
    exact .inr ⟨by simp, rfl, ws, hi, os, h1, h2, hI.len, hI.olen, hI.dig, hI.odig, hl1, hm1⟩
  | succ j =>
    obtain ⟨lo, w, u0, hi, rfl, h1, h2, h3⟩ := hI.win.2 j rfl
    obtain ⟨w3, u2, u1, rfl⟩ := last2 w (by omega)
    have hjn : j < m - n := hI.hc
    have hlen := hI.len
    simp only [List.length_append, List.length_cons, List.length_nil] at hlen h2
    have hnl : (yl ++ [y2, v]).length = n := by simp [hyl]; omega
    have hdig := hI.dig
    have d1 : ∀ d ∈ w3 ++ [u2, u1], d < 4294967296 := fun d hd => hdig d (by simp only [List.mem_append] at hd ⊢; exact .inl (.inr hd))
    refine (round_c (hR j lo w3 hi yl os sh u0 u1 u2 y2 v yt h1 (by omega) hyl (by omega) hI.olen hjn) (by omega) hv hvB hy2 (hdig u0 (by simp)) (d1 u1 (by simp)) (d1 u2 (by simp)) hylB (fun d hd => d1 d (by simp [hd])) (by omega) (by rw [hnl]; exact h3)).mono fun o fr' M' h => ?_
    obtain ⟨rfl, q, ws, k1, k2, k3, k4, k5, k6⟩ := h
    rw [kys_j, jv_pred] at k5
    refine .inl ⟨rfl, ⟨(j, lo ++ ws ++ 0 :: hi, setN os j q), ?_⟩, Nat.lt_succ_self j, k5, k6⟩
    have hdig' : ∀ d ∈ lo ++ ws ++ 0 :: hi, d < 4294967296 := by
      intro d hd
      simp only [List.mem_append, List.mem_cons] at hd
      rcases hd with (hd | hd) | rfl | hd
      · exact hdig d (by simp [hd])
      · exact k4 d hd
      · decide
      · exact hdig d (by simp [hd])
    refine ⟨?_, by rw [setN_len _ _ _ (by rw [hI.olen]; exact hjn)]; exact hI.olen, by simp only; omega, hdig', fun d hd => ?_, fun hj => ?_, fun i hi' => ?_⟩
    · show (lo ++ ws ++ 0 :: hi).length = m
      rw [List.length_append, List.length_append, k3, hnl, List.length_cons]; omega
    · rcases setN_mem hd with rfl | hd
      · exact k1
      · exact hI.odig d hd
    · have hj : j = 0 := hj
      have : lo = [] := List.eq_nil_of_length_eq_zero (by omega)
      subst this
      exact ⟨ws, hi, by simp, by rw [k3, hnl], k2⟩
    · have hji : j = i + 1 := hi'
      obtain ⟨lo', a, rfl⟩ := last1 lo (by omega)
      obtain ⟨ws', b, rfl⟩ := last1 ws (by rw [k3, hnl]; omega)
      simp only [List.length_append, List.length_cons, List.length_nil] at h1 k3
      refine ⟨lo', a :: ws', b, 0 :: hi, by simp, by omega, by simp only [List.length_cons]; simp only [List.length_append, List.length_cons, List.length_nil] at hnl; omega, ?_⟩
      have ha : a < 4294967296 := hdig a (by simp)
      have hws : ws'.length = n - 1 := by simp only [List.length_append, List.length_cons, List.length_nil] at hnl; omega
      rw [val_append] at k2
      simp only [val, Nat.mul_zero, Nat.add_zero] at k2 ⊢
      obtain ⟨n', rfl⟩ : ∃ n', n = n' + 1 := ⟨n - 1, by omega⟩
      rw [hws, Nat.add_sub_cancel] at k2
      rw [Nat.pow_succ, Nat.mul_comm (4294967296 ^ n') 4294967296, Nat.mul_assoc]
      have := Nat.mul_le_mul_left 4294967296 (Nat.succ_le_of_lt k2)
      rw [Nat.mul_succ, Nat.mul_add] at this
      rw [Nat.mul_comm (val _ _) 4294967296]
      omega
end Go.Proofs.YtnljmpeaeajcoaaGreatDoor

namespace Go.Proofs.YtnljmpeaeajcoaaGreatDoor
open Go Go.Eng Go.Vi Go.Knuth
local instance modeI21 : Go.Eng.Mode := Sy

/-! the end of the long division: what is left is shifted back -/
noncomputable def endL : Code := rhs (post 10 c111)
theorem r16_run (n m sh : Nat) (xs ys os : List Nat) (I : IK) : Eng.exec Tryz.prog X0 [] 300 T111 (lhs (lhs (post 10 c111))) (mkFr (divSlots n m sh)) (mkMem (divRows xs ys os)) (fun o fr' M' => I o (lv [16, 9, 12, 13, 14, 15] fr') (mv [0, 1, 2] M')) =
  gB (inI64 (Int.sub (.ofNat (m - n)) 1)) (I .normal (vls (jSlots (Int.sub (.ofNat (m - n)) 1) n m sh)) (rws (divRows xs ys os))) := by kernel_rfl
theorem b0_blk : rhs (lhs (post 10 c111)) = .block 0 (.loop bodyL) := by kernel_rfl
noncomputable def rsF (sh : Nat) : List Nat → List Int
  | a :: b :: l => IntKind.u32.wrap (fdivP (hiF (IntKind.u64.wrap (.ofNat b)) (.ofNat a)) (Nat.pow 2 (shAmt .u64 sh))) :: rsF sh (b :: l)
  | _ => []
def rsN (sh : Nat) : List Nat → List Nat
  | a :: b :: l => ((b * 4294967296 + a) / 2 ^ sh % 4294967296) :: rsN sh (b :: l)
  | _ => []
theorem rsF_eq {sh : Nat} (hs : sh ≤ 31) : ∀ l : List Nat, (∀ d ∈ l, d < 4294967296) → rsF sh l = (rsN sh l).map Int.ofNat
  | [], _ => rfl
  | [_], _ => rfl
  | a :: b :: l, h => by
    have ha := h a (by simp)
    have hb := h b (by simp)
    rw [rsF, rsN, wrapU64 b (by omega), hiF_eq b a hb ha, shAmt64 sh (by omega)]
    have e : fdivP (.ofNat (b * 4294967296 + a)) (Nat.pow 2 sh) = .ofNat ((b * 4294967296 + a) / 2 ^ sh) := rfl
    rw [e, wrapU32m, rsF_eq hs (b :: l) fun d hd => h d (List.mem_cons_of_mem _ hd)]
    rfl
theorem rsN_len (sh : Nat) : ∀ (l : List Nat) (x : Nat), (rsN sh (x :: l)).length = l.length
  | [], _ => rfl
  | b :: l, _ => by rw [rsN, List.length_cons, rsN_len sh l b]; rfl
theorem rsN_lt (sh : Nat) : ∀ (l : List Nat), ∀ d ∈ rsN sh l, d < 4294967296
  | [], d, h => by cases h
  | [_], d, h => by cases h
  | a :: b :: l, d, h => by
    rw [rsN] at h
    rcases List.mem_cons.1 h with rfl | h
    · exact Nat.mod_lt _ (by decide)
    · exact rsN_lt sh (b :: l) d h
theorem rs_digit {sh a b : Nat} (hs : sh ≤ 31) (ha : a < 4294967296) (_hb : b < 4294967296) : (b * 4294967296 + a) / 2 ^ sh % 4294967296 * 2 ^ sh + a % 2 ^ sh = a + 4294967296 * (b % 2 ^ sh) := by
  have e : 2 ^ sh * 2 ^ (32 - sh) = 4294967296 := by rw [← Nat.pow_add, Nat.add_sub_cancel' (by omega)]
  have hp : 0 < 2 ^ sh := Nat.pow_pos (by decide)
  have hq : 0 < 2 ^ (32 - sh) := Nat.pow_pos (by decide)
  generalize 2 ^ sh = s at *
  generalize 2 ^ (32 - sh) = t at *
  have h1 : (b * 4294967296 + a) / s = b * t + a / s := by
    rw [← e, Nat.mul_comm s t, ← Nat.mul_assoc, Nat.add_comm, Nat.add_mul_div_right _ _ hp, Nat.add_comm]
  have hd1 := Nat.div_add_mod a s
  have hd2 := Nat.div_add_mod b s
  have hm1 := Nat.mod_lt a hp
  have hm2 := Nat.mod_lt b hp
  have hat : a / s < t := by rw [Nat.div_lt_iff_lt_mul hp, Nat.mul_comm, e]; exact ha
  have h2 : (b * t + a / s) % 4294967296 = (b % s) * t + a / s := by
    have e1 : b * t + a / s = (b % s) * t + a / s + 4294967296 * (b / s) := by
      have : b * t = (s * (b / s) + b % s) * t := by rw [hd2]
      rw [this, Nat.add_mul, ← e]
      have : s * (b / s) * t = s * t * (b / s) := by rw [Nat.mul_assoc, Nat.mul_comm (b / s) t, ← Nat.mul_assoc]
      omega
    rw [e1, Nat.add_mul_mod_self_left, Nat.mod_eq_of_lt]
    have : (b % s + 1) * t ≤ s * t := Nat.mul_le_mul_right _ hm2
    rw [Nat.add_mul, Nat.one_mul, e] at this
    omega
  rw [h1, h2, Nat.add_mul, Nat.mul_assoc, Nat.mul_comm t s, e, Nat.mul_comm (a / s) s, Nat.mul_comm (b % s)]
  omega
theorem rsN_val {sh : Nat} (hs : sh ≤ 31) : ∀ (l : List Nat) (x : Nat), (∀ d ∈ x :: l, d < 4294967296) → ∀ (ws : List Nat) (t : Nat), x :: l = ws ++ [t] → val 4294967296 (rsN sh (x :: l)) * 2 ^ sh + x % 2 ^ sh = val 4294967296 ws + 4294967296 ^ ws.length * (t % 2 ^ sh)
  | [], x, _, ws, t, h => by
    cases ws with
    | nil => simp only [List.nil_append, List.cons.injEq] at h; simp [rsN, val, h.1]
    | cons w ws => simp at h
  | y :: l, x, hB, ws, t, h => by
    cases ws with
    | nil => simp at h
    | cons w ws =>
      rw [List.cons_append] at h
      obtain ⟨rfl, h2⟩ := List.cons.inj h
      have ih := rsN_val hs l y (fun d hd => hB d (List.mem_cons_of_mem _ hd)) ws t h2
      have hd := rs_digit (sh := sh) (a := x) (b := y) hs (hB x (by simp)) (hB y (by simp))
      rw [rsN, val, val, List.length_cons, Nat.pow_succ, Nat.mul_comm (4294967296 ^ ws.length) 4294967296, Nat.mul_assoc, Nat.add_mul, Nat.mul_assoc]
      have := congrArg (fun z => 4294967296 * z) ih
      simp only [Nat.mul_add] at this
      omega
def FinRun (n m : Nat) (xs ys os : List Nat) : Prop := ∀ (sh : Nat) (I : IK), Eng.execN Tryz.prog X0 [] 300 T111 2 endL (mkFr (divSlots n m sh)) (mkMem (divRows xs ys os)) (fun o fr' M' => I o (lv [15, 27] fr') (mv [2, 3] M')) =
  I .normal [some (.slice 2 0 (m - n) (m - n) false), some (.slice 3 0 n n false)] [some (.row (toAVs (rowD os)) false 1), some (.row (rowI (rsF sh (xs.take (n + 1)))) false 1)]
theorem fin_24 (x0 x1 x2 x3 : Nat) (ys os : List Nat) : FinRun 2 4 [x0, x1, x2, x3] ys os := fun sh I => by kernel_rfl
theorem fin_25 (x0 x1 x2 x3 x4 : Nat) (ys os : List Nat) : FinRun 2 5 [x0, x1, x2, x3, x4] ys os := fun sh I => by kernel_rfl
theorem fin_34 (x0 x1 x2 x3 : Nat) (ys os : List Nat) : FinRun 3 4 [x0, x1, x2, x3] ys os := fun sh I => by kernel_rfl
theorem end_run (os rs : List Nat) (l m : List UInt8) (I : IK) :
    Eng.execN Tryz.prog X0 [eBy os.length os 0 l, eBy rs.length rs 1 m] 300 T111 1 (post 2 endL) (mkFr [(15, .slice 0 0 os.length os.length false), (27, .slice 1 0 rs.length rs.length false)]) (mkMem [.row (toAVs (rowD os)) false 1, .row (toAVs (rowD rs)) false 1]) (fun o fr' M' => I o (lv [4, 5] fr') (mv [] M')) =
      gC (eBy os.length os 0 l) (gC (eBy rs.length rs 1 m) (I .normal [some (strA l), some (strA m)] [])) := by kernel_rfl
theorem endRet : post 1 (post 2 endL) = .ret := by kernel_rfl
end Go.Proofs.YtnljmpeaeajcoaaGreatDoor

namespace Go.Proofs.YtnljmpeaeajcoaaGreatDoor
open Go Go.Eng Go.Vi Go.Knuth
local instance modeI22 : Go.Eng.Mode := Sy

/-! div by more than one digit -/
theorem jv_eq (c : Nat) : Int.sub (.ofNat c) 1 = jv c := jv_pred c
theorem top_pos {b : List UInt8} (hb : NZ b) {l : List Nat} {t : Nat} (h : dgL b = l ++ [t]) : 0 < t := by
  apply Nat.pos_of_ne_zero
  rintro rfl
  have h1 := dgL_val b
  have h2 := dgL_len b
  have h3 := dgL_lt b
  rw [h] at h1 h2 h3
  rw [val_append] at h1
  simp only [val, Nat.mul_zero, Nat.add_zero] at h1
  have h4 := val_lt (B := 4294967296) (by decide) l fun d hd => h3 d (by simp [hd])
  simp only [List.length_append, List.length_cons, List.length_nil] at h2
  cases b with
  | nil => simp at h2
  | cons c r =>
    have hc : 0 < c.toNat := Nat.pos_of_ne_zero fun e => hb c r rfl (UInt8.toNat_inj.1 e)
    rw [be_cons] at h1
    have h5 : 256 ^ r.length ≤ c.toNat * 256 ^ r.length := Nat.le_mul_of_pos_left _ hc
    have h6 : (4294967296 : Nat) ^ l.length ≤ 256 ^ r.length := by
      rw [show (4294967296 : Nat) = 256 ^ 4 by decide, ← Nat.pow_mul]
      exact Nat.pow_le_pow_right (by decide) (by simp only [List.length_cons] at h2; omega)
    omega
theorem norm_top {l : List Nat} {t sh : Nat} (hl : ∀ d ∈ l, d < 4294967296) (hs : sh ≤ 31) (ht1 : t * 2 ^ sh < 4294967296) (ht2 : 4294967296 ≤ 2 * (t * 2 ^ sh)) {yl : List Nat} {v yt : Nat} (hyB : ∀ d ∈ yl, d < 4294967296) (hlen : yl.length = l.length)
    (h : val 4294967296 (yl ++ [v] ++ [yt]) = val 4294967296 (l ++ [t]) * 2 ^ sh) (hvB : v < 4294967296) : yt = 0 ∧ 4294967296 ≤ 2 * v ∧ val 4294967296 (yl ++ [v]) = val 4294967296 (l ++ [t]) * 2 ^ sh := by
  have e : 2 ^ sh * 2 ^ (32 - sh) = 4294967296 := by rw [← Nat.pow_add, Nat.add_sub_cancel' (by omega)]
  have hp : 0 < 2 ^ sh := Nat.pow_pos (by decide)
  have h1 := val_lt (B := 4294967296) (by decide) l hl
  have h2 := val_lt (B := 4294967296) (by decide) yl hyB
  rw [hlen] at h2
  have ht : (t + 1) * 2 ^ sh ≤ 4294967296 := by
    have : t < 2 ^ (32 - sh) := by
      apply Nat.lt_of_mul_lt_mul_right (a := 2 ^ sh)
      rw [Nat.mul_comm (2 ^ (32 - sh)), e]; exact ht1
    rw [← e, Nat.mul_comm (2 ^ sh)]
    exact Nat.mul_le_mul_right _ this
  rw [val_append (yl ++ [v]), val_append yl, val_append l, List.length_append, hlen] at h
  rw [val_append yl, val_append l, hlen]
  simp only [val, Nat.mul_zero, Nat.add_zero, List.length_cons, List.length_nil, Nat.zero_add, Nat.pow_succ] at h ⊢
  generalize 4294967296 ^ l.length = P at *
  generalize 2 ^ sh = s at *
  generalize val 4294967296 yl = A at *
  generalize val 4294967296 l = C at *
  have k1 : (C + P * t + 1) * s ≤ P * 4294967296 := by
    have : (C + P * t + 1) * s ≤ (P * (t + 1)) * s := Nat.mul_le_mul_right _ (by rw [Nat.mul_add]; omega)
    refine Nat.le_trans this ?_
    rw [Nat.mul_assoc]
    exact Nat.mul_le_mul_left _ ht
  have k2 : P * (t * s) ≤ (C + P * t) * s := by
    rw [← Nat.mul_assoc]; exact Nat.mul_le_mul_right _ (by omega)
  have k3 : P * 4294967296 ≤ P * (2 * (t * s)) := Nat.mul_le_mul_left _ ht2
  have k4 : (C + P * t) * s < P * 4294967296 := by rw [Nat.add_mul, Nat.one_mul] at k1; omega
  have y0 : yt = 0 := by
    apply Nat.eq_zero_of_not_pos
    intro hy
    have : P * 4294967296 * 1 ≤ P * 4294967296 * yt := Nat.mul_le_mul_left _ hy
    omega
  rw [y0, Nat.mul_zero, Nat.add_zero] at h
  refine ⟨y0, ?_, h⟩
  rcases Nat.lt_or_ge (2 * v) 4294967296 with hlt | hge
  case inr => exact hge
  have k5 : P * (2 * v + 2) ≤ P * 4294967296 := Nat.mul_le_mul_left _ (by omega)
  have k6 : P * (2 * (t * s)) = 2 * (P * (t * s)) := Nat.mul_left_comm ..
  rw [Nat.mul_add, Nat.mul_left_comm] at k5
  omega
theorem div_long {a b : List UInt8} {n k : Nat} (hn : 2 ≤ n) (hnk : n ≤ k) (hk6 : k ≤ 5) (hR : Rounds n (k + 1)) (hF : ∀ xs ys os, xs.length = k + 1 → FinRun n (k + 1) xs ys os)
    (hS : ∀ (ds yl : List Nat) (t sh : Nat), ds.length = k → yl.length = n - 1 → ShfRun a ds (yl ++ [t]) t sh) (hw : ¬ (a.length ≤ 8 ∧ b.length ≤ 8)) (hc : ¬ compareN a b < 0) (h1 : 1 ≤ b.length) (h2 : b.length ≤ 20) (hb : NZ b) (ha1 : 9 ≤ a.length) (ha2 : a.length ≤ 20)
    (hka : (dgL a).length = k) (hnb : (dgL b).length = n) : ∃ ans, DivOk a b ans ∧ BSim Tryz.prog 111 [strA a, strA b] [] [] ans := by
  obtain ⟨yl0, t, hyt⟩ := last1 (dgL b) (by omega)
  have htp := top_pos hb hyt
  have hyB := dgL_lt b
  have hdB := dgL_lt a
  have hyv := dgL_val b
  rw [hyt] at hyB hyv hnb
  obtain ⟨ds, hds⟩ : ∃ ds, dgL a = ds := ⟨_, rfl⟩
  rw [hds] at hka hdB
  simp only [List.length_append, List.length_cons, List.length_nil] at hnb
  refine div_head hw hc h1 h2 hyt ?_
  refine div_shift ha1 ha2 hds (fun sh => hS ds yl0 t sh hka (by omega)) (hyB t (by simp)) htp hyB fun sh hs hs1 hs2 => ?_
  have hp : 0 < 2 ^ sh := Nat.pow_pos (by decide)
  have hxl := shlN_len sh ds 0
  have hyl := shlN_len sh (yl0 ++ [t]) 0
  have hxB := shlN_lt hs ds 0 hdB hp
  have hysB := shlN_lt hs (yl0 ++ [t]) 0 hyB hp
  have hysv := shlN_val sh (yl0 ++ [t]) 0
  have htop := shlN_top (b := sh) ds 0 hdB hp
  rw [Nat.add_zero] at hysv
  generalize shlN sh 0 (yl0 ++ [t]) = ys at *
  generalize shlN sh 0 ds = xs at *
  have hylen : (yl0 ++ [t]).length = n := by simp; omega
  rw [hylen] at hyl ⊢
  rw [hka] at hxl ⊢
  obtain ⟨ys1, yt, rfl⟩ := last1 ys (by omega)
  simp only [List.length_append, List.length_cons, List.length_nil] at hyl
  obtain ⟨yl, y2, v, rfl⟩ := last2 ys1 (by omega)
  simp only [List.length_append, List.length_cons, List.length_nil] at hyl
  have hy2B : y2 < 4294967296 := hysB y2 (by simp)
  have hvB : v < 4294967296 := hysB v (by simp)
  have hylB : ∀ d ∈ yl, d < 4294967296 := fun d hd => hysB d (by simp [hd])
  have hsplit : yl ++ [y2, v] = yl ++ [y2] ++ [v] := by simp
  obtain ⟨hyt0, hv2, hval⟩ := norm_top (l := yl0) (t := t) (sh := sh) (fun d hd => hyB d (by simp [hd])) hs hs1 hs2 (yl := yl ++ [y2]) (v := v) (yt := yt)
    (by intro d hd; rcases List.mem_append.1 hd with hd | hd
        · exact hylB d hd
        · obtain rfl := List.mem_singleton.1 hd; exact hy2B) (by simp; omega) (by rw [← hsplit]; exact hysv) hvB
  rw [← hsplit] at hval
  -- the first window
  obtain ⟨x1, u0, rfl⟩ := last1 xs (by omega)
  have hu0 := htop x1 u0 rfl
  simp only [List.length_append, List.length_cons, List.length_nil] at hxl
  have hInv : Inv n (k + 1) (yl ++ [y2, v]) (k + 1 - n) (x1 ++ [u0]) (zrow (k + 1 - n)) := by
    refine ⟨by simp; omega, by simp [zrow], Nat.le_refl _, hxB, fun d hd => by rw [List.eq_of_mem_replicate hd]; decide, fun h => by omega, fun j hj => ?_⟩
    refine ⟨x1.take j, x1.drop j, u0, [], by simp, by simp; omega, by simp; omega, ?_⟩
    have e1 := val_lt (B := 4294967296) (by decide) (x1.drop j) fun d hd => hxB d (by simp [List.mem_of_mem_drop hd])
    have e2 : (x1.drop j).length = n := by simp; omega
    rw [e2] at e1
    have e3 : (2 : Nat) ^ sh ≤ 2 ^ 31 := Nat.pow_le_pow_right (by decide) hs
    have e4 : (2 : Nat) ^ 31 = 2147483648 := by decide
    have e5 : 4294967296 ^ n * (u0 + 1) ≤ 4294967296 ^ n * v := Nat.mul_le_mul_left _ (by omega)
    have e6 : 4294967296 ^ n * v ≤ val 4294967296 (yl ++ [y2, v]) * 4294967296 := by
      rw [hsplit, val_append]
      simp only [val, Nat.mul_zero, Nat.add_zero]
      have : (yl ++ [y2]).length = n - 1 := by simp; omega
      rw [this]
      obtain ⟨n', rfl⟩ : ∃ n', n = n' + 1 := ⟨n - 1, by omega⟩
      rw [Nat.add_sub_cancel, Nat.pow_succ, Nat.add_mul, Nat.mul_assoc, Nat.mul_comm 4294967296 v, ← Nat.mul_assoc]
      exact Nat.le_add_left ..
    rw [Nat.mul_add, Nat.mul_one] at e5
    omega
  refine W.parts (by kernel_rfl) (W.parts (by kernel_rfl) ?_)
  refine W.run hm hX0 (S := []) (fun _ h => by cases h) 300 _ [0, 1, 2] _ (r16_run n (k + 1) sh _ _ _) ?_
  rw [gB_iff]
  refine ⟨i64ok (by show -9223372036854775808 ≤ ((k + 1 - n : Nat) : Int) - 1; omega) (by show ((k + 1 - n : Nat) : Int) - 1 < _; omega), ?_⟩
  rw [jv_eq]
  refine pdec_iff.2 fun fr1 M1 hl1 hm1 => ?_
  show W Tryz.prog T111 0 (rhs (lhs (post 10 c111))) fr1 M1 _
  rw [b0_blk]
  refine W.block ((rounds_loop hn (by omega) hR (by omega) hv2 hvB hy2B hylB hInv hl1 hm1).mono fun o fr2 M2 h => ?_)
  obtain ⟨rfl, ws, hi, os, k1, k2, k3, k4, k5, k6, hl2, hm2⟩ := h
  refine Blkd_eq ?_
  show W Tryz.prog T111 0 endL fr2 M2 _
  refine W.from (divSlots n (k + 1) sh) (divSlots_ren n (k + 1) sh) _ _ _ hl2 hm2 ?_
  refine W.runN hm hX0 (S := []) (fun _ h => by cases h) 300 2 [15, 27] [2, 3] _ (hF _ _ _ k3 sh) ?_
  have etake : (ws ++ 0 :: hi).take (n + 1) = ws ++ [0] := by
    rw [List.take_append, k1, List.take_of_length_le (by omega)]
    simp
  have hwB : ∀ d ∈ ws ++ [0], d < 4294967296 := by
    intro d hd
    rcases List.mem_append.1 hd with hd | hd
    · exact k5 d (by simp [hd])
    · obtain rfl := List.mem_singleton.1 hd; decide
  rw [etake, rsF_eq hs _ hwB, rowI_eq]
  obtain ⟨w0, wl, hwl⟩ : ∃ w0 wl, ws ++ [0] = w0 :: wl := by
    cases ws with
    | nil => exact ⟨0, [], rfl⟩
    | cons w ws => exact ⟨w, ws ++ [0], rfl⟩
  have hrl : (rsN sh (ws ++ [0])).length = n := by
    have := congrArg List.length hwl
    rw [hwl, rsN_len]
    simp at this; omega
  have hrv : val 4294967296 (rsN sh (ws ++ [0])) * 2 ^ sh + w0 % 2 ^ sh = val 4294967296 ws := by
    have := rsN_val hs wl w0 (by rw [← hwl]; exact hwB) ws 0 hwl.symm
    rw [← hwl, Nat.zero_mod, Nat.mul_zero, Nat.add_zero] at this
    exact this
  have hrB := rsN_lt sh (ws ++ [0])
  generalize rsN sh (ws ++ [0]) = rs at *
  refine pdec_iff.2 fun fr3 M3 hl3 hm3 => ?_
  show W Tryz.prog T111 0 (post 2 endL) fr3 M3 _
  obtain ⟨l, hl1', hl2', hl3'⟩ := bytes_c os (by omega) k6
  obtain ⟨r, hr1, hr2, hr3⟩ := bytes_c rs (by omega) hrB
  rw [← k4, ← hrl] at hl3
  refine W.next (π := [2, 3]) hl3 hm3 [(15, .slice 0 0 os.length os.length false), (27, .slice 1 0 rs.length rs.length false)] [.row (toAVs (rowD os)) false 1, .row (toAVs (rowD rs)) false 1] rfl rfl
    (by simp only [rows2, List.map_cons, List.map_nil, renB_data]) (by rfl) (by simp) (by simp) ?_
  refine W.runN hm hX0 (S := [eBy os.length os 0 l, eBy rs.length rs 1 r]) (AllOk.mem ⟨eBy_ok 0 hl3', eBy_ok 1 hr3, trivial⟩) 300 1 [4, 5] [] _ (end_run os rs l r) ?_
  rw [gC_iff, gC_iff]
  refine pdec_iff.2 fun fr4 M4 hv4 _ => ?_
  show W Tryz.prog T111 0 (post 1 (post 2 endL)) fr4 M4 _
  rw [endRet]
  refine W.ret (fin_of_lv res111 rfl hv4 ⟨.tuple [strA l, strA r], ⟨l, r, rfl, ?_, hl2', hr2⟩, .tuple _ _ (.cons _ _ _ _ (.plain (.str l.length (enc l))) (.cons _ _ _ _ (.plain (.str r.length (enc r))) .nil)), fun j r hj => by simp at hj⟩)
  rw [hr1, ← hyv]
  apply Nat.lt_of_mul_lt_mul_right (a := 2 ^ sh)
  rw [← hval]
  omega
end Go.Proofs.YtnljmpeaeajcoaaGreatDoor

namespace Go.Proofs.YtnljmpeaeajcoaaGreatDoor
open Go Go.Eng Go.Vi Go.Knuth
local instance modeI23 : Go.Eng.Mode := Sy

/-! div, whole -/
theorem lenE0 {α : Type} {l : List α} (h : l.length = 0) : l = [] := List.eq_nil_of_length_eq_zero h
theorem lenE1 {α : Type} {l : List α} (h : l.length = 1) : ∃ a, l = [a] := by
  match l, h with
  | [a], _ => exact ⟨a, rfl⟩
theorem lenE2 {α : Type} {l : List α} (h : l.length = 2) : ∃ a b, l = [a, b] := by
  match l, h with
  | [a, b], _ => exact ⟨a, b, rfl⟩
theorem lenE3 {α : Type} {l : List α} (h : l.length = 3) : ∃ a b c, l = [a, b, c] := by
  match l, h with
  | [a, b, c], _ => exact ⟨a, b, c, rfl⟩
theorem lenE4 {α : Type} {l : List α} (h : l.length = 4) : ∃ a b c d, l = [a, b, c, d] := by
  match l, h with
  | [a, b, c, d], _ => exact ⟨a, b, c, d, rfl⟩
theorem lenE5 {α : Type} {l : List α} (h : l.length = 5) : ∃ a b c d e, l = [a, b, c, d, e] := by
  match l, h with
  | [a, b, c, d, e], _ => exact ⟨a, b, c, d, e, rfl⟩
theorem rounds_24 : Rounds 2 4 := by
  intro j lo w3 hi yl os sh u0 u1 u2 y2 v yt h1 h2 h3 h4 h5 h6
  obtain rfl := lenE0 h2
  obtain rfl := lenE0 h3
  obtain ⟨o0, o1, rfl⟩ := lenE2 h5
  match j, h1, h4, h6 with
  | 0, h1, h4, _ =>
    obtain rfl := lenE0 h1
    obtain ⟨h0, rfl⟩ := lenE1 h4
    exact rd240 h0 o0 o1 sh u0 u1 u2 y2 v yt
  | 1, h1, h4, _ =>
    obtain ⟨l0, rfl⟩ := lenE1 h1
    obtain rfl := lenE0 h4
    exact rd241 l0 o0 o1 sh u0 u1 u2 y2 v yt
  | j + 2, _, _, h => omega
theorem rounds_25 : Rounds 2 5 := by
  intro j lo w3 hi yl os sh u0 u1 u2 y2 v yt h1 h2 h3 h4 h5 h6
  obtain rfl := lenE0 h2
  obtain rfl := lenE0 h3
  obtain ⟨o0, o1, o2, rfl⟩ := lenE3 h5
  match j, h1, h4, h6 with
  | 0, h1, h4, _ =>
    obtain rfl := lenE0 h1
    obtain ⟨h0, h1', rfl⟩ := lenE2 h4
    exact rd250 h0 h1' o0 o1 o2 sh u0 u1 u2 y2 v yt
  | 1, h1, h4, _ =>
    obtain ⟨l0, rfl⟩ := lenE1 h1
    obtain ⟨h0, rfl⟩ := lenE1 h4
    exact rd251 l0 h0 o0 o1 o2 sh u0 u1 u2 y2 v yt
  | 2, h1, h4, _ =>
    obtain ⟨l0, l1, rfl⟩ := lenE2 h1
    obtain rfl := lenE0 h4
    exact rd252 l0 l1 o0 o1 o2 sh u0 u1 u2 y2 v yt
  | j + 3, _, _, h => omega
theorem rounds_34 : Rounds 3 4 := by
  intro j lo w3 hi yl os sh u0 u1 u2 y2 v yt h1 h2 h3 h4 h5 h6
  obtain ⟨w0, rfl⟩ := lenE1 h2
  obtain ⟨z0, rfl⟩ := lenE1 h3
  obtain ⟨o0, rfl⟩ := lenE1 h5
  match j, h1, h4, h6 with
  | 0, h1, h4, _ =>
    obtain rfl := lenE0 h1
    obtain rfl := lenE0 h4
    exact rd340 w0 z0 o0 sh u0 u1 u2 y2 v yt
  | j + 1, _, _, h => omega
theorem cmp_len {a b : List UInt8} (h : ¬ compareN a b < 0) : b.length ≤ a.length := by
  apply Nat.le_of_not_lt
  intro hlt
  apply h
  have e : cmpN a.length b.length = -1 := if_pos hlt
  unfold compareN
  rw [e, if_neg (by decide)]
  decide
/-- the greater one by the lesser one -/
theorem div_ge {a b : List UInt8} (hw : ¬ (a.length ≤ 8 ∧ b.length ≤ 8)) (hc : ¬ compareN a b < 0) (hs : a.length + b.length ≤ 20) (h1 : 1 ≤ b.length) (hb : NZ b) :
    ∃ ans, DivOk a b ans ∧ BSim Tryz.prog 111 [strA a, strA b] [] [] ans := by
  have hle := cmp_len hc
  have ha : 9 ≤ a.length := by omega
  by_cases h4 : b.length ≤ 4
  · exact div_short hw hc h1 h4 hb ha (by omega)
  have hal := dgL_len a
  have hbl := dgL_len b
  by_cases h8 : b.length ≤ 8
  · have hb2 : (dgL b).length = 2 := by omega
    have hcase : (dgL a).length = 3 ∨ (dgL a).length = 4 := by omega
    rcases hcase with h3 | h3
    · refine div_long (n := 2) (k := 3) (by omega) (by omega) (by omega) rounds_24 (fun xs ys os hx => ?_) (fun ds yl t sh hd hy => ?_) hw hc h1 (by omega) hb ha (by omega) h3 hb2
      · obtain ⟨x0, x1, x2, x3, rfl⟩ := lenE4 hx
        exact fin_24 x0 x1 x2 x3 ys os
      · obtain ⟨d0, d1, d2, rfl⟩ := lenE3 hd
        obtain ⟨y0, rfl⟩ := lenE1 hy
        exact shf_23 a d0 d1 d2 y0 t sh
    · refine div_long (n := 2) (k := 4) (by omega) (by omega) (by omega) rounds_25 (fun xs ys os hx => ?_) (fun ds yl t sh hd hy => ?_) hw hc h1 (by omega) hb ha (by omega) h3 hb2
      · obtain ⟨x0, x1, x2, x3, x4, rfl⟩ := lenE5 hx
        exact fin_25 x0 x1 x2 x3 x4 ys os
      · obtain ⟨d0, d1, d2, d3, rfl⟩ := lenE4 hd
        obtain ⟨y0, rfl⟩ := lenE1 hy
        exact shf_24 a d0 d1 d2 d3 y0 t sh
  · refine div_long (n := 3) (k := 3) (by omega) (by omega) (by omega) rounds_34 (fun xs ys os hx => ?_) (fun ds yl t sh hd hy => ?_) hw hc h1 (by omega) hb ha (by omega) (by omega) (by omega)
    · obtain ⟨x0, x1, x2, x3, rfl⟩ := lenE4 hx
      exact fin_34 x0 x1 x2 x3 ys os
    · obtain ⟨d0, d1, d2, rfl⟩ := lenE3 hd
      obtain ⟨y0, y1, rfl⟩ := lenE2 hy
      exact shf_33 a d0 d1 d2 y0 y1 t sh
/-- the lesser one by the greater one -/
theorem div_lt {a b : List UInt8} (hw : ¬ (a.length ≤ 8 ∧ b.length ≤ 8)) (hc : compareN a b < 0) : BSim Tryz.prog 111 [strA a, strA b] [] [] (.tuple [strA [], strA a]) := by
  have hcmp := compare_c a b
  have e : compareN a b = -1 := by
    unfold compareN at hc ⊢
    have h1 := cmpN_3 a.length b.length
    have h2 := scmpN_3 a b
    split at hc <;> split <;> simp_all <;> omega
  rw [e] at hcmp
  refine BSim.run hm hX0 (S := [eWords a b, eCmpB a b (-1)]) (AllOk.mem ⟨eWords_ok hw, hcmp.spec0 rfl, trivial⟩) ok111 (by kernel_rfl) rfl 300 [] (fun I => gC (eWords a b) (gC (eCmpB a b (-1)) (I (.tuple [strA [], strA a]) []))) (fun I => by kernel_rfl) ?_
  rw [gC_iff, gC_iff]
  exact pdec_iff.2 (Leaf.flat fun _ _ => .tuple _ _ (.cons _ _ _ _ (.plain (.str 0 0)) (.cons _ _ _ _ (.plain (.str a.length (enc a))) .nil)))
end Go.Proofs.YtnljmpeaeajcoaaGreatDoor

namespace Go.Proofs.YtnljmpeaeajcoaaGreatDoor
open Go Go.Eng Go.Vi Go.Knuth
local instance modeI24 : Go.Eng.Mode := Sy

/-! magnitudes by their bytes -/
theorem be_ge {l : List UInt8} (h : NZ l) (h0 : l ≠ []) : 256 ^ (l.length - 1) ≤ be l := by
  cases l with
  | nil => exact absurd rfl h0
  | cons c r =>
    have hc : 0 < c.toNat := Nat.pos_of_ne_zero fun e => h c r rfl (UInt8.toNat_inj.1 e)
    rw [be_cons]
    have h5 : 256 ^ r.length ≤ c.toNat * 256 ^ r.length := Nat.le_mul_of_pos_left _ hc
    simp only [List.length_cons, Nat.add_sub_cancel]
    omega
theorem be_len_lt {x y : List UInt8} (hy : NZ y) (h : x.length < y.length) : be x < be y := by
  have h1 := be_lt x
  have h2 := be_ge hy (by rintro rfl; simp at h)
  have h3 : 256 ^ x.length ≤ 256 ^ (y.length - 1) := Nat.pow_le_pow_right (by decide) (by omega)
  omega
theorem be_len_le {x y : List UInt8} (hx : NZ x) (h : be x < be y) : x.length ≤ y.length := by
  apply Nat.le_of_not_lt
  intro hlt
  have := be_len_lt hx hlt
  omega
theorem less_be : ∀ (x y : List UInt8), x.length = y.length → Op.bytesLess x y = true → be x < be y
  | [], [], _, h => by simp [Op.bytesLess] at h
  | a :: x, b :: y, hl, h => by
    have hl' : x.length = y.length := by simpa using hl
    rw [be_cons, be_cons, hl']
    have h1 := be_lt x
    have h2 := be_lt y
    rw [hl'] at h1
    simp only [Op.bytesLess] at h
    by_cases hab : a < b
    · have : a.toNat < b.toNat := hab
      have : (a.toNat + 1) * 256 ^ y.length ≤ b.toNat * 256 ^ y.length := Nat.mul_le_mul_right _ this
      rw [Nat.add_mul, Nat.one_mul] at this
      omega
    · simp only [hab, decide_false, Bool.false_or, Bool.and_eq_true, beq_iff_eq] at h
      obtain ⟨rfl, h⟩ := h
      have := less_be x y hl' h
      omega
  | [], _ :: _, hl, _ => by simp at hl
  | _ :: _, [], hl, _ => by simp at hl
theorem cmp_lt_be {x y : List UInt8} (hy : NZ y) (h : compareN x y < 0) : be x < be y := by
  unfold compareN at h
  by_cases h1 : x.length < y.length
  · exact be_len_lt hy h1
  · by_cases h2 : y.length < x.length
    · have e : cmpN x.length y.length = 1 := by unfold cmpN; rw [if_neg h1, if_pos h2]
      rw [e, if_neg (by decide)] at h
      exact absurd h (by decide)
    · have e : cmpN x.length y.length = 0 := by unfold cmpN; rw [if_neg h1, if_neg h2]
      rw [e, if_pos rfl] at h
      unfold scmpN at h
      split at h
      · exact absurd h (by decide)
      · split at h
        · rename_i h3; exact less_be x y (by omega) h3
        · exact absurd h (by decide)
end Go.Proofs.YtnljmpeaeajcoaaGreatDoor

namespace Go.Proofs.YtnljmpeaeajcoaaGreatDoor
open Go Go.Eng Go.Vi Go.Knuth
local instance modeI25 : Go.Eng.Mode := Sy

/-! Gcd: some number -/
theorem ok86 : FnOk Tryz.prog 86 Tryz.f86 := ⟨Tryz.func86, by kernel_rfl, by kernel_rfl⟩
noncomputable def c86 : Code := codeOf Tryz.f86
noncomputable def T86 : Nat := Tryz.f86.ntmps
noncomputable def body86 : Code := bodyOf (bodyOf (lhs (post 2 c86)))
noncomputable def blk86 : Code := bodyOf (rhs body86)
noncomputable def inn86 : Code := thenOf (rhs (rhs (lhs blk86)))
noncomputable def bodyI : Code := bodyOf (bodyOf (lhs inn86))
noncomputable def eWordsT (x y : List UInt8) : FuncId × SEnt := (110, ⟨[strA x, strA y], [], .tuple [.int .u64 (.ofNat (wordN x)), .int .u64 (.ofNat (wordN y)), .bool true]⟩)
theorem eWordsT_ok {x y : List UInt8} (h : x.length ≤ 8 ∧ y.length ≤ 8) : SSpec Tryz.prog (eWordsT x y).1 (eWordsT x y).2 := by
  have := (words_c x y).spec0 rfl
  have e : (decide (x.length ≤ 8) && decide (y.length ≤ 8)) = true := by simp [h.1, h.2]
  unfold wordsA at this
  rw [e] at this
  exact this
noncomputable def gRow : List Blk := [.row [.bool false, .str 0 0] false 1]
noncomputable def gS (x y : List UInt8) : List (Nat × AV) := [(4, .ptr 0 0), (5, strA x), (6, strA y)]
noncomputable def uvS (u v : Nat) : List (Nat × AV) := [(4, .ptr 0 0), (7, .int .u64 (.ofNat u)), (8, .int .u64 (.ofNat v))]
theorem g_start (a b : List UInt8) (na nb : Bool) (I : IK) :
    Eng.execN Tryz.prog X0 [] 300 T86 2 c86 (mkFr (argSlots [.agg [.bool na, strA a], .agg [.bool nb, strA b]] 0)) (mkMem (rowsOf [])) (fun o fr' M' => I o (lv [4, 5, 6] fr') (mv [2] M')) = I .normal [some (.ptr 2 0), some (strA a), some (strA b)] [some (.row [.bool false, .str 0 0] false 1)] := by kernel_rfl
theorem g_exit (x : List UInt8) (I : IK) : Eng.exec Tryz.prog X0 [] 300 T86 (lhs body86) (mkFr (gS x [])) (mkMem gRow) (fun o fr' M' => I o (lv [4, 5, 6] fr') (mv [0] M')) = I (.exit 0) (vls (gS x [])) (rws gRow) := by kernel_rfl
theorem g_head (x y : List UInt8) (c : UInt8) (I : IK) : Eng.exec Tryz.prog X0 [] 300 T86 (lhs body86) (mkFr (gS x (c :: y))) (mkMem gRow) (fun o fr' M' => I o (lv [4, 5, 6] fr') (mv [0] M')) = I .normal (vls (gS x (c :: y))) (rws gRow) := by kernel_rfl
theorem g_words (x y : List UInt8) (I : IK) : Eng.exec Tryz.prog X0 [eWordsT x y] 300 T86 (lhs (lhs blk86)) (mkFr (gS x y)) (mkMem gRow) (fun o fr' M' => I o (lv [4, 7, 8, 9] fr') (mv [0] M')) =
  gC (eWordsT x y) (I .normal (vls (uvS (wordN x) (wordN y)) ++ [some (.bool true)]) (rws gRow)) := by kernel_rfl
theorem g_cond (u v : Nat) (I : IK) : Eng.exec Tryz.prog X0 [] 300 T86 (lhs (rhs (lhs blk86))) (mkFr (uvS u v ++ [(9, .bool true)])) (mkMem gRow) (fun o fr' M' => I o (lv [4, 7, 8, 25] fr') (mv [0] M')) = I .normal (vls (uvS u v) ++ [some (.bool true)]) (rws gRow) := by kernel_rfl
theorem g_in (u v : Nat) (I : IK) : Eng.exec Tryz.prog X0 [] 300 T86 bodyI (mkFr (uvS u (v + 1))) (mkMem gRow) (fun o fr' M' => I o (lv [4, 7, 8] fr') (mv [0] M')) = I .normal [some (.ptr 0 0), some (.int .u64 (.ofNat (v + 1))), some (.int .u64 (.ofNat (u % (v + 1))))] (rws gRow) := by kernel_rfl
theorem g_in0 (u : Nat) (I : IK) : Eng.exec Tryz.prog X0 [] 300 T86 bodyI (mkFr (uvS u 0)) (mkMem gRow) (fun o fr' M' => I o (lv [4, 7, 8] fr') (mv [0] M')) = I (.exit 2) (vls (uvS u 0)) (rws gRow) := by kernel_rfl
theorem g_mag (u : Nat) (l : List UInt8) (I : IK) : Eng.exec Tryz.prog X0 [eMag u l] 300 T86 (rhs inn86) (mkFr (uvS u 0)) (mkMem gRow) (fun o fr' M' => I o (lv [4] fr') (mv [0] M')) = gC (eMag u l) (I .ret [some (.ptr 0 0)] [some (.row [.bool false, strA l] false 1)]) := by kernel_rfl
theorem g_div2 (x y q r : List UInt8) (I : IK) : Eng.exec Tryz.prog X0 [(111, ⟨[strA x, strA y], [], .tuple [strA q, strA r]⟩)] 300 T86 (rhs blk86) (mkFr (gS x y)) (mkMem gRow) (fun o fr' M' => I o (lv [4, 5, 6] fr') (mv [0] M')) = gC (111, ⟨[strA x, strA y], [], .tuple [strA q, strA r]⟩) (I .normal (vls (gS y r)) (rws gRow)) := by kernel_rfl
theorem g_end (l : List UInt8) (I : IK) : Eng.exec Tryz.prog X0 [] 300 T86 (rhs (post 2 c86)) (mkFr (gS l [])) (mkMem gRow) (fun o fr' M' => I o (lv [4] fr') (mv [0] M')) = I .ret [some (.ptr 0 0)] [some (.row [.bool false, strA l] false 1)] := by kernel_rfl
theorem g_blk0 : lhs (post 2 c86) = .block 0 (.loop body86) := by kernel_rfl
theorem g_blk1 : rhs body86 = .block 1 blk86 := by kernel_rfl
theorem g_blk2 : lhs inn86 = .block 2 (.loop bodyI) := by kernel_rfl
theorem g_if : rhs (rhs (lhs blk86)) = .cond (.tmp 25) inn86 .skip := by kernel_rfl
theorem gS_ren (x y : List UInt8) : ∀ p ∈ gS x y, renT [0] p.2 = some p.2 := by
  intro p hp
  simp only [gS, List.mem_cons, List.not_mem_nil, or_false] at hp
  rcases hp with rfl | rfl | rfl <;> rfl
theorem uvS_ren (u v : Nat) : ∀ p ∈ uvS u v, renT [0] p.2 = some p.2 := by
  intro p hp
  simp only [uvS, List.mem_cons, List.not_mem_nil, or_false] at hp
  rcases hp with rfl | rfl | rfl <;> rfl
theorem gRow_ren : rows2 [0] gRow = rws gRow := by rfl
theorem W.fromG {c : Code} {Q : AE → Fr → Mem → Prop} {fr : Fr} {M : Mem} (slots : List (Nat × AV)) (hs : ∀ p ∈ slots, renT [0] p.2 = some p.2) (hv : lv (kys slots) fr = vls slots) (hm' : mv [0] M = rws gRow)
    (h : W Tryz.prog T86 0 c (mkFr slots) (mkMem gRow) Q) : W Tryz.prog T86 0 c fr M Q :=
  W.next (π := [0]) hv hm' slots gRow rfl (vls_vals slots _ hs) gRow_ren (by rfl) (vls_some slots) (by simp [rws, gRow]) h
def GPr (ans : AV) : Prop := ∃ g : List UInt8, ans = .agg [.bool false, strA g]
theorem res86 : Tryz.f86.results.toList = [.cell 4 35] := by kernel_rfl
theorem part35 (l : List UInt8) (K : AV → Bool) : partK Tryz.prog 35 [.bool false, strA l] 0 K = K (.agg [.bool false, strA l]) := by kernel_rfl
theorem fin86 {fr : Fr} {M : Mem} {l : List UInt8} (h1 : lv [4] fr = [some (.ptr 0 0)]) (h2 : mv [0] M = [some (.row [.bool false, strA l] false 1)]) : FinEx Tryz.prog Tryz.f86 0 [] GPr .ret fr M := by
  simp only [lv, mv, List.map_cons, List.map_nil, List.cons.injEq] at h1 h2
  refine ⟨.agg [.bool false, strA l], ⟨l, rfl⟩, .inr rfl, [.agg [.bool false, strA l]], ?_, .aggs [.bool false, .str l.length (enc l)], fun j r hj => by simp at hj⟩
  rw [res86]
  show getT fr 4 (fun p => loadA Tryz.prog 35 p M fun v => pdec ([v] = [.agg [.bool false, strA l]])) = true
  rw [getT_iff]
  refine ⟨.ptr 0 0, h1.1, ?_⟩
  show (match M.t.get 0 with
    | some (.row c _ _) => partK Tryz.prog 35 c 0 _
    | _ => false) = true
  rw [h2.1]
  exact (part35 l _).trans (pdec_iff.2 rfl)
theorem inner_loop (u v : Nat) {fr : Fr} {M : Mem} (hl : lv [4, 7, 8] fr = vls (uvS u v)) (hm0 : mv [0] M = rws gRow) :
    W Tryz.prog T86 0 (.loop bodyI) fr M fun o fr' M' => o = .exit 2 ∧ (∃ g, (g = u ∨ g ≤ u ∨ g ≤ v) ∧ lv [4, 7, 8] fr' = vls (uvS g 0)) ∧ mv [0] M' = rws gRow := by
  refine W.loop (σ := { p : Nat × Nat // p.1 ≤ u ∨ p.1 ≤ v }) (fun s fr M => (s.1.2 ≤ v) ∧ lv [4, 7, 8] fr = vls (uvS s.1.1 s.1.2) ∧ mv [0] M = rws gRow) (fun s => s.1.2) ?_ ⟨(u, v), .inl (Nat.le_refl _)⟩ ⟨Nat.le_refl _, hl, hm0⟩
  rintro ⟨⟨p, q⟩, hp⟩ fr M ⟨hq, hl, hm0⟩
  simp only at hq hl hp
  refine W.fromG (uvS p q) (uvS_ren p q) hl hm0 ?_
  cases q with
  | zero =>
    refine W.run hm hX0 (S := []) (fun _ h => by cases h) 300 _ [0] _ (g_in0 p) (pdec_iff.2 fun fr1 M1 hl1 hm1 => ?_)
    exact .inr ⟨by simp, rfl, ⟨p, .inr hp, hl1⟩, hm1⟩
  | succ q =>
    refine W.run hm hX0 (S := []) (fun _ h => by cases h) 300 _ [0] _ (g_in p q) (pdec_iff.2 fun fr1 M1 hl1 hm1 => ?_)
    have h1 : p % (q + 1) < q + 1 := Nat.mod_lt _ (by omega)
    exact .inl ⟨rfl, ⟨(q + 1, p % (q + 1)), .inr hq⟩, h1, by simp only; omega, hl1, hm1⟩
theorem wordN_lt (x : List UInt8) : wordN x < 18446744073709551616 := by
  unfold wordN
  split
  · rename_i h
    refine Nat.lt_of_lt_of_le (be_lt x) ?_
    rw [show (18446744073709551616 : Nat) = 256 ^ 8 by decide]
    exact Nat.pow_le_pow_right (by decide) h
  · decide
theorem gcd_c (a b : List UInt8) (na nb : Bool) (ha : NZ a) (hb : NZ b) (hs : a.length + b.length ≤ 20) : ∃ g : List UInt8, BSim Tryz.prog 86 [.agg [.bool na, strA a], .agg [.bool nb, strA b]] [] [] (.agg [.bool false, strA g]) := by
  suffices h : ∃ ans, GPr ans ∧ BSim Tryz.prog 86 [.agg [.bool na, strA a], .agg [.bool nb, strA b]] [] [] ans by
    obtain ⟨_, ⟨g, rfl⟩, h⟩ := h
    exact ⟨g, h⟩
  refine BSim.of_WEx ok86 (by kernel_rfl) rfl ?_
  refine W.runN hm hX0 (S := []) (fun _ h => by cases h) 300 2 [4, 5, 6] [2] _ (g_start a b na nb) (pdec_iff.2 fun fr1 M1 hl1 hm1 => ?_)
  show W Tryz.prog T86 0 (post 2 c86) fr1 M1 _
  refine W.next (π := [2]) hl1 hm1 (gS a b) gRow rfl rfl (by rfl) (by rfl) (by simp) (by simp) ?_
  refine W.parts (by kernel_rfl) ?_
  rw [g_blk0]
  refine W.block ?_
  refine W.loop (σ := { p : List UInt8 × List UInt8 // NZ p.1 ∧ NZ p.2 ∧ p.1.length + p.2.length ≤ 20 }) (fun s fr M => lv [4, 5, 6] fr = vls (gS s.1.1 s.1.2) ∧ mv [0] M = rws gRow) (fun s => be s.1.2) ?_ ⟨(a, b), ha, hb, hs⟩ ⟨rfl, rfl⟩
  rintro ⟨⟨x, y⟩, hx, hy, hs⟩ fr M ⟨hl, hm0⟩
  simp only at hx hy hs hl
  refine W.fromG (gS x y) (gS_ren x y) hl hm0 ?_
  cases y with
  | nil =>
    refine W.parts (by kernel_rfl) (W.run hm hX0 (S := []) (fun _ h => by cases h) 300 _ [0] _ (g_exit x) (pdec_iff.2 fun fr2 M2 hl2 hm2 => ?_))
    refine .inr ⟨by simp, Blkd_eq ?_⟩
    show W Tryz.prog T86 0 (rhs (post 2 c86)) fr2 M2 _
    refine W.fromG (gS x []) (gS_ren x []) hl2 hm2 ?_
    exact W.run hm hX0 (S := []) (fun _ h => by cases h) 300 _ [0] _ (g_end x) (pdec_iff.2 fun fr3 M3 hl3 hm3 => fin86 hl3 hm3)
  | cons c y =>
    refine W.parts (by kernel_rfl) (W.run hm hX0 (S := []) (fun _ h => by cases h) 300 _ [0] _ (g_head x y c) (pdec_iff.2 fun fr2 M2 hl2 hm2 => ?_))
    show W Tryz.prog T86 0 (rhs body86) fr2 M2 _
    rw [g_blk1]
    have h1y : 1 ≤ (c :: y).length := by simp
    have hbe0 := be_ge hy (by simp)
    generalize c :: y = y' at *
    refine W.fromG (gS x y') (gS_ren x y') hl2 hm2 (W.block ?_)
    by_cases hw : x.length ≤ 8 ∧ y'.length ≤ 8
    · refine W.parts (by kernel_rfl) (W.parts (by kernel_rfl) ?_)
      refine W.run hm hX0 (S := [eWordsT x y']) (AllOk.mem ⟨eWordsT_ok hw, trivial⟩) 300 [4, 7, 8, 9] [0] _ (g_words x y') ?_
      rw [gC_iff]
      refine pdec_iff.2 fun fr3 M3 hl3 hm3 => ?_
      have hl3' : fr3.get 4 :: fr3.get 7 :: fr3.get 8 :: [fr3.get 9] = [some (.ptr 0 0), some (.int .u64 (.ofNat (wordN x))), some (.int .u64 (.ofNat (wordN y'))), some (.bool true)] := hl3
      show W Tryz.prog T86 0 (rhs (lhs blk86)) fr3 M3 _
      refine W.parts (by kernel_rfl) ?_
      refine W.next (ts := [4, 7, 8, 9]) (π := [0]) hl3' hm3 (uvS (wordN x) (wordN y') ++ [(9, .bool true)]) gRow rfl rfl gRow_ren (by rfl) (by simp) (by simp [rws, gRow]) ?_
      refine W.run hm hX0 (S := []) (fun _ h => by cases h) 300 [4, 7, 8, 25] [0] _ (g_cond (wordN x) (wordN y')) (pdec_iff.2 fun fr4 M4 hl4 hm4 => ?_)
      have hl4' : fr4.get 4 :: fr4.get 7 :: fr4.get 8 :: [fr4.get 25] = [some (.ptr 0 0), some (.int .u64 (.ofNat (wordN x))), some (.int .u64 (.ofNat (wordN y'))), some (.bool true)] := hl4
      simp only [List.cons.injEq] at hl4'
      show W Tryz.prog T86 0 (rhs (rhs (lhs blk86))) fr4 M4 _
      rw [g_if]
      refine W.cond true hl4'.2.2.2.1 (fun _ => ?_) (fun h => by cases h)
      refine W.parts (by kernel_rfl) ?_
      rw [g_blk2]
      refine W.block ((inner_loop (wordN x) (wordN y') (fr := fr4) (by show [fr4.get 4, fr4.get 7, fr4.get 8] = _; rw [hl4'.1, hl4'.2.1, hl4'.2.2.1]; rfl) hm4).mono fun o fr5 M5 h => ?_)
      obtain ⟨rfl, ⟨g, hg, hl5⟩, hm5⟩ := h
      refine Blkd_eq ?_
      show W Tryz.prog T86 0 (rhs inn86) fr5 M5 _
      have hx1 := wordN_lt x
      have hy1 := wordN_lt y'
      obtain ⟨m, _, _, hm6⟩ := mag_c g (by omega)
      refine W.fromG (uvS g 0) (uvS_ren g 0) hl5 hm5 ?_
      refine W.run hm hX0 (S := [eMag g m]) (AllOk.mem ⟨eMag_ok hm6, trivial⟩) 300 [4] [0] _ (g_mag g m) ?_
      rw [gC_iff]
      refine pdec_iff.2 fun fr6 M6 hl6 hm6 => ?_
      exact .inr ⟨by simp, fin86 hl6 hm6⟩
    · refine W.runN hm hX0 (S := [eWords x y']) (AllOk.mem ⟨eWords_ok hw, trivial⟩) 300 1 [4, 5, 6] [0] (fun I => gC (eWords x y') (I .normal (vls (gS x y')) (rws gRow))) (fun I => by kernel_rfl) ?_
      rw [gC_iff]
      refine pdec_iff.2 fun fr3 M3 hl3 hm3 => ?_
      show W Tryz.prog T86 0 (rhs blk86) fr3 M3 _
      refine W.fromG (gS x y') (gS_ren x y') hl3 hm3 ?_
      -- the remainder
      have key : ∀ q r : List UInt8, BSim Tryz.prog 111 [strA x, strA y'] [] [] (.tuple [strA q, strA r]) → NZ r → be r < be y' → y'.length + r.length ≤ 20 → W Tryz.prog T86 0 (rhs blk86) (mkFr (gS x y')) (mkMem gRow) (Blkd 1 fun o fr' M' =>
          (o = .normal ∧ ∃ s' : { p : List UInt8 × List UInt8 // NZ p.1 ∧ NZ p.2 ∧ p.1.length + p.2.length ≤ 20 }, be s'.1.2 < be y' ∧ lv [4, 5, 6] fr' = vls (gS s'.1.1 s'.1.2) ∧ mv [0] M' = rws gRow) ∨
          (o ≠ .normal ∧ Blkd 0 (Nxt Tryz.prog T86 0 (rhs (post 2 c86)) (FinEx Tryz.prog Tryz.f86 0 [] GPr)) o fr' M')) := by
        intro q r hd hr hlt hs'
        refine W.run hm hX0 (S := [(111, ⟨[strA x, strA y'], [], .tuple [strA q, strA r]⟩)]) (AllOk.mem ⟨hd.spec0 rfl, trivial⟩) 300 _ [0] _ (g_div2 x y' q r) ?_
        rw [gC_iff]
        exact pdec_iff.2 fun fr4 M4 hl4 hm4 => .inl ⟨rfl, ⟨(y', r), hy, hr, hs'⟩, hlt, hl4, hm4⟩
      by_cases hc : compareN x y' < 0
      · exact key [] x (div_lt hw hc) hx (cmp_lt_be hy hc) (by omega)
      · obtain ⟨ans, ⟨q, r, rfl, h1, h2, h3⟩, hd⟩ := div_ge hw hc hs h1y hy
        have := be_len_le h3 h1
        have := cmp_len hc
        exact key q r hd h3 h1 (by omega)
end Go.Proofs.YtnljmpeaeajcoaaGreatDoor

/- A part of the proof over this seat's program: the checked evaluator and its soundness (E..), and what it gives here (the others). No condition. -/
import Derived.Test.YtnljmpeaeajcoaaGreatDoorG3
import Derived.Laws.Slices
set_option linter.unusedSectionVars false
namespace Go.Eng
open Go
variable [Mode]

theorem eqA_sound {P : Program} : ∀ (d : Nat) (t : TypeId) (a b : AV) (K : Bool → Bool), eqA P d t a b K = true →
    ∃ r, K r = true ∧ ∀ ρ ca cb, VRel ρ a ca → VRel ρ b cb → ∀ w, (Op.equalIn d t ca cb).run P w = .ok r w := by
  intro d
  induction d with
  | zero => intro t a b K h; exact absurd h (by show ¬ (false = true); simp)
  | succ d ih =>
    intro t a b K h
    change eqStep P (eqA P d) t a b K = true at h
    unfold eqStep at h
    split at h
    · -- bool
      rename_i hu
      split at h
      · rename_i x y
        refine ⟨_, h, fun ρ ca cb ha hb w => ?_⟩
        cases ha; cases hb
        simp only [Op.equalIn, Sem.run_bind, run_und hu, Result.andThen_ok]
        cases x <;> cases y <;> rfl
      · exact absurd h (by simp)
    · -- int
      rename_i k0 hu
      split at h
      · rename_i k a k' b
        rw [brec_false] at h
        obtain ⟨hk, h⟩ := h
        obtain rfl := (keq_iff _ _).1 hk
        refine ⟨_, h, fun ρ ca cb ha hb w => ?_⟩
        cases ha; cases hb
        rw [ieq_iff]
        simp [Op.equalIn, run_und hu]
      · exact absurd h (by simp)
    · -- string
      rename_i hu
      split at h
      · rename_i l c l' c'
        refine ⟨_, h, fun ρ ca cb ha hb w => ?_⟩
        cases ha with
        | str s =>
          cases hb with
          | str u =>
            rw [seqA_iff]
            simp only [Op.equalIn, Sem.run_bind, run_und hu, Result.andThen_ok, Sem.run_pure]
            rw [beq_toListBytes, ByteArray.toList_mk, ByteArray.toList_mk]
      · exact absurd h (by simp)
    · -- pointer
      rename_i e hu
      split at h
      case h_4 => exact absurd h (by simp)
      all_goals
        refine ⟨_, h, fun ρ ca cb ha hb w => ?_⟩
        cases ha; cases hb
        simp [Op.equalIn, run_und hu]
    · -- interface
      rename_i ms hu
      split at h
      case h_4 => exact absurd h (by simp)
      all_goals
        refine ⟨_, h, fun ρ ca cb ha hb w => ?_⟩
        cases ha; cases hb
        simp [Op.equalIn, run_und hu]
    · -- struct
      rename_i fs hu
      split at h
      · rename_i xs ys
        rw [brec_not] at h
        obtain ⟨hp, h⟩ := h
        obtain ⟨r, hK, H⟩ := eqFields_sound ih xs ys fs.toList K h
        refine ⟨r, hK, fun ρ ca cb ha hb w => ?_⟩
        have hf : P.fieldsOf t = fs := by simp [Program.fieldsOf, hu]
        cases ha with
        | agg _ cx hx =>
          cases hb with
          | agg _ cy hy =>
            rw [run_equalIn_struct w d t cx cy (by rw [hf]; exact hu) hp, hf]
            exact H ρ cx cy hx hy w
      · exact absurd h (by simp)
    · -- slice
      rename_i e hu
      split at h
      case h_4 => exact absurd h (by simp)
      all_goals
        refine ⟨_, h, fun ρ ca cb ha hb w => ?_⟩
        cases ha; cases hb
        simp [Op.equalIn, run_und hu]
    · -- map
      rename_i k e hu
      split at h
      case h_4 => exact absurd h (by simp)
      all_goals
        refine ⟨_, h, fun ρ ca cb ha hb w => ?_⟩
        cases ha; cases hb
        simp [Op.equalIn, run_und hu]
    · -- func
      rename_i a1 a2 a3 hu
      split at h
      case h_4 => exact absurd h (by simp)
      all_goals
        refine ⟨_, h, fun ρ ca cb ha hb w => ?_⟩
        cases ha; cases hb
        simp [Op.equalIn, run_und hu]
    · exact absurd h (by simp)

/-! operators -/
/-- what a binary operation gives, its guard ahead of it -/
def BinSim (P : Program) (op : BinOp) (t : TypeId) (a b v : AV) : Prop :=
  ∀ ρ ca cb, VRel ρ a ca → VRel ρ b cb → ∃ cv, VRel ρ v cv ∧ ∀ (x y : Operand) w, ((do eqGuard op t x y ca cb; binOp op t ca cb) : Sem Value).run P w = .ok cv w

theorem guard_none {P : Program} (op : BinOp) (t : TypeId) (x y : Operand) (ca cb : Value) (h1 : ca ≠ .nilIface) (h2 : ∀ cs, ca ≠ .agg cs) (w : World) : (eqGuard op t x y ca cb).run P w = .ok () w := by
  unfold eqGuard
  cases ca <;> first | (exact absurd rfl h1) | (exact absurd rfl (h2 _)) | (cases op <;> rfl)

theorem bitv_and (n : Nat) (x y : Int) (a b : Nat) (ha : ((a : Nat) : Int) = x % (2 : Int) ^ n) (hb : ((b : Nat) : Int) = y % (2 : Int) ^ n) :
    (BitVec.ofInt n x).toNat = a ∧ (BitVec.ofInt n y).toNat = b := by
  constructor <;> (rw [BitVec.toNat_ofInt]; simp [Int.natCast_pow]; omega)

theorem binInt_sound {P : Program} {op : BinOp} {k : IntKind} {a b : Int} {K : AV → Bool} (hs : isShift op = false) (t : TypeId) (h : binInt op k a b K = true) :
    ∃ v, K v = true ∧ ∀ ρ, ∃ cv, VRel ρ v cv ∧ ∀ w, (binOp op t (.int k a) (.int k b)).run P w = .ok cv w := by
  have hu : ∀ x : Int, (BitVec.ofInt k.bits x).toNat = toU k x := fun x => (bitv_and k.bits x x (toU k x) (toU k x) (toU_eq k x) (toU_eq k x)).1
  cases op <;> simp only [binInt, isShift] at h hs <;> first | (exact Bool.noConfusion hs) | skip
  case add => replace h := wrapK_of h; exact ⟨_, h, fun ρ => ⟨_, .int _ _, fun w => by first | (simp [binOp, Op.intArith]; done) | (simp [binOp, Op.intArith]; rfl)⟩⟩
  case sub => replace h := wrapK_of h; exact ⟨_, h, fun ρ => ⟨_, .int _ _, fun w => by first | (simp [binOp, Op.intArith]; done) | (simp [binOp, Op.intArith]; rfl)⟩⟩
  case mul => replace h := wrapK_of h; exact ⟨_, h, fun ρ => ⟨_, .int _ _, fun w => by first | (simp [binOp, Op.intArith]; done) | (simp [binOp, Op.intArith]; rfl)⟩⟩
  case quo =>
    rw [brec_not, ieq_iff] at h
    have hb : b ≠ 0 := by simpa using h.1
    exact ⟨_, wrapK_of h.2, fun ρ => ⟨_, .int _ _, fun w => by simp [binOp, Op.intDiv, hb]⟩⟩
  case rem =>
    rw [brec_not, fI_eq, ieq_iff] at h
    have hb : b ≠ 0 := by simpa using h.1
    exact ⟨_, h.2, fun ρ => ⟨_, .int _ _, fun w => by simp [binOp, Op.intDiv, hb]⟩⟩
  case and =>
    replace h := wrapK_of h
    refine ⟨_, h, fun ρ => ⟨_, .int _ _, fun w => ?_⟩⟩
    simp only [binOp, Op.intBits, ne_eq, not_true_eq_false, if_false, Sem.run_pure, BitVec.toNat_and, hu]
    rfl
  case or =>
    replace h := wrapK_of h
    refine ⟨_, h, fun ρ => ⟨_, .int _ _, fun w => ?_⟩⟩
    simp only [binOp, Op.intBits, ne_eq, not_true_eq_false, if_false, Sem.run_pure, BitVec.toNat_or, hu]
    rfl
  case xor =>
    replace h := wrapK_of h
    refine ⟨_, h, fun ρ => ⟨_, .int _ _, fun w => ?_⟩⟩
    simp only [binOp, Op.intBits, ne_eq, not_true_eq_false, if_false, Sem.run_pure, BitVec.toNat_xor, hu]
    rfl
  case andNot =>
    replace h := wrapK_of h
    refine ⟨_, h, fun ρ => ⟨_, .int _ _, fun w => ?_⟩⟩
    simp only [binOp, Op.intBits, ne_eq, not_true_eq_false, if_false, Sem.run_pure, BitVec.toNat_and, BitVec.toNat_not, hu, ← modOf_nat]
    rfl
  case eql => rw [ieq_iff] at h; exact ⟨_, h, fun ρ => ⟨_, .bool _, fun w => by simp [binOp, Op.intCmp]⟩⟩
  case neq => rw [ieq_iff] at h; exact ⟨_, h, fun ρ => ⟨_, .bool _, fun w => by simp [binOp, Op.intCmp, bne]⟩⟩
  case lss => rw [ilt_iff] at h; exact ⟨_, h, fun ρ => ⟨_, .bool _, fun w => by simp [binOp, Op.intCmp]⟩⟩
  case leq =>
    rw [ilt_iff] at h
    refine ⟨_, h, fun ρ => ⟨_, .bool _, fun w => ?_⟩⟩
    simp only [binOp, Op.intCmp, ne_eq, not_true_eq_false, if_false, Sem.run_pure]
    congr 2
    by_cases e : b < a <;> simp [e] <;> omega
  case gtr => rw [ilt_iff] at h; exact ⟨_, h, fun ρ => ⟨_, .bool _, fun w => by simp [binOp, Op.intCmp]⟩⟩
  case geq =>
    rw [ilt_iff] at h
    refine ⟨_, h, fun ρ => ⟨_, .bool _, fun w => ?_⟩⟩
    simp only [binOp, Op.intCmp, ne_eq, not_true_eq_false, if_false, Sem.run_pure]
    congr 2
    by_cases e : a < b <;> simp [e] <;> omega

theorem shiftA_sound {P : Program} {op : BinOp} {k k' : IntKind} {a b : Int} {K : AV → Bool} (t : TypeId) (h : shiftA op k a b K = true) :
    ∃ v, K v = true ∧ ∀ ρ, ∃ cv, VRel ρ v cv ∧ ∀ w, (binOp op t (.int k a) (.int k' b)).run P w = .ok cv w := by
  unfold shiftA at h
  split at h
  · exact absurd h (by simp)
  · rename_i n
    have hn : ¬ ((n : Int) < 0) := by omega
    have hp : ∀ m : Nat, Int.ofNat (Nat.pow 2 m) = (2 : Int) ^ m := fun m => by simp
    split at h
    · replace h := wrapK_of h
      rw [shAmt_eq, hp] at h
      refine ⟨_, h, fun ρ => ⟨_, .int _ _, fun w => ?_⟩⟩
      simp [binOp, Op.shift, hn]
    · rw [fI_eq, shAmt_eq, hp] at h
      refine ⟨_, h, fun ρ => ⟨_, .int _ _, fun w => ?_⟩⟩
      simp [binOp, Op.shift, hn]
    · exact absurd h (by simp)

theorem bytesLess_turn : ∀ l m : List UInt8, Op.bytesLess m l = !(Op.bytesLess l m || (l == m)) := by
  intro l
  induction l with
  | nil => intro m; cases m <;> rfl
  | cons a l ih =>
    intro m
    cases m with
    | nil => rfl
    | cons b m =>
      have hi := ih m
      simp only [Op.bytesLess, List.cons_beq_cons]
      by_cases hab : a = b
      · subst hab; simp [hi]
      · have h1 : (b == a) = false := by simpa using fun h => hab h.symm
        have h2 : (a == b) = false := by simpa using hab
        have hne : a.toNat ≠ b.toNat := fun h => hab (UInt8.toNat_inj.1 h)
        simp only [h1, h2, Bool.false_and, Bool.or_false]
        rw [Bool.eq_iff_iff]
        simp only [decide_eq_true_eq, Bool.not_eq_true', decide_eq_false_iff_not, UInt8.lt_iff_toNat_lt]
        omega
theorem binStr_sound {P : Program} {op : BinOp} {l m : List UInt8} {K : AV → Bool} (t : TypeId) (h : binStr op l.length (enc l) m.length (enc m) K = true) :
    ∃ v, K v = true ∧ ∀ ρ, ∃ cv, VRel ρ v cv ∧ ∀ w, (binOp op t (.string ⟨⟨l⟩⟩) (.string ⟨⟨m⟩⟩)).run P w = .ok cv w := by
  have tl : ∀ l : List UInt8, (⟨⟨l⟩⟩ : ByteArray).toList = l := fun l => by rw [ByteArray.toList_eq]
  cases op <;> simp only [binStr] at h <;> first | (exact Bool.noConfusion h) | skip
  case add =>
    rw [brec_false, fN_eq, fN_eq] at h
    obtain ⟨h1, h⟩ := h
    have h1 := nble_le h1
    refine ⟨.str (l ++ m).length (enc (l ++ m)), by rw [enc_append, List.length_append]; exact h, fun ρ => ⟨_, .str _, fun w => ?_⟩⟩
    have hsz : ¬ (((⟨⟨l⟩⟩ : ByteArray).size + (⟨⟨m⟩⟩ : ByteArray).size : Nat) : Int) > IntKind.i64.max := by
      have : IntKind.i64.max = 9223372036854775807 := by decide
      rw [this]
      have a1 : (⟨⟨l⟩⟩ : ByteArray).size = l.length := rfl
      have a2 : (⟨⟨m⟩⟩ : ByteArray).size = m.length := rfl
      rw [a1, a2]
      change l.length + m.length ≤ _ at h1
      omega
    simp only [binOp, Op.stringOp, hsz, if_false, Sem.run_pure]
    congr 2
  case eql => rw [fB_eq, seqA_iff] at h; exact ⟨_, h, fun ρ => ⟨_, .bool _, fun w => by simp [binOp, Op.stringOp, tl]⟩⟩
  case neq => rw [fB_eq, seqA_iff] at h; exact ⟨_, h, fun ρ => ⟨_, .bool _, fun w => by simp [binOp, Op.stringOp, tl]⟩⟩
  case lss => rw [fB_eq, sltA_iff] at h; exact ⟨_, h, fun ρ => ⟨_, .bool _, fun w => by simp [binOp, Op.stringOp, tl]⟩⟩
  case gtr => rw [fB_eq, sltA_iff, bytesLess_turn] at h; exact ⟨_, h, fun ρ => ⟨_, .bool _, fun w => by simp [binOp, Op.stringOp, tl]⟩⟩
  case leq => rw [fB_eq, sltA_iff, bytesLess_turn, Bool.not_not] at h; exact ⟨_, h, fun ρ => ⟨_, .bool _, fun w => by simp [binOp, Op.stringOp, tl]⟩⟩
  case geq => rw [fB_eq, sltA_iff] at h; exact ⟨_, h, fun ρ => ⟨_, .bool _, fun w => by simp [binOp, Op.stringOp, tl]⟩⟩
end Go.Eng

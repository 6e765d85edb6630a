/- A part of the proof over this seat's program: the checked evaluator and its soundness (E..), and what it gives here (the others). No condition. -/
import Derived.Test.YtnljmpeaeajcoaaGreatDoorG18
import Derived.Laws.Entries
import Derived.Lib.Bytealg
import Derived.Lib.Builder
set_option linter.unusedSectionVars false
namespace Go.Eng
open Go Go.Lib
variable [Mode]

theorem findByte_eq : ∀ (l : List UInt8) (c : UInt8) (i : Nat), findByte l.length (enc l) c.toNat i = if indexByte l c = -1 then -1 else Int.ofNat i + indexByte l c := by
  intro l c
  induction l with
  | nil => intro i; rfl
  | cons a l ih =>
    intro i
    show Bool.rec (motive := fun _ => Int) (findByte l.length (enc (a :: l) / 256) c.toNat (i + 1)) (Int.ofNat i) (Nat.beq (enc (a :: l) % 256) c.toNat) = _
    have d1 : enc (a :: l) / 256 = enc l := by rw [enc_cons]; have := a.toNat_lt; omega
    rw [enc_head _ a l rfl, d1, ih]
    have unf : indexByte (a :: l) c = if a == c then 0 else if indexByte l c == -1 then -1 else indexByte l c + 1 := rfl
    rw [unf]
    by_cases h : a = c
    · subst h
      have : Nat.beq a.toNat a.toNat = true := by simp
      rw [this]; simp
    · have hn : Nat.beq a.toNat c.toNat = false := nbeq_ne fun e => h (UInt8.toNat_inj.1 e)
      have hb : (a == c) = false := by simpa using h
      rw [hn, hb]
      simp only [Bool.false_eq_true, if_false]
      have := indexByte_ge l c
      by_cases e : indexByte l c = -1
      · simp [e]
      · have e2 : (indexByte l c == -1) = false := by simpa using e
        rw [if_neg e, e2]
        simp only [Bool.false_eq_true, if_false]
        rw [if_neg (by omega)]
        simp only [Int.ofNat_eq_natCast]
        omega

theorem compareBytes_eq : ∀ (s t : List UInt8), compareBytes s t = if s = t then 0 else if Op.bytesLess s t then -1 else 1 := by
  intro s
  induction s with
  | nil => intro t; cases t <;> simp [compareBytes, Op.bytesLess]
  | cons a s ih =>
    intro t
    cases t with
    | nil => simp [compareBytes, Op.bytesLess]
    | cons b t =>
      unfold compareBytes
      simp only [Op.bytesLess]
      by_cases hab : a = b
      · subst hab
        have : ¬ a < a := UInt8.lt_irrefl a
        simp [this, ih]
      · by_cases hlt : a < b
        · simp [hab, hlt]
        · have : b < a := UInt8.lt_of_le_of_ne (UInt8.not_lt.1 hlt) (Ne.symm hab)
          simp [hab, hlt, this]

section
variable {P : Program} {f : FuncId} {fn : Func}
theorem ExtSpec.indexByte (hf : P.funcs[f]? = some fn) (hname : (fn.name == "runtime.NumGoroutine") = false) (hb : fn.body.isNone = true) (hn : Extern.findNext fn = none)
    (he : Extern.find fn = some Extern.BytealgIndexByte.indexByte) : ExtSpec P f .indexByte := by
  refine ⟨fun args v hv => (by simp [ansOf] at hv), ?_⟩
  intro args K h
  simp only [extA] at h
  split at h
  · rename_i n c b
    rw [brec_false] at h
    obtain ⟨hb', h⟩ := h
    have hlt : b < 256 := by simpa [Nat.blt_eq] using hb'
    rw [fI_eq] at h
    refine ⟨_, h, fun ρ cargs hv => ?_⟩
    obtain ⟨l, rfl, rfl, rfl⟩ : ∃ l : List UInt8, cargs = #[.string ⟨⟨l⟩⟩, .int .u8 (.ofNat b)] ∧ n = l.length ∧ c = enc l := by
      have e : cargs = cargs.toList.toArray := by simp
      generalize cargs.toList = cl at e hv
      cases hv with
      | cons _ v _ vs h1 h2 =>
        cases h1 with
        | str l =>
          cases h2 with
          | cons _ v' _ vs' h3 h4 => cases h3; cases h4; exact ⟨l, e, rfl, rfl⟩
    refine ⟨_, .int _ _, fun w => ?_⟩
    rw [run_callFunc_extern hf hname hb hn he, run_indexByteString]
    simp only [Result.andThen_ok]
    have hc : (b.toUInt8).toNat = b := by simp; omega
    have := findByte_eq l b.toUInt8 0
    rw [hc] at this
    rw [this]
    have hge := indexByte_ge l b.toUInt8
    congr 3
    show Lib.indexByte l b.toUInt8 = _
    split <;> simp_all
  · exact absurd h (by simp)

theorem ExtSpec.cmpString (hf : P.funcs[f]? = some fn) (hname : (fn.name == "runtime.NumGoroutine") = false) (hb : fn.body.isNone = true) (hn : Extern.findNext fn = none)
    (he : Extern.find fn = some Extern.BytealgCompare.compare) : ExtSpec P f .cmpString := by
  refine ⟨fun args v hv => (by simp [ansOf] at hv), ?_⟩
  intro args K h
  simp only [extA] at h
  split at h
  · rename_i n c n' c'
    obtain ⟨v, hK, H⟩ : ∃ v, K v = true ∧ ∀ s t : List UInt8, n = s.length → c = enc s → n' = t.length → c' = enc t → v = .int .i64 (compareBytes s t) := by
      rw [brec_tt] at h
      rcases h with ⟨h1, h⟩ | ⟨h1, h⟩
      · rw [brec_tt] at h
        rcases h with ⟨h2, h⟩ | ⟨h2, h⟩
        · refine ⟨_, h, fun s t e1 e2 e3 e4 => ?_⟩
          subst e1 e2 e3 e4
          rw [seqA_iff] at h1; rw [sltA_iff] at h2
          rw [compareBytes_eq, if_neg (by simpa using h1), if_neg (by simpa using h2)]
        · refine ⟨_, h, fun s t e1 e2 e3 e4 => ?_⟩
          subst e1 e2 e3 e4
          rw [seqA_iff] at h1; rw [sltA_iff] at h2
          rw [compareBytes_eq, if_neg (by simpa using h1), if_pos (by simpa using h2)]
      · refine ⟨_, h, fun s t e1 e2 e3 e4 => ?_⟩
        subst e1 e2 e3 e4
        rw [seqA_iff] at h1
        rw [compareBytes_eq, if_pos (by simpa using h1)]
    refine ⟨_, hK, fun ρ cargs hv => ?_⟩
    obtain ⟨s, t, rfl, h1, h2, h3, h4⟩ : ∃ s t : List UInt8, cargs = #[.string ⟨⟨s⟩⟩, .string ⟨⟨t⟩⟩] ∧ n = s.length ∧ c = enc s ∧ n' = t.length ∧ c' = enc t := by
      have e : cargs = cargs.toList.toArray := by simp
      generalize cargs.toList = cl at e hv
      cases hv with
      | cons _ v _ vs h1 h2 =>
        cases h1 with
        | str l =>
          cases h2 with
          | cons _ v' _ vs' h3 h4 =>
            cases h3 with
            | str l' => cases h4; exact ⟨l, l', e, rfl, rfl, rfl, rfl⟩
    refine ⟨.int .i64 (compareBytes s t), ?_, fun w => ?_⟩
    · rw [H s t h1 h2 h3 h4]
      exact .int _ _
    · rw [run_callFunc_extern hf hname hb hn he, run_compareString]
      rfl
  · exact absurd h (by simp)

theorem ExtSpec.add64 (hf : P.funcs[f]? = some fn) (hname : (fn.name == "runtime.NumGoroutine") = false) (hb : fn.body.isNone = true) (hn : Extern.findNext fn = none)
    (he : Extern.find fn = some add64Entry) : ExtSpec P f .add64 := by
  refine ⟨fun args v hv => (by simp [ansOf] at hv), ?_⟩
  intro args K h
  simp only [extA] at h
  split at h
  · rename_i a b c
    rw [brec_false] at h
    obtain ⟨hb', h⟩ := h
    have hlt : c < 2 := by simpa [Nat.blt_eq] using hb'
    rw [fN_eq, fN_eq] at h
    refine ⟨_, h, fun ρ cargs hv => ?_⟩
    obtain rfl : cargs = #[.int .u64 (.ofNat a), .int .u64 (.ofNat b), .int .u64 (.ofNat c)] := by
      have e : cargs = cargs.toList.toArray := by simp
      generalize cargs.toList = cl at e hv
      cases hv with
      | cons _ v _ vs h1 h2 =>
        cases h1
        cases h2 with
        | cons _ v' _ vs' h3 h4 =>
          cases h3
          cases h4 with
          | cons _ v' _ vs' h5 h6 => cases h5; cases h6; exact e
    refine ⟨_, .tuple _ #[_, _] (.cons _ _ _ _ (.int _ _) (.cons _ _ _ _ (.int _ _) .nil)), fun w => ?_⟩
    rw [run_callFunc_extern hf hname hb hn he, run_add64 _ _ _ (by simp) (by simp) (by simp) (by simp; omega)]
    rfl
  · exact absurd h (by simp)

theorem ExtSpec.noEscape (hf : P.funcs[f]? = some fn) (hname : (fn.name == "runtime.NumGoroutine") = false) (hb : fn.body.isNone = true) (hn : Extern.findNext fn = none)
    (he : Extern.find fn = some Extern.AbiNoEscape.same) : ExtSpec P f .noEscape := by
  refine ⟨fun args v hv => (by simp [ansOf] at hv), ?_⟩
  intro args K h
  simp only [extA] at h
  split at h
  · rename_i x
    refine ⟨_, h, fun ρ cargs hv => ?_⟩
    obtain ⟨y, rfl, hy⟩ : ∃ y, cargs = #[y] ∧ VRel ρ x y := by
      have e : cargs = cargs.toList.toArray := by simp
      generalize cargs.toList = cl at e hv
      cases hv with
      | cons _ v _ vs h1 h2 => cases h2; exact ⟨_, e, h1⟩
    refine ⟨_, hy, fun w => ?_⟩
    rw [run_callFunc_extern hf hname hb hn he, run_noEscape]
    rfl
  · exact absurd h (by simp)
/-- a closed run that answers true, as a summary -/
theorem ExtSpec.sumTrue (hcall : ∀ w, Calls P f #[] w fun e w' => e = .returned (.bool true) ∧ RowKit.Below w.heap.size w w') : ExtSpec P f (.sum (.bool true)) := by
  refine ⟨fun args v hv ρ cargs hargs w => ?_, fun args K h => by simp only [extA] at h; cases h⟩
  simp only [ansOf] at hv
  split at hv
  · cases hv
    obtain rfl : cargs = #[] := by
      have := hargs.length
      simp at this
      exact Array.eq_empty_of_size_eq_zero this.symm
    refine (hcall w).mono ?_
    rintro e w' ⟨rfl, hb⟩
    exact ⟨_, rfl, .bool _, hb⟩
  · cases hv
end
end Go.Eng

/- A part of the proof over this seat's program: the checked evaluator and its soundness, and what it gives here. No condition. -/
import Derived.Test.YtnljmpeaeajcoaaGreatDoorA6
import Derived.Test.YtnljmpeaeajcoaaGreatDoorA7
import Derived.Sort.OwnSorted
import Derived.Shelf.SortM.Plain
import Derived.Shelf.SortM.SortNone
import Derived.Shelf.SlicesG.CompactS

set_option linter.all false

namespace Go.Proofs.YtnljmpeaeajcoaaGreatDoor
open Go Go.Eng Go.Vi Go.Knuth

/-! rational.Check: some answer -/
noncomputable def intA (n : Bool) (m : List UInt8) : AV := .agg [.bool n, strA m]
theorem ok83 : FnOk Tryz.prog 83 Tryz.f83 := ⟨Tryz.func83, by kernel_rfl, by kernel_rfl⟩
theorem ok84 : FnOk Tryz.prog 84 Tryz.f84 := ⟨Tryz.func84, by kernel_rfl, by kernel_rfl⟩
theorem ok85 : FnOk Tryz.prog 85 Tryz.f85 := ⟨Tryz.func85, by kernel_rfl, by kernel_rfl⟩
noncomputable def runF [Go.Eng.Mode] (f : Func) (S : List (FuncId × SEnt)) (args : List AV) (I : AV → List (Option Blk) → Bool) : Bool :=
  Eng.exec Tryz.prog X0 S 300 f.ntmps (codeOf f) (mkFr (argSlots args 0)) (mkMem (rowsOf [])) (fun o fr M => endK o (resK Tryz.prog fr M f.results.toList fun vs => I (oneOf vs) (mv [] M)))
noncomputable def eIC (n : Bool) (m : List UInt8) (e : Int) : FuncId × SEnt := (83, ⟨[intA n m], [], .int .i64 e⟩)
noncomputable def eOne : FuncId × SEnt := (85, ⟨[], [], intA false [1]⟩)
noncomputable def eCp (n : Bool) (m : List UInt8) (e : Int) : FuncId × SEnt := (84, ⟨[intA n m, intA false [1]], [], .int .i64 e⟩)
noncomputable def eGcd (n : Bool) (m : List UInt8) (n' : Bool) (m' g : List UInt8) : FuncId × SEnt := (86, ⟨[intA n m, intA n' m'], [], intA false g⟩)
noncomputable def eCC (m : List UInt8) (e : Int) : FuncId × SEnt := (109, ⟨[strA m, strA [1]], [], .int .i64 e⟩)
section
local instance : Go.Eng.Mode := Sy
theorem hX0s : ∀ f x, X0 f = some x → ExtSpec Tryz.prog f x := hX0
theorem i0_leaf (n : Int) {π : List Nat} {bs : List (Option Blk)} : Leaf 0 π [] (.int .i64 n) (.int .i64 n) bs := Leaf.flat fun _ _ => .plain (.int .i64 n)
/-- integer.Check: what it answers -/
theorem icheck (n : Bool) (m : List UInt8) : BSim Tryz.prog 83 [intA n m] [] [] (.int .i64 5) ∨ (NZ m ∧ (m = [] → n = false) ∧ BSim Tryz.prog 83 [intA n m] [] [] (.int .i64 0)) := by
  cases m with
  | nil =>
    cases n with
    | false => exact .inr ⟨(fun _ _ h => by cases h), fun _ => rfl, BSim.run hm hX0 (S := []) (fun _ h => by cases h) ok83 (by kernel_rfl) rfl 300 [] (fun I => I (.int .i64 0) []) (fun I => by kernel_rfl) (pdec_iff.2 (i0_leaf 0))⟩
    | true => exact .inl (BSim.run hm hX0 (S := []) (fun _ h => by cases h) ok83 (by kernel_rfl) rfl 300 [] (fun I => I (.int .i64 5) []) (fun I => by kernel_rfl) (pdec_iff.2 (i0_leaf 5)))
  | cons c l =>
    have hrun : ∀ I : AV → List (Option Blk) → Bool, runF Tryz.f83 [] [intA n (c :: l)] I = gIf (ieq (.ofNat (byte0 (c :: l))) 0) (I (.int .i64 5) []) (I (.int .i64 0) []) := fun I => by kernel_rfl
    by_cases hc : c = 0
    · refine .inl (BSim.run hm hX0 (S := []) (fun _ h => by cases h) ok83 (by kernel_rfl) rfl 300 [] _ hrun ?_)
      rw [byte0_eq, hc]
      exact gIf_of (fun _ => pdec_iff.2 (i0_leaf 5)) (fun h => by cases h)
    · refine .inr ⟨(fun b r h => by obtain ⟨rfl, _⟩ := List.cons.inj h; exact hc), (fun h => by cases h), BSim.run hm hX0 (S := []) (fun _ h => by cases h) ok83 (by kernel_rfl) rfl 300 [] _ hrun ?_⟩
      rw [byte0_eq]
      refine gIf_of (fun h => ?_) (fun _ => pdec_iff.2 (i0_leaf 0))
      rw [ieq_iff] at h
      have h : Int.ofNat c.toNat = 0 := by simpa using h
      exact absurd (UInt8.toNat_inj.1 (show c.toNat = (0 : UInt8).toNat by have := Int.ofNat.inj h; exact this)) hc
end
theorem one_run : @closedRun Cl Tryz.prog X1 [] 400 Tryz.f85 [] (intA false [1]) = true := by kernel_rfl
theorem one_c : BSim Tryz.prog 85 [] [] [] (intA false [1]) :=
  @BSim.closed Cl Tryz.prog hm X1 (@hX1 Cl) [] (fun _ h => by cases h) 85 Tryz.f85 ok85 _ _ (by rfl) 400 one_run rfl
section
local instance : Go.Eng.Mode := Sy
/-- Compare with 1 -/
theorem cmp1_t (c : UInt8) (m : List UInt8) : BSim Tryz.prog 84 [intA true (c :: m), intA false [1]] [] [] (.int .i64 (-1)) :=
  BSim.run hm hX0 (S := []) (fun _ h => by cases h) ok84 (by kernel_rfl) rfl 300 [] (fun I => I (.int .i64 (-1)) []) (fun I => by kernel_rfl) (pdec_iff.2 (i0_leaf (-1)))
theorem cmp1_f (m : List UInt8) : BSim Tryz.prog 84 [intA false m, intA false [1]] [] [] (.int .i64 (compareN m [1])) := by
  have h := compare_c m [1]
  generalize compareN m [1] = e at h
  refine BSim.run hm hX0 (S := [eCC m e]) (AllOk.mem ⟨h.spec0 rfl, trivial⟩) ok84 (by kernel_rfl) rfl 300 [] (fun I => gC (eCC m e) (I (.int .i64 e) [])) (fun I => by kernel_rfl) ?_
  rw [gC_iff]
  exact pdec_iff.2 (i0_leaf e)
end
theorem cmp1 (n : Bool) (c : UInt8) (m : List UInt8) : ∃ e : Int, (e = -1 ∨ e = 0 ∨ e = 1) ∧ BSim Tryz.prog 84 [intA n (c :: m), intA false [1]] [] [] (.int .i64 e) := by
  cases n with
  | true => exact ⟨-1, .inl rfl, cmp1_t c m⟩
  | false =>
    refine ⟨_, ?_, cmp1_f (c :: m)⟩
    unfold compareN
    split
    · exact scmpN_3 _ _
    · exact cmpN_3 _ _
section
local instance : Go.Eng.Mode := Sl
theorem hX0l : ∀ f x, X0 f = some x → ExtSpec Tryz.prog f x := fun _ _ h => by cases h
theorem iL_leaf (n : Int) {π : List Nat} {bs : List (Option Blk)} : Leaf 0 π [] (.int .i64 n) (.int .i64 n) bs := Leaf.flat fun _ _ => .plain (.int .i64 n)
/-- the gates of loads that calls may stand before -/
noncomputable def run63 (S : List (FuncId × SEnt)) (r : Rt) (I : AV → List (Option Blk) → Bool) : Bool := runF Tryz.f63 S [rtA r] I
theorem ck_a (n n' : Bool) (m m' : List UInt8) (I : AV → List (Option Blk) → Bool) : run63 [eIC n m 5] ⟨n, m, n', m'⟩ I = gC (eIC n m 5) (I (.int .i64 5) []) := by kernel_rfl
theorem ck_b (n n' : Bool) (m m' : List UInt8) (I : AV → List (Option Blk) → Bool) : run63 [eIC n m 0, eIC n' m' 5] ⟨n, m, n', m'⟩ I = gC (eIC n m 0) (gC (eIC n' m' 5) (I (.int .i64 5) [])) := by kernel_rfl
theorem ck_c (n : Bool) (m : List UInt8) (I : AV → List (Option Blk) → Bool) : run63 [eIC n m 0, eIC false [] 0] ⟨n, m, false, []⟩ I = gC (eIC n m 0) (gC (eIC false [] 0) (I (.int .i64 0) [])) := by kernel_rfl
/-- a load that one call may stand before -/
noncomputable def gLd (v : AV) (b : Bool) : Bool := gB (gB (gB (gX v true) true) true) b
theorem gLd_iff {v : AV} {b : Bool} : gLd v b = true ↔ b = true := by
  unfold gLd
  simp only [gB_iff, gX_iff, and_true, true_and]
def CkD (b : Bool) (e : Int) : Prop := ∀ (n : Bool) (m l : List UInt8) (c : UInt8) (I : AV → List (Option Blk) → Bool), run63 [eIC n m 0, eIC b (c :: l) 0, eOne, eCp b (c :: l) e] ⟨n, m, b, c :: l⟩ I =
  gC (eIC n m 0) (gC (eIC b (c :: l) 0) (gC eOne (gC (eCp b (c :: l) e) (gLd (intA b (c :: l)) (I (.int .i64 5) [])))))
theorem ck_d1 : CkD true (-1) := fun n m l c I => by kernel_rfl
theorem ck_d2 : CkD true 0 := fun n m l c I => by kernel_rfl
theorem ck_d3 : CkD false (-1) := fun n m l c I => by kernel_rfl
theorem ck_d4 : CkD false 0 := fun n m l c I => by kernel_rfl
def CkE (b : Bool) : Prop := ∀ (n : Bool) (m l g : List UInt8) (c : UInt8) (I : AV → List (Option Blk) → Bool), run63 [eIC n m 0, eIC b (c :: l) 0, eOne, eCp b (c :: l) 1, eGcd n m b (c :: l) g, eOne] ⟨n, m, b, c :: l⟩ I =
  gC (eIC n m 0) (gC (eIC b (c :: l) 0) (gC eOne (gC (eCp b (c :: l) 1) (gC (eGcd n m b (c :: l) g) (gC eOne (gIf (seqA g.length (enc g) [(1 : UInt8)].length (enc [1])) (gLd (intA b (c :: l)) (I (.int .i64 0) [])) (gLd (intA b (c :: l)) (I (.int .i64 5) []))))))))
theorem ck_e1 : CkE true := fun n m l g c I => by kernel_rfl
theorem ck_e2 : CkE false := fun n m l g c I => by kernel_rfl
theorem check_any (r : Rt) (hr : r.mag.length + r.dmag.length ≤ 20) : ∃ e : Int, (e = 0 ∨ e = 5) ∧ BSim Tryz.prog 63 [rtA r] [] [] (.int .i64 e) := by
  obtain ⟨n, m, n', m'⟩ := r
  simp only at hr
  have r5 : ∀ {S : List (FuncId × SEnt)}, AllOk S → ∀ G : Bool → Bool, (∀ b, b = true → G b = true) → (∀ I, run63 S ⟨n, m, n', m'⟩ I = G (I (.int .i64 5) [])) → BSim Tryz.prog 63 [rtA ⟨n, m, n', m'⟩] [] [] (.int .i64 5) := fun hS G hG hrun =>
    BSim.run hm hX0l hS.mem ok63 (by kernel_rfl) rfl 300 [] _ hrun (hG _ (pdec_iff.2 (iL_leaf 5)))
  rcases icheck n m with h1 | ⟨hm1, _, h1⟩
  · exact ⟨5, .inr rfl, r5 (S := [eIC n m 5]) ⟨h1.spec0 rfl, trivial⟩ (fun b => gC (eIC n m 5) b) (fun b hb => by rw [gC_iff]; exact hb) (ck_a n n' m m')⟩
  rcases icheck n' m' with h2 | ⟨hm2, hn2, h2⟩
  · exact ⟨5, .inr rfl, r5 (S := [eIC n m 0, eIC n' m' 5]) ⟨h1.spec0 rfl, h2.spec0 rfl, trivial⟩ (fun b => gC (eIC n m 0) (gC (eIC n' m' 5) b)) (fun b hb => by rw [gC_iff, gC_iff]; exact hb) (ck_b n n' m m')⟩
  cases m' with
  | nil =>
    obtain rfl := hn2 rfl
    refine ⟨0, .inl rfl, BSim.run hm hX0l (S := [eIC n m 0, eIC false [] 0]) (AllOk.mem ⟨h1.spec0 rfl, h2.spec0 rfl, trivial⟩) ok63 (by kernel_rfl) rfl 300 [] _ (ck_c n m) ?_⟩
    rw [gC_iff, gC_iff]
    exact pdec_iff.2 (iL_leaf 0)
  | cons c l =>
    obtain ⟨e, he, hc⟩ := cmp1 n' c l
    have hone : SSpec Tryz.prog eOne.1 eOne.2 := one_c.spec0 rfl
    have d5 : ∀ e : Int, CkD n' e → BSim Tryz.prog 84 [intA n' (c :: l), intA false [1]] [] [] (.int .i64 e) → BSim Tryz.prog 63 [rtA ⟨n, m, n', c :: l⟩] [] [] (.int .i64 5) := fun e hrun hcp => by
      refine r5 (S := [eIC n m 0, eIC n' (c :: l) 0, eOne, eCp n' (c :: l) e]) ⟨h1.spec0 rfl, h2.spec0 rfl, hone, hcp.spec0 rfl, trivial⟩ (fun b => gC (eIC n m 0) (gC (eIC n' (c :: l) 0) (gC eOne (gC (eCp n' (c :: l) e) (gLd (intA n' (c :: l)) b))))) (fun b hb => by simp only [gC_iff, gLd_iff]; exact hb) (hrun n m l c)
    rcases he with rfl | rfl | rfl
    · exact ⟨5, .inr rfl, d5 (-1) (by cases n'; exact ck_d3; exact ck_d1) hc⟩
    · exact ⟨5, .inr rfl, d5 0 (by cases n'; exact ck_d4; exact ck_d2) hc⟩
    · obtain ⟨g, hg⟩ := gcd_c m (c :: l) n n' hm1 hm2 hr
      have hrun : CkE n' := by cases n'; exact ck_e2; exact ck_e1
      have hS : AllOk [eIC n m 0, eIC n' (c :: l) 0, eOne, eCp n' (c :: l) 1, eGcd n m n' (c :: l) g, eOne] := ⟨h1.spec0 rfl, h2.spec0 rfl, hone, hc.spec0 rfl, hg.spec0 rfl, hone, trivial⟩
      have hs := seqA_iff g [1]
      by_cases hg1 : g = [1]
      · refine ⟨0, .inl rfl, BSim.run hm hX0l hS.mem ok63 (by kernel_rfl) rfl 300 [] _ (hrun n m l g c) ?_⟩
        simp only [gC_iff]
        rw [hs]
        refine gIf_of (fun _ => ?_) (fun h => absurd hg1 (by simpa using h))
        rw [gLd_iff]
        exact pdec_iff.2 (iL_leaf 0)
      · refine ⟨5, .inr rfl, BSim.run hm hX0l hS.mem ok63 (by kernel_rfl) rfl 300 [] _ (hrun n m l g c) ?_⟩
        simp only [gC_iff]
        rw [hs]
        refine gIf_of (fun h => absurd (by simpa using h) hg1) (fun _ => ?_)
        rw [gLd_iff]
        exact pdec_iff.2 (iL_leaf 5)
end
end Go.Proofs.YtnljmpeaeajcoaaGreatDoor

namespace Go.Proofs.YtnljmpeaeajcoaaGreatDoor
open Go Go.Eng Go.Vi Go.Knuth
local instance : Go.Eng.Mode := Sl

/-! integer.ToInt, syntax.id -/
theorem ok87 : FnOk Tryz.prog 87 Tryz.f87 := ⟨Tryz.func87, by kernel_rfl, by kernel_rfl⟩
noncomputable def eWd (m : List UInt8) (b : Bool) : FuncId × SEnt := (112, ⟨[strA m], [], .tuple [.int .u64 (.ofNat (wordN m)), .bool b]⟩)
noncomputable def eTI (n : Bool) (m : List UInt8) (z : Int) (b : Bool) : FuncId × SEnt := (87, ⟨[intA n m], [], .tuple [.int .i64 z, .bool b]⟩)
noncomputable def eCk2 (r : Rt) (e : Int) : FuncId × SEnt := (63, ⟨[rtA r], [], .int .i64 e⟩)
noncomputable def zbA (z : Int) (b : Bool) : AV := .tuple [.int .i64 z, .bool b]
theorem zb_leaf (z : Int) (b : Bool) {π : List Nat} {bs : List (Option Blk)} : Leaf 0 π [] (zbA z b) (zbA z b) bs := Leaf.flat fun _ _ => .tuple _ _ (.cons _ _ _ _ (.plain (.int .i64 z)) (.cons _ _ _ _ (.plain (.bool b)) .nil))
noncomputable def tiZ (n : Bool) (m : List UInt8) : Int × Bool :=
  if m.length ≤ 8 then (if n then (if be m ≤ 9223372036854775808 then (IntKind.i64.wrap (IntKind.u64.wrap (Int.neg (.ofNat (be m)))), true) else (0, false)) else (if be m ≤ 9223372036854775807 then (.ofNat (be m), true) else (0, false))) else (0, false)
theorem ti_0 (n : Bool) (m : List UInt8) (I : AV → List (Option Blk) → Bool) : runF Tryz.f87 [eWd m false] [intA n m] I = gC (eWd m false) (I (zbA 0 false) []) := by kernel_rfl
theorem ti_t (m : List UInt8) (I : AV → List (Option Blk) → Bool) : runF Tryz.f87 [eWd m true] [intA true m] I = gC (eWd m true) (gIf (Bool.not (ilt 9223372036854775808 (.ofNat (wordN m)))) (I (zbA (IntKind.i64.wrap (IntKind.u64.wrap (Int.neg (.ofNat (wordN m))))) true) []) (I (zbA 0 false) [])) := by kernel_rfl
theorem ti_f (m : List UInt8) (I : AV → List (Option Blk) → Bool) : runF Tryz.f87 [eWd m true] [intA false m] I = gC (eWd m true) (gIf (Bool.not (ilt 9223372036854775807 (.ofNat (wordN m)))) (I (zbA (IntKind.i64.wrap (.ofNat (wordN m))) true) []) (I (zbA 0 false) [])) := by kernel_rfl
theorem nlt_le {x c : Nat} : Bool.not (ilt (.ofNat c) (.ofNat x)) = decide (x ≤ c) := by
  rw [natlt]
  by_cases h : c < x
  · simp [h]
  · simp [h]; omega
theorem toInt_c (n : Bool) (m : List UInt8) : BSim Tryz.prog 87 [intA n m] [] [] (zbA (tiZ n m).1 (tiZ n m).2) := by
  have hw := word_c m
  unfold wordA at hw
  by_cases hl : m.length ≤ 8
  · rw [decide_eq_true hl] at hw
    have hN : wordN m = be m := if_pos hl
    have hS : AllOk [eWd m true] := ⟨hw.spec0 rfl, trivial⟩
    cases n with
    | true =>
      refine BSim.run hm hX0l hS.mem ok87 (by kernel_rfl) rfl 300 [] _ (ti_t m) ?_
      rw [gC_iff, hN]
      have e := nlt_le (x := be m) (c := 9223372036854775808)
      refine gIf_of (fun h => ?_) (fun h => ?_)
      · have h' : be m ≤ 9223372036854775808 := of_decide_eq_true (e.symm.trans h)
        have e : tiZ true m = (IntKind.i64.wrap (IntKind.u64.wrap (Int.neg (.ofNat (be m)))), true) := by unfold tiZ; rw [if_pos hl, if_pos rfl, if_pos h']
        rw [e]; exact pdec_iff.2 (zb_leaf _ _)
      · have h' : ¬ be m ≤ 9223372036854775808 := of_decide_eq_false (e.symm.trans h)
        have e : tiZ true m = (0, false) := by unfold tiZ; rw [if_pos hl, if_pos rfl, if_neg h']
        rw [e]; exact pdec_iff.2 (zb_leaf _ _)
    | false =>
      refine BSim.run hm hX0l hS.mem ok87 (by kernel_rfl) rfl 300 [] _ (ti_f m) ?_
      rw [gC_iff, hN]
      have e := nlt_le (x := be m) (c := 9223372036854775807)
      refine gIf_of (fun h => ?_) (fun h => ?_)
      · have h' : be m ≤ 9223372036854775807 := of_decide_eq_true (e.symm.trans h)
        have e : tiZ false m = (.ofNat (be m), true) := by unfold tiZ; rw [if_pos hl, if_neg (by decide), if_pos h']
        have e2 : IntKind.i64.wrap (.ofNat (be m)) = .ofNat (be m) := wrap_i64 ⟨by simp only [Int.ofNat_eq_natCast]; omega, by simp only [Int.ofNat_eq_natCast]; omega⟩
        rw [e, e2]; exact pdec_iff.2 (zb_leaf _ _)
      · have h' : ¬ be m ≤ 9223372036854775807 := of_decide_eq_false (e.symm.trans h)
        have e : tiZ false m = (0, false) := by unfold tiZ; rw [if_pos hl, if_neg (by decide), if_neg h']
        rw [e]; exact pdec_iff.2 (zb_leaf _ _)
  · rw [decide_eq_false hl] at hw
    have e : tiZ n m = (0, false) := by unfold tiZ; rw [if_neg hl]
    rw [e]
    refine BSim.run hm hX0l (S := [eWd m false]) (AllOk.mem ⟨hw.spec0 rfl, trivial⟩) ok87 (by kernel_rfl) rfl 300 [] _ (ti_0 n m) ?_
    rw [gC_iff]
    exact pdec_iff.2 (zb_leaf _ _)
/-! id -/
theorem id_0 (n n' : Bool) (m m' : List UInt8) (z : Int) (I : AV → List (Option Blk) → Bool) : runF Tryz.f64 [eTI n m z false] [rtA ⟨n, m, n', m'⟩] I = gC (eTI n m z false) (I (zbA z false) []) := by kernel_rfl
theorem id_5 (n n' : Bool) (m m' : List UInt8) (z : Int) (I : AV → List (Option Blk) → Bool) : runF Tryz.f64 [eTI n m z true, eCk2 ⟨n, m, n', m'⟩ 5] [rtA ⟨n, m, n', m'⟩] I = gC (eTI n m z true) (gC (eCk2 ⟨n, m, n', m'⟩ 5) (I (zbA z false) [])) := by kernel_rfl
theorem id_z (n : Bool) (m : List UInt8) (z : Int) (I : AV → List (Option Blk) → Bool) : runF Tryz.f64 [eTI n m z true, eCk2 ⟨n, m, false, []⟩ 0] [rtA ⟨n, m, false, []⟩] I = gC (eTI n m z true) (gC (eCk2 ⟨n, m, false, []⟩ 0) (gIf (Bool.not (ilt z 1)) (I (zbA z (Bool.not (ilt 1073741824 z))) []) (I (zbA z false) []))) := by kernel_rfl
theorem id_c' (n : Bool) (m m' : List UInt8) (c : UInt8) (z : Int) (I : AV → List (Option Blk) → Bool) : runF Tryz.f64 [eTI n m z true, eCk2 ⟨n, m, false, c :: m'⟩ 0] [rtA ⟨n, m, false, c :: m'⟩] I = gC (eTI n m z true) (gC (eCk2 ⟨n, m, false, c :: m'⟩ 0) (I (zbA z false) [])) := by kernel_rfl
theorem id_t (n : Bool) (m m' : List UInt8) (z : Int) (I : AV → List (Option Blk) → Bool) : runF Tryz.f64 [eTI n m z true, eCk2 ⟨n, m, true, m'⟩ 0] [rtA ⟨n, m, true, m'⟩] I = gC (eTI n m z true) (gC (eCk2 ⟨n, m, true, m'⟩ 0) (I (zbA z false) [])) := by kernel_rfl
/-- the id of a fraction: if there is one, it is the numerator -/
theorem id_any (r : Rt) (hr : r.mag.length + r.dmag.length ≤ 20) : ∃ (z : Int) (b : Bool), BSim Tryz.prog 64 [rtA r] [] [] (zbA z b) ∧ (b = true → (tiZ r.neg r.mag) = (z, true)) := by
  have hck := check_any r hr
  obtain ⟨n, m, n', m'⟩ := r
  obtain ⟨e, he, hck⟩ := hck
  have hti := toInt_c n m
  simp only
  generalize hz : tiZ n m = zb at hti
  obtain ⟨z, b⟩ := zb
  simp only at hti
  cases b with
  | false =>
    refine ⟨z, false, BSim.run hm hX0l (S := [eTI n m z false]) (AllOk.mem ⟨hti.spec0 rfl, trivial⟩) ok64 (by kernel_rfl) rfl 300 [] _ (id_0 n n' m m' z) ?_, fun h => by cases h⟩
    rw [gC_iff]; exact pdec_iff.2 (zb_leaf _ _)
  | true =>
    rcases he with rfl | rfl
    · have hS : AllOk [eTI n m z true, eCk2 ⟨n, m, n', m'⟩ 0] := ⟨hti.spec0 rfl, hck.spec0 rfl, trivial⟩
      cases n' with
      | true =>
        refine ⟨z, false, BSim.run hm hX0l hS.mem ok64 (by kernel_rfl) rfl 300 [] _ (id_t n m m' z) ?_, fun h => by cases h⟩
        rw [gC_iff, gC_iff]; exact pdec_iff.2 (zb_leaf _ _)
      | false =>
        cases m' with
        | cons c m' =>
          refine ⟨z, false, BSim.run hm hX0l hS.mem ok64 (by kernel_rfl) rfl 300 [] _ (id_c' n m m' c z) ?_, fun h => by cases h⟩
          rw [gC_iff, gC_iff]; exact pdec_iff.2 (zb_leaf _ _)
        | nil =>
          by_cases h1 : Bool.not (ilt z 1) = true
          · refine ⟨z, Bool.not (ilt 1073741824 z), BSim.run hm hX0l hS.mem ok64 (by kernel_rfl) rfl 300 [] _ (id_z n m z) ?_, fun _ => rfl⟩
            rw [gC_iff, gC_iff]
            exact gIf_of (fun _ => pdec_iff.2 (zb_leaf _ _)) (fun h => by rw [h] at h1; cases h1)
          · refine ⟨z, false, BSim.run hm hX0l hS.mem ok64 (by kernel_rfl) rfl 300 [] _ (id_z n m z) ?_, fun h => by cases h⟩
            rw [gC_iff, gC_iff]
            exact gIf_of (fun h => absurd h h1) (fun _ => pdec_iff.2 (zb_leaf _ _))
    · refine ⟨z, false, BSim.run hm hX0l (S := [eTI n m z true, eCk2 ⟨n, m, n', m'⟩ 5]) (AllOk.mem ⟨hti.spec0 rfl, hck.spec0 rfl, trivial⟩) ok64 (by kernel_rfl) rfl 300 [] _ (id_5 n n' m m' z) ?_, fun h => by cases h⟩
      rw [gC_iff, gC_iff]; exact pdec_iff.2 (zb_leaf _ _)
end Go.Proofs.YtnljmpeaeajcoaaGreatDoor

namespace Go.Proofs.YtnljmpeaeajcoaaGreatDoor
open Go Go.Eng Go.Vi Go.Knuth
local instance : Go.Eng.Mode := Sy

/-! IsName, IsZone: some answer for every string -/
theorem ok49 : FnOk Tryz.prog 49 Tryz.f49 := ⟨Tryz.func49, by kernel_rfl, by kernel_rfl⟩
theorem ok67 : FnOk Tryz.prog 67 Tryz.f67 := ⟨Tryz.func67, by kernel_rfl, by kernel_rfl⟩
theorem ok68 : FnOk Tryz.prog 68 Tryz.f68 := ⟨Tryz.func68, by kernel_rfl, by kernel_rfl⟩
noncomputable def eIL (x : Int) (b : Bool) : FuncId × SEnt := (67, ⟨[.int .u8 x], [], .bool b⟩)
noncomputable def eID (x : Int) (b : Bool) : FuncId × SEnt := (68, ⟨[.int .u8 x], [], .bool b⟩)
noncomputable def eIW (s : List UInt8) (b : Bool) : FuncId × SEnt := (49, ⟨[strA s], [], .bool b⟩)
noncomputable def bt (s : List UInt8) (i : Nat) : Int := .ofNat (Nat.mod (Nat.div (enc s) (Nat.pow 256 i)) 256)
theorem b_leaf (b : Bool) {π : List Nat} {bs : List (Option Blk)} : Leaf 0 π [] (.bool b) (.bool b) bs := Leaf.flat fun _ _ => .plain (.bool b)
theorem gIf_any {c x y : Bool} (hx : x = true) (hy : y = true) : gIf c x y = true := gIf_of (fun _ => hx) (fun _ => hy)
def BPr (v : AV) : Prop := ∃ b : Bool, v = .bool b
theorem bEx {π : List Nat} {bs : List (Option Blk)} (b : Bool) : pdec (∃ ans, BPr ans ∧ Leaf 0 π [] ans (.bool b) bs) = true := pdec_iff.2 ⟨_, ⟨b, rfl⟩, b_leaf b⟩
theorem il_run (x : Int) (I : AV → List (Option Blk) → Bool) : runF Tryz.f67 [] [.int .u8 x] I = gIf (Bool.not (ilt x 65)) (gIf (Bool.not (ilt 90 x)) (I (.bool true) []) (gIf (Bool.not (ilt x 97)) (I (.bool (Bool.not (ilt 122 x))) []) (I (.bool false) [])))
  (gIf (Bool.not (ilt x 97)) (I (.bool (Bool.not (ilt 122 x))) []) (I (.bool false) [])) := by kernel_rfl
theorem id_run (x : Int) (I : AV → List (Option Blk) → Bool) : runF Tryz.f68 [] [.int .u8 x] I = gIf (Bool.not (ilt x 48)) (I (.bool (Bool.not (ilt 57 x))) []) (I (.bool false) []) := by kernel_rfl
theorem isLetter_any (x : Int) : ∃ b : Bool, BSim Tryz.prog 67 [.int .u8 x] [] [] (.bool b) := by
  obtain ⟨_, ⟨b, rfl⟩, h⟩ := BSim.runEx hm hX0 (S := []) (fun _ h => by cases h) ok67 (by kernel_rfl) rfl 300 [] (Pr := BPr) _ (il_run x) (gIf_any (gIf_any (bEx _) (gIf_any (bEx _) (bEx _))) (gIf_any (bEx _) (bEx _)))
  exact ⟨b, h⟩
theorem isDigit_any (x : Int) : ∃ b : Bool, BSim Tryz.prog 68 [.int .u8 x] [] [] (.bool b) := by
  obtain ⟨_, ⟨b, rfl⟩, h⟩ := BSim.runEx hm hX0 (S := []) (fun _ h => by cases h) ok68 (by kernel_rfl) rfl 300 [] (Pr := BPr) _ (id_run x) (gIf_any (bEx _) (bEx _))
  exact ⟨b, h⟩
/-! loops over a string -/
noncomputable def c65 : Code := codeOf Tryz.f65
noncomputable def body65 : Code := bodyOf (bodyOf (rhs (lhs (post 1 c65))))
noncomputable def c49 : Code := codeOf Tryz.f49
noncomputable def body49 : Code := bodyOf (bodyOf (rhs (lhs (post 1 c49))))
noncomputable def siS (s : List UInt8) (i : Nat) : List (Nat × AV) := [(0, strA s), (5, .int .i64 (.ofNat s.length)), (6, .int .i64 (.ofNat i))]
noncomputable def run65 (s : List UInt8) (i : Nat) (I : IK) : Bool := Eng.exec Tryz.prog X0 [] 300 Tryz.f65.ntmps body65 (mkFr (siS s i)) (mkMem []) (fun o fr' M' => I o (lv [0, 5, 6, 2] fr') (mv [] M'))
noncomputable def rt65 (s : List UInt8) (i : Nat) (I : IK) : Bool := I .ret [some (strA s), some (.int .i64 (.ofNat s.length)), some (.int .i64 (.ofNat i)), some (.bool false)] []
noncomputable def nx65 (s : List UInt8) (i : Nat) (I : IK) : Bool := gB (inI64 (Int.add (.ofNat i) 1)) (I .normal [some (strA s), some (.int .i64 (.ofNat s.length)), some (.int .i64 (Int.add (.ofNat i) 1)), none] [])
noncomputable def ex65 (s : List UInt8) (i : Nat) (I : IK) : Bool := I (.exit 0) [some (strA s), some (.int .i64 (.ofNat s.length)), some (.int .i64 (.ofNat i)), none] []
theorem z_run (s : List UInt8) (i : Nat) (I : IK) : run65 s i I = gIf (ilt (.ofNat i) (.ofNat s.length)) (gB (Nat.blt i s.length) (gIf (ilt (bt s i) 32) (rt65 s i I) (gB (Nat.blt i s.length) (gIf (ilt 126 (bt s i)) (rt65 s i I) (nx65 s i I))))) (ex65 s i I) := by kernel_rfl
noncomputable def run49 (S : List (FuncId × SEnt)) (s : List UInt8) (i : Nat) (I : IK) : Bool := Eng.exec Tryz.prog X0 S 300 Tryz.f49.ntmps body49 (mkFr (siS s i)) (mkMem []) (fun o fr' M' => I o (lv [0, 5, 6, 2] fr') (mv [] M'))
theorem w_run1 (s : List UInt8) (i : Nat) (I : IK) : run49 [eIL (bt s i) true] s i I = gIf (ilt (.ofNat i) (.ofNat s.length)) (gB (Nat.blt i s.length) (gC (eIL (bt s i) true) (nx65 s i I))) (ex65 s i I) := by kernel_rfl
theorem w_run2 (s : List UInt8) (I : IK) : run49 [eIL (bt s 0) false] s 0 I = gIf (ilt (.ofNat 0) (.ofNat s.length)) (gB (Nat.blt 0 s.length) (gC (eIL (bt s 0) false) (rt65 s 0 I))) (ex65 s 0 I) := by kernel_rfl
theorem w_run3 (s : List UInt8) (i : Nat) (I : IK) : run49 [eIL (bt s (i + 1)) false, eID (bt s (i + 1)) true] s (i + 1) I = gIf (ilt (.ofNat (i + 1)) (.ofNat s.length)) (gB (Nat.blt (i + 1) s.length) (gC (eIL (bt s (i + 1)) false) (gB (Nat.blt (i + 1) s.length) (gC (eID (bt s (i + 1)) true) (nx65 s (i + 1) I))))) (ex65 s (i + 1) I) := by kernel_rfl
theorem w_run4 (s : List UInt8) (i : Nat) (I : IK) : run49 [eIL (bt s (i + 1)) false, eID (bt s (i + 1)) false] s (i + 1) I = gIf (ilt (.ofNat (i + 1)) (.ofNat s.length)) (gB (Nat.blt (i + 1) s.length) (gC (eIL (bt s (i + 1)) false) (gB (Nat.blt (i + 1) s.length) (gC (eID (bt s (i + 1)) false) (gB (Nat.blt (i + 1) s.length) (gIf (Bool.not (ieq (bt s (i + 1)) 95)) (rt65 s (i + 1) I) (nx65 s (i + 1) I))))))) (ex65 s (i + 1) I) := by kernel_rfl
theorem z_end (s : List UInt8) (I : IK) : Eng.exec Tryz.prog X0 [] 300 Tryz.f65.ntmps (post 2 c65) (mkFr [(0, strA s)]) (mkMem []) (fun o fr' M' => I o (lv [2] fr') (mv [] M')) = gIf (Bool.not (ilt (.ofNat s.length) 1)) (I .ret [some (.bool (Bool.not (ilt 40 (.ofNat s.length))))] []) (I .ret [some (.bool false)] []) := by kernel_rfl
theorem w_end (s : List UInt8) (I : IK) : Eng.exec Tryz.prog X0 [] 300 Tryz.f49.ntmps (post 2 c49) (mkFr [(0, strA s)]) (mkMem []) (fun o fr' M' => I o (lv [2] fr') (mv [] M')) = I .ret [some (.bool (Bool.not (seqA s.length (enc s) 0 0)))] [] := by kernel_rfl
theorem z_start (s : List UInt8) (I : IK) : Eng.execN Tryz.prog X0 [] 300 Tryz.f65.ntmps 1 c65 (mkFr (argSlots [strA s] 0)) (mkMem (rowsOf [])) (fun o fr' M' => I o (lv [0] fr') (mv [] M')) = I .normal [some (strA s)] [] := by kernel_rfl
theorem z_r1 (s : List UInt8) (I : IK) : Eng.exec Tryz.prog X0 [] 300 Tryz.f65.ntmps (lhs (lhs (post 1 c65))) (mkFr [(0, strA s)]) (mkMem []) (fun o fr' M' => I o (lv [0, 5, 6] fr') (mv [] M')) = I .normal [some (strA s), some (.int .i64 (.ofNat s.length)), some (.int .i64 (.ofNat 0))] [] := by kernel_rfl
theorem w_start (s : List UInt8) (I : IK) : Eng.execN Tryz.prog X0 [] 300 Tryz.f49.ntmps 1 c49 (mkFr (argSlots [strA s] 0)) (mkMem (rowsOf [])) (fun o fr' M' => I o (lv [0] fr') (mv [] M')) = I .normal [some (strA s)] [] := by kernel_rfl
theorem w_r1 (s : List UInt8) (I : IK) : Eng.exec Tryz.prog X0 [] 300 Tryz.f49.ntmps (lhs (lhs (post 1 c49))) (mkFr [(0, strA s)]) (mkMem []) (fun o fr' M' => I o (lv [0, 5, 6] fr') (mv [] M')) = I .normal [some (strA s), some (.int .i64 (.ofNat s.length)), some (.int .i64 (.ofNat 0))] [] := by kernel_rfl
theorem z_blk : rhs (lhs (post 1 c65)) = .block 0 (.loop body65) := by kernel_rfl
theorem w_blk : rhs (lhs (post 1 c49)) = .block 0 (.loop body49) := by kernel_rfl
theorem res65 : Tryz.f65.results.toList = [.tmp 2] := by kernel_rfl
theorem res49 : Tryz.f49.results.toList = [.tmp 2] := by kernel_rfl
theorem fin_one {fn : Func} {a : Nat} (hres : fn.results.toList = [.tmp a]) {k : Nat} {rows1 : List (List Dat)} {Pr : AV → Prop} {fr : Fr} {M : Mem} {x : AV} (hl : fr.get a = some x)
    (h : ∃ ans, Pr ans ∧ FzA k M x ans ∧ ∀ (j : Nat) (r : List Dat), rows1[j]? = some r → ∃ c sz, M.t.get j = some (.row c false sz) ∧ FzDs k M c r) : FinEx Tryz.prog fn k rows1 Pr .ret fr M := by
  obtain ⟨ans, hp, hf, hr⟩ := h
  refine ⟨ans, hp, .inr rfl, [x], ?_, hf, hr⟩
  rw [hres]
  show getT fr a (fun v => pdec ([v] = [x])) = true
  rw [getT_iff]
  exact ⟨x, hl, pdec_iff.2 rfl⟩
theorem fin_bool {fn : Func} {a : Nat} (hres : fn.results.toList = [.tmp a]) {fr : Fr} {M : Mem} {b : Bool} (hl : fr.get a = some (.bool b)) : FinEx Tryz.prog fn 0 [] BPr .ret fr M :=
  fin_one hres hl ⟨.bool b, ⟨b, rfl⟩, .plain (.bool b), fun j r hj => by simp at hj⟩
theorem lt_t {i n : Nat} (h : ilt (.ofNat i) (.ofNat n) = true) : i < n := by rw [natlt] at h; exact of_decide_eq_true h
/-- the loop, by what a round comes to -/
theorem str_loop {f : Func} {body rest : Code} {s : List UInt8} (hres : f.results.toList = [.tmp 2])
    (hround : ∀ i Q, (∀ fr M, fr.get 2 = some (.bool false) → Q .ret fr M) → (∀ fr M, lv [0, 5, 6] fr = vls (siS s (i + 1)) → i < s.length → Q .normal fr M) → (∀ fr M, lv [0, 5, 6] fr = vls (siS s i) → Q (.exit 0) fr M) → W Tryz.prog f.ntmps 0 body (mkFr (siS s i)) (mkMem []) Q)
    (hrest : ∀ fr M, fr.get 0 = some (strA s) → W Tryz.prog f.ntmps 0 rest fr M (FinEx Tryz.prog f 0 [] BPr)) {fr : Fr} {M : Mem} (hl : lv [0, 5, 6] fr = vls (siS s 0)) :
    W Tryz.prog f.ntmps 0 (.block 0 (.loop body)) fr M (Nxt Tryz.prog f.ntmps 0 rest (FinEx Tryz.prog f 0 [] BPr)) := by
  refine W.block (W.loopF (σ := { i : Nat // i ≤ s.length }) (fun i => siS s i.1) (fun i => s.length - i.1) (fun i x hx => ?_) (fun i => ?_) ⟨0, Nat.zero_le _⟩ hl)
  · simp only [vals2, siS, List.map_cons, List.map_nil, List.mem_cons, List.not_mem_nil, or_false] at hx
    rcases hx with rfl | rfl | rfl
    · exact Option.some_ne_none (strA s)
    · exact Option.some_ne_none (AV.int .i64 _)
    · exact Option.some_ne_none (AV.int .i64 _)
  · obtain ⟨i, hi⟩ := i
    refine hround i _ (fun fr M h => .inr ⟨by simp, fin_bool hres h⟩) (fun fr M h hlt => .inl ⟨rfl, ⟨i + 1, hlt⟩, by simp only; omega, h⟩) (fun fr M h => .inr ⟨by simp, Blkd_eq ?_⟩)
    have h' : [fr.get 0, fr.get 5, fr.get 6] = [some (strA s), some (.int .i64 (.ofNat s.length)), some (.int .i64 (.ofNat i))] := h
    simp only [List.cons.injEq] at h'
    exact hrest fr M h'.1

theorem rt_of {s : List UInt8} {i : Nat} {Q : AE → Fr → Mem → Prop} (h : ∀ fr M, fr.get 2 = some (.bool false) → Q .ret fr M) : rt65 s i (fun o vs bs => pdec (∀ fr' M', lv [0, 5, 6, 2] fr' = vs → mv [] M' = bs → Q o fr' M')) = true := by
  refine pdec_iff.2 fun fr M hl _ => h fr M ?_
  have h' : [fr.get 0, fr.get 5, fr.get 6, fr.get 2] = _ := hl
  simp only [List.cons.injEq] at h'
  exact h'.2.2.2.1
theorem nx_of {s : List UInt8} {i : Nat} (hi : i < 4611686018427387904) {Q : AE → Fr → Mem → Prop} (h : ∀ fr M, lv [0, 5, 6] fr = vls (siS s (i + 1)) → Q .normal fr M) : nx65 s i (fun o vs bs => pdec (∀ fr' M', lv [0, 5, 6, 2] fr' = vs → mv [] M' = bs → Q o fr' M')) = true := by
  unfold nx65
  rw [gB_iff]
  refine ⟨i64ok (by show -9223372036854775808 ≤ (i : Int) + 1; omega) (by show (i : Int) + 1 < _; omega), pdec_iff.2 fun fr M hl _ => h fr M ?_⟩
  have h' : [fr.get 0, fr.get 5, fr.get 6, fr.get 2] = _ := hl
  simp only [List.cons.injEq] at h'
  show [fr.get 0, fr.get 5, fr.get 6] = _
  rw [h'.1, h'.2.1, h'.2.2.1]
  rfl
theorem ex_of {s : List UInt8} {i : Nat} {Q : AE → Fr → Mem → Prop} (h : ∀ fr M, lv [0, 5, 6] fr = vls (siS s i) → Q (.exit 0) fr M) : ex65 s i (fun o vs bs => pdec (∀ fr' M', lv [0, 5, 6, 2] fr' = vs → mv [] M' = bs → Q o fr' M')) = true := by
  refine pdec_iff.2 fun fr M hl _ => h fr M ?_
  have h' : [fr.get 0, fr.get 5, fr.get 6, fr.get 2] = _ := hl
  simp only [List.cons.injEq] at h'
  show [fr.get 0, fr.get 5, fr.get 6] = _
  rw [h'.1, h'.2.1, h'.2.2.1]
  rfl
theorem one_of {a : Nat} {fr : Fr} {x : Option AV} (h : lv [a] fr = [x]) : fr.get a = x := by
  have h' : [fr.get a] = [x] := h
  exact (List.cons.inj h').1
theorem blt_t {i n : Nat} (h : i < n) : Nat.blt i n = true := by rw [Nat.blt_eq]; exact h
theorem isZone_any (s : List UInt8) (hs : s.length < 4611686018427387904) : ∃ b : Bool, BSim Tryz.prog 65 [strA s] [] [] (.bool b) := by
  suffices h : ∃ ans, BPr ans ∧ BSim Tryz.prog 65 [strA s] [] [] ans by obtain ⟨_, ⟨b, rfl⟩, h⟩ := h; exact ⟨b, h⟩
  refine BSim.of_WEx ok65 (by kernel_rfl) rfl ?_
  refine W.runN hm hX0 (S := []) (fun _ h => by cases h) 300 1 [0] [] _ (z_start s) (pdec_iff.2 fun fr1 M1 hl1 hm1 => ?_)
  show W Tryz.prog Tryz.f65.ntmps 0 (post 1 c65) fr1 M1 _
  refine W.next0 (vs := [strA s]) (bs := []) (π := []) hl1 hm1 [(0, strA s)] [] rfl rfl rfl (by rfl) ?_
  refine W.parts (by kernel_rfl) (W.parts (by kernel_rfl) ?_)
  refine W.run hm hX0 (S := []) (fun _ h => by cases h) 300 _ [] _ (z_r1 s) (pdec_iff.2 fun fr2 M2 hl2 hm2 => ?_)
  show W Tryz.prog Tryz.f65.ntmps 0 (rhs (lhs (post 1 c65))) fr2 M2 _
  rw [z_blk]
  refine str_loop res65 (rest := rhs (post 1 c65)) (fun i Q h1 h2 h3 => ?_) (fun fr M h0 => ?_) hl2
  · refine W.run hm hX0 (S := []) (fun _ h => by cases h) 300 [0, 5, 6, 2] [] _ (z_run s i) ?_
    refine gIf_of (fun hi => ?_) (fun _ => ex_of h3)
    have hi := lt_t hi
    rw [gB_iff]
    refine ⟨blt_t hi, gIf_any (rt_of h1) ?_⟩
    rw [gB_iff]
    exact ⟨blt_t hi, gIf_any (rt_of h1) (nx_of (by omega) fun fr M h => h2 fr M h hi)⟩
  · refine W.next0 (ts := [0]) (vs := [strA s]) (bs := []) (π := []) (by show [fr.get 0] = _; rw [h0]; rfl) rfl [(0, strA s)] [] rfl rfl rfl (by rfl) ?_
    exact W.run hm hX0 (S := []) (fun _ h => by cases h) 300 [2] [] _ (z_end s) (gIf_any (pdec_iff.2 fun fr M hl _ => fin_bool res65 (one_of hl)) (pdec_iff.2 fun fr M hl _ => fin_bool res65 (one_of hl)))
theorem isWord_any (s : List UInt8) (hs : s.length < 4611686018427387904) : ∃ b : Bool, BSim Tryz.prog 49 [strA s] [] [] (.bool b) := by
  suffices h : ∃ ans, BPr ans ∧ BSim Tryz.prog 49 [strA s] [] [] ans by obtain ⟨_, ⟨b, rfl⟩, h⟩ := h; exact ⟨b, h⟩
  refine BSim.of_WEx ok49 (by kernel_rfl) rfl ?_
  refine W.runN hm hX0 (S := []) (fun _ h => by cases h) 300 1 [0] [] _ (w_start s) (pdec_iff.2 fun fr1 M1 hl1 hm1 => ?_)
  show W Tryz.prog Tryz.f49.ntmps 0 (post 1 c49) fr1 M1 _
  refine W.next0 (vs := [strA s]) (bs := []) (π := []) hl1 hm1 [(0, strA s)] [] rfl rfl rfl (by rfl) ?_
  refine W.parts (by kernel_rfl) (W.parts (by kernel_rfl) ?_)
  refine W.run hm hX0 (S := []) (fun _ h => by cases h) 300 _ [] _ (w_r1 s) (pdec_iff.2 fun fr2 M2 hl2 hm2 => ?_)
  show W Tryz.prog Tryz.f49.ntmps 0 (rhs (lhs (post 1 c49))) fr2 M2 _
  rw [w_blk]
  refine str_loop res49 (rest := rhs (post 1 c49)) (fun i Q h1 h2 h3 => ?_) (fun fr M h0 => ?_) hl2
  · obtain ⟨b, hb⟩ := isLetter_any (bt s i)
    cases b with
    | true =>
      refine W.run hm hX0 (S := [eIL (bt s i) true]) (AllOk.mem ⟨hb.spec0 rfl, trivial⟩) 300 [0, 5, 6, 2] [] _ (w_run1 s i) ?_
      refine gIf_of (fun hi => ?_) (fun _ => ex_of h3)
      have hi := lt_t hi
      rw [gB_iff, gC_iff]
      exact ⟨blt_t hi, nx_of (by omega) fun fr M h => h2 fr M h hi⟩
    | false =>
      cases i with
      | zero =>
        refine W.run hm hX0 (S := [eIL (bt s 0) false]) (AllOk.mem ⟨hb.spec0 rfl, trivial⟩) 300 [0, 5, 6, 2] [] _ (w_run2 s) ?_
        refine gIf_of (fun hi => ?_) (fun _ => ex_of h3)
        have hi := lt_t hi
        rw [gB_iff, gC_iff]
        exact ⟨blt_t hi, rt_of h1⟩
      | succ i =>
        obtain ⟨b', hb'⟩ := isDigit_any (bt s (i + 1))
        cases b' with
        | true =>
          refine W.run hm hX0 (S := [eIL (bt s (i + 1)) false, eID (bt s (i + 1)) true]) (AllOk.mem ⟨hb.spec0 rfl, hb'.spec0 rfl, trivial⟩) 300 [0, 5, 6, 2] [] _ (w_run3 s i) ?_
          refine gIf_of (fun hi => ?_) (fun _ => ex_of h3)
          have hi := lt_t hi
          simp only [gB_iff, gC_iff]
          exact ⟨blt_t hi, blt_t hi, nx_of (by omega) fun fr M h => h2 fr M h hi⟩
        | false =>
          refine W.run hm hX0 (S := [eIL (bt s (i + 1)) false, eID (bt s (i + 1)) false]) (AllOk.mem ⟨hb.spec0 rfl, hb'.spec0 rfl, trivial⟩) 300 [0, 5, 6, 2] [] _ (w_run4 s i) ?_
          refine gIf_of (fun hi => ?_) (fun _ => ex_of h3)
          have hi := lt_t hi
          simp only [gB_iff, gC_iff]
          exact ⟨blt_t hi, blt_t hi, blt_t hi, gIf_any (rt_of h1) (nx_of (by omega) fun fr M h => h2 fr M h hi)⟩
  · refine W.next0 (ts := [0]) (vs := [strA s]) (bs := []) (π := []) (by show [fr.get 0] = _; rw [h0]; rfl) rfl [(0, strA s)] [] rfl rfl rfl (by rfl) ?_
    exact W.run hm hX0 (S := []) (fun _ h => by cases h) 300 [2] [] _ (w_end s) (pdec_iff.2 fun fr M hl _ => fin_bool res49 (one_of hl))
def wordL : List (List UInt8) := [[118, 97, 108, 117, 101], [111, 98, 106, 101, 99, 116, 115], [119, 104, 101, 114, 101], [112, 97, 105, 114, 115], [112, 111, 105, 110, 116], [111, 98, 106, 101, 99, 116], [122, 111, 110, 101], [111, 114], [97, 110, 100], [110, 111, 116], [60], [61], [43], [45], [124], [92], [42], [38], [100, 117, 114, 105, 110, 103], [119, 104, 101, 110], [100, 101, 102, 105, 110, 101, 100], [100, 105, 115, 116, 97, 110, 99, 101, 50], [115, 112, 101, 101, 100, 50], [119, 105, 116, 104, 105, 110], [105, 110, 115, 105, 100, 101], [97, 114, 101, 97, 50], [115, 111, 109, 101, 116, 105, 109, 101], [97, 108, 119, 97, 121, 115], [108, 97, 115, 116, 105, 110, 103], [115, 104, 105, 102, 116], [108, 101, 97, 115, 116]]
noncomputable def chT (l c : Nat) (I : AV → List (Option Blk) → Bool) (ws : List (List UInt8)) : Bool := List.rec (motive := fun _ => Bool) (I (.bool true) []) (fun w _ ih => gIf (seqA l c (lenL w) (enc w)) (I (.bool false) []) ih) ws
theorem n_run0 (s : List UInt8) (I : AV → List (Option Blk) → Bool) : runF Tryz.f28 [eIW s false] [strA s] I = gIf (Bool.not (ilt 40 (.ofNat s.length))) (gC (eIW s false) (I (.bool false) [])) (I (.bool false) []) := by kernel_rfl
theorem n_run1 (s : List UInt8) (I : AV → List (Option Blk) → Bool) : runF Tryz.f28 [eIW s true] [strA s] I = gIf (Bool.not (ilt 40 (.ofNat s.length))) (gC (eIW s true) (chT s.length (enc s) I wordL)) (I (.bool false) []) := by kernel_rfl
theorem chT_of {l c : Nat} {I : AV → List (Option Blk) → Bool} (h : ∀ b, I (.bool b) [] = true) : ∀ ws, chT l c I ws = true
  | [] => h true
  | _ :: ws => gIf_any (h false) (chT_of h ws)
theorem isName_any (s : List UInt8) (hs : s.length < 4611686018427387904) : ∃ b : Bool, BSim Tryz.prog 28 [strA s] [] [] (.bool b) := by
  obtain ⟨b, hb⟩ := isWord_any s hs
  suffices h : ∃ ans, BPr ans ∧ BSim Tryz.prog 28 [strA s] [] [] ans by obtain ⟨_, ⟨b, rfl⟩, h⟩ := h; exact ⟨b, h⟩
  cases b with
  | false =>
    refine BSim.runEx hm hX0 (S := [eIW s false]) (AllOk.mem ⟨hb.spec0 rfl, trivial⟩) ok28 (by kernel_rfl) rfl 300 [] _ (n_run0 s) (gIf_any ?_ (bEx _))
    rw [gC_iff]; exact bEx _
  | true =>
    refine BSim.runEx hm hX0 (S := [eIW s true]) (AllOk.mem ⟨hb.spec0 rfl, trivial⟩) ok28 (by kernel_rfl) rfl 300 [] _ (n_run1 s) (gIf_any ?_ (bEx _))
    rw [gC_iff]; exact chT_of (fun b => bEx b) _
end Go.Proofs.YtnljmpeaeajcoaaGreatDoor

namespace Go.Proofs.YtnljmpeaeajcoaaGreatDoor
open Go Go.Eng Go.Vi Go.Knuth
local instance : Go.Eng.Mode := Sy

/-! checkNode: some answer for every node; if it is 0, then the operation is known and has as many arguments as it needs -/
noncomputable def eCnt (o n : Int) : FuncId × SEnt := (62, ⟨[.int .i64 o], [], .int .i64 n⟩)
noncomputable def eIdz (r : Rt) (z : Int) (b : Bool) : FuncId × SEnt := (64, ⟨[rtA r], [], zbA z b⟩)
noncomputable def eNm (s : List UInt8) (b : Bool) : FuncId × SEnt := (28, ⟨[strA s], [], .bool b⟩)
noncomputable def eZn (s : List UInt8) (b : Bool) : FuncId × SEnt := (65, ⟨[strA s], [], .bool b⟩)
noncomputable def ckN (S : List (FuncId × SEnt)) (x : Ex) (I : AV → List (Option Blk) → Bool) : Bool := runF Tryz.f46 S [exA x] I
/-! count -/
noncomputable def cntC (o : Int) (I : Int → Bool) (l : List (Int × Int)) : Bool := List.rec (motive := fun _ => Bool) (I (-1)) (fun p _ ih => gIf (ieq p.1 o) (I p.2) ih) l
def cntL : List (Int × Int) := [(10, 1), (11, 1), (13, 2), (14, 1), (15, 3), (16, 2), (17, 1), (26, 1), (27, 1), (28, 2), (29, 2), (30, 2), (24, 2), (23, 2), (25, 2), (21, 2), (22, 2), (18, 2), (19, 2), (7, 2), (9, 2), (20, 2), (8, 2), (12, 2)]
noncomputable def cnt2 (o : Int) (I : Int → Bool) : Bool := gIf (ieq o 25) (I 1) (gIf (ieq o 2) (gIf (ieq o 2) (I 2) (cntC o I cntL)) (gIf (ieq o 6) (I 2) (cntC o I cntL)))
noncomputable def cntT (o : Int) (I : Int → Bool) : Bool := gIf (ieq o 1) (gIf (ieq o 1) (I 0) (cnt2 o I)) (gIf (ieq o 3) (gIf (ieq o 3) (I 0) (cnt2 o I)) (gIf (ieq o 4) (gIf (ieq o 4) (I 0) (cnt2 o I)) (gIf (ieq o 5) (I 0) (cnt2 o I))))
theorem cnt_run (o : Int) (I : AV → List (Option Blk) → Bool) : runF Tryz.f62 [] [.int .i64 o] I = cntT o (fun n => I (.int .i64 n) []) := by kernel_rfl
theorem ieqf {a b : Int} (h : a ≠ b) : ieq a b = false := by rw [ieq_iff]; simpa using h
theorem cntC_of {o : Int} {I : Int → Bool} (h : I (-1) = true) : ∀ l : List (Int × Int), (∀ p ∈ l, p.1 ≠ o) → cntC o I l = true
  | [], _ => h
  | p :: l, hl => gIf_f (ieqf (hl p (List.mem_cons_self ..))) (cntC_of h l fun q hq => hl q (List.mem_cons_of_mem _ hq))
theorem count_bad (o : Int) (ho : ¬ (1 ≤ o ∧ o ≤ 30)) : BSim Tryz.prog 62 [.int .i64 o] [] [] (.int .i64 (-1)) := by
  refine BSim.run hm hX0 (S := []) (fun _ h => by cases h) ok62 (by kernel_rfl) rfl 300 [] _ (cnt_run o) ?_
  have hl : pdec (Leaf 0 [] [] (.int .i64 (-1)) (.int .i64 (-1)) []) = true := pdec_iff.2 (i0_leaf (-1))
  have hc : cntC o (fun n => pdec (Leaf 0 [] [] (.int .i64 (-1)) (.int .i64 n) [])) cntL = true := cntC_of hl _ (by
    intro p hp
    simp only [cntL, List.mem_cons, List.not_mem_nil, or_false] at hp
    rcases hp with rfl | rfl | rfl | rfl | rfl | rfl | rfl | rfl | rfl | rfl | rfl | rfl | rfl | rfl | rfl | rfl | rfl | rfl | rfl | rfl | rfl | rfl | rfl | rfl <;> (simp only; omega))
  exact gIf_f (ieqf (by omega)) (gIf_f (ieqf (by omega)) (gIf_f (ieqf (by omega)) (gIf_f (ieqf (by omega)) (gIf_f (ieqf (by omega)) (gIf_f (ieqf (by omega)) (gIf_f (ieqf (by omega)) hc))))))
/-! the node -/
noncomputable def numZ (r : Rt) (k5 k : Bool) : Bool := gIf (Bool.rec (motive := fun _ => Bool) (Bool.not false) false r.neg) (gIf (seqA r.mag.length (enc r.mag) 0 0) (gIf (Bool.rec (motive := fun _ => Bool) (Bool.not false) false r.dneg) (gIf (seqA r.dmag.length (enc r.dmag) 0 0) k k5) k5) k5) k5
noncomputable def nameZ (n : List UInt8) (k5 k : Bool) : Bool := gIf (Bool.not (seqA n.length (enc n) 0 0)) k5 k
noncomputable def i46 (I : AV → List (Option Blk) → Bool) (e : Int) : Bool := I (.int .i64 e) []
noncomputable def lenZ (a : List Ex) (n : Int) (k5 k : Bool) : Bool := gIf (Bool.not (ieq (.ofNat a.length) n)) k5 k
noncomputable def cnBad (o : Int) (i4 : Bool) : Bool := gC (eCnt o (-1)) (gIf (ieq o 1) (gIf (ieq o 4) i4 i4) (gIf (ieq o 4) i4 i4))
theorem cn_bad (o : Int) (n : List UInt8) (r : Rt) (a : List Ex) (I : AV → List (Option Blk) → Bool) : ckN [eCnt o (-1)] (.mk o n r a) I = cnBad o (i46 I 4) := by kernel_rfl
noncomputable def cnGen (o k : Int) (n : List UInt8) (r : Rt) (a : List Ex) (z : Int) (b : Bool) (I : AV → List (Option Blk) → Bool) : Bool :=
  gC (eCnt o k) (lenZ a k (i46 I 5) (numZ r (i46 I 5) (nameZ n (i46 I 5) (gC (eIdz r z b) (i46 I 0)))))
theorem cn_6 (n : List UInt8) (r : Rt) (a : List Ex) (z : Int) (b : Bool) (I : AV → List (Option Blk) → Bool) : ckN [eCnt 6 2, eIdz r z b] (.mk 6 n r a) I = cnGen 6 2 n r a z b I := by kernel_rfl
theorem cn_7 (n : List UInt8) (r : Rt) (a : List Ex) (z : Int) (b : Bool) (I : AV → List (Option Blk) → Bool) : ckN [eCnt 7 2, eIdz r z b] (.mk 7 n r a) I = cnGen 7 2 n r a z b I := by kernel_rfl
theorem cn_8 (n : List UInt8) (r : Rt) (a : List Ex) (z : Int) (b : Bool) (I : AV → List (Option Blk) → Bool) : ckN [eCnt 8 2, eIdz r z b] (.mk 8 n r a) I = cnGen 8 2 n r a z b I := by kernel_rfl
theorem cn_9 (n : List UInt8) (r : Rt) (a : List Ex) (z : Int) (b : Bool) (I : AV → List (Option Blk) → Bool) : ckN [eCnt 9 2, eIdz r z b] (.mk 9 n r a) I = cnGen 9 2 n r a z b I := by kernel_rfl
theorem cn_10 (n : List UInt8) (r : Rt) (a : List Ex) (z : Int) (b : Bool) (I : AV → List (Option Blk) → Bool) : ckN [eCnt 10 1, eIdz r z b] (.mk 10 n r a) I = cnGen 10 1 n r a z b I := by kernel_rfl
theorem cn_11 (n : List UInt8) (r : Rt) (a : List Ex) (z : Int) (b : Bool) (I : AV → List (Option Blk) → Bool) : ckN [eCnt 11 1, eIdz r z b] (.mk 11 n r a) I = cnGen 11 1 n r a z b I := by kernel_rfl
theorem cn_12 (n : List UInt8) (r : Rt) (a : List Ex) (z : Int) (b : Bool) (I : AV → List (Option Blk) → Bool) : ckN [eCnt 12 2, eIdz r z b] (.mk 12 n r a) I = cnGen 12 2 n r a z b I := by kernel_rfl
theorem cn_13 (n : List UInt8) (r : Rt) (a : List Ex) (z : Int) (b : Bool) (I : AV → List (Option Blk) → Bool) : ckN [eCnt 13 2, eIdz r z b] (.mk 13 n r a) I = cnGen 13 2 n r a z b I := by kernel_rfl
theorem cn_14 (n : List UInt8) (r : Rt) (a : List Ex) (z : Int) (b : Bool) (I : AV → List (Option Blk) → Bool) : ckN [eCnt 14 1, eIdz r z b] (.mk 14 n r a) I = cnGen 14 1 n r a z b I := by kernel_rfl
theorem cn_15 (n : List UInt8) (r : Rt) (a : List Ex) (z : Int) (b : Bool) (I : AV → List (Option Blk) → Bool) : ckN [eCnt 15 3, eIdz r z b] (.mk 15 n r a) I = cnGen 15 3 n r a z b I := by kernel_rfl
theorem cn_16 (n : List UInt8) (r : Rt) (a : List Ex) (z : Int) (b : Bool) (I : AV → List (Option Blk) → Bool) : ckN [eCnt 16 2, eIdz r z b] (.mk 16 n r a) I = cnGen 16 2 n r a z b I := by kernel_rfl
theorem cn_17 (n : List UInt8) (r : Rt) (a : List Ex) (z : Int) (b : Bool) (I : AV → List (Option Blk) → Bool) : ckN [eCnt 17 1, eIdz r z b] (.mk 17 n r a) I = cnGen 17 1 n r a z b I := by kernel_rfl
theorem cn_18 (n : List UInt8) (r : Rt) (a : List Ex) (z : Int) (b : Bool) (I : AV → List (Option Blk) → Bool) : ckN [eCnt 18 2, eIdz r z b] (.mk 18 n r a) I = cnGen 18 2 n r a z b I := by kernel_rfl
theorem cn_19 (n : List UInt8) (r : Rt) (a : List Ex) (z : Int) (b : Bool) (I : AV → List (Option Blk) → Bool) : ckN [eCnt 19 2, eIdz r z b] (.mk 19 n r a) I = cnGen 19 2 n r a z b I := by kernel_rfl
theorem cn_20 (n : List UInt8) (r : Rt) (a : List Ex) (z : Int) (b : Bool) (I : AV → List (Option Blk) → Bool) : ckN [eCnt 20 2, eIdz r z b] (.mk 20 n r a) I = cnGen 20 2 n r a z b I := by kernel_rfl
theorem cn_21 (n : List UInt8) (r : Rt) (a : List Ex) (z : Int) (b : Bool) (I : AV → List (Option Blk) → Bool) : ckN [eCnt 21 2, eIdz r z b] (.mk 21 n r a) I = cnGen 21 2 n r a z b I := by kernel_rfl
theorem cn_22 (n : List UInt8) (r : Rt) (a : List Ex) (z : Int) (b : Bool) (I : AV → List (Option Blk) → Bool) : ckN [eCnt 22 2, eIdz r z b] (.mk 22 n r a) I = cnGen 22 2 n r a z b I := by kernel_rfl
theorem cn_23 (n : List UInt8) (r : Rt) (a : List Ex) (z : Int) (b : Bool) (I : AV → List (Option Blk) → Bool) : ckN [eCnt 23 2, eIdz r z b] (.mk 23 n r a) I = cnGen 23 2 n r a z b I := by kernel_rfl
theorem cn_24 (n : List UInt8) (r : Rt) (a : List Ex) (z : Int) (b : Bool) (I : AV → List (Option Blk) → Bool) : ckN [eCnt 24 2, eIdz r z b] (.mk 24 n r a) I = cnGen 24 2 n r a z b I := by kernel_rfl
theorem cn_25 (n : List UInt8) (r : Rt) (a : List Ex) (z : Int) (b : Bool) (I : AV → List (Option Blk) → Bool) : ckN [eCnt 25 1, eIdz r z b] (.mk 25 n r a) I = cnGen 25 1 n r a z b I := by kernel_rfl
theorem cn_26 (n : List UInt8) (r : Rt) (a : List Ex) (z : Int) (b : Bool) (I : AV → List (Option Blk) → Bool) : ckN [eCnt 26 1, eIdz r z b] (.mk 26 n r a) I = cnGen 26 1 n r a z b I := by kernel_rfl
theorem cn_27 (n : List UInt8) (r : Rt) (a : List Ex) (z : Int) (b : Bool) (I : AV → List (Option Blk) → Bool) : ckN [eCnt 27 1, eIdz r z b] (.mk 27 n r a) I = cnGen 27 1 n r a z b I := by kernel_rfl
theorem cn_28 (n : List UInt8) (r : Rt) (a : List Ex) (z : Int) (b : Bool) (I : AV → List (Option Blk) → Bool) : ckN [eCnt 28 2, eIdz r z b] (.mk 28 n r a) I = cnGen 28 2 n r a z b I := by kernel_rfl
theorem cn_29 (n : List UInt8) (r : Rt) (a : List Ex) (z : Int) (b : Bool) (I : AV → List (Option Blk) → Bool) : ckN [eCnt 29 2, eIdz r z b] (.mk 29 n r a) I = cnGen 29 2 n r a z b I := by kernel_rfl
theorem cn_30 (n : List UInt8) (r : Rt) (a : List Ex) (z : Int) (b : Bool) (I : AV → List (Option Blk) → Bool) : ckN [eCnt 30 2, eIdz r z b] (.mk 30 n r a) I = cnGen 30 2 n r a z b I := by kernel_rfl
theorem cn_2 (n : List UInt8) (r : Rt) (x y : Ex) (z : Int) (b : Bool) (I : AV → List (Option Blk) → Bool) : ckN [eCnt 2 2, eIdz r z b] (.mk 2 n r [x, y]) I =
  gC (eCnt 2 2) (numZ r (i46 I 5) (nameZ n (i46 I 5) (gIf (Bool.not (ieq x.op 1)) (i46 I 5) (gIf (Bool.not (ieq y.op 1)) (i46 I 5) (gC (eIdz r z b) (i46 I 0)))))) := by kernel_rfl
theorem cn_2_0 (n : List UInt8) (r : Rt) (I : AV → List (Option Blk) → Bool) : ckN [eCnt 2 2] (.mk 2 n r []) I = gC (eCnt 2 2) (i46 I 5) := by kernel_rfl
theorem cn_2_1 (n : List UInt8) (r : Rt) (x : Ex) (I : AV → List (Option Blk) → Bool) : ckN [eCnt 2 2] (.mk 2 n r [x]) I = gC (eCnt 2 2) (i46 I 5) := by kernel_rfl
theorem cn_2_3 (n : List UInt8) (r : Rt) (x y u : Ex) (l : List Ex) (I : AV → List (Option Blk) → Bool) : ckN [eCnt 2 2] (.mk 2 n r (x :: y :: u :: l)) I = gC (eCnt 2 2) (i46 I 5) := by kernel_rfl
theorem cn_1 (n : List UInt8) (r : Rt) (a : List Ex) (z : Int) (b : Bool) (I : AV → List (Option Blk) → Bool) : ckN [eCnt 1 0, eCk2 r 0, eIdz r z b] (.mk 1 n r a) I =
  gC (eCnt 1 0) (lenZ a 0 (i46 I 5) (nameZ n (i46 I 5) (gC (eCk2 r 0) (gC (eIdz r z b) (i46 I 0))))) := by kernel_rfl
theorem cn_1b (n : List UInt8) (r : Rt) (a : List Ex) (I : AV → List (Option Blk) → Bool) : ckN [eCnt 1 0, eCk2 r 5] (.mk 1 n r a) I =
  gC (eCnt 1 0) (lenZ a 0 (i46 I 5) (nameZ n (i46 I 5) (gC (eCk2 r 5) (i46 I 5)))) := by kernel_rfl
theorem cn_3 (n : List UInt8) (r : Rt) (a : List Ex) (z : Int) (I : AV → List (Option Blk) → Bool) : ckN [eCnt 3 0, eIdz r z true] (.mk 3 n r a) I =
  gC (eCnt 3 0) (lenZ a 0 (i46 I 5) (nameZ n (i46 I 5) (gC (eIdz r z true) (i46 I 0)))) := by kernel_rfl
theorem cn_3b (n : List UInt8) (r : Rt) (a : List Ex) (z : Int) (I : AV → List (Option Blk) → Bool) : ckN [eCnt 3 0, eIdz r z false] (.mk 3 n r a) I =
  gC (eCnt 3 0) (lenZ a 0 (i46 I 5) (nameZ n (i46 I 5) (gC (eIdz r z false) (i46 I 27)))) := by kernel_rfl
theorem cn_4 (n : List UInt8) (r : Rt) (a : List Ex) (z : Int) (b : Bool) (I : AV → List (Option Blk) → Bool) : ckN [eCnt 4 0, eIdz r z b, eNm n true] (.mk 4 n r a) I =
  gC (eCnt 4 0) (lenZ a 0 (i46 I 5) (numZ r (i46 I 5) (gC (eIdz r z b) (gC (eNm n true) (i46 I 0))))) := by kernel_rfl
theorem cn_4b (n : List UInt8) (r : Rt) (a : List Ex) (z : Int) (b : Bool) (I : AV → List (Option Blk) → Bool) : ckN [eCnt 4 0, eIdz r z b, eNm n false] (.mk 4 n r a) I =
  gC (eCnt 4 0) (lenZ a 0 (i46 I 5) (numZ r (i46 I 5) (gC (eIdz r z b) (gC (eNm n false) (i46 I 34))))) := by kernel_rfl
theorem cn_5 (n : List UInt8) (r : Rt) (a : List Ex) (z : Int) (b : Bool) (I : AV → List (Option Blk) → Bool) : ckN [eCnt 5 0, eIdz r z b, eZn n true] (.mk 5 n r a) I =
  gC (eCnt 5 0) (lenZ a 0 (i46 I 5) (numZ r (i46 I 5) (gC (eIdz r z b) (gC (eZn n true) (i46 I 0))))) := by kernel_rfl
theorem cn_5b (n : List UInt8) (r : Rt) (a : List Ex) (z : Int) (b : Bool) (I : AV → List (Option Blk) → Bool) : ckN [eCnt 5 0, eIdz r z b, eZn n false] (.mk 5 n r a) I =
  gC (eCnt 5 0) (lenZ a 0 (i46 I 5) (numZ r (i46 I 5) (gC (eIdz r z b) (gC (eZn n false) (i46 I 34))))) := by kernel_rfl
end Go.Proofs.YtnljmpeaeajcoaaGreatDoor

namespace Go.Proofs.YtnljmpeaeajcoaaGreatDoor
open Go Go.Eng Go.Vi Go.Knuth
local instance : Go.Eng.Mode := Sy

theorem gIf_or (c : Bool) : (∀ x y, gIf c x y = x) ∨ (∀ x y, gIf c x y = y) := by
  cases c with
  | true => exact .inl fun _ _ => rfl
  | false => exact .inr fun _ _ => rfl
theorem numZ_or (r : Rt) : (∀ x y, numZ r x y = y) ∨ (∀ x y, numZ r x y = x) := by
  unfold numZ
  rcases gIf_or (Bool.rec (motive := fun _ => Bool) (Bool.not false) false r.neg) with h1 | h1
  · rcases gIf_or (seqA r.mag.length (enc r.mag) 0 0) with h2 | h2
    · rcases gIf_or (Bool.rec (motive := fun _ => Bool) (Bool.not false) false r.dneg) with h3 | h3
      · rcases gIf_or (seqA r.dmag.length (enc r.dmag) 0 0) with h4 | h4
        · exact .inl fun x y => by rw [h1, h2, h3, h4]
        · exact .inr fun x y => by rw [h1, h2, h3, h4]
      · exact .inr fun x y => by rw [h1, h2, h3]
    · exact .inr fun x y => by rw [h1, h2]
  · exact .inr fun x y => by rw [h1]
theorem nameZ_or (n : List UInt8) : (∀ x y, nameZ n x y = y) ∨ (∀ x y, nameZ n x y = x) := (gIf_or _).symm
theorem lenZ_or (a : List Ex) (k : Nat) : (a.length = k ∧ ∀ x y, lenZ a (.ofNat k) x y = y) ∨ (∀ x y, lenZ a (.ofNat k) x y = x) := by
  by_cases h : a.length = k
  · refine .inl ⟨h, fun x y => ?_⟩
    unfold lenZ
    rw [h, ieq_self]; rfl
  · refine .inr fun x y => ?_
    unfold lenZ
    rw [ieqf (by simp only [Int.ofNat_eq_natCast, ne_eq]; omega)]; rfl
def Er46 (e : Int) : Prop := e = 0 ∨ e = 4 ∨ e = 5 ∨ e = 27 ∨ e = 34
instance (e : Int) : Decidable (Er46 e) := by unfold Er46; infer_instance
def CkOk (x : Ex) (o k : Nat) : Prop := ∃ e : Int, Er46 e ∧ BSim Tryz.prog 46 [exA x] [] [] (.int .i64 e) ∧ (e = 0 → x.op = .ofNat o ∧ x.args.length = k)
theorem p46 (n : Int) : pdec (Leaf 0 [] [] (.int .i64 n) (.int .i64 n) []) = true := pdec_iff.2 (i0_leaf n)
/-- a run that gives e, whatever gates there are -/
theorem ck46 {S : List (FuncId × SEnt)} (hS : AllOk S) {x : Ex} (e : Int) {T : (AV → List (Option Blk) → Bool) → Bool} (hrun : ∀ I, ckN S x I = T I) (hT : ∀ I : AV → List (Option Blk) → Bool, i46 I e = true → T I = true) : BSim Tryz.prog 46 [exA x] [] [] (.int .i64 e) :=
  BSim.run hm hX0 hS.mem ok46 (by kernel_rfl) rfl 300 [] T hrun (hT _ (p46 e))
theorem cnt_ok (o k : Nat) (h1 : 1 ≤ o) (h2 : o ≤ 30) (hk : nArgs o = k) : SSpec Tryz.prog (eCnt (.ofNat o) (.ofNat k)).1 (eCnt (.ofNat o) (.ofNat k)).2 := by
  subst hk; exact (count_c o h1 h2).spec0 rfl
theorem ck_gen {o k : Nat} (h1 : 1 ≤ o) (h2 : o ≤ 30) (hk : nArgs o = k) {n : List UInt8} {r : Rt} {a : List Ex} (hr : r.mag.length + r.dmag.length ≤ 20)
    (hrun : ∀ (z : Int) (b : Bool) (I : AV → List (Option Blk) → Bool), ckN [eCnt (.ofNat o) (.ofNat k), eIdz r z b] (.mk (.ofNat o) n r a) I = cnGen (.ofNat o) (.ofNat k) n r a z b I) : CkOk (.mk (.ofNat o) n r a) o k := by
  obtain ⟨z, b, hid, _⟩ := id_any r hr
  have hS : AllOk [eCnt (.ofNat o) (.ofNat k), eIdz r z b] := ⟨cnt_ok o k h1 h2 hk, hid.spec0 rfl, trivial⟩
  rcases lenZ_or a k with ⟨hl, hL⟩ | hL
  · rcases numZ_or r with hN | hN
    · rcases nameZ_or n with hM | hM
      · exact ⟨0, by decide, ck46 hS 0 (hrun z b) (fun I hI => by unfold cnGen; rw [gC_iff, hL, hN, hM, gC_iff]; exact hI), fun _ => ⟨rfl, hl⟩⟩
      · exact ⟨5, by decide, ck46 hS 5 (hrun z b) (fun I hI => by unfold cnGen; rw [gC_iff, hL, hN, hM]; exact hI), fun h => by cases h⟩
    · exact ⟨5, by decide, ck46 hS 5 (hrun z b) (fun I hI => by unfold cnGen; rw [gC_iff, hL, hN]; exact hI), fun h => by cases h⟩
  · exact ⟨5, by decide, ck46 hS 5 (hrun z b) (fun I hI => by unfold cnGen; rw [gC_iff, hL]; exact hI), fun h => by cases h⟩
theorem ck_1 (n : List UInt8) (r : Rt) (a : List Ex) (hr : r.mag.length + r.dmag.length ≤ 20) : CkOk (.mk (.ofNat 1) n r a) 1 0 := by
  obtain ⟨z, b, hid, _⟩ := id_any r hr
  obtain ⟨e, he, hck⟩ := check_any r hr
  have hc := cnt_ok 1 0 (by omega) (by omega) rfl
  rcases he with rfl | rfl
  · have hS : AllOk [eCnt 1 0, eCk2 r 0, eIdz r z b] := ⟨hc, hck.spec0 rfl, hid.spec0 rfl, trivial⟩
    rcases lenZ_or a 0 with ⟨hl, hL⟩ | hL
    · rcases nameZ_or n with hM | hM
      · exact ⟨0, by decide, ck46 hS 0 (cn_1 n r a z b) (fun I hI => by rw [gC_iff]; refine (hL _ _).trans ?_; rw [hM, gC_iff, gC_iff]; exact hI), fun _ => ⟨rfl, hl⟩⟩
      · exact ⟨5, by decide, ck46 hS 5 (cn_1 n r a z b) (fun I hI => by rw [gC_iff]; refine (hL _ _).trans ?_; rw [hM]; exact hI), fun h => by cases h⟩
    · exact ⟨5, by decide, ck46 hS 5 (cn_1 n r a z b) (fun I hI => by rw [gC_iff]; exact (hL _ _).trans hI), fun h => by cases h⟩
  · have hS : AllOk [eCnt 1 0, eCk2 r 5] := ⟨hc, hck.spec0 rfl, trivial⟩
    refine ⟨5, by decide, ck46 hS 5 (cn_1b n r a) (fun I hI => ?_), fun h => by cases h⟩
    rw [gC_iff]
    rcases lenZ_or a 0 with ⟨hl, hL⟩ | hL
    · refine (hL _ _).trans ?_
      rcases nameZ_or n with hM | hM
      · rw [hM, gC_iff]; exact hI
      · rw [hM]; exact hI
    · exact (hL _ _).trans hI
theorem ck_2 (n : List UInt8) (r : Rt) (a : List Ex) (hr : r.mag.length + r.dmag.length ≤ 20) : CkOk (.mk (.ofNat 2) n r a) 2 2 := by
  obtain ⟨z, b, hid, _⟩ := id_any r hr
  have hc := cnt_ok 2 2 (by omega) (by omega) rfl
  have hS2 : AllOk [eCnt 2 2] := ⟨hc, trivial⟩
  have h5 : ∀ {a : List Ex}, (∀ I, ckN [eCnt 2 2] (.mk 2 n r a) I = gC (eCnt 2 2) (i46 I 5)) → CkOk (.mk (.ofNat 2) n r a) 2 2 := fun hrun =>
    ⟨5, by decide, ck46 hS2 5 hrun (fun I hI => by rw [gC_iff]; exact hI), fun h => by cases h⟩
  match a with
  | [] => exact h5 (cn_2_0 n r)
  | [x] => exact h5 (cn_2_1 n r x)
  | x :: y :: u :: l => exact h5 (cn_2_3 n r x y u l)
  | [x, y] =>
    have hS : AllOk [eCnt 2 2, eIdz r z b] := ⟨hc, hid.spec0 rfl, trivial⟩
    rcases numZ_or r with hN | hN
    · rcases nameZ_or n with hM | hM
      · rcases gIf_or (Bool.not (ieq x.op 1)) with h1 | h1
        · exact ⟨5, by decide, ck46 hS 5 (cn_2 n r x y z b) (fun I hI => by rw [gC_iff, hN, hM, h1]; exact hI), fun h => by cases h⟩
        · rcases gIf_or (Bool.not (ieq y.op 1)) with h2 | h2
          · exact ⟨5, by decide, ck46 hS 5 (cn_2 n r x y z b) (fun I hI => by rw [gC_iff, hN, hM, h1, h2]; exact hI), fun h => by cases h⟩
          · exact ⟨0, by decide, ck46 hS 0 (cn_2 n r x y z b) (fun I hI => by rw [gC_iff, hN, hM, h1, h2, gC_iff]; exact hI), fun _ => ⟨rfl, rfl⟩⟩
      · exact ⟨5, by decide, ck46 hS 5 (cn_2 n r x y z b) (fun I hI => by rw [gC_iff, hN, hM]; exact hI), fun h => by cases h⟩
    · exact ⟨5, by decide, ck46 hS 5 (cn_2 n r x y z b) (fun I hI => by rw [gC_iff, hN]; exact hI), fun h => by cases h⟩
theorem ck_3 (n : List UInt8) (r : Rt) (a : List Ex) (hr : r.mag.length + r.dmag.length ≤ 20) : CkOk (.mk (.ofNat 3) n r a) 3 0 := by
  obtain ⟨z, b, hid, _⟩ := id_any r hr
  have hc := cnt_ok 3 0 (by omega) (by omega) rfl
  cases b with
  | true =>
    have hS : AllOk [eCnt 3 0, eIdz r z true] := ⟨hc, hid.spec0 rfl, trivial⟩
    rcases lenZ_or a 0 with ⟨hl, hL⟩ | hL
    · rcases nameZ_or n with hM | hM
      · exact ⟨0, by decide, ck46 hS 0 (cn_3 n r a z) (fun I hI => by rw [gC_iff]; refine (hL _ _).trans ?_; rw [hM, gC_iff]; exact hI), fun _ => ⟨rfl, hl⟩⟩
      · exact ⟨5, by decide, ck46 hS 5 (cn_3 n r a z) (fun I hI => by rw [gC_iff]; refine (hL _ _).trans ?_; rw [hM]; exact hI), fun h => by cases h⟩
    · exact ⟨5, by decide, ck46 hS 5 (cn_3 n r a z) (fun I hI => by rw [gC_iff]; exact (hL _ _).trans hI), fun h => by cases h⟩
  | false =>
    have hS : AllOk [eCnt 3 0, eIdz r z false] := ⟨hc, hid.spec0 rfl, trivial⟩
    rcases lenZ_or a 0 with ⟨hl, hL⟩ | hL
    · rcases nameZ_or n with hM | hM
      · exact ⟨27, by decide, ck46 hS 27 (cn_3b n r a z) (fun I hI => by rw [gC_iff]; refine (hL _ _).trans ?_; rw [hM, gC_iff]; exact hI), fun h => by cases h⟩
      · exact ⟨5, by decide, ck46 hS 5 (cn_3b n r a z) (fun I hI => by rw [gC_iff]; refine (hL _ _).trans ?_; rw [hM]; exact hI), fun h => by cases h⟩
    · exact ⟨5, by decide, ck46 hS 5 (cn_3b n r a z) (fun I hI => by rw [gC_iff]; exact (hL _ _).trans hI), fun h => by cases h⟩
theorem ck_4 (n : List UInt8) (r : Rt) (a : List Ex) (hn : n.length < 4611686018427387904) (hr : r.mag.length + r.dmag.length ≤ 20) : CkOk (.mk (.ofNat 4) n r a) 4 0 := by
  obtain ⟨z, b, hid, _⟩ := id_any r hr
  obtain ⟨b', hnm⟩ := isName_any n hn
  have hc := cnt_ok 4 0 (by omega) (by omega) rfl
  cases b' with
  | true =>
    have hS : AllOk [eCnt 4 0, eIdz r z b, eNm n true] := ⟨hc, hid.spec0 rfl, hnm.spec0 rfl, trivial⟩
    rcases lenZ_or a 0 with ⟨hl, hL⟩ | hL
    · rcases numZ_or r with hM | hM
      · exact ⟨0, by decide, ck46 hS 0 (cn_4 n r a z b) (fun I hI => by rw [gC_iff]; refine (hL _ _).trans ?_; rw [hM, gC_iff, gC_iff]; exact hI), fun _ => ⟨rfl, hl⟩⟩
      · exact ⟨5, by decide, ck46 hS 5 (cn_4 n r a z b) (fun I hI => by rw [gC_iff]; refine (hL _ _).trans ?_; rw [hM]; exact hI), fun h => by cases h⟩
    · exact ⟨5, by decide, ck46 hS 5 (cn_4 n r a z b) (fun I hI => by rw [gC_iff]; exact (hL _ _).trans hI), fun h => by cases h⟩
  | false =>
    have hS : AllOk [eCnt 4 0, eIdz r z b, eNm n false] := ⟨hc, hid.spec0 rfl, hnm.spec0 rfl, trivial⟩
    rcases lenZ_or a 0 with ⟨hl, hL⟩ | hL
    · rcases numZ_or r with hM | hM
      · exact ⟨34, by decide, ck46 hS 34 (cn_4b n r a z b) (fun I hI => by rw [gC_iff]; refine (hL _ _).trans ?_; rw [hM, gC_iff, gC_iff]; exact hI), fun h => by cases h⟩
      · exact ⟨5, by decide, ck46 hS 5 (cn_4b n r a z b) (fun I hI => by rw [gC_iff]; refine (hL _ _).trans ?_; rw [hM]; exact hI), fun h => by cases h⟩
    · exact ⟨5, by decide, ck46 hS 5 (cn_4b n r a z b) (fun I hI => by rw [gC_iff]; exact (hL _ _).trans hI), fun h => by cases h⟩
theorem ck_5 (n : List UInt8) (r : Rt) (a : List Ex) (hn : n.length < 4611686018427387904) (hr : r.mag.length + r.dmag.length ≤ 20) : CkOk (.mk (.ofNat 5) n r a) 5 0 := by
  obtain ⟨z, b, hid, _⟩ := id_any r hr
  obtain ⟨b', hnm⟩ := isZone_any n hn
  have hc := cnt_ok 5 0 (by omega) (by omega) rfl
  cases b' with
  | true =>
    have hS : AllOk [eCnt 5 0, eIdz r z b, eZn n true] := ⟨hc, hid.spec0 rfl, hnm.spec0 rfl, trivial⟩
    rcases lenZ_or a 0 with ⟨hl, hL⟩ | hL
    · rcases numZ_or r with hM | hM
      · exact ⟨0, by decide, ck46 hS 0 (cn_5 n r a z b) (fun I hI => by rw [gC_iff]; refine (hL _ _).trans ?_; rw [hM, gC_iff, gC_iff]; exact hI), fun _ => ⟨rfl, hl⟩⟩
      · exact ⟨5, by decide, ck46 hS 5 (cn_5 n r a z b) (fun I hI => by rw [gC_iff]; refine (hL _ _).trans ?_; rw [hM]; exact hI), fun h => by cases h⟩
    · exact ⟨5, by decide, ck46 hS 5 (cn_5 n r a z b) (fun I hI => by rw [gC_iff]; exact (hL _ _).trans hI), fun h => by cases h⟩
  | false =>
    have hS : AllOk [eCnt 5 0, eIdz r z b, eZn n false] := ⟨hc, hid.spec0 rfl, hnm.spec0 rfl, trivial⟩
    rcases lenZ_or a 0 with ⟨hl, hL⟩ | hL
    · rcases numZ_or r with hM | hM
      · exact ⟨34, by decide, ck46 hS 34 (cn_5b n r a z b) (fun I hI => by rw [gC_iff]; refine (hL _ _).trans ?_; rw [hM, gC_iff, gC_iff]; exact hI), fun h => by cases h⟩
      · exact ⟨5, by decide, ck46 hS 5 (cn_5b n r a z b) (fun I hI => by rw [gC_iff]; refine (hL _ _).trans ?_; rw [hM]; exact hI), fun h => by cases h⟩
    · exact ⟨5, by decide, ck46 hS 5 (cn_5b n r a z b) (fun I hI => by rw [gC_iff]; exact (hL _ _).trans hI), fun h => by cases h⟩
/-- checkNode, whatever the node -/
theorem checkNode_any (x : Ex) (hn : x.name.length < 4611686018427387904) (hr : x.num.mag.length + x.num.dmag.length ≤ 20) : ∃ e : Int, Er46 e ∧ BSim Tryz.prog 46 [exA x] [] [] (.int .i64 e) ∧ (e = 0 → ∃ o : Nat, 1 ≤ o ∧ o ≤ 30 ∧ x.op = .ofNat o ∧ x.args.length = nArgs o) := by
  obtain ⟨op, n, r, a⟩ := x
  change n.length < _ at hn
  change r.mag.length + r.dmag.length ≤ 20 at hr
  by_cases ho : 1 ≤ op ∧ op ≤ 30
  · obtain ⟨o, rfl⟩ : ∃ o : Nat, op = .ofNat o := ⟨op.toNat, by simp only [Int.ofNat_eq_natCast]; omega⟩
    have h1 : 1 ≤ o := by have := ho.1; simp only [Int.ofNat_eq_natCast] at this; omega
    have h2 : o ≤ 30 := by have := ho.2; simp only [Int.ofNat_eq_natCast] at this; omega
    suffices h : CkOk (.mk (.ofNat o) n r a) o (nArgs o) by
      obtain ⟨e, hE, he, h0⟩ := h
      exact ⟨e, hE, he, fun h => ⟨o, h1, h2, (h0 h).1, (h0 h).2⟩⟩
    have hcase : o = 1 ∨ o = 2 ∨ o = 3 ∨ o = 4 ∨ o = 5 ∨ o = 6 ∨ o = 7 ∨ o = 8 ∨ o = 9 ∨ o = 10 ∨ o = 11 ∨ o = 12 ∨ o = 13 ∨ o = 14 ∨ o = 15 ∨ o = 16 ∨ o = 17 ∨ o = 18 ∨ o = 19 ∨ o = 20 ∨ o = 21 ∨ o = 22 ∨ o = 23 ∨ o = 24 ∨ o = 25 ∨ o = 26 ∨ o = 27 ∨ o = 28 ∨ o = 29 ∨ o = 30 := by omega
    rcases hcase with rfl | rfl | rfl | rfl | rfl | rfl | rfl | rfl | rfl | rfl | rfl | rfl | rfl | rfl | rfl | rfl | rfl | rfl | rfl | rfl | rfl | rfl | rfl | rfl | rfl | rfl | rfl | rfl | rfl | rfl
    · exact ck_1 n r a hr
    · exact ck_2 n r a hr
    · exact ck_3 n r a hr
    · exact ck_4 n r a hn hr
    · exact ck_5 n r a hn hr
    · exact ck_gen (o := 6) (k := 2) (by omega) (by omega) rfl hr (cn_6 n r a)
    · exact ck_gen (o := 7) (k := 2) (by omega) (by omega) rfl hr (cn_7 n r a)
    · exact ck_gen (o := 8) (k := 2) (by omega) (by omega) rfl hr (cn_8 n r a)
    · exact ck_gen (o := 9) (k := 2) (by omega) (by omega) rfl hr (cn_9 n r a)
    · exact ck_gen (o := 10) (k := 1) (by omega) (by omega) rfl hr (cn_10 n r a)
    · exact ck_gen (o := 11) (k := 1) (by omega) (by omega) rfl hr (cn_11 n r a)
    · exact ck_gen (o := 12) (k := 2) (by omega) (by omega) rfl hr (cn_12 n r a)
    · exact ck_gen (o := 13) (k := 2) (by omega) (by omega) rfl hr (cn_13 n r a)
    · exact ck_gen (o := 14) (k := 1) (by omega) (by omega) rfl hr (cn_14 n r a)
    · exact ck_gen (o := 15) (k := 3) (by omega) (by omega) rfl hr (cn_15 n r a)
    · exact ck_gen (o := 16) (k := 2) (by omega) (by omega) rfl hr (cn_16 n r a)
    · exact ck_gen (o := 17) (k := 1) (by omega) (by omega) rfl hr (cn_17 n r a)
    · exact ck_gen (o := 18) (k := 2) (by omega) (by omega) rfl hr (cn_18 n r a)
    · exact ck_gen (o := 19) (k := 2) (by omega) (by omega) rfl hr (cn_19 n r a)
    · exact ck_gen (o := 20) (k := 2) (by omega) (by omega) rfl hr (cn_20 n r a)
    · exact ck_gen (o := 21) (k := 2) (by omega) (by omega) rfl hr (cn_21 n r a)
    · exact ck_gen (o := 22) (k := 2) (by omega) (by omega) rfl hr (cn_22 n r a)
    · exact ck_gen (o := 23) (k := 2) (by omega) (by omega) rfl hr (cn_23 n r a)
    · exact ck_gen (o := 24) (k := 2) (by omega) (by omega) rfl hr (cn_24 n r a)
    · exact ck_gen (o := 25) (k := 1) (by omega) (by omega) rfl hr (cn_25 n r a)
    · exact ck_gen (o := 26) (k := 1) (by omega) (by omega) rfl hr (cn_26 n r a)
    · exact ck_gen (o := 27) (k := 1) (by omega) (by omega) rfl hr (cn_27 n r a)
    · exact ck_gen (o := 28) (k := 2) (by omega) (by omega) rfl hr (cn_28 n r a)
    · exact ck_gen (o := 29) (k := 2) (by omega) (by omega) rfl hr (cn_29 n r a)
    · exact ck_gen (o := 30) (k := 2) (by omega) (by omega) rfl hr (cn_30 n r a)
  · refine ⟨4, by decide, ck46 (S := [eCnt op (-1)]) ⟨(count_bad op ho).spec0 rfl, trivial⟩ 4 (cn_bad op n r a) (fun I hI => ?_), fun h => by cases h⟩
    unfold cnBad
    rw [gC_iff]
    exact gIf_any (gIf_any hI hI) (gIf_any hI hI)
end Go.Proofs.YtnljmpeaeajcoaaGreatDoor

namespace Go.Proofs.YtnljmpeaeajcoaaGreatDoor
open Go Go.Eng Go.Vi Go.Knuth
local instance : Go.Eng.Mode := Sy

/-! visit, whatever the expression -/
/-- few bytes and arguments everywhere -/
inductive Sml : Ex → Prop
  | mk (o : Int) (n : List UInt8) (r : Rt) (args : List Ex) (hn : n.length ≤ 60) (hr : r.mag.length + r.dmag.length ≤ 20) (hl : args.length ≤ 4) (ha : ∀ y ∈ args, Sml y) : Sml (.mk o n r args)
/-- every operation is known and has as many arguments as it needs -/
inductive WF : Ex → Prop
  | mk (o : Nat) (n : List UInt8) (r : Rt) (args : List Ex) (h1 : 1 ≤ o) (h2 : o ≤ 30) (hl : args.length = nArgs o) (ha : ∀ y ∈ args, WF y) : WF (.mk (.ofNat o) n r args)
noncomputable def eRe (x : Ex) (e : Int) : FuncId × SEnt := (46, ⟨[exA x], [], .int .i64 e⟩)
noncomputable def eVe (x : Ex) (lev n n' : Nat) (e : Int) : FuncId × SEnt := (45, ⟨[exA x, .int .i64 (.ofNat lev), .ptr 0 0, .ptr 1 0], [(0, [.int .i64 (.ofNat n)], [.int .i64 (.ofNat n')]), (1, [fV], [fV])], .int .i64 e⟩)
def Vis (x : Ex) (lev n n' : Nat) (e : Int) : Prop := BSimG Tryz.prog 45 [exA x, .int .i64 (.ofNat lev), .ptr 0 0, .ptr 1 0] (rowsV n) (rowsV n') (.int .i64 e)
theorem eVe_ok {x : Ex} {lev n n' : Nat} {e : Int} (h : Vis x lev n n' e) : SSpec Tryz.prog (eVe x lev n n' e).1 (eVe x lev n n' e).2 := h [0, 1] _ _ _ rfl (by decide) rfl rfl rfl
noncomputable def visT (x : Ex) (lev n : Nat) (I : AV → List (Option Blk) → Bool) (e0 : Int) (K : Bool) : Bool :=
  ifB (Bool.not (ilt (.ofNat n) 256)) (leafV n 3 I) (ifB (ilt 32 (.ofNat lev)) (leafV n 33 I) (gB (inI64 (.ofNat (n + 1))) (gD (eRe x e0) K)))
theorem vis_of {S : List (FuncId × SEnt)} (hS : AllOk S) {x : Ex} {lev n n' : Nat} {e e0 : Int} (hn : n < 256) (hlev : lev ≤ 32) (K : (AV → List (Option Blk) → Bool) → Bool) (hK : ∀ I, leafV n' e I = true → K I = true)
    (hrun : ∀ I, runV S x lev n I = visT x lev n I e0 (K I)) : Vis x lev n n' e := by
  refine BSimG.run hm hX0 hS.mem ok45 (by kernel_rfl) rfl 60 [0, 1] _ hrun ?_
  have c1 : Bool.not (ilt (.ofNat n) 256) = false := by rw [ilt_iff]; simp; omega
  have c2 : ilt 32 (.ofNat lev) = false := by rw [ilt_iff]; simp; omega
  unfold visT
  simp only [ifB_false c1, ifB_false c2, gB_iff, gD_iff]
  exact ⟨smallI _ (by omega), hK _ (pdec_iff.2 (LeafG.of (rowsV_fz n') fun _ _ => .plain (.int .i64 e)))⟩
/-- too deep -/
noncomputable def c45 : Code := codeOf Tryz.f45
theorem vis_deep_run (x : Ex) (lev n : Nat) (I : IK) : Eng.execN Tryz.prog X0 [] 60 Tryz.f45.ntmps 2 c45 (mkFr (argSlots [exA x, .int .i64 (.ofNat lev), .ptr 0 0, .ptr 1 0] 0)) (mkMem (rowsG (rowsV n))) (fun o fr' M' => I o (lv [6] fr') (mv [0, 1] M')) =
  ifB (Bool.not (ilt (.ofNat n) 256)) (I .ret [some (.int .i64 3)] ((rowsG (rowsV n)).map some)) (ifB (ilt 32 (.ofNat lev)) (I .ret [some (.int .i64 33)] ((rowsG (rowsV n)).map some)) (I .normal [some (.int .i64 0)] ((rowsG (rowsV n)).map some))) := by kernel_rfl
theorem res45 : Tryz.f45.results.toList = [.tmp 6] := by kernel_rfl
theorem finG_one {fn : Func} {a : Nat} (hres : fn.results.toList = [.tmp a]) {k : Nat} {rows1 : List (List AV)} {ans : AV} {fr : Fr} {M : Mem} {x : AV} (hl : lv [a] fr = [some x]) (hf : FzA k M x ans)
    (hr : ∀ (j : Nat) (r : List AV), rows1[j]? = some r → ∃ c sz, M.t.get j = some (.row c false sz) ∧ FzBs k M c r) : FinG Tryz.prog fn k rows1 ans .ret fr M := by
  refine ⟨.inr rfl, [x], ?_, hf, hr⟩
  rw [hres]
  show getT fr a (fun v => pdec ([v] = [x])) = true
  rw [getT_iff]
  exact ⟨x, one_of hl, pdec_iff.2 rfl⟩
theorem ifB_true {c a b : Bool} (h : c = true) : ifB c a b = a := by subst h; rfl
theorem vis_deep (x : Ex) {lev n : Nat} (hn : n < 256) (hlev : 32 < lev) : Vis x lev n n 33 := by
  refine BSimG.of_W ok45.at_ (codeOf_some ok45.body) ok45.name (nble_le (by kernel_rfl)) rfl ?_
  refine W.runN hm hX0 (S := []) (fun _ h => by cases h) 60 2 [6] [0, 1] _ (vis_deep_run x lev n) ?_
  have c1 : Bool.not (ilt (.ofNat n) 256) = false := by rw [ilt_iff]; simp; omega
  have c2 : ilt 32 (.ofNat lev) = true := by rw [ilt_iff]; simp; omega
  rw [ifB_false c1, ifB_true c2]
  refine pdec_iff.2 fun fr M hl hm' => ?_
  refine finG_one res45 hl (.plain (.int .i64 33)) ?_
  have := rowsG_of_mv (k := 2) (rows1 := rowsV n) (i := 0) (M' := M) hm' (rowsV_fz n M)
  intro j r hj
  have h := this j r hj
  rw [Nat.zero_add] at h
  exact h
/-! the node itself is wrong -/
theorem vis_e4 (x : Ex) (lev n : Nat) (I) : runV [eRe x 4] x lev n I = visT x lev n I 4 (leafV (n + 1) 4 I) := by kernel_rfl
theorem vis_e5 (x : Ex) (lev n : Nat) (I) : runV [eRe x 5] x lev n I = visT x lev n I 5 (leafV (n + 1) 5 I) := by kernel_rfl
theorem vis_e27 (x : Ex) (lev n : Nat) (I) : runV [eRe x 27] x lev n I = visT x lev n I 27 (leafV (n + 1) 27 I) := by kernel_rfl
theorem vis_e34 (x : Ex) (lev n : Nat) (I) : runV [eRe x 34] x lev n I = visT x lev n I 34 (leafV (n + 1) 34 I) := by kernel_rfl
/-! an argument is wrong -/
noncomputable def stepE (y : Ex) (lev n n' : Nat) (e : Int) (b : Bool) : Bool := gB (inI64 (.ofNat (lev + 1))) (gD (eVe y (lev + 1) n n' e) b)
noncomputable def bad45 (lev : Nat) : Bool := gB (inI64 (.ofNat (lev + 1))) false
noncomputable def errT (n : Nat) (e : Int) (I : AV → List (Option Blk) → Bool) (b : Bool) : Bool := ifB (Bool.not (ieq e 0)) (leafV n e I) b
theorem v_11 (o : Int) (nm : List UInt8) (r : Rt) (y : Ex) (lev n n1 : Nat) (e : Int) (I) : runV [eRe (.mk o nm r [y]) 0, eVe y (lev + 1) (n + 1) n1 e] (.mk o nm r [y]) lev n I =
  visT (.mk o nm r [y]) lev n I 0 (stepE y lev (n + 1) n1 e (errT n1 e I (leafV n1 0 I))) := by kernel_rfl
theorem v_21 (o : Int) (nm : List UInt8) (r : Rt) (y z : Ex) (lev n n1 : Nat) (e : Int) (I) : runV [eRe (.mk o nm r [y, z]) 0, eVe y (lev + 1) (n + 1) n1 e] (.mk o nm r [y, z]) lev n I =
  visT (.mk o nm r [y, z]) lev n I 0 (stepE y lev (n + 1) n1 e (errT n1 e I (bad45 lev))) := by kernel_rfl
theorem v_22 (o : Int) (nm : List UInt8) (r : Rt) (y z : Ex) (lev n n1 n2 : Nat) (e : Int) (I) : runV [eRe (.mk o nm r [y, z]) 0, eVe y (lev + 1) (n + 1) n1 0, eVe z (lev + 1) n1 n2 e] (.mk o nm r [y, z]) lev n I =
  visT (.mk o nm r [y, z]) lev n I 0 (stepE y lev (n + 1) n1 0 (stepE z lev n1 n2 e (errT n2 e I (leafV n2 0 I)))) := by kernel_rfl
theorem v_31 (o : Int) (nm : List UInt8) (r : Rt) (y z u : Ex) (lev n n1 : Nat) (e : Int) (I) : runV [eRe (.mk o nm r [y, z, u]) 0, eVe y (lev + 1) (n + 1) n1 e] (.mk o nm r [y, z, u]) lev n I =
  visT (.mk o nm r [y, z, u]) lev n I 0 (stepE y lev (n + 1) n1 e (errT n1 e I (bad45 lev))) := by kernel_rfl
theorem v_32 (o : Int) (nm : List UInt8) (r : Rt) (y z u : Ex) (lev n n1 n2 : Nat) (e : Int) (I) : runV [eRe (.mk o nm r [y, z, u]) 0, eVe y (lev + 1) (n + 1) n1 0, eVe z (lev + 1) n1 n2 e] (.mk o nm r [y, z, u]) lev n I =
  visT (.mk o nm r [y, z, u]) lev n I 0 (stepE y lev (n + 1) n1 0 (stepE z lev n1 n2 e (errT n2 e I (bad45 lev)))) := by kernel_rfl
theorem v_33 (o : Int) (nm : List UInt8) (r : Rt) (y z u : Ex) (lev n n1 n2 n3 : Nat) (e : Int) (I) : runV [eRe (.mk o nm r [y, z, u]) 0, eVe y (lev + 1) (n + 1) n1 0, eVe z (lev + 1) n1 n2 0, eVe u (lev + 1) n2 n3 e] (.mk o nm r [y, z, u]) lev n I =
  visT (.mk o nm r [y, z, u]) lev n I 0 (stepE y lev (n + 1) n1 0 (stepE z lev n1 n2 0 (stepE u lev n2 n3 e (errT n3 e I (leafV n3 0 I))))) := by kernel_rfl
theorem v_0 (o : Int) (nm : List UInt8) (r : Rt) (lev n : Nat) (I) : runV [eRe (.mk o nm r []) 0] (.mk o nm r []) lev n I = visT (.mk o nm r []) lev n I 0 (leafV (n + 1) 0 I) := by kernel_rfl

theorem errT_of {n : Nat} {e : Int} (he : e ≠ 0) {I : AV → List (Option Blk) → Bool} {b : Bool} (h : leafV n e I = true) : errT n e I b = true := by
  unfold errT
  rw [ifB_true (by rw [ieqf he]; rfl)]
  exact h
theorem stepE_of {y : Ex} {lev n n' : Nat} {e : Int} {b : Bool} (hl : lev ≤ 1000) (h : b = true) : stepE y lev n n' e b = true := by
  unfold stepE
  rw [gB_iff, gD_iff]
  exact ⟨smallI _ (by omega), h⟩
theorem nArgs_le (o : Nat) : nArgs o ≤ 3 := by
  unfold nArgs
  split
  · omega
  · split
    · omega
    · split <;> omega
/-- visit: some error, and no error only where all is right -/
theorem visit_any : ∀ {x : Ex}, Sml x → ∀ lev n, lev ≤ 1000 → n + x.size ≤ 256 → ∃ (e : Int) (n' : Nat), n' ≤ n + x.size ∧ (e = 0 → WF x) ∧ Vis x lev n n' e := by
  intro x hx
  induction hx with
  | mk o nm r args hnm hr hl ha ih =>
    intro lev n hlv hn
    have e1 : (Ex.mk o nm r args).size = 1 + sizeL args := by simp [Ex.size]
    rw [e1] at hn ⊢
    by_cases hlev : 32 < lev
    · exact ⟨33, n, by omega, (fun h => by cases h), vis_deep _ (by omega) hlev⟩
    obtain ⟨e, hE, hck, h0⟩ := checkNode_any (.mk o nm r args) (by show nm.length < _; omega) hr
    have hS : ∀ {e : Int}, BSim Tryz.prog 46 [exA (.mk o nm r args)] [] [] (.int .i64 e) → SSpec Tryz.prog (eRe (.mk o nm r args) e).1 (eRe (.mk o nm r args) e).2 := fun h => h.spec0 rfl
    rcases hE with rfl | rfl | rfl | rfl | rfl
    · obtain ⟨o', h1, h2, h3, h4⟩ := h0 rfl
      have h3 : o = .ofNat o' := h3
      have h4 : args.length = nArgs o' := h4
      subst h3
      have hR := hS hck
      have h5 := nArgs_le o'
      have wf : (∀ y ∈ args, WF y) → WF (.mk (.ofNat o') nm r args) := fun h => .mk o' nm r args h1 h2 h4 h
      have h5 : args.length ≤ 3 := h4 ▸ h5
      clear h0 hck
      match args, h5 with
      | [], _ =>
        refine ⟨0, n + 1, by simp only [sizeL]; omega, fun _ => wf (fun y hy => by cases hy), ?_⟩
        exact vis_of (S := [eRe (.mk (.ofNat o') nm r []) 0]) ⟨hR, trivial⟩ (by omega) (by omega) _ (fun I h => h) (v_0 _ nm r lev n)
      | [y], _ =>
        simp only [sizeL, Nat.add_zero] at hn ⊢
        obtain ⟨ey, n1, b1, w1, s1⟩ := ih y (by simp) (lev + 1) (n + 1) (by omega) (by omega)
        by_cases he : ey = 0
        · subst he
          refine ⟨0, n1, by omega, fun _ => wf (fun z hz => by obtain rfl := List.mem_singleton.1 hz; exact w1 rfl), ?_⟩
          exact vis_of (S := [eRe (.mk (.ofNat o') nm r [y]) 0, eVe y (lev + 1) (n + 1) n1 0]) ⟨hR, eVe_ok s1, trivial⟩ (by omega) (by omega) _ (fun I h => stepE_of hlv h) (v_11 _ nm r y lev n n1 0)
        · refine ⟨ey, n1, by omega, fun h => absurd h he, ?_⟩
          exact vis_of (S := [eRe (.mk (.ofNat o') nm r [y]) 0, eVe y (lev + 1) (n + 1) n1 ey]) ⟨hR, eVe_ok s1, trivial⟩ (by omega) (by omega) _ (fun I h => stepE_of hlv (errT_of he h)) (v_11 _ nm r y lev n n1 ey)
      | [y, z], _ =>
        simp only [sizeL, Nat.add_zero] at hn ⊢
        obtain ⟨ey, n1, b1, w1, s1⟩ := ih y (by simp) (lev + 1) (n + 1) (by omega) (by omega)
        by_cases he : ey = 0
        · subst he
          obtain ⟨ez, n2, b2, w2, s2⟩ := ih z (by simp) (lev + 1) n1 (by omega) (by omega)
          have hS2 : AllOk [eRe (.mk (.ofNat o') nm r [y, z]) 0, eVe y (lev + 1) (n + 1) n1 0, eVe z (lev + 1) n1 n2 ez] := ⟨hR, eVe_ok s1, eVe_ok s2, trivial⟩
          by_cases he2 : ez = 0
          · subst he2
            refine ⟨0, n2, by omega, fun _ => wf (fun u hu => by
              rcases List.mem_cons.1 hu with rfl | hu
              · exact w1 rfl
              · obtain rfl := List.mem_singleton.1 hu; exact w2 rfl), ?_⟩
            exact vis_of hS2 (by omega) (by omega) _ (fun I h => stepE_of hlv (stepE_of hlv h)) (v_22 _ nm r y z lev n n1 n2 0)
          · refine ⟨ez, n2, by omega, fun h => absurd h he2, ?_⟩
            exact vis_of hS2 (by omega) (by omega) _ (fun I h => stepE_of hlv (stepE_of hlv (errT_of he2 h))) (v_22 _ nm r y z lev n n1 n2 ez)
        · refine ⟨ey, n1, by omega, fun h => absurd h he, ?_⟩
          exact vis_of (S := [eRe (.mk (.ofNat o') nm r [y, z]) 0, eVe y (lev + 1) (n + 1) n1 ey]) ⟨hR, eVe_ok s1, trivial⟩ (by omega) (by omega) _ (fun I h => stepE_of hlv (errT_of he h)) (v_21 _ nm r y z lev n n1 ey)
      | [y, z, u], _ =>
        simp only [sizeL, Nat.add_zero] at hn ⊢
        obtain ⟨ey, n1, b1, w1, s1⟩ := ih y (by simp) (lev + 1) (n + 1) (by omega) (by omega)
        by_cases he : ey = 0
        · subst he
          obtain ⟨ez, n2, b2, w2, s2⟩ := ih z (by simp) (lev + 1) n1 (by omega) (by omega)
          by_cases he2 : ez = 0
          · subst he2
            obtain ⟨eu, n3, b3, w3, s3⟩ := ih u (by simp) (lev + 1) n2 (by omega) (by omega)
            have hS3 : AllOk [eRe (.mk (.ofNat o') nm r [y, z, u]) 0, eVe y (lev + 1) (n + 1) n1 0, eVe z (lev + 1) n1 n2 0, eVe u (lev + 1) n2 n3 eu] := ⟨hR, eVe_ok s1, eVe_ok s2, eVe_ok s3, trivial⟩
            by_cases he3 : eu = 0
            · subst he3
              refine ⟨0, n3, by omega, fun _ => wf (fun t ht => by
                rcases List.mem_cons.1 ht with rfl | ht
                · exact w1 rfl
                rcases List.mem_cons.1 ht with rfl | ht
                · exact w2 rfl
                · obtain rfl := List.mem_singleton.1 ht; exact w3 rfl), ?_⟩
              exact vis_of hS3 (by omega) (by omega) _ (fun I h => stepE_of hlv (stepE_of hlv (stepE_of hlv h))) (v_33 _ nm r y z u lev n n1 n2 n3 0)
            · refine ⟨eu, n3, by omega, fun h => absurd h he3, ?_⟩
              exact vis_of hS3 (by omega) (by omega) _ (fun I h => stepE_of hlv (stepE_of hlv (stepE_of hlv (errT_of he3 h)))) (v_33 _ nm r y z u lev n n1 n2 n3 eu)
          · refine ⟨ez, n2, by omega, fun h => absurd h he2, ?_⟩
            exact vis_of (S := [eRe (.mk (.ofNat o') nm r [y, z, u]) 0, eVe y (lev + 1) (n + 1) n1 0, eVe z (lev + 1) n1 n2 ez]) ⟨hR, eVe_ok s1, eVe_ok s2, trivial⟩ (by omega) (by omega) _ (fun I h => stepE_of hlv (stepE_of hlv (errT_of he2 h))) (v_32 _ nm r y z u lev n n1 n2 ez)
        · refine ⟨ey, n1, by omega, fun h => absurd h he, ?_⟩
          exact vis_of (S := [eRe (.mk (.ofNat o') nm r [y, z, u]) 0, eVe y (lev + 1) (n + 1) n1 ey]) ⟨hR, eVe_ok s1, trivial⟩ (by omega) (by omega) _ (fun I h => stepE_of hlv (errT_of he h)) (v_31 _ nm r y z u lev n n1 ey)
      | _ :: _ :: _ :: _ :: _, h => simp at h
    · exact ⟨4, n + 1, by omega, (fun h => by cases h), vis_of (S := [eRe (.mk o nm r args) 4]) ⟨hS hck, trivial⟩ (by omega) (by omega) _ (fun I h => h) (vis_e4 _ lev n)⟩
    · exact ⟨5, n + 1, by omega, (fun h => by cases h), vis_of (S := [eRe (.mk o nm r args) 5]) ⟨hS hck, trivial⟩ (by omega) (by omega) _ (fun I h => h) (vis_e5 _ lev n)⟩
    · exact ⟨27, n + 1, by omega, (fun h => by cases h), vis_of (S := [eRe (.mk o nm r args) 27]) ⟨hS hck, trivial⟩ (by omega) (by omega) _ (fun I h => h) (vis_e27 _ lev n)⟩
    · exact ⟨34, n + 1, by omega, (fun h => by cases h), vis_of (S := [eRe (.mk o nm r args) 34]) ⟨hS hck, trivial⟩ (by omega) (by omega) _ (fun I h => h) (vis_e34 _ lev n)⟩
/-- CheckExpr, whatever the expression -/
noncomputable def eV12e (x : Ex) (n' : Nat) (e : Int) : FuncId × SEnt := (45, ⟨[exA x, .int .i64 (.ofNat 1), .ptr 1 0, .ptr 2 0], [(1, [.int .i64 (.ofNat 0)], [.int .i64 (.ofNat n')]), (2, [.func (.func 45) [] [.ptr 1 0, .ptr 2 0]], [.func (.func 45) [] [.ptr 1 0, .ptr 2 0]])], .int .i64 e⟩)
theorem ok24' : FnOk Tryz.prog 24 Tryz.f24 := ⟨Tryz.func24, by kernel_rfl, by kernel_rfl⟩
theorem checkExpr_any {x : Ex} (hx : Sml x) (hn : x.size ≤ 256) : ∃ e : Int, (e = 0 → WF x) ∧ BSim Tryz.prog 24 [exA x] [] [] (.int .i64 e) := by
  obtain ⟨e, n', _, hw, h⟩ := visit_any hx 1 0 (by omega) (by omega)
  refine ⟨e, hw, ?_⟩
  refine BSim.run hm hX0 (S := [eV12e x n' e]) (AllOk.mem ⟨h [1, 2] _ _ _ rfl (by decide) rfl rfl rfl, trivial⟩) ok24' (by kernel_rfl) rfl 60 [] (fun I => gD (eV12e x n' e) (I (.int .i64 e) [])) (fun I => by kernel_rfl) ?_
  simp only [gD_iff]
  exact pdec_iff.2 (Leaf.flat fun _ _ => .plain (.int .i64 e))
end Go.Proofs.YtnljmpeaeajcoaaGreatDoor

namespace Go.Proofs.YtnljmpeaeajcoaaGreatDoor
open Go Go.Eng Go.Vi Go.Knuth
local instance : Go.Eng.Mode := Sl


/-! each, with the closure of Variables: the names of all variables are appended -/
mutual
def vars : Ex → List (List UInt8) | .mk o n _ args => (if o = 4 then [n] else []) ++ varsL args
def varsL : List Ex → List (List UInt8)
  | [] => []
  | y :: l => vars y ++ varsL l
end
noncomputable def namesD (l : List (List UInt8)) : List Dat := List.rec (motive := fun _ => List Dat) [] (fun s _ r => sD s :: r) l
theorem namesD_eq (l : List (List UInt8)) : namesD l = l.map sD := by
  induction l with
  | nil => rfl
  | cons s l ih => exact congrArg (sD s :: ·) ih
theorem namesD_len (l : List (List UInt8)) : (namesD l).length = l.length := by rw [namesD_eq]; simp
noncomputable def outRow (b : Nat) (l : List (List UInt8)) : List AV := List.rec (motive := fun _ => List AV) [.nilSlice] (fun _ _ _ => [.slice b 0 l.length l.length true]) l
noncomputable def looseOf (l : List (List UInt8)) : List Blk := List.rec (motive := fun _ => List Blk) [] (fun _ _ _ => [.row (toAVs (namesD l)) true 1]) l
noncomputable def rowsE (l : List (List UInt8)) : List Blk := .row (outRow 1 l) false 1 :: looseOf l
def fC : AV := .func (.func 52) [] [.ptr 0 0]
noncomputable def eaArgs (x : Ex) (lev : Nat) : List AV := [exA x, .int .i64 (.ofNat lev), fC]
def Ea (x : Ex) (lev : Nat) (l l' : List (List UInt8)) : Prop := NSpec Tryz.prog 51 (eaArgs x lev) [.row (outRow 1 l) false 1] (looseOf l) (fun nx => [.row (outRow nx l') false 1]) (fun _ => looseOf l') (fun _ => .tuple [])
noncomputable def eEa (x : Ex) (lev : Nat) (l l' : List (List UInt8)) (nx : Nat) : MEnt := nEnt (eaArgs x lev) [.row (outRow 1 l) false 1] (looseOf l) (fun nx => [.row (outRow nx l') false 1]) (fun _ => looseOf l') (fun _ => .tuple []) nx
theorem ok51 : FnOk Tryz.prog 51 Tryz.f51 := ⟨Tryz.func51, by kernel_rfl, by kernel_rfl⟩
noncomputable def c51 : Code := codeOf Tryz.f51
noncomputable def T51 : Nat := Tryz.f51.ntmps
noncomputable def body51 : Code := bodyOf (bodyOf (post 3 c51))
noncomputable def slE (x : Ex) (lev i : Nat) : List (Nat × AV) := [(1, .int .i64 (.ofNat lev)), (2, fC), (13, .dslice x.args.length 7 x.el), (14, .int .i64 (.ofNat x.args.length)), (15, .int .i64 (.ofNat i))]
noncomputable def valsE (x : Ex) (lev i : Nat) : List (Option AV) := [some (.int .i64 (.ofNat lev)), some fC, some (.dslice x.args.length 7 x.el), some (.int .i64 (.ofNat x.args.length)), some (.int .i64 (.ofNat i))]
noncomputable def runB (x : Ex) (lev i : Nat) (e : MEnt) (l : List (List UInt8)) (π : List Nat) (I : IK) : Bool :=
  Eng.exec Tryz.prog (Xm X0 51 e) [] 60 T51 (rhs (rhs body51)) (mkFr (slE x lev i)) (mkMem (rowsE l)) (fun o fr' M' => I o (lv [1, 2, 13, 14, 15] fr') (mv π M'))
noncomputable def bodT (_x : Ex) (lev _i : Nat) (e : MEnt) (b : Bool) : Bool := gB (inI64 (.ofNat (lev + 1))) (gM e b)
theorem body51_eq : body51 = .seq (lhs body51) (.seq (.cond (.tmp 16) .skip (.exit 0)) (rhs (rhs body51))) := by kernel_rfl
theorem post51 : post 3 c51 = .block 0 (.loop body51) := by kernel_rfl
theorem cond51 (x : Ex) (lev i : Nat) (l : List (List UInt8)) (I : IK) : Eng.exec Tryz.prog X0 [] 60 T51 (lhs body51) (mkFr (slE x lev i)) (mkMem (rowsE l)) (fun o fr' M' => I o (lv [1, 2, 13, 14, 15, 16] fr') (mv [0, 1] M')) =
  I .normal [some (.int .i64 (.ofNat lev)), some fC, some (.dslice x.args.length 7 x.el), some (.int .i64 (.ofNat x.args.length)), some (.int .i64 (.ofNat i)), some (.bool (ilt (.ofNat i) (.ofNat x.args.length)))] (mv [0, 1] (mkMem (rowsE l))) := by kernel_rfl
theorem start_n (o : Int) (nm : List UInt8) (r : Rt) (a : List Ex) (lev : Nat) (I : IK) : Eng.execN Tryz.prog X0 [] 60 T51 3 c51 (mkFr (argSlots (eaArgs (.mk o nm r a) lev) 0)) (mkMem (rowsE [])) (fun o fr' M' => I o (lv [1, 2, 13, 14, 15] fr') (mv [0, 4] M')) =
  ifB (ieq o 4) (I .normal (valsE (.mk o nm r a) lev 0) [some (.row [.slice 4 0 1 1 true] false 1), some (.row (toAVs (namesD [nm])) true 1)]) (I .normal (valsE (.mk o nm r a) lev 0) [some (.row (outRow 1 []) false 1), none]) := by kernel_rfl
noncomputable def growT (l : List (List UInt8)) (b : Bool) : Bool :=
  gateP (Nat.ble (Nat.add l.length 1) l.length = false) (gB (Nat.ble (Nat.mul l.length 1) (lenL (List.drop 0 (toAVs (namesD l))))) (gB (Nat.beq (lenL (toAVs (namesD l))) (Nat.mul l.length 1)) (gB (Nat.ble (Nat.add l.length 1) 9223372036854775807) (gB (Nat.ble (Nat.mul (Nat.add l.length 1) 16) 140737488355328) b))))
theorem start_c (o : Int) (nm : List UInt8) (r : Rt) (a : List Ex) (lev : Nat) (s : List UInt8) (l : List (List UInt8)) (I : IK) : Eng.execN Tryz.prog X0 [] 60 T51 3 c51 (mkFr (argSlots (eaArgs (.mk o nm r a) lev) 0)) (mkMem (rowsE (s :: l))) (fun o fr' M' => I o (lv [1, 2, 13, 14, 15] fr') (mv [0, 1, 5] M')) =
  ifB (ieq o 4) (growT (s :: l) (I .normal (valsE (.mk o nm r a) lev 0) [some (.row [.slice 5 0 (Nat.add (s :: l).length 1) (Nat.add (s :: l).length 1) true] false 1), some .dead, some (.row (List.append (List.take (Nat.mul (s :: l).length 1) (List.drop 0 (toAVs (namesD (s :: l))))) [strA nm]) true 1)]))
    (I .normal (valsE (.mk o nm r a) lev 0) [some (.row (outRow 1 (s :: l)) false 1), some (.row (toAVs (namesD (s :: l))) true 1), none]) := by kernel_rfl

theorem b0_nn (o : Int) (nm : List UInt8) (r : Rt) (y : Ex) (a : List Ex) (lev : Nat) (I : IK) : runB (.mk o nm r (y :: a)) lev 0 (eEa y (lev + 1) [] [] 2) [] [0] I = bodT (.mk o nm r (y :: a)) lev 0 (eEa y (lev + 1) [] [] 2) (I .normal (valsE (.mk o nm r (y :: a)) lev (0 + 1)) [some (.row (outRow 1 []) false 1)]) := by kernel_rfl
theorem b0_nc (o : Int) (nm : List UInt8) (r : Rt) (y : Ex) (a : List Ex) (lev : Nat) (s : List UInt8) (l : List (List UInt8)) (I : IK) : runB (.mk o nm r (y :: a)) lev 0 (eEa y (lev + 1) [] (s :: l) 2) [] [0, 2] I = bodT (.mk o nm r (y :: a)) lev 0 (eEa y (lev + 1) [] (s :: l) 2) (I .normal (valsE (.mk o nm r (y :: a)) lev (0 + 1)) [some (.row (outRow 2 (s :: l)) false 1), some (.row (toAVs (namesD (s :: l))) true 1)]) := by kernel_rfl
theorem b0_cc (o : Int) (nm : List UInt8) (r : Rt) (y : Ex) (a : List Ex) (lev : Nat) (s s2 : List UInt8) (l l2 : List (List UInt8)) (I : IK) : runB (.mk o nm r (y :: a)) lev 0 (eEa y (lev + 1) (s :: l) (s2 :: l2) 3) (s :: l) [0, 3] I = bodT (.mk o nm r (y :: a)) lev 0 (eEa y (lev + 1) (s :: l) (s2 :: l2) 3) (I .normal (valsE (.mk o nm r (y :: a)) lev (0 + 1)) [some (.row (outRow 3 (s2 :: l2)) false 1), some (.row (toAVs (namesD (s2 :: l2))) true 1)]) := by kernel_rfl
theorem b1_nn (o : Int) (nm : List UInt8) (r : Rt) (u0 y : Ex) (a : List Ex) (lev : Nat) (I : IK) : runB (.mk o nm r (u0 :: y :: a)) lev 1 (eEa y (lev + 1) [] [] 2) [] [0] I = bodT (.mk o nm r (u0 :: y :: a)) lev 1 (eEa y (lev + 1) [] [] 2) (I .normal (valsE (.mk o nm r (u0 :: y :: a)) lev (1 + 1)) [some (.row (outRow 1 []) false 1)]) := by kernel_rfl
theorem b1_nc (o : Int) (nm : List UInt8) (r : Rt) (u0 y : Ex) (a : List Ex) (lev : Nat) (s : List UInt8) (l : List (List UInt8)) (I : IK) : runB (.mk o nm r (u0 :: y :: a)) lev 1 (eEa y (lev + 1) [] (s :: l) 2) [] [0, 2] I = bodT (.mk o nm r (u0 :: y :: a)) lev 1 (eEa y (lev + 1) [] (s :: l) 2) (I .normal (valsE (.mk o nm r (u0 :: y :: a)) lev (1 + 1)) [some (.row (outRow 2 (s :: l)) false 1), some (.row (toAVs (namesD (s :: l))) true 1)]) := by kernel_rfl
theorem b1_cc (o : Int) (nm : List UInt8) (r : Rt) (u0 y : Ex) (a : List Ex) (lev : Nat) (s s2 : List UInt8) (l l2 : List (List UInt8)) (I : IK) : runB (.mk o nm r (u0 :: y :: a)) lev 1 (eEa y (lev + 1) (s :: l) (s2 :: l2) 3) (s :: l) [0, 3] I = bodT (.mk o nm r (u0 :: y :: a)) lev 1 (eEa y (lev + 1) (s :: l) (s2 :: l2) 3) (I .normal (valsE (.mk o nm r (u0 :: y :: a)) lev (1 + 1)) [some (.row (outRow 3 (s2 :: l2)) false 1), some (.row (toAVs (namesD (s2 :: l2))) true 1)]) := by kernel_rfl
theorem b2_nn (o : Int) (nm : List UInt8) (r : Rt) (u0 u1 y : Ex) (a : List Ex) (lev : Nat) (I : IK) : runB (.mk o nm r (u0 :: u1 :: y :: a)) lev 2 (eEa y (lev + 1) [] [] 2) [] [0] I = bodT (.mk o nm r (u0 :: u1 :: y :: a)) lev 2 (eEa y (lev + 1) [] [] 2) (I .normal (valsE (.mk o nm r (u0 :: u1 :: y :: a)) lev (2 + 1)) [some (.row (outRow 1 []) false 1)]) := by kernel_rfl
theorem b2_nc (o : Int) (nm : List UInt8) (r : Rt) (u0 u1 y : Ex) (a : List Ex) (lev : Nat) (s : List UInt8) (l : List (List UInt8)) (I : IK) : runB (.mk o nm r (u0 :: u1 :: y :: a)) lev 2 (eEa y (lev + 1) [] (s :: l) 2) [] [0, 2] I = bodT (.mk o nm r (u0 :: u1 :: y :: a)) lev 2 (eEa y (lev + 1) [] (s :: l) 2) (I .normal (valsE (.mk o nm r (u0 :: u1 :: y :: a)) lev (2 + 1)) [some (.row (outRow 2 (s :: l)) false 1), some (.row (toAVs (namesD (s :: l))) true 1)]) := by kernel_rfl
theorem b2_cc (o : Int) (nm : List UInt8) (r : Rt) (u0 u1 y : Ex) (a : List Ex) (lev : Nat) (s s2 : List UInt8) (l l2 : List (List UInt8)) (I : IK) : runB (.mk o nm r (u0 :: u1 :: y :: a)) lev 2 (eEa y (lev + 1) (s :: l) (s2 :: l2) 3) (s :: l) [0, 3] I = bodT (.mk o nm r (u0 :: u1 :: y :: a)) lev 2 (eEa y (lev + 1) (s :: l) (s2 :: l2) 3) (I .normal (valsE (.mk o nm r (u0 :: u1 :: y :: a)) lev (2 + 1)) [some (.row (outRow 3 (s2 :: l2)) false 1), some (.row (toAVs (namesD (s2 :: l2))) true 1)]) := by kernel_rfl
/-! the state of the names -/
def AtL (l : List (List UInt8)) (M : Mem) : Prop := ∃ i, M.t.get 0 = some (.row (outRow i l) false 1) ∧ (l = [] ∨ (i ≠ 0 ∧ M.t.get i = some (.row (toAVs (namesD l)) true 1)))
theorem AtL.rows (l : List (List UInt8)) : AtL l (mkMem (rowsE l)) := by
  cases l with
  | nil => exact ⟨1, rfl, .inl rfl⟩
  | cons s l => exact ⟨1, rfl, .inr ⟨by decide, rfl⟩⟩
theorem slE_vals (x : Ex) (lev i : Nat) (π : List Nat) (h : π[0]? = some 0) : vals2 π (slE x lev i) = valsE x lev i := by
  cases π with
  | nil => cases h
  | cons a π =>
    obtain rfl : a = 0 := by simpa using h
    rfl
theorem valsE_some (x : Ex) (lev i : Nat) : ∀ v ∈ valsE x lev i, v ≠ none := by
  intro v hv e
  subst e
  simp [valsE] at hv
theorem W.fromE {c : Code} {Q : AE → Fr → Mem → Prop} {fr : Fr} {M : Mem} {x : Ex} {lev i : Nat} {l : List (List UInt8)} (hv : lv [1, 2, 13, 14, 15] fr = valsE x lev i) (hM : AtL l M)
    (h : W Tryz.prog T51 1 c (mkFr (slE x lev i)) (mkMem (rowsE l)) Q) : W Tryz.prog T51 1 c fr M Q := by
  obtain ⟨j, h0, hj⟩ := hM
  cases l with
  | nil => exact W.next (π := [0]) (bs := [some (.row (outRow 1 []) false 1)]) hv (by show [M.t.get 0] = _; rw [h0]; rfl) (slE x lev i) (rowsE []) rfl (slE_vals x lev i [0] rfl) rfl (by decide) (valsE_some x lev i) (by simp) h
  | cons s l =>
    rcases hj with hj | ⟨hj0, hj⟩
    · cases hj
    refine W.next (π := [0, j]) (bs := [some (.row (outRow j (s :: l)) false 1), some (.row (toAVs (namesD (s :: l))) true 1)]) hv (by show [M.t.get 0, M.t.get j] = _; rw [h0, hj]) (slE x lev i) (rowsE (s :: l)) rfl (slE_vals x lev i [0, j] rfl) ?_ ?_ (valsE_some x lev i) (by simp) h
    · show [renB [0, j] (.row (outRow 1 (s :: l)) false 1), renB [0, j] (.row (toAVs (namesD (s :: l))) true 1)] = _
      rw [renB_data]
      rfl
    · unfold okPi
      have : (rowsE (s :: l)).length = 2 := rfl
      rw [this]
      simp [Ne.symm hj0]
theorem res51 : Tryz.f51.results.toList = [] := by kernel_rfl
theorem AtL.fin {l : List (List UInt8)} {fr : Fr} {M : Mem} (h : AtL l M) : FinN Tryz.prog Tryz.f51 1 (fun nx => [.row (outRow nx l) false 1]) (fun _ => looseOf l) (fun _ => .tuple []) .normal fr M := by
  obtain ⟨j, h0, hj⟩ := h
  cases l with
  | nil =>
    refine ⟨.inl rfl, [], [], ?_, List.nodup_nil, by simp, fun nx => ⟨rfl, .tuple _ _ .nil, fun i b hi => ?_, fun i b hi => by simp [looseOf] at hi⟩⟩
    · rw [res51]; exact pdec_iff.2 rfl
    · cases i with
      | zero =>
        obtain rfl : Blk.row (outRow nx []) false 1 = b := by simpa using hi
        exact ⟨_, h0, .row _ _ _ _ (.cons _ _ _ _ .nil .nil)⟩
      | succ i => simp at hi
  | cons s l =>
    rcases hj with hj | ⟨hj0, hj⟩
    · cases hj
    refine ⟨.inl rfl, [], [j], ?_, by simp, by simp; omega, fun nx => ⟨rfl, .tuple _ _ .nil, fun i b hi => ?_, fun i b hi => ?_⟩⟩
    · rw [res51]; exact pdec_iff.2 rfl
    · cases i with
      | zero =>
        obtain rfl : Blk.row (outRow nx (s :: l)) false 1 = b := by simpa using hi
        exact ⟨_, h0, .row _ _ _ _ (.cons _ _ _ _ (.nslice 0 _ _ _ _ _ rfl) .nil)⟩
      | succ i => simp at hi
    · cases i with
      | zero =>
        obtain rfl : Blk.row (toAVs (namesD (s :: l))) true 1 = b := by simpa [looseOf] using hi
        exact ⟨j, _, rfl, hj, .row _ _ _ _ (FzNs.sames _)⟩
      | succ i => simp [looseOf] at hi
/-! one round -/
theorem get3 {i : Nat} {args : List Ex} {y : Ex} (hi : i < 3) (hy : args[i]? = some y) : (i = 0 ∧ ∃ a, args = y :: a) ∨ (i = 1 ∧ ∃ u a, args = u :: y :: a) ∨ (i = 2 ∧ ∃ u v a, args = u :: v :: y :: a) := by
  rcases args with _ | ⟨u, _ | ⟨v, _ | ⟨z, a⟩⟩⟩
  · simp at hy
  · rcases i with _ | i
    · obtain rfl := Option.some.inj hy; exact .inl ⟨rfl, _, rfl⟩
    · simp at hy
  · rcases i with _ | _ | i
    · obtain rfl := Option.some.inj hy; exact .inl ⟨rfl, _, rfl⟩
    · obtain rfl := Option.some.inj hy; exact .inr (.inl ⟨rfl, _, _, rfl⟩)
    · simp at hy
  · rcases i with _ | _ | _ | i
    · obtain rfl := Option.some.inj hy; exact .inl ⟨rfl, _, rfl⟩
    · obtain rfl := Option.some.inj hy; exact .inr (.inl ⟨rfl, _, _, rfl⟩)
    · obtain rfl := Option.some.inj hy; exact .inr (.inr ⟨rfl, _, _, _, rfl⟩)
    · omega
theorem mv_two {M : Mem} {i : Nat} {a b : Option Blk} (h : mv [0, i] M = [a, b]) : M.t.get 0 = a ∧ M.t.get i = b := by
  have h' : [M.t.get 0, M.t.get i] = [a, b] := h
  simpa using h'
theorem round51 {x : Ex} {lev i : Nat} {y : Ex} {l l2 : List (List UInt8)} (hi : i < 3) (hy : x.args[i]? = some y) (hl : l2 = [] → l = []) (hlev : lev < 4611686018427387904) (hE : Ea y (lev + 1) l l2) {Q : AE → Fr → Mem → Prop}
    (hQ : ∀ fr M, lv [1, 2, 13, 14, 15] fr = valsE x lev (i + 1) → AtL l2 M → Q .normal fr M) : W Tryz.prog T51 1 (rhs (rhs body51)) (mkFr (slE x lev i)) (mkMem (rowsE l)) Q := by
  have key : ∀ nx π bs, nx = (rowsE l).length + 1 → (∀ I, runB x lev i (eEa y (lev + 1) l l2 nx) l π I = bodT x lev i (eEa y (lev + 1) l l2 nx) (I .normal (valsE x lev (i + 1)) bs)) → (∀ M, mv π M = bs → AtL l2 M) → W Tryz.prog T51 1 (rhs (rhs body51)) (mkFr (slE x lev i)) (mkMem (rowsE l)) Q := by
    intro nx π bs hnx hrun hat
    refine W.run hm (hXm hX0l (hE nx (by subst hnx; cases l <;> simp [looseOf, rowsE]))) (S := []) (fun _ h => by cases h) 60 _ π _ hrun ?_
    unfold bodT
    rw [gB_iff, gM_iff]
    exact ⟨smallI _ (by omega), pdec_iff.2 fun fr M hv hM => hQ fr M hv (hat M hM)⟩
  obtain ⟨o, nm, r, args⟩ := x
  have hy : args[i]? = some y := hy
  cases l with
  | nil =>
    cases l2 with
    | nil =>
      refine key 2 [0] [some (.row (outRow 1 []) false 1)] rfl ?_ (fun M h => ⟨1, (List.cons.inj h).1, .inl rfl⟩)
      rcases get3 hi hy with ⟨rfl, a, rfl⟩ | ⟨rfl, u0, a, rfl⟩ | ⟨rfl, u0, u1, a, rfl⟩
      · exact b0_nn o nm r y a lev
      · exact b1_nn o nm r u0 y a lev
      · exact b2_nn o nm r u0 u1 y a lev
    | cons s l2 =>
      refine key 2 [0, 2] [some (.row (outRow 2 (s :: l2)) false 1), some (.row (toAVs (namesD (s :: l2))) true 1)] rfl ?_ (fun M h => ⟨2, (mv_two h).1, .inr ⟨by decide, (mv_two h).2⟩⟩)
      rcases get3 hi hy with ⟨rfl, a, rfl⟩ | ⟨rfl, u0, a, rfl⟩ | ⟨rfl, u0, u1, a, rfl⟩
      · exact b0_nc o nm r y a lev s l2
      · exact b1_nc o nm r u0 y a lev s l2
      · exact b2_nc o nm r u0 u1 y a lev s l2
  | cons s l =>
    cases l2 with
    | nil => cases hl rfl
    | cons s2 l2 =>
      refine key 3 [0, 3] [some (.row (outRow 3 (s2 :: l2)) false 1), some (.row (toAVs (namesD (s2 :: l2))) true 1)] rfl ?_ (fun M h => ⟨3, (mv_two h).1, .inr ⟨by decide, (mv_two h).2⟩⟩)
      rcases get3 hi hy with ⟨rfl, a, rfl⟩ | ⟨rfl, u0, a, rfl⟩ | ⟨rfl, u0, u1, a, rfl⟩
      · exact b0_cc o nm r y a lev s s2 l l2
      · exact b1_cc o nm r u0 y a lev s s2 l l2
      · exact b2_cc o nm r u0 u1 y a lev s s2 l l2
/-! the loop -/
theorem loop51 {x : Ex} {lev : Nat} (ls : Nat → List (List UInt8)) (h3 : x.args.length ≤ 3) (hlev : lev < 4611686018427387904) (hmono : ∀ i, ls (i + 1) = [] → ls i = []) (hE : ∀ i y, x.args[i]? = some y → Ea y (lev + 1) (ls i) (ls (i + 1)))
    {fr : Fr} {M : Mem} (hv : lv [1, 2, 13, 14, 15] fr = valsE x lev 0) (hM : AtL (ls 0) M) :
    W Tryz.prog T51 1 (post 3 c51) fr M (FinN Tryz.prog Tryz.f51 1 (fun nx => [.row (outRow nx (ls x.args.length)) false 1]) (fun _ => looseOf (ls x.args.length)) (fun _ => .tuple [])) := by
  rw [post51]
  refine W.block (W.loop (σ := { i : Nat // i ≤ x.args.length }) (fun i fr M => lv [1, 2, 13, 14, 15] fr = valsE x lev i.1 ∧ AtL (ls i.1) M) (fun i => x.args.length - i.1) ?_ ⟨0, Nat.zero_le _⟩ ⟨hv, hM⟩)
  rintro ⟨i, hi⟩ fr M ⟨hv, hM⟩
  simp only at hv hM
  refine W.fromE hv hM ?_
  rw [body51_eq]
  refine W.seq (W.run hm hX0l (S := []) (fun _ h => by cases h) 60 _ [0, 1] _ (cond51 x lev i (ls i)) (pdec_iff.2 fun fr1 M1 hl1 hm1 => ?_))
  have h' : [fr1.get 1, fr1.get 2, fr1.get 13, fr1.get 14, fr1.get 15, fr1.get 16] = _ := hl1
  simp only [List.cons.injEq] at h'
  have hv1 : lv [1, 2, 13, 14, 15] fr1 = valsE x lev i := by
    show [fr1.get 1, fr1.get 2, fr1.get 13, fr1.get 14, fr1.get 15] = _
    rw [h'.1, h'.2.1, h'.2.2.1, h'.2.2.2.1, h'.2.2.2.2.1]
    rfl
  have hM1 : AtL (ls i) M1 := by
    obtain ⟨g0, g1⟩ := mv_two hm1
    cases hls : ls i with
    | nil => rw [hls] at g0; exact ⟨1, g0, .inl rfl⟩
    | cons s l => rw [hls] at g0 g1; exact ⟨1, g0, .inr ⟨by decide, g1⟩⟩
  show W Tryz.prog T51 1 (.seq (.cond (.tmp 16) .skip (.exit 0)) (rhs (rhs body51))) fr1 M1 _
  refine W.seq ?_
  by_cases hlt : i < x.args.length
  · have hc : ilt (.ofNat i) (.ofNat x.args.length) = true := by rw [natlt]; exact decide_eq_true hlt
    rw [hc] at h'
    refine W.cond true h'.2.2.2.2.2.1 (fun _ => W.skip ?_) (fun h => by cases h)
    show W Tryz.prog T51 1 (rhs (rhs body51)) fr1 M1 _
    refine W.fromE hv1 hM1 ?_
    refine round51 (y := x.args[i]) (by omega) (List.getElem?_eq_getElem hlt) (hmono i) hlev (hE i _ (List.getElem?_eq_getElem hlt)) (fun fr2 M2 hv2 hM2 => ?_)
    exact .inl ⟨rfl, ⟨i + 1, hlt⟩, by simp only; omega, hv2, hM2⟩
  · have hc : ilt (.ofNat i) (.ofNat x.args.length) = false := by rw [natlt]; exact decide_eq_false hlt
    rw [hc] at h'
    refine W.cond false h'.2.2.2.2.2.1 (fun h => by cases h) (fun _ => W.exit ?_)
    obtain rfl : i = x.args.length := by omega
    exact .inr ⟨by simp, Blkd_eq (AtL.fin hM1)⟩
/-! the whole of it -/
theorem take_names (l : List (List UInt8)) : List.take (Nat.mul l.length 1) (List.drop 0 (toAVs (namesD l))) = toAVs (namesD l) := by
  rw [List.drop_zero]
  apply List.take_of_length_le
  show (toAVs (namesD l)).length ≤ l.length * 1
  rw [toAVs_length, namesD_len]
  omega
theorem start51 {o : Int} {nm : List UInt8} {r : Rt} {a : List Ex} {lev : Nat} {l : List (List UInt8)} (hl : l.length < 1000000) {Q : AE → Fr → Mem → Prop}
    (hQ : ∀ fr M, lv [1, 2, 13, 14, 15] fr = valsE (.mk o nm r a) lev 0 → AtL (l ++ if o = 4 then [nm] else []) M → W Tryz.prog T51 1 (post 3 c51) fr M Q) : W Tryz.prog T51 1 c51 (mkFr (argSlots (eaArgs (.mk o nm r a) lev) 0)) (mkMem (rowsE l)) Q := by
  cases l with
  | nil =>
    refine W.runN hm hX0l (S := []) (fun _ h => by cases h) 60 3 _ [0, 4] _ (start_n o nm r a lev) ?_
    by_cases ho : o = 4
    · rw [ifB_true (show ieq o 4 = true by rw [ho]; rfl)]
      refine pdec_iff.2 fun fr M hv hM => hQ fr M hv ?_
      rw [if_pos ho]
      exact ⟨4, (mv_two hM).1, .inr ⟨by decide, (mv_two hM).2⟩⟩
    · rw [ifB_false (ieqf ho)]
      refine pdec_iff.2 fun fr M hv hM => hQ fr M hv ?_
      rw [if_neg ho]
      exact ⟨1, (mv_two hM).1, .inl rfl⟩
  | cons s l =>
    refine W.runN hm hX0l (S := []) (fun _ h => by cases h) 60 3 _ [0, 1, 5] _ (start_c o nm r a lev s l) ?_
    have three : ∀ {M : Mem} {a b c : Option Blk}, mv [0, 1, 5] M = [a, b, c] → M.t.get 0 = a ∧ M.t.get 1 = b ∧ M.t.get 5 = c := fun {M a b c} h => by
      have h' : [M.t.get 0, M.t.get 1, M.t.get 5] = [a, b, c] := h
      simpa using h'
    by_cases ho : o = 4
    · rw [ifB_true (show ieq o 4 = true by rw [ho]; rfl)]
      unfold growT
      rw [gateP_iff, gB_iff, gB_iff, gB_iff, gB_iff]
      rw [take_names]
      have hll : (toAVs (namesD (s :: l))).length = (s :: l).length := by rw [toAVs_length, namesD_len]
      refine ⟨?_, ?_, ?_, ?_, ?_, pdec_iff.2 fun fr M hv hM => hQ fr M hv ?_⟩
      · rw [← Bool.not_eq_true, Nat.ble_eq]; exact Nat.not_succ_le_self _
      · rw [Nat.ble_eq, lenL_eq, List.drop_zero, hll]; show (s :: l).length * 1 ≤ _; omega
      · rw [lenL_eq, hll]; show Nat.beq _ ((s :: l).length * 1) = true; rw [Nat.mul_one]; exact Nat.beq_refl _
      · rw [Nat.ble_eq]; show (s :: l).length + 1 ≤ _; omega
      · rw [Nat.ble_eq]; show ((s :: l).length + 1) * 16 ≤ _; omega
      · rw [if_pos ho]
        obtain ⟨g0, _, g5⟩ := three hM
        refine ⟨5, ?_, .inr ⟨by decide, ?_⟩⟩
        · rw [g0]
          show _ = some (Blk.row [.slice 5 0 (s :: (l ++ [nm])).length (s :: (l ++ [nm])).length true] false 1)
          have e : (s :: (l ++ [nm])).length = Nat.add (s :: l).length 1 := by simp
          rw [e]
        · rw [g5]
          have e : List.append (toAVs (namesD (s :: l))) [strA nm] = toAVs (namesD (s :: l ++ [nm])) := by
            rw [namesD_eq, namesD_eq, List.map_append]
            show toAVs _ ++ toAVs [sD nm] = _
            rw [← toAVs_append]
            rfl
          rw [e]
    · rw [ifB_false (ieqf ho)]
      refine pdec_iff.2 fun fr M hv hM => hQ fr M hv ?_
      rw [if_neg ho, List.append_nil]
      obtain ⟨g0, g1, _⟩ := three hM
      exact ⟨1, g0, .inr ⟨by decide, g1⟩⟩
theorem varsL_take : ∀ (args : List Ex) (i : Nat) (y : Ex), args[i]? = some y → varsL (args.take (i + 1)) = varsL (args.take i) ++ vars y
  | [], i, y, h => by simp at h
  | z :: args, 0, y, h => by obtain rfl := Option.some.inj h; simp [varsL]
  | z :: args, i + 1, y, h => by
    have := varsL_take args i y h
    simp only [List.take_succ_cons, varsL, this, List.append_assoc]
theorem size_take : ∀ (args : List Ex) (i : Nat) (y : Ex), args[i]? = some y → sizeL (args.take i) + y.size ≤ sizeL args
  | [], i, y, h => by simp at h
  | z :: args, 0, y, h => by obtain rfl := Option.some.inj h; simp [sizeL]
  | z :: args, i + 1, y, h => by
    have := size_take args i y h
    simp only [List.take_succ_cons, sizeL]
    omega
mutual
theorem vars_len : ∀ x : Ex, (vars x).length ≤ x.size
  | .mk o n r args => by
    have := varsL_len args
    simp only [vars, Ex.size, List.length_append]
    split <;> simp <;> omega
theorem varsL_len : ∀ l : List Ex, (varsL l).length ≤ sizeL l
  | [] => by simp [varsL]
  | y :: l => by
    have h1 := vars_len y
    have h2 := varsL_len l
    simp only [varsL, sizeL, List.length_append]
    omega
end
theorem each_any : ∀ {x : Ex}, WF x → ∀ lev l, lev + x.size ≤ 1000000 → l.length + x.size < 1000000 → Ea x lev l (l ++ vars x) := by
  intro x hx
  induction hx with
  | mk o n r args h1 h2 hal ha ih =>
    intro lev l hlev hl
    have es : (Ex.mk (.ofNat o) n r args).size = 1 + sizeL args := by simp [Ex.size]
    rw [es] at hlev hl
    have h3 : args.length ≤ 3 := hal ▸ nArgs_le o
    let l1 : List (List UInt8) := l ++ if (Int.ofNat o) = 4 then [n] else []
    have hl1 : l1.length ≤ l.length + 1 := by
      show (l ++ if (Int.ofNat o) = 4 then [n] else []).length ≤ _
      split <;> simp
    have hE : ∀ i y, args[i]? = some y → Ea y (lev + 1) (l1 ++ varsL (args.take i)) (l1 ++ varsL (args.take (i + 1))) := by
      intro i y hy
      have h5 := size_take args i y hy
      have h6 := varsL_len (args.take i)
      have := ih y (List.mem_of_getElem? hy) (lev + 1) (l1 ++ varsL (args.take i)) (by omega) (by rw [List.length_append]; omega)
      rw [varsL_take args i y hy, ← List.append_assoc]
      exact this
    have hfin : l1 ++ varsL (args.take args.length) = l ++ vars (.mk (.ofNat o) n r args) := by
      rw [List.take_length]
      show (l ++ _) ++ _ = _
      rw [List.append_assoc]
      simp only [vars]
    refine NSpec.of ok51 (by kernel_rfl) (fun _ => rfl) ?_ ?_ ?_ ?_
    · cases l with
      | nil => simp [looseOf, isRow]
      | cons s l => simp [looseOf, isRow]
    · cases l <;> rfl
    · cases l with
      | nil => intro b hb; obtain rfl : b = .row (outRow 1 []) false 1 := by simpa [looseOf] using hb
               rfl
      | cons s l =>
        intro b hb
        rcases List.mem_cons.1 hb with rfl | hb
        · rfl
        · obtain rfl : b = .row (toAVs (namesD (s :: l))) true 1 := List.mem_singleton.1 hb
          exact renB_data _ _ _ _
    · rw [← hfin]
      refine start51 (by omega) fun fr M hv hM => ?_
      refine loop51 (x := .mk (.ofNat o) n r args) (fun i => l1 ++ varsL (args.take i)) h3 (by omega) ?_ hE hv ?_
      · intro i h
        have h' : l1 ++ varsL (args.take (i + 1)) = [] := h
        cases hy : args[i]? with
        | some y =>
          rw [varsL_take args i y hy] at h'
          show l1 ++ varsL (args.take i) = []
          simp only [List.append_eq_nil_iff] at h' ⊢
          exact ⟨h'.1, h'.2.1⟩
        | none =>
          have hle := List.getElem?_eq_none_iff.1 hy
          show l1 ++ varsL (args.take i) = []
          rw [List.take_of_length_le (by omega)] at h'
          rw [List.take_of_length_le hle]
          exact h'
      · have : (fun i => l1 ++ varsL (args.take i)) 0 = l1 := by simp [varsL]
        show AtL ((fun i => l1 ++ varsL (args.take i)) 0) M
        rw [this]
        exact hM
end Go.Proofs.YtnljmpeaeajcoaaGreatDoor

namespace Go.Proofs.YtnljmpeaeajcoaaGreatDoor
open Go Go.Eng Go.Shelf Go.Proofs
local instance : Go.Eng.Mode := Sl
/-! Sort and Compact of a slice of strings: the library's contracts, at this program's numbers -/
def sortS_ren : Go.Shelf.Ren := ⟨fun | 6 => 53 | 8 => 71 | 9 => 70 | 19 => 99 | 20 => 100 | 21 => 90 | 22 => 91 | 23 => 92 | 24 => 93 | 25 => 94 | 26 => 95 | 27 => 96 | 28 => 97 | 29 => 98 | 36 => 113 | 31 => 114 | 32 => 115 | 37 => 116 | 38 => 117 | 39 => 118 | 41 => 134 | n => n, fun | 27 => 28 | 29 => 9 | 3 => 3 | 32 => 126 | 26 => 28 | 0 => 0 | 44 => 151 | 46 => 139 | 4 => 4 | 36 => 144 | 35 => 143 | 41 => 116 | 5 => 5 | 9 => 9 | 53 => 172 | 57 => 72 | 63 => 190 | 64 => 191 | n => n, fun | n => n⟩
theorem sortS : Go.Proofs.SlLaysM.n6 Tryz.prog sortS_ren where
  mixed := by kernel_rfl
  f6 := ⟨ "slices.Sort[[]string,string]", by decide, Tryz.func53.trans (congrArg some (by kernel_rfl))⟩
  f8 := Tryz.func71.trans (congrArg some (by kernel_rfl))
  f9 := ⟨ "slices.pdqsortOrdered[string]", by decide, Tryz.func70.trans (congrArg some (by kernel_rfl))⟩
  f19 := Tryz.func99.trans (congrArg some (by kernel_rfl))
  f20 := Tryz.func100.trans (congrArg some (by kernel_rfl))
  f21 := ⟨ "slices.insertionSortOrdered[string]", by decide, Tryz.func90.trans (congrArg some (by kernel_rfl))⟩
  f22 := ⟨ "slices.heapSortOrdered[string]", by decide, Tryz.func91.trans (congrArg some (by kernel_rfl))⟩
  f23 := ⟨ "slices.breakPatternsOrdered[string]", by decide, Tryz.func92.trans (congrArg some (by kernel_rfl))⟩
  f24 := ⟨ "slices.choosePivotOrdered[string]", by decide, Tryz.func93.trans (congrArg some (by kernel_rfl))⟩
  f25 := ⟨ "slices.reverseRangeOrdered[string]", by decide, Tryz.func94.trans (congrArg some (by kernel_rfl))⟩
  f26 := ⟨ "slices.partialInsertionSortOrdered[string]", by decide, Tryz.func95.trans (congrArg some (by kernel_rfl))⟩
  f27 := ⟨ "cmp.Less[string]", by decide, Tryz.func96.trans (congrArg some (by kernel_rfl))⟩
  f28 := ⟨ "slices.partitionEqualOrdered[string]", by decide, Tryz.func97.trans (congrArg some (by kernel_rfl))⟩
  f29 := ⟨ "slices.partitionOrdered[string]", by decide, Tryz.func98.trans (congrArg some (by kernel_rfl))⟩
  f31 := Tryz.func114.trans (congrArg some (by kernel_rfl))
  f32 := Tryz.func115.trans (congrArg some (by kernel_rfl))
  f36 := ⟨ "slices.siftDownOrdered[string]", by decide, Tryz.func113.trans (congrArg some (by kernel_rfl))⟩
  f37 := ⟨ "slices.medianAdjacentOrdered[string]", by decide, Tryz.func116.trans (congrArg some (by kernel_rfl))⟩
  f38 := ⟨ "slices.medianOrdered[string]", by decide, Tryz.func117.trans (congrArg some (by kernel_rfl))⟩
  f39 := ⟨ "cmp.isNaN[string]", by decide, Tryz.func118.trans (congrArg some (by kernel_rfl))⟩
  f41 := ⟨ "slices.order2Ordered[string]", by decide, Tryz.func134.trans (congrArg some (by kernel_rfl))⟩
  t0 := Tryz.underlying0
  a0 := Tryz.isAgg0
  z0 := Tryz.sizeOf0
  v0 := Tryz.zeroValue0
  t3 := Tryz.underlying3
  a3 := Tryz.isAgg3
  z3 := Tryz.sizeOf3
  v3 := Tryz.zeroValue3
  t4 := Tryz.underlying4
  a4 := Tryz.isAgg4
  z4 := Tryz.sizeOf4
  v4 := Tryz.zeroValue4
  t5 := Tryz.underlying5
  a5 := Tryz.isAgg5
  z5 := Tryz.sizeOf5
  v5 := Tryz.zeroValue5
  t9 := Tryz.underlying9
  a9 := Tryz.isAgg9
  z9 := Tryz.sizeOf9
  v9 := Tryz.zeroValue9
  t26 := Tryz.underlying28
  a26 := Tryz.isAgg28
  z26 := Tryz.sizeOf28
  v26 := Tryz.zeroValue28
  t27 := Tryz.underlying28
  a27 := Tryz.isAgg28
  z27 := Tryz.sizeOf28
  v27 := Tryz.zeroValue28
  t29 := Tryz.underlying9
  a29 := Tryz.isAgg9
  z29 := Tryz.sizeOf9
  v29 := Tryz.zeroValue9
  t32 := Tryz.underlying126
  a32 := Tryz.isAgg126
  z32 := Tryz.sizeOf126
  v32 := Tryz.zeroValue126
  t35 := Tryz.underlying143
  a35 := Tryz.isAgg143
  z35 := Tryz.sizeOf143
  v35 := Tryz.zeroValue143
  t36 := Tryz.underlying144
  a36 := Tryz.isAgg144
  z36 := Tryz.sizeOf144
  v36 := Tryz.zeroValue144
  t41 := Tryz.underlying116
  a41 := Tryz.isAgg116
  z41 := Tryz.sizeOf116
  v41 := Tryz.zeroValue116
  t44 := Tryz.underlying151
  a44 := Tryz.isAgg151
  z44 := Tryz.sizeOf151
  v44 := Tryz.zeroValue151
  t46 := Tryz.underlying139
  a46 := Tryz.isAgg139
  z46 := Tryz.sizeOf139
  v46 := Tryz.zeroValue139
  t53 := Tryz.underlying172
  a53 := Tryz.isAgg172
  z53 := Tryz.sizeOf172
  v53 := Tryz.zeroValue172
  t57 := Tryz.underlying72
  a57 := Tryz.isAgg72
  z57 := Tryz.sizeOf72
  v57 := Tryz.zeroValue72
  t63 := Tryz.underlying190
  a63 := Tryz.isAgg190
  z63 := Tryz.sizeOf190
  v63 := Tryz.zeroValue190
  t64 := Tryz.underlying191
  a64 := Tryz.isAgg191
  z64 := Tryz.sizeOf191
  v64 := Tryz.zeroValue191
def compS_ren : Go.Shelf.Ren := ⟨fun | 44 => 54 | n => n, fun | 25 => 28 | 26 => 9 | 3 => 3 | 4 => 4 | 0 => 0 | n => n, fun | n => n⟩
theorem compS : Go.Proofs.SlLaysN.n44 Tryz.prog compS_ren where
  mixed := by kernel_rfl
  f44 := ⟨ "slices.Compact[[]string,string]", by decide, Tryz.func54.trans (congrArg some (by kernel_rfl))⟩
  t0 := Tryz.underlying0
  a0 := Tryz.isAgg0
  z0 := Tryz.sizeOf0
  v0 := Tryz.zeroValue0
  t3 := Tryz.underlying3
  a3 := Tryz.isAgg3
  z3 := Tryz.sizeOf3
  v3 := Tryz.zeroValue3
  t4 := Tryz.underlying4
  a4 := Tryz.isAgg4
  z4 := Tryz.sizeOf4
  v4 := Tryz.zeroValue4
  t25 := Tryz.underlying28
  a25 := Tryz.isAgg28
  z25 := Tryz.sizeOf28
  v25 := Tryz.zeroValue28
  t26 := Tryz.underlying9
  a26 := Tryz.isAgg9
  z26 := Tryz.sizeOf9
  v26 := Tryz.zeroValue9
  i26 := by kernel_rfl

/-- a function of the library that puts strings anew into a slice of strings, as an entry of the engine -/
theorem strRel {ρ : Env} {s : List UInt8} {v : Value} (h : VRel ρ (strA s) v) : v = encStr s := by
  have h' : VRel ρ (.str s.length (enc s)) v := h
  generalize hn : s.length = n at h'
  generalize he : enc s = c at h'
  cases h' with
  | str l =>
    have : l = s := enc_inj _ _ hn.symm he.symm
    subst this
    rfl
theorem namesRel {ρ : Env} : ∀ {l : List (List UInt8)} {vs : List Value}, VsRel ρ (toAVs (namesD l)) vs → vs = l.map encStr
  | [], vs, h => by cases h; rfl
  | s :: l, vs, h => by
    have h' : VsRel ρ (strA s :: toAVs (namesD l)) vs := h
    cases h' with
    | cons _ v _ vs h1 h2 => rw [strRel h1, namesRel h2]; rfl
theorem relNames (ρ : Env) : ∀ l : List (List UInt8), VsRel ρ (toAVs (namesD l)) (l.map encStr)
  | [] => .nil
  | s :: l => .cons _ _ _ _ (.str s) (relNames ρ l)
theorem MSpec.putRow {f : FuncId} (hent : ∀ cargs w, (callFunc f cargs).run Tryz.prog w = .ok (.enter f cargs) w) {i cap nx : Nat} {op : Bool} {l l' : List (List UInt8)} (hl : l'.length = l.length) (hcap : l.length ≤ cap) {ans : AV}
    (h : ∀ (w : World) (B c : Nat), Go.Sort.Holds encStr w B 0 l.toArray → B < w.heap.size → l.length ≤ c → Calls Tryz.prog f #[.slice (some ⟨B, 0, none⟩) l.length c] w fun e w' =>
      ∃ cv, e = .returned cv ∧ (∀ (ρ : Env) (x : Nat), ρ i = some (B, x) → c = cap + (if op then x else 0) → VRel ρ ans cv) ∧ ∃ q os, w' = Go.Sort.grow (Go.Sort.putRow encStr (Go.Sort.ahead w q) B 0 l'.toArray) os) :
    MSpec Tryz.prog f ⟨[.slice i 0 l.length cap op], nx, [(i, .row (toAVs (namesD l)) op 1, .row (toAVs (namesD l')) op 1)], [], ans⟩ := by
  intro M M1 M' _ hU hN w0 R ρ w cargs hM hv
  obtain ⟨M2, g1, g2, g3, rfl⟩ := hU
  obtain rfl : M' = M1 := hN
  have hv : VsRel ρ [.slice i 0 l.length cap op] cargs.toList := hv
  refine .inr ⟨hent cargs w, ?_⟩
  generalize hc : cargs.toList = vs at hv
  cases hv with
  | cons _ v _ vs2 h1 h2 =>
    cases h2
    cases h1 with
    | slice _ _ _ _ _ B x c hr hcc =>
      obtain rfl : cargs = #[.slice (some ⟨B, 0, none⟩) l.length c] := by
        apply Array.toList_inj.1; exact hc
      obtain ⟨arr, t, ho, hrel, hsz⟩ := hM.row g1 hr
      have hln : (toAVs (namesD l)).length = l.length := by rw [toAVs_length, namesD_len]
      have hln' : (toAVs (namesD l')).length = l.length := by rw [toAVs_length, namesD_len, hl]
      rw [hln] at hrel hsz
      have htake := namesRel hrel
      have hle : l.length ≤ arr.size := by omega
      have hB : B < w.heap.size := (Array.getElem?_eq_some_iff.1 ho).1
      have hH : Go.Sort.Holds encStr w B 0 l.toArray := by
        intro j hj
        have hj' : j < l.length := by simpa using hj
        constructor
        · show (match w.heap[B]? with | some (.cells c _ _) => if (none : Option _).isSome then none else c[0 + j]? | _ => none) = _
          rw [ho]
          show arr[0 + j]? = _
          rw [Nat.zero_add, ← Array.getElem?_toList]
          have : (arr.toList.take l.length)[j]? = (l.map encStr)[j]? := by rw [htake]
          rw [List.getElem?_take_of_lt hj', List.getElem?_map, List.getElem?_eq_getElem hj'] at this
          rw [this]
          simp [hj']
        · show (match w.heap[B]? with | some (.cells _ _ (lo, hi)) => lo ≤ 0 + j && 0 + j < hi | _ => false) = false
          rw [ho]
          simp
      refine (h w B c hH hB (by omega)).mono fun e w' => ?_
      rintro ⟨cv, rfl, hcv, q, os, rfl⟩
      refine ⟨ρ, cv, Env.le.refl _, rfl, hcv ρ x hr hcc, ?_⟩
      have hMM : M' = ⟨M'.t, M.nx⟩ := by cases M'; simp only at g3; rw [g3]
      rw [hMM]
      refine hM.set g1 (by simp) hr (.row (toAVs (namesD l')) op 1) (.cells (Go.Sort.putCells encStr 0 l'.toArray arr) t (0, 0)) (fun k => g2 k) rfl rfl rfl ?_ ?_ ?_ ?_
      · simp [Go.Sort.grow, Go.Sort.putRow, Go.Sort.mapBlock, Go.Sort.ahead]
      · intro k hk hks
        rw [Go.Sort.heap_grow_old _ _ (by simpa [Go.Sort.putRow, Go.Sort.mapBlock, Go.Sort.ahead] using hks)]
        have : B ≠ k := Ne.symm hk
        simp [Go.Sort.putRow, Go.Sort.mapBlock, Go.Sort.ahead, Array.getElem?_modify, this]
      · rw [Go.Sort.heap_grow_old _ _ (by simpa [Go.Sort.putRow, Go.Sort.mapBlock, Go.Sort.ahead] using hB)]
        simp [Go.Sort.putRow, Go.Sort.mapBlock, Go.Sort.ahead, Array.getElem?_modify, ho, Go.Sort.onCells]
      · refine ⟨?_, ?_, rfl⟩
        · rw [hln', ← hl, take_putCells arr l' (by omega)]
          exact relNames ρ l'
        · rw [hln']
          simp [Go.Sort.putCells, hsz]
end Go.Proofs.YtnljmpeaeajcoaaGreatDoor

namespace Go.Proofs.YtnljmpeaeajcoaaGreatDoor
open Go Go.Eng Go.Vi Go.Knuth
local instance : Go.Eng.Mode := Sl
theorem entered {f : FuncId} {fn : Func} (hf : FnOk Tryz.prog f fn) (cargs : Array Value) (w : World) : (callFunc f cargs).run Tryz.prog w = .ok (.enter f cargs) w := by
  have hne : ¬ fn.name = "runtime.NumGoroutine" := by simpa using hf.name
  simp [callFunc, hf.at_, hne, codeOf_some hf.body]
theorem ok53 : FnOk Tryz.prog 53 Tryz.f53 := ⟨Tryz.func53, by kernel_rfl, by kernel_rfl⟩
theorem ok54 : FnOk Tryz.prog 54 Tryz.f54 := ⟨Tryz.func54, by kernel_rfl, by kernel_rfl⟩
noncomputable def srt (l : List (List UInt8)) : List (List UInt8) := l.mergeSort fun x y => decide (x ≤ y)
noncomputable def cmp (l : List (List UInt8)) : List (List UInt8) := Go.Lib.compact l
noncomputable def pad (l : List (List UInt8)) : List (List UInt8) := cmp l ++ List.replicate (l.length - (cmp l).length) []
theorem srt_len (l : List (List UInt8)) : (srt l).length = l.length := List.length_mergeSort l
theorem srt_mem (l : List (List UInt8)) (s : List UInt8) : s ∈ srt l ↔ s ∈ l := (List.mergeSort_perm l _).mem_iff
noncomputable def mSort (b nx : Nat) (l : List (List UInt8)) : MEnt := ⟨[.slice b 0 l.length l.length true], nx, [(b, .row (toAVs (namesD l)) true 1, .row (toAVs (namesD (srt l))) true 1)], [], .tuple []⟩
noncomputable def mComp (b nx n : Nat) (l : List (List UInt8)) : MEnt := ⟨[.slice b 0 n n true], nx, [(b, .row (toAVs (namesD l)) true 1, .row (toAVs (namesD (pad l))) true 1)], [], .slice b 0 (cmp l).length n true⟩
set_option linter.unusedVariables false in
theorem mSort_ok (b nx : Nat) (l : List (List UInt8)) (hl : l.length < 4611686018427387904) : MSpec Tryz.prog 53 (mSort b nx l) :=
  MSpec.putRow (entered ok53) (srt_len l) (Nat.le_refl _) fun w B c hH hB hc => (AnyM.slices_Sort_string sortS B 0 c l w hH hB hl).mono fun e w' ⟨h1, n, os, h2⟩ => ⟨_, h1, fun ρ x _ _ => .tuple _ _ .nil, n, os, h2⟩
theorem cmpn_len (l : List (List UInt8)) : (cmp l).length ≤ l.length := by
  unfold cmp Go.Lib.compact Go.Lib.compactUpTo
  rw [List.length_map]
  exact Nat.le_trans (List.length_filter_le _ _) (by simp)
theorem cmp_mem {l : List (List UInt8)} {s : List UInt8} (h : s ∈ cmp l) : s ∈ l := by
  unfold cmp Go.Lib.compact Go.Lib.compactUpTo at h
  obtain ⟨j, hj, rfl⟩ := List.mem_map.1 h
  have hlt : j < l.length := List.mem_range.1 (List.mem_filter.1 hj).1
  have : l.toArray[j]! = l[j] := by simp [hlt]
  rw [this]
  exact List.getElem_mem hlt
theorem mComp_ok (b nx : Nat) {n : Nat} (l : List (List UInt8)) (hn : l.length = n) (hl : n < 4611686018427387904) : MSpec Tryz.prog 54 (mComp b nx n l) := by
  subst hn
  have := cmpn_len l
  exact MSpec.putRow (entered ok54) (l' := pad l) (by unfold pad; simp; omega) (Nat.le_refl _) fun w B c hH _ hc => (AnyG.slices_Compact_string compS B 0 c l w hH (by omega) hc).mono fun _ _ ⟨h1, q, h2⟩ =>
    ⟨_, h1, fun _ x hr hcc => .slice _ _ _ _ _ B x c hr hcc, q, #[], h2.trans (Go.Sort.grow_empty _).symm⟩
noncomputable def mNil (ans : AV) (nx : Nat) : MEnt := ⟨[.nilSlice], nx, [], [], ans⟩
theorem nil_inv {ρ : Env} {cargs : Array Value} (h : VsRel ρ [.nilSlice] cargs.toList) : cargs = #[.slice none 0 0] := by
  generalize hc : cargs.toList = vs at h
  cases h with
  | cons _ v _ vs h1 h2 => cases h1; cases h2; apply Array.toList_inj.1; exact hc
theorem mNil53 (nx : Nat) : MSpec Tryz.prog 53 (mNil (.tuple []) nx) := by
  intro M M1 M' _ hU hN w0 R ρ w cargs hM hv
  obtain rfl : M1 = M := hU
  obtain rfl : M' = M1 := hN
  obtain rfl := nil_inv hv
  exact .inr ⟨entered ok53 _ _, (AnyM.slices_Sort_string_none sortS none 0 w).mono fun e w' ⟨h1, h2⟩ => ⟨ρ, _, Env.le.refl _, h1, .tuple _ _ .nil, h2 ▸ hM⟩⟩
theorem mNil54 (nx : Nat) : MSpec Tryz.prog 54 (mNil .nilSlice nx) := by
  intro M M1 M' _ hU hN w0 R ρ w cargs hM hv
  obtain rfl : M1 = M := hU
  obtain rfl : M' = M1 := hN
  obtain rfl := nil_inv hv
  exact .inr ⟨entered ok54 _ _, (AnyG.slices_Compact_string_empty compS none 0 w).mono fun e w' ⟨h1, h2⟩ => ⟨ρ, _, Env.le.refl _, h1, .nilSlice, h2 ▸ hM⟩⟩
/-! Variables -/
theorem ok29 : FnOk Tryz.prog 29 Tryz.f29 := ⟨Tryz.func29, by kernel_rfl, by kernel_rfl⟩
noncomputable def c29 : Code := codeOf Tryz.f29
noncomputable def T29 : Nat := Tryz.f29.ntmps
noncomputable def rows29 (x : Ex) : List Blk := [.row [.nilSlice] false 1, .row (toAVs (exD x)) false 1]
noncomputable def sl29 : List (Nat × AV) := [(1, .ptr 1 0), (3, .ptr 0 0)]
theorem start29 (x : Ex) (I : IK) : Eng.execN Tryz.prog X0 [] 60 T29 2 c29 (mkFr (argSlots [exA x] 0)) (mkMem []) (fun o fr' M' => I o (lv [1, 3] fr') (mv [1, 0] M')) = I .normal [some (.ptr 0 0), some (.ptr 1 0)] [some (.row [.nilSlice] false 1), some (.row (toAVs (exD x)) false 1)] := by kernel_rfl
noncomputable def X29 (e1 e2 e3 : MEnt) : FuncId → Option Ext := Xm (Xm (Xm X0 51 e1) 53 e2) 54 e3
noncomputable def run29 (x : Ex) (e1 e2 e3 : MEnt) (I : AV → List (Option Blk) → Bool) : Bool :=
  Eng.exec Tryz.prog (X29 e1 e2 e3) [] 60 T29 (post 2 c29) (mkFr sl29) (mkMem (rows29 x)) (fun o fr M => endK o (resK Tryz.prog fr M Tryz.f29.results.toList fun vs => I (oneOf vs) (mv [2] M)))
/-- a slice of strings -/
noncomputable def nmEl (l : List (List UInt8)) (i : Nat) : List Dat := [sD (l.getD i [])]
noncomputable def nmsD (l : List (List UInt8)) : Dat := .slice l.length 1 (nmEl l)
noncomputable def nmsA (l : List (List UInt8)) : AV := .dslice l.length 1 (nmEl l)
theorem v29_n (x : Ex) (I) : run29 x (eEa x 1 [] [] 2) (mNil (.tuple []) 2) (mNil .nilSlice 2) I = gM (eEa x 1 [] [] 2) (gM (mNil (.tuple []) 2) (gM (mNil .nilSlice 2) (I .nilSlice [none]))) := by kernel_rfl
theorem v29_c (x : Ex) (s : List UInt8) (l : List (List UInt8)) (I) : run29 x (eEa x 1 [] (s :: l) 2) (mSort 2 3 (s :: l)) (mComp 2 3 (s :: l).length (srt (s :: l))) I =
  gM (eEa x 1 [] (s :: l) 2) (gM (mSort 2 3 (s :: l)) (gM (mComp 2 3 (s :: l).length (srt (s :: l))) (I (.slice 2 0 (cmp (srt (s :: l))).length (s :: l).length true) [some (.row (toAVs (namesD (pad (srt (s :: l))))) true 1)]))) := by kernel_rfl
theorem toAVs_map (l : List (List UInt8)) : toAVs (namesD l) = l.map strA := by
  induction l with
  | nil => rfl
  | cons s l ih => exact congrArg (strA s :: ·) ih
theorem names_el (R Z : List (List UInt8)) (i : Nat) (hi : i < R.length) : ((toAVs (namesD (R ++ Z))).drop (0 + i * 1)).take 1 = toAVs (nmEl R i) := by
  rw [toAVs_map, Nat.zero_add, Nat.mul_one, ← List.map_drop, ← List.map_take]
  have h1 : (R ++ Z).drop i = R[i] :: (R ++ Z).drop (i + 1) := by
    rw [List.drop_eq_getElem_cons (by simp; omega), List.getElem_append_left hi]
  rw [h1]
  show [strA R[i]] = [strA (R.getD i [])]
  rw [List.getD_eq_getElem?_getD, List.getElem?_eq_getElem hi]
  rfl
theorem variables_any {x : Ex} (hx : WF x) (hsz : x.size < 1000000) : ∃ R : List (List UInt8), (∀ s ∈ R, s ∈ vars x) ∧ R.length ≤ x.size ∧ BSim Tryz.prog 29 [exA x] [] [] (nmsA R) := by
  have hE := each_any hx 1 [] (by omega) (by simpa using hsz)
  rw [List.nil_append] at hE
  have hlen := vars_len x
  refine ⟨cmp (srt (vars x)), fun s hs => (srt_mem _ _).1 (cmp_mem hs), Nat.le_trans (cmpn_len _) (by rw [srt_len]; exact hlen), ?_⟩
  refine BSim.of_W ok29.at_ (codeOf_some ok29.body) ok29.name (nble_le (by kernel_rfl)) rfl ?_
  refine W.runN hm hX0l (S := []) (fun _ h => by cases h) 60 2 [1, 3] [1, 0] _ (start29 x) (pdec_iff.2 fun fr M hv hM => ?_)
  show W Tryz.prog T29 0 (post 2 c29) fr M _
  refine W.next0 (vs := [.ptr 0 0, .ptr 1 0]) (bs := [.row [.nilSlice] false 1, .row (toAVs (exD x)) false 1]) (π := [1, 0]) hv hM sl29 (rows29 x) rfl rfl ?_ (show okPi 0 [1, 0] 2 = true by decide) ?_
  · show [renB [1, 0] (.row [.nilSlice] false 1), renB [1, 0] (.row (toAVs (exD x)) false 1)] = _
    rw [renB_data]
    rfl
  generalize hvs : vars x = L at hE hlen
  cases L with
  | nil =>
    refine W.finRun (fn := Tryz.f29) hm (hXm (hXm (hXm hX0l (hE 2 (by decide))) (mNil53 2)) (mNil54 2)) (S := []) (fun _ h => by cases h) 60 [2] _ (v29_n x) ?_
    rw [gM_iff, gM_iff, gM_iff]
    refine pdec_iff.2 (Leaf.flat fun M' _ => .dat _ (nmsD (cmp (srt []))) ?_)
    have h0 : (cmp (srt ([] : List (List UInt8)))).length = 0 := Nat.eq_zero_of_le_zero (Nat.le_trans (cmpn_len _) (by rw [srt_len]; exact Nat.le_refl _))
    show FzD 0 M' .nilSlice (.slice (cmp (srt ([] : List (List UInt8)))).length 1 (nmEl (cmp (srt []))))
    rw [h0]
    exact .nil _ _
  | cons s l =>
    refine W.finRun (fn := Tryz.f29) hm (hXm (hXm (hXm hX0l (hE 2 (by decide))) (mSort_ok 2 3 (s :: l) (by omega))) (mComp_ok 2 3 (n := (s :: l).length) (srt (s :: l)) (srt_len _) (by omega))) (S := []) (fun _ h => by cases h) 60 [2] _ (v29_c x s l) ?_
    rw [gM_iff, gM_iff, gM_iff]
    refine pdec_iff.2 (Leaf.flat fun M' hM' => .dat _ (nmsD (cmp (srt (s :: l)))) ?_)
    have hb : M'.t.get 2 = some (.row (toAVs (namesD (pad (srt (s :: l))))) true 1) := (List.cons.inj hM').1
    have hc := cmpn_len (srt (s :: l))
    have hpl : (toAVs (namesD (pad (srt (s :: l))))).length = (srt (s :: l)).length := by
      rw [toAVs_length, namesD_len]; unfold pad; simp; omega
    refine .slice 2 0 _ _ true _ true 1 1 _ (Nat.zero_le _) hb (by rw [srt_len] at hc; exact hc) (by rw [hpl]; omega) fun i hi => ?_
    have : pad (srt (s :: l)) = cmp (srt (s :: l)) ++ List.replicate ((srt (s :: l)).length - (cmp (srt (s :: l))).length) [] := rfl
    rw [this, names_el _ _ i hi]
    exact .cons _ _ _ _ (.same (sD _)) .nil
end Go.Proofs.YtnljmpeaeajcoaaGreatDoor

namespace Go.Proofs.YtnljmpeaeajcoaaGreatDoor
open Go Go.Eng Go.Vi Go.Knuth
local instance : Go.Eng.Mode := Sl
/-! queries -/
noncomputable def qD (k : Int) (V : List (List UInt8)) (x : Ex) : List Dat := .int .i64 k :: nmsD V :: exD x
noncomputable def qA (k : Int) (V : List (List UInt8)) (x : Ex) : AV := .agg (toAVs (qD k V x))
/-! Contains -/
theorem ok30 : FnOk Tryz.prog 30 Tryz.f30 := ⟨Tryz.func30, by kernel_rfl, by kernel_rfl⟩
theorem ok18 : FnOk Tryz.prog 18 Tryz.f18 := ⟨Tryz.func18, by kernel_rfl, by kernel_rfl⟩
noncomputable def c18 : Code := codeOf Tryz.f18
noncomputable def T18 : Nat := Tryz.f18.ntmps
noncomputable def eCe (x : Ex) (e : Int) : FuncId × SEnt := (24, ⟨[exA x], [], .int .i64 e⟩)
noncomputable def eNm' (s : List UInt8) (b : Bool) : FuncId × SEnt := (28, ⟨[strA s], [], .bool b⟩)
noncomputable def run18 (S : List (FuncId × SEnt)) (n : Nat) (k : Int) (V : List (List UInt8)) (x : Ex) (I : IK) : Bool :=
  Eng.execN Tryz.prog X0 S 60 T18 n c18 (mkFr (argSlots [qA k V x] 0)) (mkMem []) (fun o fr' M' => I o (lv [1, 2] fr') (mv [0] M'))
noncomputable def eCon (V : List (List UInt8)) (v : List UInt8) (b : Bool) : FuncId × SEnt := (30, ⟨[nmsA V, strA v], [], .bool b⟩)
noncomputable def eVar (x : Ex) (R : List (List UInt8)) : FuncId × SEnt := (29, ⟨[exA x], [], nmsA R⟩)
noncomputable def leaf18 (k : Int) (V : List (List UInt8)) (x : Ex) (I : IK) (o : AE) (e : Int) : Bool := I o [some (.ptr 0 0), some (.int .i64 e)] [some (.row (toAVs (qD k V x)) false 1)]
noncomputable def tail18 (k : Int) (V : List (List UInt8)) (x : Ex) (e : Int) (I : IK) : Bool := gD (eCe x e) (ifB (Bool.not (ieq e 0)) (leaf18 k V x I .ret e) (leaf18 k V x I .normal 0))
theorem early18 (k : Int) (V : List (List UInt8)) (x : Ex) (I) : run18 [] 2 k V x I = ifB (ilt k 1) (leaf18 k V x I .ret 4) (ifB (ilt 3 k) (leaf18 k V x I .ret 4) (gB (inI64 (Int.sub k 1)) (ifB (Bool.not (ieq (.ofNat V.length) (Int.sub k 1))) (leaf18 k V x I .ret 5) (leaf18 k V x I .normal 0)))) := by kernel_rfl
theorem zero18 (x : Ex) (e : Int) (I) : run18 [eCe x e] 5 1 [] x I = tail18 1 [] x e I := by kernel_rfl
theorem one18 (s : List UInt8) (b : Bool) (x : Ex) (e : Int) (I) : run18 [eNm' s b, eCe x e] 5 2 [s] x I = gD (eNm' s b) (ifB (Bool.not b) (leaf18 2 [s] x I .ret 34) (tail18 2 [s] x e I)) := by kernel_rfl
theorem two18 (s t : List UInt8) (b c : Bool) (x : Ex) (e : Int) (I) : run18 [eNm' s b, eNm' t c, eCe x e] 5 3 [s, t] x I =
  gD (eNm' s b) (ifB (Bool.not b) (leaf18 3 [s, t] x I .ret 34) (gD (eNm' t c) (ifB (Bool.not c) (leaf18 3 [s, t] x I .ret 34) (ifB (seqA s.length (enc s) t.length (enc t)) (leaf18 3 [s, t] x I .ret 8) (tail18 3 [s, t] x e I))))) := by kernel_rfl
theorem con_0 (v : List UInt8) (I) : runF Tryz.f30 [] [nmsA [], strA v] I = I (.bool false) [] := by kernel_rfl
theorem con_1 (s v : List UInt8) (I) : runF Tryz.f30 [] [nmsA [s], strA v] I = ifB (seqA v.length (enc v) s.length (enc s)) (I (.bool true) []) (I (.bool false) []) := by kernel_rfl
theorem con_2 (s t v : List UInt8) (I) : runF Tryz.f30 [] [nmsA [s, t], strA v] I = ifB (seqA v.length (enc v) s.length (enc s)) (I (.bool true) []) (ifB (seqA v.length (enc v) t.length (enc t)) (I (.bool true) []) (I (.bool false) [])) := by kernel_rfl
noncomputable def r16c : Code := lhs (lhs (post 5 c18))
noncomputable def body18 : Code := bodyOf (bodyOf (rhs (lhs (post 5 c18))))
theorem blk18 : rhs (lhs (post 5 c18)) = .block 3 (.loop body18) := by kernel_rfl
noncomputable def rowQ (k : Int) (V : List (List UInt8)) (x : Ex) : Blk := .row (toAVs (qD k V x)) false 1
noncomputable def slQ (R : List (List UInt8)) (i : Nat) : List (Nat × AV) := [(1, .ptr 0 0), (59, nmsA R), (60, .int .i64 (.ofNat R.length)), (61, .int .i64 (.ofNat i))]
noncomputable def runQ (k : Int) (V : List (List UInt8)) (x : Ex) (R : List (List UInt8)) (i : Nat) (b : Bool) (I : IK) : Bool :=
  Eng.exec Tryz.prog X0 [eCon V (R.getD i []) b] 60 T18 body18 (mkFr (slQ R i)) (mkMem [rowQ k V x]) (fun o fr' M' => I o (lv [1, 59, 60, 61, 2] fr') (mv [0] M'))
theorem vars_run (k : Int) (V R : List (List UInt8)) (x : Ex) (I : IK) : Eng.exec Tryz.prog X0 [eVar x R] 60 T18 r16c (mkFr [(1, .ptr 0 0)]) (mkMem [rowQ k V x]) (fun o fr' M' => I o (lv [1, 59, 60, 61] fr') (mv [0] M')) =
  gD (eVar x R) (I .normal [some (.ptr 0 0), some (nmsA R), some (.int .i64 (.ofNat R.length)), some (.int .i64 (.ofNat 0))] [some (rowQ k V x)]) := by kernel_rfl
noncomputable def vsQ (R : List (List UInt8)) (i : Nat) (e : Option AV) : List (Option AV) := [some (.ptr 0 0), some (nmsA R), some (.int .i64 (.ofNat R.length)), some (.int .i64 (.ofNat i)), e]
theorem loop_run (k : Int) (V : List (List UInt8)) (x : Ex) (R : List (List UInt8)) (i : Nat) (b : Bool) (I : IK) : runQ k V x R i b I =
  ifB (ilt (.ofNat i) (.ofNat R.length)) (gB (Nat.blt i R.length) (gD (eCon V (R.getD i []) b) (ifB (Bool.not b) (I .ret (vsQ R i (some (.int .i64 16))) [some (rowQ k V x)]) (gB (inI64 (.ofNat (i + 1))) (I .normal (vsQ R (i + 1) none) [some (rowQ k V x)])))))
    (I (.exit 3) (vsQ R i none) [some (rowQ k V x)]) := by kernel_rfl
theorem endQ_run (k : Int) (V R : List (List UInt8)) (x : Ex) (i : Nat) (I : IK) : Eng.exec Tryz.prog X0 [] 60 T18 (rhs (post 5 c18)) (mkFr (slQ R i)) (mkMem [rowQ k V x]) (fun o fr' M' => I o (lv [2] fr') (mv [0] M')) = I .ret [some (.int .i64 0)] [some (rowQ k V x)] := by kernel_rfl
/-! what Contains answers -/
theorem bleaf {b c : Bool} (h : c = b) : pdec (Leaf 0 [] [] (.bool c) (.bool b) []) = true := by
  subst h
  exact pdec_iff.2 (Leaf.flat fun _ _ => .dat _ _ (.same (.bool c)))
theorem notT : Bool.not true = false := rfl
theorem notF : Bool.not false = true := rfl
theorem seq_iff {s t : List UInt8} : seqA s.length (enc s) t.length (enc t) = decide (s = t) := by rw [seqA_iff]; by_cases h : s = t <;> simp [h]
theorem contains_any {V : List (List UInt8)} (hV : V.length ≤ 2) (v : List UInt8) : BSim Tryz.prog 30 [nmsA V, strA v] [] [] (.bool (decide (v ∈ V))) := by
  rcases V with _ | ⟨s, _ | ⟨t, _ | ⟨u, l⟩⟩⟩
  · exact BSim.run hm hX0l (S := []) (fun _ h => by cases h) ok30 (by kernel_rfl) rfl 300 [] _ (con_0 v) (bleaf (by simp))
  · refine BSim.run hm hX0l (S := []) (fun _ h => by cases h) ok30 (by kernel_rfl) rfl 300 [] _ (con_1 s v) ?_
    rw [seq_iff]
    by_cases h : v = s
    · rw [ifB_true (decide_eq_true h)]; exact bleaf (by simp [h])
    · rw [ifB_false (decide_eq_false h)]; exact bleaf (by simp [h])
  · refine BSim.run hm hX0l (S := []) (fun _ h => by cases h) ok30 (by kernel_rfl) rfl 300 [] _ (con_2 s t v) ?_
    rw [seq_iff, seq_iff]
    by_cases h : v = s
    · rw [ifB_true (decide_eq_true h)]; exact bleaf (by simp [h])
    · rw [ifB_false (decide_eq_false h)]
      by_cases h2 : v = t
      · rw [ifB_true (decide_eq_true h2)]; exact bleaf (by simp [h2])
      · rw [ifB_false (decide_eq_false h2)]; exact bleaf (by simp [h, h2])
  · simp at hV
/-! Check -/
theorem res18 : Tryz.f18.results.toList = [.tmp 2] := by kernel_rfl
/-- all is right -/
def GoodQ (k : Int) (V : List (List UInt8)) (x : Ex) (nb : List UInt8 → Bool) (ce : Int) : Prop := 1 ≤ k ∧ k ≤ 3 ∧ (V.length : Int) = k - 1 ∧ (∀ s ∈ V, nb s = true) ∧ V.Nodup ∧ ce = 0 ∧ ∀ v ∈ vars x, v ∈ V
def P18 (k : Int) (V : List (List UInt8)) (x : Ex) (nb : List UInt8 → Bool) (ce : Int) (a : AV) : Prop := ∃ e : Int, a = .int .i64 e ∧ (GoodQ k V x nb ce → e = 0) ∧ (e = 0 → ce = 0 ∧ 1 ≤ k ∧ k ≤ 3 ∧ (V.length : Int) = k - 1)
theorem fin_oneL {fn : Func} {a : Nat} (hres : fn.results.toList = [.tmp a]) {k : Nat} {rows1 : List (List Dat)} {Pr : AV → Prop} {fr : Fr} {M : Mem} {x : AV} (hl : fr.get a = some x)
    (h : ∃ ans, Pr ans ∧ FzA k M x ans ∧ ∀ (j : Nat) (r : List Dat), rows1[j]? = some r → ∃ c sz, M.t.get j = some (.row c false sz) ∧ FzDs k M c r) : FinEx Tryz.prog fn k rows1 Pr .ret fr M := by
  obtain ⟨ans, hp, hf, hr⟩ := h
  refine ⟨ans, hp, .inr rfl, [x], ?_, hf, hr⟩
  rw [hres]
  show getT fr a (fun v => pdec ([v] = [x])) = true
  rw [getT_iff]
  exact ⟨x, hl, pdec_iff.2 rfl⟩
theorem fin18 {k : Int} {V : List (List UInt8)} {x : Ex} {nb : List UInt8 → Bool} {ce e : Int} {fr : Fr} {M : Mem} (hl : fr.get 2 = some (.int .i64 e)) (h1 : GoodQ k V x nb ce → e = 0) (h2 : e = 0 → ce = 0 ∧ 1 ≤ k ∧ k ≤ 3 ∧ (V.length : Int) = k - 1) : FinEx Tryz.prog Tryz.f18 0 [] (P18 k V x nb ce) .ret fr M :=
  fin_oneL res18 hl ⟨.int .i64 e, ⟨e, rfl, h1, h2⟩, .plain (.int .i64 e), fun j r hj => by simp at hj⟩
theorem two_of {a b : Nat} {fr : Fr} {x y : Option AV} (h : lv [a, b] fr = [x, y]) : fr.get a = x ∧ fr.get b = y := by
  have h' : [fr.get a, fr.get b] = [x, y] := h
  simpa using h'
theorem vsQ_of {fr : Fr} {R : List (List UInt8)} {i : Nat} {e : Option AV} (h : lv [1, 59, 60, 61, 2] fr = vsQ R i e) : lv [1, 59, 60, 61] fr = (slQ R i).map (fun p => some p.2) ∧ fr.get 2 = e := by
  have h' : [fr.get 1, fr.get 59, fr.get 60, fr.get 61, fr.get 2] = vsQ R i e := h
  unfold vsQ at h'
  simp only [List.cons.injEq] at h'
  refine ⟨?_, h'.2.2.2.2.1⟩
  show [fr.get 1, fr.get 59, fr.get 60, fr.get 61] = _
  rw [h'.1, h'.2.1, h'.2.2.1, h'.2.2.2.1]
  rfl
theorem W.fromQ {c : Code} {Q : AE → Fr → Mem → Prop} {fr : Fr} {M : Mem} {k : Int} {V R : List (List UInt8)} {x : Ex} {i : Nat} (hv : lv [1, 59, 60, 61] fr = (slQ R i).map (fun p => some p.2)) (hM : mv [0] M = [some (rowQ k V x)])
    (h : W Tryz.prog T18 0 c (mkFr (slQ R i)) (mkMem [rowQ k V x]) Q) : W Tryz.prog T18 0 c fr M Q := by
  refine W.next (π := [0]) hv hM (slQ R i) [rowQ k V x] rfl rfl ?_ (show okPi 0 [0] 1 = true by decide) ?_ (by simp) h
  · show [renB [0] (.row (toAVs (qD k V x)) false 1)] = _
    rw [renB_data]; rfl
  · intro v hv
    obtain ⟨p, _, rfl⟩ := List.mem_map.1 hv
    exact Option.some_ne_none _
theorem rest18 {k : Int} {V : List (List UInt8)} {x : Ex} {nb : List UInt8 → Bool} {ce : Int} (hV : V.length ≤ 2) (hk : 1 ≤ k ∧ k ≤ 3 ∧ (V.length : Int) = k - 1) (hce : ce = 0) {R : List (List UInt8)} (hR : ∀ s ∈ R, s ∈ vars x) (hvar : BSim Tryz.prog 29 [exA x] [] [] (nmsA R)) (hRl : R.length < 4611686018427387904)
    {fr : Fr} {M : Mem} (hl : fr.get 1 = some (.ptr 0 0)) (hM : mv [0] M = [some (rowQ k V x)]) : W Tryz.prog T18 0 (post 5 c18) fr M (FinEx Tryz.prog Tryz.f18 0 [] (P18 k V x nb ce)) := by
  refine W.parts (by kernel_rfl) (W.parts (by kernel_rfl) ?_)
  refine W.next (π := [0]) (ts := [1]) (vs := [some (.ptr 0 0)]) (show [fr.get 1] = _ by rw [hl]) hM [(1, .ptr 0 0)] [rowQ k V x] rfl rfl ?_ (show okPi 0 [0] 1 = true by decide) (by simp) (by simp) ?_
  · show [renB [0] (.row (toAVs (qD k V x)) false 1)] = _
    rw [renB_data]; rfl
  show W Tryz.prog T18 0 r16c _ _ _
  refine W.run hm hX0l (S := [eVar x R]) (AllOk.mem ⟨hvar.spec0 rfl, trivial⟩) 60 _ [0] _ (vars_run k V R x) ?_
  rw [gD_iff]
  refine pdec_iff.2 fun fr1 M1 hl1 hM1 => ?_
  show W Tryz.prog T18 0 (rhs (lhs (post 5 c18))) fr1 M1 _
  rw [blk18]
  refine W.block (W.loop (σ := { i : Nat // i ≤ R.length }) (fun i fr M => lv [1, 59, 60, 61] fr = (slQ R i.1).map (fun p => some p.2) ∧ mv [0] M = [some (rowQ k V x)]) (fun i => R.length - i.1) ?_ ⟨0, Nat.zero_le _⟩ ⟨hl1, hM1⟩)
  rintro ⟨i, hi⟩ fr2 M2 ⟨hl2, hM2⟩
  simp only at hl2 hM2
  refine W.fromQ hl2 hM2 ?_
  refine W.run hm hX0l (S := [eCon V (R.getD i []) (decide (R.getD i [] ∈ V))]) (AllOk.mem ⟨(contains_any hV _).spec0 rfl, trivial⟩) 60 _ [0] _ (loop_run k V x R i _) ?_
  by_cases hlt : i < R.length
  · have hc : ilt (.ofNat i) (.ofNat R.length) = true := by rw [natlt]; exact decide_eq_true hlt
    rw [ifB_true hc, gB_iff, gD_iff]
    refine ⟨blt_t hlt, ?_⟩
    by_cases hin : R.getD i [] ∈ V
    · rw [decide_eq_true hin, ifB_false notT, gB_iff]
      exact ⟨smallI _ (by omega), pdec_iff.2 fun fr3 M3 hl3 hM3 => .inl ⟨rfl, ⟨i + 1, hlt⟩, by simp only; omega, (vsQ_of hl3).1, hM3⟩⟩
    · rw [decide_eq_false hin, ifB_true notF]
      refine pdec_iff.2 fun fr3 M3 hl3 hM3 => .inr ⟨by simp, fin18 (vsQ_of hl3).2 (fun hg => ?_) (fun h => by cases h)⟩
      refine absurd (hg.2.2.2.2.2.2 _ (hR _ ?_)) hin
      rw [List.getD_eq_getElem?_getD, List.getElem?_eq_getElem hlt]
      exact List.getElem_mem hlt
  · have hc : ilt (.ofNat i) (.ofNat R.length) = false := by rw [natlt]; exact decide_eq_false hlt
    rw [ifB_false hc]
    refine pdec_iff.2 fun fr3 M3 hl3 hM3 => .inr ⟨by simp, Blkd_eq ?_⟩
    show W Tryz.prog T18 0 (rhs (post 5 c18)) fr3 M3 _
    refine W.fromQ (vsQ_of hl3).1 hM3 ?_
    refine W.run hm hX0l (S := []) (fun _ h => by cases h) 60 _ [0] _ (endQ_run k V R x i) ?_
    exact pdec_iff.2 fun fr4 M4 hl4 _ => fin18 (one_of hl4) (fun _ => rfl) (fun _ => ⟨hce, hk⟩)
theorem check18 {k : Int} {V : List (List UInt8)} {x : Ex} {nb : List UInt8 → Bool} {ce : Int} (hk : inI64 k = true) (hnb : ∀ s ∈ V, BSim Tryz.prog 28 [strA s] [] [] (.bool (nb s))) (hce : BSim Tryz.prog 24 [exA x] [] [] (.int .i64 ce)) (hwf : ce = 0 → WF x) (hsz : x.size < 1000000) :
    ∃ e : Int, (GoodQ k V x nb ce → e = 0) ∧ (e = 0 → ce = 0 ∧ 1 ≤ k ∧ k ≤ 3 ∧ (V.length : Int) = k - 1) ∧ BSim Tryz.prog 18 [qA k V x] [] [] (.int .i64 e) := by
  suffices h : W Tryz.prog T18 0 c18 (mkFr (argSlots [qA k V x] 0)) (mkMem []) (FinEx Tryz.prog Tryz.f18 0 [] (P18 k V x nb ce)) by
    obtain ⟨_, ⟨e, rfl, h1, h2⟩, hb⟩ := BSim.of_WEx (args0 := [qA k V x]) (rows0 := []) (rows1 := []) ok18 (by kernel_rfl) rfl h
    exact ⟨e, h1, h2, hb⟩
  have early : ∀ {e : Int} {Q : AE → Fr → Mem → Prop}, (∀ fr M, fr.get 2 = some (.int .i64 e) → Q .ret fr M) → leaf18 k V x (fun o vs bs => pdec (∀ fr' M', lv [1, 2] fr' = vs → mv [0] M' = bs → Q o fr' M')) .ret e = true :=
    fun h => pdec_iff.2 fun fr M hl _ => h fr M (two_of hl).2
  have e0 : ∀ {n : Nat} {fr : Fr} {M : Mem} {e : Int}, FinEx Tryz.prog Tryz.f18 0 [] (P18 k V x nb ce) .ret fr M → Nxt Tryz.prog T18 0 (post n c18) (FinEx Tryz.prog Tryz.f18 0 [] (P18 k V x nb ce)) .ret fr M := fun h => h
  by_cases h1 : k < 1
  · refine W.runN hm hX0l (S := []) (fun _ h => by cases h) 60 2 _ [0] _ (early18 k V x) ?_
    rw [ifB_true (by rw [ilt_iff]; exact decide_eq_true h1)]
    exact early fun fr M hl => fin18 hl (fun hg => absurd hg.1 (by omega)) (fun h => by cases h)
  by_cases h2 : 3 < k
  · refine W.runN hm hX0l (S := []) (fun _ h => by cases h) 60 2 _ [0] _ (early18 k V x) ?_
    rw [ifB_false (by rw [ilt_iff]; exact decide_eq_false h1), ifB_true (by rw [ilt_iff]; exact decide_eq_true h2)]
    exact early fun fr M hl => fin18 hl (fun hg => absurd hg.2.1 (by omega)) (fun h => by cases h)
  by_cases h3 : (V.length : Int) = k - 1
  · have fin : ∀ {Q0 : Prop}, (ce = 0 → WF x) → tail18 k V x ce (fun o vs bs => pdec (∀ fr' M', lv [1, 2] fr' = vs → mv [0] M' = bs → Nxt Tryz.prog T18 0 (post 5 c18) (FinEx Tryz.prog Tryz.f18 0 [] (P18 k V x nb ce)) o fr' M')) = true := by
      intro _ _
      unfold tail18
      rw [gD_iff]
      by_cases hc : ce = 0
      · obtain ⟨R, hR, hRl, hvar⟩ := variables_any (hwf hc) hsz
        rw [ifB_false (by rw [hc]; rfl)]
        exact pdec_iff.2 fun fr M hl hM => rest18 (by omega) ⟨by omega, by omega, h3⟩ hc hR hvar (by omega) (two_of hl).1 hM
      · rw [ifB_true (by rw [ieqf hc]; rfl)]
        exact early fun fr M hl => fin18 hl (fun hg => absurd hg.2.2.2.2.2.1 hc) (fun h => absurd h hc)
    rcases V with _ | ⟨s, _ | ⟨t, _ | ⟨u, l⟩⟩⟩
    · obtain rfl : k = 1 := by simp at h3; omega
      refine W.runN hm hX0l (S := [eCe x ce]) (AllOk.mem ⟨hce.spec0 rfl, trivial⟩) 60 5 _ [0] _ (zero18 x ce) ?_
      exact fin (Q0 := True) hwf
    · obtain rfl : k = 2 := by simp at h3; omega
      refine W.runN hm hX0l (S := [eNm' s (nb s), eCe x ce]) (AllOk.mem ⟨(hnb s (by simp)).spec0 rfl, hce.spec0 rfl, trivial⟩) 60 5 _ [0] _ (one18 s (nb s) x ce) ?_
      rw [gD_iff]
      by_cases hb : nb s = true
      · rw [hb, ifB_false notT]; exact fin (Q0 := True) hwf
      · rw [ifB_true (by simpa using hb)]
        exact early fun fr M hl => fin18 hl (fun hg => absurd (hg.2.2.2.1 s (by simp)) hb) (fun h => by cases h)
    · obtain rfl : k = 3 := by simp at h3; omega
      refine W.runN hm hX0l (S := [eNm' s (nb s), eNm' t (nb t), eCe x ce]) (AllOk.mem ⟨(hnb s (by simp)).spec0 rfl, (hnb t (by simp)).spec0 rfl, hce.spec0 rfl, trivial⟩) 60 5 _ [0] _ (two18 s t (nb s) (nb t) x ce) ?_
      rw [gD_iff]
      by_cases hb : nb s = true
      · rw [hb, ifB_false notT, gD_iff]
        by_cases hb2 : nb t = true
        · rw [hb2, ifB_false notT, seq_iff]
          by_cases hst : s = t
          · rw [ifB_true (decide_eq_true hst)]
            exact early fun fr M hl => fin18 hl (fun hg => absurd hg.2.2.2.2.1 (by simp [hst])) (fun h => by cases h)
          · rw [ifB_false (decide_eq_false hst)]
            exact fin (Q0 := True) hwf
        · rw [ifB_true (by simpa using hb2)]
          exact early fun fr M hl => fin18 hl (fun hg => absurd (hg.2.2.2.1 t (by simp)) hb2) (fun h => by cases h)
      · rw [ifB_true (by simpa using hb)]
        exact early fun fr M hl => fin18 hl (fun hg => absurd (hg.2.2.2.1 s (by simp)) hb) (fun h => by cases h)
    · simp at h3; omega
  · refine W.runN hm hX0l (S := []) (fun _ h => by cases h) 60 2 _ [0] _ (early18 k V x) ?_
    have h3' : ¬ ((.ofNat V.length : Int) = Int.sub k 1) := h3
    rw [ifB_false (by rw [ilt_iff]; exact decide_eq_false h1), ifB_false (by rw [ilt_iff]; exact decide_eq_false h2), gB_iff, ifB_true (by rw [ieqf h3']; rfl)]
    refine ⟨?_, early fun fr M hl => fin18 hl (fun hg => absurd hg.2.2.1 h3) (fun h => by cases h)⟩
    exact i64ok (by show -9223372036854775808 ≤ k - 1; omega) (by show k - 1 < _; omega)
end Go.Proofs.YtnljmpeaeajcoaaGreatDoor

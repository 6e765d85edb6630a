/- A part of the proof over this seat's program: the checked evaluator and its soundness (E..), and what it gives here (the others). No condition. -/
import Derived.Test.YtnljmpeaeajcoaaGreatDoorG4
import Derived.Laws.Tables
set_option linter.unusedSectionVars false
namespace Go.Eng
open Go
variable [Mode]

theorem binGen_sound {P : Program} {op : BinOp} {t : TypeId} {a b : AV} {K : AV → Bool} (hi : ∀ k n, a ≠ .int k n) (hstr : ∀ l c, a ≠ .str l c) (h : binGen P op t a b K = true) :
    ∃ v, K v = true ∧ BinSim P op t a b v := by
  unfold binGen at h
  rw [brec_false] at h
  obtain ⟨hg, h⟩ := h
  have hguard : ∀ ρ ca cb, VRel ρ a ca → VRel ρ b cb → ∀ (x y : Operand) w, (eqGuard op t x y ca cb).run P w = .ok () w := by
    intro ρ ca cb ha hb x y w
    unfold guardOk at hg
    rw [brec_not] at hg
    obtain ⟨hni, hg⟩ := hg
    rw [brec_tt] at hg
    rcases hg with ⟨hag, _⟩ | ⟨_, hm⟩
    · refine guard_none op t x y ca cb ?_ ?_ w
      · intro e; subst e; cases ha <;> first | (simp [isNilIface] at hni; done) | (rename_i hd; cases hd)
      · intro cs e; subst e; cases ha <;> first | (simp [isAggA] at hag; done) | (rename_i hd; cases hd)
    · have hm' : P.eqGuardType P.depth t = false := by simpa using hm
      by_cases hc : ∃ cs, ca = .agg cs
      · obtain ⟨cs, rfl⟩ := hc
        by_cases hc2 : ∃ ds, cb = .agg ds
        · obtain ⟨ds, rfl⟩ := hc2
          exact run_eqGuard_agg w op t x y cs ds hm'
        · unfold eqGuard
          cases op <;> first | rfl | (cases cb <;> first | rfl | exact absurd ⟨_, rfl⟩ hc2)
      · refine guard_none op t x y ca cb ?_ (fun cs e => hc ⟨cs, e⟩) w
        intro e; subst e; cases ha <;> first | (simp [isNilIface] at hni; done) | (rename_i hd; cases hd)
  have hca : ∀ ρ ca, VRel ρ a ca → (∀ k n, ca ≠ .int k n) ∧ (∀ s, ca ≠ .string s) ∧ (∀ k n, ca ≠ .float k n) ∧ (∀ k n m, ca ≠ .complex k n m) := by
    intro ρ ca ha
    refine ⟨fun k n e => ?_, fun s e => ?_, fun k n e => ?_, fun k n m e => ?_⟩ <;> (subst e; cases ha)
    · exact hi _ _ rfl
    · rename_i hd; cases hd
    · exact hstr _ _ rfl
    · rename_i hd; cases hd
    · rename_i hd; cases hd
    · rename_i hd; cases hd
  split at h
  · obtain ⟨r, h, H⟩ := eqA_sound _ _ _ _ _ h
    rw [fB_eq] at h
    refine ⟨_, h, fun ρ ca cb ha hb => ⟨_, .bool _, fun x y w => ?_⟩⟩
    obtain ⟨n1, n2, n3, n4⟩ := hca ρ ca ha
    simp only [Sem.run_bind, hguard ρ ca cb ha hb x y w, Result.andThen_ok]
    have e : binOp .eql t ca cb = (do pure (.bool (← Op.equal t ca cb)) : Sem Value) := by
      unfold binOp
      cases ca <;> first | (exact absurd rfl (n1 _ _)) | (exact absurd rfl (n2 _)) | (exact absurd rfl (n3 _ _)) | (exact absurd rfl (n4 _ _ _)) | rfl
    rw [e]
    simp only [Op.equal, Op.maxDepth, Sem.run_bind, H ρ ca cb ha hb w, Result.andThen_ok, Sem.run_pure]
  · obtain ⟨r, h, H⟩ := eqA_sound _ _ _ _ _ h
    rw [fB_eq] at h
    refine ⟨_, h, fun ρ ca cb ha hb => ⟨_, .bool _, fun x y w => ?_⟩⟩
    obtain ⟨n1, n2, n3, n4⟩ := hca ρ ca ha
    simp only [Sem.run_bind, hguard ρ ca cb ha hb x y w, Result.andThen_ok]
    have e : binOp .neq t ca cb = (do pure (.bool (!(← Op.equal t ca cb))) : Sem Value) := by
      unfold binOp
      cases ca <;> first | (exact absurd rfl (n1 _ _)) | (exact absurd rfl (n2 _)) | (exact absurd rfl (n3 _ _)) | (exact absurd rfl (n4 _ _ _)) | rfl
    rw [e]
    simp only [Op.equal, Op.maxDepth, Sem.run_bind, H ρ ca cb ha hb w, Result.andThen_ok, Sem.run_pure]
  · exact absurd h (by simp)

theorem binA_sound {P : Program} {op : BinOp} {t : TypeId} {a b : AV} {K : AV → Bool} (h : binA P op t a b K = true) : ∃ v, K v = true ∧ BinSim P op t a b v := by
  unfold binA at h
  split at h
  · rename_i k a k' b
    rw [brec_tt] at h
    rcases h with ⟨hs, h⟩ | ⟨hs, h⟩
    · rw [brec_false] at h
      obtain ⟨hk, h⟩ := h
      obtain rfl := (keq_iff _ _).1 hk
      obtain ⟨v, hK, H⟩ := binInt_sound (P := P) hs t h
      refine ⟨v, hK, fun ρ ca cb ha hb => ?_⟩
      cases ha; cases hb
      obtain ⟨cv, hv, H⟩ := H ρ
      exact ⟨cv, hv, fun x y w => by simp only [Sem.run_bind, guard_none op t x y (.int k a) (.int k b) (by simp) (by simp) w, Result.andThen_ok, H w]⟩
    · obtain ⟨v, hK, H⟩ := shiftA_sound (P := P) (k' := k') t h
      refine ⟨v, hK, fun ρ ca cb ha hb => ?_⟩
      cases ha; cases hb
      obtain ⟨cv, hv, H⟩ := H ρ
      exact ⟨cv, hv, fun x y w => by simp only [Sem.run_bind, guard_none op t x y (.int k a) (.int k' b) (by simp) (by simp) w, Result.andThen_ok, H w]⟩
  · rename_i l c l' c'
    by_cases he : (∃ s : List UInt8, l = s.length ∧ c = enc s) ∧ (∃ s : List UInt8, l' = s.length ∧ c' = enc s)
    · obtain ⟨⟨s, rfl, rfl⟩, ⟨u, rfl, rfl⟩⟩ := he
      obtain ⟨v, hK, H⟩ := binStr_sound (P := P) t h
      refine ⟨v, hK, fun ρ ca cb ha hb => ?_⟩
      generalize hl : s.length = l1 at ha
      generalize hc : enc s = c1 at ha
      generalize hl2 : u.length = l2 at hb
      generalize hc2 : enc u = c2 at hb
      cases ha with
      | str s' =>
        cases hb with
        | str u' =>
          obtain rfl := enc_inj _ _ hl hc
          obtain rfl := enc_inj _ _ hl2 hc2
          obtain ⟨cv, hv, H⟩ := H ρ
          exact ⟨cv, hv, fun x y w => by simp only [Sem.run_bind, guard_none op t x y (.string ⟨⟨s⟩⟩) (.string ⟨⟨u⟩⟩) (by simp) (by simp) w, Result.andThen_ok, H w]⟩
    · -- no value is so: whatever the continuation got serves
      have : ∃ v, K v = true := by
        unfold binStr at h
        split at h <;> first
          | (rw [brec_false, fN_eq, fN_eq] at h; exact ⟨_, h.2⟩)
          | (rw [fB_eq] at h; exact ⟨_, h⟩)
          | (exact absurd h (by simp))
      obtain ⟨v, hK⟩ := this
      refine ⟨v, hK, fun ρ ca cb ha hb => ?_⟩
      exfalso
      cases ha with
      | str s => cases hb with
        | str u => exact he ⟨⟨s, rfl, rfl⟩, ⟨u, rfl, rfl⟩⟩
  · exact absurd h (by simp)
  · exact absurd h (by simp)
  · rename_i h3 h4 h1 h2
    exact binGen_sound (fun k n e => by subst e; exact h3 k n rfl) (fun l c e => by subst e; exact h4 l c rfl) h

theorem unA_sound {P : Program} {op : UnOp} {a : AV} {K : AV → Bool} (h : unA op a K = true) :
    ∃ v, K v = true ∧ ∀ ρ ca, VRel ρ a ca → ∃ cv, VRel ρ v cv ∧ ∀ w, (Op.unary op ca).run P w = .ok cv w := by
  unfold unA at h
  split at h
  · rename_i k n
    replace h := wrapK_of h
    refine ⟨_, h, fun ρ ca ha => ?_⟩
    cases ha
    exact ⟨_, .int _ _, fun w => by simp [Op.unary, Op.intArith, Int.zero_sub]; rfl⟩
  · rename_i b
    refine ⟨_, h, fun ρ ca ha => ?_⟩
    cases ha
    exact ⟨_, .bool _, fun w => by simp [Op.unary]⟩
  · rename_i k n
    replace h := wrapK_of h
    refine ⟨_, h, fun ρ ca ha => ?_⟩
    cases ha
    refine ⟨_, .int _ _, fun w => ?_⟩
    have hu : ∀ x : Int, (BitVec.ofInt k.bits x).toNat = toU k x := fun x => (bitv_and k.bits x x (toU k x) (toU k x) (toU_eq k x) (toU_eq k x)).1
    have hall : (BitVec.ofInt k.bits (if k.signed then -1 else k.max)) = BitVec.allOnes k.bits := by cases k <;> decide
    simp only [Op.unary, Op.intBits, Sem.run_pure, hall]
    rw [BitVec.allOnes_xor]
    rw [BitVec.toNat_not, hu, ← modOf_nat]
    rfl
  · exact absurd h (by simp)

theorem convPure_sound {P : Program} {s d : TypeId} {a : AV} {K : AV → Bool} (h : convPure P s d a K = true) :
    ∃ v, K v = true ∧ ∀ ρ ca, VRel ρ a ca → ∃ cv, VRel ρ v cv ∧ ∀ w, (convert s d ca).run P w = .ok cv w := by
  unfold convPure at h
  split at h
  · rename_i ds k kx n hs hd
    replace h := wrapK_of h
    refine ⟨_, h, fun ρ ca ha => ?_⟩
    cases ha
    refine ⟨_, .int _ _, fun w => ?_⟩
    simp [convert, run_und hs, run_und hd, Conv.intToInt]
  · rename_i ds l c hs hd
    refine ⟨_, h, fun ρ ca ha => ⟨ca, ha, fun w => ?_⟩⟩
    cases ha
    simp [convert, run_und hs, run_und hd]
  · exact absurd h (by simp)

/-! building -/
inductive PsRel (ρ : Env) : List (Nat × AV) → List (Nat × Value) → Prop
  | nil : PsRel ρ [] []
  | cons (i : Nat) (a : AV) (v : Value) (ps : List (Nat × AV)) (qs : List (Nat × Value)) (h : VRel ρ a v) (hs : PsRel ρ ps qs) : PsRel ρ ((i, a) :: ps) ((i, v) :: qs)

theorem foldl_put (off : Nat) : ∀ (l : List Value) (s : Nat) (cs : Array Value), off + s + l.length ≤ cs.size →
    ((l.zipIdx s).foldl (fun (cs : Array Value) (x : Value × Nat) => cs.setIfInBounds (off + x.2) x.1) cs).toList = cs.toList.take (off + s) ++ (l ++ cs.toList.drop (off + s + l.length)) := by
  intro l
  induction l with
  | nil => intro s cs h; simp
  | cons v l ih =>
    intro s cs h
    simp only [List.zipIdx_cons, List.foldl_cons, List.length_cons] at h ⊢
    rw [ih (s + 1) _ (by simp; omega)]
    have hlt : off + s < cs.toList.length := by simp; omega
    have e1 : (cs.setIfInBounds (off + s) v).toList = cs.toList.set (off + s) v := by simp
    rw [e1]
    rw [show off + (s + 1) = off + s + 1 from by omega, List.take_succ_eq_append_getElem (by simpa using hlt), List.take_set_of_le (by omega)]
    rw [show off + s + 1 + l.length = off + s + (l.length + 1) from by omega]
    rw [List.drop_set_of_lt (by omega)]
    simp

theorem fillK_sound {place : Nat → Option (Nat × Nat)} : ∀ (ps : List (Nat × AV)) (c : List AV) (K : List AV → Bool), fillK place ps c K = true →
    ∃ c', K c' = true ∧ ∀ ρ (cs : Array Value) (qs : List (Nat × Value)), VsRel ρ c cs.toList → PsRel ρ ps qs → ∃ cs', Instr.fill place cs qs = some cs' ∧ VsRel ρ c' cs'.toList := by
  intro ps
  induction ps with
  | nil =>
    intro c K h
    refine ⟨c, h, fun ρ cs qs hc hq => ?_⟩
    cases hq
    exact ⟨cs, rfl, hc⟩
  | cons p ps ih =>
    intro c K h
    obtain ⟨i, a⟩ := p
    -- one step, whichever form the part has
    have key : ∃ off size, place i = some (off, size) ∧ (cellsA a).length = size ∧ putK (cellsA a) off c (fun c => fillK place ps c K) = true := by
      change (match place i with
        | none => false
        | some (off, size) => partPut a off size c fun c => fillK place ps c K) = true at h
      cases hp : place i with
      | none => simp [hp] at h
      | some x =>
        obtain ⟨off, size⟩ := x
        rw [hp] at h
        simp only at h
        refine ⟨off, size, rfl, ?_⟩
        cases a <;> simp only [partPut] at h <;> rw [brec_false] at h <;> first
          | exact ⟨by have := Nat.eq_of_beq_eq_true h.1; simpa [cellsA] using this, h.2⟩
    obtain ⟨off, size, hp, hlen, h⟩ := key
    rw [putK_iff] at h
    obtain ⟨hle, h⟩ := h
    obtain ⟨c', hK, H⟩ := ih _ _ h
    refine ⟨c', hK, fun ρ cs qs hc hq => ?_⟩
    cases hq with
    | cons _ _ v _ qs hv hs =>
      have hcells := hv.cells
      have hl1 := hcells.length
      have hl2 := hc.length
      simp only [Array.length_toList] at hl1 hl2
      have hsz : v.cells.size = size := by omega
      have hno : ¬ (v.cells.size ≠ size ∨ off + v.cells.size > cs.size) := by omega
      have hfold : ((v.cells.zipIdx).foldl (fun (cs : Array Value) (x : Value × Nat) => cs.setIfInBounds (off + x.2) x.1) cs).toList = cs.toList.take off ++ (v.cells.toList ++ cs.toList.drop (off + v.cells.size)) := by
        rw [← Array.foldl_toList, Array.toList_zipIdx]
        have := foldl_put off v.cells.toList 0 cs (by simp; omega)
        simpa using this
      have hrel : VsRel ρ (c.take off ++ (cellsA a ++ c.drop (off + (cellsA a).length))) ((v.cells.zipIdx).foldl (fun (cs : Array Value) (x : Value × Nat) => cs.setIfInBounds (off + x.2) x.1) cs).toList := by
        rw [hfold]
        refine (hc.take off).append (hcells.append ?_)
        rw [hl1]
        exact hc.drop _
      obtain ⟨cs', hf, hr⟩ := H ρ _ qs hrel hs
      refine ⟨cs', ?_, hr⟩
      rw [Instr.fill, hp]
      simp only [Bool.or_eq_true, decide_eq_true_eq]
      rw [if_neg hno]
      exact hf

theorem evParts_sound {fr : Fr} {parts : List (Nat × Operand)} {K : List (Nat × AV) → Bool} (h : evParts fr parts K = true) :
    ∃ ps, K ps = true ∧ ∀ ρ (vals : Operand → Value), (∀ p ∈ parts, RelX ρ fr p.2 (vals p.2)) → PsRel ρ ps (parts.map fun p => (p.1, vals p.2)) := by
  have hf : ∀ (p : Nat × Operand) (K : Nat × AV → Bool), (ev fr p.2 fun a => K (p.1, a)) = true ↔ ∃ y, ((evD fr p.2).map fun a => (p.1, a)) = some y ∧ K y = true := by
    intro p K
    rw [ev_iff]
    constructor
    · rintro ⟨a, ha, hK⟩; exact ⟨(p.1, a), by simp [ha], hK⟩
    · rintro ⟨y, hy, hK⟩
      cases ha : evD fr p.2 with
      | none => simp [ha] at hy
      | some a => simp [ha] at hy; subst hy; exact ⟨a, rfl, hK⟩
  unfold evParts at h
  rw [mapK_iff hf] at h
  obtain ⟨ps, hps, hK⟩ := h
  refine ⟨ps, hK, fun ρ vals hrel => ?_⟩
  clear hK
  induction parts generalizing ps with
  | nil => simp at hps; subst hps; exact .nil
  | cons p parts ih =>
    rw [List.mapM_cons] at hps
    cases ha : evD fr p.2 with
    | none => simp [ha] at hps
    | some a =>
      cases hs : parts.mapM fun p : Nat × Operand => (evD fr p.2).map fun a => (p.1, a) with
      | none => simp [ha, hs] at hps
      | some qs =>
        simp only [ha, hs, Option.map_some, Option.bind_eq_bind, Option.bind_some] at hps
        obtain rfl := Option.some.inj hps
        exact .cons _ _ _ _ _ (hrel p (by simp) a ha) (ih qs hs (fun q hq => hrel q (by simp [hq])))

theorem zeroK_sound {P : Program} {t : TypeId} {K : AV → Bool} (h : zeroK P t K = true) :
    ∃ z i v, K z = true ∧ P.info? t = some i ∧ i.zero = some v ∧ ∀ ρ, VRel ρ z v := by
  unfold zeroK at h
  split at h
  · rename_i i hi
    split at h
    · rename_i v hv
      rw [ofVal_iff] at h
      obtain ⟨a, ha, hK⟩ := h
      exact ⟨a, i, v, hK, hi, hv, fun ρ => ofVal_rel ρ ha⟩
    · exact absurd h (by simp)
  · exact absurd h (by simp)

theorem buildA_sound {P : Program} {fr : Fr} {t : TypeId} {parts : List (Nat × Operand)} {K : AV → Bool} (h : buildA P fr t parts K = true) :
    ∃ v, K v = true ∧ ∀ ρ (vals : Operand → Value), (∀ p ∈ parts, RelX ρ fr p.2 (vals p.2)) → ∃ cv, VRel ρ v cv ∧ ∀ w, (Instr.build t (parts.map fun p => (p.1, vals p.2)).toArray).run P w = .ok cv w := by
  unfold buildA at h
  obtain ⟨z, i, zv, h, hi, hz, hzr⟩ := zeroK_sound h
  split at h
  · rename_i fs hu
    split at h
    · rename_i pl hpl
      obtain ⟨ps, h, Hps⟩ := evParts_sound h
      obtain ⟨c, hK, H⟩ := fillK_sound ps _ _ h
      refine ⟨_, hK, fun ρ vals hrel => ?_⟩
      obtain ⟨cs', hf, hr⟩ := H ρ zv.cells _ (hzr ρ).cells (Hps ρ vals hrel)
      refine ⟨.agg cs', .agg _ _ hr, fun w => run_build w t _ cs' ?_⟩
      unfold placesOf at hpl
      simp only [Program.built, hi, hu, hz, hpl]
      simpa using hf
    · exact absurd h (by simp)
  · rename_i n e hu
    split at h
    · rename_i sz hsz
      obtain ⟨ps, h, Hps⟩ := evParts_sound h
      obtain ⟨c, hK, H⟩ := fillK_sound ps _ _ h
      refine ⟨_, hK, fun ρ vals hrel => ?_⟩
      obtain ⟨cs', hf, hr⟩ := H ρ zv.cells _ (hzr ρ).cells (Hps ρ vals hrel)
      refine ⟨.agg cs', .agg _ _ hr, fun w => run_build w t _ cs' ?_⟩
      unfold szOf at hsz
      cases hie : P.info? e with
      | none => simp [hie] at hsz
      | some ie =>
        simp [hie] at hsz
        subst hsz
        simp only [Program.built, hi, hu, hz, hie]
        exact hf
    · exact absurd h (by simp)
  · exact absurd h (by simp)
end Go.Eng

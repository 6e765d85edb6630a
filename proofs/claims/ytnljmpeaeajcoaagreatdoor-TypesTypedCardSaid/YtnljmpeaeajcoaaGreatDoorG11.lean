/- A part of the proof over this seat's program: the checked evaluator and its soundness (E..), and what it gives here (the others). No condition. -/
import Derived.Test.YtnljmpeaeajcoaaGreatDoorG10
set_option linter.unusedSectionVars false
namespace Go.Eng
open Go
variable [Mode]

/-! maps -/
theorem plainKey_spec {P : Program} {k : TypeId} (h : plainKey P k = true) : ∃ d, P.underlying k = some d ∧ ((∃ x, d = .int x) ∨ d = .string ∨ d = .bool) := by
  unfold plainKey at h
  split at h
  · rename_i x hu; exact ⟨_, hu, .inl ⟨x, rfl⟩⟩
  · rename_i hu; exact ⟨_, hu, .inr (.inl rfl)⟩
  · rename_i hu; exact ⟨_, hu, .inr (.inr rfl)⟩
  · exact absurd h (by simp)

/-- the model's comparison of keys, as eqA has it -/
theorem sameNow_of {P : Program} {k : TypeId} {d : TypeDesc} (hd : P.underlying k = some d) (hk : (∃ x, d = .int x) ∨ d = .string ∨ d = .bool) {a b : AV} {K : Bool → Bool} (h : eqA P 2 k a b K = true) :
    ∃ r, K r = true ∧ ∀ ρ ca cb, VRel ρ a ca → VRel ρ b cb → Instr.sameNow d ca cb = some r := by
  change eqStep P (eqA P 1) k a b K = true at h
  unfold eqStep at h
  rw [hd] at h
  rcases hk with ⟨x, rfl⟩ | rfl | rfl
  · simp only at h
    split at h
    · rename_i k1 a k2 b
      rw [brec_false] at h
      obtain ⟨hk, h⟩ := h
      obtain rfl := (keq_iff _ _).1 hk
      refine ⟨_, h, fun ρ ca cb ha hb => ?_⟩
      cases ha; cases hb
      rw [ieq_iff]
      simp [Instr.sameNow]
    · exact absurd h (by simp)
  · simp only at h
    split at h
    · rename_i l c l' c'
      refine ⟨_, h, fun ρ ca cb ha hb => ?_⟩
      cases ha with
      | str s => cases hb with
        | str u =>
          rw [seqA_iff]
          simp only [Instr.sameNow]
          rw [beq_toListBytes, ByteArray.toList_mk, ByteArray.toList_mk]
    · exact absurd h (by simp)
  · simp only at h
    split at h
    · rename_i x y
      refine ⟨_, h, fun ρ ca cb ha hb => ?_⟩
      cases ha; cases hb
      simp only [Instr.sameNow]
      cases x <;> cases y <;> rfl
    · exact absurd h (by simp)

theorem findA_sound {P : Program} {k : TypeId} {d : TypeDesc} (hd : P.underlying k = some d) (hk : (∃ x, d = .int x) ∨ d = .string ∨ d = .bool) {key : AV} : ∀ (es : List (AV × AV)) (K : Option AV → Bool), findA P k key es K = true →
    ∃ r, K r = true ∧ ∀ ρ ck ces i, VRel ρ key ck → EsRel ρ es ces → (r = none → Instr.findNow d ck ces i = some none) ∧ (∀ v, r = some v → ∃ j cv, VRel ρ v cv ∧ Instr.findNow d ck ces i = some (some (j, cv))) := by
  intro es
  induction es with
  | nil =>
    intro K h
    refine ⟨none, h, fun ρ ck ces i hkr he => ?_⟩
    cases he
    exact ⟨fun _ => rfl, fun v e => by cases e⟩
  | cons x es ih =>
    intro K h
    obtain ⟨a, b⟩ := x
    change (eqA P 2 k key a fun r => Bool.rec (motive := fun _ => Bool) (findA P k key es K) (K (some b)) r) = true at h
    obtain ⟨r, h, H⟩ := sameNow_of hd hk h
    cases r with
    | true =>
      refine ⟨some b, h, fun ρ ck ces i hkr he => ?_⟩
      cases he with
      | cons _ _ e _ ces hka hvb hs =>
        refine ⟨(fun e => by cases e), fun v e' => ?_⟩
        cases e'
        exact ⟨i, e.val, hvb, by simp [Instr.findNow, H ρ ck e.key hkr hka]⟩
    | false =>
      obtain ⟨r, hK, H2⟩ := ih K h
      refine ⟨r, hK, fun ρ ck ces i hkr he => ?_⟩
      cases he with
      | cons _ _ e _ ces hka hvb hs =>
        have := H2 ρ ck ces (i + 1) hkr hs
        simp only [Instr.findNow, H ρ ck e.key hkr hka]
        exact this

theorem checkKey_plain {P : Program} {k : TypeId} {d : TypeDesc} (hd : P.underlying k = some d) (hk : (∃ x, d = .int x) ∨ d = .string ∨ d = .bool) (e : Bool) (v : Value) (w : World) : (Instr.checkKey e 10000 k v).run P w = .ok () w := by
  unfold Instr.checkKey
  rcases hk with ⟨x, rfl⟩ | rfl | rfl <;> simp [run_und hd]

theorem run_getObjM {P : Program} {w : World} {B : Nat} {es : Array MapEntry} {clock : Nat} (h : w.heap[B]? = some (.map es clock)) : (getObj B).run P w = .ok (.map es clock) w := by simp [getObj, Sem.run, h]
theorem run_setObjM {P : Program} {w : World} {B : Nat} {es : Array MapEntry} {clock : Nat} (o : Obj) (h : w.heap[B]? = some (.map es clock)) : (setObj B o).run P w = .ok () { w with heap := w.heap.setIfInBounds B o } := by simp [setObj, Sem.run, h]

theorem MRel.mapBlk {w0 : World} {R : Nat → Prop} {ρ : Env} {M : Mem} {w : World} (h : MRel w0 R ρ M w) {b : Nat} {es : List (AV × AV)} {B x : Nat} (hb : M.t.get b = some (.map es)) (hr : ρ b = some (B, x)) :
    ∃ ces clock, w.heap[B]? = some (.map ces clock) ∧ EsRel ρ es ces.toList := by
  obtain ⟨B', x', o, hr', _, ho, hO⟩ := h.blk b _ hb (by simp)
  rw [hr] at hr'
  obtain ⟨rfl, rfl⟩ := Prod.mk.inj (Option.some.inj hr')
  unfold ORel at hO
  cases o <;> simp only at hO
  case map ces clock => exact ⟨ces, clock, ho, hO⟩

noncomputable def lookFin (P : Program) (e : TypeId) (ok : Bool) (K : AV → Bool) (r : Option AV) : Bool :=
  match r with
  | some v => Bool.rec (motive := fun _ => Bool) (K v) (K (.tuple [v, .bool true])) ok
  | none => zeroK P e fun z => Bool.rec (motive := fun _ => Bool) (K z) (K (.tuple [z, .bool false])) ok
theorem lookFin_sound {P : Program} {e : TypeId} {ok : Bool} {K : AV → Bool} {r : Option AV} (h : lookFin P e ok K r = true) :
    ∃ v, K v = true ∧ ∀ ρ w (fr : Option (Nat × Value)), (r = none → fr = none) → (∀ v, r = some v → ∃ j cv, VRel ρ v cv ∧ fr = some (j, cv)) →
      ∃ cv, VRel ρ v cv ∧ (∀ j u, fr = some (j, u) → cv = if ok then .tuple #[u, .bool true] else u) ∧ (fr = none → ∃ zv, (zeroValue e).run P w = .ok zv w ∧ cv = if ok then .tuple #[zv, .bool false] else zv) := by
  unfold lookFin at h
  split at h
  · rename_i v
    rw [brec_tt] at h
    rcases h with ⟨hok, h⟩ | ⟨hok, h⟩
    · refine ⟨_, h, fun ρ w fr _ h2 => ?_⟩
      obtain ⟨j, cv, hv, rfl⟩ := h2 v rfl
      exact ⟨cv, hv, fun j u e => by cases e; simp [hok], fun e => by cases e⟩
    · refine ⟨_, h, fun ρ w fr _ h2 => ?_⟩
      obtain ⟨j, cv, hv, rfl⟩ := h2 v rfl
      exact ⟨.tuple #[cv, .bool true], .tuple _ _ (.cons _ _ _ _ hv (.cons _ _ _ _ (.bool _) .nil)), fun j u e => by cases e; simp [hok], fun e => by cases e⟩
  · obtain ⟨z, i, zv, h, hi, hz, hzr⟩ := zeroK_sound h
    have hzv : ∀ w, (zeroValue e).run P w = .ok zv w := fun w => by simp [zeroValue, run_tinfo hi, hz]
    rw [brec_tt] at h
    rcases h with ⟨hok, h⟩ | ⟨hok, h⟩
    · refine ⟨_, h, fun ρ w fr h1 _ => ⟨zv, hzr ρ, ?_, fun _ => ⟨zv, hzv w, by simp [hok]⟩⟩⟩
      intro j u e
      rw [h1 rfl] at e
      cases e
    · refine ⟨_, h, fun ρ w fr h1 _ => ⟨.tuple #[zv, .bool false], .tuple _ _ (.cons _ _ _ _ (hzr ρ) (.cons _ _ _ _ (.bool _) .nil)), ?_, fun _ => ⟨zv, hzv w, by simp [hok]⟩⟩⟩
      intro j u e
      rw [h1 rfl] at e
      cases e

theorem lookupA_sound {P : Program} {t : TypeId} {m key : AV} {ok : Bool} {M : Mem} {K : AV → Bool} (h : lookupA P t m key ok M K = true) :
    ∃ v, K v = true ∧ ∀ w0 R ρ w cm ck, MRel w0 R ρ M w → VRel ρ m cm → VRel ρ key ck → ∃ cv, VRel ρ v cv ∧ (Instr.lookup t cm ck ok).run P w = .ok cv w := by
  unfold lookupA at h
  split at h
  · rename_i k e hu
    rw [brec_false] at h
    obtain ⟨hpk, h⟩ := h
    obtain ⟨d, hd, hk⟩ := plainKey_spec hpk
    split at h
    · -- nil
      change lookFin P e ok K none = true at h
      obtain ⟨v, hK, H⟩ := lookFin_sound h
      refine ⟨v, hK, fun w0 R ρ w cm ck hM hm hkr => ?_⟩
      cases hm
      obtain ⟨cv, hr, _, hrun⟩ := H ρ w none (fun _ => rfl) (fun v e => by cases e)
      obtain ⟨zv, hz, rfl⟩ := hrun rfl
      refine ⟨_, hr, ?_⟩
      simp [Instr.lookup, run_und hu, checkKey_plain hd hk, Instr.findKey, run_und hd, Instr.findNow, hz]
    · rename_i b
      split at h
      · rename_i es hb
        change findA P k key es (lookFin P e ok K) = true at h
        obtain ⟨r, h, HF⟩ := findA_sound hd hk es _ h
        obtain ⟨v, hK, H⟩ := lookFin_sound h
        refine ⟨v, hK, fun w0 R ρ w cm ck hM hm hkr => ?_⟩
        cases hm with
        | map _ B x hr =>
          obtain ⟨ces, clock, ho, hes⟩ := hM.mapBlk hb hr
          obtain ⟨f1, f2⟩ := HF ρ ck ces.toList 0 hkr hes
          have hfn : ∃ fr, Instr.findNow d ck ces.toList 0 = some fr ∧ (r = none → fr = none) ∧ (∀ v, r = some v → ∃ j cv, VRel ρ v cv ∧ fr = some (j, cv)) := by
            cases r with
            | none => exact ⟨none, f1 rfl, fun _ => rfl, fun v e => by cases e⟩
            | some u =>
              obtain ⟨j, cv, hv, hf⟩ := f2 u rfl
              exact ⟨some (j, cv), hf, (fun e => by cases e), fun v e => by cases e; exact ⟨j, cv, hv, rfl⟩⟩
          obtain ⟨fr, hf, g1, g2⟩ := hfn
          obtain ⟨cv, hr2, k1, k2⟩ := H ρ w fr g1 g2
          refine ⟨cv, hr2, ?_⟩
          cases fr with
          | none =>
            obtain ⟨zv, hz, rfl⟩ := k2 rfl
            simp [Instr.lookup, run_und hu, run_getObjM ho, checkKey_plain hd hk, Instr.findKey, run_und hd, hf, hz]
          | some p =>
            obtain ⟨j, u⟩ := p
            rw [k1 j u rfl]
            simp [Instr.lookup, run_und hu, run_getObjM ho, checkKey_plain hd hk, Instr.findKey, run_und hd, hf]
      · exact absurd h (by simp)
    · exact absurd h (by simp)
  · exact absurd h (by simp)

theorem updA_sound {P : Program} {k : TypeId} {d : TypeDesc} (hd : P.underlying k = some d) (hk : (∃ x, d = .int x) ∨ d = .string ∨ d = .bool) {key v : AV} : ∀ (es : List (AV × AV)) (K : List (AV × AV) → Bool), updA P k key v es K = true →
    ∃ es', K es' = true ∧ ∀ ρ ck cv (ces : List MapEntry) i born, VRel ρ key ck → VRel ρ v cv → EsRel ρ es ces →
      (Instr.findNow d ck ces i = some none ∧ EsRel ρ es' (ces ++ [{ key := ck, val := cv, born }])) ∨
      (∃ j u e, Instr.findNow d ck ces i = some (some (i + j, u)) ∧ ces[j]? = some e ∧ Instr.sameNow d ck e.key = some true ∧ ∀ e', e'.key = ck → e'.val = cv → EsRel ρ es' (ces.set j e')) := by
  intro es
  induction es with
  | nil =>
    intro K h
    refine ⟨_, h, fun ρ ck cv ces i born hkr hvr he => ?_⟩
    cases he
    exact .inl ⟨rfl, .cons _ _ _ _ _ hkr hvr .nil⟩
  | cons x es ih =>
    intro K h
    obtain ⟨a, b⟩ := x
    change (eqA P 2 k key a fun r => Bool.rec (motive := fun _ => Bool) (updA P k key v es fun r => K ((a, b) :: r)) (K ((key, v) :: es)) r) = true at h
    obtain ⟨r, h, H⟩ := sameNow_of hd hk h
    cases r with
    | true =>
      refine ⟨_, h, fun ρ ck cv ces i born hkr hvr he => ?_⟩
      cases he with
      | cons _ _ e _ ces hka hvb hs =>
        have hsn := H ρ ck e.key hkr hka
        exact .inr ⟨0, e.val, e, by simp [Instr.findNow, hsn], rfl, hsn, fun e' h1 h2 => .cons _ _ _ _ _ (h1 ▸ hkr) (h2 ▸ hvr) hs⟩
    | false =>
      obtain ⟨es', hK, H2⟩ := ih _ h
      refine ⟨_, hK, fun ρ ck cv ces i born hkr hvr he => ?_⟩
      cases he with
      | cons _ _ e _ ces hka hvb hs =>
        have hsn := H ρ ck e.key hkr hka
        rcases H2 ρ ck cv ces (i + 1) born hkr hvr hs with ⟨h1, h2⟩ | ⟨j, u, e2, h1, h2, h3, h4⟩
        · exact .inl ⟨by simp [Instr.findNow, hsn, h1], .cons _ _ _ _ _ hka hvb h2⟩
        · refine .inr ⟨j + 1, u, e2, by simp [Instr.findNow, hsn, h1]; omega, by simpa using h2, h3, fun e' a1 a2 => ?_⟩
          rw [List.set_cons_succ]
          exact .cons _ _ _ _ _ hka hvb (h4 e' a1 a2)

theorem sameBits_turn {d : TypeDesc} {a b : Value} (h : Instr.sameNow d a b = some true) (n : Nat) : Instr.sameBits n b a = true := by
  unfold Instr.sameNow at h
  split at h
  · rename_i k a k' b
    split at h
    · rename_i hk
      subst hk
      have : a = b := by simpa using h
      subst this
      cases n <;> simp [Instr.sameBits]
    · cases h
  · rename_i a b
    have hab : (a == b) = true := by simpa using h
    rw [beq_toListBytes, beq_iff_eq, ByteArray.toList_eq, ByteArray.toList_eq] at hab
    have : (b == a) = true := by rw [beq_toListBytes, beq_iff_eq, ByteArray.toList_eq, ByteArray.toList_eq, hab]
    cases n <;> simpa [Instr.sameBits] using this
  · rename_i a b
    have hab : a = b := by simpa using h
    subst hab
    cases n <;> simp [Instr.sameBits]
  · cases h

theorem mapUpdA_sound {P : Program} {t : TypeId} {m key v : AV} {M : Mem} {K : Mem → Bool} (h : mapUpdA P t m key v M K = true) :
    ∃ M', K M' = true ∧ ∀ w0 R ρ w cm ck cv, MRel w0 R ρ M w → VRel ρ m cm → VRel ρ key ck → VRel ρ v cv → ∃ w', MRel w0 R ρ M' w' ∧ (Instr.mapUpdate t cm ck cv).run P w = .ok () w' := by
  unfold mapUpdA at h
  split at h
  · rename_i k e b hu
    rw [brec_false] at h
    obtain ⟨hpk, h⟩ := h
    obtain ⟨d, hd, hk⟩ := plainKey_spec hpk
    split at h
    · rename_i es hb
      obtain ⟨es', h, HU⟩ := updA_sound hd hk es _ h
      obtain ⟨t', h, ht⟩ := setB_sound h
      refine ⟨_, h, fun w0 R ρ w cm ck cv hM hm hkr hvr => ?_⟩
      cases hm with
      | map _ B x hr =>
        obtain ⟨ces, clock, ho, hes⟩ := hM.mapBlk hb hr
        have hBlt : B < w.heap.size := (Array.getElem?_eq_some_iff.1 ho).1
        have hset : ∀ o : Obj, ({ w with heap := w.heap.setIfInBounds B o } : World).heap[B]? = some o := fun o => by simp [hBlt]
        have hold : ∀ (o : Obj) k, k ≠ B → k < w.heap.size → ({ w with heap := w.heap.setIfInBounds B o } : World).heap[k]? = w.heap[k]? := fun o k hk _ => by
          simp [Array.getElem?_setIfInBounds_ne (Ne.symm hk)]
        rcases HU ρ ck cv ces.toList 0 clock hkr hvr hes with ⟨h1, h2⟩ | ⟨j, u, e2, h1, h2, h3, h4⟩
        · refine ⟨{ w with heap := w.heap.setIfInBounds B (.map (ces.push { key := ck, val := cv, born := clock }) (clock + 1)) }, ?_, ?_⟩
          · exact hM.set hb (by simp) hr (.map es') _ ht rfl rfl rfl (by simp) (hold _) (hset _) (by simpa [ORel] using h2)
          · simp [Instr.mapUpdate, run_und hu, run_getObjM ho, checkKey_plain hd hk, Instr.findKey, run_und hd, h1, run_setObjM _ ho]
        · have hj : j < ces.size := by have := (List.getElem?_eq_some_iff.1 h2).1; simpa using this
          have hjk : ces[j]? = some e2 := by simpa using h2
          let ne : MapEntry := { e2 with key := ck, val := cv }
          refine ⟨{ w with heap := w.heap.setIfInBounds B (.map (ces.modify j fun e => { e with key := ck, val := cv }) clock) }, ?_, ?_⟩
          · refine hM.set hb (by simp) hr (.map es') _ ht rfl rfl rfl (by simp) (hold _) (hset _) ?_
            have hl : (ces.modify j fun e => { e with key := ck, val := cv }).toList = ces.toList.set j ne := by
              apply List.ext_getElem?
              intro i
              simp only [Array.getElem?_toList, Array.getElem?_modify, List.getElem?_set]
              by_cases hij : j = i
              · subst hij
                have hje : ces[j] = e2 := by simpa [hj] using hjk
                simp [hj, ne, hje]
              · simp [hij]
            show EsRel ρ es' (ces.modify j fun e => { e with key := ck, val := cv }).toList
            rw [hl]
            exact h4 ne rfl rfl
          · have hfound : (Instr.findKey k ck ces.toList).run P w = .ok (some (j, u)) w := by simp [Instr.findKey, run_und hd, h1]
            have hkey : ((ces[j]?).map (·.key)).getD ck = e2.key := by simp [hjk]
            -- the key that stays is the new one: they are the same
            have hstay : (Instr.keyThatStays e2.key ck).run P w = .ok ck w := by
              have : Instr.sameBits 10000 e2.key ck = true := sameBits_turn h3 10000
              simp [Instr.keyThatStays, this]
            simp [Instr.mapUpdate, run_und hu, run_getObjM ho, checkKey_plain hd hk, hfound, hjk, hstay, run_setObjM _ ho]
    · exact absurd h (by simp)
  · exact absurd h (by simp)
end Go.Eng

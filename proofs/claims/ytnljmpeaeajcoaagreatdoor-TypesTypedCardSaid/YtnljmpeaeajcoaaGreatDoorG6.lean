/- A part of the proof over this seat's program: the checked evaluator and its soundness (E..), and what it gives here (the others). No condition. -/
import Derived.Test.YtnljmpeaeajcoaaGreatDoorG5
set_option linter.unusedSectionVars false
namespace Go.Eng
open Go
variable [Mode]

theorem natOf_iff {a : AV} {K : Nat → Bool} (h : natOf a K = true) : ∃ k n, a = .int k (Int.ofNat n) ∧ K n = true := by
  unfold natOf at h
  split at h
  · exact ⟨_, _, rfl, h⟩
  · exact absurd h (by simp)

/-- what a bound's operand may be -/
def BRel (ρ : Env) (fr : Fr) (vals : Operand → Value) (x : Option Operand) : Prop := ∀ y, x = some y → RelX ρ fr y (vals y)

theorem boundK_sound {P : Program} {fr : Fr} {x : Option Operand} {d y : Nat} {K : Nat → Bool} (h : boundK fr x d y K = true) :
    ∃ n, K n = true ∧ (x = none → n = d) ∧ (x ≠ none → n ≤ y) ∧ ∀ ρ vals, BRel ρ fr vals x → ∀ z, x = some z → ∀ y' code w, y ≤ y' → (Instr.sliceBound (vals z) y' code).run P w = .ok n w := by
  unfold boundK at h
  split at h
  · exact ⟨_, h, fun _ => rfl, fun e => absurd rfl e, fun ρ vals _ z e => by cases e⟩
  · rename_i x
    rw [ev_iff] at h
    obtain ⟨a, ha, h⟩ := h
    obtain ⟨k, n, rfl, h2⟩ := natOf_iff h
    rw [brec_false] at h2
    have hle := nble_le h2.1
    refine ⟨n, h2.2, (fun e => by cases e), fun _ => hle, fun ρ vals hr z e y' code w hy => ?_⟩
    cases e
    have hv := hr x rfl _ ha
    generalize vals x = v at hv ⊢
    cases hv
    have hc : (0 : Int) ≤ Int.ofNat n ∧ Int.ofNat n ≤ (y' : Int) := ⟨by simp, by simp; omega⟩
    simp only [Instr.sliceBound, asIntOf, Sem.run_bind, Sem.run_pure, Result.andThen_ok]
    rw [if_pos hc]
    rfl

theorem boundsK_sound {P : Program} {fr : Fr} {lo hi : Option Operand} {len cap : Nat} {K : Nat → Nat → Bool} (hlc : len ≤ cap) (h : boundsK fr lo hi len cap K = true) :
    ∃ l hh, K l hh = true ∧ l ≤ hh ∧ hh ≤ cap ∧
      ∀ ρ vals, BRel ρ fr vals lo → BRel ρ fr vals hi → ∀ (s : Bool) cap' w, cap ≤ cap' → (Instr.sliceBounds s len cap' (lo.map vals) (hi.map vals) none).run P w = .ok (l, hh, cap') w := by
  unfold boundsK at h
  obtain ⟨hh, h, h1, h2, Hh⟩ := boundK_sound (P := P) h
  obtain ⟨l, h, l1, l2, Hl⟩ := boundK_sound (P := P) h
  have hhm : hh ≤ cap := by
    cases hi with
    | none => rw [h1 rfl]; exact hlc
    | some x => exact h2 (by simp)
  have hlh : l ≤ hh := by
    cases lo with
    | none => rw [l1 rfl]; exact Nat.zero_le _
    | some x => exact l2 (by simp)
  refine ⟨l, hh, h, hlh, hhm, fun ρ vals rlo rhi s cap' w hcap => ?_⟩
  have Hh' := Hh ρ vals rhi
  have Hl' := Hl ρ vals rlo
  unfold Instr.sliceBounds
  cases hi with
  | none =>
    obtain rfl := h1 rfl
    cases lo with
    | none => obtain rfl := l1 rfl; simp
    | some x => simp [Hl' x rfl]
  | some y =>
    cases lo with
    | none => obtain rfl := l1 rfl; simp [Hh' y rfl cap' _ _ hcap]
    | some x => simp [Hl' x rfl, Hh' y rfl cap' _ _ hcap]

theorem addr_add (B o n : Nat) : (⟨B, o, none⟩ : Addr).add n = ⟨B, o + n, none⟩ := by
  unfold Addr.add; split
  · rename_i h; subst h; rfl
  · rfl

theorem sliceA_sound {P : Program} {fr : Fr} {t : TypeId} {a : AV} {lo hi : Option Operand} {K : AV → Bool} (h : sliceA P fr t a lo hi K = true) :
    ∃ v, K v = true ∧ ∀ ρ vals ca, VRel ρ a ca → BRel ρ fr vals lo → BRel ρ fr vals hi →
      ∃ cv, VRel ρ v cv ∧ ∀ w, (Instr.sliceAt t ca (lo.map vals) (hi.map vals) none).run P w = .ok cv w := by
  unfold sliceA at h
  split at h
  · -- a string
    rename_i n c hu
    by_cases he : ∃ s : List UInt8, n = s.length ∧ c = enc s
    · obtain ⟨s, rfl, rfl⟩ := he
      obtain ⟨l, hh, h, hlh, hhm, H⟩ := boundsK_sound (P := P) (Nat.le_refl _) h
      rw [fN_eq, fN_eq] at h
      have e1 : ((s.drop l).take (hh - l)).length = hh - l := by simp; omega
      have e2 : Nat.mod (Nat.div (enc s) (Nat.pow 256 l)) (Nat.pow 256 (Nat.sub hh l)) = enc ((s.drop l).take (hh - l)) := by
        show enc s / 256 ^ l % 256 ^ (hh - l) = _
        rw [enc_drop _ _ (by omega), enc_take _ _ (by simp; omega)]
      refine ⟨.str ((s.drop l).take (hh - l)).length (enc ((s.drop l).take (hh - l))), ?_, fun ρ vals ca ha r1 r2 => ?_⟩
      · rw [e1, ← e2]; exact h
      · generalize hl : s.length = l1 at ha
        generalize hc : enc s = c1 at ha
        cases ha with
        | str s' =>
          obtain rfl := enc_inj _ _ hl hc
          refine ⟨_, .str _, fun w => ?_⟩
          have hb := H ρ vals r1 r2 false s.length w (Nat.le_refl _)
          have hsz : (⟨⟨s⟩⟩ : ByteArray).size = s.length := rfl
          simp only [Instr.sliceAt, Sem.run_bind, run_und hu, Result.andThen_ok, Instr.slice, Option.isSome_none, Bool.false_eq_true, if_false, Sem.run_pure, hsz, hb]
          congr 2
          apply ByteArray.ext
          rw [ByteArray.data_extract]
          apply Array.ext'
          simp [List.extract_eq_take_drop]
    · have hK : ∃ v, K v = true := by
        obtain ⟨l, hh, h, _⟩ := boundsK_sound (P := P) (Nat.le_refl _) h
        rw [fN_eq, fN_eq] at h
        exact ⟨_, h⟩
      obtain ⟨v, hK⟩ := hK
      refine ⟨v, hK, fun ρ vals ca ha => ?_⟩
      exfalso
      cases ha with
      | str s => exact he ⟨s, rfl, rfl⟩
  · -- a nil slice
    rename_i e hu
    split at h
    · exact absurd h (by simp)
    · rename_i sz hsz
      obtain ⟨l, hh, h, hlh, hhm, H⟩ := boundsK_sound (P := P) (Nat.le_refl _) h
      refine ⟨_, h, fun ρ vals ca ha r1 r2 => ?_⟩
      cases ha
      refine ⟨_, .nilSlice, fun w => ?_⟩
      have hb := H ρ vals r1 r2 true 0 w (Nat.le_refl _)
      obtain rfl : hh = 0 := by omega
      obtain rfl : l = 0 := by omega
      simp [Instr.sliceAt, Instr.slice, run_und hu, hb, run_szOf hsz]
  · -- a slice
    rename_i e b o len cap op hu
    split at h
    · exact absurd h (by simp)
    · rename_i sz hsz
      rw [brec_false] at h
      obtain ⟨hlc, h⟩ := h
      obtain ⟨l, hh, h, hlh, hhm, H⟩ := boundsK_sound (P := P) (nble_le hlc) h
      rw [brec_tt] at h
      rcases h with ⟨hne, h⟩ | ⟨heq, h⟩
      · rw [fN_eq, fN_eq, fN_eq] at h
        refine ⟨_, h, fun ρ vals ca ha r1 r2 => ?_⟩
        cases ha with
        | slice _ _ _ _ _ B x c hb hc =>
          have hcl : cap ≠ l := fun e => by rw [e, Nat.beq_refl] at hne; exact absurd hne (by simp)
          have hbd := H ρ vals r1 r2 true c
          refine ⟨.slice (some ⟨B, o + l * sz, none⟩) (hh - l) (c - l), .slice _ _ _ _ _ B x _ hb ?_, fun w => ?_⟩
          · subst hc
            show cap + (if op then x else 0) - l = (cap - l) + (if op then x else 0)
            omega
          · have hbd := H ρ vals r1 r2 true c w (by omega)
            have : ¬ c = l := by omega
            simp [Instr.sliceAt, Instr.slice, run_und hu, hbd, run_szOf hsz, this, addr_add]
      · rw [brec_not] at h
        obtain ⟨hop, hK⟩ := h
        have hcl : cap = l := Nat.eq_of_beq_eq_true heq
        refine ⟨_, hK, fun ρ vals ca ha r1 r2 => ?_⟩
        cases ha with
        | slice _ _ _ _ _ B x c hb hc =>
          have hc' : c = cap := by simpa [hop] using hc
          refine ⟨.slice (some ⟨B, o, none⟩) 0 0, .slice _ _ _ _ _ B x _ hb (by simp), fun w => ?_⟩
          have hbd := H ρ vals r1 r2 true c w (by omega)
          have e1 : c = l := by omega
          have e2 : hh = l := by omega
          subst e1 e2
          simp [Instr.sliceAt, Instr.slice, run_und hu, hbd, run_szOf hsz]
  · -- data that stand still
    rename_i e n s el hu
    split at h
    · exact absurd h (by simp)
    · rename_i sz hsz
      rw [brec_false] at h
      obtain ⟨hss, h⟩ := h
      obtain rfl : sz = s := Nat.eq_of_beq_eq_true hss
      obtain ⟨l, hh, h, hlh, hhm, H⟩ := boundsK_sound (P := P) (Nat.le_refl _) h
      rw [fN_eq] at h
      refine ⟨_, h, fun ρ vals ca ha r1 r2 => ?_⟩
      cases ha with
      | dslice _ _ _ _ hd =>
        cases hd with
        | none _ _ =>
          refine ⟨.slice none 0 0, ?_, fun w => ?_⟩
          · obtain rfl : hh = 0 := by omega
            obtain rfl : l = 0 := by omega
            exact .dslice _ _ _ _ (.none _ _)
          · have hb := H ρ vals r1 r2 true 0 w (Nat.le_refl _)
            obtain rfl : hh = 0 := by omega
            obtain rfl : l = 0 := by omega
            simp [Instr.sliceAt, Instr.slice, run_und hu, hb, run_szOf hsz]
        | slice _ _ _ B o cap vl hz hc hl hd =>
          have hbd := fun w => H ρ vals r1 r2 true cap w hc
          by_cases hcl : cap = l
          · have e0 : Nat.sub hh l = 0 := by show hh - l = 0; omega
            refine ⟨.slice (some ⟨B, o, none⟩) 0 0, ?_, fun w => ?_⟩
            · rw [e0]
              exact .dslice _ _ _ _ (.slice 0 _ _ B o 0 vl hz (Nat.le_refl _) (by omega) (fun i hi => absurd hi (by omega)))
            · have e2 : hh = l := by omega
              subst hcl e2
              simp [Instr.sliceAt, Instr.slice, run_und hu, hbd w, run_szOf hsz]
          · have hm : (hh - l) * sz + l * sz ≤ n * sz := by rw [← Nat.add_mul]; exact Nat.mul_le_mul_right _ (by omega)
            refine ⟨.slice (some ⟨B, o + l * sz, none⟩) (hh - l) (cap - l), .dslice _ _ _ _ (.slice _ _ _ B (o + l * sz) (cap - l) vl hz (by show hh - l ≤ cap - l; omega) (by show o + l * sz + (hh - l) * sz ≤ _; omega) (fun i hi => ?_)), fun w => ?_⟩
            · change i < hh - l at hi
              have := hd (i + l) (by omega)
              rw [Nat.add_comm i l, Nat.add_mul, ← Nat.add_assoc] at this
              show DsRel _ (el (i + l)) _
              rw [Nat.add_comm i l]
              exact this
            · simp [Instr.sliceAt, Instr.slice, run_und hu, hbd w, run_szOf hsz, hcl, addr_add]
  · -- an array behind its address
    rename_i n e b o hu
    split at h
    · exact absurd h (by simp)
    · rename_i sz hsz
      obtain ⟨l, hh, h, hlh, hhm, H⟩ := boundsK_sound (P := P) (Nat.le_refl _) h
      rw [fN_eq, fN_eq, fN_eq] at h
      refine ⟨_, h, fun ρ vals ca ha r1 r2 => ?_⟩
      cases ha with
      | ptr _ _ B x hb =>
        have hbd := H ρ vals r1 r2 false n
        refine ⟨.slice (some ⟨B, if n = l then o else o + l * sz, none⟩) (hh - l) (n - l), ?_, fun w => ?_⟩
        · have : (Bool.rec (motive := fun _ => Nat) (Nat.add o (Nat.mul l sz)) o (Nat.beq n l)) = if n = l then o else o + l * sz := by
            by_cases e : n = l
            · rw [nbeq_eq e, if_pos e]
            · rw [nbeq_ne e, if_neg e]; rfl
          rw [this]
          exact .slice _ _ _ _ _ B x _ hb (by simp)
        · have hbd := H ρ vals r1 r2 false n w (Nat.le_refl _)
          simp only [Instr.sliceAt, Sem.run_bind, run_und hu, Result.andThen_ok, Instr.sureAddr, Sem.run_pure, hbd, run_szOf hsz]
          congr 3
          by_cases e : n = l
          · simp [e]
          · simp [e, addr_add]
  · exact absurd h (by simp)

theorem fieldAddrA_sound {P : Program} {s : TypeId} {a : AV} {f : Nat} {K : AV → Bool} (h : fieldAddrA P s a f K = true) :
    ∃ v, K v = true ∧ ∀ ρ ca, VRel ρ a ca → ∃ cv, VRel ρ v cv ∧ ∀ w, (Instr.fieldAt s ca f).run P w = .ok cv w := by
  unfold fieldAddrA at h
  split at h
  · rename_i fs b o hu
    split at h
    · rename_i fd hfd
      split at h
      · rename_i n hsz
        rw [fN_eq] at h
        refine ⟨_, h, fun ρ ca ha => ?_⟩
        cases ha with
        | ptr _ _ B x hb =>
          refine ⟨_, .ptr _ _ B x hb, fun w => ?_⟩
          simp [Instr.fieldAt, run_und hu, hfd, Instr.sureAddr, fieldPlace, run_szOf hsz, addr_add]
      · exact absurd h (by simp)
    · exact absurd h (by simp)
  · rename_i fs c o hu
    split at h
    · rename_i fd hfd
      split at h
      · rename_i n hsz
        rw [fN_eq] at h
        refine ⟨_, h, fun ρ ca ha => ?_⟩
        cases ha with
        | dptr _ _ B b l hz hl hd =>
          refine ⟨.pointer (some ⟨B, b + (o + fd.offset), none⟩), .dptr _ _ B b l hz hl hd, fun w => ?_⟩
          simp [Instr.fieldAt, run_und hu, hfd, Instr.sureAddr, fieldPlace, run_szOf hsz, addr_add, Nat.add_assoc]
      · exact absurd h (by simp)
    · exact absurd h (by simp)
  · exact absurd h (by simp)

theorem fieldA_sound {P : Program} {s : TypeId} {a : AV} {f : Nat} {K : AV → Bool} (h : fieldA P s a f K = true) :
    ∃ v, K v = true ∧ ∀ ρ ca, VRel ρ a ca → ∃ cv, VRel ρ v cv ∧ ∀ w, (Instr.field s ca f).run P w = .ok cv w := by
  unfold fieldA at h
  split at h
  · rename_i fs l hu
    split at h
    · rename_i fd hfd
      obtain ⟨v, hK, H⟩ := part_sound h
      refine ⟨v, hK, fun ρ ca ha => ?_⟩
      cases ha with
      | agg _ vs hs =>
        obtain ⟨cv, hr, H⟩ := H ρ vs hs
        exact ⟨cv, hr, fun w => by simp [Instr.field, run_und hu, hfd, asAgg, H w]⟩
    · exact absurd h (by simp)
  · exact absurd h (by simp)

theorem indexAddrA_sound {P : Program} {t : TypeId} {a ix : AV} {K : AV → Bool} (h : indexAddrA P t a ix K = true) :
    ∃ v, K v = true ∧ ∀ ρ ca ci, VRel ρ a ca → VRel ρ ix ci → ∃ cv, VRel ρ v cv ∧ ∀ w, (Instr.indexAt t ca ci).run P w = .ok cv w := by
  unfold indexAddrA at h
  replace h := natOf_iff h
  obtain ⟨k, i, rfl, h⟩ := h
  split at h
  · rename_i n e b o hu
    split at h
    · rename_i sz hsz
      rw [brec_false, fN_eq] at h
      obtain ⟨hlt, h⟩ := h
      have hlt : i < n := by simpa [Nat.blt_eq] using hlt
      refine ⟨_, h, fun ρ ca ci ha hi => ?_⟩
      cases hi
      cases ha with
      | ptr _ _ B x hb =>
        refine ⟨_, .ptr _ _ B x hb, fun w => ?_⟩
        have hc : (0 : Int) ≤ Int.ofNat i ∧ Int.ofNat i < (n : Int) := ⟨by simp, by simpa using hlt⟩
        simp only [Instr.indexAt, asIntOf, Sem.run_bind, Sem.run_pure, Result.andThen_ok, run_und hu, Instr.sureAddr]
        rw [if_pos hc]
        simp [run_szOf hsz, addr_add]
    · exact absurd h (by simp)
  · rename_i e b o len cap op hu
    split at h
    · rename_i sz hsz
      rw [brec_false, fN_eq] at h
      obtain ⟨hlt, h⟩ := h
      have hlt : i < len := by simpa [Nat.blt_eq] using hlt
      refine ⟨_, h, fun ρ ca ci ha hi => ?_⟩
      cases hi
      cases ha with
      | slice _ _ _ _ _ B x c hb hcap =>
        refine ⟨_, .ptr _ _ B x hb, fun w => ?_⟩
        have hc : (0 : Int) ≤ Int.ofNat i ∧ Int.ofNat i < (len : Int) := ⟨by simp, by simpa using hlt⟩
        simp only [Instr.indexAt, asIntOf, Sem.run_bind, Sem.run_pure, Result.andThen_ok, run_und hu]
        rw [if_pos hc]
        simp [run_szOf hsz, addr_add]
    · exact absurd h (by simp)
  · rename_i e n s el hu
    split at h
    · rename_i sz hsz
      rw [brec_false, brec_false] at h
      obtain ⟨hss, hlt, h⟩ := h
      obtain rfl : sz = s := Nat.eq_of_beq_eq_true hss
      have hlt : i < n := by simpa [Nat.blt_eq] using hlt
      refine ⟨_, h, fun ρ ca ci ha hi => ?_⟩
      cases hi
      cases ha with
      | dslice _ _ _ _ hd =>
        cases hd with
        | none _ _ => exact absurd hlt (by omega)
        | slice _ _ _ B o cap l hz hcap hl hd =>
          have hdi := hd i hlt
          have hm : (i + 1) * sz ≤ n * sz := Nat.mul_le_mul_right _ (by omega)
          rw [Nat.add_mul, Nat.one_mul] at hm
          have hle : (el i).length = sz := by rw [hdi.length, List.length_take, List.length_drop]; omega
          refine ⟨.pointer (some ⟨B, (o + i * sz) + 0, none⟩), .dptr _ _ B (o + i * sz) l hz (by omega) (by rw [hle]; exact hdi), fun w => ?_⟩
          have hc : (0 : Int) ≤ Int.ofNat i ∧ Int.ofNat i < (n : Int) := ⟨by simp, by simpa using hlt⟩
          simp only [Instr.indexAt, asIntOf, Sem.run_bind, Sem.run_pure, Result.andThen_ok, run_und hu]
          rw [if_pos hc]
          simp [run_szOf hsz, addr_add]
    · exact absurd h (by simp)
  · exact absurd h (by simp)

theorem indexA_sound {P : Program} {t : TypeId} {a ix : AV} {K : AV → Bool} (h : indexA P t a ix K = true) :
    ∃ v, K v = true ∧ ∀ ρ ca ci, VRel ρ a ca → VRel ρ ix ci → ∃ cv, VRel ρ v cv ∧ ∀ w, (Instr.index t ca ci).run P w = .ok cv w := by
  unfold indexA at h
  replace h := natOf_iff h
  obtain ⟨k, i, rfl, h⟩ := h
  split at h
  · rename_i n c hu
    rw [brec_false, fN_eq] at h
    obtain ⟨hlt, h⟩ := h
    have hlt : i < n := by simpa [Nat.blt_eq] using hlt
    refine ⟨_, h, fun ρ ca ci ha hi => ?_⟩
    cases hi
    cases ha with
    | str s =>
      refine ⟨_, .int _ _, fun w => ?_⟩
      have hc : (0 : Int) ≤ Int.ofNat i := by simp
      have hsz : i < (⟨⟨s⟩⟩ : ByteArray).size := hlt
      have hg : (⟨⟨s⟩⟩ : ByteArray)[(Int.ofNat i).toNat]? = some s[i] := by
        have : (Int.ofNat i).toNat = i := rfl
        rw [this, ByteArray.getElem?_lt' _ _ hsz]
        rfl
      have e : Nat.mod (Nat.div (enc s) (Nat.pow 256 i)) 256 = s[i].toNat := enc_get s i hlt
      simp only [Instr.index, asIntOf, Sem.run_bind, Sem.run_pure, Result.andThen_ok, run_und hu]
      rw [if_pos hc, hg, e]
      rfl
  · rename_i n e l hu
    split at h
    · rename_i sz hsz
      rw [brec_false] at h
      obtain ⟨hlt, h⟩ := h
      have hlt : i < n := by simpa [Nat.blt_eq] using hlt
      obtain ⟨v, hK, H⟩ := part_sound h
      refine ⟨v, hK, fun ρ ca ci ha hi => ?_⟩
      cases hi
      cases ha with
      | agg _ vs hs =>
        obtain ⟨cv, hr, H⟩ := H ρ vs hs
        refine ⟨cv, hr, fun w => ?_⟩
        have hc : (0 : Int) ≤ Int.ofNat i ∧ Int.ofNat i < (n : Int) := ⟨by simp, by simpa using hlt⟩
        simp only [Instr.index, asIntOf, Sem.run_bind, Sem.run_pure, Result.andThen_ok, run_und hu]
        rw [if_pos hc]
        simp only [Sem.run_bind, run_szOf hsz, Result.andThen_ok]
        exact H w
    · exact absurd h (by simp)
  · exact absurd h (by simp)

theorem lenPure_sound {P : Program} {ts : Array TypeId} {t : TypeId} {a : AV} {K : AV → Bool} (ht : ts[0]? = some t) (ty : TypeId) (h : lenPure P t a K = true) :
    ∃ v, K v = true ∧ ∀ ρ ca (rest : Array Value), VRel ρ a ca → (rest[0]? = some ca) → ∃ cv, VRel ρ v cv ∧ ∀ w, (Builtin.len_ ts ty rest).run P w = .ok cv w := by
  unfold lenPure at h
  split at h
  all_goals first | (exact Bool.noConfusion h) | skip
  · rename_i n c hu
    refine ⟨_, h, fun ρ ca rest ha hr => ?_⟩
    cases ha
    exact ⟨_, .int _ _, fun w => by simp [Builtin.len_, ht, hr, run_und hu, goInt]; rfl⟩
  · rename_i e hu
    refine ⟨_, h, fun ρ ca rest ha hr => ?_⟩
    cases ha
    exact ⟨_, .int _ _, fun w => by simp [Builtin.len_, ht, hr, run_und hu, goInt]⟩
  · rename_i e b o n cap op hu
    refine ⟨_, h, fun ρ ca rest ha hr => ?_⟩
    cases ha
    exact ⟨_, .int _ _, fun w => by simp [Builtin.len_, ht, hr, run_und hu, goInt]⟩
  · rename_i e n sz el hu
    refine ⟨_, h, fun ρ ca rest ha hr => ?_⟩
    cases ha with
    | dslice _ _ _ _ hd =>
      cases hd with
      | none _ _ => exact ⟨_, .int _ _, fun w => by simp [Builtin.len_, ht, hr, run_und hu, goInt]⟩
      | slice _ _ _ B o cap l hz hcap hl hd => exact ⟨_, .int _ _, fun w => by simp [Builtin.len_, ht, hr, run_und hu, goInt]⟩
  · rename_i n e hu
    refine ⟨_, h, fun ρ ca rest ha hr => ?_⟩
    exact ⟨_, .int _ _, fun w => by simp [Builtin.len_, ht, hr, run_und hu, goInt]⟩
  · rename_i k e hu
    refine ⟨_, h, fun ρ ca rest ha hr => ?_⟩
    cases ha
    exact ⟨_, .int _ _, fun w => by simp [Builtin.len_, ht, hr, run_und hu, goInt]⟩

theorem min_sound {P : Program} (mx : Bool) : ∀ (l : List AV) (a : AV) (K : AV → Bool), minA mx l a K = true →
    ∃ v, K v = true ∧ ∀ ρ ca cl, VRel ρ a ca → VsRel ρ l cl → ∃ cv, VRel ρ v cv ∧ ∀ w, (cl.foldlM (if mx then Builtin.max2 else Builtin.min2) ca : Sem Value).run P w = .ok cv w := by
  intro l
  induction l with
  | nil =>
    intro a K h
    refine ⟨a, h, fun ρ ca cl ha hl => ?_⟩
    cases hl
    exact ⟨ca, ha, fun w => by simp⟩
  | cons y l ih =>
    intro a K h
    change (minStep mx a y fun r => minA mx l r K) = true at h
    have hfin : ∃ k x k' y', a = .int k x ∧ y = .int k' y' ∧ minA mx l (.int k (Bool.rec (motive := fun _ => Int) x y' (Bool.rec (motive := fun _ => Bool) (ilt y' x) (ilt x y') mx))) K = true := by
      unfold minStep at h
      split at h
      · rename_i k x k' y
        rw [fN_eq] at h
        refine ⟨k, .ofNat x, k', .ofNat y, rfl, rfl, ?_⟩
        have e : (Int.ofNat (Bool.rec (motive := fun _ => Nat) x y (Bool.rec (motive := fun _ => Bool) (Nat.blt y x) (Nat.blt x y) mx))) = Bool.rec (motive := fun _ => Int) (Int.ofNat x) (Int.ofNat y) (Bool.rec (motive := fun _ => Bool) (ilt (.ofNat y) (.ofNat x)) (ilt (.ofNat x) (.ofNat y)) mx) := by
          show _ = Bool.rec (motive := fun _ => Int) (Int.ofNat x) (Int.ofNat y) (Bool.rec (motive := fun _ => Bool) (Nat.blt y x) (Nat.blt x y) mx)
          cases (Bool.rec (motive := fun _ => Bool) (Nat.blt y x) (Nat.blt x y) mx : Bool) <;> rfl
        rwa [e] at h
      · rename_i k x k' y _
        exact ⟨k, x, k', y, rfl, rfl, h⟩
      · exact absurd h (by simp)
    clear h
    obtain ⟨k, x, k', y, rfl, rfl, h⟩ := hfin
    · obtain ⟨v, hK, H⟩ := ih _ _ h
      refine ⟨v, hK, fun ρ ca cl ha hl => ?_⟩
      cases ha
      cases hl with
      | cons _ _ _ cl hy hl =>
        cases hy
        obtain ⟨cv, hr, H⟩ := H ρ _ cl (.int _ _) hl
        refine ⟨cv, hr, fun w => ?_⟩
        rw [List.foldlM_cons]
        simp only [Sem.run_bind]
        cases mx with
        | false =>
          have e : (Builtin.min2 (.int k x) (.int k' y)).run P w = .ok (.int k (Bool.rec (motive := fun _ => Int) x y (ilt y x))) w := by
            simp only [Builtin.min2, Sem.run_pure]
            rw [ilt_iff]
            by_cases hc : y < x <;> simp [hc]
          simp only [Bool.false_eq_true, if_false] at H ⊢
          rw [e]; exact H w
        | true =>
          have e : (Builtin.max2 (.int k x) (.int k' y)).run P w = .ok (.int k (Bool.rec (motive := fun _ => Int) x y (ilt x y))) w := by
            simp only [Builtin.max2, Sem.run_pure]
            rw [ilt_iff]
            by_cases hc : x < y
            · simp [hc]
            · simp [hc]
          simp only [if_true] at H ⊢
          rw [e]; exact H w
end Go.Eng

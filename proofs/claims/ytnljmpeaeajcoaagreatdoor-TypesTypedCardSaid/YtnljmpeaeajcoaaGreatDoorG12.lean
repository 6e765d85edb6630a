/- A part of the proof over this seat's program: the checked evaluator and its soundness (E..), and what it gives here (the others). No condition. -/
import Derived.Test.YtnljmpeaeajcoaaGreatDoorG11
import Derived.Laws.BytesString
set_option linter.unusedSectionVars false
namespace Go.Eng
open Go
variable [Mode]

theorem copyA_sound {P : Program} {e : TypeId} {d x : AV} {M : Mem} {K : AV → Mem → Bool} (h : copyA P e d x M K = true) :
    ∃ v M', K v M' = true ∧ ∀ w0 R ρ w cd cx, MRel w0 R ρ M w → VRel ρ d cd → VRel ρ x cx → ∃ cv w', VRel ρ v cv ∧ MRel w0 R ρ M' w' ∧
      ∀ (ts : Array TypeId) (t1 ty : TypeId), ts[0]? = some t1 → P.underlying t1 = some (.slice e) → (Builtin.copy_ ts ty #[cd, cx]).run P w = .ok cv w' := by
  unfold copyA at h
  split at h
  · rename_i sz b o dl cap op hsz
    split at h
    · refine ⟨_, _, h, fun w0 R ρ w cd cx hM hd hx => ?_⟩
      cases hx
      cases hd with
      | slice _ _ _ _ _ B y c hr hc =>
        exact ⟨_, w, .int _ _, hM, fun ts t1 ty h1 h2 => by simp [Builtin.copy_, h1, run_und h2, Builtin.lenOf, run_szOf hsz, Builtin.firstCells, Go.storeCells, goInt]⟩
    · rename_i b' o' n cap' op'
      rw [fN_eq] at h
      obtain ⟨l, c, op2, sz2, h, hb, hl, hlen, hle, H⟩ := rowOf_sound (P := P) h
      obtain ⟨M', h, H2⟩ := storeCells_sound (P := P) h
      refine ⟨_, _, h, fun w0 R ρ w cd cx hM hd hx => ?_⟩
      cases hx with
      | slice _ _ _ _ _ B' y' c' hr' hc' =>
        cases hd with
        | slice _ _ _ _ _ B y c hr hc =>
          obtain ⟨vs, hv, hrun⟩ := H w0 R ρ w B' y' hM hr'
          obtain ⟨w', hM', hst⟩ := H2 w0 R ρ w B y vs hM hr hv
          have hmin : (Bool.rec (motive := fun _ => Nat) dl n (Nat.ble n dl)) = Nat.min n dl := by
            by_cases hnd : n ≤ dl
            · rw [nble_t hnd]; exact (Nat.min_eq_left hnd).symm
            · rw [nble_f hnd]; exact (Nat.min_eq_right (Nat.le_of_lt (Nat.lt_of_not_le hnd))).symm
          refine ⟨_, w', .int _ _, hM', fun ts t1 ty h1 h2 => ?_⟩
          rw [hmin] at hrun ⊢
          have hrun' : (loadCells ⟨B', o', none⟩ (Nat.min n dl * sz)).run P w = .ok vs.toArray w := hrun
          simp [Builtin.copy_, h1, run_und h2, Builtin.lenOf, run_szOf hsz, Builtin.firstCells, hrun', hst, goInt]
    · exact absurd h (by simp)
  · exact absurd h (by simp)

/-! bytes as a string -/
theorem bytesK_sound : ∀ (l : List AV) (K : Nat → Bool), bytesK l K = true →
    ∃ bs : List UInt8, K (enc bs) = true ∧ bs.length = l.length ∧ ∀ ρ vs, VsRel ρ l vs → vs = bs.map fun b => Value.int .u8 (b.toNat : Int) := by
  intro l
  induction l with
  | nil =>
    intro K h
    refine ⟨[], h, rfl, fun ρ vs hv => ?_⟩
    cases hv; rfl
  | cons a l ih =>
    intro K h
    change byteStep a (bytesK l) K = true at h
    unfold byteStep at h
    split at h
    · rename_i b
      rw [brec_false] at h
      obtain ⟨hb, h⟩ := h
      have hb : b < 256 := by simpa [Nat.blt_eq] using hb
      obtain ⟨bs, h, hl, H⟩ := ih _ h
      rw [fN_eq] at h
      have hto : (UInt8.ofNat b).toNat = b := by simp [Nat.mod_eq_of_lt hb]
      refine ⟨UInt8.ofNat b :: bs, ?_, by simp [hl], fun ρ vs hv => ?_⟩
      · rw [enc_cons, hto]; exact h
      · cases hv with
        | cons _ v _ vs hv hs =>
          cases hv
          rw [H ρ vs hs, List.map_cons, hto]
          rfl
    · exact absurd h (by simp)

theorem foldl_push (l : List UInt8) : ∀ s : ByteArray, (l.map fun b => (b.toNat : Int)).foldl (fun r n => r.push (UInt8.ofNat n.toNat)) s = ⟨⟨s.data.toList ++ l⟩⟩ := by
  induction l with
  | nil => intro s; apply ByteArray.ext; simp
  | cons b l ih =>
    intro s
    rw [List.map_cons, List.foldl_cons, ih]
    have hb : UInt8.ofNat (b.toNat : Int).toNat = b := by simp
    rw [hb]
    apply ByteArray.ext
    simp [ByteArray.push]

theorem convMem_sound {P : Program} {src dst : TypeId} {x : AV} {M : Mem} {K : AV → Mem → Bool} (h : convMem P src dst x M K = true) :
    ∃ v, K v M = true ∧ ∀ w0 R ρ w cx, MRel w0 R ρ M w → VRel ρ x cx → ∃ cv, VRel ρ v cv ∧ (convert src dst cx).run P w = .ok cv w := by
  unfold convMem at h
  split at h
  · rename_i e hs hd
    split at h
    · rename_i he
      split at h
      · refine ⟨_, h, fun w0 R ρ w cx hM hx => ?_⟩
        cases hx
        refine ⟨_, .str [], ?_⟩
        rw [run_convert_bytes_string w src dst e none 0 0 hs he hd]
        simp [Conv.bytesToString]
        rfl
      · rename_i b o n cap op
        obtain ⟨l, c, op', sz', h, hb, hl, hlen, hle, H⟩ := rowOf_sound (P := P) h
        obtain ⟨bs, hK, hbl, HB⟩ := bytesK_sound l _ h
        have hn : n = bs.length := by omega
        refine ⟨_, hK, fun w0 R ρ w cx hM hx => ?_⟩
        cases hx with
        | slice _ _ _ _ _ B y c' hr hc =>
          obtain ⟨vs, hv, hrun⟩ := H w0 R ρ w B y hM hr
          have hvs := HB ρ vs hv
          refine ⟨.string ⟨⟨bs⟩⟩, ?_, ?_⟩
          · rw [hn]; exact .str bs
          · rw [run_convert_bytes_string w src dst e (some ⟨B, o, none⟩) n c' hs he hd]
            have hrun' : (loadCells ⟨B, o, none⟩ n).run P w = .ok ((bs.map fun b => (b.toNat : Int)).map (Value.int .u8)).toArray w := by
              rw [hrun, hvs, List.map_map]
              rfl
            rw [run_bytesToString w _ n c' _ hrun', foldl_push]
            rfl
      · exact absurd h (by simp)
    · exact absurd h (by simp)
  · exact absurd h (by simp)

/-! ranging over a string -/
theorem MRel.iterBlk {w0 : World} {R : Nat → Prop} {ρ : Env} {M : Mem} {w : World} (h : MRel w0 R ρ M w) {b l c p B x : Nat} (hb : M.t.get b = some (.siter l c p)) (hr : ρ b = some (B, x)) :
    ∃ s, w.heap[B]? = some (.stringIter s p) ∧ l = s.data.toList.length ∧ c = enc s.data.toList := by
  obtain ⟨B', x', o, hr', _, ho, hO⟩ := h.blk b _ hb (by simp)
  rw [hr] at hr'
  obtain ⟨rfl, rfl⟩ := Prod.mk.inj (Option.some.inj hr')
  unfold ORel at hO
  cases o <;> simp only at hO
  case stringIter s q =>
    obtain ⟨h1, h2, rfl⟩ := hO
    exact ⟨s, ho, h1, h2⟩

theorem nextA_sound {P : Program} {b : Nat} {M : Mem} {K : AV → Mem → Bool} (h : nextA b M K = true) :
    ∃ v M', K v M' = true ∧ ∀ w0 R ρ w B x ty, MRel w0 R ρ M w → ρ b = some (B, x) → ∃ cv w', VRel ρ v cv ∧ MRel w0 R ρ M' w' ∧ (Instr.next (.pointer (some ⟨B, 0, none⟩)) true ty).run P w = .ok cv w' := by
  unfold nextA at h
  split at h
  · rename_i l c p hb
    rw [brec_tt] at h
    rcases h with ⟨hlt, h⟩ | ⟨hlt, h⟩
    · refine ⟨_, _, h, fun w0 R ρ w B x ty hM hr => ?_⟩
      obtain ⟨s, ho, hl, hc⟩ := hM.iterBlk hb hr
      refine ⟨.tuple #[.bool false], w, .tuple _ _ (.cons _ _ _ _ (.bool _) .nil), hM, ?_⟩
      have : ¬ p < s.size := by
        intro hp
        have : Nat.blt p l = true := by rw [Nat.blt_eq, hl]; exact hp
        rw [this] at hlt; exact absurd hlt (by simp)
      simp [Instr.next, getObj, Sem.run, ho, this]
    · rw [fN_eq, brec_false] at h
      obtain ⟨hasc, h⟩ := h
      rw [fN_eq] at h
      obtain ⟨t', h, ht⟩ := setB_sound h
      refine ⟨_, _, h, fun w0 R ρ w B x ty hM hr => ?_⟩
      obtain ⟨s, ho, hl, hc⟩ := hM.iterBlk hb hr
      have hp : p < s.data.toList.length := by rw [← hl]; simpa [Nat.blt_eq] using hlt
      have hps : p < s.size := hp
      have hbyte : Nat.mod (Nat.div c (Nat.pow 256 p)) 256 = (s[p]'hps).toNat := by
        rw [hc]
        exact enc_get s.data.toList p hp
      rw [hbyte] at hasc ⊢
      have ha : (s[p]'hps).toNat < 128 := by simpa [Nat.blt_eq] using hasc
      have hBlt : B < w.heap.size := (Array.getElem?_eq_some_iff.1 ho).1
      refine ⟨.tuple #[.bool true, .int .i64 p, .int .i32 (s[p]'hps).toNat], { w with heap := w.heap.setIfInBounds B (.stringIter s (p + 1)) }, .tuple _ _ (.cons _ _ _ _ (.bool _) (.cons _ _ _ _ (.int _ _) (.cons _ _ _ _ (.int _ _) .nil))), ?_, ?_⟩
      · exact hM.set hb (by simp) hr (.siter l c (p + 1)) (.stringIter s (p + 1)) ht rfl rfl rfl (by simp) (fun k hk _ => by simp [Array.getElem?_setIfInBounds_ne (Ne.symm hk)]) (by simp [hBlt]) ⟨hl, hc, rfl⟩
      · simp [Instr.next, getObj, setObj, Sem.run, ho, hps, decode_ascii s p hps ha, goInt]
  · exact absurd h (by simp)
end Go.Eng
